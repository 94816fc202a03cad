/- The second reading's table for this seat: the functions that are known by the library's contracts. -/
import Derived.Test.YtlligemlmccfnaaGreatDoorR5
import Derived.Test.YtlligemlmccfnaaGreatDoorRIx
import Derived.Test.YtlligemlmccfnaaGreatDoorRN
import Derived.Laws.MathBits
import Derived.Lib.BitFns
import Derived.Shelf.Spec.TrailingZeros
import Derived.Lib.TrailingZeros
set_option linter.unusedSimpArgs false
set_option linter.unusedVariables false
set_option maxHeartbeats 8000000
set_option maxRecDepth 100000
namespace Go.RR.M
open Go Go.RR
def S (f:Nat) (a:List V):Option V:=
 if f=n_slices_Clone_sint_int then s_clone 1 8 a
 else if f=n_math_bits_TrailingZeros64 then (match a with
  | [.int .u64 x]=>if 0≤x∧x<18446744073709551616 then some (.int .i64 (Go.Lib.ctz 64 x.toNat)) else none
  | _=>none)
 else if f=n_math_bits_Len64 then (match a with
  | [.int .u64 x]=>if 0≤x∧x<18446744073709551616 then some (.int .i64 (Go.Lib.bitLen x.toNat)) else none
  | _=>none)
 else none
def HB (f:Nat) (a:List V) (h:List Ob):Option (Out×List Ob):=
 if f=n_slices_Sort_sint_int then sortH a h
 else none
def C0:Cx:=⟨T,S,HB⟩
def TN1 (f:Nat):Option FN:=
 if f=n_trail_Trail_uint64_Changed then some F_trail_Trail_uint64_Changed
 else none
noncomputable def C:Cx:=⟨T,S,HN C0 TN1⟩
theorem CT {f:Nat} {F:F} (h:T f=some F):C.T f=some F:=h
end Go.RR.M
namespace Go.RR
def relB (r a b:Int):Bool:=if r=0 then decide (a=b) else if r=1 then !decide (a=b) else if r=2 then decide (a<b) else if r=3 then decide (a≤b) else if r=4 then decide (b<a) else if r=5 then decide (b≤a) else false
def dotI:List Int→List Int→Int
 | a::r,b::s=>a*b+dotI r s
 | _,_=>0
def smallI (n:Int):Prop:=-1048576≤n∧n≤1048576
theorem mul_small {a b:Int} (ha:smallI a) (hb:smallI b):-1099511627776≤a*b∧a*b≤1099511627776:=by
 obtain ⟨a1,a2⟩:=ha
 obtain ⟨b1,b2⟩:=hb
 constructor
 ·rcases Int.le_total 0 a with h|h
  ·have h1:a*(-1048576)≤a*b:=Int.mul_le_mul_of_nonneg_left b1 h
   omega
  ·have h1:a*1048576≤a*b:=Int.mul_le_mul_of_nonpos_left h b2
   omega
 ·rcases Int.le_total 0 a with h|h
  ·have h1:a*b≤a*1048576:=Int.mul_le_mul_of_nonneg_left b2 h
   omega
  ·have h1:a*b≤a*(-1048576):=Int.mul_le_mul_of_nonpos_left h b1
   omega
end Go.RR
namespace Go.RR.M
open Go Go.RR
theorem sums_Holds (a r b:Int) (h:List Ob):acw C n_sums_Holds [iv a,iv r,iv b] h=some (.ret (.bool (relB r a b)),h):=by
 refine acw_ex (v:=.bool (relB r a b)) (CT T_sums_Holds) rfl rfl (fun _=>rfl) (by simp) ?_
 unfold relB
 by_cases c0:r=0
 ·subst c0;simp [runW_fin,F_sums_Holds,i_sums_Holds,ieq]
 by_cases c1:r=1
 ·subst c1;simp [runW_fin,F_sums_Holds,i_sums_Holds,ine]
 by_cases c2:r=2
 ·subst c2;simp [runW_fin,F_sums_Holds,i_sums_Holds]
 by_cases c3:r=3
 ·subst c3;simp [runW_fin,F_sums_Holds,i_sums_Holds]
 by_cases c4:r=4
 ·subst c4;simp [runW_fin,F_sums_Holds,i_sums_Holds]
 by_cases c5:r=5
 ·subst c5;simp [runW_fin,F_sums_Holds,i_sums_Holds]
 simp [runW_fin,F_sums_Holds,i_sums_Holds,c0,c1,c2,c3,c4,c5,ieq]
end Go.RR.M
namespace Go.RR
def withinB (most:Int) (l:List Int):Bool:=l.all fun n=>decide (-most≤n)&&decide (n≤most)
theorem within_any (most:Int) (l:List Int):(!(l.any fun n=>decide (n < -most)||decide (most<n)))=withinB most l:=by
 unfold withinB
 induction l with
 | nil=>rfl
 | cons x r ih=>
  simp only [List.any_cons,List.all_cons,Bool.not_or,ih]
  congr 1
  by_cases h1:x < -most<;>by_cases h2:most<x<;>simp [h1,h2]<;>omega
def vOK (vars:Int):List Int→List Int→Bool
 | _,[]=>true
 | pre,v::r=>decide (0≤v)&&decide (v<vars)&&!(pre.any fun x=>v==x)&&vOK vars (pre++[v]) r
end Go.RR
namespace Go.RR.M
open Go Go.RR
theorem contains_int (l:List Int) (x:Int) (hl:l.length≤4611686018427387904) (h:List Ob):acw C n_slices_Contains_sint_int [intsV l,iv x] h=some (.ret (.bool (l.any fun y=>x==y)),h):=
 contains (C:=C) (n:=n_slices_Index_sint_int) (CT T_slices_Index_sint_int) (CT T_slices_Contains_sint_int) (enc:=V.int .i64) (q:=fun a b=>a==b) cmp_int l x hl (fun _ _=>elt_int) Fz.int h
theorem within_1 (n most:Int) (h0:0≤most) (h1:most≤9223372036854775807) (h:List Ob):acw C n_model_within_1 [iv n,.pin (iv most) 0] h=some (.ret (.bool (decide (n < -most)||decide (most<n))),h):=by
 refine acw_pure (h':=[]) (v:=.bool (decide (n < -most)||decide (most<n))) (CT T_model_within_1) rfl rfl ?_ rfl (by simp)
 have w1:IntKind.i64.wrap (0-most)=-most:=by rw [wrap64 (by omega) (by omega)];omega
 have w2:IntKind.i64.wrap (-most)=-most:=wrap64 (by omega) (by omega)
 by_cases c1:n < -most<;>simp [runW_fin,F_model_within_1,i_model_within_1,w1,w2,c1]
theorem within (l:List Int) (most:Int) (h0:0≤most) (h1:most≤9223372036854775807) (hl:l.length≤4611686018427387904) (h:List Ob):acw C n_model_within [intsV l,iv most] h=some (.ret (.bool (withinB most l)),h):=by
 refine acw_pure (h':=[.row 1 [iv most]]) (v:=.bool (withinB most l)) (CT T_model_within) rfl rfl ?_ rfl (by simp)
 have c1:=containsFunc (C:=C) (m:=n_slices_ContainsFunc_sint_int) (n:=n_slices_IndexFunc_sint_int) (enc:=V.int .i64) (CT T_slices_IndexFunc_sint_int) (CT T_slices_ContainsFunc_sint_int) (g:=n_model_within_1) (first:=[]) (cap:=[.pin (iv most) 0]) l hl (fun _ _=>elt_int) (f':=.fn (.func n_model_within_1) [] [.ptr 0 0 0 1]) (h:=[.row 1 [iv most]]) rfl (fun _=>rfl) (p:=fun n=>decide (n < -most)||decide (most<n)) (fun a _=>within_1 a most h0 h1 [])
 rw [←within_any]
 simp [runW_fin,F_model_within,i_model_within,c1]
theorem ref08_all_loop (l:List Int) (most:Int) (h0:0≤most) (h1:most≤9223372036854775807) (hl:l.length≤4611686018427387904) :
  evw C y0 i_ref08_all_l0 [(0,intsV l),(1,iv most),(5,iv 0)] []=some (if withinB most l=true then (.ext 0,[(0,intsV l),(1,iv most),(5,iv l.length),(9,.bool false)],[]) else (.ret,[(4,.bool false)],[])):=by
 have w1:IntKind.i64.wrap (0-most)=-most:=by rw [wrap64 (by omega) (by omega)];omega
 have w2:IntKind.i64.wrap (-most)=-most:=wrap64 (by omega) (by omega)
 refine loop_all (C:=C) (b:=b_ref08_all_0) l (fun i=>[(0,intsV l),(1,iv most),(5,iv i)]) [] (fun n=>decide (-most≤n)&&decide (n≤most)) _ _ ?_ (by simp) (by simp) fun i hi=>?_
 ·simp [b_ref08_all_0]
 ·have hw:=wrap_succ hi (by omega)
  by_cases c1:l[i] < -most
  ·have c1':¬(-most≤l[i]):=by omega
   simp [b_ref08_all_0,hi,w1,w2,hw,c1,c1']
  ·have c1':-most≤l[i]:=by omega
   by_cases c2:most<l[i]
   ·have c2':¬(l[i]≤most):=by omega
    simp [b_ref08_all_0,hi,w1,w2,hw,c1,c1',c2,c2']
   ·have c2':l[i]≤most:=by omega
    simp [b_ref08_all_0,hi,w1,w2,hw,c1,c1',c2,c2']
theorem ref08_all (l:List Int) (most:Int) (h0:0≤most) (h1:most≤9223372036854775807) (hl:l.length≤4611686018427387904) (h:List Ob):acw C n_ref08_all [intsV l,iv most] h=some (.ret (.bool (withinB most l)),h):=by
 refine acw_pure (h':=[]) (v:=.bool (withinB most l)) (CT T_ref08_all) rfl rfl ?_ rfl (by simp)
 have hloop:=ref08_all_loop l most h0 h1 hl
 rcases Bool.eq_false_or_eq_true (withinB most l) with hb|hb
 ·simp only [hb,if_true] at hloop
  simp [runW_fin,F_ref08_all,i_ref08_all,hb,hloop]
 ·simp only [hb,Bool.false_eq_true,if_false] at hloop
  simp [runW_fin,F_ref08_all,i_ref08_all,hb,hloop]
abbrev lookV (c:Con) (vars:Int):V:=.agg [iv c.kind,intsV c.vars,intsV c.coefs,iv c.rel,iv c.const,intsV c.nums,iv vars]
theorem variables_loop (c:Con) (vars:Int) (hl:c.vars.length≤4611686018427387904):∀ (d i:Nat),i+d=c.vars.length →
  evw C y0 i_model_looker_variables_l0 [(3,.ptr 0 0 0 1),(24,intsV c.vars),(25,iv c.vars.length),(26,iv i)] [.row 7 [lookV c vars]] =
   some (if vOK vars (c.vars.take i) (c.vars.drop i)=true then (.ext 0,[(3,.ptr 0 0 0 1),(24,intsV c.vars),(25,iv c.vars.length),(26,iv c.vars.length),(27,.bool false)],[.row 7 [lookV c vars]]) else (.ret,[(6,.bool false)],[.row 7 [lookV c vars]])):=by
 intro d
 induction d with
 | zero=>
  intro i hi
  have:i=c.vars.length:=by omega
  subst this
  rw [r_model_looker_variables_0,List.drop_length]
  simp [b_model_looker_variables_0,vOK]
 | succ d ih=>
  intro i hi
  have hlt:i<c.vars.length:=by omega
  have hw:=wrap_succ hlt (by omega)
  have ih:=ih (i+1) (by omega)
  have hc:=contains_int (c.vars.take i) c.vars[i] (by rw [List.length_take];omega)
  simp only [Int.natCast_add,Int.cast_ofNat_Int,List.take_succ_eq_append_getElem hlt] at ih
  simp only [intsV,List.map_take] at hc
  rw [r_model_looker_variables_0,List.drop_eq_getElem_cons hlt]
  simp only [vOK]
  by_cases c1:c.vars[i]<0
  ·have c1':¬(0≤c.vars[i]):=by omega
   simp [b_model_looker_variables_0,hlt,c1,c1']
  have c1':0≤c.vars[i]:=by omega
  by_cases c2:vars≤c.vars[i]
  ·have c2':¬(c.vars[i]<vars):=by omega
   simp [b_model_looker_variables_0,hlt,c1,c1',c2,c2']
  have c2':c.vars[i]<vars:=by omega
  have hle:i≤c.vars.length:=by omega
  rcases Bool.eq_false_or_eq_true ((c.vars.take i).any fun x=>c.vars[i]==x) with hb|hb
  ·rw [hb] at hc
   simp only [hb]
   simp [b_model_looker_variables_0,hlt,c1,c1',c2,c2',hc,hle]
  ·rw [hb] at hc
   simp only [hb,c1',c2',decide_true,Bool.true_and,Bool.not_false,←ih]
   simp [b_model_looker_variables_0,hlt,c1,c1',c2,c2',hc,hle,hw]
def varsB (c:Con) (vars least most:Int):Bool:=decide (least≤c.vars.length)&&decide (c.vars.length≤most)&&vOK vars [] c.vars
theorem variables (c:Con) (vars least most:Int) (hl:c.vars.length≤4611686018427387904) (h:List Ob):acw C n_model_looker_variables [lookV c vars,iv least,iv most] h=some (.ret (.bool (varsB c vars least most)),h):=by
 refine acw_pure (h':=[.row 7 [lookV c vars]]) (v:=.bool (varsB c vars least most)) (CT T_model_looker_variables) rfl rfl ?_ rfl (by simp)
 have hloop:=variables_loop c vars hl c.vars.length 0 (by omega)
 simp only [List.drop_zero,List.take_zero,Int.cast_ofNat_Int] at hloop
 unfold varsB
 by_cases c1:(c.vars.length:Int)<least
 ·have c1':¬(least≤c.vars.length):=by omega
  simp [runW_fin,F_model_looker_variables,i_model_looker_variables,c1,c1']
 have c1':least≤c.vars.length:=by omega
 by_cases c2:most<(c.vars.length:Int)
 ·have c2':¬((c.vars.length:Int)≤most):=by omega
  simp [runW_fin,F_model_looker_variables,i_model_looker_variables,c1,c1',c2,c2']
 have c2':(c.vars.length:Int)≤most:=by omega
 rcases Bool.eq_false_or_eq_true (vOK vars [] c.vars) with hb|hb
 ·simp only [hb,if_true] at hloop
  simp [runW_fin,F_model_looker_variables,i_model_looker_variables,c1,c1',c2,c2',hloop,hb]
 ·simp only [hb,Bool.false_eq_true,if_false] at hloop
  simp [runW_fin,F_model_looker_variables,i_model_looker_variables,c1,c1',c2,c2',hloop,hb]
def sumB (c:Con) (but:Int):Bool:=decide ((c.coefs.length:Int)=c.vars.length-but)&&(withinB 1048576 c.coefs&&(!(c.coefs.any fun y=>(0:Int)==y)&&(decide (0≤c.rel)&&(decide (c.rel≤5)&&(withinB 1099511627776 [c.const]&&decide (c.nums.length=0))))))
theorem sum (c:Con) (vars but:Int) (hb0:0≤but∧but≤1) (hl:c.vars.length≤4611686018427387904) (hl2:c.coefs.length≤4611686018427387904) (h:List Ob):acw C n_model_looker_sum [lookV c vars,iv but] h=some (.ret (.bool (sumB c but)),h):=by
 refine acw_pure (h':=[.row 7 [lookV c vars],.row 6 [conV c]]) (v:=.bool (sumB c but)) (CT T_model_looker_sum) rfl rfl ?_ rfl (by simp)
 have w1:IntKind.i64.wrap ((c.vars.length:Int)-but)=c.vars.length-but:=wrap64 (by omega) (by omega)
 have k1:=within c.coefs 1048576 (by omega) (by omega) hl2
 have k2:=contains_int c.coefs 0 hl2
 have k3:=within [c.const] 1099511627776 (by omega) (by omega) (by simp)
 have k4:bsfL (.int .i64 0) [.int .i64 c.const]=some (intsV [c.const]):=rfl
 unfold sumB
 by_cases c1:(c.coefs.length:Int)=c.vars.length-but
 ·rcases Bool.eq_false_or_eq_true (withinB 1048576 c.coefs) with c2|c2<;>rw [c2] at k1
  ·rcases Bool.eq_false_or_eq_true (c.coefs.any fun y=>(0:Int)==y) with c3|c3<;>rw [c3] at k2
   ·simp [runW_fin,F_model_looker_sum,i_model_looker_sum,w1,k1,k2,c1,c2,c3]
   ·by_cases c4:0≤c.rel
    ·by_cases c5:c.rel≤5
     ·rcases Bool.eq_false_or_eq_true (withinB 1099511627776 [c.const]) with c6|c6<;>rw [c6] at k3
      ·by_cases c7:c.nums.length=0<;>simp [runW_fin,F_model_looker_sum,i_model_looker_sum,w1,k1,k2,k3,k4,c1,c2,c3,c4,c5,c6,c7]
      ·simp [runW_fin,F_model_looker_sum,i_model_looker_sum,w1,k1,k2,k3,k4,c1,c2,c3,c4,c5,c6]
     ·simp [runW_fin,F_model_looker_sum,i_model_looker_sum,w1,k1,k2,k3,k4,c1,c2,c3,c4,c5]
    ·simp [runW_fin,F_model_looker_sum,i_model_looker_sum,w1,k1,k2,k3,k4,c1,c2,c3,c4]
  ·simp [runW_fin,F_model_looker_sum,i_model_looker_sum,w1,k1,k2,c1,c2]
 ·have c1':((c.coefs.length:Int)==c.vars.length-but)=false:=by simpa using c1
  simp [runW_fin,F_model_looker_sum,i_model_looker_sum,w1,c1,c1']
def bareB (c:Con) (least most:Int):Bool:=decide (c.coefs.length=0)&&(decide (c.rel=0)&&(decide (c.const=0)&&(decide (least≤c.nums.length)&&(decide ((c.nums.length:Int)≤most)&&withinB 1048576 c.nums))))
theorem bare (c:Con) (vars least most:Int) (hl:c.nums.length≤4611686018427387904) (h:List Ob):acw C n_model_looker_bare [lookV c vars,iv least,iv most] h=some (.ret (.bool (bareB c least most)),h):=by
 refine acw_pure (h':=[.row 7 [lookV c vars],.row 6 [conV c]]) (v:=.bool (bareB c least most)) (CT T_model_looker_bare) rfl rfl ?_ rfl (by simp)
 have k1:=within c.nums 1048576 (by omega) (by omega) hl
 unfold bareB
 by_cases c1:c.coefs.length=0
 ·by_cases c2:c.rel=0
  ·by_cases c3:c.const=0
   ·by_cases c4:least≤c.nums.length
    ·by_cases c5:(c.nums.length:Int)≤most
     ·simp [runW_fin,F_model_looker_bare,i_model_looker_bare,ieq,k1,c1,c2,c3,c4,c5]
     ·simp [runW_fin,F_model_looker_bare,i_model_looker_bare,ieq,k1,c1,c2,c3,c4,c5]
    ·simp [runW_fin,F_model_looker_bare,i_model_looker_bare,ieq,k1,c1,c2,c3,c4]
   ·simp [runW_fin,F_model_looker_bare,i_model_looker_bare,ieq,k1,c1,c2,c3]
  ·simp [runW_fin,F_model_looker_bare,i_model_looker_bare,ieq,k1,c1,c2]
 ·simp [runW_fin,F_model_looker_bare,i_model_looker_bare,ieq,k1,c1]
def lenOK (c:Con):Prop:=c.vars.length≤4611686018427387904∧c.coefs.length≤4611686018427387904∧c.nums.length≤4611686018427387904
def linearB (c:Con) (vars:Int):Bool:=varsB c vars 1 8&&sumB c 0
def productB (c:Con) (vars:Int):Bool:=varsB c vars 3 3&&bareB c 0 0
def iffB (c:Con) (vars:Int):Bool:=varsB c vars 2 9&&sumB c 1
def elementB (c:Con) (vars:Int):Bool:=varsB c vars 2 2&&bareB c 1 96
def differB (c:Con) (vars:Int):Bool:=varsB c vars 2 8&&bareB c 0 0
def tableB (c:Con) (vars:Int):Bool:=varsB c vars 1 8&&(bareB c 0 96&&decide (((c.nums.length:Int).tmod c.vars.length)=0))
theorem linear (c:Con) (vars:Int) (hl:lenOK c) (h:List Ob):acw C n_model_looker_linear [lookV c vars] h=some (.ret (.bool (linearB c vars)),h):=by
 refine acw_pure (h':=[.row 7 [lookV c vars]]) (v:=.bool (linearB c vars)) (CT T_model_looker_linear) rfl rfl ?_ rfl (by simp)
 have k1:=variables c vars 1 8 hl.1
 have k2:=sum c vars 0 (by omega) hl.1 hl.2.1
 unfold linearB
 rcases Bool.eq_false_or_eq_true (varsB c vars 1 8) with c1|c1<;>rw [c1] at k1<;>simp [runW_fin,F_model_looker_linear,i_model_looker_linear,k1,k2,c1]
theorem product (c:Con) (vars:Int) (hl:lenOK c) (h:List Ob):acw C n_model_looker_product [lookV c vars] h=some (.ret (.bool (productB c vars)),h):=by
 refine acw_pure (h':=[.row 7 [lookV c vars]]) (v:=.bool (productB c vars)) (CT T_model_looker_product) rfl rfl ?_ rfl (by simp)
 have k1:=variables c vars 3 3 hl.1
 have k2:=bare c vars 0 0 hl.2.2
 unfold productB
 rcases Bool.eq_false_or_eq_true (varsB c vars 3 3) with c1|c1<;>rw [c1] at k1<;>simp [runW_fin,F_model_looker_product,i_model_looker_product,k1,k2,c1]
theorem iff (c:Con) (vars:Int) (hl:lenOK c) (h:List Ob):acw C n_model_looker_iff [lookV c vars] h=some (.ret (.bool (iffB c vars)),h):=by
 refine acw_pure (h':=[.row 7 [lookV c vars]]) (v:=.bool (iffB c vars)) (CT T_model_looker_iff) rfl rfl ?_ rfl (by simp)
 have k1:=variables c vars 2 9 hl.1
 have k2:=sum c vars 1 (by omega) hl.1 hl.2.1
 unfold iffB
 rcases Bool.eq_false_or_eq_true (varsB c vars 2 9) with c1|c1<;>rw [c1] at k1<;>simp [runW_fin,F_model_looker_iff,i_model_looker_iff,k1,k2,c1]
theorem element (c:Con) (vars:Int) (hl:lenOK c) (h:List Ob):acw C n_model_looker_element [lookV c vars] h=some (.ret (.bool (elementB c vars)),h):=by
 refine acw_pure (h':=[.row 7 [lookV c vars]]) (v:=.bool (elementB c vars)) (CT T_model_looker_element) rfl rfl ?_ rfl (by simp)
 have k1:=variables c vars 2 2 hl.1
 have k2:=bare c vars 1 96 hl.2.2
 unfold elementB
 rcases Bool.eq_false_or_eq_true (varsB c vars 2 2) with c1|c1<;>rw [c1] at k1<;>simp [runW_fin,F_model_looker_element,i_model_looker_element,k1,k2,c1]
theorem differ (c:Con) (vars:Int) (hl:lenOK c) (h:List Ob):acw C n_model_looker_differ [lookV c vars] h=some (.ret (.bool (differB c vars)),h):=by
 refine acw_pure (h':=[.row 7 [lookV c vars]]) (v:=.bool (differB c vars)) (CT T_model_looker_differ) rfl rfl ?_ rfl (by simp)
 have k1:=variables c vars 2 8 hl.1
 have k2:=bare c vars 0 0 hl.2.2
 unfold differB
 rcases Bool.eq_false_or_eq_true (varsB c vars 2 8) with c1|c1<;>rw [c1] at k1<;>simp [runW_fin,F_model_looker_differ,i_model_looker_differ,k1,k2,c1]
theorem table (c:Con) (vars:Int) (hl:lenOK c) (h:List Ob):acw C n_model_looker_table [lookV c vars] h=some (.ret (.bool (tableB c vars)),h):=by
 refine acw_pure (h':=[.row 7 [lookV c vars]]) (v:=.bool (tableB c vars)) (CT T_model_looker_table) rfl rfl ?_ rfl (by simp)
 have k1:=variables c vars 1 8 hl.1
 have k2:=bare c vars 0 96 hl.2.2
 unfold tableB
 rcases Bool.eq_false_or_eq_true (varsB c vars 1 8) with c1|c1<;>rw [c1] at k1
 ·rcases Bool.eq_false_or_eq_true (bareB c 0 96) with c2|c2<;>rw [c2] at k2
  ·have h1:(1:Int)≤c.vars.length:=by
    unfold varsB at c1
    simp only [Bool.and_eq_true,decide_eq_true_eq] at c1
    exact c1.1.1
   have h2:¬(c.vars=[]):=by intro e;rw [e] at h1;simp at h1
   have w1:IntKind.i64.wrap (((c.nums.length:Int).tmod c.vars.length))=(c.nums.length:Int).tmod c.vars.length:=by
    have:=hl.2.2
    have h3:(c.nums.length:Int).tmod c.vars.length=((c.nums.length % c.vars.length:Nat):Int):=by rfl
    have h4:c.nums.length % c.vars.length≤c.nums.length:=Nat.mod_le _ _
    rw [h3]
    exact wrap64 (by omega) (by omega)
   simp [runW_fin,F_model_looker_table,i_model_looker_table,k1,k2,c1,c2,h2,w1,ieq]
  ·simp [runW_fin,F_model_looker_table,i_model_looker_table,k1,k2,c1,c2]
 ·simp [runW_fin,F_model_looker_table,i_model_looker_table,k1,c1]
def rightB (c:Con) (vars:Int):Bool:=
 if c.kind=1 then linearB c vars else if c.kind=2 then productB c vars else if c.kind=3 then iffB c vars else if c.kind=4 then elementB c vars else if c.kind=5 then differB c vars else if c.kind=6 then tableB c vars else false
theorem right (c:Con) (vars:Int) (hl:lenOK c) (h:List Ob):acw C n_model_Right [conV c,iv vars] h=some (.ret (.bool (rightB c vars)),h):=by
 have k1:=linear c vars hl
 have k2:=product c vars hl
 have k3:=iff c vars hl
 have k4:=element c vars hl
 have k5:=differ c vars hl
 have k6:=table c vars hl
 refine acw_ex (v:=.bool (rightB c vars)) (CT T_model_Right) rfl rfl (fun _=>rfl) (by simp) ?_
 unfold rightB
 by_cases c1:c.kind<1
 ·have e1:c.kind≠1:=by omega
  have e2:c.kind≠2:=by omega
  have e3:c.kind≠3:=by omega
  have e4:c.kind≠4:=by omega
  have e5:c.kind≠5:=by omega
  have e6:c.kind≠6:=by omega
  have c1':¬(1≤c.kind):=by omega
  simp [runW_fin,F_model_Right,i_model_Right,c1',e1,e2,e3,e4,e5,e6]
 by_cases c2:6<c.kind
 ·have e1:c.kind≠1:=by omega
  have e2:c.kind≠2:=by omega
  have e3:c.kind≠3:=by omega
  have e4:c.kind≠4:=by omega
  have e5:c.kind≠5:=by omega
  have e6:c.kind≠6:=by omega
  have c1':1≤c.kind:=by omega
  have c2':¬(c.kind≤6):=by omega
  simp [runW_fin,F_model_Right,i_model_Right,c1',c2',e1,e2,e3,e4,e5,e6]
 obtain ⟨kind,vs,cs,rel,const,nums⟩:=c
 dsimp only at c1 c2 k1 k2 k3 k4 k5 k6 ⊢
 have hk:kind=1∨kind=2∨kind=3∨kind=4∨kind=5∨kind=6:=by omega
 rcases hk with e|e|e|e|e|e<;>subst e
 ·simp [runW_fin,F_model_Right,i_model_Right,k1]
 ·simp [runW_fin,F_model_Right,i_model_Right,k2]
 ·simp [runW_fin,F_model_Right,i_model_Right,k3]
 ·simp [runW_fin,F_model_Right,i_model_Right,k4]
 ·simp [runW_fin,F_model_Right,i_model_Right,k5]
 ·simp [runW_fin,F_model_Right,i_model_Right,k6]
theorem all_not_any {α:Type} (l:List α) (p:α→Bool):(l.all fun y=>!p y)=!(l.any p):=by
 induction l with
 | nil=>rfl
 | cons x r ih=>simp only [List.all_cons,List.any_cons,Bool.not_or,ih]
theorem rr_l0 (c:Con) (vars:Int) (hl:c.vars.length≤4611686018427387904) (i:Nat) (hi:i<c.vars.length) :
  evw C y0 i_ref08_Right_l0 [(1,iv vars),(2,.ptr 0 0 0 1),(5,iv c.vars.length),(6,iv i),(7,iv 0)] [.row 6 [conV c]] =
   some (if ((c.vars.take i).any fun x=>c.vars[i]==x)=false then (.ext 2,[(1,iv vars),(2,.ptr 0 0 0 1),(5,iv c.vars.length),(6,iv i),(7,iv i),(35,.bool false)],[.row 6 [conV c]]) else (.ret,[(4,.bool false)],[.row 6 [conV c]])):=by
 have hle:(c.vars.take i).length=i:=by rw [List.length_take];omega
 have:=loop_all (C:=C) (Y:=y0) (b:=b_ref08_Right_0) (c.vars.take i) (fun k=>[(1,iv vars),(2,.ptr 0 0 0 1),(5,iv c.vars.length),(6,iv i),(7,iv k)]) [.row 6 [conV c]] (fun x=>!(c.vars[i]==x)) (.ret,[(4,.bool false)],[.row 6 [conV c]]) (.ext 2,[(1,iv vars),(2,.ptr 0 0 0 1),(5,iv c.vars.length),(6,iv i),(7,iv i),(35,.bool false)],[.row 6 [conV c]]) (by rw [hle];simp [b_ref08_Right_0]) (by simp) (by simp) fun k hk=>by
  rw [hle] at hk
  have hlt:k<c.vars.length:=by omega
  have hw:=wrap_succ hlt (by omega)
  simp only [List.getElem_take]
  by_cases e:c.vars[i]=c.vars[k]
  ·have e':c.vars[k]=c.vars[i]:=e.symm
   simp [b_ref08_Right_0,hi,hk,hlt,e']
  ·have e':¬(c.vars[k]=c.vars[i]):=fun h=>e h.symm
   have e2:(c.vars[k]==c.vars[i])=false:=by simpa using e'
   simp [b_ref08_Right_0,hi,hk,hlt,e,e',e2,hw]
 rw [all_not_any] at this
 simp only [Int.cast_ofNat_Int,Bool.not_eq_true'] at this
 exact this
theorem rr_l1 (c:Con) (vars:Int) (hl:c.vars.length≤4611686018427387904):∀ (d i:Nat) (fr0:Fr),i+d=c.vars.length →
  ∃ fr',evw C y0 i_ref08_Right_l1 [(1,iv vars),(2,.ptr 0 0 0 1),(5,iv c.vars.length),(6,iv i)] [.row 6 [conV c]] =
   some (if vOK vars (c.vars.take i) (c.vars.drop i)=true then (.ext 0,[(1,iv vars),(2,.ptr 0 0 0 1),(5,iv c.vars.length),(6,iv c.vars.length),(15,.bool false)],[.row 6 [conV c]]) else (.ret,fr',[.row 6 [conV c]]))∧get fr' 4=.bool false:=by
 intro d
 induction d with
 | zero=>
  intro i fr0 hi
  have:i=c.vars.length:=by omega
  subst this
  rw [r_ref08_Right_1,List.drop_length]
  refine ⟨[(4,.bool false)],?_,rfl⟩
  simp [b_ref08_Right_1,vOK]
 | succ d ih=>
  intro i fr0 hi
  have hlt:i<c.vars.length:=by omega
  have hw:=wrap_succ hlt (by omega)
  obtain ⟨fr',ih,hf⟩:=ih (i+1) fr0 (by omega)
  have hc:=rr_l0 c vars hl i hlt
  simp only [Int.natCast_add,Int.cast_ofNat_Int,List.take_succ_eq_append_getElem hlt] at ih
  rw [r_ref08_Right_1,List.drop_eq_getElem_cons hlt]
  simp only [vOK]
  by_cases c1:c.vars[i]<0
  ·have c1':¬(0≤c.vars[i]):=by omega
   refine ⟨[(4,.bool false)],?_,rfl⟩
   simp [b_ref08_Right_1,hlt,c1,c1']
  have c1':0≤c.vars[i]:=by omega
  by_cases c2:vars≤c.vars[i]
  ·have c2':¬(c.vars[i]<vars):=by omega
   refine ⟨[(4,.bool false)],?_,rfl⟩
   simp [b_ref08_Right_1,hlt,c1,c1',c2,c2']
  have c2':c.vars[i]<vars:=by omega
  rcases Bool.eq_false_or_eq_true ((c.vars.take i).any fun x=>c.vars[i]==x) with hb|hb
  ·rw [hb] at hc
   simp only [hb]
   refine ⟨[(4,.bool false)],?_,rfl⟩
   simp [b_ref08_Right_1,hlt,c1,c1',c2,c2',hc]
  ·rw [hb] at hc
   refine ⟨fr',?_,hf⟩
   simp only [hb,c1',c2',decide_true,Bool.true_and,Bool.not_false,←ih]
   simp [b_ref08_Right_1,hlt,c1,c1',c2,c2',hc,hw]
theorem rr_l2 (c:Con) (n but:Int) (hl:c.coefs.length≤4611686018427387904) :
  evw C y0 i_ref08_Right_l2 [(2,.ptr 0 0 0 1),(5,iv n),(8,iv but),(9,iv 0)] [.row 6 [conV c]] =
   some (if (c.coefs.any fun y=>(0:Int)==y)=false then (.ext 4,[(2,.ptr 0 0 0 1),(5,iv n),(8,iv but),(9,iv c.coefs.length),(65,.bool false)],[.row 6 [conV c]]) else (.ret,[(4,.bool false)],[.row 6 [conV c]])):=by
 have:=loop_all (C:=C) (Y:=y0) (b:=b_ref08_Right_2) c.coefs (fun k=>[(2,.ptr 0 0 0 1),(5,iv n),(8,iv but),(9,iv k)]) [.row 6 [conV c]] (fun x=>!((0:Int)==x)) (.ret,[(4,.bool false)],[.row 6 [conV c]]) (.ext 4,[(2,.ptr 0 0 0 1),(5,iv n),(8,iv but),(9,iv c.coefs.length),(65,.bool false)],[.row 6 [conV c]]) (by simp [b_ref08_Right_2]) (by simp) (by simp) fun k hk=>by
  have hw:=wrap_succ hk (by omega)
  by_cases e:c.coefs[k]=0
  ·simp [b_ref08_Right_2,hk,e]
  ·have e':¬(0=c.coefs[k]):=fun h=>e h.symm
   have e2:((0:Int)==c.coefs[k])=false:=by simpa using e'
   simp [b_ref08_Right_2,hk,e,ieq,e',e2,hw]
 rw [all_not_any] at this
 simp only [Int.cast_ofNat_Int,Bool.not_eq_true'] at this
 exact this
set_option maxHeartbeats 4000000 in
theorem ref_right (c:Con) (vars:Int) (hl:lenOK c) (h:List Ob):acw C n_ref08_Right [conV c,iv vars] h=some (.ret (.bool (rightB c vars)),h):=by
 refine acw_ex (v:=.bool (rightB c vars)) (CT T_ref08_Right) rfl rfl (fun _=>rfl) (by simp) ?_
 obtain ⟨hl1,hl2,hl3⟩:=hl
 obtain ⟨fr',hloop,hf⟩:=rr_l1 c vars hl1 c.vars.length 0 [] (by omega)
 simp only [List.drop_zero,List.take_zero,Int.cast_ofNat_Int] at hloop
 have a1:=ref08_all c.coefs 1048576 (by omega) (by omega) hl2
 have a2:=ref08_all [c.const] 1099511627776 (by omega) (by omega) (by simp)
 have a3:=ref08_all c.nums 1048576 (by omega) (by omega) hl3
 have k4:bsfL (.int .i64 0) [.int .i64 c.const]=some (intsV [c.const]):=rfl
 rcases Bool.eq_false_or_eq_true (vOK vars [] c.vars) with hb|hb
 rotate_left
 ·simp only [hb,Bool.false_eq_true,if_false] at hloop
  simp [runW_fin,F_ref08_Right,i_ref08_Right,hloop,hf,rightB,linearB,productB,iffB,elementB,differB,tableB,varsB,hb]
 simp only [hb,if_true] at hloop
 obtain ⟨kind,vs,cs,rel,const,nums⟩:=c
 dsimp only at *
 by_cases hk1:kind=1
 ·subst hk1
  have l2:=rr_l2 ⟨1,vs,cs,rel,const,nums⟩ vs.length 0 hl2
  have w1:IntKind.i64.wrap ((vs.length:Int))=(vs.length:Int):=wrap64 (by omega) (by omega)
  have hR:rightB ⟨1,vs,cs,rel,const,nums⟩ vars=(decide (1≤(vs.length:Int))&&(decide ((vs.length:Int)≤8)&&sumB ⟨1,vs,cs,rel,const,nums⟩ 0)):=by
   simp [rightB,linearB,varsB,hb,Bool.and_assoc]
  rw [hR]
  simp only [sumB]
  rcases Bool.eq_false_or_eq_true (cs.any fun y=>(0:Int)==y) with c0|c0<;>simp only [c0,Bool.true_eq_false,if_false,if_true] at l2
  ·simp only [c0,Bool.not_true,Bool.false_and,Bool.and_false]
   simp [runW_fin,F_ref08_Right,i_ref08_Right,ieq,ine,hloop,w1,k4,a1,a2,l2,c0]
  simp only [c0,Bool.not_false,Bool.true_and]
  by_cases c1:1≤(vs.length:Int)
  rotate_left
  ·simp [runW_fin,F_ref08_Right,i_ref08_Right,ieq,ine,hloop,w1,k4,a1,a2,l2,c0,c1]
  by_cases c2:(vs.length:Int)≤8
  rotate_left
  ·simp [runW_fin,F_ref08_Right,i_ref08_Right,ieq,ine,hloop,w1,k4,a1,a2,l2,c0,c1,c2]
  by_cases c3:(cs.length:Int)=(vs.length:Int)
  rotate_left
  ·simp [runW_fin,F_ref08_Right,i_ref08_Right,ieq,ine,hloop,w1,k4,a1,a2,l2,c0,c1,c2,c3]
  rcases Bool.eq_false_or_eq_true (withinB 1048576 cs) with c4|c4<;>rw [c4] at a1
  rotate_left
  ·simp [runW_fin,F_ref08_Right,i_ref08_Right,ieq,ine,hloop,w1,k4,a1,a2,l2,c0,c1,c2,c3,c4]
  by_cases c5:0≤rel
  rotate_left
  ·simp [runW_fin,F_ref08_Right,i_ref08_Right,ieq,ine,hloop,w1,k4,a1,a2,l2,c0,c1,c2,c3,c4,c5]
  by_cases c6:rel≤5
  rotate_left
  ·simp [runW_fin,F_ref08_Right,i_ref08_Right,ieq,ine,hloop,w1,k4,a1,a2,l2,c0,c1,c2,c3,c4,c5,c6]
  rcases Bool.eq_false_or_eq_true (withinB 1099511627776 [const]) with c7|c7<;>rw [c7] at a2
  rotate_left
  ·simp [runW_fin,F_ref08_Right,i_ref08_Right,ieq,ine,hloop,w1,k4,a1,a2,l2,c0,c1,c2,c3,c4,c5,c6,c7]
  by_cases c8:nums.length=0
  rotate_left
  ·simp [runW_fin,F_ref08_Right,i_ref08_Right,ieq,ine,hloop,w1,k4,a1,a2,l2,c0,c1,c2,c3,c4,c5,c6,c7,c8]
  simp [runW_fin,F_ref08_Right,i_ref08_Right,ieq,ine,hloop,w1,k4,a1,a2,l2,c0,c1,c2,c3,c4,c5,c6,c7,c8]
 by_cases hk3:kind=3
 ·subst hk3
  have l2:=rr_l2 ⟨3,vs,cs,rel,const,nums⟩ vs.length 1 hl2
  have w1:IntKind.i64.wrap ((vs.length:Int)-1)=(vs.length:Int)-1:=wrap64 (by omega) (by omega)
  have hR:rightB ⟨3,vs,cs,rel,const,nums⟩ vars=(decide (1≤(vs.length:Int)-1)&&(decide ((vs.length:Int)-1≤8)&&sumB ⟨3,vs,cs,rel,const,nums⟩ 1)):=by
   simp only [rightB,iffB,varsB,hb]
   have p1:decide ((2:Int)≤(vs.length:Int))=decide (1≤(vs.length:Int)-1):=decide_eq_decide.2 (by omega)
   have p2:decide ((vs.length:Int)≤9)=decide ((vs.length:Int)-1≤8):=decide_eq_decide.2 (by omega)
   simp only [p1,p2]
   simp [Bool.and_assoc]
  rw [hR]
  simp only [sumB]
  rcases Bool.eq_false_or_eq_true (cs.any fun y=>(0:Int)==y) with c0|c0<;>simp only [c0,Bool.true_eq_false,if_false,if_true] at l2
  ·simp only [c0,Bool.not_true,Bool.false_and,Bool.and_false]
   simp [runW_fin,F_ref08_Right,i_ref08_Right,ieq,ine,hloop,w1,k4,a1,a2,l2,c0]
  simp only [c0,Bool.not_false,Bool.true_and]
  by_cases c1:1≤(vs.length:Int)-1
  rotate_left
  ·simp [runW_fin,F_ref08_Right,i_ref08_Right,ieq,ine,hloop,w1,k4,a1,a2,l2,c0,c1]
  by_cases c2:(vs.length:Int)-1≤8
  rotate_left
  ·simp [runW_fin,F_ref08_Right,i_ref08_Right,ieq,ine,hloop,w1,k4,a1,a2,l2,c0,c1,c2]
  by_cases c3:(cs.length:Int)=(vs.length:Int)-1
  rotate_left
  ·simp [runW_fin,F_ref08_Right,i_ref08_Right,ieq,ine,hloop,w1,k4,a1,a2,l2,c0,c1,c2,c3]
  rcases Bool.eq_false_or_eq_true (withinB 1048576 cs) with c4|c4<;>rw [c4] at a1
  rotate_left
  ·simp [runW_fin,F_ref08_Right,i_ref08_Right,ieq,ine,hloop,w1,k4,a1,a2,l2,c0,c1,c2,c3,c4]
  by_cases c5:0≤rel
  rotate_left
  ·simp [runW_fin,F_ref08_Right,i_ref08_Right,ieq,ine,hloop,w1,k4,a1,a2,l2,c0,c1,c2,c3,c4,c5]
  by_cases c6:rel≤5
  rotate_left
  ·simp [runW_fin,F_ref08_Right,i_ref08_Right,ieq,ine,hloop,w1,k4,a1,a2,l2,c0,c1,c2,c3,c4,c5,c6]
  rcases Bool.eq_false_or_eq_true (withinB 1099511627776 [const]) with c7|c7<;>rw [c7] at a2
  rotate_left
  ·simp [runW_fin,F_ref08_Right,i_ref08_Right,ieq,ine,hloop,w1,k4,a1,a2,l2,c0,c1,c2,c3,c4,c5,c6,c7]
  by_cases c8:nums.length=0
  rotate_left
  ·simp [runW_fin,F_ref08_Right,i_ref08_Right,ieq,ine,hloop,w1,k4,a1,a2,l2,c0,c1,c2,c3,c4,c5,c6,c7,c8]
  simp [runW_fin,F_ref08_Right,i_ref08_Right,ieq,ine,hloop,w1,k4,a1,a2,l2,c0,c1,c2,c3,c4,c5,c6,c7,c8]
 have hR:∀ b1 b2:Bool,rightB ⟨kind,vs,cs,rel,const,nums⟩ vars=(decide (cs.length=0)&&(decide (rel=0)&&(decide (const=0)&&(withinB 1048576 nums&&(decide ((nums.length:Int)≤96)&&(if kind=2 then decide ((vs.length:Int)=3)&&decide (nums.length=0) else if kind=4 then decide ((vs.length:Int)=2)&&decide (1≤(nums.length:Int)) else if kind=5 then decide (2≤(vs.length:Int))&&(decide ((vs.length:Int)≤8)&&decide (nums.length=0)) else if kind=6 then decide (1≤(vs.length:Int))&&(decide ((vs.length:Int)≤8)&&decide ((nums.length:Int).tmod vs.length=0)) else false)))))):=by
  intro b1 b2
  unfold rightB
  simp only [hk1,hk3,if_false,productB,elementB,differB,tableB,varsB,bareB,hb,Bool.and_true]
  have p1:decide ((nums.length:Int)≤0)=decide (nums.length=0):=decide_eq_decide.2 (by omega)
  have p0:decide ((0:Int)≤nums.length)=true:=decide_eq_true (by omega)
  have p3:(decide ((3:Int)≤vs.length)&&decide ((vs.length:Int)≤3))=decide ((vs.length:Int)=3):=by
   rw [←Bool.decide_and];exact decide_eq_decide.2 (by omega)
  have p4:(decide ((2:Int)≤vs.length)&&decide ((vs.length:Int)≤2))=decide ((vs.length:Int)=2):=by
   rw [←Bool.decide_and];exact decide_eq_decide.2 (by omega)
  simp only [p1,p0,p3,p4,Bool.true_and]
  have q1:nums.length=0→decide ((nums.length:Int)≤96)=true:=fun e=>decide_eq_true (by omega)
  by_cases e:nums.length=0
  ·have q2:decide ((1:Int)≤(nums.length:Int))=false:=decide_eq_false (by omega)
   simp only [e,q1 e,q2,decide_true,Bool.true_and,Bool.and_true]
   repeat' split
   all_goals simp [Bool.and_assoc,Bool.and_left_comm,Bool.and_comm]
  ·have q2:decide (nums.length=0)=false:=decide_eq_false e
   have q3:decide ((1:Int)≤(nums.length:Int))=true:=decide_eq_true (by omega)
   simp only [q2,q3,Bool.false_and,Bool.and_false,Bool.true_and,Bool.and_true]
   repeat' split
   all_goals simp [Bool.and_assoc,Bool.and_left_comm,Bool.and_comm]
 rw [hR true true]
 by_cases c1:cs.length=0
 rotate_left
 ·have c1':0<cs.length:=by omega
  have c1'':¬(cs=[]):=by intro e;rw [e] at c1;simp at c1
  simp [runW_fin,F_ref08_Right,i_ref08_Right,ieq,ine,hloop,hk1,hk3,a3,c1,c1',c1'']
 by_cases c2:rel=0
 rotate_left
 ·simp [runW_fin,F_ref08_Right,i_ref08_Right,ieq,ine,hloop,hk1,hk3,a3,c1,c2]
 subst c2
 by_cases c3:const=0
 rotate_left
 ·simp [runW_fin,F_ref08_Right,i_ref08_Right,ieq,ine,hloop,hk1,hk3,a3,c1,c3]
 subst c3
 rcases Bool.eq_false_or_eq_true (withinB 1048576 nums) with c4|c4<;>rw [c4] at a3
 rotate_left
 ·simp [runW_fin,F_ref08_Right,i_ref08_Right,ieq,ine,hloop,hk1,hk3,a3,c1,c4]
 by_cases c5:(nums.length:Int)≤96
 rotate_left
 ·have c5':96<(nums.length:Int):=by omega
  simp [runW_fin,F_ref08_Right,i_ref08_Right,ieq,ine,hloop,hk1,hk3,a3,c1,c4,c5,c5']
 have c5':¬(96<(nums.length:Int)):=by omega
 by_cases k2:kind=2
 ·subst k2
  by_cases d1:(vs.length:Int)=3
  rotate_left
  ·simp [runW_fin,F_ref08_Right,i_ref08_Right,ieq,ine,hloop,hk1,hk3,a3,c5',c1,c4,c5,d1]
  simp only [iv,d1] at hloop
  by_cases d2:nums.length=0
  ·simp [runW_fin,F_ref08_Right,i_ref08_Right,ieq,ine,hloop,hk1,hk3,a3,c5',c1,c4,c5,d1,d2]
  ·simp [runW_fin,F_ref08_Right,i_ref08_Right,ieq,ine,hloop,hk1,hk3,a3,c5',c1,c4,c5,d1,d2]
 by_cases k4:kind=4
 ·subst k4
  by_cases d1:(vs.length:Int)=2
  rotate_left
  ·simp [runW_fin,F_ref08_Right,i_ref08_Right,ieq,ine,hloop,hk1,hk3,a3,c5',c1,c4,c5,d1]
  simp only [iv,d1] at hloop
  by_cases d2:1≤(nums.length:Int)
  ·simp [runW_fin,F_ref08_Right,i_ref08_Right,ieq,ine,hloop,hk1,hk3,a3,c5',c1,c4,c5,d1,d2]
  ·simp [runW_fin,F_ref08_Right,i_ref08_Right,ieq,ine,hloop,hk1,hk3,a3,c5',c1,c4,c5,d1,d2]
 by_cases k5:kind=5
 ·subst k5
  by_cases d1:2≤(vs.length:Int)
  rotate_left
  ·simp [runW_fin,F_ref08_Right,i_ref08_Right,ieq,ine,hloop,hk1,hk3,a3,c5',c1,c4,c5,d1]
  by_cases d2:(vs.length:Int)≤8
  rotate_left
  ·simp [runW_fin,F_ref08_Right,i_ref08_Right,ieq,ine,hloop,hk1,hk3,a3,c5',c1,c4,c5,d1,d2]
  by_cases d3:nums.length=0
  ·simp [runW_fin,F_ref08_Right,i_ref08_Right,ieq,ine,hloop,hk1,hk3,a3,c5',c1,c4,c5,d1,d2,d3]
  ·simp [runW_fin,F_ref08_Right,i_ref08_Right,ieq,ine,hloop,hk1,hk3,a3,c5',c1,c4,c5,d1,d2,d3]
 by_cases k6:kind=6
 ·subst k6
  by_cases d1:1≤(vs.length:Int)
  rotate_left
  ·simp [runW_fin,F_ref08_Right,i_ref08_Right,ieq,ine,hloop,hk1,hk3,a3,c5',c1,c4,c5,d1]
  by_cases d2:(vs.length:Int)≤8
  rotate_left
  ·simp [runW_fin,F_ref08_Right,i_ref08_Right,ieq,ine,hloop,hk1,hk3,a3,c5',c1,c4,c5,d1,d2]
  have h2:¬(vs=[]):=by intro e;rw [e] at d1;simp at d1
  have w3:IntKind.i64.wrap (((nums.length:Int).tmod vs.length))=(nums.length:Int).tmod vs.length:=by
   have h3:(nums.length:Int).tmod vs.length=((nums.length % vs.length:Nat):Int):=by rfl
   have h4:nums.length % vs.length≤nums.length:=Nat.mod_le _ _
   rw [h3]
   exact wrap64 (by omega) (by omega)
  by_cases d3:(nums.length:Int).tmod vs.length=0
  ·simp [runW_fin,F_ref08_Right,i_ref08_Right,ieq,ine,hloop,hk1,hk3,a3,c5',c1,c4,c5,d1,d2,d3,h2,w3]
  ·simp [runW_fin,F_ref08_Right,i_ref08_Right,ieq,ine,hloop,hk1,hk3,a3,c5',c1,c4,c5,d1,d2,d3,h2,w3]
 simp [runW_fin,F_ref08_Right,i_ref08_Right,ieq,ine,hloop,hk1,hk3,a3,c5',c1,c4,c5,k2,k4,k5,k6]
end Go.RR.M
namespace Go.RR
def valsOf (c:Con) (row:List Int):List Int:=c.vars.map fun v=>row.getD v.toNat 0
theorem valsOf_len (c:Con) (row:List Int):(valsOf c row).length=c.vars.length:=by simp [valsOf]
def tabN (n:Nat) (vals:List Int):Nat→List Int→Bool
 | 0,_=>false
 | k+1,nums=>decide (nums.take n=vals)||tabN n vals k (nums.drop n)
def holdsB (c:Con) (row:List Int):Bool:=
 if c.kind=1 then relB c.rel (dotI c.coefs (valsOf c row)) c.const
 else if c.kind=2 then decide ((valsOf c row).getD 0 0*(valsOf c row).getD 1 0=(valsOf c row).getD 2 0)
 else if c.kind=3 then (decide ((valsOf c row).getD 0 0=1)&&relB c.rel (dotI c.coefs ((valsOf c row).drop 1)) c.const)||(decide ((valsOf c row).getD 0 0=0)&&!relB c.rel (dotI c.coefs ((valsOf c row).drop 1)) c.const)
 else if c.kind=4 then decide (0≤(valsOf c row).getD 0 0)&&(decide ((valsOf c row).getD 0 0<c.nums.length)&&decide (c.nums.getD ((valsOf c row).getD 0 0).toNat 0=(valsOf c row).getD 1 0))
 else if c.kind=5 then decide (valsOf c row).Nodup
 else tabN c.vars.length (valsOf c row) (c.nums.length / c.vars.length) c.nums
theorem vOK_all {n:Int}:∀ {l pre:List Int},vOK n pre l=true→∀ v∈l,0≤v∧v<n
 | [],_,_,v,hv=>by simp at hv
 | x::r,pre,h,v,hv=>by
  simp only [vOK,Bool.and_eq_true,decide_eq_true_eq] at h
  rcases List.mem_cons.1 hv with rfl|hv
  ·exact ⟨h.1.1.1,h.1.1.2⟩
  ·exact vOK_all h.2 v hv
theorem withinB_all {m:Int} {l:List Int} (h:withinB m l=true):∀ x∈l,-m≤x∧x≤m:=by
 unfold withinB at h
 intro x hx
 have:=List.all_eq_true.1 h x hx
 simpa using this
end Go.RR
namespace Go.RR.M
open Go Go.RR
end Go.RR.M
namespace Go.RR
def lowc (b:Nat):Nat:=b&&&(b-1)
def lsts:Nat→Nat→List Nat
 | 0,_=>[]
 | n+1,b=>if b=0 then [] else Go.Lib.ctz 64 b::lsts n (lowc b)
def done:Nat→Nat→Prop
 | 0,b=>b=0
 | n+1,b=>b=0∨done n (lowc b)
theorem lowc_lt {b:Nat} (h:b<18446744073709551616):lowc b<18446744073709551616:=Nat.lt_of_le_of_lt Nat.and_le_left h
def posL:Nat→Nat→List Nat
 | 0,_=>[]
 | n+1,b=>if b % 2=1 then 0::(posL n (b / 2)).map (·+1) else (posL n (b / 2)).map (·+1)
theorem posL_zero:∀ n,posL n 0=[]
 | 0=>rfl
 | n+1=>by simp [posL,posL_zero n]
theorem lowc_even (c:Nat):lowc (2*c)=2*lowc c:=by
 by_cases h:c=0
 ·subst h;rfl
 ·have h1:(2*c&&&(2*c-1)) / 2=c&&&(c-1):=by
   rw [Nat.and_div_two,show 2*c / 2=c by omega,show (2*c-1) / 2=c-1 by omega]
  have h2:¬(2*c&&&(2*c-1)) % 2=1:=by rw [Nat.and_mod_two_eq_one];omega
  unfold lowc
  omega
theorem lowc_odd (c:Nat):lowc (2*c+1)=2*c:=by
 have h1:(2*c+1&&&(2*c+1-1)) / 2=c:=by
  rw [Nat.and_div_two,show (2*c+1) / 2=c by omega,show (2*c+1-1) / 2=c by omega,Nat.and_self]
 have h2:¬(2*c+1&&&(2*c+1-1)) % 2=1:=by rw [Nat.and_mod_two_eq_one];omega
 unfold lowc
 omega
theorem ctzFrom_fuel:∀ (f g x:Nat),0<x→x<2 ^ f→f≤g→Go.Lib.ctzFrom g x=Go.Lib.ctzFrom f x
 | 0,g,x,h0,h1,_=>by simp at h1;omega
 | f+1,0,x,h0,h1,h2=>by omega
 | f+1,g+1,x,h0,h1,h2=>by
  unfold Go.Lib.ctzFrom
  split
  ·rfl
  ·rw [ctzFrom_fuel f g (x / 2) (by omega) (by rw [Nat.pow_succ] at h1;omega) (by omega)]
theorem ctz_even {c:Nat} (h0:c≠0) (h:c<2 ^ 63):Go.Lib.ctz 64 (2*c)=Go.Lib.ctz 64 c+1:=by
 unfold Go.Lib.ctz
 rw [if_neg (by omega),if_neg h0,ctzFrom_fuel 63 64 c (by omega) h (by omega)]
 show Go.Lib.ctzFrom (63+1) (2*c)=_
 rw [Go.Lib.ctzFrom,if_neg (by omega),show 2*c / 2=c by omega]
 omega
theorem ctz_odd (c:Nat):Go.Lib.ctz 64 (2*c+1)=0:=by
 unfold Go.Lib.ctz
 rw [if_neg (by omega)]
 show Go.Lib.ctzFrom (63+1) (2*c+1)=_
 rw [Go.Lib.ctzFrom,if_pos (by omega)]
theorem lowc_le (b:Nat):lowc b≤b:=Nat.and_le_left
theorem lsts_zero:∀ m,lsts m 0=[]
 | 0=>rfl
 | m+1=>by simp [lsts]
theorem lsts_even:∀ (m c:Nat),c<2 ^ 63→lsts m (2*c)=(lsts m c).map (·+1)
 | 0,_,_=>rfl
 | m+1,c,h=>by
  by_cases h0:c=0
  ·subst h0;simp [lsts]
  ·have hl:=lowc_le c
   rw [lsts,if_neg (by omega),lsts,if_neg h0,List.map_cons,ctz_even h0 h,lowc_even,lsts_even m _ (by omega)]
theorem lsts_pos:∀ (n m b:Nat),n≤64→b<2 ^ n→n≤m→lsts m b=posL n b
 | 0,m,b,_,h,_=>by
  obtain rfl:b=0:=by simp at h;exact h
  rw [lsts_zero];rfl
 | n+1,0,b,_,h,hm=>by omega
 | n+1,m+1,b,hn,h,hm=>by
  rw [Nat.pow_succ] at h
  have hp:2 ^ n≤2 ^ 63:=Nat.pow_le_pow_right (by omega) (by omega)
  by_cases c:b % 2=1
  ·obtain ⟨k,rfl⟩:∃ k,b=2*k+1:=⟨b / 2,by omega⟩
   rw [lsts,if_neg (by omega),ctz_odd,lowc_odd,lsts_even m k (by omega),lsts_pos n m k (by omega) (by omega) (by omega),posL,if_pos c,show (2*k+1) / 2=k by omega]
  ·obtain ⟨k,rfl⟩:∃ k,b=2*k:=⟨b / 2,by omega⟩
   rw [lsts_even (m+1) k (by omega),lsts_pos n (m+1) k (by omega) (by omega) (by omega),posL,if_neg c,show 2*k / 2=k by omega]
theorem done_zero:∀ m,done m 0
 | 0=>rfl
 | m+1=>.inl rfl
theorem done_even:∀ (m c:Nat),done m c→done m (2*c)
 | 0,c,h=>by have:c=0:=h;subst this;rfl
 | m+1,c,h=>by
  rcases h with h|h
  ·subst h;exact .inl rfl
  ·refine .inr ?_
   rw [lowc_even]
   exact done_even m _ h
theorem done_pos:∀ (n m b:Nat),b<2 ^ n→n≤m→done m b
 | 0,m,b,h,_=>by
  obtain rfl:b=0:=by simp at h;exact h
  exact done_zero m
 | n+1,0,b,h,hm=>by omega
 | n+1,m+1,b,h,hm=>by
  rw [Nat.pow_succ] at h
  by_cases c:b % 2=1
  ·obtain ⟨k,rfl⟩:∃ k,b=2*k+1:=⟨b / 2,by omega⟩
   refine .inr ?_
   rw [lowc_odd]
   exact done_even m k (done_pos n m k (by omega) (by omega))
  ·obtain ⟨k,rfl⟩:∃ k,b=2*k:=⟨b / 2,by omega⟩
   exact done_even (m+1) k (done_pos n (m+1) k (by omega) (by omega))
theorem posL_fuel:∀ (n m b:Nat),b<2 ^ n→n≤m→posL m b=posL n b
 | 0,m,b,h,_=>by
  obtain rfl:b=0:=by simp at h;exact h
  rw [posL_zero];rfl
 | n+1,0,b,h,hm=>by omega
 | n+1,m+1,b,h,hm=>by
  rw [Nat.pow_succ] at h
  rw [posL,posL,posL_fuel n m (b / 2) (by omega) (by omega)]
theorem posL_lt:∀ (n b k:Nat),k∈posL n b→k<n
 | 0,b,k,h=>by simp [posL] at h
 | n+1,b,k,h=>by
  unfold posL at h
  have key:k∈(posL n (b / 2)).map (·+1)→k<n+1:=fun h=>by
   obtain ⟨j,hj,rfl⟩:=List.mem_map.1 h
   have:=posL_lt n _ j hj
   omega
  split at h
  ·rcases List.mem_cons.1 h with rfl|h
   ·omega
   ·exact key h
  ·exact key h
theorem posL_cnt:∀ (n b:Nat),(posL n b).length≤n
 | 0,b=>by simp [posL]
 | n+1,b=>by
  have:=posL_cnt n (b / 2)
  unfold posL
  split<;>simp<;>omega
theorem posL_len:∀ (n b:Nat),(posL n b).length=Go.Lib.popAux n b
 | 0,b=>rfl
 | n+1,b=>by
  unfold posL Go.Lib.popAux
  split
  ·rename_i h;simp [posL_len n,h];omega
  ·rename_i h
   have:b % 2=0:=by omega
   simp [posL_len n,this]
theorem posL_nil:∀ (n b:Nat),b<2 ^ n→(posL n b=[]↔b=0)
 | 0,b,h=>by simp at h;simp [posL,h]
 | n+1,b,h=>by
  rw [Nat.pow_succ] at h
  have ih:=posL_nil n (b / 2) (by omega)
  unfold posL
  split
  ·simp;omega
  ·rw [List.map_eq_nil_iff,ih];omega
def leftR:List Int→Nat→List Int
 | [],_=>[]
 | v::r,b=>if b % 2=1 then v::leftR r (b / 2) else leftR r (b / 2)
theorem leftR_pos:∀ (l:List Int) (b:Nat),(posL l.length b).map (fun k=>l.getD k 0)=leftR l b
 | [],b=>rfl
 | v::r,b=>by
  have ih:=leftR_pos r (b / 2)
  have e:((posL r.length (b / 2)).map (·+1)).map (fun k=>(v::r).getD k 0)=leftR r (b / 2):=by
   rw [List.map_map,←ih]
   rfl
  show (posL (r.length+1) b).map _=_
  unfold posL leftR
  split
  ·rw [List.map_cons,e];rfl
  ·exact e
theorem leftR_len (l:List Int) (b:Nat):(leftR l b).length=(posL l.length b).length:=by rw [←leftR_pos,List.length_map]
theorem leftR_mem:∀ (l:List Int) (b:Nat) (v:Int),v∈leftR l b→v∈l
 | [],b,v,h=>by simp [leftR] at h
 | x::r,b,v,h=>by
  unfold leftR at h
  split at h
  ·rcases List.mem_cons.1 h with rfl|h
   ·simp
   ·exact List.mem_cons_of_mem _ (leftR_mem r _ v h)
  ·exact List.mem_cons_of_mem _ (leftR_mem r _ v h)
def keepB (p:Int→Bool):List Int→Nat→Nat
 | [],_=>0
 | v::r,b=>(if b % 2=1∧p v=true then 1 else 0)+2*keepB p r (b / 2)
theorem keepB_lt (p:Int→Bool):∀ (l:List Int) (b:Nat),keepB p l b<2 ^ l.length
 | [],b=>by simp [keepB]
 | v::r,b=>by
  have ih:=keepB_lt p r (b / 2)
  unfold keepB
  rw [List.length_cons,Nat.pow_succ]
  split<;>omega
theorem keepB_congr {p q:Int→Bool}:∀ (l:List Int) (b:Nat),(∀ v∈leftR l b,p v=q v)→keepB p l b=keepB q l b
 | [],b,_=>rfl
 | v::r,b,h=>by
  unfold keepB
  unfold leftR at h
  by_cases c:b % 2=1
  ·rw [if_pos c] at h
   rw [keepB_congr r (b / 2) (fun x hx=>h x (List.mem_cons_of_mem _ hx)),h v (by simp)]
  ·rw [if_neg c] at h
   rw [keepB_congr r (b / 2) h]
   simp [c]
theorem or_pow {a j:Nat} (h:a<2 ^ j):a|||2 ^ j=a+2 ^ j:=by
 rw [Nat.or_comm,←Nat.mul_one (2 ^ j),←Nat.two_pow_add_eq_or_of_lt h]
 omega
theorem keepB_fold (p:Int→Bool):∀ (l:List Int) (b j acc:Nat) (f:Nat→Int),(∀ k,k<l.length→f (k+j)=l.getD k 0)→acc<2 ^ j→((posL l.length b).map (·+j)).foldl (fun a k=>if p (f k)=true then a|||2 ^ k else a) acc=acc+2 ^ j*keepB p l b
 | [],b,j,acc,f,hf,h=>by simp [posL,keepB]
 | v::r,b,j,acc,f,hf,h=>by
  have e:∀ L:List Nat,(L.map (·+1)).map (·+j)=L.map (·+(j+1)):=fun L=>by
   rw [List.map_map]
   apply List.map_congr_left
   intro k _
   simp only [Function.comp]
   omega
  have hf':∀ k,k<r.length→f (k+(j+1))=r.getD k 0:=fun k hk=>by
   have:=hf (k+1) (by simp;omega)
   rw [show k+(j+1)=k+1+j by omega,this]
   rfl
  have hv:f j=v:=by
   have:=hf 0 (by simp)
   rw [Nat.zero_add] at this
   exact this
  show ((posL (r.length+1) b).map (·+j)).foldl _ acc=_
  unfold posL keepB
  have hp:2 ^ (j+1)=2 ^ j*2:=Nat.pow_succ ..
  by_cases c:b % 2=1
  ·rw [if_pos c,List.map_cons,List.foldl_cons,Nat.zero_add,hv,e]
   by_cases c2:p v=true
   ·rw [if_pos c2,or_pow h,keepB_fold p r (b / 2) (j+1) _ f hf' (by omega),if_pos ⟨c,c2⟩,hp,Nat.mul_assoc,Nat.mul_add,Nat.mul_one]
    omega
   ·rw [if_neg c2,keepB_fold p r (b / 2) (j+1) _ f hf' (by omega),if_neg (fun h=>c2 h.2),hp,Nat.mul_assoc,Nat.zero_add]
  ·rw [if_neg c,e,keepB_fold p r (b / 2) (j+1) _ f hf' (by omega),if_neg (fun h=>c h.1),hp,Nat.mul_assoc,Nat.zero_add]
def val:List Nat→Nat
 | []=>0
 | a::r=>a+256*val r
def repB (m:Nat):Nat→Nat
 | 0=>0
 | k+1=>m+256*repB m k
theorem and_split (a c m M:Nat) (ha:a<256) (hm:m<256):(a+256*c)&&&(m+256*M)=(a&&&m)+256*(c&&&M):=by
 have h8:(256:Nat)=2 ^ 8:=rfl
 have hx:a&&&m<2 ^ 8:=Nat.and_lt_two_pow _ (by omega)
 apply Nat.eq_of_testBit_eq
 intro i
 rw [Nat.testBit_and,Nat.add_comm a,Nat.add_comm m,Nat.add_comm (a&&&m),h8,Nat.testBit_two_pow_mul_add c (by omega) i,Nat.testBit_two_pow_mul_add M (by omega) i,Nat.testBit_two_pow_mul_add (c&&&M) hx i]
 split
 ·rw [Nat.testBit_and]
 ·rw [Nat.testBit_and]
def b1 (a:Nat):Nat:=(a / 2&&&85)+(a&&&85)
def b2 (a:Nat):Nat:=(a / 4&&&51)+(a&&&51)
def b3 (a:Nat):Nat:=(a / 16+a)&&&15
theorem b1_lt:∀ a:Fin 256,b1 a.val<256:=by decide +kernel
theorem b21_ok:∀ a:Fin 256,b2 (b1 a.val)≤68∧b2 (b1 a.val) % 16≤4:=by decide +kernel
theorem b1_low:∀ (a:Fin 256) (c:Fin 2),(a.val / 2+128*c.val)&&&85=a.val / 2&&&85:=by decide +kernel
theorem b2_low:∀ (a:Fin 256) (c:Fin 4),(a.val / 4+64*c.val)&&&51=a.val / 4&&&51:=by decide +kernel
theorem b3_low:∀ (a:Fin 69) (c:Fin 5),(a.val / 16+16*c.val+a.val)&&&15=(a.val / 16+a.val)&&&15:=by decide +kernel
theorem pc_eq:∀ a:Fin 256,b3 (b2 (b1 a.val))=Go.Lib.popAux 8 a.val∧Go.Lib.popAux 8 a.val≤8:=by decide +kernel
def okB (l:List Nat):Prop:=∀ a∈l,a<256
theorem st1:∀ (l:List Nat),okB l→((val l / 2)&&&repB 85 l.length)+(val l&&&repB 85 l.length)=val (l.map b1)
 | [],_=>rfl
 | a::r,h=>by
  have ha:=h a (by simp)
  have ih:=st1 r fun x hx=>h x (by simp [hx])
  simp only [val,List.length_cons,repB,List.map_cons]
  have e:(a+256*val r) / 2=(a / 2+128*(val r % 2))+256*(val r / 2):=by omega
  have e2:(a / 2+128*(val r % 2))&&&85=a / 2&&&85:=b1_low ⟨a,ha⟩ ⟨val r % 2,by omega⟩
  rw [e,and_split _ _ _ _ (by omega) (by omega),and_split _ _ _ _ ha (by omega),e2,←ih,b1]
  omega
theorem st2:∀ (l:List Nat),okB l→((val l / 4)&&&repB 51 l.length)+(val l&&&repB 51 l.length)=val (l.map b2)
 | [],_=>rfl
 | a::r,h=>by
  have ha:=h a (by simp)
  have ih:=st2 r fun x hx=>h x (by simp [hx])
  simp only [val,List.length_cons,repB,List.map_cons]
  have e:(a+256*val r) / 4=(a / 4+64*(val r % 4))+256*(val r / 4):=by omega
  have e2:(a / 4+64*(val r % 4))&&&51=a / 4&&&51:=b2_low ⟨a,ha⟩ ⟨val r % 4,by omega⟩
  rw [e,and_split _ _ _ _ (by omega) (by omega),and_split _ _ _ _ ha (by omega),e2,←ih,b2]
  omega
theorem val_mod:∀ (l:List Nat),(∀ a∈l,a≤68∧a % 16≤4)→val l % 16≤4
 | [],_=>by simp [val]
 | a::r,h=>by
  have:=h a (by simp)
  simp only [val]
  omega
theorem st3:∀ (l:List Nat),(∀ a∈l,a≤68∧a % 16≤4)→(val l / 16+val l)&&&repB 15 l.length=val (l.map b3)
 | [],_=>rfl
 | a::r,h=>by
  have ha:=h a (by simp)
  have hr:∀ a∈r,a≤68∧a % 16≤4:=fun x hx=>h x (by simp [hx])
  have ih:=st3 r hr
  have hm:=val_mod r hr
  simp only [val,List.length_cons,repB,List.map_cons]
  have e:(a+256*val r) / 16+(a+256*val r)=(a / 16+16*(val r % 16)+a)+256*(val r / 16+val r):=by omega
  rw [e,and_split _ _ _ _ (by omega) (by omega),b3_low ⟨a,by omega⟩ ⟨val r % 16,by omega⟩,ih,b3]
theorem pop_add (k n:Nat):∀ (a c:Nat),a<2 ^ k→Go.Lib.popAux (k+n) (a+2 ^ k*c)=Go.Lib.popAux k a+Go.Lib.popAux n c:=by
 induction k with
 | zero=>intro a c h;simp at h;subst h;simp [Go.Lib.popAux]
 | succ k ih=>
  intro a c h
  rw [Nat.pow_succ] at h ⊢
  rw [show k+1+n=k+n+1 by omega,Go.Lib.popAux,Go.Lib.popAux,show 2 ^ k*2*c=2*(2 ^ k*c) by rw [Nat.mul_comm (2 ^ k) 2,Nat.mul_assoc],show (a+2*(2 ^ k*c)) / 2=a / 2+2 ^ k*c by omega,ih (a / 2) c (by omega)]
  omega
theorem pop_val:∀ (l:List Nat),okB l→Go.Lib.popAux (8*l.length) (val l)=(l.map (Go.Lib.popAux 8)).sum
 | [],_=>rfl
 | a::r,h=>by
  have ha:=h a (by simp)
  have ih:=pop_val r fun x hx=>h x (by simp [hx])
  rw [List.length_cons,show 8*(r.length+1)=8+8*r.length by omega]
  show Go.Lib.popAux _ (a+2 ^ 8*val r)=_
  rw [pop_add 8 (8*r.length) a (val r) ha,ih]
  rfl
def bytesN:Nat→Nat→List Nat
 | 0,_=>[]
 | n+1,x=>x % 256::bytesN n (x / 256)
theorem bytesN_len:∀ n x,(bytesN n x).length=n
 | 0,_=>rfl
 | n+1,x=>by simp [bytesN,bytesN_len n]
theorem bytesN_ok:∀ n x,okB (bytesN n x)
 | 0,_=>by simp [okB,bytesN]
 | n+1,x=>fun a ha=>by
  rcases List.mem_cons.1 ha with rfl|ha
  ·omega
  ·exact bytesN_ok n _ a ha
theorem bytesN_val:∀ n x,x<256 ^ n→val (bytesN n x)=x
 | 0,x,h=>by simp at h;simp [bytesN,val,h]
 | n+1,x,h=>by
  rw [Nat.pow_succ] at h
  have:=bytesN_val n (x / 256) (by omega)
  simp only [bytesN,val,this]
  omega
theorem s8a (c0 T1:Nat) (h:c0≤8):(c0+256*T1) / 256=T1:=by omega
theorem s8b (c0 c1 c2 c3 T3 T2 T1 T0:Nat) (h:c0≤8∧c1≤8∧c2≤8) (e2:T2=c2+256*T3) (e1:T1=c1+256*T2) (e0:T0=c0+256*T1):(T0+T1) / 65536=T2+T3:=by omega
theorem s8d (c0 c1 c2 c3 T4 T3 T2 T1 T0:Nat) (e3:T3=c3+256*T4) (e2:T2=c2+256*T3) (e1:T1=c1+256*T2) (e0:T0=c0+256*T1):T0=(c0+256*c1+65536*c2+16777216*c3)+4294967296*T4:=by omega
theorem s8c (l0 l1 l2 l3 T4 T5 T6 T7 T0 T1 T2 T3:Nat) (h:l0≤134744072∧l1≤134744072∧l2≤134744072∧l3≤134744072) (e0:T0=l0+4294967296*T4) (e1:T1=l1+4294967296*T5) (e2:T2=l2+4294967296*T6) (e3:T3=l3+4294967296*T7):(T0+T1+(T2+T3)) / 4294967296=T4+T5+T6+T7:=by omega
theorem s8e (s T:Nat) (h:s≤64):(s+256*T) % 128=s:=by omega
theorem sum8 (c0 c1 c2 c3 c4 c5 c6 c7:Nat) (h:c0≤8∧c1≤8∧c2≤8∧c3≤8∧c4≤8∧c5≤8∧c6≤8∧c7≤8) (t u w:Nat) (ht:t=c0+256*(c1+256*(c2+256*(c3+256*(c4+256*(c5+256*(c6+256*c7))))))) (hu:u=t+t / 256) (hw:w=u+u / 65536) :
  t≤578721382704613384∧(w+w / 4294967296) % 128=c0+(c1+(c2+(c3+(c4+(c5+(c6+c7)))))):=by
 obtain ⟨h0,h1,h2,h3,h4,h5,h6,h7⟩:=h
 obtain ⟨T7,e7⟩:∃ T,T=c7:=⟨_,rfl⟩
 rw [←e7] at ht
 obtain ⟨T6,e6⟩:∃ T,T=c6+256*T7:=⟨_,rfl⟩
 rw [←e6] at ht
 obtain ⟨T5,e5⟩:∃ T,T=c5+256*T6:=⟨_,rfl⟩
 rw [←e5] at ht
 obtain ⟨T4,e4⟩:∃ T,T=c4+256*T5:=⟨_,rfl⟩
 rw [←e4] at ht
 obtain ⟨T3,e3⟩:∃ T,T=c3+256*T4:=⟨_,rfl⟩
 rw [←e3] at ht
 obtain ⟨T2,e2⟩:∃ T,T=c2+256*T3:=⟨_,rfl⟩
 rw [←e2] at ht
 obtain ⟨T1,e1⟩:∃ T,T=c1+256*T2:=⟨_,rfl⟩
 rw [←e1] at ht
 have hb:t≤578721382704613384:=by
  have b7:T7≤8:=by omega
  have b6:T6≤2056:=by omega
  have b5:T5≤526344:=by omega
  have b4:T4≤134744072:=by omega
  have b3:T3≤34494482440:=by clear b5 b6 b7;omega
  have b2:T2≤8830587504648:=by clear b5 b6 b7 b4;omega
  have b1:T1≤2260630401189896:=by clear b5 b6 b7 b4 b3;omega
  clear b5 b6 b7 b4 b3 b2
  omega
 refine ⟨hb,?_⟩
 rw [show t / 256=T1 by rw [ht];exact s8a c0 T1 h0] at hu
 have hu2:u / 65536=T2+T3:=by rw [hu];exact s8b c0 c1 c2 c3 T3 T2 T1 t ⟨h0,h1,h2⟩ e2 e1 ht
 rw [hu2,hu] at hw
 have q0:=s8d c0 c1 c2 c3 T4 T3 T2 T1 t e3 e2 e1 ht
 have q1:=s8d c1 c2 c3 c4 T5 T4 T3 T2 T1 e4 e3 e2 e1
 have q2:=s8d c2 c3 c4 c5 T6 T5 T4 T3 T2 e5 e4 e3 e2
 have q3:=s8d c3 c4 c5 c6 T7 T6 T5 T4 T3 e6 e5 e4 e3
 have hw2:w / 4294967296=T4+T5+T6+T7:=by
  rw [hw]
  refine s8c _ _ _ _ T4 T5 T6 T7 t T1 T2 T3 ⟨?_,?_,?_,?_⟩ q0 q1 q2 q3
  ·clear q0 q1 q2 q3 hw hu hu2 ht hb e1 e2 e3 e4 e5 e6 e7;omega
  ·clear q0 q1 q2 q3 hw hu hu2 ht hb e1 e2 e3 e4 e5 e6 e7;omega
  ·clear q0 q1 q2 q3 hw hu hu2 ht hb e1 e2 e3 e4 e5 e6 e7;omega
  ·clear q0 q1 q2 q3 hw hu hu2 ht hb e1 e2 e3 e4 e5 e6 e7;omega
 have e:w+w / 4294967296=(c0+(c1+(c2+(c3+(c4+(c5+(c6+c7)))))))+256*(T1+T2+T3+T4+T5+T6+T7):=by
  rw [hw2,hw]
  clear q0 q1 q2 q3 hw hu hu2 hb hw2
  omega
 rw [e]
 refine s8e _ _ ?_
 clear q0 q1 q2 q3 hw hu hu2 ht hb hw2 e e1 e2 e3 e4 e5 e6 e7
 omega
theorem list8 {l:List Nat} (h:l.length=8):∃ a0 a1 a2 a3 a4 a5 a6 a7,l=[a0,a1,a2,a3,a4,a5,a6,a7]:=by
 obtain ⟨a0,l,rfl⟩:=List.exists_cons_of_length_eq_add_one h
 obtain ⟨a1,l,rfl⟩:=List.exists_cons_of_length_eq_add_one (n:=6) (by simpa using h)
 obtain ⟨a2,l,rfl⟩:=List.exists_cons_of_length_eq_add_one (n:=5) (by simpa using h)
 obtain ⟨a3,l,rfl⟩:=List.exists_cons_of_length_eq_add_one (n:=4) (by simpa using h)
 obtain ⟨a4,l,rfl⟩:=List.exists_cons_of_length_eq_add_one (n:=3) (by simpa using h)
 obtain ⟨a5,l,rfl⟩:=List.exists_cons_of_length_eq_add_one (n:=2) (by simpa using h)
 obtain ⟨a6,l,rfl⟩:=List.exists_cons_of_length_eq_add_one (n:=1) (by simpa using h)
 obtain ⟨a7,l,rfl⟩:=List.exists_cons_of_length_eq_add_one (n:=0) (by simpa using h)
 obtain rfl:l=[]:=by simpa using h
 exact ⟨_,_,_,_,_,_,_,_,rfl⟩
theorem bound8 (l:List Nat) (h:l.length=8) (m:Nat) (hm:∀ a∈l,a≤m):val l≤m*72340172838076673:=by
 obtain ⟨a0,a1,a2,a3,a4,a5,a6,a7,rfl⟩:=list8 h
 simp only [List.mem_cons,List.not_mem_nil,or_false,forall_eq_or_imp,forall_eq] at hm
 simp only [val]
 omega
theorem ones_eq (x y z t:Nat) (hx:x<18446744073709551616) (hy:y=(x / 2&&&6148914691236517205)+(x&&&6148914691236517205)) (hz:z=(y / 4&&&3689348814741910323)+(y&&&3689348814741910323)) (ht:t=(z / 16+z)&&&1085102592571150095) :
  y<18446744073709551616∧z≤4919131752989213764∧t≤578721382704613384∧((t+t / 256)+(t+t / 256) / 65536+((t+t / 256)+(t+t / 256) / 65536) / 4294967296) % 128=Go.Lib.popAux 64 x:=by
 obtain ⟨l,hl⟩:∃ l,l=bytesN 8 x:=⟨_,rfl⟩
 have hlen:l.length=8:=by rw [hl,bytesN_len]
 have hok:okB l:=by rw [hl];exact bytesN_ok 8 x
 have hv:val l=x:=by rw [hl];exact bytesN_val 8 x (by simpa using hx)
 have h1:=st1 l hok
 have hok1:okB (l.map b1):=fun a ha=>by
  obtain ⟨b,hb,rfl⟩:=List.mem_map.1 ha
  exact b1_lt ⟨b,hok b hb⟩
 have h2:=st2 (l.map b1) hok1
 have hok2:∀ a∈(l.map b1).map b2,a≤68∧a % 16≤4:=fun a ha=>by
  rw [List.map_map] at ha
  obtain ⟨b,hb,rfl⟩:=List.mem_map.1 ha
  exact b21_ok ⟨b,hok b hb⟩
 have h3:=st3 ((l.map b1).map b2) hok2
 have h4:=pop_val l hok
 simp only [List.length_map,hlen] at h1 h2 h3 h4
 rw [hv,show repB 85 8=6148914691236517205 from rfl,←hy] at h1
 rw [←h1,show repB 51 8=3689348814741910323 from rfl,←hz] at h2
 rw [←h2,show repB 15 8=1085102592571150095 from rfl,←ht] at h3
 rw [hv] at h4
 have hm:((l.map b1).map b2).map b3=l.map (Go.Lib.popAux 8):=by
  rw [List.map_map,List.map_map]
  exact List.map_congr_left fun a ha=>(pc_eq ⟨a,hok a ha⟩).1
 rw [hm] at h3
 have g1:=bound8 (l.map b1) (by simpa using hlen) 255 fun a ha=>by have:=hok1 a ha;omega
 have g2:=bound8 ((l.map b1).map b2) (by simpa using hlen) 68 fun a ha=>(hok2 a ha).1
 rw [←h1] at g1
 rw [←h2] at g2
 refine ⟨by omega,by omega,?_⟩
 obtain ⟨a0,a1,a2,a3,a4,a5,a6,a7,e⟩:=list8 hlen
 have q:∀ a∈l,Go.Lib.popAux 8 a≤8:=fun a ha=>(pc_eq ⟨a,hok a ha⟩).2
 rw [e] at q h3 h4
 simp only [List.mem_cons,List.not_mem_nil,or_false,forall_eq_or_imp,forall_eq] at q
 simp only [List.map_cons,List.map_nil,val,Nat.mul_zero,Nat.add_zero] at h3
 simp only [List.map_cons,List.map_nil,List.sum_cons,List.sum_nil,Nat.add_zero] at h4
 rw [show 8*8=64 from rfl] at h4
 rw [h4]
 exact sum8 _ _ _ _ _ _ _ _ q t _ _ h3 rfl rfl
theorem posL_last:∀ (n b:Nat),b<2 ^ n→b≠0→(posL n b).getLast? = some (Go.Lib.bitLenAux n b-1)
 | 0,b,h,h0=>by simp at h;omega
 | n+1,b,h,h0=>by
  rw [Nat.pow_succ] at h
  rw [Go.Lib.bitLenAux,if_neg h0]
  by_cases c:b / 2=0
  ·have:b=1:=by omega
   subst this
   have e:Go.Lib.bitLenAux n 0=0:=by cases n<;>simp [Go.Lib.bitLenAux]
   simp [posL,posL_zero,e]
  ·have ih:=posL_last n (b / 2) (by omega) c
   have hb:1≤Go.Lib.bitLenAux n (b / 2):=by
    cases n with
    | zero=>simp at h;omega
    | succ n=>rw [Go.Lib.bitLenAux,if_neg c];omega
   have e:((posL n (b / 2)).map (·+1)).getLast? = some (1+Go.Lib.bitLenAux n (b / 2)-1):=by
    rw [List.getLast?_map,ih]
    simp;omega
   unfold posL
   split
   ·rw [List.getLast?_cons,e]
    rfl
   ·exact e
structure Dm where
 vals:List Int
 live:Nat
 deriving DecidableEq,Inhabited
abbrev domV (d:Dm):V:=.agg [intsV d.vals,.int .u64 (d.live:Nat)]
def rising:Option Int→List Int→Bool
 | _,[]=>true
 | p,v::r=>decide (-1048576≤v)&&decide (v≤1048576)&&(match p with
  | none=>true
  | some q=>decide (q<v))&&rising (some v) r
def mayD (d:Dm):Bool:=decide (d.vals.length≤64)&&decide (d.live<2 ^ d.vals.length)&&rising none d.vals
def listD (d:Dm):List Int:=if mayD d=true then leftR d.vals d.live else []
def sizeD (d:Dm):Nat:=(listD d).length
def keptD (p:Int→Bool) (d:Dm):Dm:=if mayD d=true then ⟨d.vals,keepB p d.vals d.live⟩ else ⟨[],0⟩
theorem mayD_iff {d:Dm}:mayD d=true↔d.vals.length≤64∧d.live<2 ^ d.vals.length∧rising none d.vals=true:=by
 unfold mayD
 simp only [Bool.and_eq_true,decide_eq_true_eq]
 exact and_assoc
theorem keepB_all:∀ (l:List Int) (b:Nat),b<2 ^ l.length→keepB (fun _=>true) l b=b
 | [],b,h=>by simp at h;simp [keepB,h]
 | v::r,b,h=>by
  rw [List.length_cons,Nat.pow_succ] at h
  rw [keepB,keepB_all r (b / 2) (by omega)]
  by_cases c:b % 2=1
  ·simp [c];omega
  ·simp [c];omega
theorem keepB_odd (p:Int→Bool) (v:Int) (r:List Int) (b:Nat):keepB p (v::r) b % 2=(if b % 2=1∧p v=true then 1 else 0)∧keepB p (v::r) b / 2=keepB p r (b / 2):=by
 rw [keepB]
 split<;>constructor<;>omega
theorem keepB_keepB (p q:Int→Bool):∀ (l:List Int) (b:Nat),keepB p l (keepB q l b)=keepB (fun v=>q v&&p v) l b
 | [],b=>rfl
 | v::r,b=>by
  obtain ⟨h1,h2⟩:=keepB_odd q v r b
  rw [keepB,h1,h2,keepB_keepB p q r,keepB]
  congr 1
  by_cases c:b % 2=1<;>cases q v<;>cases p v<;>simp [c]
theorem leftR_keep (p:Int→Bool):∀ (l:List Int) (b:Nat),leftR l (keepB p l b)=(leftR l b).filter p
 | [],b=>rfl
 | v::r,b=>by
  obtain ⟨h1,h2⟩:=keepB_odd p v r b
  rw [leftR,h1,h2,leftR_keep p r,leftR]
  by_cases c:b % 2=1
  ·cases hp:p v<;>simp [c,hp]
  ·simp [c]
theorem leftR_head (l:List Int) (b:Nat) (hl:l.length≤64) (hb:b<2 ^ l.length) (h0:b≠0):(leftR l b)[0]? = some (l.getD (Go.Lib.ctz 64 b) 0):=by
 have h64:2 ^ l.length≤2 ^ 64:=Nat.pow_le_pow_right (by omega) hl
 have e:posL l.length b=lsts 64 b:=(lsts_pos l.length 64 b hl hb hl).symm
 rw [←leftR_pos,e]
 show (List.map _ (lsts (63+1) b))[0]? = _
 rw [lsts,if_neg h0]
 rfl
theorem leftR_last (l:List Int) (b:Nat) (hl:l.length≤64) (hb:b<2 ^ l.length) (h0:b≠0):(leftR l b).getLast? = some (l.getD (Go.Lib.bitLen b-1) 0):=by
 rw [←leftR_pos,List.getLast?_map,posL_last _ _ hb h0]
 unfold Go.Lib.bitLen
 rw [Go.Lib.bitLenAux_fuel l.length b hb 64 hl]
 rfl
theorem leftR_nil (l:List Int) (b:Nat) (hb:b<2 ^ l.length):leftR l b=[]↔b=0:=by
 rw [←leftR_pos,List.map_eq_nil_iff,posL_nil _ _ hb]
theorem leftR_size (l:List Int) (b:Nat) (hl:l.length≤64) (hb:b<2 ^ l.length):Go.Lib.popAux 64 b=(leftR l b).length:=by
 rw [leftR_len,←posL_fuel l.length 64 b hb hl,posL_len]
theorem bitLen_bd (b:Nat) (n:Nat) (hn:n≤64) (hb:b<2 ^ n) (h0:b≠0):1≤Go.Lib.bitLen b∧Go.Lib.bitLen b≤n:=by
 refine ⟨?_,Go.Lib.bitLen_le b n hn hb⟩
 unfold Go.Lib.bitLen
 show 1≤Go.Lib.bitLenAux (63+1) b
 rw [Go.Lib.bitLenAux,if_neg h0]
 omega
theorem ctz_lt (b n:Nat) (hn:n≤64) (hb:b<2 ^ n) (h0:b≠0):Go.Lib.ctz 64 b<n:=by
 have e:posL n b=lsts 64 b:=(lsts_pos n 64 b hn hb hn).symm
 refine posL_lt n b _ ?_
 rw [e]
 show _∈lsts (63+1) b
 rw [lsts,if_neg h0]
 simp
theorem rising_cons {p:Option Int} {v:Int} {r:List Int} (h:rising p (v::r)=true):-1048576≤v∧v≤1048576∧(∀ q,p=some q→q<v)∧rising (some v) r=true:=by
 cases p with
 | none=>simp [rising] at h;exact ⟨h.1.1,h.1.2,by simp,h.2⟩
 | some q=>simp [rising] at h;exact ⟨h.1.1.1,h.1.1.2,fun x e=>by cases e;exact h.1.2,h.2⟩
theorem rising_all:∀ {l:List Int} {p:Option Int},rising p l=true→(∀ v∈l,-1048576≤v∧v≤1048576)∧l.Pairwise (·<·)∧∀ q,p=some q→∀ v∈l,q<v
 | [],p,_=>⟨by simp,.nil,by simp⟩
 | v::r,p,h=>by
  obtain ⟨h1,h2,h3,h4⟩:=rising_cons h
  obtain ⟨g1,g2,g3⟩:=rising_all h4
  refine ⟨fun x hx=>?_,List.pairwise_cons.2 ⟨g3 v rfl,g2⟩,fun q hq x hx=>?_⟩
  ·rcases List.mem_cons.1 hx with rfl|hx
   ·exact ⟨h1,h2⟩
   ·exact g1 x hx
  ·have:=h3 q hq
   rcases List.mem_cons.1 hx with rfl|hx
   ·exact this
   ·have:=g3 v rfl x hx;omega
end Go.RR
namespace Go.RR.FX
open Go Go.RR Go.RR.M
abbrev Ls:=List (List Int)
def atL (L:Ls) (v:Int):List Int:=L.getD v.toNat []
def lo (xs:List Int):Int:=xs.headD 0
def hi (xs:List Int):Int:=xs.getLastD 0
def ends (L:Ls) (skip:Int→Bool):List Int→List Int→Int×Int
 | k::ks,v::vs=>if skip v=true then ends L skip ks vs else ((ends L skip ks vs).1+min (k*lo (atL L v)) (k*hi (atL L v)),(ends L skip ks vs).2+max (k*lo (atL L v)) (k*hi (atL L v)))
 | _,_=>(0,0)
def mayE (low high rel a:Int):Bool:=
 if rel=0 then decide (low≤a)&&decide (a≤high) else if rel=1 then !decide (low=a)||!decide (high=a) else if rel=2 then decide (low<a) else if rel=3 then decide (low≤a) else if rel=4 then decide (a<high) else decide (a≤high)
def crelF (r:Int):Int:=if r=0 then 1 else if r=1 then 0 else 7-r
def coefAt (ks vs:List Int) (v:Int):Int:=ks.getD (vs.idxOf v) 0
def kSum (ks vs:List Int) (rel a:Int) (L:Ls) (v x:Int):Bool:=
 mayE ((ends L (fun u=>u==v) ks vs).1+coefAt ks vs v*x) ((ends L (fun u=>u==v) ks vs).2+coefAt ks vs v*x) rel a
def wiped (vs:List Int) (L:Ls):Bool:=vs.any fun u=>(atL L u).isEmpty
def kIff (c:Con) (L:Ls) (v x:Int):Bool:=match c.vars with
 | []=>true
 | f::rest=>
  let yes:=(atL L f).contains 1
  let no:=(atL L f).contains 0
  if (!yes&&!no)=true then false
  else if v=f then
   (decide (x=1)&&mayE (ends L (fun _=>false) c.coefs rest).1 (ends L (fun _=>false) c.coefs rest).2 c.rel c.const)||(decide (x=0)&&mayE (ends L (fun _=>false) c.coefs rest).1 (ends L (fun _=>false) c.coefs rest).2 (crelF c.rel) c.const)
  else if no=false then kSum c.coefs rest c.rel c.const L v x
  else if yes=false then kSum c.coefs rest (crelF c.rel) c.const L v x
  else true
def kProd (vs:List Int) (L:Ls) (v x:Int):Bool:=
 if v=vs.getD 0 0 then (atL L (vs.getD 1 0)).any fun b=>(atL L (vs.getD 2 0)).contains (x*b)
 else if v=vs.getD 1 0 then (atL L (vs.getD 0 0)).any fun a=>(atL L (vs.getD 2 0)).contains (a*x)
 else (atL L (vs.getD 0 0)).any fun a=>(atL L (vs.getD 1 0)).any fun b=>a*b==x
def numAt (nums:List Int) (i n:Int):Bool:=decide (0≤i)&&decide (i<nums.length)&&(nums.getD i.toNat 0==n)
def kElem (c:Con) (L:Ls) (v x:Int):Bool:=
 if v=c.vars.getD 0 0 then (atL L (c.vars.getD 1 0)).any fun n=>numAt c.nums x n
 else (atL L (c.vars.getD 0 0)).any fun i=>numAt c.nums i x
def uni (l:List Int):List Int:=l.foldl (fun a v=>if a.contains v then a else a++[v]) []
def kDiff (vs:List Int) (L:Ls) (v x:Int):Bool:=
 !(wiped vs L||decide ((uni (vs.flatMap fun u=>atL L u)).length<vs.length))&&!(vs.any fun u=>!(u==v)&&(atL L u==[x]))
def rowsOf (n:Nat):Nat→List Int→List (List Int)
 | 0,_=>[]
 | k+1,nums=>nums.take n::rowsOf n k (nums.drop n)
def aliveR (vs:List Int) (L:Ls) (r:List Int):Bool:=(vs.zip r).all fun q=>(atL L q.1).contains q.2
def kTab (c:Con) (L:Ls) (v x:Int):Bool:=
 (rowsOf c.vars.length (c.nums.length / c.vars.length) c.nums).any fun r=>aliveR c.vars L r&&(r.getD (c.vars.idxOf v) 0==x)
def kp (c:Con) (L:Ls) (v x:Int):Bool:=
 if c.vars.contains v=false then true
 else if c.kind=1 then !wiped c.vars L&&kSum c.coefs c.vars c.rel c.const L v x
 else if c.kind=3 then !wiped c.vars L&&kIff c L v x
 else if c.kind=2 then kProd c.vars L v x
 else if c.kind=4 then kElem c L v x
 else if c.kind=5 then kDiff c.vars L v x
 else kTab c L v x
structure Sub (xs ys:List Int):Prop where
 m:∀ x∈xs,x∈ys
 s1:xs.Pairwise (·<·)
 s2:ys.Pairwise (·<·)
def SubL (vs:List Int) (L' L:Ls):Prop:=∀ v∈vs,Sub (atL L' v) (atL L v)
theorem lo_le {xs:List Int} (h:xs.Pairwise (·<·)) {x:Int} (hx:x∈xs):lo xs≤x:=by
 cases xs with
 | nil=>simp at hx
 | cons a r=>
  rcases List.mem_cons.1 hx with rfl|h2
  ·exact Int.le_refl _
  ·have:=(List.pairwise_cons.1 h).1 x h2
   show a≤x
   omega
theorem lo_mem {xs:List Int} (h:xs≠[]):lo xs∈xs:=by
 cases xs with
 | nil=>exact absurd rfl h
 | cons a r=>simp [lo]
theorem hi_mem {xs:List Int} (h:xs≠[]):hi xs∈xs:=by
 unfold hi
 rw [List.getLastD_eq_getLast?,List.getLast?_eq_some_getLast h]
 exact List.getLast_mem h
theorem le_hi {xs:List Int} (h:xs.Pairwise (·<·)):∀ {x:Int},x∈xs→x≤hi xs:=by
 induction xs with
 | nil=>intro x hx;simp at hx
 | cons a r ih=>
  intro x hx
  have hp:=List.pairwise_cons.1 h
  cases r with
  | nil=>
   simp only [List.mem_singleton] at hx
   subst hx
   simp [hi]
  | cons b r=>
   have e:hi (a::b::r)=hi (b::r):=by simp [hi,List.getLastD_eq_getLast?]
   rw [e]
   rcases List.mem_cons.1 hx with rfl|h2
   ·have h3:=ih hp.2 (x:=b) (by simp)
    have:=hp.1 b (by simp)
    omega
   ·exact ih hp.2 h2
theorem mul_ends {k a b lo' hi':Int} (h1:a≤lo') (h2:hi'≤b) (h3:lo'≤hi'):min (k*a) (k*b)≤min (k*lo') (k*hi')∧max (k*lo') (k*hi')≤max (k*a) (k*b):=by
 rcases Int.le_total 0 k with hk|hk
 ·have e1:k*a≤k*lo':=Int.mul_le_mul_of_nonneg_left h1 hk
  have e2:k*hi'≤k*b:=Int.mul_le_mul_of_nonneg_left h2 hk
  have e3:k*lo'≤k*hi':=Int.mul_le_mul_of_nonneg_left h3 hk
  omega
 ·have e1:k*lo'≤k*a:=Int.mul_le_mul_of_nonpos_left hk h1
  have e2:k*b≤k*hi':=Int.mul_le_mul_of_nonpos_left hk h2
  have e3:k*hi'≤k*lo':=Int.mul_le_mul_of_nonpos_left hk h3
  omega
theorem ends_mono {L' L:Ls} {skip:Int→Bool}:∀ {vs ks:List Int},SubL vs L' L→(∀ v∈vs,atL L' v≠[])→(ends L skip ks vs).1≤(ends L' skip ks vs).1∧(ends L' skip ks vs).2≤(ends L skip ks vs).2
 | [],ks,_,_=>by cases ks<;>simp [ends]
 | v::vs,[],_,_=>by simp [ends]
 | v::vs,k::ks,hs,hn=>by
  have ih:=ends_mono (skip:=skip) (vs:=vs) (ks:=ks) (fun u hu=>hs u (by simp [hu])) (fun u hu=>hn u (by simp [hu]))
  rw [ends,ends]
  by_cases c:skip v=true
  ·rw [if_pos c,if_pos c];exact ih
  ·rw [if_neg c,if_neg c]
   have h1:=hs v (by simp)
   have h2:=hn v (by simp)
   have m1:=h1.m _ (lo_mem h2)
   have m2:=h1.m _ (hi_mem h2)
   have:=mul_ends (k:=k) (lo_le h1.s2 m1) (le_hi h1.s2 m2) (lo_le h1.s1 (hi_mem h2))
   exact ⟨by omega,by omega⟩
theorem mayE_mono {l h l' h' rel a:Int} (h1:l≤l') (h2:h'≤h) (h3:l'≤h') (hm:mayE l' h' rel a=true):mayE l h rel a=true:=by
 unfold mayE at hm ⊢
 split
 ·rename_i e;rw [if_pos e] at hm;simp only [Bool.and_eq_true,decide_eq_true_eq] at hm ⊢;omega
 ·rename_i e;rw [if_neg e] at hm
  split
  ·rename_i e;rw [if_pos e] at hm;simp only [Bool.or_eq_true,Bool.not_eq_true',decide_eq_false_iff_not] at hm ⊢;omega
  ·rename_i e;rw [if_neg e] at hm
   split
   ·rename_i e;rw [if_pos e] at hm;simp only [decide_eq_true_eq] at hm ⊢;omega
   ·rename_i e;rw [if_neg e] at hm
    split
    ·rename_i e;rw [if_pos e] at hm;simp only [decide_eq_true_eq] at hm ⊢;omega
    ·rename_i e;rw [if_neg e] at hm
     split
     ·rename_i e;rw [if_pos e] at hm;simp only [decide_eq_true_eq] at hm ⊢;omega
     ·rename_i e;rw [if_neg e] at hm;simp only [decide_eq_true_eq] at hm ⊢;omega
theorem ends_le {L:Ls} {skip:Int→Bool}:∀ {vs ks:List Int},(ends L skip ks vs).1≤(ends L skip ks vs).2
 | [],ks=>by cases ks<;>simp [ends]
 | v::vs,[]=>by simp [ends]
 | v::vs,k::ks=>by
  have ih:=ends_le (L:=L) (skip:=skip) (vs:=vs) (ks:=ks)
  rw [ends]
  split
  ·exact ih
  ·show (_:Int)≤_
   simp only
   omega
theorem wiped_mono {vs:List Int} {L' L:Ls} (h:SubL vs L' L) (hw:wiped vs L'=false):wiped vs L=false:=by
 unfold wiped at hw ⊢
 rw [List.any_eq_false] at hw ⊢
 intro u hu q
 apply hw u hu
 simp only [List.isEmpty_iff] at q ⊢
 have:=(h u hu).m
 rw [q] at this
 rw [List.eq_nil_iff_forall_not_mem]
 intro x hx
 exact absurd (this x hx) (by simp)
theorem wiped_ne {vs:List Int} {L:Ls} (h:wiped vs L=false):∀ v∈vs,atL L v≠[]:=by
 unfold wiped at h
 rw [List.any_eq_false] at h
 intro v hv e
 exact h v hv (by simp [e])
theorem kSum_mono {ks vs:List Int} {rel a:Int} {L' L:Ls} {v x:Int} (hs:SubL vs L' L) (hn:∀ v∈vs,atL L' v≠[]) (h:kSum ks vs rel a L' v x=true):kSum ks vs rel a L v x=true:=by
 unfold kSum at h ⊢
 have h1:=ends_mono (skip:=fun u=>u==v) (ks:=ks) hs hn
 have h2:=ends_le (L:=L') (skip:=fun u=>u==v) (vs:=vs) (ks:=ks)
 exact mayE_mono (by omega) (by omega) (by omega) h
theorem contains_mono {xs ys:List Int} (h:Sub xs ys) {x:Int} (hx:xs.contains x=true):ys.contains x=true:=by
 rw [List.contains_iff_mem] at hx ⊢
 exact h.m x hx
theorem any_mono {xs ys:List Int} (h:Sub xs ys) {p q:Int→Bool} (hpq:∀ x,p x=true→q x=true) (hx:xs.any p=true):ys.any q=true:=by
 obtain ⟨x,h1,h2⟩:=List.any_eq_true.1 hx
 exact List.any_eq_true.2 ⟨x,h.m x h1,hpq x h2⟩
theorem SubL.mem {vs:List Int} {L' L:Ls} (h:SubL vs L' L) {v:Int} (hv:v∈vs):Sub (atL L' v) (atL L v):=h v hv
theorem kIff_mono {c:Con} {L' L:Ls} {v x:Int} (hs:SubL c.vars L' L) (hw:wiped c.vars L'=false) (hx:x∈atL L' v) (hv:v∈c.vars) (h:kIff c L' v x=true):kIff c L v x=true:=by
 have hn:=wiped_ne hw
 unfold kIff at h ⊢
 cases hc:c.vars with
 | nil=>rfl
 | cons f rest=>
  rw [hc] at h hs hn hv
  simp only at h ⊢
  have hf:=hs f (by simp)
  have hr:SubL rest L' L:=fun u hu=>hs u (by simp [hu])
  have hnr:∀ u∈rest,atL L' u≠[]:=fun u hu=>hn u (by simp [hu])
  by_cases c1:(!(atL L' f).contains 1&&!(atL L' f).contains 0)=true
  ·rw [if_pos c1] at h;cases h
  rw [if_neg c1] at h
  have yn:(atL L' f).contains 1=true∨(atL L' f).contains 0=true:=by
   cases h1:(atL L' f).contains 1<;>cases h0:(atL L' f).contains 0<;>simp_all
  have c1':¬(!(atL L f).contains 1&&!(atL L f).contains 0)=true:=by
   rcases yn with y|y<;>(have q:=contains_mono hf y;rw [q];simp)
  rw [if_neg c1']
  by_cases c2:v=f
  ·rw [if_pos c2] at h ⊢
   have h1:=ends_mono (skip:=fun _=>false) (ks:=c.coefs) hr hnr
   have h2:=ends_le (L:=L') (skip:=fun _=>false) (vs:=rest) (ks:=c.coefs)
   simp only [Bool.or_eq_true,Bool.and_eq_true] at h ⊢
   rcases h with ⟨h3,h4⟩|⟨h3,h4⟩
   ·exact .inl ⟨h3,mayE_mono h1.1 h1.2 h2 h4⟩
   ·exact .inr ⟨h3,mayE_mono h1.1 h1.2 h2 h4⟩
  ·rw [if_neg c2] at h ⊢
   by_cases c3:(atL L f).contains 0=false
   ·rw [if_pos c3]
    have c3':(atL L' f).contains 0=false:=by
     rw [Bool.eq_false_iff]
     intro q
     rw [contains_mono hf q] at c3
     cases c3
    rw [if_pos c3'] at h
    exact kSum_mono hr hnr h
   ·rw [if_neg c3]
    by_cases c4:(atL L f).contains 1=false
    ·rw [if_pos c4]
     have c4':(atL L' f).contains 1=false:=by
      rw [Bool.eq_false_iff]
      intro q
      rw [contains_mono hf q] at c4
      cases c4
     have c3':¬(atL L' f).contains 0=false:=by
      intro q
      rcases yn with y|y
      ·rw [c4'] at y;cases y
      ·rw [q] at y;cases y
     rw [if_neg c3',if_pos c4'] at h
     exact kSum_mono hr hnr h
    ·rw [if_neg c4]
theorem kProd_mono {vs:List Int} {L' L:Ls} {v x:Int} (hl:vs.length=3) (hs:SubL vs L' L) (h:kProd vs L' v x=true):kProd vs L v x=true:=by
 match vs,hl with
 | [a,b,c],_=>
  have ha:=hs a (by simp)
  have hb:=hs b (by simp)
  have hc:=hs c (by simp)
  unfold kProd at h ⊢
  simp only [List.getD_cons_zero,List.getD_cons_succ] at h ⊢
  split
  ·rename_i e;rw [if_pos e] at h;exact any_mono hb (fun y hy=>contains_mono hc hy) h
  ·rename_i e;rw [if_neg e] at h
   split
   ·rename_i e;rw [if_pos e] at h;exact any_mono ha (fun y hy=>contains_mono hc hy) h
   ·rename_i e;rw [if_neg e] at h;exact any_mono ha (fun y hy=>any_mono hb (fun _ q=>q) hy) h
theorem kElem_mono {c:Con} {L' L:Ls} {v x:Int} (hl:c.vars.length=2) (hs:SubL c.vars L' L) (h:kElem c L' v x=true):kElem c L v x=true:=by
 unfold kElem at h ⊢
 match hv:c.vars,hl with
 | [a,b],_=>
  rw [hv] at h hs
  have ha:=hs a (by simp)
  have hb:=hs b (by simp)
  simp only [List.getD_cons_zero,List.getD_cons_succ] at h ⊢
  split
  ·rename_i e;rw [if_pos e] at h;exact any_mono hb (fun _ q=>q) h
  ·rename_i e;rw [if_neg e] at h;exact any_mono ha (fun _ q=>q) h
theorem uni_aux:∀ (l a:List Int),a.Nodup→(l.foldl (fun a v=>if a.contains v then a else a++[v]) a).Nodup∧∀ x,x∈l.foldl (fun a v=>if a.contains v then a else a++[v]) a↔x∈a∨x∈l
 | [],a,h=>⟨h,fun x=>by simp⟩
 | v::r,a,h=>by
  rw [List.foldl_cons]
  by_cases c:a.contains v=true
  ·rw [if_pos c]
   obtain ⟨h1,h2⟩:=uni_aux r a h
   refine ⟨h1,fun x=>?_⟩
   rw [h2,List.mem_cons]
   have:=List.contains_iff_mem.1 c
   constructor
   ·rintro (q|q)
    ·exact .inl q
    ·exact .inr (.inr q)
   ·rintro (q|rfl|q)
    ·exact .inl q
    ·exact .inl this
    ·exact .inr q
  ·rw [if_neg c]
   have hv:v∉a:=fun q=>c (List.contains_iff_mem.2 q)
   obtain ⟨h1,h2⟩:=uni_aux r (a++[v]) (by
    rw [List.nodup_append]
    refine ⟨h,by simp,fun x hx y hy=>?_⟩
    rw [List.mem_singleton.1 hy]
    rintro rfl
    exact hv hx)
   refine ⟨h1,fun x=>?_⟩
   rw [h2,List.mem_append,List.mem_singleton,List.mem_cons]
   constructor
   ·rintro ((q|q)|q)
    ·exact .inl q
    ·exact .inr (.inl q)
    ·exact .inr (.inr q)
   ·rintro (q|q|q)
    ·exact .inl (.inl q)
    ·exact .inl (.inr q)
    ·exact .inr q
theorem uni_nodup (l:List Int):(uni l).Nodup:=(uni_aux l [] List.nodup_nil).1
theorem uni_mem (l:List Int) (x:Int):x∈uni l↔x∈l:=by
 have h:x∈uni l↔x∈[]∨x∈l:=(uni_aux l [] List.nodup_nil).2 x
 rw [h]
 simp
theorem nodup_len {a b:List Int} (h:a.Nodup) (hs:∀ x∈a,x∈b):a.length≤b.length:=by
 induction a generalizing b with
 | nil=>simp
 | cons x r ih=>
  have hx:=hs x (by simp)
  have hn:=List.nodup_cons.1 h
  have:=ih (b:=b.erase x) hn.2 (fun y hy=>(List.mem_erase_of_ne (by rintro rfl;exact hn.1 hy)).2 (hs y (by simp [hy])))
  rw [List.length_erase_of_mem hx] at this
  have:0<b.length:=List.length_pos_of_mem hx
  simp only [List.length_cons]
  omega
theorem kDiff_mono {vs:List Int} {L' L:Ls} {v x:Int} (hs:SubL vs L' L) (h:kDiff vs L' v x=true):kDiff vs L v x=true:=by
 unfold kDiff at h ⊢
 simp only [Bool.and_eq_true,Bool.not_eq_true',Bool.or_eq_false_iff,decide_eq_false_iff_not] at h ⊢
 obtain ⟨⟨h1,h2⟩,h3⟩:=h
 refine ⟨⟨wiped_mono hs h1,?_⟩,?_⟩
 ·have:(uni (vs.flatMap fun u=>atL L' u)).length≤(uni (vs.flatMap fun u=>atL L u)).length:=nodup_len (uni_nodup _) fun y hy=>by
   rw [uni_mem,List.mem_flatMap] at hy ⊢
   obtain ⟨u,hu,hy⟩:=hy
   exact ⟨u,hu,(hs u hu).m y hy⟩
  omega
 ·rw [List.any_eq_false] at h3 ⊢
  intro u hu q
  apply h3 u hu
  simp only [Bool.and_eq_true,beq_iff_eq,Bool.not_eq_true'] at q ⊢
  refine ⟨q.1,?_⟩
  have hn:=wiped_ne h1 u hu
  have hm:=(hs u hu).m
  have hp:=(hs u hu).s1
  rw [q.2] at hm
  cases e:atL L' u with
  | nil=>exact absurd e hn
  | cons a r=>
   rw [e] at hm hp
   have ha:=List.mem_singleton.1 (hm a (by simp))
   subst ha
   cases r with
   | nil=>rfl
   | cons b r=>
    have hb:=List.mem_singleton.1 (hm b (by simp))
    have:=(List.pairwise_cons.1 hp).1 b (by simp)
    omega
theorem alive_mono {vs r:List Int} {L' L:Ls} (hs:SubL vs L' L) (h:aliveR vs L' r=true):aliveR vs L r=true:=by
 unfold aliveR at h ⊢
 rw [List.all_eq_true] at h ⊢
 intro q hq
 exact contains_mono (hs q.1 (List.of_mem_zip hq).1) (h q hq)
theorem kTab_mono {c:Con} {L' L:Ls} {v x:Int} (hs:SubL c.vars L' L) (h:kTab c L' v x=true):kTab c L v x=true:=by
 unfold kTab at h ⊢
 obtain ⟨r,h1,h2⟩:=List.any_eq_true.1 h
 refine List.any_eq_true.2 ⟨r,h1,?_⟩
 simp only [Bool.and_eq_true] at h2 ⊢
 exact ⟨alive_mono hs h2.1,h2.2⟩
structure ConW (c:Con):Prop where
 p:c.kind=2→c.vars.length=3
 e:c.kind=4→c.vars.length=2
theorem kp_mono {c:Con} {L' L:Ls} {v x:Int} (hw:ConW c) (hs:SubL c.vars L' L) (hx:x∈atL L' v) (h:kp c L' v x=true):kp c L v x=true:=by
 unfold kp at h ⊢
 split
 ·rfl
 rename_i c0
 rw [if_neg c0] at h
 have hv:v∈c.vars:=List.contains_iff_mem.1 (by simpa using c0)
 split
 ·rename_i e
  rw [if_pos e] at h
  simp only [Bool.and_eq_true,Bool.not_eq_true'] at h ⊢
  exact ⟨wiped_mono hs h.1,kSum_mono hs (wiped_ne h.1) h.2⟩
 rename_i e;rw [if_neg e] at h
 split
 ·rename_i e
  rw [if_pos e] at h
  simp only [Bool.and_eq_true,Bool.not_eq_true'] at h ⊢
  exact ⟨wiped_mono hs h.1,kIff_mono hs h.1 hx hv h.2⟩
 rename_i e;rw [if_neg e] at h
 split
 ·rename_i e;rw [if_pos e] at h;exact kProd_mono (hw.p e) hs h
 rename_i e;rw [if_neg e] at h
 split
 ·rename_i e;rw [if_pos e] at h;exact kElem_mono (hw.e e) hs h
 rename_i e;rw [if_neg e] at h
 split
 ·rename_i e;rw [if_pos e] at h;exact kDiff_mono hs h
 ·rename_i e;rw [if_neg e] at h;exact kTab_mono hs h
def rv (row:List Int) (v:Int):Int:=row.getD v.toNat 0
def one (row:List Int):Ls:=row.map fun x=>[x]
theorem one_at {row:List Int} {v:Int} (h:0≤v∧v<row.length):atL (one row) v=[rv row v]:=by
 have hl:v.toNat<row.length:=by omega
 unfold atL one rv
 rw [List.getD_eq_getElem?_getD,List.getElem?_map,List.getElem?_eq_getElem hl,List.getD_eq_getElem?_getD,List.getElem?_eq_getElem hl]
 rfl
def dotX (row:List Int) (skip:Int→Bool):List Int→List Int→Int
 | k::ks,v::vs=>(if skip v=true then 0 else k*rv row v)+dotX row skip ks vs
 | _,_=>0
theorem ends_one {row:List Int} {skip:Int→Bool}:∀ {vs ks:List Int},(∀ v∈vs,0≤v∧v<row.length)→ends (one row) skip ks vs=(dotX row skip ks vs,dotX row skip ks vs)
 | [],ks,_=>by cases ks<;>simp [ends,dotX]
 | v::vs,[],_=>by simp [ends,dotX]
 | v::vs,k::ks,h=>by
  have ih:=ends_one (skip:=skip) (vs:=vs) (ks:=ks) fun u hu=>h u (by simp [hu])
  rw [ends,dotX,ih,one_at (h v (by simp))]
  split
  ·simp
  ·have e1:lo [rv row v]=rv row v:=rfl
   have e2:hi [rv row v]=rv row v:=rfl
   rw [e1,e2]
   have a1:min (k*rv row v) (k*rv row v)=k*rv row v:=by omega
   have a2:max (k*rv row v) (k*rv row v)=k*rv row v:=by omega
   simp only [a1,a2,Int.add_comm]
theorem dot_all {row:List Int}:∀ {vs ks:List Int},dotI ks (vs.map (rv row))=dotX row (fun _=>false) ks vs
 | [],ks=>by cases ks<;>simp [dotI,dotX]
 | v::vs,[]=>by simp [dotI,dotX]
 | v::vs,k::ks=>by
  rw [List.map_cons,dotI,dotX,dot_all]
  simp
theorem dot_no {row:List Int} {v:Int}:∀ {vs ks:List Int},v∉vs→dotX row (fun u=>u==v) ks vs=dotX row (fun _=>false) ks vs
 | [],ks,_=>by cases ks<;>simp [dotX]
 | u::vs,[],_=>by simp [dotX]
 | u::vs,k::ks,h=>by
  simp only [List.mem_cons,not_or] at h
  rw [dotX,dotX,dot_no h.2]
  have:(u==v)=false:=by simp only [beq_eq_false_iff_ne];exact fun e=>h.1 e.symm
  rw [this]
theorem dot_split {row:List Int} {v:Int}:∀ {vs ks:List Int},vs.Nodup→v∈vs→ks.length=vs.length→dotX row (fun u=>u==v) ks vs+coefAt ks vs v*rv row v=dotX row (fun _=>false) ks vs
 | [],ks,_,h,_=>by simp at h
 | u::vs,[],_,_,h=>by simp at h
 | u::vs,k::ks,hn,hv,hl=>by
  have hn2:=List.nodup_cons.1 hn
  rw [dotX,dotX]
  by_cases c:u=v
  ·subst c
   have e:coefAt (k::ks) (u::vs) u=k:=by simp [coefAt]
   rw [e,dot_no hn2.1]
   simp
   omega
  ·have c2:(u==v)=false:=by simpa using c
   have hv2:v∈vs:=by
    rcases List.mem_cons.1 hv with e|h
    ·exact absurd e.symm c
    ·exact h
   have ih:=dot_split (row:=row) hn2.2 hv2 (ks:=ks) (by simpa using hl)
   have e:coefAt (k::ks) (u::vs) v=coefAt ks vs v:=by
    unfold coefAt
    rw [List.idxOf_cons,c2]
    simp
   rw [e,c2]
   simp only [Bool.false_eq_true,if_false]
   omega
theorem may_one {s r a:Int} (h:0≤r∧r≤5):mayE s s r a=relB r s a:=by
 have:r=0∨r=1∨r=2∨r=3∨r=4∨r=5:=by omega
 rcases this with rfl|rfl|rfl|rfl|rfl|rfl<;>simp [mayE,relB]
 rw [Bool.eq_iff_iff]
 simp only [Bool.and_eq_true,decide_eq_true_eq]
 omega
theorem kSum_one {ks vs:List Int} {r a v:Int} {row:List Int} (hr:0≤r∧r≤5) (hn:vs.Nodup) (hv:v∈vs) (hl:ks.length=vs.length) (hb:∀ v∈vs,0≤v∧v<row.length):kSum ks vs r a (one row) v (rv row v)=relB r (dotI ks (vs.map (rv row))) a:=by
 unfold kSum
 rw [ends_one hb]
 simp only
 rw [dot_split hn hv hl,may_one hr,dot_all]
theorem relB_crel {r a b:Int} (h:0≤r∧r≤5):relB (crelF r) a b=!relB r a b:=by
 have:r=0∨r=1∨r=2∨r=3∨r=4∨r=5:=by omega
 rcases this with rfl|rfl|rfl|rfl|rfl|rfl<;>simp [relB,crelF]<;>by_cases c:a≤b<;>by_cases d:b≤a<;>first|(simp [c,d];omega)|simp [c,d]|omega
theorem crelF_ok {r:Int} (h:0≤r∧r≤5):0≤crelF r∧crelF r≤5:=by
 unfold crelF
 split
 ·omega
 ·split<;>omega
theorem wiped_one {vs:List Int} {row:List Int} (hb:∀ v∈vs,0≤v∧v<row.length):wiped vs (one row)=false:=by
 unfold wiped
 rw [List.any_eq_false]
 intro u hu
 rw [one_at (hb u hu)]
 simp
theorem map_inj {f:Int→Int}:∀ {l:List Int},(l.map f).Nodup→∀ {a b:Int},a∈l→b∈l→f a=f b→a=b
 | [],_,a,b,ha,_,_=>by simp at ha
 | x::r,h,a,b,ha,hb,e=>by
  rw [List.map_cons,List.nodup_cons] at h
  rcases List.mem_cons.1 ha with e1|ha2
  ·rcases List.mem_cons.1 hb with e2|hb2
   ·rw [e1,e2]
   ·exact absurd (List.mem_map.2 ⟨b,hb2,by rw [←e,e1]⟩) h.1
  ·rcases List.mem_cons.1 hb with e2|hb2
   ·exact absurd (List.mem_map.2 ⟨a,ha2,by rw [e,e2]⟩) h.1
   ·exact map_inj h.2 ha2 hb2 e
theorem tab_rows {n:Nat} {vals:List Int}:∀ {k:Nat} {nums:List Int},tabN n vals k nums=true→vals∈rowsOf n k nums
 | 0,nums,h=>by simp [tabN] at h
 | k+1,nums,h=>by
  unfold tabN at h
  unfold rowsOf
  simp only [Bool.or_eq_true,decide_eq_true_eq] at h
  rcases h with h|h
  ·rw [h];simp
  ·exact List.mem_cons_of_mem _ (tab_rows h)
theorem vOK_nodup {n:Int}:∀ {l pre:List Int},vOK n pre l=true→l.Nodup∧∀ v∈l,v∉pre
 | [],pre,_=>⟨List.nodup_nil,by simp⟩
 | v::r,pre,h=>by
  simp only [vOK,Bool.and_eq_true,Bool.not_eq_true',List.any_eq_false,decide_eq_true_eq] at h
  obtain ⟨⟨⟨h1,h2⟩,h3⟩,h4⟩:=h
  obtain ⟨i1,i2⟩:=vOK_nodup h4
  have hv:v∉pre:=fun q=>h3 v q (by simp)
  refine ⟨List.nodup_cons.2 ⟨fun q=>i2 v q (by simp),i1⟩,fun u hu=>?_⟩
  rcases List.mem_cons.1 hu with rfl|hu
  ·exact hv
  ·exact fun q=>i2 u hu (by simp [q])
structure RC (c:Con) (n:Nat):Prop where
 nd:c.vars.Nodup
 b:∀ v∈c.vars,0≤v∧v<n
 w:ConW c
 k:1≤c.kind∧c.kind≤6
 s:c.kind=1→c.coefs.length=c.vars.length∧0≤c.rel∧c.rel≤5
 i:c.kind=3→c.coefs.length+1=c.vars.length∧0≤c.rel∧c.rel≤5
 t:c.kind=6→1≤c.vars.length∧c.nums.length % c.vars.length=0
 v8:c.vars.length≤9∧c.nums.length≤96
theorem RC.of {c:Con} {n:Nat} (h:rightB c n=true):RC c n:=by
 have key:∀ {a b:Int},varsB c n a b=true→c.vars.Nodup∧(∀ v∈c.vars,0≤v∧v<n)∧a≤c.vars.length∧(c.vars.length:Int)≤b:=fun {a b} h=>by
  unfold varsB at h
  simp only [Bool.and_eq_true,decide_eq_true_eq] at h
  exact ⟨(vOK_nodup h.2).1,vOK_all h.2,h.1.1,h.1.2⟩
 unfold rightB at h
 split at h
 ·rename_i e
  unfold linearB sumB at h
  simp only [Bool.and_eq_true,decide_eq_true_eq] at h
  obtain ⟨k1,k2,k3,k4⟩:=key h.1
  exact ⟨k1,k2,⟨fun q=>by omega,fun q=>by omega⟩,by omega,fun _=>⟨by omega,h.2.2.2.2.1,h.2.2.2.2.2.1⟩,fun q=>by omega,fun q=>by omega,by omega,by have:=h.2.2.2.2.2.2.2;omega⟩
 split at h
 ·rename_i e
  unfold productB bareB at h
  simp only [Bool.and_eq_true,decide_eq_true_eq] at h
  obtain ⟨k1,k2,k3,k4⟩:=key h.1
  exact ⟨k1,k2,⟨fun q=>by omega,fun q=>by omega⟩,by omega,fun q=>by omega,fun q=>by omega,fun q=>by omega,by omega,by have:=h.2.2.2.2.2.1;omega⟩
 split at h
 ·rename_i e
  unfold iffB sumB at h
  simp only [Bool.and_eq_true,decide_eq_true_eq] at h
  obtain ⟨k1,k2,k3,k4⟩:=key h.1
  exact ⟨k1,k2,⟨fun q=>by omega,fun q=>by omega⟩,by omega,fun q=>by omega,fun _=>⟨by omega,h.2.2.2.2.1,h.2.2.2.2.2.1⟩,fun q=>by omega,by omega,by have:=h.2.2.2.2.2.2.2;omega⟩
 split at h
 ·rename_i e
  unfold elementB bareB at h
  simp only [Bool.and_eq_true,decide_eq_true_eq] at h
  obtain ⟨k1,k2,k3,k4⟩:=key h.1
  exact ⟨k1,k2,⟨fun q=>by omega,fun q=>by omega⟩,by omega,fun q=>by omega,fun q=>by omega,fun q=>by omega,by omega,by have:=h.2.2.2.2.2.1;omega⟩
 split at h
 ·rename_i e
  unfold differB bareB at h
  simp only [Bool.and_eq_true,decide_eq_true_eq] at h
  obtain ⟨k1,k2,k3,k4⟩:=key h.1
  exact ⟨k1,k2,⟨fun q=>by omega,fun q=>by omega⟩,by omega,fun q=>by omega,fun q=>by omega,fun q=>by omega,by omega,by have:=h.2.2.2.2.2.1;omega⟩
 split at h
 ·rename_i e
  unfold tableB bareB at h
  simp only [Bool.and_eq_true,decide_eq_true_eq] at h
  obtain ⟨k1,k2,k3,k4⟩:=key h.1
  refine ⟨k1,k2,⟨fun q=>by omega,fun q=>by omega⟩,by omega,fun q=>by omega,fun q=>by omega,fun _=>⟨by omega,?_⟩,by omega,by have:=h.2.1.2.2.2.2.1;omega⟩
  have:=h.2.2
  rw [Int.tmod_eq_emod_of_nonneg (by omega)] at this
  omega
 ·cases h
theorem kp_one {c:Con} {row:List Int} (h:RC c row.length) (hh:holdsB c row=true) {v:Int} (hv:v∈c.vars):kp c (one row) v (rv row v)=true:=by
 have hb:=h.b
 have hvals:valsOf c row=c.vars.map (rv row):=rfl
 unfold kp
 have hc:c.vars.contains v=true:=List.contains_iff_mem.2 hv
 rw [if_neg (by rw [hc];simp)]
 have hw:wiped c.vars (one row)=false:=wiped_one hb
 unfold holdsB at hh
 rw [hvals] at hh
 by_cases e1:c.kind=1
 ·rw [if_pos e1] at hh ⊢
  have hs:=h.s e1
  rw [hw,kSum_one hs.2 h.nd hv hs.1 hb,hh]
  rfl
 rw [if_neg e1] at hh ⊢
 by_cases e3:c.kind=3
 ·rw [if_neg (by omega),if_pos e3] at hh
  rw [if_pos e3,hw]
  have hs:=h.i e3
  simp only [Bool.not_false,Bool.true_and]
  unfold kIff
  match hcv:c.vars with
  | []=>rfl
  | f::rest=>
   rw [hcv] at hh hs hv hb
   have hnd:=h.nd
   rw [hcv] at hnd
   have hnd2:=List.nodup_cons.1 hnd
   have hbr:∀ v∈rest,0≤v∧v<row.length:=fun u hu=>hb u (by simp [hu])
   simp only [List.map_cons,List.getD_cons_zero,List.drop_succ_cons,List.drop_zero,List.length_cons] at hh hs
   simp only
   rw [one_at (hb f (by simp))]
   simp only [Bool.or_eq_true,Bool.and_eq_true,decide_eq_true_eq,Bool.not_eq_true'] at hh
   rw [ends_one hbr]
   simp only
   rw [may_one hs.2,may_one (crelF_ok hs.2),relB_crel hs.2,←dot_all]
   rcases hh with ⟨h1,h2⟩|⟨h1,h2⟩
   ·rw [h1]
    have q1:([1]:List Int).contains 1=true:=by decide
    have q0:([1]:List Int).contains 0=false:=by decide
    rw [q1,q0,if_neg (by simp)]
    by_cases d:v=f
    ·rw [if_pos d,d,h1,h2];rfl
    ·rw [if_neg d,if_pos rfl]
     have hvr:v∈rest:=by
      rcases List.mem_cons.1 hv with q|q
      ·exact absurd q d
      ·exact q
     rw [kSum_one hs.2 hnd2.2 hvr (by omega) hbr]
     exact h2
   ·rw [h1]
    have q1:([0]:List Int).contains 1=false:=by decide
    have q0:([0]:List Int).contains 0=true:=by decide
    rw [q1,q0,if_neg (by simp)]
    by_cases d:v=f
    ·rw [if_pos d,d,h1,h2];rfl
    ·rw [if_neg d,if_neg (by simp),if_pos rfl]
     have hvr:v∈rest:=by
      rcases List.mem_cons.1 hv with q|q
      ·exact absurd q d
      ·exact q
     rw [kSum_one (crelF_ok hs.2) hnd2.2 hvr (by omega) hbr,relB_crel hs.2,h2]
     rfl
 rw [if_neg e3]
 by_cases e2:c.kind=2
 ·rw [if_pos e2] at hh ⊢
  match hcv:c.vars,h.w.p e2 with
  | [a,b,d],_=>
   rw [hcv] at hh hv hb
   simp only [List.map_cons,List.map_nil,List.getD_cons_zero,List.getD_cons_succ,decide_eq_true_eq] at hh
   unfold kProd
   simp only [List.getD_cons_zero,List.getD_cons_succ]
   rw [one_at (hb a (by simp)),one_at (hb b (by simp)),one_at (hb d (by simp))]
   by_cases q1:v=a
   ·rw [if_pos q1,q1];simp [hh]
   ·rw [if_neg q1]
    by_cases q2:v=b
    ·rw [if_pos q2,q2];simp [hh]
    ·rw [if_neg q2]
     have q3:v=d:=by simp at hv;omega
     rw [q3];simp [hh]
 rw [if_neg e2,if_neg e3] at hh
 rw [if_neg e2]
 by_cases e4:c.kind=4
 ·rw [if_pos e4] at hh ⊢
  unfold kElem
  match hcv:c.vars,h.w.e e4 with
  | [a,b],_=>
   rw [hcv] at hh hv hb
   simp only [List.map_cons,List.map_nil,List.getD_cons_zero,List.getD_cons_succ,Bool.and_eq_true,decide_eq_true_eq] at hh ⊢
   rw [one_at (hb a (by simp)),one_at (hb b (by simp))]
   have hq:numAt c.nums (rv row a) (rv row b)=true:=by
    unfold numAt
    simp only [Bool.and_eq_true,decide_eq_true_eq,beq_iff_eq]
    exact ⟨⟨hh.1,hh.2.1⟩,hh.2.2⟩
   by_cases q1:v=a
   ·rw [if_pos q1,q1];simp [hq]
   ·rw [if_neg q1]
    have q2:v=b:=by simp at hv;omega
    rw [q2];simp [hq]
 rw [if_neg e4] at hh ⊢
 by_cases e5:c.kind=5
 ·rw [if_pos e5] at hh ⊢
  rw [decide_eq_true_eq] at hh
  unfold kDiff
  have hfm:(c.vars.flatMap fun u=>atL (one row) u)=c.vars.map (rv row):=by
   have:∀ l:List Int,(∀ v∈l,0≤v∧v<row.length)→(l.flatMap fun u=>atL (one row) u)=l.map (rv row):=fun l=>by
    induction l with
    | nil=>intro _;rfl
    | cons u r ih=>
     intro hl
     rw [List.flatMap_cons,ih fun v hv=>hl v (by simp [hv]),one_at (hl u (by simp))]
     rfl
   exact this _ hb
  rw [hw,hfm]
  have hlen:=nodup_len hh (fun x hx=>(uni_mem _ x).2 hx)
  rw [List.length_map] at hlen
  simp only [Bool.false_or,Bool.and_eq_true,Bool.not_eq_true',decide_eq_false_iff_not]
  refine ⟨by omega,?_⟩
  rw [List.any_eq_false]
  intro u hu q
  simp only [Bool.and_eq_true,Bool.not_eq_true',beq_iff_eq,beq_eq_false_iff_ne] at q
  rw [one_at (hb u hu)] at q
  exact q.1 (map_inj hh hu hv (by simpa using q.2))
 ·rw [if_neg e5] at hh ⊢
  unfold kTab
  have ht:=tab_rows hh
  refine List.any_eq_true.2 ⟨_,ht,?_⟩
  simp only [Bool.and_eq_true,beq_iff_eq]
  constructor
  ·unfold aliveR
   rw [List.all_eq_true]
   intro q hq
   have:∀ l:List Int,(∀ v∈l,0≤v∧v<row.length)→∀ q∈l.zip (l.map (rv row)),(atL (one row) q.1).contains q.2=true:=fun l=>by
    induction l with
    | nil=>intro _ q hq;simp at hq
    | cons u r ih=>
     intro hl q hq
     rw [List.map_cons,List.zip_cons_cons] at hq
     rcases List.mem_cons.1 hq with rfl|hq
     ·simp only
      rw [one_at (hl u (by simp))]
      simp
     ·exact ih (fun v hv=>hl v (by simp [hv])) q hq
   exact this _ hb q hq
  ·have hi:=List.idxOf_lt_length_of_mem hv
   rw [List.getD_eq_getElem?_getD,List.getElem?_map,List.getElem?_eq_getElem hi,List.getElem_idxOf hi]
   rfl
theorem keptD_congr {p q:Int→Bool} {d:Dm} (h:∀ x∈listD d,p x=q x):keptD p d=keptD q d:=by
 unfold keptD
 unfold listD at h
 split
 ·rename_i hm
  rw [if_pos hm] at h
  rw [keepB_congr _ _ h]
 ·rfl
theorem kept_may {p:Int→Bool} {d:Dm} (hm:mayD d=true):(keptD p d).vals=d.vals∧mayD (keptD p d)=true∧listD (keptD p d)=(listD d).filter p:=by
 have e:keptD p d=⟨d.vals,keepB p d.vals d.live⟩:=if_pos hm
 have hm2:mayD (⟨d.vals,keepB p d.vals d.live⟩:Dm)=true:=by
  rw [mayD_iff] at hm ⊢
  exact ⟨hm.1,keepB_lt p _ _,hm.2.2⟩
 refine ⟨by rw [e],by rw [e,hm2],?_⟩
 rw [e]
 unfold listD
 rw [if_pos hm2,if_pos hm]
 exact leftR_keep p d.vals d.live
theorem kept_all {p:Int→Bool} {d:Dm} (hm:mayD d=true) (h:∀ x∈listD d,p x=true):keptD p d=d:=by
 have e:keptD p d=keptD (fun _=>true) d:=keptD_congr h
 rw [e]
 unfold keptD
 rw [if_pos hm,keepB_all _ _ (mayD_iff.1 hm).2.1]
theorem listD_sorted {d:Dm} (hm:mayD d=true):(listD d).Pairwise (·<·):=by
 unfold listD
 rw [if_pos hm]
 have:=(rising_all (mayD_iff.1 hm).2.2).2.1
 have:∀ (l:List Int) (b:Nat),l.Pairwise (·<·)→(leftR l b).Pairwise (·<·):=fun l=>by
  induction l with
  | nil=>intro b _;simp [leftR]
  | cons v r ih=>
   intro b hp
   have hp2:=List.pairwise_cons.1 hp
   unfold leftR
   split
   ·exact List.pairwise_cons.2 ⟨fun x hx=>hp2.1 x (leftR_mem r _ x hx),ih _ hp2.2⟩
   ·exact ih _ hp2.2
 exact this _ _ (by assumption)
theorem leftR_inj:∀ {l:List Int} {a b:Nat},l.Pairwise (·<·)→a<2 ^ l.length→b<2 ^ l.length→(∀ x,x∈leftR l a↔x∈leftR l b)→a=b
 | [],a,b,_,ha,hb,_=>by simp at ha hb;omega
 | v::r,a,b,hp,ha,hb,h=>by
  have hp2:=List.pairwise_cons.1 hp
  have nv:∀ k,v∉leftR r k:=fun k q=>by
   have:=hp2.1 v (leftR_mem r k v q)
   omega
  rw [List.length_cons,Nat.pow_succ] at ha hb
  have hpar:a % 2=1↔b % 2=1:=by
   have:=h v
   unfold leftR at this
   constructor
   ·intro q
    rw [if_pos q] at this
    rcases Nat.mod_two_eq_zero_or_one b with z|z
    ·rw [if_neg (by omega)] at this
     exact absurd (this.1 (by simp)) (nv _)
    ·exact z
   ·intro q
    rw [if_pos q] at this
    rcases Nat.mod_two_eq_zero_or_one a with z|z
    ·rw [if_neg (by omega)] at this
     exact absurd (this.2 (by simp)) (nv _)
    ·exact z
  have ih:=leftR_inj (l:=r) (a:=a / 2) (b:=b / 2) hp2.2 (by omega) (by omega) fun x=>by
   have:=h x
   unfold leftR at this
   by_cases q:a % 2=1
   ·rw [if_pos q,if_pos (hpar.1 q),List.mem_cons,List.mem_cons] at this
    constructor
    ·intro hx
     rcases this.1 (.inr hx) with e|e
     ·subst e;exact absurd hx (nv _)
     ·exact e
    ·intro hx
     rcases this.2 (.inr hx) with e|e
     ·subst e;exact absurd hx (nv _)
     ·exact e
   ·rw [if_neg q,if_neg (fun z=>q (hpar.2 z))] at this
    exact this
  omega
structure LeD (a b:Dm):Prop where
 ma:mayD a=true
 mb:mayD b=true
 v:a.vals=b.vals
 s:∀ x∈listD a,x∈listD b
theorem LeD.refl {a:Dm} (h:mayD a=true):LeD a a:=⟨h,h,rfl,fun _ q=>q⟩
theorem LeD.trans {a b c:Dm} (h:LeD a b) (k:LeD b c):LeD a c:=⟨h.ma,k.mb,h.v.trans k.v,fun x q=>k.s x (h.s x q)⟩
theorem LeD.anti {a b:Dm} (h:LeD a b) (k:LeD b a):a=b:=by
 obtain ⟨va,la⟩:=a
 obtain ⟨vb,lb⟩:=b
 have e:va=vb:=h.v
 subst e
 have hs:=h.s
 have ks:=k.s
 have ma:=h.ma
 have mb:=h.mb
 unfold listD at hs ks
 rw [if_pos ma,if_pos mb] at hs
 rw [if_pos ma,if_pos mb] at ks
 have:la=lb:=leftR_inj (l:=va) (rising_all (mayD_iff.1 ma).2.2).2.1 (mayD_iff.1 ma).2.1 (mayD_iff.1 mb).2.1 fun x=>⟨hs x,ks x⟩
 rw [this]
theorem LeD.kept {p:Int→Bool} {d:Dm} (hm:mayD d=true):LeD (keptD p d) d:=by
 obtain ⟨h1,h2,h3⟩:=kept_may (p:=p) hm
 exact ⟨h2,hm,h1,fun x hx=>by rw [h3] at hx;exact (List.mem_filter.1 hx).1⟩
abbrev Ds:=List Dm
def okL (l:Ds):Prop:=∀ d∈l,mayD d=true
def lists (l:Ds):Ls:=l.map listD
def LeL (a b:Ds):Prop:=a.length=b.length∧∀ (i:Nat) (h:i<a.length) (k:i<b.length),LeD a[i] b[i]
theorem LeL.refl {a:Ds} (h:okL a):LeL a a:=⟨rfl,fun i h1 _=>LeD.refl (h _ (List.getElem_mem h1))⟩
theorem LeL.trans {a b c:Ds} (h:LeL a b) (k:LeL b c):LeL a c:=⟨h.1.trans k.1,fun i h1 h2=>(h.2 i h1 (by have:=h.1;omega)).trans (k.2 i (by have:=h.1;omega) h2)⟩
theorem LeL.anti {a b:Ds} (h:LeL a b) (k:LeL b a):a=b:=List.ext_getElem h.1 fun i h1 h2=>(h.2 i h1 h2).anti (k.2 i h2 h1)
theorem LeL.okl {a b:Ds} (h:LeL a b):okL a:=fun d hd=>by
 obtain ⟨i,hi,rfl⟩:=List.mem_iff_getElem.1 hd
 exact (h.2 i hi (by have:=h.1;omega)).ma
theorem atL_lists {l:Ds} {v:Int} (h:0≤v∧v<l.length):atL (lists l) v=listD (l[v.toNat]'(by omega)):=by
 unfold atL lists
 rw [List.getD_eq_getElem?_getD,List.getElem?_map,List.getElem?_eq_getElem (by omega)]
 rfl
def stepD (c:Con) (l:Ds):Ds:=l.mapIdx fun i d=>keptD (kp c (lists l) i) d
theorem stepD_len {c:Con} {l:Ds}:(stepD c l).length=l.length:=by simp [stepD]
theorem stepD_get {c:Con} {l:Ds} {i:Nat} (h:i<(stepD c l).length):(stepD c l)[i]=keptD (kp c (lists l) i) (l[i]'(by rw [stepD_len] at h;exact h)):=by
 simp [stepD]
theorem step_le {c:Con} {l:Ds} (h:okL l):LeL (stepD c l) l:=⟨stepD_len,fun i h1 h2=>by rw [stepD_get];exact LeD.kept (h _ (List.getElem_mem h2))⟩
theorem LeL.sub {a b:Ds} (h:LeL a b) {vs:List Int} (hv:∀ v∈vs,0≤v∧v<b.length):SubL vs (lists a) (lists b):=fun v hv'=>by
 have hb:=hv v hv'
 have ha:0≤v∧v<a.length:=by have:=h.1;omega
 rw [atL_lists ha,atL_lists hb]
 have:=h.2 v.toNat (by omega) (by omega)
 exact ⟨this.s,listD_sorted this.ma,listD_sorted this.mb⟩
theorem step_mono {c:Con} {a b:Ds} (h:LeL a b) (hc:RC c b.length):LeL (stepD c a) (stepD c b):=by
 refine ⟨by rw [stepD_len,stepD_len,h.1],fun i h1 h2=>?_⟩
 have i1:i<a.length:=by rw [stepD_len] at h1;exact h1
 have i2:i<b.length:=by rw [stepD_len] at h2;exact h2
 have hi:=h.2 i i1 i2
 rw [stepD_get,stepD_get]
 obtain ⟨a1,a2,a3⟩:=kept_may (p:=kp c (lists a) i) hi.ma
 obtain ⟨b1,b2,b3⟩:=kept_may (p:=kp c (lists b) i) hi.mb
 refine ⟨a2,b2,by rw [a1,b1,hi.v],fun x hx=>?_⟩
 rw [a3] at hx
 rw [b3]
 obtain ⟨x1,x2⟩:=List.mem_filter.1 hx
 refine List.mem_filter.2 ⟨hi.s x x1,?_⟩
 have e:atL (lists a) (i:Int)=listD a[i]:=by rw [atL_lists (by omega)];rfl
 exact kp_mono hc.w (h.sub hc.b) (by rw [e];exact x1) x2
theorem kp_local {c:Con} {L L':Ls} {v x:Int} (hw:ConW c) (h:∀ u∈c.vars,atL L u=atL L' u) (hs:∀ u∈c.vars,(atL L u).Pairwise (·<·)) (hv:v∈c.vars) (hx:x∈atL L v):kp c L v x=kp c L' v x:=by
 have s1:SubL c.vars L L':=fun u hu=>⟨fun x hx=>by rw [←h u hu];exact hx,hs u hu,by rw [←h u hu];exact hs u hu⟩
 have s2:SubL c.vars L' L:=fun u hu=>⟨fun x hx=>by rw [h u hu];exact hx,by rw [←h u hu];exact hs u hu,hs u hu⟩
 rw [Bool.eq_iff_iff]
 exact ⟨kp_mono hw s1 hx,kp_mono hw s2 (by rw [←h v hv];exact hx)⟩
theorem kp_not {c:Con} {L:Ls} {v x:Int} (h:v∉c.vars):kp c L v x=true:=by
 unfold kp
 rw [if_pos]
 rw [Bool.eq_false_iff]
 intro q
 exact h (List.contains_iff_mem.1 q)
theorem step_other {c:Con} {l:Ds} (ok:okL l) {i:Nat} (h:i<l.length) (hv:(i:Int)∉c.vars):(stepD c l)[i]'(by rw [stepD_len];exact h)=l[i]:=by
 rw [stepD_get]
 exact kept_all (ok _ (List.getElem_mem h)) fun x _=>kp_not hv
theorem step_stay {c:Con} {a b:Ds} (oa:okL a) (ob:okL b) (hl:a.length=b.length) (hc:RC c a.length) (h:∀ u∈c.vars,∀ (h1:u.toNat<a.length) (h2:u.toNat<b.length),a[u.toNat]=b[u.toNat]) (hf:stepD c a=a):stepD c b=b:=by
 refine List.ext_getElem stepD_len fun i h1 h2=>?_
 by_cases hv:(i:Int)∈c.vars
 ·have hi:i<a.length:=by omega
  have e:a[i]=b[i]:=h i hv hi h2
  have hL:∀ u∈c.vars,atL (lists b) u=atL (lists a) u:=fun u hu=>by
   have hb:=hc.b u hu
   rw [atL_lists (l:=a) hb,atL_lists (l:=b) (by omega),h u hu (by omega) (by omega)]
  have hsb:∀ u∈c.vars,(atL (lists b) u).Pairwise (·<·):=fun u hu=>by
   have hb:=hc.b u hu
   rw [atL_lists (l:=b) (by omega)]
   exact listD_sorted (ob _ (List.getElem_mem _))
  rw [stepD_get]
  refine kept_all (ob _ (List.getElem_mem h2)) fun x hx=>?_
  have ea:(stepD c a)[i]'(by rw [stepD_len];exact hi)=a[i]:=by simp only [hf]
  rw [stepD_get] at ea
  have k:=(kept_may (p:=kp c (lists a) i) (oa _ (List.getElem_mem hi))).2.2
  rw [ea,e] at k
  have hx2:x∈(listD b[i]).filter (kp c (lists a) i):=by rw [←k];exact hx
  have eb:atL (lists b) (i:Int)=listD b[i]:=by rw [atL_lists (by omega)];rfl
  rw [kp_local hc.w hL hsb hv (by rw [eb];exact hx)]
  exact (List.mem_filter.1 hx2).2
 ·exact step_other ob h2 hv
def InR (row:List Int) (l:Ds):Prop:=row.length=l.length∧∀ (i:Nat) (h:i<row.length) (k:i<l.length),row[i]∈listD l[i]
theorem step_sound {c:Con} {l:Ds} {row:List Int} (ok:okL l) (hc:RC c l.length) (hr:InR row l) (hh:holdsB c row=true):InR row (stepD c l):=by
 refine ⟨by rw [stepD_len];exact hr.1,fun i h1 h2=>?_⟩
 have i2:i<l.length:=by rw [stepD_len] at h2;exact h2
 rw [stepD_get]
 rw [(kept_may (ok _ (List.getElem_mem i2))).2.2]
 refine List.mem_filter.2 ⟨hr.2 i h1 i2,?_⟩
 by_cases hv:(i:Int)∈c.vars
 ·have hc2:RC c row.length:=by rw [hr.1];exact hc
  have hs:SubL c.vars (one row) (lists l):=fun u hu=>by
   have hb:=hc.b u hu
   have hb2:=hc2.b u hu
   rw [one_at hb2,atL_lists hb]
   refine ⟨fun x hx=>?_,by simp,listD_sorted (ok _ (List.getElem_mem _))⟩
   rw [List.mem_singleton.1 hx]
   have:=hr.2 u.toNat (by omega) (by omega)
   unfold rv
   rw [List.getD_eq_getElem?_getD,List.getElem?_eq_getElem (by omega)]
   exact this
  have e:rv row i=row[i]:=by
   unfold rv
   rw [Int.toNat_natCast,List.getD_eq_getElem?_getD,List.getElem?_eq_getElem h1]
   rfl
  have:=kp_mono hc.w hs (v:=(i:Int)) (x:=rv row i) (by rw [one_at (hc2.b i hv)];simp) (kp_one hc2 hh hv)
  rw [e] at this
  exact this
 ·exact kp_not hv
inductive Steps (cs:List Con) (l:Ds):Ds→Prop where
 | refl:Steps cs l l
 | step {r:Ds} {c:Con} (h:Steps cs l r) (hc:c∈cs):Steps cs l (stepD c r)
def fixed (cs:List Con) (l:Ds):Prop:=∀ c∈cs,stepD c l=l
def RCs (cs:List Con) (n:Nat):Prop:=∀ c∈cs,RC c n
theorem Steps.le {cs:List Con} {l r:Ds} (ok:okL l) (h:Steps cs l r):LeL r l:=by
 induction h with
 | refl=>exact LeL.refl ok
 | step h hc ih=>exact (step_le ih.okl).trans ih
theorem Steps.ge {cs:List Con} {l r g:Ds} (ok:okL l) (hR:RCs cs l.length) (h:Steps cs l r) (hg:LeL g l) (hf:fixed cs g):LeL g r:=by
 induction h with
 | refl=>exact hg
 | @step r c h hc ih=>
  have hl:=(h.le ok).1
  have:=step_mono ih (c:=c) (by rw [hl];exact hR c hc)
  rw [hf c hc] at this
  exact this
theorem Steps.one {cs:List Con} {l a b:Ds} (ok:okL l) (hR:RCs cs l.length) (ha:Steps cs l a) (fa:fixed cs a) (hb:Steps cs l b) (fb:fixed cs b):a=b:=
 (hb.ge ok hR (ha.le ok) fa).anti (ha.ge ok hR (hb.le ok) fb)
theorem Steps.sound {cs:List Con} {l r:Ds} {row:List Int} (ok:okL l) (hR:RCs cs l.length) (h:Steps cs l r) (hr:InR row l) (hh:∀ c∈cs,holdsB c row=true):InR row r:=by
 induction h with
 | refl=>exact hr
 | @step r c h hc ih=>exact step_sound (h.le ok).okl (by rw [(h.le ok).1];exact hR c hc) ih (hh c hc)
theorem Steps.trans {cs:List Con} {l r s:Ds} (h:Steps cs l r) (k:Steps cs r s):Steps cs l s:=by
 induction k with
 | refl=>exact h
 | step k hc ih=>exact .step ih hc
end Go.RR.FX
namespace Go.RR.M
open Go Go.RR
abbrev iv (n:Int):V:=.int .i64 n
end Go.RR.M
namespace Go.RR
theorem andU' (a b:Nat) (ha:a<18446744073709551616) (hb:b<18446744073709551616):IntKind.u64.wrap ((a % 2 ^ IntKind.u64.bits&&&b % 2 ^ IntKind.u64.bits:Nat):Int)=((a&&&b:Nat):Int):=by
 rw [Nat.mod_eq_of_lt (show a<2 ^ IntKind.u64.bits from ha),Nat.mod_eq_of_lt (show b<2 ^ IntKind.u64.bits from hb)]
 have hx:a&&&b<2 ^ 64:=Nat.and_lt_two_pow _ (by omega)
 exact wrapU (by omega) (by omega)
end Go.RR
namespace Go.RR.M
open Go Go.RR
abbrev uv (n:Nat):V:=.int .u64 n
theorem tz (b:Nat) (hb:b<18446744073709551616) (h:List Ob):acw C n_math_bits_TrailingZeros64 [uv b] h=some (.ret (iv (Go.Lib.ctz 64 b)),h):=by
 refine acw_S (a2:=[uv b]) rfl rfl rfl ?_ rfl
 have h1:(0:Int)≤b∧(b:Int)<18446744073709551616:=by omega
 simp only [C,S,if_neg (show ¬n_math_bits_TrailingZeros64=n_slices_Clone_sint_int from by decide),if_true,if_pos h1,Int.toNat_natCast]
theorem least (b:Nat) (hb:b<18446744073709551616) (h:List Ob):acw C n_bits_Least [uv b] h=some (.ret (iv (if b=0 then -1 else Go.Lib.ctz 64 b)),h):=by
 refine acw_ex (v:=iv (if b=0 then -1 else Go.Lib.ctz 64 b)) (CT T_bits_Least) rfl rfl (fun _=>rfl) (by simp) ?_
 by_cases e:b=0
 ·subst e
  simp [runW_fin,F_bits_Least,i_bits_Least]
 ·have e':¬(b:Int)=0:=by omega
  simp [runW_fin,F_bits_Least,i_bits_Least,e,ieq,ine,e',tz b hb]
theorem all_loop (Y:Yl) (y ib:Nat) (G:List Nat→Nat→List Ob) (hY:∀ pre b,pre.length<64→Y [.mp y,iv (Go.Lib.ctz 64 b)] (G pre b)=some (.ret (.bool true),G (pre++[Go.Lib.ctz 64 b]) b))
  (hB:∀ pre b,(G pre b)[ib]? = some (.row 1 [uv b])) (hS:∀ pre b b',(G pre b).set ib (.row 1 [uv b'])=G pre b'):∀ (n b:Nat) (pre:List Nat),b<18446744073709551616→done n b→pre.length+n≤64 →
  evw C Y i_bits_all_1_l0 [(0,.mp y),(1,.ptr ib 0 0 1)] (G pre b)=some (.ext 0,[(0,.mp y),(1,.ptr ib 0 0 1),(4,.bool false)],G (pre++lsts n b) 0):=by
 have base:∀ pre,evw C Y i_bits_all_1_l0 [(0,.mp y),(1,.ptr ib 0 0 1)] (G pre 0)=some (.ext 0,[(0,.mp y),(1,.ptr ib 0 0 1),(4,.bool false)],G pre 0):=by
  intro pre
  have h0:=hB pre 0
  simp only [uv,Int.cast_ofNat_Int] at h0
  rw [r_bits_all_1_0]
  simp [b_bits_all_1_0,h0,ieq,ine]
 intro n
 induction n with
 | zero=>
  intro b pre hb hd hl
  have:b=0:=hd
  subst this
  simpa [lsts] using base pre
 | succ n ih=>
  intro b pre hb hd hl
  by_cases e:b=0
  ·subst e
   simpa [lsts] using base pre
  ·have hd:done n (lowc b):=by rcases hd with h|h;exact absurd h e;exact h
   have ih:=ih (lowc b) (pre++[Go.Lib.ctz 64 b]) (lowc_lt hb) hd (by simp;omega)
   have e':¬(b:Int)=0:=by omega
   have h0:=hB pre b
   have h1:=hB (pre++[Go.Lib.ctz 64 b]) b
   have hl:=least b hb (G pre b)
   rw [if_neg e] at hl
   have hw:IntKind.u64.wrap ((b:Int)-1)=((b-1:Nat):Int):=by rw [wrapU (by omega) (by omega)];omega
   have ha:=andU' b (b-1) hb (by omega)
   have hk:=(List.getElem?_eq_some_iff.1 h1).1
   rw [r_bits_all_1_0]
   simp [b_bits_all_1_0,h0,h1,ieq,ine,e,e',hl,hY pre b (by omega),hw,ha,wr_lt hk]
   have hs:=hS (pre++[Go.Lib.ctz 64 b]) b (lowc b)
   unfold lsts
   rw [if_neg e]
   simp only [uv,lowc] at hs ih ⊢
   rw [hs,ih]
   simp
theorem allF (b:Nat) (h:List Ob):acw C n_bits_all [uv b] h=some (.ret (.fn (.func n_bits_all_1) [] [.ptr h.length 0 0 1]),h++[.row 1 [uv b]]):=by
 rw [acw_hm (CT T_bits_all) rfl]
 simp [runW_fin,F_bits_all,i_bits_all]
abbrev nsV (pre:List Nat):List V:=pre.map fun n:Nat=>iv (n:Int)
abbrev accL (pre:List Nat) (b:Nat):List Ob:=accH 1 [.row 1 [accV 1 3 (nsV pre)],.row 1 [uv b],.lp .rdy] (nsV pre)
abbrev frL:Fr:=[(2,.nsl 1),(3,.ptr 0 0 0 1),(6,.fn (.func n_bits_all_1) [] [.ptr 1 0 0 1])]
theorem list_round (pre:List Nat) (b n:Nat) (hx:pre.length≤1000000000000):rnd (evw C y0 ra_bits_List_0) (evw C y0 rb_bits_List_0) 2 [7] frL [.mp 2,iv n] (accL pre b)=some (.ret (.bool true),accL (pre++[n]) b):=by
 have k4:bsfL (.int .i64 0) [iv n]=some (.sl 1 [iv n]):=rfl
 cases pre with
 | nil=>
  have k5:∀ nid,appV nid [.row 1 [.nsl 1],.row 1 [uv b],.lp .bsy] 1 8 (.nsl 1) (.sl 1 [iv n])=some (.own nid 0 1 1,some (nid,.row 1 [iv n])):=fun nid=>appV_nsl rfl (by simp) rfl (by simp) (by simp)
  simp [accV,accH,ra_bits_List_0,rb_bits_List_0,k4,k5]
 | cons a r=>
  have k5:∀ nid,appV nid [.row 1 [.own 3 0 (r.length+1) (r.length+1)],.row 1 [uv b],.lp .bsy,.row 1 (iv a::nsV r)] 1 8 (.own 3 0 (r.length+1) (r.length+1)) (.sl 1 [iv n])=some (.own 3 0 (r.length+1+1) (r.length+1+1),some (3,.row 1 (iv a::nsV r++[iv n]))):=fun nid=>appV_own rfl (by simp) rfl (by simp) (by simp) (by simp at hx ⊢;omega) (by simp at hx ⊢;omega)
  simp [accV,accH,ra_bits_List_0,rb_bits_List_0,k4,k5]
theorem bits_List (b:Nat) (hb:b<18446744073709551616) (hd:done 64 b) (h:List Ob):acw C n_bits_List [uv b] h=some (.ret (.sl 1 (nsV (lsts 64 b))),h):=by
 have key:itw C (rnd (evw C y0 ra_bits_List_0) (evw C y0 rb_bits_List_0) 2 [7] frL) n_bits_all_1 [.mp 2,.ptr 1 0 0 1] (accL [] b)=some (.ret (.tup []),accL (lsts 64 b) 0):=by
  rw [itw_T (CT T_bits_all_1)]
  have h0:=all_loop (rnd (evw C y0 ra_bits_List_0) (evw C y0 rb_bits_List_0) 2 [7] frL) 2 1 accL (fun pre b hp=>list_round pre b _ (by omega)) (fun pre b=>by
   unfold accL accH;split<;>rfl) (fun pre b b'=>by unfold accL accH;split<;>rfl) 64 b [] hb hd (by simp)
  simp [runW_fin,F_bits_all_1,i_bits_all_1] at h0 ⊢
  rw [h0]
  simp
 obtain ⟨l,hl⟩:∃ l,l=lsts 64 b:=⟨_,rfl⟩
 rw [←hl] at key ⊢
 have ha:=allF b [.row 1 [.nsl 1]]
 simp at ha
 by_cases e:l=[]
 ·subst e
  simp [accV,accH] at key
  refine acw_pure (a2:=[uv b]) (h':=[.row 1 [.nsl 1],.row 1 [uv 0],.dead]) (v:=.nsl 1) (CT T_bits_List) rfl rfl ?_ rfl (by simp)
  simp [runW_fin,F_bits_List,i_bits_List,ha,key]
 ·simp [accV,accH,e] at key
  refine acw_pure (a2:=[uv b]) (h':=[.row 1 [.own 3 0 l.length l.length],.row 1 [uv 0],.dead,.row 1 (nsV l)]) (v:=.own 3 0 l.length l.length) (CT T_bits_List) rfl rfl ?_ ?_ (by simp)
  ·simp [runW_fin,F_bits_List,i_bits_List,ha,key]
  ·have:=frz_own_ints (h:=[.row 1 [.own 3 0 l.length l.length],.row 1 [uv 0],.dead,.row 1 (nsV l)]) (id:=3) (n:=l.length) (l:=l.map fun n:Nat=>(n:Int)) (by simp) (by simp) 10
   rw [show fdepth=10+2 from rfl,this]
   simp
end Go.RR.M
namespace Go.RR
theorem orU' (a b:Nat) (ha:a<18446744073709551616) (hb:b<18446744073709551616):IntKind.u64.wrap ((a % 2 ^ IntKind.u64.bits|||b % 2 ^ IntKind.u64.bits:Nat):Int)=((a|||b:Nat):Int):=by
 rw [Nat.mod_eq_of_lt (show a<2 ^ IntKind.u64.bits from ha),Nat.mod_eq_of_lt (show b<2 ^ IntKind.u64.bits from hb)]
 have hx:a|||b<2 ^ 64:=Nat.or_lt_two_pow (by omega) (by omega)
 exact wrapU (by omega) (by omega)
end Go.RR
namespace Go.RR.M
open Go Go.RR
theorem blist (b:Nat) (hb:b<18446744073709551616) (h:List Ob):acw C n_bits_List [uv b] h=some (.ret (.sl 1 (nsV (posL 64 b))),h):=by
 have:=bits_List b hb (done_pos 64 64 b hb (Nat.le_refl _)) h
 rw [lsts_pos 64 64 b (Nat.le_refl _) hb (Nat.le_refl _)] at this
 exact this
theorem fdU (x k:Nat):((x:Int)).fdiv (2 ^ k)=((x / 2 ^ k:Nat):Int):=by
 rw [show ((2:Int) ^ k)=((2 ^ k:Nat):Int) by simp,Int.fdiv_eq_ediv_of_nonneg _ (Int.natCast_nonneg _)]
 exact (Int.natCast_ediv _ _).symm
theorem ones64 (x:Nat) (hx:x<18446744073709551616) (h:List Ob):acw C n_math_bits_OnesCount64 [uv x] h=some (.ret (iv (Go.Lib.popAux 64 x)),h):=by
 obtain ⟨q1,hq1⟩:∃ y,y=x / 2:=⟨_,rfl⟩
 obtain ⟨p1,hp1⟩:∃ y,y=q1&&&6148914691236517205:=⟨_,rfl⟩
 obtain ⟨p2,hp2⟩:∃ y,y=x&&&6148914691236517205:=⟨_,rfl⟩
 obtain ⟨y,hy⟩:∃ y,y=p1+p2:=⟨_,rfl⟩
 obtain ⟨q2,hq2⟩:∃ z,z=y / 4:=⟨_,rfl⟩
 obtain ⟨p3,hp3⟩:∃ z,z=q2&&&3689348814741910323:=⟨_,rfl⟩
 obtain ⟨p4,hp4⟩:∃ z,z=y&&&3689348814741910323:=⟨_,rfl⟩
 obtain ⟨z,hz⟩:∃ z,z=p3+p4:=⟨_,rfl⟩
 obtain ⟨q3,hq3⟩:∃ y,y=z / 16:=⟨_,rfl⟩
 obtain ⟨s,hs⟩:∃ y,y=q3+z:=⟨_,rfl⟩
 obtain ⟨t,ht⟩:∃ y,y=s&&&1085102592571150095:=⟨_,rfl⟩
 obtain ⟨q4,hq4⟩:∃ y,y=t / 256:=⟨_,rfl⟩
 obtain ⟨u,hu⟩:∃ y,y=t+q4:=⟨_,rfl⟩
 obtain ⟨q5,hq5⟩:∃ y,y=u / 65536:=⟨_,rfl⟩
 obtain ⟨w,hw⟩:∃ y,y=u+q5:=⟨_,rfl⟩
 obtain ⟨q6,hq6⟩:∃ y,y=w / 4294967296:=⟨_,rfl⟩
 obtain ⟨v,hv⟩:∃ y,y=w+q6:=⟨_,rfl⟩
 obtain ⟨h1,h2,h3,h4⟩:=ones_eq x y z t hx (by rw [hy,hp1,hp2,hq1]) (by rw [hz,hp3,hp4,hq2]) (by rw [ht,hs,hq3])
 obtain ⟨pc,hpc⟩:∃ y,y=Go.Lib.popAux 64 x:=⟨_,rfl⟩
 rw [←hpc] at h4 ⊢
 have h4':v % 128=pc:=by rw [←h4,hv,hq6,hw,hq5,hu,hq4]
 have f1:(x:Int).fdiv (2 ^ min 1 IntKind.u64.bits)=(q1:Int):=by rw [hq1];exact fdU x 1
 have f2:(y:Int).fdiv (2 ^ min 2 IntKind.u64.bits)=(q2:Int):=by rw [hq2];exact fdU y 2
 have f3:(z:Int).fdiv (2 ^ min 4 IntKind.u64.bits)=(q3:Int):=by rw [hq3];exact fdU z 4
 have f4:(t:Int).fdiv (2 ^ min 8 IntKind.u64.bits)=(q4:Int):=by rw [hq4];exact fdU t 8
 have f5:(u:Int).fdiv (2 ^ min 16 IntKind.u64.bits)=(q5:Int):=by rw [hq5];exact fdU u 16
 have f6:(w:Int).fdiv (2 ^ min 32 IntKind.u64.bits)=(q6:Int):=by rw [hq6];exact fdU w 32
 have w0:∀ n:Nat,n<18446744073709551616→IntKind.u64.wrap (n:Int)=n:=fun n hn=>wrapU (by omega) (by omega)
 have g1:=w0 q1 (by omega)
 have g2:=w0 q2 (by omega)
 have g3:=w0 q3 (by omega)
 have g4:=w0 q4 (by omega)
 have g5:=w0 q5 (by omega)
 have g6:=w0 q6 (by omega)
 have a1:=andU' q1 6148914691236517205 (by omega) (by omega)
 have a2:=andU' x 6148914691236517205 (by omega) (by omega)
 have a3:=andU' q2 3689348814741910323 (by omega) (by omega)
 have a4:=andU' y 3689348814741910323 (by omega) (by omega)
 have a5:=andU' s 1085102592571150095 (by omega) (by omega)
 rw [←hp1] at a1
 rw [←hp2] at a2
 rw [←hp3] at a3
 rw [←hp4] at a4
 rw [←ht] at a5
 have s1:IntKind.u64.wrap ((p1:Int)+p2)=y:=by rw [wrapU (by omega) (by omega)];omega
 have s2:IntKind.u64.wrap ((p3:Int)+p4)=z:=by rw [wrapU (by omega) (by omega)];omega
 have s3:IntKind.u64.wrap ((q3:Int)+z)=s:=by rw [wrapU (by omega) (by omega)];omega
 have s4:IntKind.u64.wrap ((t:Int)+q4)=u:=by rw [wrapU (by omega) (by omega)];omega
 have s5:IntKind.u64.wrap ((u:Int)+q5)=w:=by rw [wrapU (by omega) (by omega)];omega
 have s6:IntKind.u64.wrap ((w:Int)+q6)=v:=by rw [wrapU (by omega) (by omega)];omega
 have hvb:v<9223372036854775808:=by omega
 have s7:IntKind.i64.wrap (v:Int)=v:=wrap64 (by omega) (by omega)
 have s8:IntKind.i64.wrap ((v % 2 ^ IntKind.i64.bits&&&127 % 2 ^ IntKind.i64.bits:Nat):Int)=pc:=by
  rw [Nat.mod_eq_of_lt (show v<2 ^ IntKind.i64.bits from Nat.lt_of_lt_of_le hvb (by decide)),show 127 % 2 ^ IntKind.i64.bits=2 ^ 7-1 from rfl,Nat.and_two_pow_sub_one_eq_mod,show 2 ^ 7=128 from rfl,h4']
  exact wrap64 (by omega) (by omega)
 refine acw_ex (v:=iv pc) (CT T_math_bits_OnesCount64) rfl rfl (fun _=>rfl) (by simp) ?_
 clear hq1 hp1 hp2 hy hq2 hp3 hp4 hz hq3 hs ht hq4 hu hq5 hw hq6 hv h4 h4' hpc w0
 simp [runW_fin,F_math_bits_OnesCount64,i_math_bits_OnesCount64,f1,f2,f3,f4,f5,f6,g1,g2,g3,g4,g5,g6,a1,a2,a3,a4,a5,s1,s2,s3,s4,s5,s6,s7,s8]
theorem count (b:Nat) (hb:b<18446744073709551616) (h:List Ob):acw C n_bits_Count [uv b] h=some (.ret (iv (Go.Lib.popAux 64 b)),h):=by
 have k:=ones64 b hb
 refine acw_ex (v:=iv (Go.Lib.popAux 64 b)) (CT T_bits_Count) rfl rfl (fun _=>rfl) (by simp) ?_
 simp [runW_fin,F_bits_Count,i_bits_Count,k]
theorem len64 (b:Nat) (hb:b<18446744073709551616) (h:List Ob):acw C n_math_bits_Len64 [uv b] h=some (.ret (iv (Go.Lib.bitLen b)),h):=by
 refine acw_S (a2:=[uv b]) rfl rfl rfl ?_ rfl
 have h1:(0:Int)≤b∧(b:Int)<18446744073709551616:=by omega
 simp only [C,S,if_neg (show ¬n_math_bits_Len64=n_slices_Clone_sint_int from by decide),if_neg (show ¬n_math_bits_Len64=n_math_bits_TrailingZeros64 from by decide),if_true,if_pos h1,Int.toNat_natCast]
theorem greatest (b:Nat) (hb:b<18446744073709551616) (h:List Ob):acw C n_bits_Greatest [uv b] h=some (.ret (iv (Go.Lib.bitLen b-1)),h):=by
 have hl:=Go.Lib.bitLen_le b 64 (Nat.le_refl _) hb
 have k1:=len64 b hb
 have w1:IntKind.i64.wrap (64-(Go.Lib.bitLen b:Int))=64-Go.Lib.bitLen b:=wrap64 (by omega) (by omega)
 have w2:IntKind.i64.wrap (63-(64-(Go.Lib.bitLen b:Int)))=Go.Lib.bitLen b-1:=by rw [wrap64 (by omega) (by omega)];omega
 have k:∀ h,acw C n_math_bits_LeadingZeros64 [uv b] h=some (.ret (iv (64-Go.Lib.bitLen b)),h):=fun h=>by
  refine acw_ex (v:=iv (64-Go.Lib.bitLen b)) (CT T_math_bits_LeadingZeros64) rfl rfl (fun _=>rfl) (by simp) ?_
  simp [runW_fin,F_math_bits_LeadingZeros64,i_math_bits_LeadingZeros64,k1,w1]
 refine acw_ex (v:=iv (Go.Lib.bitLen b-1)) (CT T_bits_Greatest) rfl rfl (fun _=>rfl) (by simp) ?_
 simp [runW_fin,F_bits_Greatest,i_bits_Greatest,k,w2]
theorem first (n:Nat) (hn:n≤64) (h:List Ob):acw C n_bits_First [iv n] h=some (.ret (uv (2 ^ n-1)),h):=by
 refine acw_ex (v:=uv (2 ^ n-1)) (CT T_bits_First) rfl rfl (fun _=>rfl) (by simp) ?_
 by_cases c0:n=0
 ·subst c0
  simp [runW_fin,F_bits_First,i_bits_First]
 have c0':¬(n:Int)≤0:=by omega
 by_cases c1:n=64
 ·subst c1
  simp [runW_fin,F_bits_First,i_bits_First]
 have c1':¬(64:Int)≤n:=by omega
 have hp:2 ^ n≤2 ^ 63:=Nat.pow_le_pow_right (by omega) (by omega)
 have hq:0<2 ^ n:=Nat.two_pow_pos n
 have hn0:¬(n:Int)<0:=by omega
 obtain ⟨P,hP⟩:∃ P,P=2 ^ n:=⟨_,rfl⟩
 have w1:IntKind.u64.wrap (2 ^ min n IntKind.u64.bits)=(P:Int):=by
  rw [show min n IntKind.u64.bits=n from Nat.min_eq_left (show n≤64 by omega),show ((2:Int) ^ n)=(P:Int) by rw [hP];simp]
  exact wrapU (by omega) (by omega)
 have w2:IntKind.u64.wrap ((P:Int)-1)=((P-1:Nat):Int):=by rw [wrapU (by omega) (by omega)];omega
 rw [←hP]
 simp [runW_fin,F_bits_First,i_bits_First,c0,c0',c1',hn0,w1,w2]
theorem bits_of (k:Nat) (hk:k<64) (h:List Ob):acw C n_bits_Of [.sl 1 [iv k]] h=some (.ret (uv (2 ^ k)),h):=by
 refine acw_ex (v:=uv (2 ^ k)) (CT T_bits_Of) rfl rfl (fun _=>rfl) (by simp) ?_
 have hp:2 ^ k≤2 ^ 63:=Nat.pow_le_pow_right (by omega) (by omega)
 have l1:∀ a:Nat,a=2 ^ k→evw C y0 i_bits_Of_l0 [(3,uv a),(6,.sl 1 [iv k]),(7,iv 1),(8,iv 1)] []=some (.ext 0,[(3,uv a),(6,.sl 1 [iv k]),(7,iv 1),(8,iv 1),(9,.bool false)],[]):=fun a _=>by
  rw [r_bits_Of_0]
  simp [b_bits_Of_0]
 have l0:evw C y0 i_bits_Of_l0 [(3,.int .u64 0),(6,.sl 1 [iv k]),(7,iv 1),(8,iv 0)] []=some (.ext 0,[(3,uv (2 ^ k)),(6,.sl 1 [iv k]),(7,iv 1),(8,iv 1),(9,.bool false)],[]):=by
  have h1:(k:Int)<64:=by omega
  have hn0:¬(k:Int)<0:=by omega
  have l1:=l1 _ rfl
  obtain ⟨P,hP⟩:∃ P,P=2 ^ k:=⟨_,rfl⟩
  have w1:IntKind.u64.wrap (2 ^ min k IntKind.u64.bits)=(P:Int):=by
   rw [show min k IntKind.u64.bits=k from Nat.min_eq_left (show k≤64 by omega),show ((2:Int) ^ k)=(P:Int) by rw [hP];simp]
   exact wrapU (by omega) (by omega)
  have w2:IntKind.u64.wrap ((P:Int) % 2 ^ IntKind.u64.bits)=P:=by
   rw [show ((2:Int) ^ IntKind.u64.bits)=18446744073709551616 from rfl,Int.emod_eq_of_lt (by omega) (by omega)]
   exact wrapU (by omega) (by omega)
  rw [←hP] at l1 ⊢
  rw [r_bits_Of_0,←l1]
  simp [b_bits_Of_0,h1,hn0,w1,w2]
 simp [runW_fin,F_bits_Of,i_bits_Of,l0]
end Go.RR.M
namespace Go.RR
theorem anU' (a b:Nat) (ha:a<18446744073709551616) (hb:b<18446744073709551616):(IntKind.u64.wrap ((BitVec.ofInt IntKind.u64.bits (a:Int)&&&~~~ BitVec.ofInt IntKind.u64.bits (b:Int)).toNat:Int)=0)↔a&&&b=a:=by
 show (IntKind.u64.wrap ((BitVec.ofInt 64 (a:Int)&&&~~~ BitVec.ofInt 64 (b:Int)).toNat:Int)=0)↔a&&&b=a
 rw [BitVec.ofInt_natCast,BitVec.ofInt_natCast]
 have hlt:(BitVec.ofNat 64 a&&&~~~ BitVec.ofNat 64 b).toNat<2 ^ 64:=BitVec.isLt _
 have hw:IntKind.u64.wrap ((BitVec.ofNat 64 a&&&~~~ BitVec.ofNat 64 b).toNat:Int)=((BitVec.ofNat 64 a&&&~~~ BitVec.ofNat 64 b).toNat:Int):=wrapU (by omega) (by omega)
 have e3:(BitVec.ofNat 64 a&&&BitVec.ofNat 64 b).toNat=a&&&b:=by
  rw [BitVec.toNat_and,BitVec.toNat_ofNat,BitVec.toNat_ofNat,Nat.mod_eq_of_lt (show a<2 ^ 64 from ha),Nat.mod_eq_of_lt (show b<2 ^ 64 from hb)]
 have e4:(BitVec.ofNat 64 a).toNat=a:=by rw [BitVec.toNat_ofNat];exact Nat.mod_eq_of_lt ha
 have key:(BitVec.ofNat 64 a&&&~~~ BitVec.ofNat 64 b)=0#64↔BitVec.ofNat 64 a&&&BitVec.ofNat 64 b=BitVec.ofNat 64 a:=by
  constructor
  ·intro h
   apply BitVec.eq_of_getLsbD_eq
   intro i hi
   have:=congrArg (fun v=>v.getLsbD i) h
   simp only [BitVec.getLsbD_and,BitVec.getLsbD_not,BitVec.getLsbD_zero,hi,decide_true,Bool.true_and] at this ⊢
   revert this
   generalize (BitVec.ofNat 64 a).getLsbD i=p
   generalize (BitVec.ofNat 64 b).getLsbD i=q
   cases p<;>cases q<;>decide
  ·intro h
   apply BitVec.eq_of_getLsbD_eq
   intro i hi
   have:=congrArg (fun v=>v.getLsbD i) h
   simp only [BitVec.getLsbD_and,BitVec.getLsbD_not,BitVec.getLsbD_zero,hi,decide_true,Bool.true_and] at this ⊢
   revert this
   generalize (BitVec.ofNat 64 a).getLsbD i=p
   generalize (BitVec.ofNat 64 b).getLsbD i=q
   cases p<;>cases q<;>decide
 rw [hw]
 constructor
 ·intro h
  have h0:(BitVec.ofNat 64 a&&&~~~ BitVec.ofNat 64 b)=0#64:=BitVec.eq_of_toNat_eq (by simp only [BitVec.toNat_zero];omega)
  rw [←e3,key.1 h0,e4]
 ·intro h
  have h0:BitVec.ofNat 64 a&&&BitVec.ofNat 64 b=BitVec.ofNat 64 a:=BitVec.eq_of_toNat_eq (by rw [e3,e4,h])
  rw [key.2 h0]
  rfl
theorem an_bin (a b:Nat) (ha:a<18446744073709551616) (hb:b<18446744073709551616):∃ A:Nat,bin .andNot (.int .u64 (a:Int)) (.int .u64 (b:Int))=some (.int .u64 (A:Int))∧(A=0↔a&&&b=a):=by
 have h:=anU' a b ha hb
 have hlt:(BitVec.ofInt IntKind.u64.bits (a:Int)&&&~~~ BitVec.ofInt IntKind.u64.bits (b:Int)).toNat<2 ^ 64:=BitVec.isLt _
 have hw:IntKind.u64.wrap ((BitVec.ofInt IntKind.u64.bits (a:Int)&&&~~~ BitVec.ofInt IntKind.u64.bits (b:Int)).toNat:Int)=((BitVec.ofInt IntKind.u64.bits (a:Int)&&&~~~ BitVec.ofInt IntKind.u64.bits (b:Int)).toNat:Int):=wrapU (by omega) (by omega)
 refine ⟨(BitVec.ofInt IntKind.u64.bits (a:Int)&&&~~~ BitVec.ofInt IntKind.u64.bits (b:Int)).toNat,?_,?_⟩
 ·simp only [bin,binI,if_true]
  rw [hw]
 ·rw [hw] at h
  rw [←h]
  omega
theorem and_first (a n:Nat):a&&&(2 ^ n-1)=a↔a<2 ^ n:=by
 rw [Nat.and_two_pow_sub_one_eq_mod]
 constructor
 ·intro h;rw [←h];exact Nat.mod_lt _ (Nat.two_pow_pos n)
 ·exact Nat.mod_eq_of_lt
end Go.RR
namespace Go.RR.M
open Go Go.RR
theorem may_loop (d:Dm) (hl:d.vals.length≤64):∀ (k i:Nat) (p:Option Int),i+k=d.vals.length→(∀ (h:0<i) (h':i-1<d.vals.length),p=some d.vals[i-1])→(i=0→p=none) →
  ∃ fr',evw C y0 i_dom_May_l0 [(1,.ptr 0 0 0 1),(20,intsV d.vals),(21,iv d.vals.length),(22,iv i)] [.row 2 [domV d]]=some (if rising p (d.vals.drop i)=true then (.ext 0,fr',[.row 2 [domV d]]) else (.ret,[(2,.bool false)],[.row 2 [domV d]]))
 | 0,i,p,e,hp,h0=>by
  obtain rfl:i=d.vals.length:=by omega
  rw [r_dom_May_0,List.drop_length]
  refine ⟨[(1,.ptr 0 0 0 1),(20,intsV d.vals),(21,iv d.vals.length),(22,iv d.vals.length),(23,.bool false)],?_⟩
  simp [b_dom_May_0,rising]
 | k+1,i,p,e,hp,h0=>by
  have hlt:i<d.vals.length:=by omega
  have h2:(i:Int)<d.vals.length:=by omega
  have h3:d.vals[i]? = some d.vals[i]:=by simp [hlt]
  have hw:=wrap_succ (i:=i) (n:=d.vals.length) hlt (by omega)
  obtain ⟨fr',ih⟩:=may_loop d hl k (i+1) (some d.vals[i]) (by omega) (fun _ _=>rfl) (by omega)
  simp only [Int.natCast_add,Int.cast_ofNat_Int] at ih
  rw [r_dom_May_0,List.drop_eq_getElem_cons hlt]
  simp only [rising]
  by_cases c1:d.vals[i] < -1048576
  ·have c1':¬(-1048576≤d.vals[i]):=by omega
   exact ⟨[],by simp [b_dom_May_0,h2,h3,c1,c1']⟩
  have c1':-1048576≤d.vals[i]:=by omega
  by_cases c2:1048576<d.vals[i]
  ·have c2':¬(d.vals[i]≤1048576):=by omega
   exact ⟨[],by simp [b_dom_May_0,h2,h3,c1,c1',c2,c2']⟩
  have c2':d.vals[i]≤1048576:=by omega
  by_cases c4:0<i
  ·have hlt':i-1<d.vals.length:=by omega
   have hp1:=hp c4 hlt'
   subst hp1
   have w2:IntKind.i64.wrap ((i:Int)-1)=((i-1:Nat):Int):=by rw [wrap64 (by omega) (by omega)];omega
   have h5:d.vals[i-1]? = some d.vals[i-1]:=by simp [hlt']
   by_cases c5:d.vals[i]≤d.vals[i-1]
   ·have c5':¬(d.vals[i-1]<d.vals[i]):=by omega
    exact ⟨[],by simp [b_dom_May_0,h2,h3,c1,c1',c2,c2',c4,w2,h5,c5,c5']⟩
   ·have c5':d.vals[i-1]<d.vals[i]:=by omega
    refine ⟨fr',?_⟩
    simp only [c1',c2',c5',decide_true,Bool.true_and,←ih]
    simp [b_dom_May_0,h2,h3,c1,c2,c4,w2,h5,c5,hw]
  ·have hi0:i=0:=by omega
   have hp0:=h0 hi0
   subst hp0
   refine ⟨fr',?_⟩
   simp only [c1',c2',decide_true,Bool.true_and,←ih]
   simp [b_dom_May_0,h2,h3,c1,c2,c4,hw]
theorem dom_May (d:Dm) (hd:d.live<18446744073709551616) (hn:d.vals.length≤1000000) (h:List Ob):acw C n_dom_May [domV d] h=some (.ret (.bool (mayD d)),h):=by
 refine acw_ex (v:=.bool (mayD d)) (CT T_dom_May) rfl rfl (fun _=>rfl) (by simp) ?_
 by_cases c1:(64:Int)<d.vals.length
 ·have e:mayD d=false:=by unfold mayD;simp;omega
  rw [e]
  simp [runW_fin,F_dom_May,i_dom_May,c1]
 have hl:d.vals.length≤64:=by omega
 have kf:=first d.vals.length hl
 have hp:2 ^ d.vals.length≤2 ^ 64:=Nat.pow_le_pow_right (by omega) hl
 have hq:0<2 ^ d.vals.length:=Nat.two_pow_pos _
 obtain ⟨A,kA,ha⟩:=an_bin d.live (2 ^ d.vals.length-1) hd (by omega)
 have ha:=ha.trans (and_first d.live d.vals.length)
 obtain ⟨F,hF⟩:∃ F,F=2 ^ d.vals.length-1:=⟨_,rfl⟩
 rw [←hF] at kf kA
 obtain ⟨fr',lp⟩:=may_loop d hl d.vals.length 0 none (by omega) (by omega) (fun _=>rfl)
 simp only [List.drop_zero,Int.cast_ofNat_Int] at lp
 by_cases c2:d.live<2 ^ d.vals.length
 ·have ha:=ha.2 c2
  cases cr:rising none d.vals with
  | true=>
   have e:mayD d=true:=mayD_iff.2 ⟨hl,c2,cr⟩
   rw [cr] at lp
   rw [e]
   simp at lp
   subst ha
   simp [runW_fin,F_dom_May,i_dom_May,c1,kf,kA,lp,ieq,ine]
  | false=>
   have e:mayD d=false:=by unfold mayD;rw [cr,Bool.and_false]
   rw [cr] at lp
   rw [e]
   simp at lp
   subst ha
   simp [runW_fin,F_dom_May,i_dom_May,c1,kf,kA,lp,ieq,ine]
 ·have ha:¬A=0:=fun x=>c2 (ha.1 x)
  have e:mayD d=false:=by unfold mayD;simp [c2]
  rw [e]
  simp [runW_fin,F_dom_May,i_dom_May,c1,kf,kA,ha,ieq,ine]
theorem mayD_live {d:Dm} (hm:mayD d=true):d.live<18446744073709551616∧posL 64 d.live=posL d.vals.length d.live:=by
 obtain ⟨h1,h2,h3⟩:=mayD_iff.1 hm
 have hp:2 ^ d.vals.length≤2 ^ 64:=Nat.pow_le_pow_right (by omega) h1
 exact ⟨by omega,posL_fuel _ _ _ h2 h1⟩
theorem list_loop (d:Dm) (ks:List Nat) (hk:∀ k∈ks,k<d.vals.length) (hn:ks.length≤1000):∀ (m i:Nat) (v:V) (acc:List Int) (h:List Ob),i+m=ks.length→acc.length≤i→h[0]? = some (.row 2 [domV d])→AccB 1 h v 1 (acc.map (V.int .i64)) →
  ∃ v' h',evw C y0 i_dom_List_1_l0 [(1,.ptr 0 0 0 1),(3,v),(8,.sl 1 (nsV ks)),(9,iv ks.length),(10,iv i)] h=some (.ext 0,[(1,.ptr 0 0 0 1),(3,v'),(8,.sl 1 (nsV ks)),(9,iv ks.length),(10,iv ks.length),(11,.bool false)],h')∧AccB 1 h' v' 1 ((acc++(ks.drop i).map (fun k=>d.vals.getD k 0)).map (V.int .i64))
 | 0,i,v,acc,h,e,ha,h0,hA=>by
  obtain rfl:i=ks.length:=by omega
  rw [List.drop_length,r_dom_List_1_0]
  refine ⟨v,h,?_,by simpa using hA⟩
  simp [b_dom_List_1_0]
 | m+1,i,v,acc,h,e,ha,h0,hA=>by
  have hlt:i<ks.length:=by omega
  have h2:(i:Int)<ks.length:=by omega
  have h3:ks[i]? = some ks[i]:=by simp [hlt]
  have hw:=wrap_succ (i:=i) (n:=ks.length) hlt (by omega)
  have hks:=hk ks[i] (List.getElem_mem hlt)
  have h4:d.vals[ks[i]]? = some d.vals[ks[i]]:=by simp [hks]
  have hh:=(List.getElem?_eq_some_iff.1 h0).1
  obtain ⟨v1,w,e1,e2,-,e4⟩:=hA.app (b:=8) (y:=.sl 1 [iv d.vals[ks[i]]]) (ys:=[iv d.vals[ks[i]]]) (by omega) rfl (by simp only [List.length_cons,List.length_nil,List.length_map];omega) (by simp only [List.length_cons,List.length_nil,List.length_map];omega)
  have e2':AccB 1 (wr h w) v1 1 ((acc++[d.vals[ks[i]]]).map (V.int .i64)):=by simpa using e2
  obtain ⟨v',h',ih1,ih2⟩:=list_loop d ks hk hn m (i+1) v1 (acc++[d.vals[ks[i]]]) _ (by omega) (by simp;omega) (by rw [e4 0 (by omega)];exact h0) e2'
  have k4:bsfL (.int .i64 0) [iv d.vals[ks[i]]]=some (.sl 1 [iv d.vals[ks[i]]]):=rfl
  simp only [Int.natCast_add,Int.cast_ofNat_Int] at ih1
  refine ⟨v',h',?_,?_⟩
  ·rw [r_dom_List_1_0,←ih1]
   simp [b_dom_List_1_0,h2,h3,h0,h4,k4,e1,hw]
  ·rw [List.drop_eq_getElem_cons hlt,List.map_cons]
   rw [List.append_assoc] at ih2
   have:d.vals.getD ks[i] 0=d.vals[ks[i]]:=by simp [hks]
   rw [this]
   exact ih2
theorem dom_List_1 (d:Dm) (hm:mayD d=true) (h:List Ob):acw C n_dom_List_1 [domV d] h=some (.ret (intsV (leftR d.vals d.live)),h):=by
 obtain ⟨hl,hp⟩:=mayD_live hm
 obtain ⟨h1,h2,-⟩:=mayD_iff.1 hm
 have kb:=blist d.live hl
 rw [hp] at kb
 have hn:(posL d.vals.length d.live).length≤64:=by have:=posL_cnt d.vals.length d.live;omega
 obtain ⟨v',h',l1,l2⟩:=list_loop d (posL d.vals.length d.live) (fun k hk=>posL_lt _ _ _ hk) (by omega) (posL d.vals.length d.live).length 0 (.nsl 1) [] [.row 2 [domV d]] (by omega) (by simp) rfl .nil
 rw [List.drop_zero,List.nil_append,leftR_pos] at l2
 obtain ⟨K,hK⟩:∃ K,K=posL d.vals.length d.live:=⟨_,rfl⟩
 rw [←hK] at kb l1
 simp only [Int.cast_ofNat_Int] at l1
 have hf:RR.frz h' fdepth v'=some (intsV (leftR d.vals d.live)):=l2.frz 11 (frz_ints _ _ _)
 refine acw_pure (a2:=[domV d]) (h':=h') (v:=v') (CT T_dom_List_1) rfl rfl ?_ hf (by simp)
 simp [runW_fin,F_dom_List_1,i_dom_List_1,kb,l1]
theorem dom_List (d:Dm) (hd:d.live<18446744073709551616) (hn:d.vals.length≤1000000) (h:List Ob):acw C n_dom_List [domV d] h=some (.ret (intsV (listD d)),h):=by
 have k1:=dom_May d hd hn
 have k2:∀ h,acw C n_dom_asked_sint [domV d,.fn (.func n_dom_List_1) [] []] h=some (.ret (intsV (listD d)),h):=fun h=>by
  unfold listD
  cases hm:mayD d with
  | true=>
   rw [hm] at k1
   have k3:=dom_List_1 d hm
   obtain ⟨L,hL⟩:∃ L,L=leftR d.vals d.live:=⟨_,rfl⟩
   rw [←hL] at k3
   rw [if_pos rfl,←hL]
   refine acw_ex (v:=intsV L) (CT T_dom_asked_sint) rfl rfl (fun _=>rfl) (by simp) ?_
   simp [runW_fin,F_dom_asked_sint,i_dom_asked_sint,k1,k3]
  | false=>
   rw [hm] at k1
   rw [if_neg (by simp)]
   refine acw_pure (a2:=[domV d,.fn (.func n_dom_List_1) [] []]) (h':=[.row 2 [domV d]]) (v:=.nsl 1) (CT T_dom_asked_sint) rfl rfl ?_ rfl (by simp)
   simp [runW_fin,F_dom_asked_sint,i_dom_asked_sint,k1]
 refine acw_ex (v:=intsV (listD d)) (CT T_dom_List) rfl rfl (fun _=>rfl) (by simp) ?_
 obtain ⟨L,hL⟩:∃ L,L=listD d:=⟨_,rfl⟩
 rw [←hL] at k2 ⊢
 simp [runW_fin,F_dom_List,i_dom_List,k2]
theorem dom_Size (d:Dm) (hd:d.live<18446744073709551616) (hn:d.vals.length≤1000000) (h:List Ob):acw C n_dom_Size [domV d] h=some (.ret (iv (sizeD d)),h):=by
 have k1:=dom_May d hd hn
 have kc:=count d.live hd
 have k3:∀ h,acw C n_dom_Size_1 [domV d] h=some (.ret (iv (Go.Lib.popAux 64 d.live)),h):=fun h=>by
  refine acw_ex (v:=iv (Go.Lib.popAux 64 d.live)) (CT T_dom_Size_1) rfl rfl (fun _=>rfl) (by simp) ?_
  simp [runW_fin,F_dom_Size_1,i_dom_Size_1,kc]
 have k2:∀ h,acw C n_dom_asked_int [domV d,.fn (.func n_dom_Size_1) [] []] h=some (.ret (iv (sizeD d)),h):=fun h=>by
  refine acw_ex (v:=iv (sizeD d)) (CT T_dom_asked_int) rfl rfl (fun _=>rfl) (by simp) ?_
  unfold sizeD listD
  cases hm:mayD d with
  | true=>
   obtain ⟨h1,h2,-⟩:=mayD_iff.1 hm
   rw [hm] at k1
   rw [if_pos rfl,←leftR_size d.vals d.live h1 h2]
   simp [runW_fin,F_dom_asked_int,i_dom_asked_int,k1,k3]
  | false=>
   rw [hm] at k1
   rw [if_neg (by simp)]
   simp [runW_fin,F_dom_asked_int,i_dom_asked_int,k1]
 refine acw_ex (v:=iv (sizeD d)) (CT T_dom_Size) rfl rfl (fun _=>rfl) (by simp) ?_
 simp [runW_fin,F_dom_Size,i_dom_Size,k2]
def leastD (d:Dm):Int×Bool:=match (listD d)[0]? with
 | some v=>(v,true)
 | none=>(0,false)
def greatD (d:Dm):Int×Bool:=match (listD d).getLast? with
 | some v=>(v,true)
 | none=>(0,false)
def singleD (d:Dm):Int×Bool:=if sizeD d=1 then leastD d else (0,false)
theorem dom_at (d:Dm) (k:Int) (x:Int×Bool) (hk:x=if k<0 then (0,false) else (d.vals.getD k.toNat 0,true)) (h0:¬k<0→k.toNat<d.vals.length) (h:List Ob):acw C n_dom_at [domV d,iv k] h=some (.ret (.tup [iv x.1,.bool x.2]),h):=by
 refine acw_ex (v:=.tup [iv x.1,.bool x.2]) (CT T_dom_at) rfl rfl (fun _=>rfl) (by simp) ?_
 subst hk
 by_cases c:k<0
 ·rw [if_pos c]
  simp [runW_fin,F_dom_at,i_dom_at,c]
 ·rw [if_neg c]
  have h1:=h0 c
  obtain ⟨m,rfl⟩:=Int.eq_ofNat_of_zero_le (show 0≤k by omega)
  simp only [Int.toNat_natCast] at h1 ⊢
  have h2:d.vals[m]? = some d.vals[m]:=by simp [h1]
  have h3:d.vals.getD m 0=d.vals[m]:=by simp [h1]
  rw [h3]
  simp [runW_fin,F_dom_at,i_dom_at,c,h1,h2]
theorem dom_Least (d:Dm) (hd:d.live<18446744073709551616) (hn:d.vals.length≤1000000) (h:List Ob):acw C n_dom_Least [domV d] h=some (.ret (.tup [iv (leastD d).1,.bool (leastD d).2]),h):=by
 have k1:=dom_May d hd hn
 refine acw_ex (v:=.tup [iv (leastD d).1,.bool (leastD d).2]) (CT T_dom_Least) rfl rfl (fun _=>rfl) (by simp) ?_
 cases hm:mayD d with
 | true=>
  obtain ⟨h1,h2,-⟩:=mayD_iff.1 hm
  rw [hm] at k1
  have kl:=least d.live hd
  have ka:=dom_at d (if d.live=0 then -1 else Go.Lib.ctz 64 d.live) (leastD d) (by
   unfold leastD listD
   rw [hm,if_pos rfl]
   by_cases c:d.live=0
   ·rw [if_pos c,(leftR_nil d.vals d.live h2).2 c]
    rfl
   ·rw [if_neg c,leftR_head d.vals d.live h1 h2 c,if_neg (by omega),Int.toNat_natCast]) (by
   intro hc
   by_cases c:d.live=0
   ·rw [if_pos c] at hc;omega
   ·rw [if_neg c,Int.toNat_natCast]
    exact ctz_lt _ _ h1 h2 c)
  obtain ⟨K,hK⟩:∃ K:Int,K=if d.live=0 then -1 else (Go.Lib.ctz 64 d.live:Int):=⟨_,rfl⟩
  rw [←hK] at kl ka
  simp [runW_fin,F_dom_Least,i_dom_Least,k1,kl,ka]
 | false=>
  rw [hm] at k1
  have e:leastD d=(0,false):=by unfold leastD listD;rw [hm];rfl
  rw [e]
  simp [runW_fin,F_dom_Least,i_dom_Least,k1]
theorem dom_Greatest (d:Dm) (hd:d.live<18446744073709551616) (hn:d.vals.length≤1000000) (h:List Ob):acw C n_dom_Greatest [domV d] h=some (.ret (.tup [iv (greatD d).1,.bool (greatD d).2]),h):=by
 have k1:=dom_May d hd hn
 refine acw_ex (v:=.tup [iv (greatD d).1,.bool (greatD d).2]) (CT T_dom_Greatest) rfl rfl (fun _=>rfl) (by simp) ?_
 cases hm:mayD d with
 | true=>
  obtain ⟨h1,h2,-⟩:=mayD_iff.1 hm
  rw [hm] at k1
  have kl:=greatest d.live hd
  have hb:=bitLen_bd d.live d.vals.length h1 h2
  have ka:=dom_at d (Go.Lib.bitLen d.live-1) (greatD d) (by
   unfold greatD listD
   rw [hm,if_pos rfl]
   by_cases c:d.live=0
   ·rw [(leftR_nil d.vals d.live h2).2 c,c]
    rfl
   ·have:=hb c
    have hx:((Go.Lib.bitLen d.live:Int)-1).toNat=Go.Lib.bitLen d.live-1:=by omega
    rw [leftR_last d.vals d.live h1 h2 c,if_neg (by omega),hx]) (by
   intro hc
   by_cases c:d.live=0
   ·rw [c] at hc;exact absurd (by decide) hc
   ·have:=hb c
    omega)
  obtain ⟨K,hK⟩:∃ K:Int,K=(Go.Lib.bitLen d.live:Int)-1:=⟨_,rfl⟩
  rw [←hK] at kl ka
  simp [runW_fin,F_dom_Greatest,i_dom_Greatest,k1,kl,ka]
 | false=>
  rw [hm] at k1
  have e:greatD d=(0,false):=by unfold greatD listD;rw [hm];rfl
  rw [e]
  simp [runW_fin,F_dom_Greatest,i_dom_Greatest,k1]
theorem dom_Single (d:Dm) (hd:d.live<18446744073709551616) (hn:d.vals.length≤1000000) (h:List Ob):acw C n_dom_Single [domV d] h=some (.ret (.tup [iv (singleD d).1,.bool (singleD d).2]),h):=by
 have k1:=dom_Size d hd hn
 have k2:=dom_Least d hd hn
 refine acw_ex (v:=.tup [iv (singleD d).1,.bool (singleD d).2]) (CT T_dom_Single) rfl rfl (fun _=>rfl) (by simp) ?_
 unfold singleD
 by_cases c:sizeD d=1
 ·rw [if_pos c]
  have c':(sizeD d:Int)=1:=by omega
  simp [runW_fin,F_dom_Single,i_dom_Single,k1,k2,c',c,ieq,ine]
 ·rw [if_neg c]
  have c':¬(sizeD d:Int)=1:=by omega
  simp [runW_fin,F_dom_Single,i_dom_Single,k1,k2,c',c,ieq,ine]
theorem contains_intE (l:List Int) (x:Int) (hl:l.length≤4611686018427387904) (h:List Ob):acw C n_slices_Contains_sint_int [intsV l,iv x] h=some (.ret (.bool (l.any fun y=>x==y)),h):=
 contains (C:=C) (n:=n_slices_Index_sint_int) (CT T_slices_Index_sint_int) (CT T_slices_Contains_sint_int) (enc:=V.int .i64) (q:=fun a b=>a==b) cmp_int l x hl (fun _ _=>elt_int) Fz.int h
theorem listD_len (d:Dm):(listD d).length≤64:=by
 unfold listD
 split
 ·rename_i hm
  obtain ⟨h1,-,-⟩:=mayD_iff.1 hm
  rw [leftR_len]
  have:=posL_cnt d.vals.length d.live
  omega
 ·simp
theorem dom_Has (d:Dm) (v:Int) (hd:d.live<18446744073709551616) (hn:d.vals.length≤1000000) (h:List Ob):acw C n_dom_Has [domV d,iv v] h=some (.ret (.bool ((listD d).any fun y=>v==y)),h):=by
 have k1:=dom_List d hd hn
 have hl:=listD_len d
 have k2:=contains_intE (listD d) v (by omega)
 obtain ⟨L,hL⟩:∃ L,L=listD d:=⟨_,rfl⟩
 rw [←hL] at k1 k2 ⊢
 obtain ⟨B,hB⟩:∃ B,B=L.any fun y=>v==y:=⟨_,rfl⟩
 rw [←hB] at k2 ⊢
 refine acw_ex (v:=.bool B) (CT T_dom_Has) rfl rfl (fun _=>rfl) (by simp) ?_
 simp [runW_fin,F_dom_Has,i_dom_Has,k1,k2]
theorem eq_intsE (l m:List Int) (hl:l.length≤4611686018427387904) (h:List Ob):acw C n_slices_Equal_sint_int [intsV l,intsV m] h=some (.ret (.bool (decide (l=m))),h):=by
 have:=equal (C:=C) (n:=n_slices_Equal_sint_int) (CT T_slices_Equal_sint_int) rfl (enc:=V.int .i64) (q:=fun a b=>a==b) cmpn_int l m hl (fun _=>elt_int) h
 rw [all2_eq] at this
 rw [this]
 congr 4
 by_cases e:l=m<;>simp [e]
theorem dom_Same (d o:Dm) (hn:d.vals.length≤1000000) (h:List Ob):acw C n_dom_Same [domV d,domV o] h=some (.ret (.bool (decide (d=o))),h):=by
 have k:=eq_intsE d.vals o.vals (by omega)
 refine acw_ex (v:=.bool (decide (d=o))) (CT T_dom_Same) rfl rfl (fun _=>rfl) (by simp) ?_
 obtain ⟨a,b⟩:=d
 obtain ⟨a',b'⟩:=o
 simp only [Dm.mk.injEq] at k ⊢
 by_cases c:b=b'
 ·subst c
  by_cases c2:a=a'
  ·subst c2
   simp at k
   simp [runW_fin,F_dom_Same,i_dom_Same,k,ieq]
  ·simp [c2] at k
   simp [runW_fin,F_dom_Same,i_dom_Same,k,c2,ieq]
 ·have c':¬(b:Int)=b':=by omega
  simp [runW_fin,F_dom_Same,i_dom_Same,c,c',ieq]
abbrev zD:V:=.agg [.nsl 1,.int .u64 0]
section
variable (d:Dm) (p:Int→Bool) (f kid:Nat) (cap cap2:List V) (h:List Ob)
abbrev gK (d:Dm) (h:List Ob) (acc:Nat):List Ob:=h++[.row 2 [domV d],.row 2 [zD],.row 2 [.agg [intsV d.vals,uv acc]]]
theorem kept_loop (hk:h[kid]? = some (.row 1 [.fn (.func f) [] cap])) (hd:dataL cap=false) (hd2:dataL cap2=true) (hz:∀ t x,frzL ((h++t).take 4096) (iv x::cap)=some (iv x::cap2)) (hf:∀ x,acw C f (iv x::cap2) []=some (.ret (.bool (p x)),[]))
  (ks:List Nat) (hks:∀ k∈ks,k<d.vals.length) (hn:d.vals.length≤64) (hkn:ks.length≤64):∀ (m i acc:Nat),i+m=ks.length→acc<18446744073709551616 →
  evw C y0 i_dom_kept_1_l0 [(1,.ptr kid 0 0 1),(2,.ptr h.length 0 0 1),(3,.ptr (h.length+1) 0 0 1),(4,.ptr (h.length+2) 0 0 1),(13,.sl 1 (nsV ks)),(14,iv ks.length),(15,iv i)] (gK d h acc) =
   some (.ext 0,[(1,.ptr kid 0 0 1),(2,.ptr h.length 0 0 1),(3,.ptr (h.length+1) 0 0 1),(4,.ptr (h.length+2) 0 0 1),(13,.sl 1 (nsV ks)),(14,iv ks.length),(15,iv ks.length),(16,.bool false)],gK d h ((ks.drop i).foldl (fun a k=>if p (d.vals.getD k 0)=true then a|||2 ^ k else a) acc))
 | 0,i,acc,e,ha=>by
  obtain rfl:i=ks.length:=by omega
  rw [List.drop_length,r_dom_kept_1_0]
  simp [b_dom_kept_1_0]
 | m+1,i,acc,e,ha=>by
  have hlt:i<ks.length:=by omega
  have h2:(i:Int)<ks.length:=by omega
  have h3:ks[i]? = some ks[i]:=by simp [hlt]
  have hw:=wrap_succ (i:=i) (n:=ks.length) hlt (by omega)
  have hki:=hks ks[i] (List.getElem_mem hlt)
  have h4:d.vals[ks[i]]? = some d.vals[ks[i]]:=by simp [hki]
  have h5:d.vals.getD ks[i] 0=d.vals[ks[i]]:=by simp [hki]
  have hkl:=(List.getElem?_eq_some_iff.1 hk).1
  have hk':∀ t,(h++t)[kid]? = some (.row 1 [.fn (.func f) [] cap]):=fun t=>get_some hk
  have hq:∀ t r,dq false r (crw C y0) f (iv d.vals[ks[i]]::cap) (h++t)=some (.ret (.bool (p d.vals[ks[i]])),h++t):=fun t r=>
   dq_frz (hz t _) (by simp [dataL,V.data,hd]) (by simp [dataL,V.data,hd2]) (hf _) rfl rfl r
  have hdl:dataL (iv d.vals[ks[i]]::cap)=false:=by simp [dataL,V.data,hd]
  rw [List.drop_eq_getElem_cons hlt,List.foldl_cons,h5]
  cases c:p d.vals[ks[i]] with
  | true=>
   have hp:2 ^ ks[i]≤2 ^ 63:=Nat.pow_le_pow_right (by omega) (by omega)
   have ih:=kept_loop hk hd hd2 hz hf ks hks hn hkn m (i+1) (acc|||2 ^ ks[i]) (by omega) (Nat.or_lt_two_pow (n:=64) ha (by omega))
   have ho:=orU' acc (2 ^ ks[i]) ha (by omega)
   have kb:=bits_of ks[i] (by omega)
   obtain ⟨P,hP⟩:∃ P,P=2 ^ ks[i]:=⟨_,rfl⟩
   rw [←hP] at ih ho kb ⊢
   have k4:bsfL (.int .i64 0) [iv ks[i]]=some (.sl 1 [iv ks[i]]):=rfl
   simp only [Int.natCast_add,Int.cast_ofNat_Int] at ih
   rw [if_pos rfl,r_dom_kept_1_0,←ih]
   rw [c] at hq
   simp [b_dom_kept_1_0,h2,h3,h4,hk',hdl,hq,kb,k4,ho,hw]
  | false=>
   have ih:=kept_loop hk hd hd2 hz hf ks hks hn hkn m (i+1) acc (by omega) ha
   simp only [Int.natCast_add,Int.cast_ofNat_Int] at ih
   rw [if_neg (by simp),r_dom_kept_1_0,←ih]
   rw [c] at hq
   simp [b_dom_kept_1_0,h2,h3,h4,hk',hdl,hq,hw]
end
theorem clone_ints (l:List Int) (hl:l.length≤1000000) (h:List Ob):acw C n_slices_Clone_sint_int [intsV l] h=some (.ret (intsV l),h):=by
 refine acw_S (a2:=[intsV l]) rfl rfl rfl ?_ (by simp)
 have h1:l.length*8≤70368744177664:=by omega
 have h2:l.length≤70368744177664:=by omega
 have h3:dataL (l.map (V.int .i64))=true:=dataL_all (by simp)
 simp [C,S,s_clone,h1,h2,h3]
theorem kept1 (d:Dm) (p:Int→Bool) (f kid:Nat) (cap cap2:List V) (h:List Ob) (hm:mayD d=true) (hk:h[kid]? = some (.row 1 [.fn (.func f) [] cap])) (hd:dataL cap=false) (hd2:dataL cap2=true) (hz:∀ t x,frzL ((h++t).take 4096) (iv x::cap)=some (iv x::cap2)) (hf:∀ x,acw C f (iv x::cap2) []=some (.ret (.bool (p x)),[])) :
  acw C n_dom_kept_1 [domV d,.ptr kid 0 0 1] h=some (.ret (domV ⟨d.vals,keepB p d.vals d.live⟩),h++[.row 2 [domV d],.row 2 [domV ⟨d.vals,keepB p d.vals d.live⟩],.row 2 [domV ⟨d.vals,keepB p d.vals d.live⟩]]):=by
 obtain ⟨h1,h2,-⟩:=mayD_iff.1 hm
 obtain ⟨hl,hp⟩:=mayD_live hm
 have kb:=blist d.live hl
 rw [hp] at kb
 have kc:=clone_ints d.vals (by omega)
 have hcnt:=posL_cnt d.vals.length d.live
 have lp:=kept_loop d p f kid cap cap2 h hk hd hd2 hz hf (posL d.vals.length d.live) (fun k hk=>posL_lt _ _ _ hk) h1 (by omega) (posL d.vals.length d.live).length 0 0 (by omega) (by omega)
 have e:(posL d.vals.length d.live).foldl (fun a k=>if p (d.vals.getD k 0)=true then a|||2 ^ k else a) 0=keepB p d.vals d.live:=by
  have:=keepB_fold p d.vals d.live 0 0 (fun k=>d.vals.getD k 0) (fun k _=>rfl) (by simp)
  simpa using this
 rw [List.drop_zero,e] at lp
 obtain ⟨K,hK⟩:∃ K,K=posL d.vals.length d.live:=⟨_,rfl⟩
 obtain ⟨B,hB⟩:∃ B,B=keepB p d.vals d.live:=⟨_,rfl⟩
 rw [←hK] at kb lp
 rw [←hB] at lp ⊢
 simp only [gK,zD,uv,Int.cast_ofNat_Int] at lp
 rw [acw_hm (CT T_dom_kept_1) rfl]
 simp [runW_fin,F_dom_kept_1,i_dom_kept_1,kb,kc,lp]
def keptV (p:Int→Bool) (d:Dm):V:=if mayD d=true then domV ⟨d.vals,keepB p d.vals d.live⟩ else zD
theorem keptV_agg (p:Int→Bool) (d:Dm):∃ a b,keptV p d=.agg [a,.int .u64 b]∧a.cells.length=1∧a.one=true:=by
 unfold keptV
 split
 ·exact ⟨_,_,rfl,rfl,rfl⟩
 ·exact ⟨_,_,rfl,rfl,rfl⟩
theorem keptV_frz (p:Int→Bool) (d:Dm) (h:List Ob):frz h fdepth (keptV p d)=some (domV (keptD p d)):=by
 unfold keptV keptD
 split<;>rfl
theorem kept (d:Dm) (p:Int→Bool) (f:Nat) (cap cap2:List V) (h:List Ob) (hv:d.live<18446744073709551616) (hn:d.vals.length≤1000000) (hd:dataL cap=false) (hd2:dataL cap2=true) (hz:∀ t x,frzL ((h++t).take 4096) (iv x::cap)=some (iv x::cap2)) (hf:∀ x,acw C f (iv x::cap2) []=some (.ret (.bool (p x)),[])) :
  ∃ t,acw C n_dom_kept [domV d,.fn (.func f) [] cap] h=some (.ret (keptV p d),h++t):=by
 have k1:=dom_May d hv hn
 unfold keptV
 cases hm:mayD d with
 | true=>
  rw [hm] at k1
  rw [if_pos rfl]
  have ka:∀ g,g[h.length+1]? = some (.row 1 [.fn (.func f) [] cap])→(∀ t x,frzL ((g++t).take 4096) (iv x::cap)=some (iv x::cap2))→∃ t,acw C n_dom_asked_dom_Dom [domV d,.fn (.func n_dom_kept_1) [] [.ptr (h.length+1) 0 0 1]] g=some (.ret (domV ⟨d.vals,keepB p d.vals d.live⟩),g++t):=by
   intro g hg hgz
   have kk:=kept1 d p f (h.length+1) cap cap2 (g++[.row 2 [domV d],.row 2 [zD],.row 2 [zD]]) hm (get_some hg) hd hd2 (fun t x=>by rw [List.append_assoc];exact hgz _ x) hf
   obtain ⟨B,hB⟩:∃ B,B=keepB p d.vals d.live:=⟨_,rfl⟩
   rw [←hB] at kk ⊢
   refine ⟨[.row 2 [domV d],.row 2 [domV ⟨d.vals,B⟩],.row 2 [zD],.row 2 [domV d],.row 2 [domV ⟨d.vals,B⟩],.row 2 [domV ⟨d.vals,B⟩]],?_⟩
   rw [acw_hm (CT T_dom_asked_dom_Dom) rfl]
   simp at kk
   simp [runW_fin,F_dom_asked_dom_Dom,i_dom_asked_dom_Dom,k1,kk]
  obtain ⟨t,ka⟩:=ka (h++[.row 2 [domV d],.row 1 [.fn (.func f) [] cap],.row 2 [zD]]) (by simp) (fun t x=>by rw [List.append_assoc];exact hz _ x)
  obtain ⟨B,hB⟩:∃ B,B=keepB p d.vals d.live:=⟨_,rfl⟩
  rw [←hB] at ka ⊢
  refine ⟨[.row 2 [domV d],.row 1 [.fn (.func f) [] cap],.row 2 [domV ⟨d.vals,B⟩]]++t,?_⟩
  rw [acw_hm (CT T_dom_kept) rfl]
  simp at ka
  simp [runW_fin,F_dom_kept,i_dom_kept,ka]
 | false=>
  rw [hm] at k1
  rw [if_neg (by simp)]
  have ka:∀ g,acw C n_dom_asked_dom_Dom [domV d,.fn (.func n_dom_kept_1) [] [.ptr (h.length+1) 0 0 1]] g=some (.ret zD,g++[.row 2 [domV d],.row 2 [zD],.row 2 [zD]]):=by
   intro g
   rw [acw_hm (CT T_dom_asked_dom_Dom) rfl]
   simp [runW_fin,F_dom_asked_dom_Dom,i_dom_asked_dom_Dom,k1]
  refine ⟨[.row 2 [domV d],.row 1 [.fn (.func f) [] cap],.row 2 [zD],.row 2 [domV d],.row 2 [zD],.row 2 [zD]],?_⟩
  rw [acw_hm (CT T_dom_kept) rfl]
  simp [runW_fin,F_dom_kept,i_dom_kept,ka]
theorem less_1 (x v:Int) (h:List Ob):acw C n_dom_Less_1 [iv x,.pin (iv v) 0] h=some (.ret (.bool (x != v)),h):=by
 refine acw_ex (v:=.bool (x != v)) (CT T_dom_Less_1) rfl rfl (fun _=>rfl) (by simp) ?_
 simp [runW_fin,F_dom_Less_1,i_dom_Less_1]
theorem dom_Less (d:Dm) (v:Int) (hv:d.live<18446744073709551616) (hn:d.vals.length≤1000000) (h:List Ob):acw C n_dom_Less [domV d,iv v] h=some (.ret (domV (keptD (fun x=>x != v) d)),h):=by
 obtain ⟨t,k⟩:=kept d (fun x=>x != v) n_dom_Less_1 [.ptr 1 0 0 1] [.pin (iv v) 0] [.row 2 [domV d],.row 1 [iv v],.row 2 [zD]] hv hn rfl rfl (fun t x=>rfl) (fun x=>less_1 x v [])
 have hf:=keptV_frz (fun x=>x != v) d
 obtain ⟨a,b,e,e1,e2⟩:=keptV_agg (fun x=>x != v) d
 rw [e] at k hf
 simp at k
 refine acw_pure (a2:=[domV d,iv v]) (h':=[.row 2 [domV d],.row 1 [iv v],.row 2 [.agg [a,.int .u64 b]]]++t) (v:=.agg [a,.int .u64 b]) (CT T_dom_Less) rfl rfl ?_ (hf _) (by simp [dataL,V.data])
 simp [runW_fin,F_dom_Less,i_dom_Less,k,e1]
end Go.RR.M
namespace Go.RR.FX
open Go Go.RR Go.RR.M
theorem kept_kept {p q:Int→Bool} {d:Dm} (hm:mayD d=true):keptD p (keptD q d)=keptD (fun x=>q x&&p x) d:=by
 have e:keptD q d=⟨d.vals,keepB q d.vals d.live⟩:=if_pos hm
 have h2:=(kept_may (p:=q) hm).2.1
 rw [e] at h2 ⊢
 unfold keptD
 rw [if_pos h2,if_pos hm,keepB_keepB]
theorem mayD_ok {d:Dm} (hm:mayD d=true):d.live<18446744073709551616∧d.vals.length≤1000000:=⟨(mayD_live hm).1,by have:=(mayD_iff.1 hm).1;omega⟩
theorem listD_mem {d:Dm} (hm:mayD d=true) {x:Int} (hx:x∈listD d):-1048576≤x∧x≤1048576:=by
 unfold listD at hx
 rw [if_pos hm] at hx
 exact (rising_all (mayD_iff.1 hm).2.2).1 x (leftR_mem _ _ _ hx)
theorem least_lo {d:Dm} (h:listD d≠[]):leastD d=(lo (listD d),true):=by
 unfold leastD lo
 cases e:listD d with
 | nil=>exact absurd e h
 | cons a r=>rfl
theorem great_hi {d:Dm} (h:listD d≠[]):greatD d=(hi (listD d),true):=by
 unfold greatD hi
 rw [List.getLastD_eq_getLast?,List.getLast?_eq_some_getLast h]
 rfl
theorem may_1 (x rel a:Int) (h:List Ob):acw C n_linear_ends_may_1 [iv x,.pin (iv rel) 0,.pin (iv a) 0] h=some (.ret (.bool (relB rel x a)),h):=by
 have k:=fun h=>sums_Holds x rel a h
 refine acw_ex (v:=.bool (relB rel x a)) (CT T_linear_ends_may_1) rfl rfl (fun _=>rfl) (by simp) ⟨[],?_⟩
 simp [runW_fin,F_linear_ends_may_1,i_linear_ends_may_1,k]
theorem may_1f (x rel a u w:Int):acw C n_linear_ends_may_1 [iv x,.ptr 1 0 0 1,.ptr 2 0 0 1] [.row 2 [.agg [iv u,iv w]],.row 1 [iv rel],.row 1 [iv a]]=some (.ret (.bool (relB rel x a)),[.row 2 [.agg [iv u,iv w]],.row 1 [iv rel],.row 1 [iv a]]):=
 acw_of_frz (a2:=[iv x,.pin (iv rel) 0,.pin (iv a) 0]) (CT T_linear_ends_may_1) rfl rfl rfl (may_1 x rel a []) rfl
theorem may (u w rel a:Int) (hr:0≤rel∧rel≤5) (h:List Ob):acw C n_linear_ends_may [.agg [iv u,iv w],iv rel,iv a] h=some (.ret (.bool (mayE u w rel a)),h):=by
 have k1:=fun x=>may_1f x rel a u w
 refine acw_ex (v:=.bool (mayE u w rel a)) (CT T_linear_ends_may) rfl rfl (fun _=>rfl) (by simp) ⟨[.row 2 [.agg [iv u,iv w]],.row 1 [iv rel],.row 1 [iv a]],?_⟩
 have:rel=0∨rel=1∨rel=2∨rel=3∨rel=4∨rel=5:=by omega
 unfold mayE
 rcases this with rfl|rfl|rfl|rfl|rfl|rfl
 ·by_cases c1:u≤a<;>by_cases c2:a≤w<;>simp [runW_fin,F_linear_ends_may,i_linear_ends_may,c1,c2]
 ·have e1:=k1 u
  have e2:=k1 w
  simp only [relB] at e1 e2
  by_cases c1:u=a
  ·by_cases c2:w=a
   ·subst c1;subst c2
    simp at e1
    simp [runW_fin,F_linear_ends_may,i_linear_ends_may,e1]
   ·subst c1
    simp [c2] at e1 e2
    simp [runW_fin,F_linear_ends_may,i_linear_ends_may,e1,e2,c2]
  ·simp [c1] at e1
   simp [runW_fin,F_linear_ends_may,i_linear_ends_may,e1,c1]
 all_goals
  have e1:=k1 u
  have e2:=k1 w
  simp [relB] at e1 e2
  simp [runW_fin,F_linear_ends_may,i_linear_ends_may,e1,e2]
theorem contrary (r:Int) (h0:0≤r∧r≤5) (h:List Ob):acw C n_linear_Contrary [iv r] h=some (.ret (iv (crelF r)),h):=by
 refine acw_ex (v:=iv (crelF r)) (CT T_linear_Contrary) rfl rfl (fun _=>rfl) (by simp) ⟨[],?_⟩
 have:r=0∨r=1∨r=2∨r=3∨r=4∨r=5:=by omega
 rcases this with rfl|rfl|rfl|rfl|rfl|rfl<;>simp [runW_fin,F_linear_Contrary,i_linear_Contrary,crelF]
theorem mul_bd {k x:Int} (hk:-1048576≤k∧k≤1048576) (hx:-1048576≤x∧x≤1048576):-1099511627776≤k*x∧k*x≤1099511627776:=mul_small hk hx
theorem plus (a b k s:Int) (d:Dm) (hm:mayD d=true) (hne:listD d≠[]) (hk:-1048576≤k∧k≤1048576) (hs:s=1∨s=-1) (ha:-1125899906842624≤a∧a≤1125899906842624) (hb:-1125899906842624≤b∧b≤1125899906842624) (h:List Ob) :
  acw C n_linear_ends_plus [.agg [iv a,iv b],iv k,domV d,iv s] h=some (.ret (.agg [iv (a+s*min (k*lo (listD d)) (k*hi (listD d))),iv (b+s*max (k*lo (listD d)) (k*hi (listD d)))]),h):=by
 obtain ⟨h1,h2⟩:=mayD_ok hm
 have k1:=fun h=>dom_Least d h1 h2 h
 have k2:=fun h=>dom_Greatest d h1 h2 h
 rw [least_lo hne] at k1
 rw [great_hi hne] at k2
 have l1:=listD_mem hm (lo_mem hne)
 have l2:=listD_mem hm (hi_mem hne)
 obtain ⟨x,hx⟩:∃ x,x=lo (listD d):=⟨_,rfl⟩
 obtain ⟨y,hy⟩:∃ y,y=hi (listD d):=⟨_,rfl⟩
 rw [←hx] at k1 l1 ⊢
 rw [←hy] at k2 l2 ⊢
 have m1:=mul_bd hk l1
 have m2:=mul_bd hk l2
 obtain ⟨p,hp⟩:∃ p,p=k*x:=⟨_,rfl⟩
 obtain ⟨q,hq⟩:∃ q,q=k*y:=⟨_,rfl⟩
 have w1:IntKind.i64.wrap (k*x)=p:=by rw [hp];exact wrap64 (by omega) (by omega)
 have w2:IntKind.i64.wrap (k*y)=q:=by rw [hq];exact wrap64 (by omega) (by omega)
 rw [←hp] at m1 ⊢
 rw [←hq] at m2 ⊢
 obtain ⟨u,hu⟩:∃ u,u=min p q:=⟨_,rfl⟩
 obtain ⟨v,hv⟩:∃ v,v=max p q:=⟨_,rfl⟩
 have hu2:-1099511627776≤u∧u≤1099511627776:=by omega
 have hv2:-1099511627776≤v∧v≤1099511627776:=by omega
 have j1:mxV false [iv p,iv q]=some (iv u):=by
  rw [hu]
  simp only [mxV,maxV,if_true,Bool.false_eq_true,if_false,Option.some.injEq,V.int.injEq,true_and]
  by_cases c:q<p
  ·rw [if_pos c];omega
  ·rw [if_neg c];omega
 have j2:mxV true [iv p,iv q]=some (iv v):=by
  rw [hv]
  simp only [mxV,maxV,if_true,Option.some.injEq,V.int.injEq,true_and]
  by_cases c:q>p
  ·rw [if_pos c];omega
  ·rw [if_neg c];omega
 rw [←hu,←hv]
 refine acw_ex (v:=.agg [iv (a+s*u),iv (b+s*v)]) (CT T_linear_ends_plus) rfl rfl (fun _=>rfl) (by simp) ⟨[.row 2 [.agg [iv a,iv b]],.row 2 [domV d],.row 2 [.agg [iv (a+s*u),iv (b+s*v)]]],?_⟩
 rcases hs with rfl|rfl
 ·have w3:IntKind.i64.wrap (1*u)=1*u:=wrap64 (by omega) (by omega)
  have w4:IntKind.i64.wrap (1*v)=1*v:=wrap64 (by omega) (by omega)
  have w5:IntKind.i64.wrap (a+1*u)=a+1*u:=wrap64 (by omega) (by omega)
  have w6:IntKind.i64.wrap (b+1*v)=b+1*v:=wrap64 (by omega) (by omega)
  simp only [Int.one_mul] at w3 w4 w5 w6
  simp [runW_fin,F_linear_ends_plus,i_linear_ends_plus,k1,k2,w1,w2,j_mxn,j1,j2,w3,w4,w5,w6]
 ·have w3:IntKind.i64.wrap (-1*u)=-1*u:=wrap64 (by omega) (by omega)
  have w4:IntKind.i64.wrap (-1*v)=-1*v:=wrap64 (by omega) (by omega)
  have w5:IntKind.i64.wrap (a+-1*u)=a+-1*u:=wrap64 (by omega) (by omega)
  have w6:IntKind.i64.wrap (b+-1*v)=b+-1*v:=wrap64 (by omega) (by omega)
  simp [runW_fin,F_linear_ends_plus,i_linear_ends_plus,k1,k2,w1,w2,j_mxn,j1,j2] at w3 w4 w5 w6 ⊢
  simp [w3,w4,w5,w6]
abbrev dsV (l:Ds):V:=.sl 2 (l.map domV)
def smallL (ks:List Int):Prop:=∀ k∈ks,-1048576≤k∧k≤1048576
structure SumOK (c:Con) (vs:List Int) (l:Ds):Prop where
 hl:c.coefs.length=vs.length
 hb:∀ v∈vs,0≤v∧v<l.length
 ok:okL l
 ne:∀ v∈vs,atL (lists l) v≠[]
 hk:smallL c.coefs
 h9:vs.length≤9
theorem min_bd {p q:Int} (h1:-1099511627776≤p∧p≤1099511627776) (h2:-1099511627776≤q∧q≤1099511627776):-1099511627776≤min p q∧min p q≤1099511627776 ∧ -1099511627776≤max p q∧max p q≤1099511627776:=by omega
theorem total_loop {c:Con} {vs:List Int} {l:Ds} (hs:SumOK c vs l):∀ (n i:Nat) (a b:Int),i+n=vs.length→(-(i*1099511627776)≤a∧a≤i*1099511627776)→(-(i*1099511627776)≤b∧b≤i*1099511627776) →
  evw C y0 i_linear_total_l0 [(2,dsV l),(3,.ptr 0 0 0 1),(6,.ptr 1 0 0 1),(7,.ptr 2 0 0 1),(10,intsV vs),(11,iv vs.length),(12,iv i)] [.row 6 [conV c],.row 2 [.agg [iv 0,iv 0]],.row 2 [.agg [iv a,iv b]]] =
   some (.ext 0,[(2,dsV l),(3,.ptr 0 0 0 1),(6,.ptr 1 0 0 1),(7,.ptr 2 0 0 1),(10,intsV vs),(11,iv vs.length),(12,iv vs.length),(13,.bool false)],[.row 6 [conV c],.row 2 [.agg [iv 0,iv 0]],.row 2 [.agg [iv (a+(ends (lists l) (fun _=>false) (c.coefs.drop i) (vs.drop i)).1),iv (b+(ends (lists l) (fun _=>false) (c.coefs.drop i) (vs.drop i)).2)]]]):=by
 intro n
 induction n with
 | zero=>
  intro i a b hin _ _
  have:i=vs.length:=by omega
  subst this
  rw [r_linear_total_0,List.drop_length]
  have e:ends (lists l) (fun _=>false) (c.coefs.drop vs.length) []=(0,0):=by cases c.coefs.drop vs.length<;>simp [ends]
  rw [e]
  simp [b_linear_total_0]
 | succ n ih=>
  intro i a b hin ha hb
  have hlt:i<vs.length:=by omega
  have hlk:i<c.coefs.length:=by have:=hs.hl;omega
  obtain ⟨v,hv⟩:∃ v,v=vs[i]:=⟨_,rfl⟩
  obtain ⟨k,hk⟩:∃ k,k=c.coefs[i]:=⟨_,rfl⟩
  have hvm:v∈vs:=by rw [hv];exact List.getElem_mem hlt
  have hvb:=hs.hb v hvm
  have hne:=hs.ne v hvm
  have hks:=hs.hk k (by rw [hk];exact List.getElem_mem hlk)
  rw [atL_lists hvb] at hne
  obtain ⟨w,rfl⟩:∃ w:Nat,v=w:=⟨v.toNat,by omega⟩
  have hw:w<l.length:=by omega
  obtain ⟨d,hd⟩:∃ d,d=l[w]:=⟨_,rfl⟩
  have hdm:=hs.ok d (by rw [hd];exact List.getElem_mem hw)
  have hat:atL (lists l) (w:Int)=listD d:=by rw [atL_lists hvb,hd];rfl
  have hne2:listD d≠[]:=by rw [←hat,atL_lists hvb];exact hne
  have h9:=hs.h9
  have kp:=fun h=>plus a b k 1 d hdm hne2 hks (.inl rfl) (by omega) (by omega) h
  have l1:=listD_mem hdm (lo_mem hne2)
  have l2:=listD_mem hdm (hi_mem hne2)
  have bd:=min_bd (mul_bd hks l1) (mul_bd hks l2)
  rw [List.drop_eq_getElem_cons hlt,List.drop_eq_getElem_cons hlk,←hv,←hk,ends,if_neg (by simp),hat]
  obtain ⟨p,hp⟩:∃ p,p=min (k*lo (listD d)) (k*hi (listD d)):=⟨_,rfl⟩
  obtain ⟨q,hq⟩:∃ q,q=max (k*lo (listD d)) (k*hi (listD d)):=⟨_,rfl⟩
  rw [←hp,←hq] at kp bd ⊢
  have ih:=ih (i+1) (a+1*p) (b+1*q) (by omega) (by omega) (by omega)
  have e1:∀ x,a+1*p+x=a+(x+p):=fun x=>by omega
  have e2:∀ x,b+1*q+x=b+(x+q):=fun x=>by omega
  rw [e1,e2] at ih
  simp only [Int.natCast_add,Int.cast_ofNat_Int,Int.one_mul] at ih kp
  have hv1:vs[i]? = some (w:Int):=by simp [hlt,hv]
  have hv2:∀ h:i<vs.length,vs[i]'h=(w:Int):=fun _=>hv.symm
  have hk1:c.coefs[i]? = some k:=by simp [hlk,hk]
  have hk2:∀ h:i<c.coefs.length,c.coefs[i]'h=k:=fun _=>hk.symm
  have hd1:l[w]? = some d:=by simp [hw,hd]
  have hd2:∀ h:w<l.length,l[w]'h=d:=fun _=>hd.symm
  have hi4:(i:Int)<vs.length:=by omega
  have hi5:(i:Int)<c.coefs.length:=by omega
  have hi6:(w:Int)<l.length:=by omega
  have hwr:=wrap_succ hlt (by omega)
  simp only
  rw [←ih,r_linear_total_0]
  simp [b_linear_total_0,hlt,hlk,hv1,hv2,hk1,hk2,hd1,hd2,hw,hi4,hi5,hi6,hwr,kp]
theorem total {c:Con} {vs:List Int} {l:Ds} (hs:SumOK c vs l) (h:List Ob):acw C n_linear_total [conV c,intsV vs,dsV l] h=some (.ret (.agg [iv (ends (lists l) (fun _=>false) c.coefs vs).1,iv (ends (lists l) (fun _=>false) c.coefs vs).2]),h):=by
 have e:=total_loop hs vs.length 0 0 0 (by omega) (by simp) (by simp)
 simp only [List.drop_zero,Int.cast_ofNat_Int,Int.zero_add] at e
 refine acw_ex (v:=.agg [iv (ends (lists l) (fun _=>false) c.coefs vs).1,iv (ends (lists l) (fun _=>false) c.coefs vs).2]) (CT T_linear_total) rfl rfl (fun _=>rfl) (by simp) ⟨[.row 6 [conV c],.row 2 [.agg [iv (ends (lists l) (fun _=>false) c.coefs vs).1,iv (ends (lists l) (fun _=>false) c.coefs vs).2]],.row 2 [.agg [iv (ends (lists l) (fun _=>false) c.coefs vs).1,iv (ends (lists l) (fun _=>false) c.coefs vs).2]]],?_⟩
 simp [runW_fin,F_linear_total,i_linear_total,e]
def qk (p:Int→Bool) (xs:List Int) (i:Nat) (x:Int):Bool:=p x||!((xs.take i).contains x)
theorem kept_loop (d:Dm) (hm:mayD d=true) (p:Int→Bool) (f:Nat) (cap:List V) (h:List Ob) (hf:∀ x∈listD d,∀ t,acw C f (iv x::cap) (h++t)=some (.ret (.bool (p x)),h++t)):∀ (n i:Nat),i+n=(listD d).length →
  evw C y0 i_linear_kept_l0 [(1,.fn (.func f) [] cap),(2,.ptr h.length 0 0 1),(4,.ptr (h.length+1) 0 0 1),(8,intsV (listD d)),(9,iv (listD d).length),(10,iv i)] (h++[.row 2 [domV (keptD (qk p (listD d) i) d)],.row 2 [.agg [.nsl 1,.int .u64 0]]]) =
   some (.ext 0,[(1,.fn (.func f) [] cap),(2,.ptr h.length 0 0 1),(4,.ptr (h.length+1) 0 0 1),(8,intsV (listD d)),(9,iv (listD d).length),(10,iv (listD d).length),(11,.bool false)],h++[.row 2 [domV (keptD (qk p (listD d) (listD d).length) d)],.row 2 [.agg [.nsl 1,.int .u64 0]]]):=by
 intro n
 induction n with
 | zero=>
  intro i hin
  have:i=(listD d).length:=by omega
  subst this
  rw [r_linear_kept_0]
  simp [b_linear_kept_0]
 | succ n ih=>
  intro i hin
  have hlt:i<(listD d).length:=by omega
  obtain ⟨x,hx⟩:∃ x,x=(listD d)[i]:=⟨_,rfl⟩
  have hxm:x∈listD d:=by rw [hx];exact List.getElem_mem hlt
  have kf:=hf x hxm
  have ih:=ih (i+1) (by omega)
  have hi4:(i:Int)<(listD d).length:=by omega
  have hlen:=listD_len d
  have hwr:=wrap_succ hlt (by omega)
  obtain ⟨L,hL⟩:∃ L,L=listD d:=⟨_,rfl⟩
  have htk:(L.take (i+1)).contains x=true:=by
   rw [List.contains_iff_mem,hL,List.take_succ_eq_append_getElem hlt,←hx]
   simp
  have hq:∀ y,(L.take (i+1)).contains y=((L.take i).contains y||y==x):=fun y=>by
   rw [hL,List.take_succ_eq_append_getElem hlt,←hx,Bool.eq_iff_iff]
   simp [List.contains_iff_mem]
  have hx1:L[i]? = some x:=by simp [hL,hlt,hx]
  have hx2:∀ h:i<L.length,L[i]'h=x:=fun _=>by subst hL;exact hx.symm
  rw [←hL] at hlt hi4 ih ⊢
  simp only [Int.natCast_add,Int.cast_ofNat_Int] at ih
  rw [←ih,r_linear_kept_0]
  by_cases c:p x=true
  ·rw [c] at kf
   have e:keptD (qk p L (i+1)) d=keptD (qk p L i) d:=keptD_congr fun y _=>by
    unfold qk
    rw [hq]
    by_cases hy:y=x
    ·rw [hy,c];rfl
    ·have:(y==x)=false:=by simpa using hy
     rw [this,Bool.or_false]
   rw [e]
   simp [b_linear_kept_0,hlt,hx1,hx2,hi4,hwr,kf]
  ·have c':p x=false:=by simpa using c
   rw [c'] at kf
   have e:keptD (qk p L (i+1)) d=keptD (fun y=>y != x) (keptD (qk p L i) d):=by
    rw [kept_kept hm]
    refine keptD_congr fun y _=>?_
    unfold qk
    rw [hq]
    by_cases hy:y=x
    ·rw [hy,c'];simp
    ·have h1:(y==x)=false:=by simpa using hy
     have h2:(y != x)=true:=by simpa [bne_iff_ne] using hy
     rw [h1,h2,Bool.or_false,Bool.and_true]
   obtain ⟨D,hD⟩:∃ D,D=keptD (qk p L i) d:=⟨_,rfl⟩
   have hDm:mayD D=true:=by rw [hD];exact (kept_may hm).2.1
   have kl:=fun h=>dom_Less D x (mayD_ok hDm).1 (mayD_ok hDm).2 h
   rw [e,←hD]
   obtain ⟨E,hE⟩:∃ E,E=keptD (fun y=>y != x) D:=⟨_,rfl⟩
   rw [←hE] at kl ⊢
   simp [b_linear_kept_0,hlt,hx1,hx2,hi4,hwr,kf,kl]
theorem kept (d:Dm) (hm:mayD d=true) (p:Int→Bool) (f:Nat) (cap:List V) (h:List Ob) (hf:∀ x∈listD d,∀ t,acw C f (iv x::cap) (h++t)=some (.ret (.bool (p x)),h++t)) :
  acw C n_linear_kept [domV d,.fn (.func f) [] cap] h=some (.ret (domV (keptD p d)),h++[.row 2 [domV (keptD p d)],.row 2 [domV (keptD p d)]]):=by
 have e:=kept_loop d hm p f cap h hf (listD d).length 0 (by omega)
 have e0:keptD (qk p (listD d) 0) d=d:=kept_all hm fun x _=>by simp [qk]
 have e1:keptD (qk p (listD d) (listD d).length) d=keptD p d:=keptD_congr fun x hx=>by
  unfold qk
  rw [List.take_length,List.contains_iff_mem.2 hx]
  simp
 rw [e0,e1] at e
 have kl:=fun h=>dom_List d (mayD_ok hm).1 (mayD_ok hm).2 h
 simp only [Int.cast_ofNat_Int] at e
 obtain ⟨D,hD⟩:∃ D,D=keptD p d:=⟨_,rfl⟩
 rw [←hD] at e ⊢
 rw [acw_hm (CT T_linear_kept) rfl]
 simp [runW_fin,F_linear_kept,i_linear_kept,kl,e]
theorem none_1 (x:Int) (h:List Ob):acw C n_linear_none_1 [iv x] h=some (.ret (.bool false),h):=by
 refine acw_ex (v:=.bool false) (CT T_linear_none_1) rfl rfl (fun _=>rfl) (by simp) ⟨[],?_⟩
 simp [runW_fin,F_linear_none_1,i_linear_none_1]
theorem sum_1 (x:Int) (c:Con) (i:Nat) (k u w rel:Int) (hi:i<c.coefs.length) (hk:k=c.coefs[i]) (hks:-1048576≤k∧k≤1048576) (hx:-1048576≤x∧x≤1048576) (hu:-1125899906842624≤u∧u≤1125899906842624) (hw:-1125899906842624≤w∧w≤1125899906842624) (hr:0≤rel∧rel≤5) (h:List Ob) :
  acw C n_linear_sum_1 [iv x,.pin (conV c) 0,.pin (iv i) 0,.pin (.agg [iv u,iv w]) 0,.pin (iv rel) 0] h=some (.ret (.bool (mayE (u+k*x) (w+k*x) rel c.const)),h):=by
 have m:=mul_bd hks hx
 obtain ⟨q,hq⟩:∃ q,q=k*x:=⟨_,rfl⟩
 have w1:IntKind.i64.wrap (k*x)=q:=by rw [hq];exact wrap64 (by omega) (by omega)
 rw [←hq] at m ⊢
 have w2:IntKind.i64.wrap (u+q)=u+q:=wrap64 (by omega) (by omega)
 have w3:IntKind.i64.wrap (w+q)=w+q:=wrap64 (by omega) (by omega)
 have km:=fun h=>may (u+q) (w+q) rel c.const hr h
 have hk1:c.coefs[i]? = some k:=by simp [hi,hk]
 have hk2:∀ h:i<c.coefs.length,c.coefs[i]'h=k:=fun _=>hk.symm
 have hi4:(i:Int)<c.coefs.length:=by omega
 refine acw_ex (v:=.bool _) (CT T_linear_sum_1) rfl rfl (fun _=>rfl) (by simp) ⟨[],?_⟩
 simp [runW_fin,F_linear_sum_1,i_linear_sum_1,hi,hi4,hk1,hk2,w1,w2,w3,km]
def updF (P:Int→Int→Bool) (l:Ds) (vs:List Int) (ds:Ds):Ds:=vs.foldl (fun ds v=>ds.set v.toNat (keptD (P v) (l.getD v.toNat ⟨[],0⟩))) ds
theorem updF_len {P:Int→Int→Bool} {l:Ds}:∀ {vs:List Int} {ds:Ds},(updF P l vs ds).length=ds.length
 | [],ds=>rfl
 | v::vs,ds=>by
  unfold updF
  rw [List.foldl_cons]
  have:=updF_len (P:=P) (l:=l) (vs:=vs) (ds:=ds.set v.toNat (keptD (P v) (l.getD v.toNat ⟨[],0⟩)))
  unfold updF at this
  rw [this,List.length_set]
structure Mvd (id:Nat) (h h':List Ob) (ds:Ds):Prop where
 le:h.length≤h'.length
 at_:h'[id]? = some (.row 2 (ds.map domV))
 same:∀ j,j<h.length→j≠id→h'[j]? = h[j]?
theorem Mvd.trans {id:Nat} {h h' h'':List Ob} {a b:Ds} (x:Mvd id h h' a) (y:Mvd id h' h'' b):Mvd id h h'' b:=⟨Nat.le_trans x.le y.le,y.at_,fun j h1 h2=>(y.same j (Nat.lt_of_lt_of_le h1 x.le) h2).trans (x.same j h1 h2)⟩
theorem frz_p1 {h:List Ob} {a sa:Nat} {x x':V} (ha:h[a]? = some (.row sa [x])) (hx:frz h 11 x=some x'):frz h fdepth (.ptr a 0 0 1)=some (.pin x' 0):=by
 have e1:rowOf h a 1=some (sa,[x]):=by simp [rowOf,ha]
 simp [fdepth,frz,ha,hx]
theorem get_app {h t:List Ob} {j:Nat} {o:Ob} (e:h[j]? = some o):(h++t)[j]? = some o:=by
 rw [List.getElem?_append_left (List.getElem?_eq_some_iff.1 e).1,e]
theorem wr_app {h t:List Ob} {i:Nat} {o:Ob} (hi:i<h.length):wr (h++t) (some (i,o))=h.set i o++t:=by
 rw [wr_lt (by rw [List.length_append];omega),List.set_append_left _ _ hi]
theorem ends_split {L:Ls} {v:Int}:∀ {vs ks:List Int},vs.Nodup→v∈vs→ks.length=vs.length→(ends L (fun u=>u==v) ks vs).1+min (coefAt ks vs v*lo (atL L v)) (coefAt ks vs v*hi (atL L v))=(ends L (fun _=>false) ks vs).1∧(ends L (fun u=>u==v) ks vs).2+max (coefAt ks vs v*lo (atL L v)) (coefAt ks vs v*hi (atL L v))=(ends L (fun _=>false) ks vs).2
 | [],ks,_,h,_=>by simp at h
 | u::vs,[],_,_,h=>by simp at h
 | u::vs,k::ks,hn,hv,hl=>by
  have hn2:=List.nodup_cons.1 hn
  rw [ends,ends]
  by_cases c:u=v
  ·subst c
   have e:coefAt (k::ks) (u::vs) u=k:=by simp [coefAt]
   have no:∀ {vs ks:List Int},u∉vs→ends L (fun w=>w==u) ks vs=ends L (fun _=>false) ks vs:=fun {vs ks}=>by
    induction vs generalizing ks with
    | nil=>intro _;cases ks<;>simp [ends]
    | cons w r ih=>
     intro h
     simp only [List.mem_cons,not_or] at h
     cases ks with
     | nil=>simp [ends]
     | cons k ks=>
      have:(w==u)=false:=by simp only [beq_eq_false_iff_ne];exact fun e=>h.1 e.symm
      rw [ends,ends,ih h.2]
      simp [this]
   rw [e,no hn2.1]
   simp
  ·have c2:(u==v)=false:=by simpa using c
   have hv2:v∈vs:=by
    rcases List.mem_cons.1 hv with e|h
    ·exact absurd e.symm c
    ·exact h
   have ih:=ends_split (L:=L) hn2.2 hv2 (ks:=ks) (by simpa using hl)
   have e:coefAt (k::ks) (u::vs) v=coefAt ks vs v:=by
    unfold coefAt
    rw [List.idxOf_cons,c2]
    simp
   rw [e]
   simp only [c2,Bool.false_eq_true,if_false]
   omega
theorem ends_bd {L:Ls} {skip:Int→Bool}:∀ {vs ks:List Int},smallL ks→(∀ v∈vs,∀ x∈atL L v,-1048576≤x∧x≤1048576)→(∀ v∈vs,atL L v≠[]) → -(vs.length*1099511627776:Int)≤(ends L skip ks vs).1∧(ends L skip ks vs).1≤vs.length*1099511627776 ∧ -(vs.length*1099511627776:Int)≤(ends L skip ks vs).2∧(ends L skip ks vs).2≤vs.length*1099511627776
 | [],ks,_,_,_=>by cases ks<;>simp [ends]
 | v::vs,[],_,_,_=>by simp only [ends,List.length_cons];omega
 | v::vs,k::ks,h1,h2,h3=>by
  have ih:=ends_bd (L:=L) (skip:=skip) (vs:=vs) (ks:=ks) (fun k hk=>h1 k (by simp [hk])) (fun u hu=>h2 u (by simp [hu])) (fun u hu=>h3 u (by simp [hu]))
  have bd:=min_bd (mul_bd (h1 k (by simp)) (h2 v (by simp) _ (lo_mem (h3 v (by simp))))) (mul_bd (h1 k (by simp)) (h2 v (by simp) _ (hi_mem (h3 v (by simp)))))
  rw [ends]
  simp only [List.length_cons]
  split
  ·omega
  ·simp only
   omega
theorem SumOK.bd {c:Con} {vs:List Int} {l:Ds} (hs:SumOK c vs l) (skip:Int→Bool):-9895604649984≤(ends (lists l) skip c.coefs vs).1∧(ends (lists l) skip c.coefs vs).1≤9895604649984 ∧ -9895604649984≤(ends (lists l) skip c.coefs vs).2∧(ends (lists l) skip c.coefs vs).2≤9895604649984:=by
 have:=ends_bd (L:=lists l) (skip:=skip) (vs:=vs) hs.hk (fun v hv x hx=>by
  rw [atL_lists (hs.hb v hv)] at hx
  exact listD_mem (hs.ok _ (List.getElem_mem _)) hx) hs.ne
 have:=hs.h9
 omega
theorem sum_loop {c:Con} {vs:List Int} {l:Ds} {rel:Int} (hs:SumOK c vs l) (hn:vs.Nodup) (hr:0≤rel∧rel≤5) (id b:Nat):∀ (n i:Nat) (ds:Ds) (H:List Ob),i+n=vs.length→ds.length=l.length→H[id]? = some (.row 2 (ds.map domV))→id<b→H[b]? = some (.row 6 [conV c])→H[b+1]? = some (.row 1 [iv rel])→H[b+2]? = some (.row 2 [.agg [iv (ends (lists l) (fun _=>false) c.coefs vs).1,iv (ends (lists l) (fun _=>false) c.coefs vs).2]]) →
  ∃ H',evw C y0 i_linear_sum_l0 [(3,dsV l),(4,.own id 0 l.length l.length),(5,.ptr b 0 0 1),(7,.ptr (b+1) 0 0 1),(10,.ptr (b+2) 0 0 1),(18,intsV vs),(19,iv vs.length),(20,iv i)] H =
   some (.ext 0,[(3,dsV l),(4,.own id 0 l.length l.length),(5,.ptr b 0 0 1),(7,.ptr (b+1) 0 0 1),(10,.ptr (b+2) 0 0 1),(18,intsV vs),(19,iv vs.length),(20,iv vs.length),(21,.bool false)],H')∧Mvd id H H' (updF (kSum c.coefs vs rel c.const (lists l)) l (vs.drop i) ds):=by
 intro n
 induction n with
 | zero=>
  intro i ds H hin hdl g0 hlt g1 g2 g3
  have:i=vs.length:=by omega
  subst this
  rw [r_linear_sum_0,List.drop_length]
  refine ⟨H,?_,Nat.le_refl _,g0,fun _ _ _=>rfl⟩
  simp [b_linear_sum_0]
 | succ n ih=>
  intro i ds H hin hdl g0 hid g1 g2 g3
  have hlt:i<vs.length:=by omega
  have hlk:i<c.coefs.length:=by have:=hs.hl;omega
  obtain ⟨v,hv⟩:∃ v,v=vs[i]:=⟨_,rfl⟩
  obtain ⟨k,hk⟩:∃ k,k=c.coefs[i]:=⟨_,rfl⟩
  have hvm:v∈vs:=by rw [hv];exact List.getElem_mem hlt
  have hvb:=hs.hb v hvm
  have hne:=hs.ne v hvm
  have hks:=hs.hk k (by rw [hk];exact List.getElem_mem hlk)
  have hck:coefAt c.coefs vs v=k:=by
   unfold coefAt
   rw [hv,hn.idxOf_getElem i hlt,List.getD_eq_getElem?_getD,List.getElem?_eq_getElem hlk,hk]
   rfl
  have hsp:=ends_split (L:=lists l) hn hvm hs.hl
  have bd:=hs.bd (fun u=>u==v)
  have bd2:=hs.bd (fun _=>false)
  rw [hck] at hsp
  rw [atL_lists hvb] at hne
  obtain ⟨w,rfl⟩:∃ w:Nat,v=w:=⟨v.toNat,by omega⟩
  have hw:w<l.length:=by omega
  obtain ⟨d,hd⟩:∃ d,d=l[w]:=⟨_,rfl⟩
  have hdm:=hs.ok d (by rw [hd];exact List.getElem_mem hw)
  have hat:atL (lists l) (w:Int)=listD d:=by rw [atL_lists hvb,hd];rfl
  have hne2:listD d≠[]:=by rw [←hat,atL_lists hvb];exact hne
  rw [hat] at hsp
  obtain ⟨E1,hE1⟩:∃ x,x=(ends (lists l) (fun _=>false) c.coefs vs).1:=⟨_,rfl⟩
  obtain ⟨E2,hE2⟩:∃ x,x=(ends (lists l) (fun _=>false) c.coefs vs).2:=⟨_,rfl⟩
  obtain ⟨R1,hR1⟩:∃ x,x=(ends (lists l) (fun u=>u==(w:Int)) c.coefs vs).1:=⟨_,rfl⟩
  obtain ⟨R2,hR2⟩:∃ x,x=(ends (lists l) (fun u=>u==(w:Int)) c.coefs vs).2:=⟨_,rfl⟩
  rw [←hE1,←hE2] at g3
  simp only [←hE1,←hE2,←hR1,←hR2] at hsp bd bd2
  have kp:=fun h=>plus E1 E2 k (-1) d hdm hne2 hks (.inr rfl) (by omega) (by omega) h
  have e1:E1+-1*min (k*lo (listD d)) (k*hi (listD d))=R1:=by omega
  have e2:E2+-1*max (k*lo (listD d)) (k*hi (listD d))=R2:=by omega
  rw [e1,e2] at kp
  obtain ⟨D,hD⟩:∃ D,D=keptD (kSum c.coefs vs rel c.const (lists l) w) d:=⟨_,rfl⟩
  have hv1:vs[i]? = some (w:Int):=by simp [hlt,hv]
  have hv2:∀ h:i<vs.length,vs[i]'h=(w:Int):=fun _=>hv.symm
  have hk1:c.coefs[i]? = some k:=by simp [hlk,hk]
  have hk2:∀ h:i<c.coefs.length,c.coefs[i]'h=k:=fun _=>hk.symm
  have hd1:l[w]? = some d:=by simp [hw,hd]
  have hd2:∀ h:w<l.length,l[w]'h=d:=fun _=>hd.symm
  have hi4:(i:Int)<vs.length:=by omega
  have hi5:(i:Int)<c.coefs.length:=by omega
  have hi6:(w:Int)<l.length:=by omega
  have h9:=hs.h9
  have hwr:=wrap_succ hlt (by omega)
  have hbH:b+2<H.length:=(List.getElem?_eq_some_iff.1 g3).1
  have q1:∀ t,(H++t)[b]? = some (.row 6 [conV c]):=fun t=>get_app g1
  have q2:∀ t,(H++t)[b+1]? = some (.row 1 [iv rel]):=fun t=>get_app g2
  have q3:∀ t,(H++t)[b+2]? = some (.row 2 [.agg [iv E1,iv E2]]):=fun t=>get_app g3
  have q0:∀ t,(H++t)[id]? = some (.row 2 (ds.map domV)):=fun t=>get_app g0
  have kk:acw C n_linear_kept [domV d,.fn (.func n_linear_sum_1) [] [.ptr b 0 0 1,.ptr H.length 0 0 1,.ptr (H.length+1) 0 0 1,.ptr (b+1) 0 0 1]] (H++[.row 1 [iv i],.row 2 [.agg [iv R1,iv R2]]])=some (.ret (domV D),H++[.row 1 [iv i],.row 2 [.agg [iv R1,iv R2]],.row 2 [domV D],.row 2 [domV D]]):=by
   have:=kept d hdm (kSum c.coefs vs rel c.const (lists l) w) n_linear_sum_1 [.ptr b 0 0 1,.ptr H.length 0 0 1,.ptr (H.length+1) 0 0 1,.ptr (b+1) 0 0 1] (H++[.row 1 [iv i],.row 2 [.agg [iv R1,iv R2]]]) (fun x hx t=>by
    have k1:=sum_1 x c i k R1 R2 rel hlk hk hks (listD_mem hdm hx) (by omega) (by omega) hr []
    have e:kSum c.coefs vs rel c.const (lists l) w x=mayE (R1+k*x) (R2+k*x) rel c.const:=by
     unfold kSum
     rw [hck,hR1,hR2]
    rw [e]
    refine acw_of_frz (a2:=[iv x,.pin (conV c) 0,.pin (iv i) 0,.pin (.agg [iv R1,iv R2]) 0,.pin (iv rel) 0]) (CT T_linear_sum_1) rfl ?_ rfl k1 rfl
    rw [List.append_assoc]
    have z1:=frz_p1 (q1 ([.row 1 [iv i],.row 2 [.agg [iv R1,iv R2]]]++t)) (x':=conV c) rfl
    have z2:=frz_p1 (h:=H++([.row 1 [iv i],.row 2 [.agg [iv R1,iv R2]]]++t)) (a:=H.length) (sa:=1) (x:=iv i) (x':=iv i) (by simp) rfl
    have z3:=frz_p1 (h:=H++([.row 1 [iv i],.row 2 [.agg [iv R1,iv R2]]]++t)) (a:=H.length+1) (sa:=2) (x:=.agg [iv R1,iv R2]) (x':=.agg [iv R1,iv R2]) (by simp) rfl
    have z4:=frz_p1 (q2 ([.row 1 [iv i],.row 2 [.agg [iv R1,iv R2]]]++t)) (x':=iv rel) rfl
    have z0:frz (H++([.row 1 [iv i],.row 2 [.agg [iv R1,iv R2]]]++t)) fdepth (iv x)=some (iv x):=rfl
    simp only [frzL,mapO,z0,z1,z2,z3,z4])
   rw [this,←hD,List.append_assoc]
   rfl
  obtain ⟨H',ih1,ih2⟩:=ih (i+1) (ds.set w D) (H.set id (.row 2 ((ds.set w D).map domV))++[.row 1 [iv i],.row 2 [.agg [iv R1,iv R2]],.row 2 [domV D],.row 2 [domV D]]) (by omega) (by simpa using hdl) (get_app (List.getElem?_set_self (by omega))) hid (get_app (by rw [List.getElem?_set_ne (by omega)];exact g1)) (get_app (by rw [List.getElem?_set_ne (by omega)];exact g2)) (get_app (by rw [List.getElem?_set_ne (by omega)];rw [←hE1,←hE2];exact g3))
  simp only [Int.natCast_add,Int.cast_ofNat_Int] at ih1
  refine ⟨H',?_,?_⟩
  ·rw [←ih1,r_linear_sum_0]
   have hds:w<ds.length:=by omega
   simp [b_linear_sum_0,hlt,hlk,hv1,hv2,hk1,hk2,hd1,hd2,hw,hi4,hi5,hi6,hwr,kp,kk,q0,q1,q2,q3,hds,hdl]
   rw [wr_app (by omega)]
  ·rw [List.drop_eq_getElem_cons hlt,←hv]
   unfold updF
   rw [List.foldl_cons]
   have e0:keptD (kSum c.coefs vs rel c.const (lists l) ↑w) (l.getD (w:Int).toNat ⟨[],0⟩)=D:=by
    rw [Int.toNat_natCast,List.getD_eq_getElem?_getD,hd1]
    exact hD.symm
   rw [e0,Int.toNat_natCast]
   refine Mvd.trans (h':=H.set id (.row 2 ((ds.set w D).map domV))++[.row 1 [iv i],.row 2 [.agg [iv R1,iv R2]],.row 2 [domV D],.row 2 [domV D]]) (a:=ds.set w D) ⟨by simp,get_app (List.getElem?_set_self (by omega)),fun j h1 h2=>?_⟩ ih2
   rw [List.getElem?_append_left (by simpa using h1),List.getElem?_set_ne (by omega)]
theorem Mvd.refl {id:Nat} {h:List Ob} {ds:Ds} (g:h[id]? = some (.row 2 (ds.map domV))):Mvd id h h ds:=⟨Nat.le_refl _,g,fun _ _ _=>rfl⟩
theorem Mvd.grow {id:Nat} {h t:List Ob} {ds:Ds} (g:h[id]? = some (.row 2 (ds.map domV))):Mvd id h (h++t) ds:=⟨by simp,get_app g,fun j h1 _=>List.getElem?_append_left h1⟩
theorem sum {c:Con} {vs:List Int} {l:Ds} {rel:Int} (hs:SumOK c vs l) (hn:vs.Nodup) (hr:0≤rel∧rel≤5) (id:Nat) (ds:Ds) (h:List Ob) (hdl:ds.length=l.length) (g0:h[id]? = some (.row 2 (ds.map domV))) :
  ∃ h',acw C n_linear_sum [conV c,intsV vs,iv rel,dsV l,.own id 0 l.length l.length] h=some (.ret (.tup []),h')∧Mvd id h h' (updF (kSum c.coefs vs rel c.const (lists l)) l vs ds):=by
 have kt:=fun h=>total hs h
 obtain ⟨E1,hE1⟩:∃ x,x=(ends (lists l) (fun _=>false) c.coefs vs).1:=⟨_,rfl⟩
 obtain ⟨E2,hE2⟩:∃ x,x=(ends (lists l) (fun _=>false) c.coefs vs).2:=⟨_,rfl⟩
 have hid:id<h.length:=(List.getElem?_eq_some_iff.1 g0).1
 obtain ⟨H',e,m⟩:=sum_loop hs hn hr id h.length vs.length 0 ds (h++[.row 6 [conV c],.row 1 [iv rel],.row 2 [.agg [iv E1,iv E2]]]) (by omega) hdl (get_app g0) hid (by simp) (by simp) (by rw [hE1,hE2];simp)
 rw [List.drop_zero] at m
 simp only [Int.cast_ofNat_Int] at e
 refine ⟨H',?_,(Mvd.grow g0).trans m⟩
 rw [←hE1,←hE2] at kt
 rw [acw_hm (CT T_linear_sum) rfl]
 simp [runW_fin,F_linear_sum,i_linear_sum,kt,e]
theorem updF_get {P:Int→Int→Bool} {l:Ds}:∀ {vs:List Int} {ds:Ds} {i:Nat} (h:i<(updF P l vs ds).length) (hi:i<ds.length) (hl:i<l.length),(∀ v∈vs,0≤v)→(updF P l vs ds)[i]=if (i:Int)∈vs then keptD (P i) l[i] else ds[i]
 | [],ds,i,h,hi,hl,_=>by simp [updF]
 | v::vs,ds,i,h,hi,hl,hp=>by
  have e:updF P l (v::vs) ds=updF P l vs (ds.set v.toNat (keptD (P v) (l.getD v.toNat ⟨[],0⟩))):=rfl
  have ih:=updF_get (P:=P) (l:=l) (vs:=vs) (ds:=ds.set v.toNat (keptD (P v) (l.getD v.toNat ⟨[],0⟩))) (i:=i) (by rw [updF_len,List.length_set];exact hi) (by simpa using hi) hl (fun u hu=>hp u (by simp [hu]))
  simp only [e]
  rw [ih]
  by_cases c:(i:Int)∈vs
  ·rw [if_pos c,if_pos (by simp [c])]
  ·rw [if_neg c,List.getElem_set]
   have hv:=hp v (by simp)
   by_cases d:v.toNat=i
   ·rw [if_pos d,if_pos (by simp only [List.mem_cons];exact .inl (by omega)),d,List.getD_eq_getElem?_getD,List.getElem?_eq_getElem hl]
    have:v=(i:Int):=by omega
    rw [this]
    rfl
   ·rw [if_neg d,if_neg (by simp only [List.mem_cons,not_or];exact ⟨by omega,c⟩)]
theorem none_loop {c:Con} {l:Ds} (ok:okL l) (hn:c.vars.Nodup) (hb:∀ v∈c.vars,0≤v∧v<l.length) (h9:c.vars.length≤9) (id:Nat):∀ (n i:Nat) (H:List Ob),i+n=c.vars.length→H[id]? = some (.row 2 ((updF (fun _ _=>false) l (c.vars.take i) l).map domV)) →
  ∃ H',evw C y0 i_linear_none_l0 [(1,.own id 0 l.length l.length),(7,intsV c.vars),(8,iv c.vars.length),(9,iv i)] H =
   some (.ext 0,[(1,.own id 0 l.length l.length),(7,intsV c.vars),(8,iv c.vars.length),(9,iv c.vars.length),(10,.bool false)],H')∧Mvd id H H' (updF (fun _ _=>false) l c.vars l):=by
 intro n
 induction n with
 | zero=>
  intro i H hin g0
  have:i=c.vars.length:=by omega
  subst this
  rw [List.take_length] at g0
  rw [r_linear_none_0]
  refine ⟨H,?_,Mvd.refl g0⟩
  simp [b_linear_none_0]
 | succ n ih=>
  intro i H hin g0
  have hlt:i<c.vars.length:=by omega
  obtain ⟨v,hv⟩:∃ v,v=c.vars[i]:=⟨_,rfl⟩
  have hvm:v∈c.vars:=by rw [hv];exact List.getElem_mem hlt
  have hvb:=hb v hvm
  obtain ⟨w,rfl⟩:∃ w:Nat,v=w:=⟨v.toNat,by omega⟩
  obtain ⟨ds,hds⟩:∃ ds,ds=updF (fun _ _=>false) l (c.vars.take i) l:=⟨_,rfl⟩
  have hdl:ds.length=l.length:=by rw [hds,updF_len]
  have hw:w<l.length:=by omega
  have hw2:w<ds.length:=by omega
  have hnot:(w:Int)∉c.vars.take i:=fun q=>by
   obtain ⟨j,hj,e⟩:=List.mem_iff_getElem.1 q
   rw [List.length_take] at hj
   rw [List.getElem_take,hv] at e
   have:=(List.getElem_inj hn).1 e
   omega
  have hdw:ds[w]=l[w]:=by
   have:=updF_get (P:=fun _ _=>false) (l:=l) (vs:=c.vars.take i) (ds:=l) (i:=w) (by rw [updF_len];exact hw) hw hw (fun u hu=>(hb u (List.mem_of_mem_take hu)).1)
   rw [if_neg hnot] at this
   subst hds
   exact this
  obtain ⟨d,hd⟩:∃ d,d=l[w]:=⟨_,rfl⟩
  have hdm:=ok d (by rw [hd];exact List.getElem_mem hw)
  obtain ⟨D,hD⟩:∃ D,D=keptD (fun _=>false) d:=⟨_,rfl⟩
  have kk:=kept d hdm (fun _=>false) n_linear_none_1 [] H (fun x _ t=>none_1 x _)
  rw [←hD] at kk
  have e1:updF (fun _ _=>false) l (c.vars.take (i+1)) l=ds.set w D:=by
   rw [List.take_succ_eq_append_getElem hlt,←hv,hds]
   unfold updF
   rw [List.foldl_append]
   simp only [List.foldl_cons,List.foldl_nil,Int.toNat_natCast]
   rw [hD,hd,List.getD_eq_getElem?_getD,List.getElem?_eq_getElem hw]
   rfl
  rw [←hds] at g0
  have hidl:id<H.length:=(List.getElem?_eq_some_iff.1 g0).1
  have hi4:(i:Int)<c.vars.length:=by omega
  have hi6:(w:Int)<l.length:=by omega
  have hwr:=wrap_succ hlt (by omega)
  have hv1:c.vars[i]? = some (w:Int):=by simp [hlt,hv]
  have hv2:∀ h:i<c.vars.length,c.vars[i]'h=(w:Int):=fun _=>hv.symm
  have hd1:ds[w]? = some d:=by rw [List.getElem?_eq_getElem hw2,hdw,hd]
  have hd2:∀ h:w<ds.length,ds[w]'h=d:=fun _=>by rw [hdw,hd]
  have q0:∀ t,(H++t)[id]? = some (.row 2 (ds.map domV)):=fun t=>get_app g0
  obtain ⟨H',ih1,ih2⟩:=ih (i+1) (H.set id (.row 2 ((ds.set w D).map domV))++[.row 2 [domV D],.row 2 [domV D]]) (by omega) (by rw [e1];exact get_app (List.getElem?_set_self hidl))
  simp only [Int.natCast_add,Int.cast_ofNat_Int] at ih1
  refine ⟨H',?_,Mvd.trans (h':=H.set id (.row 2 ((ds.set w D).map domV))++[.row 2 [domV D],.row 2 [domV D]]) (a:=ds.set w D) ⟨by simp,get_app (List.getElem?_set_self hidl),fun j h1 h2=>?_⟩ ih2⟩
  ·rw [←ih1,r_linear_none_0]
   simp [b_linear_none_0,hlt,hv1,hv2,hd1,hd2,hw,hw2,hi4,hi6,hwr,kk,q0,g0,hdl]
   rw [wr_app hidl]
  ·rw [List.getElem?_append_left (by simpa using h1),List.getElem?_set_ne (by omega)]
theorem lnone {c:Con} {l:Ds} (ok:okL l) (hn:c.vars.Nodup) (hb:∀ v∈c.vars,0≤v∧v<l.length) (h9:c.vars.length≤9) (id:Nat) (h:List Ob) (g0:h[id]? = some (.row 2 (l.map domV))) :
  ∃ h',acw C n_linear_none [conV c,.own id 0 l.length l.length] h=some (.ret (.tup []),h')∧Mvd id h h' (updF (fun _ _=>false) l c.vars l):=by
 obtain ⟨H',e,m⟩:=none_loop ok hn hb h9 id c.vars.length 0 (h++[.row 6 [conV c]]) (by omega) (by rw [List.take_zero];exact get_app g0)
 simp only [Int.cast_ofNat_Int] at e
 refine ⟨H',?_,(Mvd.grow g0).trans m⟩
 rw [acw_hm (CT T_linear_none) rfl]
 simp [runW_fin,F_linear_none,i_linear_none,e]
theorem iff_1 (x:Int) (c:Con) (u w:Int) (hr:0≤c.rel∧c.rel≤5) (h:List Ob) :
  acw C n_linear_iff_1 [iv x,.pin (.agg [iv u,iv w]) 0,.pin (conV c) 0] h=some (.ret (.bool ((decide (x=1)&&mayE u w c.rel c.const)||(decide (x=0)&&mayE u w (crelF c.rel) c.const))),h):=by
 have k1:=fun h=>may u w c.rel c.const hr h
 have k2:=fun h=>may u w (crelF c.rel) c.const (crelF_ok hr) h
 have k3:=fun h=>contrary c.rel hr h
 refine acw_ex (v:=.bool _) (CT T_linear_iff_1) rfl rfl (fun _=>rfl) (by simp) ⟨[],?_⟩
 by_cases c1:x=1
 ·subst c1
  cases hm:mayE u w c.rel c.const<;>rw [hm] at k1<;>simp [runW_fin,F_linear_iff_1,i_linear_iff_1,k1,ieq,ine]
 ·by_cases c0:x=0
  ·subst c0
   simp [runW_fin,F_linear_iff_1,i_linear_iff_1,k2,k3,ieq,ine]
  ·simp [runW_fin,F_linear_iff_1,i_linear_iff_1,c1,c0,ieq,ine]
theorem copy_linear {l:Ds} (ok:okL l) (hn:l.length≤1000) (p q:V) (B:Nat):∀ (n i:Nat) (v:V) (h:List Ob),i+n=l.length→B≤h.length→AccB B h v 2 ((l.take i).map domV) →
  ∃ v' h',evw C y0 i_linear_Step_l0 [(2,p),(3,q),(6,v),(28,dsV l),(29,iv l.length),(30,iv i)] h=some (.ext 0,[(2,p),(3,q),(6,v'),(28,dsV l),(29,iv l.length),(30,iv l.length),(31,.bool false)],h')∧AccB B h' v' 2 (l.map domV)∧∀ j,j<B→h'[j]? = h[j]?
 | 0,i,v,h,e,hB,hA=>by
  obtain rfl:i=l.length:=by omega
  rw [List.take_length] at hA
  rw [r_linear_Step_0]
  refine ⟨v,h,?_,hA,fun _ _=>rfl⟩
  simp [b_linear_Step_0]
 | n+1,i,v,h,e,hB,hA=>by
  have hlt:i<l.length:=by omega
  obtain ⟨d,hd⟩:∃ d,d=l[i]:=⟨_,rfl⟩
  have hdm:=ok d (by rw [hd];exact List.getElem_mem hlt)
  have hd1:l[i]? = some d:=by simp [hlt,hd]
  have hd2:∀ h:i<l.length,l[i]'h=d:=fun _=>hd.symm
  have hi4:(i:Int)<l.length:=by omega
  have hw:=wrap_succ (i:=i) (n:=l.length) hlt (by omega)
  have kc:=fun h=>clone_ints d.vals (mayD_ok hdm).2 h
  have k4:bsfL (.agg [.nsl 1,.int .u64 0]) [domV d]=some (.sl 2 [domV d]):=rfl
  obtain ⟨v1,w,e1,e2,-,e4⟩:=(hA.more (l:=[.row 2 [domV d]])).app (b:=32) (y:=.sl 2 [domV d]) (ys:=[domV d]) (by simp;omega) rfl (by simp only [List.length_cons,List.length_nil,List.length_map,List.length_take];omega) (by simp only [List.length_cons,List.length_nil,List.length_map,List.length_take];omega)
  have e2':AccB B (wr (h++[.row 2 [domV d]]) w) v1 2 ((l.take (i+1)).map domV):=by
   rw [List.take_succ_eq_append_getElem hlt,←hd]
   simpa using e2
  obtain ⟨v',h',ih1,ih2,ih3⟩:=copy_linear ok hn p q B n (i+1) v1 _ (by omega) (Nat.le_trans (by simp;omega) (wr_length _ w)) e2'
  simp only [Int.natCast_add,Int.cast_ofNat_Int] at ih1
  refine ⟨v',h',?_,ih2,fun j hj=>?_⟩
  ·rw [r_linear_Step_0,←ih1]
   simp at e1
   simp [b_linear_Step_0,hlt,hd1,hd2,hi4,hw,kc,k4,e1]
  ·rw [ih3 j hj,e4 j hj,List.getElem?_append_left (by omega)]
theorem copy_product {l:Ds} (ok:okL l) (hn:l.length≤1000) (p q:V) (B:Nat):∀ (n i:Nat) (v:V) (h:List Ob),i+n=l.length→B≤h.length→AccB B h v 2 ((l.take i).map domV) →
  ∃ v' h',evw C y0 i_product_Step_l0 [(1,p),(2,q),(6,v),(29,dsV l),(30,iv l.length),(31,iv i)] h=some (.ext 0,[(1,p),(2,q),(6,v'),(29,dsV l),(30,iv l.length),(31,iv l.length),(32,.bool false)],h')∧AccB B h' v' 2 (l.map domV)∧∀ j,j<B→h'[j]? = h[j]?
 | 0,i,v,h,e,hB,hA=>by
  obtain rfl:i=l.length:=by omega
  rw [List.take_length] at hA
  rw [r_product_Step_0]
  refine ⟨v,h,?_,hA,fun _ _=>rfl⟩
  simp [b_product_Step_0]
 | n+1,i,v,h,e,hB,hA=>by
  have hlt:i<l.length:=by omega
  obtain ⟨d,hd⟩:∃ d,d=l[i]:=⟨_,rfl⟩
  have hdm:=ok d (by rw [hd];exact List.getElem_mem hlt)
  have hd1:l[i]? = some d:=by simp [hlt,hd]
  have hd2:∀ h:i<l.length,l[i]'h=d:=fun _=>hd.symm
  have hi4:(i:Int)<l.length:=by omega
  have hw:=wrap_succ (i:=i) (n:=l.length) hlt (by omega)
  have kc:=fun h=>clone_ints d.vals (mayD_ok hdm).2 h
  have k4:bsfL (.agg [.nsl 1,.int .u64 0]) [domV d]=some (.sl 2 [domV d]):=rfl
  obtain ⟨v1,w,e1,e2,-,e4⟩:=(hA.more (l:=[.row 2 [domV d]])).app (b:=32) (y:=.sl 2 [domV d]) (ys:=[domV d]) (by simp;omega) rfl (by simp only [List.length_cons,List.length_nil,List.length_map,List.length_take];omega) (by simp only [List.length_cons,List.length_nil,List.length_map,List.length_take];omega)
  have e2':AccB B (wr (h++[.row 2 [domV d]]) w) v1 2 ((l.take (i+1)).map domV):=by
   rw [List.take_succ_eq_append_getElem hlt,←hd]
   simpa using e2
  obtain ⟨v',h',ih1,ih2,ih3⟩:=copy_product ok hn p q B n (i+1) v1 _ (by omega) (Nat.le_trans (by simp;omega) (wr_length _ w)) e2'
  simp only [Int.natCast_add,Int.cast_ofNat_Int] at ih1
  refine ⟨v',h',?_,ih2,fun j hj=>?_⟩
  ·rw [r_product_Step_0,←ih1]
   simp at e1
   simp [b_product_Step_0,hlt,hd1,hd2,hi4,hw,kc,k4,e1]
  ·rw [ih3 j hj,e4 j hj,List.getElem?_append_left (by omega)]
theorem copy_element {l:Ds} (ok:okL l) (hn:l.length≤1000) (p q:V) (B:Nat):∀ (n i:Nat) (v:V) (h:List Ob),i+n=l.length→B≤h.length→AccB B h v 2 ((l.take i).map domV) →
  ∃ v' h',evw C y0 i_element_Step_l0 [(2,p),(3,q),(6,v),(26,dsV l),(27,iv l.length),(28,iv i)] h=some (.ext 0,[(2,p),(3,q),(6,v'),(26,dsV l),(27,iv l.length),(28,iv l.length),(29,.bool false)],h')∧AccB B h' v' 2 (l.map domV)∧∀ j,j<B→h'[j]? = h[j]?
 | 0,i,v,h,e,hB,hA=>by
  obtain rfl:i=l.length:=by omega
  rw [List.take_length] at hA
  rw [r_element_Step_0]
  refine ⟨v,h,?_,hA,fun _ _=>rfl⟩
  simp [b_element_Step_0]
 | n+1,i,v,h,e,hB,hA=>by
  have hlt:i<l.length:=by omega
  obtain ⟨d,hd⟩:∃ d,d=l[i]:=⟨_,rfl⟩
  have hdm:=ok d (by rw [hd];exact List.getElem_mem hlt)
  have hd1:l[i]? = some d:=by simp [hlt,hd]
  have hd2:∀ h:i<l.length,l[i]'h=d:=fun _=>hd.symm
  have hi4:(i:Int)<l.length:=by omega
  have hw:=wrap_succ (i:=i) (n:=l.length) hlt (by omega)
  have kc:=fun h=>clone_ints d.vals (mayD_ok hdm).2 h
  have k4:bsfL (.agg [.nsl 1,.int .u64 0]) [domV d]=some (.sl 2 [domV d]):=rfl
  obtain ⟨v1,w,e1,e2,-,e4⟩:=(hA.more (l:=[.row 2 [domV d]])).app (b:=32) (y:=.sl 2 [domV d]) (ys:=[domV d]) (by simp;omega) rfl (by simp only [List.length_cons,List.length_nil,List.length_map,List.length_take];omega) (by simp only [List.length_cons,List.length_nil,List.length_map,List.length_take];omega)
  have e2':AccB B (wr (h++[.row 2 [domV d]]) w) v1 2 ((l.take (i+1)).map domV):=by
   rw [List.take_succ_eq_append_getElem hlt,←hd]
   simpa using e2
  obtain ⟨v',h',ih1,ih2,ih3⟩:=copy_element ok hn p q B n (i+1) v1 _ (by omega) (Nat.le_trans (by simp;omega) (wr_length _ w)) e2'
  simp only [Int.natCast_add,Int.cast_ofNat_Int] at ih1
  refine ⟨v',h',?_,ih2,fun j hj=>?_⟩
  ·rw [r_element_Step_0,←ih1]
   simp at e1
   simp [b_element_Step_0,hlt,hd1,hd2,hi4,hw,kc,k4,e1]
  ·rw [ih3 j hj,e4 j hj,List.getElem?_append_left (by omega)]
theorem copy_differ {l:Ds} (ok:okL l) (hn:l.length≤1000) (p q:V) (B:Nat):∀ (n i:Nat) (v:V) (h:List Ob),i+n=l.length→B≤h.length→AccB B h v 2 ((l.take i).map domV) →
  ∃ v' h',evw C y0 i_differ_Step_l0 [(2,p),(3,q),(6,v),(26,dsV l),(27,iv l.length),(28,iv i)] h=some (.ext 0,[(2,p),(3,q),(6,v'),(26,dsV l),(27,iv l.length),(28,iv l.length),(29,.bool false)],h')∧AccB B h' v' 2 (l.map domV)∧∀ j,j<B→h'[j]? = h[j]?
 | 0,i,v,h,e,hB,hA=>by
  obtain rfl:i=l.length:=by omega
  rw [List.take_length] at hA
  rw [r_differ_Step_0]
  refine ⟨v,h,?_,hA,fun _ _=>rfl⟩
  simp [b_differ_Step_0]
 | n+1,i,v,h,e,hB,hA=>by
  have hlt:i<l.length:=by omega
  obtain ⟨d,hd⟩:∃ d,d=l[i]:=⟨_,rfl⟩
  have hdm:=ok d (by rw [hd];exact List.getElem_mem hlt)
  have hd1:l[i]? = some d:=by simp [hlt,hd]
  have hd2:∀ h:i<l.length,l[i]'h=d:=fun _=>hd.symm
  have hi4:(i:Int)<l.length:=by omega
  have hw:=wrap_succ (i:=i) (n:=l.length) hlt (by omega)
  have kc:=fun h=>clone_ints d.vals (mayD_ok hdm).2 h
  have k4:bsfL (.agg [.nsl 1,.int .u64 0]) [domV d]=some (.sl 2 [domV d]):=rfl
  obtain ⟨v1,w,e1,e2,-,e4⟩:=(hA.more (l:=[.row 2 [domV d]])).app (b:=32) (y:=.sl 2 [domV d]) (ys:=[domV d]) (by simp;omega) rfl (by simp only [List.length_cons,List.length_nil,List.length_map,List.length_take];omega) (by simp only [List.length_cons,List.length_nil,List.length_map,List.length_take];omega)
  have e2':AccB B (wr (h++[.row 2 [domV d]]) w) v1 2 ((l.take (i+1)).map domV):=by
   rw [List.take_succ_eq_append_getElem hlt,←hd]
   simpa using e2
  obtain ⟨v',h',ih1,ih2,ih3⟩:=copy_differ ok hn p q B n (i+1) v1 _ (by omega) (Nat.le_trans (by simp;omega) (wr_length _ w)) e2'
  simp only [Int.natCast_add,Int.cast_ofNat_Int] at ih1
  refine ⟨v',h',?_,ih2,fun j hj=>?_⟩
  ·rw [r_differ_Step_0,←ih1]
   simp at e1
   simp [b_differ_Step_0,hlt,hd1,hd2,hi4,hw,kc,k4,e1]
  ·rw [ih3 j hj,e4 j hj,List.getElem?_append_left (by omega)]
theorem copy_table {l:Ds} (ok:okL l) (hn:l.length≤1000) (p q:V) (B:Nat):∀ (n i:Nat) (v:V) (h:List Ob),i+n=l.length→B≤h.length→AccB B h v 2 ((l.take i).map domV) →
  ∃ v' h',evw C y0 i_table_Step_l0 [(1,p),(2,q),(6,v),(28,dsV l),(29,iv l.length),(30,iv i)] h=some (.ext 0,[(1,p),(2,q),(6,v'),(28,dsV l),(29,iv l.length),(30,iv l.length),(31,.bool false)],h')∧AccB B h' v' 2 (l.map domV)∧∀ j,j<B→h'[j]? = h[j]?
 | 0,i,v,h,e,hB,hA=>by
  obtain rfl:i=l.length:=by omega
  rw [List.take_length] at hA
  rw [r_table_Step_0]
  refine ⟨v,h,?_,hA,fun _ _=>rfl⟩
  simp [b_table_Step_0]
 | n+1,i,v,h,e,hB,hA=>by
  have hlt:i<l.length:=by omega
  obtain ⟨d,hd⟩:∃ d,d=l[i]:=⟨_,rfl⟩
  have hdm:=ok d (by rw [hd];exact List.getElem_mem hlt)
  have hd1:l[i]? = some d:=by simp [hlt,hd]
  have hd2:∀ h:i<l.length,l[i]'h=d:=fun _=>hd.symm
  have hi4:(i:Int)<l.length:=by omega
  have hw:=wrap_succ (i:=i) (n:=l.length) hlt (by omega)
  have kc:=fun h=>clone_ints d.vals (mayD_ok hdm).2 h
  have k4:bsfL (.agg [.nsl 1,.int .u64 0]) [domV d]=some (.sl 2 [domV d]):=rfl
  obtain ⟨v1,w,e1,e2,-,e4⟩:=(hA.more (l:=[.row 2 [domV d]])).app (b:=32) (y:=.sl 2 [domV d]) (ys:=[domV d]) (by simp;omega) rfl (by simp only [List.length_cons,List.length_nil,List.length_map,List.length_take];omega) (by simp only [List.length_cons,List.length_nil,List.length_map,List.length_take];omega)
  have e2':AccB B (wr (h++[.row 2 [domV d]]) w) v1 2 ((l.take (i+1)).map domV):=by
   rw [List.take_succ_eq_append_getElem hlt,←hd]
   simpa using e2
  obtain ⟨v',h',ih1,ih2,ih3⟩:=copy_table ok hn p q B n (i+1) v1 _ (by omega) (Nat.le_trans (by simp;omega) (wr_length _ w)) e2'
  simp only [Int.natCast_add,Int.cast_ofNat_Int] at ih1
  refine ⟨v',h',?_,ih2,fun j hj=>?_⟩
  ·rw [r_table_Step_0,←ih1]
   simp at e1
   simp [b_table_Step_0,hlt,hd1,hd2,hi4,hw,kc,k4,e1]
  ·rw [ih3 j hj,e4 j hj,List.getElem?_append_left (by omega)]
theorem copy_fix {l:Ds} (ok:okL l) (hn:l.length≤1000) (B:Nat):∀ (n i:Nat) (v:V) (h:List Ob),i+n=l.length→B≤h.length→AccB B h v 2 ((l.take i).map domV) →
  ∃ v' h',evw C y0 i_fix_copied_l0 [(3,v),(6,dsV l),(7,iv l.length),(8,iv i)] h=some (.ext 0,[(3,v'),(6,dsV l),(7,iv l.length),(8,iv l.length),(9,.bool false)],h')∧AccB B h' v' 2 (l.map domV)∧∀ j,j<B→h'[j]? = h[j]?
 | 0,i,v,h,e,hB,hA=>by
  obtain rfl:i=l.length:=by omega
  rw [List.take_length] at hA
  rw [r_fix_copied_0]
  refine ⟨v,h,?_,hA,fun _ _=>rfl⟩
  simp [b_fix_copied_0]
 | n+1,i,v,h,e,hB,hA=>by
  have hlt:i<l.length:=by omega
  obtain ⟨d,hd⟩:∃ d,d=l[i]:=⟨_,rfl⟩
  have hdm:=ok d (by rw [hd];exact List.getElem_mem hlt)
  have hd1:l[i]? = some d:=by simp [hlt,hd]
  have hd2:∀ h:i<l.length,l[i]'h=d:=fun _=>hd.symm
  have hi4:(i:Int)<l.length:=by omega
  have hw:=wrap_succ (i:=i) (n:=l.length) hlt (by omega)
  have kc:=fun h=>clone_ints d.vals (mayD_ok hdm).2 h
  have k4:bsfL (.agg [.nsl 1,.int .u64 0]) [domV d]=some (.sl 2 [domV d]):=rfl
  obtain ⟨v1,w,e1,e2,-,e4⟩:=(hA.more (l:=[.row 2 [domV d]])).app (b:=32) (y:=.sl 2 [domV d]) (ys:=[domV d]) (by simp;omega) rfl (by simp only [List.length_cons,List.length_nil,List.length_map,List.length_take];omega) (by simp only [List.length_cons,List.length_nil,List.length_map,List.length_take];omega)
  have e2':AccB B (wr (h++[.row 2 [domV d]]) w) v1 2 ((l.take (i+1)).map domV):=by
   rw [List.take_succ_eq_append_getElem hlt,←hd]
   simpa using e2
  obtain ⟨v',h',ih1,ih2,ih3⟩:=copy_fix ok hn B n (i+1) v1 _ (by omega) (Nat.le_trans (by simp;omega) (wr_length _ w)) e2'
  simp only [Int.natCast_add,Int.cast_ofNat_Int] at ih1
  refine ⟨v',h',?_,ih2,fun j hj=>?_⟩
  ·rw [r_fix_copied_0,←ih1]
   simp at e1
   simp [b_fix_copied_0,hlt,hd1,hd2,hi4,hw,kc,k4,e1]
  ·rw [ih3 j hj,e4 j hj,List.getElem?_append_left (by omega)]
theorem step_ext {c:Con} {l out:Ds} (ok:okL l) (hl:out.length=l.length) (h:∀ i (h1:i<out.length) (h2:i<l.length),out[i]=if (i:Int)∈c.vars then keptD (kp c (lists l) i) l[i] else l[i]):out=stepD c l:=by
 refine List.ext_getElem (by rw [stepD_len];exact hl) fun i h1 h2=>?_
 rw [h i h1 (by omega),stepD_get]
 split
 ·rfl
 ·rename_i hv
  exact (kept_all (ok _ (List.getElem_mem _)) fun x _=>kp_not hv).symm
theorem upd_step {c:Con} {l:Ds} {P:Int→Int→Bool} (ok:okL l) (hb:∀ v∈c.vars,0≤v) (hP:∀ (i:Nat) (h:i<l.length),(i:Int)∈c.vars→∀ x∈listD l[i],P i x=kp c (lists l) i x):updF P l c.vars l=stepD c l:=by
 refine step_ext ok updF_len fun i h1 h2=>?_
 rw [updF_get h1 h2 h2 hb]
 split
 ·rename_i hv
  exact keptD_congr (hP i h2 hv)
 ·rfl
theorem at_nat {l:Ds} {i:Nat} (h:i<l.length):atL (lists l) (i:Int)=listD l[i]:=by rw [atL_lists (by omega)];rfl
theorem kp_iff {c:Con} {L:Ls} {v x:Int} (hk:c.kind=3) (hw:wiped c.vars L=false) (hv:v∈c.vars):kp c L v x=kIff c L v x:=by
 unfold kp
 rw [if_neg (by rw [List.contains_iff_mem.2 hv];simp),if_neg (by omega),if_pos hk,hw]
 rfl
theorem iff {c:Con} {l:Ds} (ok:okL l) (hc:RC c l.length) (hk:c.kind=3) (hks:smallL c.coefs) (hw:wiped c.vars (lists l)=false) (hll:l.length≤1000) (id:Nat) (h:List Ob) (g0:h[id]? = some (.row 2 (l.map domV))) :
  ∃ h',acw C n_linear_iff [conV c,dsV l,.own id 0 l.length l.length] h=some (.ret (.tup []),h')∧Mvd id h h' (stepD c l):=by
 obtain ⟨hi1,hr⟩:=hc.i hk
 have hne:=wiped_ne hw
 have hcb:=hc.b
 have hnd:=hc.nd
 have hv9:=hc.v8.1
 obtain ⟨f,rest,hcv⟩:∃ f rest,c.vars=f::rest:=by
  cases e:c.vars with
  | nil=>rw [e] at hi1;simp at hi1
  | cons f rest=>exact ⟨f,rest,rfl⟩
 have hiff:∀ v∈c.vars,∀ x,kp c (lists l) v x=kIff c (lists l) v x:=fun v hv x=>kp_iff hk hw hv
 have kn:=lnone ok hnd hcb hv9 id
 rw [hcv] at hi1 hne hcb hnd hv9
 have hn2:=List.nodup_cons.1 hnd
 simp only [List.length_cons] at hi1 hv9
 have hs:SumOK c rest l:=⟨by omega,fun v hv=>hcb v (by simp [hv]),ok,fun v hv=>hne v (by simp [hv]),hks,by omega⟩
 have kt:=fun h=>total hs h
 obtain ⟨E1,hE1⟩:∃ x,x=(ends (lists l) (fun _=>false) c.coefs rest).1:=⟨_,rfl⟩
 obtain ⟨E2,hE2⟩:∃ x,x=(ends (lists l) (fun _=>false) c.coefs rest).2:=⟨_,rfl⟩
 rw [←hE1,←hE2] at kt
 have hfb:=hcb f (by simp)
 obtain ⟨w,rfl⟩:∃ w:Nat,f=w:=⟨f.toNat,by omega⟩
 have hwl:w<l.length:=by omega
 obtain ⟨d,hd⟩:∃ d,d=l[w]:=⟨_,rfl⟩
 have hdm:=ok d (by rw [hd];exact List.getElem_mem hwl)
 have hat:atL (lists l) (w:Int)=listD d:=by rw [at_nat hwl,hd]
 have kh:=fun v h=>dom_Has d v (mayD_ok hdm).1 (mayD_ok hdm).2 h
 have hany:∀ v:Int,((listD d).any fun y=>v==y)=(listD d).contains v:=fun v=>by
  rw [Bool.eq_iff_iff]
  simp [List.any_eq_true,List.contains_iff_mem]
 simp only [hany] at kh
 obtain ⟨yes,hy⟩:∃ y,y=(listD d).contains 1:=⟨_,rfl⟩
 obtain ⟨no,hno⟩:∃ y,y=(listD d).contains 0:=⟨_,rfl⟩
 have kh1:=fun h=>kh 1 h
 have kh0:=fun h=>kh 0 h
 rw [←hy] at kh1
 rw [←hno] at kh0
 have hid:id<h.length:=(List.getElem?_eq_some_iff.1 g0).1
 have hd1:l[w]? = some d:=by simp [hwl,hd]
 have hd2:∀ h:w<l.length,l[w]'h=d:=fun _=>hd.symm
 have hi6:(w:Int)<l.length:=by omega
 have hcV:conV c=.agg [iv c.kind,intsV ((w:Int)::rest),intsV c.coefs,iv c.rel,iv c.const,intsV c.nums]:=by rw [←hcv]
 -- the first variable, whatever stands in the row
 have last:∀ (ds:Ds) (H:List Ob),ds.length=l.length→H[id]? = some (.row 2 (ds.map domV))→H[h.length]? = some (.row 6 [conV c])→h.length<H.length →
   acw C n_linear_kept [domV d,.fn (.func n_linear_iff_1) [] [.ptr H.length 0 0 1,.ptr h.length 0 0 1]] (H++[.row 2 [.agg [iv E1,iv E2]]])=some (.ret (domV (keptD (fun x=>(decide (x=1)&&mayE E1 E2 c.rel c.const)||(decide (x=0)&&mayE E1 E2 (crelF c.rel) c.const)) d)),H++[.row 2 [.agg [iv E1,iv E2]],.row 2 [domV (keptD (fun x=>(decide (x=1)&&mayE E1 E2 c.rel c.const)||(decide (x=0)&&mayE E1 E2 (crelF c.rel) c.const)) d)],.row 2 [domV (keptD (fun x=>(decide (x=1)&&mayE E1 E2 c.rel c.const)||(decide (x=0)&&mayE E1 E2 (crelF c.rel) c.const)) d)]]):=fun ds H h1 h2 h3 h4=>by
  have:=kept d hdm (fun x=>(decide (x=1)&&mayE E1 E2 c.rel c.const)||(decide (x=0)&&mayE E1 E2 (crelF c.rel) c.const)) n_linear_iff_1 [.ptr H.length 0 0 1,.ptr h.length 0 0 1] (H++[.row 2 [.agg [iv E1,iv E2]]]) (fun x hx t=>by
   refine acw_of_frz (a2:=[iv x,.pin (.agg [iv E1,iv E2]) 0,.pin (conV c) 0]) (CT T_linear_iff_1) rfl ?_ rfl (iff_1 x c E1 E2 hr []) rfl
   rw [List.append_assoc]
   have z1:=frz_p1 (h:=H++([.row 2 [.agg [iv E1,iv E2]]]++t)) (a:=H.length) (sa:=2) (x:=.agg [iv E1,iv E2]) (x':=.agg [iv E1,iv E2]) (by simp) rfl
   have z2:=frz_p1 (get_app (t:=[.row 2 [.agg [iv E1,iv E2]]]++t) h3) (x':=conV c) rfl
   have z0:frz (H++([.row 2 [.agg [iv E1,iv E2]]]++t)) fdepth (iv x)=some (iv x):=rfl
   simp only [frzL,mapO,z0,z1,z2])
  rw [this,List.append_assoc]
  rfl
 obtain ⟨D,hD⟩:∃ D,D=keptD (fun x=>(decide (x=1)&&mayE E1 E2 c.rel c.const)||(decide (x=0)&&mayE E1 E2 (crelF c.rel) c.const)) d:=⟨_,rfl⟩
 simp only [←hD] at last
 have g0':(h++[.row 6 [conV c]])[id]? = some (.row 2 (l.map domV)):=get_app g0
 have gc:(h++[.row 6 [conV c]])[h.length]? = some (.row 6 [conV c]):=by simp
 -- what is written at last
 have out:∀ (P:Int→Int→Bool),(!yes&&!no)=false→(∀ (i:Nat) (h:i<l.length),(i:Int)∈rest→∀ x∈listD l[i],P i x=kIff c (lists l) i x)→(updF P l rest l).set w D=stepD c l:=fun P hyn hP=>by
  refine step_ext ok (by rw [List.length_set,updF_len]) fun i h1 h2=>?_
  rw [hcv,List.getElem_set]
  by_cases e:w=i
  ·subst e
   rw [if_pos rfl,if_pos (by simp),hD,←hd]
   refine keptD_congr fun x hx=>?_
   rw [hiff w (by rw [hcv];simp)]
   unfold kIff
   rw [hcv]
   simp only
   rw [hat,←hy,←hno,if_neg (by rw [hyn];simp),if_pos trivial,←hE1,←hE2]
  ·rw [if_neg e,updF_get (by rw [updF_len];exact h2) h2 h2 (fun v hv=>(hs.hb v hv).1)]
   by_cases hr':(i:Int)∈rest
   ·rw [if_pos hr',if_pos (by simp [hr'])]
    refine keptD_congr fun x hx=>?_
    rw [hP i h2 hr' x hx,hiff i (by rw [hcv];simp [hr'])]
   ·rw [if_neg hr',if_neg (by simp only [List.mem_cons,not_or];exact ⟨by omega,hr'⟩)]
 have nf:∀ i:Nat,(i:Int)∈rest→¬(i:Int)=(w:Int):=fun i hi e=>hn2.1 (by rw [←e];exact hi)
 have kifr:∀ (i:Nat) (x:Int),(i:Int)∈rest→(!yes&&!no)=false→kIff c (lists l) i x=if no=false then kSum c.coefs rest c.rel c.const (lists l) i x else if yes=false then kSum c.coefs rest (crelF c.rel) c.const (lists l) i x else true:=fun i x hi hyn=>by
  unfold kIff
  rw [hcv]
  simp only
  rw [hat,←hy,←hno,if_neg (by rw [hyn];simp),if_neg (nf i hi)]
 have wrd:∀ (ds:Ds),(ds.map domV).set w (domV D)=(ds.set w D).map domV:=fun ds=>by rw [List.map_set]
 have fin:∀ (ds:Ds) (H:List Ob),H[id]? = some (.row 2 (ds.map domV))→id<H.length→Mvd id (h++[.row 6 [conV c]]) H ds→Mvd id h (H.set id (.row 2 ((ds.map domV).set w (domV D)))++[.row 2 [.agg [iv E1,iv E2]],.row 2 [domV D],.row 2 [domV D]]) (ds.set w D):=fun ds H e1 e2 m=>by
  rw [wrd]
  refine ⟨by have:=m.le;simp at this ⊢;omega,get_app (List.getElem?_set_self e2),fun j h1 h2=>?_⟩
  have:=m.le
  rw [List.length_append] at this
  rw [List.getElem?_append_left (by rw [List.length_set];omega),List.getElem?_set_ne (by omega),m.same j (by simp;omega) h2,List.getElem?_append_left h1]
 have hl1:(1:Int)≤rest.length+1:=by omega
 have tk:(rest.map (V.int .i64)).take rest.length=rest.map (V.int .i64):=List.take_of_length_le (by simp)
 cases yes with
 | false=>
  cases no with
  | false=>
   obtain ⟨h',e,m⟩:=kn (h++[.row 6 [conV c]]) g0'
   refine ⟨h',?_,?_⟩
   ·rw [acw_hm (CT T_linear_iff) rfl]
    rw [hcV] at e ⊢
    simp [runW_fin,F_linear_iff,i_linear_iff,hl1,tk,hwl,hd1,hd2,hi6,kh1,kh0,e]
   ·have es:updF (fun _ _=>false) l c.vars l=stepD c l:=upd_step ok (fun v hv=>(hc.b v hv).1) fun i hi hv x hx=>by
     rw [hiff i hv]
     unfold kIff
     rw [hcv]
     simp only
     rw [hat,←hy,←hno,if_pos (by simp)]
    rw [←es]
    exact (Mvd.grow g0).trans m
  | true=>
   obtain ⟨h1,e,m⟩:=sum hs hn2.2 (crelF_ok hr) id l (h++[.row 6 [conV c]]) rfl g0'
   have hlt:id<h1.length:=(List.getElem?_eq_some_iff.1 m.at_).1
   have hle:=m.le
   rw [List.length_append,List.length_singleton] at hle
   have gc1:h1[h.length]? = some (.row 6 [conV c]):=by rw [m.same h.length (by simp) (by omega)];exact gc
   obtain ⟨ds,hds⟩:∃ ds,ds=updF (kSum c.coefs rest (crelF c.rel) c.const (lists l)) l rest l:=⟨_,rfl⟩
   have hdl:ds.length=l.length:=by rw [hds,updF_len]
   have ho:=out (kSum c.coefs rest (crelF c.rel) c.const (lists l)) rfl (fun i hi hr' x hx=>by rw [kifr i x hr' rfl];simp)
   rw [←hds] at m ho
   have kl:=last ds h1 hdl m.at_ gc1 (by omega)
   have q0:∀ t,(h1++t)[id]? = some (.row 2 (ds.map domV)):=fun t=>get_app m.at_
   have q1:∀ t,(h1++t)[h.length]? = some (.row 6 [conV c]):=fun t=>get_app gc1
   have k3:=fun h=>contrary c.rel hr h
   have hw2:w<ds.length:=by omega
   refine ⟨_,?_,by rw [←ho];exact fin ds h1 m.at_ hlt m⟩
   rw [acw_hm (CT T_linear_iff) rfl]
   rw [hcV] at e kt gc1 q1 ⊢
   simp [runW_fin,F_linear_iff,i_linear_iff,hl1,tk,hwl,hd1,hd2,hi6,kh1,kh0,e,kt,kl,gc1,q0,q1,k3,hdl,hw2]
   rw [wr_app hlt]
 | true=>
  cases no with
  | false=>
   obtain ⟨h1,e,m⟩:=sum hs hn2.2 hr id l (h++[.row 6 [conV c]]) rfl g0'
   have hlt:id<h1.length:=(List.getElem?_eq_some_iff.1 m.at_).1
   have hle:=m.le
   rw [List.length_append,List.length_singleton] at hle
   have gc1:h1[h.length]? = some (.row 6 [conV c]):=by rw [m.same h.length (by simp) (by omega)];exact gc
   obtain ⟨ds,hds⟩:∃ ds,ds=updF (kSum c.coefs rest c.rel c.const (lists l)) l rest l:=⟨_,rfl⟩
   have hdl:ds.length=l.length:=by rw [hds,updF_len]
   have ho:=out (kSum c.coefs rest c.rel c.const (lists l)) rfl (fun i hi hr' x hx=>by rw [kifr i x hr' rfl];simp)
   rw [←hds] at m ho
   have kl:=last ds h1 hdl m.at_ gc1 (by omega)
   have q0:∀ t,(h1++t)[id]? = some (.row 2 (ds.map domV)):=fun t=>get_app m.at_
   have q1:∀ t,(h1++t)[h.length]? = some (.row 6 [conV c]):=fun t=>get_app gc1
   have hw2:w<ds.length:=by omega
   refine ⟨_,?_,by rw [←ho];exact fin ds h1 m.at_ hlt m⟩
   rw [acw_hm (CT T_linear_iff) rfl]
   rw [hcV] at e kt gc1 q1 ⊢
   simp [runW_fin,F_linear_iff,i_linear_iff,hl1,tk,hwl,hd1,hd2,hi6,kh1,kh0,e,kt,kl,gc1,q0,q1,hdl,hw2]
   rw [wr_app hlt]
  | true=>
   have hlt:id<(h++[Ob.row 6 [conV c]]).length:=by rw [List.length_append];omega
   have ho:=out (fun _ _=>true) rfl (fun i hi hr' x hx=>by rw [kifr i x hr' rfl];simp)
   have eu:updF (fun _ _=>true) l rest l=l:=by
    refine List.ext_getElem updF_len fun i h1 h2=>?_
    rw [updF_get h1 h2 h2 (fun v hv=>(hs.hb v hv).1)]
    split
    ·exact kept_all (ok _ (List.getElem_mem h2)) fun _ _=>rfl
    ·rfl
   rw [eu] at ho
   have kl:=last l (h++[.row 6 [conV c]]) rfl g0' gc (by simp)
   have q0:∀ t,(h++t)[id]? = some (.row 2 (l.map domV)):=fun t=>get_app g0
   refine ⟨_,?_,by rw [←ho];exact fin l (h++[.row 6 [conV c]]) g0' hlt (Mvd.refl g0')⟩
   rw [acw_hm (CT T_linear_iff) rfl]
   rw [hcV] at kt ⊢
   simp only [List.length_append,List.length_singleton,List.append_assoc,List.cons_append,List.nil_append] at kl
   rw [hcV] at kl
   simp [runW_fin,F_linear_iff,i_linear_iff,hl1,tk,hwl,hd1,hd2,hi6,kh1,kh0,kt,kl,q0]
   rw [wr_app hid,List.set_append_left _ _ hid,List.append_assoc]
   rfl
end Go.RR.FX
namespace Go.RR
open Go.Lib
end Go.RR
namespace Go.RR.M
open Go Go.RR Go.Lib
section
variable (c:Con) (row:List Int) (hr:∀ v∈c.vars,0≤v∧v<row.length)
end
theorem varsB_inv {c:Con} {n a b:Int} (h:varsB c n a b=true):(a≤c.vars.length∧(c.vars.length:Int)≤b)∧∀ v∈c.vars,0≤v∧v<n:=by
 unfold varsB at h
 simp only [Bool.and_eq_true,decide_eq_true_eq] at h
 exact ⟨h.1,vOK_all h.2⟩
theorem sumB_inv {c:Con} {b:Int} (h:sumB c b=true):(c.coefs.length:Int)=c.vars.length-b∧(∀ x∈c.coefs,smallI x)∧(0≤c.rel∧c.rel≤5)∧(-1099511627776≤c.const∧c.const≤1099511627776)∧c.nums.length=0:=by
 unfold sumB at h
 simp only [Bool.and_eq_true,decide_eq_true_eq] at h
 obtain ⟨h1,h2,-,h4,h5,h6,h7⟩:=h
 exact ⟨h1,fun x hx=>withinB_all h2 x hx,⟨h4,h5⟩,withinB_all h6 _ (by simp),h7⟩
theorem bareB_inv {c:Con} {a b:Int} (h:bareB c a b=true):c.coefs.length=0∧(a≤c.nums.length∧(c.nums.length:Int)≤b)∧∀ x∈c.nums,smallI x:=by
 unfold bareB at h
 simp only [Bool.and_eq_true,decide_eq_true_eq] at h
 obtain ⟨h1,-,-,h4,h5,h6⟩:=h
 exact ⟨h1,⟨h4,h5⟩,fun x hx=>withinB_all h6 x hx⟩
inductive Kd (c:Con) (n:Int):Prop where
 | lin (h:c.kind=1) (hv:varsB c n 1 8=true) (hs:sumB c 0=true)
 | prod (h:c.kind=2) (hv:varsB c n 3 3=true) (hs:bareB c 0 0=true)
 | iff (h:c.kind=3) (hv:varsB c n 2 9=true) (hs:sumB c 1=true)
 | elt (h:c.kind=4) (hv:varsB c n 2 2=true) (hs:bareB c 1 96=true)
 | dif (h:c.kind=5) (hv:varsB c n 2 8=true) (hs:bareB c 0 0=true)
 | tab (h:c.kind=6) (hv:varsB c n 1 8=true) (hs:bareB c 0 96=true) (hm:((c.nums.length:Int).tmod c.vars.length)=0)
theorem kd {c:Con} {n:Int} (h:rightB c n=true):Kd c n:=by
 unfold rightB at h
 split at h
 ·rename_i e;unfold linearB at h;simp only [Bool.and_eq_true] at h;exact .lin e h.1 h.2
 split at h
 ·rename_i e;unfold productB at h;simp only [Bool.and_eq_true] at h;exact .prod e h.1 h.2
 split at h
 ·rename_i e;unfold iffB at h;simp only [Bool.and_eq_true] at h;exact .iff e h.1 h.2
 split at h
 ·rename_i e;unfold elementB at h;simp only [Bool.and_eq_true] at h;exact .elt e h.1 h.2
 split at h
 ·rename_i e;unfold differB at h;simp only [Bool.and_eq_true] at h;exact .dif e h.1 h.2
 split at h
 ·rename_i e;unfold tableB at h;simp only [Bool.and_eq_true,decide_eq_true_eq] at h;exact .tab e h.1 h.2.1 h.2.2
 ·cases h
theorem Kd.vars {c:Con} {n:Int} (h:Kd c n):(1≤c.vars.length∧c.vars.length≤9)∧∀ v∈c.vars,0≤v∧v<n:=by
 cases h with
 | lin _ hv=>have:=varsB_inv hv;exact ⟨by omega,this.2⟩
 | prod _ hv=>have:=varsB_inv hv;exact ⟨by omega,this.2⟩
 | iff _ hv=>have:=varsB_inv hv;exact ⟨by omega,this.2⟩
 | elt _ hv=>have:=varsB_inv hv;exact ⟨by omega,this.2⟩
 | dif _ hv=>have:=varsB_inv hv;exact ⟨by omega,this.2⟩
 | tab _ hv=>have:=varsB_inv hv;exact ⟨by omega,this.2⟩
theorem vals_small {c:Con} {row:List Int} (hr:∀ x∈row,smallI x):∀ x∈valsOf c row,smallI x:=by
 intro x hx
 unfold valsOf at hx
 obtain ⟨v,-,rfl⟩:=List.mem_map.1 hx
 rw [List.getD_eq_getElem?_getD]
 cases e:row[v.toNat]? with
 | none=>exact ⟨by simp,by simp⟩
 | some y=>exact hr y (List.mem_of_getElem? e)
theorem getD_small {l:List Int} (h:∀ x∈l,smallI x) (i:Nat):smallI (l.getD i 0):=by
 rw [List.getD_eq_getElem?_getD]
 cases e:l[i]? with
 | none=>exact ⟨by simp,by simp⟩
 | some y=>exact h y (List.mem_of_getElem? e)
end Go.RR.M
namespace Go.RR
def c150 (c:Con):Prop:=c.vars.length≤150∧c.coefs.length≤150∧c.nums.length≤150
end Go.RR
namespace Go.RR.M
open Go Go.RR
theorem c150_len {c:Con} (h:c150 c):lenOK c:=⟨by have:=h.1;omega,by have:=h.2.1;omega,by have:=h.2.2;omega⟩
def gRightB (l:List Con) (row:List Int):Bool:=withinB 1048576 row&&l.all fun c=>rightB c row.length
def allB (l:List Con) (row:List Int):Bool:=gRightB l row&&l.all fun c=>holdsB c row
theorem gRight_inv {l:List Con} {row:List Int} (h:gRightB l row=true):(∀ x∈row,smallI x)∧∀ c∈l,rightB c row.length=true:=by
 unfold gRightB at h
 simp only [Bool.and_eq_true,List.all_eq_true] at h
 exact ⟨fun x hx=>withinB_all h.1 x hx,h.2⟩
end Go.RR.M
namespace Go.RR
def dupN (pre:List Int):List Int→Bool
 | []=>false
 | x::r=>(pre.any fun y=>decide (x=y))||dupN (pre++[x]) r
theorem dupN_iff:∀ (l pre:List Int),pre.Nodup→(dupN pre l=false↔(pre++l).Nodup)
 | [],pre,h=>by simp [dupN,h]
 | x::r,pre,h=>by
  simp only [dupN,Bool.or_eq_false_iff]
  by_cases hx:x∈pre
  ·have h1:(pre.any fun y=>decide (x=y))=true:=List.any_eq_true.2 ⟨x,hx,by simp⟩
   simp only [h1,Bool.true_eq_false,false_and,false_iff]
   intro hn
   rw [List.nodup_append] at hn
   exact hn.2.2 x hx x (by simp) rfl
  ·have h1:(pre.any fun y=>decide (x=y))=false:=by
    rw [Bool.eq_false_iff]
    intro e
    obtain ⟨y,hy,e⟩:=List.any_eq_true.1 e
    simp only [decide_eq_true_eq] at e
    subst e;exact hx hy
   have hn:(pre++[x]).Nodup:=by
    rw [List.nodup_append]
    refine ⟨h,by simp,fun a ha b hb=>?_⟩
    simp only [List.mem_singleton] at hb
    subst hb
    exact fun e=>hx (e▸ha)
   simp only [h1,true_and]
   rw [dupN_iff r (pre++[x]) hn,List.append_assoc]
   rfl
theorem dupN_dec (l:List Int):(!dupN [] l)=decide l.Nodup:=by
 have:=dupN_iff l [] .nil
 simp only [List.nil_append] at this
 by_cases h:l.Nodup
 ·simp [h,this.2 h]
 ·have:dupN [] l=true:=by
   cases e:dupN [] l with
   | true=>rfl
   | false=>exact absurd (this.1 e) h
  simp [h,this]
end Go.RR
namespace Go.RR.M
open Go Go.RR
theorem rg_l0 (l:List Con) (row:List Int) (hr:row.length≤4611686018427387904) (h:List Ob):∀ (k i:Nat),i+k=row.length →
  ∃ fr',evw C y0 i_ref11_Right_l0 [(0,consV l),(1,intsV row),(5,iv i)] h=some (if withinB 1048576 (row.drop i)=true then (.ext 0,fr',h) else (.ret,[(4,.bool false)],h))∧get fr' 0=consV l∧get fr' 1=intsV row:=by
 intro k
 induction k with
 | zero=>
  intro i hi
  have:i=row.length:=by omega
  subst this
  refine ⟨[(0,consV l),(1,intsV row),(5,iv row.length),(10,.bool false)],?_,rfl,rfl⟩
  rw [r_ref11_Right_0,List.drop_length]
  simp [b_ref11_Right_0,withinB]
 | succ k ih=>
  intro i hi
  have hlt:i<row.length:=by omega
  have hw:=wrap_succ hlt (by omega)
  obtain ⟨fr',ih,g0,g1⟩:=ih (i+1) (by omega)
  refine ⟨fr',?_,g0,g1⟩
  simp only [Int.natCast_add,Int.cast_ofNat_Int] at ih
  rw [r_ref11_Right_0,List.drop_eq_getElem_cons hlt]
  have e:withinB 1048576 (row[i]::row.drop (i+1))=((decide (-1048576≤row[i])&&decide (row[i]≤1048576))&&withinB 1048576 (row.drop (i+1))):=rfl
  rw [e]
  by_cases c1:row[i] < -1048576
  ·have c1':¬(-1048576≤row[i]):=by omega
   simp [b_ref11_Right_0,hlt,c1,c1']
  have c1':-1048576≤row[i]:=by omega
  by_cases c2:1048576<row[i]
  ·have c2':¬(row[i]≤1048576):=by omega
   simp [b_ref11_Right_0,hlt,c1,c1',c2,c2']
  have c2':row[i]≤1048576:=by omega
  simp only [c1',c2',decide_true,Bool.true_and,←ih]
  simp [b_ref11_Right_0,hlt,c1,c2,hw]
theorem rg_l1 (l:List Con) (row:List Int) (hl:l.length≤150) (hc:∀ c∈l,c150 c) (h:List Ob):∀ (k i:Nat),i+k=l.length →
  ∃ fr',evw C y0 i_ref11_Right_l1 [(0,consV l),(1,intsV row),(6,iv i)] h=some (if ((l.drop i).all fun c=>rightB c row.length)=true then (.ext 2,fr',h) else (.ret,[(4,.bool false)],h)):=by
 intro k
 induction k with
 | zero=>
  intro i hi
  have:i=l.length:=by omega
  subst this
  refine ⟨[(0,consV l),(1,intsV row),(6,iv l.length),(28,.bool false)],?_⟩
  rw [r_ref11_Right_1,List.drop_length]
  simp [b_ref11_Right_1]
 | succ k ih=>
  intro i hi
  have hlt:i<l.length:=by omega
  have hw:=wrap_succ hlt (by omega)
  obtain ⟨fr',ih⟩:=ih (i+1) (by omega)
  refine ⟨fr',?_⟩
  simp only [Int.natCast_add,Int.cast_ofNat_Int] at ih
  have k1:=ref_right l[i] row.length (c150_len (hc _ (List.getElem_mem hlt)))
  rw [r_ref11_Right_1,List.drop_eq_getElem_cons hlt,List.all_cons]
  rcases Bool.eq_false_or_eq_true (rightB l[i] row.length) with e|e<;>rw [e] at k1<;>simp only [e]
  ·simp only [Bool.true_and,←ih]
   simp [b_ref11_Right_1,hlt,k1,hw]
  ·simp [b_ref11_Right_1,hlt,k1]
theorem rRight (l:List Con) (row:List Int) (hl:l.length≤150) (hr:row.length≤4611686018427387904) (hc:∀ c∈l,c150 c) (h:List Ob):acw C n_ref11_Right [consV l,intsV row] h=some (.ret (.bool (gRightB l row)),h):=by
 refine acw_ex (v:=.bool (gRightB l row)) (CT T_ref11_Right) rfl rfl (fun _=>rfl) (by simp) ?_
 obtain ⟨fr',k1,g0,g1⟩:=rg_l0 l row hr [] row.length 0 (by omega)
 obtain ⟨fr2,k2⟩:=rg_l1 l row hl hc [] l.length 0 (by omega)
 simp only [List.drop_zero,Int.cast_ofNat_Int] at k1 k2
 unfold gRightB
 rcases Bool.eq_false_or_eq_true (withinB 1048576 row) with e|e<;>simp only [e,Bool.false_eq_true,if_true,if_false] at k1<;>simp only [e]
 ·rcases Bool.eq_false_or_eq_true (l.all fun c=>rightB c row.length) with e2|e2<;>simp only [e2,Bool.false_eq_true,if_true,if_false] at k2<;>simp only [e2]
  ·simp [runW_fin,F_ref11_Right,i_ref11_Right,k1,k2,g0,g1]
  ·simp [runW_fin,F_ref11_Right,i_ref11_Right,k1,k2,g0,g1]
 ·simp [runW_fin,F_ref11_Right,i_ref11_Right,k1]
abbrev valL (vs row:List Int):List Int:=vs.map fun v=>row.getD v.toNat 0
theorem sum_loop (c:Con) (vs row:List Int) (hlen:c.coefs.length=vs.length) (hl:vs.length≤150) (hv:∀ v∈vs,0≤v∧v<row.length) (h1:∀ x∈c.coefs,smallI x) (h2:∀ x∈row,smallI x):∀ (k i:Nat) (s:Int),i+k=vs.length → -(1099511627776*(i:Int))≤s∧s≤1099511627776*(i:Int) →
  ∃ fr',evw C y0 i_ref11_sum_l0 [(1,intsV vs),(2,intsV row),(3,.ptr 0 0 0 1),(7,iv s),(8,iv i)] [.row 6 [conV c]]=some (.ext 0,fr',[.row 6 [conV c]])∧get fr' 3=.ptr 0 0 0 1∧get fr' 7=iv (s+dotI (c.coefs.drop i) ((valL vs row).drop i)):=by
 intro k
 induction k with
 | zero=>
  intro i s hi hs
  have:i=vs.length:=by omega
  subst this
  have e:c.coefs.drop vs.length=[]:=by rw [←hlen,List.drop_length]
  rw [r_ref11_sum_0,e]
  refine ⟨[(1,intsV vs),(2,intsV row),(3,.ptr 0 0 0 1),(7,iv s),(8,iv vs.length),(14,.bool false)],?_,rfl,by simp [get,dotI]⟩
  simp [b_ref11_sum_0]
 | succ k ih=>
  intro i s hi hs
  have hlt:i<vs.length:=by omega
  have hlt':i<c.coefs.length:=by omega
  have hlt2:i<(valL vs row).length:=by simpa using hlt
  have hw:=wrap_succ hlt (by omega)
  obtain ⟨v1,v2⟩:=hv _ (List.getElem_mem hlt)
  have hvl:vs[i].toNat<row.length:=by omega
  have ha:=at_ints (l:=row) v1 hvl
  have e2:(valL vs row)[i]=row[vs[i].toNat]:=by simp [valL,hvl]
  have hm:=mul_small (h1 _ (List.getElem_mem hlt')) (h2 _ (List.getElem_mem hvl))
  obtain ⟨fr',e1,g3,g7⟩:=ih (i+1) (s+c.coefs[i]*row[vs[i].toNat]) (by omega) (by rw [Int.natCast_add];omega)
  have w1:IntKind.i64.wrap (c.coefs[i]*row[vs[i].toNat])=c.coefs[i]*row[vs[i].toNat]:=wrap64 (by omega) (by omega)
  have w2:IntKind.i64.wrap (s+c.coefs[i]*row[vs[i].toNat])=s+c.coefs[i]*row[vs[i].toNat]:=wrap64 (by omega) (by omega)
  simp only [Int.natCast_add,Int.cast_ofNat_Int] at e1
  refine ⟨fr',?_,g3,?_⟩
  ·rw [r_ref11_sum_0,←e1]
   simp [b_ref11_sum_0,hlt,hlt',v1,v2,ha,w1,w2,hw]
  ·rw [g7,List.drop_eq_getElem_cons hlt',List.drop_eq_getElem_cons hlt2,e2]
   simp only [dotI,Int.add_assoc]
theorem rsum (c:Con) (vs row:List Int) (hlen:c.coefs.length=vs.length) (hl:vs.length≤150) (hv:∀ v∈vs,0≤v∧v<row.length) (h1:∀ x∈c.coefs,smallI x) (h2:∀ x∈row,smallI x) (hrel:0≤c.rel∧c.rel≤5) (h:List Ob):acw C n_ref11_sum [conV c,intsV vs,intsV row] h=some (.ret (.bool (relB c.rel (dotI c.coefs (valL vs row)) c.const)),h):=by
 refine acw_ex (v:=.bool (relB c.rel (dotI c.coefs (valL vs row)) c.const)) (CT T_ref11_sum) rfl rfl (fun _=>rfl) (by simp) ?_
 obtain ⟨fr',k1,g3,g7⟩:=sum_loop c vs row hlen hl hv h1 h2 vs.length 0 0 (by omega) (by omega)
 simp only [List.drop_zero,Int.cast_ofNat_Int,Int.zero_add] at k1 g7
 generalize dotI c.coefs (valL vs row)=s at g7 ⊢
 obtain ⟨kind,vars,coefs,rel,const,nums⟩:=c
 dsimp only at *
 unfold relB
 have hrel':rel=0∨rel=1∨rel=2∨rel=3∨rel=4∨rel=5:=by omega
 by_cases c1:s<const
 ·have c2:¬s=const:=by omega
  have c3:s≤const:=by omega
  have c4:¬const<s:=by omega
  have c5:¬const≤s:=by omega
  rcases hrel' with rfl|rfl|rfl|rfl|rfl|rfl<;>simp [runW_fin,F_ref11_sum,i_ref11_sum,k1,g3,g7,c1,c2,c3,c4,c5,ieq]
 ·by_cases c2:s=const
  ·subst c2
   rcases hrel' with rfl|rfl|rfl|rfl|rfl|rfl<;>simp [runW_fin,F_ref11_sum,i_ref11_sum,k1,g3,g7,ieq]
  ·have c3:¬s≤const:=by omega
   have c4:const<s:=by omega
   have c5:const≤s:=by omega
   rcases hrel' with rfl|rfl|rfl|rfl|rfl|rfl<;>simp [runW_fin,F_ref11_sum,i_ref11_sum,k1,g3,g7,c1,c2,c3,c4,c5,ieq]
end Go.RR.M
