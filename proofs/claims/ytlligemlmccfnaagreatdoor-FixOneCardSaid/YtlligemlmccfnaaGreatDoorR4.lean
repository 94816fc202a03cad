/- The second reading of code: how it is reckoned, step by step. -/
import Derived.Test.YtlligemlmccfnaaGreatDoorR3
set_option linter.unusedSimpArgs false
set_option linter.unusedVariables false
namespace Go.RR
def ob {α β:Type} (x:Option α) (f:α→Option β):Option β:=
 match x with
 | some a=>f a
 | none=>none
def mod0:Nat:=0
@[simp] theorem mod0_eq:mod0=0:=_root_.id rfl
@[congr] theorem ob_congr {α β:Type} {x x':Option α} {f:α→Option β} (h:x=x') {mz:Nat} (_:mod0=mz):ob x f=ob x' f:=by rw [h]
@[simp] theorem zcd {α β:Type} {a:α} {f:α→Option β}:ob (some a) f=f a:=rfl
@[simp] theorem ob_none {α β:Type} {f:α→Option β}:ob none f=none:=rfl
def nxt (r:Option Rs) (k:Fr→List Ob→Option Rs):Option Rs:=
 match r with
 | some (.nrm,fr,h)=>k fr h
 | r=>r
@[congr] theorem nxt_congr {r r':Option Rs} {k:Fr→List Ob→Option Rs} (h:r=r') {mz:Nat} (_:mod0=mz):nxt r k=nxt r' k:=by rw [h]
@[simp] theorem zBa {fr h k}:nxt (some (.nrm,fr,h)) k=k fr h:=rfl
@[simp] theorem nxt_ext {i fr h k}:nxt (some (.ext i,fr,h)) k=some (.ext i,fr,h):=rfl
@[simp] theorem zEu {fr h k}:nxt (some (.ret,fr,h)) k=some (.ret,fr,h):=rfl
@[simp] theorem nxt_pan {v fr h k}:nxt (some (.pan v,fr,h)) k=some (.pan v,fr,h):=rfl
@[simp] theorem nxt_none {k}:nxt none k=none:=rfl
def zAG (id:Nat) (r:Option Rs):Option Rs:=
 match r with
 | some (.ext i,fr,h)=>if i=id then some (.nrm,fr,h) else some (.ext i,fr,h)
 | r=>r
@[simp] theorem blkR_nrm {id fr h}:zAG id (some (.nrm,fr,h))=some (.nrm,fr,h):=rfl
@[simp] theorem blkR_ext {id i fr h}:zAG id (some (.ext i,fr,h))=if i=id then some (.nrm,fr,h) else some (.ext i,fr,h):=rfl
@[simp] theorem blkR_ret {id fr h}:zAG id (some (.ret,fr,h))=some (.ret,fr,h):=rfl
@[simp] theorem blkR_pan {id v fr h}:zAG id (some (.pan v,fr,h))=some (.pan v,fr,h):=rfl
@[simp] theorem blkR_none {id}:zAG id none=none:=rfl
@[simp] theorem keepR_nrm {k fr h}:ziR k (some (.nrm,fr,h))=some (.nrm,zv9 k fr,h):=rfl
@[simp] theorem keepR_pan {k v fr h}:ziR k (some (.pan v,fr,h))=some (.pan v,fr,h):=rfl
@[simp] theorem zEZ {k}:ziR k none=none:=rfl
@[simp] theorem zE5 {l fr}:zv9 (some l) fr=l.map fun t=>(t,get fr t):=_root_.id rfl
@[simp] theorem zDQ {t}:get [] t=.und:=_root_.id rfl
@[simp] theorem zrO {s v r t}:get ((s,v)::r) t=if s=t then v else get r t:=_root_.id rfl
@[simp] theorem putO_some {fr d v}:zdI fr (some d) v=(d,v)::fr:=_root_.id rfl
@[simp] theorem putO_none {fr v}:zdI fr none v=fr:=_root_.id rfl
@[simp] theorem ev_t {fr n}:O.ev fr (.t n)=get fr n:=_root_.id rfl
@[simp] theorem zrF {fr v}:O.ev fr (.c v)=v:=_root_.id rfl
def way (v:V) (a b:Option Rs):Option Rs:=
 match v with
 | .bool true=>a
 | .bool false=>b
 | _=>none
@[congr] theorem way_congr {v v':V} {a b} (h:v=v') {mz:Nat} (_:mod0=mz):way v a b=way v' a b:=by rw [h]
@[simp] theorem way_true {a b}:way (.bool true) a b=a:=rfl
@[simp] theorem way_false {a b}:way (.bool false) a b=b:=rfl
section
variable {C:Cx} {n:Nat} {Y:Yl} {fr:Fr} {h:List Ob}
theorem zDn:ev C (n+1) Y .skip fr h=some (.nrm,fr,h):=_root_.id rfl
theorem ev_ret:ev C (n+1) Y .ret fr h=some (.ret,fr,h):=_root_.id rfl
theorem ev_ext {id}:ev C (n+1) Y (.ext id) fr h=some (.ext id,fr,h):=_root_.id rfl
theorem ev_rg {l k}:ev C (n+1) Y (.rg l k) fr h=ziR k (zak (crN C Y n) l fr h):=_root_.id rfl
theorem ev_seq {a b}:ev C (n+1) Y (.seq a b) fr h=nxt (ev C (n+1) Y a fr h) fun fr h=>ev C (n+1) Y b fr h:=by
 show evS _ _ _ _ _=_
 simp only [evS]
 show _=nxt (evS _ _ _ _ _) _
 unfold nxt
 rfl
theorem zDH {c a b}:ev C (n+1) Y (.cond c a b) fr h=way (c.ev fr) (ev C (n+1) Y a fr h) (ev C (n+1) Y b fr h):=by
 show evS _ _ _ _ _=_
 simp only [evS]
 unfold way
 rfl
theorem ev_blk {id b}:ev C (n+1) Y (.blk id b) fr h=zAG id (ev C (n+1) Y b fr h):=by
 show evS _ _ _ _ _=zAG id (evS _ _ _ _ _)
 simp only [evS]
 unfold zAG
 rfl
theorem ev_sc {b}:ev C (n+1) Y (.sc b) fr h=ev C (n+1) Y b fr h:=_root_.id rfl
end
def cal (r:Option (Out×List Ob)) (k:V→List Ob→Option Rs) (fr:Fr):Option Rs:=
 match r with
 | some (.ret v,h)=>k v h
 | some (.pan v,h)=>some (.pan v,fr,h)
 | none=>none
@[congr] theorem cal_congr {r r':Option (Out×List Ob)} {k:V→List Ob→Option Rs} {fr} (h:r=r') {mz:Nat} (_:mod0=mz):cal r k fr=cal r' k fr:=by rw [h]
@[simp] theorem cal_ret {v h k fr}:cal (some (.ret v,h)) k fr=k v h:=_root_.id rfl
@[simp] theorem cal_pan {v h k fr}:cal (some (.pan v,h)) k fr=some (.pan v,fr,h):=_root_.id rfl
def cav (cr:zaw) (g:V) (args:List V) (h:List Ob):Option (Out×List Ob):=
 match g with
 | .fn (.func f) first cap=>cr f (first++args++cap) h
 | .mp y=>cr.y (.mp y::args) h
 | _=>none
@[simp] theorem cav_mp {cr:zaw} {y args h}:cav cr (.mp y) args h=cr.y (.mp y::args) h:=_root_.id rfl
@[simp] theorem cav_fn {cr:zaw} {f first cap args h}:cav cr (.fn (.func f) first cap) args h=cr f (first++args++cap) h:=_root_.id rfl
def want (o:Option Bool) (a b:Option Rs):Option Rs:=
 match o with
 | some true=>a
 | some false=>b
 | none=>none
@[congr] theorem zE6 {o o':Option Bool} {a b} (h:o=o') {mz:Nat} (_:mod0=mz):want o a b=want o' a b:=by rw [h]
@[simp] theorem zv0 {a b}:want (some true) a b=a:=rfl
@[simp] theorem zEY {a b}:want (some false) a b=b:=rfl
section
variable {cr:zaw} {d:Option Nat} {r:List In} {fr:Fr} {h:List Ob}
theorem in_nil:zak cr [] fr h=some (.nrm,fr,h):=_root_.id rfl
theorem in_g {t b i}:zak cr (⟨d,some (t,b),i⟩::r) fr h=want (wanted fr (some (t,b))) (zak cr (⟨d,none,i⟩::r) fr h) (zak cr r (zdI fr d (.tup [])) h):=by
 simp only [zak]
 unfold want
 rfl
theorem zfn {i:I} (e:step cr fr h i=match op1 h.length fr h i with
  | some (v,w)=>some (.val v (wr h w))
  | none=>none):zak cr (⟨d,none,i⟩::r) fr h=ob (op1 h.length fr h i) fun p=>zak cr r (zdI fr d p.1) (wr h p.2):=by
 simp only [zak,wanted,e]
 cases op1 h.length fr h i with
 | none=>rfl
 | some p=>rfl
theorem zC2 {x}:zak cr (⟨d,none,.mov x⟩::r) fr h=zak cr r (zdI fr d (x.ev fr)) h:=_root_.id rfl
theorem in_bin {op x y}:zak cr (⟨d,none,.bin op x y⟩::r) fr h=ob (bin op (x.ev fr) (y.ev fr)) fun v=>zak cr r (zdI fr d v) h:=by
 rw [zfn rfl]
 simp only [op1]
 cases bin op (x.ev fr) (y.ev fr)<;>rfl
theorem in_eq {neg q x y}:zak cr (⟨d,none,.eq neg q x y⟩::r) fr h=ob (eqv q (x.ev fr) (y.ev fr)) fun b=>zak cr r (zdI fr d (.bool (if neg then !b else b))) h:=by
 rw [zfn rfl]
 simp only [op1]
 cases eqv q (x.ev fr) (y.ev fr)<;>rfl
theorem zEj {neg kd x}:zak cr (⟨d,none,.nilq neg kd x⟩::r) fr h=ob (znc h kd (x.ev fr)) fun b=>zak cr r (zdI fr d (.bool (if neg then !b else b))) h:=by
 rw [zfn rfl]
 simp only [op1]
 cases znc h kd (x.ev fr)<;>rfl
def zzN (c a b:V):Option V:=
 match c with
 | .bool t=>some (if t then a else b)
 | _=>none
@[simp] theorem zE4 {a b}:zzN (.bool true) a b=some a:=_root_.id rfl
@[simp] theorem zDq {a b}:zzN (.bool false) a b=some b:=_root_.id rfl
theorem zDF {c x y}:zak cr (⟨d,none,.pick c x y⟩::r) fr h=ob (zzN (c.ev fr) (x.ev fr) (y.ev fr)) fun v=>zak cr r (zdI fr d v) h:=by
 rw [zfn rfl]
 simp only [op1]
 generalize c.ev fr=c'
 cases c'<;>rfl
theorem zEl {f xs}:zak cr (⟨d,none,.call f xs⟩::r) fr h=cal (cr f (xs.map (O.ev fr)) h) (fun v h'=>zak cr r (zdI fr d v) h') fr:=by
 simp only [zak,wanted,step]
 cases cr f (xs.map (O.ev fr)) h with
 | none=>rfl
 | some p=>obtain ⟨o,h'⟩:=p;cases o<;>rfl
theorem in_cx {f xs}:zak cr (⟨d,none,.cx f xs⟩::r) fr h=ob (zj4 h (xs.map (O.ev fr))) fun as=>cal (cr f as (h.map fun _=>.dead)) (fun v h'=>zak cr r (zdI fr d v) h') fr:=by
 simp only [zak,wanted,step]
 cases zj4 h (xs.map (O.ev fr)) with
 | none=>rfl
 | some as=>
  simp only [ob]
  cases cr f as (h.map fun _=>.dead) with
  | none=>rfl
  | some p=>obtain ⟨o,h'⟩:=p;cases o<;>rfl
theorem zBK {x:Option (Out×List Ob)}:(match zBn x with
  | some (.val v h')=>zak cr r (zdI fr d v) h'
  | some (.pan v h')=>some (.pan v,fr,h')
  | none=>none)=cal x (fun v h'=>zak cr r (zdI fr d v) h') fr:=by
 cases x with
 | none=>rfl
 | some p=>obtain ⟨o,h'⟩:=p;cases o<;>rfl
theorem zCO {g xs}:zak cr (⟨d,none,.callv g xs⟩::r) fr h=cal (cav cr (g.ev fr) (xs.map (O.ev fr)) h) (fun v h'=>zak cr r (zdI fr d v) h') fr:=by
 rw [←zBK]
 simp only [zak,wanted,step]
 generalize g.ev fr=g'
 cases g' with
 | fn f a b=>cases f<;>rfl
 | _=>rfl
theorem in_pan {x} (e:zER (x.ev fr)=true):zak cr (⟨d,none,.pan x⟩::r) fr h=some (.pan (x.ev fr),fr,h):=by simp [zak,wanted,step,e]
end
@[simp] theorem zEC {h:List Ob}:wr h none=h:=_root_.id rfl
@[simp] theorem wr_nil {i:Nat} {x:Ob}:wr [] (some (i,x))=[x]:=_root_.id rfl
attribute [simp] zDn ev_ret ev_ext ev_rg ev_seq zDH ev_blk ev_sc in_nil in_g zC2 in_bin in_eq zEj zDF zEl in_cx zCO in_pan
def fin (rs:List (Nat×Option (Bool×Nat))) (r:Option Rs):Option (Out×List Ob):=
 match r with
 | some (.nrm,fr,h')|some (.ret,fr,h')=>ob (zdP (res1 fr h') rs) fun vs=>some (.ret (zzp vs),h')
 | some (.pan v,_,h')=>some (.pan v,h')
 | _=>none
@[congr] theorem fin_congr {F F':List (Nat×Option (Bool×Nat))} {r r':Option Rs} (hf:F=F') (h:r=r') {mz:Nat} (_:mod0=mz):fin F r=fin F' r':=by rw [h,hf]
@[simp] theorem fin_ret {F fr h}:fin F (some (.ret,fr,h))=ob (zdP (res1 fr h) F) fun vs=>some (.ret (zzp vs),h):=rfl
@[simp] theorem fin_nrm {F fr h}:fin F (some (.nrm,fr,h))=ob (zdP (res1 fr h) F) fun vs=>some (.ret (zzp vs),h):=rfl
@[simp] theorem fin_pan {F v fr h}:fin F (some (.pan v,fr,h))=some (.pan v,h):=rfl
@[simp] theorem res1_none {fr h t}:res1 fr h (t,none)=some (get fr t):=_root_.id rfl
@[simp] theorem zn8 {α β:Type} {f:α→Option β}:zdP f []=some []:=rfl
theorem zi8 {α β:Type} {f:α→Option β} {x:α} {r:List α}:zdP f (x::r)=ob (f x) fun y=>ob (zdP f r) fun s=>some (y::s):=by
 simp only [zdP]
 cases f x with
 | none=>rfl
 | some y=>cases zdP f r<;>rfl
attribute [simp] zi8
@[simp] theorem resV_one {v}:zzp [v]=v:=rfl
@[simp] theorem resV_nil:zzp []=.tup []:=rfl
@[simp] theorem resV_two {a b r}:zzp (a::b::r)=.tup (a::b::r):=rfl
theorem wrap64 {n:Int} (h0:-9223372036854775808≤n) (h1:n≤9223372036854775807):IntKind.i64.wrap n=n:=by
 unfold IntKind.wrap
 simp [IntKind.bits,IntKind.signed]
 omega
@[simp] theorem get_end {α:Type} {h l:List α}:(h++l)[h.length]? = l[0]?:=by
 rw [List.getElem?_append_right (Nat.le_refl _),Nat.sub_self]
@[simp] theorem get_end_k {α:Type} {h l:List α} {k:Nat}:(h++l)[h.length+k]? = l[k]?:=by
 rw [List.getElem?_append_right (Nat.le_add_right _ _),Nat.add_sub_cancel_left]
@[simp] theorem zvK {h:List Ob} {o:Ob}:wr h (some (h.length,o))=h++[o]:=by simp [wr]
@[simp] theorem zCM {h l:List Ob} {k:Nat} {o:Ob}:wr (h++l) (some (h.length+k,o))=h++wr l (some (k,o)):=by
 unfold wr
 simp only [List.length_append]
 by_cases e:k<l.length
 ·rw [if_pos (by omega),if_pos e,List.set_append_right _ _ (by omega)]
  simp
 ·rw [if_neg (by omega),if_neg e]
  simp
@[simp] theorem wr_end {h l:List Ob} {o:Ob}:wr (h++l) (some (h.length,o))=h++wr l (some (0,o)):=zCM (k:=0)
@[simp] theorem wr_cons_0 {a:Ob} {l:List Ob} {o:Ob}:wr (a::l) (some (0,o))=o::l:=by simp [wr]
@[simp] theorem zvE {a:Ob} {l:List Ob} {k:Nat} {o:Ob}:wr (a::l) (some (k+1,o))=a::wr l (some (k,o)):=by
 unfold wr
 simp only [List.length_cons,List.set_cons_succ]
 by_cases e:k<l.length
 ·rw [if_pos (by omega),if_pos e]
 ·rw [if_neg (by omega),if_neg e];rfl
@[simp] theorem zAr {a:Ob} {l:List Ob} {o:Ob}:wr (a::l) (some (1,o))=a::wr l (some (0,o)):=zvE (k:=0)
@[simp] theorem wr_cons_2 {a b:Ob} {l:List Ob} {o:Ob}:wr (a::b::l) (some (2,o))=a::b::wr l (some (0,o)):=by
 rw [show (2:Nat)=1+1 from rfl,zvE];rw [zAr]
def zit (nid:Nat) (h:List Ob) (sz b:Nat) (v y:V):Option (V×Option (Nat×Ob)):=op1 nid [] h (.app sz b (.c v) (.c y))
theorem in_app' {cr:zaw} {d:Option Nat} {r:List In} {fr:Fr} {h:List Ob} {sz b x y}:zak cr (⟨d,none,.app sz b x y⟩::r) fr h=ob (zit h.length h sz b (x.ev fr) (y.ev fr)) fun p=>zak cr r (zdI fr d p.1) (wr h p.2):=zfn rfl
attribute [simp] in_app'
def Acc (h:List Ob) (v:V) (z:Nat) (xs:List V):Prop:=(v=.nsl z∧xs=[])∨∃ id,v=.own id 0 xs.length xs.length∧h[id]? = some (.row z xs)
theorem Acc.elems {h:List Ob} {v:V} {z:Nat} {xs:List V} (a:Acc h v z xs):elems h v=some (z,xs):=by
 rcases a with ⟨rfl,rfl⟩|⟨id,rfl,e⟩
 ·rfl
 ·simp [RR.elems,zaF,e]
@[simp] theorem eqr_int {k k':IntKind} {a b:Int}:eqv .int (.int k a) (.int k' b)=if k=k' then some (a==b) else none:=rfl
@[simp] theorem eqr_bool {a b:Bool}:eqv .bool (.bool a) (.bool b)=some (a==b):=rfl
@[simp] theorem eqr_str {a b:List UInt8}:eqv .str (.str a) (.str b)=some (a==b):=rfl
@[simp] theorem eqr_agg {fs:List (Nat×Nat×Q)} {xs ys:List V}:eqv (.agg fs) (.agg xs) (.agg ys)=eqvs fs xs ys:=rfl
@[simp] theorem eqvs_nil {xs ys:List V}:eqvs [] xs ys=some true:=rfl
def eqn (o:Option Bool) (r:Option Bool):Option Bool:=
 match o with
 | some true=>r
 | some false=>some false
 | none=>none
@[simp] theorem eqn_true {r:Option Bool}:eqn (some true) r=r:=rfl
@[simp] theorem eqn_false {r:Option Bool}:eqn (some false) r=some false:=rfl
@[simp] theorem eqvs_cons {off sz:Nat} {q:Q} {r:List (Nat×Nat×Q)} {xs ys:List V}:eqvs ((off,sz,q)::r) xs ys=ob (part (zzl q) xs off sz) fun x=>ob (part (zzl q) ys off sz) fun y=>eqn (eqv q x y) (eqvs r xs ys):=by
 have e:eqvs ((off,sz,q)::r) xs ys=(match part (zzl q) xs off sz,part (zzl q) ys off sz with
  | some x,some y=>match eqv q x y with
   | some true=>eqvs r xs ys
   | some false=>some false
   | none=>none
  | _,_=>none):=rfl
 rw [e]
 generalize eqvs r xs ys=z
 cases part (zzl q) xs off sz with
 | none=>rfl
 | some x=>
  cases part (zzl q) ys off sz with
  | none=>rfl
  | some y=>
   simp only [zcd]
   generalize eqv q x y=o
   cases o with
   | none=>rfl
   | some b=>cases b<;>rfl
section
variable {k:IntKind} {a b:Int} {s t:List UInt8}
theorem b_add:bin .add (.int k a) (.int k b)=some (.int k (k.wrap (a+b))):=by simp [bin,zvc]
theorem b_sub:bin .sub (.int k a) (.int k b)=some (.int k (k.wrap (a-b))):=by simp [bin,zvc]
theorem b_mul:bin .mul (.int k a) (.int k b)=some (.int k (k.wrap (a*b))):=by simp [bin,zvc]
theorem b_quo:bin .quo (.int k a) (.int k b)=if b=0 then none else some (.int k (k.wrap (a.tdiv b))):=by simp [bin,zvc]
theorem b_rem:bin .rem (.int k a) (.int k b)=if b=0 then none else some (.int k (a.tmod b)):=by simp [bin,zvc]
theorem b_and:bin .and (.int k a) (.int k b)=some (.int k (k.wrap (BitVec.ofInt k.bits a&&&BitVec.ofInt k.bits b).toNat)):=by simp [bin,zvc]
theorem b_or:bin .or (.int k a) (.int k b)=some (.int k (k.wrap (BitVec.ofInt k.bits a|||BitVec.ofInt k.bits b).toNat)):=by simp [bin,zvc]
theorem b_eql:bin .eql (.int k a) (.int k b)=some (.bool (a==b)):=by simp [bin,zvc]
theorem b_neq:bin .neq (.int k a) (.int k b)=some (.bool (a != b)):=by simp [bin,zvc]
theorem b_lss:bin .lss (.int k a) (.int k b)=some (.bool (decide (a<b))):=by simp [bin,zvc]
theorem b_leq:bin .leq (.int k a) (.int k b)=some (.bool (decide (a≤b))):=by simp [bin,zvc]
theorem b_gtr:bin .gtr (.int k a) (.int k b)=some (.bool (decide (b<a))):=by simp [bin,zvc]
theorem b_geq:bin .geq (.int k a) (.int k b)=some (.bool (decide (b≤a))):=by simp [bin,zvc]
theorem b_shl {k':IntKind}:bin .shl (.int k a) (.int k' b)=if b<0 then none else some (.int k (k.wrap (a*2 ^ min b.toNat k.bits))):=by simp [bin,shI]
theorem b_shr {k':IntKind}:bin .shr (.int k a) (.int k' b)=if b<0 then none else some (.int k (a.fdiv (2 ^ min b.toNat k.bits))):=by simp [bin,shI]
theorem s_add:bin .add (.str s) (.str t)=if s.length+t.length≤4611686018427387904 then some (.str (s++t)) else none:=_root_.id rfl
theorem s_eql:bin .eql (.str s) (.str t)=some (.bool (s==t)):=_root_.id rfl
theorem s_neq:bin .neq (.str s) (.str t)=some (.bool (!(s==t))):=_root_.id rfl
theorem s_lss:bin .lss (.str s) (.str t)=some (.bool (Op.bytesLess s t)):=_root_.id rfl
theorem s_geq:bin .geq (.str s) (.str t)=some (.bool (!Op.bytesLess s t)):=_root_.id rfl
end
attribute [simp] b_add b_sub b_mul b_quo b_rem b_and b_or b_eql b_neq b_lss b_leq b_gtr b_geq b_shl b_shr s_add s_eql s_neq s_lss s_geq
def rowR (o:Option Ob) (tot:Nat):Option (Nat×List V):=
 match o with
 | some (.row sz xs)=>if xs.length=tot then some (sz,xs) else none
 | _=>none
@[simp] theorem rowR_row {sz xs tot}:rowR (some (.row sz xs)) tot=if xs.length=tot then some (sz,xs) else none:=_root_.id rfl
@[simp] theorem rowOf_R {h id tot}:zaF h id tot=rowR (h[id]?) tot:=_root_.id rfl
section
variable {k:IntKind} {n:Int} {b:Bool} {s:List UInt8} {xs:List V} {sz i j l m:Nat} {x:V} {f:Fn} {p q:List V}
@[simp] theorem iu1:V.isUnd (.int k n)=false:=_root_.id rfl
@[simp] theorem iu2:V.isUnd (.bool b)=false:=_root_.id rfl
@[simp] theorem iu3:V.isUnd (.str s)=false:=_root_.id rfl
@[simp] theorem iu4:V.isUnd (.agg xs)=false:=_root_.id rfl
@[simp] theorem iu5:V.isUnd (.sl sz xs)=false:=_root_.id rfl
@[simp] theorem iu6:V.isUnd (.nsl sz)=false:=_root_.id rfl
@[simp] theorem iu7:V.isUnd (.pin x sz)=false:=_root_.id rfl
@[simp] theorem iu8:V.isUnd .nilp=false:=_root_.id rfl
@[simp] theorem iu9:V.isUnd (.fn f p q)=false:=_root_.id rfl
@[simp] theorem iu10:V.isUnd .nilf=false:=_root_.id rfl
@[simp] theorem iu11:V.isUnd (.ifc sz x)=false:=_root_.id rfl
@[simp] theorem iu12:V.isUnd .nili=false:=_root_.id rfl
@[simp] theorem iu13:V.isUnd (.own i j l m)=false:=_root_.id rfl
@[simp] theorem iu14:V.isUnd (.ptr i j l m)=false:=_root_.id rfl
@[simp] theorem it1:V.isTup (.int k n)=false:=_root_.id rfl
@[simp] theorem it2:V.isTup (.bool b)=false:=_root_.id rfl
@[simp] theorem it3:V.isTup (.str s)=false:=_root_.id rfl
@[simp] theorem it4:V.isTup (.agg xs)=false:=_root_.id rfl
@[simp] theorem it5:V.isTup (.sl sz xs)=false:=_root_.id rfl
@[simp] theorem it6:V.isTup (.nsl sz)=false:=_root_.id rfl
@[simp] theorem it7:V.isTup (.pin x sz)=false:=_root_.id rfl
@[simp] theorem it8:V.isTup .nilp=false:=_root_.id rfl
@[simp] theorem it9:V.isTup (.fn f p q)=false:=_root_.id rfl
@[simp] theorem it10:V.isTup .nilf=false:=_root_.id rfl
@[simp] theorem it11:V.isTup (.ifc sz x)=false:=_root_.id rfl
@[simp] theorem it12:V.isTup .nili=false:=_root_.id rfl
@[simp] theorem it13:V.isTup (.own i j l m)=false:=_root_.id rfl
@[simp] theorem it14:V.isTup (.ptr i j l m)=false:=_root_.id rfl
@[simp] theorem ic1:V.cells (.int k n)=[.int k n]:=_root_.id rfl
@[simp] theorem ic2:V.cells (.bool b)=[.bool b]:=_root_.id rfl
@[simp] theorem ic3:V.cells (.str s)=[.str s]:=_root_.id rfl
@[simp] theorem ic4:V.cells (.agg xs)=xs:=_root_.id rfl
@[simp] theorem ic5:V.cells (.sl sz xs)=[.sl sz xs]:=_root_.id rfl
@[simp] theorem ic6:V.cells (.nsl sz)=[.nsl sz]:=_root_.id rfl
@[simp] theorem ic7:V.cells (.pin x sz)=[.pin x sz]:=_root_.id rfl
@[simp] theorem ic8:V.cells .nilp=[.nilp]:=_root_.id rfl
@[simp] theorem ic9:V.cells (.fn f p q)=[.fn f p q]:=_root_.id rfl
@[simp] theorem ic10:V.cells .nilf=[.nilf]:=_root_.id rfl
@[simp] theorem ic11:V.cells (.ifc sz x)=[.ifc sz x]:=_root_.id rfl
@[simp] theorem ic12:V.cells .nili=[.nili]:=_root_.id rfl
@[simp] theorem ic13:V.cells (.own i j l m)=[.own i j l m]:=_root_.id rfl
@[simp] theorem ic14:V.cells (.ptr i j l m)=[.ptr i j l m]:=_root_.id rfl
@[simp] theorem iz1:V.size (.int k n)=1:=_root_.id rfl
@[simp] theorem iz2:V.size (.bool b)=1:=_root_.id rfl
@[simp] theorem iz3:V.size (.str s)=1:=_root_.id rfl
@[simp] theorem iz4:V.size (.agg xs)=xs.length:=_root_.id rfl
@[simp] theorem iz5:V.size (.sl sz xs)=1:=_root_.id rfl
@[simp] theorem iz6:V.size (.nsl sz)=1:=_root_.id rfl
@[simp] theorem iz7:V.size (.pin x sz)=1:=_root_.id rfl
@[simp] theorem iz8:V.size .nilp=1:=_root_.id rfl
@[simp] theorem iz9:V.size (.fn f p q)=1:=_root_.id rfl
@[simp] theorem iz10:V.size .nilf=1:=_root_.id rfl
@[simp] theorem iz11:V.size (.ifc sz x)=1:=_root_.id rfl
@[simp] theorem iz12:V.size .nili=1:=_root_.id rfl
@[simp] theorem iz13:V.size (.own i j l m)=1:=_root_.id rfl
@[simp] theorem iz14:V.size (.ptr i j l m)=1:=_root_.id rfl
end
@[simp] theorem part_ag {cs:List V} {off sz:Nat}:part true cs off sz=if off+sz≤cs.length then some (.agg ((cs.drop off).take sz)) else none:=_root_.id rfl
@[simp] theorem part_one {cs:List V} {off sz:Nat}:part false cs off sz=cs[off]?:=_root_.id rfl
@[simp] theorem over_agg {xs cs:List V} {k:Nat}:over (.agg xs) k cs=if k+cs.length≤xs.length then some (.agg (xs.take k++cs++xs.drop (k+cs.length))) else none:=_root_.id rfl
@[simp] theorem fillV_nil {cs:List V}:znD cs []=some cs:=by unfold znD;rfl
def aggO (o:Option V) (f:List V→Option (List V)):Option (List V):=
 match o with
 | some (.agg cs)=>f cs
 | _=>none
@[simp] theorem aggO_some {cs f}:aggO (some (.agg cs)) f=f cs:=_root_.id rfl
@[simp] theorem zE8 {cs:List V} {off sz:Nat} {v:V} {r}:znD cs ((off,sz,v)::r)=if v.cells.length=sz∧v.isUnd=false∧v.isTup=false then aggO (over (.agg cs) off v.cells) fun cs=>znD cs r else none:=by
 have e:znD cs ((off,sz,v)::r)=(if v.cells.length=sz∧v.isUnd=false∧v.isTup=false then (match over (.agg cs) off v.cells with
  | some (.agg cs')=>znD cs' r
  | _=>none) else none):=rfl
 rw [e];rfl
@[simp] theorem fillE_nil {cs:List V}:zia cs []=some cs:=by unfold zia;rfl
@[simp] theorem zFb {cs:List V} {i:Nat} {v:V} {r}:zia cs ((i,v)::r)=if i<cs.length then (if v.size=(cs.getD i .und).size∧v.isUnd=false∧v.isTup=false then zia (cs.set i v) r else none) else none:=_root_.id rfl
abbrev Op1:=Option (V×Option (Nat×Ob))
def zEw (v:V):Op1:=op1 0 [] [] (.same (.c v))
def unV (op:UnOp) (v:V):Op1:=op1 0 [] [] (.un op (.c v))
def zD4 (k:IntKind) (v:V):Op1:=op1 0 [] [] (.conv k (.c v))
def s2bV (nid:Nat) (v:V):Op1:=op1 nid [] [] (.s2b (.c v))
def zzo (nid:Nat) (v:V):Op1:=op1 nid [] [] (.box (.c v))
def ldV (h:List Ob) (ag:Bool) (sz:Nat) (v:V):Op1:=op1 0 [] h (.ld ag sz (.c v))
def stV (h:List Ob) (sz:Nat) (a v:V):Op1:=op1 0 [] h (.st sz (.c a) (.c v))
def zFg (h:List Ob) (v:V):Op1:=op1 0 [] h (.nck (.c v))
def fadV (h:List Ob) (off:Nat) (v:V):Op1:=op1 0 [] h (.fad off (.c v))
def fldV (ag:Bool) (off sz:Nat) (v:V):Op1:=op1 0 [] [] (.fld ag off sz (.c v))
def zDC (h:List Ob) (sz:Nat) (a i:V):Op1:=op1 0 [] h (.iad sz (.c a) (.c i))
def ixsV (a i:V):Op1:=op1 0 [] [] (.ixs (.c a) (.c i))
def zFc (v:V) (lo hi:Option V):Op1:=op1 0 [] [] (.sls (.c v) (lo.map .c) (hi.map .c))
def zx4 (h:List Ob) (sz:Nat) (v:V) (lo hi mx:Option V):Op1:=op1 0 [] h (.sll sz (.c v) (lo.map .c) (hi.map .c) (mx.map .c))
def mksV (nid bytes:Nat) (z len cap:V):Op1:=op1 nid [] [] (.mks bytes z (.c len) (.c cap))
def extV (v:V) (i:Nat):Op1:=op1 0 [] [] (.ext (.c v) i)
def zBA (h:List Ob) (v:V):Op1:=op1 0 [] h (.len (.c v))
def zDs (v:V):Op1:=op1 0 [] [] (.slen (.c v))
def mkiV (t:Nat) (v:V):Op1:=op1 0 [] [] (.mki t (.c v))
section
variable {cr:zaw} {d:Option Nat} {r:List In} {fr:Fr} {h:List Ob}
theorem oev (x:Option O):((x.map (O.ev fr)).map O.c).map (O.ev [])=x.map (O.ev fr):=by cases x<;>rfl
@[simp] theorem j_same {x}:zak cr (⟨d,none,.same x⟩::r) fr h=ob (zEw (x.ev fr)) fun p=>zak cr r (zdI fr d p.1) (wr h p.2):=zfn rfl
@[simp] theorem j_un {op x}:zak cr (⟨d,none,.un op x⟩::r) fr h=ob (unV op (x.ev fr)) fun p=>zak cr r (zdI fr d p.1) (wr h p.2):=zfn rfl
@[simp] theorem j_conv {k x}:zak cr (⟨d,none,.conv k x⟩::r) fr h=ob (zD4 k (x.ev fr)) fun p=>zak cr r (zdI fr d p.1) (wr h p.2):=zfn rfl
@[simp] theorem j_s2b {x}:zak cr (⟨d,none,.s2b x⟩::r) fr h=ob (s2bV h.length (x.ev fr)) fun p=>zak cr r (zdI fr d p.1) (wr h p.2):=zfn rfl
@[simp] theorem j_b2s {x}:zak cr (⟨d,none,.b2s x⟩::r) fr h=ob (elems h (x.ev fr)) fun p=>ob (zDr p.2) fun s=>zak cr r (zdI fr d (.str s)) h:=by
 rw [zfn rfl]
 simp only [op1]
 cases elems h (x.ev fr) with
 | none=>rfl
 | some p=>
  simp only [zcd]
  cases zDr p.2<;>rfl
@[simp] theorem j_new {z}:zak cr (⟨d,none,.new z⟩::r) fr h=zak cr r (zdI fr d (.ptr h.length 0 0 1)) (h++[.row z.size [z]]):=by
 rw [zfn rfl]
 simp only [op1,zcd,zvK]
@[simp] theorem j_box {x}:zak cr (⟨d,none,.box x⟩::r) fr h=ob (zzo h.length (x.ev fr)) fun p=>zak cr r (zdI fr d p.1) (wr h p.2):=zfn rfl
@[simp] theorem j_bld {z ps}:zak cr (⟨d,none,.bld z ps⟩::r) fr h=ob (znD z (ps.map fun p=>(p.1,p.2.1,p.2.2.ev fr))) fun cs=>zak cr r (zdI fr d (.agg cs)) h:=by
 rw [zfn rfl]
 simp only [op1]
 cases znD z (ps.map fun p=>(p.1,p.2.1,p.2.2.ev fr))<;>rfl
@[simp] theorem j_bsl {z n ps}:zak cr (⟨d,none,.bsl z n ps⟩::r) fr h=ob (zia (List.replicate n z) (ps.map fun p=>(p.1,p.2.ev fr))) fun xs=>zak cr r (zdI fr d (.own h.length 0 n n)) (h++[.row z.size xs]):=by
 rw [zfn rfl]
 simp only [op1]
 cases zia (List.replicate n z) (ps.map fun p=>(p.1,p.2.ev fr)) with
 | none=>rfl
 | some xs=>simp only [Option.map_some,zcd,zvK]
@[simp] theorem j_bsf {z n ps}:zak cr (⟨d,none,.bsf z n ps⟩::r) fr h=ob (zia (List.replicate n z) (ps.map fun p=>(p.1,p.2.ev fr))) fun xs=>ob (zii z xs) fun v=>zak cr r (zdI fr d v) h:=by
 have e:zak cr (⟨d,none,.bsf z n ps⟩::r) fr h=(match step cr fr h (.bsf z n ps) with
   | some (.val v h')=>zak cr r (zdI fr d v) h'
   | some (.pan v h')=>some (.pan v,fr,h')
   | none=>none):=_root_.id rfl
 rw [e]
 simp only [step]
 cases zia (List.replicate n z) (ps.map fun p=>(p.1,p.2.ev fr)) with
 | none=>rfl
 | some xs=>
  simp only [zcd]
  cases zii z xs<;>rfl
@[simp] theorem j_ld {ag sz x}:zak cr (⟨d,none,.ld ag sz x⟩::r) fr h=ob (ldV h ag sz (x.ev fr)) fun p=>zak cr r (zdI fr d p.1) (wr h p.2):=zfn rfl
@[simp] theorem j_st {sz x y}:zak cr (⟨d,none,.st sz x y⟩::r) fr h=ob (stV h sz (x.ev fr) (y.ev fr)) fun p=>zak cr r (zdI fr d p.1) (wr h p.2):=zfn rfl
@[simp] theorem j_nck {x}:zak cr (⟨d,none,.nck x⟩::r) fr h=ob (zFg h (x.ev fr)) fun p=>zak cr r (zdI fr d p.1) (wr h p.2):=zfn rfl
@[simp] theorem j_fad {off x}:zak cr (⟨d,none,.fad off x⟩::r) fr h=ob (fadV h off (x.ev fr)) fun p=>zak cr r (zdI fr d p.1) (wr h p.2):=zfn rfl
@[simp] theorem j_fld {ag off sz x}:zak cr (⟨d,none,.fld ag off sz x⟩::r) fr h=ob (fldV ag off sz (x.ev fr)) fun p=>zak cr r (zdI fr d p.1) (wr h p.2):=zfn rfl
@[simp] theorem j_iad {sz x i}:zak cr (⟨d,none,.iad sz x i⟩::r) fr h=ob (zDC h sz (x.ev fr) (i.ev fr)) fun p=>zak cr r (zdI fr d p.1) (wr h p.2):=zfn rfl
@[simp] theorem j_ixs {x i}:zak cr (⟨d,none,.ixs x i⟩::r) fr h=ob (ixsV (x.ev fr) (i.ev fr)) fun p=>zak cr r (zdI fr d p.1) (wr h p.2):=zfn rfl
@[simp] theorem j_sls {x lo hi}:zak cr (⟨d,none,.sls x lo hi⟩::r) fr h=ob (zFc (x.ev fr) (lo.map (O.ev fr)) (hi.map (O.ev fr))) fun p=>zak cr r (zdI fr d p.1) (wr h p.2):=by
 rw [zfn rfl]
 simp only [zFc,op1,oev,zrF]
@[simp] theorem j_sll {sz x lo hi mx}:zak cr (⟨d,none,.sll sz x lo hi mx⟩::r) fr h=ob (zx4 h sz (x.ev fr) (lo.map (O.ev fr)) (hi.map (O.ev fr)) (mx.map (O.ev fr))) fun p=>zak cr r (zdI fr d p.1) (wr h p.2):=by
 rw [zfn rfl]
 simp only [zx4,op1,oev,zrF]
@[simp] theorem j_mks {b z l c}:zak cr (⟨d,none,.mks b z l c⟩::r) fr h=ob (mksV h.length b z (l.ev fr) (c.ev fr)) fun p=>zak cr r (zdI fr d p.1) (wr h p.2):=zfn rfl
@[simp] theorem j_mkf {f x y}:zak cr (⟨d,none,.mkf f x y⟩::r) fr h=zak cr r (zdI fr d (.fn f (x.map (O.ev fr)) (y.map (O.ev fr)))) h:=by
 rw [zfn rfl]
 simp only [op1,zcd,zEC]
@[simp] theorem j_ext {x i}:zak cr (⟨d,none,.ext x i⟩::r) fr h=ob (extV (x.ev fr) i) fun p=>zak cr r (zdI fr d p.1) (wr h p.2):=zfn rfl
@[simp] theorem j_len {x}:zak cr (⟨d,none,.len x⟩::r) fr h=ob (zBA h (x.ev fr)) fun p=>zak cr r (zdI fr d p.1) (wr h p.2):=zfn rfl
@[simp] theorem j_slen {x}:zak cr (⟨d,none,.slen x⟩::r) fr h=ob (zDs (x.ev fr)) fun p=>zak cr r (zdI fr d p.1) (wr h p.2):=zfn rfl
@[simp] theorem j_mki {t x}:zak cr (⟨d,none,.mki t x⟩::r) fr h=ob (mkiV t (x.ev fr)) fun p=>zak cr r (zdI fr d p.1) (wr h p.2):=zfn rfl
end
section
variable {h:List Ob} {k k':IntKind} {n m:Int} {b ag:Bool} {s:List UInt8} {xs:List V} {sz off i j t nid z len tot id:Nat} {x v:V} {f:Fn} {p q:List V}
@[simp] theorem v_same:zEw (.str s)=some (.str s,none):=_root_.id rfl
@[simp] theorem v_neg:unV .neg (.int k n)=some (.int k (k.wrap (0-n)),none):=_root_.id rfl
@[simp] theorem v_not:unV .not (.bool b)=some (.bool (!b),none):=_root_.id rfl
@[simp] theorem v_conv:zD4 k (.int k' n)=some (.int k (k.wrap n),none):=_root_.id rfl
@[simp] theorem v_s2b:s2bV nid (.str s)=some (.own nid 0 s.length s.length,some (nid,.row 1 (zfY s))):=_root_.id rfl
@[simp] theorem v_box1:zzo nid (.int k n)=some (.ptr nid 0 0 1,some (nid,.row 1 [.int k n])):=_root_.id rfl
@[simp] theorem v_box2:zzo nid (.bool b)=some (.ptr nid 0 0 1,some (nid,.row 1 [.bool b])):=_root_.id rfl
@[simp] theorem v_box3:zzo nid (.str s)=some (.ptr nid 0 0 1,some (nid,.row 1 [.str s])):=_root_.id rfl
@[simp] theorem v_box4:zzo nid (.agg (x::xs))=some (.ptr nid 0 0 1,some (nid,.row (xs.length+1) [.agg (x::xs)])):=_root_.id rfl
@[simp] theorem v_box5:zzo nid (.sl sz xs)=some (.ptr nid 0 0 1,some (nid,.row 1 [.sl sz xs])):=_root_.id rfl
@[simp] theorem v_box6:zzo nid (.nsl sz)=some (.ptr nid 0 0 1,some (nid,.row 1 [.nsl sz])):=_root_.id rfl
@[simp] theorem v_box7:zzo nid (.own i j z t)=some (.ptr nid 0 0 1,some (nid,.row 1 [.own i j z t])):=_root_.id rfl
@[simp] theorem v_box8:zzo nid (.ptr i j z t)=some (.ptr nid 0 0 1,some (nid,.row 1 [.ptr i j z t])):=_root_.id rfl
@[simp] theorem v_box9:zzo nid (.fn f p q)=some (.ptr nid 0 0 1,some (nid,.row 1 [.fn f p q])):=_root_.id rfl
@[simp] theorem v_box10:zzo nid (.pin x i)=some (.ptr nid 0 0 1,some (nid,.row 1 [.pin x i])):=_root_.id rfl
@[simp] theorem v_ldp:ldV h ag sz (.pin v i)=ob (part ag v.cells i sz) fun v=>some (v,none):=by
 show (part ag v.cells i sz).map _=_
 cases part ag v.cells i sz<;>rfl
@[simp] theorem v_ld:ldV h ag sz (.ptr id i j tot)=ob (zaF h id tot) fun p=>ob p.2[i]? fun v=>ob (part ag v.cells j sz) fun v=>some (v,none):=by
 unfold ldV
 simp only [op1,zrF]
 cases zaF h id tot with
 | none=>rfl
 | some p=>
  simp only [zcd]
  cases p.2[i]? with
  | none=>rfl
  | some v=>
   simp only [zcd]
   cases part ag v.cells j sz<;>rfl
@[simp] theorem v_st (h1:v.isTup=false) (h2:v.isUnd=false):stV h sz (.ptr id i j tot) v=ob (zaF h id tot) fun p=>ob p.2[i]? fun e=>if v.cells.length=sz then (ob (over e j v.cells) fun e'=>some (.und,some (id,.row p.1 (p.2.set i e')))) else none:=by
 have key:stV h sz (.ptr id i j tot) v=(match zaF h id tot with
   | some (z,xs)=>match xs[i]? with
    | some e=>if v.cells.length=sz then (match over e j v.cells with
     | some e'=>some (.und,some (id,.row z (xs.set i e')))
     | none=>none) else none
    | none=>none
   | none=>none):=by
  unfold stV
  simp only [op1,zrF]
  cases v<;>first|rfl|exact Bool.noConfusion (show true=false from h1)|exact Bool.noConfusion (show true=false from h2)
 rw [key]
 cases zaF h id tot with
 | none=>rfl
 | some p=>
  simp only [zcd]
  cases p.2[i]? with
  | none=>rfl
  | some e=>
   simp only [zcd]
   split
   ·cases over e j v.cells<;>rfl
   ·rfl
@[simp] theorem v_nckp:zFg h (.pin v i)=some (.pin v i,none):=_root_.id rfl
@[simp] theorem v_nck:zFg h (.ptr id i j tot)=ob (zaF h id tot) fun _=>some (.ptr id i j tot,none):=by
 unfold zFg
 simp only [op1,zrF]
 cases zaF h id tot<;>rfl
@[simp] theorem v_nckf:zFg h (.fn (.func i) p q)=some (.fn (.func i) p q,none):=_root_.id rfl
@[simp] theorem v_fadp:fadV h off (.pin v i)=some (.pin v (i+off),none):=_root_.id rfl
@[simp] theorem v_fad:fadV h off (.ptr id i j tot)=ob (zaF h id tot) fun _=>some (.ptr id i (j+off) tot,none):=by
 unfold fadV
 simp only [op1,zrF]
 cases zaF h id tot<;>rfl
@[simp] theorem v_fld:fldV ag off sz (.agg xs)=ob (part ag xs off sz) fun v=>some (v,none):=by
 show (part ag xs off sz).map _=_
 cases part ag xs off sz<;>rfl
@[simp] theorem v_iad:zDC h sz (.sl z xs) (.int k n)=if z=sz then (ob (at? xs n) fun v=>some (.pin v 0,none)) else none:=by
 unfold zDC
 simp only [op1,zrF]
 cases at? xs n<;>rfl
@[simp] theorem v_iado:zDC h sz (.own id off len tot) (.int k n)=if 0≤n∧n<len then (ob (zaF h id tot) fun p=>if p.1=sz then some (.ptr id (off+n.toNat) 0 tot,none) else none) else none:=by
 unfold zDC
 simp only [op1,zrF]
 cases zaF h id tot<;>rfl
@[simp] theorem v_ixs:ixsV (.str s) (.int k n)=if 0≤n then (ob s[n.toNat]? fun b=>some (.int .u8 b.toNat,none)) else none:=by
 unfold ixsV
 simp only [op1,zrF]
 cases s[n.toNat]? <;> rfl
@[simp] theorem zsj:oint none=some none:=_root_.id rfl
@[simp] theorem oint_some:oint (some (.int k n))=some (some n):=_root_.id rfl
@[simp] theorem v_sls {lo hi:Option V}:zFc (.str s) lo hi=ob (oint lo) fun l=>ob (oint hi) fun r=>ob (bounds s.length l r) fun b=>some (.str ((s.take b.2).drop b.1),none):=by
 unfold zFc
 have e1:(lo.map O.c).map (O.ev [])=lo:=by cases lo<;>rfl
 have e2:(hi.map O.c).map (O.ev [])=hi:=by cases hi<;>rfl
 simp only [op1,zrF,e1,e2]
 cases oint lo with
 | none=>rfl
 | some l=>
  cases oint hi with
  | none=>rfl
  | some r=>
   simp only [zcd]
   cases bounds s.length l r<;>rfl
@[simp] theorem v_sll1 {lo hi:Option V}:zx4 h sz (.sl z xs) lo hi none=ob (oint lo) fun l=>ob (oint hi) fun r=>if z=sz then (ob (bounds xs.length l r) fun b=>some (.sl z ((xs.take b.2).drop b.1),none)) else none:=by
 have e1:(lo.map O.c).map (O.ev [])=lo:=by cases lo<;>rfl
 have e2:(hi.map O.c).map (O.ev [])=hi:=by cases hi<;>rfl
 simp only [zx4,op1,zrF,e1,e2,Option.map_none,zsj]
 cases oint lo with
 | none=>rfl
 | some l=>
  cases oint hi with
  | none=>rfl
  | some r=>
   simp only [zcd]
   cases bounds xs.length l r<;>rfl
@[simp] theorem v_sll2 {lo hi:Option V}:zx4 h sz (.nsl z) lo hi none=ob (oint lo) fun l=>ob (oint hi) fun r=>ob (bounds 0 l r) fun _=>some (.nsl z,none):=by
 have e1:(lo.map O.c).map (O.ev [])=lo:=by cases lo<;>rfl
 have e2:(hi.map O.c).map (O.ev [])=hi:=by cases hi<;>rfl
 simp only [zx4,op1,zrF,e1,e2,Option.map_none,zsj]
 cases oint lo with
 | none=>rfl
 | some l=>
  cases oint hi with
  | none=>rfl
  | some r=>
   simp only [zcd]
   cases bounds 0 l r<;>rfl
@[simp] theorem v_sll3 {lo hi:Option V}:zx4 h sz (.own id off len tot) lo hi none=ob (oint lo) fun l=>ob (oint hi) fun r=>ob (zaF h id tot) fun p=>if p.1=sz then (ob (bounds len l r) fun b=>some (.own id (off+b.1) (b.2-b.1) tot,none)) else none:=by
 have e1:(lo.map O.c).map (O.ev [])=lo:=by cases lo<;>rfl
 have e2:(hi.map O.c).map (O.ev [])=hi:=by cases hi<;>rfl
 simp only [zx4,op1,zrF,e1,e2,Option.map_none,zsj]
 cases oint lo with
 | none=>rfl
 | some l=>
  cases oint hi with
  | none=>rfl
  | some r=>
   simp only [zcd]
   cases zaF h id tot with
   | none=>rfl
   | some p=>
    simp only [zcd]
    split
    ·cases bounds len l r<;>rfl
    ·rfl
@[simp] theorem v_mks:mksV nid i v (.int k n) (.int k' m)=if 0≤n∧n≤m∧m*i≤70368744177664∧m≤70368744177664 then some (.own nid 0 n.toNat n.toNat,some (nid,.row v.size (List.replicate n.toNat v))) else none:=_root_.id rfl
@[simp] theorem v_ext:extV (.tup xs) i=ob xs[i]? fun v=>some (v,none):=by
 unfold extV
 simp only [op1,zrF]
 cases xs[i]? <;> rfl
@[simp] theorem v_len1:zBA h (.sl z xs)=some (.int .i64 xs.length,none):=_root_.id rfl
@[simp] theorem v_len2:zBA h (.nsl z)=some (.int .i64 0,none):=_root_.id rfl
@[simp] theorem v_len3:zBA h (.own id off len tot)=ob (zaF h id tot) fun _=>some (.int .i64 len,none):=by
 unfold zBA
 simp only [op1,zrF]
 cases zaF h id tot<;>rfl
@[simp] theorem v_slen:zDs (.str s)=some (.int .i64 s.length,none):=_root_.id rfl
@[simp] theorem v_mki (h1:v.isTup=false) (h2:v.isUnd=false):mkiV t v=some (.ifc t v,none):=by
 unfold mkiV
 simp only [op1,zrF]
 cases v<;>first|rfl|exact Bool.noConfusion (show true=false from h1)|exact Bool.noConfusion (show true=false from h2)
@[simp] theorem bounds_lr {l r:Int}:bounds len (some l) (some r)=if 0≤l∧l≤r∧r≤len then some (l.toNat,r.toNat) else none:=_root_.id rfl
@[simp] theorem bounds_l {l:Int}:bounds len (some l) none=if 0≤l∧l≤len then some (l.toNat,len) else none:=by simp [bounds]
@[simp] theorem bounds_r {r:Int}:bounds len none (some r)=if 0≤r∧r≤len then some (0,r.toNat) else none:=by simp [bounds]
@[simp] theorem bounds_no:bounds len none none=some (0,len):=by simp [bounds]
@[simp] theorem zDw {fr:Fr}:wanted fr none=some true:=_root_.id rfl
def zB0 (v:V) (b:Bool):Option Bool:=
 match v with
 | .bool c=>some (c==b)
 | .tup _=>some false
 | _=>none
@[simp] theorem wantB_tup {xs:List V}:zB0 (.tup xs) b=some false:=_root_.id rfl
@[simp] theorem zFe {c:Bool}:zB0 (.bool c) b=some (c==b):=_root_.id rfl
@[simp] theorem zEG {fr:Fr}:wanted fr (some (t,b))=zB0 (get fr t) b:=by
 unfold zB0
 rfl
@[simp] theorem pickV_b {c:Bool} {v w:V}:zzN (.bool c) v w=some (if c=true then v else w):=by cases c<;>rfl
@[simp] theorem nil_0:znc h 0 .nilp=some true:=_root_.id rfl
@[simp] theorem nil_1:znc h 0 (.pin v i)=some false:=_root_.id rfl
@[simp] theorem nil_2:znc h 0 (.ptr id i j tot)=ob (zaF h id tot) fun _=>some false:=by
 unfold znc
 simp only
 cases zaF h id tot<;>rfl
@[simp] theorem nil_3:znc h 1 .nili=some true:=_root_.id rfl
@[simp] theorem nil_4:znc h 1 (.ifc i v)=some false:=_root_.id rfl
@[simp] theorem nil_5:znc h 2 .nilf=some true:=_root_.id rfl
@[simp] theorem nil_6:znc h 2 (.fn f p q)=some false:=_root_.id rfl
@[simp] theorem res1_some {fr:Fr}:res1 fr h (t,some (ag,sz))=ob (ldV h ag sz (get fr t)) fun p=>some p.1:=by
 show (match op1 0 fr h (.ld ag sz (.t t)) with|some (v,_)=>some v|none=>none)=_
 have e:op1 0 fr h (.ld ag sz (.t t))=ldV h ag sz (get fr t):=rfl
 rw [e]
 cases ldV h ag sz (get fr t)<;>rfl
end
@[congr] theorem ev_congr {C:Cx} {n:Nat} {Y:Yl} {ir:IR} {fr fr':Fr} {h h':List Ob} (e1:fr=fr') (e2:h=h'):ev C n Y ir fr h=ev C n Y ir fr' h':=by rw [e1,e2]
@[congr] theorem zEW {cr:zaw} {l:List In} {fr fr':Fr} {h h':List Ob} (e1:fr=fr') (e2:h=h'):zak cr l fr h=zak cr l fr' h':=by rw [e1,e2]
open Classical in
noncomputable def lim {α:Type} (f:Nat→Option α):Option α:=if h:∃ n,(f n).isSome=true then f h.choose else none
def Mono {α:Type} (f:Nat→Option α):Prop:=∀ n m r,n≤m→f n=some r→f m=some r
theorem zwG {α:Type} {f:Nat→Option α} (hm:Mono f) {r:α}:lim f=some r↔∃ n,f n=some r:=by
 unfold lim
 constructor
 ·intro h
  split at h
  ·exact ⟨_,h⟩
  ·cases h
 ·rintro ⟨n,hn⟩
  have hx:∃ n,(f n).isSome=true:=⟨n,by rw [hn];rfl⟩
  rw [dif_pos hx]
  obtain ⟨r',hr'⟩:=Option.isSome_iff_exists.1 hx.choose_spec
  have h1:=hm _ (max n hx.choose) _ (Nat.le_max_right _ _) hr'
  have h2:=hm _ (max n hx.choose) _ (Nat.le_max_left _ _) hn
  rw [hr']
  rw [h1] at h2
  exact h2
def YLe (Y Y':Yl):Prop:=∀ a h r,Y a h=some r→Y' a h=some r
def zE3 (c c':Nat→List V→List Ob→Option (Out×List Ob)):Prop:=∀ f a h r,c f a h=some r→c' f a h=some r
structure CLe (p p':zaw):Prop where
 c:zE3 p.c p'.c
 y:YLe p.y p'.y
 it:∀ Y Y',YLe Y Y'→zE3 (p.it Y) (p'.it Y')
def ELe (e e':IR→Fr→List Ob→Option Rs):Prop:=∀ i a h r,e i a h=some r→e' i a h=some r
theorem zka {x:Option (Out×List Ob)} {r:St1} (h:zBn x=some r):∃ y,x=some y:=by
 cases x with
 | none=>cases h
 | some y=>exact ⟨y,rfl⟩
theorem zkT {c c':zaw} (hc:CLe c c') {fr:Fr} {h:List Ob} {i:I} {r:St1} (e:step c fr h i=some r):step c' fr h i=some r:=by
 cases i with
 | call f xs=>
  simp only [step] at e ⊢
  obtain ⟨y,hy⟩:=zka e
  rw [hc.c _ _ _ _ hy,←hy];exact e
 | cx f xs=>
  simp only [step] at e ⊢
  cases hz:zj4 h (xs.map (O.ev fr)) with
  | none=>rw [hz] at e;cases e
  | some as=>
   rw [hz] at e
   simp only at e ⊢
   obtain ⟨y,hy⟩:=zka e
   rw [hc.c _ _ _ _ hy,←hy];exact e
 | callv g xs=>
  simp only [step] at e ⊢
  generalize g.ev fr=g' at e ⊢
  cases g' with
  | fn f a b=>
   cases f with
   | func f=>
    obtain ⟨y,hy⟩:=zka e
    simp only at e ⊢
    rw [hc.c _ _ _ _ hy,←hy];exact e
   | _=>exact e
  | mp y=>
   obtain ⟨y,hy⟩:=zka e
   simp only at e ⊢
   rw [hc.y _ _ _ hy,←hy];exact e
  | _=>exact e
 | _=>exact e
theorem zhk {c c':zaw} (hc:CLe c c'):∀ {l:List In} {fr:Fr} {h:List Ob} {r:Rs},zak c l fr h=some r→zak c' l fr h=some r
 | [],_,_,_,e=>e
 | x::l,fr,h,r,e=>by
  simp only [zak] at e ⊢
  split at e<;>try contradiction
  ·rename_i hw
   split at e<;>try contradiction
   ·rename_i v h1 hs
    simp only [hw,zkT hc hs]
    exact zhk hc e
   ·rename_i v h1 hs
    simp only [hw,zkT hc hs]
    exact e
  ·rename_i hw
   first|exact zhk hc e|(simp only [hw];exact zhk hc e)
theorem cp_le {c c':zaw} (hc:CLe c c') {f:Nat} {a:List V} {v:V} (e:cp c f a=some v):cp c' f a=some v:=by
 unfold cp at e ⊢
 split at e<;>try contradiction
 rename_i hd
 rw [if_pos hd]
 split at e<;>try contradiction
 rename_i v' h' he
 rw [hc.c _ _ _ _ he]
 exact e
theorem zuB {c c':zaw} (hc:CLe c c') {h:List Ob} {f:Nat} {a:List V} {v:V} (e:callq c h f a=some v):callq c' h f a=some v:=by
 unfold callq at e ⊢
 split at e
 ·rename_i hd
  rw [if_pos hd]
  exact cp_le hc e
 ·rename_i hd
  rw [if_neg hd]
  split at e<;>try contradiction
  rename_i a' ha
  split at e<;>try contradiction
  rename_i v' hv
  rw [cp_le hc hv]
  exact e
theorem zqQ {α β:Type} {x:Option α} {f:α→β} {y:β} (h:x.map f=some y):∃ a,x=some a∧f a=y:=by
 cases x with
 | none=>cases h
 | some a=>exact ⟨a,rfl,by injection h⟩
theorem zx1 {c c':zaw} (hc:CLe c c') {n:Nat} {fr:Fr} {h:List Ob} {i:I} {r:V×Option (Nat×Ob)} (e:zai c n fr h i=some r):zai c' n fr h i=some r:=by
 cases i with
 | call f xs=>
  simp only [zai] at e ⊢
  obtain ⟨v,hv,rfl⟩:=zqQ e
  rw [zuB hc hv];rfl
 | callv g xs=>
  simp only [zai] at e ⊢
  generalize g.ev fr=g' at e ⊢
  cases g' with
  | fn f a b=>
   cases f with
   | func f=>
    simp only at e ⊢
    obtain ⟨v,hv,rfl⟩:=zqQ e
    rw [zuB hc hv];rfl
   | _=>exact e
  | _=>exact e
 | _=>exact e
theorem zsF {c c':zaw} (hc:CLe c c'):∀ {l:List (In×List Nat)} {d:List Rc} {fr:Fr} {h:List Ob} {r:Rs},zqT c l d fr h=some r→zqT c' l d fr h=some r
 | [],_,_,_,_,e=>e
 | x::l,d,fr,h,r,e=>by
  simp only [zqT] at e ⊢
  split at e<;>try contradiction
  ·rename_i hw
   split at e<;>try contradiction
   rename_i v w hs
   simp only [hw,zx1 hc hs]
   split at e<;>try contradiction
   rename_i hap
   rw [if_pos hap]
   exact zsF hc e
  ·rename_i hw
   first|exact zsF hc e|(simp only [hw];exact zsF hc e)
theorem zxN {c c':zaw} (hc:CLe c c'):CLe (crD c) (crD c'):=by
 refine ⟨fun f a h r q=>?_,fun _ _ _ q=>q,fun _ _ _ _ _ _ _ q=>by cases q⟩
 unfold crD at q ⊢
 obtain ⟨v,hv,rfl⟩:=zqQ q
 simp only
 rw [zuB hc hv]
 rfl
theorem zzI {c c':zaw} (hc:CLe c c'):∀ {l:List (In×List Nat)} {fr:Fr} {h:List Ob} {r:Rs},evQ c l fr h=some r→evQ c' l fr h=some r
 | [],_,_,_,e=>e
 | x::l,fr,h,r,e=>by
  rw [zlR] at e ⊢
  cases hx:zak (crD c) [x.1] fr h with
  | none=>rw [hx] at e;cases e
  | some y=>
   rw [hx] at e
   rw [zhk (zxN hc) hx]
   obtain ⟨t,fr',h'⟩:=y
   cases t with
   | nrm=>exact zzI hc e
   | _=>exact e
theorem zCn {c c':zaw} (hc:CLe c c') {fr:Fr} {h:List Ob} {i:I} {v:V} (e:qv c fr h i=some v):qv c' fr h i=some v:=by
 unfold qv at e ⊢
 cases hs:step (crD c) fr h i with
 | none=>rw [hs] at e;cases e
 | some s=>rw [zkT (zxN hc) hs];rw [hs] at e;exact e
theorem zCV {c c':zaw} (hc:CLe c c') {fr:Fr} {h:List Ob} {i:I} {v:V} (e:qeq c fr h i v=true):qeq c' fr h i v=true:=by
 have:=zxB e
 unfold qeq
 rw [zCn hc this]
 exact V.beq_self v
theorem zxy {c c':zaw} (hc:CLe c c') {a:List Nat} {h:List Ob} {l:Lg} (e:lgW c a h l=true):lgW c' a h l=true:=by
 cases l with
 | w k h1=>exact e
 | q k i fr v=>
  simp only [lgW,Bool.or_eq_true] at e ⊢
  exact e.imp (fun e=>e) (zCV hc)
theorem zx7 {c c':zaw} (hc:CLe c c') {a:List Nat} {fr:Fr} {i:I} {v:V} {l:Lg} (e:lgQ c a fr i v l=true):lgQ c' a fr i v l=true:=by
 cases l with
 | w k h1=>
  simp only [lgQ,Bool.or_eq_true] at e ⊢
  exact e.imp (fun e=>e) fun e=>e.imp (fun e=>e) (zCV hc)
 | q k i fr v=>exact e
theorem zr1 {α:Type} {p q:α→Bool} (h:∀ x,p x=true→q x=true) {l:List α} (e:l.all p=true):l.all q=true:=by
 rw [List.all_eq_true] at e ⊢
 exact fun x hx=>h x (e x hx)
theorem zsb {c c':zaw} (hc:CLe c c'):∀ {l:List (In×List Nat×Bool)} {k:Nat} {lg:List Lg} {fr:Fr} {h:List Ob} {r:Rs},evC c l k lg fr h=some r→evC c' l k lg fr h=some r
 | [],_,_,_,_,_,e=>e
 | x::l,k,lg,fr,h,r,e=>by
  unfold evC at e ⊢
  by_cases hw:x.2.2=true
  ·rw [if_pos hw] at e ⊢
   cases hx:zak c [x.1] fr h with
   | none=>rw [hx] at e;cases e
   | some y=>
    rw [hx] at e
    rw [zhk hc hx]
    obtain ⟨t,fr',h'⟩:=y
    cases t with
    | nrm=>
     simp only at e ⊢
     split at e<;>try contradiction
     rename_i ha
     rw [if_pos (zr1 (fun _=>zxy hc) ha)]
     exact zsb hc e
    | _=>exact e
  ·rw [if_neg hw] at e ⊢
   cases hwt:wanted fr x.1.g with
   | none=>rw [hwt] at e;cases e
   | some b=>
    rw [hwt] at e
    cases b with
    | false=>exact zsb hc e
    | true=>
     simp only at e ⊢
     cases hv:qv c fr h x.1.i with
     | none=>rw [hv] at e;cases e
     | some v=>
      rw [hv] at e
      rw [zCn hc hv]
      simp only at e ⊢
      split at e<;>try contradiction
      rename_i ha
      rw [if_pos (zr1 (fun _=>zx7 hc) ha)]
      exact zsb hc e
theorem zxV {e e':IR→Fr→List Ob→Option Rs} (he:ELe e e') {b:IR} {x:Option Rs} {r:Rs} (q:scE e b x=some r):scE e' b x=some r:=by
 unfold scE at q ⊢
 split at q
 ·rename_i l fr h
  cases hf:zoq b l with
  | none=>simp only [hf] at q ⊢;exact q
  | some r'=>simp only [hf] at q ⊢;exact he _ _ _ _ q
 ·exact q
theorem zDb {ea ea' eb eb':Fr→List Ob→Option Rs} (ha:∀ fr h r,ea fr h=some r→ea' fr h=some r) (hb:∀ fr h r,eb fr h=some r→eb' fr h=some r) {y:Nat} {ps:List Nat} {fr:Fr}:YLe (rnd ea eb y ps fr) (rnd ea' eb' y ps fr):=by
 intro args h r q
 cases args with
 | nil=>exact q
 | cons v vs=>
  cases v with
  | mp y'=>
   simp only [rnd] at q ⊢
   by_cases hc:y'=y∧vs.length=ps.length
   ·rw [if_pos hc] at q ⊢
    cases h0:h[y]? with
    | none=>rw [h0] at q;exact q
    | some o=>
     rw [h0] at q
     cases o with
     | lp s=>
      cases s with
      | rdy=>
       simp only at q ⊢
       cases e1:ea (zrx ps vs fr) h with
       | none=>rw [e1] at q;cases q
       | some z=>
        rw [e1] at q
        rw [ha _ _ _ e1]
        obtain ⟨x,fr1,h1⟩:=z
        cases x with
        | nrm=>
         simp only at q ⊢
         cases h2:h1[y]? with
         | none=>rw [h2] at q;exact q
         | some o=>
          rw [h2] at q
          cases o with
          | lp s=>
           cases s with
           | rdy=>
            simp only at q ⊢
            cases e2:eb fr1 (h1.set y (.lp .bsy)) with
            | none=>rw [e2] at q;cases q
            | some z=>
             rw [e2] at q
             rw [hb _ _ _ e2]
             exact q
           | _=>exact q
          | _=>exact q
        | _=>exact q
      | _=>exact q
     | _=>exact q
   ·rw [if_neg hc] at q
    cases q
  | _=>exact q
theorem evF_le {c c':zaw} (hc:CLe c c') {l:List (In×List Nat×Bool)} {t:Nat} {z:V} {sz:Nat} {y:O} {fr:Fr} {h:List Ob} {r:Rs} (q:evF c l t z sz y fr h=some r):evF c' l t z sz y fr h=some r:=by
 unfold evF at q ⊢
 split at q
 ·rename_i hu
  rw [if_pos hu]
  cases hx:evC c l 0 [] fr h with
  | none=>rw [hx] at q;cases q
  | some y=>rw [zsb hc hx];rw [hx] at q;exact q
 ·cases q
theorem zye {e e':IR→Fr→List Ob→Option Rs} {c c':zaw} (he:ELe e e') (hc:CLe c c'):∀ {ir:IR} {fr:Fr} {h:List Ob} {r:Rs},evS e c ir fr h=some r→evS e' c' ir fr h=some r:=by
 intro ir
 induction ir with
 | skip=>intro fr h r q;exact q
 | rg l k=>
  intro fr h r q
  simp only [evS] at q ⊢
  cases hx:zak c l fr h with
  | none=>rw [hx] at q;cases q
  | some y=>rw [zhk hc hx,←hx];exact q
 | dr l k=>
  intro fr h r q
  simp only [evS] at q ⊢
  cases hx:zqT c l [] fr h with
  | none=>rw [hx] at q;cases q
  | some y=>rw [zsF hc hx,←hx];exact q
 | dc l k=>
  intro fr h r q
  simp only [evS] at q ⊢
  cases hx:evC c l 0 [] fr h with
  | none=>rw [hx] at q;cases q
  | some y=>rw [zsb hc hx,←hx];exact q
 | df l t z sz v ast k=>
  intro fr h r q
  simp only [evS] at q ⊢
  cases hx:evF c l t z sz v fr h with
  | none=>rw [hx] at q;cases q
  | some y=>rw [evF_le hc hx,←hx];exact q
 | dq l k=>
  intro fr h r q
  simp only [evS] at q ⊢
  cases hx:evQ c l fr h with
  | none=>rw [hx] at q;cases q
  | some y=>rw [zzI hc hx,←hx];exact q
 | seq a b ia ib=>
  intro fr h r q
  simp only [evS] at q ⊢
  cases hx:evS e c a fr h with
  | none=>rw [hx] at q;cases q
  | some y=>
   rw [hx] at q
   rw [ia hx]
   obtain ⟨x,fr1,h1⟩:=y
   cases x with
   | nrm=>exact ib q
   | _=>exact q
 | cond t a b ia ib=>
  intro fr h r q
  simp only [evS] at q ⊢
  generalize t.ev fr=t' at q ⊢
  cases t' with
  | bool b=>cases b<;>first|exact ia q|exact ib q
  | _=>exact q
 | blk id b ib=>
  intro fr h r q
  simp only [evS] at q ⊢
  cases hx:evS e c b fr h with
  | none=>rw [hx] at q;cases q
  | some y=>rw [ib hx];rw [hx] at q;exact q
 | loop b ib=>
  intro fr h r q
  simp only [evS] at q ⊢
  cases hx:evS e c b fr h with
  | none=>rw [hx] at q;cases q
  | some y=>
   rw [hx] at q
   rw [ib hx]
   obtain ⟨x,fr1,h1⟩:=y
   cases x with
   | nrm=>exact he _ _ _ _ q
   | _=>exact q
 | sc b ib=>
  intro fr h r q
  simp only [evS] at q ⊢
  exact ib q
 | ext id=>intro fr h r q;exact q
 | ret=>intro fr h r q;exact q
 | lab l=>intro fr h r q;exact q
 | gto l=>intro fr h r q;exact q
 | scg b ib=>
  intro fr h r q
  simp only [evS] at q ⊢
  cases hx:evS e c b fr h with
  | none=>rw [hx] at q;cases q
  | some y=>
   rw [hx] at q
   rw [ib hx]
   exact zxV he q
 | scr b0 b _ ib=>
  intro fr h r q
  simp only [evS] at q ⊢
  cases hx:evS e c b fr h with
  | none=>rw [hx] at q;cases q
  | some y=>
   rw [hx] at q
   rw [ib hx]
   exact zxV he q
 | rf f ps a b ia ib=>
  intro fr h r q
  simp only [evS] at q ⊢
  generalize f.ev fr=f' at q ⊢
  cases f' with
  | fn g first cap=>
   cases g with
   | func g=>
    cases first with
    | nil=>
     simp only at q ⊢
     cases hx:c.it (rnd (evS e c a) (evS e c b) h.length ps fr) g (.mp h.length::cap) (h++[.lp .rdy]) with
     | none=>rw [hx] at q;cases q
     | some y=>
      rw [hc.it _ _ (zDb (fun _ _ _=>ia) (fun _ _ _=>ib)) _ _ _ _ hx]
      rw [hx] at q
      exact q
    | cons _ _=>exact q
   | _=>exact q
  | _=>exact q
theorem zwY {e e':IR→Fr→List Ob→Option Rs} (he:ELe e e') {F:F} {a:List V} {h:List Ob} {r:Out×List Ob} (q:zpt e F a h=some r):zpt e' F a h=some r:=by
 unfold zpt at q ⊢
 cases hx:e F.body (a.zipIdx.map fun p=>(p.2,p.1)) h with
 | none=>rw [hx] at q;cases q
 | some y=>rw [he _ _ _ _ hx];rw [hx] at q;exact q
theorem zuQ {C:Cx} {e e':IR→Fr→List Ob→Option Rs} (he:ELe e e'):zE3 (zm7 C e) (zm7 C e'):=by
 intro f a h r q
 unfold zm7 at q ⊢
 cases hT:C.T f with
 | none=>rw [hT] at q;exact q
 | some F=>
  rw [hT] at q
  simp only at q ⊢
  cases hm:F.hm with
  | true=>
   simp only [hm,if_true] at q ⊢
   exact zwY he q
  | false=>
   simp only [hm,Bool.false_eq_true,if_false] at q ⊢
   cases hz:zj4 h a with
   | none=>rw [hz] at q;cases q
   | some as=>
    rw [hz] at q
    simp only at q ⊢
    cases hx:zpt e F as [] with
    | none=>rw [hx] at q;cases q
    | some y=>rw [zwY he hx];rw [hx] at q;exact q
theorem zq2 {C:Cx} {e e':IR→Fr→List Ob→Option Rs} (he:ELe e e'):zE3 (itW C e) (itW C e'):=by
 intro f a h r q
 unfold itW at q ⊢
 cases hT:C.T f with
 | none=>rw [hT] at q;exact q
 | some F=>
  rw [hT] at q
  exact zwY he q
theorem YLe.refl (Y:Yl):YLe Y Y:=fun _ _ _ q=>q
theorem zrh {C:Cx}:∀ n Y Y',YLe Y Y'→ELe (ev C n Y) (ev C n Y')
 | 0,_,_,_=>fun _ _ _ _ q=>by cases q
 | n+1,Y,Y',hY=>fun i a h r q=>zye (c:=crN C Y n) (c':=crN C Y' n) (zrh n Y Y' hY) ⟨fun _ _ _ _ q=>q,hY,fun Y1 Y2 h12=>zq2 (zrh n Y1 Y2 h12)⟩ q
theorem zB8 {C:Cx}:∀ n Y,ELe (ev C n Y) (ev C (n+1) Y)
 | 0,_=>fun _ _ _ _ q=>by cases q
 | n+1,Y=>fun i a h r q=>zye (c:=crN C Y n) (c':=crN C Y (n+1)) (zB8 n Y) ⟨zuQ (zB8 n y0),YLe.refl _,fun Y1 Y2 h12=>zq2 (e:=ev C n Y1) (e':=ev C (n+1) Y2) fun i a h r q=>zrh _ _ _ h12 _ _ _ _ (zB8 n Y1 _ _ _ _ q)⟩ q
theorem zqs {C:Cx} {Y:Yl} {i:IR} {fr:Fr} {h:List Ob}:Mono (fun n=>ev C n Y i fr h):=by
 intro n m r hnm
 induction hnm with
 | refl=>exact _root_.id
 | step _ ih=>exact fun q=>zB8 _ _ _ _ _ _ (ih q)
theorem ztO {C:Cx} {f:Nat} {a:List V} {h:List Ob}:Mono (fun n=>acall C n f a h):=by
 intro n m r hnm q
 exact zuQ (fun i fr h r q=>zqs n m r hnm q) _ _ _ _ q
theorem zCH {C:Cx} {Y:Yl} {f:Nat} {a:List V} {h:List Ob}:Mono (fun n=>itW C (ev C n Y) f a h):=by
 intro n m r hnm q
 exact zq2 (fun i fr h r q=>zqs n m r hnm q) _ _ _ _ q
noncomputable def evw (C:Cx) (Y:Yl) (i:IR) (fr:Fr) (h:List Ob):Option Rs:=lim fun n=>ev C n Y i fr h
noncomputable def acw (C:Cx) (f:Nat) (a:List V) (h:List Ob):Option (Out×List Ob):=lim fun n=>acall C n f a h
noncomputable def itw (C:Cx) (Y:Yl) (f:Nat) (a:List V) (h:List Ob):Option (Out×List Ob):=lim fun n=>itW C (ev C n Y) f a h
noncomputable def crw (C:Cx) (Y:Yl):zaw:=⟨acw C,Y,itw C⟩
@[simp] theorem crw_c {C:Cx} {Y:Yl} {f:Nat} {a:List V} {h:List Ob}:(crw C Y).c f a h=acw C f a h:=_root_.id rfl
@[simp] theorem crw_y {C:Cx} {Y:Yl} {a:List V} {h:List Ob}:(crw C Y).y a h=Y a h:=_root_.id rfl
@[simp] theorem crw_it {C:Cx} {Y Y':Yl} {f:Nat} {a:List V} {h:List Ob}:(crw C Y).it Y' f a h=itw C Y' f a h:=_root_.id rfl
theorem evw_iff {C:Cx} {Y:Yl} {i:IR} {fr:Fr} {h:List Ob} {r:Rs}:evw C Y i fr h=some r↔∃ n,ev C n Y i fr h=some r:=zwG zqs
theorem acw_iff {C:Cx} {f:Nat} {a:List V} {h:List Ob} {r:Out×List Ob}:acw C f a h=some r↔∃ n,acall C n f a h=some r:=zwG ztO
theorem itw_iff {C:Cx} {Y:Yl} {f:Nat} {a:List V} {h:List Ob} {r:Out×List Ob}:itw C Y f a h=some r↔∃ n,itW C (ev C n Y) f a h=some r:=zwG zCH
theorem two {p q:Nat→Prop} (hp:∀ n m,n≤m→p n→p m) (hq:∀ n m,n≤m→q n→q m) (h:∃ n,p n) (k:∃ n,q n):∃ n,p n∧q n:=
 let ⟨n,hn⟩:=h
 let ⟨m,hm⟩:=k
 ⟨max n m,hp _ _ (Nat.le_max_left _ _) hn,hq _ _ (Nat.le_max_right _ _) hm⟩
structure Ct (p:zaw) (pn:Nat→zaw):Prop where
 c:∀ f a h r,p.c f a h=some r→∃ n,(pn n).c f a h=some r
 y:∀ a h r,p.y a h=some r→∃ n,(pn n).y a h=some r
 it:∀ (Y:Yl) (Yn:Nat→Yl),(∀ n m:Nat,n≤m→YLe (Yn n) (Yn m))→(∀ a h r,Y a h=some r→∃ n:Nat,Yn n a h=some r)→∀ f a h r,p.it Y f a h=some r→∃ n,(pn n).it (Yn n) f a h=some r
 mono:∀ n m,n≤m→CLe (pn n) (pn m)
section
variable {c:zaw} {cn:Nat→zaw}
theorem zwR (hk:Ct c cn) {fr:Fr} {h:List Ob} {i:I} {r:St1} (e:step c fr h i=some r):∃ n,step (cn n) fr h i=some r:=by
 cases i with
 | call f xs=>
  simp only [step] at e ⊢
  obtain ⟨y,hy⟩:=zka e
  obtain ⟨n,hn⟩:=hk.c _ _ _ _ hy
  exact ⟨n,by rw [hn,←hy];exact e⟩
 | cx f xs=>
  simp only [step] at e ⊢
  cases hz:zj4 h (xs.map (O.ev fr)) with
  | none=>rw [hz] at e;cases e
  | some as=>
   rw [hz] at e
   simp only at e ⊢
   obtain ⟨y,hy⟩:=zka e
   obtain ⟨n,hn⟩:=hk.c _ _ _ _ hy
   exact ⟨n,by rw [hn,←hy];exact e⟩
 | callv g xs=>
  simp only [step] at e ⊢
  generalize g.ev fr=g' at e ⊢
  cases g' with
  | fn f a b=>
   cases f with
   | func f=>
    simp only at e ⊢
    obtain ⟨y,hy⟩:=zka e
    obtain ⟨n,hn⟩:=hk.c _ _ _ _ hy
    exact ⟨n,by rw [hn,←hy];exact e⟩
   | _=>exact ⟨0,e⟩
  | mp y=>
   simp only at e ⊢
   obtain ⟨y,hy⟩:=zka e
   obtain ⟨n,hn⟩:=hk.y _ _ _ hy
   exact ⟨n,by rw [hn,←hy];exact e⟩
  | _=>exact ⟨0,e⟩
 | _=>exact ⟨0,e⟩
theorem zp2 (hk:Ct c cn):∀ {l:List In} {fr:Fr} {h:List Ob} {r:Rs},zak c l fr h=some r→∃ n,zak (cn n) l fr h=some r
 | [],_,_,_,e=>⟨0,e⟩
 | x::l,fr,h,r,e=>by
  simp only [zak] at e ⊢
  split at e<;>try contradiction
  ·rename_i hw
   split at e<;>try contradiction
   ·rename_i v h1 hs
    obtain ⟨n,h2,h3⟩:=two (fun n m hnm=>zkT (hk.mono _ _ hnm)) (fun n m hnm=>zhk (hk.mono _ _ hnm)) (zwR hk hs) (zp2 hk e)
    exact ⟨n,by simp only [hw,h2];exact h3⟩
   ·rename_i v h1 hs
    obtain ⟨n,h2⟩:=zwR hk hs
    exact ⟨n,by simp only [hw,h2];exact e⟩
  ·rename_i hw
   obtain ⟨n,h3⟩:=zp2 hk e
   exact ⟨n,by first|exact h3|(simp only [hw];exact h3)⟩
theorem cp_ct (hk:Ct c cn) {f:Nat} {a:List V} {v:V} (e:cp c f a=some v):∃ n,cp (cn n) f a=some v:=by
 unfold cp at e ⊢
 split at e<;>try contradiction
 rename_i hd
 split at e<;>try contradiction
 rename_i v' h' he
 obtain ⟨n,hn⟩:=hk.c _ _ _ _ he
 exact ⟨n,by rw [if_pos hd,hn];exact e⟩
theorem zuo (hk:Ct c cn) {h:List Ob} {f:Nat} {a:List V} {v:V} (e:callq c h f a=some v):∃ n,callq (cn n) h f a=some v:=by
 unfold callq at e ⊢
 split at e
 ·rename_i hd
  simp only [if_pos hd]
  exact cp_ct hk e
 ·rename_i hd
  simp only [if_neg hd]
  split at e<;>try contradiction
  rename_i a' ha
  split at e<;>try contradiction
  rename_i v' hv
  obtain ⟨n,hn⟩:=cp_ct hk hv
  exact ⟨n,by rw [hn];exact e⟩
theorem zCR (hk:Ct c cn):Ct (crD c) (fun n=>crD (cn n)):=by
 refine ⟨fun f a h r q=>?_,fun _ _ _ q=>(by cases q),fun _ _ _ _ _ _ _ _ q=>(by cases q),fun n m hnm=>zxN (hk.mono _ _ hnm)⟩
 unfold crD at q ⊢
 obtain ⟨v,hv,rfl⟩:=zqQ q
 obtain ⟨n,hn⟩:=zuo hk hv
 exact ⟨n,by simp only;rw [hn];rfl⟩
theorem zCY (hk:Ct c cn):∀ {l:List (In×List Nat)} {fr:Fr} {h:List Ob} {r:Rs},evQ c l fr h=some r→∃ n,evQ (cn n) l fr h=some r
 | [],_,_,_,e=>⟨0,e⟩
 | x::l,fr,h,r,e=>by
  rw [zlR] at e
  cases hx:zak (crD c) [x.1] fr h with
  | none=>rw [hx] at e;cases e
  | some y=>
   rw [hx] at e
   have h1:=zp2 (zCR hk) hx
   obtain ⟨t,fr',h'⟩:=y
   cases t with
   | nrm=>
    obtain ⟨n,h2,h3⟩:=two (fun n m hnm=>zhk (zxN (hk.mono _ _ hnm))) (fun n m hnm=>zzI (hk.mono _ _ hnm)) h1 (zCY hk e)
    exact ⟨n,by rw [zlR,h2];exact h3⟩
   | _=>
    obtain ⟨n,h2⟩:=h1
    exact ⟨n,by rw [zlR,h2];exact e⟩
theorem qv_ct (hk:Ct c cn) {fr:Fr} {h:List Ob} {i:I} {v:V} (e:qv c fr h i=some v):∃ n,qv (cn n) fr h i=some v:=by
 unfold qv at e
 cases hs:step (crD c) fr h i with
 | none=>rw [hs] at e;cases e
 | some s=>
  obtain ⟨n,hn⟩:=zwR (zCR hk) hs
  rw [hs] at e
  exact ⟨n,by unfold qv;rw [hn];exact e⟩
theorem zCS (hk:Ct c cn) {fr:Fr} {h:List Ob} {i:I} {v:V} (e:qeq c fr h i v=true):∃ n,qeq (cn n) fr h i v=true:=by
 obtain ⟨n,hn⟩:=qv_ct hk (zxB e)
 exact ⟨n,by unfold qeq;rw [hn];exact V.beq_self v⟩
theorem lgW_ct (hk:Ct c cn) {a:List Nat} {h:List Ob} {l:Lg} (e:lgW c a h l=true):∃ n,lgW (cn n) a h l=true:=by
 cases l with
 | w k h1=>exact ⟨0,e⟩
 | q k i fr v=>
  simp only [lgW,Bool.or_eq_true] at e ⊢
  rcases e with e|e
  ·exact ⟨0,.inl e⟩
  ·obtain ⟨n,hn⟩:=zCS hk e
   exact ⟨n,.inr hn⟩
theorem lgQ_ct (hk:Ct c cn) {a:List Nat} {fr:Fr} {i:I} {v:V} {l:Lg} (e:lgQ c a fr i v l=true):∃ n,lgQ (cn n) a fr i v l=true:=by
 cases l with
 | w k h1=>
  simp only [lgQ,Bool.or_eq_true] at e ⊢
  rcases e with e|e|e
  ·exact ⟨0,.inl e⟩
  ·exact ⟨0,.inr (.inl e)⟩
  ·obtain ⟨n,hn⟩:=zCS hk e
   exact ⟨n,.inr (.inr hn)⟩
 | q k i fr v=>exact ⟨0,e⟩
theorem zzV {α:Type} {p:α→Bool} {q:Nat→α→Bool} (hm:∀ n m x,n≤m→q n x=true→q m x=true) (h:∀ x,p x=true→∃ n,q n x=true):∀ {l:List α},l.all p=true→∃ n,l.all (q n)=true
 | [],_=>⟨0,rfl⟩
 | x::l,e=>by
  simp only [List.all_cons,Bool.and_eq_true] at e
  obtain ⟨n,h1,h2⟩:=two (p:=fun n=>q n x=true) (q:=fun n=>l.all (q n)=true) (fun n m hnm e=>hm n m x hnm e) (fun n m hnm e=>zr1 (fun y=>hm n m y hnm) e) (h x e.1) (zzV hm h e.2)
  exact ⟨n,by simp only [List.all_cons,h1,h2,Bool.and_self]⟩
theorem zvC (hk:Ct c cn):∀ {l:List (In×List Nat×Bool)} {k:Nat} {lg:List Lg} {fr:Fr} {h:List Ob} {r:Rs},evC c l k lg fr h=some r→∃ n,evC (cn n) l k lg fr h=some r
 | [],_,_,_,_,_,e=>⟨0,e⟩
 | x::l,k,lg,fr,h,r,e=>by
  unfold evC at e
  by_cases hw:x.2.2=true
  ·rw [if_pos hw] at e
   cases hx:zak c [x.1] fr h with
   | none=>rw [hx] at e;cases e
   | some y=>
    rw [hx] at e
    obtain ⟨t,fr',h'⟩:=y
    have h1:=zp2 hk hx
    cases t with
    | nrm=>
     simp only at e
     split at e<;>try contradiction
     rename_i ha
     obtain ⟨n,⟨h2,h3⟩,h4⟩:=two (p:=fun n=>zak (cn n) [x.1] fr h=some (.nrm,fr',h')∧lg.all (lgW (cn n) x.2.1 h')=true) (fun n m hnm e=>⟨zhk (hk.mono _ _ hnm) e.1,zr1 (fun _=>zxy (hk.mono _ _ hnm)) e.2⟩) (fun n m hnm=>zsb (hk.mono _ _ hnm))
      (two (fun n m hnm=>zhk (hk.mono _ _ hnm)) (fun n m hnm e=>zr1 (fun _=>zxy (hk.mono _ _ hnm)) e) h1 (zzV (q:=fun n=>lgW (cn n) x.2.1 h') (fun n m y hnm=>zxy (hk.mono _ _ hnm)) (fun y=>lgW_ct hk) ha)) (zvC hk e)
     exact ⟨n,by unfold evC;rw [if_pos hw,h2];simp only;rw [if_pos h3];exact h4⟩
    | _=>
     obtain ⟨n,h2⟩:=h1
     exact ⟨n,by unfold evC;rw [if_pos hw,h2];exact e⟩
  ·rw [if_neg hw] at e
   cases hwt:wanted fr x.1.g with
   | none=>rw [hwt] at e;cases e
   | some b=>
    rw [hwt] at e
    cases b with
    | false=>
     obtain ⟨n,hn⟩:=zvC hk e
     exact ⟨n,by unfold evC;rw [if_neg hw,hwt];exact hn⟩
    | true=>
     simp only at e
     cases hv:qv c fr h x.1.i with
     | none=>rw [hv] at e;cases e
     | some v=>
      rw [hv] at e
      simp only at e
      split at e<;>try contradiction
      rename_i ha
      obtain ⟨n,⟨h2,h3⟩,h4⟩:=two (p:=fun n=>qv (cn n) fr h x.1.i=some v∧lg.all (lgQ (cn n) x.2.1 fr x.1.i v)=true) (fun n m hnm e=>⟨zCn (hk.mono _ _ hnm) e.1,zr1 (fun _=>zx7 (hk.mono _ _ hnm)) e.2⟩) (fun n m hnm=>zsb (hk.mono _ _ hnm))
       (two (fun n m hnm=>zCn (hk.mono _ _ hnm)) (fun n m hnm e=>zr1 (fun _=>zx7 (hk.mono _ _ hnm)) e) (qv_ct hk hv) (zzV (q:=fun n=>lgQ (cn n) x.2.1 fr x.1.i v) (fun n m y hnm=>zx7 (hk.mono _ _ hnm)) (fun y=>lgQ_ct hk) ha)) (zvC hk e)
      exact ⟨n,by unfold evC;rw [if_neg hw,hwt];simp only;rw [h2];simp only;rw [if_pos h3];exact h4⟩
theorem zBO (hk:Ct c cn) {n:Nat} {fr:Fr} {h:List Ob} {i:I} {r:V×Option (Nat×Ob)} (e:zai c n fr h i=some r):∃ m,zai (cn m) n fr h i=some r:=by
 cases i with
 | call f xs=>
  simp only [zai] at e ⊢
  obtain ⟨v,hv,rfl⟩:=zqQ e
  obtain ⟨n,hn⟩:=zuo hk hv
  exact ⟨n,by rw [hn];rfl⟩
 | callv g xs=>
  simp only [zai] at e ⊢
  generalize g.ev fr=g' at e ⊢
  cases g' with
  | fn f a b=>
   cases f with
   | func f=>
    simp only at e ⊢
    obtain ⟨v,hv,rfl⟩:=zqQ e
    obtain ⟨n,hn⟩:=zuo hk hv
    exact ⟨n,by rw [hn];rfl⟩
   | _=>exact ⟨0,e⟩
  | _=>exact ⟨0,e⟩
 | _=>exact ⟨0,e⟩
theorem zxi (hk:Ct c cn):∀ {l:List (In×List Nat)} {d:List Rc} {fr:Fr} {h:List Ob} {r:Rs},zqT c l d fr h=some r→∃ n,zqT (cn n) l d fr h=some r
 | [],_,_,_,_,e=>⟨0,e⟩
 | x::l,d,fr,h,r,e=>by
  simp only [zqT] at e ⊢
  split at e<;>try contradiction
  ·rename_i hw
   split at e<;>try contradiction
   rename_i v w hs
   split at e<;>try contradiction
   rename_i hap
   obtain ⟨n,h2,h3⟩:=two (fun n m hnm=>zx1 (hk.mono _ _ hnm)) (fun n m hnm=>zsF (hk.mono _ _ hnm)) (zBO hk hs) (zxi hk e)
   exact ⟨n,by simp only [hw,h2];rw [if_pos hap];exact h3⟩
  ·rename_i hw
   obtain ⟨n,h3⟩:=zxi hk e
   exact ⟨n,by first|exact h3|(simp only [hw];exact h3)⟩
theorem rnd_ct {ea eb:Fr→List Ob→Option Rs} {ean ebn:Nat→Fr→List Ob→Option Rs} (ha:∀ fr h r,ea fr h=some r→∃ n,ean n fr h=some r) (hb:∀ fr h r,eb fr h=some r→∃ n,ebn n fr h=some r)
  (ham:∀ n m,n≤m→∀ fr h r,ean n fr h=some r→ean m fr h=some r) (hbm:∀ n m,n≤m→∀ fr h r,ebn n fr h=some r→ebn m fr h=some r) {y:Nat} {ps:List Nat} {fr:Fr} {args:List V} {h:List Ob} {r:Out×List Ob} (q:rnd ea eb y ps fr args h=some r):∃ n,rnd (ean n) (ebn n) y ps fr args h=some r:=by
 cases args with
 | nil=>exact ⟨0,q⟩
 | cons v vs=>
  cases v with
  | mp y'=>
   simp only [rnd] at q ⊢
   by_cases hc:y'=y∧vs.length=ps.length
   ·simp only [if_pos hc] at q ⊢
    cases h0:h[y]? with
    | none=>rw [h0] at q;cases q
    | some o=>
     rw [h0] at q
     cases o with
     | lp s=>
      cases s with
      | rdy=>
       simp only at q ⊢
       cases e1:ea (zrx ps vs fr) h with
       | none=>rw [e1] at q;cases q
       | some z=>
        rw [e1] at q
        obtain ⟨x,fr1,h1⟩:=z
        cases x with
        | nrm=>
         simp only at q ⊢
         cases h2:h1[y]? with
         | none=>rw [h2] at q;cases q
         | some o=>
          rw [h2] at q
          cases o with
          | lp s=>
           cases s with
           | rdy=>
            simp only at q
            cases e2:eb fr1 (h1.set y (.lp .bsy)) with
            | none=>rw [e2] at q;cases q
            | some z=>
             rw [e2] at q
             obtain ⟨n,k1,k2⟩:=two (fun n m hnm=>ham n m hnm _ _ _) (fun n m hnm=>hbm n m hnm _ _ _) (ha _ _ _ e1) (hb _ _ _ e2)
             exact ⟨n,by rw [k1];simp only;rw [h2];simp only;rw [k2];exact q⟩
           | _=>cases q
          | _=>cases q
        | _=>cases q
      | _=>cases q
     | _=>cases q
   ·rw [if_neg hc] at q
    cases q
  | _=>exact ⟨0,q⟩
variable {rec:IR→Fr→List Ob→Option Rs} {recn:Nat→IR→Fr→List Ob→Option Rs}
theorem zCX (hr:∀ i fr h r,rec i fr h=some r→∃ n,recn n i fr h=some r) {b:IR} {x:Option Rs} {r:Rs} (q:scE rec b x=some r):∃ n,scE (recn n) b x=some r:=by
 unfold scE at q ⊢
 split at q
 ·rename_i l fr h
  cases hf:zoq b l with
  | none=>simp only [hf] at q ⊢;exact ⟨0,q⟩
  | some r'=>simp only [hf] at q ⊢;exact hr _ _ _ _ q
 ·exact ⟨0,q⟩
theorem zDd (hr:∀ i fr h r,rec i fr h=some r→∃ n,recn n i fr h=some r) (hrm:∀ n m:Nat,n≤m→ELe (recn n) (recn m)) (hk:Ct c cn):∀ {ir:IR} {fr:Fr} {h:List Ob} {r:Rs},evS rec c ir fr h=some r→∃ n,evS (recn n) (cn n) ir fr h=some r:=by
 have evN_le:∀ {n m:Nat} (h:n≤m) {ir:IR} {fr:Fr} {hh:List Ob} {r:Rs},evS (recn n) (cn n) ir fr hh=some r→evS (recn m) (cn m) ir fr hh=some r:=fun h=>zye (hrm _ _ h) (hk.mono _ _ h)
 intro ir
 induction ir with
 | skip=>intro fr h r q;exact ⟨0,q⟩
 | rg l k=>
  intro fr h r q
  simp only [evS] at q ⊢
  cases hx:zak c l fr h with
  | none=>rw [hx] at q;cases q
  | some y=>
   obtain ⟨n,hn⟩:=zp2 hk hx
   exact ⟨n,by rw [hn,←hx];exact q⟩
 | dr l k=>
  intro fr h r q
  simp only [evS] at q ⊢
  cases hx:zqT c l [] fr h with
  | none=>rw [hx] at q;cases q
  | some y=>
   obtain ⟨n,hn⟩:=zxi hk hx
   exact ⟨n,by rw [hn,←hx];exact q⟩
 | dc l k=>
  intro fr h r q
  simp only [evS] at q ⊢
  cases hx:evC c l 0 [] fr h with
  | none=>rw [hx] at q;cases q
  | some y=>
   obtain ⟨n,hn⟩:=zvC hk hx
   exact ⟨n,by rw [hn,←hx];exact q⟩
 | df l t z sz v ast k=>
  intro fr h r q
  simp only [evS] at q ⊢
  cases hx:evF c l t z sz v fr h with
  | none=>rw [hx] at q;cases q
  | some y=>
   have hx0:=hx
   unfold evF at hx0
   split at hx0
   ·rename_i hu
    cases hy:evC c l 0 [] fr h with
    | none=>rw [hy] at hx0;cases hx0
    | some y2=>
     obtain ⟨n,hn⟩:=zvC hk hy
     refine ⟨n,?_⟩
     have:evF (cn n) l t z sz v fr h=evF c l t z sz v fr h:=by
      unfold evF
      rw [if_pos hu,if_pos hu,hn,hy]
      rfl
     rw [this];exact q
   ·cases hx0
 | dq l k=>
  intro fr h r q
  simp only [evS] at q ⊢
  cases hx:evQ c l fr h with
  | none=>rw [hx] at q;cases q
  | some y=>
   obtain ⟨n,hn⟩:=zCY hk hx
   exact ⟨n,by rw [hn,←hx];exact q⟩
 | seq a b ia ib=>
  intro fr h r q
  simp only [evS] at q ⊢
  cases hx:evS rec c a fr h with
  | none=>rw [hx] at q;cases q
  | some y=>
   rw [hx] at q
   obtain ⟨x,fr1,h1⟩:=y
   cases x with
   | nrm=>
    obtain ⟨n,h2,h3⟩:=two (fun n m hnm=>evN_le hnm) (fun n m hnm=>evN_le hnm) (ia hx) (ib q)
    exact ⟨n,by rw [h2];exact h3⟩
   | _=>
    obtain ⟨n,h2⟩:=ia hx
    exact ⟨n,by rw [h2];exact q⟩
 | cond t a b ia ib=>
  intro fr h r q
  simp only [evS] at q ⊢
  generalize t.ev fr=t' at q ⊢
  cases t' with
  | bool b=>cases b<;>first|exact ia q|exact ib q
  | _=>exact ⟨0,q⟩
 | blk id b ib=>
  intro fr h r q
  simp only [evS] at q ⊢
  cases hx:evS rec c b fr h with
  | none=>rw [hx] at q;cases q
  | some y=>
   obtain ⟨n,h2⟩:=ib hx
   exact ⟨n,by rw [h2,←hx];exact q⟩
 | loop b ib=>
  intro fr h r q
  simp only [evS] at q ⊢
  cases hx:evS rec c b fr h with
  | none=>rw [hx] at q;cases q
  | some y=>
   rw [hx] at q
   obtain ⟨x,fr1,h1⟩:=y
   cases x with
   | nrm=>
    obtain ⟨n,h2,h3⟩:=two (fun n m hnm=>evN_le hnm) (fun n m hnm=>hrm n m hnm _ _ _ _) (ib hx) (hr _ _ _ _ q)
    exact ⟨n,by rw [h2];exact h3⟩
   | _=>
    obtain ⟨n,h2⟩:=ib hx
    exact ⟨n,by rw [h2];exact q⟩
 | sc b ib=>
  intro fr h r q
  simp only [evS] at q ⊢
  exact ib q
 | ext id=>intro fr h r q;exact ⟨0,q⟩
 | ret=>intro fr h r q;exact ⟨0,q⟩
 | lab l=>intro fr h r q;exact ⟨0,q⟩
 | gto l=>intro fr h r q;exact ⟨0,q⟩
 | scg b ib=>
  intro fr h r q
  simp only [evS] at q ⊢
  cases hx:evS rec c b fr h with
  | none=>rw [hx] at q;cases q
  | some y=>
   rw [hx] at q
   obtain ⟨n,h2,h3⟩:=two (fun n m hnm=>evN_le hnm) (fun n m hnm=>zxV (hrm _ _ hnm)) (ib hx) (zCX hr q)
   exact ⟨n,by rw [h2];exact h3⟩
 | scr b0 b _ ib=>
  intro fr h r q
  simp only [evS] at q ⊢
  cases hx:evS rec c b fr h with
  | none=>rw [hx] at q;cases q
  | some y=>
   rw [hx] at q
   obtain ⟨n,h2,h3⟩:=two (fun n m hnm=>evN_le hnm) (fun n m hnm=>zxV (hrm _ _ hnm)) (ib hx) (zCX hr q)
   exact ⟨n,by rw [h2];exact h3⟩
 | rf f ps a b ia ib=>
  intro fr h r q
  simp only [evS] at q ⊢
  generalize f.ev fr=f' at q ⊢
  cases f' with
  | fn g first cap=>
   cases g with
   | func g=>
    cases first with
    | nil=>
     simp only at q ⊢
     cases hx:c.it (rnd (evS rec c a) (evS rec c b) h.length ps fr) g (.mp h.length::cap) (h++[.lp .rdy]) with
     | none=>rw [hx] at q;cases q
     | some y=>
      obtain ⟨n,hn⟩:=hk.it _ (fun n=>rnd (evS (recn n) (cn n) a) (evS (recn n) (cn n) b) h.length ps fr) (fun n m hnm=>zDb (fun _ _ _=>evN_le hnm) (fun _ _ _=>evN_le hnm)) (fun a1 h1 r1=>rnd_ct (fun _ _ _=>ia) (fun _ _ _=>ib) (fun n m hnm _ _ _=>evN_le hnm) (fun n m hnm _ _ _=>evN_le hnm)) _ _ _ _ hx
      exact ⟨n,by rw [hn,←hx];exact q⟩
    | cons _ _=>exact ⟨0,q⟩
   | _=>exact ⟨0,q⟩
  | _=>exact ⟨0,q⟩
end
section
variable {C:Cx} {Y:Yl}
theorem zxY {e:IR→Fr→List Ob→Option Rs} {en:Nat→IR→Fr→List Ob→Option Rs} (he:∀ i fr h r,e i fr h=some r→∃ n,en n i fr h=some r) {F:F} {a:List V} {h:List Ob} {r:Out×List Ob} (q:zpt e F a h=some r):∃ n,zpt (en n) F a h=some r:=by
 unfold zpt at q ⊢
 cases hx:e F.body (a.zipIdx.map fun p=>(p.2,p.1)) h with
 | none=>rw [hx] at q;cases q
 | some y=>
  obtain ⟨n,hn⟩:=he _ _ _ _ hx
  exact ⟨n,by rw [hn];rw [hx] at q;exact q⟩
theorem zzq {e:IR→Fr→List Ob→Option Rs} {en:Nat→IR→Fr→List Ob→Option Rs} (he:∀ i fr h r,e i fr h=some r→∃ n,en n i fr h=some r) {f:Nat} {a:List V} {h:List Ob} {r:Out×List Ob} (q:itW C e f a h=some r):∃ n,itW C (en n) f a h=some r:=by
 unfold itW at q ⊢
 cases hT:C.T f with
 | none=>rw [hT] at q;cases q
 | some F=>
  rw [hT] at q
  exact zxY he q
theorem zA6:∀ (n:Nat) (Y:Yl) (Yn:Nat→Yl),(∀ n m:Nat,n≤m→YLe (Yn n) (Yn m))→(∀ a h r,Y a h=some r→∃ n,Yn n a h=some r)→∀ i fr h r,ev C n Y i fr h=some r→∃ m,ev C n (Yn m) i fr h=some r
 | 0,_,_,_,_=>fun _ _ _ _ q=>by cases q
 | n+1,Y,Yn,hm,hs=>fun i fr h r q=>by
  refine zDd (rec:=ev C n Y) (recn:=fun m=>ev C n (Yn m)) (c:=⟨zm7 C (ev C n y0),Y,fun Y'=>itW C (ev C n Y')⟩) (cn:=fun m=>⟨zm7 C (ev C n y0),Yn m,fun Y'=>itW C (ev C n Y')⟩)
   (zA6 n Y Yn hm hs) (fun a b hab=>zrh _ _ _ (hm a b hab)) ⟨fun f a h r q=>⟨0,q⟩,hs,fun Y1 Y1n hm1 hs1 f a h r q=>zzq (zA6 n Y1 Y1n hm1 hs1) q,fun a b hab=>⟨fun _ _ _ _ q=>q,hm a b hab,fun Y1 Y2 h12=>zq2 (zrh _ _ _ h12)⟩⟩ q
theorem zBE {n m:Nat} (h:n≤m):zE3 (acall C n) (acall C m):=fun f a hh r q=>ztO n m r h q
theorem ev_lee {n m:Nat} (h:n≤m):ELe (ev C n Y) (ev C m Y):=fun i a hh r q=>zqs n m r h q
theorem crN_le {n m:Nat} (h:n≤m):CLe (crN C Y n) (crN C Y m):=⟨zBE h,YLe.refl _,fun Y1 Y2 h12=>zq2 fun i a hh r q=>zrh _ _ _ h12 _ _ _ _ (zqs n m r h q)⟩
theorem crw_ct:Ct (crw C Y) (crN C Y):=by
 refine ⟨fun _ _ _ _ q=>acw_iff.1 q,fun _ _ _ q=>⟨0,q⟩,fun Y1 Yn hm hs f a h r q=>?_,fun n m h=>crN_le h⟩
 obtain ⟨n,hn⟩:=itw_iff.1 q
 obtain ⟨m,hm'⟩:=zzq (zA6 n Y1 Yn hm hs) hn
 exact ⟨max n m,zq2 (fun i a hh r q=>zrh _ _ _ (hm m _ (Nat.le_max_right _ _)) _ _ _ _ (zqs n _ r (Nat.le_max_left _ _) q)) _ _ _ _ hm'⟩
theorem zxv {α:Type} {x y:Option α} (h:∀ r,x=some r↔y=some r):x=y:=by
 cases x with
 | none=>
  cases y with
  | none=>rfl
  | some b=>exact ((h b).2 rfl)
 | some a=>exact ((h a).1 rfl).symm
theorem zBj (n:Nat):ELe (ev C n Y) (evw C Y):=fun _ _ _ _ q=>evw_iff.2 ⟨n,q⟩
theorem zAT (n:Nat):zE3 (acall C n) (acw C):=fun _ _ _ _ q=>acw_iff.2 ⟨n,q⟩
theorem zED (n:Nat):CLe (crN C Y n) (crw C Y):=⟨zAT n,YLe.refl _,fun Y1 Y2 h12 f a h r q=>itw_iff.2 ⟨n,zq2 (zrh _ _ _ h12) _ _ _ _ q⟩⟩
theorem zbJ {ir:IR} {fr:Fr} {h:List Ob}:evw C Y ir fr h=evS (evw C Y) (crw C Y) ir fr h:=by
 refine zxv fun r=>⟨fun q=>?_,fun q=>?_⟩
 ·obtain ⟨n,hn⟩:=evw_iff.1 q
  cases n with
  | zero=>cases hn
  | succ n=>exact zye (zBj n) (zED n) hn
 ·obtain ⟨n,hn⟩:=zDd (recn:=fun n=>ev C n Y) (cn:=crN C Y) (fun _ _ _ _ q=>evw_iff.1 q) (fun n m h=>ev_lee h) crw_ct q
  exact evw_iff.2 ⟨n+1,hn⟩
theorem zEU {f:Nat} {a:List V} {h:List Ob}:itw C Y f a h=itW C (evw C Y) f a h:=by
 refine zxv fun r=>⟨fun q=>?_,fun q=>?_⟩
 ·obtain ⟨n,hn⟩:=itw_iff.1 q
  exact zq2 (zBj n) _ _ _ _ hn
 ·exact itw_iff.2 (zzq (fun _ _ _ _ q=>evw_iff.1 q) q)
theorem zz0 {F:F} {a:List V} {h:List Ob} {r:Out×List Ob} (q:zpt (evw C Y) F a h=some r):∃ n,zpt (ev C n Y) F a h=some r:=zxY (fun _ _ _ _ q=>evw_iff.1 q) q
theorem zrU {f:Nat} {a:List V} {h:List Ob}:acw C f a h=zm7 C (evw C y0) f a h:=by
 refine zxv fun r=>⟨fun q=>?_,fun q=>?_⟩
 ·obtain ⟨n,hn⟩:=acw_iff.1 q
  exact zuQ (zBj n) _ _ _ _ hn
 ·refine acw_iff.2 ?_
  show ∃ n,zm7 C (ev C n y0) f a h=some r
  unfold zm7 at q ⊢
  cases hT:C.T f with
  | none=>rw [hT] at q;exact ⟨0,q⟩
  | some F=>
   rw [hT] at q
   simp only at q ⊢
   cases hm:F.hm with
   | true=>
    simp only [hm,if_true] at q ⊢
    exact zz0 q
   | false=>
    simp only [hm,Bool.false_eq_true,if_false] at q ⊢
    cases hz:zj4 h a with
    | none=>rw [hz] at q;cases q
    | some as=>
     rw [hz] at q
     simp only at q ⊢
     cases hx:zpt (evw C y0) F as [] with
     | none=>rw [hx] at q;cases q
     | some y=>
      obtain ⟨n,hn⟩:=zz0 hx
      exact ⟨n,by rw [hn];rw [hx] at q;exact q⟩
end
section
variable {C:Cx} {Y:Yl} {fr:Fr} {h:List Ob}
@[simp] theorem w_skip:evw C Y .skip fr h=some (.nrm,fr,h):=by rw [zbJ];rfl
@[simp] theorem w_ret:evw C Y .ret fr h=some (.ret,fr,h):=by rw [zbJ];rfl
@[simp] theorem w_ext {id}:evw C Y (.ext id) fr h=some (.ext id,fr,h):=by rw [zbJ];rfl
@[simp] theorem w_rg {l k}:evw C Y (.rg l k) fr h=ziR k (zak (crw C Y) l fr h):=by rw [zbJ];rfl
@[simp] theorem w_dq {l k}:evw C Y (.dq l k) fr h=ziR k (evQ (crw C Y) l fr h):=by rw [zbJ];rfl
@[simp] theorem w_dc {l k}:evw C Y (.dc l k) fr h=ziR k (evC (crw C Y) l 0 [] fr h):=by rw [zbJ];rfl
@[simp] theorem w_df {l t z sz v ast k}:evw C Y (.df l t z sz v ast k) fr h=ziR k (evF (crw C Y) l t z sz v fr h):=by rw [zbJ];rfl
theorem w_dr {l k}:evw C Y (.dr l k) fr h=ziR k (zqT (crw C Y) l [] fr h):=by rw [zbJ];rfl
@[simp] theorem zDJ {a b}:evw C Y (.seq a b) fr h=nxt (evw C Y a fr h) fun fr h=>evw C Y b fr h:=by
 rw [zbJ]
 simp only [evS,←zbJ]
 unfold nxt
 rfl
@[simp] theorem w_cond {c a b}:evw C Y (.cond c a b) fr h=way (c.ev fr) (evw C Y a fr h) (evw C Y b fr h):=by
 rw [zbJ]
 simp only [evS,←zbJ]
 unfold way
 rfl
@[simp] theorem w_blk {id b}:evw C Y (.blk id b) fr h=zAG id (evw C Y b fr h):=by
 rw [zbJ]
 simp only [evS,←zbJ]
 unfold zAG
 rfl
@[simp] theorem w_sc {b}:evw C Y (.sc b) fr h=evw C Y b fr h:=by
 rw [zbJ]
 simp only [evS,←zbJ]
noncomputable def scW (C:Cx) (Y:Yl) (c:IR) (r:Option Rs):Option Rs:=scE (evw C Y) c r
@[congr] theorem scW_congr {c:IR} {r r':Option Rs} (h:r=r') {mz:Nat} (_:mod0=mz):scW C Y c r=scW C Y c r':=by rw [h]
@[simp] theorem scW_nrm {c fr h}:scW C Y c (some (.nrm,fr,h))=some (.nrm,fr,h):=rfl
@[simp] theorem scW_ret {c fr h}:scW C Y c (some (.ret,fr,h))=some (.ret,fr,h):=rfl
@[simp] theorem scW_ext {c i fr h}:scW C Y c (some (.ext i,fr,h))=some (.ext i,fr,h):=rfl
@[simp] theorem scW_pan {c v fr h}:scW C Y c (some (.pan v,fr,h))=some (.pan v,fr,h):=rfl
@[simp] theorem scW_none {c}:scW C Y c none=none:=rfl
theorem zEQ {c l fr h r} (e:zoq c l=some r):scW C Y c (some (.gto l,fr,h))=evw C Y (.scr c r) fr h:=by
 show scE _ _ _=_
 simp [scE,e]
@[simp] theorem w_lab {l}:evw C Y (.lab l) fr h=some (.nrm,fr,h):=by rw [zbJ];rfl
@[simp] theorem w_gto {l}:evw C Y (.gto l) fr h=some (.gto l,fr,h):=by rw [zbJ];rfl
@[simp] theorem w_scg {b}:evw C Y (.scg b) fr h=scW C Y b (evw C Y b fr h):=by
 rw [zbJ]
 simp only [evS,←zbJ]
 rfl
theorem w_scr {c b}:evw C Y (.scr c b) fr h=scW C Y c (evw C Y b fr h):=by
 rw [zbJ]
 simp only [evS,←zbJ]
 rfl
theorem zal {b}:evw C Y (.loop b) fr h=nxt (evw C Y b fr h) fun fr h=>evw C Y (.loop b) fr h:=by
 rw [zbJ]
 simp only [evS,←zbJ]
 unfold nxt
 rfl
noncomputable def rfW (C:Cx) (Y:Yl) (g:V) (ps:List Nat) (a b:IR) (fr:Fr) (h:List Ob):Option Rs:=match g with
 | .fn (.func g) [] cap=>match itw C (rnd (evw C Y a) (evw C Y b) h.length ps fr) g (.mp h.length::cap) (h++[.lp .rdy]) with
  | some (.ret _,h')=>match h'[h.length]? with
   | some (.lp .rdy)=>some (.nrm,fr,h'.set h.length .dead)
   | some (.lp (.fin j))=>some (j.x,fr,h'.set h.length .dead)
   | _=>none
  | _=>none
 | _=>none
theorem w_rf {g ps a b}:evw C Y (.rf g ps a b) fr h=rfW C Y (g.ev fr) ps a b fr h:=by
 rw [zbJ]
 simp only [evS]
 have e:∀ ir,evS (evw C Y) (crw C Y) ir=evw C Y ir:=fun ir=>funext fun fr=>funext fun h=>zbJ.symm
 rw [e,e]
 rfl
@[congr] theorem evw_congr {C:Cx} {Y:Yl} {ir:IR} {fr fr':Fr} {h h':List Ob} (e1:fr=fr') (e2:h=h'):evw C Y ir fr h=evw C Y ir fr' h':=by rw [e1,e2]
theorem zaa {F:F} {args:List V} {h:List Ob}:zpt (evw C Y) F args h=fin F.res (evw C Y F.body (args.zipIdx.map fun p=>(p.2,p.1)) h):=by
 unfold zpt
 generalize evw C Y F.body (args.zipIdx.map fun p=>(p.2,p.1)) h=r
 cases r with
 | none=>rfl
 | some p=>
  obtain ⟨x,fr,h'⟩:=p
  cases x with
  | nrm=>simp only [fin];cases zdP (res1 fr h') F.res<;>rfl
  | ret=>simp only [fin];cases zdP (res1 fr h') F.res<;>rfl
  | _=>rfl
theorem zap {f:Nat} {F:F} {args a2:List V} {h h':List Ob} {v v':V} (hF:C.T f=some F) (hm:F.hm=false) (ha:zj4 h args=some a2) (hr:zpt (evw C y0) F a2 []=some (.ret v,h')) (hv:frz h' fdepth v=some v') (hd:(dataL args||v'.flat)=true) :
  acw C f args h=some (.ret v',h):=by
 rw [zrU]
 simp only [zm7,hF,hm,ha,hr,hv,hd,Bool.false_eq_true,if_false,if_true]
theorem zbd {f:Nat} {F:F} {args:List V} {h:List Ob} (hF:C.T f=some F) (hm:F.hm=true):acw C f args h=zpt (evw C y0) F args h:=by
 rw [zrU]
 simp only [zm7,hF,hm,if_true]
theorem zEL {f:Nat} {args a2:List V} {h:List Ob} {v:V} (hF:C.T f=none) (hH:C.H f args h=none) (ha:zj4 h args=some a2) (hS:C.S f a2=some v) (hd:(dataL args||v.flat)=true):acw C f args h=some (.ret v,h):=by
 rw [zrU]
 simp only [zm7,hF,hH,ha,hS,hd,if_true]
end
theorem zET {C:Cx} {f:Nat} {h:List Ob} {r:Out×List Ob} {a:List V} (e:acw C f a h=some r):∃ n,acall C n f a h=some r:=acw_iff.1 e
@[simp] theorem e_df {cr:zaw} {l:List (In×List Nat×Bool)} {t:Nat} {z:V} {sz:Nat} {y:O} {fr:Fr} {h:List Ob}:evF cr l t z sz y fr h=if (get fr t).isUnd=true then nxt (evC cr l 0 [] fr h) (fun fr h=>zak cr [⟨some t,none,.new z⟩,⟨none,none,.st sz (.t t) y⟩] fr h) else none:=by
 unfold evF
 split
 ·cases evC cr l 0 [] fr h with
  | none=>rfl
  | some r=>
   obtain ⟨x,f,g⟩:=r
   cases x<;>rfl
 ·rfl
inductive Rd (σ:Type) where
 | on (s:σ)
 | off (r:Rs)
def Rd.rs {σ:Type} (fr:σ→Fr) (hp:σ→List Ob):Rd σ→Rs
 | .on s=>(.nrm,fr s,hp s)
 | .off r=>r
@[simp] theorem Rd.rs_on {σ:Type} {fr:σ→Fr} {hp:σ→List Ob} {s:σ}:(Rd.on s).rs fr hp=(.nrm,fr s,hp s):=rfl
@[simp] theorem Rd.rs_off {σ:Type} {fr:σ→Fr} {hp:σ→List Ob} {r:Rs}:(Rd.off r:Rd σ).rs fr hp=r:=rfl
def lfold {α σ:Type} (f:σ→α→Rd σ) (e:σ→Rs):List α→σ→Rs
 | [],s=>e s
 | x::r,s=>match f s x with
  | .on s'=>lfold f e r s'
  | .off q=>q
theorem zAt {r:Rs} (h:r.1≠.nrm) {k}:nxt (some r) k=some r:=by
 obtain ⟨x,fr,hh⟩:=r
 cases x<;>first|rfl|exact absurd rfl h
theorem zzJ {C:Cx} {Y:Yl} {b:IR} {α σ:Type} (xs:List α) (fr:Nat→σ→Fr) (hp:σ→List Ob) (f:σ→α→Rd σ) (e:σ→Rs) (I:Nat→σ→Prop)
  (he:∀ s,I xs.length s→evw C Y b (fr xs.length s) (hp s)=some (e s)∧(e s).1≠.nrm)
  (h1:∀ i (hi:i<xs.length) s,I i s→evw C Y b (fr i s) (hp s)=some ((f s xs[i]).rs (fr (i+1)) hp)∧match f s xs[i] with
   | .on s'=>I (i+1) s'
   | .off r=>r.1≠.nrm) :
  ∀ s,I 0 s→evw C Y (.loop b) (fr 0 s) (hp s)=some (lfold f e xs s):=by
 have key:∀ d i s,i+d=xs.length→I i s→evw C Y (.loop b) (fr i s) (hp s)=some (lfold f e (xs.drop i) s):=by
  intro d
  induction d with
  | zero=>
   intro i s hi hs
   have:i=xs.length:=by omega
   subst this
   obtain ⟨h2,h3⟩:=he s hs
   rw [zal,h2,zAt h3,List.drop_length]
   rfl
  | succ d ih=>
   intro i s hi hs
   have hlt:i<xs.length:=by omega
   obtain ⟨h2,h3⟩:=h1 i hlt s hs
   rw [zal,h2,List.drop_eq_getElem_cons hlt]
   simp only [lfold]
   cases hf:f s xs[i] with
   | on s'=>
    rw [hf] at h3
    simp only [Rd.rs_on,zBa]
    exact ih (i+1) s' (by omega) h3
   | off r=>
    rw [hf] at h3
    simp only [Rd.rs_off]
    rw [zAt h3]
 intro s hs
 have:=key xs.length 0 s (by omega) hs
 simpa using this
theorem zuC {C:Cx} {Y:Yl} {b:IR} {α:Type} (xs:List α) (fr:Nat→Fr) (h:List Ob) (p:α→Bool) (r e:Rs) (he:evw C Y b (fr xs.length) h=some e) (he1:e.1≠.nrm) (hr:r.1≠.nrm)
  (h1:∀ i (hi:i<xs.length),evw C Y b (fr i) h=some (if p xs[i]=true then (.nrm,fr (i+1),h) else r)) :
  evw C Y (.loop b) (fr 0) h=some (if xs.all p=true then e else r):=by
 have:=zzJ (C:=C) (b:=b) (σ:=Unit) xs (fun i _=>fr i) (fun _=>h) (fun _ x=>if p x=true then .on () else .off r) (fun _=>e) (fun _ _=>True) (fun _ _=>⟨he,he1⟩) (fun i hi _ _=>by
  refine ⟨?_,?_⟩
  ·rw [h1 i hi]
   by_cases hp:p xs[i]=true<;>simp [hp]
  ·by_cases hp:p xs[i]=true<;>simp [hp,hr]) () trivial
 rw [this]
 congr 1
 clear this h1 he
 induction xs with
 | nil=>rfl
 | cons x r ih=>
  simp only [lfold,List.all_cons]
  by_cases hp:p x=true
  ·simp only [hp,if_true,Bool.true_and]
   exact ih
  ·simp only [hp,if_false,Bool.false_and,Bool.false_eq_true]
@[simp] theorem zmZ {xs:List V} {i:Nat}:at? xs (i:Int)=xs[i]?:=by simp [at?]
theorem zac {i:Nat} {n:Nat} (h:i<n) (hn:n≤9223372036854775807):IntKind.i64.wrap ((i:Int)+1)=(i:Int)+1:=wrap64 (by omega) (by omega)
def zpg (z id:Nat) (xs:List V):V:=if xs=[] then .nsl z else .own id 0 xs.length xs.length
def zon (z:Nat) (h:List Ob) (xs:List V):List Ob:=if xs=[] then h else h++[.row z xs]
@[simp] theorem accV_nil {z id:Nat}:zpg z id []=.nsl z:=rfl
@[simp] theorem accH_nil {z:Nat} {h:List Ob}:zon z h []=h:=rfl
@[simp] theorem zDU {z:Nat} {h:List Ob} {xs:List V}:zBA (zon z h xs) (zpg z h.length xs)=some (.int .i64 xs.length,none):=by
 unfold zpg zon
 by_cases e:xs=[]
 ·simp [e]
 ·simp [e,zaF]
@[simp] theorem len_acc0 {z:Nat} {xs:List V}:zBA (zon z [] xs) (zpg z 0 xs)=some (.int .i64 xs.length,none):=zDU
def Fz (v:V):Prop:=∀ h n,frz h (n+4) v=some v
theorem znz {α:Type} {f:α→Option α}:∀ {xs:List α},(∀ x∈xs,f x=some x)→zdP f xs=some xs
 | [],_=>rfl
 | x::r,h=>by simp [h x (by simp),znz (xs:=r) fun y hy=>h y (by simp [hy])]
theorem Fz.int {k:IntKind} {n:Int}:Fz (.int k n):=fun _ _=>rfl
def V.simple:V→Bool
 | .int _ _|.bool _|.str _|.sl _ _|.nilp|.nilf|.nili|.nmp=>true
 | _=>false
theorem zzb {v:V} (h:v.simple=true) {hh:List Ob} {n:Nat}:frz hh (n+1) v=some v:=by
 cases v<;>first|rfl|exact Bool.noConfusion (show true=false from h.symm)
theorem Fz.agg {xs:List V} (h:xs.all V.simple=true):Fz (.agg xs):=by
 intro hh n
 show (zdP (frz hh (n+3)) xs).map V.agg=some (.agg xs)
 rw [znz fun x hx=>zzb (List.all_eq_true.1 h x hx)]
 rfl
theorem zrW {xs:List V} (h:∀ x∈xs,x.data=true):dataL xs=true:=by
 induction xs with
 | nil=>rfl
 | cons x r ih=>simp [dataL,h x (by simp),ih fun y hy=>h y (by simp [hy])]
@[simp] theorem q_nil {cr:zaw} {fr:Fr} {h:List Ob}:evQ cr [] fr h=some (.nrm,fr,h):=_root_.id rfl
@[simp] theorem q_cons {cr:zaw} {x:In} {a:List Nat} {l:List (In×List Nat)} {fr:Fr} {h:List Ob}:evQ cr ((x,a)::l) fr h=nxt (zak (crD cr) [x] fr h) fun fr h=>evQ cr l fr h:=by
 rw [zlR]
 unfold nxt
 rfl
@[congr] theorem evQ_congr {cr:zaw} {l:List (In×List Nat)} {fr fr':Fr} {h h':List Ob} (e1:fr=fr') (e2:h=h'):evQ cr l fr h=evQ cr l fr' h':=by rw [e1,e2]
def dd (b:Bool) (r:Option (Out×List Ob)) (h:List Ob):Option (Out×List Ob):=
 if b then (match r with
  | some (.ret v,h')=>(datF v h').map fun v=>(.ret v,h)
  | _=>none) else none
@[simp] theorem dd_ret {v:V} {h h':List Ob}:dd true (some (.ret v,h')) h=if v.data=true then some (.ret v,h) else ob (frz h' fdepth v) fun v=>if v.data=true then some (.ret v,h) else none:=by
 unfold dd datF ob
 simp only [if_true]
 cases v.data with
 | true=>rfl
 | false=>
  simp only [Bool.false_eq_true,if_false]
  cases frz h' fdepth v with
  | none=>rfl
  | some v'=>simp only;cases v'.data<;>rfl
def dq (b:Bool) (r:Option (Out×List Ob)) (cr:zaw) (f:Nat) (a:List V) (h:List Ob):Option (Out×List Ob):=if b then dd true r h else crD cr f a h
@[simp] theorem dq_true {r:Option (Out×List Ob)} {cr:zaw} {f:Nat} {a:List V} {h:List Ob}:dq true r cr f a h=dd true r h:=rfl
@[congr] theorem dq_congr {b b':Bool} {r r':Option (Out×List Ob)} {cr:zaw} {f:Nat} {a:List V} {h:List Ob} (e1:b=b') (e2:r=r') {mz:Nat} (_:mod0=mz):dq b r cr f a h=dq b' r' cr f a h:=by rw [e1,e2]
@[simp] theorem crD_dd {cr:zaw} {f:Nat} {a:List V} {h:List Ob}:crD cr f a h=dq (dataL a) (cr f a []) cr f a h:=by
 unfold dq crD callq cp dd
 dsimp only
 cases dataL a with
 | false=>simp
 | true=>
  simp only [if_true]
  cases cr f a [] with
  | none=>rfl
  | some p=>
   obtain ⟨o,h'⟩:=p
   cases o<;>rfl
@[congr] theorem dd_congr {b b':Bool} {r r':Option (Out×List Ob)} {h:List Ob} (e1:b=b') (e2:r=r') {mz:Nat} (_:mod0=mz):dd b r h=dd b' r' h:=by rw [e1,e2]
section
variable {k:IntKind} {n:Int} {b:Bool} {s:List UInt8} {xs:List V} {sz i j l m:Nat} {x:V} {f:Fn} {p q:List V}
@[simp] theorem da1:V.data (.int k n)=true:=rfl
@[simp] theorem da2:V.data (.bool b)=true:=rfl
@[simp] theorem da3:V.data (.str s)=true:=rfl
@[simp] theorem da4:V.data (.agg xs)=dataL xs:=rfl
@[simp] theorem da5:V.data (.tup xs)=dataL xs:=rfl
@[simp] theorem da6:V.data (.sl sz xs)=true:=rfl
@[simp] theorem da7:V.data (.nsl sz)=true:=rfl
@[simp] theorem da8:V.data (.pin x i)=true:=rfl
@[simp] theorem da9:V.data .nilp=true:=rfl
@[simp] theorem da10:V.data (.fn f p q)=(dataL p&&dataL q):=rfl
@[simp] theorem da11:V.data .nilf=true:=rfl
@[simp] theorem da12:V.data (.ifc i x)=x.data:=rfl
@[simp] theorem da13:V.data .nili=true:=rfl
@[simp] theorem da14:V.data .nmp=true:=rfl
@[simp] theorem dal0:dataL []=true:=rfl
@[simp] theorem dal1:dataL (x::xs)=(x.data&&dataL xs):=rfl
@[simp] theorem fl1:V.flat (.int k n)=true:=rfl
@[simp] theorem fl2:V.flat (.bool b)=true:=rfl
@[simp] theorem fl3:V.flat (.str s)=true:=rfl
@[simp] theorem fl4:V.flat (.agg xs)=flatL xs:=rfl
@[simp] theorem fl5:V.flat (.tup xs)=flatL xs:=rfl
@[simp] theorem fl6:flatL []=true:=rfl
@[simp] theorem fl7:flatL (x::xs)=(x.flat&&flatL xs):=rfl
end
section
variable {cr:zaw} {d:Option Nat} {r:List In} {fr:Fr} {h:List Ob} {nid n sz i a tot:Nat} {kd:IntKind} {m:Int} {v:V} {cs:List V} {ag:Bool}
@[simp] theorem j_op {j:J} {xs:List O}:zak cr (⟨d,none,.op j xs⟩::r) fr h=ob (opJ h.length h j (xs.map (O.ev fr))) fun p=>zak cr r (zdI fr d p.1) (wr h p.2):=zfn rfl
@[simp] theorem o_iaa_pin:opJ nid h (.iaa n sz) [.pin v i,.int kd m]=if 0≤m∧m<n then some (.pin v (i+m.toNat*sz),none) else none:=_root_.id rfl
@[simp] theorem o_ixa:opJ nid h (.ixa n sz ag) [.agg cs,.int kd m]=if 0≤m∧m<n then (part ag cs (m.toNat*sz) sz).map fun v=>(v,none) else none:=_root_.id rfl
end
def gd {α:Type} (b:Bool) (x:Option α):Option α:=if b=true then x else none
@[congr] theorem gd_congr {α:Type} {b b':Bool} {x:Option α} (e:b=b') {mz:Nat} (_:mod0=mz):gd b x=gd b' x:=by rw [e]
@[simp] theorem gd_true {α:Type} {x:Option α}:gd true x=x:=rfl
@[simp] theorem gd_false {α:Type} {x:Option α}:gd false x=none:=rfl
section
variable {cr:zaw} {fr:Fr} {h:List Ob} {nid:Nat}
@[simp] theorem sd_mov {x}:zai cr nid fr h (.mov x)=some (x.ev fr,none):=_root_.id rfl
@[simp] theorem sd_pick {c x y}:zai cr nid fr h (.pick c x y)=ob (zzN (c.ev fr) (x.ev fr) (y.ev fr)) fun v=>some (v,none):=by
 show op1 nid fr h (.pick c x y)=_
 simp only [op1]
 generalize c.ev fr=z
 cases z<;>rfl
@[simp] theorem sd_bin {op x y}:zai cr nid fr h (.bin op x y)=ob (bin op (x.ev fr) (y.ev fr)) fun v=>some (v,none):=by
 show op1 nid fr h (.bin op x y)=_
 simp only [op1]
 cases bin op (x.ev fr) (y.ev fr)<;>rfl
@[simp] theorem sd_eq {neg q x y}:zai cr nid fr h (.eq neg q x y)=ob (eqv q (x.ev fr) (y.ev fr)) fun b=>some (.bool (if neg then !b else b),none):=by
 show op1 nid fr h (.eq neg q x y)=_
 simp only [op1]
 cases eqv q (x.ev fr) (y.ev fr)<;>rfl
@[simp] theorem sd_nilq {neg kd x}:zai cr nid fr h (.nilq neg kd x)=ob (znc h kd (x.ev fr)) fun b=>some (.bool (if neg then !b else b),none):=by
 show op1 nid fr h (.nilq neg kd x)=_
 simp only [op1]
 cases znc h kd (x.ev fr)<;>rfl
@[simp] theorem sd_same {x}:zai cr nid fr h (.same x)=zEw (x.ev fr):=_root_.id rfl
@[simp] theorem sd_un {op x}:zai cr nid fr h (.un op x)=unV op (x.ev fr):=_root_.id rfl
@[simp] theorem sd_conv {k x}:zai cr nid fr h (.conv k x)=zD4 k (x.ev fr):=_root_.id rfl
@[simp] theorem sd_s2b {x}:zai cr nid fr h (.s2b x)=s2bV nid (x.ev fr):=_root_.id rfl
@[simp] theorem sd_new {z}:zai cr nid fr h (.new z)=some (.ptr nid 0 0 1,some (nid,.row z.size [z])):=_root_.id rfl
@[simp] theorem sd_box {x}:zai cr nid fr h (.box x)=zzo nid (x.ev fr):=_root_.id rfl
@[simp] theorem sd_bld {z ps}:zai cr nid fr h (.bld z ps)=ob (znD z (ps.map fun p=>(p.1,p.2.1,p.2.2.ev fr))) fun cs=>some (.agg cs,none):=by
 show op1 nid fr h (.bld z ps)=_
 simp only [op1]
 cases znD z (ps.map fun p=>(p.1,p.2.1,p.2.2.ev fr))<;>rfl
@[simp] theorem sd_bsl {z n ps}:zai cr nid fr h (.bsl z n ps)=ob (zia (List.replicate n z) (ps.map fun p=>(p.1,p.2.ev fr))) fun xs=>some (.own nid 0 n n,some (nid,.row z.size xs)):=by
 show op1 nid fr h (.bsl z n ps)=_
 simp only [op1]
 cases zia (List.replicate n z) (ps.map fun p=>(p.1,p.2.ev fr))<;>rfl
@[simp] theorem sd_bsf {z n ps}:zai cr nid fr h (.bsf z n ps)=ob (zia (List.replicate n z) (ps.map fun p=>(p.1,p.2.ev fr))) fun xs=>ob (zii z xs) fun v=>some (v,none):=by
 simp only [zai]
 cases zia (List.replicate n z) (ps.map fun p=>(p.1,p.2.ev fr)) with
 | none=>rfl
 | some xs=>simp only [zcd];cases zii z xs<;>rfl
@[simp] theorem sd_ld {ag sz x}:zai cr nid fr h (.ld ag sz x)=ldV h ag sz (x.ev fr):=_root_.id rfl
@[simp] theorem sd_st {sz x y}:zai cr nid fr h (.st sz x y)=stV h sz (x.ev fr) (y.ev fr):=_root_.id rfl
@[simp] theorem sd_nck {x}:zai cr nid fr h (.nck x)=zFg h (x.ev fr):=_root_.id rfl
@[simp] theorem sd_fad {off x}:zai cr nid fr h (.fad off x)=fadV h off (x.ev fr):=_root_.id rfl
@[simp] theorem sd_fld {ag off sz x}:zai cr nid fr h (.fld ag off sz x)=fldV ag off sz (x.ev fr):=_root_.id rfl
@[simp] theorem sd_iad {sz x i}:zai cr nid fr h (.iad sz x i)=zDC h sz (x.ev fr) (i.ev fr):=_root_.id rfl
@[simp] theorem sd_ixs {x i}:zai cr nid fr h (.ixs x i)=ixsV (x.ev fr) (i.ev fr):=_root_.id rfl
@[simp] theorem sd_sls {x lo hi}:zai cr nid fr h (.sls x lo hi)=zFc (x.ev fr) (lo.map (O.ev fr)) (hi.map (O.ev fr)):=by
 show op1 nid fr h (.sls x lo hi)=_
 unfold zFc
 simp only [op1,oev]
 rfl
@[simp] theorem sd_sll {sz x lo hi mx}:zai cr nid fr h (.sll sz x lo hi mx)=zx4 h sz (x.ev fr) (lo.map (O.ev fr)) (hi.map (O.ev fr)) (mx.map (O.ev fr)):=by
 show op1 nid fr h (.sll sz x lo hi mx)=_
 unfold zx4
 simp only [op1,oev]
 rfl
@[simp] theorem sd_mks {b z l c}:zai cr nid fr h (.mks b z l c)=mksV nid b z (l.ev fr) (c.ev fr):=_root_.id rfl
@[simp] theorem sd_mkf {f x y}:zai cr nid fr h (.mkf f x y)=some (.fn f (x.map (O.ev fr)) (y.map (O.ev fr)),none):=_root_.id rfl
@[simp] theorem sd_ext {x i}:zai cr nid fr h (.ext x i)=extV (x.ev fr) i:=_root_.id rfl
@[simp] theorem sd_len {x}:zai cr nid fr h (.len x)=zBA h (x.ev fr):=_root_.id rfl
@[simp] theorem sd_slen {x}:zai cr nid fr h (.slen x)=zDs (x.ev fr):=_root_.id rfl
@[simp] theorem sd_app {sz b x y}:zai cr nid fr h (.app sz b x y)=zit nid h sz b (x.ev fr) (y.ev fr):=_root_.id rfl
@[simp] theorem sd_mki {t x}:zai cr nid fr h (.mki t x)=mkiV t (x.ev fr):=_root_.id rfl
@[simp] theorem sd_op {j xs}:zai cr nid fr h (.op j xs)=opJ nid h j (xs.map (O.ev fr)):=_root_.id rfl
def crO:Option (Out×List Ob)→Option (V×Option (Nat×Ob))
 | some (.ret v,_)=>some (v,none)
 | _=>none
@[simp] theorem crO_ret {v:V} {h:List Ob}:crO (some (.ret v,h))=some (v,none):=rfl
@[simp] theorem sd_call {f xs}:zai cr nid fr h (.call f xs)=crO (crD cr f (xs.map (O.ev fr)) h):=by
 simp only [zai]
 unfold crD
 dsimp only
 cases callq cr h f (xs.map (O.ev fr))<;>rfl
@[simp] theorem dr_nil {done:List Rc}:zqT cr [] done fr h=some (.nrm,fr,h):=_root_.id rfl
@[simp] theorem dr_cons {d g i a r} {done:List Rc}:zqT cr ((⟨d,g,i⟩,a)::r) done fr h=want (wanted fr g) (ob (zai cr h.length fr h i) fun p=>gd (zjg a ⟨rdI fr i,p.2.map (·.1)⟩ 0 done&&leW p.2 h.length) (zqT cr r (done++[⟨rdI fr i,p.2.map (·.1)⟩]) (zdI fr d p.1) (wr h p.2))) (zqT cr r (done++[⟨[],none⟩]) (zdI fr d (.tup [])) h):=by
 simp only [zqT]
 cases wanted fr g with
 | none=>rfl
 | some b=>
  cases b with
  | false=>rfl
  | true=>
   simp only [zv0]
   cases zai cr h.length fr h i with
   | none=>rfl
   | some p=>
    obtain ⟨v,w⟩:=p
    rfl
@[congr] theorem zFd {l:List (In×List Nat)} {done done':List Rc} {fr fr':Fr} {h h':List Ob} (e0:done=done') (e1:fr=fr') (e2:h=h'):zqT cr l done fr h=zqT cr l done' fr' h':=by rw [e0,e1,e2]
@[simp] theorem ap_nil {anc a k}:zjg anc a k []=true:=rfl
@[simp] theorem ap_cons {anc a k b r}:zjg anc a k (b::r)=((anc.contains k||apart a b)&&zjg anc a (k+1) r):=_root_.id rfl
@[simp] theorem apt_nn {a b:List Nat}:apart ⟨a,none⟩ ⟨b,none⟩=true:=rfl
@[simp] theorem apt_sn {a b:List Nat} {x:Nat}:apart ⟨a,some x⟩ ⟨b,none⟩=!b.contains x:=by simp [apart]
@[simp] theorem apt_ns {a b:List Nat} {y:Nat}:apart ⟨a,none⟩ ⟨b,some y⟩=!a.contains y:=by simp [apart]
@[simp] theorem apt_ss {a b:List Nat} {x y:Nat}:apart ⟨a,some x⟩ ⟨b,some y⟩=((!b.contains x&&!(y==x))&&!a.contains y):=by simp [apart]
@[simp] theorem leW_none {n:Nat}:leW none n=true:=rfl
@[simp] theorem leW_some {n i:Nat} {o:Ob}:leW (some (i,o)) n=decide (i≤n):=rfl
attribute [simp] rdI zcW ids1 opt1
@[simp] theorem rdC_mov {x}:rdC fr (.mov x)=[]:=_root_.id rfl
@[simp] theorem rdC_pick {c x y}:rdC fr (.pick c x y)=[]:=_root_.id rfl
@[simp] theorem rdC_bin {op x y}:rdC fr (.bin op x y)=[]:=_root_.id rfl
@[simp] theorem rdC_eq {n q x y}:rdC fr (.eq n q x y)=[]:=_root_.id rfl
@[simp] theorem rdC_nilq {n k x}:rdC fr (.nilq n k x)=[]:=_root_.id rfl
@[simp] theorem rdC_un {op x}:rdC fr (.un op x)=[]:=_root_.id rfl
@[simp] theorem rdC_conv {k x}:rdC fr (.conv k x)=[]:=_root_.id rfl
@[simp] theorem rdC_same {x}:rdC fr (.same x)=[]:=_root_.id rfl
@[simp] theorem rdC_s2b {x}:rdC fr (.s2b x)=[]:=_root_.id rfl
@[simp] theorem rdC_b2s {x}:rdC fr (.b2s x)=[]:=_root_.id rfl
@[simp] theorem rdC_new {z}:rdC fr (.new z)=[]:=_root_.id rfl
@[simp] theorem rdC_box {x}:rdC fr (.box x)=[]:=_root_.id rfl
@[simp] theorem rdC_bld {z ps}:rdC fr (.bld z ps)=[]:=_root_.id rfl
@[simp] theorem rdC_bsl {z n ps}:rdC fr (.bsl z n ps)=[]:=_root_.id rfl
@[simp] theorem rdC_bsf {z n ps}:rdC fr (.bsf z n ps)=[]:=_root_.id rfl
@[simp] theorem rdC_ld {a s x}:rdC fr (.ld a s x)=[]:=_root_.id rfl
@[simp] theorem rdC_st {s x y}:rdC fr (.st s x y)=[]:=_root_.id rfl
@[simp] theorem rdC_nck {x}:rdC fr (.nck x)=[]:=_root_.id rfl
@[simp] theorem rdC_fad {o x}:rdC fr (.fad o x)=[]:=_root_.id rfl
@[simp] theorem rdC_fld {a o s x}:rdC fr (.fld a o s x)=[]:=_root_.id rfl
@[simp] theorem rdC_iad {s x y}:rdC fr (.iad s x y)=[]:=_root_.id rfl
@[simp] theorem rdC_ixs {x y}:rdC fr (.ixs x y)=[]:=_root_.id rfl
@[simp] theorem rdC_sls {x y z}:rdC fr (.sls x y z)=[]:=_root_.id rfl
@[simp] theorem rdC_sll {s x y z t}:rdC fr (.sll s x y z t)=[]:=_root_.id rfl
@[simp] theorem rdC_mks {b z x y}:rdC fr (.mks b z x y)=[]:=_root_.id rfl
@[simp] theorem rdC_mkf {f x y}:rdC fr (.mkf f x y)=[]:=_root_.id rfl
@[simp] theorem rdC_ext {x i}:rdC fr (.ext x i)=[]:=_root_.id rfl
@[simp] theorem rdC_len {x}:rdC fr (.len x)=[]:=_root_.id rfl
@[simp] theorem rdC_slen {x}:rdC fr (.slen x)=[]:=_root_.id rfl
@[simp] theorem rdC_app {s b x y}:rdC fr (.app s b x y)=[]:=_root_.id rfl
@[simp] theorem rdC_mxn {m xs}:rdC fr (.mxn m xs)=[]:=_root_.id rfl
@[simp] theorem rdC_mki {t x}:rdC fr (.mki t x)=[]:=_root_.id rfl
@[simp] theorem rdC_pan {x}:rdC fr (.pan x)=[]:=_root_.id rfl
@[simp] theorem rdC_op {j xs}:rdC fr (.op j xs)=[]:=_root_.id rfl
@[simp] theorem rdC_call {f xs}:rdC fr (.call f xs)=if dataL (xs.map (O.ev fr)) then [] else List.range 4096:=_root_.id rfl
end
section
variable {cr:zaw} {fr:Fr} {h:List Ob}
def qvR:Option Rs→Option V
 | some (.nrm,fr,_)=>some (get fr 0)
 | _=>none
@[simp] theorem qvR_some {fr:Fr} {h:List Ob}:qvR (some (.nrm,fr,h))=some (get fr 0):=rfl
@[simp] theorem qv_ev {i:I}:qv cr fr h i=qvR (zak (crD cr) [⟨some 0,none,i⟩] fr h):=by
 unfold qv
 simp only [zak,wanted]
 cases step (crD cr) fr h i with
 | none=>rfl
 | some s=>cases s<;>rfl
@[congr] theorem qvR_congr {r r':Option Rs} (e:r=r'):qvR r=qvR r':=by rw [e]
def qeR (o:Option V) (v:V):Bool:=match o with
 | some v'=>V.beq v' v
 | none=>false
@[simp] theorem qeR_some {a v:V}:qeR (some a) v=V.beq a v:=rfl
@[simp] theorem qeq_ev {i:I} {v:V}:qeq cr fr h i v=qeR (qv cr fr h i) v:=_root_.id rfl
attribute [simp] V.beq_self beqL_self
@[simp] theorem lgW_w {a h' k}:lgW cr a h' (.w k h)=a.contains k:=rfl
@[simp] theorem lgW_q {a h' k i v}:lgW cr a h' (.q k i fr v)=(a.contains k||qeq cr fr h' i v):=rfl
@[simp] theorem lgP_w {a k}:lgP a (.w k h)=a.contains k:=rfl
@[simp] theorem lgP_q {a k i v}:lgP a (.q k i fr v)=true:=rfl
@[simp] theorem lgQ_w {a k i v h'}:lgQ cr a fr i v (.w k h')=(a.contains k||(!hrd i||qeq cr fr h' i v)):=rfl
@[simp] theorem lgQ_q {a k i v j fr' v'}:lgQ cr a fr i v (.q k j fr' v')=true:=rfl
attribute [simp] hrd
def cw (r:Option Rs) (k:Fr→List Ob→Option Rs) (p:V→List Ob→Option Rs):Option Rs:=match r with
 | some (.nrm,fr,h)=>k fr h
 | some (.pan v,_,h)=>p v h
 | _=>none
@[simp] theorem cw_nrm {fr h k p}:cw (some (.nrm,fr,h)) k p=k fr h:=rfl
@[simp] theorem cw_pan {v fr h k p}:cw (some (.pan v,fr,h)) k p=p v h:=rfl
@[congr] theorem cw_congr {r r':Option Rs} {k p} (e:r=r') {mz:Nat} (_:mod0=mz):cw r k p=cw r' k p:=by rw [e]
@[simp] theorem ec_nil {k lg}:evC cr [] k lg fr h=some (.nrm,fr,h):=_root_.id rfl
@[simp] theorem ec_w {x a r k lg}:evC cr ((x,a,true)::r) k lg fr h=cw (zak cr [x] fr h) (fun fr' h'=>gd (lg.all (lgW cr a h')) (evC cr r (k+1) (.w k h::lg) fr' h')) (fun v h'=>gd (r.all (fun y=>y.2.1.contains k)&&lg.all (lgP a)) (some (.pan v,[],h'))):=by
 simp only [evC,if_true]
 cases zak cr [x] fr h with
 | none=>rfl
 | some y=>
  obtain ⟨t,fr',h'⟩:=y
  cases t<;>rfl
@[simp] theorem ec_q {d g i a r k lg}:evC cr ((⟨d,g,i⟩,a,false)::r) k lg fr h=want (wanted fr g) (ob (qv cr fr h i) fun v=>gd (lg.all (lgQ cr a fr i v)) (evC cr r (k+1) (if hrd i=true then .q k i fr v::lg else lg) (zdI fr d v) h)) (evC cr r (k+1) lg (zdI fr d (.tup [])) h):=by
 simp only [evC,Bool.false_eq_true,if_false]
 cases wanted fr g with
 | none=>rfl
 | some b=>
  cases b with
  | false=>rfl
  | true=>
   simp only [zv0]
   cases qv cr fr h i<;>rfl
@[congr] theorem evC_congr {l:List (In×List Nat×Bool)} {k:Nat} {lg lg':List Lg} {fr fr':Fr} {h h':List Ob} (e0:lg=lg') (e1:fr=fr') (e2:h=h'):evC cr l k lg fr h=evC cr l k lg' fr' h':=by rw [e0,e1,e2]
end
attribute [simp] w_dr
@[simp] theorem at_zero {xs:List V}:at? xs 0=xs[0]?:=rfl
@[simp] theorem da15 {a b c d:Nat}:V.data (.own a b c d)=false:=rfl
@[simp] theorem da16 {a b c d:Nat}:V.data (.ptr a b c d)=false:=rfl
@[simp] theorem da17 {a:Nat}:V.data (.mp a)=false:=rfl
@[simp] theorem zE9 {fr:Fr}:zv9 none fr=fr:=rfl
end Go.RR
