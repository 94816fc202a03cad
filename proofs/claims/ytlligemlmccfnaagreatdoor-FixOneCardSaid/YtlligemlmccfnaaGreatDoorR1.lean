/- The second reading of code: values, operations, what stands for what. -/
import Derived.Calls
import Derived.Below
import Derived.Laws.Rows
import Derived.Laws.Sem
import Derived.WalkKit
import Derived.Lib.ConvBytes
import Derived.Laws.IdiomCopy
import Derived.Laws.Append
set_option linter.unusedSimpArgs false
set_option linter.unusedVariables false
namespace Go.RR
inductive V where
 | int (k:IntKind) (n:Int)
 | bool (b:Bool)
 | str (s:List UInt8)
 | agg (xs:List V)
 | tup (xs:List V)
 | sl (sz:Nat) (xs:List V)
 | nsl (sz:Nat)
 | pin (x:V) (k:Nat)
 | nilp
 | fn (f:Fn) (first cap:List V)
 | nilf
 | ifc (t:Nat) (v:V)
 | nili
 | own (id off len tot:Nat)
 | ptr (id i k tot:Nat)
 | mp (id:Nat)
 | nmp
 | und
 deriving Inhabited
inductive Jp where
 | ret
 | ext (id:Nat)
 | gto (l:Nat)
inductive Lp where
 | rdy
 | bsy
 | fin (j:Jp)
inductive Ob where
 | row (sz:Nat) (xs:List V)
 | map (es:List (V×V×Nat)) (clock:Nat)
 | lp (s:Lp)
 | itr (m:Nat) (seen:List Nat) (since last:Nat)
 | dead
 deriving Inhabited
inductive O where
 | t (n:Nat)
 | c (v:V)
 deriving Inhabited
inductive Q where
 | int|bool|str
 | agg (fs:List (Nat×Nat×Q))
 deriving Inhabited
inductive J where
 | ixa (n sz:Nat) (ag:Bool)
 | iaa (n sz:Nat)
 | mkm
 | lku (ks:Option IntKind) (z:V) (ok:Bool)
 | mpu (ks:Option IntKind)
 | mpe (ks:Option IntKind) (z:V)
 | ens
 | mln
 | mdl (ks:Option IntKind)
 | mcl
 | asr (t:Nat) (z:V) (ok:Bool)
 deriving Inhabited
inductive I where
 | mov (x:O)
 | pick (c a b:O)
 | bin (op:BinOp) (x y:O)
 | eq (neg:Bool) (q:Q) (x y:O)
 | nilq (neg:Bool) (kd:Nat) (x:O)
 | un (op:UnOp) (x:O)
 | conv (k:IntKind) (x:O)
 | same (x:O)
 | s2b (x:O)
 | b2s (x:O)
 | new (z:V)
 | box (x:O)
 | bld (z:List V) (ps:List (Nat×Nat×O))
 | bsl (z:V) (n:Nat) (ps:List (Nat×O))
 | ld (ag:Bool) (sz:Nat) (x:O)
 | st (sz:Nat) (a x:O)
 | nck (x:O)
 | fad (off:Nat) (x:O)
 | fld (ag:Bool) (off sz:Nat) (x:O)
 | iad (sz:Nat) (x i:O)
 | ixs (x i:O)
 | sls (x:O) (lo hi:Option O)
 | sll (sz:Nat) (x:O) (lo hi mx:Option O)
 | mks (bytes:Nat) (z:V) (len cap:O)
 | mkf (f:Fn) (first cap:List O)
 | ext (x:O) (i:Nat)
 | len (x:O)
 | slen (x:O)
 | app (sz bytes:Nat) (s x:O)
 | mxn (mx:Bool) (xs:List O)
 | call (f:Nat) (xs:List O)
 | callv (f:O) (xs:List O)
 | mki (t:Nat) (x:O)
 | pan (x:O)
 | bsf (z:V) (n:Nat) (ps:List (Nat×O))
 | op (j:J) (xs:List O)
 | fz (x:O)
 | fzd (ag:Bool) (sz:Nat) (x:O)
 | cx (f:Nat) (xs:List O)
 deriving Inhabited
structure In where
 d:Option Nat
 g:Option (Nat×Bool)
 i:I
 deriving Inhabited
inductive IR where
 | skip
 | rg (l:List In) (keep:Option (List Nat))
 | dr (l:List (In×List Nat)) (keep:Option (List Nat))
 | dq (l:List (In×List Nat)) (keep:Option (List Nat))
 | dc (l:List (In×List Nat×Bool)) (keep:Option (List Nat))
 | df (l:List (In×List Nat×Bool)) (t:Nat) (z:V) (sz:Nat) (y:O) (ast:List Nat) (keep:Option (List Nat))
 | seq (a b:IR)
 | cond (c:O) (a b:IR)
 | blk (id:Nat) (b:IR)
 | loop (b:IR)
 | sc (b:IR)
 | ext (id:Nat)
 | ret
 | lab (l:Nat)
 | gto (l:Nat)
 | scg (b:IR)
 | scr (c b:IR)
 | rf (f:O) (ps:List Nat) (a b:IR)
 deriving Inhabited
structure F where
 body:IR
 res:List (Nat×Option (Bool×Nat))
 hm:Bool
 deriving Inhabited
abbrev Fr:=List (Nat×V)
inductive X where
 | nrm
 | ext (id:Nat)
 | ret
 | pan (v:V)
 | gto (l:Nat)
abbrev Rs:=X×Fr×List Ob
def V.one:V→Bool
 | .agg _|.tup _|.und=>false
 | _=>true
def V.cells:V→List V
 | .agg xs=>xs
 | v=>[v]
def V.size:V→Nat
 | .agg xs=>xs.length
 | _=>1
def get:Fr→Nat→V
 | [],_=>.und
 | (s,v)::r,t=>if s=t then v else get r t
def O.ev (fr:Fr):O→V
 | .t n=>get fr n
 | .c v=>v
def zdI (fr:Fr):Option Nat→V→Fr
 | none,_=>fr
 | some d,v=>(d,v)::fr
def part (ag:Bool) (cs:List V) (off sz:Nat):Option V:=
 if ag then (if off+sz≤cs.length then some (.agg ((cs.drop off).take sz)) else none)
 else cs[off]?
def over (x:V) (k:Nat) (cs:List V):Option V:=
 match x with
 | .agg xs=>if k+cs.length≤xs.length then some (.agg (xs.take k++cs++xs.drop (k+cs.length))) else none
 | _=>match k,cs with
  | 0,[c]=>some c
  | _,_=>none
def zaF (h:List Ob) (id tot:Nat):Option (Nat×List V):=
 match h[id]? with
 | some (.row sz xs)=>if xs.length=tot then some (sz,xs) else none
 | _=>none
def at? (xs:List V) (i:Int):Option V:=if 0≤i then xs[i.toNat]? else none
def comb (off:Nat) (xs ys:List V):List V:=(if off=0 then xs else List.replicate off .und++xs.drop off)++ys
def ovr (k:Nat) (xs ys:List V):List V:=xs.take k++ys++xs.drop (k+ys.length)
def elems (h:List Ob):V→Option (Nat×List V)
 | .sl sz xs=>some (sz,xs)
 | .nsl sz=>some (sz,[])
 | .own id off len tot=>match zaF h id tot with
  | some (sz,xs)=>some (sz,(xs.drop off).take len)
  | none=>none
 | _=>none
def zfY (s:List UInt8):List V:=s.map fun b=>.int .u8 b.toNat
def src (h:List Ob) (v:V):Option (Nat×List V):=
 match v with
 | .str b=>some (1,zfY b)
 | v=>elems h v
def zvc (op:BinOp) (k:IntKind) (a b:Int):Option V:=
 match op with
 | .add=>some (.int k (k.wrap (a+b)))
 | .sub=>some (.int k (k.wrap (a-b)))
 | .mul=>some (.int k (k.wrap (a*b)))
 | .quo=>if b=0 then none else some (.int k (k.wrap (a.tdiv b)))
 | .rem=>if b=0 then none else some (.int k (a.tmod b))
 | .and=>some (.int k (k.wrap (BitVec.ofInt k.bits a&&&BitVec.ofInt k.bits b).toNat))
 | .or=>some (.int k (k.wrap (BitVec.ofInt k.bits a|||BitVec.ofInt k.bits b).toNat))
 | .xor=>some (.int k (k.wrap (BitVec.ofInt k.bits a ^^^ BitVec.ofInt k.bits b).toNat))
 | .andNot=>some (.int k (k.wrap (BitVec.ofInt k.bits a&&&~~~ BitVec.ofInt k.bits b).toNat))
 | .eql=>some (.bool (a==b))
 | .neq=>some (.bool (a != b))
 | .lss=>some (.bool (decide (a<b)))
 | .leq=>some (.bool (decide (a≤b)))
 | .gtr=>some (.bool (decide (a>b)))
 | .geq=>some (.bool (decide (a≥b)))
 | _=>none
def shI (op:BinOp) (k:IntKind) (a b:Int):Option V:=
 if b<0 then none else
 match op with
 | .shl=>some (.int k (k.wrap (a*2 ^ min b.toNat k.bits)))
 | .shr=>some (.int k (a.fdiv (2 ^ min b.toNat k.bits)))
 | _=>none
def binS (op:BinOp) (a b:List UInt8):Option V:=
 match op with
 | .add=>if a.length+b.length≤4611686018427387904 then some (.str (a++b)) else none
 | .eql=>some (.bool (a==b))
 | .neq=>some (.bool (!(a==b)))
 | .lss=>some (.bool (Op.bytesLess a b))
 | .leq=>some (.bool (Op.bytesLess a b||a==b))
 | .gtr=>some (.bool (!(Op.bytesLess a b||a==b)))
 | .geq=>some (.bool (!Op.bytesLess a b))
 | _=>none
def bin (op:BinOp) (x y:V):Option V:=
 match x,y with
 | .int k a,.int k' b=>match op with
  | .shl|.shr=>shI op k a b
  | _=>if k=k' then zvc op k a b else none
 | .str a,.str b=>binS op a b
 | _,_=>none
def zzl:Q→Bool
 | .agg _=>true
 | _=>false
mutual
def eqv:Q→V→V→Option Bool
 | .int,.int k a,.int k' b=>if k=k' then some (a==b) else none
 | .bool,.bool a,.bool b=>some (a==b)
 | .str,.str a,.str b=>some (a==b)
 | .agg fs,.agg xs,.agg ys=>eqvs fs xs ys
 | _,_,_=>none
def eqvs:List (Nat×Nat×Q)→List V→List V→Option Bool
 | [],_,_=>some true
 | (off,sz,q)::r,xs,ys=>
  match part (zzl q) xs off sz,part (zzl q) ys off sz with
  | some x,some y=>match eqv q x y with
   | some true=>eqvs r xs ys
   | some false=>some false
   | none=>none
  | _,_=>none
end
def znc (h:List Ob) (kd:Nat) (v:V):Option Bool:=
 match kd,v with
 | 0,.nilp=>some true
 | 0,.pin _ _=>some false
 | 0,.ptr id _ _ tot=>match zaF h id tot with
  | some _=>some false
  | none=>none
 | 1,.nili=>some true
 | 1,.ifc _ _=>some false
 | 2,.nilf=>some true
 | 2,.fn _ _ _=>some false
 | 3,.nmp=>some true
 | 3,.mp id=>match h[id]? with
  | some (.map _ _)=>some false
  | _=>none
 | _,_=>none
def V.isTup:V→Bool
 | .tup _=>true
 | _=>false
def V.isUnd:V→Bool
 | .und=>true
 | _=>false
def znD:List V→List (Nat×Nat×V)→Option (List V)
 | cs,[]=>some cs
 | cs,(off,sz,v)::r=>if v.cells.length=sz∧v.isUnd=false∧v.isTup=false then (match over (.agg cs) off v.cells with
  | some (.agg cs')=>znD cs' r
  | _=>none) else none
def zia:List V→List (Nat×V)→Option (List V)
 | cs,[]=>some cs
 | cs,(i,v)::r=>if i<cs.length then (if v.size=(cs.getD i .und).size∧v.isUnd=false∧v.isTup=false then zia (cs.set i v) r else none) else none
def zDr:List V→Option (List UInt8)
 | []=>some []
 | .int .u8 n::r=>match zDr r with
  | some s=>some (UInt8.ofNat n.toNat::s)
  | none=>none
 | _=>none
def oint:Option V→Option (Option Int)
 | none=>some none
 | some (.int _ n)=>some (some n)
 | _=>none
def bounds (len:Nat) (lo hi:Option Int):Option (Nat×Nat):=
 let h:=hi.getD len
 let l:=lo.getD 0
 if 0≤l∧l≤h∧h≤len then some (l.toNat,h.toNat) else none
def zAk (mx:Bool):V→List V→Option V
 | x,[]=>some x
 | .int k a,.int k' b::r=>if k=k' then zAk mx (.int k (if mx then (if b>a then b else a) else (if b<a then b else a))) r else none
 | _,_=>none
def ziO:Option IntKind→V→Bool
 | none,.str _=>true
 | some q,.int k _=>k==q
 | _,_=>false
def ztr:V→V→Option Bool
 | .int k a,.int k' b=>if k=k' then some (a==b) else none
 | .str a,.str b=>some (a==b)
 | _,_=>none
def mfind (k:V):List (V×V×Nat)→Nat→Option (Option (Nat×V))
 | [],_=>some none
 | e::r,i=>match ztr k e.1 with
  | some true=>some (some (i,e.2.1))
  | some false=>mfind k r (i+1)
  | none=>none
def zgc (h:List Ob):V→Option (Option (Nat×List (V×V×Nat)×Nat))
 | .nmp=>some none
 | .mp id=>match h[id]? with
  | some (.map es c)=>some (some (id,es,c))
  | _=>none
 | _=>none
def lkr (v:V) (b ok:Bool):V:=if ok then .tup [v,.bool b] else v
def zlJ (es:List (V×V×Nat)) (i:Nat):Nat:=match es[i]? with
 | some e=>e.2.2
 | none=>0
def opJ (nid:Nat) (h:List Ob) (j:J) (vs:List V):Option (V×Option (Nat×Ob)):=
 match j with
 | .ixa n sz ag=>match vs with
  | [.agg cs,.int _ i]=>if 0≤i∧i<n then (part ag cs (i.toNat*sz) sz).map fun v=>(v,none) else none
  | _=>none
 | .iaa n sz=>match vs with
  | [.pin v k,.int _ i]=>if 0≤i∧i<n then some (.pin v (k+i.toNat*sz),none) else none
  | [.ptr id a k tot,.int _ i]=>if 0≤i∧i<n then (match zaF h id tot with
   | some _=>some (.ptr id a (k+i.toNat*sz) tot,none)
   | none=>none) else none
  | _=>none
 | .mkm=>match vs with
  | []=>some (.mp nid,some (nid,.map [] 0))
  | _=>none
 | .lku ks z ok=>match vs with
  | [m,k]=>if ziO ks k then (match zgc h m with
   | some none=>some (lkr z false ok,none)
   | some (some (_,es,_))=>match mfind k es 0 with
    | some (some (_,v))=>some (lkr v true ok,none)
    | some none=>some (lkr z false ok,none)
    | none=>none
   | none=>none) else none
  | _=>none
 | .mpu ks=>match vs with
  | [m,k,v]=>if ziO ks k&&!v.isUnd&&!v.isTup then (match zgc h m with
   | some (some (id,es,c))=>match mfind k es 0 with
    | some (some (i,_))=>some (.und,some (id,.map (es.set i (k,v,zlJ es i)) c))
    | some none=>some (.und,some (id,.map (es++[(k,v,c)]) (c+1)))
    | none=>none
   | _=>none) else none
  | _=>none
 | .mpe ks z=>match vs with
  | [m,k]=>if ziO ks k then (match zgc h m with
   | some (some (id,es,c))=>match mfind k es 0 with
    | some (some (i,v))=>some (.tup [v,.int .i64 (zlJ es i)],some (id,.map (es.set i (k,v,zlJ es i)) c))
    | some none=>some (.tup [z,.int .i64 c],some (id,.map (es++[(k,z,c)]) (c+1)))
    | none=>none
   | _=>none) else none
  | _=>none
 | .ens=>match vs with
  | [m,.int _ s,v]=>if !v.isUnd&&!v.isTup then (match zgc h m with
   | some (some (id,es,c))=>match es.findIdx? (fun e=>(e.2.2:Int)==s) with
    | some i=>match es[i]? with
     | some e=>some (.und,some (id,.map (es.set i (e.1,v,e.2.2)) c))
     | none=>none
    | none=>none
   | _=>none) else none
  | _=>none
 | .mln=>match vs with
  | [m]=>match zgc h m with
   | some none=>some (.int .i64 0,none)
   | some (some (_,es,_))=>some (.int .i64 es.length,none)
   | none=>none
  | _=>none
 | .mdl ks=>match vs with
  | [m,k]=>if ziO ks k then (match zgc h m with
   | some none=>some (.tup [],none)
   | some (some (id,es,c))=>match mfind k es 0 with
    | some (some (i,_))=>some (.tup [],some (id,.map (es.eraseIdx i) c))
    | some none=>some (.tup [],some (id,.map es c))
    | none=>none
   | none=>none) else none
  | _=>none
 | .mcl=>match vs with
  | [m]=>match zgc h m with
   | some none=>some (.tup [],none)
   | some (some (id,_,c))=>some (.tup [],some (id,.map [] c))
   | none=>none
  | _=>none
 | .asr t z ok=>match vs with
  | [.nili]=>if ok then some (.tup [z,.bool false],none) else none
  | [.ifc t' v]=>if t'=t then some (lkr v true ok,none) else if ok then some (.tup [z,.bool false],none) else none
  | _=>none
def op1 (nid:Nat) (fr:Fr) (h:List Ob):I→Option (V×Option (Nat×Ob))
 | .mov x=>some (x.ev fr,none)
 | .same x=>match x.ev fr with
  | .str s=>some (.str s,none)
  | _=>none
 | .pick c a b=>match c.ev fr with
  | .bool t=>some (if t then a.ev fr else b.ev fr,none)
  | _=>none
 | .bin op x y=>(bin op (x.ev fr) (y.ev fr)).map fun v=>(v,none)
 | .eq neg q x y=>(eqv q (x.ev fr) (y.ev fr)).map fun b=>(.bool (if neg then !b else b),none)
 | .nilq neg kd x=>(znc h kd (x.ev fr)).map fun b=>(.bool (if neg then !b else b),none)
 | .un op x=>match op,x.ev fr with
  | .neg,.int k n=>some (.int k (k.wrap (0-n)),none)
  | .not,.bool b=>some (.bool (!b),none)
  | .xor,.int k n=>(zvc .xor k (if k.signed then -1 else k.max) n).map fun v=>(v,none)
  | _,_=>none
 | .conv k x=>match x.ev fr with
  | .int _ n=>some (.int k (k.wrap n),none)
  | _=>none
 | .s2b x=>match x.ev fr with
  | .str s=>some (.own nid 0 s.length s.length,some (nid,.row 1 (zfY s)))
  | _=>none
 | .b2s x=>match elems h (x.ev fr) with
  | some (_,xs)=>(zDr xs).map fun s=>(.str s,none)
  | none=>none
 | .new z=>some (.ptr nid 0 0 1,some (nid,.row z.size [z]))
 | .box x=>match x.ev fr with
  | .tup _|.und|.agg []=>none
  | v=>some (.ptr nid 0 0 1,some (nid,.row v.size [v]))
 | .bld z ps=>(znD z (ps.map fun p=>(p.1,p.2.1,p.2.2.ev fr))).map fun cs=>(.agg cs,none)
 | .bsl z n ps=>(zia (List.replicate n z) (ps.map fun p=>(p.1,p.2.ev fr))).map fun xs=>(.own nid 0 n n,some (nid,.row z.size xs))
 | .ld ag sz x=>match x.ev fr with
  | .pin v k=>(part ag v.cells k sz).map fun v=>(v,none)
  | .ptr id i k tot=>match zaF h id tot with
   | some (_,xs)=>match xs[i]? with
    | some v=>(part ag v.cells k sz).map fun v=>(v,none)
    | none=>none
   | none=>none
  | _=>none
 | .st sz a x=>match a.ev fr,x.ev fr with
  | _,.tup _=>none
  | _,.und=>none
  | .ptr id i k tot,v=>match zaF h id tot with
   | some (z,xs)=>match xs[i]? with
    | some e=>if v.cells.length=sz then (match over e k v.cells with
     | some e'=>some (.und,some (id,.row z (xs.set i e')))
     | none=>none) else none
    | none=>none
   | none=>none
  | _,_=>none
 | .nck x=>match x.ev fr with
  | .pin v k=>some (.pin v k,none)
  | .ptr id i k tot=>match zaF h id tot with
   | some _=>some (.ptr id i k tot,none)
   | none=>none
  | .fn (.func f) a b=>some (.fn (.func f) a b,none)
  | _=>none
 | .fad off x=>match x.ev fr with
  | .pin v k=>some (.pin v (k+off),none)
  | .ptr id i k tot=>match zaF h id tot with
   | some _=>some (.ptr id i (k+off) tot,none)
   | none=>none
  | _=>none
 | .fld ag off sz x=>match x.ev fr with
  | .agg xs=>(part ag xs off sz).map fun v=>(v,none)
  | _=>none
 | .iad sz x i=>match x.ev fr,i.ev fr with
  | .sl z xs,.int _ n=>if z=sz then (at? xs n).map fun v=>(.pin v 0,none) else none
  | .own id off len tot,.int _ n=>if 0≤n∧n<len then (match zaF h id tot with
    | some (z,_)=>if z=sz then some (.ptr id (off+n.toNat) 0 tot,none) else none
    | none=>none) else none
  | _,_=>none
 | .ixs x i=>match x.ev fr,i.ev fr with
  | .str s,.int _ n=>if 0≤n then (match s[n.toNat]? with
   | some b=>some (.int .u8 b.toNat,none)
   | none=>none) else none
  | _,_=>none
 | .sls x lo hi=>match x.ev fr,oint (lo.map (O.ev fr)),oint (hi.map (O.ev fr)) with
  | .str s,some l,some r=>(bounds s.length l r).map fun b=>(.str ((s.take b.2).drop b.1),none)
  | _,_,_=>none
 | .sll sz x lo hi mx=>match oint (lo.map (O.ev fr)),oint (hi.map (O.ev fr)),oint (mx.map (O.ev fr)) with
  | some l,some r,some none=>match x.ev fr with
   | .sl z xs=>if z=sz then (bounds xs.length l r).map fun b=>(.sl z ((xs.take b.2).drop b.1),none) else none
   | .nsl z=>(bounds 0 l r).map fun _=>(.nsl z,none)
   | .own id off len tot=>match zaF h id tot with
    | some (z,_)=>if z=sz then (bounds len l r).map fun b=>(.own id (off+b.1) (b.2-b.1) tot,none) else none
    | none=>none
   | _=>none
  | some l,some (some r),some (some m)=>match x.ev fr with
   | .sl z xs=>if z=sz then (match bounds xs.length l (some r),bounds xs.length l (some m) with
    | some b,some c=>if r≤m then (if c.2=b.1 then some (.nsl z,none) else some (.sl z ((xs.take b.2).drop b.1),none)) else none
    | _,_=>none) else none
   | .nsl z=>(match bounds 0 l (some r),bounds 0 l (some m) with
    | some _,some _=>if r≤m then some (.nsl z,none) else none
    | _,_=>none)
   | .own id off len tot=>match zaF h id tot with
    | some (z,_)=>if z=sz then (match bounds len l (some r),bounds len l (some m) with
     | some b,some c=>if r≤m∧c.2=b.1 then some (.nsl z,none) else none
     | _,_=>none) else none
    | none=>none
   | _=>none
  | _,_,_=>none
 | .mks bytes z len cap=>match len.ev fr,cap.ev fr with
  | .int _ n,.int _ m=>if 0≤n∧n≤m∧m*bytes≤70368744177664∧m≤70368744177664 then some (.own nid 0 n.toNat n.toNat,some (nid,.row z.size (List.replicate n.toNat z))) else none
  | _,_=>none
 | .mkf f first cap=>some (.fn f (first.map (O.ev fr)) (cap.map (O.ev fr)),none)
 | .ext x i=>match x.ev fr with
  | .tup xs=>match xs[i]? with
   | some v=>some (v,none)
   | none=>none
  | _=>none
 | .len x=>match x.ev fr with
  | .sl _ xs=>some (.int .i64 xs.length,none)
  | .nsl _=>some (.int .i64 0,none)
  | .own id _ len tot=>match zaF h id tot with
   | some _=>some (.int .i64 len,none)
   | none=>none
  | _=>none
 | .slen x=>match x.ev fr with
  | .str s=>some (.int .i64 s.length,none)
  | _=>none
 | .app sz bytes s x=>match src h (x.ev fr) with
  | none=>none
  | some (z,ys)=>if z=sz then (match s.ev fr with
   | .nsl y=>if ys=[] then some (.nsl y,none) else
     if ys.length*bytes≤70368744177664∧ys.length≤70368744177664 then some (.own nid 0 ys.length ys.length,some (nid,.row sz ys)) else none
   | .own id off len tot=>match zaF h id tot with
    | some (y,xs)=>if ys=[] then some (.own id off len tot,none) else
      if y=sz∧off+len=tot∧(len+ys.length)*bytes≤70368744177664∧len+ys.length≤70368744177664 then
      some (.own id off (len+ys.length) (tot+ys.length),some (id,.row sz (comb off xs ys))) else
      if y=sz∧off+len+ys.length≤tot then some (.own id off (len+ys.length) tot,some (id,.row sz (ovr (off+len) xs ys))) else none
    | none=>none
   | _=>none) else none
 | .mxn mx xs=>match xs.map (O.ev fr) with
  | x::r=>(zAk mx x r).map fun v=>(v,none)
  | []=>none
 | .mki t x=>match x.ev fr with
  | .und|.tup _=>none
  | v=>some (.ifc t v,none)
 | .op j xs=>opJ nid h j (xs.map (O.ev fr))
 | .pan _|.call _ _|.callv _ _|.bsf _ _ _|.fz _|.fzd _ _ _|.cx _ _=>none
def wr (h:List Ob):Option (Nat×Ob)→List Ob
 | none=>h
 | some (i,o)=>if i<h.length then h.set i o else h++[o]
mutual
def V.data:V→Bool
 | .own _ _ _ _|.ptr _ _ _ _|.mp _=>false
 | .agg xs|.tup xs=>dataL xs
 | .fn _ a b=>dataL a&&dataL b
 | .ifc _ v=>v.data
 | _=>true
def dataL:List V→Bool
 | []=>true
 | x::r=>x.data&&dataL r
end
mutual
def V.flat:V→Bool
 | .own _ _ _ _|.ptr _ _ _ _|.mp _|.pin _ _=>false
 | .sl _ xs=>xs.isEmpty
 | .agg xs|.tup xs=>flatL xs
 | .fn _ a b=>flatL a&&flatL b
 | .ifc _ v=>v.flat
 | _=>true
def flatL:List V→Bool
 | []=>true
 | x::r=>x.flat&&flatL r
end
def zdP {α β:Type} (f:α→Option β):List α→Option (List β)
 | []=>some []
 | x::r=>match f x with
  | some y=>match zdP f r with
   | some s=>some (y::s)
   | none=>none
  | none=>none
def frz (h:List Ob):Nat→V→Option V
 | 0,_=>none
 | _+1,.int k n=>some (.int k n)
 | _+1,.bool b=>some (.bool b)
 | _+1,.str s=>some (.str s)
 | n+1,.agg xs=>(zdP (frz h n) xs).map .agg
 | n+1,.tup xs=>(zdP (frz h n) xs).map .tup
 | _+1,.sl z xs=>some (.sl z xs)
 | _+1,.nsl z=>some (.sl z [])
 | _+1,.pin x k=>some (.pin x k)
 | _+1,.nilp=>some .nilp
 | n+1,.fn f a b=>match zdP (frz h n) a,zdP (frz h n) b with
  | some a,some b=>some (.fn f a b)
  | _,_=>none
 | _+1,.nilf=>some .nilf
 | n+1,.ifc t v=>(frz h n v).map (.ifc t)
 | _+1,.nili=>some .nili
 | n+1,.own id off len tot=>match elems h (.own id off len tot) with
  | some (z,xs)=>(zdP (frz h n) xs).map (.sl z)
  | none=>none
 | n+1,.ptr id i k tot=>match zaF h id tot with
  | some (_,xs)=>match xs[i]? with
   | some x=>(frz h n x).map fun x=>.pin x k
   | none=>none
  | none=>none
 | _+1,.mp _=>none
 | _+1,.nmp=>some .nmp
 | _+1,.und=>none
def fdepth:Nat:=12
def zj4 (h:List Ob) (xs:List V):Option (List V):=zdP (frz h fdepth) xs
inductive Out where
 | ret (v:V)
 | pan (v:V)
def zii (z:V) (xs:List V):Option V:=if dataL xs then (match zdP (frz [] fdepth) xs with
 | some ys=>some (.sl z.size ys)
 | none=>none) else none
structure Cx where
 T:Nat→Option F
 S:Nat→List V→Option V
 H:Nat→List V→List Ob→Option (Out×List Ob)
abbrev Yl:=List V→List Ob→Option (Out×List Ob)
def y0:Yl:=fun _ _=>none
structure zaw where
 c:Nat→List V→List Ob→Option (Out×List Ob)
 y:Yl
 it:Yl→Nat→List V→List Ob→Option (Out×List Ob)
instance:CoeFun zaw (fun _=>Nat→List V→List Ob→Option (Out×List Ob)):=⟨zaw.c⟩
inductive St1 where
 | val (v:V) (h:List Ob)
 | pan (v:V) (h:List Ob)
def zBn:Option (Out×List Ob)→Option St1
 | some (.ret v,h)=>some (.val v h)
 | some (.pan v,h)=>some (.pan v h)
 | none=>none
def zER:V→Bool
 | .ifc _ _=>true
 | _=>false
def fz1 (h:List Ob) (v:V):Option (V×List Ob):=match v with
 | .own id off len tot=>match zaF h id tot with
  | some (sz,xs)=>if dataL ((xs.drop off).take len) then some (.sl sz ((xs.drop off).take len),h.set id .dead) else none
  | none=>none
 | v=>if v.data then some (v,h) else none
def fzL:List Ob→List V→Option (List V×List Ob)
 | h,[]=>some ([],h)
 | h,x::r=>match fz1 h x with
  | some (y,h1)=>match fzL h1 r with
   | some (ys,h2)=>some (y::ys,h2)
   | none=>none
  | none=>none
def fzV (h:List Ob) (v:V):Option St1:=match v with
 | .agg xs=>match fzL h xs with
  | some (ys,h')=>some (.val (.agg ys) h')
  | none=>none
 | v=>match fz1 h v with
  | some (y,h')=>some (.val y h')
  | none=>none
def step (cr:zaw) (fr:Fr) (h:List Ob):I→Option St1
 | .call f xs=>zBn (cr f (xs.map (O.ev fr)) h)
 | .callv g xs=>match g.ev fr with
  | .fn (.func f) first cap=>zBn (cr f (first++xs.map (O.ev fr)++cap) h)
  | .mp y=>zBn (cr.y (.mp y::xs.map (O.ev fr)) h)
  | _=>none
 | .pan x=>if zER (x.ev fr) then some (.pan (x.ev fr) h) else none
 | .bsf z n ps=>match zia (List.replicate n z) (ps.map fun p=>(p.1,p.2.ev fr)) with
  | some xs=>(zii z xs).map fun v=>.val v h
  | none=>none
 | .fz x=>fzV h (x.ev fr)
 | .fzd ag sz x=>match op1 h.length fr h (.ld ag sz x) with
  | some (v,_)=>fzV h v
  | none=>none
 | .cx f xs=>match zj4 h (xs.map (O.ev fr)) with
  | some as=>zBn (cr f as (h.map fun _=>.dead))
  | none=>none
 | i=>match op1 h.length fr h i with
  | some (v,w)=>some (.val v (wr h w))
  | none=>none
def wanted (fr:Fr):Option (Nat×Bool)→Option Bool
 | none=>some true
 | some (t,b)=>match get fr t with
  | .bool c=>some (c==b)
  | .tup _=>some false
  | _=>none
def zak (cr:zaw):List In→Fr→List Ob→Option Rs
 | [],fr,h=>some (.nrm,fr,h)
 | x::r,fr,h=>match wanted fr x.g with
  | some true=>match step cr fr h x.i with
   | some (.val v h')=>zak cr r (zdI fr x.d v) h'
   | some (.pan v h')=>some (.pan v,fr,h')
   | none=>none
  | some false=>zak cr r (zdI fr x.d (.tup [])) h
  | none=>none
def ids1:V→List Nat
 | .own id _ _ _=>[id]
 | .ptr id _ _ _=>[id]
 | .mp id=>[id]
 | _=>[]
def O.slot:O→List Nat
 | .t n=>[n]
 | .c _=>[]
def opt1:Option O→List O
 | none=>[]
 | some x=>[x]
def zcW:I→List O
 | .mov x|.fz x|.fzd _ _ x|.same x|.un _ x|.conv _ x|.s2b x|.b2s x|.box x|.ld _ _ x|.nck x|.fad _ x|.fld _ _ _ x|.ext x _|.len x|.slen x|.mki _ x|.pan x|.nilq _ _ x=>[x]
 | .pick c a b=>[c,a,b]
 | .bin _ x y|.eq _ _ x y|.st _ x y|.iad _ x y|.ixs x y|.mks _ _ x y|.app _ _ x y=>[x,y]
 | .new _=>[]
 | .bld _ ps=>ps.map fun p=>p.2.2
 | .bsl _ _ ps=>ps.map fun p=>p.2
 | .bsf _ _ ps=>ps.map fun p=>p.2
 | .op _ xs=>xs
 | .sls x lo hi=>x::(opt1 lo++opt1 hi)
 | .sll _ x lo hi mx=>x::(opt1 lo++opt1 hi++opt1 mx)
 | .mkf _ a b=>a++b
 | .mxn _ xs=>xs
 | .call _ xs=>xs
 | .cx _ xs=>xs
 | .callv f xs=>f::xs
def rdC (fr:Fr):I→List Nat
 | .call _ xs=>if dataL (xs.map (O.ev fr)) then [] else List.range 4096
 | .callv y xs=>match y.ev fr with
  | .fn (.func _) first cap=>if dataL (first++xs.map (O.ev fr)++cap) then [] else List.range 4096
  | _=>[]
 | _=>[]
def rdI (fr:Fr) (i:I):List Nat:=rdC fr i++(zcW i).flatMap fun o=>ids1 (o.ev fr)
def datF (v:V) (h:List Ob):Option V:=if v.data then some v else match frz h fdepth v with
 | some v'=>if v'.data then some v' else none
 | none=>none
def cp (cr:zaw) (f:Nat) (args:List V):Option V:=
 if dataL args then (match cr f args [] with
  | some (.ret v,h')=>datF v h'
  | _=>none) else none
def callq (cr:zaw) (h:List Ob) (f:Nat) (args:List V):Option V:=
 if dataL args then cp cr f args else match zj4 (h.take 4096) args with
  | some a'=>match cp cr f a' with
   | some v=>if v.flat then some v else none
   | none=>none
  | none=>none
def zai (cr:zaw) (nid:Nat) (fr:Fr) (h:List Ob):I→Option (V×Option (Nat×Ob))
 | .call f xs=>(callq cr h f (xs.map (O.ev fr))).map fun v=>(v,none)
 | .callv g xs=>match g.ev fr with
  | .fn (.func f) first cap=>(callq cr h f (first++xs.map (O.ev fr)++cap)).map fun v=>(v,none)
  | _=>none
 | .pan _=>none
 | .fz _=>none
 | .fzd _ _ _=>none
 | .cx _ _=>none
 | .bsf z n ps=>match zia (List.replicate n z) (ps.map fun p=>(p.1,p.2.ev fr)) with
  | some xs=>(zii z xs).map fun v=>(v,none)
  | none=>none
 | i=>op1 nid fr h i
structure Rc where
 rd:List Nat
 w:Option Nat
def apart (a b:Rc):Bool:=
 (match a.w with
  | some x=>!b.rd.contains x&&!(b.w==some x)
  | none=>true)&&(match b.w with
  | some x=>!a.rd.contains x
  | none=>true)
def zjg (anc:List Nat) (a:Rc):Nat→List Rc→Bool
 | _,[]=>true
 | j,b::r=>(anc.contains j||apart a b)&&zjg anc a (j+1) r
def leW (w:Option (Nat×Ob)) (n:Nat):Bool:=
 match w with
 | some p=>decide (p.1≤n)
 | none=>true
def zqT (cr:zaw):List (In×List Nat)→List Rc→Fr→List Ob→Option Rs
 | [],_,fr,h=>some (.nrm,fr,h)
 | x::r,done,fr,h=>match wanted fr x.1.g with
  | some true=>match zai cr h.length fr h x.1.i with
   | some (v,w)=>if zjg x.2 ⟨rdI fr x.1.i,w.map (·.1)⟩ 0 done&&leW w h.length then zqT cr r (done++[⟨rdI fr x.1.i,w.map (·.1)⟩]) (zdI fr x.1.d v) (wr h w) else none
   | none=>none
  | some false=>zqT cr r (done++[⟨[],none⟩]) (zdI fr x.1.d (.tup [])) h
  | none=>none
def crD (cr:zaw):zaw:=⟨fun f a h=>(callq cr h f a).map fun v=>(.ret v,h),y0,fun _ _ _ _=>none⟩
def qI:I→Bool
 | .s2b _=>false
 | .new _=>false
 | .box _=>false
 | .bsl _ _ _=>false
 | .st _ _ _=>false
 | .mks _ _ _ _=>false
 | .app _ _ _ _=>false
 | .pan _=>false
 | .fz _=>false
 | .fzd _ _ _=>false
 | .cx _ _=>false
 | .op j _=>match j with
  | .mkm=>false
  | .mpu _=>false
  | .mpe _ _=>false
  | .ens=>false
  | .mdl _=>false
  | .mcl=>false
  | _=>true
 | _=>true
def zy0:I→Bool
 | .pan _=>true
 | .fz _=>true
 | .fzd _ _ _=>true
 | .cx _ _=>true
 | _=>false
def zzP (k:Nat) (a:List Nat):Bool:=(List.range k).all fun j=>a.contains j
def calm:Nat→Bool→List (In×List Nat)→Bool
 | _,_,[]=>true
 | k,ws,x::r=>if qI x.1.i&&(!ws||zzP k x.2) then calm (k+1) ws r else zzP k x.2&&!zy0 x.1.i&&calm (k+1) true r
def evQ (cr:zaw):List (In×List Nat)→Fr→List Ob→Option Rs
 | [],fr,h=>some (.nrm,fr,h)
 | x::r,fr,h=>match zak (crD cr) [x.1] fr h with
  | some (.nrm,fr',h')=>evQ cr r fr' h'
  | r=>r
mutual
def V.beq:V→V→Bool
 | .int k n,.int k' n'=>k==k'&&n==n'
 | .bool b,.bool b'=>b==b'
 | .str s,.str s'=>s==s'
 | .agg xs,.agg ys=>beqL xs ys
 | .tup xs,.tup ys=>beqL xs ys
 | .sl z xs,.sl z' ys=>z==z'&&beqL xs ys
 | .nsl z,.nsl z'=>z==z'
 | .pin x k,.pin y k'=>V.beq x y&&k==k'
 | .nilp,.nilp=>true
 | .fn f a b,.fn f' a' b'=>decide (f=f')&&beqL a a'&&beqL b b'
 | .nilf,.nilf=>true
 | .ifc t v,.ifc t' v'=>t==t'&&V.beq v v'
 | .nili,.nili=>true
 | .own a b c d,.own a' b' c' d'=>a==a'&&b==b'&&c==c'&&d==d'
 | .ptr a b c d,.ptr a' b' c' d'=>a==a'&&b==b'&&c==c'&&d==d'
 | .mp a,.mp a'=>a==a'
 | .nmp,.nmp=>true
 | .und,.und=>true
 | _,_=>false
def beqL:List V→List V→Bool
 | [],[]=>true
 | x::r,y::s=>V.beq x y&&beqL r s
 | _,_=>false
end
def qv (cr:zaw) (fr:Fr) (h:List Ob) (i:I):Option V:=match step (crD cr) fr h i with
 | some (.val v _)=>some v
 | _=>none
def qeq (cr:zaw) (fr:Fr) (h:List Ob) (i:I) (v:V):Bool:=match qv cr fr h i with
 | some v'=>V.beq v' v
 | none=>false
def hrd:I→Bool
 | .mov _|.pick _ _ _|.bin _ _ _|.eq _ _ _ _|.un _ _|.conv _ _|.same _|.bld _ _|.fld _ _ _ _|.ixs _ _|.sls _ _ _|.mkf _ _ _|.ext _ _|.slen _|.mxn _ _|.mki _ _|.bsf _ _ _=>false
 | _=>true
inductive Lg where
 | w (k:Nat) (h:List Ob)
 | q (k:Nat) (i:I) (fr:Fr) (v:V)
def lgW (cr:zaw) (anc:List Nat) (h':List Ob):Lg→Bool
 | .w k _=>anc.contains k
 | .q k i fr v=>anc.contains k||qeq cr fr h' i v
def lgP (anc:List Nat):Lg→Bool
 | .w k _=>anc.contains k
 | .q _ _ _ _=>true
def lgQ (cr:zaw) (anc:List Nat) (fr:Fr) (i:I) (v:V):Lg→Bool
 | .w k h=>anc.contains k||(!hrd i||qeq cr fr h i v)
 | .q _ _ _ _=>true
def evC (cr:zaw):List (In×List Nat×Bool)→Nat→List Lg→Fr→List Ob→Option Rs
 | [],_,_,fr,h=>some (.nrm,fr,h)
 | x::r,k,lg,fr,h=>if x.2.2 then (match zak cr [x.1] fr h with
   | some (.nrm,fr',h')=>if lg.all (lgW cr x.2.1 h') then evC cr r (k+1) (.w k h::lg) fr' h' else none
   | some (.pan v,_,h')=>if r.all (fun y=>y.2.1.contains k)&&lg.all (lgP x.2.1) then some (.pan v,[],h') else none
   | _=>none)
  else match wanted fr x.1.g with
   | some true=>(match qv cr fr h x.1.i with
    | some v=>if lg.all (lgQ cr x.2.1 fr x.1.i v) then evC cr r (k+1) (if hrd x.1.i then .q k x.1.i fr v::lg else lg) (zdI fr x.1.d v) h else none
    | none=>none)
   | some false=>evC cr r (k+1) lg (zdI fr x.1.d (.tup [])) h
   | none=>none
def evF (cr:zaw) (l:List (In×List Nat×Bool)) (t:Nat) (z:V) (sz:Nat) (y:O) (fr:Fr) (h:List Ob):Option Rs:=
 if (get fr t).isUnd then (match evC cr l 0 [] fr h with
  | some (.nrm,fr',h')=>zak cr [⟨some t,none,.new z⟩,⟨none,none,.st sz (.t t) y⟩] fr' h'
  | r=>r) else none
def zv9:Option (List Nat)→Fr→Fr
 | none,fr=>fr
 | some l,fr=>l.map fun t=>(t,get fr t)
def ziR (k:Option (List Nat)):Option Rs→Option Rs
 | some (.nrm,fr,h)=>some (.nrm,zv9 k fr,h)
 | r=>r
def zoq:IR→Nat→Option IR
 | .seq a b,l=>match zoq a l with
  | some r=>some (.seq r b)
  | none=>zoq b l
 | .lab l',l=>if l'==l then some .skip else none
 | _,_=>none
def scE (rec:IR→Fr→List Ob→Option Rs) (c:IR):Option Rs→Option Rs
 | some (.gto l,fr,h)=>match zoq c l with
  | some r=>rec (.scr c r) fr h
  | none=>some (.gto l,fr,h)
 | r=>r
def zrx:List Nat→List V→Fr→Fr
 | t::ps,v::vs,fr=>zrx ps vs ((t,v)::fr)
 | _,_,fr=>fr
def rnd (ea eb:Fr→List Ob→Option Rs) (y:Nat) (ps:List Nat) (fr:Fr):Yl:=fun args h=>match args with
 | .mp y'::vs=>if y'=y∧vs.length=ps.length then (match h[y]? with
  | some (.lp .rdy)=>match ea (zrx ps vs fr) h with
   | some (.nrm,fr1,h1)=>match h1[y]? with
    | some (.lp .rdy)=>match eb fr1 (h1.set y (.lp .bsy)) with
     | some (x,_,h2)=>match h2[y]? with
      | some (.lp .bsy)=>match x with
       | .nrm=>some (.ret (.bool true),h2.set y (.lp .rdy))
       | .ret=>some (.ret (.bool false),h2.set y (.lp (.fin .ret)))
       | .ext id=>some (.ret (.bool false),h2.set y (.lp (.fin (.ext id))))
       | .gto l=>some (.ret (.bool false),h2.set y (.lp (.fin (.gto l))))
       | .pan _=>none
      | _=>none
     | none=>none
    | _=>none
   | _=>none
  | _=>none) else none
 | _=>none
def Jp.x:Jp→X
 | .ret=>.ret
 | .ext id=>.ext id
 | .gto l=>.gto l
def evS (rec:IR→Fr→List Ob→Option Rs) (cr:zaw):IR→Fr→List Ob→Option Rs
 | .skip,fr,h=>some (.nrm,fr,h)
 | .rg l k,fr,h=>ziR k (zak cr l fr h)
 | .dr l k,fr,h=>ziR k (zqT cr l [] fr h)
 | .dq l k,fr,h=>ziR k (evQ cr l fr h)
 | .dc l k,fr,h=>ziR k (evC cr l 0 [] fr h)
 | .df l t z sz y _ k,fr,h=>ziR k (evF cr l t z sz y fr h)
 | .seq a b,fr,h=>match evS rec cr a fr h with
  | some (.nrm,fr',h')=>evS rec cr b fr' h'
  | r=>r
 | .cond c a b,fr,h=>match c.ev fr with
  | .bool true=>evS rec cr a fr h
  | .bool false=>evS rec cr b fr h
  | _=>none
 | .blk id b,fr,h=>match evS rec cr b fr h with
  | some (.ext i,fr',h')=>if i=id then some (.nrm,fr',h') else some (.ext i,fr',h')
  | r=>r
 | .loop b,fr,h=>match evS rec cr b fr h with
  | some (.nrm,fr',h')=>rec (.loop b) fr' h'
  | r=>r
 | .sc b,fr,h=>evS rec cr b fr h
 | .ext id,fr,h=>some (.ext id,fr,h)
 | .ret,fr,h=>some (.ret,fr,h)
 | .lab _,fr,h=>some (.nrm,fr,h)
 | .gto l,fr,h=>some (.gto l,fr,h)
 | .scg b,fr,h=>scE rec b (evS rec cr b fr h)
 | .scr c b,fr,h=>scE rec c (evS rec cr b fr h)
 | .rf f ps a b,fr,h=>match f.ev fr with
  | .fn (.func g) [] cap=>match cr.it (rnd (evS rec cr a) (evS rec cr b) h.length ps fr) g (.mp h.length::cap) (h++[.lp .rdy]) with
   | some (.ret _,h')=>match h'[h.length]? with
    | some (.lp .rdy)=>some (.nrm,fr,h'.set h.length .dead)
    | some (.lp (.fin j))=>some (j.x,fr,h'.set h.length .dead)
    | _=>none
   | _=>none
  | _=>none
def res1 (fr:Fr) (h:List Ob):Nat×Option (Bool×Nat)→Option V
 | (t,none)=>some (get fr t)
 | (t,some (ag,sz))=>match op1 0 fr h (.ld ag sz (.t t)) with
  | some (v,_)=>some v
  | none=>none
def zzp:List V→V
 | [v]=>v
 | vs=>.tup vs
def zpt (evn:IR→Fr→List Ob→Option Rs) (f:F) (args:List V) (h:List Ob):Option (Out×List Ob):=
 match evn f.body (args.zipIdx.map fun p=>(p.2,p.1)) h with
 | some (.nrm,fr,h')|some (.ret,fr,h')=>match zdP (res1 fr h') f.res with
  | some vs=>some (.ret (zzp vs),h')
  | none=>none
 | some (.pan v,_,h')=>some (.pan v,h')
 | _=>none
def zm7 (C:Cx) (evn:IR→Fr→List Ob→Option Rs) (f:Nat) (args:List V) (h:List Ob):Option (Out×List Ob):=
 match C.T f with
 | some fn=>
  if fn.hm then zpt evn fn args h
  else match zj4 h args with
   | none=>none
   | some as=>match zpt evn fn as [] with
    | some (.ret v,h')=>match frz h' fdepth v with
     | some v'=>if dataL args||v'.flat then some (.ret v',h) else none
     | none=>none
    | some (.pan v,h')=>match frz h' fdepth v with
     | some v'=>if dataL args||v'.flat then some (.pan v',h) else none
     | none=>none
    | none=>none
 | none=>match C.H f args h with
  | some r=>some r
  | none=>match zj4 h args with
   | none=>none
   | some as=>match C.S f as with
    | some v=>if dataL args||v.flat then some (.ret v,h) else none
    | none=>none
def itW (C:Cx) (evn:IR→Fr→List Ob→Option Rs) (f:Nat) (args:List V) (h:List Ob):Option (Out×List Ob):=
 match C.T f with
 | some fn=>zpt evn fn args h
 | none=>none
def ev (C:Cx):Nat→Yl→IR→Fr→List Ob→Option Rs
 | 0=>fun _ _ _ _=>none
 | n+1=>fun Y=>evS (ev C n Y) ⟨zm7 C (ev C n y0),Y,fun Y'=>itW C (ev C n Y')⟩
def acall (C:Cx) (n:Nat) (f:Nat) (args:List V) (h:List Ob):Option (Out×List Ob):=zm7 C (ev C n y0) f args h
def crN (C:Cx) (Y:Yl) (n:Nat):zaw:=⟨acall C n,Y,fun Y'=>itW C (ev C n Y')⟩
end Go.RR
namespace Go.RR
open Go.RowKit
structure Lc where
 b:Nat
 d:Nat
 v:Nat
 cap:Nat
 sz:Nat
 tot:Nat
 lp:Loop
def Lc.ref (L:Lc):Value:=if L.cap=0 then .map (some L.b) else if L.cap=2 then .pointer (some ⟨L.b,0,none⟩) else .func (.yield L.b) #[] #[]
abbrev Nu:=Nat→Option Lc
def nu0:Nu:=fun _=>none
def OwnV (L:Lc) (off len tot:Nat) (v:Value):Prop:=
 L.d≤off∧L.v≤off∧off+len≤tot∧tot≤L.d+L.cap∧∃ a,v=.slice a len (L.cap-(off-L.d))∧(off-L.d<L.cap→a=some ⟨L.b,(off-L.d)*L.sz,none⟩)
inductive Rel (w:World) (M:Nat→Prop):Nu→V→Value→Prop
 | int {ν k n}:Rel w M ν (.int k n) (.int k n)
 | bool {ν b}:Rel w M ν (.bool b) (.bool b)
 | str {ν s}:Rel w M ν (.str s) (.string ⟨s.toArray⟩)
 | agg {ν xs vs} (hl:vs.size=xs.length) (h1:∀ x∈xs,x.one=true) (h:∀ i (hi:i<xs.length),Rel w M ν xs[i] (vs.getD i undef)):Rel w M ν (.agg xs) (.agg vs)
 | tup {ν xs vs} (hl:vs.size=xs.length) (h:∀ i (hi:i<xs.length),Rel w M ν xs[i] (vs.getD i undef)):Rel w M ν (.tup xs) (.tuple vs)
 | sl0 {ν sz a c}:Rel w M ν (.sl sz []) (.slice a 0 c)
 | sl {ν xs b o c sz} (rd:Nat→Value) (hc:xs.length≤c) (hM:M b) (hz:0<sz) (h:∀ i (hi:i<xs.length),Rel w M nu0 xs[i] (rd i))
   (h1:∀ x∈xs,x≠.und∧∀ ys,x≠.tup ys)
   (hs:∀ i,i<xs.length→(rd i).cells.size=sz) (hm:∀ i,i<xs.length→∀ k,k<sz→w.cell? ⟨b,o+i*sz+k,none⟩=(rd i).cells[k]?) :
   Rel w M ν (.sl sz xs) (.slice (some ⟨b,o,none⟩) xs.length c)
 | nsl {ν sz a}:Rel w M ν (.nsl sz) (.slice a 0 0)
 | pin {ν x k b o u} (hM:M b) (h:Rel w M nu0 x u) (h1:x≠.und∧∀ ys,x≠.tup ys) (hm:∀ j,j<u.cells.size→w.cell? ⟨b,o+j,none⟩=u.cells[j]?):Rel w M ν (.pin x k) (.pointer (some ⟨b,o+k,none⟩))
 | nilp {ν}:Rel w M ν .nilp (.pointer none)
 | fn {ν f xs vs ys us} (hl:vs.size=xs.length) (h:∀ i (hi:i<xs.length),Rel w M ν xs[i] (vs.getD i undef)) (kl:us.size=ys.length) (k:∀ i (hi:i<ys.length),Rel w M ν ys[i] (us.getD i undef)):Rel w M ν (.fn f xs ys) (.func f vs us)
 | nilf {ν}:Rel w M ν .nilf .nilFunc
 | ifc {ν t v u} (h:Rel w M ν v u):Rel w M ν (.ifc t v) (.iface t u)
 | nili {ν}:Rel w M ν .nili .nilIface
 | own {ν id off len tot v L} (hv:ν id=some L) (ht:tot≤L.tot) (h1:v.oneCell'=true) (h:tot=L.tot→OwnV L off len tot v):Rel w M ν (.own id off len tot) v
 | ptr {ν id i k tot v L} (hv:ν id=some L) (ht:tot≤L.tot) (h1:v.oneCell'=true) (h:tot=L.tot→L.d≤i∧L.v≤i∧i<tot∧v=.pointer (some ⟨L.b,(i-L.d)*L.sz+k,none⟩)):Rel w M ν (.ptr id i k tot) v
 | mp {ν id v L} (hv:ν id=some L) (h1:v.oneCell'=true) (h:L.tot=0→v=L.ref):Rel w M ν (.mp id) v
 | nmp {ν}:Rel w M ν .nmp (.map none)
 | und {ν v}:Rel w M ν .und v
theorem zp3 {w:World} {M:Nat→Prop} {ν:Nu}:Rel w M ν (.tup []) undef:=.tup rfl fun i hi=>by simp at hi
def Nu.le (ν ν':Nu):Prop:=∀ id L,ν id=some L→∃ L',ν' id=some L'∧L.tot≤L'.tot∧(L.tot=L'.tot→L'=L)
theorem Nu.le_refl (ν:Nu):ν.le ν:=fun _ L h=>⟨L,h,Nat.le_refl _,fun _=>rfl⟩
theorem zqc (ν:Nu):nu0.le ν:=fun _ _ h=>by simp [nu0] at h
theorem Nu.le_trans {a b c:Nu} (h:a.le b) (k:b.le c):a.le c:=fun id L hL=>by
 obtain ⟨L1,h1,h2,h3⟩:=h id L hL
 obtain ⟨L2,k1,k2,k3⟩:=k id L1 h1
 refine ⟨L2,k1,Nat.le_trans h2 k2,fun e=>?_⟩
 have e1:L.tot=L1.tot:=by omega
 have e2:L1.tot=L2.tot:=by omega
 rw [k3 e2,h3 e1]
theorem Rel.mono {w w':World} {M M':Nat→Prop} (hw:∀ b,M b→w'.heap[b]? = w.heap[b]?) (hM:∀ b,M b→M' b) {ν:Nu} {v:V} {u:Value} (h:Rel w M ν v u) :
  ∀ {ν':Nu},ν.le ν'→Rel w' M' ν' v u:=by
 have hc:∀ b o,M b→w'.cell? ⟨b,o,none⟩=w.cell? ⟨b,o,none⟩:=fun b o hb=>World.cell?_of_block (w:=w) (hw b hb)
 induction h with
 | int=>intros;exact .int
 | bool=>intros;exact .bool
 | str=>intros;exact .str
 | agg hl h1 _ ih=>intro ν' hn;exact .agg hl h1 fun i hi=>ih i hi hn
 | tup hl _ ih=>intro ν' hn;exact .tup hl fun i hi=>ih i hi hn
 | sl0=>intros;exact .sl0
 | sl rd hl hm hz _ h1 hs hr ih=>intro ν' hn;exact .sl rd hl (hM _ hm) hz (fun i hi=>ih i hi (Nu.le_refl _)) h1 hs fun i hi k hk=>by rw [hc _ _ hm];exact hr i hi k hk
 | nsl=>intros;exact .nsl
 | pin hm _ h1 hr ih=>intro ν' hn;exact .pin (hM _ hm) (ih (Nu.le_refl _)) h1 fun j hj=>by rw [hc _ _ hm];exact hr j hj
 | nilp=>intros;exact .nilp
 | fn hl _ kl _ ih1 ih2=>intro ν' hn;exact .fn hl (fun i hi=>ih1 i hi hn) kl fun i hi=>ih2 i hi hn
 | nilf=>intros;exact .nilf
 | ifc _ ih=>intro ν' hn;exact .ifc (ih hn)
 | nili=>intros;exact .nili
 | own hv ht o1 h=>
  intro ν' hn
  obtain ⟨L',h1,h2,h3⟩:=hn _ _ hv
  exact .own h1 (Nat.le_trans ht h2) o1 fun e=>by
   have e1:=h3 (by omega)
   subst e1
   exact h e
 | ptr hv ht o1 h=>
  intro ν' hn
  obtain ⟨L',h1,h2,h3⟩:=hn _ _ hv
  exact .ptr h1 (Nat.le_trans ht h2) o1 fun e=>by
   have e1:=h3 (by omega)
   subst e1
   exact h e
 | mp hv o1 h=>
  intro ν' hn
  obtain ⟨L',h1,h2,h3⟩:=hn _ _ hv
  exact .mp h1 o1 fun e=>by
   have e1:=h3 (by omega)
   subst e1
   exact h e
 | nmp=>intros;exact .nmp
 | und=>intros;exact .und
mutual
theorem Rel.data {w M ν}:∀ {v:V} {u:Value},v.data=true→Rel w M ν v u→∀ ν',Rel w M ν' v u
 | .agg xs,_,hd,.agg hl h1 h,ν'=>.agg hl h1 fun i hi=>dataL_rel hd (i:=i) hi (h i hi) ν'
 | .tup xs,_,hd,.tup hl h,ν'=>.tup hl fun i hi=>dataL_rel hd hi (h i hi) ν'
 | .fn f a b,_,hd,.fn hl h kl k,ν'=>by
  simp [V.data] at hd
  exact .fn hl (fun i hi=>dataL_rel hd.1 hi (h i hi) ν') kl fun i hi=>dataL_rel hd.2 hi (k i hi) ν'
 | .ifc t v,_,hd,.ifc h,ν'=>.ifc (Rel.data (v:=v) hd h ν')
 | .int _ _,_,_,.int,_=>.int
 | .bool _,_,_,.bool,_=>.bool
 | .str _,_,_,.str,_=>.str
 | .sl _ _,_,_,.sl0,_=>.sl0
 | .sl _ _,_,_,.sl rd a b c d e f g,_=>.sl rd a b c d e f g
 | .nsl _,_,_,.nsl,_=>.nsl
 | .pin _ _,_,_,.pin a b c d,_=>.pin a b c d
 | .nilp,_,_,.nilp,_=>.nilp
 | .nilf,_,_,.nilf,_=>.nilf
 | .nili,_,_,.nili,_=>.nili
 | .nmp,_,_,.nmp,_=>.nmp
 | .und,_,_,.und,_=>.und
theorem dataL_rel {w M ν}:∀ {xs:List V} {i:Nat} {u:Value},dataL xs=true→(hi:i<xs.length)→Rel w M ν xs[i] u→∀ ν',Rel w M ν' xs[i] u
 | x::_,0,_,hd,_,h,ν'=>Rel.data (by simp [dataL] at hd;exact hd.1) h ν'
 | _::r,i+1,_,hd,hi,h,ν'=>dataL_rel (xs:=r) (i:=i) (by simp [dataL] at hd;exact hd.2) (by simpa using hi) h ν'
end
mutual
theorem Rel.flat {w M ν} {w':World} {M':Nat→Prop} {ν':Nu}:∀ {v:V} {u:Value},v.flat=true→Rel w M ν v u→Rel w' M' ν' v u
 | .agg xs,_,hd,.agg hl h1 h=>.agg hl h1 fun i hi=>flatL_rel hd (i:=i) hi (h i hi)
 | .tup xs,_,hd,.tup hl h=>.tup hl fun i hi=>flatL_rel hd hi (h i hi)
 | .fn f a b,_,hd,.fn hl h kl k=>by
  simp [V.flat] at hd
  exact .fn hl (fun i hi=>flatL_rel hd.1 hi (h i hi)) kl fun i hi=>flatL_rel hd.2 hi (k i hi)
 | .ifc t v,_,hd,.ifc h=>.ifc (Rel.flat (v:=v) hd h)
 | .int _ _,_,_,.int=>.int
 | .bool _,_,_,.bool=>.bool
 | .str _,_,_,.str=>.str
 | .sl _ _,_,_,.sl0=>.sl0
 | .sl _ xs,_,hd,.sl rd a b c d e f g=>by
  simp [V.flat] at hd
  subst hd
  exact .sl0
 | .nsl _,_,_,.nsl=>.nsl
 | .nilp,_,_,.nilp=>.nilp
 | .nilf,_,_,.nilf=>.nilf
 | .nili,_,_,.nili=>.nili
 | .nmp,_,_,.nmp=>.nmp
 | .und,_,_,.und=>.und
theorem flatL_rel {w M ν} {w':World} {M':Nat→Prop} {ν':Nu}:∀ {xs:List V} {i:Nat} {u:Value},flatL xs=true→(hi:i<xs.length)→Rel w M ν xs[i] u→Rel w' M' ν' xs[i] u
 | x::_,0,_,hd,_,h=>Rel.flat (by simp [flatL] at hd;exact hd.1) h
 | _::r,i+1,_,hd,hi,h=>flatL_rel (xs:=r) (i:=i) (by simp [flatL] at hd;exact hd.2) (by simpa using hi) h
end
structure HRow (w:World) (M:Nat→Prop) (ν:Nu) (L:Lc) (sz:Nat) (xs:List V):Prop where
 tot:L.tot=xs.length
 d:L.d≤xs.length
 dv:L.d≤L.v
 cap:xs.length≤L.d+L.cap
 mine:¬M L.b
 sz:0<L.sz∧L.sz=sz
 blk:∃ T,w.shape? L.b=some (T,L.cap*L.sz)
 fz:∀ j,j<L.cap*L.sz→w.frozen? ⟨L.b,j,none⟩=false
 el:∀ i (hi:i<xs.length),L.v≤i→xs[i]≠.und∧(∀ ys,xs[i]≠.tup ys)∧∃ u,Rel w M ν xs[i] u∧u.cells.size=L.sz∧∀ k,k<L.sz→w.cell? ⟨L.b,(i-L.d)*L.sz+k,none⟩=u.cells[k]?
structure HMap (w:World) (M:Nat→Prop) (ν:Nu) (L:Lc) (es:List (V×V×Nat)) (clk:Nat):Prop where
 tot:L.tot=0
 cap:L.cap=0
 mine:¬M L.b
 blk:∃ ent,w.heap[L.b]? = some (.map ent clk)∧ent.size=es.length∧∀ i (hi:i<es.length),∃ e,ent[i]? = some e∧Rel w M ν es[i].1 e.key∧Rel w M ν es[i].2.1 e.val∧e.born=es[i].2.2
def Jp.code:Jp→Code
 | .ret=>.ret
 | .ext id=>.exit id
 | .gto l=>.goto l
def Lp.st:Lp→LoopState
 | .rdy=>.ready
 | .bsy=>.busy
 | .fin _=>.done
def Lp.pe:Lp→Option Code
 | .fin j=>some j.code
 | _=>none
structure HLp (w:World) (M:Nat→Prop) (L:Lc) (s:Lp):Prop where
 tot:L.tot=0
 cap:L.cap≠0
 mine:¬M L.b
 blk:w.heap[L.b]? = some (.loop { L.lp with state:=s.st,pending:=s.pe })
structure HIt (w:World) (M:Nat→Prop) (ν:Nu) (L:Lc) (m:Nat) (seen:List Nat) (since last:Nat):Prop where
 tot:L.tot=0
 cap:L.cap=2
 mine:¬M L.b
 blk:∃ bm Lm,ν m=some Lm∧(Lm.tot=0→Lm.b=bm)∧w.heap[L.b]? = some (.mapIter (some bm) since seen.toArray last)
def HOb (w:World) (M:Nat→Prop) (ν:Nu) (L:Lc):Ob→Prop
 | .row sz xs=>HRow w M ν L sz xs
 | .map es c=>HMap w M ν L es c
 | .lp s=>HLp w M L s
 | .itr m seen since last=>HIt w M ν L m seen since last
 | .dead=>True
def live:Ob→Bool
 | .dead=>false
 | _=>true
structure HR (w:World) (M:Nat→Prop) (ν:Nu) (h:List Ob):Prop where
 ob:∀ i (hi:i<h.length),live h[i]=true→∃ L,ν i=some L∧HOb w M ν L h[i]
 apart:∀ i j (hi:i<h.length) (hj:j<h.length) Li Lj,i≠j→live h[i]=true→live h[j]=true→ν i=some Li→ν j=some Lj→Li.b≠Lj.b
 new:∀ i,h.length≤i→ν i=none
 lt:∀ b,M b→b<w.heap.size
def Mine (ν:Nu) (h:List Ob) (b:Nat):Prop:=∃ i,∃ hi:i<h.length,live h[i]=true∧∃ L,ν i=some L∧L.b=b
structure Stp (w w':World) (mine:Nat→Prop):Prop where
 os:w'.os=w.os
 tape:w'.tape=w.tape
 output:w'.output=w.output
 size:w.heap.size≤w'.heap.size
 block:∀ k,k<w.heap.size→¬mine k→w'.heap[k]? = w.heap[k]?
theorem Stp.refl (w:World) (m:Nat→Prop):Stp w w m:=⟨rfl,rfl,rfl,Nat.le_refl _,fun _ _ _=>rfl⟩
theorem Rel.one {w M ν v u} (h:Rel w M ν v u) (h1:v.one=true):u.oneCell'=true:=by
 cases h<;>first|rfl|assumption|(simp [V.one] at h1)
theorem V.one_of {v:V} (h1:v≠.und) (h2:∀ ys,v≠.tup ys) (h3:∀ xs,v≠.agg xs):v.one=true∧v.cells=[v]∧v.size=1:=by
 cases v<;>simp_all [V.one,V.cells,V.size]
theorem zr5 {u:Value} (h:u.oneCell'=true):u.cells=#[u]:=by
 cases u<;>simp_all [Value.oneCell',Value.cells]
theorem Rel.cells {w M ν} {v:V} {u:Value} (h:Rel w M ν v u) (h1:v≠.und) (h2:∀ ys,v≠.tup ys):u.cells.size=v.cells.length∧v.cells.length=v.size ∧
  ∀ i (hi:i<v.cells.length),Rel w M ν v.cells[i] (u.cells.getD i undef)∧v.cells[i].one=true:=by
 by_cases h3:∃ xs,v=.agg xs
 ·obtain ⟨xs,rfl⟩:=h3
  cases h with
  | agg hl ho h=>exact ⟨hl,rfl,fun i hi=>⟨h i hi,ho _ (List.getElem_mem _)⟩⟩
 ·obtain ⟨e1,e2,e3⟩:=V.one_of h1 h2 (fun xs e=>h3 ⟨xs,e⟩)
  have e4:=zr5 (h.one e1)
  rw [e2,e3,e4]
  refine ⟨rfl,rfl,fun i hi=>?_⟩
  have:i=0:=by simpa using hi
  subst this
  exact ⟨by simpa using h,e1⟩
theorem HOb.mono {w w':World} {M M':Nat→Prop} {ν ν':Nu} {L:Lc} {x:Ob} (hw:∀ b,M b→w'.heap[b]? = w.heap[b]?) (hM:∀ b,M b→M' b) (hn:ν.le ν') (hb:live x=true→w'.heap[L.b]? = w.heap[L.b]? ∧ ¬M' L.b) (h:HOb w M ν L x):HOb w' M' ν' L x:=by
 have hr:∀ v u,Rel w M ν v u→Rel w' M' ν' v u:=fun v u hv=>hv.mono hw hM hn
 cases x with
 | row sz xs=>
  obtain ⟨hb,hm⟩:=hb rfl
  obtain ⟨a1,a2,a0,a3,a4,a5,⟨T,b1⟩,b2,b3⟩:=h
  have hs:w'.shape? L.b=w.shape? L.b:=by simp [World.shape?,hb]
  exact ⟨a1,a2,a0,a3,hm,a5,⟨T,by rw [hs];exact b1⟩,fun j hj=>by rw [World.frozen?_of_block (w:=w) hb];exact b2 j hj,fun i hi hd=>by
   obtain ⟨c1,c2,u,c3,c4,c5⟩:=b3 i hi hd
   exact ⟨c1,c2,u,hr _ _ c3,c4,fun k hk=>by rw [World.cell?_of_block (w:=w) hb];exact c5 k hk⟩⟩
 | map es c=>
  obtain ⟨hb,hm⟩:=hb rfl
  obtain ⟨a1,a0,a2,ent,b1,b2,b3⟩:=h
  exact ⟨a1,a0,hm,ent,by rw [hb];exact b1,b2,fun i hi=>by
   obtain ⟨e,c1,c2,c3,c4⟩:=b3 i hi
   exact ⟨e,c1,hr _ _ c2,hr _ _ c3,c4⟩⟩
 | lp s=>
  obtain ⟨hb,hm⟩:=hb rfl
  obtain ⟨a1,a2,a3,a4⟩:=h
  exact ⟨a1,a2,hm,by rw [hb];exact a4⟩
 | itr m seen since last=>
  obtain ⟨hb,hm⟩:=hb rfl
  obtain ⟨a1,a2,a3,bm,Lm,a4,a5,a6⟩:=h
  obtain ⟨L',c1,c2,c3⟩:=hn m Lm a4
  exact ⟨a1,a2,hm,bm,L',c1,fun e=>by
   have e1:Lm.tot=L'.tot:=by omega
   rw [c3 e1]
   exact a5 (by omega),by rw [hb];exact a6⟩
 | dead=>trivial
def FrR (w:World) (M:Nat→Prop) (ν:Nu) (fr:Fr) (tmps:Array Value):Prop:=∀ t,Rel w M ν (get fr t) (tmps.getD t undef)
theorem FrR.mono {w w' M M' ν ν' fr tmps} (h:FrR w M ν fr tmps) (hw:∀ b,M b→w'.heap[b]? = w.heap[b]?) (hM:∀ b,M b→M' b) (hn:Nu.le ν ν'):FrR w' M' ν' fr tmps:=
 fun t=>(h t).mono hw hM hn
def vvN:V→Value→Bool
 | .nsl _,.slice none 0 0=>true
 | .nilp,.pointer none=>true
 | .nilf,.nilFunc=>true
 | .nili,.nilIface=>true
 | .nmp,.map none=>true
 | _,_=>false
mutual
def vx:V→Value→Bool
 | .int k n,u=>match u with
  | .int k' n'=>k==k'&&n==n'
  | _=>false
 | .bool b,u=>match u with
  | .bool b'=>b==b'
  | _=>false
 | .str l,u=>match u with
  | .string s=>s.data.toList==l
  | _=>false
 | .agg xs,u=>match u with
  | .agg cs=>vxL xs cs.toList
  | _=>false
 | .nsl n,u=>vvN (.nsl n) u
 | .nilp,u=>vvN .nilp u
 | .nilf,u=>vvN .nilf u
 | .nili,u=>vvN .nili u
 | .nmp,u=>vvN .nmp u
 | .und,_=>false
 | .tup _,_=>false
 | .sl _ _,_=>false
 | .pin _ _,_=>false
 | .fn _ _ _,_=>false
 | .ifc _ _,_=>false
 | .own _ _ _ _,_=>false
 | .ptr _ _ _ _,_=>false
 | .mp _,_=>false
def vxL:List V→List Value→Bool
 | [],cs=>cs.isEmpty
 | x::xs,cs=>match cs with
  | []=>false
  | c::cs=>vx x c&&x.one&&vxL xs cs
end
def vv (u:Value) (v:V):Bool:=vx v u
def mO:Operand→O→Bool
 | .tmp t,.t s=>t==s
 | .const v,.c x=>vv v x
 | .func f,.c (.fn (.func g) [] [])=>f==g
 | _,_=>false
theorem mkStr (s:ByteArray) (l:List UInt8) (h:(s.data.toList==l)=true):s=⟨l.toArray⟩:=by
 have e:s.data.toList=l:=by simpa using h
 subst e
 simp
theorem zsM {w M ν} {v:V} {u:Value} (h:vvN v u=true):Rel w M ν v u:=by
 unfold vvN at h
 split at h
 ·exact .nsl
 ·exact .nilp
 ·exact .nilf
 ·exact .nili
 ·exact .nmp
 ·cases h
mutual
theorem zDi {w M ν}:∀ {v:V} {u:Value},vx v u=true→Rel w M ν v u
 | .int k n,u,h=>by
  simp only [vx] at h
  split at h
  ·simp only [Bool.and_eq_true,beq_iff_eq] at h
   rw [h.1,h.2]
   exact .int
  ·cases h
 | .bool b,u,h=>by
  simp only [vx] at h
  split at h
  ·rw [beq_iff_eq] at h
   rw [h]
   exact .bool
  ·cases h
 | .str l,u,h=>by
  simp only [vx] at h
  split at h
  ·rename_i s
   rw [mkStr s l h]
   exact .str
  ·cases h
 | .agg xs,u,h=>by
  simp only [vx] at h
  split at h
  ·rename_i cs
   have:=vxL_rel (w:=w) (M:=M) (ν:=ν) (cs:=cs.toList) (xs:=xs) h
   exact .agg (by simpa using this.1) this.2.1 fun i hi=>by simpa using this.2.2 i hi
  ·cases h
 | .nsl n,u,h=>zsM h
 | .nilp,u,h=>zsM h
 | .nilf,u,h=>zsM h
 | .nili,u,h=>zsM h
 | .nmp,u,h=>zsM h
theorem vxL_rel {w M ν}:∀ {xs:List V} {cs:List Value},vxL xs cs=true→cs.length=xs.length∧(∀ x∈xs,x.one=true)∧∀ i (hi:i<xs.length),Rel w M ν xs[i] (cs.getD i undef)
 | [],cs,h=>by
  simp only [vxL,List.isEmpty_iff] at h
  subst h
  exact ⟨rfl,by simp,fun i hi=>by simp at hi⟩
 | x::xs,[],h=>by simp [vxL] at h
 | x::xs,c::cs,h=>by
  simp only [vxL,Bool.and_eq_true] at h
  have:=vxL_rel (w:=w) (M:=M) (ν:=ν) (cs:=cs) (xs:=xs) h.2
  refine ⟨by simpa using this.1,by simpa using ⟨h.1.2,this.2.1⟩,fun i hi=>?_⟩
  cases i with
  | zero=>simpa using zDi h.1.1
  | succ i=>simpa using this.2.2 i (by simpa using hi)
end
theorem zAq {w M ν} {u:Value} {v:V} (h:vv u v=true):Rel w M ν v u:=zDi h
theorem zaM {w M ν} {fr:Fr} {a:Act} (hf:FrR w M ν fr a.tmps) {x:Operand} {y:O} (h:mO x y=true):Rel w M ν (y.ev fr) (a.eval x):=by
 unfold mO at h
 split at h
 ·have e:=beq_iff_eq.1 h
  subst e
  exact hf _
 ·exact zAq h
 ·have e:=beq_iff_eq.1 h
  subst e
  exact .fn rfl (fun i hi=>by simp at hi) rfl (fun i hi=>by simp at hi)
 ·simp at h
structure OpOK (P:Program) (o:Oper) (a:Act) (w:World) (M:Nat→Prop) (ν:Nu) (h:List Ob) (v:V) (wv:Option (Nat×Ob)):Prop where
 ok:∃ w' ν' u,((execOp a.eval o).run P w=.ok (.value u) w'∨((execOp a.eval o).run P w=.ok .skip w'∧u=undef))∧Rel w' M ν' v u∧HR w' M ν' (wr h wv)∧ν.le ν'∧Stp w w' (Mine ν h)∧(∀ b,Mine ν' (wr h wv) b→Mine ν h b∨w.heap.size≤b)∧∀ i,(∀ x,wv≠some (i,x))→ν' i=ν i
variable {P:Program} {o:Oper} {a:Act} {w:World} {M:Nat→Prop} {ν:Nu} {h:List Ob} {fr:Fr}
theorem OpOK.pure (hh:HR w M ν h) {v:V} {u:Value} (hr:(execOp a.eval o).run P w=.ok (.value u) w) (hv:Rel w M ν v u):OpOK P o a w M ν h v none:=
 ⟨w,ν,u,.inl hr,hv,hh,Nu.le_refl _,Stp.refl _ _,fun _ hb=>.inl hb,fun _ _=>rfl⟩
theorem HR.same {w':World} (hh:HR w M ν h) (e:w'.heap=w.heap):HR w' M ν h:=by
 refine ⟨fun i hi hl=>?_,hh.apart,hh.new,fun b hb=>by rw [e];exact hh.lt b hb⟩
 obtain ⟨L,h1,h2⟩:=hh.ob i hi hl
 exact ⟨L,h1,HOb.mono (fun _ _=>by rw [e]) (fun _ hb=>hb) (Nu.le_refl _) (fun hl=>⟨by rw [e],by
  cases hx:h[i] with
  | row=>rw [hx] at h2;exact h2.mine
  | map=>rw [hx] at h2;exact h2.mine
  | lp=>rw [hx] at h2;exact h2.mine
  | itr=>rw [hx] at h2;exact h2.mine
  | dead=>rw [hx] at hl;cases hl⟩) h2⟩
theorem Rel.int_inv {k n u} (h:Rel w M ν (.int k n) u):u=.int k n:=by cases h;rfl
theorem Rel.bool_inv {b u} (h:Rel w M ν (.bool b) u):u=.bool b:=by cases h;rfl
theorem Rel.str_inv {s u} (h:Rel w M ν (.str s) u):u=.string ⟨s.toArray⟩:=by cases h;rfl
theorem Rel.agg_inv {xs u} (h:Rel w M ν (.agg xs) u):∃ vs:Array Value,u=.agg vs∧vs.size=xs.length∧(∀ x∈xs,x.one=true)∧∀ i (hi:i<xs.length),Rel w M ν xs[i] (vs.getD i undef):=by
 cases h with
 | agg hl h1 h=>exact ⟨_,rfl,hl,h1,h⟩
theorem zrN {v:V} {u:Value} (hv:Rel w M ν v u) (h1:v≠.und) (h2:∀ ys,v≠.tup ys) {ag k sz v'} (hp:RR.part ag v.cells k sz=some v') :
  (ag=true→k+sz≤u.cells.size∧Rel w M ν v' (.agg (u.cells.extract k (k+sz))))∧(ag=false→∃ c,u.cells[k]? = some c∧Rel w M ν v' c):=by
 obtain ⟨e1,e2,e3⟩:=hv.cells h1 h2
 unfold RR.part at hp
 refine ⟨fun ha=>?_,fun ha=>?_⟩
 ·subst ha
  simp only [if_true] at hp
  split at hp
  ·rename_i hle
   have hp:=Option.some.inj hp
   subst hp
   refine ⟨by omega,.agg (by simp;omega) (fun x hx=>?_) fun i hi=>?_⟩
   ·obtain ⟨i,hi,rfl⟩:=List.getElem_of_mem hx
    simp only [List.getElem_take,List.getElem_drop]
    exact (e3 _ _).2
   ·simp only [List.length_take,List.length_drop] at hi
    have:=(e3 (k+i) (by omega)).1
    simp only [List.getElem_take,List.getElem_drop]
    have e:(u.cells.extract k (k+sz)).getD i undef=u.cells.getD (k+i) undef:=by
     simp only [Array.getD_eq_getD_getElem?,Array.getElem?_extract]
     rw [if_pos (by omega)]
    rw [e]
    exact this
  ·cases hp
 ·subst ha
  simp only [Bool.false_eq_true,if_false] at hp
  obtain ⟨hk,hp⟩:=List.getElem?_eq_some_iff.1 hp
  have hku:k<u.cells.size:=by omega
  refine ⟨u.cells[k],by simp [hku],?_⟩
  have:=(e3 k hk).1
  rw [hp] at this
  simpa [hku] using this
variable {P:Program} {o:Oper} {a:Act} {w:World} {M:Nat→Prop} {ν:Nu} {h:List Ob} {fr:Fr}
theorem zzO {op:BinOp} {t:TypeId} {x y:Operand} {u1 u2:Value} {v1 v2 v:V} (h1:Rel w M ν v1 u1) (h2:Rel w M ν v2 u2) (hb:bin op v1 v2=some v) :
  ∃ u,(do eqGuard op t x y u1 u2;binOp op t u1 u2:Sem Value).run P w=.ok u w∧Rel w M ν v u:=by
 unfold bin at hb
 split at hb
 ·rename_i k a k' b
  rw [h1.int_inv,h2.int_inv]
  have hg:(eqGuard op t x y (.int k a) (.int k' b)).run P w=.ok () w:=by cases op<;>simp [eqGuard]
  simp only [Sem.run_bind,hg,Result.andThen_ok]
  cases op<;>simp only [shI,zvc] at hb
  case shl=>
   split at hb
   ·cases hb
   ·rename_i hlt
    cases hb
    exact ⟨_,by simp only [binOp,Op.shift,if_neg hlt];rfl,.int⟩
  case shr=>
   split at hb
   ·cases hb
   ·rename_i hlt
    cases hb
    exact ⟨_,by simp only [binOp,Op.shift,if_neg hlt];rfl,.int⟩
  case quo=>
   split at hb<;>first|(cases hb;done)|skip
   rename_i e
   subst e
   split at hb
   ·cases hb
   ·rename_i hz
    cases hb
    exact ⟨_,by simp only [binOp,ne_eq,not_true,if_false,Op.intDiv,if_neg hz];rfl,.int⟩
  case rem=>
   split at hb<;>first|(cases hb;done)|skip
   rename_i e
   subst e
   split at hb
   ·cases hb
   ·rename_i hz
    cases hb
    exact ⟨_,by simp only [binOp,ne_eq,not_true,if_false,Op.intDiv,if_neg hz];rfl,.int⟩
  all_goals
   split at hb<;>first|(cases hb;done)|skip
   rename_i e
   subst e
   cases hb
   exact ⟨_,by simp only [binOp,ne_eq,not_true,if_false,Op.intArith,Op.intBits,Op.intCmp];rfl,by first|exact .int|exact .bool⟩
 ·rename_i a b
  rw [h1.str_inv,h2.str_inv]
  have hg:(eqGuard op t x y (.string ⟨a.toArray⟩) (.string ⟨b.toArray⟩)).run P w=.ok () w:=by cases op<;>simp [eqGuard]
  simp only [Sem.run_bind,hg,Result.andThen_ok]
  cases op<;>simp only [binS] at hb
  case add=>
   split at hb
   ·rename_i hle
    cases hb
    have hn:¬(((a.length+b.length:Nat):Int)>IntKind.i64.max):=by
     have e:IntKind.i64.max=9223372036854775807:=by decide
     rw [e]
     omega
    refine ⟨.string ⟨(a++b).toArray⟩,?_,.str⟩
    have hs:(⟨a.toArray⟩:ByteArray).size+(⟨b.toArray⟩:ByteArray).size=a.length+b.length:=by simp [ByteArray.size]
    simp only [binOp,Op.stringOp,hs,if_neg hn]
    have e:(⟨a.toArray⟩:ByteArray)++(⟨b.toArray⟩:ByteArray)=⟨(a++b).toArray⟩:=by
     apply ByteArray.ext
     simp
    rw [e]
    rfl
   ·cases hb
  all_goals first
   | (cases hb;done)
   | (cases hb;exact ⟨_,by simp only [binOp,Op.stringOp,ByteArray.toList_mk];rfl,.bool⟩)
 ·cases hb
theorem zCD {op:UnOp} {u1:Value} {v1 v:V} {x:O} (h1:Rel w M ν v1 u1) (e1:x.ev fr=v1) {wv} (hb:op1 0 fr h (.un op x)=some (v,wv)) :
  ∃ u,(Op.unary op u1).run P w=.ok u w∧Rel w M ν v u∧wv=none:=by
 simp only [op1,e1] at hb
 split at hb
 ·cases hb
  rw [h1.int_inv]
  exact ⟨_,by simp only [Op.unary,Op.intArith];rfl,.int,rfl⟩
 ·cases hb
  rw [h1.bool_inv]
  exact ⟨_,by simp only [Op.unary];rfl,.bool,rfl⟩
 ·simp only [zvc,Option.map_some,Option.some.injEq,Prod.mk.injEq] at hb
  obtain ⟨rfl,rfl⟩:=hb
  rw [h1.int_inv]
  exact ⟨_,by simp only [Op.unary,Op.intBits];rfl,.int,rfl⟩
 ·cases hb
mutual
def mQ (P:Program):Q→TypeId→Bool
 | .int,t=>match P.underlying t with
  | some (.int _)=>true
  | _=>false
 | .bool,t=>match P.underlying t with
  | some .bool=>true
  | _=>false
 | .str,t=>match P.underlying t with
  | some .string=>true
  | _=>false
 | .agg fs,t=>match P.underlying t with
  | some (.struct gs)=>!P.stoodInHeld t&&mQs P fs gs.toList
  | _=>false
def mQs (P:Program):List (Nat×Nat×Q)→List Field→Bool
 | [],[]=>true
 | (off,sz,q)::r,f::gs=>f.name != "_" && f.offset==off&&(match P.info? f.type with
  | some i=>i.size==sz
  | none=>false)&&mQ P q f.type&&mQs P r gs
 | _,_=>false
end
mutual
def Q.dep:Q→Nat
 | .agg fs=>depL fs+1
 | _=>1
def depL:List (Nat×Nat×Q)→Nat
 | []=>0
 | (_,_,q)::r=>max q.dep (depL r)
end
theorem zw7 {q:Q} {t:TypeId} (hm:mQ P q t=true):(isAgg t).run P w=.ok (zzl q) w:=by
 cases q<;>simp only [mQ] at hm<;>split at hm<;>first|(cases hm;done)|(rename_i e;simp [isAgg,run_underlying e,zzl])
theorem zcN {t:TypeId} {i:TypeInfo} (hi:P.info? t=some i):(sizeOf t).run P w=.ok i.size w:=by
 simp [sizeOf,run_typeInfo w hi]
theorem zr3 {v:V} {u:Array Value} {t:TypeId} {q:Q} {off sz:Nat} {i:TypeInfo} (hv:Rel w M ν v (.agg u)) (h1:v≠.und) (h2:∀ ys,v≠.tup ys) (hm:mQ P q t=true) (hi:P.info? t=some i) (hs:i.size=sz)
  {v':V} (hp:RR.part (zzl q) v.cells off sz=some v'):∃ u',(Go.part t u off).run P w=.ok u' w∧Rel w M ν v' u':=by
 have hp':=zrN hv h1 h2 hp
 unfold Go.part
 simp only [Sem.run_bind,zw7 hm,Result.andThen_ok]
 cases hq:zzl q with
 | true=>
  obtain ⟨hle,hr⟩:=hp'.1 hq
  refine ⟨_,?_,hr⟩
  simp [zcN hi,hs,Value.cells]
 | false=>
  obtain ⟨c,hc,hr⟩:=hp'.2 hq
  refine ⟨c,?_,hr⟩
  simp only [Value.cells] at hc
  simp [hc]
theorem zD2 {v1 v2:V} {b:Bool} (h:eqv .int v1 v2=some b):∃ k x y,v1=.int k x∧v2=.int k y∧b=(x==y):=by
 cases v1<;>cases v2<;>simp [eqv] at h
 rename_i k x k' y
 exact ⟨k,x,y,rfl,by rw [h.1],h.2.symm⟩
theorem zxU {v1 v2:V} {b:Bool} (h:eqv .bool v1 v2=some b):∃ x y,v1=.bool x∧v2=.bool y∧b=(x==y):=by
 cases v1<;>cases v2<;>simp [eqv] at h
 rename_i x y
 exact ⟨x,y,rfl,rfl,h.symm⟩
theorem zDt {v1 v2:V} {b:Bool} (h:eqv .str v1 v2=some b):∃ x y,v1=.str x∧v2=.str y∧b=(x==y):=by
 cases v1<;>cases v2<;>simp [eqv] at h
 rename_i x y
 exact ⟨x,y,rfl,rfl,h.symm⟩
theorem zAp {fs} {v1 v2:V} {b:Bool} (h:eqv (.agg fs) v1 v2=some b):∃ x y,v1=.agg x∧v2=.agg y∧eqvs fs x y=some b:=by
 cases v1<;>cases v2<;>simp [eqv] at h
 rename_i x y
 exact ⟨x,y,rfl,rfl,h⟩
mutual
theorem zsJ:∀ {q:Q} {t:TypeId} {v1 v2:V} {u1 u2:Value} {b:Bool} (d:Nat),q.dep≤d→mQ P q t=true→Rel w M ν v1 u1→Rel w M ν v2 u2→eqv q v1 v2=some b →
  (Op.equalIn d t u1 u2).run P w=.ok b w
 | .int,t,v1,v2,u1,u2,b,d,hd,hm,h1,h2,he=>by
  obtain ⟨k,x,y,rfl,rfl,rfl⟩:=zD2 he
  rw [h1.int_inv,h2.int_inv]
  cases d with
  | zero=>simp [Q.dep] at hd
  | succ d=>
   simp only [mQ] at hm
   split at hm
   ·rename_i e
    simp [Op.equalIn,run_underlying e]
   ·cases hm
 | .bool,t,v1,v2,u1,u2,b,d,hd,hm,h1,h2,he=>by
  obtain ⟨x,y,rfl,rfl,rfl⟩:=zxU he
  rw [h1.bool_inv,h2.bool_inv]
  cases d with
  | zero=>simp [Q.dep] at hd
  | succ d=>
   simp only [mQ] at hm
   split at hm
   ·rename_i e
    simp [Op.equalIn,run_underlying e]
   ·cases hm
 | .str,t,v1,v2,u1,u2,b,d,hd,hm,h1,h2,he=>by
  obtain ⟨x,y,rfl,rfl,rfl⟩:=zDt he
  rw [h1.str_inv,h2.str_inv]
  cases d with
  | zero=>simp [Q.dep] at hd
  | succ d=>
   simp only [mQ] at hm
   split at hm
   ·rename_i e
    rw [run_equalIn_string _ _ _ _ _ e]
    simp
   ·cases hm
 | .agg fs,t,v1,v2,u1,u2,b,d,hd,hm,h1,h2,he=>by
  obtain ⟨x,y,rfl,rfl,he⟩:=zAp he
  obtain ⟨c1,rfl,_⟩:=h1.agg_inv
  obtain ⟨c2,rfl,_⟩:=h2.agg_inv
  simp only [Q.dep] at hd
  cases d with
  | zero=>omega
  | succ d=>
   simp only [mQ] at hm
   split at hm<;>try (cases hm;done)
   rename_i gs e
   simp only [Bool.and_eq_true,Bool.not_eq_true'] at hm
   have hf:P.fieldsOf t=gs:=by simp [Program.fieldsOf,e]
   rw [run_equalIn_struct w d t c1 c2 (by rw [hf];exact e) hm.1,hf]
   exact eqvs_sound d (by omega) hm.2 h1 h2 he
 termination_by q=>SizeOf.sizeOf q
theorem eqvs_sound:∀ {fs:List (Nat×Nat×Q)} {gs:List Field} {xs ys:List V} {c1 c2:Array Value} {b:Bool} (d:Nat),depL fs≤d→mQs P fs gs=true→Rel w M ν (.agg xs) (.agg c1)→Rel w M ν (.agg ys) (.agg c2)→eqvs fs xs ys=some b →
  (Op.eqFields d c1 c2 gs).run P w=.ok b w
 | [],[],xs,ys,c1,c2,b,d,_,_,h1,h2,he=>by
  simp only [eqvs] at he
  cases he
  simp [Op.eqFields]
 | [],_::_,xs,ys,c1,c2,b,d,_,hm,h1,h2,he=>by simp [mQs] at hm
 | _::_,[],xs,ys,c1,c2,b,d,_,hm,h1,h2,he=>by simp [mQs] at hm
 | (off,sz,q)::r,f::gs,xs,ys,c1,c2,b,d,hd,hm,h1,h2,he=>by
  simp only [mQs,Bool.and_eq_true] at hm
  obtain ⟨⟨⟨⟨m1,m2⟩,m3⟩,m4⟩,m5⟩:=hm
  have m2:=beq_iff_eq.1 m2
  split at m3<;>try (cases m3;done)
  rename_i i hi
  have m3:=beq_iff_eq.1 m3
  simp only [depL] at hd
  simp only [eqvs] at he
  split at he<;>try (cases he;done)
  rename_i x y px py
  obtain ⟨ux,rx,sx⟩:=zr3 (q:=q) (t:=f.type) (off:=off) (sz:=sz) h1 (by simp) (by simp) m4 hi m3 px
  obtain ⟨uy,ry,sy⟩:=zr3 (q:=q) (t:=f.type) (off:=off) (sz:=sz) h2 (by simp) (by simp) m4 hi m3 py
  have hn:f.name ≠ "_" := by simpa using m1
  rw [Op.eqFields,if_pos hn]
  rw [←m2] at rx ry
  simp only [Sem.run_bind,rx,ry,Result.andThen_ok]
  split at he
  ·rename_i e
   rw [zsJ d (by omega) m4 sx sy e]
   simp only [Result.andThen_ok,Bool.not_true,Bool.false_eq_true,if_false]
   exact eqvs_sound d (by omega) m5 h1 h2 he
  ·rename_i e
   cases he
   rw [zsJ d (by omega) m4 sx sy e]
   simp
  ·cases he
 termination_by fs=>SizeOf.sizeOf fs
end
variable {P:Program} {o:Oper} {a:Act} {w:World} {M:Nat→Prop} {ν:Nu} {h:List Ob} {fr:Fr}
theorem HOb.mine {L:Lc} {x:Ob} (h:HOb w M ν L x) (hl:live x=true):¬M L.b:=by
 cases x with
 | row=>exact HRow.mine h
 | map=>exact HMap.mine h
 | lp=>exact HLp.mine h
 | itr=>exact HIt.mine h
 | dead=>cases hl
theorem zCc {b:Nat} {T:TypeId} {n:Nat} (h:w.shape? b=some (T,n)):b<w.heap.size:=by
 unfold World.shape? at h
 rcases Nat.lt_or_ge b w.heap.size with h'|h'
 ·exact h'
 ·rw [Array.getElem?_eq_none h'] at h
  cases h
theorem HOb.lt {L:Lc} {x:Ob} (h:HOb w M ν L x) (hl:live x=true):L.b<w.heap.size:=by
 cases x with
 | row=>obtain ⟨T,hT⟩:=HRow.blk h;exact zCc hT
 | map=>
  obtain ⟨ent,hT,_⟩:=HMap.blk h
  exact (Array.getElem?_eq_some_iff.1 hT).1
 | lp=>exact (Array.getElem?_eq_some_iff.1 (HLp.blk h)).1
 | itr=>
  obtain ⟨bm,Lm,-,-,e⟩:=HIt.blk h
  exact (Array.getElem?_eq_some_iff.1 e).1
 | dead=>cases hl
theorem zuL {h:List Ob} {i:Nat} {x:Ob}:wr h (some (i,x))=if i<h.length then h.set i x else h++[x]:=rfl
theorem HR.add (hh:HR w M ν h) {w':World} {nid:Nat} {x:Ob} {L:Lc} (hn:ν nid=none) (hle:nid≤h.length) (hd:∀ hi:nid<h.length,live h[nid]=false) (hw:∀ k,k<w.heap.size→w'.heap[k]? = w.heap[k]?) (hsz:w.heap.size≤w'.heap.size)
  (hb:w.heap.size≤L.b) (ho:HOb w' M (fun i=>if i=nid then some L else ν i) L x) :
  HR w' M (fun i=>if i=nid then some L else ν i) (wr h (some (nid,x)))∧ν.le (fun i=>if i=nid then some L else ν i)∧(∀ b,Mine (fun i=>if i=nid then some L else ν i) (wr h (some (nid,x))) b→Mine ν h b∨w.heap.size≤b)∧∀ i,(∀ y,some (nid,x)≠some (i,y))→(fun i=>if i=nid then some L else ν i) i=ν i:=by
 have hle':ν.le (fun i=>if i=nid then some L else ν i):=fun id L1 h1=>by
  refine ⟨L1,?_,Nat.le_refl _,fun _=>rfl⟩
  by_cases e:id=nid
  ·subst e;rw [hn] at h1;cases h1
  ·simp [e,h1]
 have hlen:(wr h (some (nid,x))).length=if nid<h.length then h.length else h.length+1:=by
  rw [zuL];split<;>simp
 have hget:∀ i (hi:i<(wr h (some (nid,x))).length),i≠nid→∃ hi':i<h.length,(wr h (some (nid,x)))[i]=h[i]:=by
  intro i hi hne
  unfold wr at hi ⊢
  by_cases hlt:nid<h.length
  ·simp only [hlt,if_true,List.length_set] at hi ⊢
   exact ⟨hi,by rw [List.getElem_set_ne (Ne.symm hne)]⟩
  ·simp only [hlt,if_false,List.length_append,List.length_singleton] at hi ⊢
   have:i<h.length:=by omega
   exact ⟨this,by rw [List.getElem_append_left this]⟩
 have hnew:∀ (hi:nid<(wr h (some (nid,x))).length),(wr h (some (nid,x)))[nid]=x:=by
  intro hi
  unfold wr at hi ⊢
  by_cases hlt:nid<h.length
  ·simp only [hlt,if_true] at hi ⊢
   simp
  ·simp only [hlt,if_false] at hi ⊢
   have:nid=h.length:=by omega
   subst this
   simp
 have hold:∀ i (hi:i<h.length),live h[i]=true→i≠nid:=fun i hi hl e=>by subst e;rw [hd hi] at hl;cases hl
 refine ⟨⟨fun i hi hl=>?_,fun i j hi hj Li Lj hne hli hlj ei ej=>?_,fun i hi=>?_,fun b hb'=>Nat.lt_of_lt_of_le (hh.lt b hb') hsz⟩,hle',fun b hm=>?_,fun i hi=>by
  have:i≠nid:=fun e=>hi x (by rw [e])
  simp [this]⟩
 ·by_cases e:i=nid
  ·subst e
   rw [hnew hi]
   exact ⟨L,by simp,ho⟩
  ·obtain ⟨hi',e1⟩:=hget i hi e
   rw [e1] at hl ⊢
   obtain ⟨L1,k1,k2⟩:=hh.ob i hi' hl
   refine ⟨L1,by simp [e,k1],HOb.mono (fun b hb'=>hw b (hh.lt b hb')) (fun _ hb'=>hb') hle' (fun hl=>⟨hw _ (k2.lt hl),k2.mine hl⟩) k2⟩
 ·by_cases e1:i=nid
  ·by_cases e2:j=nid
   ·omega
   ·obtain ⟨hj',e3⟩:=hget j hj e2
    rw [e3] at hlj
    simp [e1] at ei
    simp [e2] at ej
    obtain ⟨L1,k1,k2⟩:=hh.ob j hj' hlj
    rw [ej] at k1
    cases k1
    have:=k2.lt hlj
    subst ei
    omega
  ·obtain ⟨hi',e4⟩:=hget i hi e1
   rw [e4] at hli
   simp [e1] at ei
   by_cases e2:j=nid
   ·simp [e2] at ej
    obtain ⟨L1,k1,k2⟩:=hh.ob i hi' hli
    rw [ei] at k1
    cases k1
    have:=k2.lt hli
    subst ej
    omega
   ·obtain ⟨hj',e3⟩:=hget j hj e2
    rw [e3] at hlj
    simp [e2] at ej
    exact hh.apart i j hi' hj' Li Lj hne hli hlj ei ej
 ·have:i≠nid:=by rw [hlen] at hi;split at hi<;>omega
  simp [this]
  exact hh.new i (by rw [hlen] at hi;split at hi<;>omega)
 ·obtain ⟨i,hi,hl,L1,k1,k2⟩:=hm
  by_cases e:i=nid
  ·simp [e] at k1
   subst k1
   exact .inr (by omega)
  ·obtain ⟨hi',e1⟩:=hget i hi e
   rw [e1] at hl
   simp [e] at k1
   exact .inl ⟨i,hi',hl,L1,k1,k2⟩
theorem HR.upd (hh:HR w M ν h) {w':World} {id:Nat} {x:Ob} {L L':Lc} (hid:id<h.length) (hl:live h[id]=true) (hL:ν id=some L) (hw:∀ k,k<w.heap.size→k≠L.b→w'.heap[k]? = w.heap[k]?) (hsz:w.heap.size≤w'.heap.size)
  (ht:L.tot≤L'.tot) (ht':L.tot=L'.tot→L'=L) (hb:L'.b=L.b∨w.heap.size≤L'.b) (ho:HOb w' M (fun i=>if i=id then some L' else ν i) L' x) :
  HR w' M (fun i=>if i=id then some L' else ν i) (wr h (some (id,x)))∧ν.le (fun i=>if i=id then some L' else ν i)∧(∀ b,Mine (fun i=>if i=id then some L' else ν i) (wr h (some (id,x))) b→Mine ν h b∨w.heap.size≤b)∧∀ i,(∀ y,some (id,x)≠some (i,y))→(fun i=>if i=id then some L' else ν i) i=ν i:=by
 have hle':ν.le (fun i=>if i=id then some L' else ν i):=fun i L1 h1=>by
  by_cases e:i=id
  ·subst e
   rw [hL] at h1
   cases h1
   exact ⟨L',by simp,ht,ht'⟩
  ·exact ⟨L1,by simp [e,h1],Nat.le_refl _,fun _=>rfl⟩
 have hmine:Mine ν h L.b:=⟨id,hid,hl,L,hL,rfl⟩
 have e0:wr h (some (id,x))=h.set id x:=by unfold wr;simp [hid]
 rw [e0]
 have hMb:∀ b,M b→b≠L.b:=fun b hb' e=>by
  obtain ⟨L1,k1,k2⟩:=hh.ob id hid hl
  rw [hL] at k1
  cases k1
  subst e
  exact k2.mine hl hb'
 refine ⟨⟨fun i hi hli=>?_,fun i j hi hj Li Lj hne hli hlj ei ej=>?_,fun i hi=>?_,fun b hb'=>Nat.lt_of_lt_of_le (hh.lt b hb') hsz⟩,hle',fun b hm=>?_,fun i hi=>by
  have:i≠id:=fun e=>hi x (by rw [e])
  simp [this]⟩
 ·by_cases e:i=id
  ·subst e
   simp only [List.getElem_set_self]
   exact ⟨L',by simp,ho⟩
  ·rw [List.getElem_set_ne (Ne.symm e)] at hli ⊢
   have hi':i<h.length:=by simpa using hi
   obtain ⟨L1,k1,k2⟩:=hh.ob i hi' hli
   have hne:L1.b≠L.b:=hh.apart i id hi' hid L1 L e hli hl k1 hL
   refine ⟨L1,by simp [e,k1],HOb.mono (fun b hb'=>hw b (hh.lt b hb') (hMb b hb')) (fun _ hb'=>hb') hle' (fun hl=>⟨hw _ (k2.lt hl) hne,k2.mine hl⟩) k2⟩
 ·have hi':i<h.length:=by simpa using hi
  have hj':j<h.length:=by simpa using hj
  have key:∀ j (hj':j<h.length) Lj,j≠id→live h[j]=true→ν j=some Lj→L'.b≠Lj.b:=by
   intro j hj' Lj hne hlj ej
   rcases hb with hb|hb
   ·rw [hb]
    exact hh.apart id j hid hj' L Lj (Ne.symm hne) hl hlj hL ej
   ·obtain ⟨L1,k1,k2⟩:=hh.ob j hj' hlj
    rw [ej] at k1
    cases k1
    have:=k2.lt hlj
    omega
  by_cases e1:i=id
  ·have e2:j≠id:=by omega
   rw [List.getElem_set_ne (Ne.symm e2)] at hlj
   simp [e1] at ei
   simp [e2] at ej
   rw [←ei]
   exact key j hj' Lj e2 hlj ej
  ·rw [List.getElem_set_ne (Ne.symm e1)] at hli
   simp [e1] at ei
   by_cases e2:j=id
   ·simp [e2] at ej
    rw [←ej]
    exact Ne.symm (key i hi' Li e1 hli ei)
   ·rw [List.getElem_set_ne (Ne.symm e2)] at hlj
    simp [e2] at ej
    exact hh.apart i j hi' hj' Li Lj hne hli hlj ei ej
 ·have hi':h.length≤i:=by simpa using hi
  have:i≠id:=by omega
  simp [this]
  exact hh.new i hi'
 ·obtain ⟨i,hi,hli,L1,k1,k2⟩:=hm
  by_cases e:i=id
  ·simp [e] at k1
   subst k1
   rcases hb with hb|hb
   ·exact .inl (by rw [←k2,hb];exact hmine)
   ·exact .inr (by omega)
  ·rw [List.getElem_set_ne (Ne.symm e)] at hli
   simp [e] at k1
   exact .inl ⟨i,by simpa using hi,hli,L1,k1,k2⟩
theorem zhQ (hh:HR w M ν h) {id tot z xs} (hr:zaF h id tot=some (z,xs)):∃ hi:id<h.length,h[id]=.row z xs∧xs.length=tot∧∃ L,ν id=some L∧L.tot=tot∧HRow w M ν L z xs:=by
 unfold zaF at hr
 split at hr<;>try contradiction
 rename_i z' xs' e
 split at hr<;>try contradiction
 rename_i et
 cases hr
 obtain ⟨hi,e⟩:=List.getElem?_eq_some_iff.1 e
 obtain ⟨L,h1,h2⟩:=hh.ob id hi (by rw [e];rfl)
 rw [e] at h2
 exact ⟨hi,e,et,L,h1,by rw [h2.tot,et],h2⟩
theorem Rel.own_inv (hh:HR w M ν h) {id off len tot u z xs} (hv:Rel w M ν (.own id off len tot) u) (hr:zaF h id tot=some (z,xs)):∃ L,ν id=some L∧L.tot=tot∧HRow w M ν L z xs∧xs.length=tot∧OwnV L off len tot u:=by
 obtain ⟨hi,e,et,L,h1,h2,h3⟩:=zhQ hh hr
 cases hv with
 | own hL _ _ hO=>
  rw [h1] at hL
  cases hL
  exact ⟨L,h1,h2,h3,et,hO h2.symm⟩
theorem Rel.ptr_inv (hh:HR w M ν h) {id i k tot u z xs} (hv:Rel w M ν (.ptr id i k tot) u) (hr:zaF h id tot=some (z,xs)):∃ L,ν id=some L∧L.tot=tot∧HRow w M ν L z xs∧xs.length=tot∧L.d≤i∧L.v≤i∧i<tot∧u=.pointer (some ⟨L.b,(i-L.d)*L.sz+k,none⟩):=by
 obtain ⟨hi,e,et,L,h1,h2,h3⟩:=zhQ hh hr
 cases hv with
 | ptr hL _ _ hO=>
  rw [h1] at hL
  cases hL
  obtain ⟨a1,a0,a2,a3⟩:=hO h2.symm
  exact ⟨L,h1,h2,h3,et,a1,a0,a2,a3⟩
variable {P:Program} {o:Oper} {a:Act} {w:World} {M:Nat→Prop} {ν:Nu} {h:List Ob} {fr:Fr}
theorem V.good {v:V} (h:v.one=true):v≠.und∧∀ ys,v≠.tup ys:=by
 constructor
 ·rintro rfl;cases h
 ·rintro ys rfl;cases h
theorem zoh {w w1:World} {x:Obj} (e:w1.heap=w.heap.push x) (k:Nat) (hk:k<w.heap.size):w1.heap[k]? = w.heap[k]?:=by
 rw [e,Array.getElem?_push,if_neg (by omega)]
theorem zn4 {w w1:World} {x:Obj} (e:w1.heap=w.heap.push x):w1.heap[w.heap.size]? = some x:=by
 rw [e];simp
theorem zqK (hh:HR w M ν h) {w1:World} {nid:Nat} (hn:ν nid=none) (hle:nid≤h.length) (hd:∀ hi:nid<h.length,live h[nid]=false)
  {cs:Array Value} {T:TypeId} {fz:Nat×Nat} (e:w1.heap=w.heap.push (.cells cs T fz)) {xs:List V} {sz cap:Nat} (hcs:cs.size=cap*sz) (hfz:∀ o,o<cs.size→¬(fz.1≤o∧o<fz.2)) (hz:0<sz) (hc:xs.length≤cap)
  (el:∀ i (hi:i<xs.length),xs[i]≠.und∧(∀ ys,xs[i]≠.tup ys)∧∃ u,Rel w M ν xs[i] u∧u.cells.size=sz∧∀ k,k<sz→cs[i*sz+k]? = u.cells[k]?) :
  ∃ ν',HR w1 M ν' (wr h (some (nid,.row sz xs)))∧ν.le ν'∧((∀ b,Mine ν' (wr h (some (nid,.row sz xs))) b→Mine ν h b∨w.heap.size≤b)∧∀ i,(∀ y,some (nid,Ob.row sz xs)≠some (i,y))→ν' i=ν i)∧ν' nid=some ⟨w.heap.size,0,0,cap,sz,xs.length,default⟩:=by
 have hold:=zoh e
 have hnew:=zn4 e
 have hsz:w.heap.size≤w1.heap.size:=by rw [e];simp
 have hle':ν.le (fun i=>if i=nid then some ⟨w.heap.size,0,0,cap,sz,xs.length,default⟩ else ν i):=fun id L1 h1=>by
  refine ⟨L1,?_,Nat.le_refl _,fun _=>rfl⟩
  by_cases e:id=nid
  ·subst e;rw [hn] at h1;cases h1
  ·simp [e,h1]
 have:=HR.add (x:=.row sz xs) (L:=⟨w.heap.size,0,0,cap,sz,xs.length,default⟩) hh hn hle hd hold hsz (Nat.le_refl _) ⟨rfl,Nat.zero_le _,Nat.le_refl _,by simpa using hc,fun hb=>Nat.lt_irrefl _ (hh.lt _ hb),⟨hz,rfl⟩,⟨T,by simp only [World.shape?,hnew,hcs]⟩,fun j hj=>by
   have:=hfz j (by rw [hcs];exact hj)
   simp only [World.frozen?,hnew]
   simpa using this,fun i hi _=>by
   obtain ⟨c1,c2,u,c3,c4,c5⟩:=el i hi
   exact ⟨c1,c2,u,c3.mono (fun b hb=>hold b (hh.lt b hb)) (fun _ hb=>hb) hle',c4,fun k hk=>by
    simp only [World.cell?,hnew,Nat.sub_zero]
    simpa using c5 k hk⟩⟩
 exact ⟨_,this.1,this.2.1,this.2.2,by simp⟩
theorem ziF {w w1:World} {x:Obj} (e:w1.heap=w.heap.push x) (h1:w1.os=w.os) (h2:w1.tape=w.tape) (h3:w1.output=w.output) (m:Nat→Prop):Stp w w1 m:=
 ⟨h1,h2,h3,by rw [e];simp,fun k hk _=>zoh e k hk⟩
theorem zfb {b o n:Nat}:(⟨b,o,none⟩:Addr).add n=⟨b,o+n,none⟩:=by
 unfold Addr.add;split<;>simp_all
theorem ztW {v:V} {u:Value} (hv:Rel w M ν v u) (h1:v≠.und) (h2:∀ ys,v≠.tup ys):∀ x∈u.cells.toList,x.oneCell'=true:=by
 obtain ⟨e1,e2,e3⟩:=hv.cells h1 h2
 intro x hx
 obtain ⟨i,hi,rfl⟩:=List.getElem_of_mem hx
 have hi':i<u.cells.size:=by simpa using hi
 have:=(e3 i (by omega)).1.one (e3 i (by omega)).2
 simpa [hi'] using this
theorem zn7 {v:V} {u:Value} {b q:Nat} (hv:Rel w M ν v u) (h1:v≠.und) (h2:∀ ys,v≠.tup ys) (hm:∀ j,j<u.cells.size→w.cell? ⟨b,q+j,none⟩=u.cells[j]?) {t:TypeId} {ag:Bool} {sz:Nat} {i:TypeInfo} (ha:(isAgg t).run P w=.ok ag w) (hi:P.info? t=some i) (hs:i.size=sz)
  {k:Nat} {v':V} (hp:RR.part ag v.cells k sz=some v'):∃ u',(loadVar t ⟨b,q+k,none⟩).run P w=.ok u' w∧Rel w M ν v' u':=by
 have hp':=zrN hv h1 h2 hp
 unfold loadVar
 simp only [Sem.run_bind,ha,Result.andThen_ok]
 cases ag with
 | true=>
  obtain ⟨hle,hr⟩:=hp'.1 rfl
  refine ⟨_,?_,hr⟩
  have:=run_loadCells (P:=P) w ⟨b,q+k,none⟩ sz (fun j=>u.cells.getD (k+j) undef) (fun j hj=>by
   rw [zfb,show q+k+j=q+(k+j) by omega,hm _ (by omega)]
   have:k+j<u.cells.size:=by omega
   simp [this])
  simp only [if_true,Sem.run_bind,zcN hi,hs,Result.andThen_ok,this,Sem.run_pure]
  congr 2
  apply Array.ext
  ·simp;omega
  ·intro j hj1 hj2
   have:k+j<u.cells.size:=by simp at hj2;omega
   simp [this]
 | false=>
  obtain ⟨c,hc,hr⟩:=hp'.2 rfl
  refine ⟨c,?_,hr⟩
  have hk:k<u.cells.size:=(Array.getElem?_eq_some_iff.1 hc).1
  simp [hm k hk,hc]
theorem ziC (b:Nat):∀ (vs:List Value) (q:Nat) (w:World) (k:Nat),k≠b→(w.setCells b q vs).heap[k]? = w.heap[k]?
 | [],_,_,_,_=>rfl
 | v::r,q,w,k,hk=>by rw [World.setCells,ziC b r _ _ k hk,Below.heap_setCell _ _ _ _ hk]
theorem zmb (b:Nat):∀ (vs:List Value) (q:Nat) (w:World),(w.setCells b q vs).heap.size=w.heap.size
 | [],_,_=>rfl
 | v::r,q,w=>by rw [World.setCells,zmb b r];simp
theorem zu2 {x:Addr} {v:Value} {k:Nat}:(w.setCell x v).shape? k=w.shape? k:=by
 by_cases hk:k=x.block
 ·subst hk
  unfold World.shape? World.setCell
  simp only [Array.getElem?_modify,if_true]
  cases w.heap[x.block]? with
  | none=>rfl
  | some ob=>
   cases ob<;>simp
   split<;>simp
 ·simp [World.shape?,Below.heap_setCell _ _ _ _ hk]
theorem zoV (b:Nat):∀ (vs:List Value) (q:Nat) (w:World) (k:Nat),(w.setCells b q vs).shape? k=w.shape? k
 | [],_,_,_=>rfl
 | v::r,q,w,k=>by rw [World.setCells,zoV b r,zu2]
theorem zsw (b:Nat):∀ (vs:List Value) (q:Nat) (w:World),(w.setCells b q vs).os=w.os∧(w.setCells b q vs).tape=w.tape∧(w.setCells b q vs).output=w.output
 | [],_,_=>⟨rfl,rfl,rfl⟩
 | v::r,q,w=>by rw [World.setCells];exact zsw b r _ _
theorem zlx {b j n:Nat} {T:TypeId} (h:w.shape? b=some (T,n)) (hj:j<n):(w.cell? ⟨b,j,none⟩).isSome=true:=by
 unfold World.shape? at h
 unfold World.cell?
 split at h<;>try contradiction
 rename_i c e fz hc
 cases h
 simp [hc,hj]
theorem zxb (hh:HR w M ν h) {id:Nat} (hid:id<h.length) {z:Nat} {xs ys:List V} {L:Lc} (e:h[id]=.row z xs) (hL:ν id=some L) (hr:HRow w M ν L z xs) {q:Nat} {vs:List Value}
  {L':Lc} (eb:L'.b=L.b) (ed:L'.d=L.d) (ev:L.v≤L'.v) (ec:L'.cap=L.cap) (es:L'.sz=L.sz) (et:L'.tot=ys.length) (hge:xs.length≤ys.length) (hne:xs.length=ys.length→L'=L) (hcap:ys.length≤L.d+L.cap)
  (el:∀ i (hi:i<ys.length),L'.v≤i→ys[i]≠.und∧(∀ zs,ys[i]≠.tup zs)∧∃ u,Rel w M ν ys[i] u∧u.cells.size=L.sz∧∀ k,k<L.sz→(w.setCells L.b q vs).cell? ⟨L.b,(i-L.d)*L.sz+k,none⟩=u.cells[k]?) :
  ∃ ν',HR (w.setCells L.b q vs) M ν' (wr h (some (id,.row z ys)))∧ν.le ν'∧((∀ b,Mine ν' (wr h (some (id,.row z ys))) b→Mine ν h b∨w.heap.size≤b)∧∀ i,(∀ y,some (id,Ob.row z ys)≠some (i,y))→ν' i=ν i)∧Stp w (w.setCells L.b q vs) (Mine ν h)∧ν' id=some L':=by
 have hl:live h[id]=true:=by rw [e];rfl
 have hle':ν.le (fun i=>if i=id then some L' else ν i):=fun i L1 h1=>by
  by_cases e:i=id
  ·subst e
   rw [hL] at h1
   cases h1
   exact ⟨L',by simp,by rw [hr.tot,et];exact hge,fun e=>hne (by rw [←hr.tot,e,et])⟩
  ·exact ⟨L1,by simp [e,h1],Nat.le_refl _,fun _=>rfl⟩
 have hM:∀ b,M b→(w.setCells L.b q vs).heap[b]? = w.heap[b]?:=fun b hb=>ziC _ _ _ _ _ (fun e=>hr.mine (e▸hb))
 have:=HR.upd (x:=.row z ys) hh hid hl hL (w':=w.setCells L.b q vs) (fun k _ hk=>ziC _ _ _ _ _ hk) (Nat.le_of_eq (zmb _ _ _ _).symm) (L':=L') (by rw [hr.tot,et];exact hge) (fun e=>hne (by rw [←hr.tot,e,et])) (.inl eb)
  ⟨et,by rw [ed];exact Nat.le_trans hr.d hge,by rw [ed];exact Nat.le_trans hr.dv ev,by rw [ed,ec];exact hcap,by rw [eb];exact hr.mine,by rw [es];exact hr.sz,by
   obtain ⟨T,hT⟩:=hr.blk
   exact ⟨T,by rw [zoV,eb,ec,es];exact hT⟩,fun j hj=>by rw [World.frozen?_setCells,eb];exact hr.fz j (by rw [←ec,←es];exact hj),fun i hi hd=>by
   obtain ⟨c1,c2,u,c3,c4,c5⟩:=el i hi hd
   exact ⟨c1,c2,u,c3.mono hM (fun _ hb=>hb) hle',by rw [es];exact c4,fun k hk=>by rw [eb,ed,es];exact c5 k (by rw [←es];exact hk)⟩⟩
 refine ⟨_,this.1,this.2.1,this.2.2,?_,by simp⟩
 obtain ⟨s1,s2,s3⟩:=zsw L.b vs q w
 exact ⟨s1,s2,s3,Nat.le_of_eq (zmb _ _ _ _).symm,fun k _ hk=>ziC _ _ _ _ _ (fun e=>hk ⟨id,hid,hl,L,hL,e.symm⟩)⟩
theorem zBg {c:V} (h:c.one=true):c.cells=[c]:=by cases c<;>simp_all [V.one,V.cells]
theorem zx8 {x x':V} {k:Nat} {cs:List V} (h:over x k cs=some x') (hc:∀ c∈cs,c.one=true):k+cs.length≤x.cells.length∧x'.cells=x.cells.take k++cs++x.cells.drop (k+cs.length)∧x'≠.und∧(∀ ys,x'≠.tup ys):=by
 unfold over at h
 split at h
 ·split at h<;>try contradiction
  rename_i hk
  cases h
  exact ⟨hk,rfl,by simp,by simp⟩
 ·rename_i hne
  split at h<;>try contradiction
  cases h
  have h1:=hc _ (List.mem_singleton.2 rfl)
  have hx:x.cells.length=1:=by cases x<;>simp_all [V.cells]
  obtain ⟨g1,g2⟩:=V.good h1
  refine ⟨by simp [hx],?_,g1,g2⟩
  rw [zBg h1]
  have:x.cells.drop (0+[x'].length)=[]:=List.drop_of_length_le (by simp [hx])
  rw [this]
  simp
theorem zv5 {x:V} (h1:x≠.und) (h2:∀ ys,x≠.tup ys) {us:List Value} (hl:us.length=x.cells.length) (hr:∀ i (hi:i<x.cells.length),Rel w M ν x.cells[i] (us.getD i undef)∧x.cells[i].one=true) :
  ∃ u,Rel w M ν x u∧u.cells=us.toArray:=by
 by_cases h3:∃ xs,x=.agg xs
 ·obtain ⟨xs,rfl⟩:=h3
  refine ⟨.agg us.toArray,.agg (by simpa [V.cells] using hl) (fun y hy=>?_) fun i hi=>by simpa [V.cells] using (hr i hi).1,rfl⟩
  obtain ⟨i,hi,rfl⟩:=List.getElem_of_mem hy
  exact (hr i hi).2
 ·obtain ⟨e1,e2,e3⟩:=V.one_of h1 h2 (fun xs e=>h3 ⟨xs,e⟩)
  rw [e2] at hl hr
  obtain ⟨u,rfl⟩:∃ u,us=[u]:=by
   cases us with
   | nil=>simp at hl
   | cons u r=>
    cases r with
    | nil=>exact ⟨u,rfl⟩
    | cons=>simp at hl
  have:=(hr 0 (by simp)).1
  simp at this
  refine ⟨u,this,?_⟩
  rw [zr5 (this.one e1)]
theorem zxo (hh:HR w M ν h) {id i k tot z:Nat} {xs:List V} {v e e':V} {ua uv:Value} (ha:Rel w M ν (.ptr id i k tot) ua) (hr:zaF h id tot=some (z,xs)) (he:xs[i]? = some e) (hv:Rel w M ν v uv) (h1:v≠.und) (h2:∀ ys,v≠.tup ys) (ho:over e k v.cells=some e')
  {t:TypeId} {ti:TypeInfo} (hi:P.info? t=some ti) (hs:ti.size=v.cells.length) :
  ∃ w' ν',(Instr.storeAt t ua uv).run P w=.ok () w'∧HR w' M ν' (wr h (some (id,.row z (xs.set i e'))))∧ν.le ν'∧((∀ b,Mine ν' (wr h (some (id,.row z (xs.set i e')))) b→Mine ν h b∨w.heap.size≤b)∧∀ j,(∀ y,some (id,Ob.row z (xs.set i e'))≠some (j,y))→ν' j=ν j)∧Stp w w' (Mine ν h):=by
 obtain ⟨L,hL,ht,hrow,hlen,hd,hv0,hlt,rfl⟩:=ha.ptr_inv hh hr
 obtain ⟨hid,hx,_⟩:=zhQ hh hr
 obtain ⟨hilt,hxi⟩:=List.getElem?_eq_some_iff.1 he
 obtain ⟨c1,c2,u,c3,c4,c5⟩:=hrow.el i hilt hv0
 rw [hxi] at c1 c2 c3
 obtain ⟨e1,e2,e3⟩:=hv.cells h1 h2
 obtain ⟨d1,d2,d3⟩:=c3.cells c1 c2
 obtain ⟨f1,f2,f3,f4⟩:=zx8 ho (fun c hc=>by
  obtain ⟨j,hj,rfl⟩:=List.getElem_of_mem hc
  exact (e3 j hj).2)
 have hL1:L.sz=e.cells.length:=by rw [←c4,d1]
 have hcap:=hrow.cap
 have hspan:(i-L.d)*L.sz+k+uv.cells.toList.length≤L.cap*L.sz:=by
  have h1:(i-L.d)*L.sz+L.sz≤L.cap*L.sz:=by
   rw [←Nat.succ_mul]
   exact Nat.mul_le_mul_right _ (by omega)
  have:uv.cells.toList.length=v.cells.length:=by simpa using e1
  omega
 obtain ⟨T,hT⟩:=hrow.blk
 have hst:=run_storeCells_cells (P:=P) L.b ((i-L.d)*L.sz+k) uv.cells.toList 0 w (fun j hj=>zlx hT (by simp at hj ⊢;simp at hspan;omega)) (fun j hj=>hrow.fz _ (by simp at hj ⊢;simp at hspan;omega)) (ztW hv h1 h2)
 have hrun:(Instr.storeAt t (.pointer (some ⟨L.b,(i-L.d)*L.sz+k,none⟩)) uv).run P w=.ok () (w.setCells L.b ((i-L.d)*L.sz+k) uv.cells.toList):=by
  have hne:¬(uv.cells.size≠ti.size):=by rw [hs,e1];simp
  simp only [Instr.storeAt,Instr.sureAddr,storeVar,Sem.run_bind,Sem.run_pure,Result.andThen_ok,zcN hi,if_neg hne,hst,Nat.add_zero,Sem.run_ite]
 have hcellsM:∀ j,(w.setCells L.b ((i-L.d)*L.sz+k) uv.cells.toList).cell? ⟨L.b,(i-L.d)*L.sz+k+j,none⟩=if hj:j<uv.cells.size then some uv.cells[j] else w.cell? ⟨L.b,(i-L.d)*L.sz+k+j,none⟩:=by
  intro j
  by_cases hj:j<uv.cells.size
  ·rw [dif_pos hj]
   have:=World.cell?_setCells_in L.b uv.cells.toList ((i-L.d)*L.sz+k) w (fun j hj=>zlx hT (by simp at hj ⊢;simp at hspan;omega)) j (by simpa using hj)
   simpa using this
  ·rw [dif_neg hj,World.cell?_setCells_out]
   intro _ _
   simp
   omega
 have:=zxb hh hid (q:=(i-L.d)*L.sz+k) (vs:=uv.cells.toList) (ys:=xs.set i e') (L':=L) hx hL hrow rfl rfl (Nat.le_refl _) rfl rfl (by rw [List.length_set];exact hrow.tot) (by simp) (fun _=>rfl) (by simpa using hcap) (fun j hj hvj=>by
  have hdj:L.d≤j:=Nat.le_trans hrow.dv hvj
  have hj':j<xs.length:=by simpa using hj
  by_cases ej:j=i
  ·subst ej
   simp only [List.getElem_set_self]
   refine ⟨f3,f4,?_⟩
   have hlen':e'.cells.length=e.cells.length:=by rw [f2];simp;omega
   obtain ⟨u',r1,r2⟩:=zv5 (w:=w) (M:=M) (ν:=ν) f3 f4 (us:=(u.cells.toList.take k++uv.cells.toList++u.cells.toList.drop (k+v.cells.length))) (by
    rw [hlen']
    simp
    omega) (fun q hq=>by
    rw [hlen'] at hq
    have hq2:q<e'.cells.length:=by omega
    rcases Nat.lt_or_ge q k with hqk|hqk
    ·have g:=d3 q (by omega)
     have x1:e'.cells[q]=e.cells[q]'(by omega):=by
      simp only [f2]
      rw [List.getElem_append_left (by simp;omega),List.getElem_append_left (by simp;omega),List.getElem_take]
     have x2:(u.cells.toList.take k++uv.cells.toList++u.cells.toList.drop (k+v.cells.length)).getD q undef=u.cells.getD q undef:=by
      simp only [List.getD_eq_getElem?_getD,Array.getD_eq_getD_getElem?]
      rw [List.getElem?_append_left (by simp;omega),List.getElem?_append_left (by simp;omega),List.getElem?_take_of_lt hqk]
      simp
     rw [x1,x2]
     exact g
    ·rcases Nat.lt_or_ge q (k+v.cells.length) with hqv|hqv
     ·have g:=e3 (q-k) (by omega)
      have x1:e'.cells[q]=v.cells[q-k]'(by omega):=by
       simp only [f2]
       rw [List.getElem_append_left (by simp;omega),List.getElem_append_right (by simp;omega)]
       congr 1
       simp
       omega
      have x2:(u.cells.toList.take k++uv.cells.toList++u.cells.toList.drop (k+v.cells.length)).getD q undef=uv.cells.getD (q-k) undef:=by
       simp only [List.getD_eq_getElem?_getD,Array.getD_eq_getD_getElem?]
       rw [List.getElem?_append_left (by simp;omega),List.getElem?_append_right (by simp;omega)]
       have:(List.take k u.cells.toList).length=k:=by simp;omega
       rw [this]
       simp
      rw [x1,x2]
      exact g
     ·have g:=d3 q (by omega)
      have x1:e'.cells[q]=e.cells[q]'(by omega):=by
       simp only [f2]
       rw [List.getElem_append_right (by simp;omega),List.getElem_drop]
       congr 1
       simp
       omega
      have x2:(u.cells.toList.take k++uv.cells.toList++u.cells.toList.drop (k+v.cells.length)).getD q undef=u.cells.getD q undef:=by
       simp only [List.getD_eq_getElem?_getD,Array.getD_eq_getD_getElem?]
       rw [List.getElem?_append_right (by simp;omega),List.getElem?_drop]
       have:k+v.cells.length+(q-(List.take k u.cells.toList++uv.cells.toList).length)=q:=by simp;omega
       rw [this]
       simp
      rw [x1,x2]
      exact g)
   refine ⟨u',r1,?_,fun q hq=>?_⟩
   ·rw [r2]
    simp
    omega
   ·have hq':q<e.cells.length:=by omega
    rw [r2]
    rcases Nat.lt_or_ge q k with hqk|hqk
    ·rw [World.cell?_setCells_out _ _ _ _ _ (fun _ _=>.inl (by simp;omega)),c5 q hq]
     simp only [List.getElem?_toArray]
     rw [List.getElem?_append_left (by simp;omega),List.getElem?_append_left (by simp;omega),List.getElem?_take_of_lt hqk]
     simp
    ·have:=hcellsM (q-k)
     rw [show (j-L.d)*L.sz+k+(q-k)=(j-L.d)*L.sz+q by omega] at this
     rw [this]
     simp only [List.getElem?_toArray]
     by_cases hqv:q-k<uv.cells.size
     ·rw [dif_pos hqv,List.getElem?_append_left (by simp;omega),List.getElem?_append_right (by simp;omega)]
      have:(List.take k u.cells.toList).length=k:=by simp;omega
      rw [this]
      simp [hqv]
     ·rw [dif_neg hqv,c5 q hq,List.getElem?_append_right (by simp;omega),List.getElem?_drop]
      have:k+v.cells.length+(q-(List.take k u.cells.toList++uv.cells.toList).length)=q:=by simp;omega
      rw [this]
      simp
  ·rw [List.getElem_set_ne (Ne.symm ej)]
   obtain ⟨g1,g2,uj,g3,g4,g5⟩:=hrow.el j hj' hvj
   refine ⟨g1,g2,uj,g3,g4,fun q hq=>?_⟩
   rw [World.cell?_setCells_out,g5 q hq]
   intro _ _
   simp
   rcases Nat.lt_or_ge j i with hji|hji
   ·left
    have:(j-L.d)*L.sz+L.sz≤(i-L.d)*L.sz:=by
     rw [←Nat.succ_mul]
     exact Nat.mul_le_mul_right _ (by omega)
    omega
   ·right
    have:(i-L.d)*L.sz+L.sz≤(j-L.d)*L.sz:=by
     rw [←Nat.succ_mul]
     exact Nat.mul_le_mul_right _ (by omega)
    have:uv.cells.size=v.cells.length:=e1
    omega)
 obtain ⟨ν',g1,g2,g3,g4,g5⟩:=this
 exact ⟨_,ν',hrun,g1,g2,g3,g4⟩
end Go.RR
