/- PART 1 OF WHAT THE LAW WholeOnce STANDS ON. Conditions: none but those that each lemma states. -/
import Derived.Orders
import Derived.LoopN
import Derived.KernelRfl
import Derived.Laws.LoneSync
import Derived.Laws.MakeOwn
import Derived.Laws.AppendOwn
import Derived.Laws.Cells
import Derived.Laws.StructEq
import Derived.Maps.RangeRun
import Derived.Tactics
import Derived.ChangeKeysEq
import Derived.LaidEql
import Derived.Test.YtnofenejoebkhaaGreatProg
import Derived.Laws.OwnMore
namespace Go.Proofs.YtnofenejoebkhaaGreat.Ev
open Go
set_option linter.defProp false
set_option maxRecDepth 100000
set_option autoImplicit true
set_option relaxedAutoImplicit true
def Zp{α:Type}{a:α}{s t:List α}(h:a∈s∨a∈t):a∈s++t:=List.mem_append.mpr h
def Zq{α:Type}{a:α}{s t:List α}(h:a∈s++t):a∈s∨a∈t:=List.mem_append.mp h
def MF:= @Nat.zero_add
def MG:= @if_neg
def MH:= @List.mem_singleton
def MJ:= @decide_eq_false
def MK:= @if_pos
def ML:= @Nat.add_zero
def MM:= @List.mem_of_getElem?
def MN:= @Nat.le_refl
def MO:= @Int.toNat_natCast
def MP:= @decide_eq_true
def MQ:= @List.getElem?_eq_some_iff
def MR:= @Array.getElem?_eq_some_iff
def MS:= @Classical.byContradiction
def MT:= @List.getElem?_eq_getElem
def MU:= @of_decide_eq_false
def MV:= @of_decide_eq_true
def MW:= @List.getElem?_append_left
def MX:= @decide_eq_false_iff_not
def MY:= @List.mem_map
def MZ:= @List.length_append
def Na:= @decide_eq_true_eq
def Nb:= @List.getElem?_eq_none
def Nc:= @absurd
def Nf:= @List.getElem?_map
def Ng:= @Bool.not_true
def Nh:= @List.mem_cons_of_mem
def Ni:= @List.mem_iff_getElem?
def Nj:= @Bool.false_eq_true
def Nk:= @List.map_cons
def Nl:= @List.getElem?_set
def Nm:= @Bool.and_eq_true
def Nn:= @Nat.eq_of_beq_eq_true
def No:= @List.map_append
def Np:= @List.getElem?_append_right
def Nq:= @List.nodup_append
def Nr:= @Nat.shiftLeft_eq
def Ns:= @List.ext_getElem?
def Nt:= @List.nodup_cons
def Nu:= @List.length_singleton
def Nv:= @List.eq_nil_of_length_eq_zero
def Nw:= @List.not_mem_nil
def Nx:= @Bool.not_false
def Ny:= @Option.some.injEq
def Nz:= @Nat.mul_one
def NA:= @List.mem_range
def NB:= @List.getElem?_eq_none_iff
def NC:= @Bool.not_eq_true'
def ND:= @Nat.testBit_succ
def NE:= @List.all_eq_true
def NF:= @Option.map_some
def NG:= @List.map_congr_left
def NH:= @Int.tmod_eq_emod_of_nonneg
def NI:= @if_false
def NJ:= @List.length_cons
def NK:= @Nat.le_trans
def NL:= @List.cons.injEq
def NM:= @List.set_cons_succ
def NN:= @List.nil_append
def NO:= @Bool.or_eq_true
def NP:= @or_false
def NQ:= @List.countP_cons
def NR:= @List.append_assoc
def NS:= @Nat.zero_le
def NT:= @List.length_set
def NU:= @Array.getElem?_setIfInBounds
def NV:= @List.cons_append
def NW:= @List.filter_eq_self
def NX:= @List.filter_append
def NY:= @Int.natCast_nonneg
def NZ:= @List.filter_sublist
def N0:= @Nat.shiftLeft_add_eq_or_of_lt
def N4:= @Option.isSome_iff_exists
def N6:= @List.mem_flatMap
def N7:= @List.length_take
def N8:= @List.getElem?_cons_succ
def N9:= @Int.tdiv_eq_ediv_of_nonneg
def Ob:= @Array.getElem?_push
def Oc:= @List.length_map
def Od:= @List.pairwise_iff_getElem
def Oe:= @List.exists_mem_of_ne_nil
def Of:= @Nat.le_of_ble_eq_true
def Og:= @List.length_filter_le
def Oh:= @Nat.lt_of_lt_of_le
def Oi:= @List.take_length
def Oj:= @List.pairwise_cons
def Ol:= @Nat.mul_assoc
def On:= @List.map_map
def Oo:= @List.take_add_one
def Oq:= @List.length_nil
def Ot:= @Int.toNat_of_nonneg
def Ou:= @Nat.testBit_lt_two_pow
def Ov:= @Nat.mul_comm
def Ox:= @Array.getElem?_eq_none
def Oy:= @Nat.testBit_zero
def Oz:= @not_or
def OA:= @List.perm_append_left_iff
def OC:= @Nat.two_pow_pos
def OD:= @List.range_succ
def OE:= @Nat.sub_zero
def OF:= @Nat.pow_succ
def OG:= @Nat.pow_le_pow_right
def OH:= @Nat.mul_le_mul_right
def OI:= @List.getElem?_of_mem
def OJ:= @List.getElem?_mapIdx
def OK:= @Bool.false_or
def OM:= @Nat.mod_eq_of_lt
def ON:= @beq_iff_eq
def OP:= @List.mem_cons_self
def OQ:= @List.map_nil
def OS:= @List.drop_eq_nil_of_le
def OT:= @Bool.not_eq_false'
def OU:= @Array.ext'
def OV:= @true_and
def OX:= @Option.bind_some
def OY:= @Int.le_of_lt
def OZ:= @Nat.mul_le_mul_left
def Pa:= @Nat.lt_of_le_of_lt
def Pb:= @List.getElem?_replicate
def Pc:= @List.getElem?_cons_zero
def Pd:= @Nat.or_lt_two_pow
def Pf:= @List.take_of_length_le
def Pg:= @List.size_toArray
def Ph:= @Int.le_trans
def Pi:= @List.set_append_right
def Pj:= @Array.getElem?_modify
def Pm:= @Option.getD_some
def Pn:= @Nat.le_add_right
def Po:= @List.filter_cons
def Pp:= @List.sum_cons
def Pq:= @Nat.pow_lt_pow_right
def Pr:= @Nat.pow_add
def Ps:= @Nat.add_mul
def Pu:= @List.set_append_left
def Pv:= @Int.le_refl
def Pw:= @Array.replicate_zero
def Px:= @Array.replicate_succ
def Py:= @List.dropLast_concat_getLast
def Pz:= @beq_eq_false_iff_ne
def PA:= @List.append_toArray
def PB:= @Array.toList_filter
def PC:= @if_true
def PD:= @List.perm_append_comm_assoc
def PE:= @Nat.xor_lt_two_pow
def PF:= @Nat.testBit_or
def PG:= @Nat.mod_lt
def PH:= @List.set_cons_zero
def PI:= @List.getD_eq_getElem?_getD
def PJ:= @Int.tmod_lt_of_pos
def PK:= @Int.fdiv_eq_ediv_of_nonneg
def PL:= @Nat.mul_left_comm
def PM:= @List.push_toArray
def PN:= @List.pairwise_map
def PO:= @List.flatMap_cons
def PQ:= @Prod.mk.injEq
def PR:= @Int.ofNat.inj
def PT:= @Bool.true_and
def PU:= @List.perm_middle
def PV:= @List.drop_append
def PW:= @List.any_eq_true
def PX:= @Array.mem_append
def PY:= @ne_eq
def PZ:= @Nat.testBit_and
def Qa:= @List.concat_eq_append
def Qb:= @Bool.and_eq_false_imp
def Qc:= @Array.toList_eraseIdx
def Qd:= @and_true
def Qe:= @Option.some_or
def Qf:= @Option.none_or
def Qg:= @Nat.eq_of_testBit_eq
def Qh:= @List.take_left
def Qi:= @List.nodup_nil
def Qj:= @List.getElem?_modify
def Qk:= @List.drop_drop
def Ql:= @List.Perm.refl
def Qm:= @List.Pairwise.filter
def Qn:= @Bool.or_eq_false_iff
def Qo:= @Bool.false_and
def Qp:= @eq_of_beq
def Qq:= @Nat.testBit_two_pow
def Qr:= @Array.toList_modify
def Qs:= @bne_iff_ne
def Qt:= @Option.isNone_some
def Qv:= @List.map_singleton
def Qw:= @Nat.or_assoc
def Qx:= @Nat.ne_of_lt
def Qy:= @List.take_succ_eq_append_getElem
def Qz:= @List.map_set
def QA:= @List.length_range
def ah(h:p:=by omega):p:=h
def ak(h:p:=by simp):p:=h
abbrev ap(n:Int):Value:= .int .i64 n
abbrev aq(n:Int):Value:= .int .u32 n
abbrev ar(n:Int):Value:= .int .u64 n
abbrev au(a:Addr):Value:= .pointer (some a)
abbrev aw(b:Nat):Addr:=Addr.mk b 0 none
abbrev ax(n:Int):Int:=IntKind.wrap .i64 n
abbrev ay:=List (Option (Nat×Nat×Nat))
abbrev az:=Option Addr
abbrev aA(a:Option Addr):Value:= .pointer a
abbrev aB:Value:= .bool false
abbrev aC:Value:= .bool true
abbrev aD(b:Bool):Value:= .bool b
abbrev aE:Value:= .tuple #[]
abbrev aF(a:Value):Prop:=a=a
abbrev aG(a b:Value):Prop:=a=b
abbrev aI:=Array Obj
abbrev Fr:=List (Nat×Value)
def rd(h:aI)(a:Addr):Option Value:=
 match h[a.block]? with
 |some (.cells c _ _)=>if a.spot.isSome then none else c[a.off]?
 |_=>none
def fz(h:aI)(a:Addr):Bool:=
 match h[a.block]? with
 |some (.cells _ _ (lo,hi))=>lo<=a.off&&a.off<hi
 |_=>false
def wr(h:aI)(a:Addr)(v:Value):aI:=
 h.modify a.block fun
  | .cells c elem frozen=> .cells (if a.spot.isSome then c else c.setIfInBounds a.off v) elem frozen
  |o=>o
def mp(h:aI)(r:Nat):Option (Array MapEntry×Nat):=
 match h[r]? with
 |some (.map es c)=>some (es,c)
 |_=>none
def get:Fr->Nat->Option Value
 | [],_=>none
 |(k,v)::r,t=>match Nat.beq k t with|true=>some v|false=>get r t
def put(ρ:Fr)(d:Option Nat)(v:Value):Fr:=match d with|some t=>(t,v)::ρ|none=>ρ
def cut:List Nat->Fr->Fr
 | [],_=> []
 |t::L,ρ=>match get ρ t with|some v=>(t,v)::cut L ρ|none=>cut L ρ
def ev(ρ:Fr):Operand->Option Value
 | .tmp t=>get ρ t
 | .const v=>some v
 | .global g=>some (.pointer (some ⟨g,0,none⟩))
 | .func f=>some (.func (.func f) #[] #[])
def y9(ρ:Fr):List Operand->Option (List Value)
 | []=>some []
 |x::xs=>match ev ρ x with|some v=>(match y9 ρ xs with|some vs=>some (v::vs)|none=>none)|none=>none
def aK(b:Bool)(t f:Prop):Prop:=match b with|true=>t|false=>f
def dA{α:Type}(x:Option α)(K:α->Prop):Prop:=match x with|some v=>K v|none=>False
def aY(p:Option Addr)(K:Addr->Prop):Prop:=match p with|some a=>K a|none=>False
def Gt(z:Value)(K:Value->Prop):Prop:=
 match z with
 | .int k _=> ∃n:Int,K (.int k n)
 | .bool _=> ∃b:Bool,K (.bool b)
 | .pointer _=> ∃p:Option Addr,K (.pointer p)
 | .slice _ _ _=> ∃(p:Option Addr) (l c:Nat),K (.slice p l c)
 | .map _=> ∃r:Option Nat,K (.map r)
 | .string _=> ∃s:ByteArray,K (.string s)
 |_=> ∃v:Value,K v
def KR:List Value->(List Value->Prop)->Prop
 | [],K=>K []
 |z::zs,K=>Gt z λv=>KR zs λvs=>K (v::vs)
def LJ(z:Value)(K:Value->Prop):Prop:=
 match z with
 | .agg zs=>KR zs.toList λvs=>K (.agg vs.toArray)
 |z=>Gt z K
def KS:List Value->(List Value->Prop)->Prop
 | [],K=>K []
 |z::zs,K=>LJ z λv=>KS zs λvs=>K (v::vs)
def aQ(k:IntKind)(x:Option Value)(K:Int->Prop):Prop:= ∃n:Int,x=some (.int k n)/\K n
def bP(x:Option Value)(K:Bool->Prop):Prop:= ∃b:Bool,x=some (.bool b)/\K b
def a8(x:Option Value)(K:Option Addr->Prop):Prop:= ∃p:Option Addr,x=some (.pointer p)/\K p
def cx(x:Option Value)(K:Option Addr->Nat->Nat->Prop):Prop:= ∃(p:Option Addr) (l c:Nat),x=some (.slice p l c)/\K p l c
def bR(x:Option Value)(K:Option Nat->Prop):Prop:= ∃r:Option Nat,x=some (.map r)/\K r
def Mg(x:Option Value)(K:ByteArray->Prop):Prop:= ∃s:ByteArray,x=some (.string s)/\K s
def lV(x:Option Value)(K:Value->Prop):Prop:= ∃v:Value,x=some v/\K v
def CU(z:Value)(x:Option Value)(K:Value->Prop):Prop:=
 match z with
 | .int k _=>aQ k x λn=>K (.int k n)
 | .bool _=>bP x λb=>K (.bool b)
 | .pointer _=>a8 x λp=>K (.pointer p)
 | .slice _ _ _=>cx x λp l c=>K (.slice p l c)
 | .map _=>bR x λr=>K (.map r)
 | .string _=>Mg x λs=>K (.string s)
 |_=>lV x K
def LN(h:aI)(a:Addr):Nat->List Value->(List Value->Prop)->Prop
 |_,[],K=>K []
 |i,z::zs,K=>CU z (rd h (a.add i)) λv=>LN h a (i+1) zs λvs=>K (v::vs)
def IB(h:aI)(a:Addr)(n:Nat)(K:List Value->Prop):Prop:= ∃vs:List Value,vs.length=n/\(∀j v,vs[j]? =some v->rd h (a.add j)=some v)/\K vs
def KY(l:List Value)(b:Nat):Nat->List Value->(List Value->Prop)->Prop
 |_,[],K=>K []
 |i,z::zs,K=>CU z (l[b+i]?) λv=>KY l b (i+1) zs λvs=>K (v::vs)
def zv(P:Program)(t:TypeId):Option Value:=(P.info? t).bind (·.zero)
def KI:TypeDesc->Bool| .struct _=>true| .array _ _=>true|_=>false
def uT(P:Program)(t:TypeId)(h:aI)(p:Option Addr)(K:Value->Prop):Prop:=
 match P.underlying t,zv P t with
 |some d,some z=>
  match KI d with
  |true=>match z with
   | .agg zs=>match Nat.beq zs.size (P.cellsOf t)with
    |true=>match Nat.ble 41 zs.size with
     |true=>aY p λa=>IB h a zs.size λvs=>K (.agg vs.toArray)
     |false=>aY p λa=>LN h a 0 zs.toList λvs=>K (.agg vs.toArray)
    |false=>False
   |_=>False
  |false=>aY p λa=>CU z (rd h a) K
 |_,_=>False
def bo(op:BinOp)(k:IntKind)(x y:Int):Int:=
 let a:=BitVec.ofInt k.bits x;let b:=BitVec.ofInt k.bits y
 match op with
 | .and=>k.wrap (a&&&b).toNat
 | .or=>k.wrap (a|||b).toNat
 | .xor=>k.wrap (a^^^b).toNat
 |_=>k.wrap (a&&& ~~~b).toNat
def HF(op:BinOp)(k:IntKind)(a b:Int)(K:Value->Prop):Prop:=
 match op with
 | .add=>K (.int k (k.wrap (a+b)))
 | .sub=>K (.int k (k.wrap (a-b)))
 | .mul=>K (.int k (k.wrap (a*b)))
 | .quo=>b≠0/\K (.int k (k.wrap (a.tdiv b)))
 | .rem=>b≠0/\K (.int k (a.tmod b))
 | .and=>K (.int k (bo .and k a b))
 | .or=>K (.int k (bo .or k a b))
 | .xor=>K (.int k (bo .xor k a b))
 | .andNot=>K (.int k (bo .andNot k a b))
 | .eql=>K (.bool (a==b))
 | .neq=>K (.bool (a !=b))
 | .lss=>K (.bool (decide (a<b)))
 | .leq=>K (.bool (decide (a<=b)))
 | .gtr=>K (.bool (decide (a>b)))
 | .geq=>K (.bool (decide (a>=b)))
 |_=>False
def KX(op:BinOp)(k:IntKind)(a b:Int)(K:Value->Prop):Prop:=
 match op with
 | .shl=>0<=b/\K (.int k (k.wrap (a*2^(min b.toNat k.bits))))
 | .shr=>0<=b/\K (.int k (a.fdiv (2^(min b.toNat k.bits))))
 |_=>False
def IY:BinOp->Bool| .shl=>true| .shr=>true|_=>false
def HA:IntKind->IntKind->Bool
 | .i8,.i8=>true| .i16,.i16=>true| .i32,.i32=>true| .i64,.i64=>true
 | .u8,.u8=>true| .u16,.u16=>true| .u32,.u32=>true| .u64,.u64=>true
 |_,_=>false
def yA:List Value->List Value->Option Bool
 | [],[]=>some true
 | .int k a::xs,.int k' b::ys=>match HA k k' with|true=>(match yA xs ys with|some r=>some (a==b&&r)|none=>none)|false=>none
 |_,_=>none
def CC(P:Program)(t:TypeId):Bool:=
 match P.underlying t with
 |some (.struct fs)=> !P.stoodInHeld t&& !P.eqGuardType P.depth t&&(fs.toList.zipIdx.all λ(f,i)=>f.offset==i&&f.name != "_" &&(match P.underlying f.type with|some (.int _)=>true|_=>false))&&P.cellsOf t==fs.size
 |_=>false
def AW(P:Program)(t e:TypeId):Bool:= !P.eqGuardType P.depth t&&(match P.underlying e with|some (.int _)=>true|_=>false)&&P.cellsOf e==1&&(P.info? e).isSome
def Gr(P:Program)(h:aI)(t:TypeId)(x y:Value)(K:Bool->Prop):Prop:=
 match P.underlying t with
 |some .bool=>match x,y with
  | .bool a,.bool b=>K (a==b)
  |_,_=>False
 |some (.pointer e)=>match x,y with
  | .pointer p,.pointer none=>K p.isNone
  | .pointer none,.pointer p=>K p.isNone
  | .pointer (some a),.pointer (some b)=>match P.info? e with
   |some j=>match Nat.beq j.size 0 with
    |false=>(a=b->K true)/\(a≠b->(∃c u,h[a.block]? =some (.cells c u))/\(∃c u,h[b.block]? =some (.cells c u))/\K false)
    |true=>False
   |none=>False
  |_,_=>False
 |some (.struct fs)=>match CC P t,x,y with
  |true,.agg xs,.agg ys=>(match Nat.beq xs.size fs.size with|true=>dA (yA xs.toList ys.toList) K|false=>False)
  |_,_,_=>False
 |some (.array n e)=>match AW P t e,x,y with
  |true,.agg xs,.agg ys=>(match Nat.beq xs.size n with|true=>dA (yA xs.toList ys.toList) K|false=>False)
  |_,_,_=>False
 |some (.slice _)=>match x,y with
  | .slice p _ _,.slice none _ _=>K p.isNone
  |_,_=>False
 |_=>False
def HD(P:Program)(h:aI)(op:BinOp)(t:TypeId)(x y:Value)(K:Value->Prop):Prop:=
 match x,y with
 | .int k a,.int k' b=>match IY op with
  |true=>KX op k a b K
  |false=>match HA k k' with|true=>HF op k a b K|false=>False
 |x,y=>match op with
  | .eql=>Gr P h t x y λr=>K (.bool r)
  | .neq=>Gr P h t x y λr=>K (.bool (!r))
  |_=>False
def KW(op:UnOp)(x:Value)(K:Value->Prop):Prop:=
 match op,x with
 | .not,.bool b=>K (.bool (!b))
 | .neg,.int k n=>K (.int k (k.wrap (0-n)))
 | .xor,.int k n=>K (.int k (bo .xor k (if k.signed then-1 else k.max) n))
 |_,_=>False
def AV(P:Program)(a dst:TypeId)(x:Value)(K:Value->Prop):Prop:=
 match P.underlying a,P.underlying dst,x with
 |some _,some (.int k),.int _ n=>K (.int k (k.wrap n))
 |_,_,_=>False
def FP(c:Bool)(a b:Option Value)(K:Value->Prop):Prop:=
 match a,b with
 |some (.bool x),some (.bool y)=>K (.bool (cond c x y))
 |_,_=>aK c (dA a K) (dA b K)
def GU(x:Value)(K:Value->Prop):Prop:=
 match x with
 | .pointer p=>aY p λa=>K (.pointer (some a))
 | .func (.func f) a b=>K (.func (.func f) a b)
 | .iface t v=>K (.iface t v)
 |_=>False
def kG(P:Program)(s:TypeId)(x:Value)(i:Nat)(K:Value->Prop):Prop:=
 match P.underlying s,x with
 |some (.struct fs),.pointer p=>match fs[i]? with
  |some f=>match P.info? f.type with
   |some ti=>match Nat.beq ti.size 0 with|false=>aY p λa=>K (.pointer (some (a.add f.offset)))|true=>False
   |none=>False
  |none=>False
 |_,_=>False
def Bh(P:Program)(t:TypeId)(cs:List Value)(off:Nat)(K:Value->Prop):Prop:=
 match P.underlying t,P.info? t with
 |some d,some ti=>match KI d with
  |true=>K (.agg (cs.toArray.extract off (off+ti.size)))
  |false=>dA cs[off]? K
 |_,_=>False
def vW(P:Program)(s:TypeId)(x:Value)(i:Nat)(K:Value->Prop):Prop:=
 match P.underlying s,x with
 |some (.struct fs),.agg cs=>match fs[i]? with
  |some f=>Bh P f.type cs.toList f.offset K
  |none=>False
 |_,_=>False
def kz(P:Program)(t:TypeId)(x i:Value)(K:Value->Prop):Prop:=
 match P.underlying t,x,i with
 |some (.array n e),.pointer p,.int _ j=>match P.info? e with
  |some ti=>aY p λa=>0<=j/\j<(n:Int)/\K (.pointer (some (a.add (j.toNat*ti.size))))
  |none=>False
 |some (.slice e),.slice p l _,.int _ j=>match P.info? e with
  |some ti=>aY p λa=>0<=j/\j<(l:Int)/\K (.pointer (some (a.add (j.toNat*ti.size))))
  |none=>False
 |_,_,_=>False
def DI(s:ByteArray)(j:Int)(K:Int->Prop):Prop:= ∃b:UInt8,s[j.toNat]? =some b/\K (b.toNat:Int)
def wa(P:Program)(t:TypeId)(x i:Value)(K:Value->Prop):Prop:=
 match P.underlying t,x,i with
 |some (.array n e),.agg cs,.int _ j=>match P.underlying e,P.info? e with
  |some d,some _=>match KI d with
   |true=>0<=j/\j<(n:Int)/\(match zv P e with
    |some (.agg zs)=>match Nat.beq zs.size (P.cellsOf e)with
     |true=>KY cs.toList (j.toNat*P.cellsOf e) 0 zs.toList λvs=>K (.agg vs.toArray)
     |false=>False
    |_=>False)
   |false=>0<=j/\j<(n:Int)/\(match P.cellsOf e with|1=>dA (zv P e) λz=>CU z cs.toList[j.toNat]? K|_=>False)
  |_,_=>False
 |some .string,.string s,.int _ j=>0<=j/\DI s j λn=>K (.int .u8 n)
 |_,_,_=>False
def vx(P:Program)(t:TypeId)(x:Value)(lo hi:Option Value)(K:Value->Prop):Prop:=
 match P.underlying t,x with
 |some (.slice e),.slice p l c=>match P.info? e with
  |some ti=>match lo,hi with
   |none,some (.int _ j)=>0<=j/\j<=(c:Int)/\K (.slice (if c=0 then p else p.map (·.add (0*ti.size))) (j.toNat-0) (c-0))
   |some (.int _ i),none=>0<=i/\i<=(l:Int)/\K (.slice (if c=i.toNat then p else p.map (·.add (i.toNat*ti.size))) (l-i.toNat) (c-i.toNat))
   |some (.int _ i),some (.int _ j)=>0<=j/\j<=(c:Int)/\0<=i/\i<=j/\K (.slice (if c=i.toNat then p else p.map (·.add (i.toNat*ti.size))) (j.toNat-i.toNat) (c-i.toNat))
   |none,none=>K (.slice (if c=0 then p else p.map (·.add (0*ti.size))) (l-0) (c-0))
   |_,_=>False
  |none=>False
 |some (.array n e),.pointer p=>match P.info? e with
  |some ti=>match lo,hi with
   |none,some (.int _ j)=>aY p λa=>0<=j/\j<=(n:Int)/\K (.slice (some (if n=0 then a else a.add (0*ti.size))) (j.toNat-0) (n-0))
   |none,none=>aY p λa=>K (.slice (some (if n=0 then a else a.add (0*ti.size))) (n-0) (n-0))
   |some (.int _ i),none=>aY p λa=>0<=i/\i<=(n:Int)/\K (.slice (some (if n=i.toNat then a else a.add (i.toNat*ti.size))) (n-i.toNat) (n-i.toNat))
   |_,_=>False
  |none=>False
 |_,_=>False
def uz(x:Value)(i:Nat)(K:Value->Prop):Prop:=
 match x with
 | .tuple vs=>dA vs[i]? K
 |_=>False
def dQ(h:aI)(r:Option Nat)(k1 kk:IntKind)(kn:Int)(K:Option (Nat×Value)->Prop):Prop:=
 dA r λb=> ∃es cl,mp h b=some (es,cl)/\ ∃o,Instr.findNow (.int k1) (.int kk kn) es.toList 0=some o/\K o
def kS(z:Value)(o:Option (Nat×Value)):Value:=match o with|some (_,v)=>v|none=>z
def LT(z:Value)(o:Option (Nat×Value))(ok:Bool)(K:Value->Prop):Prop:=
 match ok with
 |true=>CU z (some (kS z o)) λv=>K (.tuple #[v,.bool o.isSome])
 |false=>CU z (some (kS z o)) K
def sI(P:Program)(t:TypeId)(h:aI)(x k:Value)(ok:Bool)(K:Value->Prop):Prop:=
 match P.underlying t,x,k with
 |some (.map kt et),.map r,.int kk kn=>match P.underlying kt,zv P et with
  |some (.int k1),some z=>dQ h r k1 kk kn λo=>LT z o ok K
  |_,_=>False
 |_,_,_=>False
def sW(P:Program)(t:TypeId)(a:Option (List Value))(ix:List Nat)(K:Value->Prop):Prop:=
 match P.underlying t,zv P t,a with
 |some (.struct fs),some z,some vs=>match fs.toList.all (λf=>(P.info? f.type).isSome)with
  |true=>dA (Instr.fill ((fs.map λf=>(f.offset,P.cellsOf f.type))[·]?) z.cells (ix.zip vs)) λcells=>K (.agg cells)
  |false=>False
 |some (.array _ e),some z,some vs=>match (P.info? e).isSome with
  |true=>dA (Instr.fill (λi=>some (i*P.cellsOf e,P.cellsOf e)) z.cells (ix.zip vs)) λcells=>K (.agg cells)
  |false=>False
 |_,_,_=>False
def wM(P:Program)(t:TypeId)(v:Value)(K:Value->Prop):Prop:=
 match P.underlying t with
 |some (.interface _)=>False
 |some _=>K (.iface t v)
 |none=>False
def lR(P:Program)(a:TypeId)(ok:Bool)(x:Value)(K:Value->Prop):Prop:=
 match P.underlying a,x with
 |some (.interface _),_=>False
 |some _,.iface t v=>match Nat.beq t a with
  |true=>(match ok with|true=>K (.tuple #[v,.bool true])|false=>K v)
  |false=>False
 |_,_=>False
def Hd(P:Program)(t:TypeId)(h:aI)(x:Value)(K:Value->Prop):Prop:=
 match P.underlying t,x with
 |some (.slice _),.slice _ l _=>K (.int .i64 l)
 |some (.array n _),_=>K (.int .i64 n)
 |some .string,.string s=>K (.int .i64 s.size)
 |some (.map _ _),.map r=>dA r λb=> ∃es cl,mp h b=some (es,cl)/\K (.int .i64 es.size)
 |_,_=>False
def Gd(P:Program)(t:TypeId)(x:Value)(K:Value->Prop):Prop:=
 match P.underlying t,x with
 |some (.slice _),.slice _ _ c=>K (.int .i64 c)
 |_,_=>False
def KN(mx:Bool)(x y:Value)(K:Value->Prop):Prop:=
 match x,y with
 | .int k a,.int _ b=>K (.int k (match mx with|true=>(if b>a then b else a)|false=>(if b<a then b else a)))
 |_,_=>False
def JS(ρ:Fr):Option Operand->Option (Option Value)
 |none=>some none
 |some x=>match ev ρ x with|some v=>some (some v)|none=>none
def vg(P:Program)(o:Op)(ρ:Fr)(h:aI)(K:Value->Prop):Prop:=
 match o with
 | .move x=>dA (ev ρ x) K
 | .assign x=>dA (ev ρ x) K
 | .pick c a b=>match ev ρ c with|some (.bool t)=>FP t (ev ρ a) (ev ρ b) K|_=>False
 | .nilCheck x=>dA (ev ρ x) λv=>GU v K
 | .binOp op t x y _=>dA (ev ρ x) λa=>dA (ev ρ y) λb=>HD P h op t a b K
 | .unOp op _ x=>dA (ev ρ x) λa=>KW op a K
 | .convert s d x=>dA (ev ρ x) λa=>AV P s d a K
 | .load t a=>match ev ρ a with|some (.pointer p)=>uT P t h p K|_=>False
 | .fieldAddr s x i=>dA (ev ρ x) λa=>kG P s a i K
 | .field s x i=>dA (ev ρ x) λa=>vW P s a i K
 | .indexAddr t x i=>dA (ev ρ x) λa=>dA (ev ρ i) λb=>kz P t a b K
 | .index t x i=>dA (ev ρ x) λa=>dA (ev ρ i) λb=>wa P t a b K
 | .slice t x lo hi none=>dA (ev ρ x) λa=>dA (JS ρ lo) λl=>dA (JS ρ hi) λu=>vx P t a l u K
 | .extract x i=>dA (ev ρ x) λa=>uz a i K
 | .lookup t x k ok=>dA (ev ρ x) λa=>dA (ev ρ k) λb=>sI P t h a b ok K
 | .build t ps=>sW P t (y9 ρ (ps.toList.map (·.2))) (ps.toList.map (·.1)) K
 | .makeInterface t x=>dA (ev ρ x) λa=>wM P t a K
 | .makeFunc fn first captured=>dA (y9 ρ first.toList) λa=>dA (y9 ρ captured.toList) λb=>K (.func fn a.toArray b.toArray)
 | .typeAssert x _ t ok=>dA (ev ρ x) λa=>lR P t ok a K
 | .call {callee:= .builtin b,args,argTypes}=>match b,args.toList,argTypes.toList with
  | .len,[x],[t]=>dA (ev ρ x) λa=>Hd P t h a K
  | .cap,[x],[t]=>dA (ev ρ x) λa=>Gd P t a K
  | .max,[x,y],_=>dA (ev ρ x) λa=>dA (ev ρ y) λb=>KN true a b K
  | .min,[x,y],_=>dA (ev ρ x) λa=>dA (ev ρ y) λb=>KN false a b K
  |_,_,_=>False
 |_=>False
def pP:Op->Bool
 | .alloc _=>true| .box _ _=>true| .buildSlice _ _ _=>true| .store _ _ _=>true| .makeMap _ _=>true| .makeSlice _ _ _=>true
 | .mapUpdate _ _ _ _=>true| .mapEntry _ _ _=>true| .entryStore _ _ _ _=>true| .insert _ _ _ _=>true
 | .range _ _=>true| .next _ _=>true| .entry _=>true
 | .call {callee:= .builtin b,..}=>(match b with| .len=>false| .cap=>false| .max=>false| .min=>false|_=>true)
 | .call _=>true
 |_=>false
def ct(w w':World):Prop:=w'.os=w.os/\w'.tape=w.tape/\w'.output=w.output
def ib(P:Program)(f:FuncId)(args:List Value)(h:aI)(K:Value->aI->Prop):Prop:=
 ∀w:World,w.heap=h->Calls P f args.toArray w λe w'=> ∃v,e= .returned v/\ct w w'/\K v w'.heap
inductive cH where
 |go|load (k:IntKind)|store|cas (k:IntKind)|add (k:IntKind)
 /--no function:the types of the key and the element at which an iterator (a slot) stands-/
 |ent (k v:TypeId)
def bQ:List (Nat×cH)->Nat->Option cH
 | [],_=>none
 |(k,v)::r,t=>match Nat.beq k t with|true=>some v|false=>bQ r t
def LE(P:Program):List TypeId->Option (List Value)
 | []=>some []
 |t::ts=>match zv P t,LE P ts with|some z,some zs=>some (z::zs)|_,_=>none
def Dl(P:Program)(ty:TypeId)(v:Value)(K:Value->Prop):Prop:=
 match ((P.info? ty).map (λi=>i.desc):Option TypeDesc)with
 |some (TypeDesc.tuple ts)=>dA (LE P ts.toList) λzs=>KS zs λvs=>v= .tuple vs.toArray/\K (.tuple vs.toArray)
 |some _=>dA (zv P ty) λz=>(match z with
  | .agg zs=>KR zs.toList λvs=>v= .agg vs.toArray/\K (.agg vs.toArray)
  |z=>CU z (some v) K)
 |none=>False
def Aj(P:Program)(f:FuncId)(args:List Value)(ty:TypeId)(h:aI)(K:Value->aI->Prop):Prop:=
 ib P f args h λv h'=>Dl P ty v λv'=>K v' h'
def aW(h:aI)(a:Addr)(v:Value)(K:aI->Prop):Prop:=
 match v.oneCell' with
 |true=>(rd h a).isSome=true/\fz h a=false/\K (wr h a v)
 |false=>False
def bf(h:aI)(o:Obj)(K:Nat->aI->Prop):Prop:=K h.size (h.push o)
def pE(a:Addr):Nat->List Value->aI->(aI->Prop)->Prop
 |_,[],h,K=>K h
 |i,v::vs,h,K=>aW h (a.add i) v λh'=>pE a (i+1) vs h' K
def IE(e:cH)(args:List Value)(h:aI)(K:Value->aI->Prop):Prop:=
 match e,args with
 | .load k,[.pointer p]=>aY p λa=>aQ k (rd h a) λn=>K (.int k n) h
 | .store,[.pointer p,.int k y]=>aY p λa=>aW h a (.int k y) λh'=>K (.tuple #[]) h'
 | .cas k,[.pointer p,.int k1 x,.int k2 y]=>match HA k k1,HA k k2 with
  |true,true=>aY p λa=>aQ k (rd h a) λn=>aK (n==x) (aW h a (.int k y) λh'=>K (.bool true) h') (fz h a=false/\K (.bool false) h)
  |_,_=>False
 | .add k,[.pointer p,.int k1 y]=>match HA k k1 with
  |true=>aY p λa=>aQ k (rd h a) λn=>aW h a (.int k (k.wrap (n+y))) λh'=>K (.int k (k.wrap (n+y))) h'
  |_=>False
 |_,_=>False
def Ln(P:Program)(X:List (Nat×cH))(f:FuncId)(args:List Value)(ty:TypeId)(h:aI)(K:Value->aI->Prop):Prop:=
 match bQ X f with
 |some .go=>Aj P f args ty h K
 |some e=>IE e args h K
 |none=>False
def eD(P:Program)(X:List (Nat×cH))(f:Value)(args:List Value)(h:aI)(K:Value->aI->Prop):Prop:=
 match f with
 | .func (.func g) first captured=>(match bQ X g with
  |some .go=>ib P g (first.toList++args++captured.toList) h K
  |_=>False)
 |_=>False
def HG(P:Program)(X:List (Nat×cH))(f:Value)(args:List Value)(ty:TypeId)(h:aI)(K:Value->aI->Prop):Prop:=
 eD P X f args h λv h'=>Dl P ty v λv'=>K v' h'
def GY(P:Program)(t:TypeId)(a:String):Option FuncId:=
 match P.info? t,P.underlying t with
 |some i,some (.pointer _)=>match i.methods.find? (·.name==a)with
  |some m=>match m.path.isEmpty,m.func with
   |true,some (f,true)=>some f
   |_,_=>none
  |none=>none
 |_,_=>none
def HQ(P:Program)(X:List (Nat×cH))(r:Value)(a:String)(args:List Value)(ty:TypeId)(h:aI)(K:Value->aI->Prop):Prop:=
 match r with
 | .iface t v=>match GY P t a with
  |some f=>(match bQ X f with
   |some .go=>Aj P f (v::args) ty h K
   |_=>False)
  |none=>False
 |_=>False
def oW(h:aI)(a:Addr)(cs:List Value):Prop:= ∀j v,cs[j]? =some v->rd h (a.add j)=some v
def fC(h:aI)(e:TypeId)(sz d:Nat)(z:Array Value)(p:Option Addr)(l c:Nat)(q:Option Addr)(n:Nat)(K:Option Addr->Nat->Nat->aI->Prop):Prop:=
 ∃new:List Value,new.length=n*sz/\(match q with|some b=>oW h b new|none=>n=0)/\
  (l+n<=c->match p with
   |some a=>pE (a.add (l*sz)) 0 new h λh'=>K p (l+n) c h'
   |none=>n*sz=0/\K p (l+n) c h)/\
  (c<l+n-> ∃old:List Value,old.length=l*sz/\(match p with|some a=>oW h a old|none=>l=0)/\
   (l+n)*d<=140737488355328/\
   ∀cap,l+n<=cap->K (some ⟨h.size,0,none⟩) (l+n) cap (h.push (.cells (old.toArray++new.toArray++Builtin.zeroCells z (cap-(l+n))) e)))
def wX(h:aI)(sz:Nat)(p:Option Addr)(l:Nat)(q:Option Addr)(n:Nat)(K:Nat->aI->Prop):Prop:=
 ∃new:List Value,new.length=Nat.min n l*sz/\(match q with|some b=>oW h b new|none=>n=0)/\
  match p with
  |some a=>pE a 0 new h λh'=>K (Nat.min n l) h'
  |none=>K (Nat.min n l) h
def kh(P:Program)(t:TypeId):Option (Nat×Nat×Array Value):=
 match P.info? t with
 |some i=>match i.zero with|some z=>some (i.size,i.bytes,z.cells)|none=>none
 |none=>none
def JV(P:Program)(t u:TypeId)(x y:Value)(h:aI)(K:Value->aI->Prop):Prop:=
 match P.underlying t,P.underlying u,x,y with
 |some (.slice e),some (.slice _),.slice p l c,.slice q n _=>match kh P e with
  |some (sz,by_,z)=>match Nat.ble 1 by_ with
   |true=>fC h e sz by_ z p l c q n λp' l' c' h'=>K (.slice p' l' c') h'
   |false=>False
  |none=>False
 |_,_,_,_=>False
def FC(P:Program)(t:TypeId)(x y:Value)(h:aI)(K:Value->aI->Prop):Prop:=
 match P.underlying t,x,y with
 |some (.slice e),.slice p l _,.slice q n _=>match P.info? e with
  |some ti=>wX h ti.size p l q n λm h'=>K (.int .i64 m) h'
  |none=>False
 |_,_,_=>False
def vF(h:aI)(z:Array Value)(p:Option Addr)(n:Nat)(K:aI->Prop):Prop:=
 match p with
 |some a=>pE a 0 (Builtin.zeroCells z n).toList h K
 |none=>K h
def vB(P:Program)(t:TypeId)(x:Value)(h:aI)(K:aI->Prop):Prop:=
 match P.underlying t,x with
 |some (.slice e),.slice p n _=>match kh P e with
  |some (_,_,z)=>vF h z p n K
  |none=>False
 |_,_=>False
def dp(P:Program)(t:TypeId)(p:Option Addr)(v:Value)(h:aI)(K:aI->Prop):Prop:=
 match P.info? t with
 |some ti=>match Nat.beq v.cells.size ti.size with
  |true=>aY p λa=>pE a 0 v.cells.toList h K
  |false=>False
 |none=>False
def kN(P:Program)(t:TypeId)(l c:Value)(h:aI)(K:Value->aI->Prop):Prop:=
 match P.underlying t,l,c with
 |some (.slice e),.int _ i,.int _ j=>match kh P e with
  |some (sz,a,z)=>0<=i/\i<=j/\(a:Int)*j<=281474976710656/\j<=9223372036854775807/\
    bf h (.cells (madeCells z (j.toNat*sz)) e) λb h'=>K (.slice (some ⟨b,0,none⟩) i.toNat j.toNat) h'
  |none=>False
 |_,_,_=>False
def gS(P:Program)(t:TypeId)(len:Nat)(a:Option (List Value))(ix:List Nat)(h:aI)(K:Value->aI->Prop):Prop:=
 match P.underlying t,a with
 |some (.slice e),some vs=>match kh P e with
  |some (sz,_,z)=>match Nat.ble (len*sz) 16777216 with
   |true=>dA (Instr.fill (λi=>some (i*sz,sz)) (madeCells z (len*sz)) (ix.zip vs)) λcells=>
     bf h (.cells cells e) λb h'=>K (.slice (some ⟨b,0,none⟩) len len) h'
   |false=>False
  |none=>False
 |_,_=>False
def Ms(k1 kk:IntKind)(kn:Int)(es:Array MapEntry):Option (Option (Nat×Value)):=Instr.findNow (.int k1) (.int kk kn) es.toList 0
def He(h:aI)(r:Option Nat)(k1 kk:IntKind)(kn:Int)(K:Nat->Array MapEntry->Nat->Option (Nat×Value)->Prop):Prop:=
 dA r λb=> ∃es cl,mp h b=some (es,cl)/\ ∃o,Ms k1 kk kn es=some o/\K b es cl o
def lg(h:aI)(r:Option Nat)(k1 kk:IntKind)(kn:Int)(v:Value)(K:aI->Prop):Prop:=
 He h r k1 kk kn λb es cl o=>match o with
  |some (i,_)=>Instr.sameBits 10000 (((es[i]?).map (·.key)).getD (.int kk kn)) (.int kk kn)=true/\
    K (h.setIfInBounds b (.map (es.modify i λe=>{e with key:= .int kk kn,val:=v}) cl))
  |none=>K (h.setIfInBounds b (.map (es.push {key:= .int kk kn,val:=v,born:=cl}) (cl+1)))
def AH(h:aI)(r:Option Nat)(k1 kk:IntKind)(kn:Int)(z:Value)(K:Value->Int->aI->Prop):Prop:=
 He h r k1 kk kn λb es cl o=>match o with
  |some (i,v)=>Instr.sameBits 10000 (((es[i]?).map (·.key)).getD (.int kk kn)) (.int kk kn)=true/\
    K v (((es[i]?).map (·.born)).getD 0) (h.setIfInBounds b (.map (es.modify i λe=>{e with key:= .int kk kn}) cl))
  |none=>K z cl (h.setIfInBounds b (.map (es.push {key:= .int kk kn,val:=z,born:=cl}) (cl+1)))
def Cz(h:aI)(r:Option Nat)(st:Int)(v:Value)(K:aI->Prop):Prop:=
 dA r λb=> ∃es cl,mp h b=some (es,cl)/\ ∃i,es.findIdx? (λe=>(e.born:Int)==st)=some i/\
   K (h.setIfInBounds b (.map (es.modify i λe=>{e with val:=v}) cl))
def yQ(h:aI)(r:Option Nat)(k1 kk:IntKind)(kn:Int)(K:aI->Prop):Prop:=
 He h r k1 kk kn λb es cl o=>match o with
  |some (i,_)=>K (h.setIfInBounds b (.map (es.eraseIdxIfInBounds i) cl))
  |none=>K (h.setIfInBounds b (.map es cl))
def ku(P:Program)(t:TypeId)(m k v:Value)(h:aI)(K:aI->Prop):Prop:=
 match P.underlying t,m,k with
 |some (.map kt _),.map r,.int kk kn=>match P.underlying kt with
  |some (.int k1)=>lg h r k1 kk kn v K
  |_=>False
 |_,_,_=>False
def mw(P:Program)(t:TypeId)(m k:Value)(h:aI)(K:Value->aI->Prop):Prop:=
 match P.underlying t,m,k with
 |some (.map kt et),.map r,.int kk kn=>match P.underlying kt,zv P et with
  |some (.int k1),some z=>AH h r k1 kk kn z λv st h'=>CU z (some v) λv'=>K (.tuple #[v',.int .i64 st]) h'
  |_,_=>False
 |_,_,_=>False
def jt(m s v:Value)(h:aI)(K:aI->Prop):Prop:=
 match m,s with
 | .map r,.int _ st=>Cz h r st v K
 |_,_=>False
def rY(P:Program)(t:TypeId)(m k:Value)(h:aI)(K:aI->Prop):Prop:=
 match P.underlying t,m,k with
 |some (.map kt _),.map r,.int kk kn=>match P.underlying kt with
  |some (.int k1)=>yQ h r k1 kk kn K
  |_=>False
 |_,_,_=>False
def DQ(h:aI)(r:Option Nat)(K:Option Addr->aI->Prop):Prop:=
 match r with
 |none=>bf h (.mapIter none 0 #[] 0) λb h'=>K (some ⟨b,0,none⟩) h'
 |some m=> ∃es cl,mp h m=some (es,cl)/\bf h (.mapIter (some m) cl #[] cl) λb h'=>K (some ⟨b,0,none⟩) h'
def Hj(h:aI)(p:Option Addr)(K0:Prop)(K1:Value->Value->aI->Prop):Prop:=
 aY p λa=>a.off=0/\ ∃m b c last,h[a.block]? =some (.mapIter m b c last)/\
  match m with
  |none=>K0
  |some m=> ∃es cl,mp h m=some (es,cl)/\(∀x∈es.toList,x.born<b)/\b<=last/\((leftOf es c).size=0->K0)/\
    ∀e∈(leftOf es c).toList,K1 e.key e.val (h.setIfInBounds a.block (.mapIter (some m) b (c.push e.born) cl))
def zu(h:aI)(p:Option Addr)(K:Value->Value->Prop):Prop:=
 aY p λa=>a.off=0/\ ∃m d c cl es b e,h[a.block]? =some (.mapIter (some m) d c cl)/\c.back? =some b/\mp h m=some (es,cl)/\es.find? (·.born==b)=some e/\K e.key e.val
def ww(P:Program)(t:TypeId)(x:Value)(h:aI)(K:Value->aI->Prop):Prop:=
 match P.underlying t,x with
 |some (.map _ _),.map r=>DQ h r λp h'=>K (.pointer p) h'
 |_,_=>False
def BP(x:Value)(h:aI)(K:Value->aI->Prop):Prop:=
 match x with
 | .pointer p=>Hj h p (K (.tuple #[.bool false]) h) λk v h'=>K (.tuple #[.bool true,k,v]) h'
 |_=>False
def wF(P:Program)(kt vt:TypeId)(x:Value)(h:aI)(K:Value->aI->Prop):Prop:=
 match x with
 | .pointer p=>zu h p λk v=>dA (LE P [kt,vt]) λzs=>KS zs λvs=>(Value.tuple #[k,v]=Value.tuple vs.toArray)/\K (.tuple vs.toArray) h
 |_=>False
def HP(P:Program)(X:List (Nat×cH))(o:Op)(ty:TypeId)(ρ:Fr)(h:aI)(K:Value->aI->Prop):Prop:=
 match o with
 | .alloc t=>dA (zv P t) λz=>bf h (.cells z.cells t) λb h'=>K (.pointer (some ⟨b,0,none⟩)) h'
 | .box t x=>dA (ev ρ x) λv=>bf h (.cells v.cells t) λb h'=>K (.pointer (some ⟨b,0,none⟩)) h'
 | .store t a x=>match ev ρ a with
  |some (.pointer p)=>dA (ev ρ x) λv=>dp P t p v h λh'=>K undef h'
  |_=>False
 | .makeMap _ none=>bf h (.map #[] 0) λb h'=>K (.map (some b)) h'
 | .makeSlice t l c=>dA (ev ρ l) λa=>dA (ev ρ c) λb=>kN P t a b h K
 | .buildSlice t n ps=>gS P t n (y9 ρ (ps.toList.map (·.2))) (ps.toList.map (·.1)) h K
 | .mapUpdate t m k x=>dA (ev ρ m) λa=>dA (ev ρ k) λb=>dA (ev ρ x) λv=>ku P t a b v h λh'=>K undef h'
 | .mapEntry t m k=>dA (ev ρ m) λa=>dA (ev ρ k) λb=>mw P t a b h K
 | .entryStore _ m s x=>dA (ev ρ m) λa=>dA (ev ρ s) λb=>dA (ev ρ x) λv=>jt a b v h λh'=>K undef h'
 | .range t x=>dA (ev ρ x) λa=>ww P t a h K
 | .next x str=>dA (ev ρ x) λa=>match str with|false=>BP a h K|true=>False
 | .entry x=>dA (ev ρ x) λa=>match x with
  | .tmp t=>(match bQ X (1000000+t)with|some (.ent kt vt)=>wF P kt vt a h K|_=>False)
  |_=>False
 | .call {callee:= .value f,args,..}=>dA (y9 ρ args.toList) λxs=>match f with
  | .func g=>Ln P X g xs ty h K
  |f=>dA (ev ρ f) λfv=>HG P X fv xs ty h K
 | .call {callee:= .invoke r name,args,..}=>dA (ev ρ r) λrv=>dA (y9 ρ args.toList) λxs=>HQ P X rv name xs ty h K
 | .call {callee:= .builtin b,args,argTypes}=>match b,args.toList,argTypes.toList with
  | .append,[x,y],[t,u]=>dA (ev ρ x) λa=>dA (ev ρ y) λb=>JV P t u a b h K
  | .copy,[x,y],[t,_]=>dA (ev ρ x) λa=>dA (ev ρ y) λb=>FC P t a b h K
  | .delete,[x,y],[t,_]=>dA (ev ρ x) λa=>dA (ev ρ y) λb=>rY P t a b h λh'=>K (.tuple #[]) h'
  | .clear,[x],[t]=>dA (ev ρ x) λa=>vB P t a h λh'=>K (.tuple #[]) h'
  |_,_,_=>False
 |_=>False
def Lx(P:Program)(X:List (Nat×cH))(o:Oper)(ρ:Fr)(h:aI)(K:Value->aI->Prop):Prop:=
 match pP o.op with
 |true=>HP P X o.op o.type ρ h K
 |false=>vg P o.op ρ h λv=>K v h
def Bu(ops:Array Oper)(o:Oper)(ρ:Fr)(run skip:Fr->Prop):Prop:=
 match o.guard with
 |none=>run ρ
 |some (j,want)=>match (ops[j]?).bind (·.dst)with
  |none=>False
  |some d=>match get ρ d with
   |some (.bool b)=>(match want with
    |true=>aK b (run ((d,.bool true)::ρ)) (skip ((d,.bool false)::ρ))
    |false=>aK b (skip ((d,.bool true)::ρ)) (run ((d,.bool false)::ρ)))
   |some (.tuple _)=>skip ρ
   |_=>False
def pO(P:Program)(X:List (Nat×cH))(ops:Array Oper)(o:Oper)(ρ:Fr)(h:aI)(K:Fr->aI->Prop):Prop:=
 Bu ops o ρ (λρ=>Lx P X o ρ h λv h'=>K (put ρ o.dst v) h') (λρ=>K (put ρ o.dst undef) h)
def KP(P:Program)(X:List (Nat×cH))(ops:Array Oper):List Oper->Fr->aI->(Fr->aI->Prop)->Prop
 | [],ρ,h,K=>K ρ h
 |o::rest,ρ,h,K=>pO P X ops o ρ h λρ' h'=>KP P X ops rest ρ' h' K
def fk(P:Program)(ops:Array Oper)(ρ:Fr)(h:aI):List Nat->Prop->Prop
 | [],K=>K
 |j::js,K=>match ops[j]? with
  |none=>False
  |some o=>
        match o.dst with
   |none=>False
   |some d=>match get ρ d with
    |none=>False
    |some v=>match o.guard with
     |none=>vg P o.op ρ h λv'=>v'=v/\fk P ops ρ h js K
     |some (i,want)=>match (ops[i]?).bind (·.dst)with
      |none=>False
      |some g=>match get ρ g with
       |some (.bool b)=>(match want with
        |true=>aK b (vg P o.op ρ h λv'=>v'=v/\fk P ops ρ h js K) (v=undef/\fk P ops ρ h js K)
        |false=>aK b (v=undef/\fk P ops ρ h js K) (vg P o.op ρ h λv'=>v'=v/\fk P ops ρ h js K))
       |some (.tuple _)=>v=undef/\fk P ops ρ h js K
       |_=>False
def GP(P:Program)(X:List (Nat×cH))(ops:Array Oper):List (Nat×List Nat)->Fr->aI->(Fr->aI->Prop)->Prop
 | [],ρ,h,K=>K ρ h
 |(i,js)::rest,ρ,h,K=>match ops[i]? with
  |none=>False
  |some o=>pO P X ops o ρ h λρ' h'=>fk P ops ρ' h' js (GP P X ops rest ρ' h' K)
def H9(P:Program)(X:List (Nat×cH))(ops:Array Oper):List (List (Nat×List Nat))->Fr->aI->(Fr->aI->Prop)->Prop
 | [],_,_,_=>False
 | [l],ρ,h,K=>GP P X ops l ρ h K
 |l::ls,ρ,h,K=>GP P X ops l ρ h K/\H9 P X ops ls ρ h K
def KT(ops:Array Oper)(i:Nat):Bool:=match ops[i]? with|some o=>pP o.op|none=>false
def ll(ops:Array Oper):List (Nat×List Nat)->List (Nat×List Nat)
 | []=> []
 |x::l=>match KT ops x.1 with|true=> []|false=>x::ll ops l
def iW(ops:Array Oper):List (Nat×List Nat)->List (Nat×List Nat)
 | []=> []
 |x::l=>match KT ops x.1 with|true=>x::l|false=>iW ops l
def yB(i:Nat):List (Nat×List Nat)->Bool
 | []=>false
 |x::l=>match Nat.beq x.1 i with|true=>true|false=>yB i l
def jh:List (List (Nat×List Nat))->List (Nat×List Nat)
 | []=> []
 | []::A=>jh A
 |(x::_)::A=>let r:=jh A;match yB x.1 r with|true=>r|false=>x::r
def qH(i:Nat):List (List (Nat×List Nat))->List (List (Nat×List Nat))
 | []=> []
 | []::A=>qH i A
 |(x::l)::A=>match Nat.beq x.1 i with|true=>l::qH i A|false=>qH i A
def GZ(P:Program)(X:List (Nat×cH))(ops:Array Oper)(a:List (List (Nat×List Nat))->Fr->aI->Prop)(A:List (List (Nat×List Nat))):List (Nat×List Nat)->Fr->aI->Prop
 | [],_,_=>True
 | [(i,js)],ρ,h=>(match ops[i]? with|none=>False|some o=>pO P X ops o ρ h λρ' h'=>fk P ops ρ' h' js (a (qH i A) ρ' h'))
 |(i,js)::l,ρ,h=>(match ops[i]? with|none=>False|some o=>pO P X ops o ρ h λρ' h'=>fk P ops ρ' h' js (a (qH i A) ρ' h'))/\GZ P X ops a A l ρ h
def KO(P:Program)(X:List (Nat×cH))(ops:Array Oper)(K:Fr->aI->Prop):Nat->List (List (Nat×List Nat))->Fr->aI->Prop
 |0,_,_,_=>False
 |_+1,[],_,_=>False
 |n+1,a::A,ρ,h=>GP P X ops (ll ops a) ρ h λρ' h'=>
  match iW ops a with
  | []=>K ρ' h'
  |_::_=>let B:=(a::A).map (iW ops);GZ P X ops (KO P X ops K n) B (jh B) ρ' h'
abbrev KK:=Value->aI->Prop
def Ll{α γ:Sort _}(f:α->γ){a a':α}(h:a=a'):f a=f a':=congrArg f h
def ME{α β γ:Sort _}(f:α->β->γ){a a':α}{b b':β}(h:a=a')(g:b=b'):f a b=f a' b':=by rw[h,g]
def Cr{p q:Nat->Prop}(h: ∀n,p n=q n):(∃n,p n)= ∃n,q n:=congrArg _ (funext h)
structure bi where
 cuts:List (Nat×List Nat)
 alts:List (Nat×List (List (Nat×List Nat)))
def DF{α:Type}:List (Nat×α)->Nat->Option α
 | [],_=>none
 |(k,v)::r,t=>match Nat.beq k t with|true=>some v|false=>DF r t
def sU:Code->Option Nat
 | .region id _ _=>some id
 | .seq a _=>sU a
 | .block _ c=>sU c
 | .loop c=>sU c
 |_=>none
def pn(T:bi)(c:Code):Option (List Nat):=
 match sU c with
 |some id=>DF T.cuts id
 |none=>none
def CK(q:Option (List Nat))(ρ:Fr):Fr:=match q with|some L=>cut L ρ|none=>ρ
abbrev XK:=Exit->Fr->aI->Prop
abbrev lU:=(Fr->aI->Prop)->Fr->aI->Prop
def DZ(S:lU)(q:Option (List Nat))(κ:Fr->aI->Prop)(K:Exit->Fr->aI->Prop):Exit->Fr->aI->Prop:=λe ρ h=>
 match e with
 | .normal=>(match q with|some L=>S κ (cut L ρ) h|none=>κ ρ h)
 |e=>K e ρ h
def Bl(S:lU)(q:Option (List Nat))(κ:Fr->aI->Prop)(K:Exit->Fr->aI->Prop):Exit->Fr->aI->Prop:=λe ρ h=>
 match e with
 | .normal=>S κ (CK q ρ) h
 |e=>K e ρ h
def pf(id:Nat)(K:Exit->Fr->aI->Prop):Exit->Fr->aI->Prop:=λe ρ h=>match e with| .exit i=>(match Nat.beq i id with|true=>K .normal ρ h|false=>K (.exit i) ρ h)|e=>K e ρ h
def rJ(S:lU)(body:(Exit->Fr->aI->Prop)->Fr->aI->Prop)(q:Option (List Nat))(K:Exit->Fr->aI->Prop):Nat->Fr->aI->Prop
 |0,_,_=>False
 |n+1,ρ,h=>body (Bl S q (rJ S body q K n) K) ρ h
def E(P:Program)(X:List (Nat×cH))(T:bi)(S:lU):Code->(Exit->Fr->aI->Prop)->Fr->aI->Prop
 | .skip,K,ρ,h=>K .normal ρ h
 | .region id ops draw,K,ρ,h=>match draw with
  |false=>KP P X ops ops.toList ρ h λρ' h'=>K .normal ρ' h'
  |true=>match DF T.alts id with
   |some ls=>(match Nat.ble 5 ls.length with
    |true=>KO P X ops (λρ' h'=>K .normal ρ' h') (ops.size+1) ls ρ h
    |false=>H9 P X ops ls ρ h λρ' h'=>K .normal ρ' h')
   |none=>False
 | .seq a b,K,ρ,h=>E P X T S a (DZ S (pn T b) (E P X T S b K) K) ρ h
 | .cond c a b,K,ρ,h=>match ev ρ c with
  |some (.bool t)=>aK t (E P X T S a K ρ h) (E P X T S b K ρ h)
  |_=>False
 | .block id c,K,ρ,h=>E P X T S c (pf id K) ρ h
 | .loop c,K,ρ,h=> ∃n,S (rJ S (E P X T S c) (pn T c) K n) (CK (pn T c) ρ) h
 | .exit id,K,ρ,h=>K (.exit id) ρ h
 | .ret,K,ρ,h=>K .ret ρ h
 | .label _,K,ρ,h=>K .normal ρ h
 |_,_,_,_=>False
def sub:Code->List Nat->Code
 |c,[]=>c
 | .seq a _,0::p=>sub a p
 | .seq _ b,1::p=>sub b p
 | .cond _ a _,0::p=>sub a p
 | .cond _ _ b,1::p=>sub b p
 | .block _ c,0::p=>sub c p
 | .loop c,0::p=>sub c p
 |_,_=> .skip
abbrev S0:lU:=λκ ρ h=>κ ρ h
def vm(P:Program):List ResultVar->Fr->aI->(List Value->Prop)->Prop
 | [],_,_,K=>K []
 | .tmp t::r,ρ,h,K=>dA (get ρ t) λv=>vm P r ρ h λvs=>K (v::vs)
 | .cell a t::r,ρ,h,K=>match get ρ a with
  |some (.pointer p)=>uT P t h p λv=>vm P r ρ h λvs=>K (v::vs)
  |_=>False
def fin(P:Program)(rs:List ResultVar)(K:Value->aI->Prop)(e:Exit)(ρ:Fr)(h:aI):Prop:=
 match e with
 | .ret=>vm P rs ρ h λvs=>(match vs with| [v]=>K v h|vs=>K (.tuple vs.toArray) h)
 | .normal=>vm P rs ρ h λvs=>(match vs with| [v]=>K v h|vs=>K (.tuple vs.toArray) h)
 |_=>False
def jG:Nat->List Value->Fr
 |_,[]=> []
 |i,v::vs=>(i,v)::jG (i+1) vs
def Gm(f:Operand->Option Value)(xs:Array Operand)(σ:Operand->Value):Prop:= ∀x∈xs,∀v,f x=some v->σ x=v
def Ft(P:Program)(o:Oper)(f:Operand->Option Value)(h:aI)(v:Value):Prop:=
 ∀σ,Gm f o.op.operands σ-> ∀w:World,w.heap=h->(execOp σ o).run P w= .ok (.value v) w
def be(h:dA x K): ∃v,x=some v/\K v:=by
 cases x with
 |none=>exact h.elim
 |some v=>exact⟨v,rfl,h⟩
def eU(h:aK b p q):(b=true/\p)\/(b=false/\q):=by
 cases b
 ·exact .inr ⟨rfl,h⟩
 ·exact .inl ⟨rfl,h⟩
def cI(h:aY p K): ∃a,p=some a/\K a:=by
 cases p with
 |none=>exact h.elim
 |some v=>exact⟨v,rfl,h⟩
def pt(h:Gt z K): ∃v,K v:=by
 unfold Gt at h;split at h
 ·obtain⟨n,h⟩:=h;exact⟨_,h⟩
 ·obtain⟨n,h⟩:=h;exact⟨_,h⟩
 ·obtain⟨n,h⟩:=h;exact⟨_,h⟩
 ·obtain⟨p,l,c,h⟩:=h;exact⟨_,h⟩
 ·obtain⟨n,h⟩:=h;exact⟨_,h⟩
 ·obtain⟨n,h⟩:=h;exact⟨_,h⟩
 ·exact h
def tJ: ∀{K:List Value->Prop},KR zs K-> ∃vs,K vs:=by
 induction zs with
 |nil=>intro K h;exact⟨[],h⟩
 |cons z zs ih=>intro K h;obtain⟨v,h⟩:=pt h;obtain⟨vs,h⟩:=ih h;exact⟨_,h⟩
def Al(h:LJ z K): ∃v,K v:=by
 unfold LJ at h;split at h
 ·obtain⟨vs,h⟩:=tJ h;exact⟨_,h⟩
 ·exact pt h
def tY: ∀{K:List Value->Prop},KS zs K-> ∃vs,K vs:=by
 induction zs with
 |nil=>intro K h;exact⟨[],h⟩
 |cons z zs ih=>intro K h;obtain⟨v,h⟩:=Al h;obtain⟨vs,h⟩:=ih h;exact⟨_,h⟩
def dR(h:CU z x K): ∃v,x=some v/\K v:=pt h
def CB{a:Addr}: ∀{zs:List Value} {i:Nat} {K:List Value->Prop},LN h a i zs K-> ∃vs:List Value,vs.length=zs.length/\(∀j v,vs[j]? =some v->rd h (a.add (i+j))=some v)/\K vs:=by
 intro zs
 induction zs with
 |nil=>intro i K H;exact⟨[],rfl,ak,H⟩
 |cons z zs ih=>
  intro i K H;obtain⟨v,hv,H⟩:=dR H;obtain⟨vs,hl,hr,H⟩:=ih H;refine⟨v::vs,by simp[hl],λj u hj=> ?_,H⟩;cases j with
  |zero=>simp at hj;subst hj;exact hv
  |succ j=>have:=hr j u (by simpa using hj);rw[<-this];congr 2;omega
def gW(w:World)(a:Addr):w.cell? a=rd w.heap a:=rfl
def iu(w:World)(a:Addr):w.frozen? a=fz w.heap a:=rfl
def sH(w:World)(a:Addr)(v:Value):(w.setCell a v).heap=wr w.heap a v:=rfl
def bE{P:Program}(h:P.underlying t=some d)(w:World):(underlying t).run P w= .ok d w:=run_underlying h w
def mS{P:Program}(h:P.info? t=some i)(w:World):(typeInfo t).run P w= .ok i w:=by simp[typeInfo,h]
def cZ{P:Program}{i:TypeInfo}(h:P.info? t=some i)(w:World):(sizeOf t).run P w= .ok i.size w:=by simp[sizeOf,mS h]
def oM(h:zv P t=some z)(w:World):(zeroValue t).run P w= .ok z w:=by
 unfold zv at h;cases hi:P.info? t with
 |none=>simp[hi]at h
 |some i=>simp[hi]at h;simp[zeroValue,mS hi,h]
def tT{P:Program}(h:P.underlying t=some d): ∃i,P.info? t=some i:=by
 unfold Program.underlying at h;cases hi:P.info? t with
 |none=>simp[hi]at h
 |some i=>exact⟨i,rfl⟩
def gE{P:Program}{i:TypeInfo}(h:P.info? t=some i):P.cellsOf t=i.size:=by simp[Program.cellsOf,h]
def lJ{P:Program}(h:P.underlying t=some d)(w:World):(isAgg t).run P w= .ok (KI d) w:=by simp only[isAgg,Sem.run_bind,bE h,Result.andThen_ok];cases d<;>rfl
def BX: ∀{zs:List Value} {i:Nat} {K:List Value->Prop},KY l b i zs K-> ∃vs:List Value,vs.length=zs.length/\(∀j v,vs[j]? =some v->l[b+(i+j)]? =some v)/\K vs:=by
 intro zs
 induction zs with
 |nil=>intro i K H;exact⟨[],rfl,ak,H⟩
 |cons z zs ih=>
  intro i K H;obtain⟨v,hv,H⟩:=dR H;obtain⟨vs,hl,hr,H⟩:=ih H;refine⟨v::vs,by simp[hl],λj u hj=> ?_,H⟩;cases j with
  |zero=>simp at hj;subst hj;exact hv
  |succ j=>have:=hr j u (by simpa using hj);rw[<-this];congr 2;omega
def nh(H:uT P t h p K):
  ∃v,K v/\ ∀w:World,w.heap=h->(Instr.loadAt t (.pointer p)).run P w= .ok v w:=by
 unfold uT at H;split at H
 case h_2=>exact H.elim
 rename_i d z hd hz;obtain⟨i,hi⟩:=tT hd;split at H
 ·rename_i ha;split at H
  case h_2=>exact H.elim
  rename_i zs;split at H
  case h_2=>exact H.elim
  rename_i hs;have hs:=Nn hs
  have HH: ∃a,p=some a/\ ∃vs:List Value,vs.length=zs.toList.length/\(∀j v,vs[j]? =some v->rd h (a.add (0+j))=some v)/\K (.agg vs.toArray):=by
   split at H
   ·obtain⟨a,e,H⟩:=cI H;obtain⟨vs,hl,hr,H⟩:=H;exact⟨a,e,vs,by simpa using hl,λj v hj=>by rw[MF];exact hr j v hj,H⟩
   ·obtain⟨a,e,H⟩:=cI H;exact⟨a,e,CB H⟩
  obtain⟨a,rfl,vs,hl,hr,H⟩:=HH;refine⟨_,H,λw hw=> ?_⟩
  have b:(loadCells a i.size).run P w= .ok vs.toArray w:=by have:=run_loadCells_list (P:=P) (w:=w) a vs (λj v hj=>by rw[gW,hw,<-hr j v hj];simp);rw[<-this,hl,<-gE hi,<-hs];simp
  simp[Instr.loadAt,Instr.sureAddr,loadVar,lJ hd,ha,cZ hi,b]
 ·rename_i ha;obtain⟨a,rfl,H⟩:=cI H;obtain⟨v,hv,H⟩:=dR H;refine⟨v,H,λw hw=> ?_⟩;have hc:w.cell? a=some v:=by rw[gW,hw,hv]
  simp[Instr.loadAt,Instr.sureAddr,loadVar,lJ hd,ha,hc]
def vu(hs:IY op=false)(H:HF op k a b K):
  ∃v,K v/\ ∀w:World,(binOp op t (.int k a) (.int k b)).run P w= .ok v w:=by
 cases op<;>simp only[HF]at H
 case quo=>obtain⟨hb,H⟩:=H;exact⟨_,H,λw=>by simp[binOp,Op.intDiv,hb]⟩
 case rem=>obtain⟨hb,H⟩:=H;exact⟨_,H,λw=>by simp[binOp,Op.intDiv,hb]⟩
 case and=>exact⟨_,H,λw=>by simp[binOp];rfl⟩
 case or=>exact⟨_,H,λw=>by simp[binOp];rfl⟩
 case xor=>exact⟨_,H,λw=>by simp[binOp];rfl⟩
 case andNot=>exact⟨_,H,λw=>by simp[binOp];rfl⟩
 all_goals exact⟨_,H,λw=>by simp[binOp,Op.intArith,Op.intCmp]⟩
def ym(H:KX op k a b K):
  ∃v,K v/\ ∀w:World,(binOp op t (.int k a) (.int k' b)).run P w= .ok v w:=by
 cases op<;>simp only[KX]at H<;>first
  |exact H.elim
  |(obtain⟨hb,H⟩:=H
    have c: ¬b<0:=ah;exact⟨_,H,λw=>by simp[binOp,Op.shift,c]⟩)
def ms(h:HA k k'=true):k=k':=by cases k<;>cases k'<;>first|rfl|(simp[HA]at h)
def iE{P:Program}(hd:P.underlying t=some d)(ha:KI d=false)(cs:Array Value)(off:Nat)(v:Value)(hv:cs[off]? =some v)(w:World):
  (part t cs off).run P w= .ok v w:=by
 simp[part,lJ hd,ha,hv]
def L4{P:Program}{xs ys:Array Value}(d:Nat)(w:World): ∀(fs:List Field) (n:Nat) (b:Bool),
  (∀(i:Nat) (f:Field),fs[i]? =some f→f.offset=n+i∧f.name≠ "_" ∧(∃k,P.underlying f.type=some (.int k)))→
  (xs.toList.drop n).length=fs.length->yA (xs.toList.drop n) (ys.toList.drop n)=some b->(Op.eqFields (d+1) xs ys fs).run P w= .ok b w:=by
 intro fs
 induction fs with
 |nil=>
  intro n b _ hl he;have h0:xs.toList.drop n=[]:=Nv hl;rw[h0]at he;cases hy:ys.toList.drop n with
  |nil=>rw[hy]at he;simp[yA]at he;subst he;simp[Op.eqFields]
  |cons y l=>rw[hy]at he;simp[yA]at he
 |cons f fs ih=>
  intro n b hf hl he;obtain⟨ho,hn,hk⟩:=hf 0 f rfl;cases hx:xs.toList.drop n with
  |nil=>rw[hx]at hl;simp at hl
  |cons x xl=>
   cases hy:ys.toList.drop n with
   |nil=>rw[hx,hy]at he;cases x<;>simp[yA]at he
   |cons y yl=>
    have hxn:xs[n]? =some x:=by have:=congrArg (·[0]?) hx;simpa using this
    have hyn:ys[n]? =some y:=by have:=congrArg (·[0]?) hy;simpa using this
    have hx':xs.toList.drop (n+1)=xl:=by rw[<-Qk,hx];rfl
    have hy':ys.toList.drop (n+1)=yl:=by rw[<-Qk,hy];rfl
    rw[hx,hy]at he;have ih':=λb h=>ih (n+1) b (λi g hg=>by have:=hf (i+1) g (by simpa using hg);rw[this.1];exact⟨ah,this.2⟩) (by rw[hx'];rw[hx]at hl;simpa using hl) h;rw[hx',hy']at ih'
    have hpx:(part f.type xs f.offset).run P w= .ok x w:=by rw[ho];obtain⟨k,hk⟩:=hk;exact iE hk rfl _ _ _ hxn w
    have hpy:(part f.type ys f.offset).run P w= .ok y w:=by rw[ho];obtain⟨k,hk⟩:=hk;exact iE hk rfl _ _ _ hyn w
    simp only[Op.eqFields,Sem.run_ite,hn,PY,not_false_iff,PC,Sem.run_bind,hpx,hpy,Result.andThen_ok];unfold yA at he;split at he
    ·simp at*
    ·rename_i k a _ k' c _ e1 e2;simp only[NL]at e1 e2;obtain⟨rfl,rfl⟩:=e1;obtain⟨rfl,rfl⟩:=e2;split at he
     case h_2=>simp at he
     rename_i hkk;split at he
     case h_2=>simp at he
     rename_i r hr;simp only[Ny]at he;have hkk:=ms hkk;subst hkk;obtain⟨k2,hk⟩:=hk;rw[run_equalIn_int w d _ _ _ _ _ hk];simp only[Result.andThen_ok];by_cases hac:a=c
     ·subst hac;simp at he;subst he;simpa using ih' _ hr
     ·have:(a==c)=false:=by simpa using hac
      simp[this]at he;subst he;simp[this]
    ·simp at he
def MC{P:Program}{xs ys:Array Value}(hk:P.underlying e=some (.int k))(hc:P.cellsOf e=1)(d:Nat)(w:World): ∀(m n:Nat) (b:Bool),
  (xs.toList.drop n).length=m->yA (xs.toList.drop n) (ys.toList.drop n)=some b->(Op.eqItems (d+1) e (P.cellsOf e) xs ys (List.range' n m)).run P w= .ok b w:=by
 intro m;rw[hc]
 induction m with
 |zero=>
  intro n b hl he;have h0:xs.toList.drop n=[]:=Nv hl;rw[h0]at he;cases hy:ys.toList.drop n with
  |nil=>rw[hy]at he;simp[yA]at he;subst he;simp[Op.eqItems]
  |cons y l=>rw[hy]at he;simp[yA]at he
 |succ m ih=>
  intro n b hl he;cases hx:xs.toList.drop n with
  |nil=>rw[hx]at hl;simp at hl
  |cons x xl=>
   cases hy:ys.toList.drop n with
   |nil=>rw[hx,hy]at he;cases x<;>simp[yA]at he
   |cons y yl=>
    have u:xs[n]? =some x:=by have:=congrArg (·[0]?) hx;simpa using this
    have t:ys[n]? =some y:=by have:=congrArg (·[0]?) hy;simpa using this
    have i:xs.toList.drop (n+1)=xl:=by rw[<-Qk,hx];rfl
    have j:ys.toList.drop (n+1)=yl:=by rw[<-Qk,hy];rfl
    rw[hx,hy]at he;have g:=λb h=>ih (n+1) b (by rw[i];rw[hx]at hl;simpa using hl) h;rw[i,j]at g;have o:(part e xs (n*1)).run P w= .ok x w:=iE hk rfl _ _ _ (by simpa using u) w;have q:(part e ys (n*1)).run P w= .ok y w:=iE hk rfl _ _ _ (by simpa using t) w;rw[List.range'_succ];simp only[Op.eqItems,Sem.run_bind,o,q,Result.andThen_ok];unfold yA at he;split at he
    ·simp at*
    ·rename_i k a _ k' c _ e1 e2;simp only[NL]at e1 e2;obtain⟨rfl,rfl⟩:=e1;obtain⟨rfl,rfl⟩:=e2;split at he
     case h_2=>simp at he
     rename_i f;split at he
     case h_2=>simp at he
     rename_i r hr;simp only[Ny]at he;have f:=ms f;subst f;rw[run_equalIn_int w d _ _ _ _ _ hk];simp only[Result.andThen_ok];by_cases hac:a=c
     ·subst hac;simp at he;subst he;simpa using g _ hr
     ·have:(a==c)=false:=by simpa using hac
      simp[this]at he;subst he;simp[this]
    ·simp at he
def wN{P:Program}(h:AW P t e=true):P.eqGuardType P.depth t=false/\(∃k,P.underlying e=some (.int k))/\P.cellsOf e=1/\ ∃i,P.info? e=some i:=by
 simp only[AW,Nm,NC,ON,N4]at h;refine⟨h.1.1.1,?_,h.1.2,h.2⟩;have h3:=h.1.1.2;split at h3
 ·rename_i k hk;exact⟨k,hk⟩
 ·simp at h3
def yn{P:Program}(hu:P.underlying t=some (.struct fs))(h:CC P t=true):
  P.stoodInHeld t=false∧P.eqGuardType P.depth t=false∧ ∀(i:Nat) (f:Field),fs[i]? =some f→f.offset=i∧f.name≠ "_" ∧(∃k,P.underlying f.type=some (.int k)):=by
 simp only[CC,hu,Nm,NC,NE]at h;refine⟨h.1.1.1,h.1.1.2,λi f hf=> ?_⟩
 have:=h.1.2 (f,i) (by rw[Ni];exact⟨i,by simp[List.getElem?_zipIdx,hf]⟩)
 simp only[ON,Qs,PY]at this;refine⟨this.1.1,this.1.2,?_⟩;have h3:=this.2;split at h3
 ·rename_i k hk;exact⟨k,hk⟩
 ·simp at h3
def rO(H:Gr P h t x y K):
  ∃b,K b/\(∀(op:BinOp) (u v:Operand) (w:World),(eqGuard op t u v x y).run P w= .ok () w)/\(∀w:World,w.heap=h->(Op.equal t x y).run P w= .ok b w)/\
   (∀w:World,(binOp .eql t x y).run P w=((Op.equal t x y).run P w).andThen λb w'=> .ok (.bool b) w')/\
   (∀w:World,(binOp .neq t x y).run P w=((Op.equal t x y).run P w).andThen λb w'=> .ok (.bool (!b)) w'):=by
 have m:Op.maxDepth=9999+1:=rfl;unfold Gr at H;split at H
 ·rename_i hd;split at H
  case h_2=>exact H.elim
  refine⟨_,H,λop u v w=>by simp[eqGuard_at_bool],λw _=>by unfold Op.equal;rw[m];exact run_equalIn_bool' w _ _ _ _ hd,λw=> ?_,λw=> ?_⟩<;>simp[binOp]
 ·rename_i e hd
  have key: ∀(p q:Option Addr),(p=none\/q=none)-> ∀w:World,(Op.equal t (.pointer p) (.pointer q)).run P w= .ok (p.isNone&&q.isNone) w:=by intro p q l w;unfold Op.equal;rw[m];unfold Op.equalIn;cases p<;>cases q<;>simp[bE hd]at l ⊢
  split at H
  case h_4=>exact H.elim
  ·rename_i p;refine⟨_,H,λop u v w=>by simp[eqGuard_at_pointer],λw _=>by rw[key _ _ (.inr rfl)];simp,λw=> ?_,λw=> ?_⟩<;>cases p<;>simp[binOp]
  ·rename_i p _;refine⟨_,H,λop u v w=>by simp[eqGuard_at_pointer],λw _=>by rw[key _ _ (.inl rfl)];simp,λw=> ?_,λw=> ?_⟩<;>cases p<;>simp[binOp]
  ·rename_i a b;split at H
   case h_2=>exact H.elim
   rename_i j hj;split at H
   case h_2=>exact H.elim
   rename_i hz;have hz:j.size≠0:=λe=>by rw[e]at hz;cases hz
   by_cases hab:a=b
   ·subst hab;refine⟨true,H.1 rfl,λop u v w=>by simp[eqGuard_at_pointer],λw _=> ?_,λw=> ?_,λw=> ?_⟩
    ·unfold Op.equal;rw[m];unfold Op.equalIn;simp[bE hd,sizeOf,typeInfo,hj,run_sameAddr_same]
    ·simp[binOp]
    ·simp[binOp]
   ·obtain⟨⟨ca,ua,ha⟩,⟨cb,ub,hb⟩,hk⟩:=H.2 hab;refine⟨false,hk,λop u v w=>by simp[eqGuard_at_pointer],λw hw=> ?_,λw=> ?_,λw=> ?_⟩
    ·unfold Op.equal;rw[m];unfold Op.equalIn;subst hw;simp[bE hd,sizeOf,typeInfo,hj,hz,run_sameAddr_other w hab ha hb]
    ·simp[binOp]
    ·simp[binOp]
 ·rename_i fs hd;split at H
  case h_2=>exact H.elim
  rename_i xs ys d;split at H
  case h_2=>exact H.elim
  rename_i c;have c:=Nn c;obtain⟨b,hb,H⟩:=be H;obtain⟨hp,hg,hf⟩:=yn hd d;have g:P.fieldsOf t=fs:=by simp[Program.fieldsOf,hd]
  refine⟨b,H,λop u v w=>run_eqGuard_agg w op t u v xs ys hg,λw _=> ?_,λw=> ?_,λw=> ?_⟩
  ·unfold Op.equal;rw[m,run_equalIn_struct w _ t xs ys (by rw[g];exact hd) hp,g];exact L4 9998 w fs.toList 0 b (λi f o=>by have:=hf i f (by simpa using o);rw[this.1];exact⟨ah,this.2⟩) (by simpa using c) (by simpa using hb)
  ·rw[run_eql_struct];rfl
  ·rw[run_neq_struct];rfl
 ·rename_i n e hd;split at H
  case h_2=>exact H.elim
  rename_i xs ys d;split at H
  case h_2=>exact H.elim
  rename_i c;have c:=Nn c;obtain⟨b,hb,H⟩:=be H;obtain⟨hg,⟨k,hk⟩,hc,i,hi⟩:=wN d;refine⟨b,H,λop u v w=>run_eqGuard_agg w op t u v xs ys hg,λw _=> ?_,λw=> ?_,λw=> ?_⟩
  ·unfold Op.equal;rw[m,run_equalIn_array w _ xs ys hd hi,List.range_eq_range'];exact MC hk hc 9998 w n 0 b (by simpa using c) (by simpa using hb)
  ·rw[run_eql_struct];rfl
  ·rw[run_neq_struct];rfl
 ·rename_i e hd;split at H
  case h_2=>exact H.elim
  rename_i p _ _ _ _;refine⟨_,H,λop u v w=>by simp[eqGuard_at_slice],λw _=> ?_,λw=> ?_,λw=> ?_⟩
  ·unfold Op.equal;rw[m];unfold Op.equalIn;cases p<;>simp[bE hd]
  ·cases p<;>simp[binOp]
  ·cases p<;>simp[binOp]
 ·exact H.elim
def wC(H:HD P h op t x y K):
  ∃v,K v/\(∀(u v:Operand) (w:World),(eqGuard op t u v x y).run P w= .ok () w)/\ ∀w:World,w.heap=h->(binOp op t x y).run P w= .ok v w:=by
 unfold HD at H;split at H
 ·rename_i k a k' b;split at H
  ·rename_i hs;obtain⟨v,hv,hr⟩:=ym (P:=P) (t:=t) (k':=k') H;exact⟨v,hv,λu v w=>by simp[eqGuard_at_int],λw _=>hr w⟩
  ·rename_i hs;split at H
   case h_2=>exact H.elim
   rename_i hk;have:=ms hk;subst this;obtain⟨v,hv,hr⟩:=vu (P:=P) (t:=t) hs H;exact⟨v,hv,λu v w=>by simp[eqGuard_at_int],λw _=>hr w⟩
 ·split at H
  case h_3=>exact H.elim
  ·obtain⟨b,hb,hg,he,h1,h2⟩:=rO H;exact⟨_,hb,hg _,λw hw=>by rw[h1,he w hw];rfl⟩
  ·obtain⟨b,hb,hg,he,h1,h2⟩:=rO H;exact⟨_,hb,hg _,λw hw=>by rw[h2,he w hw];rfl⟩
def mt: ∀{xs:List Operand} {vs:List Value},y9 ρ xs=some vs->vs.length=xs.length/\ ∀σ:Operand->Value,(∀x∈xs,∀v,ev ρ x=some v->σ x=v)->xs.map σ=vs:=by
 intro xs
 induction xs with
 |nil=>intro vs h;simp[y9]at h;subst h;simp
 |cons x xs ih=>
  intro vs h;simp only[y9]at h;split at h
  case h_2=>simp at h
  rename_i v hv;split at h
  case h_2=>simp at h
  rename_i us a;simp at h;subst h;obtain⟨hl,hm⟩:=ih a;refine⟨by simp[hl],λσ hσ=> ?_⟩;simp only[Nk];rw[hσ x ak v hv,hm σ λy hy=>hσ y (by simp[hy])]
def uh(H:AV P s d x K):
  ∃v,K v/\ ∀w:World,(convert s d x).run P w= .ok v w:=by
 unfold AV at H;split at H
 case h_2=>exact H.elim
 rename_i a k k' n hs hd;exact⟨_,H,λw=>by simp[convert,bE hs,bE hd,Conv.intToInt]⟩
def xW(H:KW op x K):
  ∃v,K v/\ ∀w:World,(Op.unary op x).run P w= .ok v w:=by
 unfold KW at H;split at H
 ·exact⟨_,H,λw=>by simp[Op.unary]⟩
 ·exact⟨_,H,λw=>by simp[Op.unary,Op.intArith]⟩
 ·exact⟨_,H,λw=>rfl⟩
 ·exact H.elim
def mV(H:kG P s x i K):
  ∃v,K v/\ ∀w:World,(Instr.fieldAt s x i).run P w= .ok v w:=by
 unfold kG at H;split at H
 case h_2=>exact H.elim
 rename_i fs p hs;split at H
 case h_2=>exact H.elim
 rename_i f hf;split at H
 case h_2=>exact H.elim
 rename_i ti c;split at H
 case h_2=>exact H.elim
 rename_i hz;obtain⟨a,rfl,H⟩:=cI H;have b: ¬ti.size=0:=λe=>by rw[e]at hz;simp at hz
 exact⟨_,H,λw=>by simp[Instr.fieldAt,bE hs,hf,Instr.sureAddr,fieldPlace,cZ c,b]⟩
def uc{cs:Array Value}(H:Bh P t cs.toList off K):
  ∃v,K v/\ ∀w:World,(part t cs off).run P w= .ok v w:=by
 unfold Bh at H;split at H
 case h_2=>exact H.elim
 rename_i d ti hd a;split at H
 ·rename_i ha;exact⟨_,H,λw=>by simp[part,lJ hd,ha,cZ a]⟩
 ·rename_i ha;obtain⟨v,hv,H⟩:=be H;exact⟨v,H,λw=>iE hd ha cs off v (by simpa using hv) w⟩
def sy(H:vW P s x i K):
  ∃v,K v/\ ∀w:World,(Instr.field s x i).run P w= .ok v w:=by
 unfold vW at H;split at H
 case h_2=>exact H.elim
 rename_i fs cs hs;split at H
 case h_2=>exact H.elim
 rename_i f hf;obtain⟨v,hv,hr⟩:=uc H;exact⟨v,hv,λw=>by simp[Instr.field,bE hs,hf,asAgg,hr]⟩
def mN(H:kz P t x i K):
  ∃v,K v/\ ∀w:World,(Instr.indexAt t x i).run P w= .ok v w:=by
 unfold kz at H;split at H
 ·rename_i n e p k j ht;split at H
  case h_2=>exact H.elim
  rename_i ti b;obtain⟨a,rfl,h0,h1,H⟩:=cI H;exact⟨_,H,λw=>by simp[Instr.indexAt,asIntOf,bE ht,Instr.sureAddr,h0,h1,cZ b]⟩
 ·rename_i e p l c k j ht;split at H
  case h_2=>exact H.elim
  rename_i ti b;obtain⟨a,rfl,h0,h1,H⟩:=cI H;exact⟨_,H,λw=>by simp[Instr.indexAt,asIntOf,bE ht,h0,h1,cZ b]⟩
 ·exact H.elim
def sM(H:wa P t x i K):
  ∃v,K v/\ ∀w:World,(Instr.index t x i).run P w= .ok v w:=by
 unfold wa at H;split at H
 case h_3=>exact H.elim
 case h_2=>
  rename_i s k j ht;obtain⟨h0,b,hb,H⟩:=H
  exact⟨_,H,λw=>by simp only[Instr.index,asIntOf,Sem.run_bind,Sem.run_pure,Result.andThen_ok,bE ht];simp[h0,hb]⟩
 rename_i n e cs k j ht;split at H
 case h_2=>exact H.elim
 rename_i d ti hd a;split at H
 ·rename_i ha;obtain⟨h0,h1,H⟩:=H;split at H
  case h_2=>exact H.elim
  rename_i zs hz;split at H
  case h_2=>exact H.elim
  rename_i hs;have hs:=Nn hs;have c:=gE a;obtain⟨vs,hl,hr,H⟩:=BX H
  have hx:cs.extract (j.toNat*ti.size) (j.toNat*ti.size+ti.size)=vs.toArray:=by
   apply Array.toList_inj.1;rw[Array.toList_extract];apply Ns;intro q;simp only[List.extract_eq_take_drop,Nat.add_sub_cancel_left,List.getElem?_take,List.getElem?_drop];have f:vs.length=ti.size:=by rw[<-c,<-hs];simpa using hl
   by_cases hq:q<ti.size
   ·rw[MK hq];have hv:q<vs.length:=ah;have:=hr q vs[q] (MT hv);rw[c,MF]at this;rw[this];simp[hv]
   ·rw[MG hq];symm;simp;omega
  exact⟨_,H,λw=>by simp only[Instr.index,asIntOf,Sem.run_bind,Sem.run_pure,Result.andThen_ok,bE ht];simp[h0,h1,cZ a,part,lJ hd,ha,hx]⟩
 rename_i ha;obtain⟨h0,h1,H⟩:=H;split at H
 case h_2=>exact H.elim
 rename_i hc;obtain⟨z,-,H⟩:=be H;obtain⟨v,hv,H⟩:=dR H;have hs:ti.size=1:=by rw[<-gE a];exact hc
 exact⟨v,H,λw=>by simp only[Instr.index,asIntOf,Sem.run_bind,Sem.run_pure,Result.andThen_ok,bE ht];simp[h0,h1,cZ a,hs,iE hd ha cs j.toNat v (by simpa using hv) w]⟩
def iy{P:Program}{k:IntKind}{i:Int}{y:Nat}{a:BoundsCode}(h0:0<=i)(h1:i<=y)(w:World):(Instr.sliceBound (.int k i) y a).run P w= .ok i.toNat w:=by simp[Instr.sliceBound,asIntOf,h0,h1]
def s9{P:Program}{t:TypeId}{x:Value}{lo hi:Option Value}{K:Value->Prop}(H:vx P t x lo hi K):
  ∃v,K v/\ ∀w:World,(Instr.sliceAt t x lo hi none).run P w= .ok v w:=by
 unfold vx at H;split at H
 ·rename_i e p l c ht;split at H
  case h_2=>exact H.elim
  rename_i ti d
  have b: ∀w,(Instr.sliceAt t (.slice p l c) lo hi none).run P w=((Instr.sliceBounds true l c lo hi none).run P w).andThen λr w'=>((sizeOf e).run P w').andThen λs f=> .ok (.slice (if r.2.2=r.1 then p else p.map (·.add (r.1*s))) (r.2.1-r.1) (r.2.2-r.1)) f:=by intro w;simp[Instr.sliceAt,bE ht,Instr.slice]
  split at H
  ·rename_i k j;obtain⟨h0,h1,H⟩:=H;refine⟨_,H,λw=> ?_⟩;rw[b];simp[Instr.sliceBounds,iy h0 h1,cZ d]
  ·rename_i k i;obtain⟨h0,h1,H⟩:=H;refine⟨_,H,λw=> ?_⟩;rw[b];simp[Instr.sliceBounds,iy h0 h1,cZ d]
  ·rename_i k i k' j;obtain⟨h0,h1,h2,h3,H⟩:=H;refine⟨_,H,λw=> ?_⟩;rw[b];have g:i<=(j.toNat:Int):=ah;simp[Instr.sliceBounds,iy h0 h1,iy h2 g,cZ d]
  ·refine⟨_,H,λw=> ?_⟩;rw[b];simp[Instr.sliceBounds,cZ d]
  ·exact H.elim
 ·rename_i n e p ht;split at H
  case h_2=>exact H.elim
  rename_i ti d
  have b: ∀(a:Addr) w,(Instr.sliceAt t (.pointer (some a)) lo hi none).run P w=((Instr.sliceBounds false n n lo hi none).run P w).andThen λr w'=>((sizeOf e).run P w').andThen λs f=> .ok (.slice (some (if r.2.2=r.1 then a else a.add (r.1*s))) (r.2.1-r.1) (r.2.2-r.1)) f:=by intro a w;simp[Instr.sliceAt,bE ht,Instr.sureAddr]
  split at H
  ·rename_i k j;obtain⟨a,rfl,h0,h1,H⟩:=cI H;refine⟨_,H,λw=> ?_⟩;rw[b];simp[Instr.sliceBounds,iy h0 h1,cZ d]
  ·obtain⟨a,rfl,H⟩:=cI H;refine⟨_,H,λw=> ?_⟩;rw[b];simp[Instr.sliceBounds,cZ d]
  ·rename_i k i;obtain⟨a,rfl,h0,h1,H⟩:=cI H;refine⟨_,H,λw=> ?_⟩;rw[b];simp[Instr.sliceBounds,iy h0 h1,cZ d]
  ·exact H.elim
 ·exact H.elim
def gd{w:World}(h:mp w.heap b=some (es,cl)):w.heap[b]? =some (.map es cl):=by
 unfold mp at h;split at h
 ·rename_i a c hb;simp at h;obtain⟨rfl,rfl⟩:=h;exact hb
 ·simp at h
def dc{w:World}(h:w.heap[b]? =some (.map es cl)):(getObj b).run P w= .ok (.map es cl) w:=by simp[getObj,Sem.run,h]
def da{P:Program}(h:P.underlying kt=some (.int k))(w:World):(Instr.checkKey b 10000 kt (.int k' n)).run P w= .ok () w:=by have m:(10000:Nat)=9999+1:=rfl;rw[m];unfold Instr.checkKey;simp[bE h]
def dv{P:Program}(h:P.underlying kt=some (.int k))(hf:Instr.findNow (.int k) (.int k' n) es 0=some o)(w:World):
  (Instr.findKey kt (.int k' n) es).run P w= .ok o w:=by
 simp[Instr.findKey,bE h,hf]
def qs(H:sI P t h x k ok K):
  ∃v,K v/\ ∀w:World,w.heap=h->(Instr.lookup t x k ok).run P w= .ok v w:=by
 unfold sI at H;split at H
 case h_2=>exact H.elim
 rename_i kt et r kk kn ht;split at H
 case h_2=>exact H.elim
 rename_i k1 z hk hz;obtain⟨b,rfl,es,cl,hm,o,hf,H⟩:=be H
 have a: ∀w:World,w.heap=h->(Instr.lookup t (.map (some b)) (.int kk kn) ok).run P w= .ok (if ok then .tuple #[(match o with|some (_,v)=>v|none=>z),.bool o.isSome]else(match o with|some (_,v)=>v|none=>z)) w:=by
  intro w hw;subst hw;have hb:=gd hm;cases o with
  |none=>simp[Instr.lookup,bE ht,dc hb,da hk,dv hk hf,oM hz]
  |some q=>simp[Instr.lookup,bE ht,dc hb,da hk,dv hk hf]
 unfold LT at H;cases o with
 |none=>
  cases ok with
  |true=>
   obtain⟨v,hv,H⟩:=dR H;simp only[Ny]at hv;subst hv;exact⟨_,H,λw hw=>by rw[a w hw];rfl⟩
  |false=>
   obtain⟨v,hv,H⟩:=dR H;simp only[Ny]at hv;subst hv;exact⟨_,H,λw hw=>by rw[a w hw];rfl⟩
 |some q=>
  cases ok with
  |true=>
   obtain⟨v,hv,H⟩:=dR H;simp only[Ny]at hv;subst hv;exact⟨_,H,λw hw=>by rw[a w hw];rfl⟩
  |false=>
   obtain⟨v,hv,H⟩:=dR H;simp only[Ny]at hv;subst hv;exact⟨_,H,λw hw=>by rw[a w hw];rfl⟩
def vp{P:Program}(w:World): ∀(fs:List Field),(∀f∈fs,∃i,P.info? f.type=some i)->
  (fs.mapM (m:=Sem) λf=>do pure (f.offset,<-sizeOf f.type)).run P w= .ok (fs.map λf=>(f.offset,P.cellsOf f.type)) w:=by
 intro fs
 induction fs with
 |nil=>intro _;simp
 |cons f fs ih=>
  intro hf;obtain⟨i,hi⟩:=hf f ak;have:=ih λg hg=>hf g (by simp[hg]);simp only[List.mapM_cons,Sem.run_bind,cZ hi,Result.andThen_ok,Sem.run_pure,Nk,gE hi];rw[this]
  rfl
def sV{ix:List Nat}(H:sW P t (some vs) ix K):
  ∃v,K v/\ ∀w:World,(Instr.build t (ix.zip vs).toArray).run P w= .ok v w:=by
 unfold sW at H;split at H
 ·rename_i fs z b ht hz hv;simp only[Ny]at hv;subst hv;split at H
  case h_2=>exact H.elim
  rename_i a;obtain⟨cells,hc,H⟩:=be H
  have hi: ∀f∈fs.toList,∃i,P.info? f.type=some i:=λf hf=>by have:=NE.1 a f hf;exact N4.1 this
  refine⟨_,H,λw=> ?_⟩
  have hm:(fs.mapM (m:=Sem) λf=>do pure (f.offset,<-sizeOf f.type)).run P w= .ok (fs.map λf=>(f.offset,P.cellsOf f.type)) w:=by
   have h1:=vp (P:=P) w fs.toList hi;rw[Array.mapM_eq_mapM_toList];simp only[Sem.run_map];rw[h1];simp only[Result.andThen_ok]
   congr 1
   apply OU;simp
  simp only[Instr.build,Sem.run_bind,oM hz,Result.andThen_ok,bE ht,hm,hc,Sem.run_pure]
 ·rename_i n e z b ht hz hv;simp only[Ny]at hv;subst hv;split at H
  case h_2=>exact H.elim
  rename_i a;obtain⟨i,hi⟩:=N4.1 a;obtain⟨cells,hc,H⟩:=be H;refine⟨_,H,λw=> ?_⟩;rw[gE hi]at hc;simp only[Instr.build,Sem.run_bind,oM hz,Result.andThen_ok,bE ht,cZ hi,hc,Sem.run_pure]
 ·exact H.elim
def sx(H:wM P t v K):
  ∃u,K u/\ ∀w:World,(Instr.makeInterface t v).run P w= .ok u w:=by
 unfold wM at H;split at H
 ·exact H.elim
 ·rename_i d a hd;refine⟨_,H,λw=> ?_⟩;simp only[Instr.makeInterface,Sem.run_bind,bE hd,Result.andThen_ok];cases d<;>first|(exfalso;exact a _ hd)|rfl
 ·exact H.elim
def qC(H:lR P t ok x K):
  ∃u,K u/\ ∀w:World,(Instr.typeAssert x xt t ok).run P w= .ok u w:=by
 unfold lR at H;split at H
 ·exact H.elim
 ·rename_i d _ s v b hd;split at H
  case h_2=>exact H.elim
  rename_i a;have a:=Nn a;subst a;cases ok
  ·refine⟨_,H,λw=> ?_⟩;simp only[Instr.typeAssert,Sem.run_bind,bE hd,Result.andThen_ok];cases d<;>first|(exfalso;exact b _ _ hd rfl)|simp
  ·refine⟨_,H,λw=> ?_⟩;simp only[Instr.typeAssert,Sem.run_bind,bE hd,Result.andThen_ok];cases d<;>first|(exfalso;exact b _ _ hd rfl)|simp
 ·exact H.elim
def vj(H:Hd P t h x K):
  ∃v,K v/\ ∀w:World,w.heap=h->(Builtin.len_ #[t] ty #[x]).run P w= .ok v w:=by
 unfold Hd at H;split at H
 ·rename_i ht;exact⟨_,H,λw _=>by simp[Builtin.len_,bE ht,goInt]⟩
 ·rename_i ht;exact⟨_,H,λw _=>by simp[Builtin.len_,bE ht,goInt]⟩
 ·rename_i ht;exact⟨_,H,λw _=>by simp[Builtin.len_,bE ht,goInt]⟩
 ·rename_i ht;obtain⟨b,rfl,es,cl,hm,H⟩:=be H;refine⟨_,H,λw hw=> ?_⟩;subst hw;simp[Builtin.len_,bE ht,dc (gd hm),goInt]
 ·exact H.elim
def wO(H:Gd P t x K):
  ∃v,K v/\ ∀w:World,(Builtin.cap_ #[t] ty #[x]).run P w= .ok v w:=by
 unfold Gd at H;split at H
 ·rename_i ht;exact⟨_,H,λw=>by simp[Builtin.cap_,bE ht,goInt]⟩
 ·exact H.elim
def rh(H:KN mx x y K):
  ∃v,K v/\ ∀w:World,(match mx with|true=>Builtin.max_ ats ty #[x,y]|false=>Builtin.min_ ats ty #[x,y]).run P w= .ok v w:=by
 unfold KN at H;split at H
 ·cases mx
  ·exact⟨_,H,λw=>by simp[Builtin.min_,Builtin.min2]⟩
  ·exact⟨_,H,λw=>by simp[Builtin.max_,Builtin.max2]⟩
 ·exact H.elim
def vU(H:GU v K)(dst:Option Tmp)(x:Operand)(type:TypeId)(pos:String)(after:Array Edge)(guard:Option (Nat×Bool))(σ:Operand->Value)(hσ:σ x=v):
  K v/\ ∀w:World,(execOp σ {dst,op:= .nilCheck x,type,pos,after,guard}).run P w= .ok (.value v) w:=by
 unfold GU at H;split at H
 ·obtain⟨a,rfl,H⟩:=cI H;exact⟨H,λw=>by simp[execOp,hσ]⟩
 ·exact⟨H,λw=>by simp[execOp,hσ]⟩
 ·exact⟨H,λw=>by simp[execOp,hσ]⟩
 ·exact H.elim
def zy{x:Option Operand}(h:JS ρ x=some r)(σ:Operand->Value)(hσ: ∀y,x=some y-> ∀v,ev ρ y=some v->σ y=v):x.map σ=r:=by
 cases x with
 |none=>simp[JS]at h;subst h;rfl
 |some y=>
  simp only[JS]at h;split at h
  case h_2=>simp at h
  rename_i v hv;simp at h;subst h;simp[hσ y rfl v hv]
def pV{o:Oper}(H:vg P o.op ρ h K):
  ∃v,Ft P o (ev ρ) h v/\K v:=by
 obtain⟨dst,op,type,pos,after,guard⟩:=o
 have lift: ∀{s:(Operand->Value)->Sem Value} {v:Value},(∀σ,execOp σ ⟨dst,op,type,pos,after,guard⟩=(do pure (.value (<-s σ))))->
   (∀σ,Gm (ev ρ) op.operands σ-> ∀w:World,w.heap=h->(s σ).run P w= .ok v w)->Ft P ⟨dst,op,type,pos,after,guard⟩ (ev ρ) h v:=by
  intro s v he hs σ hσ w hw;rw[he σ];simp[hs σ hσ w hw]
 unfold vg at H;dsimp only at H;split at H
 ·obtain⟨v,hv,H⟩:=be H;exact⟨v,λσ hσ w hw=>by simp[execOp,hσ _ (by simp[Op.operands]) v hv],H⟩
 ·obtain⟨v,hv,H⟩:=be H;exact⟨v,λσ hσ w hw=>by simp[execOp,hσ _ (by simp[Op.operands]) v hv],H⟩
 ·rename_i c a b;split at H
  case h_2=>exact H.elim
  rename_i t hc
  have base: ∀v,(t=true->ev ρ a=some v)->(t=false->ev ρ b=some v)->Ft P ⟨dst,.pick c a b,type,pos,after,guard⟩ (ev ρ) h v:=by
   intro v h1 h2 σ hσ w hw;have g:=hσ c (by simp[Op.operands]) _ hc;cases t
   ·simp[execOp,g,asBool,hσ b (by simp[Op.operands]) _ (h2 rfl)]
   ·simp[execOp,g,asBool,hσ a (by simp[Op.operands]) _ (h1 rfl)]
  unfold FP at H;split at H
  ·rename_i x y hx hy;exact⟨_,base _ (λht=>by subst ht;simpa using hx) (λht=>by subst ht;simpa using hy),H⟩
  ·rcases eU H with⟨rfl,H⟩|⟨rfl,H⟩
   ·obtain⟨v,hv,H⟩:=be H;exact⟨v,base v (λ_=>hv) (λh=>by simp at h),H⟩
   ·obtain⟨v,hv,H⟩:=be H;exact⟨v,base v (λh=>by simp at h) (λ_=>hv),H⟩
 ·rename_i x;obtain⟨v,hv,H⟩:=be H;have:=λσ hσ=>vU (P:=P) H dst x type pos after guard σ hσ;exact⟨v,λσ hσ w _=>(this σ (hσ _ (by simp[Op.operands]) v hv)).2 w,(this (λ_=>v) rfl).1⟩
 ·rename_i op t x y yt;obtain⟨a,ha,H⟩:=be H;obtain⟨b,hb,H⟩:=be H;obtain⟨v,hv,hg,hr⟩:=wC H
  exact⟨v,lift (λσ=>rfl) λσ hσ w hw=>by rw[hσ x (by simp[Op.operands]) a ha,hσ y (by simp[Op.operands]) b hb];simp[hg,hr w hw],hv⟩
 ·rename_i op t x;obtain⟨a,ha,H⟩:=be H;obtain⟨v,hv,hr⟩:=xW (P:=P) H;exact⟨v,lift (λσ=>rfl) λσ hσ w _=>by rw[hσ x (by simp[Op.operands]) a ha];exact hr w,hv⟩
 ·rename_i s d x;obtain⟨a,ha,H⟩:=be H;obtain⟨v,hv,hr⟩:=uh H;exact⟨v,lift (λσ=>rfl) λσ hσ w _=>by rw[hσ x (by simp[Op.operands]) a ha];exact hr w,hv⟩
 ·rename_i t x;split at H
  case h_2=>exact H.elim
  rename_i p hp;obtain⟨v,hv,hr⟩:=nh H;exact⟨v,lift (λσ=>rfl) λσ hσ w hw=>by rw[hσ x (by simp[Op.operands]) _ hp];exact hr w hw,hv⟩
 ·rename_i s x i;obtain⟨a,ha,H⟩:=be H;obtain⟨v,hv,hr⟩:=mV H;exact⟨v,lift (λσ=>rfl) λσ hσ w _=>by rw[hσ x (by simp[Op.operands]) a ha];exact hr w,hv⟩
 ·rename_i s x i;obtain⟨a,ha,H⟩:=be H;obtain⟨v,hv,hr⟩:=sy H;exact⟨v,lift (λσ=>rfl) λσ hσ w _=>by rw[hσ x (by simp[Op.operands]) a ha];exact hr w,hv⟩
 ·rename_i t x i;obtain⟨a,ha,H⟩:=be H;obtain⟨b,hb,H⟩:=be H;obtain⟨v,hv,hr⟩:=mN H;exact⟨v,lift (λσ=>rfl) λσ hσ w _=>by rw[hσ x (by simp[Op.operands]) a ha,hσ i (by simp[Op.operands]) b hb];exact hr w,hv⟩
 ·rename_i t x i;obtain⟨a,ha,H⟩:=be H;obtain⟨b,hb,H⟩:=be H;obtain⟨v,hv,hr⟩:=sM H;exact⟨v,lift (λσ=>rfl) λσ hσ w _=>by rw[hσ x (by simp[Op.operands]) a ha,hσ i (by simp[Op.operands]) b hb];exact hr w,hv⟩
 ·rename_i t x lo hi;obtain⟨a,ha,H⟩:=be H;obtain⟨l,hl,H⟩:=be H;obtain⟨u,hu,H⟩:=be H;obtain⟨v,hv,hr⟩:=s9 H
  exact⟨v,lift (λσ=>rfl) λσ hσ w _=>by rw[hσ x (by simp[Op.operands]) a ha,zy hl σ (λy hy=>hσ y (by simp[Op.operands,hy])),zy hu σ (λy hy=>hσ y (by simp[Op.operands,hy]))];exact hr w,hv⟩
 ·rename_i x i;obtain⟨a,ha,H⟩:=be H;unfold uz at H;split at H
  case h_2=>exact H.elim
  obtain⟨v,hv,H⟩:=be H;exact⟨v,lift (λσ=>rfl) λσ hσ w _=>by rw[hσ x (by simp[Op.operands]) _ ha];simp[Instr.extract,hv],H⟩
 ·rename_i t x k ok;obtain⟨a,ha,H⟩:=be H;obtain⟨b,hb,H⟩:=be H;obtain⟨v,hv,hr⟩:=qs H;exact⟨v,lift (λσ=>rfl) λσ hσ w hw=>by rw[hσ x (by simp[Op.operands]) a ha,hσ k (by simp[Op.operands]) b hb];exact hr w hw,hv⟩
 ·rename_i t ps;cases hvs:y9 ρ (ps.toList.map (·.2))with
  |none=>rw[hvs]at H;unfold sW at H;split at H<;>first|exact H.elim|simp at*
  |some vs=>
   rw[hvs]at H;obtain⟨v,hv,hr⟩:=sV H;obtain⟨hl,hm⟩:=mt hvs;refine⟨v,lift (λσ=>rfl) λσ hσ w _=> ?_,hv⟩
   have e:(ps.map λ(i,x)=>(i,σ x))=((ps.toList.map (·.1)).zip vs).toArray:=by rw[<-hm σ λx hx=>hσ x (by simpa[Op.operands]using hx)];apply OU;simp[List.zip_map',On]
   rw[e];exact hr w
 ·rename_i t x;obtain⟨a,ha,H⟩:=be H;obtain⟨v,hv,hr⟩:=sx H;exact⟨v,lift (λσ=>rfl) λσ hσ w _=>by rw[hσ x (by simp[Op.operands]) a ha];exact hr w,hv⟩
 ·rename_i fn first f
  obtain⟨a,ha,H⟩:=be H;obtain⟨b,hb,H⟩:=be H;refine⟨_,lift (λσ=>rfl) λσ hσ w _=> ?_,H⟩;have h1:=(mt ha).2 σ λx hx=>hσ x (by simp only[Op.operands,PX];exact .inl (by simpa using hx));have h2:=(mt hb).2 σ λx hx=>hσ x (by simp only[Op.operands,PX];exact .inr (by simpa using hx));have e1:first.map σ=a.toArray:=by rw[<-h1];apply OU;simp
  have e2:f.map σ=b.toArray:=by rw[<-h2];apply OU;simp
  rw[e1,e2];rfl
 ·rename_i x xt t ok;obtain⟨a,ha,H⟩:=be H;obtain⟨v,hv,hr⟩:=qC (xt:=xt) H;exact⟨v,lift (λσ=>rfl) λσ hσ w _=>by rw[hσ x (by simp[Op.operands]) a ha];exact hr w,hv⟩
 ·rename_i b args ats;obtain⟨args⟩:=args;obtain⟨ats⟩:=ats;split at H
  ·rename_i x t e1 e2;dsimp only at e1 e2;subst e1;subst e2;obtain⟨a,ha,H⟩:=be H;obtain⟨v,hv,hr⟩:=vj (ty:=type) H;exact⟨v,lift (s:=λσ=>Builtin.len_ #[t] type #[σ x]) (λσ=>by simp[execOp,resolve,invoke,builtin]) λσ hσ w hw=>by rw[hσ x (by simp[Op.operands,Call.operands]) a ha];exact hr w hw,hv⟩
  ·rename_i x t e1 e2;dsimp only at e1 e2;subst e1;subst e2;obtain⟨a,ha,H⟩:=be H;obtain⟨v,hv,hr⟩:=wO (ty:=type) H;exact⟨v,lift (s:=λσ=>Builtin.cap_ #[t] type #[σ x]) (λσ=>by simp[execOp,resolve,invoke,builtin]) λσ hσ w hw=>by rw[hσ x (by simp[Op.operands,Call.operands]) a ha];exact hr w,hv⟩
  ·rename_i x y e1;dsimp only at e1;subst e1;obtain⟨a,ha,H⟩:=be H;obtain⟨b,hb,H⟩:=be H;obtain⟨v,hv,hr⟩:=rh (P:=P) (ats:=ats.toArray) (ty:=type) H;exact⟨v,lift (s:=λσ=>Builtin.max_ ats.toArray type #[σ x,σ y]) (λσ=>by simp[execOp,resolve,invoke,builtin]) λσ hσ w hw=>by rw[hσ x (by simp[Op.operands,Call.operands]) a ha,hσ y (by simp[Op.operands,Call.operands]) b hb];exact hr w,hv⟩
  ·rename_i x y e1;dsimp only at e1;subst e1;obtain⟨a,ha,H⟩:=be H;obtain⟨b,hb,H⟩:=be H;obtain⟨v,hv,hr⟩:=rh (P:=P) (ats:=ats.toArray) (ty:=type) H;exact⟨v,lift (s:=λσ=>Builtin.min_ ats.toArray type #[σ x,σ y]) (λσ=>by simp[execOp,resolve,invoke,builtin]) λσ hσ w hw=>by rw[hσ x (by simp[Op.operands,Call.operands]) a ha,hσ y (by simp[Op.operands,Call.operands]) b hb];exact hr w,hv⟩
  ·exact H.elim
 ·exact H.elim
def ct.refl(w:World):ct w w:=⟨rfl,rfl,rfl⟩
def ct.trans(h:ct a b)(k:ct b c):ct a c:=⟨k.1.trans h.1,k.2.1.trans h.2.1,k.2.2.trans h.2.2⟩
def nG(P:Program)(K:Value->aI->Prop)(w:World):Result Next->Prop
 | .ok (.value v) w'=>ct w w'/\K v w'.heap
 | .ok .skip w'=>ct w w'/\K undef w'.heap
 | .ok (.enter f args) w'=>ct w w'/\Calls P f args w' λe a=> ∃v,e= .returned v/\ct w' a/\K v a.heap
 |_=>False
def Ep(P:Program)(o:Oper)(f:Operand->Option Value)(h:aI)(K:Value->aI->Prop):Prop:=
 ∀σ,Gm f o.op.operands σ-> ∀w:World,w.heap=h->nG P K w ((execOp σ o).run P w)
def nG.mono(h:nG P K w r)(hk: ∀v h,K v h->K' v h):nG P K' w r:=by
 unfold nG at*
 split at h
 ·exact⟨h.1,hk _ _ h.2⟩
 ·exact⟨h.1,hk _ _ h.2⟩
 ·exact⟨h.1,h.2.mono λe a ⟨v,he,hs,hK⟩=>⟨v,he,hs,hk _ _ hK⟩⟩
 ·exact h.elim
def Ep.mono(H:Ep P o f h K)(hk: ∀v h,K v h->K' v h):Ep P o f h K':=
 λσ hσ w hw=>(H σ hσ w hw).mono hk
def lE(P:Program)(f:FuncId):cH->Prop
 | .go=> ∃fn,P.funcs[f]? =some fn∧(fn.name== "runtime.NumGoroutine")=false∧fn.body.isNone=false
 | .load k=> ∃fn,P.funcs[f]? =some fn∧(fn.name== "runtime.NumGoroutine")=false∧fn.body.isNone=true∧Extern.findNext fn=none∧Extern.find fn=some (Extern.Atomic.loadT (.int k))
 | .store=> ∃fn,P.funcs[f]? =some fn∧(fn.name== "runtime.NumGoroutine")=false∧fn.body.isNone=true∧Extern.findNext fn=none∧Extern.find fn=some Extern.Atomic.storeT
 | .cas k=> ∃fn,P.funcs[f]? =some fn∧(fn.name== "runtime.NumGoroutine")=false∧fn.body.isNone=true∧Extern.findNext fn=none∧Extern.find fn=some (Extern.Atomic.casT (.int k))
 | .add k=> ∃fn,P.funcs[f]? =some fn∧(fn.name== "runtime.NumGoroutine")=false∧fn.body.isNone=true∧Extern.findNext fn=none∧Extern.find fn=some (Extern.Atomic.update (Op.intArith .add) k true)
 | .ent _ _=>True
def uM(P:Program)(X:List (Nat×cH)):Prop:= ∀f e,bQ X f=some e->lE P f e
def uM.ent(H:uM P X):uM P ((n,.ent k v)::X):=by
 intro f e h;simp only[bQ]at h;split at h
 ·injection h with h;subst h
  trivial
 ·exact H f e h
def AA(P:Program)(X:List (Nat×cH)):Prop:= ∀p∈X,lE P p.1 p.2
def Ei:AA P []:=by intro p hp;simp at hp
def i7(h:lE P f e)(hX:AA P X):AA P ((f,e)::X):=by
 intro p hp;rcases List.mem_cons.1 hp with rfl|hp
 ·exact h
 ·exact hX p hp
def zG: ∀{X:List (Nat×cH)},bQ X f=some e->(f,e)∈X:=by
 intro X
 induction X with
 |nil=>intro h;simp[bQ]at h
 |cons p X ih=>
  intro h;obtain⟨k,u⟩:=p;simp only[bQ]at h;split at h
  ·rename_i hb;have:=Nn hb;subst this;simp at h;subst h;simp
  ·exact Nh _ (ih h)
def wz(h:AA P X):uM P X:=λf e hx=>h (f,e) (zG hx)
def xQ(h:lE P f .go)(args:Array Value)(w:World):(callFunc f args).run P w= .ok (.enter f args) w:=by obtain⟨fn,hf,hn,hb⟩:=h;simp only[callFunc,Sem.run_bind,run_program,Result.andThen_ok,hf,hn,hb,Nj,NI,Sem.run_pure]
def xZ(H:Dl P ty v K):K v:=by
 unfold Dl at H;split at H
 ·obtain⟨zs,_,H⟩:=be H;obtain⟨vs,he,H⟩:=tY H;rw[he];exact H
 ·obtain⟨z,_,H⟩:=be H;split at H
  ·obtain⟨vs,he,H⟩:=tJ H;rw[he];exact H
  ·obtain⟨u,he,H⟩:=dR H;simp only[Ny]at he;rw[he];exact H
 ·exact H.elim
def jF{args:List Value}(a:lE P f .go)(H:Aj P f args ty h K)(w:World)(hw:w.heap=h):
  nG P K w ((callFunc f args.toArray).run P w):=by
 rw[xQ a];refine⟨ct.refl w,(H w hw).mono λe b ⟨v,he,hs,hK⟩=>⟨v,he,hs,xZ hK⟩⟩
def CF(H:aW h a v K):
  K (wr h a v)/\ ∀(m:Mode) (w:World),w.heap=h->(store a v m).run P w= .ok () (w.setCell a v):=by
 unfold aW at H;split at H
 case h_2=>exact H.elim
 rename_i ho;obtain⟨hr,hf,H⟩:=H;refine⟨H,λm w hw=> ?_⟩;obtain⟨u,hu⟩:=N4.1 hr;rw[run_store P w a v m ho];have h1:w.cell? a=some u:=by rw[gW,hw,hu]
 have h2:w.frozen? a=false:=by rw[iu,hw,hf]
 simp[h1,h2]
def lu: ∀{vs:List Value} {i:Nat} {h:aI} {K:aI->Prop},pE a i vs h K->
  ∀w:World,w.heap=h-> ∃w',(storeCells a vs i).run P w= .ok () w'/\ct w w'/\K w'.heap:=by
 intro vs
 induction vs with
 |nil=>intro i h K H w hw;exact⟨w,by simp[storeCells],ct.refl w,by rw[hw];exact H⟩
 |cons v vs ih=>
  intro i h K H w hw;obtain⟨H,hs⟩:=CF (P:=P) H;obtain⟨w',hr,b,hK⟩:=ih H (w.setCell (a.add i) v) (by rw[sH,hw]);refine⟨w',?_,ct.trans ⟨rfl,rfl,rfl⟩ b,hK⟩;simp only[storeCells,Sem.run_bind];rw[hs .plain w hw];simp only[Result.andThen_ok,hr]
def yR(hX:uM P X){args:List Value}(H:Ln P X f args ty h K)(w:World)(hw:w.heap=h):
  nG P K w ((callFunc f args.toArray).run P w):=by
 unfold Ln at H;split at H
 ·rename_i hx;exact jF (hX _ _ hx) H w hw
 ·rename_i e i hx;have g:=hX _ _ hx;unfold IE at H;split at H
  ·rename_i k p;obtain⟨a,rfl,n,hr,H⟩:=cI H;obtain⟨fn,hf,hn,hb,b,c⟩:=g;have hc:w.cell? a=some (.int k n):=by rw[gW,hw,hr]
   rw[run_call_load hf hn hb b k c hc];exact⟨ct.refl w,by rw[hw];exact H⟩
  ·rename_i p k y;obtain⟨a,rfl,H⟩:=cI H;obtain⟨fn,hf,hn,hb,b,c⟩:=g;unfold aW at H;split at H
   case h_2=>exact H.elim
   obtain⟨hr,d,H⟩:=H;obtain⟨u,hu⟩:=N4.1 hr;have hc:w.cell? a=some u:=by rw[gW,hw,hu]
   have hz:w.frozen? a=false:=by rw[iu,hw,d]
   rw[run_call_store hf hn hb b c hc hz];exact⟨⟨rfl,rfl,rfl⟩,by rw[sH,hw];exact H⟩
  ·rename_i k p k1 x k2 y;split at H
   case h_2=>exact H.elim
   rename_i e1 e2;have e1:=ms e1;have e2:=ms e2;subst e1;subst e2;obtain⟨a,rfl,n,hr,H⟩:=cI H;obtain⟨fn,hf,hn,hb,b,c⟩:=g;have hc:w.cell? a=some (.int k n):=by rw[gW,hw,hr]
   rcases eU H with⟨he,H2⟩|⟨he,H2⟩
   ·have he:n=x:=by simpa using he
    subst he;obtain⟨_,d,H2⟩:=H2;have hz:w.frozen? a=false:=by rw[iu,hw,d]
    rw[run_call_cas_hit hf hn hb b k c hc hz];exact⟨⟨rfl,rfl,rfl⟩,by rw[sH,hw];exact H2⟩
   ·have he: ¬n=x:=by simpa using he
    obtain⟨d,H2⟩:=H2;have hz:w.frozen? a=false:=by rw[iu,hw,d]
    rw[run_call_cas_miss hf hn hb b k c hc hz he];exact⟨ct.refl w,by rw[hw];exact H2⟩
  ·rename_i k p k1 y;split at H
   case h_2=>exact H.elim
   rename_i e1;have e1:=ms e1;subst e1;obtain⟨a,rfl,n,hr,_,d,H⟩:=cI H;obtain⟨fn,hf,hn,hb,b,c⟩:=g;have hc:w.cell? a=some (.int k n):=by rw[gW,hw,hr]
   have hz:w.frozen? a=false:=by rw[iu,hw,d]
   rw[run_call_add hf hn hb b k c hc hz (s:=k.wrap (n+y)) (by simp[Op.intArith])];exact⟨⟨rfl,rfl,rfl⟩,by rw[sH,hw];exact H⟩
  ·exact H.elim
 ·exact H.elim
def vf(hX:uM P X){args:List Value}(H:HG P X f args ty h K)(w:World)(hw:w.heap=h):
  nG P K w ((do let d <-Deferred.ofValue f args.toArray;invoke d.target d.args).run P w):=by
 unfold HG eD at H;split at H
 case h_2=>exact H.elim
 rename_i g first a
 split at H
 case h_2=>exact H.elim
 rename_i hx;have:=jF (ty:=ty) (hX _ _ hx) H w hw
 have e:(first.toList++args++a.toList).toArray=first++args.toArray++a:=by apply OU;simp
 rw[e]at this;simpa[Deferred.ofValue,invoke]using this
def Ao(h:GY P t a=some f)(n:Nat)(v:Value)(w:World):
  (method (n+1) t v a).run P w= .ok (f,v) w:=by
 unfold GY at h;split at h
 case h_2=>simp at h
 rename_i i e hi hu;split at h
 case h_2=>simp at h
 rename_i m hm;split at h
 case h_2=>simp at h
 rename_i g hp hf;simp at h;subst h;have hp:m.path.toList=[]:=by simpa[Array.isEmpty_iff]using hp
 unfold method;simp[mS hi,hm,hp,follow,hf,receiverAt,bE hu,Place.get]
def vK(hX:uM P X){args:List Value}(H:HQ P X r a args ty h K)(w:World)(hw:w.heap=h):
  nG P K w ((invoke (.fn (.method a) #[]) (#[r]++args.toArray)).run P w):=by
 unfold HQ at H;split at H
 case h_2=>exact H.elim
 rename_i t v;split at H
 case h_2=>exact H.elim
 rename_i f hf;split at H
 case h_2=>exact H.elim
 rename_i hx;have:=jF (hX _ _ hx) H w hw
 have e:(#[Value.iface t v]++args.toArray).extract 1 (1+args.length)=args.toArray:=by apply OU;simp
 have e2:(v::args).toArray= #[v]++args.toArray:=by apply OU;simp
 have hm: ∀w,(method (P.types.size+Made.depth) t v a).run P w= .ok (f,v) w:=λw=>Ao hf (P.types.size+99) v w;rw[e2]at this;have g0:(#[Value.iface t v]++args.toArray)[0]? =some (.iface t v):=ak;simp only[invoke,g0];simp only[Array.size_append,Pg,NJ,Oq,MF,e];simp only[callMethod,Sem.run_bind,run_program,Result.andThen_ok,hm];exact this
def iJ{P:Program}(h:kh P t=some (sz,a,z)):
  ∃i v,P.info? t=some i/\i.zero=some v/\i.size=sz/\i.bytes=a/\v.cells=z:=by
 unfold kh at h;split at h
 case h_2=>simp at h
 rename_i i hi;split at h
 case h_2=>simp at h
 rename_i v hv;simp at h;obtain⟨rfl,rfl,rfl⟩:=h;exact⟨i,v,hi,hv,rfl,rfl,rfl⟩
def pW{cs:List Value}(H:oW h a cs)(hn:cs.length=n)(w:World)(hw:w.heap=h):(loadCells a n).run P w= .ok cs.toArray w:=by subst hn;exact run_loadCells_list (P:=P) (w:=w) a cs λj v hj=>by rw[gW,hw];exact H j v hj
def tF{cs:List Value}(hl:cs.length=n*sz)(H:match q with|some b=>oW h b cs|none=>n=0)(w:World)(hw:w.heap=h):
  (Builtin.firstCells sz n (.slice q n c)).run P w= .ok cs.toArray w:=by
 cases q with
 |none=>simp at H;subst H;simp at hl;subst hl;simp[Builtin.firstCells]
 |some b=>simp only[Builtin.firstCells];exact pW H hl w hw
def oK{P:Program}{t u e ty:TypeId}{sz o:Nat}{z:Array Value}{p q:Option Addr}{l c n c':Nat}{h:aI}{K:Value->aI->Prop}
  (ht:P.underlying t=some (.slice e)) (hu: ∃e',P.underlying u=some (.slice e')) (hs:kh P e=some (sz,o,z)) (M:1<=o)
  (H:fC h e sz o z p l c q n λp' l' c' h'=>K (.slice p' l' c') h') (w:World) (hw:w.heap=h):
  ∃v w',(Builtin.append_ #[t,u] ty #[.slice p l c,.slice q n c']).run P w= .ok v w'/\ct w w'/\K v w'.heap:=by
 obtain⟨i,zv,hi,hz,y,hb,L⟩:=iJ hs;obtain⟨e',hu⟩:=hu;obtain⟨new,G,F,b,m⟩:=H;have A: ∀w,(sizeOf e).run P w= .ok sz w:=λw=>by rw[cZ hi,y]
 have J: ∀w,(typeInfo e).run P w= .ok i w:=λw=>mS hi w;have S: ∀w,(zeroValue e).run P w= .ok zv w:=λw=>by simp[zeroValue,J,hz]
 have d:=λw hw=>tF (P:=P) (c:=c') G F w hw;by_cases hle:l+n<=c
 ·have b:=b hle;cases p with
  |none=>
   obtain⟨N,hK⟩:=b;have U:new=[]:=Nv (G.trans N);refine⟨_,w,?_,ct.refl w,by rw[hw];exact hK⟩;simp[Builtin.append_,bE ht,bE hu,A,Builtin.lenOf,hle,d w hw]
  |some a=>
   obtain⟨w',hr,x,hK⟩:=lu (P:=P) b w hw;refine⟨_,w',?_,x,hK⟩;simp[Builtin.append_,bE ht,bE hu,A,Builtin.lenOf,hle,d w hw,hr]
 ·obtain⟨old,I,C,f,hK⟩:=m ah
  have R:Builtin.nextslicecap (l+n) c*i.bytes<=281474976710656:=by rw[hb];exact growslice_fits ah f
  have Q:l+n<=140737488355328:=NK (Nat.le_mul_of_pos_right _ M) f
  have O: ¬(((l:Int)+n>IntKind.i64.max)/\i.bytes=0):=by rintro ⟨_,h0⟩;omega
  subst y;have g:w.drew.heap=h:=hw;have k:=tF (P:=P) (c:=c) I C w.drew g;have j:=d w.drew g;have hK:=hK (Question.cut (.appendCap (l+n) c e) (w.tape w.drawn (.appendCap (l+n) c e))) (by simp[Question.cut]);rw[<-hw,<-L]at hK;refine⟨_,w.drew.alloc (.cells (old.toArray++new.toArray++Builtin.zeroCells zv.cells (Question.cut (.appendCap (l+n) c e) (w.tape w.drawn (.appendCap (l+n) c e))-(l+n))) e),?_,⟨rfl,rfl,rfl⟩,hK⟩;have D: ¬(9223372036854775807<((l:Int)+(n:Int))):=ah;have B: ¬(281474976710656<Builtin.nextslicecap (l+n) c*i.bytes):=ah;simp[Builtin.append_,bE ht,bE hu,sizeOf,typeInfo,zeroValue,hi,hz,Builtin.lenOf,hle,D,B,Question.forced,k,j,newRow]
  congr 2
  apply OU;simp[NR]
def tW{P:Program}{t u e ty:TypeId}{ti:TypeInfo}{p q:Option Addr}{l c n c':Nat}{h:aI}{K:Value->aI->Prop}
  (ht:P.underlying t=some (.slice e)) (j:P.info? e=some ti)
  (H:wX h ti.size p l q n λm h'=>K (.int .i64 m) h') (w:World) (hw:w.heap=h):
  ∃v w',(Builtin.copy_ #[t,u] ty #[.slice p l c,.slice q n c']).run P w= .ok v w'/\ct w w'/\K v w'.heap:=by
 obtain⟨new,i,f,H⟩:=H
 have d:(Builtin.firstCells ti.size (Nat.min n l) (.slice q n c')).run P w= .ok new.toArray w:=by
  cases q with
  |none=>simp at f;subst f;simp at i;subst i;simp[Builtin.firstCells]
  |some b=>simp only[Builtin.firstCells];exact pW f i w hw
 cases p with
 |none=>
  refine⟨_,w,?_,ct.refl w,by rw[hw];exact H⟩;simp only[Builtin.copy_,List.getElem?_toArray,Pc,N8,Sem.run_bind,bE ht,Result.andThen_ok,Builtin.lenOf,Sem.run_pure,cZ j,d];simp[goInt]
 |some a=>
  obtain⟨w',hr,g,hK⟩:=lu (P:=P) H w hw;refine⟨_,w',?_,g,hK⟩;simp only[Builtin.copy_,List.getElem?_toArray,Pc,N8,Sem.run_bind,bE ht,Result.andThen_ok,Builtin.lenOf,Sem.run_pure,cZ j,d];simp[goInt,hr]
def sJ(H:dp P t p v h K)(w:World)(hw:w.heap=h):
  ∃w',(Instr.storeAt t (.pointer p) v).run P w= .ok () w'/\ct w w'/\K w'.heap:=by
 unfold dp at H;split at H
 case h_2=>exact H.elim
 rename_i ti c;split at H
 case h_2=>exact H.elim
 rename_i hs;have hs:=Nn hs;obtain⟨a,rfl,H⟩:=cI H;obtain⟨w',hr,b,hK⟩:=lu (P:=P) H w hw;refine⟨w',?_,b,hK⟩;simp[Instr.storeAt,Instr.sureAddr,storeVar,cZ c,hs,hr]
def mh(H:kN P t a b h K)(w:World)(hw:w.heap=h):
  ∃v w',(Instr.makeSlice t a b).run P w= .ok v w'/\ct w w'/\K v w'.heap:=by
 unfold kN at H;split at H
 case h_2=>exact H.elim
 rename_i e k i k' j ht;split at H
 case h_2=>exact H.elim
 rename_i sz f z hs;obtain⟨ti,zv,hi,hz,d,hb,c⟩:=iJ hs;obtain⟨h0,h1,h2,h3,H⟩:=H;subst d;subst c;subst hb;subst hw;exact⟨_,_,run_make w t e ti zv ht hi hz k k' i j h0 h1 h2 h3,⟨rfl,rfl,rfl⟩,H⟩
def lQ{ix:List Nat}(H:gS P t n (some vs) ix h K)(w:World)(hw:w.heap=h):
  ∃v w',(Instr.buildSlice t n (ix.zip vs).toArray).run P w= .ok v w'/\ct w w'/\K v w'.heap:=by
 unfold gS at H;split at H
 case h_2=>exact H.elim
 rename_i e g ht hv;simp only[Ny]at hv;subst hv;split at H
 case h_2=>exact H.elim
 rename_i sz j z hs;obtain⟨ti,zv,hi,hz,f,hb,c⟩:=iJ hs;split at H
 case h_2=>exact H.elim
 rename_i a;have a:=Of a;obtain⟨cells,hc,H2⟩:=be H;clear H;subst f;subst c;subst hw;refine⟨_,w.alloc (.cells cells e),?_,⟨rfl,rfl,rfl⟩,H2⟩;have d: ∀w,(zeroValue e).run P w= .ok zv w:=λw=>by simp[zeroValue,mS hi,hz]
 have hn: ¬(n*ti.size>2^24):=ah;by_cases h0:n*ti.size=0
 ·have b:Instr.fill (λi=>some (i*ti.size,ti.size)) ((Array.range (n*ti.size)).map ((#[]:Array Value)[· %(#[]:Array Value).size]!)) (ix.zip vs)=some cells:=by
   rw[<-hc];simp[madeCells,h0,Array.range_zero']
  simp only[Instr.buildSlice,Sem.run_bind,bE ht,Result.andThen_ok,cZ hi,h0,PC,Sem.run_ite,Sem.run_pure]at b ⊢;rw[b];simp[newRow]
 ·simp only[Instr.buildSlice,Sem.run_bind,bE ht,Result.andThen_ok,cZ hi,hn,h0,NI,Sem.run_ite,Sem.run_pure,d];unfold madeCells at hc;rw[hc];simp[newRow]
def eV{w:World}(h:w.heap[b]? =some (.map es cl))(o:Obj):(setObj b o).run P w= .ok () {w with heap:=w.heap.setIfInBounds b o}:=by simp[setObj,Sem.run,h]
def qX(h:Instr.sameBits 10000 old new=true)(w:World):(Instr.keyThatStays old new).run P w= .ok new w:=by simp[Instr.keyThatStays,h]
def my(H:ku P t m k v h K)(w:World)(hw:w.heap=h):
  ∃w',(Instr.mapUpdate t m k v).run P w= .ok () w'/\ct w w'/\K w'.heap:=by
 unfold ku at H;split at H
 case h_2=>exact H.elim
 rename_i kt et r kk kn ht;split at H
 case h_2=>exact H.elim
 rename_i k1 hk;obtain⟨b,rfl,es,cl,hm,o,hf,H⟩:=be H;subst hw;have hb:=gd hm;cases o with
 |none=>
  refine⟨{w with heap:=w.heap.setIfInBounds b (.map (es.push {key:= .int kk kn,val:=v,born:=cl}) (cl+1))},?_,⟨rfl,rfl,rfl⟩,H⟩;simp[Instr.mapUpdate,bE ht,dc hb,da hk,dv hk hf,eV hb]
 |some q=>
  obtain⟨i,u⟩:=q;obtain⟨a,H⟩:=H;refine⟨{w with heap:=w.heap.setIfInBounds b (.map (es.modify i λe=>{e with key:= .int kk kn,val:=v}) cl)},?_,⟨rfl,rfl,rfl⟩,H⟩;simp only[Instr.mapUpdate,Sem.run_bind,bE ht,Result.andThen_ok,dc hb,da hk,dv hk hf,qX a,eV hb]
def nI(H:mw P t m k h K)(w:World)(hw:w.heap=h):
  ∃v w',(Instr.mapEntry t m k).run P w= .ok v w'/\ct w w'/\K v w'.heap:=by
 unfold mw at H;split at H
 case h_2=>exact H.elim
 rename_i kt et r kk kn ht;split at H
 case h_2=>exact H.elim
 rename_i k1 z hk hz;obtain⟨b,rfl,es,cl,hm,o,hf,H⟩:=be H;subst hw;have hb:=gd hm;cases o with
 |none=>
  obtain⟨u,hu,H⟩:=dR H;simp only[Ny]at hu;subst hu;refine⟨_,{w with heap:=w.heap.setIfInBounds b (.map (es.push {key:= .int kk kn,val:=z,born:=cl}) (cl+1))},?_,⟨rfl,rfl,rfl⟩,H⟩;simp[Instr.mapEntry,bE ht,dc hb,da hk,dv hk hf,eV hb,oM hz,goInt]
 |some q=>
  obtain⟨i,u⟩:=q;obtain⟨a,H⟩:=H;obtain⟨u',hu,H⟩:=dR H;simp only[Ny]at hu;subst hu;refine⟨_,{w with heap:=w.heap.setIfInBounds b (.map (es.modify i λe=>{e with key:= .int kk kn}) cl)},?_,⟨rfl,rfl,rfl⟩,H⟩;simp only[Instr.mapEntry,Sem.run_bind,bE ht,Result.andThen_ok,dc hb,da hk,dv hk hf,qX a,eV hb,goInt,Sem.run_pure]
def lI(H:jt m s v h K)(w:World)(hw:w.heap=h):
  ∃w',(Instr.entryStore t m s v).run P w= .ok () w'/\ct w w'/\K w'.heap:=by
 unfold jt at H;split at H
 case h_2=>exact H.elim
 rename_i r k st;obtain⟨b,rfl,es,cl,hm,i,hi,H⟩:=be H;subst hw;have hb:=gd hm;refine⟨{w with heap:=w.heap.setIfInBounds b (.map (es.modify i λe=>{e with val:=v}) cl)},?_,⟨rfl,rfl,rfl⟩,H⟩;simp[Instr.entryStore,dc hb,asInt,asIntOf,hi,eV hb]
def sj(H:vB P t x h K)(w:World)(hw:w.heap=h):
  ∃w',(Builtin.clear_ #[t] ty #[x]).run P w= .ok (.tuple #[]) w'/\ct w w'/\K w'.heap:=by
 unfold vB at H;split at H
 case h_2=>exact H.elim
 rename_i e p n c ht;split at H
 case h_2=>exact H.elim
 rename_i sz g z hs;obtain⟨i,zv,hi,hz,j,hb,d⟩:=iJ hs;have f: ∀w,(zeroValue e).run P w= .ok zv w:=λw=>by simp[zeroValue,mS hi,hz]
 unfold vF at H;cases p with
 |none=>exact⟨w,by simp[Builtin.clear_,bE ht],ct.refl w,by rw[hw];exact H⟩
 |some a=>
  cases n with
  |zero=>
   refine⟨w,by simp[Builtin.clear_,bE ht],ct.refl w,?_⟩;rw[hw];simpa[Builtin.zeroCells,pE]using H
  |succ n=>
   obtain⟨w',hr,b,hK⟩:=lu (P:=P) H w hw;refine⟨w',?_,b,hK⟩;subst d;simp[Builtin.clear_,bE ht,f,hr]
def qG(H:rY P t m k h K)(w:World)(hw:w.heap=h):
  ∃w',(Builtin.delete_ #[t,u] ty #[m,k]).run P w= .ok (.tuple #[]) w'/\ct w w'/\K w'.heap:=by
 unfold rY at H;split at H
 case h_2=>exact H.elim
 rename_i kt et r kk kn ht;split at H
 case h_2=>exact H.elim
 rename_i k1 hk;obtain⟨b,rfl,es,cl,hm,o,hf,H⟩:=be H;subst hw;have hb:=gd hm;cases o with
 |none=>
  refine⟨{w with heap:=w.heap.setIfInBounds b (.map es cl)},?_,⟨rfl,rfl,rfl⟩,H⟩;simp[Builtin.delete_,bE ht,dc hb,da hk,dv hk hf,eV hb]
 |some q=>
  obtain⟨i,u⟩:=q;refine⟨{w with heap:=w.heap.setIfInBounds b (.map (es.eraseIdxIfInBounds i) cl)},?_,⟨rfl,rfl,rfl⟩,H⟩;simp[Builtin.delete_,bE ht,dc hb,da hk,dv hk hf,eV hb]
def td(H:ww P t x h K): ∀w:World,w.heap=h-> ∃v w',(Instr.range t x).run P w= .ok v w'/\ct w w'/\K v w'.heap:=by
 intro w hw;subst hw;unfold ww at H;split at H
 case h_2=>exact H.elim
 rename_i k e r ht;unfold DQ at H;split at H
 ·exact⟨_,_,run_range_nilMap w t k e ht,⟨rfl,rfl,rfl⟩,H⟩
 ·rename_i m;obtain⟨es,cl,hm,H⟩:=H;exact⟨_,_,run_range_map w t k e m es cl ht (gd hm),⟨rfl,rfl,rfl⟩,H⟩
def ud(H:BP x h K): ∀w:World,w.heap=h-> ∃v w',(Instr.next x false ty).run P w= .ok v w'/\ct w w'/\K v w'.heap:=by
 intro w hw;subst hw;unfold BP at H;split at H
 case h_2=>exact H.elim
 rename_i p;obtain⟨a,rfl,H⟩:=cI H;obtain⟨ho,m,c,d,last,hr,G⟩:=H;obtain⟨ab,ao,j⟩:=a;dsimp only at ho hr G;subst ho;clear H;cases m with
 |none=>
  refine⟨_,w,?_,⟨rfl,rfl,rfl⟩,G⟩;simp only[Instr.next,getObj,Sem.run_bind,Sem.run,hr,Result.andThen]
  rfl
 |some m=>
  obtain⟨es,cl,hm,f,i,H0,H1⟩:=G;have hs: ∀s,(Instr.next (.pointer (some ⟨ab,0,s⟩)) false ty)=(Instr.next (.pointer (some ⟨ab,0,none⟩)) false ty):=λs=>rfl;rw[hs j];rcases run_next_at w ty ab m c last d es cl hr (gd hm) f i with⟨h0,b⟩|⟨e,he,w1,g,b⟩
  ·exact⟨_,w,b,⟨rfl,rfl,rfl⟩,H0 h0⟩
  ·refine⟨_,_,b,?_,?_⟩
   ·rcases g with rfl|rfl<;>exact⟨rfl,rfl,rfl⟩
   ·have:=H1 e he;rcases g with rfl|rfl<;>exact this
def sg(H:wF P kt vt x h K): ∀w:World,w.heap=h-> ∃v w',(Instr.entry x).run P w= .ok v w'/\ct w w'/\K v w'.heap:=by
 intro w hw;subst hw;unfold wF at H;split at H
 case h_2=>exact H.elim
 rename_i p;obtain⟨a,rfl,H⟩:=cI H;obtain⟨ho,m,b,d,cl,es,c,e,hr,hb,hm,hf,G⟩:=H;obtain⟨ab,ao,f⟩:=a;dsimp only at ho hr;subst ho;obtain⟨zs,-,G⟩:=be G;obtain⟨vs,e1,G⟩:=tY G;refine⟨_,w,?_,⟨rfl,rfl,rfl⟩,G⟩;rw[<-e1];simp only[Instr.entry,getObj,Sem.run_bind,Sem.run,hr,gd hm,hb,Result.andThen,bne_self_eq_false,Nj,NI,hf]
 rfl
def wx(hX:uM P X){o:Oper}(H:HP P X o.op o.type ρ h K):Ep P o (ev ρ) h K:=by
 obtain⟨dst,op,type,pos,after,guard⟩:=o;intro σ hσ w hw;dsimp only at H hσ
 have j: ∀{s:Sem Value},execOp σ ⟨dst,op,type,pos,after,guard⟩=(do pure (.value (<-s)))->
   (∃v w',s.run P w= .ok v w'/\ct w w'/\K v w'.heap)->nG P K w ((execOp σ ⟨dst,op,type,pos,after,guard⟩).run P w):=by
  rintro s he ⟨v,w',hr,hs,hK⟩;rw[he];simp only[Sem.run_bind,hr,Result.andThen_ok,Sem.run_pure];exact⟨hs,hK⟩
 have B: ∀{s:Sem Unit},execOp σ ⟨dst,op,type,pos,after,guard⟩=(do s;pure .skip)->
   (∃w',s.run P w= .ok () w'/\ct w w'/\K undef w'.heap)->nG P K w ((execOp σ ⟨dst,op,type,pos,after,guard⟩).run P w):=by
  rintro s he ⟨w',hr,hs,hK⟩;rw[he];simp only[Sem.run_bind,hr,Result.andThen_ok,Sem.run_pure];exact⟨hs,hK⟩
 unfold HP at H;split at H
 ·rename_i t;obtain⟨z,hz,H⟩:=be H;subst hw;exact j (s:=Instr.alloc t true (.tuple #[])) rfl ⟨_,w.alloc (.cells z.cells t),by simp[Instr.alloc,oM hz,newVar,newRow],⟨rfl,rfl,rfl⟩,H⟩
 ·rename_i t x;obtain⟨v,hv,H⟩:=be H;subst hw;exact j (s:=Instr.box t (σ x)) rfl ⟨_,w.alloc (.cells v.cells t),by rw[hσ x (by simp[Op.operands]) v hv];simp[Instr.box,newVar,newRow],⟨rfl,rfl,rfl⟩,H⟩
 ·rename_i t a x;split at H
  case h_2=>exact H.elim
  rename_i p hp;obtain⟨v,hv,H⟩:=be H;exact B (s:=Instr.storeAt t (σ a) (σ x)) rfl (by rw[hσ a (by simp[Op.operands]) _ hp,hσ x (by simp[Op.operands]) v hv];exact sJ H w hw)
 ·rename_i t;subst hw;exact j (s:=Instr.makeMap t none) rfl ⟨_,w.alloc (.map #[] 0),by simp[Instr.makeMap],⟨rfl,rfl,rfl⟩,H⟩
 ·rename_i t l c;obtain⟨a,ha,H⟩:=be H;obtain⟨b,hb,H⟩:=be H;exact j (s:=Instr.makeSlice t (σ l) (σ c)) rfl (by rw[hσ l (by simp[Op.operands]) a ha,hσ c (by simp[Op.operands]) b hb];exact mh H w hw)
 ·rename_i t n ps;cases hvs:y9 ρ (ps.toList.map (·.2))with
  |none=>rw[hvs]at H;unfold gS at H;split at H<;>first|exact H.elim|simp at*
  |some vs=>
   rw[hvs]at H;obtain⟨hl,hm⟩:=mt hvs
   have e:(ps.map λ(i,x)=>(i,σ x))=((ps.toList.map (·.1)).zip vs).toArray:=by rw[<-hm σ λx hx=>hσ x (by simpa[Op.operands]using hx)];apply OU;simp[List.zip_map',On]
   refine j rfl ?_;rw[e];exact lQ H w hw
 ·rename_i t m k x;obtain⟨a,ha,H⟩:=be H;obtain⟨b,hb,H⟩:=be H;obtain⟨v,hv,H⟩:=be H;exact B (s:=Instr.mapUpdate t (σ m) (σ k) (σ x)) rfl (by rw[hσ m (by simp[Op.operands]) a ha,hσ k (by simp[Op.operands]) b hb,hσ x (by simp[Op.operands]) v hv];exact my H w hw)
 ·rename_i t m k;obtain⟨a,ha,H⟩:=be H;obtain⟨b,hb,H⟩:=be H;exact j (s:=Instr.mapEntry t (σ m) (σ k)) rfl (by rw[hσ m (by simp[Op.operands]) a ha,hσ k (by simp[Op.operands]) b hb];exact nI H w hw)
 ·rename_i t m s x;obtain⟨a,ha,H⟩:=be H;obtain⟨b,hb,H⟩:=be H;obtain⟨v,hv,H⟩:=be H;exact B (s:=Instr.entryStore t (σ m) (σ s) (σ x)) rfl (by rw[hσ m (by simp[Op.operands]) a ha,hσ s (by simp[Op.operands]) b hb,hσ x (by simp[Op.operands]) v hv];exact lI H w hw)
 ·rename_i t x;obtain⟨a,ha,H⟩:=be H;exact j (s:=Instr.range t (σ x)) rfl (by rw[hσ x (by simp[Op.operands]) a ha];exact td H w hw)
 ·rename_i x M;obtain⟨a,ha,H⟩:=be H;split at H
  case h_2=>exact H.elim
  exact j (s:=Instr.next (σ x) false type) rfl (by rw[hσ x (by simp[Op.operands]) a ha];exact ud H w hw)
 ·rename_i x;obtain⟨a,ha,H2⟩:=be H;clear H;split at H2
  case h_2=>exact H2.elim
  rename_i t;split at H2
  case h_2=>exact H2.elim
  exact j (s:=Instr.entry (σ (.tmp t))) rfl (by rw[hσ (.tmp t) (by simp[Op.operands]) a ha];exact sg H2 w hw)
 ·rename_i f args ats;obtain⟨xs,F,H2⟩:=be H;clear H
  have A:args.map σ=xs.toArray:=by rw[<-(mt F).2 σ λx hx=>hσ x (by simp only[Op.operands,Call.operands,PX];exact .inr (by simpa using hx))];apply OU;simp
  split at H2
  ·rename_i g;have:=yR hX H2 w hw;have C:execOp σ ⟨dst,.call {callee:= .value (.func g),args:=args,argTypes:=ats},type,pos,after,guard⟩=(do let d <-Deferred.ofValue (σ (.func g)) (args.map σ);invoke d.target d.args):=rfl;rw[C,hσ (.func g) (by simp[Op.operands,Call.operands]) _ rfl,A];have e2:(do let d <-Deferred.ofValue (.func (.func g) #[] #[]) xs.toArray;invoke d.target d.args)=callFunc g (#[]++xs.toArray++ #[]):=rfl;rw[e2];simpa using this
  ·obtain⟨fv,J,H3⟩:=be H2;have:=vf hX H3 w hw;have C:execOp σ ⟨dst,.call {callee:= .value f,args:=args,argTypes:=ats},type,pos,after,guard⟩=(do let d <-Deferred.ofValue (σ f) (args.map σ);invoke d.target d.args):=rfl;rw[C,hσ f (by simp[Op.operands,Call.operands]) _ J,A];exact this
 ·rename_i r D args ats;obtain⟨rv,G,H⟩:=be H;obtain⟨xs,F,H⟩:=be H
  have A:args.map σ=xs.toArray:=by rw[<-(mt F).2 σ λx hx=>hσ x (by simp only[Op.operands,Call.operands,PX];exact .inr (by simpa using hx))];apply OU;simp
  have:=vK hX H w hw;have C:execOp σ ⟨dst,.call {callee:= .invoke r D,args:=args,argTypes:=ats},type,pos,after,guard⟩=invoke (.fn (.method D) #[]) (#[σ r]++args.map σ):=rfl;rw[C,hσ r (by simp[Op.operands,Call.operands]) _ G,A];exact this
 ·rename_i b args ats;obtain⟨args⟩:=args;obtain⟨ats⟩:=ats;split at H
  ·rename_i x y t u e1 e2;dsimp only at e1 e2;subst e1;subst e2;obtain⟨a,ha,H1⟩:=be H;clear H;obtain⟨b,hb,H⟩:=be H1;clear H1;refine j (s:=Builtin.append_ #[t,u] type #[σ x,σ y]) (by simp[execOp,resolve,invoke,builtin]) ?_;rw[hσ x (by simp[Op.operands,Call.operands]) a ha,hσ y (by simp[Op.operands,Call.operands]) b hb];unfold JV at H;split at H
   case h_2=>exact H.elim
   rename_i e e' p l c q n c' ht hu;split at H
   case h_2=>exact H.elim
   rename_i sz N z hs;split at H
   case h_2=>exact H.elim
   rename_i I;exact oK ht ⟨_,hu⟩ hs (Of I) H w hw
  ·rename_i x y t u e1 e2;dsimp only at e1 e2;subst e1;subst e2;obtain⟨a,ha,H1⟩:=be H;clear H;obtain⟨b,hb,H⟩:=be H1;clear H1;refine j (s:=Builtin.copy_ #[t,u] type #[σ x,σ y]) (by simp[execOp,resolve,invoke,builtin]) ?_;rw[hσ x (by simp[Op.operands,Call.operands]) a ha,hσ y (by simp[Op.operands,Call.operands]) b hb];unfold FC at H;split at H
   case h_2=>exact H.elim
   rename_i e p l _ q n _ ht;split at H
   case h_2=>exact H.elim
   rename_i ti L;exact tW ht L H w hw
  ·rename_i x y t u e1 e2;dsimp only at e1 e2;subst e1;subst e2;obtain⟨a,ha,H1⟩:=be H;clear H;obtain⟨b,hb,H⟩:=be H1;clear H1;refine j (s:=Builtin.delete_ #[t,u] type #[σ x,σ y]) (by simp[execOp,resolve,invoke,builtin]) ?_;rw[hσ x (by simp[Op.operands,Call.operands]) a ha,hσ y (by simp[Op.operands,Call.operands]) b hb];obtain⟨w',hr,hs,hK⟩:=qG H w hw;exact⟨_,w',hr,hs,hK⟩
  ·rename_i x t e1 e2;dsimp only at e1 e2;subst e1;subst e2;obtain⟨a,ha,H1⟩:=be H;clear H;refine j (s:=Builtin.clear_ #[t] type #[σ x]) (by simp[execOp,resolve,invoke,builtin]) ?_;rw[hσ x (by simp[Op.operands,Call.operands]) a ha];obtain⟨w',hr,hs,hK⟩:=sj H1 w hw;exact⟨_,w',hr,hs,hK⟩
  ·exact H.elim
 ·exact H.elim
abbrev FF:=Nat->Option Value
def wS(f:FF):Operand->Option Value
 | .tmp t=>f t
 | .const v=>some v
 | .global g=>some (.pointer (some ⟨g,0,none⟩))
 | .func f=>some (.func (.func f) #[] #[])
def dW(f:FF)(d:Option Nat)(v:Value):FF:=match d with|some k=>λt=>if t=k then some v else f t|none=>f
def ta(ρ:Fr):ev ρ=wS (get ρ):=by funext x;cases x<;>rfl
def oo(ρ:Fr)(d:Option Nat)(v:Value):get (put ρ d v)=dW (get ρ) d v:=by
 cases d with
 |none=>rfl
 |some k=>
  funext t;simp only[put,get,dW];by_cases h:t=k
  ·subst h;simp
  ·have:Nat.beq k t=false:=by
    cases hb:Nat.beq k t with
    |false=>rfl
    |true=>exact Nc (Nn hb).symm h
   simp[this,h]
def ot(h:get ρ d=some v):get ((d,v)::ρ)=get ρ:=by
 have:=oo ρ (some d) v;rw[show put ρ (some d) v=(d,v)::ρ from rfl]at this;rw[this];funext t;simp only[dW];split
 ·rename_i e;rw[e,h]
 ·rfl
def kR(ops:Array Oper)(o:Oper)(f:FF):Prop:=
 match o.guard with
 |none=>True
 |some (j,want)=> ∃d,(ops[j]?).bind (·.dst)=some d/\f d=some (.bool want)
def vL(ops:Array Oper)(o:Oper)(f:FF):Prop:=
 match o.guard with
 |none=>False
 |some (j,want)=> ∃d v,(ops[j]?).bind (·.dst)=some d/\f d=some v/\v≠ .bool want
def ju(P:Program)(ops:Array Oper)(o:Oper)(f:FF)(h:aI)(v:Value):Prop:=
 (kR ops o f/\Ft P o (wS f) h v)\/(vL ops o f/\v=undef)
def fD(P:Program)(ops:Array Oper)(i:Nat)(κ:FF->aI->Prop)(f:FF)(h:aI):Prop:=
 ∃o,ops[i]? =some o/\
  ((∃v,ju P ops o f h v/\(pP o.op=true->vL ops o f)/\κ (dW f o.dst v) h)\/
   (pP o.op=true/\kR ops o f/\Ep P o (wS f) h λv h'=>κ (dW f o.dst v) h'))
def fH(P:Program)(ops:Array Oper)(f:FF)(h:aI)(j:Nat):Prop:=
 ∃o d v,ops[j]? =some o/\o.dst=some d/\f d=some v/\ju P ops o f h v
def SA(P:Program)(ops:Array Oper)(K:FF->aI->Prop):List (Nat×List Nat)->FF->aI->Prop
 | [],f,h=>K f h
 |(i,js)::r,f,h=>fD P ops i (λf' h'=>(∀j∈js,fH P ops f' h' j)/\SA P ops K r f' h') f h
def fD.mono(H:fD P ops i κ f h)(hk: ∀f h,κ f h->κ' f h):fD P ops i κ' f h:=by obtain⟨o,ho,H⟩:=H;refine⟨o,ho,H.imp (λ⟨v,h1,h2,h3⟩=>⟨v,h1,h2,hk _ _ h3⟩) (λ⟨h1,h2,h3⟩=>⟨h1,h2,h3.mono λv h'=>hk _ _⟩)⟩
def jZ(ops:Array Oper)(d:Option Nat)(o:Oper):Bool:=match d with|some k=> !(o.looksAt ops).contains k|none=>true
def sG{o:Oper}(h:jZ ops d o=true): ∀x∈o.op.operands,wS (dW f d v) x=wS f x:=by
 intro x hx;cases d with
 |none=>rfl
 |some k=>
  cases x with
  |tmp t=>
   simp only[wS,dW];by_cases e:t=k
   ·subst e;have:t∈o.looksAt ops:=List.mem_append_left _ (List.mem_filterMap.2 ⟨.tmp t,by simpa using hx,rfl⟩);simp[jZ,this]at h
   ·simp[e]
  |_=>rfl
def jK{o:Oper}(h:jZ ops d o=true)(hg:o.guard=some (j,a))(hb:(ops[j]?).bind (·.dst)=some g):dW f d v g=f g:=by
 cases d with
 |none=>rfl
 |some k=>
  simp only[dW];by_cases e:g=k
  ·subst e;have:g∈o.looksAt ops:=List.mem_append_right _ (by simp[hg,hb]);simp[jZ,this]at h
  ·simp[e]
def tU(h:jZ ops d o=true):kR ops o (dW f d v)↔kR ops o f:=by
 unfold kR;split
 ·rfl
 ·rename_i j a hg;constructor
  ·rintro ⟨g,hb,hv⟩;rw[jK h hg hb]at hv;exact⟨g,hb,hv⟩
  ·rintro ⟨g,hb,hv⟩;exact⟨g,hb,by rw[jK h hg hb];exact hv⟩
def w8(h:jZ ops d o=true):vL ops o (dW f d v)↔vL ops o f:=by
 unfold vL;split
 ·rfl
 ·rename_i j b hg;constructor
  ·rintro ⟨g,u,hb,hv,a⟩;rw[jK h hg hb]at hv;exact⟨g,u,hb,hv,a⟩
  ·rintro ⟨g,u,hb,hv,a⟩;exact⟨g,u,hb,by rw[jK h hg hb];exact hv,a⟩
def Gm.congr(h: ∀x∈xs,e x=e' x)(H:Gm e xs σ):Gm e' xs σ:=
 λx hx v hv=>H x hx v (by rw[h x hx];exact hv)
def Ft.off(ho:jZ ops d o=true):Ft P o (wS (dW f d u)) h v↔Ft P o (wS f) h v:=
 ⟨λH σ hσ w hw=>H σ (hσ.congr λx hx=>(sG ho x hx).symm) w hw,λH σ hσ w hw=>H σ (hσ.congr λx hx=>sG ho x hx) w hw⟩
def Ep.off(ho:jZ ops d o=true)(H:Ep P o (wS (dW f d u)) h K):Ep P o (wS f) h K:=
 λσ hσ w hw=>H σ (hσ.congr λx hx=>(sG ho x hx).symm) w hw
def ju.off(ho:jZ ops d o=true):ju P ops o (dW f d u) h v↔ju P ops o f h v:=by unfold ju;rw[tU ho,w8 ho,Ft.off ho]
def mu(f:FF)(u v:Value)(h: ∀k,d=some k->e≠some k):dW (dW f d u) e v=dW (dW f e v) d u:=by
 cases d with
 |none=>rfl
 |some k=>
  cases e with
  |none=>rfl
  |some l=>
   have a:k≠l:=λe=>h k rfl (by rw[e]);funext t;simp only[dW];by_cases h1:t=l
   ·subst h1;simp[Ne.symm a]
   ·simp[h1]
def Dj(ops:Array Oper)(x y:Oper):Bool:=jZ ops x.dst y&&jZ ops y.dst x&&(match x.dst,y.dst with|some a,some b=> !(Nat.beq a b)|_,_=>true)
def BG{x y:Oper}(h:Dj ops x y=true):jZ ops x.dst y=true/\jZ ops y.dst x=true/\ ∀k,x.dst=some k->y.dst≠some k:=by simp only[Dj,Nm]at h;refine⟨h.1.1,h.1.2,λk hk hy=> ?_⟩;rw[hk,hy]at h;simp at h
def cG(ops:Array Oper)(i:Nat):Bool:=match ops[i]? with|some o=>pP o.op|none=>false
def Ag(ops:Array Oper)(i j:Nat):Bool:=match ops[i]?,ops[j]? with|some x,some y=>Dj ops x y|_,_=>false
def pu(ops:Array Oper)(j x:Nat):Bool:=match ops[j]?,ops[x]? with
 |some oj,some ox=>jZ ops ox.dst oj&&(match ox.dst,oj.dst with|some a,some b=> !(Nat.beq a b)|_,_=>true)
 |_,_=>false
def xx(ops:Array Oper)(a:Nat->Nat->Bool)(x y:Nat×List Nat):Bool:=
 a y.1 x.1||(cG ops x.1&&cG ops y.1)||(Ag ops x.1 y.1&& !cG ops x.1&&(!cG ops y.1||y.2.contains x.1))
structure nM(ops:Array Oper)(anc:Nat->Nat->Bool)(rem:List (Nat×List Nat)):Prop where
 nodup:(rem.map (·.1)).Nodup
 pair:rem.Pairwise λx y=>xx ops anc x y=true
 empty: ∀x∈rem,cG ops x.1=false->x.2=[]
 keep: ∀y∈rem,∀j∈y.2,∀x∈rem,x.1≠j->anc j x.1=true\/anc x.1 y.1=true\/pu ops j x.1=true
 self: ∀y∈rem,∀j∈y.2,∃o,ops[j]? =some o/\jZ ops o.dst o=true
 lin:rem.Pairwise λx y=>anc x.1 y.1=false
def nM.tail(g:nM ops b (x::a)):nM ops b a:=
 ⟨by have:=g.nodup;simp at this;exact this.2,by have:=g.pair;rw[Oj]at this;exact this.2,λy hy=>g.empty y (by simp[hy]),
  λy hy j hj z hz=>g.keep y (by simp[hy]) j hj z (by simp[hz]),λy hy=>g.self y (by simp[hy]),by have:=g.lin;rw[Oj]at this;exact this.2⟩
def nM.sub(g:nM ops c b)(hs:a.Sublist b):nM ops c a:=
 ⟨g.nodup.sublist (hs.map _),g.pair.sublist hs,λy hy=>g.empty y (hs.subset hy),λy hy j hj z hz=>g.keep y (hs.subset hy) j hj z (hs.subset hz),λy hy=>g.self y (hs.subset hy),g.lin.sublist hs⟩
def fH.keep{ox:Oper}(hx:ops[x]? =some ox)(hk:pu ops j x=true)(H:fH P ops (dW f ox.dst v) h j):fH P ops f h j:=by
 obtain⟨o,d,u,ho,hd,hu,hl⟩:=H;simp only[pu,ho,hx,Nm]at hk;refine⟨o,d,u,ho,hd,?_,(ju.off hk.1).1 hl⟩;rw[hd]at hk;cases hxd:ox.dst with
 |none=>rw[hxd]at hu;exact hu
 |some k=>
  rw[hxd]at hu hk;have a:d≠k:=λe=>by subst e;simp at hk
  simpa[dW,a]using hu
def HI:
  ∀(a:List (Nat×List Nat)) (f:FF) (h:aI),nM ops F a->(i,ji)∈a->
   (∀x∈a,F i x.1=false)->(cG ops i=true-> ∀x∈a.takeWhile (λz=> !(Nat.beq z.1 i)),cG ops x.1=false)->
   (∀j∈ji,j∉a.map (·.1)-> ∀x∈a,F j x.1=false)->
   SA P ops K a f h->
   fD P ops i (λf' h'=>(∀j∈ji,j∉a.map (·.1)->fH P ops f' h' j)/\SA P ops K (a.filter λz=> !(Nat.beq z.1 i)) f' h') f h:=by
 intro a
 induction a with
 |nil=>intro f h _ hm;simp at hm
 |cons x rest ih=>
  intro f h g hm t l S H;obtain⟨x,jx⟩:=x;have hnd:=g.nodup;simp only[Nk,Nt]at hnd;by_cases hxi:x=i
  ·subst hxi
   have Y:jx=ji:=by
    simp only[List.mem_cons,PQ,OV]at hm;rcases hm with e|hm
    ·exact e.symm
    ·exact Nc (MY.2 ⟨_,hm,rfl⟩) hnd.1
   subst Y
   have hf:(((x,jx)::rest).filter λz=> !(Nat.beq z.1 x))=rest:=by
    rw[Po];simp only[Nat.beq_refl,Ng,Nj,NI];rw[NW];intro z hz;cases hb:Nat.beq z.1 x with
    |false=>rfl
    |true=>exact Nc (MY.2 ⟨z,hz,Nn hb⟩) hnd.1
   rw[hf];exact fD.mono H λf' h' hh=>⟨λj hj _=>hh.1 j hj,hh.2⟩
  ·have y:(i,ji)∈rest:=by
    simp only[List.mem_cons,PQ]at hm;rcases hm with⟨e,_⟩|hm
    ·exact Nc e.symm hxi
    ·exact hm
   have L:Nat.beq x i=false:=by
    cases hb:Nat.beq x i with
    |false=>rfl
    |true=>exact Nc (Nn hb) hxi
   have hp:=(Oj.1 g.pair).1 _ y;simp only[xx,t (x,jx) ak,OK,NO,Nm,NC,List.contains_iff_mem]at hp
   have U:Ag ops x i=true/\cG ops x=false/\(cG ops i=true->x∈ji):=by
    rcases hp with⟨h1,h2⟩|⟨⟨h1,h2⟩,h3⟩
    ·have:=l h2 (x,jx) (by rw[List.takeWhile_cons];simp[L]);simp[this]at h1
    ·refine⟨h1,h2,λhe=> ?_⟩;rcases h3 with h3|h3
     ·rw[he]at h3;simp at h3
     ·exact h3
   obtain⟨M,Q,W⟩:=U;have c:jx=[]:=g.empty (x,jx) ak Q;subst c;obtain⟨ox,b,H⟩:=H;have n:pP ox.op=false:=by simpa[cG,b]using Q
   have H: ∃v,ju P ops ox f h v/\SA P ops K rest (dW f ox.dst v) h:=by
    rcases H with⟨v,h1,_,h3⟩|⟨h1,_⟩
    ·exact⟨v,h1,h3.2⟩
    ·rw[n]at h1;simp at h1
   obtain⟨v,G,J⟩:=H
   have step:=ih (dW f ox.dst v) h g.tail y (λz hz=>t z (by simp[hz]))
    (λhe z hz=>l he z (by rw[List.takeWhile_cons];simp[L];exact .inr hz))
    (λj hj k z hz=>by
     by_cases c:j=x
     ·subst c;exact(Oj.1 g.lin).1 z hz
     ·exact S j hj (by simp[c];simpa using k) z (by simp[hz])) J
   obtain⟨oi,A,step⟩:=step;have I:Dj ops ox oi=true:=by simpa[Ag,b,A]using M
   obtain⟨h1,h2,h3⟩:=BG I
   have N:((x,[])::rest).filter (λz=> !(Nat.beq z.1 i))=(x,[])::rest.filter λz=> !(Nat.beq z.1 i):=by rw[Po];simp[L]
   have q: ∀u h',ju P ops ox (dW f oi.dst u) h' v->
     (∀j∈ji,j∉rest.map (·.1)->fH P ops (dW (dW f ox.dst v) oi.dst u) h' j)->
     SA P ops K (rest.filter λz=> !(Nat.beq z.1 i)) (dW (dW f ox.dst v) oi.dst u) h'->
     (∀j∈ji,j∉((x,[])::rest).map (·.1)->fH P ops (dW f oi.dst u) h' j)/\SA P ops K (((x,[])::rest).filter λz=> !(Nat.beq z.1 i)) (dW f oi.dst u) h':=by
    intro u h' hl O R;rw[mu f v u h3]at O R;refine⟨λj hj k=> ?_,?_⟩
    ·have c:x≠j:=λe=>k (by simp[e]);have V:j∉rest.map (·.1):=λe=>k (by simp only[Nk,List.mem_cons];exact .inr e)
     have hk:pu ops j x=true:=by
      rcases g.keep (i,ji) hm j hj (x,[]) ak c with hk|hk|hk
      ·have:=S j hj k (x,[]) ak;rw[this]at hk;simp at hk
      ·have:=(Oj.1 g.lin).1 _ y;rw[this]at hk;simp at hk
      ·exact hk
     exact fH.keep b hk (O j hj V)
    ·rw[N];exact⟨ox,b,.inl ⟨v,hl,λe=>by rw[n]at e;simp at e,ak,R⟩⟩
   refine⟨oi,A,?_⟩;rcases step with⟨u,s1,s2,s3⟩|⟨s1,s2,s3⟩
   ·refine .inl ⟨u,(ju.off h1).1 s1,λe=>(w8 h1).1 (s2 e),q u h ((ju.off h2).2 G) s3.1 s3.2⟩
   ·refine .inr ⟨s1,(tU h1).1 s2,(Ep.off h1 s3).mono λu h' hh=> ?_⟩;refine q u h' ?_ hh.1 hh.2;have m:x∈ji:=W (by simpa[cG,A]using s1);obtain⟨o,d,v',ho,hd,B,hl⟩:=hh.1 x m hnd.1;rw[b]at ho;simp only[Ny]at ho;subst ho;rw[mu f v u h3,hd]at B;simp only[dW,PC,Ny]at B;subst B;rw[mu f v u h3]at hl;obtain⟨o',D,C⟩:=g.self (i,ji) hm x m;rw[b]at D;simp only[Ny]at D;subst D;exact(ju.off C).1 hl
def kM(f:FF)(a:Act):Prop:= ∀t v,f t=some v->a.tmps.getD t undef=v
structure qy(n:Nat)(w0:World)(f:FF)(h:aI)(a:Act)(w:World):Prop where
 agree:kM f a
 defers:a.defers=[]
 size:a.tmps.size=n
 same:ct w0 w
 heap:w.heap=h
def pC(n:Nat)(o:Oper):Bool:=match o.dst with|some d=>Nat.blt d n|none=>true
def yj{a:Act}(h:kM f a)(hd: ∀k,d=some k->k<a.tmps.size):kM (dW f d v) (a.put d v):=by
 cases d with
 |none=>exact h
 |some k=>
  intro t u hu;simp only[dW]at hu;by_cases e:t=k
  ·subst e;simp only[PC,Ny]at hu;subst hu;simp[Act.put,hd t rfl]
  ·simp only[e,NI]at hu;have:=h t u hu;rw[<-this];simp[Act.put,Array.getElem?_setIfInBounds_ne (Ne.symm e)]
def Au(a:Act)(d:Option Nat)(v:Value):(a.put d v).tmps.size=a.tmps.size:=by cases d<;>simp[Act.put]
def wE(a:Act)(d:Option Nat)(v:Value):(a.put d v).defers=a.defers:=by cases d<;>rfl
def jI{a:Act}(h:kM f a)(xs:Array Operand):Gm (wS f) xs a.eval:=by
 intro x _ v hv;cases x with
 |tmp t=>exact h t v hv
 |const u=>simpa[wS,Act.eval]using hv
 |global g=>simpa[wS,Act.eval]using hv
 |func g=>simpa[wS,Act.eval]using hv
def qy.put{a:Act}{w':World}{o:Oper}(s:qy n w0 f h a w)(hd:pC n o=true)(v:Value)(hs:ct w w')(hh:w'.heap=h'):qy n w0 (dW f o.dst v) h' (a.put o.dst v) w':=by refine⟨yj s.agree λk hk=> ?_,by rw[wE,s.defers],by rw[Au,s.size],s.same.trans hs,hh⟩;rw[s.size];simp only[pC,hk]at hd;exact Of hd
def iN{a:Act}(h:kM f a)(g:kR ops o f):Region.wanted o (yielded ops a.tmps)=true:=by
 unfold kR at g;unfold Region.wanted;split at g
 ·rename_i hg;simp[hg]
 ·rename_i j b hg;obtain⟨d,hb,hv⟩:=g;have:=h d _ hv;simp only[hg,yielded,hb,OX];cases ht:a.tmps[d]? with
  |none=>simp[ht,undef]at this
  |some u=>simp[ht]at this;subst this;simp
def mJ{a:Act}(h:kM f a)(g:vL ops o f):Region.wanted o (yielded ops a.tmps)=false:=by
 unfold vL at g;unfold Region.wanted;split at g
 ·exact g.elim
 ·rename_i j i hg;obtain⟨d,v,hb,hv,c⟩:=g;have:=h d _ hv;simp only[hg,yielded,hb,OX];cases ht:a.tmps[d]? with
  |none=>simp
  |some u=>
   simp[ht]at this;subst this;cases u<;>simp;rename_i b;intro e;exact c (by rw[e])
def fD.wpOp
  (H:fD P ops i κ f h) (s:qy n w0 f h a w) (hd: ∀o:Oper,ops[i]? =some o->pC n o=true)
  (hk: ∀f' h' a' w',qy n w0 f' h' a' w'->κ f' h'->κ' a' w'):wpOp P ops Q i κ' a w:=by
 obtain⟨o,ho,H⟩:=H;unfold Go.wpOp;simp only[ho];have b:=hd o ho;rcases H with⟨v,hl,_,hκ⟩|⟨_,hy,he⟩
 ·rcases hl with⟨hy,hv⟩|⟨hn,rfl⟩
  ·rw[MK (iN s.agree hy)];refine .inl ?_;unfold Oper.wp;rw[hv a.eval (jI s.agree _) w s.heap];exact hk _ _ _ _ (s.put b v (ct.refl w) s.heap) hκ
  ·rw[MG (by rw[mJ s.agree hn];simp)];exact hk _ _ _ _ (s.put b undef (ct.refl w) s.heap) hκ
 ·rw[MK (iN s.agree hy)];refine .inl ?_;unfold Oper.wp;have:=he a.eval (jI s.agree _) w s.heap;revert this;generalize (execOp a.eval o).run P w=r;intro this;unfold nG at this;split at this
  ·exact hk _ _ _ _ (s.put b _ this.1 rfl) this.2
  ·exact hk _ _ _ _ (s.put b _ this.1 rfl) this.2
  ·refine this.2.mono λe c hh=> ?_;obtain⟨v,rfl,hs,hK⟩:=hh;exact hk _ _ _ _ (s.put b v (this.1.trans hs) rfl) hK
  ·exact this.elim
structure xB(ops:Array Oper)(anc:Nat->Nat->Bool):Prop where
 up: ∀j o x,ops[j]? =some o->anc j x=true-> ∃e∈o.after,Region.binds .any e=true/\e.on<j/\(e.on=x\/anc e.on x=true)
 edge: ∀j o,ops[j]? =some o-> ∀e∈o.after,Region.binds .any e=true->e.on<j/\anc j e.on=true
abbrev ids(a:List (Nat×List Nat)):List Nat:=a.map (·.1)
structure lK(ops:Array Oper)(rem:List (Nat×List Nat))(listed:Array Bool):Prop where
 size:listed.size=ops.size
 mem: ∀i,i<ops.size->(listed.getD i true=false↔i∈ids rem)
 lt: ∀i∈ids rem,i<ops.size
def sK(ops:Array Oper)(a:List (Nat×List Nat)):Prop:= ∀j o,ops[j]? =some o->j∉ids a-> ∀e∈o.after,Region.binds .any e=true->e.on∉ids a
def lP{ops:Array Oper}(hA:xB ops b)(hD:sK ops a):
  ∀j,j<ops.size->j∉ids a-> ∀x,b j x=true->x∉ids a:=by
 intro j
 induction j using Nat.strongRecOn with
 |_ j ih=>
  intro hj hn x hx;obtain⟨o,ho⟩: ∃o,ops[j]? =some o:=⟨ops[j],by simp[hj]⟩;obtain⟨e,he,hb,d,hh⟩:=hA.up j o x ho hx;have c:=hD j o ho hn e he hb;rcases hh with rfl|hh
  ·exact c
  ·exact ih e.on d ah c x hh
def jS(hC:lK ops c a)(hi:i∈Region.ready .any ops a):
  i∈ids c/\ ∃o,ops[i]? =some o/\ ∀e∈o.after,Region.binds .any e=true->e.on∉ids c:=by
 obtain⟨h0,o,ho,d⟩:=mem_ready.1 hi;have f:i<ops.size:=(MR.1 ho).1;refine⟨(hC.mem i f).1 h0,o,ho,λe he hb b=> ?_⟩;have h1:=d e he hb;have h2:=(hC.mem e.on (hC.lt _ b)).2 b;have:e.on<a.size:=by rw[hC.size];exact hC.lt _ b
 simp[this]at h1 h2;rw[h1]at h2;simp at h2
abbrev dx(a:List (Nat×List Nat))(i:Nat):List (Nat×List Nat):=a.filter λz=> !(Nat.beq z.1 i)
def gn:k∈ids (dx a i)↔k∈ids a/\k≠i:=by
 simp only[MY,List.mem_filter];constructor
 ·rintro ⟨z,⟨hz,hb⟩,rfl⟩;refine⟨⟨z,hz,rfl⟩,λe=> ?_⟩;rw[e]at hb;simp at hb
 ·rintro ⟨⟨z,hz,rfl⟩,hne⟩;refine⟨z,⟨hz,?_⟩,rfl⟩;cases hb:Nat.beq z.1 i with
  |false=>rfl
  |true=>exact Nc (Nn hb) hne
def lK.drop{a:Array Bool}(hC:lK ops b a)(i:Nat)(hi:i∈ids b):lK ops (dx b i) (a.setIfInBounds i true):=by
 refine⟨by simp[hC.size],λk hk=> ?_,λk hk=>hC.lt k (gn.1 hk).1⟩;rw[gn];by_cases e:k=i
 ·subst e;have:k<a.size:=by rw[hC.size];exact hk
  simp[this]
 ·rw[getD_set_ne true (Ne.symm e),hC.mem k hk];simp[e]
def sK.drop(hD:sK ops c)(hr: ∃o,ops[i]? =some o/\ ∀e∈o.after,Region.binds .any e=true->e.on∉ids c):sK ops (dx c i):=by
 intro j o ho hj e he hb a;rw[gn]at a;by_cases hji:j=i
 ·subst hji;obtain⟨o',b,d⟩:=hr;rw[ho]at b;simp only[Ny]at b;subst b;exact d e he hb a.1
 ·exact hD j o ho (λh=>hj (gn.2 ⟨h,hji⟩)) e he hb a.1
def FE(ops:Array Oper)(b:Nat->Nat->Bool)(a:List (Nat×List Nat)):Prop:=
 a.Pairwise λx y=>cG ops x.1=true->cG ops y.1=true->b y.1 x.1=true
abbrev jQ(a:List (Nat×List Nat))(i:Nat):List (Nat×List Nat):=a.takeWhile λz=> !(Nat.beq z.1 i)
def LC(ops:Array Oper)(c:Nat->Nat->Bool)(A:List (List (Nat×List Nat))):Prop:=
 ∀b∈A,∀i∈ids b,cG ops i=true->(∀x∈b,cG ops x.1=true->c i x.1=false)-> ∃a∈A,(∀x∈jQ a i,cG ops x.1=false)/\FE ops c (dx a i)
def tQ(h:b.Pairwise R)(hm:(i,ji)∈b): ∀x∈jQ b i,R x (i,ji):=by
 intro x hx;have a:=List.takeWhile_append_dropWhile (p:=λz:Nat×List Nat=> !(Nat.beq z.1 i)) (l:=b);rw[<-a,List.pairwise_append]at h;refine h.2.2 x hx (i,ji) ?_;rw[<-a]at hm;rcases Zq hm with hm|hm
 ·exfalso;revert hm;generalize b=l;intro hm
  induction l with
  |nil=>simp at hm
  |cons z l ih=>
   simp only[List.takeWhile_cons]at hm;split at hm
   ·rename_i hz;rcases List.mem_cons.1 hm with rfl|hm
    ·simp at hz
    ·exact ih hm
   ·simp at hm
 ·exact hm
def xY(h:FE ops c b):LC ops c [b]:=by
 intro r hr i hi he a;simp only[MH]at hr;subst hr;obtain⟨⟨i',ji⟩,hm,rfl⟩:=MY.1 hi;refine⟨r,ak,λx hx=> ?_,h.sublist NZ⟩;cases hb:cG ops x.1 with
 |false=>rfl
 |true=>
  have:=tQ h hm x hx hb he;have d:x∈r:=(List.takeWhile_sublist _).subset hx;rw[a x d hb]at this;simp at this
def ju.uniq{w:World}(ha:kM f a)(hw:w.heap=h)(h1:ju P ops o f h u)(h2:ju P ops o f h v):u=v:=by
 rcases h1 with⟨y1,v1⟩|⟨n1,rfl⟩<;>rcases h2 with⟨y2,v2⟩|⟨n2,rfl⟩
 ·have e1:=v1 a.eval (jI ha _) w hw;have e2:=v2 a.eval (jI ha _) w hw;rw[e1]at e2;simpa using e2
 ·have:=iN ha y1;rw[mJ ha n2]at this;simp at this
 ·have:=iN ha y2;rw[mJ ha n1]at this;simp at this
 ·rfl
def gk{a:List (Nat×List Nat)}(hi:i∈ids a):(dx a i).length<a.length:=by obtain⟨z,hz,rfl⟩:=MY.1 hi;refine List.length_filter_lt_length_iff_exists.2 ⟨z,hz,?_⟩;simp
def uS(hk:k≠i): ∀{a:List (Nat×List Nat)} {x:Nat×List Nat},x∈jQ (dx a k) i->x∈jQ a i:=by
 intro a
 induction a with
 |nil=>intro x hx;simp at hx
 |cons y l ih=>
  intro x hx;simp only[Po]at hx;simp only[List.takeWhile_cons];cases hq:Nat.beq y.1 k with
  |false=>
   simp only[hq,Nx,PC,List.takeWhile_cons]at hx;split
   ·rename_i hp;simp only[hp,PC,List.mem_cons]at hx;rcases hx with rfl|hx
    ·simp
    ·exact Nh _ (ih hx)
   ·rename_i hp;simp[hp]at hx
  |true=>
   simp only[hq,Ng,Nj,NI]at hx;have c:=Nn hq
   have b:Nat.beq y.1 i=false:=by
    cases hb:Nat.beq y.1 i with
    |false=>rfl
    |true=>exact Nc (c.symm.trans (Nn hb)) hk
   rw[MK (by simp[b])];exact Nh _ (ih hx)
def xS(a:List (Nat×List Nat))(i k:Nat):dx (dx a i) k=dx (dx a k) i:=by
 simp only[List.filter_filter]
 congr 1
 funext z;exact Bool.and_comm _ _
def Lh(hA:xB ops I)
  (hd: ∀(i:Nat) (o:Oper),ops[i]? =some o->pC n o=true) (hK: ∀f h a w,qy n w0 f h a w->K f h->Q .normal a w):
  ∀(C:Nat) (A:List (List (Nat×List Nat))) (c:Array Bool) (f:FF) (h:aI) (a:Act) (w:World),
   A≠[]->(∀b∈A,nM ops I b/\lK ops b c/\sK ops b/\b.length<=C/\SA P ops K b f h)->LC ops I A->
   qy n w0 f h a w->wpAny P .any ops Q C c a w:=by
 have U: ∀(A:List (List (Nat×List Nat))) (c:Array Bool) (f:FF) (h:aI) (a:Act) (w:World),A≠[]->
   (∀b∈A,nM ops I b/\lK ops b c/\sK ops b/\SA P ops K b f h)->qy n w0 f h a w->Region.ready .any ops c=[]->Q .normal a w:=by
  intro A c f h a w B m hs hr;obtain⟨b,d⟩:=Oe A B;obtain⟨g,hC,hD,t⟩:=m b d;cases b with
  |nil=>exact hK f h a w hs t
  |cons x rest=>
   exfalso;have hx:x.1∈ids (x::rest):=ak;have S:=hC.lt _ hx
   have:x.1∈Region.ready .any ops c:=by
    rw[mem_ready];refine⟨(hC.mem _ S).2 hx,ops[x.1],by simp[S],λe he hb=> ?_⟩;have b5:=hA.edge x.1 ops[x.1] (by simp[S]) e he hb
    have b2:e.on∉ids (x::rest):=by
     intro hm;simp only[Nk,List.mem_cons,MY]at hm;rcases hm with hm|⟨y,hy,hm⟩
     ·omega
     ·have:=(Oj.1 g.lin).1 y hy;rw[hm,b5.2]at this;simp at this
    have h1: ¬c.getD e.on true=false:=λhh=>b2 ((hC.mem e.on ah).1 hh);have h2:e.on<c.size:=by rw[hC.size];omega
    simp[h2]at h1 ⊢;exact h1
   rw[hr]at this;simp at this
 intro C
 induction C with
 |zero=>
  intro A c f h a w B m L hs
  have hr:Region.ready .any ops c=[]:=by
   obtain⟨b,d⟩:=Oe A B;obtain⟨g,hC,hD,hl,t⟩:=m b d;have h0:b=[]:=Nv ah;cases hr:Region.ready .any ops c with
   |nil=>rfl
   |cons i l=>
    have:=(jS hC (i:=i) (by rw[hr];simp)).1;rw[h0]at this;simp at this
  exact⟨hr,U A c f h a w B (λb d=>by obtain⟨g,hC,hD,_,t⟩:=m b d;exact⟨g,hC,hD,t⟩) hs hr⟩
 |succ C ih=>
  intro A c f h a w B m L hs;refine⟨λhr=>U A c f h a w B (λb d=>by obtain⟨g,hC,hD,_,t⟩:=m b d;exact⟨g,hC,hD,t⟩) hs hr,λi hi=> ?_⟩
  have q: ∀b∈A,i∈ids b/\(∃o,ops[i]? =some o/\ ∀e∈o.after,Region.binds .any e=true->e.on∉ids b)/\(∀x∈b,I i x.1=false):=by
   intro b d;obtain⟨g,hC,hD,hl,t⟩:=m b d;obtain⟨hm,o,ho,R⟩:=jS hC hi;refine⟨hm,⟨o,ho,R⟩,λx hx=> ?_⟩;cases hb:I i x.1 with
   |false=>rfl
   |true=>
    exfalso;obtain⟨e,he,a7,S,hh⟩:=hA.up i o x.1 ho hb;have W:=R e he a7;have b9:i<ops.size:=(MR.1 ho).1;have a5:x.1∈ids b:=MY.2 ⟨x,hx,rfl⟩;rcases hh with hh|hh
    ·rw[hh]at W;exact W a5
    ·exact lP hA hD e.on ah W x.1 hh a5
  have step: ∀b∈A,(cG ops i=true-> ∀x∈jQ b i,cG ops x.1=false)->
    fD P ops i (λf' h'=>SA P ops K (dx b i) f' h') f h:=by
   intro b d a2;obtain⟨g,hC,hD,hl,t⟩:=m b d;obtain⟨hm,hr,N⟩:=q b d;obtain⟨⟨i',ji⟩,hm',rfl⟩:=MY.1 hm;refine(HI b f h g hm' N a2 (λj hj b1 x hx=> ?_) t).mono λf' h' hh=>hh.2;cases hb:I j x.1 with
   |false=>rfl
   |true=>
    exfalso;obtain⟨o,ho,_⟩:=g.self _ hm' j hj;have b4:j<ops.size:=(MR.1 ho).1;exact lP hA hD j b4 b1 x.1 hb (MY.2 ⟨x,hx,rfl⟩)
  cases he:cG ops i with
  |true=>
   obtain⟨D,z⟩:=Oe A B;obtain⟨G,F,O,a0⟩:=L D z i (q D z).1 he (λx hx _=>(q D z).2.2 x hx);obtain⟨g,hC,hD,hl,t⟩:=m G F;obtain⟨hm,hr,N⟩:=q G F;refine(step G F λ_=>O).wpOp hs (λo ho=>hd i o ho) λf' h' a' w' a1 hk=> ?_;refine ih [dx G i] (c.setIfInBounds i true) f' h' a' w' ak ?_ (xY a0) a1;intro b d;simp only[MH]at d;subst d;exact⟨g.sub NZ,hC.drop i hm,hD.drop hr,by have:=gk hm;omega,hk⟩
  |false=>
   obtain⟨D,z⟩:=Oe A B;obtain⟨o,ho,H⟩:=step D z (λe=>by rw[he]at e;simp at e);have M:pP o.op=false:=by simpa[cG,ho]using he
   have H: ∃v,ju P ops o f h v:=by
    rcases H with⟨v,h1,_,_⟩|⟨h1,_⟩
    ·exact⟨v,h1⟩
    ·rw[M]at h1;simp at h1
   obtain⟨v,hv⟩:=H
   have a6:fD P ops i (λf' h'=> ∀b∈A,SA P ops K (dx b i) f' h') f h:=by
    refine⟨o,ho,.inl ⟨v,hv,λe=>by rw[M]at e;simp at e,λb d=> ?_⟩⟩;obtain⟨o',Z,H⟩:=step b d (λe=>by rw[he]at e;simp at e);rw[ho]at Z;simp only[Ny]at Z;subst Z;rcases H with⟨u,h1,_,h3⟩|⟨h1,_⟩
    ·rw[ju.uniq hs.agree hs.heap hv h1];exact h3
    ·rw[M]at h1;simp at h1
   refine a6.wpOp hs (λo ho=>hd i o ho) λf' h' a' w' a1 hk=> ?_;refine ih (A.map λb=>dx b i) (c.setIfInBounds i true) f' h' a' w' (by simpa using B) ?_ ?_ a1
   ·intro a4 J;obtain⟨b,d,rfl⟩:=MY.1 J;obtain⟨g,hC,hD,hl,t⟩:=m b d;obtain⟨hm,hr,N⟩:=q b d;exact⟨g.sub NZ,hC.drop i hm,hD.drop hr,by have:=gk hm;omega,hk b d⟩
   ·intro a4 J k b0 Y b8;obtain⟨b,d,rfl⟩:=MY.1 J;have b3:k≠i:=λe=>by rw[e,he]at Y;simp at Y
    obtain⟨g,hC,hD,hl,t⟩:=m b d
    obtain⟨G,F,O,a0⟩:=L b d k (gn.1 b0).1 Y (λx hx V=>by
     have b7:x.1≠i:=λe=>by rw[e,he]at V;simp at V
     obtain⟨y,hy,a3⟩:=MY.1 (gn.2 ⟨MY.2 ⟨x,hx,rfl⟩,b7⟩);have b6:cG ops y.1=true:=by rw[a3];exact V
     have:=b8 y hy b6;rw[a3]at this;exact this)
    refine⟨dx G i,MY.2 ⟨G,F,rfl⟩,λx hx=>O x (uS (Ne.symm b3) hx),?_⟩;rw[xS];exact a0.sublist NZ
abbrev kT:=List (Nat×List Nat)
def oY: ∀a:kT,ll ops a++iW ops a=a
 | []=>rfl
 |x::l=>by
  unfold ll iW;cases KT ops x.1 with
  |true=>rfl
  |false=>simp[oY l]
def sD: ∀(a:kT),∀x∈ll ops a,cG ops x.1=false
 | [],x,hx=>by simp[ll]at hx
 |y::l,x,hx=>by
  unfold ll at hx;cases he:KT ops y.1 with
  |true=>rw[he]at hx;simp at hx
  |false=>
   rw[he]at hx;rcases List.mem_cons.1 hx with rfl|hx
   ·exact he
   ·exact sD l x hx
def pX: ∀{l:kT},yB i l=true↔i∈ids l
 | []=>by simp[yB]
 |x::l=>by
  unfold yB;cases hb:Nat.beq x.1 i with
  |true=>
   have:=Nn hb;simp[this]
  |false=>
   have a:i≠x.1:=λe=>by rw[e]at hb;simp at hb
   simp only[pX (l:=l),Nk,List.mem_cons];exact⟨.inr,λh=>h.resolve_left a⟩
def jJ: ∀{B:List kT},(i,js)∈jh B-> ∃r,((i,js)::r)∈B
 | [],h=>by simp[jh]at h
 | []::A,h=>by obtain⟨r,hr⟩:=jJ (B:=A) h;exact⟨r,Nh _ hr⟩
 |(x::l)::A,h=>by
  unfold jh at h;dsimp only at h;split at h
  ·obtain⟨r,hr⟩:=jJ (B:=A) h;exact⟨r,Nh _ hr⟩
  ·rcases List.mem_cons.1 h with e|h
   ·exact⟨l,by rw[e];simp⟩
   ·obtain⟨r,hr⟩:=jJ (B:=A) h;exact⟨r,Nh _ hr⟩
def ou: ∀{B:List kT},l∈qH i B-> ∃js,((i,js)::l)∈B
 | [],h=>by simp[qH]at h
 | []::A,h=>by obtain⟨r,hr⟩:=ou (B:=A) h;exact⟨r,Nh _ hr⟩
 |(x::r)::A,h=>by
  unfold qH at h;cases hb:Nat.beq x.1 i with
  |true=>
   rw[hb]at h;have:=Nn hb;rcases List.mem_cons.1 h with e|h
   ·exact⟨x.2,by rw[e,<-this];simp⟩
   ·obtain⟨js,hr⟩:=ou (B:=A) h;exact⟨js,Nh _ hr⟩
  |false=>
   rw[hb]at h;obtain⟨js,hr⟩:=ou (B:=A) h;exact⟨js,Nh _ hr⟩
def lZ: ∀{B:List kT},qH i B≠[]->i∈ids (jh B)
 | [],h=>Nc rfl h
 | []::A,h=>by unfold jh;exact lZ (B:=A) h
 |(x::r)::A,h=>by
  unfold jh;dsimp only;cases hb:Nat.beq x.1 i with
  |true=>
   have e:=Nn hb;split
   ·rename_i hh;rw[e]at hh;exact pX.1 hh
   ·simp[e]
  |false=>
   unfold qH at h;rw[hb]at h;have:=lZ (B:=A) h;split
   ·exact this
   ·simp only[Nk,List.mem_cons];exact .inr this
def J8(P:Program)(ops:Array Oper)(K:FF->aI->Prop)(a:List kT->FF->aI->Prop)(B:List kT)(f:FF)(h:aI):Prop:=
 match B with
 | []::_=>K f h
 |B=> ∀i js,(i,js)∈jh B->fD P ops i (λf' h'=>(∀j∈js,fH P ops f' h' j)/\a (qH i B) f' h') f h
def SG(P:Program)(ops:Array Oper)(K:FF->aI->Prop):Nat->List kT->FF->aI->Prop
 |0,_,_,_=>False
 |_+1,[],_,_=>False
 |n+1,a::A,f,h=>SA P ops (J8 P ops K (SG P ops K n) ((a::A).map (iW ops))) (ll ops a) f h
def LY(ops:Array Oper)(a:Nat->Nat->Bool)(c:List kT->Prop)(B:List kT):Prop:=
 (∀b∈B,b=[])\/((∀b∈B,∃x r,b=x::r/\cG ops x.1=true/\ ∀j∈x.2,j∉ids r)/\
  ∀b0∈B.head?,∀y∈ids b0,cG ops y=true->(∀x∈b0,cG ops x.1=true->a y x.1=false)->qH y B≠[]/\c (qH y B))
def Lk(ops:Array Oper)(c:Nat->Nat->Bool):Nat->List kT->Prop
 |0,_=>False
 |n+1,A=>A≠[]/\(∀a∈A,∀b∈A,ll ops a=ll ops b)/\LY ops c (Lk ops c n) (A.map (iW ops))
def SA.mono(hk: ∀f h,K f h->K' f h): ∀{l:kT} {f:FF} {h:aI},SA P ops K l f h->SA P ops K' l f h
 | [],_,_,H=>hk _ _ H
 |(_,_)::_,_,_,H=>fD.mono H λ_ _ hh=>⟨hh.1,SA.mono hk hh.2⟩
def mH: ∀{l m:kT} {f:FF} {h:aI},SA P ops (SA P ops K m) l f h->SA P ops K (l++m) f h
 | [],_,_,_,H=>H
 |(_,_)::_,_,_,_,H=>fD.mono H λ_ _ hh=>⟨hh.1,mH hh.2⟩
def kY(h:i∉ids l):dx l i=l:=by
 rw[NW];intro z hz;cases hb:Nat.beq z.1 i with
 |false=>rfl
 |true=>exact Nc (MY.2 ⟨z,hz,Nn hb⟩) h
def lW(l m:kT)(i:Nat):dx (l++m) i=dx l i++dx m i:=NX ..
def xA(l m:kT):ids (l++m)=ids l++ids m:=No
def Ke(hA:xB ops anc)
  (hd: ∀(i:Nat) (o:Oper),ops[i]? =some o->pC n o=true) (hK: ∀f h a w,qy n w0 f h a w->K f h->Q .normal a w):
  ∀(fuel d:Nat) (pre:kT) (B:List kT) (listed:Array Bool) (f:FF) (h:aI) (a:Act) (w:World),
   B≠[]->(∀x∈pre,cG ops x.1=false)->(∀b∈B,nM ops anc (pre++b)/\lK ops (pre++b) listed/\sK ops (pre++b)/\(pre++b).length<=fuel)->LY ops anc (Lk ops anc d) B->
   SA P ops (J8 P ops K (SG P ops K d) B) pre f h->qy n w0 f h a w->wpAny P .any ops Q fuel listed a w:=by
 have over: ∀(d:Nat) (pre:kT) (B:List kT) (listed:Array Bool) (f:FF) (h:aI) (a:Act) (w:World),B≠[]->
   (∀b∈B,nM ops anc (pre++b)/\lK ops (pre++b) listed/\sK ops (pre++b))->SA P ops (J8 P ops K (SG P ops K d) B) pre f h->qy n w0 f h a w->Region.ready .any ops listed=[]->Q .normal a w:=by
  intro d pre B listed f h a w hne hall hSA hs hr;obtain⟨b,B',rfl⟩: ∃b B',B=b::B':=by cases B with|nil=>exact Nc rfl hne|cons b B'=>exact⟨b,B',rfl⟩
  obtain⟨g,hC,hD⟩:=hall b ak;cases hrem:pre++b with
  |nil=>
   obtain⟨rfl,rfl⟩:=List.append_eq_nil_iff.1 hrem;exact hK f h a w hs hSA
  |cons x rest=>
   exfalso;rw[hrem]at g hC hD;have hx:x.1∈ids (x::rest):=ak;have hlt:=hC.lt _ hx
   have:x.1∈Region.ready .any ops listed:=by
    rw[mem_ready];refine⟨(hC.mem _ hlt).2 hx,ops[x.1],by simp[hlt],λe he hb=> ?_⟩;have hed:=hA.edge x.1 ops[x.1] (by simp[hlt]) e he hb
    have hnm:e.on∉ids (x::rest):=by
     intro hm;simp only[Nk,List.mem_cons,MY]at hm;rcases hm with hm|⟨y,hy,hm⟩
     ·omega
     ·have:=(Oj.1 g.lin).1 y hy;rw[hm,hed.2]at this;simp at this
    have h1: ¬listed.getD e.on true=false:=λhh=>hnm ((hC.mem e.on ah).1 hh);have h2:e.on<listed.size:=by rw[hC.size];omega
    simp[h2]at h1 ⊢;exact h1
   rw[hr]at this;simp at this
 intro fuel
 induction fuel with
 |zero=>
  intro d pre B listed f h a w hne hpre hall hok hSA hs
  have hr:Region.ready .any ops listed=[]:=by
   obtain⟨b,hb⟩:=Oe B hne;obtain⟨g,hC,hD,hl⟩:=hall b hb;have h0:pre++b=[]:=Nv ah;cases hr:Region.ready .any ops listed with
   |nil=>rfl
   |cons i l=>
    have:=(jS hC (i:=i) (by rw[hr];simp)).1;rw[h0]at this;simp at this
  exact⟨hr,over d pre B listed f h a w hne (λb hb=>by obtain⟨g,hC,hD,_⟩:=hall b hb;exact⟨g,hC,hD⟩) hSA hs hr⟩
 |succ fuel ih=>
  intro d pre B listed f h a w hne hpre hall hok hSA hs;refine⟨λhr=>over d pre B listed f h a w hne (λb hb=>by obtain⟨g,hC,hD,_⟩:=hall b hb;exact⟨g,hC,hD⟩) hSA hs hr,λi hi=> ?_⟩
  have pulled: ∀b∈B,i∈ids (pre++b)/\(∃o,ops[i]? =some o/\ ∀e∈o.after,Region.binds .any e=true->e.on∉ids (pre++b))/\(∀x∈pre++b,anc i x.1=false):=by
   intro b hb;obtain⟨g,hC,hD,hl⟩:=hall b hb;obtain⟨hm,o,ho,hall'⟩:=jS hC hi;refine⟨hm,⟨o,ho,hall'⟩,λx hx=> ?_⟩;cases hb:anc i x.1 with
   |false=>rfl
   |true=>
    exfalso;obtain⟨e,he,hbe,hlt,hh⟩:=hA.up i o x.1 ho hb;have hon:=hall' e he hbe;have hil:i<ops.size:=(MR.1 ho).1;have hxm:x.1∈ids (pre++b):=MY.2 ⟨x,hx,rfl⟩;rcases hh with hh|hh
    ·rw[hh]at hon;exact hon hxm
    ·exact lP hA hD e.on ah hon x.1 hh hxm
  obtain⟨b0,B',eB⟩: ∃b B',B=b::B':=by cases B with|nil=>exact Nc rfl hne|cons b B'=>exact⟨b,B',rfl⟩
  have hb0:b0∈B:=by rw[eB];simp
  cases he:cG ops i with
  |false=>
   have inpre: ∀b∈B,i∉ids b:=by
    intro b hb him;obtain⟨g,-⟩:=hall b hb;rcases hok with hok|⟨hok,-⟩
    ·rw[hok b hb]at him;simp at him
    ·obtain⟨x,r,rfl,hx,-⟩:=hok b hb;simp only[Nk,List.mem_cons]at him;rcases him with rfl|him
     ·rw[he]at hx;simp at hx
     ·obtain⟨y,hy,rfl⟩:=MY.1 him;have hp:=g.pair;rw[List.pairwise_append]at hp;have:=(Oj.1 hp.2.1).1 y hy;have ha:=(pulled _ hb).2.2 x ak;simp only[xx,ha,he,hx,OK,Bool.and_false,Qo,Ng]at this;cases this
   have him:i∈ids pre:=by have:=(pulled b0 hb0).1;rw[xA,List.mem_append]at this;exact this.resolve_right (inpre b0 hb0)
   obtain⟨⟨i',ji⟩,hm',rfl⟩:=MY.1 him;obtain⟨g,hC,hD,hl⟩:=hall b0 hb0;have hji:ji=[]:=g.empty (i',ji) (by simp[hm']) he;have step:=HI (K:=J8 P ops K (SG P ops K d) B) pre f h (g.sub (List.sublist_append_left _ _)) hm' (λx hx=>(pulled b0 hb0).2.2 x (by simp[hx])) (λe=>by rw[he]at e;simp at e) (by rw[hji];simp) hSA;refine step.wpOp hs (λo ho=>hd _ o ho) λf' h' a' w' hs' hk=> ?_;refine ih d (dx pre i') B _ f' h' a' w' hne (λx hx=>hpre x (List.mem_filter.1 hx).1) (λb hb=> ?_) hok hk.2 hs';obtain⟨g,hC,hD,hl⟩:=hall b hb;obtain⟨hm,hr,hanc⟩:=pulled b hb;have e:dx pre i'++b=dx (pre++b) i':=by rw[lW,kY (inpre b hb)]
   rw[e];exact⟨g.sub NZ,hC.drop _ hm,hD.drop hr,by have:=gk hm;dsimp only at this;omega⟩
  |true=>
   have nopre:i∉ids pre:=λhim=>by obtain⟨x,hx,rfl⟩:=MY.1 him;rw[hpre x hx]at he;simp at he
   have hib:i∈ids b0:=by have:=(pulled b0 hb0).1;rw[xA,List.mem_append]at this;exact this.resolve_left nopre
   rcases hok with hok|⟨hok1,hok2⟩
   ·rw[hok b0 hb0]at hib;simp at hib
   obtain⟨hg,hrec⟩:=hok2 b0 (by rw[eB];rfl) i hib he (λx hx _=>(pulled b0 hb0).2.2 x (by simp[hx]));obtain⟨⟨i',ji⟩,hh,e'⟩:=MY.1 (lZ hg);dsimp only at e';subst e';obtain⟨r,hr⟩:=jJ hh;obtain⟨g,hC,hD,hl⟩:=hall _ hr
   have hSA':SA P ops (SG P ops K d (qH i' B)) (pre++[(i',ji)]) f h:=by
    refine mH (SA.mono (λf h H=> ?_) hSA)
    have H': ∀i js,(i,js)∈jh B->fD P ops i (λf' h'=>(∀j∈js,fH P ops f' h' j)/\SG P ops K d (qH i B) f' h') f h:=by obtain⟨x,r',e,-⟩:=hok1 b0 hb0;subst eB e;exact H
    exact H' i' ji hh
   have sub:(pre++[(i',ji)]).Sublist (pre++((i',ji)::r)):=List.Sublist.append_left ak _;have hm':(i',ji)∈pre++[(i',ji)]:=ak;have step:=HI (K:=SG P ops K d (qH i' B)) (pre++[(i',ji)]) f h (g.sub sub) hm' (λx hx=>(pulled _ hr).2.2 x (sub.subset hx)) (λ_ x hx=> ?_) (λj hj hjn x hx=> ?_) hSA'
   ·refine step.wpOp hs (λo ho=>hd _ o ho) λf' h' a' w' hs' hk=> ?_
    have ep:(pre++[(i',ji)]).filter (λz=> !(Nat.beq z.1 i'))=pre:=by have:=lW pre [(i',ji)] i';rw[kY nopre]at this;simpa using this
    rw[ep]at hk;cases d with
    |zero=>exact hrec.elim
    |succ d=>
     obtain⟨-,hpe,hb⟩:=hrec;obtain⟨c0,C,eC⟩: ∃c C,qH i' B=c::C:=by cases hq:qH i' B with|nil=>exact Nc hq hg|cons c C=>exact⟨c,C,rfl⟩
     rw[eC]at hk hpe hb;refine ih d (pre++ll ops c0) ((c0::C).map (iW ops)) _ f' h' a' w' ak (λx hx=> ?_) (λb hb=> ?_) hb (mH hk.2) hs'
     ·rcases Zq hx with hx|hx
      ·exact hpre x hx
      ·exact sD _ x hx
     ·obtain⟨c,hc,rfl⟩:=MY.1 hb;rw[hpe c0 ak c hc,NR,oY];obtain⟨js,hjs⟩:=ou (i:=i') (l:=c) (B:=B) (by rw[eC];exact hc);obtain⟨g,hC,hD,hl⟩:=hall _ hjs;obtain⟨hm,hr',hanc⟩:=pulled _ hjs;have hnd:=g.nodup
      have e:pre++c=dx (pre++((i',js)::c)) i':=by
       rw[lW,kY nopre]
       congr 1
       rw[No,Nq]at hnd
       have:i'∉ids c:=by have:=hnd.2.1;simp only[Nk,Nt]at this;exact this.1
       have e2:dx ((i',js)::c) i'=dx c i':=ak;rw[e2];exact(kY this).symm
      rw[e];exact⟨g.sub NZ,hC.drop _ hm,hD.drop hr',by have:=gk hm;omega⟩
   ·have hx':x∈pre\/x=(i',ji):=by
     have:=(List.takeWhile_sublist _).subset hx;simpa using this
    rcases hx' with hx'|rfl
    ·exact hpre x hx'
    ·exfalso;have:=NE.1 List.all_takeWhile _ hx;simp at this
   ·cases hb:anc j x.1 with
    |false=>rfl
    |true=>
     exfalso;obtain⟨o,ho,_⟩:=g.self (i',ji) ak j hj;have hjl:j<ops.size:=(MR.1 ho).1
     have hjn':j∉ids (pre++((i',ji)::r)):=by
      obtain⟨x',r',e',-,hjr⟩:=hok1 _ hr;simp only[NL]at e';obtain⟨rfl,rfl⟩:=e';intro hm;have hm:j∈ids pre\/j=i'\/j∈ids r:=by simpa using hm
      have hjn: ¬(j∈ids pre\/j=i'):=by simpa using hjn
      rcases hm with hm|hm|hm
      ·exact hjn (.inl hm)
      ·exact hjn (.inr hm)
      ·exact hjr j hj hm
     exact lP hA hD j hjl hjn' x.1 hb (MY.2 ⟨x,sub.subset hx,rfl⟩)
def Jf{α:Type}(r:α->α->Bool):List α->Bool
 | []=>true
 |x::l=>l.all (r x)&&Jf r l
def xC{α:Type}{r:α->α->Bool}: ∀{l:List α},Jf r l=true->l.Pairwise λx y=>r x y=true:=by
 intro l
 induction l with
 |nil=>intro _;exact List.Pairwise.nil
 |cons x l ih=>
  intro h;simp only[Jf,Nm,NE]at h;exact List.Pairwise.cons h.1 (ih h.2)
def jw(A:List Nat)(j x:Nat):Bool:=(A.getD j 0).testBit x
def KH(ops:List Oper)(A:List Nat):Bool:=
 ops.zipIdx.all λ(o,j)=>Nat.blt (A.getD j 0) (2^j)&&
  o.after.toList.all (λe=> !Region.binds .any e||(Nat.blt e.on j&&jw A j e.on))&&
  (List.range j).all λx=> !jw A j x||o.after.toList.any λe=>Region.binds .any e&&(Nat.beq e.on x||jw A e.on x)
def xc(ops:Array Oper)(a:Nat->Nat->Bool)(x y:Nat×List Nat):Bool:=xx ops a x y&& !a x.1 y.1&& !Nat.beq x.1 y.1
def Fh(ops:Array Oper)(j:Nat):Bool:=match ops[j]? with|some o=>jZ ops o.dst o|none=>false
def Ge(ops:Array Oper)(b:Nat->Nat->Bool)(a:List (Nat×List Nat)):Bool:=
 Jf (xc ops b) a&&a.all (λx=>cG ops x.1||x.2.isEmpty)&&
 a.all (λy=>y.2.all λj=>Fh ops j&&a.all λx=>Nat.beq x.1 j||b j x.1||b x.1 y.1||pu ops j x.1)&&
 (List.range ops.size).all (λi=>(ids a).contains i)&&(ids a).all λi=>Nat.blt i ops.size
def JU(ops:Array Oper)(c:Nat->Nat->Bool)(A:List (List (Nat×List Nat))):Bool:=
 A.all λb=>b.all λi=> !cG ops i.1||b.any (λx=>cG ops x.1&&c i.1 x.1)||
  A.any λa=>(jQ a i.1).all (λx=> !cG ops x.1)&&Jf (λx y=> !cG ops x.1|| !cG ops y.1||c y.1 x.1) (dx a i.1)
def Ja(ops:Array Oper)(a:Nat->Nat->Bool)(c:List kT->Bool)(B:List kT):Bool:=
 B.all (·.isEmpty)||(B.all (λb=>match b with| []=>false|x::r=>cG ops x.1&&x.2.all λj=> !yB j r)&&
  (match B with| []=>true|b0::_=>b0.all λy=> !cG ops y.1||b0.any (λx=>cG ops x.1&&a y.1 x.1)||(!(qH y.1 B).isEmpty&&c (qH y.1 B))))
def Bw(ops:Array Oper)(c:Nat->Nat->Bool):Nat->List kT->Bool
 |0,_=>false
 |n+1,A=> !A.isEmpty&&(match A with| []=>true|a::_=>A.all λb=>decide (ll ops b=ll ops a))&&Ja ops c (Bw ops c n) (A.map (iW ops))
def vz(ops:Array Oper)(alts:List (List (Nat×List Nat))):Bool:=
 let A:=(Region.before ops).toList
 KH ops.toList A&& !alts.isEmpty&&alts.all (Ge ops (jw A))&&(match Nat.ble 5 alts.length with|true=>Bw ops (jw A) (ops.size+1) alts|false=>JU ops (jw A) alts)
def qL: ∀(n:Nat) (A:List kT),Bw ops f n A=true->Lk ops f n A
 |0,_,h=>by simp[Bw]at h
 |n+1,A,h=>by
  unfold Bw at h;simp only[Nm]at h;obtain⟨⟨h1,h2⟩,h3⟩:=h;refine⟨by intro e;subst e;simp at h1,?_,?_⟩
  ·cases A with
   |nil=>intro a ha;simp at ha
   |cons a0 A=>
    simp only[NE,Na]at h2;intro a ha b hb;rw[h2 a ha,h2 b hb]
  ·unfold Ja at h3;simp only[NO,Nm,NE]at h3;rcases h3 with h3|⟨h3,h4⟩
   ·exact .inl λb hb=>by simpa using h3 b hb
   ·refine .inr ⟨λb hb=> ?_,λb0 c y hy he d=> ?_⟩
    ·have:=h3 b hb;cases b with
     |nil=>simp at this
     |cons x r=>
      simp only[Nm,NE,NC]at this;refine⟨x,r,rfl,this.1,λj hj hm=> ?_⟩;have h5:=this.2 j hj;rw[pX.2 hm]at h5;simp at h5
    ·generalize hB:A.map (iW ops)=B at h4 c ⊢;cases B with
     |nil=>simp at c
     |cons b B=>
      simp only[List.head?_cons,Option.mem_some_iff]at c;subst c;simp only[NE,NO,NC,PW,Nm]at h4;obtain⟨z,hz,rfl⟩:=MY.1 hy;rcases h4 z hz with(h5|⟨x,hx,h5,h6⟩)|⟨h5,h6⟩
      ·rw[he]at h5;simp at h5
      ·rw[d x hx h5]at h6;simp at h6
      ·exact⟨by intro e;rw[e]at h5;simp at h5,qL n _ h6⟩
def uA{ops:Array Oper}(h:KH ops.toList A=true):xB ops (jw A):=by
 have key: ∀j o,ops[j]? =some o->A.getD j 0<2^j/\(∀e∈o.after,Region.binds .any e=true->e.on<j/\jw A j e.on=true)/\
   ∀x,x<j->jw A j x=true-> ∃e∈o.after,Region.binds .any e=true/\(e.on=x\/jw A e.on x=true):=by
  intro j o ho
  have:=NE.1 h (o,j) (by rw[Ni];exact⟨j,by simp[List.getElem?_zipIdx,ho]⟩)
  simp only[Nm,NE]at this;obtain⟨⟨h1,h2⟩,h3⟩:=this;refine⟨Of h1,λe he hb=> ?_,λx hx d=> ?_⟩
  ·have:=h2 e (by simpa using he);simp only[hb,Ng,OK,Nm]at this;exact⟨Of this.1,this.2⟩
  ·have:=h3 x (by simpa using hx);simp only[d,Ng,OK,PW,Nm,NO]at this;obtain⟨e,he,hb,hh⟩:=this;exact⟨e,by simpa using he,hb,hh.imp Nn id⟩
 refine⟨λj o x ho hx=> ?_,λj o ho e he hb=>(key j o ho).2.1 e he hb⟩;obtain⟨h1,h2,h3⟩:=key j o ho
 have c:x<j:=by
  rcases Nat.lt_or_ge x j with a|b
  ·exact a
  ·have hp:2^j<=2^x:=OG ah b;have:=Ou (i:=x) (x:=A.getD j 0) ah;unfold jw at hx;rw[this]at hx;simp at hx
 obtain⟨e,he,hb,hh⟩:=h3 x c hx;exact⟨e,he,hb,(h2 e he hb).1,hh⟩
def ug{ops:Array Oper}{f:Nat->Nat->Bool}{a:List (Nat×List Nat)}(h:Ge ops f a=true):
  nM ops f a/\lK ops a (Array.replicate ops.size false)/\sK ops a/\a.length<=ops.size:=by
 simp only[Ge,Nm,NE]at h;obtain⟨⟨⟨⟨h1,h2⟩,h3⟩,h4⟩,h5⟩:=h;have h1:=xC h1
 have c: ∀i,i<ops.size->i∈ids a:=λi hi=>by have:=h4 i (NA.2 hi);exact List.contains_iff_mem.1 this
 have d: ∀i∈ids a,i<ops.size:=λi hi=>Of (h5 i hi)
 have hnd:(ids a).Nodup:=by rw[List.nodup_iff_pairwise_ne,PN];refine h1.imp λ{x y} b e=> ?_;simp[xc,e]at b
 refine⟨⟨hnd,h1.imp λ{x y} b=> ?_,λx hx he=> ?_,λy hy j hj x hx g=> ?_,λy hy j hj=> ?_,h1.imp λ{x y} b=> ?_⟩,⟨ak,λi hi=> ?_,d⟩,λj o ho hj=> ?_,?_⟩
 ·simp only[xc,Nm]at b;exact b.1.1
 ·have:=h2 x hx;simpa[he]using this
 ·have:=(h3 y hy j hj).2 x hx;simp only[NO]at this;rcases this with((this|this)|this)|this
  ·exact Nc (Nn this) g
  ·exact .inl this
  ·exact .inr (.inl this)
  ·exact .inr (.inr this)
 ·have hs:=(h3 y hy j hj).1;unfold Fh at hs;split at hs
  ·rename_i o ho;exact⟨o,ho,hs⟩
  ·simp at hs
 ·simp only[xc,Nm,NC]at b;exact b.1.2
 ·simp[c i hi,hi]
 ·exact Nc (c j (MR.1 ho).1) hj
 ·have:(ids a).length<=(List.range ops.size).length:=hnd.length_le_of_subset λi hi=>by simpa using d i hi
  simpa using this
def zm{ops:Array Oper}{d:Nat->Nat->Bool}{A:List (List (Nat×List Nat))}(h:JU ops d A=true):LC ops d A:=by
 intro g a i hi he b;obtain⟨x,hx,rfl⟩:=MY.1 hi;have:=NE.1 (NE.1 h g a) x hx;simp only[he,Ng,OK,NO,PW,Nm]at this;rcases this with⟨y,hy,h1,h2⟩|⟨f,c,h1,h2⟩
 ·rw[b y hy h1]at h2;simp at h2
 ·refine⟨f,c,λy hy=> ?_,(xC h2).imp λ{x y} e hx hy=> ?_⟩
  ·have:=NE.1 h1 y hy;simpa using this
  ·simpa[hx,hy]using e
def md(hX:uM P X)
  (ho:ops[i]? =some o) (hk: ∀ρ h,K ρ h->κ (get ρ) h) (H:pO P X ops o ρ h K):fD P ops i κ (get ρ) h:=by
 have run: ∀ρ':Fr,get ρ'=get ρ->kR ops o (get ρ)->(Lx P X o ρ' h λv h'=>K (put ρ' o.dst v) h')->fD P ops i κ (get ρ) h:=by
  intro ρ' hρ hy H;unfold Lx at H;split at H
  ·rename_i he;refine⟨o,ho,.inr ⟨he,hy,?_⟩⟩;have:=wx hX H;rw[ta,hρ]at this;exact this.mono λv h' hh=>by have:=hk _ _ hh;rwa[oo,hρ]at this
  ·rename_i he;obtain⟨v,hv,hK⟩:=pV H;rw[ta,hρ]at hv;refine⟨o,ho,.inl ⟨v,.inl ⟨hy,hv⟩,λe=>by rw[he]at e;simp at e,?_⟩⟩;have:=hk _ _ hK;rwa[oo,hρ]at this
 have skip: ∀ρ':Fr,get ρ'=get ρ->vL ops o (get ρ)->K (put ρ' o.dst undef) h->fD P ops i κ (get ρ) h:=by intro ρ' hρ hn H;refine⟨o,ho,.inl ⟨undef,.inr ⟨hn,rfl⟩,λ_=>hn,?_⟩⟩;have:=hk _ _ H;rwa[oo,hρ]at this
 unfold pO Bu at H;split at H
 ·rename_i hg;exact run ρ rfl (by simp[kR,hg]) H
 ·rename_i j a hg;split at H
  ·exact H.elim
  ·rename_i d hd;split at H
   ·rename_i b hb;have hy:b=a->kR ops o (get ρ):=λe=>by subst e;simp only[kR,hg];exact⟨d,hd,hb⟩
    have hn:b≠a->vL ops o (get ρ):=λe=>by simp only[vL,hg];exact⟨d,_,hd,hb,λh=>e (by simpa using h)⟩
    split at H
    ·rcases eU H with⟨rfl,H⟩|⟨rfl,H⟩
     ·exact run _ (ot hb) (hy rfl) H
     ·exact skip _ (ot hb) (hn ak) H
    ·rcases eU H with⟨rfl,H⟩|⟨rfl,H⟩
     ·exact skip _ (ot hb) (hn ak) H
     ·exact run _ (ot hb) (hy rfl) H
   ·rename_i vs hb;exact skip ρ rfl (by simp only[vL,hg];exact⟨d,_,hd,hb,ak⟩) H
   ·exact H.elim
def rE: ∀{js:List Nat},fk P ops ρ h js K->(∀j∈js,fH P ops (get ρ) h j)/\K:=by
 intro js
 induction js with
 |nil=>intro H;exact⟨ak,H⟩
 |cons j js ih=>
  intro H;unfold fk at H;split at H
  ·exact H.elim
  rename_i o ho;split at H
  ·exact H.elim
  rename_i d hd;split at H
  ·exact H.elim
  rename_i v hv
  have f:kR ops o (get ρ)->(vg P o.op ρ h λv'=>v'=v/\fk P ops ρ h js K)->(∀k∈j::js,fH P ops (get ρ) h k)/\K:=by
   intro hy H;obtain⟨u,hu,rfl,hK⟩:=pV H;rw[ta]at hu;have:=ih hK;refine⟨λk hk=> ?_,this.2⟩;rcases List.mem_cons.1 hk with rfl|hk
   ·exact⟨o,d,u,ho,hd,hv,.inl ⟨hy,hu⟩⟩
   ·exact this.1 k hk
  have no:vL ops o (get ρ)->(v=undef/\fk P ops ρ h js K)->(∀k∈j::js,fH P ops (get ρ) h k)/\K:=by
   rintro hn ⟨rfl,hK⟩;have:=ih hK;refine⟨λk hk=> ?_,this.2⟩;rcases List.mem_cons.1 hk with rfl|hk
   ·exact⟨o,d,undef,ho,hd,hv,.inr ⟨hn,rfl⟩⟩
   ·exact this.1 k hk
  split at H
  ·rename_i hg;exact f (by simp[kR,hg]) H
  ·rename_i i a hg;split at H
   ·exact H.elim
   rename_i g c;split at H
   ·rename_i b hb;have hy:b=a->kR ops o (get ρ):=λe=>by subst e;simp only[kR,hg];exact⟨g,c,hb⟩
    have hn:b≠a->vL ops o (get ρ):=λe=>by simp only[vL,hg];exact⟨g,_,c,hb,λh=>e (by simpa using h)⟩
    split at H
    ·rcases eU H with⟨rfl,H⟩|⟨rfl,H⟩
     ·exact f (hy rfl) H
     ·exact no (hn ak) H
    ·rcases eU H with⟨rfl,H⟩|⟨rfl,H⟩
     ·exact no (hn ak) H
     ·exact f (hy rfl) H
   ·rename_i vs hb;exact no (by simp only[vL,hg];exact⟨g,_,c,hb,ak⟩) H
   ·exact H.elim
def wZ(hX:uM P X)(hk: ∀ρ h,K ρ h->κ (get ρ) h):
  ∀{a:List (Nat×List Nat)} {ρ:Fr} {h:aI},GP P X ops a ρ h K->SA P ops κ a (get ρ) h:=by
 intro a
 induction a with
 |nil=>intro ρ h H;exact hk _ _ H
 |cons x a ih=>
  intro ρ h H;obtain⟨i,js⟩:=x;unfold GP at H;split at H
  ·exact H.elim
  rename_i o ho
  exact md hX ho (λρ h hh=>by have:=rE hh;exact⟨this.1,ih this.2⟩) H
def Bn:
  ∀{alts:List (List (Nat×List Nat))},H9 P X ops alts ρ h K-> ∀c∈alts,GP P X ops c ρ h K:=by
 intro alts
 induction alts with
 |nil=>intro _ c ha;simp at ha
 |cons a l ih=>
  intro H c ha;cases l with
  |nil=>simp only[MH]at ha;subst ha;exact H
  |cons b l=>
   rcases List.mem_cons.1 ha with rfl|ha
   ·exact H.1
   ·exact ih H.2 c ha
def tL:
  ∀{l:kT},GZ P X ops a A l ρ h-> ∀i js,(i,js)∈l->(match ops[i]? with|none=>False|some o=>pO P X ops o ρ h λρ' h'=>fk P ops ρ' h' js (a (qH i A) ρ' h'))
 | [],_,i,js,hm=>by simp at hm
 | [x],H,i,js,hm=>by simp only[MH]at hm;subst hm;exact H
 |x::y::l,H,i,js,hm=>by
  rcases List.mem_cons.1 hm with e|hm
  ·subst e;exact H.1
  ·exact tL H.2 i js hm
def xq(hX:uM P X)(hk: ∀ρ h,K ρ h->κ (get ρ) h):
  ∀(n:Nat) (A:List kT) (ρ:Fr) (h:aI),KO P X ops K n A ρ h->SG P ops κ n A (get ρ) h
 |0,_,_,_,H=>H.elim
 |_+1,[],_,_,H=>H.elim
 |n+1,a::A,ρ,h,H=>by
  unfold KO at H;unfold SG;refine wZ hX (λρ h hh=> ?_) H;unfold J8;rw[Nk];generalize hp:iW ops a=p at hh;cases p with
  |nil=>exact hk _ _ hh
  |cons x r=>
   dsimp only at hh ⊢;intro i js hm;have:=tL hh i js (by rw[Nk,hp];exact hm);split at this
   ·exact this.elim
   ·rename_i o ho;refine md hX ho (λρ h hh=> ?_) this;have h2:=rE hh;refine⟨h2.1,?_⟩;have h3:=xq hX hk n _ _ _ h2.2;rw[Nk,hp]at h3;exact h3
def lift(n:Nat)(w0:World)(K:Exit->Fr->aI->Prop):Exit->Act->World->Prop:=λe a w=> ∃ρ h,qy n w0 (get ρ) h a w/\K e ρ h
def xu: ∀t v,get (cut L ρ) t=some v->get ρ t=some v:=by
 intro t v
 induction L with
 |nil=>intro h;simp[cut,get]at h
 |cons k L ih=>
  intro h;simp only[cut]at h;split at h
  ·rename_i u hu;simp only[get]at h;split at h
   ·rename_i hb;rw[<-Nn hb,<-h];exact hu
   ·exact ih h
  ·exact ih h
def qy.weaken(s:qy n w0 f h a w)(hg: ∀t v,g t=some v->f t=some v):qy n w0 g h a w:=
 ⟨λt v hv=>s.agree t v (hg t v hv),s.defers,s.size,s.same,s.heap⟩
def tM: ∀t v,get (CK q ρ) t=some v->get ρ t=some v:=by
 intro t v h;unfold CK at h;split at h
 ·exact xu t v h
 ·exact h
def eQ(T:bi)(n:Nat):Code->Bool
 | .region id ops draw=>ops.toList.all (pC n)&&(!draw||(match DF T.alts id with|some ls=>vz ops ls|none=>false))
 | .seq a b=>eQ T n a&&eQ T n b
 | .cond _ a b=>eQ T n a&&eQ T n b
 | .block _ c=>eQ T n c
 | .loop c=>eQ T n c
 |_=>true
def ul(ho:ops[i]? =some o)(rest:List Oper)(a:Act)(w:World):
  wpOp P ops Q i (wpList P ops Q rest) a w->wpList P ops Q (o::rest) a w:=by
 intro h;simp only[wpOp,ho]at h;exact h
def yw(hX:uM P X){ops:Array Oper}:
  ∀(l:List Oper) (ρ:Fr) (h:aI) (a:Act) (w:World),(∀o∈l,o∈ops.toList/\pC n o=true)->KP P X ops l ρ h (λρ' h'=>K .normal ρ' h')->qy n w0 (get ρ) h a w->
   wpList P ops (lift n w0 K) l a w:=by
 intro l
 induction l with
 |nil=>intro ρ h a w _ H s;exact wpList_nil ⟨ρ,h,s,H⟩
 |cons o rest ih=>
  intro ρ h a w hl H s;obtain⟨hm,hd⟩:=hl o ak;obtain⟨i,hi⟩:=Ni.1 hm;have hi:ops[i]? =some o:=by simpa using hi
  refine ul hi rest a w ?_
  have st:fD P ops i (λf h=> ∃ρ,get ρ=f/\KP P X ops rest ρ h (λρ' h'=>K .normal ρ' h')) (get ρ) h:=
   md hX hi (λρ h hh=>⟨ρ,rfl,hh⟩) H
  refine st.wpOp s (λo' b=>by rw[hi]at b;simp only[Ny]at b;subst b;exact hd) λf' h' a' w' s' ⟨ρ',hρ,hh⟩=> ?_;subst hρ;exact ih ρ' h' a' w' (λo ho=>hl o (by simp[ho])) hh s'
def E5{P:Program}(hS: ∀κ ρ h,S κ ρ h->κ ρ h)(hX:uM P X)(q:P.follows .mixedOrders=true):
  ∀(c:Code),eQ T n c=true-> ∀(K:Exit->Fr->aI->Prop) (ρ:Fr) (h:aI),E P X T S c K ρ h-> ∀(a:Act) (w w0:World),qy n w0 (get ρ) h a w->c.wp P (lift n w0 K) a w:=by
 intro c
 induction c with
 |skip=>intro _ K ρ h H a w w0 s;exact wp_skip ⟨ρ,h,s,H⟩
 |region id ops draw=>
  intro d K ρ h H a w w0 s;simp only[eQ,Nm,NE]at d;unfold E at H;split at H
  ·refine wp_region_list (yw hX ops.toList ρ h a w (λo ho=>⟨ho,d.1 o ho⟩) H s)
  ·split at H
   case h_2=>exact H.elim
   rename_i ls A;have u:vz ops ls=true:=by have:=d.2;simpa[A]using this
   simp only[vz,Nm,NC,NE]at u;obtain⟨⟨⟨h1,h2⟩,h3⟩,h4⟩:=u;refine wp_region_any q ?_;have s':qy n w0 (get ρ) h a {w with drawn:=w.drawn+1}:=⟨s.agree,s.defers,s.size,s.same,s.heap⟩;split at h4
   ·rename_i k;rw[k]at H;have ho:=qL _ _ h4;have hG:=xq hX (κ:=λf h=> ∃ρ,get ρ=f/\K .normal ρ h) (λρ h hh=>⟨ρ,rfl,hh⟩) _ _ _ _ H;obtain⟨z,B,C⟩:=ho;cases ls with
    |nil=>exact Nc rfl z
    |cons a0 ls=>
     refine Ke (K:=λf h=> ∃ρ,get ρ=f/\K .normal ρ h) (uA h1) (λi o ho=>d.1 o (by have:=Array.mem_of_getElem? ho;simpa using this))
      (λf h a w hs ⟨ρ,hρ,hK⟩=>⟨ρ,h,by rw[hρ];exact hs,hK⟩) ops.size ops.size (ll ops a0) ((a0::ls).map (iW ops)) _ (get ρ) h a _ ak (sD a0) (λb hb=> ?_) C hG s'
     obtain⟨c,hc,rfl⟩:=MY.1 hb;rw[B a0 ak c hc,oY];exact ug (h3 c hc)
   rename_i k;rw[k]at H
   refine Lh (K:=λf h=> ∃ρ,get ρ=f/\K .normal ρ h) (uA h1) (λi o ho=>d.1 o (by have:=Array.mem_of_getElem? ho;simpa using this))
    (λf h a w hs ⟨ρ,hρ,hK⟩=>⟨ρ,h,by rw[hρ];exact hs,hK⟩) ops.size ls _ (get ρ) h a _ (by intro e;rw[e]at h2;simp at h2) (λv j=> ?_) (zm h4) s'
   obtain⟨g,hC,hD,hl⟩:=ug (h3 v j);exact⟨g,hC,hD,hl,wZ hX (λρ h hh=>⟨ρ,rfl,hh⟩) (Bn H v j)⟩
 |seq x y ihx ihy=>
  intro d K ρ h H a w w0 s;simp only[eQ,Nm]at d;refine wp_seq (wp_mono (ihx d.1 _ ρ h H a w w0 s) λe a' w' hh=> ?_);obtain⟨ρ',h',s',hK⟩:=hh;cases e with
  |normal=>
   simp only[DZ]at hK;split at hK
   ·exact ihy d.2 K _ h' (hS _ _ _ hK) a' w' w0 (s'.weaken xu)
   ·exact ihy d.2 K _ h' hK a' w' w0 s'
  |_=>exact⟨ρ',h',s',hK⟩
 |cond c x y ihx ihy=>
  intro d K ρ h H a w w0 s;simp only[eQ,Nm]at d;unfold E at H;split at H
  case h_2=>exact H.elim
  rename_i t ht
  have hc:a.eval c= .bool t:=by rw[ta]at ht;exact jI s.agree #[c] c ak _ ht
  refine wp_cond hc ?_;rcases eU H with⟨rfl,H⟩|⟨rfl,H⟩
  ·exact ihx d.1 K ρ h H a w w0 s
  ·exact ihy d.2 K ρ h H a w w0 s
 |block id c ih=>
  intro d K ρ h H a w w0 s;refine wp_block (wp_mono (ih d _ ρ h H a w w0 s) λe a' w' hh=> ?_);obtain⟨ρ',h',s',hK⟩:=hh;cases e with
  |exit i=>
   simp only[Exit.inBlock];by_cases e:i=id
   ·subst e;simp only[pf,Nat.beq_refl]at hK;rw[MK rfl];exact⟨ρ',h',s',hK⟩
   ·have hb:Nat.beq i id=false:=by
     cases hb:Nat.beq i id with
     |false=>rfl
     |true=>exact Nc (Nn hb) e
    simp only[pf,hb]at hK;rw[MG e];exact⟨ρ',h',s',hK⟩
  |_=>exact⟨ρ',h',s',hK⟩
 |loop c ih=>
  intro d K ρ h H a w w0 s;obtain⟨m,H⟩:=H;refine wp_loop_rounds m ?_
  have key: ∀(m:Nat) (ρ:Fr) (h:aI) (a:Act) (w:World),rJ S (E P X T S c) (pn T c) K m ρ h->qy n w0 (get ρ) h a w->Code.rounds P c (lift n w0 K) m a w:=by
   intro m
   induction m with
   |zero=>intro ρ h a w H _;exact H.elim
   |succ m ihm=>
    intro ρ h a w H s;rw[rounds_succ];refine wp_mono (ih d _ ρ h H a w w0 s) λe a' w' hh=> ?_;obtain⟨ρ',h',s',hK⟩:=hh;cases e with
    |normal=>exact ihm _ h' a' w' (hS _ _ _ hK) (s'.weaken tM)
    |_=>exact⟨ρ',h',s',hK⟩
  exact key m _ h a w (hS _ _ _ H) (s.weaken tM)
 |exit id=>intro _ K ρ h H a w w0 s;exact wp_exit ⟨ρ,h,s,H⟩
 |ret=>intro _ K ρ h H a w w0 s;exact wp_ret ⟨ρ,h,s,H⟩
 |label l=>intro _ K ρ h H a w w0 s;exact wp_label ⟨ρ,h,s,H⟩
 |rangeFunc=>intro _ K ρ h H;exact H.elim
 |scope=>intro _ K ρ h H;exact H.elim
 |goto=>intro _ K ρ h H;exact H.elim
 |refuse=>intro _ K ρ h H;exact H.elim
def rv(a:Act):ResultVar->Sem Value
 | .tmp t=>pure (a.tmps.getD t undef)
 | .cell x t=>do loadVar t (<-asAddr (a.tmps.getD x undef))
def vl(fn:Func)(a:Act):results fn a.tmps=(do let vs <-fn.results.mapM (rv a);pure (if h:vs.size=1 then vs[0]else .tuple vs)):=by
 unfold results
 congr 1
def vo: ∀{rs:List ResultVar} {ρ:Fr} {h:aI} {κ:List Value->Prop},vm P rs ρ h κ->qy n w0 f h a w->get ρ=f->
  ∃vs,κ vs/\(rs.mapM (rv a)).run P w= .ok vs w:=by
 intro rs
 induction rs with
 |nil=>intro ρ h κ H s hρ;exact⟨[],H,ak⟩
 |cons r rs ih=>
  intro ρ h κ H s hρ;cases r with
  |tmp t=>
   obtain⟨v,hv,H⟩:=be H;obtain⟨vs,hK,hr⟩:=ih H s hρ;refine⟨v::vs,hK,?_⟩;have:=s.agree t v (by rw[<-hρ];exact hv);simp only[List.mapM_cons,rv,Sem.run_bind,Sem.run_pure,Result.andThen_ok,hr,this]
  |cell x t=>
   simp only[vm]at H;split at H
   case h_2=>exact H.elim
   rename_i p hp;obtain⟨v,e,c⟩:=nh H;obtain⟨vs,hK,hr⟩:=ih e s hρ;refine⟨v::vs,hK,?_⟩;have hx:=s.agree x _ (by rw[<-hρ];exact hp);have hl:=c w s.heap;cases p with
   |none=>simp[uT]at H;split at H<;>(try split at H)<;>(try split at H)<;>(try split at H)<;>(try split at H)<;>first|exact H.elim|skip
   |some b=>
    have d:(loadVar t b).run P w= .ok v w:=by simpa[Instr.loadAt,Instr.sureAddr]using hl
    have ha:(asAddr (.pointer (some b))).run P w= .ok b w:=rfl;simp only[List.mapM_cons,rv,Sem.run_bind,hx,ha,Result.andThen_ok,d,hr,Sem.run_pure]
def kB{P:Program}{fn:Func}{args:List Value}(hX:uM P X)(j:P.follows .mixedOrders=true)
  (hf:P.funcs[f]? =some fn) (hb:fn.body=some c) (k:eQ T fn.ntmps c=true) (g:Nat.ble args.length fn.ntmps=true)
  (H:E P X T S0 c (fin P fn.results.toList K) (jG 0 args) h):ib P f args h K:=by
 intro w hw;have g:=Of g;refine calls_of_wp hf hb ?_
 have n: ∀(l:List Value) (i:Nat) (t:Nat) (v:Value),get (jG i l) t=some v->i<=t/\l[t-i]? =some v:=by
  intro l
  induction l with
  |nil=>intro i t v h;simp[jG,get]at h
  |cons u l ih=>
   intro i t v h;simp only[jG,get]at h;split at h
   ·rename_i hb;have:=Nn hb;subst this;simp at h;subst h;simp
   ·rename_i hb;have:=ih (i+1) t v h;have e:t-i=(t-(i+1))+1:=ah;exact⟨ah,by rw[e];simpa using this.2⟩
 have s:qy fn.ntmps w (get (jG 0 args)) h {tmps:=args.toArray++Array.replicate (fn.ntmps-args.toArray.size) undef,defers:=[]} w:=by
  refine⟨λt v hv=> ?_,rfl,by simp;omega,ct.refl w,hw⟩;have:=(n args 0 t v hv).2
  have m:t<args.length:=by have:=MQ.1 this;simpa using this.1
  simp only[OE]at this
  have e:(args.toArray++Array.replicate (fn.ntmps-args.toArray.size) undef)[t]? =some v:=by rw[Array.getElem?_append_left (by simpa using m)];simpa using this
  have e2:args.toArray.size=args.length:=rfl;rw[e2]at e;simp[e]
 refine wp_mono (E5 (S:=S0) (λ_ _ _ h=>h) hX j c k _ _ h H _ w w s) λe a w' hh=> ?_;obtain⟨ρ,h',s',hK⟩:=hh
 have d: ∀{rs:List ResultVar},fn.results.toList=rs->vm P rs ρ h' (λvs=>(match vs with| [v]=>K v h'|vs=>K (.tuple vs.toArray) h'))->
   a.defers=[]/\ ∃v,(results fn a.tmps).run P w'= .ok v w'/\ ∃u,Ending.returned v= .returned u/\ct w w'/\K u w'.heap:=by
  rintro rs rfl hR;obtain⟨vs,b,hr⟩:=vo hR s' rfl;refine⟨s'.defers,(if hh:vs.toArray.size=1 then vs.toArray[0]else .tuple vs.toArray),?_,_,rfl,s'.same,?_⟩
  ·rw[vl,Array.mapM_eq_mapM_toList];simp only[Sem.run_bind,Sem.run_map,hr,Result.andThen_ok,Sem.run_pure]
  ·rw[s'.heap]
   match vs,b with
   | [],b=>exact b
   | [v],b=>exact b
   |u::v::r,b=>simpa using b
 cases e with
 |normal=>exact d rfl hK
 |ret=>exact d rfl hK
 |_=>exact hK.elim
def cE{P:Program}{fn:Func}{args:List Value}(hX:uM P X)(a:P.follows .mixedOrders=true)
  (hf:P.funcs[f]? =some fn) (hb:fn.body=some (fn.body.getD .skip)) (b:eQ ⟨[],[]⟩ fn.ntmps (fn.body.getD .skip)=true) (c:Nat.ble args.length fn.ntmps=true)
  (e:E P X ⟨[],[]⟩ S0 (fn.body.getD .skip) (fin P fn.results.toList K) (jG 0 args) h=W) (H:W):ib P f args h K:=
 kB (T:=⟨[],[]⟩) hX a hf hb b c (by rw[e];exact H)
noncomputable def gX(l:List Nat):List (Nat×cH):=List.rec (motive:=λ_=>List (Nat×cH)) [] (λa _ r=>(a,.go)::r) l
noncomputable def gB(P:Program):List Nat->Bool
 | []=>true
 |a::r=>(match P.funcs[a]? with|some f=> !(f.name== "runtime.NumGoroutine")&& !f.body.isNone|none=>false)&&gB P r
def FV: ∀l,gB P l=true->AA P (gX l)
 | [],_=>Ei
 |a::r,h=>by
  unfold gB at h;rw[Nm]at h;have h1:=h.1;split at h1
  ·rename_i f e;rw[Nm,NC,NC]at h1;exact i7 ⟨f,e,h1.1,h1.2⟩ (FV r h.2)
  ·exact Bool.noConfusion h1
noncomputable def X:List (Nat×cH):=(248,.load .u64)::(249,.cas .u64)::(250,.add .i64)::(337,.store)::gX [4,17,18,22,23,24,25,26,27,28,29,30,33,34,35,36,38,39,43,45,47,48,51,56,59,61,66,67,68,70,71,72,73,74,75,76,77,78,79,80,81,82,83,84,86,87,88,89,90,91,92,93,94,95,104,107,108,109,110,111,113,114,117,118,119,120,121,122,123,124,125,126,127,128,129,130,131,132,133,134,135,136,137,138,139,140,141,142,143,145,146,158,159,160,161,162,163,165,166,167,168,169,170,171,172,173,174,175,176,177,178,179,180,181,182,183,184,185,186,187,188,189,190,191,192,193,194,195,197,198,199,200,201,202,203,204,205,207,208,209,210,211,212,213,214,215,216,217,218,219,220,221,222,223,224,225,226,227,228,229,230,231,232,233,234,235,236,237,238,239,240,241,242,243,244,245,246,247,252,253,254,255,256,257,258,259,260,261,262,263,264,265,266,267,268,269,270,271,272,273,274,275,276,277,278,279,280,281,282,283,284,285,286,287,288,289,290,291,292,293,294,295,296,297,298,299,300,301,302,303,304,305,306,307,308,309,310,311,312,313,314,315,316,317,318,319,320,321,323,324,325,326,327,328,329,330,331,332,333,334,335,336,338,339,340,341,342,343,344,345,346,347,348,352,353,354,355,356,357,358,359,360,361,362,363,364,365,366,368,369,370,397,398,399,400]
def Lw:lE Tryz.prog 248 (.load .u64):=⟨Tryz.f248,Tryz.func248,by kernel_rfl,by kernel_rfl,by kernel_rfl,by kernel_rfl⟩
def LD:lE Tryz.prog 249 (.cas .u64):=⟨Tryz.f249,Tryz.func249,by kernel_rfl,by kernel_rfl,by kernel_rfl,by kernel_rfl⟩
def LO:lE Tryz.prog 250 (.add .i64):=⟨Tryz.f250,Tryz.func250,by kernel_rfl,by kernel_rfl,by kernel_rfl,by kernel_rfl⟩
def Ly:lE Tryz.prog 337 (.store):=⟨Tryz.f337,Tryz.func337,by kernel_rfl,by kernel_rfl,by kernel_rfl,by kernel_rfl⟩
def L0:uM Tryz.prog X:=wz (i7 Lw<|i7 LD<|i7 LO<|i7 Ly<|FV _ (by kernel_rfl))
def LV:Tryz.prog.follows .mixedOrders=true:=by kernel_rfl
abbrev Cl:=ib Tryz.prog
def Lq(n:Nat)(ns:List Nat)(ρ:Fr)(h:aI)(T:bi):Code->List Nat->XK->Prop
 | .loop c,[],K=>rJ S0 (E Tryz.prog X T S0 c) (pn T c) K n ρ h
 | .loop c,0::p,K=>match ns with
  |m::ns=>Lq n ns ρ h T c p (Bl S0 (pn T c) (rJ S0 (E Tryz.prog X T S0 c) (pn T c) K m) K)
  | []=>False
 | .seq a b,0::p,K=>Lq n ns ρ h T a p (DZ S0 (pn T b) (E Tryz.prog X T S0 b K) K)
 | .seq _ b,1::p,K=>Lq n ns ρ h T b p K
 | .cond _ a _,0::p,K=>Lq n ns ρ h T a p K
 | .cond _ _ b,1::p,K=>Lq n ns ρ h T b p K
 | .block i c,0::p,K=>Lq n ns ρ h T c p (pf i K)
 |_,_,_=>False
@[irreducible] def Lp (f:Func) (T:bi) (p:List Nat) (n:Nat) (ρ:Fr) (h:aI) (K:KK):Prop:=Lq n [] ρ h T (f.body.getD .skip) p (fin Tryz.prog f.results.toList K)
def cT{fn:Func}{args:List Value}(T:bi)(hf:Tryz.prog.funcs[f]? =some fn)(H:W)(hb:fn.body=some (fn.body.getD .skip):=by kernel_rfl)(a:eQ T fn.ntmps (fn.body.getD .skip)=true:=by kernel_rfl)(b:Nat.ble args.length fn.ntmps=true:=by kernel_rfl)(e:E Tryz.prog X T S0 (fn.body.getD .skip) (fin Tryz.prog fn.results.toList K) (jG 0 args) h=W:=by kernel_rfl):Cl f args h K:=
 kB (T:=T) L0 LV hf hb a b (by rw[e];exact H)
def cN{fn:Func}{args:List Value}(hf:Tryz.prog.funcs[f]? =some fn)(H:W)(hb:fn.body=some (fn.body.getD .skip):=by kernel_rfl)(a:eQ ⟨[],[]⟩ fn.ntmps (fn.body.getD .skip)=true:=by kernel_rfl)(b:Nat.ble args.length fn.ntmps=true:=by kernel_rfl)(e:E Tryz.prog X ⟨[],[]⟩ S0 (fn.body.getD .skip) (fin Tryz.prog fn.results.toList K) (jG 0 args) h=W:=by kernel_rfl):Cl f args h K:=cT ⟨[],[]⟩ hf H hb a b e
@[irreducible] def Lr (f:Func) (T:bi) (p ns:List Nat) (n:Nat) (ρ:Fr) (h:aI) (K:KK):Prop:=Lq n ns ρ h T (f.body.getD .skip) p (fin Tryz.prog f.results.toList K)
def F61.T:bi:=⟨[(5,[0,1])],[]⟩
section
variable (a b:Int)(h:aI)(K:KK)
def F61.wk5:Prop:=Cl 108 [ap a] h λa c=>a8 (some a) λa=>bf c (.cells #[ap b,aA a,.slice none 0 0,.slice none 0 0,aA none,.map none,aA none,aB] 185) λa b=>Cl 110 [ap 256] b λb c=>aQ .i64 (some b) λb=>Cl 89 [ap b] c λb c=>a8 (some b) λb=>Cl 109 [aA b,ap 0,ap 256] c λb c=> ∃d:az,∃e:Int,b=(.tuple #[aA d,ap e])/\aW c (((aw a).add 6).add 0) (aA d) λb=>Cl 111 [au (aw a),ap 32,.slice none 0 0] b λb c=>b=aE/\K (.tuple #[au (aw a),ap 0]) c
end
def F61.spec(H:aK (i<1) (K (.tuple #[aA none,ap 40]) h) (aK (i>8) (K (.tuple #[aA none,ap 40]) h) (aK (j<1) (K (.tuple #[aA none,ap 60]) h) (aK (j>32768) (K (.tuple #[aA none,ap 60]) h) (F61.wk5 i j h K))))):Cl 61 [ap i,ap j] h K:=cT F61.T Tryz.func61 H
def F74.spec(H:aK (i<=1) (K aC h) (Cl 117 [au a,aq i] h λa b=>a8 (some a) λa=>K (aD (!(Option.isNone a))) b)):Cl 74 [au a,aq i] h K:=cN Tryz.func74 H
def F117.spec{a:Addr}(H:aK (i<2) (K (aA none) h) (cx (rd h (a.add 2)) λ_ b _=>aK ((ax ((ax i)-2))>=(b:Int)) (K (aA none) h) (cx (rd h (a.add 2)) λb c _=>aY b λb=>0<=(IntKind.wrap .u32 (i-2))/\(IntKind.wrap .u32 (i-2))<(c:Int)/\bP (rd h ((b.add ((IntKind.wrap .u32 (i-2)).toNat*4)).add 0)) λb=>aK (!b) (K (aA none) h) (cx (rd h (a.add 2)) λa b _=>aY a λa=>0<=(IntKind.wrap .u32 (i-2))/\(IntKind.wrap .u32 (i-2))<(b:Int)/\K (au (a.add ((IntKind.wrap .u32 (i-2)).toNat*4))) h)))):Cl 117 [au a,aq i] h K:=cN Tryz.func117 H
def F71.spec{a:Addr}(H:aK (i<=1) (Cl 75 [au a] h λa b=>aQ .i64 (some a) λa=>K (ap a) b) (Cl 117 [au a,aq i] h λa b=>a8 (some a) λa=>aK (!(Option.isNone a)) (aY a λa=>aQ .i64 (rd b (a.add 1)) λa=>K (ap a) b) (K (ap (-1)) b))):Cl 71 [au a,aq i] h K:=cN Tryz.func71 H
def F72.spec{a:Addr}(H:Cl 117 [au a,aq i] h λb c=>a8 (some b) λb=>aK (!(Option.isNone b)) (aY b λa=>aQ .u32 (rd c (a.add 2)) λa=>K (aq a) c) (Cl 118 [au a,aq i] c λa b=>aQ .i64 (some a) λa=>K (aq (bo .and .u32 i (IntKind.wrap .u32 a))) b)):Cl 72 [au a,aq i] h K:=cN Tryz.func72 H
def F73.spec{a:Addr}(H:Cl 117 [au a,aq i] h λb c=>a8 (some b) λb=>aK (!(Option.isNone b)) (aY b λa=>aQ .u32 (rd c (a.add 3)) λa=>K (aq a) c) (Cl 118 [au a,aq i] c λa b=>aQ .i64 (some a) λa=>K (aq (bo .and .u32 i (IntKind.wrap .u32 a))) b)):Cl 73 [au a,aq i] h K:=cN Tryz.func73 H
def F199.T:bi:=⟨[(3,[0,1,6,14,15])],[]⟩
section
variable (n:Nat)(c:Addr)(d f b a:Int)(h:aI)(K:KK)
def F199.wL3:Prop:=Lp Tryz.f199 F199.T [1,1,0,1,0] n [(0,(au c)),(1,(ar d)),(6,(ap f)),(14,(ap b)),(15,(ap a))] h K
def F199.sL3:F199.wL3 (n+1) c d f b a h K=(aK (a<b) (Cl 246 [ar d,ap f] h λe g=>aQ .i64 (some e) λe=>f≠0/\a8 (rd g (c.add 4)) λi=>Cl 247 [aA i,ap (Int.tmod (ax (e+a)) f)] g λg i=>aQ .u64 (some g) λg=>aK (g==d) (bR (rd i (c.add 5)) λb=>dQ i b .i64 .i64 (Int.tmod (ax (e+a)) f) λa=>aQ .u32 (some (kS (aq 0) a)) λa=>K (.tuple #[aq a,aC]) i) (aK (g==0) (K (.tuple #[aq 0,aB]) i) (F199.wL3 n c d f b (ax (a+1)) i K))) (K (.tuple #[aq 0,aB]) h)):=by kernel_rfl
def F199.wk3:Prop:=(∃e,F199.wL3 e c d f b a h K)
def F199.spec(H:a8 (rd h (c.add 4)) λa=>Cl 200 [aA a] h λa b=>aQ .i64 (some a) λa=>F199.wk3 c d a a 0 b K):Cl 199 [au c,ar d] h K:=cT F199.T Tryz.func199 H
end
def F197.T:bi:=⟨[(3,[6,7]),(4,[6])],[]⟩
section
variable (n:Nat)(c:Addr)(d:Int)(a:az)(b:Value)(h:aI)(K:KK)
def F197.wL3:Prop:=Lp Tryz.f197 F197.T [1,1,0,1,0] n [(6,(aA a)),(7,b)] h K
def F197.wk4:Prop:=Cl 243 [aA a] h λb c=> ∃d:Int,∃e:Int,b=(.tuple #[ap d,ap e])/\Cl 244 [aA a] c λa b=>bP (some a) λa=>K (.tuple #[ap d,aD a]) b
def F197.sL3:F197.wL3 (n+1) a b h K=(eD Tryz.prog X b [] h λc d=>bP (some c) λc=>aK (!c) (F197.wL3 n a b d K) (F197.wk4 a d K)):=by kernel_rfl
def F197.wk3:Prop:=(∃c,F197.wL3 c a b h K)
def F197.spec(H:a8 (rd h (c.add 4)) λa=>Cl 241 [aA a,ar d] h λa b=>a8 (some a) λa=>F197.wk3 a (.func (.func 242) #[aA a] #[]) b K):Cl 197 [au c,ar d] h K:=cT F197.T Tryz.func197 H
end
def F160.spec(f:Addr)(g:Int)(a:Bool)(b c d:Int)(h:aI)(K:KK)(H:bf h (.cells #[aD a,ap b,aq c,aq d] 195) λa b=>aQ .i64 (rd b ((aw a).add 1)) λc=>aQ .u32 (rd b ((aw a).add 2)) λd=>aQ .u32 (rd b ((aw a).add 3)) λa=>Cl 198 [ap c,aq d,aq a] b λa b=>aQ .u64 (some a) λa=>Cl 197 [au f,ar a] b λa b=> ∃c:Int,∃d:Bool,a=(.tuple #[ap c,aD d])/\bR (rd b (f.add 5)) λa=>lg b a .i64 .i64 c (aq g) λa=>K aE a):Cl 160 [au f,aq g,.agg #[aD a,ap b,aq c,aq d]] h K:=cN Tryz.func160 H
def F111.T:bi:=⟨[(4,[0,6,29,30,31]),(8,[0,6]),(9,[0,6,42,43,44])],[]⟩
section
variable (n:Nat)(f:Addr)(v:Int)(u:az)(s t:Nat)(q:Option Nat)(i:az)(g o:Nat)(r j:Int)(c:az)(b d:Nat)(l a:Int)(h:aI)(K:KK)
def F111.wL9:Prop:=Lp Tryz.f111 F111.T [1,1,1,1,1,0] n [(0,(au f)),(6,(.map q)),(42,(.slice c b d)),(43,(ap l)),(44,(ap a))] h K
def F111.wL4:Prop:=Lp Tryz.f111 F111.T [1,1,1,0,1,0] n [(0,(au f)),(6,(.map q)),(29,(.slice i g o)),(30,(ap r)),(31,(ap j))] h K
def F111.sL9:F111.wL9 (n+1) f q c b d l a h K=(aK (a<l) (aY c λe=>0<=a/\a<(b:Int)/\bP (rd h ((e.add (a.toNat*4)).add 0)) λg=>aQ .i64 (rd h ((e.add (a.toNat*4)).add 1)) λi=>aQ .u32 (rd h ((e.add (a.toNat*4)).add 2)) λj=>aQ .u32 (rd h ((e.add (a.toNat*4)).add 3)) λe=>bf h (.cells #[aB,ap 0,aq 0,aq 0] 195) λk m=>aW m ((aw k).add 0) (aD g) λg=>aW g ((aw k).add 1) (ap i) λg=>aW g ((aw k).add 2) (aq j) λg=>aW g ((aw k).add 3) (aq e) λe=>dQ e q .u32 .u32 (IntKind.wrap .u32 (ax (a+2))) λg=>lV (some (kS (.agg #[]) g)) λi=>bf e (.cells #[] 218) λe j=>dp Tryz.prog 218 (some (aw e)) i j λe=>bP (rd e ((aw k).add 0)) λi=>aK i (aK (!(Option.isSome g)) (bP (rd e ((aw k).add 0)) λg=>aQ .i64 (rd e ((aw k).add 1)) λi=>aQ .u32 (rd e ((aw k).add 2)) λj=>aQ .u32 (rd e ((aw k).add 3)) λk=>Cl 160 [au f,aq (IntKind.wrap .u32 (ax (a+2))),.agg #[aD g,ap i,aq j,aq k]] e λe g=>e=aE/\F111.wL9 n f q c b d l (ax (a+1)) g K) (F111.wL9 n f q c b d l (ax (a+1)) e K)) (F111.wL9 n f q c b d l (ax (a+1)) e K)) (K aE h)):=by kernel_rfl
def F111.wk9:Prop:=(∃e,F111.wL9 e f q c b d l a h K)
def F111.wk8:Prop:=cx (rd h (f.add 2)) λa b c=>F111.wk9 f q a b c (b:Int) 0 h K
def F111.sL4:F111.wL4 (n+1) f q i g o r j h K=(aK (j<r) (aY i λa=>0<=j/\j<(g:Int)/\aQ .u32 (rd h (a.add (j.toNat*1))) λa=>lg h q .u32 .u32 a (.agg #[]) λa=>F111.wL4 n f q i g o r (ax (j+1)) a K) (F111.wk8 f q h K)):=by kernel_rfl
def F111.wk4:Prop:=(∃a,F111.wL4 a f q i g o r j h K)
def F111.spec(H:Cl 89 [ap v] h λa b=>a8 (some a) λa=>Cl 159 [aA a,ap 0,ap v] b λa b=> ∃c:az,∃d:Int,a=(.tuple #[aA c,ap d])/\aW b ((f.add 4).add 0) (aA c) λa=>bf a (.map #[] 0) λa b=>aW b ((f.add 5).add 0) (.map (some a)) λa=>bf a (.map #[] 0) λa b=>F111.wk4 f (some a) u s t (s:Int) 0 b K):Cl 111 [au f,ap v,.slice u s t] h K:=cT F111.T Tryz.func111 H
end
def F161.T:bi:=⟨[(9,[0,1,2,3]),(17,[0,1,2,3])],[(13,[[(0,[]),(2,[]),(3,[]),(4,[]),(5,[]),(1,[2,3,4,5]),(6,[])]]),(15,[[(0,[]),(4,[]),(5,[]),(6,[]),(7,[]),(1,[4,5,6,7]),(2,[]),(3,[]),(8,[2,3]),(9,[])]])]⟩
section
variable (a:Addr)(b c d:Int)(h:aI)(K:KK)
def F161.wk17:Prop:=Cl 201 [au a] h λe f=>aQ .u32 (some e) λe=>cx (rd f (a.add 2)) λg i _=>aY g λg=>0<=(IntKind.wrap .u32 (e-2))/\(IntKind.wrap .u32 (e-2))<(i:Int)/\aW f ((g.add ((IntKind.wrap .u32 (e-2)).toNat*4)).add 0) aC λf=>aW f ((g.add ((IntKind.wrap .u32 (e-2)).toNat*4)).add 1) (ap b) λb=>aW b ((g.add ((IntKind.wrap .u32 (e-2)).toNat*4)).add 2) (aq c) λb=>aW b ((g.add ((IntKind.wrap .u32 (e-2)).toNat*4)).add 3) (aq d) λb=>cx (rd b (a.add 2)) λc d _=>aY c λc=>0<=(IntKind.wrap .u32 (e-2))/\(IntKind.wrap .u32 (e-2))<(d:Int)/\bP (rd b ((c.add ((IntKind.wrap .u32 (e-2)).toNat*4)).add 0)) λd=>aQ .i64 (rd b ((c.add ((IntKind.wrap .u32 (e-2)).toNat*4)).add 1)) λf=>aQ .u32 (rd b ((c.add ((IntKind.wrap .u32 (e-2)).toNat*4)).add 2)) λg=>aQ .u32 (rd b ((c.add ((IntKind.wrap .u32 (e-2)).toNat*4)).add 3)) λc=>Cl 160 [au a,aq e,.agg #[aD d,ap f,aq g,aq c]] b λa b=>a=aE/\K (.tuple #[aq e,ap 0]) b
def F161.wk9:Prop:=Cl 198 [ap b,aq c,aq d] h λe f=>aQ .u64 (some e) λe=>Cl 199 [au a,ar e] f λe f=> ∃g:Int,∃i:Bool,e=(.tuple #[aq g,aD i])/\aK i (K (.tuple #[aq g,ap 0]) f) (aQ .i64 (rd f (a.add 0)) λe=>Cl 45 [au a] f λf g=>aQ .i64 (some f) λf=>aF (au a)/\aF (au a)/\aF (au (a.add 0))/\aQ .i64 (rd g (a.add 0)) λi=>aG (ap i) (ap e)/\aK (f>=e) (K (.tuple #[aq 0,ap 60]) g) (a8 (rd g (a.add 4)) λe=>Cl 45 [au a] g λf g=>aQ .i64 (some f) λf=>aF (au a)/\aF (au a)/\aF (au (a.add 4))/\a8 (rd g (a.add 4)) λi=>aG (aA i) (aA e)/\Cl 200 [aA e] g λe g=>aQ .i64 (some e) λe=>aF (ap (ax (f+1)))/\aF (ap (ax (2*(ax (f+1)))))/\aK ((ax (2*(ax (f+1))))>e) (a8 (rd g (a.add 4)) λe=>Cl 200 [aA e] g λe f=>aQ .i64 (some e) λe=>Cl 111 [au a,ap (ax (2*e)),.slice none 0 0] f λe f=>e=aE/\F161.wk17 a b c d f K) (F161.wk17 a b c d g K)))
end
def F161.spec(H:aK (i<0) (K (.tuple #[aq 0,ap 40]) h) (Cl 75 [au a] h λb c=>aQ .i64 (some b) λb=>aK (i>=b) (K (.tuple #[aq 0,ap 40]) c) (Cl 74 [au a,aq j] c λb c=>bP (some b) λb=>aK (!b) (K (.tuple #[aq 0,ap 101]) c) (Cl 74 [au a,aq k] c λb c=>bP (some b) λb=>aK (!b) (K (.tuple #[aq 0,ap 101]) c) (Cl 71 [au a,aq j] c λb c=>aQ .i64 (some b) λb=>aK (b<=i) (K (.tuple #[aq 0,ap 100]) c) (Cl 71 [au a,aq k] c λb c=>aQ .i64 (some b) λb=>aK (b<=i) (K (.tuple #[aq 0,ap 100]) c) (aK (j==k) (K (.tuple #[aq j,ap 0]) c) (F161.wk9 a i j k c K)))))))):Cl 161 [au a,ap i,aq j,aq k] h K:=cT F161.T Tryz.func161 H
def F45.T:bi:=⟨[],[(1,[[(0,[]),(1,[]),(2,[]),(3,[]),(4,[]),(5,[]),(6,[]),(7,[]),(8,[]),(9,[]),(10,[]),(11,[])]])]⟩
def F45.spec{a:Addr}(H:cx (rd h (a.add 2)) λ_ b _=>cx (rd h (a.add 3)) λ_ a _=>K (ap (ax ((b:Int)-(a:Int)))) h):Cl 45 [au a] h K:=cT F45.T Tryz.func45 H
def F201.spec{a:Addr}(H:cx (rd h (a.add 3)) λ_ b _=>aK ((b:Int)>(0:Int)) (cx (rd h (a.add 3)) λc d _=>aY c λc=>0<=(ax ((b:Int)-(1:Int)))/\(ax ((b:Int)-(1:Int)))<(d:Int)/\aQ .u32 (rd h (c.add ((ax ((b:Int)-(1:Int))).toNat*1))) λc=>cx (rd h (a.add 3)) λd _ e=>0<=(ax ((b:Int)-(1:Int)))/\(ax ((b:Int)-(1:Int)))<=(e:Int)/\aW h ((a.add 3).add 0) (.slice (if e=0 then d else Option.map (λa=>Addr.add a (0*1)) d) ((ax ((b:Int)-(1:Int))).toNat-0) (e-0)) λa=>K (aq c) a) (cx (rd h (a.add 2)) λb c d=>bf h (.cells #[aB,ap 0,aq 0,aq 0] 195) λe f=>fC f 195 4 24 #[aB,ap 0,aq 0,aq 0] b c d (some (aw e)) 1 λb c d e=>aW e ((a.add 2).add 0) (.slice b c d) λb=>cx (rd b (a.add 2)) λ_ a _=>K (aq (IntKind.wrap .u32 (ax ((ax ((a:Int)-(1:Int)))+2)))) b)):Cl 201 [au a] h K:=cN Tryz.func201 H
def F75.spec{a:Addr}(H:a8 (rd h (a.add 1)) λa=>Cl 119 [aA a] h λa b=>aQ .i64 (some a) λa=>K (ap a) b):Cl 75 [au a] h K:=cN Tryz.func75 H
def F47.spec{a:Addr}(H:a8 (rd h (a.add 1)) λa=>Cl 104 [aA a] h λa b=>a8 (some a) λa=>K (aA a) b):Cl 47 [au a] h K:=cN Tryz.func47 H
def F198.spec(H:Cl 245 [.int .u8 (IntKind.wrap .u8 i),aq j,aq k] h λa b=>aQ .u64 (some a) λa=>K (ar a) b):Cl 198 [ap i,aq j,aq k] h K:=cN Tryz.func198 H
def F118.spec(H:aK (i<=1) (K (ap 1) h) (K (ap 0) h)):Cl 118 [au a,aq i] h K:=cN Tryz.func118 H
def F246.spec(H:aK (j<1) (K (ap 0) h) (Cl 286 [ar i] h λa b=>aQ .u64 (some a) λa=>(IntKind.wrap .u64 j)≠0/\K (ap (ax (Int.tmod a (IntKind.wrap .u64 j)))) b)):Cl 246 [ar i,ap j] h K:=cN Tryz.func246 H
def F286.T:bi:=⟨[(2,[0,5,6]),(7,[0])],[]⟩
section
variable (n:Nat)(a b:Int)(h:aI)(K:KK)
def F286.wL2:Prop:=Lp Tryz.f286 F286.T [1,0,1,0] n [(0,(ar a)),(5,(.agg #[ar 18397679294719823053,ar 14181476777654086739])),(6,(ap b))] h K
def F286.wk7:Prop:=(0<=(33:Int)/\K (ar (bo .xor .u64 a (Int.fdiv a (2^(min (Int.toNat 33) (IntKind.bits .u64)))))) h)
def F286.sL2:F286.wL2 (n+1) a b h K=(aK (b<2) ((0<=b/\b<2/\aQ .u64 ([ar 18397679294719823053,ar 14181476777654086739]:List Value)[b.toNat]? (λc=>0<=(33:Int)/\F286.wL2 n (IntKind.wrap .u64 ((bo .xor .u64 a (Int.fdiv a (2^(min (Int.toNat 33) (IntKind.bits .u64)))))*c)) (ax (b+1)) h K))) (F286.wk7 a h K)):=by kernel_rfl
def F286.wk2:Prop:=(∃c,F286.wL2 c a b h K)
def F286.spec(H:F286.wk2 a 0 h K):Cl 286 [ar a] h K:=cT F286.T Tryz.func286 H
end
def F245.spec(H:(0<=(56:Int)/\0<=(28:Int)/\K (ar (bo .or .u64 (bo .or .u64 (IntKind.wrap .u64 ((IntKind.wrap .u64 i)*2^(min (Int.toNat 56) (IntKind.bits .u64)))) (IntKind.wrap .u64 ((IntKind.wrap .u64 (bo .and .u32 j 268435455))*2^(min (Int.toNat 28) (IntKind.bits .u64))))) (IntKind.wrap .u64 (bo .and .u32 k 268435455)))) h)):Cl 245 [.int .u8 i,aq j,aq k] h K:=cN Tryz.func245 H
def At(h:aI)(b:Nat)(c:List Value):Prop:= ∃e,h[b]? =some (.cells c.toArray e)
structure aM(S:List Nat)(h h':aI):Prop where
 size:h.size<=h'.size
 same: ∀b,b<h.size->b∉S->h'[b]? =h[b]?
 fzn: ∀a,fz h' a=fz h a
def At.lt{h:aI}(H:At h b c):b<h.size:=by obtain⟨e,H⟩:=H;exact(MR.1 H).1
def At.rd(H:At h b c)(i:Nat):rd h ⟨b,i,none⟩=c[i]? :=by obtain⟨e,H⟩:=H;simp[Ev.rd,H]
def At.fz(H:At h b c)(i:Nat)(s:Option Nat):fz h ⟨b,i,s⟩=false:=by obtain⟨e,H⟩:=H;simp[Ev.fz,H]
def At.only(H:At h b c)(O:aM S h h')(hb:b∉S):At h' b c:=by obtain⟨e,H⟩:=H;exact⟨e,(O.same b (MR.1 H).1 hb).trans H⟩
def aM.refl(S:List Nat)(h:aI):aM S h h:=⟨MN _,λ_ _ _=>rfl,λ_=>rfl⟩
def aM.trans{h:aI}(A:aM S h h')(B:aM T h' c)(hT: ∀b,b∈T->b<h.size->b∈S):aM S h c:=
 ⟨NK A.size B.size,λb hb hS=>(B.same b (Oh hb A.size) (λd=>hS (hT b d hb))).trans (A.same b hb hS),
  λa=>(B.fzn a).trans (A.fzn a)⟩
def aM.mono{h:aI}(A:aM S h h')(hS: ∀b,b∈S->b<h.size->b∈T):aM T h h':=
 aM.trans (aM.refl T h) A hS
def aM.push_cells(h:aI)(c:Array Value)(e:TypeId):aM [] h (h.push (.cells c e)):=by
 refine⟨ak,λb hb _=>by simp[Ob,Qx hb],λa=> ?_⟩;unfold fz;rw[Ob];by_cases ha:a.block=h.size
 ·rw[MK ha,ha];simp
 ·rw[MG ha]
def aM.push_map(h:aI)(es:Array MapEntry)(n:Nat):aM [] h (h.push (.map es n)):=by
 refine⟨ak,λb hb _=>by simp[Ob,Qx hb],λa=> ?_⟩;unfold fz;rw[Ob];by_cases ha:a.block=h.size
 ·rw[MK ha,ha];simp
 ·rw[MG ha]
def tt(h:aI)(a:Addr)(v:Value)(b:Nat)(hb:b≠a.block):(wr h a v)[b]? =h[b]? :=by unfold wr;rw[Pj,MG (λe=>hb e.symm)]
def aM.wr(h:aI)(a:Addr)(v:Value):aM [a.block] h (wr h a v):=by
 refine⟨by simp[Ev.wr],λb _ hS=>tt h a v b (by simpa using hS),λx=> ?_⟩;unfold Ev.fz;by_cases hx:x.block=a.block
 ·unfold Ev.wr;rw[Pj,MK hx.symm];cases hh:h[x.block]? with
  |none=>simp
  |some o=>cases o<;>simp
 ·rw[tt h a v x.block hx]
def At.wr{c:List Value}(H:At h b c)(i:Nat)(v:Value):At (wr h ⟨b,i,none⟩ v) b (c.set i v):=by obtain⟨e,H⟩:=H;refine⟨e,?_⟩;unfold Ev.wr;rw[Pj,MK rfl,H];simp
def At.push(h:aI)(c:Array Value)(e:TypeId):At (h.push (.cells c e)) h.size c.toList:=⟨e,ak⟩
@[simp] theorem aL (b o n:Nat):Addr.add ⟨b,o,none⟩ n=⟨b,o+n,none⟩:=by
 unfold Addr.add;split
 ·next h=>subst h;rfl
 ·rfl
def add_zero(a:Addr):Addr.add a 0=a:=by simp[Addr.add]
def aH(hx:x=some (.int k n))(hK:K n):aQ k x K:=⟨n,hx,hK⟩
def aZ(hx:x=some (.bool n))(hK:K n):bP x K:=⟨n,hx,hK⟩
def aR(hx:x=some (.pointer n))(hK:K n):a8 x K:=⟨n,hx,hK⟩
def bB(hx:x=some (.slice p l c))(hK:K p l c):cx x K:=⟨p,l,c,hx,hK⟩
@[simp] theorem bh   :aQ k (some (.int k n)) K↔K n:=
 ⟨λ⟨m,e,h⟩=>by injection e with e;injection e with _ e;exact e▸h,aH rfl⟩
@[simp] theorem bU  :bP (some (.bool n)) K↔K n:=
 ⟨λ⟨m,e,h⟩=>by injection e with e;injection e with e;exact e▸h,aZ rfl⟩
@[simp] theorem pK  :a8 (some (.pointer n)) K↔K n:=
 ⟨λ⟨m,e,h⟩=>by injection e with e;injection e with e;exact e▸h,aR rfl⟩
@[simp] theorem bK   :cx (some (.slice p l c)) K↔K p l c:=
 ⟨λ⟨_,_,_,e,h⟩=>by injection e with e;injection e with e1 e2 e3;subst e1;subst e2;subst e3;exact h,bB rfl⟩
@[simp] theorem gK  :bR (some (.map n)) K↔K n:=
 ⟨λ⟨m,e,h⟩=>by injection e with e;injection e with e;exact e▸h,λh=>⟨n,rfl,h⟩⟩
@[simp] theorem eH  :lV (some v) K↔K v:=
 ⟨λ⟨m,e,h⟩=>by injection e with e;exact e▸h,λh=>⟨v,rfl,h⟩⟩
@[simp] theorem aT  :aY (some a) K↔K a:=Iff.rfl
@[simp] theorem aO :aK true t f↔t:=Iff.rfl
@[simp] theorem aJ :aK false t f↔f:=Iff.rfl
def aS(ht:b=true->t)(hf:b=false->f):aK b t f:=by
 cases b with
 |true=>exact ht rfl
 |false=>exact hf rfl
def aU{h:aI}{c:List Value}{v:Value}(H:At h b c)(hi:i<c.length)(hv:v.oneCell'=true)
  (hK: ∀h',At h' b (c.set i v)->aM [b] h h'->h'.size=h.size->K h'):aW h ⟨b,i,none⟩ v K:=by
 unfold aW;rw[hv];refine⟨?_,H.fz i none,hK _ (H.wr i v) (aM.wr h ⟨b,i,none⟩ v) (by simp[Ev.wr])⟩;rw[H.rd];simp[hi]
def aX{h:aI}{c:Array Value}
  (hK: ∀h',At h' h.size c.toList->aM [] h h'->h'.size=h.size+1->K h.size h'):bf h (.cells c e) K:=
 hK _ (At.push h c e) (aM.push_cells h c e) ak
def ib.mono(H:ib P f args h K)(hK: ∀v h',K v h'->K' v h'):ib P f args h K':=
 λw hw=>(H w hw).mono λ_ _ ⟨v,e,s,k⟩=>⟨v,e,s,hK _ _ k⟩
def wrap_i64(h0: -9223372036854775808<=n)(h1:n<9223372036854775808):ax n=n:=by refine(IntKind.wrap_i64 n).trans ?_;omega
def bY(h0:0<=n)(h1:n<18446744073709551616):IntKind.wrap .u64 n=n:=by simp[IntKind.wrap,IntKind.bits,IntKind.signed];omega
def mE(n:Int):IntKind.wrap .u64 n=n%18446744073709551616:=by simp[IntKind.wrap,IntKind.bits,IntKind.signed]
def bu{first a:Array Value}(hx:bQ X g=some .go)
  (H:ib P g (first.toList++args++a.toList) h K):eD P X (.func (.func g) first a) args h K:=by
 unfold eD;simp only[hx];exact H
end Go.Proofs.YtnofenejoebkhaaGreat.Ev
