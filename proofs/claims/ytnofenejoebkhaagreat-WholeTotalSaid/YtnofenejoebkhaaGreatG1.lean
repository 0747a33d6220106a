/- PART 1 OF WHAT THE LAW WholeTotal STANDS ON. Conditions: none but those that each lemma states. -/
import Derived.Orders
import Derived.LoopN
import Derived.KernelRfl
import Derived.Laws.LoneSync
import Derived.Laws.MakeOwn
import Derived.Laws.AppendOwn
import Derived.Laws.Cells
import Derived.Laws.StructEq
import Derived.Maps.RangeRun
import Derived.Tactics
import Derived.ChangeKeysEq
import Derived.LaidEql
import Derived.Test.YtnofenejoebkhaaGreatProg
import Derived.Laws.OwnMore
namespace Go.Proofs.YtnofenejoebkhaaGreat.Ev
open Go
set_option linter.defProp false
set_option maxRecDepth 100000
set_option autoImplicit true
set_option relaxedAutoImplicit true
def Zp{α:Type}{a:α}{s t:List α}(h:a∈s∨a∈t):a∈s++t:=List.mem_append.mpr h
def Zq{α:Type}{a:α}{s t:List α}(h:a∈s++t):a∈s∨a∈t:=List.mem_append.mp h
def LX:= @Nat.zero_add
def LY:= @if_neg
def LZ:= @List.mem_singleton
def L4:= @if_pos
def L7:= @decide_eq_false
def Ma:= @Nat.add_zero
def Mb:= @Nat.le_refl
def Mc:= @List.mem_of_getElem?
def Md:= @Int.toNat_natCast
def Me:= @of_decide_eq_false
def Mf:= @Array.getElem?_eq_some_iff
def Mg:= @decide_eq_true
def Mi:= @Classical.byContradiction
def Mj:= @List.getElem?_eq_getElem
def Ml:= @List.getElem?_eq_some_iff
def Mn:= @of_decide_eq_true
def Mo:= @List.getElem?_append_left
def Mr:= @decide_eq_false_iff_not
def Ms:= @List.mem_map
def Mt:= @List.getElem?_eq_none
def Mu:= @decide_eq_true_eq
def Mv:= @List.length_append
def Mw:= @absurd
def Mx:= @List.getElem?_map
def My:= @List.mem_cons_of_mem
def Mz:= @List.map_cons
def MC:= @List.mem_iff_getElem?
def MD:= @Bool.false_eq_true
def ME:= @List.getElem?_set
def MF:= @Bool.not_true
def MG:= @Bool.and_eq_true
def MH:= @Nat.eq_of_beq_eq_true
def MJ:= @List.map_append
def MK:= @List.getElem?_append_right
def ML:= @List.nodup_append
def MM:= @List.ext_getElem?
def MN:= @Nat.shiftLeft_eq
def MO:= @List.nodup_cons
def MP:= @List.length_singleton
def MQ:= @List.eq_nil_of_length_eq_zero
def MR:= @List.not_mem_nil
def MS:= @Bool.not_false
def MT:= @Option.some.injEq
def MU:= @Nat.mul_one
def MV:= @List.getElem?_eq_none_iff
def MW:= @List.mem_range
def MX:= @Bool.not_eq_true'
def MY:= @Nat.testBit_succ
def MZ:= @List.all_eq_true
def Na:= @Option.map_some
def Nb:= @List.map_congr_left
def Nc:= @Nat.le_trans
def Nf:= @if_false
def Ng:= @List.cons.injEq
def Nh:= @List.length_cons
def Ni:= @List.set_cons_succ
def Nj:= @Bool.or_eq_true
def Nk:= @or_false
def Nl:= @List.countP_cons
def Nm:= @Int.tmod_eq_emod_of_nonneg
def Nn:= @List.nil_append
def No:= @List.length_set
def Np:= @Array.getElem?_setIfInBounds
def Nq:= @Nat.zero_le
def Nr:= @List.filter_eq_self
def Ns:= @List.append_assoc
def Nt:= @Nat.lt_of_lt_of_le
def Nu:= @List.cons_append
def Nv:= @List.filter_sublist
def Nw:= @Nat.shiftLeft_add_eq_or_of_lt
def Nx:= @List.filter_append
def Ny:= @Int.natCast_nonneg
def Nz:= @List.mem_flatMap
def NA:= @List.getElem?_cons_succ
def NB:= @Array.getElem?_eq_none
def NC:= @Array.getElem?_push
def ND:= @List.length_map
def NE:= @List.exists_mem_of_ne_nil
def NF:= @Nat.le_of_ble_eq_true
def NG:= @List.length_filter_le
def NH:= @List.pairwise_cons
def NI:= @List.length_take
def NJ:= @Option.isSome_iff_exists
def NK:= @Nat.mul_assoc
def NL:= @List.map_map
def NM:= @List.take_add_one
def NN:= @List.length_nil
def NO:= @Int.toNat_of_nonneg
def NP:= @Nat.testBit_lt_two_pow
def NQ:= @Nat.mul_comm
def NR:= @Nat.testBit_zero
def NS:= @List.take_length
def NT:= @Int.tdiv_eq_ediv_of_nonneg
def NU:= @not_or
def NV:= @List.perm_append_left_iff
def NW:= @List.pairwise_iff_getElem
def NX:= @Nat.two_pow_pos
def NY:= @Nat.pow_succ
def NZ:= @Nat.pow_le_pow_right
def N0:= @Nat.mul_le_mul_right
def N4:= @List.map_nil
def N7:= @List.getElem?_of_mem
def Ob:= @List.getElem?_mapIdx
def Oc:= @Bool.false_or
def Od:= @Nat.mod_eq_of_lt
def Oe:= @beq_iff_eq
def Of:= @Nat.sub_zero
def Og:= @List.mem_cons_self
def Oh:= @List.drop_eq_nil_of_le
def Oi:= @Bool.not_eq_false'
def Oj:= @Array.ext'
def Ol:= @true_and
def On:= @Option.bind_some
def Oo:= @Int.le_of_lt
def Oq:= @Nat.mul_le_mul_left
def Ot:= @List.sum_cons
def Ou:= @List.range_succ
def Ov:= @List.getElem?_replicate
def Ox:= @List.getElem?_cons_zero
def Oy:= @List.take_of_length_le
def Oz:= @List.size_toArray
def OA:= @Int.le_trans
def OC:= @Array.getElem?_modify
def OD:= @Option.getD_some
def OE:= @Nat.le_add_right
def OF:= @List.filter_cons
def OG:= @Nat.pow_add
def OH:= @Nat.add_mul
def OI:= @List.set_append_left
def OJ:= @Int.le_refl
def OK:= @Array.replicate_zero
def OM:= @Array.replicate_succ
def ON:= @List.dropLast_concat_getLast
def OP:= @beq_eq_false_iff_ne
def OQ:= @List.append_toArray
def OS:= @Array.toList_filter
def OT:= @List.perm_append_comm_assoc
def OU:= @and_true
def OV:= @Nat.lt_of_le_of_lt
def OX:= @List.set_cons_zero
def OY:= @List.getD_eq_getElem?_getD
def OZ:= @Int.tmod_lt_of_pos
def Pa:= @Int.fdiv_eq_ediv_of_nonneg
def Pb:= @List.drop_eq_getElem_cons
def Pc:= @Nat.or_lt_two_pow
def Pd:= @Nat.mul_left_comm
def Pf:= @List.push_toArray
def Pg:= @List.flatMap_cons
def Ph:= @Prod.mk.injEq
def Pi:= @List.perm_middle
def Pj:= @List.drop_append
def Pm:= @List.any_eq_true
def Pn:= @Array.mem_append
def Po:= @Nat.mod_lt
def Pp:= @ne_eq
def Pq:= @List.set_append_right
def Pr:= @List.concat_eq_append
def Ps:= @Bool.and_eq_false_imp
def Pu:= @Array.toList_eraseIdx
def Pv:= @Option.some_or
def Pw:= @Option.none_or
def Px:= @Nat.pow_lt_pow_right
def Py:= @Nat.eq_of_testBit_eq
def Pz:= @List.take_left
def PA:= @List.nodup_nil
def PB:= @List.getElem?_modify
def PC:= @List.drop_drop
def PD:= @List.Perm.refl
def PE:= @Bool.or_eq_false_iff
def PF:= @if_true
def PG:= @Array.toList_modify
def PH:= @bne_iff_ne
def PI:= @Option.isNone_some
def PJ:= @List.map_singleton
def PK:= @Nat.or_assoc
def PL:= @Nat.ne_of_lt
def PM:= @List.sum_nil
def PN:= @List.pairwise_map
def PO:= @List.map_set
def PQ:= @List.length_range
def ah(h:p:=by omega):p:=h
def ak(h:p:=by simp):p:=h
abbrev ap(n:Int):Value:= .int .i64 n
abbrev aq(n:Int):Value:= .int .u32 n
abbrev ar(n:Int):Value:= .int .u64 n
abbrev au(a:Addr):Value:= .pointer (some a)
abbrev aw(b:Nat):Addr:=Addr.mk b 0 none
abbrev ax(n:Int):Int:=IntKind.wrap .i64 n
abbrev ay:=List (Option (Nat×Nat×Nat))
abbrev az:=Option Addr
abbrev aA(a:Option Addr):Value:= .pointer a
abbrev aB:Value:= .bool false
abbrev aC:Value:= .bool true
abbrev aD(b:Bool):Value:= .bool b
abbrev aE:Value:= .tuple #[]
abbrev aF(a:Value):Prop:=a=a
abbrev aG(a b:Value):Prop:=a=b
abbrev aI:=Array Obj
abbrev Fr:=List (Nat×Value)
def rd(h:aI)(a:Addr):Option Value:=
 match h[a.block]? with
 |some (.cells c _ _)=>if a.spot.isSome then none else c[a.off]?
 |_=>none
def fz(h:aI)(a:Addr):Bool:=
 match h[a.block]? with
 |some (.cells _ _ (lo,hi))=>lo<=a.off&&a.off<hi
 |_=>false
def wr(h:aI)(a:Addr)(v:Value):aI:=
 h.modify a.block fun
  | .cells c elem frozen=> .cells (if a.spot.isSome then c else c.setIfInBounds a.off v) elem frozen
  |o=>o
def mp(h:aI)(r:Nat):Option (Array MapEntry×Nat):=
 match h[r]? with
 |some (.map es c)=>some (es,c)
 |_=>none
def get:Fr->Nat->Option Value
 | [],_=>none
 |(k,v)::r,t=>match Nat.beq k t with|true=>some v|false=>get r t
def put(ρ:Fr)(d:Option Nat)(v:Value):Fr:=match d with|some t=>(t,v)::ρ|none=>ρ
def cut:List Nat->Fr->Fr
 | [],_=> []
 |t::L,ρ=>match get ρ t with|some v=>(t,v)::cut L ρ|none=>cut L ρ
def ev(ρ:Fr):Operand->Option Value
 | .tmp t=>get ρ t
 | .const v=>some v
 | .global g=>some (.pointer (some ⟨g,0,none⟩))
 | .func f=>some (.func (.func f) #[] #[])
def yX(ρ:Fr):List Operand->Option (List Value)
 | []=>some []
 |x::xs=>match ev ρ x with|some v=>(match yX ρ xs with|some vs=>some (v::vs)|none=>none)|none=>none
def aJ(b:Bool)(t f:Prop):Prop:=match b with|true=>t|false=>f
def dC{α:Type}(x:Option α)(K:α->Prop):Prop:=match x with|some v=>K v|none=>False
def aX(p:Option Addr)(K:Addr->Prop):Prop:=match p with|some a=>K a|none=>False
def GX(z:Value)(K:Value->Prop):Prop:=
 match z with
 | .int k _=> ∃n:Int,K (.int k n)
 | .bool _=> ∃b:Bool,K (.bool b)
 | .pointer _=> ∃p:Option Addr,K (.pointer p)
 | .slice _ _ _=> ∃(p:Option Addr) (l c:Nat),K (.slice p l c)
 | .map _=> ∃r:Option Nat,K (.map r)
 | .string _=> ∃s:ByteArray,K (.string s)
 |_=> ∃v:Value,K v
def Kn:List Value->(List Value->Prop)->Prop
 | [],K=>K []
 |z::zs,K=>GX z λv=>Kn zs λvs=>K (v::vs)
def K5(z:Value)(K:Value->Prop):Prop:=
 match z with
 | .agg zs=>Kn zs.toList λvs=>K (.agg vs.toArray)
 |z=>GX z K
def Km:List Value->(List Value->Prop)->Prop
 | [],K=>K []
 |z::zs,K=>K5 z λv=>Km zs λvs=>K (v::vs)
def aS(k:IntKind)(x:Option Value)(K:Int->Prop):Prop:= ∃n:Int,x=some (.int k n)/\K n
def bQ(x:Option Value)(K:Bool->Prop):Prop:= ∃b:Bool,x=some (.bool b)/\K b
def aZ(x:Option Value)(K:Option Addr->Prop):Prop:= ∃p:Option Addr,x=some (.pointer p)/\K p
def cF(x:Option Value)(K:Option Addr->Nat->Nat->Prop):Prop:= ∃(p:Option Addr) (l c:Nat),x=some (.slice p l c)/\K p l c
def bU(x:Option Value)(K:Option Nat->Prop):Prop:= ∃r:Option Nat,x=some (.map r)/\K r
def Ly(x:Option Value)(K:ByteArray->Prop):Prop:= ∃s:ByteArray,x=some (.string s)/\K s
def jX(x:Option Value)(K:Value->Prop):Prop:= ∃v:Value,x=some v/\K v
def Dw(z:Value)(x:Option Value)(K:Value->Prop):Prop:=
 match z with
 | .int k _=>aS k x λn=>K (.int k n)
 | .bool _=>bQ x λb=>K (.bool b)
 | .pointer _=>aZ x λp=>K (.pointer p)
 | .slice _ _ _=>cF x λp l c=>K (.slice p l c)
 | .map _=>bU x λr=>K (.map r)
 | .string _=>Ly x λs=>K (.string s)
 |_=>jX x K
def Kz(h:aI)(a:Addr):Nat->List Value->(List Value->Prop)->Prop
 |_,[],K=>K []
 |i,z::zs,K=>Dw z (rd h (a.add i)) λv=>Kz h a (i+1) zs λvs=>K (v::vs)
def Jy(h:aI)(a:Addr)(n:Nat)(K:List Value->Prop):Prop:= ∃vs:List Value,vs.length=n/\(∀j v,vs[j]? =some v->rd h (a.add j)=some v)/\K vs
def KZ(l:List Value)(b:Nat):Nat->List Value->(List Value->Prop)->Prop
 |_,[],K=>K []
 |i,z::zs,K=>Dw z (l[b+i]?) λv=>KZ l b (i+1) zs λvs=>K (v::vs)
def zv(P:Program)(t:TypeId):Option Value:=(P.info? t).bind (·.zero)
def Js:TypeDesc->Bool| .struct _=>true| .array _ _=>true|_=>false
def t8(P:Program)(t:TypeId)(h:aI)(p:Option Addr)(K:Value->Prop):Prop:=
 match P.underlying t,zv P t with
 |some d,some z=>
  match Js d with
  |true=>match z with
   | .agg zs=>match Nat.beq zs.size (P.cellsOf t)with
    |true=>match Nat.ble 41 zs.size with
     |true=>aX p λa=>Jy h a zs.size λvs=>K (.agg vs.toArray)
     |false=>aX p λa=>Kz h a 0 zs.toList λvs=>K (.agg vs.toArray)
    |false=>False
   |_=>False
  |false=>aX p λa=>Dw z (rd h a) K
 |_,_=>False
def bu(op:BinOp)(k:IntKind)(x y:Int):Int:=
 let a:=BitVec.ofInt k.bits x;let b:=BitVec.ofInt k.bits y
 match op with
 | .and=>k.wrap (a&&&b).toNat
 | .or=>k.wrap (a|||b).toNat
 | .xor=>k.wrap (a^^^b).toNat
 |_=>k.wrap (a&&& ~~~b).toNat
def Gi(op:BinOp)(k:IntKind)(a b:Int)(K:Value->Prop):Prop:=
 match op with
 | .add=>K (.int k (k.wrap (a+b)))
 | .sub=>K (.int k (k.wrap (a-b)))
 | .mul=>K (.int k (k.wrap (a*b)))
 | .quo=>b≠0/\K (.int k (k.wrap (a.tdiv b)))
 | .rem=>b≠0/\K (.int k (a.tmod b))
 | .and=>K (.int k (bu .and k a b))
 | .or=>K (.int k (bu .or k a b))
 | .xor=>K (.int k (bu .xor k a b))
 | .andNot=>K (.int k (bu .andNot k a b))
 | .eql=>K (.bool (a==b))
 | .neq=>K (.bool (a !=b))
 | .lss=>K (.bool (decide (a<b)))
 | .leq=>K (.bool (decide (a<=b)))
 | .gtr=>K (.bool (decide (a>b)))
 | .geq=>K (.bool (decide (a>=b)))
 |_=>False
def KB(op:BinOp)(k:IntKind)(a b:Int)(K:Value->Prop):Prop:=
 match op with
 | .shl=>0<=b/\K (.int k (k.wrap (a*2^(min b.toNat k.bits))))
 | .shr=>0<=b/\K (.int k (a.fdiv (2^(min b.toNat k.bits))))
 |_=>False
def Jl:BinOp->Bool| .shl=>true| .shr=>true|_=>false
def FY:IntKind->IntKind->Bool
 | .i8,.i8=>true| .i16,.i16=>true| .i32,.i32=>true| .i64,.i64=>true
 | .u8,.u8=>true| .u16,.u16=>true| .u32,.u32=>true| .u64,.u64=>true
 |_,_=>false
def yq:List Value->List Value->Option Bool
 | [],[]=>some true
 | .int k a::xs,.int k' b::ys=>match FY k k' with|true=>(match yq xs ys with|some r=>some (a==b&&r)|none=>none)|false=>none
 |_,_=>none
def BA(P:Program)(t:TypeId):Bool:=
 match P.underlying t with
 |some (.struct fs)=> !P.stoodInHeld t&& !P.eqGuardType P.depth t&&(fs.toList.zipIdx.all λ(f,i)=>f.offset==i&&f.name != "_" &&(match P.underlying f.type with|some (.int _)=>true|_=>false))&&P.cellsOf t==fs.size
 |_=>false
def BI(P:Program)(t e:TypeId):Bool:= !P.eqGuardType P.depth t&&(match P.underlying e with|some (.int _)=>true|_=>false)&&P.cellsOf e==1&&(P.info? e).isSome
def Gh(P:Program)(h:aI)(t:TypeId)(x y:Value)(K:Bool->Prop):Prop:=
 match P.underlying t with
 |some .bool=>match x,y with
  | .bool a,.bool b=>K (a==b)
  |_,_=>False
 |some (.pointer e)=>match x,y with
  | .pointer p,.pointer none=>K p.isNone
  | .pointer none,.pointer p=>K p.isNone
  | .pointer (some a),.pointer (some b)=>match P.info? e with
   |some j=>match Nat.beq j.size 0 with
    |false=>(a=b->K true)/\(a≠b->(∃c u,h[a.block]? =some (.cells c u))/\(∃c u,h[b.block]? =some (.cells c u))/\K false)
    |true=>False
   |none=>False
  |_,_=>False
 |some (.struct fs)=>match BA P t,x,y with
  |true,.agg xs,.agg ys=>(match Nat.beq xs.size fs.size with|true=>dC (yq xs.toList ys.toList) K|false=>False)
  |_,_,_=>False
 |some (.array n e)=>match BI P t e,x,y with
  |true,.agg xs,.agg ys=>(match Nat.beq xs.size n with|true=>dC (yq xs.toList ys.toList) K|false=>False)
  |_,_,_=>False
 |some (.slice _)=>match x,y with
  | .slice p _ _,.slice none _ _=>K p.isNone
  |_,_=>False
 |_=>False
def GZ(P:Program)(h:aI)(op:BinOp)(t:TypeId)(x y:Value)(K:Value->Prop):Prop:=
 match x,y with
 | .int k a,.int k' b=>match Jl op with
  |true=>KB op k a b K
  |false=>match FY k k' with|true=>Gi op k a b K|false=>False
 |x,y=>match op with
  | .eql=>Gh P h t x y λr=>K (.bool r)
  | .neq=>Gh P h t x y λr=>K (.bool (!r))
  |_=>False
def KW(op:UnOp)(x:Value)(K:Value->Prop):Prop:=
 match op,x with
 | .not,.bool b=>K (.bool (!b))
 | .neg,.int k n=>K (.int k (k.wrap (0-n)))
 | .xor,.int k n=>K (.int k (bu .xor k (if k.signed then-1 else k.max) n))
 |_,_=>False
def Bx(P:Program)(a dst:TypeId)(x:Value)(K:Value->Prop):Prop:=
 match P.underlying a,P.underlying dst,x with
 |some _,some (.int k),.int _ n=>K (.int k (k.wrap n))
 |_,_,_=>False
def Fp(c:Bool)(a b:Option Value)(K:Value->Prop):Prop:=
 match a,b with
 |some (.bool x),some (.bool y)=>K (.bool (cond c x y))
 |_,_=>aJ c (dC a K) (dC b K)
def Gj(x:Value)(K:Value->Prop):Prop:=
 match x with
 | .pointer p=>aX p λa=>K (.pointer (some a))
 | .func (.func f) a b=>K (.func (.func f) a b)
 | .iface t v=>K (.iface t v)
 |_=>False
def kG(P:Program)(s:TypeId)(x:Value)(i:Nat)(K:Value->Prop):Prop:=
 match P.underlying s,x with
 |some (.struct fs),.pointer p=>match fs[i]? with
  |some f=>match P.info? f.type with
   |some ti=>match Nat.beq ti.size 0 with|false=>aX p λa=>K (.pointer (some (a.add f.offset)))|true=>False
   |none=>False
  |none=>False
 |_,_=>False
def Cf(P:Program)(t:TypeId)(cs:List Value)(off:Nat)(K:Value->Prop):Prop:=
 match P.underlying t,P.info? t with
 |some d,some ti=>match Js d with
  |true=>K (.agg (cs.toArray.extract off (off+ti.size)))
  |false=>dC cs[off]? K
 |_,_=>False
def vB(P:Program)(s:TypeId)(x:Value)(i:Nat)(K:Value->Prop):Prop:=
 match P.underlying s,x with
 |some (.struct fs),.agg cs=>match fs[i]? with
  |some f=>Cf P f.type cs.toList f.offset K
  |none=>False
 |_,_=>False
def kV(P:Program)(t:TypeId)(x i:Value)(K:Value->Prop):Prop:=
 match P.underlying t,x,i with
 |some (.array n e),.pointer p,.int _ j=>match P.info? e with
  |some ti=>aX p λa=>0<=j/\j<(n:Int)/\K (.pointer (some (a.add (j.toNat*ti.size))))
  |none=>False
 |some (.slice e),.slice p l _,.int _ j=>match P.info? e with
  |some ti=>aX p λa=>0<=j/\j<(l:Int)/\K (.pointer (some (a.add (j.toNat*ti.size))))
  |none=>False
 |_,_,_=>False
def EF(s:ByteArray)(j:Int)(K:Int->Prop):Prop:= ∃b:UInt8,s[j.toNat]? =some b/\K (b.toNat:Int)
def uZ(P:Program)(t:TypeId)(x i:Value)(K:Value->Prop):Prop:=
 match P.underlying t,x,i with
 |some (.array n e),.agg cs,.int _ j=>match P.underlying e,P.info? e with
  |some d,some _=>match Js d with
   |true=>0<=j/\j<(n:Int)/\(match zv P e with
    |some (.agg zs)=>match Nat.beq zs.size (P.cellsOf e)with
     |true=>KZ cs.toList (j.toNat*P.cellsOf e) 0 zs.toList λvs=>K (.agg vs.toArray)
     |false=>False
    |_=>False)
   |false=>0<=j/\j<(n:Int)/\(match P.cellsOf e with|1=>dC (zv P e) λz=>Dw z cs.toList[j.toNat]? K|_=>False)
  |_,_=>False
 |some .string,.string s,.int _ j=>0<=j/\EF s j λn=>K (.int .u8 n)
 |_,_,_=>False
def wD(P:Program)(t:TypeId)(x:Value)(lo hi:Option Value)(K:Value->Prop):Prop:=
 match P.underlying t,x with
 |some (.slice e),.slice p l c=>match P.info? e with
  |some ti=>match lo,hi with
   |none,some (.int _ j)=>0<=j/\j<=(c:Int)/\K (.slice (if c=0 then p else p.map (·.add (0*ti.size))) (j.toNat-0) (c-0))
   |some (.int _ i),none=>0<=i/\i<=(l:Int)/\K (.slice (if c=i.toNat then p else p.map (·.add (i.toNat*ti.size))) (l-i.toNat) (c-i.toNat))
   |some (.int _ i),some (.int _ j)=>0<=j/\j<=(c:Int)/\0<=i/\i<=j/\K (.slice (if c=i.toNat then p else p.map (·.add (i.toNat*ti.size))) (j.toNat-i.toNat) (c-i.toNat))
   |none,none=>K (.slice (if c=0 then p else p.map (·.add (0*ti.size))) (l-0) (c-0))
   |_,_=>False
  |none=>False
 |some (.array n e),.pointer p=>match P.info? e with
  |some ti=>match lo,hi with
   |none,some (.int _ j)=>aX p λa=>0<=j/\j<=(n:Int)/\K (.slice (some (if n=0 then a else a.add (0*ti.size))) (j.toNat-0) (n-0))
   |none,none=>aX p λa=>K (.slice (some (if n=0 then a else a.add (0*ti.size))) (n-0) (n-0))
   |some (.int _ i),none=>aX p λa=>0<=i/\i<=(n:Int)/\K (.slice (some (if n=i.toNat then a else a.add (i.toNat*ti.size))) (n-i.toNat) (n-i.toNat))
   |_,_=>False
  |none=>False
 |_,_=>False
def uj(x:Value)(i:Nat)(K:Value->Prop):Prop:=
 match x with
 | .tuple vs=>dC vs[i]? K
 |_=>False
def dT(h:aI)(r:Option Nat)(k1 kk:IntKind)(kn:Int)(K:Option (Nat×Value)->Prop):Prop:=
 dC r λb=> ∃es cl,mp h b=some (es,cl)/\ ∃o,Instr.findNow (.int k1) (.int kk kn) es.toList 0=some o/\K o
def kU(z:Value)(o:Option (Nat×Value)):Value:=match o with|some (_,v)=>v|none=>z
def Lj(z:Value)(o:Option (Nat×Value))(ok:Bool)(K:Value->Prop):Prop:=
 match ok with
 |true=>Dw z (some (kU z o)) λv=>K (.tuple #[v,.bool o.isSome])
 |false=>Dw z (some (kU z o)) K
def sf(P:Program)(t:TypeId)(h:aI)(x k:Value)(ok:Bool)(K:Value->Prop):Prop:=
 match P.underlying t,x,k with
 |some (.map kt et),.map r,.int kk kn=>match P.underlying kt,zv P et with
  |some (.int k1),some z=>dT h r k1 kk kn λo=>Lj z o ok K
  |_,_=>False
 |_,_,_=>False
def sM(P:Program)(t:TypeId)(a:Option (List Value))(ix:List Nat)(K:Value->Prop):Prop:=
 match P.underlying t,zv P t,a with
 |some (.struct fs),some z,some vs=>match fs.toList.all (λf=>(P.info? f.type).isSome)with
  |true=>dC (Instr.fill ((fs.map λf=>(f.offset,P.cellsOf f.type))[·]?) z.cells (ix.zip vs)) λcells=>K (.agg cells)
  |false=>False
 |some (.array _ e),some z,some vs=>match (P.info? e).isSome with
  |true=>dC (Instr.fill (λi=>some (i*P.cellsOf e,P.cellsOf e)) z.cells (ix.zip vs)) λcells=>K (.agg cells)
  |false=>False
 |_,_,_=>False
def wH(P:Program)(t:TypeId)(v:Value)(K:Value->Prop):Prop:=
 match P.underlying t with
 |some (.interface _)=>False
 |some _=>K (.iface t v)
 |none=>False
def lP(P:Program)(a:TypeId)(ok:Bool)(x:Value)(K:Value->Prop):Prop:=
 match P.underlying a,x with
 |some (.interface _),_=>False
 |some _,.iface t v=>match Nat.beq t a with
  |true=>(match ok with|true=>K (.tuple #[v,.bool true])|false=>K v)
  |false=>False
 |_,_=>False
def G9(P:Program)(t:TypeId)(h:aI)(x:Value)(K:Value->Prop):Prop:=
 match P.underlying t,x with
 |some (.slice _),.slice _ l _=>K (.int .i64 l)
 |some (.array n _),_=>K (.int .i64 n)
 |some .string,.string s=>K (.int .i64 s.size)
 |some (.map _ _),.map r=>dC r λb=> ∃es cl,mp h b=some (es,cl)/\K (.int .i64 es.size)
 |_,_=>False
def Gn(P:Program)(t:TypeId)(x:Value)(K:Value->Prop):Prop:=
 match P.underlying t,x with
 |some (.slice _),.slice _ _ c=>K (.int .i64 c)
 |_,_=>False
def Kr(mx:Bool)(x y:Value)(K:Value->Prop):Prop:=
 match x,y with
 | .int k a,.int _ b=>K (.int k (match mx with|true=>(if b>a then b else a)|false=>(if b<a then b else a)))
 |_,_=>False
def Ke(ρ:Fr):Option Operand->Option (Option Value)
 |none=>some none
 |some x=>match ev ρ x with|some v=>some (some v)|none=>none
def vn(P:Program)(o:Op)(ρ:Fr)(h:aI)(K:Value->Prop):Prop:=
 match o with
 | .move x=>dC (ev ρ x) K
 | .assign x=>dC (ev ρ x) K
 | .pick c a b=>match ev ρ c with|some (.bool t)=>Fp t (ev ρ a) (ev ρ b) K|_=>False
 | .nilCheck x=>dC (ev ρ x) λv=>Gj v K
 | .binOp op t x y _=>dC (ev ρ x) λa=>dC (ev ρ y) λb=>GZ P h op t a b K
 | .unOp op _ x=>dC (ev ρ x) λa=>KW op a K
 | .convert s d x=>dC (ev ρ x) λa=>Bx P s d a K
 | .load t a=>match ev ρ a with|some (.pointer p)=>t8 P t h p K|_=>False
 | .fieldAddr s x i=>dC (ev ρ x) λa=>kG P s a i K
 | .field s x i=>dC (ev ρ x) λa=>vB P s a i K
 | .indexAddr t x i=>dC (ev ρ x) λa=>dC (ev ρ i) λb=>kV P t a b K
 | .index t x i=>dC (ev ρ x) λa=>dC (ev ρ i) λb=>uZ P t a b K
 | .slice t x lo hi none=>dC (ev ρ x) λa=>dC (Ke ρ lo) λl=>dC (Ke ρ hi) λu=>wD P t a l u K
 | .extract x i=>dC (ev ρ x) λa=>uj a i K
 | .lookup t x k ok=>dC (ev ρ x) λa=>dC (ev ρ k) λb=>sf P t h a b ok K
 | .build t ps=>sM P t (yX ρ (ps.toList.map (·.2))) (ps.toList.map (·.1)) K
 | .makeInterface t x=>dC (ev ρ x) λa=>wH P t a K
 | .makeFunc fn first captured=>dC (yX ρ first.toList) λa=>dC (yX ρ captured.toList) λb=>K (.func fn a.toArray b.toArray)
 | .typeAssert x _ t ok=>dC (ev ρ x) λa=>lP P t ok a K
 | .call {callee:= .builtin b,args,argTypes}=>match b,args.toList,argTypes.toList with
  | .len,[x],[t]=>dC (ev ρ x) λa=>G9 P t h a K
  | .cap,[x],[t]=>dC (ev ρ x) λa=>Gn P t a K
  | .max,[x,y],_=>dC (ev ρ x) λa=>dC (ev ρ y) λb=>Kr true a b K
  | .min,[x,y],_=>dC (ev ρ x) λa=>dC (ev ρ y) λb=>Kr false a b K
  |_,_,_=>False
 |_=>False
def qf:Op->Bool
 | .alloc _=>true| .box _ _=>true| .buildSlice _ _ _=>true| .store _ _ _=>true| .makeMap _ _=>true| .makeSlice _ _ _=>true
 | .mapUpdate _ _ _ _=>true| .mapEntry _ _ _=>true| .entryStore _ _ _ _=>true| .insert _ _ _ _=>true
 | .range _ _=>true| .next _ _=>true| .entry _=>true
 | .call {callee:= .builtin b,..}=>(match b with| .len=>false| .cap=>false| .max=>false| .min=>false|_=>true)
 | .call _=>true
 |_=>false
def cw(w w':World):Prop:=w'.os=w.os/\w'.tape=w.tape/\w'.output=w.output
def kM(P:Program)(f:FuncId)(args:List Value)(h:aI)(K:Value->aI->Prop):Prop:=
 ∀w:World,w.heap=h->Calls P f args.toArray w λe w'=> ∃v,e= .returned v/\cw w w'/\K v w'.heap
inductive cH where
 |go|load (k:IntKind)|store|cas (k:IntKind)|add (k:IntKind)
 /--no function:the types of the key and the element at which an iterator (a slot) stands-/
 |ent (k v:TypeId)
def bR:List (Nat×cH)->Nat->Option cH
 | [],_=>none
 |(k,v)::r,t=>match Nat.beq k t with|true=>some v|false=>bR r t
def KL(P:Program):List TypeId->Option (List Value)
 | []=>some []
 |t::ts=>match zv P t,KL P ts with|some z,some zs=>some (z::zs)|_,_=>none
def DY(P:Program)(ty:TypeId)(v:Value)(K:Value->Prop):Prop:=
 match ((P.info? ty).map (λi=>i.desc):Option TypeDesc)with
 |some (TypeDesc.tuple ts)=>dC (KL P ts.toList) λzs=>Km zs λvs=>v= .tuple vs.toArray/\K (.tuple vs.toArray)
 |some _=>dC (zv P ty) λz=>(match z with
  | .agg zs=>Kn zs.toList λvs=>v= .agg vs.toArray/\K (.agg vs.toArray)
  |z=>Dw z (some v) K)
 |none=>False
def za(P:Program)(f:FuncId)(args:List Value)(ty:TypeId)(h:aI)(K:Value->aI->Prop):Prop:=
 kM P f args h λv h'=>DY P ty v λv'=>K v' h'
def aY(h:aI)(a:Addr)(v:Value)(K:aI->Prop):Prop:=
 match v.oneCell' with
 |true=>(rd h a).isSome=true/\fz h a=false/\K (wr h a v)
 |false=>False
def bg(h:aI)(o:Obj)(K:Nat->aI->Prop):Prop:=K h.size (h.push o)
def rH(a:Addr):Nat->List Value->aI->(aI->Prop)->Prop
 |_,[],h,K=>K h
 |i,v::vs,h,K=>aY h (a.add i) v λh'=>rH a (i+1) vs h' K
def IQ(e:cH)(args:List Value)(h:aI)(K:Value->aI->Prop):Prop:=
 match e,args with
 | .load k,[.pointer p]=>aX p λa=>aS k (rd h a) λn=>K (.int k n) h
 | .store,[.pointer p,.int k y]=>aX p λa=>aY h a (.int k y) λh'=>K (.tuple #[]) h'
 | .cas k,[.pointer p,.int k1 x,.int k2 y]=>match FY k k1,FY k k2 with
  |true,true=>aX p λa=>aS k (rd h a) λn=>aJ (n==x) (aY h a (.int k y) λh'=>K (.bool true) h') (fz h a=false/\K (.bool false) h)
  |_,_=>False
 | .add k,[.pointer p,.int k1 y]=>match FY k k1 with
  |true=>aX p λa=>aS k (rd h a) λn=>aY h a (.int k (k.wrap (n+y))) λh'=>K (.int k (k.wrap (n+y))) h'
  |_=>False
 |_,_=>False
def Kv(P:Program)(X:List (Nat×cH))(f:FuncId)(args:List Value)(ty:TypeId)(h:aI)(K:Value->aI->Prop):Prop:=
 match bR X f with
 |some .go=>za P f args ty h K
 |some e=>IQ e args h K
 |none=>False
def dS(P:Program)(X:List (Nat×cH))(f:Value)(args:List Value)(h:aI)(K:Value->aI->Prop):Prop:=
 match f with
 | .func (.func g) first captured=>(match bR X g with
  |some .go=>kM P g (first.toList++args++captured.toList) h K
  |_=>False)
 |_=>False
def FM(P:Program)(X:List (Nat×cH))(f:Value)(args:List Value)(ty:TypeId)(h:aI)(K:Value->aI->Prop):Prop:=
 dS P X f args h λv h'=>DY P ty v λv'=>K v' h'
def GW(P:Program)(t:TypeId)(a:String):Option FuncId:=
 match P.info? t,P.underlying t with
 |some i,some (.pointer _)=>match i.methods.find? (·.name==a)with
  |some m=>match m.path.isEmpty,m.func with
   |true,some (f,true)=>some f
   |_,_=>none
  |none=>none
 |_,_=>none
def FT(P:Program)(X:List (Nat×cH))(r:Value)(a:String)(args:List Value)(ty:TypeId)(h:aI)(K:Value->aI->Prop):Prop:=
 match r with
 | .iface t v=>match GW P t a with
  |some f=>(match bR X f with
   |some .go=>za P f (v::args) ty h K
   |_=>False)
  |none=>False
 |_=>False
def oD(h:aI)(a:Addr)(cs:List Value):Prop:= ∀j v,cs[j]? =some v->rd h (a.add j)=some v
def fQ(h:aI)(e:TypeId)(sz d:Nat)(z:Array Value)(p:Option Addr)(l c:Nat)(q:Option Addr)(n:Nat)(K:Option Addr->Nat->Nat->aI->Prop):Prop:=
 ∃new:List Value,new.length=n*sz/\(match q with|some b=>oD h b new|none=>n=0)/\
  (l+n<=c->match p with
   |some a=>rH (a.add (l*sz)) 0 new h λh'=>K p (l+n) c h'
   |none=>n*sz=0/\K p (l+n) c h)/\
  (c<l+n-> ∃old:List Value,old.length=l*sz/\(match p with|some a=>oD h a old|none=>l=0)/\
   (l+n)*d<=140737488355328/\
   ∀cap,l+n<=cap->K (some ⟨h.size,0,none⟩) (l+n) cap (h.push (.cells (old.toArray++new.toArray++Builtin.zeroCells z (cap-(l+n))) e)))
def EQ(h:aI)(sz:Nat)(p:Option Addr)(l:Nat)(q:Option Addr)(n:Nat)(K:Nat->aI->Prop):Prop:=
 ∃new:List Value,new.length=Nat.min n l*sz/\(match q with|some b=>oD h b new|none=>n=0)/\
  match p with
  |some a=>rH a 0 new h λh'=>K (Nat.min n l) h'
  |none=>K (Nat.min n l) h
def kh(P:Program)(t:TypeId):Option (Nat×Nat×Array Value):=
 match P.info? t with
 |some i=>match i.zero with|some z=>some (i.size,i.bytes,z.cells)|none=>none
 |none=>none
def IP(P:Program)(t u:TypeId)(x y:Value)(h:aI)(K:Value->aI->Prop):Prop:=
 match P.underlying t,P.underlying u,x,y with
 |some (.slice e),some (.slice _),.slice p l c,.slice q n _=>match kh P e with
  |some (sz,by_,z)=>match Nat.ble 1 by_ with
   |true=>fQ h e sz by_ z p l c q n λp' l' c' h'=>K (.slice p' l' c') h'
   |false=>False
  |none=>False
 |_,_,_,_=>False
def Fs(P:Program)(t:TypeId)(x y:Value)(h:aI)(K:Value->aI->Prop):Prop:=
 match P.underlying t,x,y with
 |some (.slice e),.slice p l _,.slice q n _=>match P.info? e with
  |some ti=>EQ h ti.size p l q n λm h'=>K (.int .i64 m) h'
  |none=>False
 |_,_,_=>False
def vq(h:aI)(z:Array Value)(p:Option Addr)(n:Nat)(K:aI->Prop):Prop:=
 match p with
 |some a=>rH a 0 (Builtin.zeroCells z n).toList h K
 |none=>K h
def we(P:Program)(t:TypeId)(x:Value)(h:aI)(K:aI->Prop):Prop:=
 match P.underlying t,x with
 |some (.slice e),.slice p n _=>match kh P e with
  |some (_,_,z)=>vq h z p n K
  |none=>False
 |_,_=>False
def du(P:Program)(t:TypeId)(p:Option Addr)(v:Value)(h:aI)(K:aI->Prop):Prop:=
 match P.info? t with
 |some ti=>match Nat.beq v.cells.size ti.size with
  |true=>aX p λa=>rH a 0 v.cells.toList h K
  |false=>False
 |none=>False
def kH(P:Program)(t:TypeId)(l c:Value)(h:aI)(K:Value->aI->Prop):Prop:=
 match P.underlying t,l,c with
 |some (.slice e),.int _ i,.int _ j=>match kh P e with
  |some (sz,a,z)=>0<=i/\i<=j/\(a:Int)*j<=281474976710656/\j<=9223372036854775807/\
    bg h (.cells (madeCells z (j.toNat*sz)) e) λb h'=>K (.slice (some ⟨b,0,none⟩) i.toNat j.toNat) h'
  |none=>False
 |_,_,_=>False
def gZ(P:Program)(t:TypeId)(len:Nat)(a:Option (List Value))(ix:List Nat)(h:aI)(K:Value->aI->Prop):Prop:=
 match P.underlying t,a with
 |some (.slice e),some vs=>match kh P e with
  |some (sz,_,z)=>match Nat.ble (len*sz) 16777216 with
   |true=>dC (Instr.fill (λi=>some (i*sz,sz)) (madeCells z (len*sz)) (ix.zip vs)) λcells=>
     bg h (.cells cells e) λb h'=>K (.slice (some ⟨b,0,none⟩) len len) h'
   |false=>False
  |none=>False
 |_,_=>False
def LA(k1 kk:IntKind)(kn:Int)(es:Array MapEntry):Option (Option (Nat×Value)):=Instr.findNow (.int k1) (.int kk kn) es.toList 0
def Gz(h:aI)(r:Option Nat)(k1 kk:IntKind)(kn:Int)(K:Nat->Array MapEntry->Nat->Option (Nat×Value)->Prop):Prop:=
 dC r λb=> ∃es cl,mp h b=some (es,cl)/\ ∃o,LA k1 kk kn es=some o/\K b es cl o
def lu(h:aI)(r:Option Nat)(k1 kk:IntKind)(kn:Int)(v:Value)(K:aI->Prop):Prop:=
 Gz h r k1 kk kn λb es cl o=>match o with
  |some (i,_)=>Instr.sameBits 10000 (((es[i]?).map (·.key)).getD (.int kk kn)) (.int kk kn)=true/\
    K (h.setIfInBounds b (.map (es.modify i λe=>{e with key:= .int kk kn,val:=v}) cl))
  |none=>K (h.setIfInBounds b (.map (es.push {key:= .int kk kn,val:=v,born:=cl}) (cl+1)))
def zC(h:aI)(r:Option Nat)(k1 kk:IntKind)(kn:Int)(z:Value)(K:Value->Int->aI->Prop):Prop:=
 Gz h r k1 kk kn λb es cl o=>match o with
  |some (i,v)=>Instr.sameBits 10000 (((es[i]?).map (·.key)).getD (.int kk kn)) (.int kk kn)=true/\
    K v (((es[i]?).map (·.born)).getD 0) (h.setIfInBounds b (.map (es.modify i λe=>{e with key:= .int kk kn}) cl))
  |none=>K z cl (h.setIfInBounds b (.map (es.push {key:= .int kk kn,val:=z,born:=cl}) (cl+1)))
def zb(h:aI)(r:Option Nat)(st:Int)(v:Value)(K:aI->Prop):Prop:=
 dC r λb=> ∃es cl,mp h b=some (es,cl)/\ ∃i,es.findIdx? (λe=>(e.born:Int)==st)=some i/\
   K (h.setIfInBounds b (.map (es.modify i λe=>{e with val:=v}) cl))
def yy(h:aI)(r:Option Nat)(k1 kk:IntKind)(kn:Int)(K:aI->Prop):Prop:=
 Gz h r k1 kk kn λb es cl o=>match o with
  |some (i,_)=>K (h.setIfInBounds b (.map (es.eraseIdxIfInBounds i) cl))
  |none=>K (h.setIfInBounds b (.map es cl))
def kP(P:Program)(t:TypeId)(m k v:Value)(h:aI)(K:aI->Prop):Prop:=
 match P.underlying t,m,k with
 |some (.map kt _),.map r,.int kk kn=>match P.underlying kt with
  |some (.int k1)=>lu h r k1 kk kn v K
  |_=>False
 |_,_,_=>False
def mz(P:Program)(t:TypeId)(m k:Value)(h:aI)(K:Value->aI->Prop):Prop:=
 match P.underlying t,m,k with
 |some (.map kt et),.map r,.int kk kn=>match P.underlying kt,zv P et with
  |some (.int k1),some z=>zC h r k1 kk kn z λv st h'=>Dw z (some v) λv'=>K (.tuple #[v',.int .i64 st]) h'
  |_,_=>False
 |_,_,_=>False
def i7(m s v:Value)(h:aI)(K:aI->Prop):Prop:=
 match m,s with
 | .map r,.int _ st=>zb h r st v K
 |_,_=>False
def tf(P:Program)(t:TypeId)(m k:Value)(h:aI)(K:aI->Prop):Prop:=
 match P.underlying t,m,k with
 |some (.map kt _),.map r,.int kk kn=>match P.underlying kt with
  |some (.int k1)=>yy h r k1 kk kn K
  |_=>False
 |_,_,_=>False
def DZ(h:aI)(r:Option Nat)(K:Option Addr->aI->Prop):Prop:=
 match r with
 |none=>bg h (.mapIter none 0 #[] 0) λb h'=>K (some ⟨b,0,none⟩) h'
 |some m=> ∃es cl,mp h m=some (es,cl)/\bg h (.mapIter (some m) cl #[] cl) λb h'=>K (some ⟨b,0,none⟩) h'
def GT(h:aI)(p:Option Addr)(K0:Prop)(K1:Value->Value->aI->Prop):Prop:=
 aX p λa=>a.off=0/\ ∃m b c last,h[a.block]? =some (.mapIter m b c last)/\
  match m with
  |none=>K0
  |some m=> ∃es cl,mp h m=some (es,cl)/\(∀x∈es.toList,x.born<b)/\b<=last/\((leftOf es c).size=0->K0)/\
    ∀e∈(leftOf es c).toList,K1 e.key e.val (h.setIfInBounds a.block (.mapIter (some m) b (c.push e.born) cl))
def zT(h:aI)(p:Option Addr)(K:Value->Value->Prop):Prop:=
 aX p λa=>a.off=0/\ ∃m d c cl es b e,h[a.block]? =some (.mapIter (some m) d c cl)/\c.back? =some b/\mp h m=some (es,cl)/\es.find? (·.born==b)=some e/\K e.key e.val
def vL(P:Program)(t:TypeId)(x:Value)(h:aI)(K:Value->aI->Prop):Prop:=
 match P.underlying t,x with
 |some (.map _ _),.map r=>DZ h r λp h'=>K (.pointer p) h'
 |_,_=>False
def AP(x:Value)(h:aI)(K:Value->aI->Prop):Prop:=
 match x with
 | .pointer p=>GT h p (K (.tuple #[.bool false]) h) λk v h'=>K (.tuple #[.bool true,k,v]) h'
 |_=>False
def vv(P:Program)(kt vt:TypeId)(x:Value)(h:aI)(K:Value->aI->Prop):Prop:=
 match x with
 | .pointer p=>zT h p λk v=>dC (KL P [kt,vt]) λzs=>Km zs λvs=>(Value.tuple #[k,v]=Value.tuple vs.toArray)/\K (.tuple vs.toArray) h
 |_=>False
def FO(P:Program)(X:List (Nat×cH))(o:Op)(ty:TypeId)(ρ:Fr)(h:aI)(K:Value->aI->Prop):Prop:=
 match o with
 | .alloc t=>dC (zv P t) λz=>bg h (.cells z.cells t) λb h'=>K (.pointer (some ⟨b,0,none⟩)) h'
 | .box t x=>dC (ev ρ x) λv=>bg h (.cells v.cells t) λb h'=>K (.pointer (some ⟨b,0,none⟩)) h'
 | .store t a x=>match ev ρ a with
  |some (.pointer p)=>dC (ev ρ x) λv=>du P t p v h λh'=>K undef h'
  |_=>False
 | .makeMap _ none=>bg h (.map #[] 0) λb h'=>K (.map (some b)) h'
 | .makeSlice t l c=>dC (ev ρ l) λa=>dC (ev ρ c) λb=>kH P t a b h K
 | .buildSlice t n ps=>gZ P t n (yX ρ (ps.toList.map (·.2))) (ps.toList.map (·.1)) h K
 | .mapUpdate t m k x=>dC (ev ρ m) λa=>dC (ev ρ k) λb=>dC (ev ρ x) λv=>kP P t a b v h λh'=>K undef h'
 | .mapEntry t m k=>dC (ev ρ m) λa=>dC (ev ρ k) λb=>mz P t a b h K
 | .entryStore _ m s x=>dC (ev ρ m) λa=>dC (ev ρ s) λb=>dC (ev ρ x) λv=>i7 a b v h λh'=>K undef h'
 | .range t x=>dC (ev ρ x) λa=>vL P t a h K
 | .next x str=>dC (ev ρ x) λa=>match str with|false=>AP a h K|true=>False
 | .entry x=>dC (ev ρ x) λa=>match x with
  | .tmp t=>(match bR X (1000000+t)with|some (.ent kt vt)=>vv P kt vt a h K|_=>False)
  |_=>False
 | .call {callee:= .value f,args,..}=>dC (yX ρ args.toList) λxs=>match f with
  | .func g=>Kv P X g xs ty h K
  |f=>dC (ev ρ f) λfv=>FM P X fv xs ty h K
 | .call {callee:= .invoke r name,args,..}=>dC (ev ρ r) λrv=>dC (yX ρ args.toList) λxs=>FT P X rv name xs ty h K
 | .call {callee:= .builtin b,args,argTypes}=>match b,args.toList,argTypes.toList with
  | .append,[x,y],[t,u]=>dC (ev ρ x) λa=>dC (ev ρ y) λb=>IP P t u a b h K
  | .copy,[x,y],[t,_]=>dC (ev ρ x) λa=>dC (ev ρ y) λb=>Fs P t a b h K
  | .delete,[x,y],[t,_]=>dC (ev ρ x) λa=>dC (ev ρ y) λb=>tf P t a b h λh'=>K (.tuple #[]) h'
  | .clear,[x],[t]=>dC (ev ρ x) λa=>we P t a h λh'=>K (.tuple #[]) h'
  |_,_,_=>False
 |_=>False
def KP(P:Program)(X:List (Nat×cH))(o:Oper)(ρ:Fr)(h:aI)(K:Value->aI->Prop):Prop:=
 match qf o.op with
 |true=>FO P X o.op o.type ρ h K
 |false=>vn P o.op ρ h λv=>K v h
def zD(ops:Array Oper)(o:Oper)(ρ:Fr)(run skip:Fr->Prop):Prop:=
 match o.guard with
 |none=>run ρ
 |some (j,want)=>match (ops[j]?).bind (·.dst)with
  |none=>False
  |some d=>match get ρ d with
   |some (.bool b)=>(match want with
    |true=>aJ b (run ((d,.bool true)::ρ)) (skip ((d,.bool false)::ρ))
    |false=>aJ b (skip ((d,.bool true)::ρ)) (run ((d,.bool false)::ρ)))
   |some (.tuple _)=>skip ρ
   |_=>False
def pP(P:Program)(X:List (Nat×cH))(ops:Array Oper)(o:Oper)(ρ:Fr)(h:aI)(K:Fr->aI->Prop):Prop:=
 zD ops o ρ (λρ=>KP P X o ρ h λv h'=>K (put ρ o.dst v) h') (λρ=>K (put ρ o.dst undef) h)
def Kk(P:Program)(X:List (Nat×cH))(ops:Array Oper):List Oper->Fr->aI->(Fr->aI->Prop)->Prop
 | [],ρ,h,K=>K ρ h
 |o::rest,ρ,h,K=>pP P X ops o ρ h λρ' h'=>Kk P X ops rest ρ' h' K
def fy(P:Program)(ops:Array Oper)(ρ:Fr)(h:aI):List Nat->Prop->Prop
 | [],K=>K
 |j::js,K=>match ops[j]? with
  |none=>False
  |some o=>
        match o.dst with
   |none=>False
   |some d=>match get ρ d with
    |none=>False
    |some v=>match o.guard with
     |none=>vn P o.op ρ h λv'=>v'=v/\fy P ops ρ h js K
     |some (i,want)=>match (ops[i]?).bind (·.dst)with
      |none=>False
      |some g=>match get ρ g with
       |some (.bool b)=>(match want with
        |true=>aJ b (vn P o.op ρ h λv'=>v'=v/\fy P ops ρ h js K) (v=undef/\fy P ops ρ h js K)
        |false=>aJ b (v=undef/\fy P ops ρ h js K) (vn P o.op ρ h λv'=>v'=v/\fy P ops ρ h js K))
       |some (.tuple _)=>v=undef/\fy P ops ρ h js K
       |_=>False
def Hs(P:Program)(X:List (Nat×cH))(ops:Array Oper):List (Nat×List Nat)->Fr->aI->(Fr->aI->Prop)->Prop
 | [],ρ,h,K=>K ρ h
 |(i,js)::rest,ρ,h,K=>match ops[i]? with
  |none=>False
  |some o=>pP P X ops o ρ h λρ' h'=>fy P ops ρ' h' js (Hs P X ops rest ρ' h' K)
def GU(P:Program)(X:List (Nat×cH))(ops:Array Oper):List (List (Nat×List Nat))->Fr->aI->(Fr->aI->Prop)->Prop
 | [],_,_,_=>False
 | [l],ρ,h,K=>Hs P X ops l ρ h K
 |l::ls,ρ,h,K=>Hs P X ops l ρ h K/\GU P X ops ls ρ h K
def Kj(ops:Array Oper)(i:Nat):Bool:=match ops[i]? with|some o=>qf o.op|none=>false
def lC(ops:Array Oper):List (Nat×List Nat)->List (Nat×List Nat)
 | []=> []
 |x::l=>match Kj ops x.1 with|true=> []|false=>x::lC ops l
def iW(ops:Array Oper):List (Nat×List Nat)->List (Nat×List Nat)
 | []=> []
 |x::l=>match Kj ops x.1 with|true=>x::l|false=>iW ops l
def xU(i:Nat):List (Nat×List Nat)->Bool
 | []=>false
 |x::l=>match Nat.beq x.1 i with|true=>true|false=>xU i l
def jf:List (List (Nat×List Nat))->List (Nat×List Nat)
 | []=> []
 | []::A=>jf A
 |(x::_)::A=>let r:=jf A;match xU x.1 r with|true=>r|false=>x::r
def qA(i:Nat):List (List (Nat×List Nat))->List (List (Nat×List Nat))
 | []=> []
 | []::A=>qA i A
 |(x::l)::A=>match Nat.beq x.1 i with|true=>l::qA i A|false=>qA i A
def F5(P:Program)(X:List (Nat×cH))(ops:Array Oper)(a:List (List (Nat×List Nat))->Fr->aI->Prop)(A:List (List (Nat×List Nat))):List (Nat×List Nat)->Fr->aI->Prop
 | [],_,_=>True
 | [(i,js)],ρ,h=>(match ops[i]? with|none=>False|some o=>pP P X ops o ρ h λρ' h'=>fy P ops ρ' h' js (a (qA i A) ρ' h'))
 |(i,js)::l,ρ,h=>(match ops[i]? with|none=>False|some o=>pP P X ops o ρ h λρ' h'=>fy P ops ρ' h' js (a (qA i A) ρ' h'))/\F5 P X ops a A l ρ h
def Kq(P:Program)(X:List (Nat×cH))(ops:Array Oper)(K:Fr->aI->Prop):Nat->List (List (Nat×List Nat))->Fr->aI->Prop
 |0,_,_,_=>False
 |_+1,[],_,_=>False
 |n+1,a::A,ρ,h=>Hs P X ops (lC ops a) ρ h λρ' h'=>
  match iW ops a with
  | []=>K ρ' h'
  |_::_=>let B:=(a::A).map (iW ops);F5 P X ops (Kq P X ops K n) B (jf B) ρ' h'
abbrev KK:=Value->aI->Prop
def KH{α γ:Sort _}(f:α->γ){a a':α}(h:a=a'):f a=f a':=congrArg f h
def LW{α β γ:Sort _}(f:α->β->γ){a a':α}{b b':β}(h:a=a')(g:b=b'):f a b=f a' b':=by rw[h,g]
def Am{p q:Nat->Prop}(h: ∀n,p n=q n):(∃n,p n)= ∃n,q n:=congrArg _ (funext h)
structure bh where
 cuts:List (Nat×List Nat)
 alts:List (Nat×List (List (Nat×List Nat)))
def Dk{α:Type}:List (Nat×α)->Nat->Option α
 | [],_=>none
 |(k,v)::r,t=>match Nat.beq k t with|true=>some v|false=>Dk r t
def sS:Code->Option Nat
 | .region id _ _=>some id
 | .seq a _=>sS a
 | .block _ c=>sS c
 | .loop c=>sS c
 |_=>none
def pZ(T:bh)(c:Code):Option (List Nat):=
 match sS c with
 |some id=>Dk T.cuts id
 |none=>none
def EB(q:Option (List Nat))(ρ:Fr):Fr:=match q with|some L=>cut L ρ|none=>ρ
abbrev XK:=Exit->Fr->aI->Prop
abbrev lK:=(Fr->aI->Prop)->Fr->aI->Prop
def Df(S:lK)(q:Option (List Nat))(κ:Fr->aI->Prop)(K:Exit->Fr->aI->Prop):Exit->Fr->aI->Prop:=λe ρ h=>
 match e with
 | .normal=>(match q with|some L=>S κ (cut L ρ) h|none=>κ ρ h)
 |e=>K e ρ h
def zA(S:lK)(q:Option (List Nat))(κ:Fr->aI->Prop)(K:Exit->Fr->aI->Prop):Exit->Fr->aI->Prop:=λe ρ h=>
 match e with
 | .normal=>S κ (EB q ρ) h
 |e=>K e ρ h
def pR(id:Nat)(K:Exit->Fr->aI->Prop):Exit->Fr->aI->Prop:=λe ρ h=>match e with| .exit i=>(match Nat.beq i id with|true=>K .normal ρ h|false=>K (.exit i) ρ h)|e=>K e ρ h
def qT(S:lK)(body:(Exit->Fr->aI->Prop)->Fr->aI->Prop)(q:Option (List Nat))(K:Exit->Fr->aI->Prop):Nat->Fr->aI->Prop
 |0,_,_=>False
 |n+1,ρ,h=>body (zA S q (qT S body q K n) K) ρ h
def E(P:Program)(X:List (Nat×cH))(T:bh)(S:lK):Code->(Exit->Fr->aI->Prop)->Fr->aI->Prop
 | .skip,K,ρ,h=>K .normal ρ h
 | .region id ops draw,K,ρ,h=>match draw with
  |false=>Kk P X ops ops.toList ρ h λρ' h'=>K .normal ρ' h'
  |true=>match Dk T.alts id with
   |some ls=>(match Nat.ble 5 ls.length with
    |true=>Kq P X ops (λρ' h'=>K .normal ρ' h') (ops.size+1) ls ρ h
    |false=>GU P X ops ls ρ h λρ' h'=>K .normal ρ' h')
   |none=>False
 | .seq a b,K,ρ,h=>E P X T S a (Df S (pZ T b) (E P X T S b K) K) ρ h
 | .cond c a b,K,ρ,h=>match ev ρ c with
  |some (.bool t)=>aJ t (E P X T S a K ρ h) (E P X T S b K ρ h)
  |_=>False
 | .block id c,K,ρ,h=>E P X T S c (pR id K) ρ h
 | .loop c,K,ρ,h=> ∃n,S (qT S (E P X T S c) (pZ T c) K n) (EB (pZ T c) ρ) h
 | .exit id,K,ρ,h=>K (.exit id) ρ h
 | .ret,K,ρ,h=>K .ret ρ h
 | .label _,K,ρ,h=>K .normal ρ h
 |_,_,_,_=>False
def sub:Code->List Nat->Code
 |c,[]=>c
 | .seq a _,0::p=>sub a p
 | .seq _ b,1::p=>sub b p
 | .cond _ a _,0::p=>sub a p
 | .cond _ _ b,1::p=>sub b p
 | .block _ c,0::p=>sub c p
 | .loop c,0::p=>sub c p
 |_,_=> .skip
abbrev S0:lK:=λκ ρ h=>κ ρ h
def wE(P:Program):List ResultVar->Fr->aI->(List Value->Prop)->Prop
 | [],_,_,K=>K []
 | .tmp t::r,ρ,h,K=>dC (get ρ t) λv=>wE P r ρ h λvs=>K (v::vs)
 | .cell a t::r,ρ,h,K=>match get ρ a with
  |some (.pointer p)=>t8 P t h p λv=>wE P r ρ h λvs=>K (v::vs)
  |_=>False
def fin(P:Program)(rs:List ResultVar)(K:Value->aI->Prop)(e:Exit)(ρ:Fr)(h:aI):Prop:=
 match e with
 | .ret=>wE P rs ρ h λvs=>(match vs with| [v]=>K v h|vs=>K (.tuple vs.toArray) h)
 | .normal=>wE P rs ρ h λvs=>(match vs with| [v]=>K v h|vs=>K (.tuple vs.toArray) h)
 |_=>False
def jD:Nat->List Value->Fr
 |_,[]=> []
 |i,v::vs=>(i,v)::jD (i+1) vs
def Gb(f:Operand->Option Value)(xs:Array Operand)(σ:Operand->Value):Prop:= ∀x∈xs,∀v,f x=some v->σ x=v
def Fc(P:Program)(o:Oper)(f:Operand->Option Value)(h:aI)(v:Value):Prop:=
 ∀σ,Gb f o.op.operands σ-> ∀w:World,w.heap=h->(execOp σ o).run P w= .ok (.value v) w
def be(h:dC x K): ∃v,x=some v/\K v:=by
 cases x with
 |none=>exact h.elim
 |some v=>exact⟨v,rfl,h⟩
def eV(h:aJ b p q):(b=true/\p)\/(b=false/\q):=by
 cases b
 ·exact .inr ⟨rfl,h⟩
 ·exact .inl ⟨rfl,h⟩
def cI(h:aX p K): ∃a,p=some a/\K a:=by
 cases p with
 |none=>exact h.elim
 |some v=>exact⟨v,rfl,h⟩
def oK(h:GX z K): ∃v,K v:=by
 unfold GX at h;split at h
 ·obtain⟨n,h⟩:=h;exact⟨_,h⟩
 ·obtain⟨n,h⟩:=h;exact⟨_,h⟩
 ·obtain⟨n,h⟩:=h;exact⟨_,h⟩
 ·obtain⟨p,l,c,h⟩:=h;exact⟨_,h⟩
 ·obtain⟨n,h⟩:=h;exact⟨_,h⟩
 ·obtain⟨n,h⟩:=h;exact⟨_,h⟩
 ·exact h
def tZ: ∀{K:List Value->Prop},Kn zs K-> ∃vs,K vs:=by
 induction zs with
 |nil=>intro K h;exact⟨[],h⟩
 |cons z zs ih=>intro K h;obtain⟨v,h⟩:=oK h;obtain⟨vs,h⟩:=ih h;exact⟨_,h⟩
def BZ(h:K5 z K): ∃v,K v:=by
 unfold K5 at h;split at h
 ·obtain⟨vs,h⟩:=tZ h;exact⟨_,h⟩
 ·exact oK h
def tL: ∀{K:List Value->Prop},Km zs K-> ∃vs,K vs:=by
 induction zs with
 |nil=>intro K h;exact⟨[],h⟩
 |cons z zs ih=>intro K h;obtain⟨v,h⟩:=BZ h;obtain⟨vs,h⟩:=ih h;exact⟨_,h⟩
def dU(h:Dw z x K): ∃v,x=some v/\K v:=oK h
def zh{a:Addr}: ∀{zs:List Value} {i:Nat} {K:List Value->Prop},Kz h a i zs K-> ∃vs:List Value,vs.length=zs.length/\(∀j v,vs[j]? =some v->rd h (a.add (i+j))=some v)/\K vs:=by
 intro zs
 induction zs with
 |nil=>intro i K H;exact⟨[],rfl,ak,H⟩
 |cons z zs ih=>
  intro i K H;obtain⟨v,hv,H⟩:=dU H;obtain⟨vs,hl,hr,H⟩:=ih H;refine⟨v::vs,by simp[hl],λj u hj=> ?_,H⟩;cases j with
  |zero=>simp at hj;subst hj;exact hv
  |succ j=>have:=hr j u (by simpa using hj);rw[<-this];congr 2;omega
def gY(w:World)(a:Addr):w.cell? a=rd w.heap a:=rfl
def ik(w:World)(a:Addr):w.frozen? a=fz w.heap a:=rfl
def th(w:World)(a:Addr)(v:Value):(w.setCell a v).heap=wr w.heap a v:=rfl
def bE{P:Program}(h:P.underlying t=some d)(w:World):(underlying t).run P w= .ok d w:=run_underlying h w
def mu{P:Program}(h:P.info? t=some i)(w:World):(typeInfo t).run P w= .ok i w:=by simp[typeInfo,h]
def cY{P:Program}{i:TypeInfo}(h:P.info? t=some i)(w:World):(sizeOf t).run P w= .ok i.size w:=by simp[sizeOf,mu h]
def oU(h:zv P t=some z)(w:World):(zeroValue t).run P w= .ok z w:=by
 unfold zv at h;cases hi:P.info? t with
 |none=>simp[hi]at h
 |some i=>simp[hi]at h;simp[zeroValue,mu hi,h]
def tM{P:Program}(h:P.underlying t=some d): ∃i,P.info? t=some i:=by
 unfold Program.underlying at h;cases hi:P.info? t with
 |none=>simp[hi]at h
 |some i=>exact⟨i,rfl⟩
def gM{P:Program}{i:TypeInfo}(h:P.info? t=some i):P.cellsOf t=i.size:=by simp[Program.cellsOf,h]
def kZ{P:Program}(h:P.underlying t=some d)(w:World):(isAgg t).run P w= .ok (Js d) w:=by simp only[isAgg,Sem.run_bind,bE h,Result.andThen_ok];cases d<;>rfl
def Ae: ∀{zs:List Value} {i:Nat} {K:List Value->Prop},KZ l b i zs K-> ∃vs:List Value,vs.length=zs.length/\(∀j v,vs[j]? =some v->l[b+(i+j)]? =some v)/\K vs:=by
 intro zs
 induction zs with
 |nil=>intro i K H;exact⟨[],rfl,ak,H⟩
 |cons z zs ih=>
  intro i K H;obtain⟨v,hv,H⟩:=dU H;obtain⟨vs,hl,hr,H⟩:=ih H;refine⟨v::vs,by simp[hl],λj u hj=> ?_,H⟩;cases j with
  |zero=>simp at hj;subst hj;exact hv
  |succ j=>have:=hr j u (by simpa using hj);rw[<-this];congr 2;omega
def nF(H:t8 P t h p K):
  ∃v,K v/\ ∀w:World,w.heap=h->(Instr.loadAt t (.pointer p)).run P w= .ok v w:=by
 unfold t8 at H;split at H
 case h_2=>exact H.elim
 rename_i d z hd hz;obtain⟨i,hi⟩:=tM hd;split at H
 ·rename_i ha;split at H
  case h_2=>exact H.elim
  rename_i zs;split at H
  case h_2=>exact H.elim
  rename_i hs;have hs:=MH hs
  have HH: ∃a,p=some a/\ ∃vs:List Value,vs.length=zs.toList.length/\(∀j v,vs[j]? =some v->rd h (a.add (0+j))=some v)/\K (.agg vs.toArray):=by
   split at H
   ·obtain⟨a,e,H⟩:=cI H;obtain⟨vs,hl,hr,H⟩:=H;exact⟨a,e,vs,by simpa using hl,λj v hj=>by rw[LX];exact hr j v hj,H⟩
   ·obtain⟨a,e,H⟩:=cI H;exact⟨a,e,zh H⟩
  obtain⟨a,rfl,vs,hl,hr,H⟩:=HH;refine⟨_,H,λw hw=> ?_⟩
  have b:(loadCells a i.size).run P w= .ok vs.toArray w:=by have:=run_loadCells_list (P:=P) (w:=w) a vs (λj v hj=>by rw[gY,hw,<-hr j v hj];simp);rw[<-this,hl,<-gM hi,<-hs];simp
  simp[Instr.loadAt,Instr.sureAddr,loadVar,kZ hd,ha,cY hi,b]
 ·rename_i ha;obtain⟨a,rfl,H⟩:=cI H;obtain⟨v,hv,H⟩:=dU H;refine⟨v,H,λw hw=> ?_⟩;have hc:w.cell? a=some v:=by rw[gY,hw,hv]
  simp[Instr.loadAt,Instr.sureAddr,loadVar,kZ hd,ha,hc]
def wv(hs:Jl op=false)(H:Gi op k a b K):
  ∃v,K v/\ ∀w:World,(binOp op t (.int k a) (.int k b)).run P w= .ok v w:=by
 cases op<;>simp only[Gi]at H
 case quo=>obtain⟨hb,H⟩:=H;exact⟨_,H,λw=>by simp[binOp,Op.intDiv,hb]⟩
 case rem=>obtain⟨hb,H⟩:=H;exact⟨_,H,λw=>by simp[binOp,Op.intDiv,hb]⟩
 case and=>exact⟨_,H,λw=>by simp[binOp];rfl⟩
 case or=>exact⟨_,H,λw=>by simp[binOp];rfl⟩
 case xor=>exact⟨_,H,λw=>by simp[binOp];rfl⟩
 case andNot=>exact⟨_,H,λw=>by simp[binOp];rfl⟩
 all_goals exact⟨_,H,λw=>by simp[binOp,Op.intArith,Op.intCmp]⟩
def yS(H:KB op k a b K):
  ∃v,K v/\ ∀w:World,(binOp op t (.int k a) (.int k' b)).run P w= .ok v w:=by
 cases op<;>simp only[KB]at H<;>first
  |exact H.elim
  |(obtain⟨hb,H⟩:=H
    have c: ¬b<0:=ah;exact⟨_,H,λw=>by simp[binOp,Op.shift,c]⟩)
def m8(h:FY k k'=true):k=k':=by cases k<;>cases k'<;>first|rfl|(simp[FY]at h)
def iD{P:Program}(hd:P.underlying t=some d)(ha:Js d=false)(cs:Array Value)(off:Nat)(v:Value)(hv:cs[off]? =some v)(w:World):
  (part t cs off).run P w= .ok v w:=by
 simp[part,kZ hd,ha,hv]
def LD{P:Program}{xs ys:Array Value}(d:Nat)(w:World): ∀(fs:List Field) (n:Nat) (b:Bool),
  (∀(i:Nat) (f:Field),fs[i]? =some f→f.offset=n+i∧f.name≠ "_" ∧(∃k,P.underlying f.type=some (.int k)))→
  (xs.toList.drop n).length=fs.length->yq (xs.toList.drop n) (ys.toList.drop n)=some b->(Op.eqFields (d+1) xs ys fs).run P w= .ok b w:=by
 intro fs
 induction fs with
 |nil=>
  intro n b _ hl he;have h0:xs.toList.drop n=[]:=MQ hl;rw[h0]at he;cases hy:ys.toList.drop n with
  |nil=>rw[hy]at he;simp[yq]at he;subst he;simp[Op.eqFields]
  |cons y l=>rw[hy]at he;simp[yq]at he
 |cons f fs ih=>
  intro n b hf hl he;obtain⟨ho,hn,hk⟩:=hf 0 f rfl;cases hx:xs.toList.drop n with
  |nil=>rw[hx]at hl;simp at hl
  |cons x xl=>
   cases hy:ys.toList.drop n with
   |nil=>rw[hx,hy]at he;cases x<;>simp[yq]at he
   |cons y yl=>
    have hxn:xs[n]? =some x:=by have:=congrArg (·[0]?) hx;simpa using this
    have hyn:ys[n]? =some y:=by have:=congrArg (·[0]?) hy;simpa using this
    have hx':xs.toList.drop (n+1)=xl:=by rw[<-PC,hx];rfl
    have hy':ys.toList.drop (n+1)=yl:=by rw[<-PC,hy];rfl
    rw[hx,hy]at he;have ih':=λb h=>ih (n+1) b (λi g hg=>by have:=hf (i+1) g (by simpa using hg);rw[this.1];exact⟨ah,this.2⟩) (by rw[hx'];rw[hx]at hl;simpa using hl) h;rw[hx',hy']at ih'
    have hpx:(part f.type xs f.offset).run P w= .ok x w:=by rw[ho];obtain⟨k,hk⟩:=hk;exact iD hk rfl _ _ _ hxn w
    have hpy:(part f.type ys f.offset).run P w= .ok y w:=by rw[ho];obtain⟨k,hk⟩:=hk;exact iD hk rfl _ _ _ hyn w
    simp only[Op.eqFields,Sem.run_ite,hn,Pp,not_false_iff,PF,Sem.run_bind,hpx,hpy,Result.andThen_ok];unfold yq at he;split at he
    ·simp at*
    ·rename_i k a _ k' c _ e1 e2;simp only[Ng]at e1 e2;obtain⟨rfl,rfl⟩:=e1;obtain⟨rfl,rfl⟩:=e2;split at he
     case h_2=>simp at he
     rename_i hkk;split at he
     case h_2=>simp at he
     rename_i r hr;simp only[MT]at he;have hkk:=m8 hkk;subst hkk;obtain⟨k2,hk⟩:=hk;rw[run_equalIn_int w d _ _ _ _ _ hk];simp only[Result.andThen_ok];by_cases hac:a=c
     ·subst hac;simp at he;subst he;simpa using ih' _ hr
     ·have:(a==c)=false:=by simpa using hac
      simp[this]at he;subst he;simp[this]
    ·simp at he
def LI{P:Program}{xs ys:Array Value}(hk:P.underlying e=some (.int k))(hc:P.cellsOf e=1)(d:Nat)(w:World): ∀(m n:Nat) (b:Bool),
  (xs.toList.drop n).length=m->yq (xs.toList.drop n) (ys.toList.drop n)=some b->(Op.eqItems (d+1) e (P.cellsOf e) xs ys (List.range' n m)).run P w= .ok b w:=by
 intro m;rw[hc]
 induction m with
 |zero=>
  intro n b hl he;have h0:xs.toList.drop n=[]:=MQ hl;rw[h0]at he;cases hy:ys.toList.drop n with
  |nil=>rw[hy]at he;simp[yq]at he;subst he;simp[Op.eqItems]
  |cons y l=>rw[hy]at he;simp[yq]at he
 |succ m ih=>
  intro n b hl he;cases hx:xs.toList.drop n with
  |nil=>rw[hx]at hl;simp at hl
  |cons x xl=>
   cases hy:ys.toList.drop n with
   |nil=>rw[hx,hy]at he;cases x<;>simp[yq]at he
   |cons y yl=>
    have j:xs[n]? =some x:=by have:=congrArg (·[0]?) hx;simpa using this
    have u:ys[n]? =some y:=by have:=congrArg (·[0]?) hy;simpa using this
    have g:xs.toList.drop (n+1)=xl:=by rw[<-PC,hx];rfl
    have q:ys.toList.drop (n+1)=yl:=by rw[<-PC,hy];rfl
    rw[hx,hy]at he;have i:=λb h=>ih (n+1) b (by rw[g];rw[hx]at hl;simpa using hl) h;rw[g,q]at i;have o:(part e xs (n*1)).run P w= .ok x w:=iD hk rfl _ _ _ (by simpa using j) w;have t:(part e ys (n*1)).run P w= .ok y w:=iD hk rfl _ _ _ (by simpa using u) w;rw[List.range'_succ];simp only[Op.eqItems,Sem.run_bind,o,t,Result.andThen_ok];unfold yq at he;split at he
    ·simp at*
    ·rename_i k a _ k' c _ e1 e2;simp only[Ng]at e1 e2;obtain⟨rfl,rfl⟩:=e1;obtain⟨rfl,rfl⟩:=e2;split at he
     case h_2=>simp at he
     rename_i f;split at he
     case h_2=>simp at he
     rename_i r hr;simp only[MT]at he;have f:=m8 f;subst f;rw[run_equalIn_int w d _ _ _ _ _ hk];simp only[Result.andThen_ok];by_cases hac:a=c
     ·subst hac;simp at he;subst he;simpa using i _ hr
     ·have:(a==c)=false:=by simpa using hac
      simp[this]at he;subst he;simp[this]
    ·simp at he
def vk{P:Program}(h:BI P t e=true):P.eqGuardType P.depth t=false/\(∃k,P.underlying e=some (.int k))/\P.cellsOf e=1/\ ∃i,P.info? e=some i:=by
 simp only[BI,MG,MX,Oe,NJ]at h;refine⟨h.1.1.1,?_,h.1.2,h.2⟩;have h3:=h.1.1.2;split at h3
 ·rename_i k hk;exact⟨k,hk⟩
 ·simp at h3
def yJ{P:Program}(hu:P.underlying t=some (.struct fs))(h:BA P t=true):
  P.stoodInHeld t=false∧P.eqGuardType P.depth t=false∧ ∀(i:Nat) (f:Field),fs[i]? =some f→f.offset=i∧f.name≠ "_" ∧(∃k,P.underlying f.type=some (.int k)):=by
 simp only[BA,hu,MG,MX,MZ]at h;refine⟨h.1.1.1,h.1.1.2,λi f hf=> ?_⟩
 have:=h.1.2 (f,i) (by rw[MC];exact⟨i,by simp[List.getElem?_zipIdx,hf]⟩)
 simp only[Oe,PH,Pp]at this;refine⟨this.1.1,this.1.2,?_⟩;have h3:=this.2;split at h3
 ·rename_i k hk;exact⟨k,hk⟩
 ·simp at h3
def qN(H:Gh P h t x y K):
  ∃b,K b/\(∀(op:BinOp) (u v:Operand) (w:World),(eqGuard op t u v x y).run P w= .ok () w)/\(∀w:World,w.heap=h->(Op.equal t x y).run P w= .ok b w)/\
   (∀w:World,(binOp .eql t x y).run P w=((Op.equal t x y).run P w).andThen λb w'=> .ok (.bool b) w')/\
   (∀w:World,(binOp .neq t x y).run P w=((Op.equal t x y).run P w).andThen λb w'=> .ok (.bool (!b)) w'):=by
 have m:Op.maxDepth=9999+1:=rfl;unfold Gh at H;split at H
 ·rename_i hd;split at H
  case h_2=>exact H.elim
  refine⟨_,H,λop u v w=>by simp[eqGuard_at_bool],λw _=>by unfold Op.equal;rw[m];exact run_equalIn_bool' w _ _ _ _ hd,λw=> ?_,λw=> ?_⟩<;>simp[binOp]
 ·rename_i e hd
  have key: ∀(p q:Option Addr),(p=none\/q=none)-> ∀w:World,(Op.equal t (.pointer p) (.pointer q)).run P w= .ok (p.isNone&&q.isNone) w:=by intro p q l w;unfold Op.equal;rw[m];unfold Op.equalIn;cases p<;>cases q<;>simp[bE hd]at l ⊢
  split at H
  case h_4=>exact H.elim
  ·rename_i p;refine⟨_,H,λop u v w=>by simp[eqGuard_at_pointer],λw _=>by rw[key _ _ (.inr rfl)];simp,λw=> ?_,λw=> ?_⟩<;>cases p<;>simp[binOp]
  ·rename_i p _;refine⟨_,H,λop u v w=>by simp[eqGuard_at_pointer],λw _=>by rw[key _ _ (.inl rfl)];simp,λw=> ?_,λw=> ?_⟩<;>cases p<;>simp[binOp]
  ·rename_i a b;split at H
   case h_2=>exact H.elim
   rename_i j hj;split at H
   case h_2=>exact H.elim
   rename_i hz;have hz:j.size≠0:=λe=>by rw[e]at hz;cases hz
   by_cases hab:a=b
   ·subst hab;refine⟨true,H.1 rfl,λop u v w=>by simp[eqGuard_at_pointer],λw _=> ?_,λw=> ?_,λw=> ?_⟩
    ·unfold Op.equal;rw[m];unfold Op.equalIn;simp[bE hd,sizeOf,typeInfo,hj,run_sameAddr_same]
    ·simp[binOp]
    ·simp[binOp]
   ·obtain⟨⟨ca,ua,ha⟩,⟨cb,ub,hb⟩,hk⟩:=H.2 hab;refine⟨false,hk,λop u v w=>by simp[eqGuard_at_pointer],λw hw=> ?_,λw=> ?_,λw=> ?_⟩
    ·unfold Op.equal;rw[m];unfold Op.equalIn;subst hw;simp[bE hd,sizeOf,typeInfo,hj,hz,run_sameAddr_other w hab ha hb]
    ·simp[binOp]
    ·simp[binOp]
 ·rename_i fs hd;split at H
  case h_2=>exact H.elim
  rename_i xs ys d;split at H
  case h_2=>exact H.elim
  rename_i c;have c:=MH c;obtain⟨b,hb,H⟩:=be H;obtain⟨hp,hg,hf⟩:=yJ hd d;have g:P.fieldsOf t=fs:=by simp[Program.fieldsOf,hd]
  refine⟨b,H,λop u v w=>run_eqGuard_agg w op t u v xs ys hg,λw _=> ?_,λw=> ?_,λw=> ?_⟩
  ·unfold Op.equal;rw[m,run_equalIn_struct w _ t xs ys (by rw[g];exact hd) hp,g];exact LD 9998 w fs.toList 0 b (λi f o=>by have:=hf i f (by simpa using o);rw[this.1];exact⟨ah,this.2⟩) (by simpa using c) (by simpa using hb)
  ·rw[run_eql_struct];rfl
  ·rw[run_neq_struct];rfl
 ·rename_i n e hd;split at H
  case h_2=>exact H.elim
  rename_i xs ys d;split at H
  case h_2=>exact H.elim
  rename_i c;have c:=MH c;obtain⟨b,hb,H⟩:=be H;obtain⟨hg,⟨k,hk⟩,hc,i,hi⟩:=vk d;refine⟨b,H,λop u v w=>run_eqGuard_agg w op t u v xs ys hg,λw _=> ?_,λw=> ?_,λw=> ?_⟩
  ·unfold Op.equal;rw[m,run_equalIn_array w _ xs ys hd hi,List.range_eq_range'];exact LI hk hc 9998 w n 0 b (by simpa using c) (by simpa using hb)
  ·rw[run_eql_struct];rfl
  ·rw[run_neq_struct];rfl
 ·rename_i e hd;split at H
  case h_2=>exact H.elim
  rename_i p _ _ _ _;refine⟨_,H,λop u v w=>by simp[eqGuard_at_slice],λw _=> ?_,λw=> ?_,λw=> ?_⟩
  ·unfold Op.equal;rw[m];unfold Op.equalIn;cases p<;>simp[bE hd]
  ·cases p<;>simp[binOp]
  ·cases p<;>simp[binOp]
 ·exact H.elim
def vo(H:GZ P h op t x y K):
  ∃v,K v/\(∀(u v:Operand) (w:World),(eqGuard op t u v x y).run P w= .ok () w)/\ ∀w:World,w.heap=h->(binOp op t x y).run P w= .ok v w:=by
 unfold GZ at H;split at H
 ·rename_i k a k' b;split at H
  ·rename_i hs;obtain⟨v,hv,hr⟩:=yS (P:=P) (t:=t) (k':=k') H;exact⟨v,hv,λu v w=>by simp[eqGuard_at_int],λw _=>hr w⟩
  ·rename_i hs;split at H
   case h_2=>exact H.elim
   rename_i hk;have:=m8 hk;subst this;obtain⟨v,hv,hr⟩:=wv (P:=P) (t:=t) hs H;exact⟨v,hv,λu v w=>by simp[eqGuard_at_int],λw _=>hr w⟩
 ·split at H
  case h_3=>exact H.elim
  ·obtain⟨b,hb,hg,he,h1,h2⟩:=qN H;exact⟨_,hb,hg _,λw hw=>by rw[h1,he w hw];rfl⟩
  ·obtain⟨b,hb,hg,he,h1,h2⟩:=qN H;exact⟨_,hb,hg _,λw hw=>by rw[h2,he w hw];rfl⟩
def mE: ∀{xs:List Operand} {vs:List Value},yX ρ xs=some vs->vs.length=xs.length/\ ∀σ:Operand->Value,(∀x∈xs,∀v,ev ρ x=some v->σ x=v)->xs.map σ=vs:=by
 intro xs
 induction xs with
 |nil=>intro vs h;simp[yX]at h;subst h;simp
 |cons x xs ih=>
  intro vs h;simp only[yX]at h;split at h
  case h_2=>simp at h
  rename_i v hv;split at h
  case h_2=>simp at h
  rename_i us a;simp at h;subst h;obtain⟨hl,hm⟩:=ih a;refine⟨by simp[hl],λσ hσ=> ?_⟩;simp only[Mz];rw[hσ x ak v hv,hm σ λy hy=>hσ y (by simp[hy])]
def tC(H:Bx P s d x K):
  ∃v,K v/\ ∀w:World,(convert s d x).run P w= .ok v w:=by
 unfold Bx at H;split at H
 case h_2=>exact H.elim
 rename_i a k k' n hs hd;exact⟨_,H,λw=>by simp[convert,bE hs,bE hd,Conv.intToInt]⟩
def yI(H:KW op x K):
  ∃v,K v/\ ∀w:World,(Op.unary op x).run P w= .ok v w:=by
 unfold KW at H;split at H
 ·exact⟨_,H,λw=>by simp[Op.unary]⟩
 ·exact⟨_,H,λw=>by simp[Op.unary,Op.intArith]⟩
 ·exact⟨_,H,λw=>rfl⟩
 ·exact H.elim
def mX(H:kG P s x i K):
  ∃v,K v/\ ∀w:World,(Instr.fieldAt s x i).run P w= .ok v w:=by
 unfold kG at H;split at H
 case h_2=>exact H.elim
 rename_i fs p hs;split at H
 case h_2=>exact H.elim
 rename_i f hf;split at H
 case h_2=>exact H.elim
 rename_i ti c;split at H
 case h_2=>exact H.elim
 rename_i hz;obtain⟨a,rfl,H⟩:=cI H;have b: ¬ti.size=0:=λe=>by rw[e]at hz;simp at hz
 exact⟨_,H,λw=>by simp[Instr.fieldAt,bE hs,hf,Instr.sureAddr,fieldPlace,cY c,b]⟩
def ug{cs:Array Value}(H:Cf P t cs.toList off K):
  ∃v,K v/\ ∀w:World,(part t cs off).run P w= .ok v w:=by
 unfold Cf at H;split at H
 case h_2=>exact H.elim
 rename_i d ti hd a;split at H
 ·rename_i ha;exact⟨_,H,λw=>by simp[part,kZ hd,ha,cY a]⟩
 ·rename_i ha;obtain⟨v,hv,H⟩:=be H;exact⟨v,H,λw=>iD hd ha cs off v (by simpa using hv) w⟩
def sT(H:vB P s x i K):
  ∃v,K v/\ ∀w:World,(Instr.field s x i).run P w= .ok v w:=by
 unfold vB at H;split at H
 case h_2=>exact H.elim
 rename_i fs cs hs;split at H
 case h_2=>exact H.elim
 rename_i f hf;obtain⟨v,hv,hr⟩:=ug H;exact⟨v,hv,λw=>by simp[Instr.field,bE hs,hf,asAgg,hr]⟩
def mR(H:kV P t x i K):
  ∃v,K v/\ ∀w:World,(Instr.indexAt t x i).run P w= .ok v w:=by
 unfold kV at H;split at H
 ·rename_i n e p k j ht;split at H
  case h_2=>exact H.elim
  rename_i ti b;obtain⟨a,rfl,h0,h1,H⟩:=cI H;exact⟨_,H,λw=>by simp[Instr.indexAt,asIntOf,bE ht,Instr.sureAddr,h0,h1,cY b]⟩
 ·rename_i e p l c k j ht;split at H
  case h_2=>exact H.elim
  rename_i ti b;obtain⟨a,rfl,h0,h1,H⟩:=cI H;exact⟨_,H,λw=>by simp[Instr.indexAt,asIntOf,bE ht,h0,h1,cY b]⟩
 ·exact H.elim
def te(H:uZ P t x i K):
  ∃v,K v/\ ∀w:World,(Instr.index t x i).run P w= .ok v w:=by
 unfold uZ at H;split at H
 case h_3=>exact H.elim
 case h_2=>
  rename_i s k j ht;obtain⟨h0,b,hb,H⟩:=H
  exact⟨_,H,λw=>by simp only[Instr.index,asIntOf,Sem.run_bind,Sem.run_pure,Result.andThen_ok,bE ht];simp[h0,hb]⟩
 rename_i n e cs k j ht;split at H
 case h_2=>exact H.elim
 rename_i d ti hd a;split at H
 ·rename_i ha;obtain⟨h0,h1,H⟩:=H;split at H
  case h_2=>exact H.elim
  rename_i zs hz;split at H
  case h_2=>exact H.elim
  rename_i hs;have hs:=MH hs;have c:=gM a;obtain⟨vs,hl,hr,H⟩:=Ae H
  have hx:cs.extract (j.toNat*ti.size) (j.toNat*ti.size+ti.size)=vs.toArray:=by
   apply Array.toList_inj.1;rw[Array.toList_extract];apply MM;intro q;simp only[List.extract_eq_take_drop,Nat.add_sub_cancel_left,List.getElem?_take,List.getElem?_drop];have f:vs.length=ti.size:=by rw[<-c,<-hs];simpa using hl
   by_cases hq:q<ti.size
   ·rw[L4 hq];have hv:q<vs.length:=ah;have:=hr q vs[q] (Mj hv);rw[c,LX]at this;rw[this];simp[hv]
   ·rw[LY hq];symm;simp;omega
  exact⟨_,H,λw=>by simp only[Instr.index,asIntOf,Sem.run_bind,Sem.run_pure,Result.andThen_ok,bE ht];simp[h0,h1,cY a,part,kZ hd,ha,hx]⟩
 rename_i ha;obtain⟨h0,h1,H⟩:=H;split at H
 case h_2=>exact H.elim
 rename_i hc;obtain⟨z,-,H⟩:=be H;obtain⟨v,hv,H⟩:=dU H;have hs:ti.size=1:=by rw[<-gM a];exact hc
 exact⟨v,H,λw=>by simp only[Instr.index,asIntOf,Sem.run_bind,Sem.run_pure,Result.andThen_ok,bE ht];simp[h0,h1,cY a,hs,iD hd ha cs j.toNat v (by simpa using hv) w]⟩
def iw{P:Program}{k:IntKind}{i:Int}{y:Nat}{a:BoundsCode}(h0:0<=i)(h1:i<=y)(w:World):(Instr.sliceBound (.int k i) y a).run P w= .ok i.toNat w:=by simp[Instr.sliceBound,asIntOf,h0,h1]
def sq{P:Program}{t:TypeId}{x:Value}{lo hi:Option Value}{K:Value->Prop}(H:wD P t x lo hi K):
  ∃v,K v/\ ∀w:World,(Instr.sliceAt t x lo hi none).run P w= .ok v w:=by
 unfold wD at H;split at H
 ·rename_i e p l c ht;split at H
  case h_2=>exact H.elim
  rename_i ti d
  have b: ∀w,(Instr.sliceAt t (.slice p l c) lo hi none).run P w=((Instr.sliceBounds true l c lo hi none).run P w).andThen λr w'=>((sizeOf e).run P w').andThen λs f=> .ok (.slice (if r.2.2=r.1 then p else p.map (·.add (r.1*s))) (r.2.1-r.1) (r.2.2-r.1)) f:=by intro w;simp[Instr.sliceAt,bE ht,Instr.slice]
  split at H
  ·rename_i k j;obtain⟨h0,h1,H⟩:=H;refine⟨_,H,λw=> ?_⟩;rw[b];simp[Instr.sliceBounds,iw h0 h1,cY d]
  ·rename_i k i;obtain⟨h0,h1,H⟩:=H;refine⟨_,H,λw=> ?_⟩;rw[b];simp[Instr.sliceBounds,iw h0 h1,cY d]
  ·rename_i k i k' j;obtain⟨h0,h1,h2,h3,H⟩:=H;refine⟨_,H,λw=> ?_⟩;rw[b];have g:i<=(j.toNat:Int):=ah;simp[Instr.sliceBounds,iw h0 h1,iw h2 g,cY d]
  ·refine⟨_,H,λw=> ?_⟩;rw[b];simp[Instr.sliceBounds,cY d]
  ·exact H.elim
 ·rename_i n e p ht;split at H
  case h_2=>exact H.elim
  rename_i ti d
  have b: ∀(a:Addr) w,(Instr.sliceAt t (.pointer (some a)) lo hi none).run P w=((Instr.sliceBounds false n n lo hi none).run P w).andThen λr w'=>((sizeOf e).run P w').andThen λs f=> .ok (.slice (some (if r.2.2=r.1 then a else a.add (r.1*s))) (r.2.1-r.1) (r.2.2-r.1)) f:=by intro a w;simp[Instr.sliceAt,bE ht,Instr.sureAddr]
  split at H
  ·rename_i k j;obtain⟨a,rfl,h0,h1,H⟩:=cI H;refine⟨_,H,λw=> ?_⟩;rw[b];simp[Instr.sliceBounds,iw h0 h1,cY d]
  ·obtain⟨a,rfl,H⟩:=cI H;refine⟨_,H,λw=> ?_⟩;rw[b];simp[Instr.sliceBounds,cY d]
  ·rename_i k i;obtain⟨a,rfl,h0,h1,H⟩:=cI H;refine⟨_,H,λw=> ?_⟩;rw[b];simp[Instr.sliceBounds,iw h0 h1,cY d]
  ·exact H.elim
 ·exact H.elim
def gn{w:World}(h:mp w.heap b=some (es,cl)):w.heap[b]? =some (.map es cl):=by
 unfold mp at h;split at h
 ·rename_i a c hb;simp at h;obtain⟨rfl,rfl⟩:=h;exact hb
 ·simp at h
def di{w:World}(h:w.heap[b]? =some (.map es cl)):(getObj b).run P w= .ok (.map es cl) w:=by simp[getObj,Sem.run,h]
def df{P:Program}(h:P.underlying kt=some (.int k))(w:World):(Instr.checkKey b 10000 kt (.int k' n)).run P w= .ok () w:=by have m:(10000:Nat)=9999+1:=rfl;rw[m];unfold Instr.checkKey;simp[bE h]
def dz{P:Program}(h:P.underlying kt=some (.int k))(hf:Instr.findNow (.int k) (.int k' n) es 0=some o)(w:World):
  (Instr.findKey kt (.int k' n) es).run P w= .ok o w:=by
 simp[Instr.findKey,bE h,hf]
def qD(H:sf P t h x k ok K):
  ∃v,K v/\ ∀w:World,w.heap=h->(Instr.lookup t x k ok).run P w= .ok v w:=by
 unfold sf at H;split at H
 case h_2=>exact H.elim
 rename_i kt et r kk kn ht;split at H
 case h_2=>exact H.elim
 rename_i k1 z hk hz;obtain⟨b,rfl,es,cl,hm,o,hf,H⟩:=be H
 have a: ∀w:World,w.heap=h->(Instr.lookup t (.map (some b)) (.int kk kn) ok).run P w= .ok (if ok then .tuple #[(match o with|some (_,v)=>v|none=>z),.bool o.isSome]else(match o with|some (_,v)=>v|none=>z)) w:=by
  intro w hw;subst hw;have hb:=gn hm;cases o with
  |none=>simp[Instr.lookup,bE ht,di hb,df hk,dz hk hf,oU hz]
  |some q=>simp[Instr.lookup,bE ht,di hb,df hk,dz hk hf]
 unfold Lj at H;cases o with
 |none=>
  cases ok with
  |true=>
   obtain⟨v,hv,H⟩:=dU H;simp only[MT]at hv;subst hv;exact⟨_,H,λw hw=>by rw[a w hw];rfl⟩
  |false=>
   obtain⟨v,hv,H⟩:=dU H;simp only[MT]at hv;subst hv;exact⟨_,H,λw hw=>by rw[a w hw];rfl⟩
 |some q=>
  cases ok with
  |true=>
   obtain⟨v,hv,H⟩:=dU H;simp only[MT]at hv;subst hv;exact⟨_,H,λw hw=>by rw[a w hw];rfl⟩
  |false=>
   obtain⟨v,hv,H⟩:=dU H;simp only[MT]at hv;subst hv;exact⟨_,H,λw hw=>by rw[a w hw];rfl⟩
def v9{P:Program}(w:World): ∀(fs:List Field),(∀f∈fs,∃i,P.info? f.type=some i)->
  (fs.mapM (m:=Sem) λf=>do pure (f.offset,<-sizeOf f.type)).run P w= .ok (fs.map λf=>(f.offset,P.cellsOf f.type)) w:=by
 intro fs
 induction fs with
 |nil=>intro _;simp
 |cons f fs ih=>
  intro hf;obtain⟨i,hi⟩:=hf f ak;have:=ih λg hg=>hf g (by simp[hg]);simp only[List.mapM_cons,Sem.run_bind,cY hi,Result.andThen_ok,Sem.run_pure,Mz,gM hi];rw[this]
  rfl
def sP{ix:List Nat}(H:sM P t (some vs) ix K):
  ∃v,K v/\ ∀w:World,(Instr.build t (ix.zip vs).toArray).run P w= .ok v w:=by
 unfold sM at H;split at H
 ·rename_i fs z b ht hz hv;simp only[MT]at hv;subst hv;split at H
  case h_2=>exact H.elim
  rename_i a;obtain⟨cells,hc,H⟩:=be H
  have hi: ∀f∈fs.toList,∃i,P.info? f.type=some i:=λf hf=>by have:=MZ.1 a f hf;exact NJ.1 this
  refine⟨_,H,λw=> ?_⟩
  have hm:(fs.mapM (m:=Sem) λf=>do pure (f.offset,<-sizeOf f.type)).run P w= .ok (fs.map λf=>(f.offset,P.cellsOf f.type)) w:=by
   have h1:=v9 (P:=P) w fs.toList hi;rw[Array.mapM_eq_mapM_toList];simp only[Sem.run_map];rw[h1];simp only[Result.andThen_ok]
   congr 1
   apply Oj;simp
  simp only[Instr.build,Sem.run_bind,oU hz,Result.andThen_ok,bE ht,hm,hc,Sem.run_pure]
 ·rename_i n e z b ht hz hv;simp only[MT]at hv;subst hv;split at H
  case h_2=>exact H.elim
  rename_i a;obtain⟨i,hi⟩:=NJ.1 a;obtain⟨cells,hc,H⟩:=be H;refine⟨_,H,λw=> ?_⟩;rw[gM hi]at hc;simp only[Instr.build,Sem.run_bind,oU hz,Result.andThen_ok,bE ht,cY hi,hc,Sem.run_pure]
 ·exact H.elim
def sd(H:wH P t v K):
  ∃u,K u/\ ∀w:World,(Instr.makeInterface t v).run P w= .ok u w:=by
 unfold wH at H;split at H
 ·exact H.elim
 ·rename_i d a hd;refine⟨_,H,λw=> ?_⟩;simp only[Instr.makeInterface,Sem.run_bind,bE hd,Result.andThen_ok];cases d<;>first|(exfalso;exact a _ hd)|rfl
 ·exact H.elim
def qH(H:lP P t ok x K):
  ∃u,K u/\ ∀w:World,(Instr.typeAssert x xt t ok).run P w= .ok u w:=by
 unfold lP at H;split at H
 ·exact H.elim
 ·rename_i d _ s v b hd;split at H
  case h_2=>exact H.elim
  rename_i a;have a:=MH a;subst a;cases ok
  ·refine⟨_,H,λw=> ?_⟩;simp only[Instr.typeAssert,Sem.run_bind,bE hd,Result.andThen_ok];cases d<;>first|(exfalso;exact b _ _ hd rfl)|simp
  ·refine⟨_,H,λw=> ?_⟩;simp only[Instr.typeAssert,Sem.run_bind,bE hd,Result.andThen_ok];cases d<;>first|(exfalso;exact b _ _ hd rfl)|simp
 ·exact H.elim
def vW(H:G9 P t h x K):
  ∃v,K v/\ ∀w:World,w.heap=h->(Builtin.len_ #[t] ty #[x]).run P w= .ok v w:=by
 unfold G9 at H;split at H
 ·rename_i ht;exact⟨_,H,λw _=>by simp[Builtin.len_,bE ht,goInt]⟩
 ·rename_i ht;exact⟨_,H,λw _=>by simp[Builtin.len_,bE ht,goInt]⟩
 ·rename_i ht;exact⟨_,H,λw _=>by simp[Builtin.len_,bE ht,goInt]⟩
 ·rename_i ht;obtain⟨b,rfl,es,cl,hm,H⟩:=be H;refine⟨_,H,λw hw=> ?_⟩;subst hw;simp[Builtin.len_,bE ht,di (gn hm),goInt]
 ·exact H.elim
def ve(H:Gn P t x K):
  ∃v,K v/\ ∀w:World,(Builtin.cap_ #[t] ty #[x]).run P w= .ok v w:=by
 unfold Gn at H;split at H
 ·rename_i ht;exact⟨_,H,λw=>by simp[Builtin.cap_,bE ht,goInt]⟩
 ·exact H.elim
def qK(H:Kr mx x y K):
  ∃v,K v/\ ∀w:World,(match mx with|true=>Builtin.max_ ats ty #[x,y]|false=>Builtin.min_ ats ty #[x,y]).run P w= .ok v w:=by
 unfold Kr at H;split at H
 ·cases mx
  ·exact⟨_,H,λw=>by simp[Builtin.min_,Builtin.min2]⟩
  ·exact⟨_,H,λw=>by simp[Builtin.max_,Builtin.max2]⟩
 ·exact H.elim
def vC(H:Gj v K)(dst:Option Tmp)(x:Operand)(type:TypeId)(pos:String)(after:Array Edge)(guard:Option (Nat×Bool))(σ:Operand->Value)(hσ:σ x=v):
  K v/\ ∀w:World,(execOp σ {dst,op:= .nilCheck x,type,pos,after,guard}).run P w= .ok (.value v) w:=by
 unfold Gj at H;split at H
 ·obtain⟨a,rfl,H⟩:=cI H;exact⟨H,λw=>by simp[execOp,hσ]⟩
 ·exact⟨H,λw=>by simp[execOp,hσ]⟩
 ·exact⟨H,λw=>by simp[execOp,hσ]⟩
 ·exact H.elim
def Cj{x:Option Operand}(h:Ke ρ x=some r)(σ:Operand->Value)(hσ: ∀y,x=some y-> ∀v,ev ρ y=some v->σ y=v):x.map σ=r:=by
 cases x with
 |none=>simp[Ke]at h;subst h;rfl
 |some y=>
  simp only[Ke]at h;split at h
  case h_2=>simp at h
  rename_i v hv;simp at h;subst h;simp[hσ y rfl v hv]
def qg{o:Oper}(H:vn P o.op ρ h K):
  ∃v,Fc P o (ev ρ) h v/\K v:=by
 obtain⟨dst,op,type,pos,after,guard⟩:=o
 have lift: ∀{s:(Operand->Value)->Sem Value} {v:Value},(∀σ,execOp σ ⟨dst,op,type,pos,after,guard⟩=(do pure (.value (<-s σ))))->
   (∀σ,Gb (ev ρ) op.operands σ-> ∀w:World,w.heap=h->(s σ).run P w= .ok v w)->Fc P ⟨dst,op,type,pos,after,guard⟩ (ev ρ) h v:=by
  intro s v he hs σ hσ w hw;rw[he σ];simp[hs σ hσ w hw]
 unfold vn at H;dsimp only at H;split at H
 ·obtain⟨v,hv,H⟩:=be H;exact⟨v,λσ hσ w hw=>by simp[execOp,hσ _ (by simp[Op.operands]) v hv],H⟩
 ·obtain⟨v,hv,H⟩:=be H;exact⟨v,λσ hσ w hw=>by simp[execOp,hσ _ (by simp[Op.operands]) v hv],H⟩
 ·rename_i c a b;split at H
  case h_2=>exact H.elim
  rename_i t hc
  have base: ∀v,(t=true->ev ρ a=some v)->(t=false->ev ρ b=some v)->Fc P ⟨dst,.pick c a b,type,pos,after,guard⟩ (ev ρ) h v:=by
   intro v h1 h2 σ hσ w hw;have g:=hσ c (by simp[Op.operands]) _ hc;cases t
   ·simp[execOp,g,asBool,hσ b (by simp[Op.operands]) _ (h2 rfl)]
   ·simp[execOp,g,asBool,hσ a (by simp[Op.operands]) _ (h1 rfl)]
  unfold Fp at H;split at H
  ·rename_i x y hx hy;exact⟨_,base _ (λht=>by subst ht;simpa using hx) (λht=>by subst ht;simpa using hy),H⟩
  ·rcases eV H with⟨rfl,H⟩|⟨rfl,H⟩
   ·obtain⟨v,hv,H⟩:=be H;exact⟨v,base v (λ_=>hv) (λh=>by simp at h),H⟩
   ·obtain⟨v,hv,H⟩:=be H;exact⟨v,base v (λh=>by simp at h) (λ_=>hv),H⟩
 ·rename_i x;obtain⟨v,hv,H⟩:=be H;have:=λσ hσ=>vC (P:=P) H dst x type pos after guard σ hσ;exact⟨v,λσ hσ w _=>(this σ (hσ _ (by simp[Op.operands]) v hv)).2 w,(this (λ_=>v) rfl).1⟩
 ·rename_i op t x y yt;obtain⟨a,ha,H⟩:=be H;obtain⟨b,hb,H⟩:=be H;obtain⟨v,hv,hg,hr⟩:=vo H
  exact⟨v,lift (λσ=>rfl) λσ hσ w hw=>by rw[hσ x (by simp[Op.operands]) a ha,hσ y (by simp[Op.operands]) b hb];simp[hg,hr w hw],hv⟩
 ·rename_i op t x;obtain⟨a,ha,H⟩:=be H;obtain⟨v,hv,hr⟩:=yI (P:=P) H;exact⟨v,lift (λσ=>rfl) λσ hσ w _=>by rw[hσ x (by simp[Op.operands]) a ha];exact hr w,hv⟩
 ·rename_i s d x;obtain⟨a,ha,H⟩:=be H;obtain⟨v,hv,hr⟩:=tC H;exact⟨v,lift (λσ=>rfl) λσ hσ w _=>by rw[hσ x (by simp[Op.operands]) a ha];exact hr w,hv⟩
 ·rename_i t x;split at H
  case h_2=>exact H.elim
  rename_i p hp;obtain⟨v,hv,hr⟩:=nF H;exact⟨v,lift (λσ=>rfl) λσ hσ w hw=>by rw[hσ x (by simp[Op.operands]) _ hp];exact hr w hw,hv⟩
 ·rename_i s x i;obtain⟨a,ha,H⟩:=be H;obtain⟨v,hv,hr⟩:=mX H;exact⟨v,lift (λσ=>rfl) λσ hσ w _=>by rw[hσ x (by simp[Op.operands]) a ha];exact hr w,hv⟩
 ·rename_i s x i;obtain⟨a,ha,H⟩:=be H;obtain⟨v,hv,hr⟩:=sT H;exact⟨v,lift (λσ=>rfl) λσ hσ w _=>by rw[hσ x (by simp[Op.operands]) a ha];exact hr w,hv⟩
 ·rename_i t x i;obtain⟨a,ha,H⟩:=be H;obtain⟨b,hb,H⟩:=be H;obtain⟨v,hv,hr⟩:=mR H;exact⟨v,lift (λσ=>rfl) λσ hσ w _=>by rw[hσ x (by simp[Op.operands]) a ha,hσ i (by simp[Op.operands]) b hb];exact hr w,hv⟩
 ·rename_i t x i;obtain⟨a,ha,H⟩:=be H;obtain⟨b,hb,H⟩:=be H;obtain⟨v,hv,hr⟩:=te H;exact⟨v,lift (λσ=>rfl) λσ hσ w _=>by rw[hσ x (by simp[Op.operands]) a ha,hσ i (by simp[Op.operands]) b hb];exact hr w,hv⟩
 ·rename_i t x lo hi;obtain⟨a,ha,H⟩:=be H;obtain⟨l,hl,H⟩:=be H;obtain⟨u,hu,H⟩:=be H;obtain⟨v,hv,hr⟩:=sq H
  exact⟨v,lift (λσ=>rfl) λσ hσ w _=>by rw[hσ x (by simp[Op.operands]) a ha,Cj hl σ (λy hy=>hσ y (by simp[Op.operands,hy])),Cj hu σ (λy hy=>hσ y (by simp[Op.operands,hy]))];exact hr w,hv⟩
 ·rename_i x i;obtain⟨a,ha,H⟩:=be H;unfold uj at H;split at H
  case h_2=>exact H.elim
  obtain⟨v,hv,H⟩:=be H;exact⟨v,lift (λσ=>rfl) λσ hσ w _=>by rw[hσ x (by simp[Op.operands]) _ ha];simp[Instr.extract,hv],H⟩
 ·rename_i t x k ok;obtain⟨a,ha,H⟩:=be H;obtain⟨b,hb,H⟩:=be H;obtain⟨v,hv,hr⟩:=qD H;exact⟨v,lift (λσ=>rfl) λσ hσ w hw=>by rw[hσ x (by simp[Op.operands]) a ha,hσ k (by simp[Op.operands]) b hb];exact hr w hw,hv⟩
 ·rename_i t ps;cases hvs:yX ρ (ps.toList.map (·.2))with
  |none=>rw[hvs]at H;unfold sM at H;split at H<;>first|exact H.elim|simp at*
  |some vs=>
   rw[hvs]at H;obtain⟨v,hv,hr⟩:=sP H;obtain⟨hl,hm⟩:=mE hvs;refine⟨v,lift (λσ=>rfl) λσ hσ w _=> ?_,hv⟩
   have e:(ps.map λ(i,x)=>(i,σ x))=((ps.toList.map (·.1)).zip vs).toArray:=by rw[<-hm σ λx hx=>hσ x (by simpa[Op.operands]using hx)];apply Oj;simp[List.zip_map',NL]
   rw[e];exact hr w
 ·rename_i t x;obtain⟨a,ha,H⟩:=be H;obtain⟨v,hv,hr⟩:=sd H;exact⟨v,lift (λσ=>rfl) λσ hσ w _=>by rw[hσ x (by simp[Op.operands]) a ha];exact hr w,hv⟩
 ·rename_i fn first f
  obtain⟨a,ha,H⟩:=be H;obtain⟨b,hb,H⟩:=be H;refine⟨_,lift (λσ=>rfl) λσ hσ w _=> ?_,H⟩;have h1:=(mE ha).2 σ λx hx=>hσ x (by simp only[Op.operands,Pn];exact .inl (by simpa using hx));have h2:=(mE hb).2 σ λx hx=>hσ x (by simp only[Op.operands,Pn];exact .inr (by simpa using hx));have e1:first.map σ=a.toArray:=by rw[<-h1];apply Oj;simp
  have e2:f.map σ=b.toArray:=by rw[<-h2];apply Oj;simp
  rw[e1,e2];rfl
 ·rename_i x xt t ok;obtain⟨a,ha,H⟩:=be H;obtain⟨v,hv,hr⟩:=qH (xt:=xt) H;exact⟨v,lift (λσ=>rfl) λσ hσ w _=>by rw[hσ x (by simp[Op.operands]) a ha];exact hr w,hv⟩
 ·rename_i b args ats;obtain⟨args⟩:=args;obtain⟨ats⟩:=ats;split at H
  ·rename_i x t e1 e2;dsimp only at e1 e2;subst e1;subst e2;obtain⟨a,ha,H⟩:=be H;obtain⟨v,hv,hr⟩:=vW (ty:=type) H;exact⟨v,lift (s:=λσ=>Builtin.len_ #[t] type #[σ x]) (λσ=>by simp[execOp,resolve,invoke,builtin]) λσ hσ w hw=>by rw[hσ x (by simp[Op.operands,Call.operands]) a ha];exact hr w hw,hv⟩
  ·rename_i x t e1 e2;dsimp only at e1 e2;subst e1;subst e2;obtain⟨a,ha,H⟩:=be H;obtain⟨v,hv,hr⟩:=ve (ty:=type) H;exact⟨v,lift (s:=λσ=>Builtin.cap_ #[t] type #[σ x]) (λσ=>by simp[execOp,resolve,invoke,builtin]) λσ hσ w hw=>by rw[hσ x (by simp[Op.operands,Call.operands]) a ha];exact hr w,hv⟩
  ·rename_i x y e1;dsimp only at e1;subst e1;obtain⟨a,ha,H⟩:=be H;obtain⟨b,hb,H⟩:=be H;obtain⟨v,hv,hr⟩:=qK (P:=P) (ats:=ats.toArray) (ty:=type) H;exact⟨v,lift (s:=λσ=>Builtin.max_ ats.toArray type #[σ x,σ y]) (λσ=>by simp[execOp,resolve,invoke,builtin]) λσ hσ w hw=>by rw[hσ x (by simp[Op.operands,Call.operands]) a ha,hσ y (by simp[Op.operands,Call.operands]) b hb];exact hr w,hv⟩
  ·rename_i x y e1;dsimp only at e1;subst e1;obtain⟨a,ha,H⟩:=be H;obtain⟨b,hb,H⟩:=be H;obtain⟨v,hv,hr⟩:=qK (P:=P) (ats:=ats.toArray) (ty:=type) H;exact⟨v,lift (s:=λσ=>Builtin.min_ ats.toArray type #[σ x,σ y]) (λσ=>by simp[execOp,resolve,invoke,builtin]) λσ hσ w hw=>by rw[hσ x (by simp[Op.operands,Call.operands]) a ha,hσ y (by simp[Op.operands,Call.operands]) b hb];exact hr w,hv⟩
  ·exact H.elim
 ·exact H.elim
def cw.refl(w:World):cw w w:=⟨rfl,rfl,rfl⟩
def cw.trans(h:cw a b)(k:cw b c):cw a c:=⟨k.1.trans h.1,k.2.1.trans h.2.1,k.2.2.trans h.2.2⟩
def nI(P:Program)(K:Value->aI->Prop)(w:World):Result Next->Prop
 | .ok (.value v) w'=>cw w w'/\K v w'.heap
 | .ok .skip w'=>cw w w'/\K undef w'.heap
 | .ok (.enter f args) w'=>cw w w'/\Calls P f args w' λe a=> ∃v,e= .returned v/\cw w' a/\K v a.heap
 |_=>False
def El(P:Program)(o:Oper)(f:Operand->Option Value)(h:aI)(K:Value->aI->Prop):Prop:=
 ∀σ,Gb f o.op.operands σ-> ∀w:World,w.heap=h->nI P K w ((execOp σ o).run P w)
def nI.mono(h:nI P K w r)(hk: ∀v h,K v h->K' v h):nI P K' w r:=by
 unfold nI at*
 split at h
 ·exact⟨h.1,hk _ _ h.2⟩
 ·exact⟨h.1,hk _ _ h.2⟩
 ·exact⟨h.1,h.2.mono λe a ⟨v,he,hs,hK⟩=>⟨v,he,hs,hk _ _ hK⟩⟩
 ·exact h.elim
def El.mono(H:El P o f h K)(hk: ∀v h,K v h->K' v h):El P o f h K':=
 λσ hσ w hw=>(H σ hσ w hw).mono hk
def lO(P:Program)(f:FuncId):cH->Prop
 | .go=> ∃fn,P.funcs[f]? =some fn∧(fn.name== "runtime.NumGoroutine")=false∧fn.body.isNone=false
 | .load k=> ∃fn,P.funcs[f]? =some fn∧(fn.name== "runtime.NumGoroutine")=false∧fn.body.isNone=true∧Extern.findNext fn=none∧Extern.find fn=some (Extern.Atomic.loadT (.int k))
 | .store=> ∃fn,P.funcs[f]? =some fn∧(fn.name== "runtime.NumGoroutine")=false∧fn.body.isNone=true∧Extern.findNext fn=none∧Extern.find fn=some Extern.Atomic.storeT
 | .cas k=> ∃fn,P.funcs[f]? =some fn∧(fn.name== "runtime.NumGoroutine")=false∧fn.body.isNone=true∧Extern.findNext fn=none∧Extern.find fn=some (Extern.Atomic.casT (.int k))
 | .add k=> ∃fn,P.funcs[f]? =some fn∧(fn.name== "runtime.NumGoroutine")=false∧fn.body.isNone=true∧Extern.findNext fn=none∧Extern.find fn=some (Extern.Atomic.update (Op.intArith .add) k true)
 | .ent _ _=>True
def uN(P:Program)(X:List (Nat×cH)):Prop:= ∀f e,bR X f=some e->lO P f e
def uN.ent(H:uN P X):uN P ((n,.ent k v)::X):=by
 intro f e h;simp only[bR]at h;split at h
 ·injection h with h;subst h
  trivial
 ·exact H f e h
def BD(P:Program)(X:List (Nat×cH)):Prop:= ∀p∈X,lO P p.1 p.2
def DF:BD P []:=by intro p hp;simp at hp
def jF(h:lO P f e)(hX:BD P X):BD P ((f,e)::X):=by
 intro p hp;rcases List.mem_cons.1 hp with rfl|hp
 ·exact h
 ·exact hX p hp
def Bl: ∀{X:List (Nat×cH)},bR X f=some e->(f,e)∈X:=by
 intro X
 induction X with
 |nil=>intro h;simp[bR]at h
 |cons p X ih=>
  intro h;obtain⟨k,u⟩:=p;simp only[bR]at h;split at h
  ·rename_i hb;have:=MH hb;subst this;simp at h;subst h;simp
  ·exact My _ (ih h)
def vX(h:BD P X):uN P X:=λf e hx=>h (f,e) (Bl hx)
def xS(h:lO P f .go)(args:Array Value)(w:World):(callFunc f args).run P w= .ok (.enter f args) w:=by obtain⟨fn,hf,hn,hb⟩:=h;simp only[callFunc,Sem.run_bind,run_program,Result.andThen_ok,hf,hn,hb,MD,Nf,Sem.run_pure]
def yH(H:DY P ty v K):K v:=by
 unfold DY at H;split at H
 ·obtain⟨zs,_,H⟩:=be H;obtain⟨vs,he,H⟩:=tL H;rw[he];exact H
 ·obtain⟨z,_,H⟩:=be H;split at H
  ·obtain⟨vs,he,H⟩:=tZ H;rw[he];exact H
  ·obtain⟨u,he,H⟩:=dU H;simp only[MT]at he;rw[he];exact H
 ·exact H.elim
def jG{args:List Value}(a:lO P f .go)(H:za P f args ty h K)(w:World)(hw:w.heap=h):
  nI P K w ((callFunc f args.toArray).run P w):=by
 rw[xS a];refine⟨cw.refl w,(H w hw).mono λe b ⟨v,he,hs,hK⟩=>⟨v,he,hs,yH hK⟩⟩
def zj(H:aY h a v K):
  K (wr h a v)/\ ∀(m:Mode) (w:World),w.heap=h->(store a v m).run P w= .ok () (w.setCell a v):=by
 unfold aY at H;split at H
 case h_2=>exact H.elim
 rename_i ho;obtain⟨hr,hf,H⟩:=H;refine⟨H,λm w hw=> ?_⟩;obtain⟨u,hu⟩:=NJ.1 hr;rw[run_store P w a v m ho];have h1:w.cell? a=some u:=by rw[gY,hw,hu]
 have h2:w.frozen? a=false:=by rw[ik,hw,hf]
 simp[h1,h2]
def lj: ∀{vs:List Value} {i:Nat} {h:aI} {K:aI->Prop},rH a i vs h K->
  ∀w:World,w.heap=h-> ∃w',(storeCells a vs i).run P w= .ok () w'/\cw w w'/\K w'.heap:=by
 intro vs
 induction vs with
 |nil=>intro i h K H w hw;exact⟨w,by simp[storeCells],cw.refl w,by rw[hw];exact H⟩
 |cons v vs ih=>
  intro i h K H w hw;obtain⟨H,hs⟩:=zj (P:=P) H;obtain⟨w',hr,b,hK⟩:=ih H (w.setCell (a.add i) v) (by rw[th,hw]);refine⟨w',?_,cw.trans ⟨rfl,rfl,rfl⟩ b,hK⟩;simp only[storeCells,Sem.run_bind];rw[hs .plain w hw];simp only[Result.andThen_ok,hr]
def xR(hX:uN P X){args:List Value}(H:Kv P X f args ty h K)(w:World)(hw:w.heap=h):
  nI P K w ((callFunc f args.toArray).run P w):=by
 unfold Kv at H;split at H
 ·rename_i hx;exact jG (hX _ _ hx) H w hw
 ·rename_i e i hx;have g:=hX _ _ hx;unfold IQ at H;split at H
  ·rename_i k p;obtain⟨a,rfl,n,hr,H⟩:=cI H;obtain⟨fn,hf,hn,hb,c,b⟩:=g;have hc:w.cell? a=some (.int k n):=by rw[gY,hw,hr]
   rw[run_call_load hf hn hb c k b hc];exact⟨cw.refl w,by rw[hw];exact H⟩
  ·rename_i p k y;obtain⟨a,rfl,H⟩:=cI H;obtain⟨fn,hf,hn,hb,c,b⟩:=g;unfold aY at H;split at H
   case h_2=>exact H.elim
   obtain⟨hr,d,H⟩:=H;obtain⟨u,hu⟩:=NJ.1 hr;have hc:w.cell? a=some u:=by rw[gY,hw,hu]
   have hz:w.frozen? a=false:=by rw[ik,hw,d]
   rw[run_call_store hf hn hb c b hc hz];exact⟨⟨rfl,rfl,rfl⟩,by rw[th,hw];exact H⟩
  ·rename_i k p k1 x k2 y;split at H
   case h_2=>exact H.elim
   rename_i e1 e2;have e1:=m8 e1;have e2:=m8 e2;subst e1;subst e2;obtain⟨a,rfl,n,hr,H⟩:=cI H;obtain⟨fn,hf,hn,hb,c,b⟩:=g;have hc:w.cell? a=some (.int k n):=by rw[gY,hw,hr]
   rcases eV H with⟨he,H2⟩|⟨he,H2⟩
   ·have he:n=x:=by simpa using he
    subst he;obtain⟨_,d,H2⟩:=H2;have hz:w.frozen? a=false:=by rw[ik,hw,d]
    rw[run_call_cas_hit hf hn hb c k b hc hz];exact⟨⟨rfl,rfl,rfl⟩,by rw[th,hw];exact H2⟩
   ·have he: ¬n=x:=by simpa using he
    obtain⟨d,H2⟩:=H2;have hz:w.frozen? a=false:=by rw[ik,hw,d]
    rw[run_call_cas_miss hf hn hb c k b hc hz he];exact⟨cw.refl w,by rw[hw];exact H2⟩
  ·rename_i k p k1 y;split at H
   case h_2=>exact H.elim
   rename_i e1;have e1:=m8 e1;subst e1;obtain⟨a,rfl,n,hr,_,d,H⟩:=cI H;obtain⟨fn,hf,hn,hb,c,b⟩:=g;have hc:w.cell? a=some (.int k n):=by rw[gY,hw,hr]
   have hz:w.frozen? a=false:=by rw[ik,hw,d]
   rw[run_call_add hf hn hb c k b hc hz (s:=k.wrap (n+y)) (by simp[Op.intArith])];exact⟨⟨rfl,rfl,rfl⟩,by rw[th,hw];exact H⟩
  ·exact H.elim
 ·exact H.elim
def vN(hX:uN P X){args:List Value}(H:FM P X f args ty h K)(w:World)(hw:w.heap=h):
  nI P K w ((do let d <-Deferred.ofValue f args.toArray;invoke d.target d.args).run P w):=by
 unfold FM dS at H;split at H
 case h_2=>exact H.elim
 rename_i g first a
 split at H
 case h_2=>exact H.elim
 rename_i hx;have:=jG (ty:=ty) (hX _ _ hx) H w hw
 have e:(first.toList++args++a.toList).toArray=first++args.toArray++a:=by apply Oj;simp
 rw[e]at this;simpa[Deferred.ofValue,invoke]using this
def AD(h:GW P t a=some f)(n:Nat)(v:Value)(w:World):
  (method (n+1) t v a).run P w= .ok (f,v) w:=by
 unfold GW at h;split at h
 case h_2=>simp at h
 rename_i i e hi hu;split at h
 case h_2=>simp at h
 rename_i m hm;split at h
 case h_2=>simp at h
 rename_i g hp hf;simp at h;subst h;have hp:m.path.toList=[]:=by simpa[Array.isEmpty_iff]using hp
 unfold method;simp[mu hi,hm,hp,follow,hf,receiverAt,bE hu,Place.get]
def wy(hX:uN P X){args:List Value}(H:FT P X r a args ty h K)(w:World)(hw:w.heap=h):
  nI P K w ((invoke (.fn (.method a) #[]) (#[r]++args.toArray)).run P w):=by
 unfold FT at H;split at H
 case h_2=>exact H.elim
 rename_i t v;split at H
 case h_2=>exact H.elim
 rename_i f hf;split at H
 case h_2=>exact H.elim
 rename_i hx;have:=jG (hX _ _ hx) H w hw
 have e:(#[Value.iface t v]++args.toArray).extract 1 (1+args.length)=args.toArray:=by apply Oj;simp
 have e2:(v::args).toArray= #[v]++args.toArray:=by apply Oj;simp
 have hm: ∀w,(method (P.types.size+Made.depth) t v a).run P w= .ok (f,v) w:=λw=>AD hf (P.types.size+99) v w;rw[e2]at this;have g0:(#[Value.iface t v]++args.toArray)[0]? =some (.iface t v):=ak;simp only[invoke,g0];simp only[Array.size_append,Oz,Nh,NN,LX,e];simp only[callMethod,Sem.run_bind,run_program,Result.andThen_ok,hm];exact this
def iQ{P:Program}(h:kh P t=some (sz,a,z)):
  ∃i v,P.info? t=some i/\i.zero=some v/\i.size=sz/\i.bytes=a/\v.cells=z:=by
 unfold kh at h;split at h
 case h_2=>simp at h
 rename_i i hi;split at h
 case h_2=>simp at h
 rename_i v hv;simp at h;obtain⟨rfl,rfl,rfl⟩:=h;exact⟨i,v,hi,hv,rfl,rfl,rfl⟩
def oR{cs:List Value}(H:oD h a cs)(hn:cs.length=n)(w:World)(hw:w.heap=h):(loadCells a n).run P w= .ok cs.toArray w:=by subst hn;exact run_loadCells_list (P:=P) (w:=w) a cs λj v hj=>by rw[gY,hw];exact H j v hj
def ut{cs:List Value}(hl:cs.length=n*sz)(H:match q with|some b=>oD h b cs|none=>n=0)(w:World)(hw:w.heap=h):
  (Builtin.firstCells sz n (.slice q n c)).run P w= .ok cs.toArray w:=by
 cases q with
 |none=>simp at H;subst H;simp at hl;subst hl;simp[Builtin.firstCells]
 |some b=>simp only[Builtin.firstCells];exact oR H hl w hw
def pE{P:Program}{t u e ty:TypeId}{sz k:Nat}{z:Array Value}{p q:Option Addr}{l c n c':Nat}{h:aI}{K:Value->aI->Prop}
  (ht:P.underlying t=some (.slice e)) (hu: ∃e',P.underlying u=some (.slice e')) (hs:kh P e=some (sz,k,z)) (I:1<=k)
  (H:fQ h e sz k z p l c q n λp' l' c' h'=>K (.slice p' l' c') h') (w:World) (hw:w.heap=h):
  ∃v w',(Builtin.append_ #[t,u] ty #[.slice p l c,.slice q n c']).run P w= .ok v w'/\cw w w'/\K v w'.heap:=by
 obtain⟨i,zv,hi,hz,B,hb,J⟩:=iQ hs;obtain⟨e',hu⟩:=hu;obtain⟨new,G,A,b,o⟩:=H;have F: ∀w,(sizeOf e).run P w= .ok sz w:=λw=>by rw[cY hi,B]
 have N: ∀w,(typeInfo e).run P w= .ok i w:=λw=>mu hi w;have U: ∀w,(zeroValue e).run P w= .ok zv w:=λw=>by simp[zeroValue,N,hz]
 have d:=λw hw=>ut (P:=P) (c:=c') G A w hw;by_cases hle:l+n<=c
 ·have b:=b hle;cases p with
  |none=>
   obtain⟨L,hK⟩:=b;have Q:new=[]:=MQ (G.trans L);refine⟨_,w,?_,cw.refl w,by rw[hw];exact hK⟩;simp[Builtin.append_,bE ht,bE hu,F,Builtin.lenOf,hle,d w hw]
  |some a=>
   obtain⟨w',hr,j,hK⟩:=lj (P:=P) b w hw;refine⟨_,w',?_,j,hK⟩;simp[Builtin.append_,bE ht,bE hu,F,Builtin.lenOf,hle,d w hw,hr]
 ·obtain⟨old,M,D,f,hK⟩:=o ah
  have R:Builtin.nextslicecap (l+n) c*i.bytes<=281474976710656:=by rw[hb];exact growslice_fits ah f
  have S:l+n<=140737488355328:=Nc (Nat.le_mul_of_pos_right _ I) f
  have O: ¬(((l:Int)+n>IntKind.i64.max)/\i.bytes=0):=by rintro ⟨_,h0⟩;omega
  subst B;have g:w.drew.heap=h:=hw;have x:=ut (P:=P) (c:=c) M D w.drew g;have m:=d w.drew g;have hK:=hK (Question.cut (.appendCap (l+n) c e) (w.tape w.drawn (.appendCap (l+n) c e))) (by simp[Question.cut]);rw[<-hw,<-J]at hK;refine⟨_,w.drew.alloc (.cells (old.toArray++new.toArray++Builtin.zeroCells zv.cells (Question.cut (.appendCap (l+n) c e) (w.tape w.drawn (.appendCap (l+n) c e))-(l+n))) e),?_,⟨rfl,rfl,rfl⟩,hK⟩;have C: ¬(9223372036854775807<((l:Int)+(n:Int))):=ah;have y: ¬(281474976710656<Builtin.nextslicecap (l+n) c*i.bytes):=ah;simp[Builtin.append_,bE ht,bE hu,sizeOf,typeInfo,zeroValue,hi,hz,Builtin.lenOf,hle,C,y,Question.forced,x,m,newRow]
  congr 2
  apply Oj;simp[Ns]
def uB{P:Program}{t u e ty:TypeId}{ti:TypeInfo}{p q:Option Addr}{l c n c':Nat}{h:aI}{K:Value->aI->Prop}
  (ht:P.underlying t=some (.slice e)) (j:P.info? e=some ti)
  (H:EQ h ti.size p l q n λm h'=>K (.int .i64 m) h') (w:World) (hw:w.heap=h):
  ∃v w',(Builtin.copy_ #[t,u] ty #[.slice p l c,.slice q n c']).run P w= .ok v w'/\cw w w'/\K v w'.heap:=by
 obtain⟨new,i,f,H⟩:=H
 have d:(Builtin.firstCells ti.size (Nat.min n l) (.slice q n c')).run P w= .ok new.toArray w:=by
  cases q with
  |none=>simp at f;subst f;simp at i;subst i;simp[Builtin.firstCells]
  |some b=>simp only[Builtin.firstCells];exact oR f i w hw
 cases p with
 |none=>
  refine⟨_,w,?_,cw.refl w,by rw[hw];exact H⟩;simp only[Builtin.copy_,List.getElem?_toArray,Ox,NA,Sem.run_bind,bE ht,Result.andThen_ok,Builtin.lenOf,Sem.run_pure,cY j,d];simp[goInt]
 |some a=>
  obtain⟨w',hr,g,hK⟩:=lj (P:=P) H w hw;refine⟨_,w',?_,g,hK⟩;simp only[Builtin.copy_,List.getElem?_toArray,Ox,NA,Sem.run_bind,bE ht,Result.andThen_ok,Builtin.lenOf,Sem.run_pure,cY j,d];simp[goInt,hr]
def s9(H:du P t p v h K)(w:World)(hw:w.heap=h):
  ∃w',(Instr.storeAt t (.pointer p) v).run P w= .ok () w'/\cw w w'/\K w'.heap:=by
 unfold du at H;split at H
 case h_2=>exact H.elim
 rename_i ti c;split at H
 case h_2=>exact H.elim
 rename_i hs;have hs:=MH hs;obtain⟨a,rfl,H⟩:=cI H;obtain⟨w',hr,b,hK⟩:=lj (P:=P) H w hw;refine⟨w',?_,b,hK⟩;simp[Instr.storeAt,Instr.sureAddr,storeVar,cY c,hs,hr]
def mU(H:kH P t a b h K)(w:World)(hw:w.heap=h):
  ∃v w',(Instr.makeSlice t a b).run P w= .ok v w'/\cw w w'/\K v w'.heap:=by
 unfold kH at H;split at H
 case h_2=>exact H.elim
 rename_i e k i k' j ht;split at H
 case h_2=>exact H.elim
 rename_i sz f z hs;obtain⟨ti,zv,hi,hz,c,hb,d⟩:=iQ hs;obtain⟨h0,h1,h2,h3,H⟩:=H;subst c;subst d;subst hb;subst hw;exact⟨_,_,run_make w t e ti zv ht hi hz k k' i j h0 h1 h2 h3,⟨rfl,rfl,rfl⟩,H⟩
def lV{ix:List Nat}(H:gZ P t n (some vs) ix h K)(w:World)(hw:w.heap=h):
  ∃v w',(Instr.buildSlice t n (ix.zip vs).toArray).run P w= .ok v w'/\cw w w'/\K v w'.heap:=by
 unfold gZ at H;split at H
 case h_2=>exact H.elim
 rename_i e g ht hv;simp only[MT]at hv;subst hv;split at H
 case h_2=>exact H.elim
 rename_i sz j z hs;obtain⟨ti,zv,hi,hz,f,hb,c⟩:=iQ hs;split at H
 case h_2=>exact H.elim
 rename_i a;have a:=NF a;obtain⟨cells,hc,H2⟩:=be H;clear H;subst f;subst c;subst hw;refine⟨_,w.alloc (.cells cells e),?_,⟨rfl,rfl,rfl⟩,H2⟩;have d: ∀w,(zeroValue e).run P w= .ok zv w:=λw=>by simp[zeroValue,mu hi,hz]
 have hn: ¬(n*ti.size>2^24):=ah;by_cases h0:n*ti.size=0
 ·have b:Instr.fill (λi=>some (i*ti.size,ti.size)) ((Array.range (n*ti.size)).map ((#[]:Array Value)[· %(#[]:Array Value).size]!)) (ix.zip vs)=some cells:=by
   rw[<-hc];simp[madeCells,h0,Array.range_zero']
  simp only[Instr.buildSlice,Sem.run_bind,bE ht,Result.andThen_ok,cY hi,h0,PF,Sem.run_ite,Sem.run_pure]at b ⊢;rw[b];simp[newRow]
 ·simp only[Instr.buildSlice,Sem.run_bind,bE ht,Result.andThen_ok,cY hi,hn,h0,Nf,Sem.run_ite,Sem.run_pure,d];unfold madeCells at hc;rw[hc];simp[newRow]
def eW{w:World}(h:w.heap[b]? =some (.map es cl))(o:Obj):(setObj b o).run P w= .ok () {w with heap:=w.heap.setIfInBounds b o}:=by simp[setObj,Sem.run,h]
def qM(h:Instr.sameBits 10000 old new=true)(w:World):(Instr.keyThatStays old new).run P w= .ok new w:=by simp[Instr.keyThatStays,h]
def mt(H:kP P t m k v h K)(w:World)(hw:w.heap=h):
  ∃w',(Instr.mapUpdate t m k v).run P w= .ok () w'/\cw w w'/\K w'.heap:=by
 unfold kP at H;split at H
 case h_2=>exact H.elim
 rename_i kt et r kk kn ht;split at H
 case h_2=>exact H.elim
 rename_i k1 hk;obtain⟨b,rfl,es,cl,hm,o,hf,H⟩:=be H;subst hw;have hb:=gn hm;cases o with
 |none=>
  refine⟨{w with heap:=w.heap.setIfInBounds b (.map (es.push {key:= .int kk kn,val:=v,born:=cl}) (cl+1))},?_,⟨rfl,rfl,rfl⟩,H⟩;simp[Instr.mapUpdate,bE ht,di hb,df hk,dz hk hf,eW hb]
 |some q=>
  obtain⟨i,u⟩:=q;obtain⟨a,H⟩:=H;refine⟨{w with heap:=w.heap.setIfInBounds b (.map (es.modify i λe=>{e with key:= .int kk kn,val:=v}) cl)},?_,⟨rfl,rfl,rfl⟩,H⟩;simp only[Instr.mapUpdate,Sem.run_bind,bE ht,Result.andThen_ok,di hb,df hk,dz hk hf,qM a,eW hb]
def nQ(H:mz P t m k h K)(w:World)(hw:w.heap=h):
  ∃v w',(Instr.mapEntry t m k).run P w= .ok v w'/\cw w w'/\K v w'.heap:=by
 unfold mz at H;split at H
 case h_2=>exact H.elim
 rename_i kt et r kk kn ht;split at H
 case h_2=>exact H.elim
 rename_i k1 z hk hz;obtain⟨b,rfl,es,cl,hm,o,hf,H⟩:=be H;subst hw;have hb:=gn hm;cases o with
 |none=>
  obtain⟨u,hu,H⟩:=dU H;simp only[MT]at hu;subst hu;refine⟨_,{w with heap:=w.heap.setIfInBounds b (.map (es.push {key:= .int kk kn,val:=z,born:=cl}) (cl+1))},?_,⟨rfl,rfl,rfl⟩,H⟩;simp[Instr.mapEntry,bE ht,di hb,df hk,dz hk hf,eW hb,oU hz,goInt]
 |some q=>
  obtain⟨i,u⟩:=q;obtain⟨a,H⟩:=H;obtain⟨u',hu,H⟩:=dU H;simp only[MT]at hu;subst hu;refine⟨_,{w with heap:=w.heap.setIfInBounds b (.map (es.modify i λe=>{e with key:= .int kk kn}) cl)},?_,⟨rfl,rfl,rfl⟩,H⟩;simp only[Instr.mapEntry,Sem.run_bind,bE ht,Result.andThen_ok,di hb,df hk,dz hk hf,qM a,eW hb,goInt,Sem.run_pure]
def lg(H:i7 m s v h K)(w:World)(hw:w.heap=h):
  ∃w',(Instr.entryStore t m s v).run P w= .ok () w'/\cw w w'/\K w'.heap:=by
 unfold i7 at H;split at H
 case h_2=>exact H.elim
 rename_i r k st;obtain⟨b,rfl,es,cl,hm,i,hi,H⟩:=be H;subst hw;have hb:=gn hm;refine⟨{w with heap:=w.heap.setIfInBounds b (.map (es.modify i λe=>{e with val:=v}) cl)},?_,⟨rfl,rfl,rfl⟩,H⟩;simp[Instr.entryStore,di hb,asInt,asIntOf,hi,eW hb]
def sZ(H:we P t x h K)(w:World)(hw:w.heap=h):
  ∃w',(Builtin.clear_ #[t] ty #[x]).run P w= .ok (.tuple #[]) w'/\cw w w'/\K w'.heap:=by
 unfold we at H;split at H
 case h_2=>exact H.elim
 rename_i e p n c ht;split at H
 case h_2=>exact H.elim
 rename_i sz g z hs;obtain⟨i,zv,hi,hz,j,hb,f⟩:=iQ hs;have d: ∀w,(zeroValue e).run P w= .ok zv w:=λw=>by simp[zeroValue,mu hi,hz]
 unfold vq at H;cases p with
 |none=>exact⟨w,by simp[Builtin.clear_,bE ht],cw.refl w,by rw[hw];exact H⟩
 |some a=>
  cases n with
  |zero=>
   refine⟨w,by simp[Builtin.clear_,bE ht],cw.refl w,?_⟩;rw[hw];simpa[Builtin.zeroCells,rH]using H
  |succ n=>
   obtain⟨w',hr,b,hK⟩:=lj (P:=P) H w hw;refine⟨w',?_,b,hK⟩;subst f;simp[Builtin.clear_,bE ht,d,hr]
def qE(H:tf P t m k h K)(w:World)(hw:w.heap=h):
  ∃w',(Builtin.delete_ #[t,u] ty #[m,k]).run P w= .ok (.tuple #[]) w'/\cw w w'/\K w'.heap:=by
 unfold tf at H;split at H
 case h_2=>exact H.elim
 rename_i kt et r kk kn ht;split at H
 case h_2=>exact H.elim
 rename_i k1 hk;obtain⟨b,rfl,es,cl,hm,o,hf,H⟩:=be H;subst hw;have hb:=gn hm;cases o with
 |none=>
  refine⟨{w with heap:=w.heap.setIfInBounds b (.map es cl)},?_,⟨rfl,rfl,rfl⟩,H⟩;simp[Builtin.delete_,bE ht,di hb,df hk,dz hk hf,eW hb]
 |some q=>
  obtain⟨i,u⟩:=q;refine⟨{w with heap:=w.heap.setIfInBounds b (.map (es.eraseIdxIfInBounds i) cl)},?_,⟨rfl,rfl,rfl⟩,H⟩;simp[Builtin.delete_,bE ht,di hb,df hk,dz hk hf,eW hb]
def sI(H:vL P t x h K): ∀w:World,w.heap=h-> ∃v w',(Instr.range t x).run P w= .ok v w'/\cw w w'/\K v w'.heap:=by
 intro w hw;subst hw;unfold vL at H;split at H
 case h_2=>exact H.elim
 rename_i k e r ht;unfold DZ at H;split at H
 ·exact⟨_,_,run_range_nilMap w t k e ht,⟨rfl,rfl,rfl⟩,H⟩
 ·rename_i m;obtain⟨es,cl,hm,H⟩:=H;exact⟨_,_,run_range_map w t k e m es cl ht (gn hm),⟨rfl,rfl,rfl⟩,H⟩
def ui(H:AP x h K): ∀w:World,w.heap=h-> ∃v w',(Instr.next x false ty).run P w= .ok v w'/\cw w w'/\K v w'.heap:=by
 intro w hw;subst hw;unfold AP at H;split at H
 case h_2=>exact H.elim
 rename_i p;obtain⟨a,rfl,H⟩:=cI H;obtain⟨ho,m,c,f,last,hr,G⟩:=H;obtain⟨ab,ao,j⟩:=a;dsimp only at ho hr G;subst ho;clear H;cases m with
 |none=>
  refine⟨_,w,?_,⟨rfl,rfl,rfl⟩,G⟩;simp only[Instr.next,getObj,Sem.run_bind,Sem.run,hr,Result.andThen]
  rfl
 |some m=>
  obtain⟨es,cl,hm,g,i,H0,H1⟩:=G;have hs: ∀s,(Instr.next (.pointer (some ⟨ab,0,s⟩)) false ty)=(Instr.next (.pointer (some ⟨ab,0,none⟩)) false ty):=λs=>rfl;rw[hs j];rcases run_next_at w ty ab m c last f es cl hr (gn hm) g i with⟨h0,b⟩|⟨e,he,w1,d,b⟩
  ·exact⟨_,w,b,⟨rfl,rfl,rfl⟩,H0 h0⟩
  ·refine⟨_,_,b,?_,?_⟩
   ·rcases d with rfl|rfl<;>exact⟨rfl,rfl,rfl⟩
   ·have:=H1 e he;rcases d with rfl|rfl<;>exact this
def sH(H:vv P kt vt x h K): ∀w:World,w.heap=h-> ∃v w',(Instr.entry x).run P w= .ok v w'/\cw w w'/\K v w'.heap:=by
 intro w hw;subst hw;unfold vv at H;split at H
 case h_2=>exact H.elim
 rename_i p;obtain⟨a,rfl,H⟩:=cI H;obtain⟨ho,m,b,d,cl,es,c,e,hr,hb,hm,hf,G⟩:=H;obtain⟨ab,ao,f⟩:=a;dsimp only at ho hr;subst ho;obtain⟨zs,-,G⟩:=be G;obtain⟨vs,e1,G⟩:=tL G;refine⟨_,w,?_,⟨rfl,rfl,rfl⟩,G⟩;rw[<-e1];simp only[Instr.entry,getObj,Sem.run_bind,Sem.run,hr,gn hm,hb,Result.andThen,bne_self_eq_false,MD,Nf,hf]
 rfl
def wn(hX:uN P X){o:Oper}(H:FO P X o.op o.type ρ h K):El P o (ev ρ) h K:=by
 obtain⟨dst,op,type,pos,after,guard⟩:=o;intro σ hσ w hw;dsimp only at H hσ
 have j: ∀{s:Sem Value},execOp σ ⟨dst,op,type,pos,after,guard⟩=(do pure (.value (<-s)))->
   (∃v w',s.run P w= .ok v w'/\cw w w'/\K v w'.heap)->nI P K w ((execOp σ ⟨dst,op,type,pos,after,guard⟩).run P w):=by
  rintro s he ⟨v,w',hr,hs,hK⟩;rw[he];simp only[Sem.run_bind,hr,Result.andThen_ok,Sem.run_pure];exact⟨hs,hK⟩
 have B: ∀{s:Sem Unit},execOp σ ⟨dst,op,type,pos,after,guard⟩=(do s;pure .skip)->
   (∃w',s.run P w= .ok () w'/\cw w w'/\K undef w'.heap)->nI P K w ((execOp σ ⟨dst,op,type,pos,after,guard⟩).run P w):=by
  rintro s he ⟨w',hr,hs,hK⟩;rw[he];simp only[Sem.run_bind,hr,Result.andThen_ok,Sem.run_pure];exact⟨hs,hK⟩
 unfold FO at H;split at H
 ·rename_i t;obtain⟨z,hz,H⟩:=be H;subst hw;exact j (s:=Instr.alloc t true (.tuple #[])) rfl ⟨_,w.alloc (.cells z.cells t),by simp[Instr.alloc,oU hz,newVar,newRow],⟨rfl,rfl,rfl⟩,H⟩
 ·rename_i t x;obtain⟨v,hv,H⟩:=be H;subst hw;exact j (s:=Instr.box t (σ x)) rfl ⟨_,w.alloc (.cells v.cells t),by rw[hσ x (by simp[Op.operands]) v hv];simp[Instr.box,newVar,newRow],⟨rfl,rfl,rfl⟩,H⟩
 ·rename_i t a x;split at H
  case h_2=>exact H.elim
  rename_i p hp;obtain⟨v,hv,H⟩:=be H;exact B (s:=Instr.storeAt t (σ a) (σ x)) rfl (by rw[hσ a (by simp[Op.operands]) _ hp,hσ x (by simp[Op.operands]) v hv];exact s9 H w hw)
 ·rename_i t;subst hw;exact j (s:=Instr.makeMap t none) rfl ⟨_,w.alloc (.map #[] 0),by simp[Instr.makeMap],⟨rfl,rfl,rfl⟩,H⟩
 ·rename_i t l c;obtain⟨a,ha,H⟩:=be H;obtain⟨b,hb,H⟩:=be H;exact j (s:=Instr.makeSlice t (σ l) (σ c)) rfl (by rw[hσ l (by simp[Op.operands]) a ha,hσ c (by simp[Op.operands]) b hb];exact mU H w hw)
 ·rename_i t n ps;cases hvs:yX ρ (ps.toList.map (·.2))with
  |none=>rw[hvs]at H;unfold gZ at H;split at H<;>first|exact H.elim|simp at*
  |some vs=>
   rw[hvs]at H;obtain⟨hl,hm⟩:=mE hvs
   have e:(ps.map λ(i,x)=>(i,σ x))=((ps.toList.map (·.1)).zip vs).toArray:=by rw[<-hm σ λx hx=>hσ x (by simpa[Op.operands]using hx)];apply Oj;simp[List.zip_map',NL]
   refine j rfl ?_;rw[e];exact lV H w hw
 ·rename_i t m k x;obtain⟨a,ha,H⟩:=be H;obtain⟨b,hb,H⟩:=be H;obtain⟨v,hv,H⟩:=be H;exact B (s:=Instr.mapUpdate t (σ m) (σ k) (σ x)) rfl (by rw[hσ m (by simp[Op.operands]) a ha,hσ k (by simp[Op.operands]) b hb,hσ x (by simp[Op.operands]) v hv];exact mt H w hw)
 ·rename_i t m k;obtain⟨a,ha,H⟩:=be H;obtain⟨b,hb,H⟩:=be H;exact j (s:=Instr.mapEntry t (σ m) (σ k)) rfl (by rw[hσ m (by simp[Op.operands]) a ha,hσ k (by simp[Op.operands]) b hb];exact nQ H w hw)
 ·rename_i t m s x;obtain⟨a,ha,H⟩:=be H;obtain⟨b,hb,H⟩:=be H;obtain⟨v,hv,H⟩:=be H;exact B (s:=Instr.entryStore t (σ m) (σ s) (σ x)) rfl (by rw[hσ m (by simp[Op.operands]) a ha,hσ s (by simp[Op.operands]) b hb,hσ x (by simp[Op.operands]) v hv];exact lg H w hw)
 ·rename_i t x;obtain⟨a,ha,H⟩:=be H;exact j (s:=Instr.range t (σ x)) rfl (by rw[hσ x (by simp[Op.operands]) a ha];exact sI H w hw)
 ·rename_i x N;obtain⟨a,ha,H⟩:=be H;split at H
  case h_2=>exact H.elim
  exact j (s:=Instr.next (σ x) false type) rfl (by rw[hσ x (by simp[Op.operands]) a ha];exact ui H w hw)
 ·rename_i x;obtain⟨a,ha,H2⟩:=be H;clear H;split at H2
  case h_2=>exact H2.elim
  rename_i t;split at H2
  case h_2=>exact H2.elim
  exact j (s:=Instr.entry (σ (.tmp t))) rfl (by rw[hσ (.tmp t) (by simp[Op.operands]) a ha];exact sH H2 w hw)
 ·rename_i f args ats;obtain⟨xs,F,H2⟩:=be H;clear H
  have A:args.map σ=xs.toArray:=by rw[<-(mE F).2 σ λx hx=>hσ x (by simp only[Op.operands,Call.operands,Pn];exact .inr (by simpa using hx))];apply Oj;simp
  split at H2
  ·rename_i g;have:=xR hX H2 w hw;have C:execOp σ ⟨dst,.call {callee:= .value (.func g),args:=args,argTypes:=ats},type,pos,after,guard⟩=(do let d <-Deferred.ofValue (σ (.func g)) (args.map σ);invoke d.target d.args):=rfl;rw[C,hσ (.func g) (by simp[Op.operands,Call.operands]) _ rfl,A];have e2:(do let d <-Deferred.ofValue (.func (.func g) #[] #[]) xs.toArray;invoke d.target d.args)=callFunc g (#[]++xs.toArray++ #[]):=rfl;rw[e2];simpa using this
  ·obtain⟨fv,G,H3⟩:=be H2;have:=vN hX H3 w hw;have C:execOp σ ⟨dst,.call {callee:= .value f,args:=args,argTypes:=ats},type,pos,after,guard⟩=(do let d <-Deferred.ofValue (σ f) (args.map σ);invoke d.target d.args):=rfl;rw[C,hσ f (by simp[Op.operands,Call.operands]) _ G,A];exact this
 ·rename_i r D args ats;obtain⟨rv,J,H⟩:=be H;obtain⟨xs,F,H⟩:=be H
  have A:args.map σ=xs.toArray:=by rw[<-(mE F).2 σ λx hx=>hσ x (by simp only[Op.operands,Call.operands,Pn];exact .inr (by simpa using hx))];apply Oj;simp
  have:=wy hX H w hw;have C:execOp σ ⟨dst,.call {callee:= .invoke r D,args:=args,argTypes:=ats},type,pos,after,guard⟩=invoke (.fn (.method D) #[]) (#[σ r]++args.map σ):=rfl;rw[C,hσ r (by simp[Op.operands,Call.operands]) _ J,A];exact this
 ·rename_i b args ats;obtain⟨args⟩:=args;obtain⟨ats⟩:=ats;split at H
  ·rename_i x y t u e1 e2;dsimp only at e1 e2;subst e1;subst e2;obtain⟨a,ha,H1⟩:=be H;clear H;obtain⟨b,hb,H⟩:=be H1;clear H1;refine j (s:=Builtin.append_ #[t,u] type #[σ x,σ y]) (by simp[execOp,resolve,invoke,builtin]) ?_;rw[hσ x (by simp[Op.operands,Call.operands]) a ha,hσ y (by simp[Op.operands,Call.operands]) b hb];unfold IP at H;split at H
   case h_2=>exact H.elim
   rename_i e e' p l c q n c' ht hu;split at H
   case h_2=>exact H.elim
   rename_i sz M z hs;split at H
   case h_2=>exact H.elim
   rename_i I;exact pE ht ⟨_,hu⟩ hs (NF I) H w hw
  ·rename_i x y t u e1 e2;dsimp only at e1 e2;subst e1;subst e2;obtain⟨a,ha,H1⟩:=be H;clear H;obtain⟨b,hb,H⟩:=be H1;clear H1;refine j (s:=Builtin.copy_ #[t,u] type #[σ x,σ y]) (by simp[execOp,resolve,invoke,builtin]) ?_;rw[hσ x (by simp[Op.operands,Call.operands]) a ha,hσ y (by simp[Op.operands,Call.operands]) b hb];unfold Fs at H;split at H
   case h_2=>exact H.elim
   rename_i e p l _ q n _ ht;split at H
   case h_2=>exact H.elim
   rename_i ti L;exact uB ht L H w hw
  ·rename_i x y t u e1 e2;dsimp only at e1 e2;subst e1;subst e2;obtain⟨a,ha,H1⟩:=be H;clear H;obtain⟨b,hb,H⟩:=be H1;clear H1;refine j (s:=Builtin.delete_ #[t,u] type #[σ x,σ y]) (by simp[execOp,resolve,invoke,builtin]) ?_;rw[hσ x (by simp[Op.operands,Call.operands]) a ha,hσ y (by simp[Op.operands,Call.operands]) b hb];obtain⟨w',hr,hs,hK⟩:=qE H w hw;exact⟨_,w',hr,hs,hK⟩
  ·rename_i x t e1 e2;dsimp only at e1 e2;subst e1;subst e2;obtain⟨a,ha,H1⟩:=be H;clear H;refine j (s:=Builtin.clear_ #[t] type #[σ x]) (by simp[execOp,resolve,invoke,builtin]) ?_;rw[hσ x (by simp[Op.operands,Call.operands]) a ha];obtain⟨w',hr,hs,hK⟩:=sZ H1 w hw;exact⟨_,w',hr,hs,hK⟩
  ·exact H.elim
 ·exact H.elim
abbrev FF:=Nat->Option Value
def xn(f:FF):Operand->Option Value
 | .tmp t=>f t
 | .const v=>some v
 | .global g=>some (.pointer (some ⟨g,0,none⟩))
 | .func f=>some (.func (.func f) #[] #[])
def eD(f:FF)(d:Option Nat)(v:Value):FF:=match d with|some k=>λt=>if t=k then some v else f t|none=>f
def sj(ρ:Fr):ev ρ=xn (get ρ):=by funext x;cases x<;>rfl
def ou(ρ:Fr)(d:Option Nat)(v:Value):get (put ρ d v)=eD (get ρ) d v:=by
 cases d with
 |none=>rfl
 |some k=>
  funext t;simp only[put,get,eD];by_cases h:t=k
  ·subst h;simp
  ·have:Nat.beq k t=false:=by
    cases hb:Nat.beq k t with
    |false=>rfl
    |true=>exact Mw (MH hb).symm h
   simp[this,h]
def oy(h:get ρ d=some v):get ((d,v)::ρ)=get ρ:=by
 have:=ou ρ (some d) v;rw[show put ρ (some d) v=(d,v)::ρ from rfl]at this;rw[this];funext t;simp only[eD];split
 ·rename_i e;rw[e,h]
 ·rfl
def kI(ops:Array Oper)(o:Oper)(f:FF):Prop:=
 match o.guard with
 |none=>True
 |some (j,want)=> ∃d,(ops[j]?).bind (·.dst)=some d/\f d=some (.bool want)
def vg(ops:Array Oper)(o:Oper)(f:FF):Prop:=
 match o.guard with
 |none=>False
 |some (j,want)=> ∃d v,(ops[j]?).bind (·.dst)=some d/\f d=some v/\v≠ .bool want
def ju(P:Program)(ops:Array Oper)(o:Oper)(f:FF)(h:aI)(v:Value):Prop:=
 (kI ops o f/\Fc P o (xn f) h v)\/(vg ops o f/\v=undef)
def fF(P:Program)(ops:Array Oper)(i:Nat)(κ:FF->aI->Prop)(f:FF)(h:aI):Prop:=
 ∃o,ops[i]? =some o/\
  ((∃v,ju P ops o f h v/\(qf o.op=true->vg ops o f)/\κ (eD f o.dst v) h)\/
   (qf o.op=true/\kI ops o f/\El P o (xn f) h λv h'=>κ (eD f o.dst v) h'))
def fM(P:Program)(ops:Array Oper)(f:FF)(h:aI)(j:Nat):Prop:=
 ∃o d v,ops[j]? =some o/\o.dst=some d/\f d=some v/\ju P ops o f h v
def SA(P:Program)(ops:Array Oper)(K:FF->aI->Prop):List (Nat×List Nat)->FF->aI->Prop
 | [],f,h=>K f h
 |(i,js)::r,f,h=>fF P ops i (λf' h'=>(∀j∈js,fM P ops f' h' j)/\SA P ops K r f' h') f h
def fF.mono(H:fF P ops i κ f h)(hk: ∀f h,κ f h->κ' f h):fF P ops i κ' f h:=by obtain⟨o,ho,H⟩:=H;refine⟨o,ho,H.imp (λ⟨v,h1,h2,h3⟩=>⟨v,h1,h2,hk _ _ h3⟩) (λ⟨h1,h2,h3⟩=>⟨h1,h2,h3.mono λv h'=>hk _ _⟩)⟩
def jW(ops:Array Oper)(d:Option Nat)(o:Oper):Bool:=match d with|some k=> !(o.looksAt ops).contains k|none=>true
def sU{o:Oper}(h:jW ops d o=true): ∀x∈o.op.operands,xn (eD f d v) x=xn f x:=by
 intro x hx;cases d with
 |none=>rfl
 |some k=>
  cases x with
  |tmp t=>
   simp only[xn,eD];by_cases e:t=k
   ·subst e;have:t∈o.looksAt ops:=List.mem_append_left _ (List.mem_filterMap.2 ⟨.tmp t,by simpa using hx,rfl⟩);simp[jW,this]at h
   ·simp[e]
  |_=>rfl
def jM{o:Oper}(h:jW ops d o=true)(hg:o.guard=some (j,a))(hb:(ops[j]?).bind (·.dst)=some g):eD f d v g=f g:=by
 cases d with
 |none=>rfl
 |some k=>
  simp only[eD];by_cases e:g=k
  ·subst e;have:g∈o.looksAt ops:=List.mem_append_right _ (by simp[hg,hb]);simp[jW,this]at h
  ·simp[e]
def uq(h:jW ops d o=true):kI ops o (eD f d v)↔kI ops o f:=by
 unfold kI;split
 ·rfl
 ·rename_i j a hg;constructor
  ·rintro ⟨g,hb,hv⟩;rw[jM h hg hb]at hv;exact⟨g,hb,hv⟩
  ·rintro ⟨g,hb,hv⟩;exact⟨g,hb,by rw[jM h hg hb];exact hv⟩
def wM(h:jW ops d o=true):vg ops o (eD f d v)↔vg ops o f:=by
 unfold vg;split
 ·rfl
 ·rename_i j b hg;constructor
  ·rintro ⟨g,u,hb,hv,a⟩;rw[jM h hg hb]at hv;exact⟨g,u,hb,hv,a⟩
  ·rintro ⟨g,u,hb,hv,a⟩;exact⟨g,u,hb,by rw[jM h hg hb];exact hv,a⟩
def Gb.congr(h: ∀x∈xs,e x=e' x)(H:Gb e xs σ):Gb e' xs σ:=
 λx hx v hv=>H x hx v (by rw[h x hx];exact hv)
def Fc.off(ho:jW ops d o=true):Fc P o (xn (eD f d u)) h v↔Fc P o (xn f) h v:=
 ⟨λH σ hσ w hw=>H σ (hσ.congr λx hx=>(sU ho x hx).symm) w hw,λH σ hσ w hw=>H σ (hσ.congr λx hx=>sU ho x hx) w hw⟩
def El.off(ho:jW ops d o=true)(H:El P o (xn (eD f d u)) h K):El P o (xn f) h K:=
 λσ hσ w hw=>H σ (hσ.congr λx hx=>(sU ho x hx).symm) w hw
def ju.off(ho:jW ops d o=true):ju P ops o (eD f d u) h v↔ju P ops o f h v:=by unfold ju;rw[uq ho,wM ho,Fc.off ho]
def mZ(f:FF)(u v:Value)(h: ∀k,d=some k->e≠some k):eD (eD f d u) e v=eD (eD f e v) d u:=by
 cases d with
 |none=>rfl
 |some k=>
  cases e with
  |none=>rfl
  |some l=>
   have a:k≠l:=λe=>h k rfl (by rw[e]);funext t;simp only[eD];by_cases h1:t=l
   ·subst h1;simp[Ne.symm a]
   ·simp[h1]
def CR(ops:Array Oper)(x y:Oper):Bool:=jW ops x.dst y&&jW ops y.dst x&&(match x.dst,y.dst with|some a,some b=> !(Nat.beq a b)|_,_=>true)
def Bh{x y:Oper}(h:CR ops x y=true):jW ops x.dst y=true/\jW ops y.dst x=true/\ ∀k,x.dst=some k->y.dst≠some k:=by simp only[CR,MG]at h;refine⟨h.1.1,h.1.2,λk hk hy=> ?_⟩;rw[hk,hy]at h;simp at h
def cG(ops:Array Oper)(i:Nat):Bool:=match ops[i]? with|some o=>qf o.op|none=>false
def y9(ops:Array Oper)(i j:Nat):Bool:=match ops[i]?,ops[j]? with|some x,some y=>CR ops x y|_,_=>false
def oC(ops:Array Oper)(j x:Nat):Bool:=match ops[j]?,ops[x]? with
 |some oj,some ox=>jW ops ox.dst oj&&(match ox.dst,oj.dst with|some a,some b=> !(Nat.beq a b)|_,_=>true)
 |_,_=>false
def xm(ops:Array Oper)(a:Nat->Nat->Bool)(x y:Nat×List Nat):Bool:=
 a y.1 x.1||(cG ops x.1&&cG ops y.1)||(y9 ops x.1 y.1&& !cG ops x.1&&(!cG ops y.1||y.2.contains x.1))
structure nT(ops:Array Oper)(anc:Nat->Nat->Bool)(rem:List (Nat×List Nat)):Prop where
 nodup:(rem.map (·.1)).Nodup
 pair:rem.Pairwise λx y=>xm ops anc x y=true
 empty: ∀x∈rem,cG ops x.1=false->x.2=[]
 keep: ∀y∈rem,∀j∈y.2,∀x∈rem,x.1≠j->anc j x.1=true\/anc x.1 y.1=true\/oC ops j x.1=true
 self: ∀y∈rem,∀j∈y.2,∃o,ops[j]? =some o/\jW ops o.dst o=true
 lin:rem.Pairwise λx y=>anc x.1 y.1=false
def nT.tail(g:nT ops b (x::a)):nT ops b a:=
 ⟨by have:=g.nodup;simp at this;exact this.2,by have:=g.pair;rw[NH]at this;exact this.2,λy hy=>g.empty y (by simp[hy]),
  λy hy j hj z hz=>g.keep y (by simp[hy]) j hj z (by simp[hz]),λy hy=>g.self y (by simp[hy]),by have:=g.lin;rw[NH]at this;exact this.2⟩
def nT.sub(g:nT ops c b)(hs:a.Sublist b):nT ops c a:=
 ⟨g.nodup.sublist (hs.map _),g.pair.sublist hs,λy hy=>g.empty y (hs.subset hy),λy hy j hj z hz=>g.keep y (hs.subset hy) j hj z (hs.subset hz),λy hy=>g.self y (hs.subset hy),g.lin.sublist hs⟩
def fM.keep{ox:Oper}(hx:ops[x]? =some ox)(hk:oC ops j x=true)(H:fM P ops (eD f ox.dst v) h j):fM P ops f h j:=by
 obtain⟨o,d,u,ho,hd,hu,hl⟩:=H;simp only[oC,ho,hx,MG]at hk;refine⟨o,d,u,ho,hd,?_,(ju.off hk.1).1 hl⟩;rw[hd]at hk;cases hxd:ox.dst with
 |none=>rw[hxd]at hu;exact hu
 |some k=>
  rw[hxd]at hu hk;have a:d≠k:=λe=>by subst e;simp at hk
  simpa[eD,a]using hu
def GO:
  ∀(a:List (Nat×List Nat)) (f:FF) (h:aI),nT ops F a->(i,ji)∈a->
   (∀x∈a,F i x.1=false)->(cG ops i=true-> ∀x∈a.takeWhile (λz=> !(Nat.beq z.1 i)),cG ops x.1=false)->
   (∀j∈ji,j∉a.map (·.1)-> ∀x∈a,F j x.1=false)->
   SA P ops K a f h->
   fF P ops i (λf' h'=>(∀j∈ji,j∉a.map (·.1)->fM P ops f' h' j)/\SA P ops K (a.filter λz=> !(Nat.beq z.1 i)) f' h') f h:=by
 intro a
 induction a with
 |nil=>intro f h _ hm;simp at hm
 |cons x rest ih=>
  intro f h g hm n t N H;obtain⟨x,jx⟩:=x;have hnd:=g.nodup;simp only[Mz,MO]at hnd;by_cases hxi:x=i
  ·subst hxi
   have W:jx=ji:=by
    simp only[List.mem_cons,Ph,Ol]at hm;rcases hm with e|hm
    ·exact e.symm
    ·exact Mw (Ms.2 ⟨_,hm,rfl⟩) hnd.1
   subst W
   have hf:(((x,jx)::rest).filter λz=> !(Nat.beq z.1 x))=rest:=by
    rw[OF];simp only[Nat.beq_refl,MF,MD,Nf];rw[Nr];intro z hz;cases hb:Nat.beq z.1 x with
    |false=>rfl
    |true=>exact Mw (Ms.2 ⟨z,hz,MH hb⟩) hnd.1
   rw[hf];exact fF.mono H λf' h' hh=>⟨λj hj _=>hh.1 j hj,hh.2⟩
  ·have C:(i,ji)∈rest:=by
    simp only[List.mem_cons,Ph]at hm;rcases hm with⟨e,_⟩|hm
    ·exact Mw e.symm hxi
    ·exact hm
   have B:Nat.beq x i=false:=by
    cases hb:Nat.beq x i with
    |false=>rfl
    |true=>exact Mw (MH hb) hxi
   have hp:=(NH.1 g.pair).1 _ C;simp only[xm,n (x,jx) ak,Oc,Nj,MG,MX,List.contains_iff_mem]at hp
   have Y:y9 ops x i=true/\cG ops x=false/\(cG ops i=true->x∈ji):=by
    rcases hp with⟨h1,h2⟩|⟨⟨h1,h2⟩,h3⟩
    ·have:=t h2 (x,jx) (by rw[List.takeWhile_cons];simp[B]);simp[this]at h1
    ·refine⟨h1,h2,λhe=> ?_⟩;rcases h3 with h3|h3
     ·rw[he]at h3;simp at h3
     ·exact h3
   obtain⟨M,Q,U⟩:=Y;have b:jx=[]:=g.empty (x,jx) ak Q;subst b;obtain⟨ox,c,H⟩:=H;have l:qf ox.op=false:=by simpa[cG,c]using Q
   have H: ∃v,ju P ops ox f h v/\SA P ops K rest (eD f ox.dst v) h:=by
    rcases H with⟨v,h1,_,h3⟩|⟨h1,_⟩
    ·exact⟨v,h1,h3.2⟩
    ·rw[l]at h1;simp at h1
   obtain⟨v,I,G⟩:=H
   have step:=ih (eD f ox.dst v) h g.tail C (λz hz=>n z (by simp[hz]))
    (λhe z hz=>t he z (by rw[List.takeWhile_cons];simp[B];exact .inr hz))
    (λj hj k z hz=>by
     by_cases b:j=x
     ·subst b;exact(NH.1 g.lin).1 z hz
     ·exact N j hj (by simp[b];simpa using k) z (by simp[hz])) G
   obtain⟨oi,L,step⟩:=step;have J:CR ops ox oi=true:=by simpa[y9,c,L]using M
   obtain⟨h1,h2,h3⟩:=Bh J
   have R:((x,[])::rest).filter (λz=> !(Nat.beq z.1 i))=(x,[])::rest.filter λz=> !(Nat.beq z.1 i):=by rw[OF];simp[B]
   have q: ∀u h',ju P ops ox (eD f oi.dst u) h' v->
     (∀j∈ji,j∉rest.map (·.1)->fM P ops (eD (eD f ox.dst v) oi.dst u) h' j)->
     SA P ops K (rest.filter λz=> !(Nat.beq z.1 i)) (eD (eD f ox.dst v) oi.dst u) h'->
     (∀j∈ji,j∉((x,[])::rest).map (·.1)->fM P ops (eD f oi.dst u) h' j)/\SA P ops K (((x,[])::rest).filter λz=> !(Nat.beq z.1 i)) (eD f oi.dst u) h':=by
    intro u h' hl S O;rw[mZ f v u h3]at S O;refine⟨λj hj k=> ?_,?_⟩
    ·have b:x≠j:=λe=>k (by simp[e]);have V:j∉rest.map (·.1):=λe=>k (by simp only[Mz,List.mem_cons];exact .inr e)
     have hk:oC ops j x=true:=by
      rcases g.keep (i,ji) hm j hj (x,[]) ak b with hk|hk|hk
      ·have:=N j hj k (x,[]) ak;rw[this]at hk;simp at hk
      ·have:=(NH.1 g.lin).1 _ C;rw[this]at hk;simp at hk
      ·exact hk
     exact fM.keep c hk (S j hj V)
    ·rw[R];exact⟨ox,c,.inl ⟨v,hl,λe=>by rw[l]at e;simp at e,ak,O⟩⟩
   refine⟨oi,L,?_⟩;rcases step with⟨u,s1,s2,s3⟩|⟨s1,s2,s3⟩
   ·refine .inl ⟨u,(ju.off h1).1 s1,λe=>(wM h1).1 (s2 e),q u h ((ju.off h2).2 I) s3.1 s3.2⟩
   ·refine .inr ⟨s1,(uq h1).1 s2,(El.off h1 s3).mono λu h' hh=> ?_⟩;refine q u h' ?_ hh.1 hh.2;have m:x∈ji:=U (by simpa[cG,L]using s1);obtain⟨o,d,v',ho,hd,A,hl⟩:=hh.1 x m hnd.1;rw[c]at ho;simp only[MT]at ho;subst ho;rw[mZ f v u h3,hd]at A;simp only[eD,PF,MT]at A;subst A;rw[mZ f v u h3]at hl;obtain⟨o',y,D⟩:=g.self (i,ji) hm x m;rw[c]at y;simp only[MT]at y;subst y;exact(ju.off D).1 hl
def kK(f:FF)(a:Act):Prop:= ∀t v,f t=some v->a.tmps.getD t undef=v
structure qG(n:Nat)(w0:World)(f:FF)(h:aI)(a:Act)(w:World):Prop where
 agree:kK f a
 defers:a.defers=[]
 size:a.tmps.size=n
 same:cw w0 w
 heap:w.heap=h
def pF(n:Nat)(o:Oper):Bool:=match o.dst with|some d=>Nat.blt d n|none=>true
def yK{a:Act}(h:kK f a)(hd: ∀k,d=some k->k<a.tmps.size):kK (eD f d v) (a.put d v):=by
 cases d with
 |none=>exact h
 |some k=>
  intro t u hu;simp only[eD]at hu;by_cases e:t=k
  ·subst e;simp only[PF,MT]at hu;subst hu;simp[Act.put,hd t rfl]
  ·simp only[e,Nf]at hu;have:=h t u hu;rw[<-this];simp[Act.put,Array.getElem?_setIfInBounds_ne (Ne.symm e)]
def Cw(a:Act)(d:Option Nat)(v:Value):(a.put d v).tmps.size=a.tmps.size:=by cases d<;>simp[Act.put]
def u5(a:Act)(d:Option Nat)(v:Value):(a.put d v).defers=a.defers:=by cases d<;>rfl
def jH{a:Act}(h:kK f a)(xs:Array Operand):Gb (xn f) xs a.eval:=by
 intro x _ v hv;cases x with
 |tmp t=>exact h t v hv
 |const u=>simpa[xn,Act.eval]using hv
 |global g=>simpa[xn,Act.eval]using hv
 |func g=>simpa[xn,Act.eval]using hv
def qG.put{a:Act}{w':World}{o:Oper}(s:qG n w0 f h a w)(hd:pF n o=true)(v:Value)(hs:cw w w')(hh:w'.heap=h'):qG n w0 (eD f o.dst v) h' (a.put o.dst v) w':=by refine⟨yK s.agree λk hk=> ?_,by rw[u5,s.defers],by rw[Cw,s.size],s.same.trans hs,hh⟩;rw[s.size];simp only[pF,hk]at hd;exact NF hd
def iL{a:Act}(h:kK f a)(g:kI ops o f):Region.wanted o (yielded ops a.tmps)=true:=by
 unfold kI at g;unfold Region.wanted;split at g
 ·rename_i hg;simp[hg]
 ·rename_i j b hg;obtain⟨d,hb,hv⟩:=g;have:=h d _ hv;simp only[hg,yielded,hb,On];cases ht:a.tmps[d]? with
  |none=>simp[ht,undef]at this
  |some u=>simp[ht]at this;subst this;simp
def m7{a:Act}(h:kK f a)(g:vg ops o f):Region.wanted o (yielded ops a.tmps)=false:=by
 unfold vg at g;unfold Region.wanted;split at g
 ·exact g.elim
 ·rename_i j i hg;obtain⟨d,v,hb,hv,c⟩:=g;have:=h d _ hv;simp only[hg,yielded,hb,On];cases ht:a.tmps[d]? with
  |none=>simp
  |some u=>
   simp[ht]at this;subst this;cases u<;>simp;rename_i b;intro e;exact c (by rw[e])
def fF.wpOp
  (H:fF P ops i κ f h) (s:qG n w0 f h a w) (hd: ∀o:Oper,ops[i]? =some o->pF n o=true)
  (hk: ∀f' h' a' w',qG n w0 f' h' a' w'->κ f' h'->κ' a' w'):wpOp P ops Q i κ' a w:=by
 obtain⟨o,ho,H⟩:=H;unfold Go.wpOp;simp only[ho];have b:=hd o ho;rcases H with⟨v,hl,_,hκ⟩|⟨_,hy,he⟩
 ·rcases hl with⟨hy,hv⟩|⟨hn,rfl⟩
  ·rw[L4 (iL s.agree hy)];refine .inl ?_;unfold Oper.wp;rw[hv a.eval (jH s.agree _) w s.heap];exact hk _ _ _ _ (s.put b v (cw.refl w) s.heap) hκ
  ·rw[LY (by rw[m7 s.agree hn];simp)];exact hk _ _ _ _ (s.put b undef (cw.refl w) s.heap) hκ
 ·rw[L4 (iL s.agree hy)];refine .inl ?_;unfold Oper.wp;have:=he a.eval (jH s.agree _) w s.heap;revert this;generalize (execOp a.eval o).run P w=r;intro this;unfold nI at this;split at this
  ·exact hk _ _ _ _ (s.put b _ this.1 rfl) this.2
  ·exact hk _ _ _ _ (s.put b _ this.1 rfl) this.2
  ·refine this.2.mono λe c hh=> ?_;obtain⟨v,rfl,hs,hK⟩:=hh;exact hk _ _ _ _ (s.put b v (this.1.trans hs) rfl) hK
  ·exact this.elim
structure xI(ops:Array Oper)(anc:Nat->Nat->Bool):Prop where
 up: ∀j o x,ops[j]? =some o->anc j x=true-> ∃e∈o.after,Region.binds .any e=true/\e.on<j/\(e.on=x\/anc e.on x=true)
 edge: ∀j o,ops[j]? =some o-> ∀e∈o.after,Region.binds .any e=true->e.on<j/\anc j e.on=true
abbrev ids(a:List (Nat×List Nat)):List Nat:=a.map (·.1)
structure lI(ops:Array Oper)(rem:List (Nat×List Nat))(listed:Array Bool):Prop where
 size:listed.size=ops.size
 mem: ∀i,i<ops.size->(listed.getD i true=false↔i∈ids rem)
 lt: ∀i∈ids rem,i<ops.size
def sW(ops:Array Oper)(a:List (Nat×List Nat)):Prop:= ∀j o,ops[j]? =some o->j∉ids a-> ∀e∈o.after,Region.binds .any e=true->e.on∉ids a
def lr{ops:Array Oper}(hA:xI ops c)(hD:sW ops a):
  ∀j,j<ops.size->j∉ids a-> ∀x,c j x=true->x∉ids a:=by
 intro j
 induction j using Nat.strongRecOn with
 |_ j ih=>
  intro hj hn x hx;obtain⟨o,ho⟩: ∃o,ops[j]? =some o:=⟨ops[j],by simp[hj]⟩;obtain⟨e,he,hb,d,hh⟩:=hA.up j o x ho hx;have b:=hD j o ho hn e he hb;rcases hh with rfl|hh
  ·exact b
  ·exact ih e.on d ah b x hh
def jU(hC:lI ops c a)(hi:i∈Region.ready .any ops a):
  i∈ids c/\ ∃o,ops[i]? =some o/\ ∀e∈o.after,Region.binds .any e=true->e.on∉ids c:=by
 obtain⟨h0,o,ho,d⟩:=mem_ready.1 hi;have f:i<ops.size:=(Mf.1 ho).1;refine⟨(hC.mem i f).1 h0,o,ho,λe he hb b=> ?_⟩;have h1:=d e he hb;have h2:=(hC.mem e.on (hC.lt _ b)).2 b;have:e.on<a.size:=by rw[hC.size];exact hC.lt _ b
 simp[this]at h1 h2;rw[h1]at h2;simp at h2
abbrev dy(a:List (Nat×List Nat))(i:Nat):List (Nat×List Nat):=a.filter λz=> !(Nat.beq z.1 i)
def gp:k∈ids (dy a i)↔k∈ids a/\k≠i:=by
 simp only[Ms,List.mem_filter];constructor
 ·rintro ⟨z,⟨hz,hb⟩,rfl⟩;refine⟨⟨z,hz,rfl⟩,λe=> ?_⟩;rw[e]at hb;simp at hb
 ·rintro ⟨⟨z,hz,rfl⟩,hne⟩;refine⟨z,⟨hz,?_⟩,rfl⟩;cases hb:Nat.beq z.1 i with
  |false=>rfl
  |true=>exact Mw (MH hb) hne
def lI.drop{a:Array Bool}(hC:lI ops b a)(i:Nat)(hi:i∈ids b):lI ops (dy b i) (a.setIfInBounds i true):=by
 refine⟨by simp[hC.size],λk hk=> ?_,λk hk=>hC.lt k (gp.1 hk).1⟩;rw[gp];by_cases e:k=i
 ·subst e;have:k<a.size:=by rw[hC.size];exact hk
  simp[this]
 ·rw[getD_set_ne true (Ne.symm e),hC.mem k hk];simp[e]
def sW.drop(hD:sW ops c)(hr: ∃o,ops[i]? =some o/\ ∀e∈o.after,Region.binds .any e=true->e.on∉ids c):sW ops (dy c i):=by
 intro j o ho hj e he hb a;rw[gp]at a;by_cases hji:j=i
 ·subst hji;obtain⟨o',b,d⟩:=hr;rw[ho]at b;simp only[MT]at b;subst b;exact d e he hb a.1
 ·exact hD j o ho (λh=>hj (gp.2 ⟨h,hji⟩)) e he hb a.1
def EL(ops:Array Oper)(b:Nat->Nat->Bool)(a:List (Nat×List Nat)):Prop:=
 a.Pairwise λx y=>cG ops x.1=true->cG ops y.1=true->b y.1 x.1=true
abbrev jJ(a:List (Nat×List Nat))(i:Nat):List (Nat×List Nat):=a.takeWhile λz=> !(Nat.beq z.1 i)
def La(ops:Array Oper)(c:Nat->Nat->Bool)(A:List (List (Nat×List Nat))):Prop:=
 ∀b∈A,∀i∈ids b,cG ops i=true->(∀x∈b,cG ops x.1=true->c i x.1=false)-> ∃a∈A,(∀x∈jJ a i,cG ops x.1=false)/\EL ops c (dy a i)
def uu(h:b.Pairwise R)(hm:(i,ji)∈b): ∀x∈jJ b i,R x (i,ji):=by
 intro x hx;have a:=List.takeWhile_append_dropWhile (p:=λz:Nat×List Nat=> !(Nat.beq z.1 i)) (l:=b);rw[<-a,List.pairwise_append]at h;refine h.2.2 x hx (i,ji) ?_;rw[<-a]at hm;rcases Zq hm with hm|hm
 ·exfalso;revert hm;generalize b=l;intro hm
  induction l with
  |nil=>simp at hm
  |cons z l ih=>
   simp only[List.takeWhile_cons]at hm;split at hm
   ·rename_i hz;rcases List.mem_cons.1 hm with rfl|hm
    ·simp at hz
    ·exact ih hm
   ·simp at hm
 ·exact hm
def xV(h:EL ops c b):La ops c [b]:=by
 intro r hr i hi he a;simp only[LZ]at hr;subst hr;obtain⟨⟨i',ji⟩,hm,rfl⟩:=Ms.1 hi;refine⟨r,ak,λx hx=> ?_,h.sublist Nv⟩;cases hb:cG ops x.1 with
 |false=>rfl
 |true=>
  have:=uu h hm x hx hb he;have d:x∈r:=(List.takeWhile_sublist _).subset hx;rw[a x d hb]at this;simp at this
def ju.uniq{w:World}(ha:kK f a)(hw:w.heap=h)(h1:ju P ops o f h u)(h2:ju P ops o f h v):u=v:=by
 rcases h1 with⟨y1,v1⟩|⟨n1,rfl⟩<;>rcases h2 with⟨y2,v2⟩|⟨n2,rfl⟩
 ·have e1:=v1 a.eval (jH ha _) w hw;have e2:=v2 a.eval (jH ha _) w hw;rw[e1]at e2;simpa using e2
 ·have:=iL ha y1;rw[m7 ha n2]at this;simp at this
 ·have:=iL ha y2;rw[m7 ha n1]at this;simp at this
 ·rfl
def gk{a:List (Nat×List Nat)}(hi:i∈ids a):(dy a i).length<a.length:=by obtain⟨z,hz,rfl⟩:=Ms.1 hi;refine List.length_filter_lt_length_iff_exists.2 ⟨z,hz,?_⟩;simp
def tP(hk:k≠i): ∀{a:List (Nat×List Nat)} {x:Nat×List Nat},x∈jJ (dy a k) i->x∈jJ a i:=by
 intro a
 induction a with
 |nil=>intro x hx;simp at hx
 |cons y l ih=>
  intro x hx;simp only[OF]at hx;simp only[List.takeWhile_cons];cases hq:Nat.beq y.1 k with
  |false=>
   simp only[hq,MS,PF,List.takeWhile_cons]at hx;split
   ·rename_i hp;simp only[hp,PF,List.mem_cons]at hx;rcases hx with rfl|hx
    ·simp
    ·exact My _ (ih hx)
   ·rename_i hp;simp[hp]at hx
  |true=>
   simp only[hq,MF,MD,Nf]at hx;have b:=MH hq
   have c:Nat.beq y.1 i=false:=by
    cases hb:Nat.beq y.1 i with
    |false=>rfl
    |true=>exact Mw (b.symm.trans (MH hb)) hk
   rw[L4 (by simp[c])];exact My _ (ih hx)
def yV(a:List (Nat×List Nat))(i k:Nat):dy (dy a i) k=dy (dy a k) i:=by
 simp only[List.filter_filter]
 congr 1
 funext z;exact Bool.and_comm _ _
def KS(hA:xI ops I)
  (hd: ∀(i:Nat) (o:Oper),ops[i]? =some o->pF n o=true) (hK: ∀f h a w,qG n w0 f h a w->K f h->Q .normal a w):
  ∀(F:Nat) (A:List (List (Nat×List Nat))) (c:Array Bool) (f:FF) (h:aI) (a:Act) (w:World),
   A≠[]->(∀b∈A,nT ops I b/\lI ops b c/\sW ops b/\b.length<=F/\SA P ops K b f h)->La ops I A->
   qG n w0 f h a w->wpAny P .any ops Q F c a w:=by
 have U: ∀(A:List (List (Nat×List Nat))) (c:Array Bool) (f:FF) (h:aI) (a:Act) (w:World),A≠[]->
   (∀b∈A,nT ops I b/\lI ops b c/\sW ops b/\SA P ops K b f h)->qG n w0 f h a w->Region.ready .any ops c=[]->Q .normal a w:=by
  intro A c f h a w B m hs hr;obtain⟨b,d⟩:=NE A B;obtain⟨g,hC,hD,t⟩:=m b d;cases b with
  |nil=>exact hK f h a w hs t
  |cons x rest=>
   exfalso;have hx:x.1∈ids (x::rest):=ak;have S:=hC.lt _ hx
   have:x.1∈Region.ready .any ops c:=by
    rw[mem_ready];refine⟨(hC.mem _ S).2 hx,ops[x.1],by simp[S],λe he hb=> ?_⟩;have b5:=hA.edge x.1 ops[x.1] (by simp[S]) e he hb
    have b3:e.on∉ids (x::rest):=by
     intro hm;simp only[Mz,List.mem_cons,Ms]at hm;rcases hm with hm|⟨y,hy,hm⟩
     ·omega
     ·have:=(NH.1 g.lin).1 y hy;rw[hm,b5.2]at this;simp at this
    have h1: ¬c.getD e.on true=false:=λhh=>b3 ((hC.mem e.on ah).1 hh);have h2:e.on<c.size:=by rw[hC.size];omega
    simp[h2]at h1 ⊢;exact h1
   rw[hr]at this;simp at this
 intro F
 induction F with
 |zero=>
  intro A c f h a w B m L hs
  have hr:Region.ready .any ops c=[]:=by
   obtain⟨b,d⟩:=NE A B;obtain⟨g,hC,hD,hl,t⟩:=m b d;have h0:b=[]:=MQ ah;cases hr:Region.ready .any ops c with
   |nil=>rfl
   |cons i l=>
    have:=(jU hC (i:=i) (by rw[hr];simp)).1;rw[h0]at this;simp at this
  exact⟨hr,U A c f h a w B (λb d=>by obtain⟨g,hC,hD,_,t⟩:=m b d;exact⟨g,hC,hD,t⟩) hs hr⟩
 |succ F ih=>
  intro A c f h a w B m L hs;refine⟨λhr=>U A c f h a w B (λb d=>by obtain⟨g,hC,hD,_,t⟩:=m b d;exact⟨g,hC,hD,t⟩) hs hr,λi hi=> ?_⟩
  have q: ∀b∈A,i∈ids b/\(∃o,ops[i]? =some o/\ ∀e∈o.after,Region.binds .any e=true->e.on∉ids b)/\(∀x∈b,I i x.1=false):=by
   intro b d;obtain⟨g,hC,hD,hl,t⟩:=m b d;obtain⟨hm,o,ho,O⟩:=jU hC hi;refine⟨hm,⟨o,ho,O⟩,λx hx=> ?_⟩;cases hb:I i x.1 with
   |false=>rfl
   |true=>
    exfalso;obtain⟨e,he,a7,S,hh⟩:=hA.up i o x.1 ho hb;have Z:=O e he a7;have b9:i<ops.size:=(Mf.1 ho).1;have a2:x.1∈ids b:=Ms.2 ⟨x,hx,rfl⟩;rcases hh with hh|hh
    ·rw[hh]at Z;exact Z a2
    ·exact lr hA hD e.on ah Z x.1 hh a2
  have step: ∀b∈A,(cG ops i=true-> ∀x∈jJ b i,cG ops x.1=false)->
    fF P ops i (λf' h'=>SA P ops K (dy b i) f' h') f h:=by
   intro b d a5;obtain⟨g,hC,hD,hl,t⟩:=m b d;obtain⟨hm,hr,M⟩:=q b d;obtain⟨⟨i',ji⟩,hm',rfl⟩:=Ms.1 hm;refine(GO b f h g hm' M a5 (λj hj b4 x hx=> ?_) t).mono λf' h' hh=>hh.2;cases hb:I j x.1 with
   |false=>rfl
   |true=>
    exfalso;obtain⟨o,ho,_⟩:=g.self _ hm' j hj;have b6:j<ops.size:=(Mf.1 ho).1;exact lr hA hD j b6 b4 x.1 hb (Ms.2 ⟨x,hx,rfl⟩)
  cases he:cG ops i with
  |true=>
   obtain⟨D,z⟩:=NE A B;obtain⟨J,C,R,W⟩:=L D z i (q D z).1 he (λx hx _=>(q D z).2.2 x hx);obtain⟨g,hC,hD,hl,t⟩:=m J C;obtain⟨hm,hr,M⟩:=q J C;refine(step J C λ_=>R).wpOp hs (λo ho=>hd i o ho) λf' h' a' w' a1 hk=> ?_;refine ih [dy J i] (c.setIfInBounds i true) f' h' a' w' ak ?_ (xV W) a1;intro b d;simp only[LZ]at d;subst d;exact⟨g.sub Nv,hC.drop i hm,hD.drop hr,by have:=gk hm;omega,hk⟩
  |false=>
   obtain⟨D,z⟩:=NE A B;obtain⟨o,ho,H⟩:=step D z (λe=>by rw[he]at e;simp at e);have N:qf o.op=false:=by simpa[cG,ho]using he
   have H: ∃v,ju P ops o f h v:=by
    rcases H with⟨v,h1,_,_⟩|⟨h1,_⟩
    ·exact⟨v,h1⟩
    ·rw[N]at h1;simp at h1
   obtain⟨v,hv⟩:=H
   have a3:fF P ops i (λf' h'=> ∀b∈A,SA P ops K (dy b i) f' h') f h:=by
    refine⟨o,ho,.inl ⟨v,hv,λe=>by rw[N]at e;simp at e,λb d=> ?_⟩⟩;obtain⟨o',V,H⟩:=step b d (λe=>by rw[he]at e;simp at e);rw[ho]at V;simp only[MT]at V;subst V;rcases H with⟨u,h1,_,h3⟩|⟨h1,_⟩
    ·rw[ju.uniq hs.agree hs.heap hv h1];exact h3
    ·rw[N]at h1;simp at h1
   refine a3.wpOp hs (λo ho=>hd i o ho) λf' h' a' w' a1 hk=> ?_;refine ih (A.map λb=>dy b i) (c.setIfInBounds i true) f' h' a' w' (by simpa using B) ?_ ?_ a1
   ·intro a4 G;obtain⟨b,d,rfl⟩:=Ms.1 G;obtain⟨g,hC,hD,hl,t⟩:=m b d;obtain⟨hm,hr,M⟩:=q b d;exact⟨g.sub Nv,hC.drop i hm,hD.drop hr,by have:=gk hm;omega,hk b d⟩
   ·intro a4 G k b2 Y b0;obtain⟨b,d,rfl⟩:=Ms.1 G;have b8:k≠i:=λe=>by rw[e,he]at Y;simp at Y
    obtain⟨g,hC,hD,hl,t⟩:=m b d
    obtain⟨J,C,R,W⟩:=L b d k (gp.1 b2).1 Y (λx hx a0=>by
     have b1:x.1≠i:=λe=>by rw[e,he]at a0;simp at a0
     obtain⟨y,hy,a6⟩:=Ms.1 (gp.2 ⟨Ms.2 ⟨x,hx,rfl⟩,b1⟩);have b7:cG ops y.1=true:=by rw[a6];exact a0
     have:=b0 y hy b7;rw[a6]at this;exact this)
    refine⟨dy J i,Ms.2 ⟨J,C,rfl⟩,λx hx=>R x (tP (Ne.symm b8) hx),?_⟩;rw[yV];exact W.sublist Nv
abbrev kX:=List (Nat×List Nat)
def pc: ∀a:kX,lC ops a++iW ops a=a
 | []=>rfl
 |x::l=>by
  unfold lC iW;cases Kj ops x.1 with
  |true=>rfl
  |false=>simp[pc l]
def sN: ∀(a:kX),∀x∈lC ops a,cG ops x.1=false
 | [],x,hx=>by simp[lC]at hx
 |y::l,x,hx=>by
  unfold lC at hx;cases he:Kj ops y.1 with
  |true=>rw[he]at hx;simp at hx
  |false=>
   rw[he]at hx;rcases List.mem_cons.1 hx with rfl|hx
   ·exact he
   ·exact sN l x hx
def pT: ∀{l:kX},xU i l=true↔i∈ids l
 | []=>by simp[xU]
 |x::l=>by
  unfold xU;cases hb:Nat.beq x.1 i with
  |true=>
   have:=MH hb;simp[this]
  |false=>
   have a:i≠x.1:=λe=>by rw[e]at hb;simp at hb
   simp only[pT (l:=l),Mz,List.mem_cons];exact⟨.inr,λh=>h.resolve_left a⟩
def jS: ∀{B:List kX},(i,js)∈jf B-> ∃r,((i,js)::r)∈B
 | [],h=>by simp[jf]at h
 | []::A,h=>by obtain⟨r,hr⟩:=jS (B:=A) h;exact⟨r,My _ hr⟩
 |(x::l)::A,h=>by
  unfold jf at h;dsimp only at h;split at h
  ·obtain⟨r,hr⟩:=jS (B:=A) h;exact⟨r,My _ hr⟩
  ·rcases List.mem_cons.1 h with e|h
   ·exact⟨l,by rw[e];simp⟩
   ·obtain⟨r,hr⟩:=jS (B:=A) h;exact⟨r,My _ hr⟩
def oz: ∀{B:List kX},l∈qA i B-> ∃js,((i,js)::l)∈B
 | [],h=>by simp[qA]at h
 | []::A,h=>by obtain⟨r,hr⟩:=oz (B:=A) h;exact⟨r,My _ hr⟩
 |(x::r)::A,h=>by
  unfold qA at h;cases hb:Nat.beq x.1 i with
  |true=>
   rw[hb]at h;have:=MH hb;rcases List.mem_cons.1 h with e|h
   ·exact⟨x.2,by rw[e,<-this];simp⟩
   ·obtain⟨js,hr⟩:=oz (B:=A) h;exact⟨js,My _ hr⟩
  |false=>
   rw[hb]at h;obtain⟨js,hr⟩:=oz (B:=A) h;exact⟨js,My _ hr⟩
def mj: ∀{B:List kX},qA i B≠[]->i∈ids (jf B)
 | [],h=>Mw rfl h
 | []::A,h=>by unfold jf;exact mj (B:=A) h
 |(x::r)::A,h=>by
  unfold jf;dsimp only;cases hb:Nat.beq x.1 i with
  |true=>
   have e:=MH hb;split
   ·rename_i hh;rw[e]at hh;exact pT.1 hh
   ·simp[e]
  |false=>
   unfold qA at h;rw[hb]at h;have:=mj (B:=A) h;split
   ·exact this
   ·simp only[Mz,List.mem_cons];exact .inr this
def J9(P:Program)(ops:Array Oper)(K:FF->aI->Prop)(a:List kX->FF->aI->Prop)(B:List kX)(f:FF)(h:aI):Prop:=
 match B with
 | []::_=>K f h
 |B=> ∀i js,(i,js)∈jf B->fF P ops i (λf' h'=>(∀j∈js,fM P ops f' h' j)/\a (qA i B) f' h') f h
def SG(P:Program)(ops:Array Oper)(K:FF->aI->Prop):Nat->List kX->FF->aI->Prop
 |0,_,_,_=>False
 |_+1,[],_,_=>False
 |n+1,a::A,f,h=>SA P ops (J9 P ops K (SG P ops K n) ((a::A).map (iW ops))) (lC ops a) f h
def Lt(ops:Array Oper)(c:Nat->Nat->Bool)(a:List kX->Prop)(B:List kX):Prop:=
 (∀b∈B,b=[])\/((∀b∈B,∃x r,b=x::r/\cG ops x.1=true/\ ∀j∈x.2,j∉ids r)/\
  ∀b0∈B.head?,∀y∈ids b0,cG ops y=true->(∀x∈b0,cG ops x.1=true->c y x.1=false)->qA y B≠[]/\a (qA y B))
def KF(ops:Array Oper)(c:Nat->Nat->Bool):Nat->List kX->Prop
 |0,_=>False
 |n+1,A=>A≠[]/\(∀a∈A,∀b∈A,lC ops a=lC ops b)/\Lt ops c (KF ops c n) (A.map (iW ops))
def SA.mono(hk: ∀f h,K f h->K' f h): ∀{l:kX} {f:FF} {h:aI},SA P ops K l f h->SA P ops K' l f h
 | [],_,_,H=>hk _ _ H
 |(_,_)::_,_,_,H=>fF.mono H λ_ _ hh=>⟨hh.1,SA.mono hk hh.2⟩
def mD: ∀{l m:kX} {f:FF} {h:aI},SA P ops (SA P ops K m) l f h->SA P ops K (l++m) f h
 | [],_,_,_,H=>H
 |(_,_)::_,_,_,_,H=>fF.mono H λ_ _ hh=>⟨hh.1,mD hh.2⟩
def lJ(h:i∉ids l):dy l i=l:=by
 rw[Nr];intro z hz;cases hb:Nat.beq z.1 i with
 |false=>rfl
 |true=>exact Mw (Ms.2 ⟨z,hz,MH hb⟩) h
def mh(l m:kX)(i:Nat):dy (l++m) i=dy l i++dy m i:=Nx ..
def wZ(l m:kX):ids (l++m)=ids l++ids m:=MJ
def Is(hA:xI ops anc)
  (hd: ∀(i:Nat) (o:Oper),ops[i]? =some o->pF n o=true) (hK: ∀f h a w,qG n w0 f h a w->K f h->Q .normal a w):
  ∀(fuel d:Nat) (pre:kX) (B:List kX) (listed:Array Bool) (f:FF) (h:aI) (a:Act) (w:World),
   B≠[]->(∀x∈pre,cG ops x.1=false)->(∀b∈B,nT ops anc (pre++b)/\lI ops (pre++b) listed/\sW ops (pre++b)/\(pre++b).length<=fuel)->Lt ops anc (KF ops anc d) B->
   SA P ops (J9 P ops K (SG P ops K d) B) pre f h->qG n w0 f h a w->wpAny P .any ops Q fuel listed a w:=by
 have over: ∀(d:Nat) (pre:kX) (B:List kX) (listed:Array Bool) (f:FF) (h:aI) (a:Act) (w:World),B≠[]->
   (∀b∈B,nT ops anc (pre++b)/\lI ops (pre++b) listed/\sW ops (pre++b))->SA P ops (J9 P ops K (SG P ops K d) B) pre f h->qG n w0 f h a w->Region.ready .any ops listed=[]->Q .normal a w:=by
  intro d pre B listed f h a w hne hall hSA hs hr;obtain⟨b,B',rfl⟩: ∃b B',B=b::B':=by cases B with|nil=>exact Mw rfl hne|cons b B'=>exact⟨b,B',rfl⟩
  obtain⟨g,hC,hD⟩:=hall b ak;cases hrem:pre++b with
  |nil=>
   obtain⟨rfl,rfl⟩:=List.append_eq_nil_iff.1 hrem;exact hK f h a w hs hSA
  |cons x rest=>
   exfalso;rw[hrem]at g hC hD;have hx:x.1∈ids (x::rest):=ak;have hlt:=hC.lt _ hx
   have:x.1∈Region.ready .any ops listed:=by
    rw[mem_ready];refine⟨(hC.mem _ hlt).2 hx,ops[x.1],by simp[hlt],λe he hb=> ?_⟩;have hed:=hA.edge x.1 ops[x.1] (by simp[hlt]) e he hb
    have hnm:e.on∉ids (x::rest):=by
     intro hm;simp only[Mz,List.mem_cons,Ms]at hm;rcases hm with hm|⟨y,hy,hm⟩
     ·omega
     ·have:=(NH.1 g.lin).1 y hy;rw[hm,hed.2]at this;simp at this
    have h1: ¬listed.getD e.on true=false:=λhh=>hnm ((hC.mem e.on ah).1 hh);have h2:e.on<listed.size:=by rw[hC.size];omega
    simp[h2]at h1 ⊢;exact h1
   rw[hr]at this;simp at this
 intro fuel
 induction fuel with
 |zero=>
  intro d pre B listed f h a w hne hpre hall hok hSA hs
  have hr:Region.ready .any ops listed=[]:=by
   obtain⟨b,hb⟩:=NE B hne;obtain⟨g,hC,hD,hl⟩:=hall b hb;have h0:pre++b=[]:=MQ ah;cases hr:Region.ready .any ops listed with
   |nil=>rfl
   |cons i l=>
    have:=(jU hC (i:=i) (by rw[hr];simp)).1;rw[h0]at this;simp at this
  exact⟨hr,over d pre B listed f h a w hne (λb hb=>by obtain⟨g,hC,hD,_⟩:=hall b hb;exact⟨g,hC,hD⟩) hSA hs hr⟩
 |succ fuel ih=>
  intro d pre B listed f h a w hne hpre hall hok hSA hs;refine⟨λhr=>over d pre B listed f h a w hne (λb hb=>by obtain⟨g,hC,hD,_⟩:=hall b hb;exact⟨g,hC,hD⟩) hSA hs hr,λi hi=> ?_⟩
  have pulled: ∀b∈B,i∈ids (pre++b)/\(∃o,ops[i]? =some o/\ ∀e∈o.after,Region.binds .any e=true->e.on∉ids (pre++b))/\(∀x∈pre++b,anc i x.1=false):=by
   intro b hb;obtain⟨g,hC,hD,hl⟩:=hall b hb;obtain⟨hm,o,ho,hall'⟩:=jU hC hi;refine⟨hm,⟨o,ho,hall'⟩,λx hx=> ?_⟩;cases hb:anc i x.1 with
   |false=>rfl
   |true=>
    exfalso;obtain⟨e,he,hbe,hlt,hh⟩:=hA.up i o x.1 ho hb;have hon:=hall' e he hbe;have hil:i<ops.size:=(Mf.1 ho).1;have hxm:x.1∈ids (pre++b):=Ms.2 ⟨x,hx,rfl⟩;rcases hh with hh|hh
    ·rw[hh]at hon;exact hon hxm
    ·exact lr hA hD e.on ah hon x.1 hh hxm
  obtain⟨b0,B',eB⟩: ∃b B',B=b::B':=by cases B with|nil=>exact Mw rfl hne|cons b B'=>exact⟨b,B',rfl⟩
  have hb0:b0∈B:=by rw[eB];simp
  cases he:cG ops i with
  |false=>
   have inpre: ∀b∈B,i∉ids b:=by
    intro b hb him;obtain⟨g,-⟩:=hall b hb;rcases hok with hok|⟨hok,-⟩
    ·rw[hok b hb]at him;simp at him
    ·obtain⟨x,r,rfl,hx,-⟩:=hok b hb;simp only[Mz,List.mem_cons]at him;rcases him with rfl|him
     ·rw[he]at hx;simp at hx
     ·obtain⟨y,hy,rfl⟩:=Ms.1 him;have hp:=g.pair;rw[List.pairwise_append]at hp;have:=(NH.1 hp.2.1).1 y hy;have ha:=(pulled _ hb).2.2 x ak;simp only[xm,ha,he,hx,Oc,Bool.and_false,Bool.false_and,MF]at this;cases this
   have him:i∈ids pre:=by have:=(pulled b0 hb0).1;rw[wZ,List.mem_append]at this;exact this.resolve_right (inpre b0 hb0)
   obtain⟨⟨i',ji⟩,hm',rfl⟩:=Ms.1 him;obtain⟨g,hC,hD,hl⟩:=hall b0 hb0;have hji:ji=[]:=g.empty (i',ji) (by simp[hm']) he;have step:=GO (K:=J9 P ops K (SG P ops K d) B) pre f h (g.sub (List.sublist_append_left _ _)) hm' (λx hx=>(pulled b0 hb0).2.2 x (by simp[hx])) (λe=>by rw[he]at e;simp at e) (by rw[hji];simp) hSA;refine step.wpOp hs (λo ho=>hd _ o ho) λf' h' a' w' hs' hk=> ?_;refine ih d (dy pre i') B _ f' h' a' w' hne (λx hx=>hpre x (List.mem_filter.1 hx).1) (λb hb=> ?_) hok hk.2 hs';obtain⟨g,hC,hD,hl⟩:=hall b hb;obtain⟨hm,hr,hanc⟩:=pulled b hb;have e:dy pre i'++b=dy (pre++b) i':=by rw[mh,lJ (inpre b hb)]
   rw[e];exact⟨g.sub Nv,hC.drop _ hm,hD.drop hr,by have:=gk hm;dsimp only at this;omega⟩
  |true=>
   have nopre:i∉ids pre:=λhim=>by obtain⟨x,hx,rfl⟩:=Ms.1 him;rw[hpre x hx]at he;simp at he
   have hib:i∈ids b0:=by have:=(pulled b0 hb0).1;rw[wZ,List.mem_append]at this;exact this.resolve_left nopre
   rcases hok with hok|⟨hok1,hok2⟩
   ·rw[hok b0 hb0]at hib;simp at hib
   obtain⟨hg,hrec⟩:=hok2 b0 (by rw[eB];rfl) i hib he (λx hx _=>(pulled b0 hb0).2.2 x (by simp[hx]));obtain⟨⟨i',ji⟩,hh,e'⟩:=Ms.1 (mj hg);dsimp only at e';subst e';obtain⟨r,hr⟩:=jS hh;obtain⟨g,hC,hD,hl⟩:=hall _ hr
   have hSA':SA P ops (SG P ops K d (qA i' B)) (pre++[(i',ji)]) f h:=by
    refine mD (SA.mono (λf h H=> ?_) hSA)
    have H': ∀i js,(i,js)∈jf B->fF P ops i (λf' h'=>(∀j∈js,fM P ops f' h' j)/\SG P ops K d (qA i B) f' h') f h:=by obtain⟨x,r',e,-⟩:=hok1 b0 hb0;subst eB e;exact H
    exact H' i' ji hh
   have sub:(pre++[(i',ji)]).Sublist (pre++((i',ji)::r)):=List.Sublist.append_left ak _;have hm':(i',ji)∈pre++[(i',ji)]:=ak;have step:=GO (K:=SG P ops K d (qA i' B)) (pre++[(i',ji)]) f h (g.sub sub) hm' (λx hx=>(pulled _ hr).2.2 x (sub.subset hx)) (λ_ x hx=> ?_) (λj hj hjn x hx=> ?_) hSA'
   ·refine step.wpOp hs (λo ho=>hd _ o ho) λf' h' a' w' hs' hk=> ?_
    have ep:(pre++[(i',ji)]).filter (λz=> !(Nat.beq z.1 i'))=pre:=by have:=mh pre [(i',ji)] i';rw[lJ nopre]at this;simpa using this
    rw[ep]at hk;cases d with
    |zero=>exact hrec.elim
    |succ d=>
     obtain⟨-,hpe,hb⟩:=hrec;obtain⟨c0,C,eC⟩: ∃c C,qA i' B=c::C:=by cases hq:qA i' B with|nil=>exact Mw hq hg|cons c C=>exact⟨c,C,rfl⟩
     rw[eC]at hk hpe hb;refine ih d (pre++lC ops c0) ((c0::C).map (iW ops)) _ f' h' a' w' ak (λx hx=> ?_) (λb hb=> ?_) hb (mD hk.2) hs'
     ·rcases Zq hx with hx|hx
      ·exact hpre x hx
      ·exact sN _ x hx
     ·obtain⟨c,hc,rfl⟩:=Ms.1 hb;rw[hpe c0 ak c hc,Ns,pc];obtain⟨js,hjs⟩:=oz (i:=i') (l:=c) (B:=B) (by rw[eC];exact hc);obtain⟨g,hC,hD,hl⟩:=hall _ hjs;obtain⟨hm,hr',hanc⟩:=pulled _ hjs;have hnd:=g.nodup
      have e:pre++c=dy (pre++((i',js)::c)) i':=by
       rw[mh,lJ nopre]
       congr 1
       rw[MJ,ML]at hnd
       have:i'∉ids c:=by have:=hnd.2.1;simp only[Mz,MO]at this;exact this.1
       have e2:dy ((i',js)::c) i'=dy c i':=ak;rw[e2];exact(lJ this).symm
      rw[e];exact⟨g.sub Nv,hC.drop _ hm,hD.drop hr',by have:=gk hm;omega⟩
   ·have hx':x∈pre\/x=(i',ji):=by
     have:=(List.takeWhile_sublist _).subset hx;simpa using this
    rcases hx' with hx'|rfl
    ·exact hpre x hx'
    ·exfalso;have:=MZ.1 List.all_takeWhile _ hx;simp at this
   ·cases hb:anc j x.1 with
    |false=>rfl
    |true=>
     exfalso;obtain⟨o,ho,_⟩:=g.self (i',ji) ak j hj;have hjl:j<ops.size:=(Mf.1 ho).1
     have hjn':j∉ids (pre++((i',ji)::r)):=by
      obtain⟨x',r',e',-,hjr⟩:=hok1 _ hr;simp only[Ng]at e';obtain⟨rfl,rfl⟩:=e';intro hm;have hm:j∈ids pre\/j=i'\/j∈ids r:=by simpa using hm
      have hjn: ¬(j∈ids pre\/j=i'):=by simpa using hjn
      rcases hm with hm|hm|hm
      ·exact hjn (.inl hm)
      ·exact hjn (.inr hm)
      ·exact hjr j hj hm
     exact lr hA hD j hjl hjn' x.1 hb (Ms.2 ⟨x,sub.subset hx,rfl⟩)
def Jq{α:Type}(r:α->α->Bool):List α->Bool
 | []=>true
 |x::l=>l.all (r x)&&Jq r l
def wT{α:Type}{r:α->α->Bool}: ∀{l:List α},Jq r l=true->l.Pairwise λx y=>r x y=true:=by
 intro l
 induction l with
 |nil=>intro _;exact List.Pairwise.nil
 |cons x l ih=>
  intro h;simp only[Jq,MG,MZ]at h;exact List.Pairwise.cons h.1 (ih h.2)
def jd(A:List Nat)(j x:Nat):Bool:=(A.getD j 0).testBit x
def HZ(ops:List Oper)(A:List Nat):Bool:=
 ops.zipIdx.all λ(o,j)=>Nat.blt (A.getD j 0) (2^j)&&
  o.after.toList.all (λe=> !Region.binds .any e||(Nat.blt e.on j&&jd A j e.on))&&
  (List.range j).all λx=> !jd A j x||o.after.toList.any λe=>Region.binds .any e&&(Nat.beq e.on x||jd A e.on x)
def xj(ops:Array Oper)(a:Nat->Nat->Bool)(x y:Nat×List Nat):Bool:=xm ops a x y&& !a x.1 y.1&& !Nat.beq x.1 y.1
def EP(ops:Array Oper)(j:Nat):Bool:=match ops[j]? with|some o=>jW ops o.dst o|none=>false
def FQ(ops:Array Oper)(b:Nat->Nat->Bool)(a:List (Nat×List Nat)):Bool:=
 Jq (xj ops b) a&&a.all (λx=>cG ops x.1||x.2.isEmpty)&&
 a.all (λy=>y.2.all λj=>EP ops j&&a.all λx=>Nat.beq x.1 j||b j x.1||b x.1 y.1||oC ops j x.1)&&
 (List.range ops.size).all (λi=>(ids a).contains i)&&(ids a).all λi=>Nat.blt i ops.size
def Il(ops:Array Oper)(c:Nat->Nat->Bool)(A:List (List (Nat×List Nat))):Bool:=
 A.all λb=>b.all λi=> !cG ops i.1||b.any (λx=>cG ops x.1&&c i.1 x.1)||
  A.any λa=>(jJ a i.1).all (λx=> !cG ops x.1)&&Jq (λx y=> !cG ops x.1|| !cG ops y.1||c y.1 x.1) (dy a i.1)
def Iw(ops:Array Oper)(c:Nat->Nat->Bool)(a:List kX->Bool)(B:List kX):Bool:=
 B.all (·.isEmpty)||(B.all (λb=>match b with| []=>false|x::r=>cG ops x.1&&x.2.all λj=> !xU j r)&&
  (match B with| []=>true|b0::_=>b0.all λy=> !cG ops y.1||b0.any (λx=>cG ops x.1&&c y.1 x.1)||(!(qA y.1 B).isEmpty&&a (qA y.1 B))))
def AY(ops:Array Oper)(c:Nat->Nat->Bool):Nat->List kX->Bool
 |0,_=>false
 |n+1,A=> !A.isEmpty&&(match A with| []=>true|a::_=>A.all λb=>decide (lC ops b=lC ops a))&&Iw ops c (AY ops c n) (A.map (iW ops))
def vU(ops:Array Oper)(alts:List (List (Nat×List Nat))):Bool:=
 let A:=(Region.before ops).toList
 HZ ops.toList A&& !alts.isEmpty&&alts.all (FQ ops (jd A))&&(match Nat.ble 5 alts.length with|true=>AY ops (jd A) (ops.size+1) alts|false=>Il ops (jd A) alts)
def ry: ∀(n:Nat) (A:List kX),AY ops f n A=true->KF ops f n A
 |0,_,h=>by simp[AY]at h
 |n+1,A,h=>by
  unfold AY at h;simp only[MG]at h;obtain⟨⟨h1,h2⟩,h3⟩:=h;refine⟨by intro e;subst e;simp at h1,?_,?_⟩
  ·cases A with
   |nil=>intro a ha;simp at ha
   |cons a0 A=>
    simp only[MZ,Mu]at h2;intro a ha b hb;rw[h2 a ha,h2 b hb]
  ·unfold Iw at h3;simp only[Nj,MG,MZ]at h3;rcases h3 with h3|⟨h3,h4⟩
   ·exact .inl λb hb=>by simpa using h3 b hb
   ·refine .inr ⟨λb hb=> ?_,λb0 c y hy he d=> ?_⟩
    ·have:=h3 b hb;cases b with
     |nil=>simp at this
     |cons x r=>
      simp only[MG,MZ,MX]at this;refine⟨x,r,rfl,this.1,λj hj hm=> ?_⟩;have h5:=this.2 j hj;rw[pT.2 hm]at h5;simp at h5
    ·generalize hB:A.map (iW ops)=B at h4 c ⊢;cases B with
     |nil=>simp at c
     |cons b B=>
      simp only[List.head?_cons,Option.mem_some_iff]at c;subst c;simp only[MZ,Nj,MX,Pm,MG]at h4;obtain⟨z,hz,rfl⟩:=Ms.1 hy;rcases h4 z hz with(h5|⟨x,hx,h5,h6⟩)|⟨h5,h6⟩
      ·rw[he]at h5;simp at h5
      ·rw[d x hx h5]at h6;simp at h6
      ·exact⟨by intro e;rw[e]at h5;simp at h5,ry n _ h6⟩
def uR{ops:Array Oper}(h:HZ ops.toList A=true):xI ops (jd A):=by
 have key: ∀j o,ops[j]? =some o->A.getD j 0<2^j/\(∀e∈o.after,Region.binds .any e=true->e.on<j/\jd A j e.on=true)/\
   ∀x,x<j->jd A j x=true-> ∃e∈o.after,Region.binds .any e=true/\(e.on=x\/jd A e.on x=true):=by
  intro j o ho
  have:=MZ.1 h (o,j) (by rw[MC];exact⟨j,by simp[List.getElem?_zipIdx,ho]⟩)
  simp only[MG,MZ]at this;obtain⟨⟨h1,h2⟩,h3⟩:=this;refine⟨NF h1,λe he hb=> ?_,λx hx d=> ?_⟩
  ·have:=h2 e (by simpa using he);simp only[hb,MF,Oc,MG]at this;exact⟨NF this.1,this.2⟩
  ·have:=h3 x (by simpa using hx);simp only[d,MF,Oc,Pm,MG,Nj]at this;obtain⟨e,he,hb,hh⟩:=this;exact⟨e,by simpa using he,hb,hh.imp MH id⟩
 refine⟨λj o x ho hx=> ?_,λj o ho e he hb=>(key j o ho).2.1 e he hb⟩;obtain⟨h1,h2,h3⟩:=key j o ho
 have a:x<j:=by
  rcases Nat.lt_or_ge x j with c|b
  ·exact c
  ·have hp:2^j<=2^x:=NZ ah b;have:=NP (i:=x) (x:=A.getD j 0) ah;unfold jd at hx;rw[this]at hx;simp at hx
 obtain⟨e,he,hb,hh⟩:=h3 x a hx;exact⟨e,he,hb,(h2 e he hb).1,hh⟩
def uQ{ops:Array Oper}{f:Nat->Nat->Bool}{a:List (Nat×List Nat)}(h:FQ ops f a=true):
  nT ops f a/\lI ops a (Array.replicate ops.size false)/\sW ops a/\a.length<=ops.size:=by
 simp only[FQ,MG,MZ]at h;obtain⟨⟨⟨⟨h1,h2⟩,h3⟩,h4⟩,h5⟩:=h;have h1:=wT h1
 have c: ∀i,i<ops.size->i∈ids a:=λi hi=>by have:=h4 i (MW.2 hi);exact List.contains_iff_mem.1 this
 have d: ∀i∈ids a,i<ops.size:=λi hi=>NF (h5 i hi)
 have hnd:(ids a).Nodup:=by rw[List.nodup_iff_pairwise_ne,PN];refine h1.imp λ{x y} b e=> ?_;simp[xj,e]at b
 refine⟨⟨hnd,h1.imp λ{x y} b=> ?_,λx hx he=> ?_,λy hy j hj x hx g=> ?_,λy hy j hj=> ?_,h1.imp λ{x y} b=> ?_⟩,⟨ak,λi hi=> ?_,d⟩,λj o ho hj=> ?_,?_⟩
 ·simp only[xj,MG]at b;exact b.1.1
 ·have:=h2 x hx;simpa[he]using this
 ·have:=(h3 y hy j hj).2 x hx;simp only[Nj]at this;rcases this with((this|this)|this)|this
  ·exact Mw (MH this) g
  ·exact .inl this
  ·exact .inr (.inl this)
  ·exact .inr (.inr this)
 ·have hs:=(h3 y hy j hj).1;unfold EP at hs;split at hs
  ·rename_i o ho;exact⟨o,ho,hs⟩
  ·simp at hs
 ·simp only[xj,MG,MX]at b;exact b.1.2
 ·simp[c i hi,hi]
 ·exact Mw (c j (Mf.1 ho).1) hj
 ·have:(ids a).length<=(List.range ops.size).length:=hnd.length_le_of_subset λi hi=>by simpa using d i hi
  simpa using this
def zH{ops:Array Oper}{d:Nat->Nat->Bool}{A:List (List (Nat×List Nat))}(h:Il ops d A=true):La ops d A:=by
 intro e c i hi he a;obtain⟨x,hx,rfl⟩:=Ms.1 hi;have:=MZ.1 (MZ.1 h e c) x hx;simp only[he,MF,Oc,Nj,Pm,MG]at this;rcases this with⟨y,hy,h1,h2⟩|⟨g,b,h1,h2⟩
 ·rw[a y hy h1]at h2;simp at h2
 ·refine⟨g,b,λy hy=> ?_,(wT h2).imp λ{x y} f hx hy=> ?_⟩
  ·have:=MZ.1 h1 y hy;simpa using this
  ·simpa[hx,hy]using f
def mV(hX:uN P X)
  (ho:ops[i]? =some o) (hk: ∀ρ h,K ρ h->κ (get ρ) h) (H:pP P X ops o ρ h K):fF P ops i κ (get ρ) h:=by
 have run: ∀ρ':Fr,get ρ'=get ρ->kI ops o (get ρ)->(KP P X o ρ' h λv h'=>K (put ρ' o.dst v) h')->fF P ops i κ (get ρ) h:=by
  intro ρ' hρ hy H;unfold KP at H;split at H
  ·rename_i he;refine⟨o,ho,.inr ⟨he,hy,?_⟩⟩;have:=wn hX H;rw[sj,hρ]at this;exact this.mono λv h' hh=>by have:=hk _ _ hh;rwa[ou,hρ]at this
  ·rename_i he;obtain⟨v,hv,hK⟩:=qg H;rw[sj,hρ]at hv;refine⟨o,ho,.inl ⟨v,.inl ⟨hy,hv⟩,λe=>by rw[he]at e;simp at e,?_⟩⟩;have:=hk _ _ hK;rwa[ou,hρ]at this
 have skip: ∀ρ':Fr,get ρ'=get ρ->vg ops o (get ρ)->K (put ρ' o.dst undef) h->fF P ops i κ (get ρ) h:=by intro ρ' hρ hn H;refine⟨o,ho,.inl ⟨undef,.inr ⟨hn,rfl⟩,λ_=>hn,?_⟩⟩;have:=hk _ _ H;rwa[ou,hρ]at this
 unfold pP zD at H;split at H
 ·rename_i hg;exact run ρ rfl (by simp[kI,hg]) H
 ·rename_i j a hg;split at H
  ·exact H.elim
  ·rename_i d hd;split at H
   ·rename_i b hb;have hy:b=a->kI ops o (get ρ):=λe=>by subst e;simp only[kI,hg];exact⟨d,hd,hb⟩
    have hn:b≠a->vg ops o (get ρ):=λe=>by simp only[vg,hg];exact⟨d,_,hd,hb,λh=>e (by simpa using h)⟩
    split at H
    ·rcases eV H with⟨rfl,H⟩|⟨rfl,H⟩
     ·exact run _ (oy hb) (hy rfl) H
     ·exact skip _ (oy hb) (hn ak) H
    ·rcases eV H with⟨rfl,H⟩|⟨rfl,H⟩
     ·exact skip _ (oy hb) (hn ak) H
     ·exact run _ (oy hb) (hy rfl) H
   ·rename_i vs hb;exact skip ρ rfl (by simp only[vg,hg];exact⟨d,_,hd,hb,ak⟩) H
   ·exact H.elim
def rU: ∀{js:List Nat},fy P ops ρ h js K->(∀j∈js,fM P ops (get ρ) h j)/\K:=by
 intro js
 induction js with
 |nil=>intro H;exact⟨ak,H⟩
 |cons j js ih=>
  intro H;unfold fy at H;split at H
  ·exact H.elim
  rename_i o ho;split at H
  ·exact H.elim
  rename_i d hd;split at H
  ·exact H.elim
  rename_i v hv
  have f:kI ops o (get ρ)->(vn P o.op ρ h λv'=>v'=v/\fy P ops ρ h js K)->(∀k∈j::js,fM P ops (get ρ) h k)/\K:=by
   intro hy H;obtain⟨u,hu,rfl,hK⟩:=qg H;rw[sj]at hu;have:=ih hK;refine⟨λk hk=> ?_,this.2⟩;rcases List.mem_cons.1 hk with rfl|hk
   ·exact⟨o,d,u,ho,hd,hv,.inl ⟨hy,hu⟩⟩
   ·exact this.1 k hk
  have no:vg ops o (get ρ)->(v=undef/\fy P ops ρ h js K)->(∀k∈j::js,fM P ops (get ρ) h k)/\K:=by
   rintro hn ⟨rfl,hK⟩;have:=ih hK;refine⟨λk hk=> ?_,this.2⟩;rcases List.mem_cons.1 hk with rfl|hk
   ·exact⟨o,d,undef,ho,hd,hv,.inr ⟨hn,rfl⟩⟩
   ·exact this.1 k hk
  split at H
  ·rename_i hg;exact f (by simp[kI,hg]) H
  ·rename_i i a hg;split at H
   ·exact H.elim
   rename_i g c;split at H
   ·rename_i b hb;have hy:b=a->kI ops o (get ρ):=λe=>by subst e;simp only[kI,hg];exact⟨g,c,hb⟩
    have hn:b≠a->vg ops o (get ρ):=λe=>by simp only[vg,hg];exact⟨g,_,c,hb,λh=>e (by simpa using h)⟩
    split at H
    ·rcases eV H with⟨rfl,H⟩|⟨rfl,H⟩
     ·exact f (hy rfl) H
     ·exact no (hn ak) H
    ·rcases eV H with⟨rfl,H⟩|⟨rfl,H⟩
     ·exact no (hn ak) H
     ·exact f (hy rfl) H
   ·rename_i vs hb;exact no (by simp only[vg,hg];exact⟨g,_,c,hb,ak⟩) H
   ·exact H.elim
def xK(hX:uN P X)(hk: ∀ρ h,K ρ h->κ (get ρ) h):
  ∀{a:List (Nat×List Nat)} {ρ:Fr} {h:aI},Hs P X ops a ρ h K->SA P ops κ a (get ρ) h:=by
 intro a
 induction a with
 |nil=>intro ρ h H;exact hk _ _ H
 |cons x a ih=>
  intro ρ h H;obtain⟨i,js⟩:=x;unfold Hs at H;split at H
  ·exact H.elim
  rename_i o ho
  exact mV hX ho (λρ h hh=>by have:=rU hh;exact⟨this.1,ih this.2⟩) H
def Aj:
  ∀{alts:List (List (Nat×List Nat))},GU P X ops alts ρ h K-> ∀c∈alts,Hs P X ops c ρ h K:=by
 intro alts
 induction alts with
 |nil=>intro _ c ha;simp at ha
 |cons a l ih=>
  intro H c ha;cases l with
  |nil=>simp only[LZ]at ha;subst ha;exact H
  |cons b l=>
   rcases List.mem_cons.1 ha with rfl|ha
   ·exact H.1
   ·exact ih H.2 c ha
def uS:
  ∀{l:kX},F5 P X ops a A l ρ h-> ∀i js,(i,js)∈l->(match ops[i]? with|none=>False|some o=>pP P X ops o ρ h λρ' h'=>fy P ops ρ' h' js (a (qA i A) ρ' h'))
 | [],_,i,js,hm=>by simp at hm
 | [x],H,i,js,hm=>by simp only[LZ]at hm;subst hm;exact H
 |x::y::l,H,i,js,hm=>by
  rcases List.mem_cons.1 hm with e|hm
  ·subst e;exact H.1
  ·exact uS H.2 i js hm
def xC(hX:uN P X)(hk: ∀ρ h,K ρ h->κ (get ρ) h):
  ∀(n:Nat) (A:List kX) (ρ:Fr) (h:aI),Kq P X ops K n A ρ h->SG P ops κ n A (get ρ) h
 |0,_,_,_,H=>H.elim
 |_+1,[],_,_,H=>H.elim
 |n+1,a::A,ρ,h,H=>by
  unfold Kq at H;unfold SG;refine xK hX (λρ h hh=> ?_) H;unfold J9;rw[Mz];generalize hp:iW ops a=p at hh;cases p with
  |nil=>exact hk _ _ hh
  |cons x r=>
   dsimp only at hh ⊢;intro i js hm;have:=uS hh i js (by rw[Mz,hp];exact hm);split at this
   ·exact this.elim
   ·rename_i o ho;refine mV hX ho (λρ h hh=> ?_) this;have h2:=rU hh;refine⟨h2.1,?_⟩;have h3:=xC hX hk n _ _ _ h2.2;rw[Mz,hp]at h3;exact h3
def lift(n:Nat)(w0:World)(K:Exit->Fr->aI->Prop):Exit->Act->World->Prop:=λe a w=> ∃ρ h,qG n w0 (get ρ) h a w/\K e ρ h
def xr: ∀t v,get (cut L ρ) t=some v->get ρ t=some v:=by
 intro t v
 induction L with
 |nil=>intro h;simp[cut,get]at h
 |cons k L ih=>
  intro h;simp only[cut]at h;split at h
  ·rename_i u hu;simp only[get]at h;split at h
   ·rename_i hb;rw[<-MH hb,<-h];exact hu
   ·exact ih h
  ·exact ih h
def qG.weaken(s:qG n w0 f h a w)(hg: ∀t v,g t=some v->f t=some v):qG n w0 g h a w:=
 ⟨λt v hv=>s.agree t v (hg t v hv),s.defers,s.size,s.same,s.heap⟩
def tF: ∀t v,get (EB q ρ) t=some v->get ρ t=some v:=by
 intro t v h;unfold EB at h;split at h
 ·exact xr t v h
 ·exact h
def eS(T:bh)(n:Nat):Code->Bool
 | .region id ops draw=>ops.toList.all (pF n)&&(!draw||(match Dk T.alts id with|some ls=>vU ops ls|none=>false))
 | .seq a b=>eS T n a&&eS T n b
 | .cond _ a b=>eS T n a&&eS T n b
 | .block _ c=>eS T n c
 | .loop c=>eS T n c
 |_=>true
def uM(ho:ops[i]? =some o)(rest:List Oper)(a:Act)(w:World):
  wpOp P ops Q i (wpList P ops Q rest) a w->wpList P ops Q (o::rest) a w:=by
 intro h;simp only[wpOp,ho]at h;exact h
def xX(hX:uN P X){ops:Array Oper}:
  ∀(l:List Oper) (ρ:Fr) (h:aI) (a:Act) (w:World),(∀o∈l,o∈ops.toList/\pF n o=true)->Kk P X ops l ρ h (λρ' h'=>K .normal ρ' h')->qG n w0 (get ρ) h a w->
   wpList P ops (lift n w0 K) l a w:=by
 intro l
 induction l with
 |nil=>intro ρ h a w _ H s;exact wpList_nil ⟨ρ,h,s,H⟩
 |cons o rest ih=>
  intro ρ h a w hl H s;obtain⟨hm,hd⟩:=hl o ak;obtain⟨i,hi⟩:=MC.1 hm;have hi:ops[i]? =some o:=by simpa using hi
  refine uM hi rest a w ?_
  have st:fF P ops i (λf h=> ∃ρ,get ρ=f/\Kk P X ops rest ρ h (λρ' h'=>K .normal ρ' h')) (get ρ) h:=
   mV hX hi (λρ h hh=>⟨ρ,rfl,hh⟩) H
  refine st.wpOp s (λo' b=>by rw[hi]at b;simp only[MT]at b;subst b;exact hd) λf' h' a' w' s' ⟨ρ',hρ,hh⟩=> ?_;subst hρ;exact ih ρ' h' a' w' (λo ho=>hl o (by simp[ho])) hh s'
def En{P:Program}(hS: ∀κ ρ h,S κ ρ h->κ ρ h)(hX:uN P X)(v:P.follows .mixedOrders=true):
  ∀(c:Code),eS T n c=true-> ∀(K:Exit->Fr->aI->Prop) (ρ:Fr) (h:aI),E P X T S c K ρ h-> ∀(a:Act) (w w0:World),qG n w0 (get ρ) h a w->c.wp P (lift n w0 K) a w:=by
 intro c
 induction c with
 |skip=>intro _ K ρ h H a w w0 s;exact wp_skip ⟨ρ,h,s,H⟩
 |region id ops draw=>
  intro d K ρ h H a w w0 s;simp only[eS,MG,MZ]at d;unfold E at H;split at H
  ·refine wp_region_list (xX hX ops.toList ρ h a w (λo ho=>⟨ho,d.1 o ho⟩) H s)
  ·split at H
   case h_2=>exact H.elim
   rename_i ls A;have q:vU ops ls=true:=by have:=d.2;simpa[A]using this
   simp only[vU,MG,MX,MZ]at q;obtain⟨⟨⟨h1,h2⟩,h3⟩,h4⟩:=q;refine wp_region_any v ?_;have s':qG n w0 (get ρ) h a {w with drawn:=w.drawn+1}:=⟨s.agree,s.defers,s.size,s.same,s.heap⟩;split at h4
   ·rename_i k;rw[k]at H;have ho:=ry _ _ h4;have hG:=xC hX (κ:=λf h=> ∃ρ,get ρ=f/\K .normal ρ h) (λρ h hh=>⟨ρ,rfl,hh⟩) _ _ _ _ H;obtain⟨z,B,C⟩:=ho;cases ls with
    |nil=>exact Mw rfl z
    |cons a0 ls=>
     refine Is (K:=λf h=> ∃ρ,get ρ=f/\K .normal ρ h) (uR h1) (λi o ho=>d.1 o (by have:=Array.mem_of_getElem? ho;simpa using this))
      (λf h a w hs ⟨ρ,hρ,hK⟩=>⟨ρ,h,by rw[hρ];exact hs,hK⟩) ops.size ops.size (lC ops a0) ((a0::ls).map (iW ops)) _ (get ρ) h a _ ak (sN a0) (λb hb=> ?_) C hG s'
     obtain⟨c,hc,rfl⟩:=Ms.1 hb;rw[B a0 ak c hc,pc];exact uQ (h3 c hc)
   rename_i k;rw[k]at H
   refine KS (K:=λf h=> ∃ρ,get ρ=f/\K .normal ρ h) (uR h1) (λi o ho=>d.1 o (by have:=Array.mem_of_getElem? ho;simpa using this))
    (λf h a w hs ⟨ρ,hρ,hK⟩=>⟨ρ,h,by rw[hρ];exact hs,hK⟩) ops.size ls _ (get ρ) h a _ (by intro e;rw[e]at h2;simp at h2) (λu j=> ?_) (zH h4) s'
   obtain⟨g,hC,hD,hl⟩:=uQ (h3 u j);exact⟨g,hC,hD,hl,xK hX (λρ h hh=>⟨ρ,rfl,hh⟩) (Aj H u j)⟩
 |seq x y ihx ihy=>
  intro d K ρ h H a w w0 s;simp only[eS,MG]at d;refine wp_seq (wp_mono (ihx d.1 _ ρ h H a w w0 s) λe a' w' hh=> ?_);obtain⟨ρ',h',s',hK⟩:=hh;cases e with
  |normal=>
   simp only[Df]at hK;split at hK
   ·exact ihy d.2 K _ h' (hS _ _ _ hK) a' w' w0 (s'.weaken xr)
   ·exact ihy d.2 K _ h' hK a' w' w0 s'
  |_=>exact⟨ρ',h',s',hK⟩
 |cond c x y ihx ihy=>
  intro d K ρ h H a w w0 s;simp only[eS,MG]at d;unfold E at H;split at H
  case h_2=>exact H.elim
  rename_i t ht
  have hc:a.eval c= .bool t:=by rw[sj]at ht;exact jH s.agree #[c] c ak _ ht
  refine wp_cond hc ?_;rcases eV H with⟨rfl,H⟩|⟨rfl,H⟩
  ·exact ihx d.1 K ρ h H a w w0 s
  ·exact ihy d.2 K ρ h H a w w0 s
 |block id c ih=>
  intro d K ρ h H a w w0 s;refine wp_block (wp_mono (ih d _ ρ h H a w w0 s) λe a' w' hh=> ?_);obtain⟨ρ',h',s',hK⟩:=hh;cases e with
  |exit i=>
   simp only[Exit.inBlock];by_cases e:i=id
   ·subst e;simp only[pR,Nat.beq_refl]at hK;rw[L4 rfl];exact⟨ρ',h',s',hK⟩
   ·have hb:Nat.beq i id=false:=by
     cases hb:Nat.beq i id with
     |false=>rfl
     |true=>exact Mw (MH hb) e
    simp only[pR,hb]at hK;rw[LY e];exact⟨ρ',h',s',hK⟩
  |_=>exact⟨ρ',h',s',hK⟩
 |loop c ih=>
  intro d K ρ h H a w w0 s;obtain⟨m,H⟩:=H;refine wp_loop_rounds m ?_
  have key: ∀(m:Nat) (ρ:Fr) (h:aI) (a:Act) (w:World),qT S (E P X T S c) (pZ T c) K m ρ h->qG n w0 (get ρ) h a w->Code.rounds P c (lift n w0 K) m a w:=by
   intro m
   induction m with
   |zero=>intro ρ h a w H _;exact H.elim
   |succ m ihm=>
    intro ρ h a w H s;rw[rounds_succ];refine wp_mono (ih d _ ρ h H a w w0 s) λe a' w' hh=> ?_;obtain⟨ρ',h',s',hK⟩:=hh;cases e with
    |normal=>exact ihm _ h' a' w' (hS _ _ _ hK) (s'.weaken tF)
    |_=>exact⟨ρ',h',s',hK⟩
  exact key m _ h a w (hS _ _ _ H) (s.weaken tF)
 |exit id=>intro _ K ρ h H a w w0 s;exact wp_exit ⟨ρ,h,s,H⟩
 |ret=>intro _ K ρ h H a w w0 s;exact wp_ret ⟨ρ,h,s,H⟩
 |label l=>intro _ K ρ h H a w w0 s;exact wp_label ⟨ρ,h,s,H⟩
 |rangeFunc=>intro _ K ρ h H;exact H.elim
 |scope=>intro _ K ρ h H;exact H.elim
 |goto=>intro _ K ρ h H;exact H.elim
 |refuse=>intro _ K ρ h H;exact H.elim
def rv(a:Act):ResultVar->Sem Value
 | .tmp t=>pure (a.tmps.getD t undef)
 | .cell x t=>do loadVar t (<-asAddr (a.tmps.getD x undef))
def u9(fn:Func)(a:Act):results fn a.tmps=(do let vs <-fn.results.mapM (rv a);pure (if h:vs.size=1 then vs[0]else .tuple vs)):=by
 unfold results
 congr 1
def vP: ∀{rs:List ResultVar} {ρ:Fr} {h:aI} {κ:List Value->Prop},wE P rs ρ h κ->qG n w0 f h a w->get ρ=f->
  ∃vs,κ vs/\(rs.mapM (rv a)).run P w= .ok vs w:=by
 intro rs
 induction rs with
 |nil=>intro ρ h κ H s hρ;exact⟨[],H,ak⟩
 |cons r rs ih=>
  intro ρ h κ H s hρ;cases r with
  |tmp t=>
   obtain⟨v,hv,H⟩:=be H;obtain⟨vs,hK,hr⟩:=ih H s hρ;refine⟨v::vs,hK,?_⟩;have:=s.agree t v (by rw[<-hρ];exact hv);simp only[List.mapM_cons,rv,Sem.run_bind,Sem.run_pure,Result.andThen_ok,hr,this]
  |cell x t=>
   simp only[wE]at H;split at H
   case h_2=>exact H.elim
   rename_i p hp;obtain⟨v,d,c⟩:=nF H;obtain⟨vs,hK,hr⟩:=ih d s hρ;refine⟨v::vs,hK,?_⟩;have hx:=s.agree x _ (by rw[<-hρ];exact hp);have hl:=c w s.heap;cases p with
   |none=>simp[t8]at H;split at H<;>(try split at H)<;>(try split at H)<;>(try split at H)<;>(try split at H)<;>first|exact H.elim|skip
   |some b=>
    have e:(loadVar t b).run P w= .ok v w:=by simpa[Instr.loadAt,Instr.sureAddr]using hl
    have ha:(asAddr (.pointer (some b))).run P w= .ok b w:=rfl;simp only[List.mapM_cons,rv,Sem.run_bind,hx,ha,Result.andThen_ok,e,hr,Sem.run_pure]
def kA{P:Program}{fn:Func}{args:List Value}(hX:uN P X)(g:P.follows .mixedOrders=true)
  (hf:P.funcs[f]? =some fn) (hb:fn.body=some c) (n:eS T fn.ntmps c=true) (j:Nat.ble args.length fn.ntmps=true)
  (H:E P X T S0 c (fin P fn.results.toList K) (jD 0 args) h):kM P f args h K:=by
 intro w hw;have j:=NF j;refine calls_of_wp hf hb ?_
 have k: ∀(l:List Value) (i:Nat) (t:Nat) (v:Value),get (jD i l) t=some v->i<=t/\l[t-i]? =some v:=by
  intro l
  induction l with
  |nil=>intro i t v h;simp[jD,get]at h
  |cons u l ih=>
   intro i t v h;simp only[jD,get]at h;split at h
   ·rename_i hb;have:=MH hb;subst this;simp at h;subst h;simp
   ·rename_i hb;have:=ih (i+1) t v h;have e:t-i=(t-(i+1))+1:=ah;exact⟨ah,by rw[e];simpa using this.2⟩
 have s:qG fn.ntmps w (get (jD 0 args)) h {tmps:=args.toArray++Array.replicate (fn.ntmps-args.toArray.size) undef,defers:=[]} w:=by
  refine⟨λt v hv=> ?_,rfl,by simp;omega,cw.refl w,hw⟩;have:=(k args 0 t v hv).2
  have m:t<args.length:=by have:=Ml.1 this;simpa using this.1
  simp only[Of]at this
  have e:(args.toArray++Array.replicate (fn.ntmps-args.toArray.size) undef)[t]? =some v:=by rw[Array.getElem?_append_left (by simpa using m)];simpa using this
  have e2:args.toArray.size=args.length:=rfl;rw[e2]at e;simp[e]
 refine wp_mono (En (S:=S0) (λ_ _ _ h=>h) hX g c n _ _ h H _ w w s) λe a w' hh=> ?_;obtain⟨ρ,h',s',hK⟩:=hh
 have d: ∀{rs:List ResultVar},fn.results.toList=rs->wE P rs ρ h' (λvs=>(match vs with| [v]=>K v h'|vs=>K (.tuple vs.toArray) h'))->
   a.defers=[]/\ ∃v,(results fn a.tmps).run P w'= .ok v w'/\ ∃u,Ending.returned v= .returned u/\cw w w'/\K u w'.heap:=by
  rintro rs rfl hR;obtain⟨vs,b,hr⟩:=vP hR s' rfl;refine⟨s'.defers,(if hh:vs.toArray.size=1 then vs.toArray[0]else .tuple vs.toArray),?_,_,rfl,s'.same,?_⟩
  ·rw[u9,Array.mapM_eq_mapM_toList];simp only[Sem.run_bind,Sem.run_map,hr,Result.andThen_ok,Sem.run_pure]
  ·rw[s'.heap]
   match vs,b with
   | [],b=>exact b
   | [v],b=>exact b
   |u::v::r,b=>simpa using b
 cases e with
 |normal=>exact d rfl hK
 |ret=>exact d rfl hK
 |_=>exact hK.elim
def cE{P:Program}{fn:Func}{args:List Value}(hX:uN P X)(a:P.follows .mixedOrders=true)
  (hf:P.funcs[f]? =some fn) (hb:fn.body=some (fn.body.getD .skip)) (b:eS ⟨[],[]⟩ fn.ntmps (fn.body.getD .skip)=true) (c:Nat.ble args.length fn.ntmps=true)
  (e:E P X ⟨[],[]⟩ S0 (fn.body.getD .skip) (fin P fn.results.toList K) (jD 0 args) h=W) (H:W):kM P f args h K:=
 kA (T:=⟨[],[]⟩) hX a hf hb b c (by rw[e];exact H)
noncomputable def gX(l:List Nat):List (Nat×cH):=List.rec (motive:=λ_=>List (Nat×cH)) [] (λa _ r=>(a,.go)::r) l
noncomputable def gB(P:Program):List Nat->Bool
 | []=>true
 |a::r=>(match P.funcs[a]? with|some f=> !(f.name== "runtime.NumGoroutine")&& !f.body.isNone|none=>false)&&gB P r
def EM: ∀l,gB P l=true->BD P (gX l)
 | [],_=>DF
 |a::r,h=>by
  unfold gB at h;rw[MG]at h;have h1:=h.1;split at h1
  ·rename_i f e;rw[MG,MX,MX]at h1;exact jF ⟨f,e,h1.1,h1.2⟩ (EM r h.2)
  ·exact Bool.noConfusion h1
noncomputable def X:List (Nat×cH):=(248,.load .u64)::(249,.cas .u64)::(250,.add .i64)::(337,.store)::gX [6,9,16,17,18,23,24,26,27,28,30,31,32,33,34,35,36,37,38,39,40,42,43,45,47,51,54,56,61,64,65,66,67,68,70,71,72,73,74,75,76,77,78,79,80,81,82,84,88,89,90,91,92,93,94,95,104,107,108,109,110,111,113,114,115,116,117,118,119,120,121,122,123,124,125,126,127,128,129,130,132,133,134,135,136,137,138,139,140,141,142,143,158,159,160,161,162,163,164,165,166,167,168,169,170,171,172,173,174,175,176,177,178,179,180,181,182,183,184,185,186,187,188,189,190,191,192,193,194,195,197,198,199,200,201,202,203,204,205,206,207,208,209,210,211,212,213,214,215,216,217,218,219,220,221,222,223,224,225,226,227,228,229,230,231,232,233,234,235,236,237,238,239,240,241,242,243,244,245,246,247,251,252,253,254,255,256,257,258,259,260,261,262,263,264,265,266,267,268,269,270,271,272,273,274,275,276,277,278,279,280,281,282,283,284,285,286,287,288,289,290,291,292,293,294,295,296,297,298,299,300,301,302,303,304,305,306,307,308,309,310,311,312,313,314,315,316,317,318,319,320,321,323,324,325,326,327,328,329,330,331,332,333,334,335,336,338,339,340,341,342,343,344,345,346,347,348,352,353,354,355,356,357,358,359,360,361,362,363,364,365,366,368,369,370,397,398,399,400]
def KX:lO Tryz.prog 248 (.load .u64):=⟨Tryz.f248,Tryz.func248,by kernel_rfl,by kernel_rfl,by kernel_rfl,by kernel_rfl⟩
def K6:lO Tryz.prog 249 (.cas .u64):=⟨Tryz.f249,Tryz.func249,by kernel_rfl,by kernel_rfl,by kernel_rfl,by kernel_rfl⟩
def KE:lO Tryz.prog 250 (.add .i64):=⟨Tryz.f250,Tryz.func250,by kernel_rfl,by kernel_rfl,by kernel_rfl,by kernel_rfl⟩
def KC:lO Tryz.prog 337 (.store):=⟨Tryz.f337,Tryz.func337,by kernel_rfl,by kernel_rfl,by kernel_rfl,by kernel_rfl⟩
def Lf:uN Tryz.prog X:=vX (jF KX<|jF K6<|jF KE<|jF KC<|EM _ (by kernel_rfl))
def Lh:Tryz.prog.follows .mixedOrders=true:=by kernel_rfl
abbrev Cl:=kM Tryz.prog
def Lq(n:Nat)(ns:List Nat)(ρ:Fr)(h:aI)(T:bh):Code->List Nat->XK->Prop
 | .loop c,[],K=>qT S0 (E Tryz.prog X T S0 c) (pZ T c) K n ρ h
 | .loop c,0::p,K=>match ns with
  |m::ns=>Lq n ns ρ h T c p (zA S0 (pZ T c) (qT S0 (E Tryz.prog X T S0 c) (pZ T c) K m) K)
  | []=>False
 | .seq a b,0::p,K=>Lq n ns ρ h T a p (Df S0 (pZ T b) (E Tryz.prog X T S0 b K) K)
 | .seq _ b,1::p,K=>Lq n ns ρ h T b p K
 | .cond _ a _,0::p,K=>Lq n ns ρ h T a p K
 | .cond _ _ b,1::p,K=>Lq n ns ρ h T b p K
 | .block i c,0::p,K=>Lq n ns ρ h T c p (pR i K)
 |_,_,_=>False
@[irreducible] def Lp (f:Func) (T:bh) (p:List Nat) (n:Nat) (ρ:Fr) (h:aI) (K:KK):Prop:=Lq n [] ρ h T (f.body.getD .skip) p (fin Tryz.prog f.results.toList K)
def cT{fn:Func}{args:List Value}(T:bh)(hf:Tryz.prog.funcs[f]? =some fn)(H:W)(hb:fn.body=some (fn.body.getD .skip):=by kernel_rfl)(a:eS T fn.ntmps (fn.body.getD .skip)=true:=by kernel_rfl)(b:Nat.ble args.length fn.ntmps=true:=by kernel_rfl)(e:E Tryz.prog X T S0 (fn.body.getD .skip) (fin Tryz.prog fn.results.toList K) (jD 0 args) h=W:=by kernel_rfl):Cl f args h K:=
 kA (T:=T) Lf Lh hf hb a b (by rw[e];exact H)
def cN{fn:Func}{args:List Value}(hf:Tryz.prog.funcs[f]? =some fn)(H:W)(hb:fn.body=some (fn.body.getD .skip):=by kernel_rfl)(a:eS ⟨[],[]⟩ fn.ntmps (fn.body.getD .skip)=true:=by kernel_rfl)(b:Nat.ble args.length fn.ntmps=true:=by kernel_rfl)(e:E Tryz.prog X ⟨[],[]⟩ S0 (fn.body.getD .skip) (fin Tryz.prog fn.results.toList K) (jD 0 args) h=W:=by kernel_rfl):Cl f args h K:=cT ⟨[],[]⟩ hf H hb a b e
@[irreducible] def Lr (f:Func) (T:bh) (p ns:List Nat) (n:Nat) (ρ:Fr) (h:aI) (K:KK):Prop:=Lq n ns ρ h T (f.body.getD .skip) p (fin Tryz.prog f.results.toList K)
def F61.T:bh:=⟨[(5,[0,1])],[]⟩
section
variable (a b:Int)(h:aI)(K:KK)
def F61.wk5:Prop:=Cl 108 [ap a] h λa c=>aZ (some a) λa=>bg c (.cells #[ap b,aA a,.slice none 0 0,.slice none 0 0,aA none,.map none,aA none,aB] 185) λa b=>Cl 110 [ap 256] b λb c=>aS .i64 (some b) λb=>Cl 89 [ap b] c λb c=>aZ (some b) λb=>Cl 109 [aA b,ap 0,ap 256] c λb c=> ∃d:az,∃e:Int,b=(.tuple #[aA d,ap e])/\aY c (((aw a).add 6).add 0) (aA d) λb=>Cl 111 [au (aw a),ap 32,.slice none 0 0] b λb c=>b=aE/\K (.tuple #[au (aw a),ap 0]) c
end
def F61.spec(H:aJ (i<1) (K (.tuple #[aA none,ap 40]) h) (aJ (i>8) (K (.tuple #[aA none,ap 40]) h) (aJ (j<1) (K (.tuple #[aA none,ap 60]) h) (aJ (j>32768) (K (.tuple #[aA none,ap 60]) h) (F61.wk5 i j h K))))):Cl 61 [ap i,ap j] h K:=cT F61.T Tryz.func61 H
def F74.spec(H:aJ (i<=1) (K aC h) (Cl 117 [au a,aq i] h λa b=>aZ (some a) λa=>K (aD (!(Option.isNone a))) b)):Cl 74 [au a,aq i] h K:=cN Tryz.func74 H
def F117.spec{a:Addr}(H:aJ (i<2) (K (aA none) h) (cF (rd h (a.add 2)) λ_ b _=>aJ ((ax ((ax i)-2))>=(b:Int)) (K (aA none) h) (cF (rd h (a.add 2)) λb c _=>aX b λb=>0<=(IntKind.wrap .u32 (i-2))/\(IntKind.wrap .u32 (i-2))<(c:Int)/\bQ (rd h ((b.add ((IntKind.wrap .u32 (i-2)).toNat*4)).add 0)) λb=>aJ (!b) (K (aA none) h) (cF (rd h (a.add 2)) λa b _=>aX a λa=>0<=(IntKind.wrap .u32 (i-2))/\(IntKind.wrap .u32 (i-2))<(b:Int)/\K (au (a.add ((IntKind.wrap .u32 (i-2)).toNat*4))) h)))):Cl 117 [au a,aq i] h K:=cN Tryz.func117 H
def F71.spec{a:Addr}(H:aJ (i<=1) (Cl 75 [au a] h λa b=>aS .i64 (some a) λa=>K (ap a) b) (Cl 117 [au a,aq i] h λa b=>aZ (some a) λa=>aJ (!(Option.isNone a)) (aX a λa=>aS .i64 (rd b (a.add 1)) λa=>K (ap a) b) (K (ap (-1)) b))):Cl 71 [au a,aq i] h K:=cN Tryz.func71 H
def F72.spec{a:Addr}(H:Cl 117 [au a,aq i] h λb c=>aZ (some b) λb=>aJ (!(Option.isNone b)) (aX b λa=>aS .u32 (rd c (a.add 2)) λa=>K (aq a) c) (Cl 118 [au a,aq i] c λa b=>aS .i64 (some a) λa=>K (aq (bu .and .u32 i (IntKind.wrap .u32 a))) b)):Cl 72 [au a,aq i] h K:=cN Tryz.func72 H
def F73.spec{a:Addr}(H:Cl 117 [au a,aq i] h λb c=>aZ (some b) λb=>aJ (!(Option.isNone b)) (aX b λa=>aS .u32 (rd c (a.add 3)) λa=>K (aq a) c) (Cl 118 [au a,aq i] c λa b=>aS .i64 (some a) λa=>K (aq (bu .and .u32 i (IntKind.wrap .u32 a))) b)):Cl 73 [au a,aq i] h K:=cN Tryz.func73 H
def F199.T:bh:=⟨[(3,[0,1,6,14,15])],[]⟩
section
variable (n:Nat)(c:Addr)(d f b a:Int)(h:aI)(K:KK)
def F199.wL3:Prop:=Lp Tryz.f199 F199.T [1,1,0,1,0] n [(0,(au c)),(1,(ar d)),(6,(ap f)),(14,(ap b)),(15,(ap a))] h K
def F199.sL3:F199.wL3 (n+1) c d f b a h K=(aJ (a<b) (Cl 246 [ar d,ap f] h λe g=>aS .i64 (some e) λe=>f≠0/\aZ (rd g (c.add 4)) λi=>Cl 247 [aA i,ap (Int.tmod (ax (e+a)) f)] g λg i=>aS .u64 (some g) λg=>aJ (g==d) (bU (rd i (c.add 5)) λb=>dT i b .i64 .i64 (Int.tmod (ax (e+a)) f) λa=>aS .u32 (some (kU (aq 0) a)) λa=>K (.tuple #[aq a,aC]) i) (aJ (g==0) (K (.tuple #[aq 0,aB]) i) (F199.wL3 n c d f b (ax (a+1)) i K))) (K (.tuple #[aq 0,aB]) h)):=by kernel_rfl
def F199.wk3:Prop:=(∃e,F199.wL3 e c d f b a h K)
def F199.spec(H:aZ (rd h (c.add 4)) λa=>Cl 200 [aA a] h λa b=>aS .i64 (some a) λa=>F199.wk3 c d a a 0 b K):Cl 199 [au c,ar d] h K:=cT F199.T Tryz.func199 H
end
def F197.T:bh:=⟨[(3,[6,7]),(4,[6])],[]⟩
section
variable (n:Nat)(c:Addr)(d:Int)(a:az)(b:Value)(h:aI)(K:KK)
def F197.wL3:Prop:=Lp Tryz.f197 F197.T [1,1,0,1,0] n [(6,(aA a)),(7,b)] h K
def F197.wk4:Prop:=Cl 243 [aA a] h λb c=> ∃d:Int,∃e:Int,b=(.tuple #[ap d,ap e])/\Cl 244 [aA a] c λa b=>bQ (some a) λa=>K (.tuple #[ap d,aD a]) b
def F197.sL3:F197.wL3 (n+1) a b h K=(dS Tryz.prog X b [] h λc d=>bQ (some c) λc=>aJ (!c) (F197.wL3 n a b d K) (F197.wk4 a d K)):=by kernel_rfl
def F197.wk3:Prop:=(∃c,F197.wL3 c a b h K)
def F197.spec(H:aZ (rd h (c.add 4)) λa=>Cl 241 [aA a,ar d] h λa b=>aZ (some a) λa=>F197.wk3 a (.func (.func 242) #[aA a] #[]) b K):Cl 197 [au c,ar d] h K:=cT F197.T Tryz.func197 H
end
def F160.spec(f:Addr)(g:Int)(a:Bool)(b c d:Int)(h:aI)(K:KK)(H:bg h (.cells #[aD a,ap b,aq c,aq d] 195) λa b=>aS .i64 (rd b ((aw a).add 1)) λc=>aS .u32 (rd b ((aw a).add 2)) λd=>aS .u32 (rd b ((aw a).add 3)) λa=>Cl 198 [ap c,aq d,aq a] b λa b=>aS .u64 (some a) λa=>Cl 197 [au f,ar a] b λa b=> ∃c:Int,∃d:Bool,a=(.tuple #[ap c,aD d])/\bU (rd b (f.add 5)) λa=>lu b a .i64 .i64 c (aq g) λa=>K aE a):Cl 160 [au f,aq g,.agg #[aD a,ap b,aq c,aq d]] h K:=cN Tryz.func160 H
def F111.T:bh:=⟨[(4,[0,6,29,30,31]),(8,[0,6]),(9,[0,6,42,43,44])],[]⟩
section
variable (n:Nat)(f:Addr)(v:Int)(u:az)(s t:Nat)(q:Option Nat)(i:az)(g o:Nat)(r j:Int)(c:az)(b d:Nat)(l a:Int)(h:aI)(K:KK)
def F111.wL9:Prop:=Lp Tryz.f111 F111.T [1,1,1,1,1,0] n [(0,(au f)),(6,(.map q)),(42,(.slice c b d)),(43,(ap l)),(44,(ap a))] h K
def F111.wL4:Prop:=Lp Tryz.f111 F111.T [1,1,1,0,1,0] n [(0,(au f)),(6,(.map q)),(29,(.slice i g o)),(30,(ap r)),(31,(ap j))] h K
def F111.sL9:F111.wL9 (n+1) f q c b d l a h K=(aJ (a<l) (aX c λe=>0<=a/\a<(b:Int)/\bQ (rd h ((e.add (a.toNat*4)).add 0)) λg=>aS .i64 (rd h ((e.add (a.toNat*4)).add 1)) λi=>aS .u32 (rd h ((e.add (a.toNat*4)).add 2)) λj=>aS .u32 (rd h ((e.add (a.toNat*4)).add 3)) λe=>bg h (.cells #[aB,ap 0,aq 0,aq 0] 195) λk m=>aY m ((aw k).add 0) (aD g) λg=>aY g ((aw k).add 1) (ap i) λg=>aY g ((aw k).add 2) (aq j) λg=>aY g ((aw k).add 3) (aq e) λe=>dT e q .u32 .u32 (IntKind.wrap .u32 (ax (a+2))) λg=>jX (some (kU (.agg #[]) g)) λi=>bg e (.cells #[] 218) λe j=>du Tryz.prog 218 (some (aw e)) i j λe=>bQ (rd e ((aw k).add 0)) λi=>aJ i (aJ (!(Option.isSome g)) (bQ (rd e ((aw k).add 0)) λg=>aS .i64 (rd e ((aw k).add 1)) λi=>aS .u32 (rd e ((aw k).add 2)) λj=>aS .u32 (rd e ((aw k).add 3)) λk=>Cl 160 [au f,aq (IntKind.wrap .u32 (ax (a+2))),.agg #[aD g,ap i,aq j,aq k]] e λe g=>e=aE/\F111.wL9 n f q c b d l (ax (a+1)) g K) (F111.wL9 n f q c b d l (ax (a+1)) e K)) (F111.wL9 n f q c b d l (ax (a+1)) e K)) (K aE h)):=by kernel_rfl
def F111.wk9:Prop:=(∃e,F111.wL9 e f q c b d l a h K)
def F111.wk8:Prop:=cF (rd h (f.add 2)) λa b c=>F111.wk9 f q a b c (b:Int) 0 h K
def F111.sL4:F111.wL4 (n+1) f q i g o r j h K=(aJ (j<r) (aX i λa=>0<=j/\j<(g:Int)/\aS .u32 (rd h (a.add (j.toNat*1))) λa=>lu h q .u32 .u32 a (.agg #[]) λa=>F111.wL4 n f q i g o r (ax (j+1)) a K) (F111.wk8 f q h K)):=by kernel_rfl
def F111.wk4:Prop:=(∃a,F111.wL4 a f q i g o r j h K)
def F111.spec(H:Cl 89 [ap v] h λa b=>aZ (some a) λa=>Cl 159 [aA a,ap 0,ap v] b λa b=> ∃c:az,∃d:Int,a=(.tuple #[aA c,ap d])/\aY b ((f.add 4).add 0) (aA c) λa=>bg a (.map #[] 0) λa b=>aY b ((f.add 5).add 0) (.map (some a)) λa=>bg a (.map #[] 0) λa b=>F111.wk4 f (some a) u s t (s:Int) 0 b K):Cl 111 [au f,ap v,.slice u s t] h K:=cT F111.T Tryz.func111 H
end
def F161.T:bh:=⟨[(9,[0,1,2,3]),(17,[0,1,2,3])],[(13,[[(0,[]),(2,[]),(3,[]),(4,[]),(5,[]),(1,[2,3,4,5]),(6,[])]]),(15,[[(0,[]),(4,[]),(5,[]),(6,[]),(7,[]),(1,[4,5,6,7]),(2,[]),(3,[]),(8,[2,3]),(9,[])]])]⟩
section
variable (a:Addr)(b c d:Int)(h:aI)(K:KK)
def F161.wk17:Prop:=Cl 201 [au a] h λe f=>aS .u32 (some e) λe=>cF (rd f (a.add 2)) λg i _=>aX g λg=>0<=(IntKind.wrap .u32 (e-2))/\(IntKind.wrap .u32 (e-2))<(i:Int)/\aY f ((g.add ((IntKind.wrap .u32 (e-2)).toNat*4)).add 0) aC λf=>aY f ((g.add ((IntKind.wrap .u32 (e-2)).toNat*4)).add 1) (ap b) λb=>aY b ((g.add ((IntKind.wrap .u32 (e-2)).toNat*4)).add 2) (aq c) λb=>aY b ((g.add ((IntKind.wrap .u32 (e-2)).toNat*4)).add 3) (aq d) λb=>cF (rd b (a.add 2)) λc d _=>aX c λc=>0<=(IntKind.wrap .u32 (e-2))/\(IntKind.wrap .u32 (e-2))<(d:Int)/\bQ (rd b ((c.add ((IntKind.wrap .u32 (e-2)).toNat*4)).add 0)) λd=>aS .i64 (rd b ((c.add ((IntKind.wrap .u32 (e-2)).toNat*4)).add 1)) λf=>aS .u32 (rd b ((c.add ((IntKind.wrap .u32 (e-2)).toNat*4)).add 2)) λg=>aS .u32 (rd b ((c.add ((IntKind.wrap .u32 (e-2)).toNat*4)).add 3)) λc=>Cl 160 [au a,aq e,.agg #[aD d,ap f,aq g,aq c]] b λa b=>a=aE/\K (.tuple #[aq e,ap 0]) b
def F161.wk9:Prop:=Cl 198 [ap b,aq c,aq d] h λe f=>aS .u64 (some e) λe=>Cl 199 [au a,ar e] f λe f=> ∃g:Int,∃i:Bool,e=(.tuple #[aq g,aD i])/\aJ i (K (.tuple #[aq g,ap 0]) f) (aS .i64 (rd f (a.add 0)) λe=>Cl 45 [au a] f λf g=>aS .i64 (some f) λf=>aF (au a)/\aF (au a)/\aF (au (a.add 0))/\aS .i64 (rd g (a.add 0)) λi=>aG (ap i) (ap e)/\aJ (f>=e) (K (.tuple #[aq 0,ap 60]) g) (aZ (rd g (a.add 4)) λe=>Cl 45 [au a] g λf g=>aS .i64 (some f) λf=>aF (au a)/\aF (au a)/\aF (au (a.add 4))/\aZ (rd g (a.add 4)) λi=>aG (aA i) (aA e)/\Cl 200 [aA e] g λe g=>aS .i64 (some e) λe=>aF (ap (ax (f+1)))/\aF (ap (ax (2*(ax (f+1)))))/\aJ ((ax (2*(ax (f+1))))>e) (aZ (rd g (a.add 4)) λe=>Cl 200 [aA e] g λe f=>aS .i64 (some e) λe=>Cl 111 [au a,ap (ax (2*e)),.slice none 0 0] f λe f=>e=aE/\F161.wk17 a b c d f K) (F161.wk17 a b c d g K)))
end
def F161.spec(H:aJ (i<0) (K (.tuple #[aq 0,ap 40]) h) (Cl 75 [au a] h λb c=>aS .i64 (some b) λb=>aJ (i>=b) (K (.tuple #[aq 0,ap 40]) c) (Cl 74 [au a,aq j] c λb c=>bQ (some b) λb=>aJ (!b) (K (.tuple #[aq 0,ap 101]) c) (Cl 74 [au a,aq k] c λb c=>bQ (some b) λb=>aJ (!b) (K (.tuple #[aq 0,ap 101]) c) (Cl 71 [au a,aq j] c λb c=>aS .i64 (some b) λb=>aJ (b<=i) (K (.tuple #[aq 0,ap 100]) c) (Cl 71 [au a,aq k] c λb c=>aS .i64 (some b) λb=>aJ (b<=i) (K (.tuple #[aq 0,ap 100]) c) (aJ (j==k) (K (.tuple #[aq j,ap 0]) c) (F161.wk9 a i j k c K)))))))):Cl 161 [au a,ap i,aq j,aq k] h K:=cT F161.T Tryz.func161 H
def F45.T:bh:=⟨[],[(1,[[(0,[]),(1,[]),(2,[]),(3,[]),(4,[]),(5,[]),(6,[]),(7,[]),(8,[]),(9,[]),(10,[]),(11,[])]])]⟩
def F45.spec{a:Addr}(H:cF (rd h (a.add 2)) λ_ b _=>cF (rd h (a.add 3)) λ_ a _=>K (ap (ax ((b:Int)-(a:Int)))) h):Cl 45 [au a] h K:=cT F45.T Tryz.func45 H
def F201.spec{a:Addr}(H:cF (rd h (a.add 3)) λ_ b _=>aJ ((b:Int)>(0:Int)) (cF (rd h (a.add 3)) λc d _=>aX c λc=>0<=(ax ((b:Int)-(1:Int)))/\(ax ((b:Int)-(1:Int)))<(d:Int)/\aS .u32 (rd h (c.add ((ax ((b:Int)-(1:Int))).toNat*1))) λc=>cF (rd h (a.add 3)) λd _ e=>0<=(ax ((b:Int)-(1:Int)))/\(ax ((b:Int)-(1:Int)))<=(e:Int)/\aY h ((a.add 3).add 0) (.slice (if e=0 then d else Option.map (λa=>Addr.add a (0*1)) d) ((ax ((b:Int)-(1:Int))).toNat-0) (e-0)) λa=>K (aq c) a) (cF (rd h (a.add 2)) λb c d=>bg h (.cells #[aB,ap 0,aq 0,aq 0] 195) λe f=>fQ f 195 4 24 #[aB,ap 0,aq 0,aq 0] b c d (some (aw e)) 1 λb c d e=>aY e ((a.add 2).add 0) (.slice b c d) λb=>cF (rd b (a.add 2)) λ_ a _=>K (aq (IntKind.wrap .u32 (ax ((ax ((a:Int)-(1:Int)))+2)))) b)):Cl 201 [au a] h K:=cN Tryz.func201 H
def F75.spec{a:Addr}(H:aZ (rd h (a.add 1)) λa=>Cl 119 [aA a] h λa b=>aS .i64 (some a) λa=>K (ap a) b):Cl 75 [au a] h K:=cN Tryz.func75 H
def F47.spec{a:Addr}(H:aZ (rd h (a.add 1)) λa=>Cl 104 [aA a] h λa b=>aZ (some a) λa=>K (aA a) b):Cl 47 [au a] h K:=cN Tryz.func47 H
def F198.spec(H:Cl 245 [.int .u8 (IntKind.wrap .u8 i),aq j,aq k] h λa b=>aS .u64 (some a) λa=>K (ar a) b):Cl 198 [ap i,aq j,aq k] h K:=cN Tryz.func198 H
def F118.spec(H:aJ (i<=1) (K (ap 1) h) (K (ap 0) h)):Cl 118 [au a,aq i] h K:=cN Tryz.func118 H
def F246.spec(H:aJ (j<1) (K (ap 0) h) (Cl 286 [ar i] h λa b=>aS .u64 (some a) λa=>(IntKind.wrap .u64 j)≠0/\K (ap (ax (Int.tmod a (IntKind.wrap .u64 j)))) b)):Cl 246 [ar i,ap j] h K:=cN Tryz.func246 H
def F286.T:bh:=⟨[(2,[0,5,6]),(7,[0])],[]⟩
section
variable (n:Nat)(a b:Int)(h:aI)(K:KK)
def F286.wL2:Prop:=Lp Tryz.f286 F286.T [1,0,1,0] n [(0,(ar a)),(5,(.agg #[ar 18397679294719823053,ar 14181476777654086739])),(6,(ap b))] h K
def F286.wk7:Prop:=(0<=(33:Int)/\K (ar (bu .xor .u64 a (Int.fdiv a (2^(min (Int.toNat 33) (IntKind.bits .u64)))))) h)
def F286.sL2:F286.wL2 (n+1) a b h K=(aJ (b<2) ((0<=b/\b<2/\aS .u64 ([ar 18397679294719823053,ar 14181476777654086739]:List Value)[b.toNat]? (λc=>0<=(33:Int)/\F286.wL2 n (IntKind.wrap .u64 ((bu .xor .u64 a (Int.fdiv a (2^(min (Int.toNat 33) (IntKind.bits .u64)))))*c)) (ax (b+1)) h K))) (F286.wk7 a h K)):=by kernel_rfl
def F286.wk2:Prop:=(∃c,F286.wL2 c a b h K)
def F286.spec(H:F286.wk2 a 0 h K):Cl 286 [ar a] h K:=cT F286.T Tryz.func286 H
end
def F245.spec(H:(0<=(56:Int)/\0<=(28:Int)/\K (ar (bu .or .u64 (bu .or .u64 (IntKind.wrap .u64 ((IntKind.wrap .u64 i)*2^(min (Int.toNat 56) (IntKind.bits .u64)))) (IntKind.wrap .u64 ((IntKind.wrap .u64 (bu .and .u32 j 268435455))*2^(min (Int.toNat 28) (IntKind.bits .u64))))) (IntKind.wrap .u64 (bu .and .u32 k 268435455)))) h)):Cl 245 [.int .u8 i,aq j,aq k] h K:=cN Tryz.func245 H
def At(h:aI)(b:Nat)(c:List Value):Prop:= ∃e,h[b]? =some (.cells c.toArray e)
structure aM(S:List Nat)(h h':aI):Prop where
 size:h.size<=h'.size
 same: ∀b,b<h.size->b∉S->h'[b]? =h[b]?
 fzn: ∀a,fz h' a=fz h a
def At.lt{h:aI}(H:At h b c):b<h.size:=by obtain⟨e,H⟩:=H;exact(Mf.1 H).1
def At.rd(H:At h b c)(i:Nat):rd h ⟨b,i,none⟩=c[i]? :=by obtain⟨e,H⟩:=H;simp[Ev.rd,H]
def At.fz(H:At h b c)(i:Nat)(s:Option Nat):fz h ⟨b,i,s⟩=false:=by obtain⟨e,H⟩:=H;simp[Ev.fz,H]
def At.only(H:At h b c)(O:aM S h h')(hb:b∉S):At h' b c:=by obtain⟨e,H⟩:=H;exact⟨e,(O.same b (Mf.1 H).1 hb).trans H⟩
def aM.refl(S:List Nat)(h:aI):aM S h h:=⟨Mb _,λ_ _ _=>rfl,λ_=>rfl⟩
def aM.trans{h:aI}(A:aM S h h')(B:aM T h' c)(hT: ∀b,b∈T->b<h.size->b∈S):aM S h c:=
 ⟨Nc A.size B.size,λb hb hS=>(B.same b (Nt hb A.size) (λd=>hS (hT b d hb))).trans (A.same b hb hS),
  λa=>(B.fzn a).trans (A.fzn a)⟩
def aM.mono{h:aI}(A:aM S h h')(hS: ∀b,b∈S->b<h.size->b∈T):aM T h h':=
 aM.trans (aM.refl T h) A hS
def aM.push_cells(h:aI)(c:Array Value)(e:TypeId):aM [] h (h.push (.cells c e)):=by
 refine⟨ak,λb hb _=>by simp[NC,PL hb],λa=> ?_⟩;unfold fz;rw[NC];by_cases ha:a.block=h.size
 ·rw[L4 ha,ha];simp
 ·rw[LY ha]
def aM.push_map(h:aI)(es:Array MapEntry)(n:Nat):aM [] h (h.push (.map es n)):=by
 refine⟨ak,λb hb _=>by simp[NC,PL hb],λa=> ?_⟩;unfold fz;rw[NC];by_cases ha:a.block=h.size
 ·rw[L4 ha,ha];simp
 ·rw[LY ha]
def uw(h:aI)(a:Addr)(v:Value)(b:Nat)(hb:b≠a.block):(wr h a v)[b]? =h[b]? :=by unfold wr;rw[OC,LY (λe=>hb e.symm)]
def aM.wr(h:aI)(a:Addr)(v:Value):aM [a.block] h (wr h a v):=by
 refine⟨by simp[Ev.wr],λb _ hS=>uw h a v b (by simpa using hS),λx=> ?_⟩;unfold Ev.fz;by_cases hx:x.block=a.block
 ·unfold Ev.wr;rw[OC,L4 hx.symm];cases hh:h[x.block]? with
  |none=>simp
  |some o=>cases o<;>simp
 ·rw[uw h a v x.block hx]
def At.wr{c:List Value}(H:At h b c)(i:Nat)(v:Value):At (wr h ⟨b,i,none⟩ v) b (c.set i v):=by obtain⟨e,H⟩:=H;refine⟨e,?_⟩;unfold Ev.wr;rw[OC,L4 rfl,H];simp
def At.push(h:aI)(c:Array Value)(e:TypeId):At (h.push (.cells c e)) h.size c.toList:=⟨e,ak⟩
@[simp] theorem aL (b o n:Nat):Addr.add ⟨b,o,none⟩ n=⟨b,o+n,none⟩:=by
 unfold Addr.add;split
 ·next h=>subst h;rfl
 ·rfl
def add_zero(a:Addr):Addr.add a 0=a:=by simp[Addr.add]
def aH(hx:x=some (.int k n))(hK:K n):aS k x K:=⟨n,hx,hK⟩
def a8(hx:x=some (.bool n))(hK:K n):bQ x K:=⟨n,hx,hK⟩
def aQ(hx:x=some (.pointer n))(hK:K n):aZ x K:=⟨n,hx,hK⟩
def bF(hx:x=some (.slice p l c))(hK:K p l c):cF x K:=⟨p,l,c,hx,hK⟩
@[simp] theorem bB   :aS k (some (.int k n)) K↔K n:=
 ⟨λ⟨m,e,h⟩=>by injection e with e;injection e with _ e;exact e▸h,aH rfl⟩
@[simp] theorem bX  :bQ (some (.bool n)) K↔K n:=
 ⟨λ⟨m,e,h⟩=>by injection e with e;injection e with e;exact e▸h,a8 rfl⟩
@[simp] theorem oE  :aZ (some (.pointer n)) K↔K n:=
 ⟨λ⟨m,e,h⟩=>by injection e with e;injection e with e;exact e▸h,aQ rfl⟩
@[simp] theorem bK   :cF (some (.slice p l c)) K↔K p l c:=
 ⟨λ⟨_,_,_,e,h⟩=>by injection e with e;injection e with e1 e2 e3;subst e1;subst e2;subst e3;exact h,bF rfl⟩
@[simp] theorem gJ  :bU (some (.map n)) K↔K n:=
 ⟨λ⟨m,e,h⟩=>by injection e with e;injection e with e;exact e▸h,λh=>⟨n,rfl,h⟩⟩
@[simp] theorem c8  :jX (some v) K↔K v:=
 ⟨λ⟨m,e,h⟩=>by injection e with e;exact e▸h,λh=>⟨v,rfl,h⟩⟩
@[simp] theorem aT  :aX (some a) K↔K a:=Iff.rfl
@[simp] theorem aO :aJ true t f↔t:=Iff.rfl
@[simp] theorem aK :aJ false t f↔f:=Iff.rfl
def aR(ht:b=true->t)(hf:b=false->f):aJ b t f:=by
 cases b with
 |true=>exact ht rfl
 |false=>exact hf rfl
def aU{h:aI}{c:List Value}{v:Value}(H:At h b c)(hi:i<c.length)(hv:v.oneCell'=true)
  (hK: ∀h',At h' b (c.set i v)->aM [b] h h'->h'.size=h.size->K h'):aY h ⟨b,i,none⟩ v K:=by
 unfold aY;rw[hv];refine⟨?_,H.fz i none,hK _ (H.wr i v) (aM.wr h ⟨b,i,none⟩ v) (by simp[Ev.wr])⟩;rw[H.rd];simp[hi]
def aW{h:aI}{c:Array Value}
  (hK: ∀h',At h' h.size c.toList->aM [] h h'->h'.size=h.size+1->K h.size h'):bg h (.cells c e) K:=
 hK _ (At.push h c e) (aM.push_cells h c e) ak
def wrap_i64(h0: -9223372036854775808<=n)(h1:n<9223372036854775808):ax n=n:=by refine(IntKind.wrap_i64 n).trans ?_;omega
def bZ(h0:0<=n)(h1:n<18446744073709551616):IntKind.wrap .u64 n=n:=by simp[IntKind.wrap,IntKind.bits,IntKind.signed];omega
def mN(n:Int):IntKind.wrap .u64 n=n%18446744073709551616:=by simp[IntKind.wrap,IntKind.bits,IntKind.signed]
def bj{first a:Array Value}(hx:bR X g=some .go)
  (H:kM P g (first.toList++args++a.toList) h K):dS P X (.func (.func g) first a) args h K:=by
 unfold dS;simp only[hx];exact H
end Go.Proofs.YtnofenejoebkhaaGreat.Ev
