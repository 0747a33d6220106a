/- PART 1 OF WHAT THE LAW EngineStands STANDS ON: EvA, EvB, EvC, EvD, EvF, EvG, EvH, EvI, TX5, NodF5, BitsF5, EvJ. Conditions: none but those that each lemma states. -/
import Derived.Orders
import Derived.LoopN
import Derived.KernelRfl
import Derived.Laws.LoneSync
import Derived.Laws.MakeOwn
import Derived.Laws.AppendOwn
import Derived.Laws.Cells
import Derived.Laws.StructEq
import Derived.Maps.RangeRun
import Derived.Tactics
import Derived.ChangeKeysEq
import Derived.LaidEql
import Derived.Test.YtnofenejoebkhaaGreatProg
import Derived.Laws.OwnMore
namespace Go.Proofs.YtnofenejoebkhaaGreat.Ev
open Go
set_option linter.defProp false
section
def ah{p:Prop}(h:p:=by omega):p:=h
def ak{p:Prop}(h:p:=by simp):p:=h
abbrev al(n:Int):Value:= .int .i64 n
abbrev ap(n:Int):Value:= .int .u32 n
abbrev aq(n:Int):Value:= .int .u64 n
abbrev au(a:Addr):Value:= .pointer (some a)
abbrev aw(b:Nat):Addr:=Addr.mk b 0 none
abbrev ax(n:Int):Int:=IntKind.wrap .i64 n
abbrev ay:=List (Option (Nat×Nat×Nat))
abbrev az:=Option Addr
abbrev aA(a:Option Addr):Value:= .pointer a
abbrev aB:Value:= .bool false
abbrev aC:Value:= .bool true
abbrev aD(b:Bool):Value:= .bool b
abbrev aE:Value:= .tuple #[]
abbrev aF(a:Value):Prop:=a=a
abbrev aG(a b:Value):Prop:=a=b
abbrev aH:=Array Obj
abbrev Fr:=List (Nat×Value)
def rd(h:aH)(a:Addr):Option Value:=
 match h[a.block]? with
 |some (.cells c _ _)=>if a.spot.isSome then none else c[a.off]?
 |_=>none
def fz(h:aH)(a:Addr):Bool:=
 match h[a.block]? with
 |some (.cells _ _ (lo,hi))=>lo<=a.off&&a.off<hi
 |_=>false
def wr(h:aH)(a:Addr)(v:Value):aH:=
 h.modify a.block fun
  | .cells c elem frozen=> .cells (if a.spot.isSome then c else c.setIfInBounds a.off v) elem frozen
  |o=>o
def mp(h:aH)(r:Nat):Option (Array MapEntry×Nat):=
 match h[r]? with
 |some (.map es c)=>some (es,c)
 |_=>none
def get:Fr->Nat->Option Value
 | [],_=>none
 |(k,v)::r,t=>match Nat.beq k t with|true=>some v|false=>get r t
def put(ρ:Fr)(d:Option Nat)(v:Value):Fr:=match d with|some t=>(t,v)::ρ|none=>ρ
def cut:List Nat->Fr->Fr
 | [],_=> []
 |t::L,ρ=>match get ρ t with|some v=>(t,v)::cut L ρ|none=>cut L ρ
def ev(ρ:Fr):Operand->Option Value
 | .tmp t=>get ρ t
 | .const v=>some v
 | .global g=>some (.pointer (some ⟨g,0,none⟩))
 | .func f=>some (.func (.func f) #[] #[])
def yc(ρ:Fr):List Operand->Option (List Value)
 | []=>some []
 |x::xs=>match ev ρ x with|some v=>(match yc ρ xs with|some vs=>some (v::vs)|none=>none)|none=>none
def aK(b:Bool)(t f:Prop):Prop:=match b with|true=>t|false=>f
def dl{α:Type}(x:Option α)(K:α->Prop):Prop:=match x with|some v=>K v|none=>False
def bf(p:Option Addr)(K:Addr->Prop):Prop:=match p with|some a=>K a|none=>False
def Hv(z:Value)(K:Value->Prop):Prop:=
 match z with
 | .int k _=> ∃n:Int,K (.int k n)
 | .bool _=> ∃b:Bool,K (.bool b)
 | .pointer _=> ∃p:Option Addr,K (.pointer p)
 | .slice _ _ _=> ∃(p:Option Addr) (l c:Nat),K (.slice p l c)
 | .map _=> ∃r:Option Nat,K (.map r)
 | .string _=> ∃s:ByteArray,K (.string s)
 |_=> ∃v:Value,K v
def HZ:List Value->(List Value->Prop)->Prop
 | [],K=>K []
 |z::zs,K=>Hv z λv=>HZ zs λvs=>K (v::vs)
def Ik(z:Value)(K:Value->Prop):Prop:=
 match z with
 | .agg zs=>HZ zs.toList λvs=>K (.agg vs.toArray)
 |z=>Hv z K
def Id:List Value->(List Value->Prop)->Prop
 | [],K=>K []
 |z::zs,K=>Ik z λv=>Id zs λvs=>K (v::vs)
def aQ(k:IntKind)(x:Option Value)(K:Int->Prop):Prop:= ∃n:Int,x=some (.int k n)/\K n
def bI(x:Option Value)(K:Bool->Prop):Prop:= ∃b:Bool,x=some (.bool b)/\K b
def ba(x:Option Value)(K:Option Addr->Prop):Prop:= ∃p:Option Addr,x=some (.pointer p)/\K p
def cv(x:Option Value)(K:Option Addr->Nat->Nat->Prop):Prop:= ∃(p:Option Addr) (l c:Nat),x=some (.slice p l c)/\K p l c
def bK(x:Option Value)(K:Option Nat->Prop):Prop:= ∃r:Option Nat,x=some (.map r)/\K r
def Js(x:Option Value)(K:ByteArray->Prop):Prop:= ∃s:ByteArray,x=some (.string s)/\K s
def lI(x:Option Value)(K:Value->Prop):Prop:= ∃v:Value,x=some v/\K v
def CX(z:Value)(x:Option Value)(K:Value->Prop):Prop:=
 match z with
 | .int k _=>aQ k x λn=>K (.int k n)
 | .bool _=>bI x λb=>K (.bool b)
 | .pointer _=>ba x λp=>K (.pointer p)
 | .slice _ _ _=>cv x λp l c=>K (.slice p l c)
 | .map _=>bK x λr=>K (.map r)
 | .string _=>Js x λs=>K (.string s)
 |_=>lI x K
def Ir(h:aH)(a:Addr):Nat->List Value->(List Value->Prop)->Prop
 |_,[],K=>K []
 |i,z::zs,K=>CX z (rd h (a.add i)) λv=>Ir h a (i+1) zs λvs=>K (v::vs)
def GB(h:aH)(a:Addr)(n:Nat)(K:List Value->Prop):Prop:= ∃vs:List Value,vs.length=n/\(∀j v,vs[j]? =some v->rd h (a.add j)=some v)/\K vs
def IF(l:List Value)(b:Nat):Nat->List Value->(List Value->Prop)->Prop
 |_,[],K=>K []
 |i,z::zs,K=>CX z (l[b+i]?) λv=>IF l b (i+1) zs λvs=>K (v::vs)
def zv(P:Program)(t:TypeId):Option Value:=(P.info? t).bind (·.zero)
def GT:TypeDesc->Bool| .struct _=>true| .array _ _=>true|_=>false
def sF(P:Program)(t:TypeId)(h:aH)(p:Option Addr)(K:Value->Prop):Prop:=
 match P.underlying t,zv P t with
 |some d,some z=>
  match GT d with
  |true=>match z with
   | .agg zs=>match Nat.beq zs.size (P.cellsOf t)with
    |true=>match Nat.ble 41 zs.size with
     |true=>bf p λa=>GB h a zs.size λvs=>K (.agg vs.toArray)
     |false=>bf p λa=>Ir h a 0 zs.toList λvs=>K (.agg vs.toArray)
    |false=>False
   |_=>False
  |false=>bf p λa=>CX z (rd h a) K
 |_,_=>False
def bB(op:BinOp)(k:IntKind)(x y:Int):Int:=
 let a:=BitVec.ofInt k.bits x;let b:=BitVec.ofInt k.bits y
 match op with
 | .and=>k.wrap (a&&&b).toNat
 | .or=>k.wrap (a|||b).toNat
 | .xor=>k.wrap (a^^^b).toNat
 |_=>k.wrap (a&&& ~~~b).toNat
def EN(op:BinOp)(k:IntKind)(a b:Int)(K:Value->Prop):Prop:=
 match op with
 | .add=>K (.int k (k.wrap (a+b)))
 | .sub=>K (.int k (k.wrap (a-b)))
 | .mul=>K (.int k (k.wrap (a*b)))
 | .quo=>b≠0/\K (.int k (k.wrap (a.tdiv b)))
 | .rem=>b≠0/\K (.int k (a.tmod b))
 | .and=>K (.int k (bB .and k a b))
 | .or=>K (.int k (bB .or k a b))
 | .xor=>K (.int k (bB .xor k a b))
 | .andNot=>K (.int k (bB .andNot k a b))
 | .eql=>K (.bool (a==b))
 | .neq=>K (.bool (a !=b))
 | .lss=>K (.bool (decide (a<b)))
 | .leq=>K (.bool (decide (a<=b)))
 | .gtr=>K (.bool (decide (a>b)))
 | .geq=>K (.bool (decide (a>=b)))
 |_=>False
def Is(op:BinOp)(k:IntKind)(a b:Int)(K:Value->Prop):Prop:=
 match op with
 | .shl=>0<=b/\K (.int k (k.wrap (a*2^(min b.toNat k.bits))))
 | .shr=>0<=b/\K (.int k (a.fdiv (2^(min b.toNat k.bits))))
 |_=>False
def Hy:BinOp->Bool| .shl=>true| .shr=>true|_=>false
def FW:IntKind->IntKind->Bool
 | .i8,.i8=>true| .i16,.i16=>true| .i32,.i32=>true| .i64,.i64=>true
 | .u8,.u8=>true| .u16,.u16=>true| .u32,.u32=>true| .u64,.u64=>true
 |_,_=>false
def xI:List Value->List Value->Option Bool
 | [],[]=>some true
 | .int k a::xs,.int k' b::ys=>match FW k k' with|true=>(match xI xs ys with|some r=>some (a==b&&r)|none=>none)|false=>none
 |_,_=>none
def Br(P:Program)(t:TypeId):Bool:=
 match P.underlying t with
 |some (.struct fs)=> !P.stoodInHeld t&& !P.eqGuardType P.depth t&&(fs.toList.zipIdx.all λ(f,i)=>f.offset==i&&f.name != "_" &&(match P.underlying f.type with|some (.int _)=>true|_=>false))&&P.cellsOf t==fs.size
 |_=>false
def yw(P:Program)(t e:TypeId):Bool:= !P.eqGuardType P.depth t&&(match P.underlying e with|some (.int _)=>true|_=>false)&&P.cellsOf e==1&&(P.info? e).isSome
def EX(P:Program)(h:aH)(t:TypeId)(x y:Value)(K:Bool->Prop):Prop:=
 match P.underlying t with
 |some .bool=>match x,y with
  | .bool a,.bool b=>K (a==b)
  |_,_=>False
 |some (.pointer e)=>match x,y with
  | .pointer p,.pointer none=>K p.isNone
  | .pointer none,.pointer p=>K p.isNone
  | .pointer (some a),.pointer (some b)=>match P.info? e with
   |some j=>match Nat.beq j.size 0 with
    |false=>(a=b->K true)/\(a≠b->(∃c u,h[a.block]? =some (.cells c u))/\(∃c u,h[b.block]? =some (.cells c u))/\K false)
    |true=>False
   |none=>False
  |_,_=>False
 |some (.struct fs)=>match Br P t,x,y with
  |true,.agg xs,.agg ys=>(match Nat.beq xs.size fs.size with|true=>dl (xI xs.toList ys.toList) K|false=>False)
  |_,_,_=>False
 |some (.array n e)=>match yw P t e,x,y with
  |true,.agg xs,.agg ys=>(match Nat.beq xs.size n with|true=>dl (xI xs.toList ys.toList) K|false=>False)
  |_,_,_=>False
 |some (.slice _)=>match x,y with
  | .slice p _ _,.slice none _ _=>K p.isNone
  |_,_=>False
 |_=>False
def FO(P:Program)(h:aH)(op:BinOp)(t:TypeId)(x y:Value)(K:Value->Prop):Prop:=
 match x,y with
 | .int k a,.int k' b=>match Hy op with
  |true=>Is op k a b K
  |false=>match FW k k' with|true=>EN op k a b K|false=>False
 |x,y=>match op with
  | .eql=>EX P h t x y λr=>K (.bool r)
  | .neq=>EX P h t x y λr=>K (.bool (!r))
  |_=>False
def IC(op:UnOp)(x:Value)(K:Value->Prop):Prop:=
 match op,x with
 | .not,.bool b=>K (.bool (!b))
 | .neg,.int k n=>K (.int k (k.wrap (0-n)))
 | .xor,.int k n=>K (.int k (bB .xor k (if k.signed then-1 else k.max) n))
 |_,_=>False
def Bo(P:Program)(src dst:TypeId)(x:Value)(K:Value->Prop):Prop:=
 match P.underlying src,P.underlying dst,x with
 |some _,some (.int k),.int _ n=>K (.int k (k.wrap n))
 |_,_,_=>False
def D8(c:Bool)(a b:Option Value)(K:Value->Prop):Prop:=
 match a,b with
 |some (.bool x),some (.bool y)=>K (.bool (cond c x y))
 |_,_=>aK c (dl a K) (dl b K)
def EP(x:Value)(K:Value->Prop):Prop:=
 match x with
 | .pointer p=>bf p λa=>K (.pointer (some a))
 | .func (.func f) a b=>K (.func (.func f) a b)
 | .iface t v=>K (.iface t v)
 |_=>False
def kh(P:Program)(s:TypeId)(x:Value)(i:Nat)(K:Value->Prop):Prop:=
 match P.underlying s,x with
 |some (.struct fs),.pointer p=>match fs[i]? with
  |some f=>match P.info? f.type with
   |some ti=>match Nat.beq ti.size 0 with|false=>bf p λa=>K (.pointer (some (a.add f.offset)))|true=>False
   |none=>False
  |none=>False
 |_,_=>False
def AD(P:Program)(t:TypeId)(cs:List Value)(off:Nat)(K:Value->Prop):Prop:=
 match P.underlying t,P.info? t with
 |some d,some ti=>match GT d with
  |true=>K (.agg (cs.toArray.extract off (off+ti.size)))
  |false=>dl cs[off]? K
 |_,_=>False
def u6(P:Program)(s:TypeId)(x:Value)(i:Nat)(K:Value->Prop):Prop:=
 match P.underlying s,x with
 |some (.struct fs),.agg cs=>match fs[i]? with
  |some f=>AD P f.type cs.toList f.offset K
  |none=>False
 |_,_=>False
def jY(P:Program)(t:TypeId)(x i:Value)(K:Value->Prop):Prop:=
 match P.underlying t,x,i with
 |some (.array n e),.pointer p,.int _ j=>match P.info? e with
  |some ti=>bf p λa=>0<=j/\j<(n:Int)/\K (.pointer (some (a.add (j.toNat*ti.size))))
  |none=>False
 |some (.slice e),.slice p l _,.int _ j=>match P.info? e with
  |some ti=>bf p λa=>0<=j/\j<(l:Int)/\K (.pointer (some (a.add (j.toNat*ti.size))))
  |none=>False
 |_,_,_=>False
def E7(s:ByteArray)(j:Int)(K:Int->Prop):Prop:= ∃b:UInt8,s[j.toNat]? =some b/\K (b.toNat:Int)
def vb(P:Program)(t:TypeId)(x i:Value)(K:Value->Prop):Prop:=
 match P.underlying t,x,i with
 |some (.array n e),.agg cs,.int _ j=>match P.underlying e,P.info? e with
  |some d,some _=>match GT d with
   |true=>0<=j/\j<(n:Int)/\(match zv P e with
    |some (.agg zs)=>match Nat.beq zs.size (P.cellsOf e)with
     |true=>IF cs.toList (j.toNat*P.cellsOf e) 0 zs.toList λvs=>K (.agg vs.toArray)
     |false=>False
    |_=>False)
   |false=>0<=j/\j<(n:Int)/\(match P.cellsOf e with|1=>dl (zv P e) λz=>CX z cs.toList[j.toNat]? K|_=>False)
  |_,_=>False
 |some .string,.string s,.int _ j=>0<=j/\E7 s j λn=>K (.int .u8 n)
 |_,_,_=>False
def uP(P:Program)(t:TypeId)(x:Value)(lo hi:Option Value)(K:Value->Prop):Prop:=
 match P.underlying t,x with
 |some (.slice e),.slice p l c=>match P.info? e with
  |some ti=>match lo,hi with
   |none,some (.int _ j)=>0<=j/\j<=(c:Int)/\K (.slice (if c=0 then p else p.map (·.add (0*ti.size))) (j.toNat-0) (c-0))
   |some (.int _ i),none=>0<=i/\i<=(l:Int)/\K (.slice (if c=i.toNat then p else p.map (·.add (i.toNat*ti.size))) (l-i.toNat) (c-i.toNat))
   |some (.int _ i),some (.int _ j)=>0<=j/\j<=(c:Int)/\0<=i/\i<=j/\K (.slice (if c=i.toNat then p else p.map (·.add (i.toNat*ti.size))) (j.toNat-i.toNat) (c-i.toNat))
   |none,none=>K (.slice (if c=0 then p else p.map (·.add (0*ti.size))) (l-0) (c-0))
   |_,_=>False
  |none=>False
 |some (.array n e),.pointer p=>match P.info? e with
  |some ti=>match lo,hi with
   |none,some (.int _ j)=>bf p λa=>0<=j/\j<=(n:Int)/\K (.slice (some (if n=0 then a else a.add (0*ti.size))) (j.toNat-0) (n-0))
   |none,none=>bf p λa=>K (.slice (some (if n=0 then a else a.add (0*ti.size))) (n-0) (n-0))
   |some (.int _ i),none=>bf p λa=>0<=i/\i<=(n:Int)/\K (.slice (some (if n=i.toNat then a else a.add (i.toNat*ti.size))) (n-i.toNat) (n-i.toNat))
   |_,_=>False
  |none=>False
 |_,_=>False
def tF(x:Value)(i:Nat)(K:Value->Prop):Prop:=
 match x with
 | .tuple vs=>dl vs[i]? K
 |_=>False
def dP(h:aH)(r:Option Nat)(k1 kk:IntKind)(kn:Int)(K:Option (Nat×Value)->Prop):Prop:=
 dl r λb=> ∃es cl,mp h b=some (es,cl)/\ ∃o,Instr.findNow (.int k1) (.int kk kn) es.toList 0=some o/\K o
def kE(z:Value)(o:Option (Nat×Value)):Value:=match o with|some (_,v)=>v|none=>z
def IX(z:Value)(o:Option (Nat×Value))(ok:Bool)(K:Value->Prop):Prop:=
 match ok with
 |true=>CX z (some (kE z o)) λv=>K (.tuple #[v,.bool o.isSome])
 |false=>CX z (some (kE z o)) K
def qR(P:Program)(t:TypeId)(h:aH)(x k:Value)(ok:Bool)(K:Value->Prop):Prop:=
 match P.underlying t,x,k with
 |some (.map kt et),.map r,.int kk kn=>match P.underlying kt,zv P et with
  |some (.int k1),some z=>dP h r k1 kk kn λo=>IX z o ok K
  |_,_=>False
 |_,_,_=>False
def rG(P:Program)(t:TypeId)(parts:Option (List Value))(ix:List Nat)(K:Value->Prop):Prop:=
 match P.underlying t,zv P t,parts with
 |some (.struct fs),some z,some vs=>match fs.toList.all (λf=>(P.info? f.type).isSome)with
  |true=>dl (Instr.fill ((fs.map λf=>(f.offset,P.cellsOf f.type))[·]?) z.cells (ix.zip vs)) λcells=>K (.agg cells)
  |false=>False
 |some (.array _ e),some z,some vs=>match (P.info? e).isSome with
  |true=>dl (Instr.fill (λi=>some (i*P.cellsOf e,P.cellsOf e)) z.cells (ix.zip vs)) λcells=>K (.agg cells)
  |false=>False
 |_,_,_=>False
def vI(P:Program)(t:TypeId)(v:Value)(K:Value->Prop):Prop:=
 match P.underlying t with
 |some (.interface _)=>False
 |some _=>K (.iface t v)
 |none=>False
def kY(P:Program)(asserted:TypeId)(ok:Bool)(x:Value)(K:Value->Prop):Prop:=
 match P.underlying asserted,x with
 |some (.interface _),_=>False
 |some _,.iface t v=>match Nat.beq t asserted with
  |true=>(match ok with|true=>K (.tuple #[v,.bool true])|false=>K v)
  |false=>False
 |_,_=>False
def EL(P:Program)(t:TypeId)(h:aH)(x:Value)(K:Value->Prop):Prop:=
 match P.underlying t,x with
 |some (.slice _),.slice _ l _=>K (.int .i64 l)
 |some (.array n _),_=>K (.int .i64 n)
 |some .string,.string s=>K (.int .i64 s.size)
 |some (.map _ _),.map r=>dl r λb=> ∃es cl,mp h b=some (es,cl)/\K (.int .i64 es.size)
 |_,_=>False
def EM(P:Program)(t:TypeId)(x:Value)(K:Value->Prop):Prop:=
 match P.underlying t,x with
 |some (.slice _),.slice _ _ c=>K (.int .i64 c)
 |_,_=>False
def H9(mx:Bool)(x y:Value)(K:Value->Prop):Prop:=
 match x,y with
 | .int k a,.int _ b=>K (.int k (match mx with|true=>(if b>a then b else a)|false=>(if b<a then b else a)))
 |_,_=>False
def HG(ρ:Fr):Option Operand->Option (Option Value)
 |none=>some none
 |some x=>match ev ρ x with|some v=>some (some v)|none=>none
def vM(P:Program)(o:Op)(ρ:Fr)(h:aH)(K:Value->Prop):Prop:=
 match o with
 | .move x=>dl (ev ρ x) K
 | .assign x=>dl (ev ρ x) K
 | .pick c a b=>match ev ρ c with|some (.bool t)=>D8 t (ev ρ a) (ev ρ b) K|_=>False
 | .nilCheck x=>dl (ev ρ x) λv=>EP v K
 | .binOp op t x y _=>dl (ev ρ x) λa=>dl (ev ρ y) λb=>FO P h op t a b K
 | .unOp op _ x=>dl (ev ρ x) λa=>IC op a K
 | .convert s d x=>dl (ev ρ x) λa=>Bo P s d a K
 | .load t a=>match ev ρ a with|some (.pointer p)=>sF P t h p K|_=>False
 | .fieldAddr s x i=>dl (ev ρ x) λa=>kh P s a i K
 | .field s x i=>dl (ev ρ x) λa=>u6 P s a i K
 | .indexAddr t x i=>dl (ev ρ x) λa=>dl (ev ρ i) λb=>jY P t a b K
 | .index t x i=>dl (ev ρ x) λa=>dl (ev ρ i) λb=>vb P t a b K
 | .slice t x lo hi none=>dl (ev ρ x) λa=>dl (HG ρ lo) λl=>dl (HG ρ hi) λu=>uP P t a l u K
 | .extract x i=>dl (ev ρ x) λa=>tF a i K
 | .lookup t x k ok=>dl (ev ρ x) λa=>dl (ev ρ k) λb=>qR P t h a b ok K
 | .build t ps=>rG P t (yc ρ (ps.toList.map (·.2))) (ps.toList.map (·.1)) K
 | .makeInterface t x=>dl (ev ρ x) λa=>vI P t a K
 | .makeFunc fn first captured=>dl (yc ρ first.toList) λa=>dl (yc ρ captured.toList) λb=>K (.func fn a.toArray b.toArray)
 | .typeAssert x _ t ok=>dl (ev ρ x) λa=>kY P t ok a K
 | .call {callee:= .builtin b,args,argTypes}=>match b,args.toList,argTypes.toList with
  | .len,[x],[t]=>dl (ev ρ x) λa=>EL P t h a K
  | .cap,[x],[t]=>dl (ev ρ x) λa=>EM P t a K
  | .max,[x,y],_=>dl (ev ρ x) λa=>dl (ev ρ y) λb=>H9 true a b K
  | .min,[x,y],_=>dl (ev ρ x) λa=>dl (ev ρ y) λb=>H9 false a b K
  |_,_,_=>False
 |_=>False
def pF:Op->Bool
 | .alloc _=>true| .box _ _=>true| .buildSlice _ _ _=>true| .store _ _ _=>true| .makeMap _ _=>true| .makeSlice _ _ _=>true
 | .mapUpdate _ _ _ _=>true| .mapEntry _ _ _=>true| .entryStore _ _ _ _=>true| .insert _ _ _ _=>true
 | .range _ _=>true| .next _ _=>true| .entry _=>true
 | .call {callee:= .builtin b,..}=>(match b with| .len=>false| .cap=>false| .max=>false| .min=>false|_=>true)
 | .call _=>true
 |_=>false
end
section
def bT(w w':World):Prop:=w'.os=w.os/\w'.tape=w.tape/\w'.output=w.output
def gU(P:Program)(f:FuncId)(args:List Value)(h:aH)(K:Value->aH->Prop):Prop:=
 ∀w:World,w.heap=h->Calls P f args.toArray w λe w'=> ∃v,e= .returned v/\bT w w'/\K v w'.heap
inductive cY where
 |go|load (k:IntKind)|store|cas (k:IntKind)|add (k:IntKind)
 /--no function:the types of the key and the element at which an iterator (a slot) stands-/
 |ent (k v:TypeId)
def bZ:List (Nat×cY)->Nat->Option cY
 | [],_=>none
 |(k,v)::r,t=>match Nat.beq k t with|true=>some v|false=>bZ r t
def IB(P:Program):List TypeId->Option (List Value)
 | []=>some []
 |t::ts=>match zv P t,IB P ts with|some z,some zs=>some (z::zs)|_,_=>none
def BT(P:Program)(ty:TypeId)(v:Value)(K:Value->Prop):Prop:=
 match ((P.info? ty).map (λi=>i.desc):Option TypeDesc)with
 |some (TypeDesc.tuple ts)=>dl (IB P ts.toList) λzs=>Id zs λvs=>v= .tuple vs.toArray/\K (.tuple vs.toArray)
 |some _=>dl (zv P ty) λz=>(match z with
  | .agg zs=>HZ zs.toList λvs=>v= .agg vs.toArray/\K (.agg vs.toArray)
  |z=>CX z (some v) K)
 |none=>False
def yC(P:Program)(f:FuncId)(args:List Value)(ty:TypeId)(h:aH)(K:Value->aH->Prop):Prop:=
 gU P f args h λv h'=>BT P ty v λv'=>K v' h'
def aW(h:aH)(a:Addr)(v:Value)(K:aH->Prop):Prop:=
 match v.oneCell' with
 |true=>(rd h a).isSome=true/\fz h a=false/\K (wr h a v)
 |false=>False
def a9(h:aH)(o:Obj)(K:Nat->aH->Prop):Prop:=K h.size (h.push o)
def pd(a:Addr):Nat->List Value->aH->(aH->Prop)->Prop
 |_,[],h,K=>K h
 |i,v::vs,h,K=>aW h (a.add i) v λh'=>pd a (i+1) vs h' K
def GG(e:cY)(args:List Value)(h:aH)(K:Value->aH->Prop):Prop:=
 match e,args with
 | .load k,[.pointer p]=>bf p λa=>aQ k (rd h a) λn=>K (.int k n) h
 | .store,[.pointer p,.int k y]=>bf p λa=>aW h a (.int k y) λh'=>K (.tuple #[]) h'
 | .cas k,[.pointer p,.int k1 x,.int k2 y]=>match FW k k1,FW k k2 with
  |true,true=>bf p λa=>aQ k (rd h a) λn=>aK (n==x) (aW h a (.int k y) λh'=>K (.bool true) h') (fz h a=false/\K (.bool false) h)
  |_,_=>False
 | .add k,[.pointer p,.int k1 y]=>match FW k k1 with
  |true=>bf p λa=>aQ k (rd h a) λn=>aW h a (.int k (k.wrap (n+y))) λh'=>K (.int k (k.wrap (n+y))) h'
  |_=>False
 |_,_=>False
def Iz(P:Program)(X:List (Nat×cY))(f:FuncId)(args:List Value)(ty:TypeId)(h:aH)(K:Value->aH->Prop):Prop:=
 match bZ X f with
 |some .go=>yC P f args ty h K
 |some e=>GG e args h K
 |none=>False
def eV(P:Program)(X:List (Nat×cY))(f:Value)(args:List Value)(h:aH)(K:Value->aH->Prop):Prop:=
 match f with
 | .func (.func g) first captured=>(match bZ X g with
  |some .go=>gU P g (first.toList++args++captured.toList) h K
  |_=>False)
 |_=>False
def E9(P:Program)(X:List (Nat×cY))(f:Value)(args:List Value)(ty:TypeId)(h:aH)(K:Value->aH->Prop):Prop:=
 eV P X f args h λv h'=>BT P ty v λv'=>K v' h'
def E4(P:Program)(t:TypeId)(name:String):Option FuncId:=
 match P.info? t,P.underlying t with
 |some i,some (.pointer _)=>match i.methods.find? (·.name==name)with
  |some m=>match m.path.isEmpty,m.func with
   |true,some (f,true)=>some f
   |_,_=>none
  |none=>none
 |_,_=>none
def Es(P:Program)(X:List (Nat×cY))(r:Value)(name:String)(args:List Value)(ty:TypeId)(h:aH)(K:Value->aH->Prop):Prop:=
 match r with
 | .iface t v=>match E4 P t name with
  |some f=>(match bZ X f with
   |some .go=>yC P f (v::args) ty h K
   |_=>False)
  |none=>False
 |_=>False
def pB(h:aH)(a:Addr)(cs:List Value):Prop:= ∀j v,cs[j]? =some v->rd h (a.add j)=some v
def fB(h:aH)(e:TypeId)(sz by_:Nat)(z:Array Value)(p:Option Addr)(l c:Nat)(q:Option Addr)(n:Nat)(K:Option Addr->Nat->Nat->aH->Prop):Prop:=
 ∃new:List Value,new.length=n*sz/\(match q with|some b=>pB h b new|none=>n=0)/\
  (l+n<=c->match p with
   |some a=>pd (a.add (l*sz)) 0 new h λh'=>K p (l+n) c h'
   |none=>n*sz=0/\K p (l+n) c h)/\
  (c<l+n-> ∃old:List Value,old.length=l*sz/\(match p with|some a=>pB h a old|none=>l=0)/\
   (l+n)*by_<=140737488355328/\
   ∀cap,l+n<=cap->K (some ⟨h.size,0,none⟩) (l+n) cap (h.push (.cells (old.toArray++new.toArray++Builtin.zeroCells z (cap-(l+n))) e)))
def wP(h:aH)(sz:Nat)(p:Option Addr)(l:Nat)(q:Option Addr)(n:Nat)(K:Nat->aH->Prop):Prop:=
 ∃new:List Value,new.length=Nat.min n l*sz/\(match q with|some b=>pB h b new|none=>n=0)/\
  match p with
  |some a=>pd a 0 new h λh'=>K (Nat.min n l) h'
  |none=>K (Nat.min n l) h
def jU(P:Program)(t:TypeId):Option (Nat×Nat×Array Value):=
 match P.info? t with
 |some i=>match i.zero with|some z=>some (i.size,i.bytes,z.cells)|none=>none
 |none=>none
def Gw(P:Program)(t u:TypeId)(x y:Value)(h:aH)(K:Value->aH->Prop):Prop:=
 match P.underlying t,P.underlying u,x,y with
 |some (.slice e),some (.slice _),.slice p l c,.slice q n _=>match jU P e with
  |some (sz,by_,z)=>match Nat.ble 1 by_ with
   |true=>fB h e sz by_ z p l c q n λp' l' c' h'=>K (.slice p' l' c') h'
   |false=>False
  |none=>False
 |_,_,_,_=>False
def DY(P:Program)(t:TypeId)(x y:Value)(h:aH)(K:Value->aH->Prop):Prop:=
 match P.underlying t,x,y with
 |some (.slice e),.slice p l _,.slice q n _=>match P.info? e with
  |some ti=>wP h ti.size p l q n λm h'=>K (.int .i64 m) h'
  |none=>False
 |_,_,_=>False
def uW(h:aH)(z:Array Value)(p:Option Addr)(n:Nat)(K:aH->Prop):Prop:=
 match p with
 |some a=>pd a 0 (Builtin.zeroCells z n).toList h K
 |none=>K h
def vd(P:Program)(t:TypeId)(x:Value)(h:aH)(K:aH->Prop):Prop:=
 match P.underlying t,x with
 |some (.slice e),.slice p n _=>match jU P e with
  |some (_,_,z)=>uW h z p n K
  |none=>False
 |_,_=>False
def dF(P:Program)(t:TypeId)(p:Option Addr)(v:Value)(h:aH)(K:aH->Prop):Prop:=
 match P.info? t with
 |some ti=>match Nat.beq v.cells.size ti.size with
  |true=>bf p λa=>pd a 0 v.cells.toList h K
  |false=>False
 |none=>False
def kb(P:Program)(t:TypeId)(l c:Value)(h:aH)(K:Value->aH->Prop):Prop:=
 match P.underlying t,l,c with
 |some (.slice e),.int _ i,.int _ j=>match jU P e with
  |some (sz,by_,z)=>0<=i/\i<=j/\(by_:Int)*j<=281474976710656/\j<=9223372036854775807/\
    a9 h (.cells (madeCells z (j.toNat*sz)) e) λb h'=>K (.slice (some ⟨b,0,none⟩) i.toNat j.toNat) h'
  |none=>False
 |_,_,_=>False
def gQ(P:Program)(t:TypeId)(len:Nat)(parts:Option (List Value))(ix:List Nat)(h:aH)(K:Value->aH->Prop):Prop:=
 match P.underlying t,parts with
 |some (.slice e),some vs=>match jU P e with
  |some (sz,_,z)=>match Nat.ble (len*sz) 16777216 with
   |true=>dl (Instr.fill (λi=>some (i*sz,sz)) (madeCells z (len*sz)) (ix.zip vs)) λcells=>
     a9 h (.cells cells e) λb h'=>K (.slice (some ⟨b,0,none⟩) len len) h'
   |false=>False
  |none=>False
 |_,_=>False
def Jo(k1 kk:IntKind)(kn:Int)(es:Array MapEntry):Option (Option (Nat×Value)):=Instr.findNow (.int k1) (.int kk kn) es.toList 0
def Ew(h:aH)(r:Option Nat)(k1 kk:IntKind)(kn:Int)(K:Nat->Array MapEntry->Nat->Option (Nat×Value)->Prop):Prop:=
 dl r λb=> ∃es cl,mp h b=some (es,cl)/\ ∃o,Jo k1 kk kn es=some o/\K b es cl o
def lO(h:aH)(r:Option Nat)(k1 kk:IntKind)(kn:Int)(v:Value)(K:aH->Prop):Prop:=
 Ew h r k1 kk kn λb es cl o=>match o with
  |some (i,_)=>Instr.sameBits 10000 (((es[i]?).map (·.key)).getD (.int kk kn)) (.int kk kn)=true/\
    K (h.setIfInBounds b (.map (es.modify i λe=>{e with key:= .int kk kn,val:=v}) cl))
  |none=>K (h.setIfInBounds b (.map (es.push {key:= .int kk kn,val:=v,born:=cl}) (cl+1)))
def zW(h:aH)(r:Option Nat)(k1 kk:IntKind)(kn:Int)(z:Value)(K:Value->Int->aH->Prop):Prop:=
 Ew h r k1 kk kn λb es cl o=>match o with
  |some (i,v)=>Instr.sameBits 10000 (((es[i]?).map (·.key)).getD (.int kk kn)) (.int kk kn)=true/\
    K v (((es[i]?).map (·.born)).getD 0) (h.setIfInBounds b (.map (es.modify i λe=>{e with key:= .int kk kn}) cl))
  |none=>K z cl (h.setIfInBounds b (.map (es.push {key:= .int kk kn,val:=z,born:=cl}) (cl+1)))
def zk(h:aH)(r:Option Nat)(st:Int)(v:Value)(K:aH->Prop):Prop:=
 dl r λb=> ∃es cl,mp h b=some (es,cl)/\ ∃i,es.findIdx? (λe=>(e.born:Int)==st)=some i/\
   K (h.setIfInBounds b (.map (es.modify i λe=>{e with val:=v}) cl))
def xo(h:aH)(r:Option Nat)(k1 kk:IntKind)(kn:Int)(K:aH->Prop):Prop:=
 Ew h r k1 kk kn λb es cl o=>match o with
  |some (i,_)=>K (h.setIfInBounds b (.map (es.eraseIdxIfInBounds i) cl))
  |none=>K (h.setIfInBounds b (.map es cl))
def kv(P:Program)(t:TypeId)(m k v:Value)(h:aH)(K:aH->Prop):Prop:=
 match P.underlying t,m,k with
 |some (.map kt _),.map r,.int kk kn=>match P.underlying kt with
  |some (.int k1)=>lO h r k1 kk kn v K
  |_=>False
 |_,_,_=>False
def mf(P:Program)(t:TypeId)(m k:Value)(h:aH)(K:Value->aH->Prop):Prop:=
 match P.underlying t,m,k with
 |some (.map kt et),.map r,.int kk kn=>match P.underlying kt,zv P et with
  |some (.int k1),some z=>zW h r k1 kk kn z λv st h'=>CX z (some v) λv'=>K (.tuple #[v',.int .i64 st]) h'
  |_,_=>False
 |_,_,_=>False
def jg(m s v:Value)(h:aH)(K:aH->Prop):Prop:=
 match m,s with
 | .map r,.int _ st=>zk h r st v K
 |_,_=>False
def rq(P:Program)(t:TypeId)(m k:Value)(h:aH)(K:aH->Prop):Prop:=
 match P.underlying t,m,k with
 |some (.map kt _),.map r,.int kk kn=>match P.underlying kt with
  |some (.int k1)=>xo h r k1 kk kn K
  |_=>False
 |_,_,_=>False
def BV(h:aH)(r:Option Nat)(K:Option Addr->aH->Prop):Prop:=
 match r with
 |none=>a9 h (.mapIter none 0 #[] 0) λb h'=>K (some ⟨b,0,none⟩) h'
 |some m=> ∃es cl,mp h m=some (es,cl)/\a9 h (.mapIter (some m) cl #[] cl) λb h'=>K (some ⟨b,0,none⟩) h'
def EH(h:aH)(p:Option Addr)(K0:Prop)(K1:Value->Value->aH->Prop):Prop:=
 bf p λa=>a.off=0/\ ∃m since seen last,h[a.block]? =some (.mapIter m since seen last)/\
  match m with
  |none=>K0
  |some m=> ∃es cl,mp h m=some (es,cl)/\(∀x∈es.toList,x.born<since)/\since<=last/\((leftOf es seen).size=0->K0)/\
    ∀e∈(leftOf es seen).toList,K1 e.key e.val (h.setIfInBounds a.block (.mapIter (some m) since (seen.push e.born) cl))
def Ay(h:aH)(p:Option Addr)(K:Value->Value->Prop):Prop:=
 bf p λa=>a.off=0/\ ∃m since seen cl es stamp e,h[a.block]? =some (.mapIter (some m) since seen cl)/\seen.back? =some stamp/\mp h m=some (es,cl)/\es.find? (·.born==stamp)=some e/\K e.key e.val
def vp(P:Program)(t:TypeId)(x:Value)(h:aH)(K:Value->aH->Prop):Prop:=
 match P.underlying t,x with
 |some (.map _ _),.map r=>BV h r λp h'=>K (.pointer p) h'
 |_,_=>False
def zF(x:Value)(h:aH)(K:Value->aH->Prop):Prop:=
 match x with
 | .pointer p=>EH h p (K (.tuple #[.bool false]) h) λk v h'=>K (.tuple #[.bool true,k,v]) h'
 |_=>False
def vN(P:Program)(kt vt:TypeId)(x:Value)(h:aH)(K:Value->aH->Prop):Prop:=
 match x with
 | .pointer p=>Ay h p λk v=>dl (IB P [kt,vt]) λzs=>Id zs λvs=>(Value.tuple #[k,v]=Value.tuple vs.toArray)/\K (.tuple vs.toArray) h
 |_=>False
def Fz(P:Program)(X:List (Nat×cY))(o:Op)(ty:TypeId)(ρ:Fr)(h:aH)(K:Value->aH->Prop):Prop:=
 match o with
 | .alloc t=>dl (zv P t) λz=>a9 h (.cells z.cells t) λb h'=>K (.pointer (some ⟨b,0,none⟩)) h'
 | .box t x=>dl (ev ρ x) λv=>a9 h (.cells v.cells t) λb h'=>K (.pointer (some ⟨b,0,none⟩)) h'
 | .store t a x=>match ev ρ a with
  |some (.pointer p)=>dl (ev ρ x) λv=>dF P t p v h λh'=>K undef h'
  |_=>False
 | .makeMap _ none=>a9 h (.map #[] 0) λb h'=>K (.map (some b)) h'
 | .makeSlice t l c=>dl (ev ρ l) λa=>dl (ev ρ c) λb=>kb P t a b h K
 | .buildSlice t n ps=>gQ P t n (yc ρ (ps.toList.map (·.2))) (ps.toList.map (·.1)) h K
 | .mapUpdate t m k x=>dl (ev ρ m) λa=>dl (ev ρ k) λb=>dl (ev ρ x) λv=>kv P t a b v h λh'=>K undef h'
 | .mapEntry t m k=>dl (ev ρ m) λa=>dl (ev ρ k) λb=>mf P t a b h K
 | .entryStore _ m s x=>dl (ev ρ m) λa=>dl (ev ρ s) λb=>dl (ev ρ x) λv=>jg a b v h λh'=>K undef h'
 | .range t x=>dl (ev ρ x) λa=>vp P t a h K
 | .next x str=>dl (ev ρ x) λa=>match str with|false=>zF a h K|true=>False
 | .entry x=>dl (ev ρ x) λa=>match x with
  | .tmp t=>(match bZ X (1000000+t)with|some (.ent kt vt)=>vN P kt vt a h K|_=>False)
  |_=>False
 | .call {callee:= .value f,args,..}=>dl (yc ρ args.toList) λxs=>match f with
  | .func g=>Iz P X g xs ty h K
  |f=>dl (ev ρ f) λfv=>E9 P X fv xs ty h K
 | .call {callee:= .invoke r name,args,..}=>dl (ev ρ r) λrv=>dl (yc ρ args.toList) λxs=>Es P X rv name xs ty h K
 | .call {callee:= .builtin b,args,argTypes}=>match b,args.toList,argTypes.toList with
  | .append,[x,y],[t,u]=>dl (ev ρ x) λa=>dl (ev ρ y) λb=>Gw P t u a b h K
  | .copy,[x,y],[t,_]=>dl (ev ρ x) λa=>dl (ev ρ y) λb=>DY P t a b h K
  | .delete,[x,y],[t,_]=>dl (ev ρ x) λa=>dl (ev ρ y) λb=>rq P t a b h λh'=>K (.tuple #[]) h'
  | .clear,[x],[t]=>dl (ev ρ x) λa=>vd P t a h λh'=>K (.tuple #[]) h'
  |_,_,_=>False
 |_=>False
def Im(P:Program)(X:List (Nat×cY))(o:Oper)(ρ:Fr)(h:aH)(K:Value->aH->Prop):Prop:=
 match pF o.op with
 |true=>Fz P X o.op o.type ρ h K
 |false=>vM P o.op ρ h λv=>K v h
def zH(ops:Array Oper)(o:Oper)(ρ:Fr)(run skip:Fr->Prop):Prop:=
 match o.guard with
 |none=>run ρ
 |some (j,want)=>match (ops[j]?).bind (·.dst)with
  |none=>False
  |some d=>match get ρ d with
   |some (.bool b)=>(match want with
    |true=>aK b (run ((d,.bool true)::ρ)) (skip ((d,.bool false)::ρ))
    |false=>aK b (skip ((d,.bool true)::ρ)) (run ((d,.bool false)::ρ)))
   |some (.tuple _)=>skip ρ
   |_=>False
def oS(P:Program)(X:List (Nat×cY))(ops:Array Oper)(o:Oper)(ρ:Fr)(h:aH)(K:Fr->aH->Prop):Prop:=
 zH ops o ρ (λρ=>Im P X o ρ h λv h'=>K (put ρ o.dst v) h') (λρ=>K (put ρ o.dst undef) h)
def Ia(P:Program)(X:List (Nat×cY))(ops:Array Oper):List Oper->Fr->aH->(Fr->aH->Prop)->Prop
 | [],ρ,h,K=>K ρ h
 |o::rest,ρ,h,K=>oS P X ops o ρ h λρ' h'=>Ia P X ops rest ρ' h' K
def fH(P:Program)(ops:Array Oper)(ρ:Fr)(h:aH):List Nat->Prop->Prop
 | [],K=>K
 |j::js,K=>match ops[j]? with
  |none=>False
  |some o=>
        match o.dst with
   |none=>False
   |some d=>match get ρ d with
    |none=>False
    |some v=>match o.guard with
     |none=>vM P o.op ρ h λv'=>v'=v/\fH P ops ρ h js K
     |some (i,want)=>match (ops[i]?).bind (·.dst)with
      |none=>False
      |some g=>match get ρ g with
       |some (.bool b)=>(match want with
        |true=>aK b (vM P o.op ρ h λv'=>v'=v/\fH P ops ρ h js K) (v=undef/\fH P ops ρ h js K)
        |false=>aK b (v=undef/\fH P ops ρ h js K) (vM P o.op ρ h λv'=>v'=v/\fH P ops ρ h js K))
       |some (.tuple _)=>v=undef/\fH P ops ρ h js K
       |_=>False
def FY(P:Program)(X:List (Nat×cY))(ops:Array Oper):List (Nat×List Nat)->Fr->aH->(Fr->aH->Prop)->Prop
 | [],ρ,h,K=>K ρ h
 |(i,js)::rest,ρ,h,K=>match ops[i]? with
  |none=>False
  |some o=>oS P X ops o ρ h λρ' h'=>fH P ops ρ' h' js (FY P X ops rest ρ' h' K)
def Fv(P:Program)(X:List (Nat×cY))(ops:Array Oper):List (List (Nat×List Nat))->Fr->aH->(Fr->aH->Prop)->Prop
 | [],_,_,_=>False
 | [l],ρ,h,K=>FY P X ops l ρ h K
 |l::ls,ρ,h,K=>FY P X ops l ρ h K/\Fv P X ops ls ρ h K
def Ic(ops:Array Oper)(i:Nat):Bool:=match ops[i]? with|some o=>pF o.op|none=>false
def lf(ops:Array Oper):List (Nat×List Nat)->List (Nat×List Nat)
 | []=> []
 |x::l=>match Ic ops x.1 with|true=> []|false=>x::lf ops l
def iT(ops:Array Oper):List (Nat×List Nat)->List (Nat×List Nat)
 | []=> []
 |x::l=>match Ic ops x.1 with|true=>x::l|false=>iT ops l
def xU(i:Nat):List (Nat×List Nat)->Bool
 | []=>false
 |x::l=>match Nat.beq x.1 i with|true=>true|false=>xU i l
def jt:List (List (Nat×List Nat))->List (Nat×List Nat)
 | []=> []
 | []::A=>jt A
 |(x::_)::A=>let r:=jt A;match xU x.1 r with|true=>r|false=>x::r
def pU(i:Nat):List (List (Nat×List Nat))->List (List (Nat×List Nat))
 | []=> []
 | []::A=>pU i A
 |(x::l)::A=>match Nat.beq x.1 i with|true=>l::pU i A|false=>pU i A
def FR(P:Program)(X:List (Nat×cY))(ops:Array Oper)(rec:List (List (Nat×List Nat))->Fr->aH->Prop)(A:List (List (Nat×List Nat))):List (Nat×List Nat)->Fr->aH->Prop
 | [],_,_=>True
 | [(i,js)],ρ,h=>(match ops[i]? with|none=>False|some o=>oS P X ops o ρ h λρ' h'=>fH P ops ρ' h' js (rec (pU i A) ρ' h'))
 |(i,js)::l,ρ,h=>(match ops[i]? with|none=>False|some o=>oS P X ops o ρ h λρ' h'=>fH P ops ρ' h' js (rec (pU i A) ρ' h'))/\FR P X ops rec A l ρ h
def Ib(P:Program)(X:List (Nat×cY))(ops:Array Oper)(K:Fr->aH->Prop):Nat->List (List (Nat×List Nat))->Fr->aH->Prop
 |0,_,_,_=>False
 |_+1,[],_,_=>False
 |n+1,a::A,ρ,h=>FY P X ops (lf ops a) ρ h λρ' h'=>
  match iT ops a with
  | []=>K ρ' h'
  |_::_=>let B:=(a::A).map (iT ops);FR P X ops (Ib P X ops K n) B (jt B) ρ' h'
abbrev KK:=Value->aH->Prop
def lP{α γ:Sort _}(f:α->γ){a a':α}(h:a=a'):f a=f a':=congrArg f h
def BE{α β γ:Sort _}(f:α->β->γ){a a':α}{b b':β}(h:a=a')(g:b=b'):f a b=f a' b':=by rw[h,g]
def cR{p q:Nat->Prop}(h: ∀n,p n=q n):(∃n,p n)= ∃n,q n:=congrArg _ (funext h)
structure bj where
 cuts:List (Nat×List Nat)
 alts:List (Nat×List (List (Nat×List Nat)))
def Df{α:Type}:List (Nat×α)->Nat->Option α
 | [],_=>none
 |(k,v)::r,t=>match Nat.beq k t with|true=>some v|false=>Df r t
def rW:Code->Option Nat
 | .region id _ _=>some id
 | .seq a _=>rW a
 | .block _ c=>rW c
 | .loop c=>rW c
 |_=>none
def df(T:bj)(c:Code):Option (List Nat):=
 match rW c with
 |some id=>Df T.cuts id
 |none=>none
def DB(q:Option (List Nat))(ρ:Fr):Fr:=match q with|some L=>cut L ρ|none=>ρ
abbrev XK:=Exit->Fr->aH->Prop
abbrev bD:=(Fr->aH->Prop)->Fr->aH->Prop
def jS(S:bD)(q:Option (List Nat))(κ:Fr->aH->Prop)(K:Exit->Fr->aH->Prop):Exit->Fr->aH->Prop:=λe ρ h=>
 match e with
 | .normal=>(match q with|some L=>S κ (cut L ρ) h|none=>κ ρ h)
 |e=>K e ρ h
def gh(S:bD)(q:Option (List Nat))(κ:Fr->aH->Prop)(K:Exit->Fr->aH->Prop):Exit->Fr->aH->Prop:=λe ρ h=>
 match e with
 | .normal=>S κ (DB q ρ) h
 |e=>K e ρ h
def cA(id:Nat)(K:Exit->Fr->aH->Prop):Exit->Fr->aH->Prop:=λe ρ h=>match e with| .exit i=>(match Nat.beq i id with|true=>K .normal ρ h|false=>K (.exit i) ρ h)|e=>K e ρ h
def jw(S:bD)(body:(Exit->Fr->aH->Prop)->Fr->aH->Prop)(q:Option (List Nat))(K:Exit->Fr->aH->Prop):Nat->Fr->aH->Prop
 |0,_,_=>False
 |n+1,ρ,h=>body (gh S q (jw S body q K n) K) ρ h
def E(P:Program)(X:List (Nat×cY))(T:bj)(S:bD):Code->(Exit->Fr->aH->Prop)->Fr->aH->Prop
 | .skip,K,ρ,h=>K .normal ρ h
 | .region id ops draw,K,ρ,h=>match draw with
  |false=>Ia P X ops ops.toList ρ h λρ' h'=>K .normal ρ' h'
  |true=>match Df T.alts id with
   |some ls=>(match Nat.ble 5 ls.length with
    |true=>Ib P X ops (λρ' h'=>K .normal ρ' h') (ops.size+1) ls ρ h
    |false=>Fv P X ops ls ρ h λρ' h'=>K .normal ρ' h')
   |none=>False
 | .seq a b,K,ρ,h=>E P X T S a (jS S (df T b) (E P X T S b K) K) ρ h
 | .cond c a b,K,ρ,h=>match ev ρ c with
  |some (.bool t)=>aK t (E P X T S a K ρ h) (E P X T S b K ρ h)
  |_=>False
 | .block id c,K,ρ,h=>E P X T S c (cA id K) ρ h
 | .loop c,K,ρ,h=> ∃n,S (jw S (E P X T S c) (df T c) K n) (DB (df T c) ρ) h
 | .exit id,K,ρ,h=>K (.exit id) ρ h
 | .ret,K,ρ,h=>K .ret ρ h
 | .label _,K,ρ,h=>K .normal ρ h
 |_,_,_,_=>False
def sub:Code->List Nat->Code
 |c,[]=>c
 | .seq a _,0::p=>sub a p
 | .seq _ b,1::p=>sub b p
 | .cond _ a _,0::p=>sub a p
 | .cond _ _ b,1::p=>sub b p
 | .block _ c,0::p=>sub c p
 | .loop c,0::p=>sub c p
 |_,_=> .skip
abbrev S0:bD:=λκ ρ h=>κ ρ h
def vu(P:Program):List ResultVar->Fr->aH->(List Value->Prop)->Prop
 | [],_,_,K=>K []
 | .tmp t::r,ρ,h,K=>dl (get ρ t) λv=>vu P r ρ h λvs=>K (v::vs)
 | .cell a t::r,ρ,h,K=>match get ρ a with
  |some (.pointer p)=>sF P t h p λv=>vu P r ρ h λvs=>K (v::vs)
  |_=>False
def fin(P:Program)(rs:List ResultVar)(K:Value->aH->Prop)(e:Exit)(ρ:Fr)(h:aH):Prop:=
 match e with
 | .ret=>vu P rs ρ h λvs=>(match vs with| [v]=>K v h|vs=>K (.tuple vs.toArray) h)
 | .normal=>vu P rs ρ h λvs=>(match vs with| [v]=>K v h|vs=>K (.tuple vs.toArray) h)
 |_=>False
def dI:Nat->List Value->Fr
 |_,[]=> []
 |i,v::vs=>(i,v)::dI (i+1) vs
end
section
def EK(f:Operand->Option Value)(xs:Array Operand)(σ:Operand->Value):Prop:= ∀x∈xs,∀v,f x=some v->σ x=v
def DO(P:Program)(o:Oper)(f:Operand->Option Value)(h:aH)(v:Value):Prop:=
 ∀σ,EK f o.op.operands σ-> ∀w:World,w.heap=h->(execOp σ o).run P w= .ok (.value v) w
def aZ{α:Type}{x:Option α}{K:α->Prop}(h:dl x K): ∃v,x=some v/\K v:=by
 cases x with
 |none=>exact h.elim
 |some v=>exact⟨v,rfl,h⟩
def dY{b:Bool}{p q:Prop}(h:aK b p q):(b=true/\p)\/(b=false/\q):=by
 cases b
 ·exact .inr ⟨rfl,h⟩
 ·exact .inl ⟨rfl,h⟩
def ct{p:Option Addr}{K:Addr->Prop}(h:bf p K): ∃a,p=some a/\K a:=by
 cases p with
 |none=>exact h.elim
 |some v=>exact⟨v,rfl,h⟩
def pH{z:Value}{K:Value->Prop}(h:Hv z K): ∃v,K v:=by
 unfold Hv at h;split at h
 ·obtain⟨n,h⟩:=h;exact⟨_,h⟩
 ·obtain⟨n,h⟩:=h;exact⟨_,h⟩
 ·obtain⟨n,h⟩:=h;exact⟨_,h⟩
 ·obtain⟨p,l,c,h⟩:=h;exact⟨_,h⟩
 ·obtain⟨n,h⟩:=h;exact⟨_,h⟩
 ·obtain⟨n,h⟩:=h;exact⟨_,h⟩
 ·exact h
def tA{zs:List Value}: ∀{K:List Value->Prop},HZ zs K-> ∃vs,K vs:=by
 induction zs with
 |nil=>intro K h;exact⟨[],h⟩
 |cons z zs ih=>intro K h;obtain⟨v,h⟩:=pH h;obtain⟨vs,h⟩:=ih h;exact⟨_,h⟩
def zU{z:Value}{K:Value->Prop}(h:Ik z K): ∃v,K v:=by
 unfold Ik at h;split at h
 ·obtain⟨vs,h⟩:=tA h;exact⟨_,h⟩
 ·exact pH h
def uh{zs:List Value}: ∀{K:List Value->Prop},Id zs K-> ∃vs,K vs:=by
 induction zs with
 |nil=>intro K h;exact⟨[],h⟩
 |cons z zs ih=>intro K h;obtain⟨v,h⟩:=zU h;obtain⟨vs,h⟩:=ih h;exact⟨_,h⟩
def dG{z:Value}{x:Option Value}{K:Value->Prop}(h:CX z x K): ∃v,x=some v/\K v:=pH h
def yK{h:aH}{a:Addr}: ∀{zs:List Value} {i:Nat} {K:List Value->Prop},Ir h a i zs K-> ∃vs:List Value,vs.length=zs.length/\(∀j v,vs[j]? =some v->rd h (a.add (i+j))=some v)/\K vs:=by
 intro zs
 induction zs with
 |nil=>intro i K H;exact⟨[],rfl,ak,H⟩
 |cons z zs ih=>
  intro i K H;obtain⟨v,hv,H⟩:=dG H;obtain⟨vs,hl,hr,H⟩:=ih H;refine⟨v::vs,by simp[hl],λj u hj=> ?_,H⟩;cases j with
  |zero=>simp at hj;subst hj;exact hv
  |succ j=>have:=hr j u (by simpa using hj);rw[<-this];congr 2;omega
def gO(w:World)(a:Addr):w.cell? a=rd w.heap a:=rfl
def io(w:World)(a:Addr):w.frozen? a=fz w.heap a:=rfl
def sh(w:World)(a:Addr)(v:Value):(w.setCell a v).heap=wr w.heap a v:=rfl
def bq{P:Program}{t:TypeId}{d:TypeDesc}(h:P.underlying t=some d)(w:World):(underlying t).run P w= .ok d w:=run_underlying h w
def lX{P:Program}{t:TypeId}{i:TypeInfo}(h:P.info? t=some i)(w:World):(typeInfo t).run P w= .ok i w:=by simp[typeInfo,h]
def cJ{P:Program}{t:TypeId}{i:TypeInfo}(h:P.info? t=some i)(w:World):(sizeOf t).run P w= .ok i.size w:=by simp[sizeOf,lX h]
def oW{P:Program}{t:TypeId}{z:Value}(h:zv P t=some z)(w:World):(zeroValue t).run P w= .ok z w:=by
 unfold zv at h;cases hi:P.info? t with
 |none=>simp[hi]at h
 |some i=>simp[hi]at h;simp[zeroValue,lX hi,h]
def uj{P:Program}{t:TypeId}{d:TypeDesc}(h:P.underlying t=some d): ∃i,P.info? t=some i:=by
 unfold Program.underlying at h;cases hi:P.info? t with
 |none=>simp[hi]at h
 |some i=>exact⟨i,rfl⟩
def gn{P:Program}{t:TypeId}{i:TypeInfo}(h:P.info? t=some i):P.cellsOf t=i.size:=by simp[Program.cellsOf,h]
def lH{P:Program}{t:TypeId}{d:TypeDesc}(h:P.underlying t=some d)(w:World):(isAgg t).run P w= .ok (GT d) w:=by simp only[isAgg,Sem.run_bind,bq h,Result.andThen_ok];cases d<;>rfl
def AJ{l:List Value}{b:Nat}: ∀{zs:List Value} {i:Nat} {K:List Value->Prop},IF l b i zs K-> ∃vs:List Value,vs.length=zs.length/\(∀j v,vs[j]? =some v->l[b+(i+j)]? =some v)/\K vs:=by
 intro zs
 induction zs with
 |nil=>intro i K H;exact⟨[],rfl,ak,H⟩
 |cons z zs ih=>
  intro i K H;obtain⟨v,hv,H⟩:=dG H;obtain⟨vs,hl,hr,H⟩:=ih H;refine⟨v::vs,by simp[hl],λj u hj=> ?_,H⟩;cases j with
  |zero=>simp at hj;subst hj;exact hv
  |succ j=>have:=hr j u (by simpa using hj);rw[<-this];congr 2;omega
def mV{P:Program}{t:TypeId}{h:aH}{p:Option Addr}{K:Value->Prop}(H:sF P t h p K):
  ∃v,K v/\ ∀w:World,w.heap=h->(Instr.loadAt t (.pointer p)).run P w= .ok v w:=by
 unfold sF at H;split at H
 case h_2=>exact H.elim
 rename_i d z hd hz;obtain⟨i,hi⟩:=uj hd;split at H
 ·rename_i ha;split at H
  case h_2=>exact H.elim
  rename_i zs;split at H
  case h_2=>exact H.elim
  rename_i hs;have hs:=Nat.eq_of_beq_eq_true hs
  have HH: ∃a,p=some a/\ ∃vs:List Value,vs.length=zs.toList.length/\(∀j v,vs[j]? =some v->rd h (a.add (0+j))=some v)/\K (.agg vs.toArray):=by
   split at H
   ·obtain⟨a,e,H⟩:=ct H;obtain⟨vs,hl,hr,H⟩:=H;exact⟨a,e,vs,by simpa using hl,λj v hj=>by rw[Nat.zero_add];exact hr j v hj,H⟩
   ·obtain⟨a,e,H⟩:=ct H;exact⟨a,e,yK H⟩
  obtain⟨a,rfl,vs,hl,hr,H⟩:=HH;refine⟨_,H,λw hw=> ?_⟩
  have hload:(loadCells a i.size).run P w= .ok vs.toArray w:=by have:=run_loadCells_list (P:=P) (w:=w) a vs (λj v hj=>by rw[gO,hw,<-hr j v hj];simp);rw[<-this,hl,<-gn hi,<-hs];simp
  simp[Instr.loadAt,Instr.sureAddr,loadVar,lH hd,ha,cJ hi,hload]
 ·rename_i ha;obtain⟨a,rfl,H⟩:=ct H;obtain⟨v,hv,H⟩:=dG H;refine⟨v,H,λw hw=> ?_⟩;have hc:w.cell? a=some v:=by rw[gO,hw,hv]
  simp[Instr.loadAt,Instr.sureAddr,loadVar,lH hd,ha,hc]
def vD{P:Program}{op:BinOp}{t:TypeId}{k:IntKind}{a b:Int}{K:Value->Prop}(hs:Hy op=false)(H:EN op k a b K):
  ∃v,K v/\ ∀w:World,(binOp op t (.int k a) (.int k b)).run P w= .ok v w:=by
 cases op<;>simp only[EN]at H
 case quo=>obtain⟨hb,H⟩:=H;exact⟨_,H,λw=>by simp[binOp,Op.intDiv,hb]⟩
 case rem=>obtain⟨hb,H⟩:=H;exact⟨_,H,λw=>by simp[binOp,Op.intDiv,hb]⟩
 case and=>exact⟨_,H,λw=>by simp[binOp];rfl⟩
 case or=>exact⟨_,H,λw=>by simp[binOp];rfl⟩
 case xor=>exact⟨_,H,λw=>by simp[binOp];rfl⟩
 case andNot=>exact⟨_,H,λw=>by simp[binOp];rfl⟩
 all_goals exact⟨_,H,λw=>by simp[binOp,Op.intArith,Op.intCmp]⟩
def xH{P:Program}{op:BinOp}{t:TypeId}{k k':IntKind}{a b:Int}{K:Value->Prop}(H:Is op k a b K):
  ∃v,K v/\ ∀w:World,(binOp op t (.int k a) (.int k' b)).run P w= .ok v w:=by
 cases op<;>simp only[Is]at H<;>first
  |exact H.elim
  |(obtain⟨hb,H⟩:=H
    have hb': ¬b<0:=ah;exact⟨_,H,λw=>by simp[binOp,Op.shift,hb']⟩)
def lK{k k':IntKind}(h:FW k k'=true):k=k':=by cases k<;>cases k'<;>first|rfl|(simp[FW]at h)
def iw{P:Program}{t:TypeId}{d:TypeDesc}(hd:P.underlying t=some d)(ha:GT d=false)(cs:Array Value)(off:Nat)(v:Value)(hv:cs[off]? =some v)(w:World):
  (part t cs off).run P w= .ok v w:=by
 simp[part,lH hd,ha,hv]
def Jv{P:Program}{xs ys:Array Value}(d:Nat)(w:World): ∀(fs:List Field) (n:Nat) (b:Bool),
  (∀(i:Nat) (f:Field),fs[i]? =some f→f.offset=n+i∧f.name≠ "_" ∧(∃k,P.underlying f.type=some (.int k)))→
  (xs.toList.drop n).length=fs.length->xI (xs.toList.drop n) (ys.toList.drop n)=some b->(Op.eqFields (d+1) xs ys fs).run P w= .ok b w:=by
 intro fs
 induction fs with
 |nil=>
  intro n b _ hl he;have h0:xs.toList.drop n=[]:=List.eq_nil_of_length_eq_zero hl;rw[h0]at he;cases hy:ys.toList.drop n with
  |nil=>rw[hy]at he;simp[xI]at he;subst he;simp[Op.eqFields]
  |cons y l=>rw[hy]at he;simp[xI]at he
 |cons f fs ih=>
  intro n b hf hl he;obtain⟨ho,hn,hk⟩:=hf 0 f rfl;cases hx:xs.toList.drop n with
  |nil=>rw[hx]at hl;simp at hl
  |cons x xl=>
   cases hy:ys.toList.drop n with
   |nil=>rw[hx,hy]at he;cases x<;>simp[xI]at he
   |cons y yl=>
    have hxn:xs[n]? =some x:=by have:=congrArg (·[0]?) hx;simpa using this
    have hyn:ys[n]? =some y:=by have:=congrArg (·[0]?) hy;simpa using this
    have hx':xs.toList.drop (n+1)=xl:=by rw[<-List.drop_drop,hx];rfl
    have hy':ys.toList.drop (n+1)=yl:=by rw[<-List.drop_drop,hy];rfl
    rw[hx,hy]at he;have ih':=λb h=>ih (n+1) b (λi g hg=>by have:=hf (i+1) g (by simpa using hg);rw[this.1];exact⟨ah,this.2⟩) (by rw[hx'];rw[hx]at hl;simpa using hl) h;rw[hx',hy']at ih'
    have hpx:(part f.type xs f.offset).run P w= .ok x w:=by rw[ho];obtain⟨k,hk⟩:=hk;exact iw hk rfl _ _ _ hxn w
    have hpy:(part f.type ys f.offset).run P w= .ok y w:=by rw[ho];obtain⟨k,hk⟩:=hk;exact iw hk rfl _ _ _ hyn w
    simp only[Op.eqFields,Sem.run_ite,hn,ne_eq,not_false_iff,if_true,Sem.run_bind,hpx,hpy,Result.andThen_ok];unfold xI at he;split at he
    ·simp at*
    ·rename_i k a _ k' c _ e1 e2;simp only[List.cons.injEq]at e1 e2;obtain⟨rfl,rfl⟩:=e1;obtain⟨rfl,rfl⟩:=e2;split at he
     case h_2=>simp at he
     rename_i hkk;split at he
     case h_2=>simp at he
     rename_i r hr;simp only[Option.some.injEq]at he;have hkk:=lK hkk;subst hkk;obtain⟨k2,hk⟩:=hk;rw[run_equalIn_int w d _ _ _ _ _ hk];simp only[Result.andThen_ok];by_cases hac:a=c
     ·subst hac;simp at he;subst he;simpa using ih' _ hr
     ·have:(a==c)=false:=by simpa using hac
      simp[this]at he;subst he;simp[this]
    ·simp at he
def Jx{P:Program}{xs ys:Array Value}{e:TypeId}{k:IntKind}(hk:P.underlying e=some (.int k))(hc:P.cellsOf e=1)(d:Nat)(w:World): ∀(m n:Nat) (b:Bool),
  (xs.toList.drop n).length=m->xI (xs.toList.drop n) (ys.toList.drop n)=some b->(Op.eqItems (d+1) e (P.cellsOf e) xs ys (List.range' n m)).run P w= .ok b w:=by
 intro m;rw[hc]
 induction m with
 |zero=>
  intro n b hl he;have h0:xs.toList.drop n=[]:=List.eq_nil_of_length_eq_zero hl;rw[h0]at he;cases hy:ys.toList.drop n with
  |nil=>rw[hy]at he;simp[xI]at he;subst he;simp[Op.eqItems]
  |cons y l=>rw[hy]at he;simp[xI]at he
 |succ m ih=>
  intro n b hl he;cases hx:xs.toList.drop n with
  |nil=>rw[hx]at hl;simp at hl
  |cons x xl=>
   cases hy:ys.toList.drop n with
   |nil=>rw[hx,hy]at he;cases x<;>simp[xI]at he
   |cons y yl=>
    have hxn:xs[n]? =some x:=by have:=congrArg (·[0]?) hx;simpa using this
    have hyn:ys[n]? =some y:=by have:=congrArg (·[0]?) hy;simpa using this
    have hx':xs.toList.drop (n+1)=xl:=by rw[<-List.drop_drop,hx];rfl
    have hy':ys.toList.drop (n+1)=yl:=by rw[<-List.drop_drop,hy];rfl
    rw[hx,hy]at he;have ih':=λb h=>ih (n+1) b (by rw[hx'];rw[hx]at hl;simpa using hl) h;rw[hx',hy']at ih';have hpx:(part e xs (n*1)).run P w= .ok x w:=iw hk rfl _ _ _ (by simpa using hxn) w;have hpy:(part e ys (n*1)).run P w= .ok y w:=iw hk rfl _ _ _ (by simpa using hyn) w;rw[List.range'_succ];simp only[Op.eqItems,Sem.run_bind,hpx,hpy,Result.andThen_ok];unfold xI at he;split at he
    ·simp at*
    ·rename_i k a _ k' c _ e1 e2;simp only[List.cons.injEq]at e1 e2;obtain⟨rfl,rfl⟩:=e1;obtain⟨rfl,rfl⟩:=e2;split at he
     case h_2=>simp at he
     rename_i hkk;split at he
     case h_2=>simp at he
     rename_i r hr;simp only[Option.some.injEq]at he;have hkk:=lK hkk;subst hkk;rw[run_equalIn_int w d _ _ _ _ _ hk];simp only[Result.andThen_ok];by_cases hac:a=c
     ·subst hac;simp at he;subst he;simpa using ih' _ hr
     ·have:(a==c)=false:=by simpa using hac
      simp[this]at he;subst he;simp[this]
    ·simp at he
def uy{P:Program}{t e:TypeId}(h:yw P t e=true):P.eqGuardType P.depth t=false/\(∃k,P.underlying e=some (.int k))/\P.cellsOf e=1/\ ∃i,P.info? e=some i:=by
 simp only[yw,Bool.and_eq_true,Bool.not_eq_true',beq_iff_eq,Option.isSome_iff_exists]at h;refine⟨h.1.1.1,?_,h.1.2,h.2⟩;have h3:=h.1.1.2;split at h3
 ·rename_i k hk;exact⟨k,hk⟩
 ·simp at h3
def xK{P:Program}{t:TypeId}{fs:Array Field}(hu:P.underlying t=some (.struct fs))(h:Br P t=true):
  P.stoodInHeld t=false∧P.eqGuardType P.depth t=false∧ ∀(i:Nat) (f:Field),fs[i]? =some f→f.offset=i∧f.name≠ "_" ∧(∃k,P.underlying f.type=some (.int k)):=by
 simp only[Br,hu,Bool.and_eq_true,Bool.not_eq_true',List.all_eq_true]at h;refine⟨h.1.1.1,h.1.1.2,λi f hf=> ?_⟩
 have:=h.1.2 (f,i) (by rw[List.mem_iff_getElem?];exact⟨i,by simp[List.getElem?_zipIdx,hf]⟩)
 simp only[beq_iff_eq,bne_iff_ne,ne_eq]at this;refine⟨this.1.1,this.1.2,?_⟩;have h3:=this.2;split at h3
 ·rename_i k hk;exact⟨k,hk⟩
 ·simp at h3
def qs{P:Program}{h:aH}{t:TypeId}{x y:Value}{K:Bool->Prop}(H:EX P h t x y K):
  ∃b,K b/\(∀(op:BinOp) (u v:Operand) (w:World),(eqGuard op t u v x y).run P w= .ok () w)/\(∀w:World,w.heap=h->(Op.equal t x y).run P w= .ok b w)/\
   (∀w:World,(binOp .eql t x y).run P w=((Op.equal t x y).run P w).andThen λb w'=> .ok (.bool b) w')/\
   (∀w:World,(binOp .neq t x y).run P w=((Op.equal t x y).run P w).andThen λb w'=> .ok (.bool (!b)) w'):=by
 have m:Op.maxDepth=9999+1:=rfl;unfold EX at H;split at H
 ·rename_i hd;split at H
  case h_2=>exact H.elim
  refine⟨_,H,λop u v w=>by simp[eqGuard_at_bool],λw _=>by unfold Op.equal;rw[m];exact run_equalIn_bool' w _ _ _ _ hd,λw=> ?_,λw=> ?_⟩<;>simp[binOp]
 ·rename_i e hd
  have key: ∀(p q:Option Addr),(p=none\/q=none)-> ∀w:World,(Op.equal t (.pointer p) (.pointer q)).run P w= .ok (p.isNone&&q.isNone) w:=by intro p q hpq w;unfold Op.equal;rw[m];unfold Op.equalIn;cases p<;>cases q<;>simp[bq hd]at hpq ⊢
  split at H
  case h_4=>exact H.elim
  ·rename_i p;refine⟨_,H,λop u v w=>by simp[eqGuard_at_pointer],λw _=>by rw[key _ _ (.inr rfl)];simp,λw=> ?_,λw=> ?_⟩<;>cases p<;>simp[binOp]
  ·rename_i p _;refine⟨_,H,λop u v w=>by simp[eqGuard_at_pointer],λw _=>by rw[key _ _ (.inl rfl)];simp,λw=> ?_,λw=> ?_⟩<;>cases p<;>simp[binOp]
  ·rename_i a b;split at H
   case h_2=>exact H.elim
   rename_i j hj;split at H
   case h_2=>exact H.elim
   rename_i hz;have hz:j.size≠0:=λe=>by rw[e]at hz;cases hz
   by_cases hab:a=b
   ·subst hab;refine⟨true,H.1 rfl,λop u v w=>by simp[eqGuard_at_pointer],λw _=> ?_,λw=> ?_,λw=> ?_⟩
    ·unfold Op.equal;rw[m];unfold Op.equalIn;simp[bq hd,sizeOf,typeInfo,hj,run_sameAddr_same]
    ·simp[binOp]
    ·simp[binOp]
   ·obtain⟨⟨ca,ua,ha⟩,⟨cb,ub,hb⟩,hk⟩:=H.2 hab;refine⟨false,hk,λop u v w=>by simp[eqGuard_at_pointer],λw hw=> ?_,λw=> ?_,λw=> ?_⟩
    ·unfold Op.equal;rw[m];unfold Op.equalIn;subst hw;simp[bq hd,sizeOf,typeInfo,hj,hz,run_sameAddr_other w hab ha hb]
    ·simp[binOp]
    ·simp[binOp]
 ·rename_i fs hd;split at H
  case h_2=>exact H.elim
  rename_i xs ys hfl;split at H
  case h_2=>exact H.elim
  rename_i hsz;have hsz:=Nat.eq_of_beq_eq_true hsz;obtain⟨b,hb,H⟩:=aZ H;obtain⟨hp,hg,hf⟩:=xK hd hfl;have hfo:P.fieldsOf t=fs:=by simp[Program.fieldsOf,hd]
  refine⟨b,H,λop u v w=>run_eqGuard_agg w op t u v xs ys hg,λw _=> ?_,λw=> ?_,λw=> ?_⟩
  ·unfold Op.equal;rw[m,run_equalIn_struct w _ t xs ys (by rw[hfo];exact hd) hp,hfo];exact Jv 9998 w fs.toList 0 b (λi f hf'=>by have:=hf i f (by simpa using hf');rw[this.1];exact⟨ah,this.2⟩) (by simpa using hsz) (by simpa using hb)
  ·rw[run_eql_struct];rfl
  ·rw[run_neq_struct];rfl
 ·rename_i n e hd;split at H
  case h_2=>exact H.elim
  rename_i xs ys hfl;split at H
  case h_2=>exact H.elim
  rename_i hsz;have hsz:=Nat.eq_of_beq_eq_true hsz;obtain⟨b,hb,H⟩:=aZ H;obtain⟨hg,⟨k,hk⟩,hc,i,hi⟩:=uy hfl;refine⟨b,H,λop u v w=>run_eqGuard_agg w op t u v xs ys hg,λw _=> ?_,λw=> ?_,λw=> ?_⟩
  ·unfold Op.equal;rw[m,run_equalIn_array w _ xs ys hd hi,List.range_eq_range'];exact Jx hk hc 9998 w n 0 b (by simpa using hsz) (by simpa using hb)
  ·rw[run_eql_struct];rfl
  ·rw[run_neq_struct];rfl
 ·rename_i e hd;split at H
  case h_2=>exact H.elim
  rename_i p _ _ _ _;refine⟨_,H,λop u v w=>by simp[eqGuard_at_slice],λw _=> ?_,λw=> ?_,λw=> ?_⟩
  ·unfold Op.equal;rw[m];unfold Op.equalIn;cases p<;>simp[bq hd]
  ·cases p<;>simp[binOp]
  ·cases p<;>simp[binOp]
 ·exact H.elim
def uS{P:Program}{h:aH}{op:BinOp}{t:TypeId}{x y:Value}{K:Value->Prop}(H:FO P h op t x y K):
  ∃v,K v/\(∀(u v:Operand) (w:World),(eqGuard op t u v x y).run P w= .ok () w)/\ ∀w:World,w.heap=h->(binOp op t x y).run P w= .ok v w:=by
 unfold FO at H;split at H
 ·rename_i k a k' b;split at H
  ·rename_i hs;obtain⟨v,hv,hr⟩:=xH (P:=P) (t:=t) (k':=k') H;exact⟨v,hv,λu v w=>by simp[eqGuard_at_int],λw _=>hr w⟩
  ·rename_i hs;split at H
   case h_2=>exact H.elim
   rename_i hk;have:=lK hk;subst this;obtain⟨v,hv,hr⟩:=vD (P:=P) (t:=t) hs H;exact⟨v,hv,λu v w=>by simp[eqGuard_at_int],λw _=>hr w⟩
 ·split at H
  case h_3=>exact H.elim
  ·obtain⟨b,hb,hg,he,h1,h2⟩:=qs H;exact⟨_,hb,hg _,λw hw=>by rw[h1,he w hw];rfl⟩
  ·obtain⟨b,hb,hg,he,h1,h2⟩:=qs H;exact⟨_,hb,hg _,λw hw=>by rw[h2,he w hw];rfl⟩
end
section
def mH{ρ:Fr}: ∀{xs:List Operand} {vs:List Value},yc ρ xs=some vs->vs.length=xs.length/\ ∀σ:Operand->Value,(∀x∈xs,∀v,ev ρ x=some v->σ x=v)->xs.map σ=vs:=by
 intro xs
 induction xs with
 |nil=>intro vs h;simp[yc]at h;subst h;simp
 |cons x xs ih=>
  intro vs h;simp only[yc]at h;split at h
  case h_2=>simp at h
  rename_i v hv;split at h
  case h_2=>simp at h
  rename_i us hus;simp at h;subst h;obtain⟨hl,hm⟩:=ih hus;refine⟨by simp[hl],λσ hσ=> ?_⟩;simp only[List.map_cons];rw[hσ x ak v hv,hm σ λy hy=>hσ y (by simp[hy])]
def sy{P:Program}{s d:TypeId}{x:Value}{K:Value->Prop}(H:Bo P s d x K):
  ∃v,K v/\ ∀w:World,(convert s d x).run P w= .ok v w:=by
 unfold Bo at H;split at H
 case h_2=>exact H.elim
 rename_i a k k' n hs hd;exact⟨_,H,λw=>by simp[convert,bq hs,bq hd,Conv.intToInt]⟩
def w5{P:Program}{op:UnOp}{x:Value}{K:Value->Prop}(H:IC op x K):
  ∃v,K v/\ ∀w:World,(Op.unary op x).run P w= .ok v w:=by
 unfold IC at H;split at H
 ·exact⟨_,H,λw=>by simp[Op.unary]⟩
 ·exact⟨_,H,λw=>by simp[Op.unary,Op.intArith]⟩
 ·exact⟨_,H,λw=>rfl⟩
 ·exact H.elim
def mO{P:Program}{s:TypeId}{x:Value}{i:Nat}{K:Value->Prop}(H:kh P s x i K):
  ∃v,K v/\ ∀w:World,(Instr.fieldAt s x i).run P w= .ok v w:=by
 unfold kh at H;split at H
 case h_2=>exact H.elim
 rename_i fs p hs;split at H
 case h_2=>exact H.elim
 rename_i f hf;split at H
 case h_2=>exact H.elim
 rename_i ti hti;split at H
 case h_2=>exact H.elim
 rename_i hz;obtain⟨a,rfl,H⟩:=ct H;have hz': ¬ti.size=0:=λe=>by rw[e]at hz;simp at hz
 exact⟨_,H,λw=>by simp[Instr.fieldAt,bq hs,hf,Instr.sureAddr,fieldPlace,cJ hti,hz']⟩
def tI{P:Program}{t:TypeId}{cs:Array Value}{off:Nat}{K:Value->Prop}(H:AD P t cs.toList off K):
  ∃v,K v/\ ∀w:World,(part t cs off).run P w= .ok v w:=by
 unfold AD at H;split at H
 case h_2=>exact H.elim
 rename_i d ti hd hti;split at H
 ·rename_i ha;exact⟨_,H,λw=>by simp[part,lH hd,ha,cJ hti]⟩
 ·rename_i ha;obtain⟨v,hv,H⟩:=aZ H;exact⟨v,H,λw=>iw hd ha cs off v (by simpa using hv) w⟩
def rO{P:Program}{s:TypeId}{x:Value}{i:Nat}{K:Value->Prop}(H:u6 P s x i K):
  ∃v,K v/\ ∀w:World,(Instr.field s x i).run P w= .ok v w:=by
 unfold u6 at H;split at H
 case h_2=>exact H.elim
 rename_i fs cs hs;split at H
 case h_2=>exact H.elim
 rename_i f hf;obtain⟨v,hv,hr⟩:=tI H;exact⟨v,hv,λw=>by simp[Instr.field,bq hs,hf,asAgg,hr]⟩
def lS{P:Program}{t:TypeId}{x i:Value}{K:Value->Prop}(H:jY P t x i K):
  ∃v,K v/\ ∀w:World,(Instr.indexAt t x i).run P w= .ok v w:=by
 unfold jY at H;split at H
 ·rename_i n e p k j ht;split at H
  case h_2=>exact H.elim
  rename_i ti hti;obtain⟨a,rfl,h0,h1,H⟩:=ct H;exact⟨_,H,λw=>by simp[Instr.indexAt,asIntOf,bq ht,Instr.sureAddr,h0,h1,cJ hti]⟩
 ·rename_i e p l c k j ht;split at H
  case h_2=>exact H.elim
  rename_i ti hti;obtain⟨a,rfl,h0,h1,H⟩:=ct H;exact⟨_,H,λw=>by simp[Instr.indexAt,asIntOf,bq ht,h0,h1,cJ hti]⟩
 ·exact H.elim
def sn{P:Program}{t:TypeId}{x i:Value}{K:Value->Prop}(H:vb P t x i K):
  ∃v,K v/\ ∀w:World,(Instr.index t x i).run P w= .ok v w:=by
 unfold vb at H;split at H
 case h_3=>exact H.elim
 case h_2=>
  rename_i s k j ht;obtain⟨h0,b,hb,H⟩:=H
  exact⟨_,H,λw=>by simp only[Instr.index,asIntOf,Sem.run_bind,Sem.run_pure,Result.andThen_ok,bq ht];simp[h0,hb]⟩
 rename_i n e cs k j ht;split at H
 case h_2=>exact H.elim
 rename_i d ti hd hti;split at H
 ·rename_i ha;obtain⟨h0,h1,H⟩:=H;split at H
  case h_2=>exact H.elim
  rename_i zs hz;split at H
  case h_2=>exact H.elim
  rename_i hs;have hs:=Nat.eq_of_beq_eq_true hs;have hsz:=gn hti;obtain⟨vs,hl,hr,H⟩:=AJ H
  have hx:cs.extract (j.toNat*ti.size) (j.toNat*ti.size+ti.size)=vs.toArray:=by
   apply Array.toList_inj.1;rw[Array.toList_extract];apply List.ext_getElem?;intro q;simp only[List.extract_eq_take_drop,Nat.add_sub_cancel_left,List.getElem?_take,List.getElem?_drop];have hln:vs.length=ti.size:=by rw[<-hsz,<-hs];simpa using hl
   by_cases hq:q<ti.size
   ·rw[if_pos hq];have hv:q<vs.length:=ah;have:=hr q vs[q] (List.getElem?_eq_getElem hv);rw[hsz,Nat.zero_add]at this;rw[this];simp[hv]
   ·rw[if_neg hq];symm;simp;omega
  exact⟨_,H,λw=>by simp only[Instr.index,asIntOf,Sem.run_bind,Sem.run_pure,Result.andThen_ok,bq ht];simp[h0,h1,cJ hti,part,lH hd,ha,hx]⟩
 rename_i ha;obtain⟨h0,h1,H⟩:=H;split at H
 case h_2=>exact H.elim
 rename_i hc;obtain⟨z,-,H⟩:=aZ H;obtain⟨v,hv,H⟩:=dG H;have hs:ti.size=1:=by rw[<-gn hti];exact hc
 exact⟨v,H,λw=>by simp only[Instr.index,asIntOf,Sem.run_bind,Sem.run_pure,Result.andThen_ok,bq ht];simp[h0,h1,cJ hti,hs,iw hd ha cs j.toNat v (by simpa using hv) w]⟩
def ii{P:Program}{k:IntKind}{i:Int}{y:Nat}{code:BoundsCode}(h0:0<=i)(h1:i<=y)(w:World):(Instr.sliceBound (.int k i) y code).run P w= .ok i.toNat w:=by simp[Instr.sliceBound,asIntOf,h0,h1]
def qY{P:Program}{t:TypeId}{x:Value}{lo hi:Option Value}{K:Value->Prop}(H:uP P t x lo hi K):
  ∃v,K v/\ ∀w:World,(Instr.sliceAt t x lo hi none).run P w= .ok v w:=by
 unfold uP at H;split at H
 ·rename_i e p l c ht;split at H
  case h_2=>exact H.elim
  rename_i ti hti
  have hopen: ∀w,(Instr.sliceAt t (.slice p l c) lo hi none).run P w=((Instr.sliceBounds true l c lo hi none).run P w).andThen λr w'=>((sizeOf e).run P w').andThen λs w''=> .ok (.slice (if r.2.2=r.1 then p else p.map (·.add (r.1*s))) (r.2.1-r.1) (r.2.2-r.1)) w'':=by intro w;simp[Instr.sliceAt,bq ht,Instr.slice]
  split at H
  ·rename_i k j;obtain⟨h0,h1,H⟩:=H;refine⟨_,H,λw=> ?_⟩;rw[hopen];simp[Instr.sliceBounds,ii h0 h1,cJ hti]
  ·rename_i k i;obtain⟨h0,h1,H⟩:=H;refine⟨_,H,λw=> ?_⟩;rw[hopen];simp[Instr.sliceBounds,ii h0 h1,cJ hti]
  ·rename_i k i k' j;obtain⟨h0,h1,h2,h3,H⟩:=H;refine⟨_,H,λw=> ?_⟩;rw[hopen];have h3':i<=(j.toNat:Int):=ah;simp[Instr.sliceBounds,ii h0 h1,ii h2 h3',cJ hti]
  ·refine⟨_,H,λw=> ?_⟩;rw[hopen];simp[Instr.sliceBounds,cJ hti]
  ·exact H.elim
 ·rename_i n e p ht;split at H
  case h_2=>exact H.elim
  rename_i ti hti
  have hopen: ∀(a:Addr) w,(Instr.sliceAt t (.pointer (some a)) lo hi none).run P w=((Instr.sliceBounds false n n lo hi none).run P w).andThen λr w'=>((sizeOf e).run P w').andThen λs w''=> .ok (.slice (some (if r.2.2=r.1 then a else a.add (r.1*s))) (r.2.1-r.1) (r.2.2-r.1)) w'':=by intro a w;simp[Instr.sliceAt,bq ht,Instr.sureAddr]
  split at H
  ·rename_i k j;obtain⟨a,rfl,h0,h1,H⟩:=ct H;refine⟨_,H,λw=> ?_⟩;rw[hopen];simp[Instr.sliceBounds,ii h0 h1,cJ hti]
  ·obtain⟨a,rfl,H⟩:=ct H;refine⟨_,H,λw=> ?_⟩;rw[hopen];simp[Instr.sliceBounds,cJ hti]
  ·rename_i k i;obtain⟨a,rfl,h0,h1,H⟩:=ct H;refine⟨_,H,λw=> ?_⟩;rw[hopen];simp[Instr.sliceBounds,ii h0 h1,cJ hti]
  ·exact H.elim
 ·exact H.elim
def fM{w:World}{b:Nat}{es:Array MapEntry}{cl:Nat}(h:mp w.heap b=some (es,cl)):w.heap[b]? =some (.map es cl):=by
 unfold mp at h;split at h
 ·rename_i es' cl' hb;simp at h;obtain⟨rfl,rfl⟩:=h;exact hb
 ·simp at h
def cV{P:Program}{w:World}{b:Nat}{es:Array MapEntry}{cl:Nat}(h:w.heap[b]? =some (.map es cl)):(getObj b).run P w= .ok (.map es cl) w:=by simp[getObj,Sem.run,h]
def cP{P:Program}{kt:TypeId}{k k':IntKind}{n:Int}{b:Bool}(h:P.underlying kt=some (.int k))(w:World):(Instr.checkKey b 10000 kt (.int k' n)).run P w= .ok () w:=by have m:(10000:Nat)=9999+1:=rfl;rw[m];unfold Instr.checkKey;simp[bq h]
def dh{P:Program}{kt:TypeId}{k k':IntKind}{n:Int}{es:List MapEntry}{o:Option (Nat×Value)}(h:P.underlying kt=some (.int k))(hf:Instr.findNow (.int k) (.int k' n) es 0=some o)(w:World):
  (Instr.findKey kt (.int k' n) es).run P w= .ok o w:=by
 simp[Instr.findKey,bq h,hf]
def pR{P:Program}{t:TypeId}{h:aH}{x k:Value}{ok:Bool}{K:Value->Prop}(H:qR P t h x k ok K):
  ∃v,K v/\ ∀w:World,w.heap=h->(Instr.lookup t x k ok).run P w= .ok v w:=by
 unfold qR at H;split at H
 case h_2=>exact H.elim
 rename_i kt et r kk kn ht;split at H
 case h_2=>exact H.elim
 rename_i k1 z hk hz;obtain⟨b,rfl,es,cl,hm,o,hf,H⟩:=aZ H
 have hrun: ∀w:World,w.heap=h->(Instr.lookup t (.map (some b)) (.int kk kn) ok).run P w= .ok (if ok then .tuple #[(match o with|some (_,v)=>v|none=>z),.bool o.isSome]else(match o with|some (_,v)=>v|none=>z)) w:=by
  intro w hw;subst hw;have hb:=fM hm;cases o with
  |none=>simp[Instr.lookup,bq ht,cV hb,cP hk,dh hk hf,oW hz]
  |some q=>simp[Instr.lookup,bq ht,cV hb,cP hk,dh hk hf]
 unfold IX at H;cases o with
 |none=>
  cases ok with
  |true=>
   obtain⟨v,hv,H⟩:=dG H;simp only[Option.some.injEq]at hv;subst hv;exact⟨_,H,λw hw=>by rw[hrun w hw];rfl⟩
  |false=>
   obtain⟨v,hv,H⟩:=dG H;simp only[Option.some.injEq]at hv;subst hv;exact⟨_,H,λw hw=>by rw[hrun w hw];rfl⟩
 |some q=>
  cases ok with
  |true=>
   obtain⟨v,hv,H⟩:=dG H;simp only[Option.some.injEq]at hv;subst hv;exact⟨_,H,λw hw=>by rw[hrun w hw];rfl⟩
  |false=>
   obtain⟨v,hv,H⟩:=dG H;simp only[Option.some.injEq]at hv;subst hv;exact⟨_,H,λw hw=>by rw[hrun w hw];rfl⟩
def uV{P:Program}(w:World): ∀(fs:List Field),(∀f∈fs,∃i,P.info? f.type=some i)->
  (fs.mapM (m:=Sem) λf=>do pure (f.offset,<-sizeOf f.type)).run P w= .ok (fs.map λf=>(f.offset,P.cellsOf f.type)) w:=by
 intro fs
 induction fs with
 |nil=>intro _;simp
 |cons f fs ih=>
  intro hf;obtain⟨i,hi⟩:=hf f ak;have:=ih λg hg=>hf g (by simp[hg]);simp only[List.mapM_cons,Sem.run_bind,cJ hi,Result.andThen_ok,Sem.run_pure,List.map_cons,gn hi];rw[this]
  rfl
def rR{P:Program}{t:TypeId}{vs:List Value}{ix:List Nat}{K:Value->Prop}(H:rG P t (some vs) ix K):
  ∃v,K v/\ ∀w:World,(Instr.build t (ix.zip vs).toArray).run P w= .ok v w:=by
 unfold rG at H;split at H
 ·rename_i fs z vs' ht hz hv;simp only[Option.some.injEq]at hv;subst hv;split at H
  case h_2=>exact H.elim
  rename_i hall;obtain⟨cells,hc,H⟩:=aZ H
  have hi: ∀f∈fs.toList,∃i,P.info? f.type=some i:=λf hf=>by have:=List.all_eq_true.1 hall f hf;exact Option.isSome_iff_exists.1 this
  refine⟨_,H,λw=> ?_⟩
  have hm:(fs.mapM (m:=Sem) λf=>do pure (f.offset,<-sizeOf f.type)).run P w= .ok (fs.map λf=>(f.offset,P.cellsOf f.type)) w:=by
   have h1:=uV (P:=P) w fs.toList hi;rw[Array.mapM_eq_mapM_toList];simp only[Sem.run_map];rw[h1];simp only[Result.andThen_ok]
   congr 1
   apply Array.ext';simp
  simp only[Instr.build,Sem.run_bind,oW hz,Result.andThen_ok,bq ht,hm,hc,Sem.run_pure]
 ·rename_i n e z vs' ht hz hv;simp only[Option.some.injEq]at hv;subst hv;split at H
  case h_2=>exact H.elim
  rename_i hall;obtain⟨i,hi⟩:=Option.isSome_iff_exists.1 hall;obtain⟨cells,hc,H⟩:=aZ H;refine⟨_,H,λw=> ?_⟩;rw[gn hi]at hc;simp only[Instr.build,Sem.run_bind,oW hz,Result.andThen_ok,bq ht,cJ hi,hc,Sem.run_pure]
 ·exact H.elim
def rK{P:Program}{t:TypeId}{v:Value}{K:Value->Prop}(H:vI P t v K):
  ∃u,K u/\ ∀w:World,(Instr.makeInterface t v).run P w= .ok u w:=by
 unfold vI at H;split at H
 ·exact H.elim
 ·rename_i d hne hd;refine⟨_,H,λw=> ?_⟩;simp only[Instr.makeInterface,Sem.run_bind,bq hd,Result.andThen_ok];cases d<;>first|(exfalso;exact hne _ hd)|rfl
 ·exact H.elim
def qd{P:Program}{x:Value}{xt t:TypeId}{ok:Bool}{K:Value->Prop}(H:kY P t ok x K):
  ∃u,K u/\ ∀w:World,(Instr.typeAssert x xt t ok).run P w= .ok u w:=by
 unfold kY at H;split at H
 ·exact H.elim
 ·rename_i d _ s v hne hd;split at H
  case h_2=>exact H.elim
  rename_i hst;have hst:=Nat.eq_of_beq_eq_true hst;subst hst;cases ok
  ·refine⟨_,H,λw=> ?_⟩;simp only[Instr.typeAssert,Sem.run_bind,bq hd,Result.andThen_ok];cases d<;>first|(exfalso;exact hne _ _ hd rfl)|simp
  ·refine⟨_,H,λw=> ?_⟩;simp only[Instr.typeAssert,Sem.run_bind,bq hd,Result.andThen_ok];cases d<;>first|(exfalso;exact hne _ _ hd rfl)|simp
 ·exact H.elim
def vB{P:Program}{t ty:TypeId}{h:aH}{x:Value}{K:Value->Prop}(H:EL P t h x K):
  ∃v,K v/\ ∀w:World,w.heap=h->(Builtin.len_ #[t] ty #[x]).run P w= .ok v w:=by
 unfold EL at H;split at H
 ·rename_i ht;exact⟨_,H,λw _=>by simp[Builtin.len_,bq ht,goInt]⟩
 ·rename_i ht;exact⟨_,H,λw _=>by simp[Builtin.len_,bq ht,goInt]⟩
 ·rename_i ht;exact⟨_,H,λw _=>by simp[Builtin.len_,bq ht,goInt]⟩
 ·rename_i ht;obtain⟨b,rfl,es,cl,hm,H⟩:=aZ H;refine⟨_,H,λw hw=> ?_⟩;subst hw;simp[Builtin.len_,bq ht,cV (fM hm),goInt]
 ·exact H.elim
def vn{P:Program}{t ty:TypeId}{x:Value}{K:Value->Prop}(H:EM P t x K):
  ∃v,K v/\ ∀w:World,(Builtin.cap_ #[t] ty #[x]).run P w= .ok v w:=by
 unfold EM at H;split at H
 ·rename_i ht;exact⟨_,H,λw=>by simp[Builtin.cap_,bq ht,goInt]⟩
 ·exact H.elim
def qJ{P:Program}{mx:Bool}{ats:Array TypeId}{ty:TypeId}{x y:Value}{K:Value->Prop}(H:H9 mx x y K):
  ∃v,K v/\ ∀w:World,(match mx with|true=>Builtin.max_ ats ty #[x,y]|false=>Builtin.min_ ats ty #[x,y]).run P w= .ok v w:=by
 unfold H9 at H;split at H
 ·cases mx
  ·exact⟨_,H,λw=>by simp[Builtin.min_,Builtin.min2]⟩
  ·exact⟨_,H,λw=>by simp[Builtin.max_,Builtin.max2]⟩
 ·exact H.elim
def vE{P:Program}{v:Value}{K:Value->Prop}(H:EP v K)(dst:Option Tmp)(x:Operand)(type:TypeId)(pos:String)(after:Array Edge)(guard:Option (Nat×Bool))(σ:Operand->Value)(hσ:σ x=v):
  K v/\ ∀w:World,(execOp σ {dst,op:= .nilCheck x,type,pos,after,guard}).run P w= .ok (.value v) w:=by
 unfold EP at H;split at H
 ·obtain⟨a,rfl,H⟩:=ct H;exact⟨H,λw=>by simp[execOp,hσ]⟩
 ·exact⟨H,λw=>by simp[execOp,hσ]⟩
 ·exact⟨H,λw=>by simp[execOp,hσ]⟩
 ·exact H.elim
def AR{ρ:Fr}{x:Option Operand}{r:Option Value}(h:HG ρ x=some r)(σ:Operand->Value)(hσ: ∀y,x=some y-> ∀v,ev ρ y=some v->σ y=v):x.map σ=r:=by
 cases x with
 |none=>simp[HG]at h;subst h;rfl
 |some y=>
  simp only[HG]at h;split at h
  case h_2=>simp at h
  rename_i v hv;simp at h;subst h;simp[hσ y rfl v hv]
def oO{P:Program}{o:Oper}{ρ:Fr}{h:aH}{K:Value->Prop}(H:vM P o.op ρ h K):
  ∃v,DO P o (ev ρ) h v/\K v:=by
 obtain⟨dst,op,type,pos,after,guard⟩:=o
 have lift: ∀{s:(Operand->Value)->Sem Value} {v:Value},(∀σ,execOp σ ⟨dst,op,type,pos,after,guard⟩=(do pure (.value (<-s σ))))->
   (∀σ,EK (ev ρ) op.operands σ-> ∀w:World,w.heap=h->(s σ).run P w= .ok v w)->DO P ⟨dst,op,type,pos,after,guard⟩ (ev ρ) h v:=by
  intro s v he hs σ hσ w hw;rw[he σ];simp[hs σ hσ w hw]
 unfold vM at H;dsimp only at H;split at H
 ·obtain⟨v,hv,H⟩:=aZ H;exact⟨v,λσ hσ w hw=>by simp[execOp,hσ _ (by simp[Op.operands]) v hv],H⟩
 ·obtain⟨v,hv,H⟩:=aZ H;exact⟨v,λσ hσ w hw=>by simp[execOp,hσ _ (by simp[Op.operands]) v hv],H⟩
 ·rename_i c a b;split at H
  case h_2=>exact H.elim
  rename_i t hc
  have base: ∀v,(t=true->ev ρ a=some v)->(t=false->ev ρ b=some v)->DO P ⟨dst,.pick c a b,type,pos,after,guard⟩ (ev ρ) h v:=by
   intro v h1 h2 σ hσ w hw;have hcc:=hσ c (by simp[Op.operands]) _ hc;cases t
   ·simp[execOp,hcc,asBool,hσ b (by simp[Op.operands]) _ (h2 rfl)]
   ·simp[execOp,hcc,asBool,hσ a (by simp[Op.operands]) _ (h1 rfl)]
  unfold D8 at H;split at H
  ·rename_i x y hx hy;exact⟨_,base _ (λht=>by subst ht;simpa using hx) (λht=>by subst ht;simpa using hy),H⟩
  ·rcases dY H with⟨rfl,H⟩|⟨rfl,H⟩
   ·obtain⟨v,hv,H⟩:=aZ H;exact⟨v,base v (λ_=>hv) (λh=>by simp at h),H⟩
   ·obtain⟨v,hv,H⟩:=aZ H;exact⟨v,base v (λh=>by simp at h) (λ_=>hv),H⟩
 ·rename_i x;obtain⟨v,hv,H⟩:=aZ H;have:=λσ hσ=>vE (P:=P) H dst x type pos after guard σ hσ;exact⟨v,λσ hσ w _=>(this σ (hσ _ (by simp[Op.operands]) v hv)).2 w,(this (λ_=>v) rfl).1⟩
 ·rename_i op t x y yt;obtain⟨a,ha,H⟩:=aZ H;obtain⟨b,hb,H⟩:=aZ H;obtain⟨v,hv,hg,hr⟩:=uS H
  exact⟨v,lift (λσ=>rfl) λσ hσ w hw=>by rw[hσ x (by simp[Op.operands]) a ha,hσ y (by simp[Op.operands]) b hb];simp[hg,hr w hw],hv⟩
 ·rename_i op t x;obtain⟨a,ha,H⟩:=aZ H;obtain⟨v,hv,hr⟩:=w5 (P:=P) H;exact⟨v,lift (λσ=>rfl) λσ hσ w _=>by rw[hσ x (by simp[Op.operands]) a ha];exact hr w,hv⟩
 ·rename_i s d x;obtain⟨a,ha,H⟩:=aZ H;obtain⟨v,hv,hr⟩:=sy H;exact⟨v,lift (λσ=>rfl) λσ hσ w _=>by rw[hσ x (by simp[Op.operands]) a ha];exact hr w,hv⟩
 ·rename_i t x;split at H
  case h_2=>exact H.elim
  rename_i p hp;obtain⟨v,hv,hr⟩:=mV H;exact⟨v,lift (λσ=>rfl) λσ hσ w hw=>by rw[hσ x (by simp[Op.operands]) _ hp];exact hr w hw,hv⟩
 ·rename_i s x i;obtain⟨a,ha,H⟩:=aZ H;obtain⟨v,hv,hr⟩:=mO H;exact⟨v,lift (λσ=>rfl) λσ hσ w _=>by rw[hσ x (by simp[Op.operands]) a ha];exact hr w,hv⟩
 ·rename_i s x i;obtain⟨a,ha,H⟩:=aZ H;obtain⟨v,hv,hr⟩:=rO H;exact⟨v,lift (λσ=>rfl) λσ hσ w _=>by rw[hσ x (by simp[Op.operands]) a ha];exact hr w,hv⟩
 ·rename_i t x i;obtain⟨a,ha,H⟩:=aZ H;obtain⟨b,hb,H⟩:=aZ H;obtain⟨v,hv,hr⟩:=lS H;exact⟨v,lift (λσ=>rfl) λσ hσ w _=>by rw[hσ x (by simp[Op.operands]) a ha,hσ i (by simp[Op.operands]) b hb];exact hr w,hv⟩
 ·rename_i t x i;obtain⟨a,ha,H⟩:=aZ H;obtain⟨b,hb,H⟩:=aZ H;obtain⟨v,hv,hr⟩:=sn H;exact⟨v,lift (λσ=>rfl) λσ hσ w _=>by rw[hσ x (by simp[Op.operands]) a ha,hσ i (by simp[Op.operands]) b hb];exact hr w,hv⟩
 ·rename_i t x lo hi;obtain⟨a,ha,H⟩:=aZ H;obtain⟨l,hl,H⟩:=aZ H;obtain⟨u,hu,H⟩:=aZ H;obtain⟨v,hv,hr⟩:=qY H
  exact⟨v,lift (λσ=>rfl) λσ hσ w _=>by rw[hσ x (by simp[Op.operands]) a ha,AR hl σ (λy hy=>hσ y (by simp[Op.operands,hy])),AR hu σ (λy hy=>hσ y (by simp[Op.operands,hy]))];exact hr w,hv⟩
 ·rename_i x i;obtain⟨a,ha,H⟩:=aZ H;unfold tF at H;split at H
  case h_2=>exact H.elim
  obtain⟨v,hv,H⟩:=aZ H;exact⟨v,lift (λσ=>rfl) λσ hσ w _=>by rw[hσ x (by simp[Op.operands]) _ ha];simp[Instr.extract,hv],H⟩
 ·rename_i t x k ok;obtain⟨a,ha,H⟩:=aZ H;obtain⟨b,hb,H⟩:=aZ H;obtain⟨v,hv,hr⟩:=pR H;exact⟨v,lift (λσ=>rfl) λσ hσ w hw=>by rw[hσ x (by simp[Op.operands]) a ha,hσ k (by simp[Op.operands]) b hb];exact hr w hw,hv⟩
 ·rename_i t ps;cases hvs:yc ρ (ps.toList.map (·.2))with
  |none=>rw[hvs]at H;unfold rG at H;split at H<;>first|exact H.elim|simp at*
  |some vs=>
   rw[hvs]at H;obtain⟨v,hv,hr⟩:=rR H;obtain⟨hl,hm⟩:=mH hvs;refine⟨v,lift (λσ=>rfl) λσ hσ w _=> ?_,hv⟩
   have e:(ps.map λ(i,x)=>(i,σ x))=((ps.toList.map (·.1)).zip vs).toArray:=by rw[<-hm σ λx hx=>hσ x (by simpa[Op.operands]using hx)];apply Array.ext';simp[List.zip_map',List.map_map]
   rw[e];exact hr w
 ·rename_i t x;obtain⟨a,ha,H⟩:=aZ H;obtain⟨v,hv,hr⟩:=rK H;exact⟨v,lift (λσ=>rfl) λσ hσ w _=>by rw[hσ x (by simp[Op.operands]) a ha];exact hr w,hv⟩
 ·rename_i fn first captured
  obtain⟨a,ha,H⟩:=aZ H;obtain⟨b,hb,H⟩:=aZ H;refine⟨_,lift (λσ=>rfl) λσ hσ w _=> ?_,H⟩;have h1:=(mH ha).2 σ λx hx=>hσ x (by simp only[Op.operands,Array.mem_append];exact .inl (by simpa using hx));have h2:=(mH hb).2 σ λx hx=>hσ x (by simp only[Op.operands,Array.mem_append];exact .inr (by simpa using hx));have e1:first.map σ=a.toArray:=by rw[<-h1];apply Array.ext';simp
  have e2:captured.map σ=b.toArray:=by rw[<-h2];apply Array.ext';simp
  rw[e1,e2];rfl
 ·rename_i x xt t ok;obtain⟨a,ha,H⟩:=aZ H;obtain⟨v,hv,hr⟩:=qd (xt:=xt) H;exact⟨v,lift (λσ=>rfl) λσ hσ w _=>by rw[hσ x (by simp[Op.operands]) a ha];exact hr w,hv⟩
 ·rename_i b args ats;obtain⟨args⟩:=args;obtain⟨ats⟩:=ats;split at H
  ·rename_i x t e1 e2;dsimp only at e1 e2;subst e1;subst e2;obtain⟨a,ha,H⟩:=aZ H;obtain⟨v,hv,hr⟩:=vB (ty:=type) H;exact⟨v,lift (s:=λσ=>Builtin.len_ #[t] type #[σ x]) (λσ=>by simp[execOp,resolve,invoke,builtin]) λσ hσ w hw=>by rw[hσ x (by simp[Op.operands,Call.operands]) a ha];exact hr w hw,hv⟩
  ·rename_i x t e1 e2;dsimp only at e1 e2;subst e1;subst e2;obtain⟨a,ha,H⟩:=aZ H;obtain⟨v,hv,hr⟩:=vn (ty:=type) H;exact⟨v,lift (s:=λσ=>Builtin.cap_ #[t] type #[σ x]) (λσ=>by simp[execOp,resolve,invoke,builtin]) λσ hσ w hw=>by rw[hσ x (by simp[Op.operands,Call.operands]) a ha];exact hr w,hv⟩
  ·rename_i x y e1;dsimp only at e1;subst e1;obtain⟨a,ha,H⟩:=aZ H;obtain⟨b,hb,H⟩:=aZ H;obtain⟨v,hv,hr⟩:=qJ (P:=P) (ats:=ats.toArray) (ty:=type) H;exact⟨v,lift (s:=λσ=>Builtin.max_ ats.toArray type #[σ x,σ y]) (λσ=>by simp[execOp,resolve,invoke,builtin]) λσ hσ w hw=>by rw[hσ x (by simp[Op.operands,Call.operands]) a ha,hσ y (by simp[Op.operands,Call.operands]) b hb];exact hr w,hv⟩
  ·rename_i x y e1;dsimp only at e1;subst e1;obtain⟨a,ha,H⟩:=aZ H;obtain⟨b,hb,H⟩:=aZ H;obtain⟨v,hv,hr⟩:=qJ (P:=P) (ats:=ats.toArray) (ty:=type) H;exact⟨v,lift (s:=λσ=>Builtin.min_ ats.toArray type #[σ x,σ y]) (λσ=>by simp[execOp,resolve,invoke,builtin]) λσ hσ w hw=>by rw[hσ x (by simp[Op.operands,Call.operands]) a ha,hσ y (by simp[Op.operands,Call.operands]) b hb];exact hr w,hv⟩
  ·exact H.elim
 ·exact H.elim
end
section
def bT.refl(w:World):bT w w:=⟨rfl,rfl,rfl⟩
def bT.trans{a b c:World}(h:bT a b)(k:bT b c):bT a c:=⟨k.1.trans h.1,k.2.1.trans h.2.1,k.2.2.trans h.2.2⟩
def nv(P:Program)(K:Value->aH->Prop)(w:World):Result Next->Prop
 | .ok (.value v) w'=>bT w w'/\K v w'.heap
 | .ok .skip w'=>bT w w'/\K undef w'.heap
 | .ok (.enter f args) w'=>bT w w'/\Calls P f args w' λe w''=> ∃v,e= .returned v/\bT w' w''/\K v w''.heap
 |_=>False
def CJ(P:Program)(o:Oper)(f:Operand->Option Value)(h:aH)(K:Value->aH->Prop):Prop:=
 ∀σ,EK f o.op.operands σ-> ∀w:World,w.heap=h->nv P K w ((execOp σ o).run P w)
def nv.mono{P:Program}{K K':Value->aH->Prop}{w:World}{r:Result Next}(h:nv P K w r)(hk: ∀v h,K v h->K' v h):nv P K' w r:=by
 unfold nv at*
 split at h
 ·exact⟨h.1,hk _ _ h.2⟩
 ·exact⟨h.1,hk _ _ h.2⟩
 ·exact⟨h.1,h.2.mono λe w'' ⟨v,he,hs,hK⟩=>⟨v,he,hs,hk _ _ hK⟩⟩
 ·exact h.elim
def CJ.mono{P:Program}{o:Oper}{f:Operand->Option Value}{h:aH}{K K':Value->aH->Prop}(H:CJ P o f h K)(hk: ∀v h,K v h->K' v h):CJ P o f h K':=
 λσ hσ w hw=>(H σ hσ w hw).mono hk
def kW(P:Program)(f:FuncId):cY->Prop
 | .go=> ∃fn,P.funcs[f]? =some fn∧(fn.name== "runtime.NumGoroutine")=false∧fn.body.isNone=false
 | .load k=> ∃fn,P.funcs[f]? =some fn∧(fn.name== "runtime.NumGoroutine")=false∧fn.body.isNone=true∧Extern.findNext fn=none∧Extern.find fn=some (Extern.Atomic.loadT (.int k))
 | .store=> ∃fn,P.funcs[f]? =some fn∧(fn.name== "runtime.NumGoroutine")=false∧fn.body.isNone=true∧Extern.findNext fn=none∧Extern.find fn=some Extern.Atomic.storeT
 | .cas k=> ∃fn,P.funcs[f]? =some fn∧(fn.name== "runtime.NumGoroutine")=false∧fn.body.isNone=true∧Extern.findNext fn=none∧Extern.find fn=some (Extern.Atomic.casT (.int k))
 | .add k=> ∃fn,P.funcs[f]? =some fn∧(fn.name== "runtime.NumGoroutine")=false∧fn.body.isNone=true∧Extern.findNext fn=none∧Extern.find fn=some (Extern.Atomic.update (Op.intArith .add) k true)
 | .ent _ _=>True
def ug(P:Program)(X:List (Nat×cY)):Prop:= ∀f e,bZ X f=some e->kW P f e
def ug.ent{P:Program}{X:List (Nat×cY)}{n k v:Nat}(H:ug P X):ug P ((n,.ent k v)::X):=by
 intro f e h;simp only[bZ]at h;split at h
 ·injection h with h;subst h
  trivial
 ·exact H f e h
def Aa(P:Program)(X:List (Nat×cY)):Prop:= ∀p∈X,kW P p.1 p.2
def Dt{P:Program}:Aa P []:=by intro p hp;simp at hp
def jf{P:Program}{f:Nat}{e:cY}{X:List (Nat×cY)}(h:kW P f e)(hX:Aa P X):Aa P ((f,e)::X):=by
 intro p hp;rcases List.mem_cons.1 hp with rfl|hp
 ·exact h
 ·exact hX p hp
def yU{f:Nat}{e:cY}: ∀{X:List (Nat×cY)},bZ X f=some e->(f,e)∈X:=by
 intro X
 induction X with
 |nil=>intro h;simp[bZ]at h
 |cons p X ih=>
  intro h;obtain⟨k,u⟩:=p;simp only[bZ]at h;split at h
  ·rename_i hb;have:=Nat.eq_of_beq_eq_true hb;subst this;simp at h;subst h;simp
  ·exact List.mem_cons_of_mem _ (ih h)
def vh{P:Program}{X:List (Nat×cY)}(h:Aa P X):ug P X:=λf e hx=>h (f,e) (yU hx)
def xP{P:Program}{f:FuncId}(h:kW P f .go)(args:Array Value)(w:World):(callFunc f args).run P w= .ok (.enter f args) w:=by obtain⟨fn,hf,hn,hb⟩:=h;simp only[callFunc,Sem.run_bind,run_program,Result.andThen_ok,hf,hn,hb,Bool.false_eq_true,if_false,Sem.run_pure]
def xO{P:Program}{ty:TypeId}{v:Value}{K:Value->Prop}(H:BT P ty v K):K v:=by
 unfold BT at H;split at H
 ·obtain⟨zs,_,H⟩:=aZ H;obtain⟨vs,he,H⟩:=uh H;rw[he];exact H
 ·obtain⟨z,_,H⟩:=aZ H;split at H
  ·obtain⟨vs,he,H⟩:=tA H;rw[he];exact H
  ·obtain⟨u,he,H⟩:=dG H;simp only[Option.some.injEq]at he;rw[he];exact H
 ·exact H.elim
def jm{P:Program}{f:FuncId}{args:List Value}{ty:TypeId}{h:aH}{K:Value->aH->Prop}(hgo:kW P f .go)(H:yC P f args ty h K)(w:World)(hw:w.heap=h):
  nv P K w ((callFunc f args.toArray).run P w):=by
 rw[xP hgo];refine⟨bT.refl w,(H w hw).mono λe w'' ⟨v,he,hs,hK⟩=>⟨v,he,hs,xO hK⟩⟩
def y0{P:Program}{h:aH}{a:Addr}{v:Value}{K:aH->Prop}(H:aW h a v K):
  K (wr h a v)/\ ∀(m:Mode) (w:World),w.heap=h->(store a v m).run P w= .ok () (w.setCell a v):=by
 unfold aW at H;split at H
 case h_2=>exact H.elim
 rename_i ho;obtain⟨hr,hf,H⟩:=H;refine⟨H,λm w hw=> ?_⟩;obtain⟨u,hu⟩:=Option.isSome_iff_exists.1 hr;rw[run_store P w a v m ho];have h1:w.cell? a=some u:=by rw[gO,hw,hu]
 have h2:w.frozen? a=false:=by rw[io,hw,hf]
 simp[h1,h2]
def lC{P:Program}{a:Addr}: ∀{vs:List Value} {i:Nat} {h:aH} {K:aH->Prop},pd a i vs h K->
  ∀w:World,w.heap=h-> ∃w',(storeCells a vs i).run P w= .ok () w'/\bT w w'/\K w'.heap:=by
 intro vs
 induction vs with
 |nil=>intro i h K H w hw;exact⟨w,by simp[storeCells],bT.refl w,by rw[hw];exact H⟩
 |cons v vs ih=>
  intro i h K H w hw;obtain⟨H,hs⟩:=y0 (P:=P) H;obtain⟨w',hr,hsame,hK⟩:=ih H (w.setCell (a.add i) v) (by rw[sh,hw]);refine⟨w',?_,bT.trans ⟨rfl,rfl,rfl⟩ hsame,hK⟩;simp only[storeCells,Sem.run_bind];rw[hs .plain w hw];simp only[Result.andThen_ok,hr]
def xL{P:Program}{X:List (Nat×cY)}(hX:ug P X){f:FuncId}{args:List Value}{ty:TypeId}{h:aH}{K:Value->aH->Prop}(H:Iz P X f args ty h K)(w:World)(hw:w.heap=h):
  nv P K w ((callFunc f args.toArray).run P w):=by
 unfold Iz at H;split at H
 ·rename_i hx;exact jm (hX _ _ hx) H w hw
 ·rename_i e hne hx;have hok:=hX _ _ hx;unfold GG at H;split at H
  ·rename_i k p;obtain⟨a,rfl,n,hr,H⟩:=ct H;obtain⟨fn,hf,hn,hb,hnx,hfd⟩:=hok;have hc:w.cell? a=some (.int k n):=by rw[gO,hw,hr]
   rw[run_call_load hf hn hb hnx k hfd hc];exact⟨bT.refl w,by rw[hw];exact H⟩
  ·rename_i p k y;obtain⟨a,rfl,H⟩:=ct H;obtain⟨fn,hf,hn,hb,hnx,hfd⟩:=hok;unfold aW at H;split at H
   case h_2=>exact H.elim
   obtain⟨hr,hfz,H⟩:=H;obtain⟨u,hu⟩:=Option.isSome_iff_exists.1 hr;have hc:w.cell? a=some u:=by rw[gO,hw,hu]
   have hz:w.frozen? a=false:=by rw[io,hw,hfz]
   rw[run_call_store hf hn hb hnx hfd hc hz];exact⟨⟨rfl,rfl,rfl⟩,by rw[sh,hw];exact H⟩
  ·rename_i k p k1 x k2 y;split at H
   case h_2=>exact H.elim
   rename_i e1 e2;have e1:=lK e1;have e2:=lK e2;subst e1;subst e2;obtain⟨a,rfl,n,hr,H⟩:=ct H;obtain⟨fn,hf,hn,hb,hnx,hfd⟩:=hok;have hc:w.cell? a=some (.int k n):=by rw[gO,hw,hr]
   rcases dY H with⟨he,H2⟩|⟨he,H2⟩
   ·have he:n=x:=by simpa using he
    subst he;obtain⟨_,hfz,H2⟩:=H2;have hz:w.frozen? a=false:=by rw[io,hw,hfz]
    rw[run_call_cas_hit hf hn hb hnx k hfd hc hz];exact⟨⟨rfl,rfl,rfl⟩,by rw[sh,hw];exact H2⟩
   ·have he: ¬n=x:=by simpa using he
    obtain⟨hfz,H2⟩:=H2;have hz:w.frozen? a=false:=by rw[io,hw,hfz]
    rw[run_call_cas_miss hf hn hb hnx k hfd hc hz he];exact⟨bT.refl w,by rw[hw];exact H2⟩
  ·rename_i k p k1 y;split at H
   case h_2=>exact H.elim
   rename_i e1;have e1:=lK e1;subst e1;obtain⟨a,rfl,n,hr,_,hfz,H⟩:=ct H;obtain⟨fn,hf,hn,hb,hnx,hfd⟩:=hok;have hc:w.cell? a=some (.int k n):=by rw[gO,hw,hr]
   have hz:w.frozen? a=false:=by rw[io,hw,hfz]
   rw[run_call_add hf hn hb hnx k hfd hc hz (s:=k.wrap (n+y)) (by simp[Op.intArith])];exact⟨⟨rfl,rfl,rfl⟩,by rw[sh,hw];exact H⟩
  ·exact H.elim
 ·exact H.elim
def vl{P:Program}{X:List (Nat×cY)}(hX:ug P X){f:Value}{args:List Value}{ty:TypeId}{h:aH}{K:Value->aH->Prop}(H:E9 P X f args ty h K)(w:World)(hw:w.heap=h):
  nv P K w ((do let d <-Deferred.ofValue f args.toArray;invoke d.target d.args).run P w):=by
 unfold E9 eV at H;split at H
 case h_2=>exact H.elim
 rename_i g first captured
 split at H
 case h_2=>exact H.elim
 rename_i hx;have:=jm (ty:=ty) (hX _ _ hx) H w hw
 have e:(first.toList++args++captured.toList).toArray=first++args.toArray++captured:=by apply Array.ext';simp
 rw[e]at this;simpa[Deferred.ofValue,invoke]using this
def AT{P:Program}{t:TypeId}{name:String}{f:FuncId}(h:E4 P t name=some f)(n:Nat)(v:Value)(w:World):
  (method (n+1) t v name).run P w= .ok (f,v) w:=by
 unfold E4 at h;split at h
 case h_2=>simp at h
 rename_i i e hi hu;split at h
 case h_2=>simp at h
 rename_i m hm;split at h
 case h_2=>simp at h
 rename_i g hp hf;simp at h;subst h;have hp:m.path.toList=[]:=by simpa[Array.isEmpty_iff]using hp
 unfold method;simp[lX hi,hm,hp,follow,hf,receiverAt,bq hu,Place.get]
def vy{P:Program}{X:List (Nat×cY)}(hX:ug P X){r:Value}{name:String}{args:List Value}{ty:TypeId}{h:aH}{K:Value->aH->Prop}(H:Es P X r name args ty h K)(w:World)(hw:w.heap=h):
  nv P K w ((invoke (.fn (.method name) #[]) (#[r]++args.toArray)).run P w):=by
 unfold Es at H;split at H
 case h_2=>exact H.elim
 rename_i t v;split at H
 case h_2=>exact H.elim
 rename_i f hf;split at H
 case h_2=>exact H.elim
 rename_i hx;have:=jm (hX _ _ hx) H w hw
 have e:(#[Value.iface t v]++args.toArray).extract 1 (1+args.length)=args.toArray:=by apply Array.ext';simp
 have e2:(v::args).toArray= #[v]++args.toArray:=by apply Array.ext';simp
 have hm: ∀w,(method (P.types.size+Made.depth) t v name).run P w= .ok (f,v) w:=λw=>AT hf (P.types.size+99) v w;rw[e2]at this;have g0:(#[Value.iface t v]++args.toArray)[0]? =some (.iface t v):=ak;simp only[invoke,g0];simp only[Array.size_append,List.size_toArray,List.length_cons,List.length_nil,Nat.zero_add,e];simp only[callMethod,Sem.run_bind,run_program,Result.andThen_ok,hm];exact this
def iO{P:Program}{t:TypeId}{sz by_:Nat}{z:Array Value}(h:jU P t=some (sz,by_,z)):
  ∃i v,P.info? t=some i/\i.zero=some v/\i.size=sz/\i.bytes=by_/\v.cells=z:=by
 unfold jU at h;split at h
 case h_2=>simp at h
 rename_i i hi;split at h
 case h_2=>simp at h
 rename_i v hv;simp at h;obtain⟨rfl,rfl,rfl⟩:=h;exact⟨i,v,hi,hv,rfl,rfl,rfl⟩
def oM{P:Program}{h:aH}{a:Addr}{cs:List Value}{n:Nat}(H:pB h a cs)(hn:cs.length=n)(w:World)(hw:w.heap=h):(loadCells a n).run P w= .ok cs.toArray w:=by subst hn;exact run_loadCells_list (P:=P) (w:=w) a cs λj v hj=>by rw[gO,hw];exact H j v hj
def tt{P:Program}{h:aH}{q:Option Addr}{sz n c:Nat}{cs:List Value}(hl:cs.length=n*sz)(H:match q with|some b=>pB h b cs|none=>n=0)(w:World)(hw:w.heap=h):
  (Builtin.firstCells sz n (.slice q n c)).run P w= .ok cs.toArray w:=by
 cases q with
 |none=>simp at H;subst H;simp at hl;subst hl;simp[Builtin.firstCells]
 |some b=>simp only[Builtin.firstCells];exact oM H hl w hw
def pn{P:Program}{t u e ty:TypeId}{sz by_:Nat}{z:Array Value}{p q:Option Addr}{l c n c':Nat}{h:aH}{K:Value->aH->Prop}
  (ht:P.underlying t=some (.slice e)) (hu: ∃e',P.underlying u=some (.slice e')) (hs:jU P e=some (sz,by_,z)) (hby:1<=by_)
  (H:fB h e sz by_ z p l c q n λp' l' c' h'=>K (.slice p' l' c') h') (w:World) (hw:w.heap=h):
  ∃v w',(Builtin.append_ #[t,u] ty #[.slice p l c,.slice q n c']).run P w= .ok v w'/\bT w w'/\K v w'.heap:=by
 obtain⟨i,zv,hi,hz,hsz,hb,hzc⟩:=iO hs;obtain⟨e',hu⟩:=hu;obtain⟨new,hnl,hnew,hroom,hgrow⟩:=H;have hso: ∀w,(sizeOf e).run P w= .ok sz w:=λw=>by rw[cJ hi,hsz]
 have hti: ∀w,(typeInfo e).run P w= .ok i w:=λw=>lX hi w;have hzv: ∀w,(zeroValue e).run P w= .ok zv w:=λw=>by simp[zeroValue,hti,hz]
 have hfirst:=λw hw=>tt (P:=P) (c:=c') hnl hnew w hw;by_cases hle:l+n<=c
 ·have hroom:=hroom hle;cases p with
  |none=>
   obtain⟨hz0,hK⟩:=hroom;have hn0:new=[]:=List.eq_nil_of_length_eq_zero (hnl.trans hz0);refine⟨_,w,?_,bT.refl w,by rw[hw];exact hK⟩;simp[Builtin.append_,bq ht,bq hu,hso,Builtin.lenOf,hle,hfirst w hw]
  |some a=>
   obtain⟨w',hr,hsame,hK⟩:=lC (P:=P) hroom w hw;refine⟨_,w',?_,hsame,hK⟩;simp[Builtin.append_,bq ht,bq hu,hso,Builtin.lenOf,hle,hfirst w hw,hr]
 ·obtain⟨old,hol,hold,hbound,hK⟩:=hgrow ah
  have hb1:Builtin.nextslicecap (l+n) c*i.bytes<=281474976710656:=by rw[hb];exact growslice_fits ah hbound
  have hb2:l+n<=140737488355328:=Nat.le_trans (Nat.le_mul_of_pos_right _ hby) hbound
  have hmax: ¬(((l:Int)+n>IntKind.i64.max)/\i.bytes=0):=by rintro ⟨_,h0⟩;omega
  subst hsz;have hdrew:w.drew.heap=h:=hw;have hold':=tt (P:=P) (c:=c) hol hold w.drew hdrew;have hnew':=hfirst w.drew hdrew;have hK:=hK (Question.cut (.appendCap (l+n) c e) (w.tape w.drawn (.appendCap (l+n) c e))) (by simp[Question.cut]);rw[<-hw,<-hzc]at hK;refine⟨_,w.drew.alloc (.cells (old.toArray++new.toArray++Builtin.zeroCells zv.cells (Question.cut (.appendCap (l+n) c e) (w.tape w.drawn (.appendCap (l+n) c e))-(l+n))) e),?_,⟨rfl,rfl,rfl⟩,hK⟩;have h63': ¬(9223372036854775807<((l:Int)+(n:Int))):=ah;have h48': ¬(281474976710656<Builtin.nextslicecap (l+n) c*i.bytes):=ah;simp[Builtin.append_,bq ht,bq hu,sizeOf,typeInfo,zeroValue,hi,hz,Builtin.lenOf,hle,h63',h48',Question.forced,hold',hnew',newRow]
  congr 2
  apply Array.ext';simp[List.append_assoc]
def tX{P:Program}{t u e ty:TypeId}{ti:TypeInfo}{p q:Option Addr}{l c n c':Nat}{h:aH}{K:Value->aH->Prop}
  (ht:P.underlying t=some (.slice e)) (hti:P.info? e=some ti)
  (H:wP h ti.size p l q n λm h'=>K (.int .i64 m) h') (w:World) (hw:w.heap=h):
  ∃v w',(Builtin.copy_ #[t,u] ty #[.slice p l c,.slice q n c']).run P w= .ok v w'/\bT w w'/\K v w'.heap:=by
 obtain⟨new,hnl,hnew,H⟩:=H
 have hfirst:(Builtin.firstCells ti.size (Nat.min n l) (.slice q n c')).run P w= .ok new.toArray w:=by
  cases q with
  |none=>simp at hnew;subst hnew;simp at hnl;subst hnl;simp[Builtin.firstCells]
  |some b=>simp only[Builtin.firstCells];exact oM hnew hnl w hw
 cases p with
 |none=>
  refine⟨_,w,?_,bT.refl w,by rw[hw];exact H⟩;simp only[Builtin.copy_,List.getElem?_toArray,List.getElem?_cons_zero,List.getElem?_cons_succ,Sem.run_bind,bq ht,Result.andThen_ok,Builtin.lenOf,Sem.run_pure,cJ hti,hfirst];simp[goInt]
 |some a=>
  obtain⟨w',hr,hsame,hK⟩:=lC (P:=P) H w hw;refine⟨_,w',?_,hsame,hK⟩;simp only[Builtin.copy_,List.getElem?_toArray,List.getElem?_cons_zero,List.getElem?_cons_succ,Sem.run_bind,bq ht,Result.andThen_ok,Builtin.lenOf,Sem.run_pure,cJ hti,hfirst];simp[goInt,hr]
def rZ{P:Program}{t:TypeId}{p:Option Addr}{v:Value}{h:aH}{K:aH->Prop}(H:dF P t p v h K)(w:World)(hw:w.heap=h):
  ∃w',(Instr.storeAt t (.pointer p) v).run P w= .ok () w'/\bT w w'/\K w'.heap:=by
 unfold dF at H;split at H
 case h_2=>exact H.elim
 rename_i ti hti;split at H
 case h_2=>exact H.elim
 rename_i hs;have hs:=Nat.eq_of_beq_eq_true hs;obtain⟨a,rfl,H⟩:=ct H;obtain⟨w',hr,hsame,hK⟩:=lC (P:=P) H w hw;refine⟨w',?_,hsame,hK⟩;simp[Instr.storeAt,Instr.sureAddr,storeVar,cJ hti,hs,hr]
def mG{P:Program}{t:TypeId}{a b:Value}{h:aH}{K:Value->aH->Prop}(H:kb P t a b h K)(w:World)(hw:w.heap=h):
  ∃v w',(Instr.makeSlice t a b).run P w= .ok v w'/\bT w w'/\K v w'.heap:=by
 unfold kb at H;split at H
 case h_2=>exact H.elim
 rename_i e k i k' j ht;split at H
 case h_2=>exact H.elim
 rename_i sz by_ z hs;obtain⟨ti,zv,hi,hz,hsz,hb,hzc⟩:=iO hs;obtain⟨h0,h1,h2,h3,H⟩:=H;subst hsz;subst hzc;subst hb;subst hw;exact⟨_,_,run_make w t e ti zv ht hi hz k k' i j h0 h1 h2 h3,⟨rfl,rfl,rfl⟩,H⟩
def kN{P:Program}{t:TypeId}{n:Nat}{vs:List Value}{ix:List Nat}{h:aH}{K:Value->aH->Prop}(H:gQ P t n (some vs) ix h K)(w:World)(hw:w.heap=h):
  ∃v w',(Instr.buildSlice t n (ix.zip vs).toArray).run P w= .ok v w'/\bT w w'/\K v w'.heap:=by
 unfold gQ at H;split at H
 case h_2=>exact H.elim
 rename_i e vs' ht hv;simp only[Option.some.injEq]at hv;subst hv;split at H
 case h_2=>exact H.elim
 rename_i sz by_ z hs;obtain⟨ti,zv,hi,hz,hsz,hb,hzc⟩:=iO hs;split at H
 case h_2=>exact H.elim
 rename_i hble;have hble:=Nat.le_of_ble_eq_true hble;obtain⟨cells,hc,H2⟩:=aZ H;clear H;subst hsz;subst hzc;subst hw;refine⟨_,w.alloc (.cells cells e),?_,⟨rfl,rfl,rfl⟩,H2⟩;have hzv: ∀w,(zeroValue e).run P w= .ok zv w:=λw=>by simp[zeroValue,lX hi,hz]
 have hn: ¬(n*ti.size>2^24):=ah;by_cases h0:n*ti.size=0
 ·have hc':Instr.fill (λi=>some (i*ti.size,ti.size)) ((Array.range (n*ti.size)).map ((#[]:Array Value)[· %(#[]:Array Value).size]!)) (ix.zip vs)=some cells:=by
   rw[<-hc];simp[madeCells,h0,Array.range_zero']
  simp only[Instr.buildSlice,Sem.run_bind,bq ht,Result.andThen_ok,cJ hi,h0,if_true,Sem.run_ite,Sem.run_pure]at hc' ⊢;rw[hc'];simp[newRow]
 ·simp only[Instr.buildSlice,Sem.run_bind,bq ht,Result.andThen_ok,cJ hi,hn,h0,if_false,Sem.run_ite,Sem.run_pure,hzv];unfold madeCells at hc;rw[hc];simp[newRow]
def dW{P:Program}{w:World}{b:Nat}{es:Array MapEntry}{cl:Nat}(h:w.heap[b]? =some (.map es cl))(o:Obj):(setObj b o).run P w= .ok () {w with heap:=w.heap.setIfInBounds b o}:=by simp[setObj,Sem.run,h]
def qi{P:Program}{old new:Value}(h:Instr.sameBits 10000 old new=true)(w:World):(Instr.keyThatStays old new).run P w= .ok new w:=by simp[Instr.keyThatStays,h]
def lU{P:Program}{t:TypeId}{m k v:Value}{h:aH}{K:aH->Prop}(H:kv P t m k v h K)(w:World)(hw:w.heap=h):
  ∃w',(Instr.mapUpdate t m k v).run P w= .ok () w'/\bT w w'/\K w'.heap:=by
 unfold kv at H;split at H
 case h_2=>exact H.elim
 rename_i kt et r kk kn ht;split at H
 case h_2=>exact H.elim
 rename_i k1 hk;obtain⟨b,rfl,es,cl,hm,o,hf,H⟩:=aZ H;subst hw;have hb:=fM hm;cases o with
 |none=>
  refine⟨{w with heap:=w.heap.setIfInBounds b (.map (es.push {key:= .int kk kn,val:=v,born:=cl}) (cl+1))},?_,⟨rfl,rfl,rfl⟩,H⟩;simp[Instr.mapUpdate,bq ht,cV hb,cP hk,dh hk hf,dW hb]
 |some q=>
  obtain⟨i,u⟩:=q;obtain⟨hsame,H⟩:=H;refine⟨{w with heap:=w.heap.setIfInBounds b (.map (es.modify i λe=>{e with key:= .int kk kn,val:=v}) cl)},?_,⟨rfl,rfl,rfl⟩,H⟩;simp only[Instr.mapUpdate,Sem.run_bind,bq ht,Result.andThen_ok,cV hb,cP hk,dh hk hf,qi hsame,dW hb]
def nE{P:Program}{t:TypeId}{m k:Value}{h:aH}{K:Value->aH->Prop}(H:mf P t m k h K)(w:World)(hw:w.heap=h):
  ∃v w',(Instr.mapEntry t m k).run P w= .ok v w'/\bT w w'/\K v w'.heap:=by
 unfold mf at H;split at H
 case h_2=>exact H.elim
 rename_i kt et r kk kn ht;split at H
 case h_2=>exact H.elim
 rename_i k1 z hk hz;obtain⟨b,rfl,es,cl,hm,o,hf,H⟩:=aZ H;subst hw;have hb:=fM hm;cases o with
 |none=>
  obtain⟨u,hu,H⟩:=dG H;simp only[Option.some.injEq]at hu;subst hu;refine⟨_,{w with heap:=w.heap.setIfInBounds b (.map (es.push {key:= .int kk kn,val:=z,born:=cl}) (cl+1))},?_,⟨rfl,rfl,rfl⟩,H⟩;simp[Instr.mapEntry,bq ht,cV hb,cP hk,dh hk hf,dW hb,oW hz,goInt]
 |some q=>
  obtain⟨i,u⟩:=q;obtain⟨hsame,H⟩:=H;obtain⟨u',hu,H⟩:=dG H;simp only[Option.some.injEq]at hu;subst hu;refine⟨_,{w with heap:=w.heap.setIfInBounds b (.map (es.modify i λe=>{e with key:= .int kk kn}) cl)},?_,⟨rfl,rfl,rfl⟩,H⟩;simp only[Instr.mapEntry,Sem.run_bind,bq ht,Result.andThen_ok,cV hb,cP hk,dh hk hf,qi hsame,dW hb,goInt,Sem.run_pure]
def kR{P:Program}{t:TypeId}{m s v:Value}{h:aH}{K:aH->Prop}(H:jg m s v h K)(w:World)(hw:w.heap=h):
  ∃w',(Instr.entryStore t m s v).run P w= .ok () w'/\bT w w'/\K w'.heap:=by
 unfold jg at H;split at H
 case h_2=>exact H.elim
 rename_i r k st;obtain⟨b,rfl,es,cl,hm,i,hi,H⟩:=aZ H;subst hw;have hb:=fM hm;refine⟨{w with heap:=w.heap.setIfInBounds b (.map (es.modify i λe=>{e with val:=v}) cl)},?_,⟨rfl,rfl,rfl⟩,H⟩;simp[Instr.entryStore,cV hb,asInt,asIntOf,hi,dW hb]
def sj{P:Program}{t ty:TypeId}{x:Value}{h:aH}{K:aH->Prop}(H:vd P t x h K)(w:World)(hw:w.heap=h):
  ∃w',(Builtin.clear_ #[t] ty #[x]).run P w= .ok (.tuple #[]) w'/\bT w w'/\K w'.heap:=by
 unfold vd at H;split at H
 case h_2=>exact H.elim
 rename_i e p n c ht;split at H
 case h_2=>exact H.elim
 rename_i sz by_ z hs;obtain⟨i,zv,hi,hz,hsz,hb,hzc⟩:=iO hs;have hzv: ∀w,(zeroValue e).run P w= .ok zv w:=λw=>by simp[zeroValue,lX hi,hz]
 unfold uW at H;cases p with
 |none=>exact⟨w,by simp[Builtin.clear_,bq ht],bT.refl w,by rw[hw];exact H⟩
 |some a=>
  cases n with
  |zero=>
   refine⟨w,by simp[Builtin.clear_,bq ht],bT.refl w,?_⟩;rw[hw];simpa[Builtin.zeroCells,pd]using H
  |succ n=>
   obtain⟨w',hr,hsame,hK⟩:=lC (P:=P) H w hw;refine⟨w',?_,hsame,hK⟩;subst hzc;simp[Builtin.clear_,bq ht,hzv,hr]
def qe{P:Program}{t u ty:TypeId}{m k:Value}{h:aH}{K:aH->Prop}(H:rq P t m k h K)(w:World)(hw:w.heap=h):
  ∃w',(Builtin.delete_ #[t,u] ty #[m,k]).run P w= .ok (.tuple #[]) w'/\bT w w'/\K w'.heap:=by
 unfold rq at H;split at H
 case h_2=>exact H.elim
 rename_i kt et r kk kn ht;split at H
 case h_2=>exact H.elim
 rename_i k1 hk;obtain⟨b,rfl,es,cl,hm,o,hf,H⟩:=aZ H;subst hw;have hb:=fM hm;cases o with
 |none=>
  refine⟨{w with heap:=w.heap.setIfInBounds b (.map es cl)},?_,⟨rfl,rfl,rfl⟩,H⟩;simp[Builtin.delete_,bq ht,cV hb,cP hk,dh hk hf,dW hb]
 |some q=>
  obtain⟨i,u⟩:=q;refine⟨{w with heap:=w.heap.setIfInBounds b (.map (es.eraseIdxIfInBounds i) cl)},?_,⟨rfl,rfl,rfl⟩,H⟩;simp[Builtin.delete_,bq ht,cV hb,cP hk,dh hk hf,dW hb]
def rz{P:Program}{t:TypeId}{x:Value}{h:aH}{K:Value->aH->Prop}(H:vp P t x h K): ∀w:World,w.heap=h-> ∃v w',(Instr.range t x).run P w= .ok v w'/\bT w w'/\K v w'.heap:=by
 intro w hw;subst hw;unfold vp at H;split at H
 case h_2=>exact H.elim
 rename_i k e r ht;unfold BV at H;split at H
 ·exact⟨_,_,run_range_nilMap w t k e ht,⟨rfl,rfl,rfl⟩,H⟩
 ·rename_i m;obtain⟨es,cl,hm,H⟩:=H;exact⟨_,_,run_range_map w t k e m es cl ht (fM hm),⟨rfl,rfl,rfl⟩,H⟩
def tu{P:Program}{ty:TypeId}{x:Value}{h:aH}{K:Value->aH->Prop}(H:zF x h K): ∀w:World,w.heap=h-> ∃v w',(Instr.next x false ty).run P w= .ok v w'/\bT w w'/\K v w'.heap:=by
 intro w hw;subst hw;unfold zF at H;split at H
 case h_2=>exact H.elim
 rename_i p;obtain⟨a,rfl,H⟩:=ct H;obtain⟨ho,m,since,seen,last,hr,G⟩:=H;obtain⟨ab,ao,asp⟩:=a;dsimp only at ho hr G;subst ho;clear H;cases m with
 |none=>
  refine⟨_,w,?_,⟨rfl,rfl,rfl⟩,G⟩;simp only[Instr.next,getObj,Sem.run_bind,Sem.run,hr,Result.andThen]
  rfl
 |some m=>
  obtain⟨es,cl,hm,hold,hsc,H0,H1⟩:=G;have hs: ∀s,(Instr.next (.pointer (some ⟨ab,0,s⟩)) false ty)=(Instr.next (.pointer (some ⟨ab,0,none⟩)) false ty):=λs=>rfl;rw[hs asp];rcases run_next_at w ty ab m since last seen es cl hr (fM hm) hold hsc with⟨h0,hrun⟩|⟨e,he,w1,hal,hrun⟩
  ·exact⟨_,w,hrun,⟨rfl,rfl,rfl⟩,H0 h0⟩
  ·refine⟨_,_,hrun,?_,?_⟩
   ·rcases hal with rfl|rfl<;>exact⟨rfl,rfl,rfl⟩
   ·have:=H1 e he;rcases hal with rfl|rfl<;>exact this
def rQ{P:Program}{kt vt:TypeId}{x:Value}{h:aH}{K:Value->aH->Prop}(H:vN P kt vt x h K): ∀w:World,w.heap=h-> ∃v w',(Instr.entry x).run P w= .ok v w'/\bT w w'/\K v w'.heap:=by
 intro w hw;subst hw;unfold vN at H;split at H
 case h_2=>exact H.elim
 rename_i p;obtain⟨a,rfl,H⟩:=ct H;obtain⟨ho,m,since,seen,cl,es,stamp,e,hr,hb,hm,hf,G⟩:=H;obtain⟨ab,ao,asp⟩:=a;dsimp only at ho hr;subst ho;obtain⟨zs,-,G⟩:=aZ G;obtain⟨vs,e1,G⟩:=uh G;refine⟨_,w,?_,⟨rfl,rfl,rfl⟩,G⟩;rw[<-e1];simp only[Instr.entry,getObj,Sem.run_bind,Sem.run,hr,fM hm,hb,Result.andThen,bne_self_eq_false,Bool.false_eq_true,if_false,hf]
 rfl
def uH{P:Program}{X:List (Nat×cY)}(hX:ug P X){o:Oper}{ρ:Fr}{h:aH}{K:Value->aH->Prop}(H:Fz P X o.op o.type ρ h K):CJ P o (ev ρ) h K:=by
 obtain⟨dst,op,type,pos,after,guard⟩:=o;intro σ hσ w hw;dsimp only at H hσ
 have liftv: ∀{s:Sem Value},execOp σ ⟨dst,op,type,pos,after,guard⟩=(do pure (.value (<-s)))->
   (∃v w',s.run P w= .ok v w'/\bT w w'/\K v w'.heap)->nv P K w ((execOp σ ⟨dst,op,type,pos,after,guard⟩).run P w):=by
  rintro s he ⟨v,w',hr,hs,hK⟩;rw[he];simp only[Sem.run_bind,hr,Result.andThen_ok,Sem.run_pure];exact⟨hs,hK⟩
 have liftu: ∀{s:Sem Unit},execOp σ ⟨dst,op,type,pos,after,guard⟩=(do s;pure .skip)->
   (∃w',s.run P w= .ok () w'/\bT w w'/\K undef w'.heap)->nv P K w ((execOp σ ⟨dst,op,type,pos,after,guard⟩).run P w):=by
  rintro s he ⟨w',hr,hs,hK⟩;rw[he];simp only[Sem.run_bind,hr,Result.andThen_ok,Sem.run_pure];exact⟨hs,hK⟩
 unfold Fz at H;split at H
 ·rename_i t;obtain⟨z,hz,H⟩:=aZ H;subst hw;exact liftv (s:=Instr.alloc t true (.tuple #[])) rfl ⟨_,w.alloc (.cells z.cells t),by simp[Instr.alloc,oW hz,newVar,newRow],⟨rfl,rfl,rfl⟩,H⟩
 ·rename_i t x;obtain⟨v,hv,H⟩:=aZ H;subst hw;exact liftv (s:=Instr.box t (σ x)) rfl ⟨_,w.alloc (.cells v.cells t),by rw[hσ x (by simp[Op.operands]) v hv];simp[Instr.box,newVar,newRow],⟨rfl,rfl,rfl⟩,H⟩
 ·rename_i t a x;split at H
  case h_2=>exact H.elim
  rename_i p hp;obtain⟨v,hv,H⟩:=aZ H;exact liftu (s:=Instr.storeAt t (σ a) (σ x)) rfl (by rw[hσ a (by simp[Op.operands]) _ hp,hσ x (by simp[Op.operands]) v hv];exact rZ H w hw)
 ·rename_i t;subst hw;exact liftv (s:=Instr.makeMap t none) rfl ⟨_,w.alloc (.map #[] 0),by simp[Instr.makeMap],⟨rfl,rfl,rfl⟩,H⟩
 ·rename_i t l c;obtain⟨a,ha,H⟩:=aZ H;obtain⟨b,hb,H⟩:=aZ H;exact liftv (s:=Instr.makeSlice t (σ l) (σ c)) rfl (by rw[hσ l (by simp[Op.operands]) a ha,hσ c (by simp[Op.operands]) b hb];exact mG H w hw)
 ·rename_i t n ps;cases hvs:yc ρ (ps.toList.map (·.2))with
  |none=>rw[hvs]at H;unfold gQ at H;split at H<;>first|exact H.elim|simp at*
  |some vs=>
   rw[hvs]at H;obtain⟨hl,hm⟩:=mH hvs
   have e:(ps.map λ(i,x)=>(i,σ x))=((ps.toList.map (·.1)).zip vs).toArray:=by rw[<-hm σ λx hx=>hσ x (by simpa[Op.operands]using hx)];apply Array.ext';simp[List.zip_map',List.map_map]
   refine liftv rfl ?_;rw[e];exact kN H w hw
 ·rename_i t m k x;obtain⟨a,ha,H⟩:=aZ H;obtain⟨b,hb,H⟩:=aZ H;obtain⟨v,hv,H⟩:=aZ H;exact liftu (s:=Instr.mapUpdate t (σ m) (σ k) (σ x)) rfl (by rw[hσ m (by simp[Op.operands]) a ha,hσ k (by simp[Op.operands]) b hb,hσ x (by simp[Op.operands]) v hv];exact lU H w hw)
 ·rename_i t m k;obtain⟨a,ha,H⟩:=aZ H;obtain⟨b,hb,H⟩:=aZ H;exact liftv (s:=Instr.mapEntry t (σ m) (σ k)) rfl (by rw[hσ m (by simp[Op.operands]) a ha,hσ k (by simp[Op.operands]) b hb];exact nE H w hw)
 ·rename_i t m s x;obtain⟨a,ha,H⟩:=aZ H;obtain⟨b,hb,H⟩:=aZ H;obtain⟨v,hv,H⟩:=aZ H;exact liftu (s:=Instr.entryStore t (σ m) (σ s) (σ x)) rfl (by rw[hσ m (by simp[Op.operands]) a ha,hσ s (by simp[Op.operands]) b hb,hσ x (by simp[Op.operands]) v hv];exact kR H w hw)
 ·rename_i t x;obtain⟨a,ha,H⟩:=aZ H;exact liftv (s:=Instr.range t (σ x)) rfl (by rw[hσ x (by simp[Op.operands]) a ha];exact rz H w hw)
 ·rename_i x str;obtain⟨a,ha,H⟩:=aZ H;split at H
  case h_2=>exact H.elim
  exact liftv (s:=Instr.next (σ x) false type) rfl (by rw[hσ x (by simp[Op.operands]) a ha];exact tu H w hw)
 ·rename_i x;obtain⟨a,ha,H2⟩:=aZ H;clear H;split at H2
  case h_2=>exact H2.elim
  rename_i t;split at H2
  case h_2=>exact H2.elim
  exact liftv (s:=Instr.entry (σ (.tmp t))) rfl (by rw[hσ (.tmp t) (by simp[Op.operands]) a ha];exact rQ H2 w hw)
 ·rename_i f args ats;obtain⟨xs,hxs,H2⟩:=aZ H;clear H
  have hargs:args.map σ=xs.toArray:=by rw[<-(mH hxs).2 σ λx hx=>hσ x (by simp only[Op.operands,Call.operands,Array.mem_append];exact .inr (by simpa using hx))];apply Array.ext';simp
  split at H2
  ·rename_i g;have:=xL hX H2 w hw;have hex:execOp σ ⟨dst,.call {callee:= .value (.func g),args:=args,argTypes:=ats},type,pos,after,guard⟩=(do let d <-Deferred.ofValue (σ (.func g)) (args.map σ);invoke d.target d.args):=rfl;rw[hex,hσ (.func g) (by simp[Op.operands,Call.operands]) _ rfl,hargs];have e2:(do let d <-Deferred.ofValue (.func (.func g) #[] #[]) xs.toArray;invoke d.target d.args)=callFunc g (#[]++xs.toArray++ #[]):=rfl;rw[e2];simpa using this
  ·obtain⟨fv,hfv,H3⟩:=aZ H2;have:=vl hX H3 w hw;have hex:execOp σ ⟨dst,.call {callee:= .value f,args:=args,argTypes:=ats},type,pos,after,guard⟩=(do let d <-Deferred.ofValue (σ f) (args.map σ);invoke d.target d.args):=rfl;rw[hex,hσ f (by simp[Op.operands,Call.operands]) _ hfv,hargs];exact this
 ·rename_i r name args ats;obtain⟨rv,hrv,H⟩:=aZ H;obtain⟨xs,hxs,H⟩:=aZ H
  have hargs:args.map σ=xs.toArray:=by rw[<-(mH hxs).2 σ λx hx=>hσ x (by simp only[Op.operands,Call.operands,Array.mem_append];exact .inr (by simpa using hx))];apply Array.ext';simp
  have:=vy hX H w hw;have hex:execOp σ ⟨dst,.call {callee:= .invoke r name,args:=args,argTypes:=ats},type,pos,after,guard⟩=invoke (.fn (.method name) #[]) (#[σ r]++args.map σ):=rfl;rw[hex,hσ r (by simp[Op.operands,Call.operands]) _ hrv,hargs];exact this
 ·rename_i b args ats;obtain⟨args⟩:=args;obtain⟨ats⟩:=ats;split at H
  ·rename_i x y t u e1 e2;dsimp only at e1 e2;subst e1;subst e2;obtain⟨a,ha,H1⟩:=aZ H;clear H;obtain⟨b,hb,H⟩:=aZ H1;clear H1;refine liftv (s:=Builtin.append_ #[t,u] type #[σ x,σ y]) (by simp[execOp,resolve,invoke,builtin]) ?_;rw[hσ x (by simp[Op.operands,Call.operands]) a ha,hσ y (by simp[Op.operands,Call.operands]) b hb];unfold Gw at H;split at H
   case h_2=>exact H.elim
   rename_i e e' p l c q n c' ht hu;split at H
   case h_2=>exact H.elim
   rename_i sz by_ z hs;split at H
   case h_2=>exact H.elim
   rename_i hby;exact pn ht ⟨_,hu⟩ hs (Nat.le_of_ble_eq_true hby) H w hw
  ·rename_i x y t u e1 e2;dsimp only at e1 e2;subst e1;subst e2;obtain⟨a,ha,H1⟩:=aZ H;clear H;obtain⟨b,hb,H⟩:=aZ H1;clear H1;refine liftv (s:=Builtin.copy_ #[t,u] type #[σ x,σ y]) (by simp[execOp,resolve,invoke,builtin]) ?_;rw[hσ x (by simp[Op.operands,Call.operands]) a ha,hσ y (by simp[Op.operands,Call.operands]) b hb];unfold DY at H;split at H
   case h_2=>exact H.elim
   rename_i e p l _ q n _ ht;split at H
   case h_2=>exact H.elim
   rename_i ti hti;exact tX ht hti H w hw
  ·rename_i x y t u e1 e2;dsimp only at e1 e2;subst e1;subst e2;obtain⟨a,ha,H1⟩:=aZ H;clear H;obtain⟨b,hb,H⟩:=aZ H1;clear H1;refine liftv (s:=Builtin.delete_ #[t,u] type #[σ x,σ y]) (by simp[execOp,resolve,invoke,builtin]) ?_;rw[hσ x (by simp[Op.operands,Call.operands]) a ha,hσ y (by simp[Op.operands,Call.operands]) b hb];obtain⟨w',hr,hs,hK⟩:=qe H w hw;exact⟨_,w',hr,hs,hK⟩
  ·rename_i x t e1 e2;dsimp only at e1 e2;subst e1;subst e2;obtain⟨a,ha,H1⟩:=aZ H;clear H;refine liftv (s:=Builtin.clear_ #[t] type #[σ x]) (by simp[execOp,resolve,invoke,builtin]) ?_;rw[hσ x (by simp[Op.operands,Call.operands]) a ha];obtain⟨w',hr,hs,hK⟩:=sj H1 w hw;exact⟨_,w',hr,hs,hK⟩
  ·exact H.elim
 ·exact H.elim
end
section
abbrev FF:=Nat->Option Value
def vZ(f:FF):Operand->Option Value
 | .tmp t=>f t
 | .const v=>some v
 | .global g=>some (.pointer (some ⟨g,0,none⟩))
 | .func f=>some (.func (.func f) #[] #[])
def dN(f:FF)(d:Option Nat)(v:Value):FF:=match d with|some k=>λt=>if t=k then some v else f t|none=>f
def qT(ρ:Fr):ev ρ=vZ (get ρ):=by funext x;cases x<;>rfl
def nG(ρ:Fr)(d:Option Nat)(v:Value):get (put ρ d v)=dN (get ρ) d v:=by
 cases d with
 |none=>rfl
 |some k=>
  funext t;simp only[put,get,dN];by_cases h:t=k
  ·subst h;simp
  ·have:Nat.beq k t=false:=by
    cases hb:Nat.beq k t with
    |false=>rfl
    |true=>exact absurd (Nat.eq_of_beq_eq_true hb).symm h
   simp[this,h]
def nJ{ρ:Fr}{d:Nat}{v:Value}(h:get ρ d=some v):get ((d,v)::ρ)=get ρ:=by
 have:=nG ρ (some d) v;rw[show put ρ (some d) v=(d,v)::ρ from rfl]at this;rw[this];funext t;simp only[dN];split
 ·rename_i e;rw[e,h]
 ·rfl
def km(ops:Array Oper)(o:Oper)(f:FF):Prop:=
 match o.guard with
 |none=>True
 |some (j,want)=> ∃d,(ops[j]?).bind (·.dst)=some d/\f d=some (.bool want)
def vv(ops:Array Oper)(o:Oper)(f:FF):Prop:=
 match o.guard with
 |none=>False
 |some (j,want)=> ∃d v,(ops[j]?).bind (·.dst)=some d/\f d=some v/\v≠ .bool want
def jk(P:Program)(ops:Array Oper)(o:Oper)(f:FF)(h:aH)(v:Value):Prop:=
 (km ops o f/\DO P o (vZ f) h v)\/(vv ops o f/\v=undef)
def eX(P:Program)(ops:Array Oper)(i:Nat)(κ:FF->aH->Prop)(f:FF)(h:aH):Prop:=
 ∃o,ops[i]? =some o/\
  ((∃v,jk P ops o f h v/\(pF o.op=true->vv ops o f)/\κ (dN f o.dst v) h)\/
   (pF o.op=true/\km ops o f/\CJ P o (vZ f) h λv h'=>κ (dN f o.dst v) h'))
def fg(P:Program)(ops:Array Oper)(f:FF)(h:aH)(j:Nat):Prop:=
 ∃o d v,ops[j]? =some o/\o.dst=some d/\f d=some v/\jk P ops o f h v
def SA(P:Program)(ops:Array Oper)(K:FF->aH->Prop):List (Nat×List Nat)->FF->aH->Prop
 | [],f,h=>K f h
 |(i,js)::r,f,h=>eX P ops i (λf' h'=>(∀j∈js,fg P ops f' h' j)/\SA P ops K r f' h') f h
def eX.mono{P:Program}{ops:Array Oper}{i:Nat}{κ κ':FF->aH->Prop}{f:FF}{h:aH}(H:eX P ops i κ f h)(hk: ∀f h,κ f h->κ' f h):eX P ops i κ' f h:=by obtain⟨o,ho,H⟩:=H;refine⟨o,ho,H.imp (λ⟨v,h1,h2,h3⟩=>⟨v,h1,h2,hk _ _ h3⟩) (λ⟨h1,h2,h3⟩=>⟨h1,h2,h3.mono λv h'=>hk _ _⟩)⟩
def jM(ops:Array Oper)(d:Option Nat)(o:Oper):Bool:=match d with|some k=> !(o.looksAt ops).contains k|none=>true
def rH{ops:Array Oper}{o:Oper}{f:FF}{d:Option Nat}{v:Value}(h:jM ops d o=true): ∀x∈o.op.operands,vZ (dN f d v) x=vZ f x:=by
 intro x hx;cases d with
 |none=>rfl
 |some k=>
  cases x with
  |tmp t=>
   simp only[vZ,dN];by_cases e:t=k
   ·subst e;have:t∈o.looksAt ops:=List.mem_append_left _ (List.mem_filterMap.2 ⟨.tmp t,by simpa using hx,rfl⟩);simp[jM,this]at h
   ·simp[e]
  |_=>rfl
def jH{ops:Array Oper}{o:Oper}{f:FF}{d:Option Nat}{v:Value}{j:Nat}{want:Bool}{g:Nat}(h:jM ops d o=true)(hg:o.guard=some (j,want))(hb:(ops[j]?).bind (·.dst)=some g):dN f d v g=f g:=by
 cases d with
 |none=>rfl
 |some k=>
  simp only[dN];by_cases e:g=k
  ·subst e;have:g∈o.looksAt ops:=List.mem_append_right _ (by simp[hg,hb]);simp[jM,this]at h
  ·simp[e]
def tk{ops:Array Oper}{o:Oper}{f:FF}{d:Option Nat}{v:Value}(h:jM ops d o=true):km ops o (dN f d v)↔km ops o f:=by
 unfold km;split
 ·rfl
 ·rename_i j want hg;constructor
  ·rintro ⟨g,hb,hv⟩;rw[jH h hg hb]at hv;exact⟨g,hb,hv⟩
  ·rintro ⟨g,hb,hv⟩;exact⟨g,hb,by rw[jH h hg hb];exact hv⟩
def wA{ops:Array Oper}{o:Oper}{f:FF}{d:Option Nat}{v:Value}(h:jM ops d o=true):vv ops o (dN f d v)↔vv ops o f:=by
 unfold vv;split
 ·rfl
 ·rename_i j want hg;constructor
  ·rintro ⟨g,u,hb,hv,hne⟩;rw[jH h hg hb]at hv;exact⟨g,u,hb,hv,hne⟩
  ·rintro ⟨g,u,hb,hv,hne⟩;exact⟨g,u,hb,by rw[jH h hg hb];exact hv,hne⟩
def EK.congr{e e':Operand->Option Value}{xs:Array Operand}{σ:Operand->Value}(h: ∀x∈xs,e x=e' x)(H:EK e xs σ):EK e' xs σ:=
 λx hx v hv=>H x hx v (by rw[h x hx];exact hv)
def DO.off{P:Program}{ops:Array Oper}{o:Oper}{f:FF}{h:aH}{d:Option Nat}{u v:Value}(ho:jM ops d o=true):DO P o (vZ (dN f d u)) h v↔DO P o (vZ f) h v:=
 ⟨λH σ hσ w hw=>H σ (hσ.congr λx hx=>(rH ho x hx).symm) w hw,λH σ hσ w hw=>H σ (hσ.congr λx hx=>rH ho x hx) w hw⟩
def CJ.off{P:Program}{ops:Array Oper}{o:Oper}{f:FF}{h:aH}{d:Option Nat}{u:Value}{K:Value->aH->Prop}(ho:jM ops d o=true)(H:CJ P o (vZ (dN f d u)) h K):CJ P o (vZ f) h K:=
 λσ hσ w hw=>H σ (hσ.congr λx hx=>(rH ho x hx).symm) w hw
def jk.off{P:Program}{ops:Array Oper}{o:Oper}{f:FF}{h:aH}{d:Option Nat}{u v:Value}(ho:jM ops d o=true):jk P ops o (dN f d u) h v↔jk P ops o f h v:=by unfold jk;rw[tk ho,wA ho,DO.off ho]
def lJ(f:FF){d e:Option Nat}(u v:Value)(h: ∀k,d=some k->e≠some k):dN (dN f d u) e v=dN (dN f e v) d u:=by
 cases d with
 |none=>rfl
 |some k=>
  cases e with
  |none=>rfl
  |some l=>
   have hne:k≠l:=λe=>h k rfl (by rw[e]);funext t;simp only[dN];by_cases h1:t=l
   ·subst h1;simp[Ne.symm hne]
   ·simp[h1]
def Dm(ops:Array Oper)(x y:Oper):Bool:=jM ops x.dst y&&jM ops y.dst x&&(match x.dst,y.dst with|some a,some b=> !(Nat.beq a b)|_,_=>true)
def AH{ops:Array Oper}{x y:Oper}(h:Dm ops x y=true):jM ops x.dst y=true/\jM ops y.dst x=true/\ ∀k,x.dst=some k->y.dst≠some k:=by simp only[Dm,Bool.and_eq_true]at h;refine⟨h.1.1,h.1.2,λk hk hy=> ?_⟩;rw[hk,hy]at h;simp at h
def ce(ops:Array Oper)(i:Nat):Bool:=match ops[i]? with|some o=>pF o.op|none=>false
def Bv(ops:Array Oper)(i j:Nat):Bool:=match ops[i]?,ops[j]? with|some x,some y=>Dm ops x y|_,_=>false
def pN(ops:Array Oper)(j x:Nat):Bool:=match ops[j]?,ops[x]? with
 |some oj,some ox=>jM ops ox.dst oj&&(match ox.dst,oj.dst with|some a,some b=> !(Nat.beq a b)|_,_=>true)
 |_,_=>false
def vW(ops:Array Oper)(anc:Nat->Nat->Bool)(x y:Nat×List Nat):Bool:=
 anc y.1 x.1||(ce ops x.1&&ce ops y.1)||(Bv ops x.1 y.1&& !ce ops x.1&&(!ce ops y.1||y.2.contains x.1))
structure nC(ops:Array Oper)(anc:Nat->Nat->Bool)(rem:List (Nat×List Nat)):Prop where
 nodup:(rem.map (·.1)).Nodup
 pair:rem.Pairwise λx y=>vW ops anc x y=true
 empty: ∀x∈rem,ce ops x.1=false->x.2=[]
 keep: ∀y∈rem,∀j∈y.2,∀x∈rem,x.1≠j->anc j x.1=true\/anc x.1 y.1=true\/pN ops j x.1=true
 self: ∀y∈rem,∀j∈y.2,∃o,ops[j]? =some o/\jM ops o.dst o=true
 lin:rem.Pairwise λx y=>anc x.1 y.1=false
def nC.tail{ops:Array Oper}{anc:Nat->Nat->Bool}{x:Nat×List Nat}{rem:List (Nat×List Nat)}(g:nC ops anc (x::rem)):nC ops anc rem:=
 ⟨by have:=g.nodup;simp at this;exact this.2,by have:=g.pair;rw[List.pairwise_cons]at this;exact this.2,λy hy=>g.empty y (by simp[hy]),
  λy hy j hj z hz=>g.keep y (by simp[hy]) j hj z (by simp[hz]),λy hy=>g.self y (by simp[hy]),by have:=g.lin;rw[List.pairwise_cons]at this;exact this.2⟩
def nC.sub{ops:Array Oper}{anc:Nat->Nat->Bool}{rem rem':List (Nat×List Nat)}(g:nC ops anc rem)(hs:rem'.Sublist rem):nC ops anc rem':=
 ⟨g.nodup.sublist (hs.map _),g.pair.sublist hs,λy hy=>g.empty y (hs.subset hy),λy hy j hj z hz=>g.keep y (hs.subset hy) j hj z (hs.subset hz),λy hy=>g.self y (hs.subset hy),g.lin.sublist hs⟩
def fg.keep{P:Program}{ops:Array Oper}{f:FF}{h:aH}{j x:Nat}{ox:Oper}{v:Value}(hx:ops[x]? =some ox)(hk:pN ops j x=true)(H:fg P ops (dN f ox.dst v) h j):fg P ops f h j:=by
 obtain⟨o,d,u,ho,hd,hu,hl⟩:=H;simp only[pN,ho,hx,Bool.and_eq_true]at hk;refine⟨o,d,u,ho,hd,?_,(jk.off hk.1).1 hl⟩;rw[hd]at hk;cases hxd:ox.dst with
 |none=>rw[hxd]at hu;exact hu
 |some k=>
  rw[hxd]at hu hk;have hne:d≠k:=λe=>by subst e;simp at hk
  simpa[dN,hne]using hu
def FE{P:Program}{ops:Array Oper}{K:FF->aH->Prop}{anc:Nat->Nat->Bool}{i:Nat}{ji:List Nat}:
  ∀(rem:List (Nat×List Nat)) (f:FF) (h:aH),nC ops anc rem->(i,ji)∈rem->
   (∀x∈rem,anc i x.1=false)->(ce ops i=true-> ∀x∈rem.takeWhile (λz=> !(Nat.beq z.1 i)),ce ops x.1=false)->
   (∀j∈ji,j∉rem.map (·.1)-> ∀x∈rem,anc j x.1=false)->
   SA P ops K rem f h->
   eX P ops i (λf' h'=>(∀j∈ji,j∉rem.map (·.1)->fg P ops f' h' j)/\SA P ops K (rem.filter λz=> !(Nat.beq z.1 i)) f' h') f h:=by
 intro rem
 induction rem with
 |nil=>intro f h _ hm;simp at hm
 |cons x rest ih=>
  intro f h g hm hanc heff hdc H;obtain⟨x,jx⟩:=x;have hnd:=g.nodup;simp only[List.map_cons,List.nodup_cons]at hnd;by_cases hxi:x=i
  ·subst hxi
   have hji:jx=ji:=by
    simp only[List.mem_cons,Prod.mk.injEq,true_and]at hm;rcases hm with e|hm
    ·exact e.symm
    ·exact absurd (List.mem_map.2 ⟨_,hm,rfl⟩) hnd.1
   subst hji
   have hf:(((x,jx)::rest).filter λz=> !(Nat.beq z.1 x))=rest:=by
    rw[List.filter_cons];simp only[Nat.beq_refl,Bool.not_true,Bool.false_eq_true,if_false];rw[List.filter_eq_self];intro z hz;cases hb:Nat.beq z.1 x with
    |false=>rfl
    |true=>exact absurd (List.mem_map.2 ⟨z,hz,Nat.eq_of_beq_eq_true hb⟩) hnd.1
   rw[hf];exact eX.mono H λf' h' hh=>⟨λj hj _=>hh.1 j hj,hh.2⟩
  ·have hm':(i,ji)∈rest:=by
    simp only[List.mem_cons,Prod.mk.injEq]at hm;rcases hm with⟨e,_⟩|hm
    ·exact absurd e.symm hxi
    ·exact hm
   have hbx:Nat.beq x i=false:=by
    cases hb:Nat.beq x i with
    |false=>rfl
    |true=>exact absurd (Nat.eq_of_beq_eq_true hb) hxi
   have hp:=(List.pairwise_cons.1 g.pair).1 _ hm';simp only[vW,hanc (x,jx) ak,Bool.false_or,Bool.or_eq_true,Bool.and_eq_true,Bool.not_eq_true',List.contains_iff_mem]at hp
   have hp':Bv ops x i=true/\ce ops x=false/\(ce ops i=true->x∈ji):=by
    rcases hp with⟨h1,h2⟩|⟨⟨h1,h2⟩,h3⟩
    ·have:=heff h2 (x,jx) (by rw[List.takeWhile_cons];simp[hbx]);simp[this]at h1
    ·refine⟨h1,h2,λhe=> ?_⟩;rcases h3 with h3|h3
     ·rw[he]at h3;simp at h3
     ·exact h3
   obtain⟨hfar,hex,hre⟩:=hp';have hjx:jx=[]:=g.empty (x,jx) ak hex;subst hjx;obtain⟨ox,hox,H⟩:=H;have hnex:pF ox.op=false:=by simpa[ce,hox]using hex
   have H: ∃v,jk P ops ox f h v/\SA P ops K rest (dN f ox.dst v) h:=by
    rcases H with⟨v,h1,_,h3⟩|⟨h1,_⟩
    ·exact⟨v,h1,h3.2⟩
    ·rw[hnex]at h1;simp at h1
   obtain⟨v,hlook,hrest⟩:=H
   have step:=ih (dN f ox.dst v) h g.tail hm' (λz hz=>hanc z (by simp[hz]))
    (λhe z hz=>heff he z (by rw[List.takeWhile_cons];simp[hbx];exact .inr hz))
    (λj hj hjn z hz=>by
     by_cases hjx:j=x
     ·subst hjx;exact(List.pairwise_cons.1 g.lin).1 z hz
     ·exact hdc j hj (by simp[hjx];simpa using hjn) z (by simp[hz])) hrest
   obtain⟨oi,hoi,step⟩:=step;have hfar':Dm ops ox oi=true:=by simpa[Bv,hox,hoi]using hfar
   obtain⟨h1,h2,h3⟩:=AH hfar'
   have hfil:((x,[])::rest).filter (λz=> !(Nat.beq z.1 i))=(x,[])::rest.filter λz=> !(Nat.beq z.1 i):=by rw[List.filter_cons];simp[hbx]
   have move: ∀u h',jk P ops ox (dN f oi.dst u) h' v->
     (∀j∈ji,j∉rest.map (·.1)->fg P ops (dN (dN f ox.dst v) oi.dst u) h' j)->
     SA P ops K (rest.filter λz=> !(Nat.beq z.1 i)) (dN (dN f ox.dst v) oi.dst u) h'->
     (∀j∈ji,j∉((x,[])::rest).map (·.1)->fg P ops (dN f oi.dst u) h' j)/\SA P ops K (((x,[])::rest).filter λz=> !(Nat.beq z.1 i)) (dN f oi.dst u) h':=by
    intro u h' hl hag hsa;rw[lJ f v u h3]at hag hsa;refine⟨λj hj hjn=> ?_,?_⟩
    ·have hjx:x≠j:=λe=>hjn (by simp[e]);have hjr:j∉rest.map (·.1):=λe=>hjn (by simp only[List.map_cons,List.mem_cons];exact .inr e)
     have hk:pN ops j x=true:=by
      rcases g.keep (i,ji) hm j hj (x,[]) ak hjx with hk|hk|hk
      ·have:=hdc j hj hjn (x,[]) ak;rw[this]at hk;simp at hk
      ·have:=(List.pairwise_cons.1 g.lin).1 _ hm';rw[this]at hk;simp at hk
      ·exact hk
     exact fg.keep hox hk (hag j hj hjr)
    ·rw[hfil];exact⟨ox,hox,.inl ⟨v,hl,λe=>by rw[hnex]at e;simp at e,ak,hsa⟩⟩
   refine⟨oi,hoi,?_⟩;rcases step with⟨u,s1,s2,s3⟩|⟨s1,s2,s3⟩
   ·refine .inl ⟨u,(jk.off h1).1 s1,λe=>(wA h1).1 (s2 e),move u h ((jk.off h2).2 hlook) s3.1 s3.2⟩
   ·refine .inr ⟨s1,(tk h1).1 s2,(CJ.off h1 s3).mono λu h' hh=> ?_⟩;refine move u h' ?_ hh.1 hh.2;have hxi':x∈ji:=hre (by simpa[ce,hoi]using s1);obtain⟨o,d,v',ho,hd,hv',hl⟩:=hh.1 x hxi' hnd.1;rw[hox]at ho;simp only[Option.some.injEq]at ho;subst ho;rw[lJ f v u h3,hd]at hv';simp only[dN,if_true,Option.some.injEq]at hv';subst hv';rw[lJ f v u h3]at hl;obtain⟨o',ho',hself⟩:=g.self (i,ji) hm x hxi';rw[hox]at ho';simp only[Option.some.injEq]at ho';subst ho';exact(jk.off hself).1 hl
end
section
def ky(f:FF)(a:Act):Prop:= ∀t v,f t=some v->a.tmps.getD t undef=v
structure pZ(n:Nat)(w0:World)(f:FF)(h:aH)(a:Act)(w:World):Prop where
 agree:ky f a
 defers:a.defers=[]
 size:a.tmps.size=n
 same:bT w0 w
 heap:w.heap=h
def oq(n:Nat)(o:Oper):Bool:=match o.dst with|some d=>Nat.blt d n|none=>true
def wZ{f:FF}{a:Act}{d:Option Nat}{v:Value}(h:ky f a)(hd: ∀k,d=some k->k<a.tmps.size):ky (dN f d v) (a.put d v):=by
 cases d with
 |none=>exact h
 |some k=>
  intro t u hu;simp only[dN]at hu;by_cases e:t=k
  ·subst e;simp only[if_true,Option.some.injEq]at hu;subst hu;simp[Act.put,hd t rfl]
  ·simp only[e,if_false]at hu;have:=h t u hu;rw[<-this];simp[Act.put,Array.getElem?_setIfInBounds_ne (Ne.symm e)]
def AN(a:Act)(d:Option Nat)(v:Value):(a.put d v).tmps.size=a.tmps.size:=by cases d<;>simp[Act.put]
def vw(a:Act)(d:Option Nat)(v:Value):(a.put d v).defers=a.defers:=by cases d<;>rfl
def jn{f:FF}{a:Act}(h:ky f a)(xs:Array Operand):EK (vZ f) xs a.eval:=by
 intro x _ v hv;cases x with
 |tmp t=>exact h t v hv
 |const u=>simpa[vZ,Act.eval]using hv
 |global g=>simpa[vZ,Act.eval]using hv
 |func g=>simpa[vZ,Act.eval]using hv
def pZ.put{n:Nat}{w0:World}{f:FF}{h h':aH}{a:Act}{w w':World}{o:Oper}(s:pZ n w0 f h a w)(hd:oq n o=true)(v:Value)(hs:bT w w')(hh:w'.heap=h'):pZ n w0 (dN f o.dst v) h' (a.put o.dst v) w':=by refine⟨wZ s.agree λk hk=> ?_,by rw[vw,s.defers],by rw[AN,s.size],s.same.trans hs,hh⟩;rw[s.size];simp only[oq,hk]at hd;exact Nat.le_of_ble_eq_true hd
def iF{ops:Array Oper}{o:Oper}{f:FF}{a:Act}(h:ky f a)(g:km ops o f):Region.wanted o (yielded ops a.tmps)=true:=by
 unfold km at g;unfold Region.wanted;split at g
 ·rename_i hg;simp[hg]
 ·rename_i j want hg;obtain⟨d,hb,hv⟩:=g;have:=h d _ hv;simp only[hg,yielded,hb,Option.bind_some];cases ht:a.tmps[d]? with
  |none=>simp[ht,undef]at this
  |some u=>simp[ht]at this;subst this;simp
def mJ{ops:Array Oper}{o:Oper}{f:FF}{a:Act}(h:ky f a)(g:vv ops o f):Region.wanted o (yielded ops a.tmps)=false:=by
 unfold vv at g;unfold Region.wanted;split at g
 ·exact g.elim
 ·rename_i j want hg;obtain⟨d,v,hb,hv,hne⟩:=g;have:=h d _ hv;simp only[hg,yielded,hb,Option.bind_some];cases ht:a.tmps[d]? with
  |none=>simp
  |some u=>
   simp[ht]at this;subst this;cases u<;>simp;rename_i b;intro e;exact hne (by rw[e])
def eX.wpOp{P:Program}{ops:Array Oper}{Q:Exit->Act->World->Prop}{i n:Nat}{w0:World}{κ:FF->aH->Prop}{κ':Act->World->Prop}{f:FF}{h:aH}{a:Act}{w:World}
  (H:eX P ops i κ f h) (s:pZ n w0 f h a w) (hd: ∀o:Oper,ops[i]? =some o->oq n o=true)
  (hk: ∀f' h' a' w',pZ n w0 f' h' a' w'->κ f' h'->κ' a' w'):wpOp P ops Q i κ' a w:=by
 obtain⟨o,ho,H⟩:=H;unfold Go.wpOp;simp only[ho];have hdo:=hd o ho;rcases H with⟨v,hl,_,hκ⟩|⟨_,hy,he⟩
 ·rcases hl with⟨hy,hv⟩|⟨hn,rfl⟩
  ·rw[if_pos (iF s.agree hy)];refine .inl ?_;unfold Oper.wp;rw[hv a.eval (jn s.agree _) w s.heap];exact hk _ _ _ _ (s.put hdo v (bT.refl w) s.heap) hκ
  ·rw[if_neg (by rw[mJ s.agree hn];simp)];exact hk _ _ _ _ (s.put hdo undef (bT.refl w) s.heap) hκ
 ·rw[if_pos (iF s.agree hy)];refine .inl ?_;unfold Oper.wp;have:=he a.eval (jn s.agree _) w s.heap;revert this;generalize (execOp a.eval o).run P w=r;intro this;unfold nv at this;split at this
  ·exact hk _ _ _ _ (s.put hdo _ this.1 rfl) this.2
  ·exact hk _ _ _ _ (s.put hdo _ this.1 rfl) this.2
  ·refine this.2.mono λe w'' hh=> ?_;obtain⟨v,rfl,hs,hK⟩:=hh;exact hk _ _ _ _ (s.put hdo v (this.1.trans hs) rfl) hK
  ·exact this.elim
structure wi(ops:Array Oper)(anc:Nat->Nat->Bool):Prop where
 up: ∀j o x,ops[j]? =some o->anc j x=true-> ∃e∈o.after,Region.binds .any e=true/\e.on<j/\(e.on=x\/anc e.on x=true)
 edge: ∀j o,ops[j]? =some o-> ∀e∈o.after,Region.binds .any e=true->e.on<j/\anc j e.on=true
abbrev ids(rem:List (Nat×List Nat)):List Nat:=rem.map (·.1)
structure kF(ops:Array Oper)(rem:List (Nat×List Nat))(listed:Array Bool):Prop where
 size:listed.size=ops.size
 mem: ∀i,i<ops.size->(listed.getD i true=false↔i∈ids rem)
 lt: ∀i∈ids rem,i<ops.size
def se(ops:Array Oper)(rem:List (Nat×List Nat)):Prop:= ∀j o,ops[j]? =some o->j∉ids rem-> ∀e∈o.after,Region.binds .any e=true->e.on∉ids rem
def kX{ops:Array Oper}{anc:Nat->Nat->Bool}(hA:wi ops anc){rem:List (Nat×List Nat)}(hD:se ops rem):
  ∀j,j<ops.size->j∉ids rem-> ∀x,anc j x=true->x∉ids rem:=by
 intro j
 induction j using Nat.strongRecOn with
 |_ j ih=>
  intro hj hn x hx;obtain⟨o,ho⟩: ∃o,ops[j]? =some o:=⟨ops[j],by simp[hj]⟩;obtain⟨e,he,hb,hlt,hh⟩:=hA.up j o x ho hx;have hon:=hD j o ho hn e he hb;rcases hh with rfl|hh
  ·exact hon
  ·exact ih e.on hlt ah hon x hh
def jL{ops:Array Oper}{rem:List (Nat×List Nat)}{listed:Array Bool}(hC:kF ops rem listed){i:Nat}(hi:i∈Region.ready .any ops listed):
  i∈ids rem/\ ∃o,ops[i]? =some o/\ ∀e∈o.after,Region.binds .any e=true->e.on∉ids rem:=by
 obtain⟨h0,o,ho,hall⟩:=mem_ready.1 hi;have hlt:i<ops.size:=(Array.getElem?_eq_some_iff.1 ho).1;refine⟨(hC.mem i hlt).1 h0,o,ho,λe he hb hmem=> ?_⟩;have h1:=hall e he hb;have h2:=(hC.mem e.on (hC.lt _ hmem)).2 hmem;have:e.on<listed.size:=by rw[hC.size];exact hC.lt _ hmem
 simp[this]at h1 h2;rw[h1]at h2;simp at h2
abbrev di(rem:List (Nat×List Nat))(i:Nat):List (Nat×List Nat):=rem.filter λz=> !(Nat.beq z.1 i)
def fY{rem:List (Nat×List Nat)}{i k:Nat}:k∈ids (di rem i)↔k∈ids rem/\k≠i:=by
 simp only[List.mem_map,List.mem_filter];constructor
 ·rintro ⟨z,⟨hz,hb⟩,rfl⟩;refine⟨⟨z,hz,rfl⟩,λe=> ?_⟩;rw[e]at hb;simp at hb
 ·rintro ⟨⟨z,hz,rfl⟩,hne⟩;refine⟨z,⟨hz,?_⟩,rfl⟩;cases hb:Nat.beq z.1 i with
  |false=>rfl
  |true=>exact absurd (Nat.eq_of_beq_eq_true hb) hne
def kF.drop{ops:Array Oper}{rem:List (Nat×List Nat)}{listed:Array Bool}(hC:kF ops rem listed)(i:Nat)(hi:i∈ids rem):kF ops (di rem i) (listed.setIfInBounds i true):=by
 refine⟨by simp[hC.size],λk hk=> ?_,λk hk=>hC.lt k (fY.1 hk).1⟩;rw[fY];by_cases e:k=i
 ·subst e;have:k<listed.size:=by rw[hC.size];exact hk
  simp[this]
 ·rw[getD_set_ne true (Ne.symm e),hC.mem k hk];simp[e]
def se.drop{ops:Array Oper}{rem:List (Nat×List Nat)}(hD:se ops rem){i:Nat}(hr: ∃o,ops[i]? =some o/\ ∀e∈o.after,Region.binds .any e=true->e.on∉ids rem):se ops (di rem i):=by
 intro j o ho hj e he hb hmem;rw[fY]at hmem;by_cases hji:j=i
 ·subst hji;obtain⟨o',ho',hall⟩:=hr;rw[ho]at ho';simp only[Option.some.injEq]at ho';subst ho';exact hall e he hb hmem.1
 ·exact hD j o ho (λh=>hj (fY.2 ⟨h,hji⟩)) e he hb hmem.1
def DN(ops:Array Oper)(anc:Nat->Nat->Bool)(rem:List (Nat×List Nat)):Prop:=
 rem.Pairwise λx y=>ce ops x.1=true->ce ops y.1=true->anc y.1 x.1=true
abbrev jA(rem:List (Nat×List Nat))(i:Nat):List (Nat×List Nat):=rem.takeWhile λz=> !(Nat.beq z.1 i)
def Io(ops:Array Oper)(anc:Nat->Nat->Bool)(A:List (List (Nat×List Nat))):Prop:=
 ∀rem∈A,∀i∈ids rem,ce ops i=true->(∀x∈rem,ce ops x.1=true->anc i x.1=false)-> ∃alt∈A,(∀x∈jA alt i,ce ops x.1=false)/\DN ops anc (di alt i)
def s9{R:Nat×List Nat->Nat×List Nat->Prop}{rem:List (Nat×List Nat)}{i:Nat}{ji:List Nat}(h:rem.Pairwise R)(hm:(i,ji)∈rem): ∀x∈jA rem i,R x (i,ji):=by
 intro x hx;have hsplit:=List.takeWhile_append_dropWhile (p:=λz:Nat×List Nat=> !(Nat.beq z.1 i)) (l:=rem);rw[<-hsplit,List.pairwise_append]at h;refine h.2.2 x hx (i,ji) ?_;rw[<-hsplit]at hm;rcases List.mem_append.1 hm with hm|hm
 ·exfalso;revert hm;generalize rem=l;intro hm
  induction l with
  |nil=>simp at hm
  |cons z l ih=>
   simp only[List.takeWhile_cons]at hm;split at hm
   ·rename_i hz;rcases List.mem_cons.1 hm with rfl|hm
    ·simp at hz
    ·exact ih hm
   ·simp at hm
 ·exact hm
def xW{ops:Array Oper}{anc:Nat->Nat->Bool}{rem:List (Nat×List Nat)}(h:DN ops anc rem):Io ops anc [rem]:=by
 intro r hr i hi he hmin;simp only[List.mem_singleton]at hr;subst hr;obtain⟨⟨i',ji⟩,hm,rfl⟩:=List.mem_map.1 hi;refine⟨r,ak,λx hx=> ?_,h.sublist List.filter_sublist⟩;cases hb:ce ops x.1 with
 |false=>rfl
 |true=>
  have:=s9 h hm x hx hb he;have hx':x∈r:=(List.takeWhile_sublist _).subset hx;rw[hmin x hx' hb]at this;simp at this
def jk.uniq{P:Program}{ops:Array Oper}{o:Oper}{f:FF}{h:aH}{a:Act}{w:World}{u v:Value}(ha:ky f a)(hw:w.heap=h)(h1:jk P ops o f h u)(h2:jk P ops o f h v):u=v:=by
 rcases h1 with⟨y1,v1⟩|⟨n1,rfl⟩<;>rcases h2 with⟨y2,v2⟩|⟨n2,rfl⟩
 ·have e1:=v1 a.eval (jn ha _) w hw;have e2:=v2 a.eval (jn ha _) w hw;rw[e1]at e2;simpa using e2
 ·have:=iF ha y1;rw[mJ ha n2]at this;simp at this
 ·have:=iF ha y2;rw[mJ ha n1]at this;simp at this
 ·rfl
def fS{rem:List (Nat×List Nat)}{i:Nat}(hi:i∈ids rem):(di rem i).length<rem.length:=by obtain⟨z,hz,rfl⟩:=List.mem_map.1 hi;refine List.length_filter_lt_length_iff_exists.2 ⟨z,hz,?_⟩;simp
def tR{i k:Nat}(hk:k≠i): ∀{rem:List (Nat×List Nat)} {x:Nat×List Nat},x∈jA (di rem k) i->x∈jA rem i:=by
 intro rem
 induction rem with
 |nil=>intro x hx;simp at hx
 |cons y l ih=>
  intro x hx;simp only[List.filter_cons]at hx;simp only[List.takeWhile_cons];cases hq:Nat.beq y.1 k with
  |false=>
   simp only[hq,Bool.not_false,if_true,List.takeWhile_cons]at hx;split
   ·rename_i hp;simp only[hp,if_true,List.mem_cons]at hx;rcases hx with rfl|hx
    ·simp
    ·exact List.mem_cons_of_mem _ (ih hx)
   ·rename_i hp;simp[hp]at hx
  |true=>
   simp only[hq,Bool.not_true,Bool.false_eq_true,if_false]at hx;have hyk:=Nat.eq_of_beq_eq_true hq
   have hyi:Nat.beq y.1 i=false:=by
    cases hb:Nat.beq y.1 i with
    |false=>rfl
    |true=>exact absurd (hyk.symm.trans (Nat.eq_of_beq_eq_true hb)) hk
   rw[if_pos (by simp[hyi])];exact List.mem_cons_of_mem _ (ih hx)
def xS(rem:List (Nat×List Nat))(i k:Nat):di (di rem i) k=di (di rem k) i:=by
 simp only[List.filter_filter]
 congr 1
 funext z;exact Bool.and_comm _ _
def IR{P:Program}{ops:Array Oper}{Q:Exit->Act->World->Prop}{K:FF->aH->Prop}{anc:Nat->Nat->Bool}{n:Nat}{w0:World}(hA:wi ops anc)
  (hd: ∀(i:Nat) (o:Oper),ops[i]? =some o->oq n o=true) (hK: ∀f h a w,pZ n w0 f h a w->K f h->Q .normal a w):
  ∀(fuel:Nat) (A:List (List (Nat×List Nat))) (listed:Array Bool) (f:FF) (h:aH) (a:Act) (w:World),
   A≠[]->(∀rem∈A,nC ops anc rem/\kF ops rem listed/\se ops rem/\rem.length<=fuel/\SA P ops K rem f h)->Io ops anc A->
   pZ n w0 f h a w->wpAny P .any ops Q fuel listed a w:=by
 have over: ∀(A:List (List (Nat×List Nat))) (listed:Array Bool) (f:FF) (h:aH) (a:Act) (w:World),A≠[]->
   (∀rem∈A,nC ops anc rem/\kF ops rem listed/\se ops rem/\SA P ops K rem f h)->pZ n w0 f h a w->Region.ready .any ops listed=[]->Q .normal a w:=by
  intro A listed f h a w hne hall hs hr;obtain⟨rem,hrem⟩:=List.exists_mem_of_ne_nil A hne;obtain⟨g,hC,hD,hSA⟩:=hall rem hrem;cases rem with
  |nil=>exact hK f h a w hs hSA
  |cons x rest=>
   exfalso;have hx:x.1∈ids (x::rest):=ak;have hlt:=hC.lt _ hx
   have:x.1∈Region.ready .any ops listed:=by
    rw[mem_ready];refine⟨(hC.mem _ hlt).2 hx,ops[x.1],by simp[hlt],λe he hb=> ?_⟩;have hed:=hA.edge x.1 ops[x.1] (by simp[hlt]) e he hb
    have hnm:e.on∉ids (x::rest):=by
     intro hm;simp only[List.map_cons,List.mem_cons,List.mem_map]at hm;rcases hm with hm|⟨y,hy,hm⟩
     ·omega
     ·have:=(List.pairwise_cons.1 g.lin).1 y hy;rw[hm,hed.2]at this;simp at this
    have h1: ¬listed.getD e.on true=false:=λhh=>hnm ((hC.mem e.on ah).1 hh);have h2:e.on<listed.size:=by rw[hC.size];omega
    simp[h2]at h1 ⊢;exact h1
   rw[hr]at this;simp at this
 intro fuel
 induction fuel with
 |zero=>
  intro A listed f h a w hne hall hord hs
  have hr:Region.ready .any ops listed=[]:=by
   obtain⟨rem,hrem⟩:=List.exists_mem_of_ne_nil A hne;obtain⟨g,hC,hD,hl,hSA⟩:=hall rem hrem;have h0:rem=[]:=List.eq_nil_of_length_eq_zero ah;cases hr:Region.ready .any ops listed with
   |nil=>rfl
   |cons i l=>
    have:=(jL hC (i:=i) (by rw[hr];simp)).1;rw[h0]at this;simp at this
  exact⟨hr,over A listed f h a w hne (λrem hrem=>by obtain⟨g,hC,hD,_,hSA⟩:=hall rem hrem;exact⟨g,hC,hD,hSA⟩) hs hr⟩
 |succ fuel ih=>
  intro A listed f h a w hne hall hord hs;refine⟨λhr=>over A listed f h a w hne (λrem hrem=>by obtain⟨g,hC,hD,_,hSA⟩:=hall rem hrem;exact⟨g,hC,hD,hSA⟩) hs hr,λi hi=> ?_⟩
  have pulled: ∀rem∈A,i∈ids rem/\(∃o,ops[i]? =some o/\ ∀e∈o.after,Region.binds .any e=true->e.on∉ids rem)/\(∀x∈rem,anc i x.1=false):=by
   intro rem hrem;obtain⟨g,hC,hD,hl,hSA⟩:=hall rem hrem;obtain⟨hm,o,ho,hall'⟩:=jL hC hi;refine⟨hm,⟨o,ho,hall'⟩,λx hx=> ?_⟩;cases hb:anc i x.1 with
   |false=>rfl
   |true=>
    exfalso;obtain⟨e,he,hbe,hlt,hh⟩:=hA.up i o x.1 ho hb;have hon:=hall' e he hbe;have hil:i<ops.size:=(Array.getElem?_eq_some_iff.1 ho).1;have hxm:x.1∈ids rem:=List.mem_map.2 ⟨x,hx,rfl⟩;rcases hh with hh|hh
    ·rw[hh]at hon;exact hon hxm
    ·exact kX hA hD e.on ah hon x.1 hh hxm
  have step: ∀rem∈A,(ce ops i=true-> ∀x∈jA rem i,ce ops x.1=false)->
    eX P ops i (λf' h'=>SA P ops K (di rem i) f' h') f h:=by
   intro rem hrem heff;obtain⟨g,hC,hD,hl,hSA⟩:=hall rem hrem;obtain⟨hm,hr,hanc⟩:=pulled rem hrem;obtain⟨⟨i',ji⟩,hm',rfl⟩:=List.mem_map.1 hm;refine(FE rem f h g hm' hanc heff (λj hj hjn x hx=> ?_) hSA).mono λf' h' hh=>hh.2;cases hb:anc j x.1 with
   |false=>rfl
   |true=>
    exfalso;obtain⟨o,ho,_⟩:=g.self _ hm' j hj;have hjl:j<ops.size:=(Array.getElem?_eq_some_iff.1 ho).1;exact kX hA hD j hjl hjn x.1 hb (List.mem_map.2 ⟨x,hx,rfl⟩)
  cases he:ce ops i with
  |true=>
   obtain⟨rem0,hrem0⟩:=List.exists_mem_of_ne_nil A hne;obtain⟨alt,halt,hbef,hch⟩:=hord rem0 hrem0 i (pulled rem0 hrem0).1 he (λx hx _=>(pulled rem0 hrem0).2.2 x hx);obtain⟨g,hC,hD,hl,hSA⟩:=hall alt halt;obtain⟨hm,hr,hanc⟩:=pulled alt halt;refine(step alt halt λ_=>hbef).wpOp hs (λo ho=>hd i o ho) λf' h' a' w' hs' hk=> ?_;refine ih [di alt i] (listed.setIfInBounds i true) f' h' a' w' ak ?_ (xW hch) hs';intro rem hrem;simp only[List.mem_singleton]at hrem;subst hrem;exact⟨g.sub List.filter_sublist,hC.drop i hm,hD.drop hr,by have:=fS hm;omega,hk⟩
  |false=>
   obtain⟨rem0,hrem0⟩:=List.exists_mem_of_ne_nil A hne;obtain⟨o,ho,H⟩:=step rem0 hrem0 (λe=>by rw[he]at e;simp at e);have hne':pF o.op=false:=by simpa[ce,ho]using he
   have H: ∃v,jk P ops o f h v:=by
    rcases H with⟨v,h1,_,_⟩|⟨h1,_⟩
    ·exact⟨v,h1⟩
    ·rw[hne']at h1;simp at h1
   obtain⟨v,hv⟩:=H
   have hone:eX P ops i (λf' h'=> ∀rem∈A,SA P ops K (di rem i) f' h') f h:=by
    refine⟨o,ho,.inl ⟨v,hv,λe=>by rw[hne']at e;simp at e,λrem hrem=> ?_⟩⟩;obtain⟨o',ho',H⟩:=step rem hrem (λe=>by rw[he]at e;simp at e);rw[ho]at ho';simp only[Option.some.injEq]at ho';subst ho';rcases H with⟨u,h1,_,h3⟩|⟨h1,_⟩
    ·rw[jk.uniq hs.agree hs.heap hv h1];exact h3
    ·rw[hne']at h1;simp at h1
   refine hone.wpOp hs (λo ho=>hd i o ho) λf' h' a' w' hs' hk=> ?_;refine ih (A.map λrem=>di rem i) (listed.setIfInBounds i true) f' h' a' w' (by simpa using hne) ?_ ?_ hs'
   ·intro rem' hrem';obtain⟨rem,hrem,rfl⟩:=List.mem_map.1 hrem';obtain⟨g,hC,hD,hl,hSA⟩:=hall rem hrem;obtain⟨hm,hr,hanc⟩:=pulled rem hrem;exact⟨g.sub List.filter_sublist,hC.drop i hm,hD.drop hr,by have:=fS hm;omega,hk rem hrem⟩
   ·intro rem' hrem' k hk1 hk2 hk3;obtain⟨rem,hrem,rfl⟩:=List.mem_map.1 hrem';have hki:k≠i:=λe=>by rw[e,he]at hk2;simp at hk2
    obtain⟨g,hC,hD,hl,hSA⟩:=hall rem hrem
    obtain⟨alt,halt,hbef,hch⟩:=hord rem hrem k (fY.1 hk1).1 hk2 (λx hx hxe=>by
     have hxi:x.1≠i:=λe=>by rw[e,he]at hxe;simp at hxe
     obtain⟨y,hy,hyx⟩:=List.mem_map.1 (fY.2 ⟨List.mem_map.2 ⟨x,hx,rfl⟩,hxi⟩);have hye:ce ops y.1=true:=by rw[hyx];exact hxe
     have:=hk3 y hy hye;rw[hyx]at this;exact this)
    refine⟨di alt i,List.mem_map.2 ⟨alt,halt,rfl⟩,λx hx=>hbef x (tR (Ne.symm hki) hx),?_⟩;rw[xS];exact hch.sublist List.filter_sublist
abbrev kC:=List (Nat×List Nat)
def oK{ops:Array Oper}: ∀a:kC,lf ops a++iT ops a=a
 | []=>rfl
 |x::l=>by
  unfold lf iT;cases Ic ops x.1 with
  |true=>rfl
  |false=>simp[oK l]
def qX{ops:Array Oper}: ∀(a:kC),∀x∈lf ops a,ce ops x.1=false
 | [],x,hx=>by simp[lf]at hx
 |y::l,x,hx=>by
  unfold lf at hx;cases he:Ic ops y.1 with
  |true=>rw[he]at hx;simp at hx
  |false=>
   rw[he]at hx;rcases List.mem_cons.1 hx with rfl|hx
   ·exact he
   ·exact qX l x hx
def ow{i:Nat}: ∀{l:kC},xU i l=true↔i∈ids l
 | []=>by simp[xU]
 |x::l=>by
  unfold xU;cases hb:Nat.beq x.1 i with
  |true=>
   have:=Nat.eq_of_beq_eq_true hb;simp[this]
  |false=>
   have hne:i≠x.1:=λe=>by rw[e]at hb;simp at hb
   simp only[ow (l:=l),List.map_cons,List.mem_cons];exact⟨.inr,λh=>h.resolve_left hne⟩
def jK{i:Nat}{js:List Nat}: ∀{B:List kC},(i,js)∈jt B-> ∃r,((i,js)::r)∈B
 | [],h=>by simp[jt]at h
 | []::A,h=>by obtain⟨r,hr⟩:=jK (B:=A) h;exact⟨r,List.mem_cons_of_mem _ hr⟩
 |(x::l)::A,h=>by
  unfold jt at h;dsimp only at h;split at h
  ·obtain⟨r,hr⟩:=jK (B:=A) h;exact⟨r,List.mem_cons_of_mem _ hr⟩
  ·rcases List.mem_cons.1 h with e|h
   ·exact⟨l,by rw[e];simp⟩
   ·obtain⟨r,hr⟩:=jK (B:=A) h;exact⟨r,List.mem_cons_of_mem _ hr⟩
def nK{i:Nat}{l:kC}: ∀{B:List kC},l∈pU i B-> ∃js,((i,js)::l)∈B
 | [],h=>by simp[pU]at h
 | []::A,h=>by obtain⟨r,hr⟩:=nK (B:=A) h;exact⟨r,List.mem_cons_of_mem _ hr⟩
 |(x::r)::A,h=>by
  unfold pU at h;cases hb:Nat.beq x.1 i with
  |true=>
   rw[hb]at h;have:=Nat.eq_of_beq_eq_true hb;rcases List.mem_cons.1 h with e|h
   ·exact⟨x.2,by rw[e,<-this];simp⟩
   ·obtain⟨js,hr⟩:=nK (B:=A) h;exact⟨js,List.mem_cons_of_mem _ hr⟩
  |false=>
   rw[hb]at h;obtain⟨js,hr⟩:=nK (B:=A) h;exact⟨js,List.mem_cons_of_mem _ hr⟩
def ml{i:Nat}: ∀{B:List kC},pU i B≠[]->i∈ids (jt B)
 | [],h=>absurd rfl h
 | []::A,h=>by unfold jt;exact ml (B:=A) h
 |(x::r)::A,h=>by
  unfold jt;dsimp only;cases hb:Nat.beq x.1 i with
  |true=>
   have e:=Nat.eq_of_beq_eq_true hb;split
   ·rename_i hh;rw[e]at hh;exact ow.1 hh
   ·simp[e]
  |false=>
   unfold pU at h;rw[hb]at h;have:=ml (B:=A) h;split
   ·exact this
   ·simp only[List.map_cons,List.mem_cons];exact .inr this
def GU(P:Program)(ops:Array Oper)(K:FF->aH->Prop)(rec:List kC->FF->aH->Prop)(B:List kC)(f:FF)(h:aH):Prop:=
 match B with
 | []::_=>K f h
 |B=> ∀i js,(i,js)∈jt B->eX P ops i (λf' h'=>(∀j∈js,fg P ops f' h' j)/\rec (pU i B) f' h') f h
def SG(P:Program)(ops:Array Oper)(K:FF->aH->Prop):Nat->List kC->FF->aH->Prop
 |0,_,_,_=>False
 |_+1,[],_,_=>False
 |n+1,a::A,f,h=>SA P ops (GU P ops K (SG P ops K n) ((a::A).map (iT ops))) (lf ops a) f h
def IS(ops:Array Oper)(anc:Nat->Nat->Bool)(rec:List kC->Prop)(B:List kC):Prop:=
 (∀b∈B,b=[])\/((∀b∈B,∃x r,b=x::r/\ce ops x.1=true/\ ∀j∈x.2,j∉ids r)/\
  ∀b0∈B.head?,∀y∈ids b0,ce ops y=true->(∀x∈b0,ce ops x.1=true->anc y x.1=false)->pU y B≠[]/\rec (pU y B))
def IL(ops:Array Oper)(anc:Nat->Nat->Bool):Nat->List kC->Prop
 |0,_=>False
 |n+1,A=>A≠[]/\(∀a∈A,∀b∈A,lf ops a=lf ops b)/\IS ops anc (IL ops anc n) (A.map (iT ops))
def SA.mono{P:Program}{ops:Array Oper}{K K':FF->aH->Prop}(hk: ∀f h,K f h->K' f h): ∀{l:kC} {f:FF} {h:aH},SA P ops K l f h->SA P ops K' l f h
 | [],_,_,H=>hk _ _ H
 |(_,_)::_,_,_,H=>eX.mono H λ_ _ hh=>⟨hh.1,SA.mono hk hh.2⟩
def mD{P:Program}{ops:Array Oper}{K:FF->aH->Prop}: ∀{l m:kC} {f:FF} {h:aH},SA P ops (SA P ops K m) l f h->SA P ops K (l++m) f h
 | [],_,_,_,H=>H
 |(_,_)::_,_,_,_,H=>eX.mono H λ_ _ hh=>⟨hh.1,mD hh.2⟩
def kV{l:kC}{i:Nat}(h:i∉ids l):di l i=l:=by
 rw[List.filter_eq_self];intro z hz;cases hb:Nat.beq z.1 i with
 |false=>rfl
 |true=>exact absurd (List.mem_map.2 ⟨z,hz,Nat.eq_of_beq_eq_true hb⟩) h
def lY(l m:kC)(i:Nat):di (l++m) i=di l i++di m i:=List.filter_append ..
def wC(l m:kC):ids (l++m)=ids l++ids m:=List.map_append
def G9{P:Program}{ops:Array Oper}{Q:Exit->Act->World->Prop}{K:FF->aH->Prop}{anc:Nat->Nat->Bool}{n:Nat}{w0:World}(hA:wi ops anc)
  (hd: ∀(i:Nat) (o:Oper),ops[i]? =some o->oq n o=true) (hK: ∀f h a w,pZ n w0 f h a w->K f h->Q .normal a w):
  ∀(fuel d:Nat) (pre:kC) (B:List kC) (listed:Array Bool) (f:FF) (h:aH) (a:Act) (w:World),
   B≠[]->(∀x∈pre,ce ops x.1=false)->(∀b∈B,nC ops anc (pre++b)/\kF ops (pre++b) listed/\se ops (pre++b)/\(pre++b).length<=fuel)->IS ops anc (IL ops anc d) B->
   SA P ops (GU P ops K (SG P ops K d) B) pre f h->pZ n w0 f h a w->wpAny P .any ops Q fuel listed a w:=by
 have over: ∀(d:Nat) (pre:kC) (B:List kC) (listed:Array Bool) (f:FF) (h:aH) (a:Act) (w:World),B≠[]->
   (∀b∈B,nC ops anc (pre++b)/\kF ops (pre++b) listed/\se ops (pre++b))->SA P ops (GU P ops K (SG P ops K d) B) pre f h->pZ n w0 f h a w->Region.ready .any ops listed=[]->Q .normal a w:=by
  intro d pre B listed f h a w hne hall hSA hs hr;obtain⟨b,B',rfl⟩: ∃b B',B=b::B':=by cases B with|nil=>exact absurd rfl hne|cons b B'=>exact⟨b,B',rfl⟩
  obtain⟨g,hC,hD⟩:=hall b ak;cases hrem:pre++b with
  |nil=>
   obtain⟨rfl,rfl⟩:=List.append_eq_nil_iff.1 hrem;exact hK f h a w hs hSA
  |cons x rest=>
   exfalso;rw[hrem]at g hC hD;have hx:x.1∈ids (x::rest):=ak;have hlt:=hC.lt _ hx
   have:x.1∈Region.ready .any ops listed:=by
    rw[mem_ready];refine⟨(hC.mem _ hlt).2 hx,ops[x.1],by simp[hlt],λe he hb=> ?_⟩;have hed:=hA.edge x.1 ops[x.1] (by simp[hlt]) e he hb
    have hnm:e.on∉ids (x::rest):=by
     intro hm;simp only[List.map_cons,List.mem_cons,List.mem_map]at hm;rcases hm with hm|⟨y,hy,hm⟩
     ·omega
     ·have:=(List.pairwise_cons.1 g.lin).1 y hy;rw[hm,hed.2]at this;simp at this
    have h1: ¬listed.getD e.on true=false:=λhh=>hnm ((hC.mem e.on ah).1 hh);have h2:e.on<listed.size:=by rw[hC.size];omega
    simp[h2]at h1 ⊢;exact h1
   rw[hr]at this;simp at this
 intro fuel
 induction fuel with
 |zero=>
  intro d pre B listed f h a w hne hpre hall hok hSA hs
  have hr:Region.ready .any ops listed=[]:=by
   obtain⟨b,hb⟩:=List.exists_mem_of_ne_nil B hne;obtain⟨g,hC,hD,hl⟩:=hall b hb;have h0:pre++b=[]:=List.eq_nil_of_length_eq_zero ah;cases hr:Region.ready .any ops listed with
   |nil=>rfl
   |cons i l=>
    have:=(jL hC (i:=i) (by rw[hr];simp)).1;rw[h0]at this;simp at this
  exact⟨hr,over d pre B listed f h a w hne (λb hb=>by obtain⟨g,hC,hD,_⟩:=hall b hb;exact⟨g,hC,hD⟩) hSA hs hr⟩
 |succ fuel ih=>
  intro d pre B listed f h a w hne hpre hall hok hSA hs;refine⟨λhr=>over d pre B listed f h a w hne (λb hb=>by obtain⟨g,hC,hD,_⟩:=hall b hb;exact⟨g,hC,hD⟩) hSA hs hr,λi hi=> ?_⟩
  have pulled: ∀b∈B,i∈ids (pre++b)/\(∃o,ops[i]? =some o/\ ∀e∈o.after,Region.binds .any e=true->e.on∉ids (pre++b))/\(∀x∈pre++b,anc i x.1=false):=by
   intro b hb;obtain⟨g,hC,hD,hl⟩:=hall b hb;obtain⟨hm,o,ho,hall'⟩:=jL hC hi;refine⟨hm,⟨o,ho,hall'⟩,λx hx=> ?_⟩;cases hb:anc i x.1 with
   |false=>rfl
   |true=>
    exfalso;obtain⟨e,he,hbe,hlt,hh⟩:=hA.up i o x.1 ho hb;have hon:=hall' e he hbe;have hil:i<ops.size:=(Array.getElem?_eq_some_iff.1 ho).1;have hxm:x.1∈ids (pre++b):=List.mem_map.2 ⟨x,hx,rfl⟩;rcases hh with hh|hh
    ·rw[hh]at hon;exact hon hxm
    ·exact kX hA hD e.on ah hon x.1 hh hxm
  obtain⟨b0,B',eB⟩: ∃b B',B=b::B':=by cases B with|nil=>exact absurd rfl hne|cons b B'=>exact⟨b,B',rfl⟩
  have hb0:b0∈B:=by rw[eB];simp
  cases he:ce ops i with
  |false=>
   have inpre: ∀b∈B,i∉ids b:=by
    intro b hb him;obtain⟨g,-⟩:=hall b hb;rcases hok with hok|⟨hok,-⟩
    ·rw[hok b hb]at him;simp at him
    ·obtain⟨x,r,rfl,hx,-⟩:=hok b hb;simp only[List.map_cons,List.mem_cons]at him;rcases him with rfl|him
     ·rw[he]at hx;simp at hx
     ·obtain⟨y,hy,rfl⟩:=List.mem_map.1 him;have hp:=g.pair;rw[List.pairwise_append]at hp;have:=(List.pairwise_cons.1 hp.2.1).1 y hy;have ha:=(pulled _ hb).2.2 x ak;simp only[vW,ha,he,hx,Bool.false_or,Bool.and_false,Bool.false_and,Bool.not_true]at this;cases this
   have him:i∈ids pre:=by have:=(pulled b0 hb0).1;rw[wC,List.mem_append]at this;exact this.resolve_right (inpre b0 hb0)
   obtain⟨⟨i',ji⟩,hm',rfl⟩:=List.mem_map.1 him;obtain⟨g,hC,hD,hl⟩:=hall b0 hb0;have hji:ji=[]:=g.empty (i',ji) (by simp[hm']) he;have step:=FE (K:=GU P ops K (SG P ops K d) B) pre f h (g.sub (List.sublist_append_left _ _)) hm' (λx hx=>(pulled b0 hb0).2.2 x (by simp[hx])) (λe=>by rw[he]at e;simp at e) (by rw[hji];simp) hSA;refine step.wpOp hs (λo ho=>hd _ o ho) λf' h' a' w' hs' hk=> ?_;refine ih d (di pre i') B _ f' h' a' w' hne (λx hx=>hpre x (List.mem_filter.1 hx).1) (λb hb=> ?_) hok hk.2 hs';obtain⟨g,hC,hD,hl⟩:=hall b hb;obtain⟨hm,hr,hanc⟩:=pulled b hb;have e:di pre i'++b=di (pre++b) i':=by rw[lY,kV (inpre b hb)]
   rw[e];exact⟨g.sub List.filter_sublist,hC.drop _ hm,hD.drop hr,by have:=fS hm;dsimp only at this;omega⟩
  |true=>
   have nopre:i∉ids pre:=λhim=>by obtain⟨x,hx,rfl⟩:=List.mem_map.1 him;rw[hpre x hx]at he;simp at he
   have hib:i∈ids b0:=by have:=(pulled b0 hb0).1;rw[wC,List.mem_append]at this;exact this.resolve_left nopre
   rcases hok with hok|⟨hok1,hok2⟩
   ·rw[hok b0 hb0]at hib;simp at hib
   obtain⟨hg,hrec⟩:=hok2 b0 (by rw[eB];rfl) i hib he (λx hx _=>(pulled b0 hb0).2.2 x (by simp[hx]));obtain⟨⟨i',ji⟩,hh,e'⟩:=List.mem_map.1 (ml hg);dsimp only at e';subst e';obtain⟨r,hr⟩:=jK hh;obtain⟨g,hC,hD,hl⟩:=hall _ hr
   have hSA':SA P ops (SG P ops K d (pU i' B)) (pre++[(i',ji)]) f h:=by
    refine mD (SA.mono (λf h H=> ?_) hSA)
    have H': ∀i js,(i,js)∈jt B->eX P ops i (λf' h'=>(∀j∈js,fg P ops f' h' j)/\SG P ops K d (pU i B) f' h') f h:=by obtain⟨x,r',e,-⟩:=hok1 b0 hb0;subst eB e;exact H
    exact H' i' ji hh
   have sub:(pre++[(i',ji)]).Sublist (pre++((i',ji)::r)):=List.Sublist.append_left ak _;have hm':(i',ji)∈pre++[(i',ji)]:=ak;have step:=FE (K:=SG P ops K d (pU i' B)) (pre++[(i',ji)]) f h (g.sub sub) hm' (λx hx=>(pulled _ hr).2.2 x (sub.subset hx)) (λ_ x hx=> ?_) (λj hj hjn x hx=> ?_) hSA'
   ·refine step.wpOp hs (λo ho=>hd _ o ho) λf' h' a' w' hs' hk=> ?_
    have ep:(pre++[(i',ji)]).filter (λz=> !(Nat.beq z.1 i'))=pre:=by have:=lY pre [(i',ji)] i';rw[kV nopre]at this;simpa using this
    rw[ep]at hk;cases d with
    |zero=>exact hrec.elim
    |succ d=>
     obtain⟨-,hpe,hb⟩:=hrec;obtain⟨c0,C,eC⟩: ∃c C,pU i' B=c::C:=by cases hq:pU i' B with|nil=>exact absurd hq hg|cons c C=>exact⟨c,C,rfl⟩
     rw[eC]at hk hpe hb;refine ih d (pre++lf ops c0) ((c0::C).map (iT ops)) _ f' h' a' w' ak (λx hx=> ?_) (λb hb=> ?_) hb (mD hk.2) hs'
     ·rcases List.mem_append.1 hx with hx|hx
      ·exact hpre x hx
      ·exact qX _ x hx
     ·obtain⟨c,hc,rfl⟩:=List.mem_map.1 hb;rw[hpe c0 ak c hc,List.append_assoc,oK];obtain⟨js,hjs⟩:=nK (i:=i') (l:=c) (B:=B) (by rw[eC];exact hc);obtain⟨g,hC,hD,hl⟩:=hall _ hjs;obtain⟨hm,hr',hanc⟩:=pulled _ hjs;have hnd:=g.nodup
      have e:pre++c=di (pre++((i',js)::c)) i':=by
       rw[lY,kV nopre]
       congr 1
       rw[List.map_append,List.nodup_append]at hnd
       have:i'∉ids c:=by have:=hnd.2.1;simp only[List.map_cons,List.nodup_cons]at this;exact this.1
       have e2:di ((i',js)::c) i'=di c i':=ak;rw[e2];exact(kV this).symm
      rw[e];exact⟨g.sub List.filter_sublist,hC.drop _ hm,hD.drop hr',by have:=fS hm;omega⟩
   ·have hx':x∈pre\/x=(i',ji):=by
     have:=(List.takeWhile_sublist _).subset hx;simpa using this
    rcases hx' with hx'|rfl
    ·exact hpre x hx'
    ·exfalso;have:=List.all_eq_true.1 List.all_takeWhile _ hx;simp at this
   ·cases hb:anc j x.1 with
    |false=>rfl
    |true=>
     exfalso;obtain⟨o,ho,_⟩:=g.self (i',ji) ak j hj;have hjl:j<ops.size:=(Array.getElem?_eq_some_iff.1 ho).1
     have hjn':j∉ids (pre++((i',ji)::r)):=by
      obtain⟨x',r',e',-,hjr⟩:=hok1 _ hr;simp only[List.cons.injEq]at e';obtain⟨rfl,rfl⟩:=e';intro hm;have hm:j∈ids pre\/j=i'\/j∈ids r:=by simpa using hm
      have hjn: ¬(j∈ids pre\/j=i'):=by simpa using hjn
      rcases hm with hm|hm|hm
      ·exact hjn (.inl hm)
      ·exact hjn (.inr hm)
      ·exact hjr j hj hm
     exact kX hA hD j hjl hjn' x.1 hb (List.mem_map.2 ⟨x,sub.subset hx,rfl⟩)
end
section
def Gs{α:Type}(r:α->α->Bool):List α->Bool
 | []=>true
 |x::l=>l.all (r x)&&Gs r l
def wo{α:Type}{r:α->α->Bool}: ∀{l:List α},Gs r l=true->l.Pairwise λx y=>r x y=true:=by
 intro l
 induction l with
 |nil=>intro _;exact List.Pairwise.nil
 |cons x l ih=>
  intro h;simp only[Gs,Bool.and_eq_true,List.all_eq_true]at h;exact List.Pairwise.cons h.1 (ih h.2)
def jv(A:List Nat)(j x:Nat):Bool:=(A.getD j 0).testBit x
def GY(ops:List Oper)(A:List Nat):Bool:=
 ops.zipIdx.all λ(o,j)=>Nat.blt (A.getD j 0) (2^j)&&
  o.after.toList.all (λe=> !Region.binds .any e||(Nat.blt e.on j&&jv A j e.on))&&
  (List.range j).all λx=> !jv A j x||o.after.toList.any λe=>Region.binds .any e&&(Nat.beq e.on x||jv A e.on x)
def wn(ops:Array Oper)(anc:Nat->Nat->Bool)(x y:Nat×List Nat):Bool:=vW ops anc x y&& !anc x.1 y.1&& !Nat.beq x.1 y.1
def Ep(ops:Array Oper)(j:Nat):Bool:=match ops[j]? with|some o=>jM ops o.dst o|none=>false
def FH(ops:Array Oper)(anc:Nat->Nat->Bool)(alt:List (Nat×List Nat)):Bool:=
 Gs (wn ops anc) alt&&alt.all (λx=>ce ops x.1||x.2.isEmpty)&&
 alt.all (λy=>y.2.all λj=>Ep ops j&&alt.all λx=>Nat.beq x.1 j||anc j x.1||anc x.1 y.1||pN ops j x.1)&&
 (List.range ops.size).all (λi=>(ids alt).contains i)&&(ids alt).all λi=>Nat.blt i ops.size
def Gx(ops:Array Oper)(anc:Nat->Nat->Bool)(A:List (List (Nat×List Nat))):Bool:=
 A.all λrem=>rem.all λi=> !ce ops i.1||rem.any (λx=>ce ops x.1&&anc i.1 x.1)||
  A.any λalt=>(jA alt i.1).all (λx=> !ce ops x.1)&&Gs (λx y=> !ce ops x.1|| !ce ops y.1||anc y.1 x.1) (di alt i.1)
def Hw(ops:Array Oper)(anc:Nat->Nat->Bool)(rec:List kC->Bool)(B:List kC):Bool:=
 B.all (·.isEmpty)||(B.all (λb=>match b with| []=>false|x::r=>ce ops x.1&&x.2.all λj=> !xU j r)&&
  (match B with| []=>true|b0::_=>b0.all λy=> !ce ops y.1||b0.any (λx=>ce ops x.1&&anc y.1 x.1)||(!(pU y.1 B).isEmpty&&rec (pU y.1 B))))
def yq(ops:Array Oper)(anc:Nat->Nat->Bool):Nat->List kC->Bool
 |0,_=>false
 |n+1,A=> !A.isEmpty&&(match A with| []=>true|a::_=>A.all λb=>decide (lf ops b=lf ops a))&&Hw ops anc (yq ops anc n) (A.map (iT ops))
def uR(ops:Array Oper)(alts:List (List (Nat×List Nat))):Bool:=
 let A:=(Region.before ops).toList
 GY ops.toList A&& !alts.isEmpty&&alts.all (FH ops (jv A))&&(match Nat.ble 5 alts.length with|true=>yq ops (jv A) (ops.size+1) alts|false=>Gx ops (jv A) alts)
def qw{ops:Array Oper}{anc:Nat->Nat->Bool}: ∀(n:Nat) (A:List kC),yq ops anc n A=true->IL ops anc n A
 |0,_,h=>by simp[yq]at h
 |n+1,A,h=>by
  unfold yq at h;simp only[Bool.and_eq_true]at h;obtain⟨⟨h1,h2⟩,h3⟩:=h;refine⟨by intro e;subst e;simp at h1,?_,?_⟩
  ·cases A with
   |nil=>intro a ha;simp at ha
   |cons a0 A=>
    simp only[List.all_eq_true,decide_eq_true_eq]at h2;intro a ha b hb;rw[h2 a ha,h2 b hb]
  ·unfold Hw at h3;simp only[Bool.or_eq_true,Bool.and_eq_true,List.all_eq_true]at h3;rcases h3 with h3|⟨h3,h4⟩
   ·exact .inl λb hb=>by simpa using h3 b hb
   ·refine .inr ⟨λb hb=> ?_,λb0 hb0 y hy he hmin=> ?_⟩
    ·have:=h3 b hb;cases b with
     |nil=>simp at this
     |cons x r=>
      simp only[Bool.and_eq_true,List.all_eq_true,Bool.not_eq_true']at this;refine⟨x,r,rfl,this.1,λj hj hm=> ?_⟩;have h5:=this.2 j hj;rw[ow.2 hm]at h5;simp at h5
    ·generalize hB:A.map (iT ops)=B at h4 hb0 ⊢;cases B with
     |nil=>simp at hb0
     |cons b B=>
      simp only[List.head?_cons,Option.mem_some_iff]at hb0;subst hb0;simp only[List.all_eq_true,Bool.or_eq_true,Bool.not_eq_true',List.any_eq_true,Bool.and_eq_true]at h4;obtain⟨z,hz,rfl⟩:=List.mem_map.1 hy;rcases h4 z hz with(h5|⟨x,hx,h5,h6⟩)|⟨h5,h6⟩
      ·rw[he]at h5;simp at h5
      ·rw[hmin x hx h5]at h6;simp at h6
      ·exact⟨by intro e;rw[e]at h5;simp at h5,qw n _ h6⟩
def uo{ops:Array Oper}{A:List Nat}(h:GY ops.toList A=true):wi ops (jv A):=by
 have key: ∀j o,ops[j]? =some o->A.getD j 0<2^j/\(∀e∈o.after,Region.binds .any e=true->e.on<j/\jv A j e.on=true)/\
   ∀x,x<j->jv A j x=true-> ∃e∈o.after,Region.binds .any e=true/\(e.on=x\/jv A e.on x=true):=by
  intro j o ho
  have:=List.all_eq_true.1 h (o,j) (by rw[List.mem_iff_getElem?];exact⟨j,by simp[List.getElem?_zipIdx,ho]⟩)
  simp only[Bool.and_eq_true,List.all_eq_true]at this;obtain⟨⟨h1,h2⟩,h3⟩:=this;refine⟨Nat.le_of_ble_eq_true h1,λe he hb=> ?_,λx hx hax=> ?_⟩
  ·have:=h2 e (by simpa using he);simp only[hb,Bool.not_true,Bool.false_or,Bool.and_eq_true]at this;exact⟨Nat.le_of_ble_eq_true this.1,this.2⟩
  ·have:=h3 x (by simpa using hx);simp only[hax,Bool.not_true,Bool.false_or,List.any_eq_true,Bool.and_eq_true,Bool.or_eq_true]at this;obtain⟨e,he,hb,hh⟩:=this;exact⟨e,by simpa using he,hb,hh.imp Nat.eq_of_beq_eq_true id⟩
 refine⟨λj o x ho hx=> ?_,λj o ho e he hb=>(key j o ho).2.1 e he hb⟩;obtain⟨h1,h2,h3⟩:=key j o ho
 have hxj:x<j:=by
  rcases Nat.lt_or_ge x j with hlt|hge
  ·exact hlt
  ·have hp:2^j<=2^x:=Nat.pow_le_pow_right ah hge;have:=Nat.testBit_lt_two_pow (i:=x) (x:=A.getD j 0) ah;unfold jv at hx;rw[this]at hx;simp at hx
 obtain⟨e,he,hb,hh⟩:=h3 x hxj hx;exact⟨e,he,hb,(h2 e he hb).1,hh⟩
def sD{ops:Array Oper}{anc:Nat->Nat->Bool}{alt:List (Nat×List Nat)}(h:FH ops anc alt=true):
  nC ops anc alt/\kF ops alt (Array.replicate ops.size false)/\se ops alt/\alt.length<=ops.size:=by
 simp only[FH,Bool.and_eq_true,List.all_eq_true]at h;obtain⟨⟨⟨⟨h1,h2⟩,h3⟩,h4⟩,h5⟩:=h;have h1:=wo h1
 have hall: ∀i,i<ops.size->i∈ids alt:=λi hi=>by have:=h4 i (List.mem_range.2 hi);exact List.contains_iff_mem.1 this
 have hlt: ∀i∈ids alt,i<ops.size:=λi hi=>Nat.le_of_ble_eq_true (h5 i hi)
 have hnd:(ids alt).Nodup:=by rw[List.nodup_iff_pairwise_ne,List.pairwise_map];refine h1.imp λ{x y} hxy e=> ?_;simp[wn,e]at hxy
 refine⟨⟨hnd,h1.imp λ{x y} hxy=> ?_,λx hx he=> ?_,λy hy j hj x hx hne=> ?_,λy hy j hj=> ?_,h1.imp λ{x y} hxy=> ?_⟩,⟨ak,λi hi=> ?_,hlt⟩,λj o ho hj=> ?_,?_⟩
 ·simp only[wn,Bool.and_eq_true]at hxy;exact hxy.1.1
 ·have:=h2 x hx;simpa[he]using this
 ·have:=(h3 y hy j hj).2 x hx;simp only[Bool.or_eq_true]at this;rcases this with((this|this)|this)|this
  ·exact absurd (Nat.eq_of_beq_eq_true this) hne
  ·exact .inl this
  ·exact .inr (.inl this)
  ·exact .inr (.inr this)
 ·have hs:=(h3 y hy j hj).1;unfold Ep at hs;split at hs
  ·rename_i o ho;exact⟨o,ho,hs⟩
  ·simp at hs
 ·simp only[wn,Bool.and_eq_true,Bool.not_eq_true']at hxy;exact hxy.1.2
 ·simp[hall i hi,hi]
 ·exact absurd (hall j (Array.getElem?_eq_some_iff.1 ho).1) hj
 ·have:(ids alt).length<=(List.range ops.size).length:=hnd.length_le_of_subset λi hi=>by simpa using hlt i hi
  simpa using this
def Ax{ops:Array Oper}{anc:Nat->Nat->Bool}{A:List (List (Nat×List Nat))}(h:Gx ops anc A=true):Io ops anc A:=by
 intro rem hrem i hi he hmin;obtain⟨x,hx,rfl⟩:=List.mem_map.1 hi;have:=List.all_eq_true.1 (List.all_eq_true.1 h rem hrem) x hx;simp only[he,Bool.not_true,Bool.false_or,Bool.or_eq_true,List.any_eq_true,Bool.and_eq_true]at this;rcases this with⟨y,hy,h1,h2⟩|⟨alt,halt,h1,h2⟩
 ·rw[hmin y hy h1]at h2;simp at h2
 ·refine⟨alt,halt,λy hy=> ?_,(wo h2).imp λ{x y} hxy hx hy=> ?_⟩
  ·have:=List.all_eq_true.1 h1 y hy;simpa using this
  ·simpa[hx,hy]using hxy
def mK{P:Program}{X:List (Nat×cY)}(hX:ug P X){ops:Array Oper}{i:Nat}{o:Oper}{ρ:Fr}{h:aH}{K:Fr->aH->Prop}{κ:FF->aH->Prop}
  (ho:ops[i]? =some o) (hk: ∀ρ h,K ρ h->κ (get ρ) h) (H:oS P X ops o ρ h K):eX P ops i κ (get ρ) h:=by
 have run: ∀ρ':Fr,get ρ'=get ρ->km ops o (get ρ)->(Im P X o ρ' h λv h'=>K (put ρ' o.dst v) h')->eX P ops i κ (get ρ) h:=by
  intro ρ' hρ hy H;unfold Im at H;split at H
  ·rename_i he;refine⟨o,ho,.inr ⟨he,hy,?_⟩⟩;have:=uH hX H;rw[qT,hρ]at this;exact this.mono λv h' hh=>by have:=hk _ _ hh;rwa[nG,hρ]at this
  ·rename_i he;obtain⟨v,hv,hK⟩:=oO H;rw[qT,hρ]at hv;refine⟨o,ho,.inl ⟨v,.inl ⟨hy,hv⟩,λe=>by rw[he]at e;simp at e,?_⟩⟩;have:=hk _ _ hK;rwa[nG,hρ]at this
 have skip: ∀ρ':Fr,get ρ'=get ρ->vv ops o (get ρ)->K (put ρ' o.dst undef) h->eX P ops i κ (get ρ) h:=by intro ρ' hρ hn H;refine⟨o,ho,.inl ⟨undef,.inr ⟨hn,rfl⟩,λ_=>hn,?_⟩⟩;have:=hk _ _ H;rwa[nG,hρ]at this
 unfold oS zH at H;split at H
 ·rename_i hg;exact run ρ rfl (by simp[km,hg]) H
 ·rename_i j want hg;split at H
  ·exact H.elim
  ·rename_i d hd;split at H
   ·rename_i b hb;have hy:b=want->km ops o (get ρ):=λe=>by subst e;simp only[km,hg];exact⟨d,hd,hb⟩
    have hn:b≠want->vv ops o (get ρ):=λe=>by simp only[vv,hg];exact⟨d,_,hd,hb,λh=>e (by simpa using h)⟩
    split at H
    ·rcases dY H with⟨rfl,H⟩|⟨rfl,H⟩
     ·exact run _ (nJ hb) (hy rfl) H
     ·exact skip _ (nJ hb) (hn ak) H
    ·rcases dY H with⟨rfl,H⟩|⟨rfl,H⟩
     ·exact skip _ (nJ hb) (hn ak) H
     ·exact run _ (nJ hb) (hy rfl) H
   ·rename_i vs hb;exact skip ρ rfl (by simp only[vv,hg];exact⟨d,_,hd,hb,ak⟩) H
   ·exact H.elim
def qx{P:Program}{ops:Array Oper}{ρ:Fr}{h:aH}{K:Prop}: ∀{js:List Nat},fH P ops ρ h js K->(∀j∈js,fg P ops (get ρ) h j)/\K:=by
 intro js
 induction js with
 |nil=>intro H;exact⟨ak,H⟩
 |cons j js ih=>
  intro H;unfold fH at H;split at H
  ·exact H.elim
  rename_i o ho;split at H
  ·exact H.elim
  rename_i d hd;split at H
  ·exact H.elim
  rename_i v hv
  have yes:km ops o (get ρ)->(vM P o.op ρ h λv'=>v'=v/\fH P ops ρ h js K)->(∀k∈j::js,fg P ops (get ρ) h k)/\K:=by
   intro hy H;obtain⟨u,hu,rfl,hK⟩:=oO H;rw[qT]at hu;have:=ih hK;refine⟨λk hk=> ?_,this.2⟩;rcases List.mem_cons.1 hk with rfl|hk
   ·exact⟨o,d,u,ho,hd,hv,.inl ⟨hy,hu⟩⟩
   ·exact this.1 k hk
  have no:vv ops o (get ρ)->(v=undef/\fH P ops ρ h js K)->(∀k∈j::js,fg P ops (get ρ) h k)/\K:=by
   rintro hn ⟨rfl,hK⟩;have:=ih hK;refine⟨λk hk=> ?_,this.2⟩;rcases List.mem_cons.1 hk with rfl|hk
   ·exact⟨o,d,undef,ho,hd,hv,.inr ⟨hn,rfl⟩⟩
   ·exact this.1 k hk
  split at H
  ·rename_i hg;exact yes (by simp[km,hg]) H
  ·rename_i i want hg;split at H
   ·exact H.elim
   rename_i g hgd;split at H
   ·rename_i b hb;have hy:b=want->km ops o (get ρ):=λe=>by subst e;simp only[km,hg];exact⟨g,hgd,hb⟩
    have hn:b≠want->vv ops o (get ρ):=λe=>by simp only[vv,hg];exact⟨g,_,hgd,hb,λh=>e (by simpa using h)⟩
    split at H
    ·rcases dY H with⟨rfl,H⟩|⟨rfl,H⟩
     ·exact yes (hy rfl) H
     ·exact no (hn ak) H
    ·rcases dY H with⟨rfl,H⟩|⟨rfl,H⟩
     ·exact no (hn ak) H
     ·exact yes (hy rfl) H
   ·rename_i vs hb;exact no (by simp only[vv,hg];exact⟨g,_,hgd,hb,ak⟩) H
   ·exact H.elim
def wh{P:Program}{X:List (Nat×cY)}(hX:ug P X){ops:Array Oper}{K:Fr->aH->Prop}{κ:FF->aH->Prop}(hk: ∀ρ h,K ρ h->κ (get ρ) h):
  ∀{alt:List (Nat×List Nat)} {ρ:Fr} {h:aH},FY P X ops alt ρ h K->SA P ops κ alt (get ρ) h:=by
 intro alt
 induction alt with
 |nil=>intro ρ h H;exact hk _ _ H
 |cons x alt ih=>
  intro ρ h H;obtain⟨i,js⟩:=x;unfold FY at H;split at H
  ·exact H.elim
  rename_i o ho
  exact mK hX ho (λρ h hh=>by have:=qx hh;exact⟨this.1,ih this.2⟩) H
def yg{P:Program}{X:List (Nat×cY)}{ops:Array Oper}{K:Fr->aH->Prop}{ρ:Fr}{h:aH}:
  ∀{alts:List (List (Nat×List Nat))},Fv P X ops alts ρ h K-> ∀alt∈alts,FY P X ops alt ρ h K:=by
 intro alts
 induction alts with
 |nil=>intro _ alt ha;simp at ha
 |cons a l ih=>
  intro H alt ha;cases l with
  |nil=>simp only[List.mem_singleton]at ha;subst ha;exact H
  |cons b l=>
   rcases List.mem_cons.1 ha with rfl|ha
   ·exact H.1
   ·exact ih H.2 alt ha
def uu{P:Program}{X:List (Nat×cY)}{ops:Array Oper}{rec:List kC->Fr->aH->Prop}{A:List kC}{ρ:Fr}{h:aH}:
  ∀{l:kC},FR P X ops rec A l ρ h-> ∀i js,(i,js)∈l->(match ops[i]? with|none=>False|some o=>oS P X ops o ρ h λρ' h'=>fH P ops ρ' h' js (rec (pU i A) ρ' h'))
 | [],_,i,js,hm=>by simp at hm
 | [x],H,i,js,hm=>by simp only[List.mem_singleton]at hm;subst hm;exact H
 |x::y::l,H,i,js,hm=>by
  rcases List.mem_cons.1 hm with e|hm
  ·subst e;exact H.1
  ·exact uu H.2 i js hm
def wd{P:Program}{X:List (Nat×cY)}(hX:ug P X){ops:Array Oper}{K:Fr->aH->Prop}{κ:FF->aH->Prop}(hk: ∀ρ h,K ρ h->κ (get ρ) h):
  ∀(n:Nat) (A:List kC) (ρ:Fr) (h:aH),Ib P X ops K n A ρ h->SG P ops κ n A (get ρ) h
 |0,_,_,_,H=>H.elim
 |_+1,[],_,_,H=>H.elim
 |n+1,a::A,ρ,h,H=>by
  unfold Ib at H;unfold SG;refine wh hX (λρ h hh=> ?_) H;unfold GU;rw[List.map_cons];generalize hp:iT ops a=p at hh;cases p with
  |nil=>exact hk _ _ hh
  |cons x r=>
   dsimp only at hh ⊢;intro i js hm;have:=uu hh i js (by rw[List.map_cons,hp];exact hm);split at this
   ·exact this.elim
   ·rename_i o ho;refine mK hX ho (λρ h hh=> ?_) this;have h2:=qx hh;refine⟨h2.1,?_⟩;have h3:=wd hX hk n _ _ _ h2.2;rw[List.map_cons,hp]at h3;exact h3
def lift(n:Nat)(w0:World)(K:Exit->Fr->aH->Prop):Exit->Act->World->Prop:=λe a w=> ∃ρ h,pZ n w0 (get ρ) h a w/\K e ρ h
def wB{L:List Nat}{ρ:Fr}: ∀t v,get (cut L ρ) t=some v->get ρ t=some v:=by
 intro t v
 induction L with
 |nil=>intro h;simp[cut,get]at h
 |cons k L ih=>
  intro h;simp only[cut]at h;split at h
  ·rename_i u hu;simp only[get]at h;split at h
   ·rename_i hb;rw[<-Nat.eq_of_beq_eq_true hb,<-h];exact hu
   ·exact ih h
  ·exact ih h
def pZ.weaken{n:Nat}{w0:World}{f g:FF}{h:aH}{a:Act}{w:World}(s:pZ n w0 f h a w)(hg: ∀t v,g t=some v->f t=some v):pZ n w0 g h a w:=
 ⟨λt v hv=>s.agree t v (hg t v hv),s.defers,s.size,s.same,s.heap⟩
def sX{q:Option (List Nat)}{ρ:Fr}: ∀t v,get (DB q ρ) t=some v->get ρ t=some v:=by
 intro t v h;unfold DB at h;split at h
 ·exact wB t v h
 ·exact h
def cX(T:bj)(n:Nat):Code->Bool
 | .region id ops draw=>ops.toList.all (oq n)&&(!draw||(match Df T.alts id with|some ls=>uR ops ls|none=>false))
 | .seq a b=>cX T n a&&cX T n b
 | .cond _ a b=>cX T n a&&cX T n b
 | .block _ c=>cX T n c
 | .loop c=>cX T n c
 |_=>true
def tO{P:Program}{ops:Array Oper}{Q:Exit->Act->World->Prop}{i:Nat}{o:Oper}(ho:ops[i]? =some o)(rest:List Oper)(a:Act)(w:World):
  wpOp P ops Q i (wpList P ops Q rest) a w->wpList P ops Q (o::rest) a w:=by
 intro h;simp only[wpOp,ho]at h;exact h
def xn{P:Program}{X:List (Nat×cY)}(hX:ug P X){ops:Array Oper}{n:Nat}{w0:World}{K:Exit->Fr->aH->Prop}:
  ∀(l:List Oper) (ρ:Fr) (h:aH) (a:Act) (w:World),(∀o∈l,o∈ops.toList/\oq n o=true)->Ia P X ops l ρ h (λρ' h'=>K .normal ρ' h')->pZ n w0 (get ρ) h a w->
   wpList P ops (lift n w0 K) l a w:=by
 intro l
 induction l with
 |nil=>intro ρ h a w _ H s;exact wpList_nil ⟨ρ,h,s,H⟩
 |cons o rest ih=>
  intro ρ h a w hl H s;obtain⟨hm,hd⟩:=hl o ak;obtain⟨i,hi⟩:=List.mem_iff_getElem?.1 hm;have hi:ops[i]? =some o:=by simpa using hi
  refine tO hi rest a w ?_
  have st:eX P ops i (λf h=> ∃ρ,get ρ=f/\Ia P X ops rest ρ h (λρ' h'=>K .normal ρ' h')) (get ρ) h:=
   mK hX hi (λρ h hh=>⟨ρ,rfl,hh⟩) H
  refine st.wpOp s (λo' ho'=>by rw[hi]at ho';simp only[Option.some.injEq]at ho';subst ho';exact hd) λf' h' a' w' s' ⟨ρ',hρ,hh⟩=> ?_;subst hρ;exact ih ρ' h' a' w' (λo ho=>hl o (by simp[ho])) hh s'
def CN{P:Program}{X:List (Nat×cY)}{T:bj}{S:bD}(hS: ∀κ ρ h,S κ ρ h->κ ρ h)(hX:ug P X)(hmix:P.follows .mixedOrders=true){n:Nat}:
  ∀(c:Code),cX T n c=true-> ∀(K:Exit->Fr->aH->Prop) (ρ:Fr) (h:aH),E P X T S c K ρ h-> ∀(a:Act) (w w0:World),pZ n w0 (get ρ) h a w->c.wp P (lift n w0 K) a w:=by
 intro c
 induction c with
 |skip=>intro _ K ρ h H a w w0 s;exact wp_skip ⟨ρ,h,s,H⟩
 |region id ops draw=>
  intro hok K ρ h H a w w0 s;simp only[cX,Bool.and_eq_true,List.all_eq_true]at hok;unfold E at H;split at H
  ·refine wp_region_list (xn hX ops.toList ρ h a w (λo ho=>⟨ho,hok.1 o ho⟩) H s)
  ·split at H
   case h_2=>exact H.elim
   rename_i ls hls;have hal:uR ops ls=true:=by have:=hok.2;simpa[hls]using this
   simp only[uR,Bool.and_eq_true,Bool.not_eq_true',List.all_eq_true]at hal;obtain⟨⟨⟨h1,h2⟩,h3⟩,h4⟩:=hal;refine wp_region_any hmix ?_;have s':pZ n w0 (get ρ) h a {w with drawn:=w.drawn+1}:=⟨s.agree,s.defers,s.size,s.same,s.heap⟩;split at h4
   ·rename_i hle;rw[hle]at H;have ho:=qw _ _ h4;have hG:=wd hX (κ:=λf h=> ∃ρ,get ρ=f/\K .normal ρ h) (λρ h hh=>⟨ρ,rfl,hh⟩) _ _ _ _ H;obtain⟨hne,hpe,hob⟩:=ho;cases ls with
    |nil=>exact absurd rfl hne
    |cons a0 ls=>
     refine G9 (K:=λf h=> ∃ρ,get ρ=f/\K .normal ρ h) (uo h1) (λi o ho=>hok.1 o (by have:=Array.mem_of_getElem? ho;simpa using this))
      (λf h a w hs ⟨ρ,hρ,hK⟩=>⟨ρ,h,by rw[hρ];exact hs,hK⟩) ops.size ops.size (lf ops a0) ((a0::ls).map (iT ops)) _ (get ρ) h a _ ak (qX a0) (λb hb=> ?_) hob hG s'
     obtain⟨c,hc,rfl⟩:=List.mem_map.1 hb;rw[hpe a0 ak c hc,oK];exact sD (h3 c hc)
   rename_i hle;rw[hle]at H
   refine IR (K:=λf h=> ∃ρ,get ρ=f/\K .normal ρ h) (uo h1) (λi o ho=>hok.1 o (by have:=Array.mem_of_getElem? ho;simpa using this))
    (λf h a w hs ⟨ρ,hρ,hK⟩=>⟨ρ,h,by rw[hρ];exact hs,hK⟩) ops.size ls _ (get ρ) h a _ (by intro e;rw[e]at h2;simp at h2) (λrem hrem=> ?_) (Ax h4) s'
   obtain⟨g,hC,hD,hl⟩:=sD (h3 rem hrem);exact⟨g,hC,hD,hl,wh hX (λρ h hh=>⟨ρ,rfl,hh⟩) (yg H rem hrem)⟩
 |seq x y ihx ihy=>
  intro hok K ρ h H a w w0 s;simp only[cX,Bool.and_eq_true]at hok;refine wp_seq (wp_mono (ihx hok.1 _ ρ h H a w w0 s) λe a' w' hh=> ?_);obtain⟨ρ',h',s',hK⟩:=hh;cases e with
  |normal=>
   simp only[jS]at hK;split at hK
   ·exact ihy hok.2 K _ h' (hS _ _ _ hK) a' w' w0 (s'.weaken wB)
   ·exact ihy hok.2 K _ h' hK a' w' w0 s'
  |_=>exact⟨ρ',h',s',hK⟩
 |cond c x y ihx ihy=>
  intro hok K ρ h H a w w0 s;simp only[cX,Bool.and_eq_true]at hok;unfold E at H;split at H
  case h_2=>exact H.elim
  rename_i t ht
  have hc:a.eval c= .bool t:=by rw[qT]at ht;exact jn s.agree #[c] c ak _ ht
  refine wp_cond hc ?_;rcases dY H with⟨rfl,H⟩|⟨rfl,H⟩
  ·exact ihx hok.1 K ρ h H a w w0 s
  ·exact ihy hok.2 K ρ h H a w w0 s
 |block id c ih=>
  intro hok K ρ h H a w w0 s;refine wp_block (wp_mono (ih hok _ ρ h H a w w0 s) λe a' w' hh=> ?_);obtain⟨ρ',h',s',hK⟩:=hh;cases e with
  |exit i=>
   simp only[Exit.inBlock];by_cases e:i=id
   ·subst e;simp only[cA,Nat.beq_refl]at hK;rw[if_pos rfl];exact⟨ρ',h',s',hK⟩
   ·have hb:Nat.beq i id=false:=by
     cases hb:Nat.beq i id with
     |false=>rfl
     |true=>exact absurd (Nat.eq_of_beq_eq_true hb) e
    simp only[cA,hb]at hK;rw[if_neg e];exact⟨ρ',h',s',hK⟩
  |_=>exact⟨ρ',h',s',hK⟩
 |loop c ih=>
  intro hok K ρ h H a w w0 s;obtain⟨m,H⟩:=H;refine wp_loop_rounds m ?_
  have key: ∀(m:Nat) (ρ:Fr) (h:aH) (a:Act) (w:World),jw S (E P X T S c) (df T c) K m ρ h->pZ n w0 (get ρ) h a w->Code.rounds P c (lift n w0 K) m a w:=by
   intro m
   induction m with
   |zero=>intro ρ h a w H _;exact H.elim
   |succ m ihm=>
    intro ρ h a w H s;rw[rounds_succ];refine wp_mono (ih hok _ ρ h H a w w0 s) λe a' w' hh=> ?_;obtain⟨ρ',h',s',hK⟩:=hh;cases e with
    |normal=>exact ihm _ h' a' w' (hS _ _ _ hK) (s'.weaken sX)
    |_=>exact⟨ρ',h',s',hK⟩
  exact key m _ h a w (hS _ _ _ H) (s.weaken sX)
 |exit id=>intro _ K ρ h H a w w0 s;exact wp_exit ⟨ρ,h,s,H⟩
 |ret=>intro _ K ρ h H a w w0 s;exact wp_ret ⟨ρ,h,s,H⟩
 |label l=>intro _ K ρ h H a w w0 s;exact wp_label ⟨ρ,h,s,H⟩
 |rangeFunc=>intro _ K ρ h H;exact H.elim
 |scope=>intro _ K ρ h H;exact H.elim
 |goto=>intro _ K ρ h H;exact H.elim
 |refuse=>intro _ K ρ h H;exact H.elim
def rv(a:Act):ResultVar->Sem Value
 | .tmp t=>pure (a.tmps.getD t undef)
 | .cell x t=>do loadVar t (<-asAddr (a.tmps.getD x undef))
def vi(fn:Func)(a:Act):results fn a.tmps=(do let vs <-fn.results.mapM (rv a);pure (if h:vs.size=1 then vs[0]else .tuple vs)):=by
 unfold results
 congr 1
def vq{P:Program}{n:Nat}{w0:World}{f:FF}{a:Act}{w:World}: ∀{rs:List ResultVar} {ρ:Fr} {h:aH} {κ:List Value->Prop},vu P rs ρ h κ->pZ n w0 f h a w->get ρ=f->
  ∃vs,κ vs/\(rs.mapM (rv a)).run P w= .ok vs w:=by
 intro rs
 induction rs with
 |nil=>intro ρ h κ H s hρ;exact⟨[],H,ak⟩
 |cons r rs ih=>
  intro ρ h κ H s hρ;cases r with
  |tmp t=>
   obtain⟨v,hv,H⟩:=aZ H;obtain⟨vs,hK,hr⟩:=ih H s hρ;refine⟨v::vs,hK,?_⟩;have:=s.agree t v (by rw[<-hρ];exact hv);simp only[List.mapM_cons,rv,Sem.run_bind,Sem.run_pure,Result.andThen_ok,hr,this]
  |cell x t=>
   simp only[vu]at H;split at H
   case h_2=>exact H.elim
   rename_i p hp;obtain⟨v,hK1,hload⟩:=mV H;obtain⟨vs,hK,hr⟩:=ih hK1 s hρ;refine⟨v::vs,hK,?_⟩;have hx:=s.agree x _ (by rw[<-hρ];exact hp);have hl:=hload w s.heap;cases p with
   |none=>simp[sF]at H;split at H<;>(try split at H)<;>(try split at H)<;>(try split at H)<;>(try split at H)<;>first|exact H.elim|skip
   |some b=>
    have hl':(loadVar t b).run P w= .ok v w:=by simpa[Instr.loadAt,Instr.sureAddr]using hl
    have ha:(asAddr (.pointer (some b))).run P w= .ok b w:=rfl;simp only[List.mapM_cons,rv,Sem.run_bind,hx,ha,Result.andThen_ok,hl',hr,Sem.run_pure]
def dk{P:Program}{X:List (Nat×cY)}{T:bj}{f:FuncId}{fn:Func}{c:Code}{args:List Value}{h:aH}{K:Value->aH->Prop}(hX:ug P X)(hmix:P.follows .mixedOrders=true)
  (hf:P.funcs[f]? =some fn) (hb:fn.body=some c) (hok:cX T fn.ntmps c=true) (hsz:Nat.ble args.length fn.ntmps=true)
  (H:E P X T S0 c (fin P fn.results.toList K) (dI 0 args) h):gU P f args h K:=by
 intro w hw;have hsz:=Nat.le_of_ble_eq_true hsz;refine calls_of_wp hf hb ?_
 have hag: ∀(l:List Value) (i:Nat) (t:Nat) (v:Value),get (dI i l) t=some v->i<=t/\l[t-i]? =some v:=by
  intro l
  induction l with
  |nil=>intro i t v h;simp[dI,get]at h
  |cons u l ih=>
   intro i t v h;simp only[dI,get]at h;split at h
   ·rename_i hb;have:=Nat.eq_of_beq_eq_true hb;subst this;simp at h;subst h;simp
   ·rename_i hb;have:=ih (i+1) t v h;have e:t-i=(t-(i+1))+1:=ah;exact⟨ah,by rw[e];simpa using this.2⟩
 have s:pZ fn.ntmps w (get (dI 0 args)) h {tmps:=args.toArray++Array.replicate (fn.ntmps-args.toArray.size) undef,defers:=[]} w:=by
  refine⟨λt v hv=> ?_,rfl,by simp;omega,bT.refl w,hw⟩;have:=(hag args 0 t v hv).2
  have hlt:t<args.length:=by have:=List.getElem?_eq_some_iff.1 this;simpa using this.1
  simp only[Nat.sub_zero]at this
  have e:(args.toArray++Array.replicate (fn.ntmps-args.toArray.size) undef)[t]? =some v:=by rw[Array.getElem?_append_left (by simpa using hlt)];simpa using this
  have e2:args.toArray.size=args.length:=rfl;rw[e2]at e;simp[e]
 refine wp_mono (CN (S:=S0) (λ_ _ _ h=>h) hX hmix c hok _ _ h H _ w w s) λe a w' hh=> ?_;obtain⟨ρ,h',s',hK⟩:=hh
 have fin': ∀{rs:List ResultVar},fn.results.toList=rs->vu P rs ρ h' (λvs=>(match vs with| [v]=>K v h'|vs=>K (.tuple vs.toArray) h'))->
   a.defers=[]/\ ∃v,(results fn a.tmps).run P w'= .ok v w'/\ ∃u,Ending.returned v= .returned u/\bT w w'/\K u w'.heap:=by
  rintro rs rfl hR;obtain⟨vs,hKv,hr⟩:=vq hR s' rfl;refine⟨s'.defers,(if hh:vs.toArray.size=1 then vs.toArray[0]else .tuple vs.toArray),?_,_,rfl,s'.same,?_⟩
  ·rw[vi,Array.mapM_eq_mapM_toList];simp only[Sem.run_bind,Sem.run_map,hr,Result.andThen_ok,Sem.run_pure]
  ·rw[s'.heap]
   match vs,hKv with
   | [],hKv=>exact hKv
   | [v],hKv=>exact hKv
   |u::v::r,hKv=>simpa using hKv
 cases e with
 |normal=>exact fin' rfl hK
 |ret=>exact fin' rfl hK
 |_=>exact hK.elim
def cE{P:Program}{X:List (Nat×cY)}{f:FuncId}{fn:Func}{args:List Value}{h:aH}{K:Value->aH->Prop}{W:Prop}(hX:ug P X)(hmix:P.follows .mixedOrders=true)
  (hf:P.funcs[f]? =some fn) (hb:fn.body=some (fn.body.getD .skip)) (hok:cX ⟨[],[]⟩ fn.ntmps (fn.body.getD .skip)=true) (hsz:Nat.ble args.length fn.ntmps=true)
  (e:E P X ⟨[],[]⟩ S0 (fn.body.getD .skip) (fin P fn.results.toList K) (dI 0 args) h=W) (H:W):gU P f args h K:=
 dk (T:=⟨[],[]⟩) hX hmix hf hb hok hsz (by rw[e];exact H)
end
section
noncomputable def gX(l:List Nat):List (Nat×cY):=List.rec (motive:=λ_=>List (Nat×cY)) [] (λa _ r=>(a,.go)::r) l
noncomputable def gB(P:Program):List Nat->Bool
 | []=>true
 |a::r=>(match P.funcs[a]? with|some f=> !(f.name== "runtime.NumGoroutine")&& !f.body.isNone|none=>false)&&gB P r
def DQ{P:Program}: ∀l,gB P l=true->Aa P (gX l)
 | [],_=>Dt
 |a::r,h=>by
  unfold gB at h;rw[Bool.and_eq_true]at h;have h1:=h.1;split at h1
  ·rename_i f e;rw[Bool.and_eq_true,Bool.not_eq_true',Bool.not_eq_true']at h1;exact jf ⟨f,e,h1.1,h1.2⟩ (DQ r h.2)
  ·exact Bool.noConfusion h1
set_option maxRecDepth 100000 in
noncomputable def X:List (Nat×cY):=(248,.load .u64)::(249,.cas .u64)::(250,.add .i64)::(337,.store)::gX [10,12,13,18,22,23,24,26,27,28,29,33,34,35,36,38,39,40,42,43,45,47,48,51,53,54,55,56,58,59,60,61,64,67,68,70,71,72,73,74,75,76,77,78,79,80,81,82,83,86,87,88,89,90,91,92,93,94,95,99,104,107,108,109,110,111,113,114,117,118,119,120,121,122,123,124,125,126,127,128,129,130,131,132,133,134,135,136,137,138,139,140,141,142,143,145,146,158,159,160,161,162,163,165,166,167,168,170,171,172,173,174,175,176,177,178,179,180,181,182,186,193,194,195,197,198,199,200,201,202,203,204,205,207,208,209,210,212,213,214,215,216,217,218,220,221,223,224,225,226,227,228,229,230,239,240,241,242,243,244,245,246,247,252,254,255,256,257,258,259,260,261,262,263,264,265,266,267,268,269,270,271,272,273,274,275,276,282,283,284,285,286,287,288,289,290,291,292,293,294,295,296,297,298,299,300,301,302,304,305,306,307,308,309,310,311,312,313,314,315,316,317,318,319,320,321,323,324,325,326,327,328,329,330,331,332,333,334,335,336,338,339,340,341,342,348,352,353,354,355,356,357,358,359,360,361,362,363,364,365,368,369,370,397,398,399,400]
def Ih:kW Tryz.prog 248 (.load .u64):=⟨Tryz.f248,Tryz.func248,by kernel_rfl,by kernel_rfl,by kernel_rfl,by kernel_rfl⟩
def IA:kW Tryz.prog 249 (.cas .u64):=⟨Tryz.f249,Tryz.func249,by kernel_rfl,by kernel_rfl,by kernel_rfl,by kernel_rfl⟩
def IQ:kW Tryz.prog 250 (.add .i64):=⟨Tryz.f250,Tryz.func250,by kernel_rfl,by kernel_rfl,by kernel_rfl,by kernel_rfl⟩
def Iv:kW Tryz.prog 337 (.store):=⟨Tryz.f337,Tryz.func337,by kernel_rfl,by kernel_rfl,by kernel_rfl,by kernel_rfl⟩
set_option maxRecDepth 100000 in
def Ed:ug Tryz.prog X:=vh (jf Ih<|jf IA<|jf IQ<|jf Iv<|DQ _ (by kernel_rfl))
def Ei:Tryz.prog.follows .mixedOrders=true:=by kernel_rfl
abbrev Cl:=gU Tryz.prog
def Lq(n:Nat)(ρ:Fr)(h:aH)(T:bj):Code->List Nat->XK->Prop
 | .loop c,[],K=>jw S0 (E Tryz.prog X T S0 c) (df T c) K n ρ h
 | .seq a b,0::p,K=>Lq n ρ h T a p (jS S0 (df T b) (E Tryz.prog X T S0 b K) K)
 | .seq _ b,1::p,K=>Lq n ρ h T b p K
 | .cond _ a _,0::p,K=>Lq n ρ h T a p K
 | .cond _ _ b,1::p,K=>Lq n ρ h T b p K
 | .block i c,0::p,K=>Lq n ρ h T c p (cA i K)
 |_,_,_=>False
@[irreducible] def Lp (f:Func) (T:bj) (p:List Nat) (n:Nat) (ρ:Fr) (h:aH) (K:KK):Prop:=Lq n ρ h T (f.body.getD .skip) p (fin Tryz.prog f.results.toList K)
def cT{f:FuncId}{fn:Func}{args:List Value}{h:aH}{K:KK}{W:Prop}(T:bj)(hf:Tryz.prog.funcs[f]? =some fn)(H:W)(hb:fn.body=some (fn.body.getD .skip):=by kernel_rfl)(hok:cX T fn.ntmps (fn.body.getD .skip)=true:=by kernel_rfl)(hsz:Nat.ble args.length fn.ntmps=true:=by kernel_rfl)(e:E Tryz.prog X T S0 (fn.body.getD .skip) (fin Tryz.prog fn.results.toList K) (dI 0 args) h=W:=by kernel_rfl):Cl f args h K:=
 dk (T:=T) Ed Ei hf hb hok hsz (by rw[e];exact H)
def cN{f:FuncId}{fn:Func}{args:List Value}{h:aH}{K:KK}{W:Prop}(hf:Tryz.prog.funcs[f]? =some fn)(H:W)(hb:fn.body=some (fn.body.getD .skip):=by kernel_rfl)(hok:cX ⟨[],[]⟩ fn.ntmps (fn.body.getD .skip)=true:=by kernel_rfl)(hsz:Nat.ble args.length fn.ntmps=true:=by kernel_rfl)(e:E Tryz.prog X ⟨[],[]⟩ S0 (fn.body.getD .skip) (fin Tryz.prog fn.results.toList K) (dI 0 args) h=W:=by kernel_rfl):Cl f args h K:=cT ⟨[],[]⟩ hf H hb hok hsz e
end
section
variable {i j k l m n o p q r s t:Int}{a b c d:Addr}{u v:Nat}{x y:az}{h:aH}{K:KK}
def F61.T:bj:=⟨[(5,[0,1])],[]⟩
section
variable (a b:Int)(h:aH)(K:KK)
def F61.wk5:Prop:=Cl 108 [al a] h λa c=>ba (some a) λa=>a9 c (.cells #[al b,aA a,.slice none 0 0,.slice none 0 0,aA none,.map none,aA none,aB] 185) λa b=>Cl 110 [al 256] b λb c=>aQ .i64 (some b) λb=>Cl 89 [al b] c λb c=>ba (some b) λb=>Cl 109 [aA b,al 0,al 256] c λb c=> ∃d:az,∃e:Int,b=(.tuple #[aA d,al e])/\aW c (((aw a).add 6).add 0) (aA d) λb=>Cl 111 [au (aw a),al 32,.slice none 0 0] b λb c=>b=aE/\K (.tuple #[au (aw a),al 0]) c
end
def F61.spec(H:aK (i<1) (K (.tuple #[aA none,al 40]) h) (aK (i>8) (K (.tuple #[aA none,al 40]) h) (aK (j<1) (K (.tuple #[aA none,al 60]) h) (aK (j>32768) (K (.tuple #[aA none,al 60]) h) (F61.wk5 i j h K))))):Cl 61 [al i,al j] h K:=cT F61.T Tryz.func61 H
def F74.spec(H:aK (i<=1) (K aC h) (Cl 117 [au a,ap i] h λa b=>ba (some a) λa=>K (aD (!(Option.isNone a))) b)):Cl 74 [au a,ap i] h K:=cN Tryz.func74 H
def F117.spec(H:aK (i<2) (K (aA none) h) (cv (rd h (a.add 2)) λ_ b _=>aK ((ax ((ax i)-2))>=(b:Int)) (K (aA none) h) (cv (rd h (a.add 2)) λb c _=>bf b λb=>0<=(IntKind.wrap .u32 (i-2))/\(IntKind.wrap .u32 (i-2))<(c:Int)/\bI (rd h ((b.add ((IntKind.wrap .u32 (i-2)).toNat*4)).add 0)) λb=>aK (!b) (K (aA none) h) (cv (rd h (a.add 2)) λa b _=>bf a λa=>0<=(IntKind.wrap .u32 (i-2))/\(IntKind.wrap .u32 (i-2))<(b:Int)/\K (au (a.add ((IntKind.wrap .u32 (i-2)).toNat*4))) h)))):Cl 117 [au a,ap i] h K:=cN Tryz.func117 H
def F71.spec(H:aK (i<=1) (Cl 75 [au a] h λa b=>aQ .i64 (some a) λa=>K (al a) b) (Cl 117 [au a,ap i] h λa b=>ba (some a) λa=>aK (!(Option.isNone a)) (bf a λa=>aQ .i64 (rd b (a.add 1)) λa=>K (al a) b) (K (al (-1)) b))):Cl 71 [au a,ap i] h K:=cN Tryz.func71 H
def F72.spec(H:Cl 117 [au a,ap i] h λb c=>ba (some b) λb=>aK (!(Option.isNone b)) (bf b λa=>aQ .u32 (rd c (a.add 2)) λa=>K (ap a) c) (Cl 118 [au a,ap i] c λa b=>aQ .i64 (some a) λa=>K (ap (bB .and .u32 i (IntKind.wrap .u32 a))) b)):Cl 72 [au a,ap i] h K:=cN Tryz.func72 H
def F73.spec(H:Cl 117 [au a,ap i] h λb c=>ba (some b) λb=>aK (!(Option.isNone b)) (bf b λa=>aQ .u32 (rd c (a.add 3)) λa=>K (ap a) c) (Cl 118 [au a,ap i] c λa b=>aQ .i64 (some a) λa=>K (ap (bB .and .u32 i (IntKind.wrap .u32 a))) b)):Cl 73 [au a,ap i] h K:=cN Tryz.func73 H
def F199.T:bj:=⟨[(3,[0,1,6,14,15])],[]⟩
section
variable (n:Nat)(c:Addr)(d f b a:Int)(h:aH)(K:KK)
def F199.wL3:Prop:=Lp Tryz.f199 F199.T [1,1,0,1,0] n [(0,(au c)),(1,(aq d)),(6,(al f)),(14,(al b)),(15,(al a))] h K
def F199.sL3:F199.wL3 (n+1) c d f b a h K=(aK (a<b) (Cl 246 [aq d,al f] h λe g=>aQ .i64 (some e) λe=>f≠0/\ba (rd g (c.add 4)) λi=>Cl 247 [aA i,al (Int.tmod (ax (e+a)) f)] g λg i=>aQ .u64 (some g) λg=>aK (g==d) (bK (rd i (c.add 5)) λb=>dP i b .i64 .i64 (Int.tmod (ax (e+a)) f) λa=>aQ .u32 (some (kE (ap 0) a)) λa=>K (.tuple #[ap a,aC]) i) (aK (g==0) (K (.tuple #[ap 0,aB]) i) (F199.wL3 n c d f b (ax (a+1)) i K))) (K (.tuple #[ap 0,aB]) h)):=by kernel_rfl
def F199.wk3:Prop:=(∃e,F199.wL3 e c d f b a h K)
def F199.spec(H:ba (rd h (c.add 4)) λa=>Cl 200 [aA a] h λa b=>aQ .i64 (some a) λa=>F199.wk3 c d a a 0 b K):Cl 199 [au c,aq d] h K:=cT F199.T Tryz.func199 H
end
def F197.T:bj:=⟨[(3,[6,7]),(4,[6])],[]⟩
section
variable (n:Nat)(c:Addr)(d:Int)(a:az)(b:Value)(h:aH)(K:KK)
def F197.wk4:Prop:=Cl 243 [aA a] h λb c=> ∃d:Int,∃e:Int,b=(.tuple #[al d,al e])/\Cl 244 [aA a] c λa b=>bI (some a) λa=>K (.tuple #[al d,aD a]) b
def F197.wL3:Prop:=Lp Tryz.f197 F197.T [1,1,0,1,0] n [(6,(aA a)),(7,b)] h K
def F197.sL3:F197.wL3 (n+1) a b h K=(eV Tryz.prog X b [] h λc d=>bI (some c) λc=>aK (!c) (F197.wL3 n a b d K) (F197.wk4 a d K)):=by kernel_rfl
def F197.wk3:Prop:=(∃c,F197.wL3 c a b h K)
def F197.spec(H:ba (rd h (c.add 4)) λa=>Cl 241 [aA a,aq d] h λa b=>ba (some a) λa=>F197.wk3 a (.func (.func 242) #[aA a] #[]) b K):Cl 197 [au c,aq d] h K:=cT F197.T Tryz.func197 H
end
def F160.spec(f:Addr)(g:Int)(a:Bool)(b c d:Int)(h:aH)(K:KK)(H:a9 h (.cells #[aD a,al b,ap c,ap d] 195) λa b=>aQ .i64 (rd b ((aw a).add 1)) λc=>aQ .u32 (rd b ((aw a).add 2)) λd=>aQ .u32 (rd b ((aw a).add 3)) λa=>Cl 198 [al c,ap d,ap a] b λa b=>aQ .u64 (some a) λa=>Cl 197 [au f,aq a] b λa b=> ∃c:Int,∃d:Bool,a=(.tuple #[al c,aD d])/\bK (rd b (f.add 5)) λa=>lO b a .i64 .i64 c (ap g) λa=>K aE a):Cl 160 [au f,ap g,.agg #[aD a,al b,ap c,ap d]] h K:=cN Tryz.func160 H
def F111.T:bj:=⟨[(4,[0,6,29,30,31]),(8,[0,6]),(9,[0,6,42,43,44])],[]⟩
section
variable (n:Nat)(f:Addr)(v:Int)(u:az)(s t:Nat)(q:Option Nat)(i:az)(g o:Nat)(r j:Int)(c:az)(b d:Nat)(l a:Int)(h:aH)(K:KK)
def F111.wL9:Prop:=Lp Tryz.f111 F111.T [1,1,1,1,1,0] n [(0,(au f)),(6,(.map q)),(42,(.slice c b d)),(43,(al l)),(44,(al a))] h K
def F111.sL9:F111.wL9 (n+1) f q c b d l a h K=(aK (a<l) (bf c λe=>0<=a/\a<(b:Int)/\bI (rd h ((e.add (a.toNat*4)).add 0)) λg=>aQ .i64 (rd h ((e.add (a.toNat*4)).add 1)) λi=>aQ .u32 (rd h ((e.add (a.toNat*4)).add 2)) λj=>aQ .u32 (rd h ((e.add (a.toNat*4)).add 3)) λe=>a9 h (.cells #[aB,al 0,ap 0,ap 0] 195) λk m=>aW m ((aw k).add 0) (aD g) λg=>aW g ((aw k).add 1) (al i) λg=>aW g ((aw k).add 2) (ap j) λg=>aW g ((aw k).add 3) (ap e) λe=>dP e q .u32 .u32 (IntKind.wrap .u32 (ax (a+2))) λg=>lI (some (kE (.agg #[]) g)) λi=>a9 e (.cells #[] 218) λe j=>dF Tryz.prog 218 (some (aw e)) i j λe=>bI (rd e ((aw k).add 0)) λi=>aK i (aK (!(Option.isSome g)) (bI (rd e ((aw k).add 0)) λg=>aQ .i64 (rd e ((aw k).add 1)) λi=>aQ .u32 (rd e ((aw k).add 2)) λj=>aQ .u32 (rd e ((aw k).add 3)) λk=>Cl 160 [au f,ap (IntKind.wrap .u32 (ax (a+2))),.agg #[aD g,al i,ap j,ap k]] e λe g=>e=aE/\F111.wL9 n f q c b d l (ax (a+1)) g K) (F111.wL9 n f q c b d l (ax (a+1)) e K)) (F111.wL9 n f q c b d l (ax (a+1)) e K)) (K aE h)):=by kernel_rfl
def F111.wk9:Prop:=(∃e,F111.wL9 e f q c b d l a h K)
def F111.wk8:Prop:=cv (rd h (f.add 2)) λa b c=>F111.wk9 f q a b c (b:Int) 0 h K
def F111.wL4:Prop:=Lp Tryz.f111 F111.T [1,1,1,0,1,0] n [(0,(au f)),(6,(.map q)),(29,(.slice i g o)),(30,(al r)),(31,(al j))] h K
def F111.sL4:F111.wL4 (n+1) f q i g o r j h K=(aK (j<r) (bf i λa=>0<=j/\j<(g:Int)/\aQ .u32 (rd h (a.add (j.toNat*1))) λa=>lO h q .u32 .u32 a (.agg #[]) λa=>F111.wL4 n f q i g o r (ax (j+1)) a K) (F111.wk8 f q h K)):=by kernel_rfl
def F111.wk4:Prop:=(∃a,F111.wL4 a f q i g o r j h K)
def F111.spec(H:Cl 89 [al v] h λa b=>ba (some a) λa=>Cl 159 [aA a,al 0,al v] b λa b=> ∃c:az,∃d:Int,a=(.tuple #[aA c,al d])/\aW b ((f.add 4).add 0) (aA c) λa=>a9 a (.map #[] 0) λa b=>aW b ((f.add 5).add 0) (.map (some a)) λa=>a9 a (.map #[] 0) λa b=>F111.wk4 f (some a) u s t (s:Int) 0 b K):Cl 111 [au f,al v,.slice u s t] h K:=cT F111.T Tryz.func111 H
end
def F161.T:bj:=⟨[(9,[0,1,2,3]),(17,[0,1,2,3])],[(13,[[(0,[]),(2,[]),(3,[]),(4,[]),(5,[]),(1,[2,3,4,5]),(6,[])]]),(15,[[(0,[]),(4,[]),(5,[]),(6,[]),(7,[]),(1,[4,5,6,7]),(2,[]),(3,[]),(8,[2,3]),(9,[])]])]⟩
section
variable (a:Addr)(b c d:Int)(h:aH)(K:KK)
def F161.wk17:Prop:=Cl 201 [au a] h λe f=>aQ .u32 (some e) λe=>cv (rd f (a.add 2)) λg i _=>bf g λg=>0<=(IntKind.wrap .u32 (e-2))/\(IntKind.wrap .u32 (e-2))<(i:Int)/\aW f ((g.add ((IntKind.wrap .u32 (e-2)).toNat*4)).add 0) aC λf=>aW f ((g.add ((IntKind.wrap .u32 (e-2)).toNat*4)).add 1) (al b) λb=>aW b ((g.add ((IntKind.wrap .u32 (e-2)).toNat*4)).add 2) (ap c) λb=>aW b ((g.add ((IntKind.wrap .u32 (e-2)).toNat*4)).add 3) (ap d) λb=>cv (rd b (a.add 2)) λc d _=>bf c λc=>0<=(IntKind.wrap .u32 (e-2))/\(IntKind.wrap .u32 (e-2))<(d:Int)/\bI (rd b ((c.add ((IntKind.wrap .u32 (e-2)).toNat*4)).add 0)) λd=>aQ .i64 (rd b ((c.add ((IntKind.wrap .u32 (e-2)).toNat*4)).add 1)) λf=>aQ .u32 (rd b ((c.add ((IntKind.wrap .u32 (e-2)).toNat*4)).add 2)) λg=>aQ .u32 (rd b ((c.add ((IntKind.wrap .u32 (e-2)).toNat*4)).add 3)) λc=>Cl 160 [au a,ap e,.agg #[aD d,al f,ap g,ap c]] b λa b=>a=aE/\K (.tuple #[ap e,al 0]) b
def F161.wk9:Prop:=Cl 198 [al b,ap c,ap d] h λe f=>aQ .u64 (some e) λe=>Cl 199 [au a,aq e] f λe f=> ∃g:Int,∃i:Bool,e=(.tuple #[ap g,aD i])/\aK i (K (.tuple #[ap g,al 0]) f) (aQ .i64 (rd f (a.add 0)) λe=>Cl 45 [au a] f λf g=>aQ .i64 (some f) λf=>aF (au a)/\aF (au a)/\aF (au (a.add 0))/\aQ .i64 (rd g (a.add 0)) λi=>aG (al i) (al e)/\aK (f>=e) (K (.tuple #[ap 0,al 60]) g) (ba (rd g (a.add 4)) λe=>Cl 45 [au a] g λf g=>aQ .i64 (some f) λf=>aF (au a)/\aF (au a)/\aF (au (a.add 4))/\ba (rd g (a.add 4)) λi=>aG (aA i) (aA e)/\Cl 200 [aA e] g λe g=>aQ .i64 (some e) λe=>aF (al (ax (f+1)))/\aF (al (ax (2*(ax (f+1)))))/\aK ((ax (2*(ax (f+1))))>e) (ba (rd g (a.add 4)) λe=>Cl 200 [aA e] g λe f=>aQ .i64 (some e) λe=>Cl 111 [au a,al (ax (2*e)),.slice none 0 0] f λe f=>e=aE/\F161.wk17 a b c d f K) (F161.wk17 a b c d g K)))
end
def F161.spec(H:aK (i<0) (K (.tuple #[ap 0,al 40]) h) (Cl 75 [au a] h λb c=>aQ .i64 (some b) λb=>aK (i>=b) (K (.tuple #[ap 0,al 40]) c) (Cl 74 [au a,ap j] c λb c=>bI (some b) λb=>aK (!b) (K (.tuple #[ap 0,al 101]) c) (Cl 74 [au a,ap k] c λb c=>bI (some b) λb=>aK (!b) (K (.tuple #[ap 0,al 101]) c) (Cl 71 [au a,ap j] c λb c=>aQ .i64 (some b) λb=>aK (b<=i) (K (.tuple #[ap 0,al 100]) c) (Cl 71 [au a,ap k] c λb c=>aQ .i64 (some b) λb=>aK (b<=i) (K (.tuple #[ap 0,al 100]) c) (aK (j==k) (K (.tuple #[ap j,al 0]) c) (F161.wk9 a i j k c K)))))))):Cl 161 [au a,al i,ap j,ap k] h K:=cT F161.T Tryz.func161 H
def F45.T:bj:=⟨[],[(1,[[(0,[]),(1,[]),(2,[]),(3,[]),(4,[]),(5,[]),(6,[]),(7,[]),(8,[]),(9,[]),(10,[]),(11,[])]])]⟩
def F45.spec(H:cv (rd h (a.add 2)) λ_ b _=>cv (rd h (a.add 3)) λ_ a _=>K (al (ax ((b:Int)-(a:Int)))) h):Cl 45 [au a] h K:=cT F45.T Tryz.func45 H
def F201.spec(H:cv (rd h (a.add 3)) λ_ b _=>aK ((b:Int)>(0:Int)) (cv (rd h (a.add 3)) λc d _=>bf c λc=>0<=(ax ((b:Int)-(1:Int)))/\(ax ((b:Int)-(1:Int)))<(d:Int)/\aQ .u32 (rd h (c.add ((ax ((b:Int)-(1:Int))).toNat*1))) λc=>cv (rd h (a.add 3)) λd _ e=>0<=(ax ((b:Int)-(1:Int)))/\(ax ((b:Int)-(1:Int)))<=(e:Int)/\aW h ((a.add 3).add 0) (.slice (if e=0 then d else Option.map (λa=>Addr.add a (0*1)) d) ((ax ((b:Int)-(1:Int))).toNat-0) (e-0)) λa=>K (ap c) a) (cv (rd h (a.add 2)) λb c d=>a9 h (.cells #[aB,al 0,ap 0,ap 0] 195) λe f=>fB f 195 4 24 #[aB,al 0,ap 0,ap 0] b c d (some (aw e)) 1 λb c d e=>aW e ((a.add 2).add 0) (.slice b c d) λb=>cv (rd b (a.add 2)) λ_ a _=>K (ap (IntKind.wrap .u32 (ax ((ax ((a:Int)-(1:Int)))+2)))) b)):Cl 201 [au a] h K:=cN Tryz.func201 H
def F75.spec(H:ba (rd h (a.add 1)) λa=>Cl 119 [aA a] h λa b=>aQ .i64 (some a) λa=>K (al a) b):Cl 75 [au a] h K:=cN Tryz.func75 H
def F47.spec(H:ba (rd h (a.add 1)) λa=>Cl 104 [aA a] h λa b=>ba (some a) λa=>K (aA a) b):Cl 47 [au a] h K:=cN Tryz.func47 H
def F198.spec(H:Cl 245 [.int .u8 (IntKind.wrap .u8 i),ap j,ap k] h λa b=>aQ .u64 (some a) λa=>K (aq a) b):Cl 198 [al i,ap j,ap k] h K:=cN Tryz.func198 H
def F118.spec(H:aK (i<=1) (K (al 1) h) (K (al 0) h)):Cl 118 [au a,ap i] h K:=cN Tryz.func118 H
end
section
variable {i j k l m n o p q r s t:Int}{a b c d:Addr}{u v:Nat}{x y:az}{h:aH}{K:KK}
def F246.spec(H:aK (j<1) (K (al 0) h) (Cl 286 [aq i] h λa b=>aQ .u64 (some a) λa=>(IntKind.wrap .u64 j)≠0/\K (al (ax (Int.tmod a (IntKind.wrap .u64 j)))) b)):Cl 246 [aq i,al j] h K:=cN Tryz.func246 H
def F286.T:bj:=⟨[(2,[0,5,6]),(7,[0])],[]⟩
section
variable (n:Nat)(a b:Int)(h:aH)(K:KK)
def F286.wk7:Prop:=(0<=(33:Int)/\K (aq (bB .xor .u64 a (Int.fdiv a (2^(min (Int.toNat 33) (IntKind.bits .u64)))))) h)
def F286.wL2:Prop:=Lp Tryz.f286 F286.T [1,0,1,0] n [(0,(aq a)),(5,(.agg #[aq 18397679294719823053,aq 14181476777654086739])),(6,(al b))] h K
def F286.sL2:F286.wL2 (n+1) a b h K=(aK (b<2) ((0<=b/\b<2/\aQ .u64 ([aq 18397679294719823053,aq 14181476777654086739]:List Value)[b.toNat]? (λc=>0<=(33:Int)/\F286.wL2 n (IntKind.wrap .u64 ((bB .xor .u64 a (Int.fdiv a (2^(min (Int.toNat 33) (IntKind.bits .u64)))))*c)) (ax (b+1)) h K))) (F286.wk7 a h K)):=by kernel_rfl
def F286.wk2:Prop:=(∃c,F286.wL2 c a b h K)
def F286.spec(H:F286.wk2 a 0 h K):Cl 286 [aq a] h K:=cT F286.T Tryz.func286 H
end
def F245.spec(H:(0<=(56:Int)/\0<=(28:Int)/\K (aq (bB .or .u64 (bB .or .u64 (IntKind.wrap .u64 ((IntKind.wrap .u64 i)*2^(min (Int.toNat 56) (IntKind.bits .u64)))) (IntKind.wrap .u64 ((IntKind.wrap .u64 (bB .and .u32 j 268435455))*2^(min (Int.toNat 28) (IntKind.bits .u64))))) (IntKind.wrap .u64 (bB .and .u32 k 268435455)))) h)):Cl 245 [.int .u8 i,ap j,ap k] h K:=cN Tryz.func245 H
end
section
def At(h:aH)(b:Nat)(c:List Value):Prop:= ∃e,h[b]? =some (.cells c.toArray e)
structure aM(S:List Nat)(h h':aH):Prop where
 size:h.size<=h'.size
 same: ∀b,b<h.size->b∉S->h'[b]? =h[b]?
 fzn: ∀a,fz h' a=fz h a
def At.lt{h:aH}{b:Nat}{c:List Value}(H:At h b c):b<h.size:=by obtain⟨e,H⟩:=H;exact(Array.getElem?_eq_some_iff.1 H).1
def At.rd{h:aH}{b:Nat}{c:List Value}(H:At h b c)(i:Nat):rd h ⟨b,i,none⟩=c[i]? :=by obtain⟨e,H⟩:=H;simp[Ev.rd,H]
def At.fz{h:aH}{b:Nat}{c:List Value}(H:At h b c)(i:Nat)(s:Option Nat):fz h ⟨b,i,s⟩=false:=by obtain⟨e,H⟩:=H;simp[Ev.fz,H]
def At.only{S:List Nat}{h h':aH}{b:Nat}{c:List Value}(H:At h b c)(O:aM S h h')(hb:b∉S):At h' b c:=by obtain⟨e,H⟩:=H;exact⟨e,(O.same b (Array.getElem?_eq_some_iff.1 H).1 hb).trans H⟩
def aM.refl(S:List Nat)(h:aH):aM S h h:=⟨Nat.le_refl _,λ_ _ _=>rfl,λ_=>rfl⟩
def aM.trans{S T:List Nat}{h h' h'':aH}(A:aM S h h')(B:aM T h' h'')(hT: ∀b,b∈T->b<h.size->b∈S):aM S h h'':=
 ⟨Nat.le_trans A.size B.size,λb hb hS=>(B.same b (Nat.lt_of_lt_of_le hb A.size) (λhbT=>hS (hT b hbT hb))).trans (A.same b hb hS),
  λa=>(B.fzn a).trans (A.fzn a)⟩
def aM.mono{S T:List Nat}{h h':aH}(A:aM S h h')(hS: ∀b,b∈S->b<h.size->b∈T):aM T h h':=
 aM.trans (aM.refl T h) A hS
def aM.push_cells(h:aH)(c:Array Value)(e:TypeId):aM [] h (h.push (.cells c e)):=by
 refine⟨ak,λb hb _=>by simp[Array.getElem?_push,Nat.ne_of_lt hb],λa=> ?_⟩;unfold fz;rw[Array.getElem?_push];by_cases ha:a.block=h.size
 ·rw[if_pos ha,ha];simp
 ·rw[if_neg ha]
def aM.push_map(h:aH)(es:Array MapEntry)(n:Nat):aM [] h (h.push (.map es n)):=by
 refine⟨ak,λb hb _=>by simp[Array.getElem?_push,Nat.ne_of_lt hb],λa=> ?_⟩;unfold fz;rw[Array.getElem?_push];by_cases ha:a.block=h.size
 ·rw[if_pos ha,ha];simp
 ·rw[if_neg ha]
def tG(h:aH)(a:Addr)(v:Value)(b:Nat)(hb:b≠a.block):(wr h a v)[b]? =h[b]? :=by unfold wr;rw[Array.getElem?_modify,if_neg (λe=>hb e.symm)]
def aM.wr(h:aH)(a:Addr)(v:Value):aM [a.block] h (wr h a v):=by
 refine⟨by simp[Ev.wr],λb _ hS=>tG h a v b (by simpa using hS),λx=> ?_⟩;unfold Ev.fz;by_cases hx:x.block=a.block
 ·unfold Ev.wr;rw[Array.getElem?_modify,if_pos hx.symm];cases hh:h[x.block]? with
  |none=>simp
  |some o=>cases o<;>simp
 ·rw[tG h a v x.block hx]
def At.wr{h:aH}{b:Nat}{c:List Value}(H:At h b c)(i:Nat)(v:Value):At (wr h ⟨b,i,none⟩ v) b (c.set i v):=by obtain⟨e,H⟩:=H;refine⟨e,?_⟩;unfold Ev.wr;rw[Array.getElem?_modify,if_pos rfl,H];simp
def At.push(h:aH)(c:Array Value)(e:TypeId):At (h.push (.cells c e)) h.size c.toList:=⟨e,ak⟩
@[simp] theorem aL (b o n:Nat):Addr.add ⟨b,o,none⟩ n=⟨b,o+n,none⟩:=by
 unfold Addr.add;split
 ·next h=>subst h;rfl
 ·rfl
def add_zero(a:Addr):Addr.add a 0=a:=by simp[Addr.add]
def aI{k:IntKind}{x:Option Value}{K:Int->Prop}{n:Int}(hx:x=some (.int k n))(hK:K n):aQ k x K:=⟨n,hx,hK⟩
def aY{x:Option Value}{K:Bool->Prop}{n:Bool}(hx:x=some (.bool n))(hK:K n):bI x K:=⟨n,hx,hK⟩
def aR{x:Option Value}{K:Option Addr->Prop}{n:Option Addr}(hx:x=some (.pointer n))(hK:K n):ba x K:=⟨n,hx,hK⟩
def bo{x:Option Value}{K:Option Addr->Nat->Nat->Prop}{p:Option Addr}{l c:Nat}(hx:x=some (.slice p l c))(hK:K p l c):cv x K:=⟨p,l,c,hx,hK⟩
@[simp] theorem bC {k:IntKind} {K:Int->Prop} {n:Int}:aQ k (some (.int k n)) K↔K n:=
 ⟨λ⟨m,e,h⟩=>by injection e with e;injection e with _ e;exact e▸h,aI rfl⟩
@[simp] theorem dS {K:Bool->Prop} {n:Bool}:bI (some (.bool n)) K↔K n:=
 ⟨λ⟨m,e,h⟩=>by injection e with e;injection e with e;exact e▸h,aY rfl⟩
@[simp] theorem pD {K:Option Addr->Prop} {n:Option Addr}:ba (some (.pointer n)) K↔K n:=
 ⟨λ⟨m,e,h⟩=>by injection e with e;injection e with e;exact e▸h,aR rfl⟩
@[simp] theorem bV {K:Option Addr->Nat->Nat->Prop} {p:Option Addr} {l c:Nat}:cv (some (.slice p l c)) K↔K p l c:=
 ⟨λ⟨_,_,_,e,h⟩=>by injection e with e;injection e with e1 e2 e3;subst e1;subst e2;subst e3;exact h,bo rfl⟩
@[simp] theorem gq {K:Option Nat->Prop} {n:Option Nat}:bK (some (.map n)) K↔K n:=
 ⟨λ⟨m,e,h⟩=>by injection e with e;injection e with e;exact e▸h,λh=>⟨n,rfl,h⟩⟩
@[simp] theorem eS {K:Value->Prop} {v:Value}:lI (some v) K↔K v:=
 ⟨λ⟨m,e,h⟩=>by injection e with e;exact e▸h,λh=>⟨v,rfl,h⟩⟩
@[simp] theorem aU {a:Addr} {K:Addr->Prop}:bf (some a) K↔K a:=Iff.rfl
@[simp] theorem aO {t f:Prop}:aK true t f↔t:=Iff.rfl
@[simp] theorem aJ {t f:Prop}:aK false t f↔f:=Iff.rfl
def aT{b:Bool}{t f:Prop}(ht:b=true->t)(hf:b=false->f):aK b t f:=by
 cases b with
 |true=>exact ht rfl
 |false=>exact hf rfl
def aS{h:aH}{b i:Nat}{c:List Value}{v:Value}{K:aH->Prop}(H:At h b c)(hi:i<c.length)(hv:v.oneCell'=true)
  (hK: ∀h',At h' b (c.set i v)->aM [b] h h'->h'.size=h.size->K h'):aW h ⟨b,i,none⟩ v K:=by
 unfold aW;rw[hv];refine⟨?_,H.fz i none,hK _ (H.wr i v) (aM.wr h ⟨b,i,none⟩ v) (by simp[Ev.wr])⟩;rw[H.rd];simp[hi]
def aV{h:aH}{c:Array Value}{e:TypeId}{K:Nat->aH->Prop}
  (hK: ∀h',At h' h.size c.toList->aM [] h h'->h'.size=h.size+1->K h.size h'):a9 h (.cells c e) K:=
 hK _ (At.push h c e) (aM.push_cells h c e) ak
def gU.mono{P:Program}{f:FuncId}{args:List Value}{h:aH}{K K':Value->aH->Prop}(H:gU P f args h K)(hK: ∀v h',K v h'->K' v h'):gU P f args h K':=
 λw hw=>(H w hw).mono λ_ _ ⟨v,e,s,k⟩=>⟨v,e,s,hK _ _ k⟩
def wrap_i64{n:Int}(h0: -9223372036854775808<=n)(h1:n<9223372036854775808):ax n=n:=by refine(IntKind.wrap_i64 n).trans ?_;omega
def cd{n:Int}(h0:0<=n)(h1:n<18446744073709551616):IntKind.wrap .u64 n=n:=by simp[IntKind.wrap,IntKind.bits,IntKind.signed];omega
def mQ(n:Int):IntKind.wrap .u64 n=n%18446744073709551616:=by simp[IntKind.wrap,IntKind.bits,IntKind.signed]
def bE{P:Program}{X:List (Nat×cY)}{g:Nat}{first captured:Array Value}{args:List Value}{h:aH}{K:Value->aH->Prop}(hx:bZ X g=some .go)
  (H:gU P g (first.toList++args++captured.toList) h K):eV P X (.func (.func g) first captured) args h K:=by
 unfold eV;simp only[hx];exact H
end
end Go.Proofs.YtnofenejoebkhaaGreat.Ev
