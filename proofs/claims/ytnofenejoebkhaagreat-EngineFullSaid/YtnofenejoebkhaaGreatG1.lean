/- PART 1 OF WHAT THE LAW EngineFull STANDS ON: EvA, EvB, EvC, EvD, EvF, EvG, EvH, EvI, TX5, NodF5, BitsF5, EvJ. Conditions: none but those that each lemma states. -/
import Derived.Orders
import Derived.LoopN
import Derived.KernelRfl
import Derived.Laws.LoneSync
import Derived.Laws.MakeOwn
import Derived.Laws.AppendOwn
import Derived.Laws.Cells
import Derived.Laws.StructEq
import Derived.Maps.RangeRun
import Derived.Tactics
import Derived.ChangeKeysEq
import Derived.LaidEql
import Derived.Test.YtnofenejoebkhaaGreatProg
import Derived.Laws.OwnMore
namespace Go.Proofs.YtnofenejoebkhaaGreat.Ev
open Go
set_option linter.defProp false
section
def Y{p:Prop}(h:p:=by omega):p:=h
def Z{p:Prop}(h:p:=by simp):p:=h
abbrev ac(n:Int):Value:= .int .i64 n
abbrev ae(n:Int):Value:= .int .u32 n
abbrev af(n:Int):Value:= .int .u64 n
abbrev ag(a:Addr):Value:= .pointer (some a)
abbrev ah(b:Nat):Addr:=Addr.mk b 0 none
abbrev ai(n:Int):Int:=IntKind.wrap .i64 n
abbrev aj:=List (Option (Nat×Nat×Nat))
abbrev ak:=Option Addr
abbrev ap(a:Option Addr):Value:= .pointer a
abbrev aq:Value:= .bool false
abbrev au:Value:= .bool true
abbrev aw(b:Bool):Value:= .bool b
abbrev ax:Value:= .tuple #[]
abbrev ay(a:Value):Prop:=a=a
abbrev az(a b:Value):Prop:=a=b
abbrev aA:=Array Obj
abbrev Fr:=List (Nat×Value)
def rd(h:aA)(a:Addr):Option Value:=
 match h[a.block]? with
 |some (.cells c _ _)=>if a.spot.isSome then none else c[a.off]?
 |_=>none
def fz(h:aA)(a:Addr):Bool:=
 match h[a.block]? with
 |some (.cells _ _ (lo,hi))=>lo<=a.off&&a.off<hi
 |_=>false
def wr(h:aA)(a:Addr)(v:Value):aA:=
 h.modify a.block fun
  | .cells c elem frozen=> .cells (if a.spot.isSome then c else c.setIfInBounds a.off v) elem frozen
  |o=>o
def mp(h:aA)(r:Nat):Option (Array MapEntry×Nat):=
 match h[r]? with
 |some (.map es c)=>some (es,c)
 |_=>none
def get:Fr->Nat->Option Value
 | [],_=>none
 |(k,v)::r,t=>match Nat.beq k t with|true=>some v|false=>get r t
def put(ρ:Fr)(d:Option Nat)(v:Value):Fr:=match d with|some t=>(t,v)::ρ|none=>ρ
def cut:List Nat->Fr->Fr
 | [],_=> []
 |t::L,ρ=>match get ρ t with|some v=>(t,v)::cut L ρ|none=>cut L ρ
def ev(ρ:Fr):Operand->Option Value
 | .tmp t=>get ρ t
 | .const v=>some v
 | .global g=>some (.pointer (some ⟨g,0,none⟩))
 | .func f=>some (.func (.func f) #[] #[])
def u2(ρ:Fr):List Operand->Option (List Value)
 | []=>some []
 |x::xs=>match ev ρ x with|some v=>(match u2 ρ xs with|some vs=>some (v::vs)|none=>none)|none=>none
def aC(b:Bool)(t f:Prop):Prop:=match b with|true=>t|false=>f
def cX{α:Type}(x:Option α)(K:α->Prop):Prop:=match x with|some v=>K v|none=>False
def aN(p:Option Addr)(K:Addr->Prop):Prop:=match p with|some a=>K a|none=>False
def AG(z:Value)(K:Value->Prop):Prop:=
 match z with
 | .int k _=> ∃n:Int,K (.int k n)
 | .bool _=> ∃b:Bool,K (.bool b)
 | .pointer _=> ∃p:Option Addr,K (.pointer p)
 | .slice _ _ _=> ∃(p:Option Addr) (l c:Nat),K (.slice p l c)
 | .map _=> ∃r:Option Nat,K (.map r)
 | .string _=> ∃s:ByteArray,K (.string s)
 |_=> ∃v:Value,K v
def DV:List Value->(List Value->Prop)->Prop
 | [],K=>K []
 |z::zs,K=>AG z λv=>DV zs λvs=>K (v::vs)
def EK(z:Value)(K:Value->Prop):Prop:=
 match z with
 | .agg zs=>DV zs.toList λvs=>K (.agg vs.toArray)
 |z=>AG z K
def D7:List Value->(List Value->Prop)->Prop
 | [],K=>K []
 |z::zs,K=>EK z λv=>D7 zs λvs=>K (v::vs)
def aI(k:IntKind)(x:Option Value)(K:Int->Prop):Prop:= ∃n:Int,x=some (.int k n)/\K n
def bA(x:Option Value)(K:Bool->Prop):Prop:= ∃b:Bool,x=some (.bool b)/\K b
def bi(x:Option Value)(K:Option Addr->Prop):Prop:= ∃p:Option Addr,x=some (.pointer p)/\K p
def cW(x:Option Value)(K:Option Addr->Nat->Nat->Prop):Prop:= ∃(p:Option Addr) (l c:Nat),x=some (.slice p l c)/\K p l c
def nT(x:Option Value)(K:Option Nat->Prop):Prop:= ∃r:Option Nat,x=some (.map r)/\K r
def Fu(x:Option Value)(K:ByteArray->Prop):Prop:= ∃s:ByteArray,x=some (.string s)/\K s
def qW(x:Option Value)(K:Value->Prop):Prop:= ∃v:Value,x=some v/\K v
def yq(z:Value)(x:Option Value)(K:Value->Prop):Prop:=
 match z with
 | .int k _=>aI k x λn=>K (.int k n)
 | .bool _=>bA x λb=>K (.bool b)
 | .pointer _=>bi x λp=>K (.pointer p)
 | .slice _ _ _=>cW x λp l c=>K (.slice p l c)
 | .map _=>nT x λr=>K (.map r)
 | .string _=>Fu x λs=>K (.string s)
 |_=>qW x K
def EF(h:aA)(a:Addr):Nat->List Value->(List Value->Prop)->Prop
 |_,[],K=>K []
 |i,z::zs,K=>yq z (rd h (a.add i)) λv=>EF h a (i+1) zs λvs=>K (v::vs)
def D4(h:aA)(a:Addr)(n:Nat)(K:List Value->Prop):Prop:= ∃vs:List Value,vs.length=n/\(∀j v,vs[j]? =some v->rd h (a.add j)=some v)/\K vs
def D8(l:List Value)(b:Nat):Nat->List Value->(List Value->Prop)->Prop
 |_,[],K=>K []
 |i,z::zs,K=>yq z (l[b+i]?) λv=>D8 l b (i+1) zs λvs=>K (v::vs)
def zv(P:Program)(t:TypeId):Option Value:=(P.info? t).bind (·.zero)
def C7:TypeDesc->Bool| .struct _=>true| .array _ _=>true|_=>false
def pO(P:Program)(t:TypeId)(h:aA)(p:Option Addr)(K:Value->Prop):Prop:=
 match P.underlying t,zv P t with
 |some d,some z=>
  match C7 d with
  |true=>match z with
   | .agg zs=>match Nat.beq zs.size (P.cellsOf t)with
    |true=>match Nat.ble 41 zs.size with
     |true=>aN p λa=>D4 h a zs.size λvs=>K (.agg vs.toArray)
     |false=>aN p λa=>EF h a 0 zs.toList λvs=>K (.agg vs.toArray)
    |false=>False
   |_=>False
  |false=>aN p λa=>yq z (rd h a) K
 |_,_=>False
def aY(op:BinOp)(k:IntKind)(x y:Int):Int:=
 let a:=BitVec.ofInt k.bits x;let b:=BitVec.ofInt k.bits y
 match op with
 | .and=>k.wrap (a&&&b).toNat
 | .or=>k.wrap (a|||b).toNat
 | .xor=>k.wrap (a^^^b).toNat
 |_=>k.wrap (a&&& ~~~b).toNat
def Bd(op:BinOp)(k:IntKind)(a b:Int)(K:Value->Prop):Prop:=
 match op with
 | .add=>K (.int k (k.wrap (a+b)))
 | .sub=>K (.int k (k.wrap (a-b)))
 | .mul=>K (.int k (k.wrap (a*b)))
 | .quo=>b≠0/\K (.int k (k.wrap (a.tdiv b)))
 | .rem=>b≠0/\K (.int k (a.tmod b))
 | .and=>K (.int k (aY .and k a b))
 | .or=>K (.int k (aY .or k a b))
 | .xor=>K (.int k (aY .xor k a b))
 | .andNot=>K (.int k (aY .andNot k a b))
 | .eql=>K (.bool (a==b))
 | .neq=>K (.bool (a !=b))
 | .lss=>K (.bool (decide (a<b)))
 | .leq=>K (.bool (decide (a<=b)))
 | .gtr=>K (.bool (decide (a>b)))
 | .geq=>K (.bool (decide (a>=b)))
 |_=>False
def EO(op:BinOp)(k:IntKind)(a b:Int)(K:Value->Prop):Prop:=
 match op with
 | .shl=>0<=b/\K (.int k (k.wrap (a*2^(min b.toNat k.bits))))
 | .shr=>0<=b/\K (.int k (a.fdiv (2^(min b.toNat k.bits))))
 |_=>False
def Ck:BinOp->Bool| .shl=>true| .shr=>true|_=>false
def Bg:IntKind->IntKind->Bool
 | .i8,.i8=>true| .i16,.i16=>true| .i32,.i32=>true| .i64,.i64=>true
 | .u8,.u8=>true| .u16,.u16=>true| .u32,.u32=>true| .u64,.u64=>true
 |_,_=>false
def tU:List Value->List Value->Option Bool
 | [],[]=>some true
 | .int k a::xs,.int k' b::ys=>match Bg k k' with|true=>(match tU xs ys with|some r=>some (a==b&&r)|none=>none)|false=>none
 |_,_=>none
def wF(P:Program)(t:TypeId):Bool:=
 match P.underlying t with
 |some (.struct fs)=> !P.stoodInHeld t&& !P.eqGuardType P.depth t&&(fs.toList.zipIdx.all λ(f,i)=>f.offset==i&&f.name != "_" &&(match P.underlying f.type with|some (.int _)=>true|_=>false))&&P.cellsOf t==fs.size
 |_=>false
def wy(P:Program)(t e:TypeId):Bool:= !P.eqGuardType P.depth t&&(match P.underlying e with|some (.int _)=>true|_=>false)&&P.cellsOf e==1&&(P.info? e).isSome
def Ar(P:Program)(h:aA)(t:TypeId)(x y:Value)(K:Bool->Prop):Prop:=
 match P.underlying t with
 |some .bool=>match x,y with
  | .bool a,.bool b=>K (a==b)
  |_,_=>False
 |some (.pointer e)=>match x,y with
  | .pointer p,.pointer none=>K p.isNone
  | .pointer none,.pointer p=>K p.isNone
  | .pointer (some a),.pointer (some b)=>match P.info? e with
   |some j=>match Nat.beq j.size 0 with
    |false=>(a=b->K true)/\(a≠b->(∃c u,h[a.block]? =some (.cells c u))/\(∃c u,h[b.block]? =some (.cells c u))/\K false)
    |true=>False
   |none=>False
  |_,_=>False
 |some (.struct fs)=>match wF P t,x,y with
  |true,.agg xs,.agg ys=>(match Nat.beq xs.size fs.size with|true=>cX (tU xs.toList ys.toList) K|false=>False)
  |_,_,_=>False
 |some (.array n e)=>match wy P t e,x,y with
  |true,.agg xs,.agg ys=>(match Nat.beq xs.size n with|true=>cX (tU xs.toList ys.toList) K|false=>False)
  |_,_,_=>False
 |some (.slice _)=>match x,y with
  | .slice p _ _,.slice none _ _=>K p.isNone
  |_,_=>False
 |_=>False
def Bv(P:Program)(h:aA)(op:BinOp)(t:TypeId)(x y:Value)(K:Value->Prop):Prop:=
 match x,y with
 | .int k a,.int k' b=>match Ck op with
  |true=>EO op k a b K
  |false=>match Bg k k' with|true=>Bd op k a b K|false=>False
 |x,y=>match op with
  | .eql=>Ar P h t x y λr=>K (.bool r)
  | .neq=>Ar P h t x y λr=>K (.bool (!r))
  |_=>False
def Ej(op:UnOp)(x:Value)(K:Value->Prop):Prop:=
 match op,x with
 | .not,.bool b=>K (.bool (!b))
 | .neg,.int k n=>K (.int k (k.wrap (0-n)))
 | .xor,.int k n=>K (.int k (aY .xor k (if k.signed then-1 else k.max) n))
 |_,_=>False
def xd(P:Program)(src dst:TypeId)(x:Value)(K:Value->Prop):Prop:=
 match P.underlying src,P.underlying dst,x with
 |some _,some (.int k),.int _ n=>K (.int k (k.wrap n))
 |_,_,_=>False
def zJ(c:Bool)(a b:Option Value)(K:Value->Prop):Prop:=
 match a,b with
 |some (.bool x),some (.bool y)=>K (.bool (cond c x y))
 |_,_=>aC c (cX a K) (cX b K)
def AL(x:Value)(K:Value->Prop):Prop:=
 match x with
 | .pointer p=>aN p λa=>K (.pointer (some a))
 | .func (.func f) a b=>K (.func (.func f) a b)
 | .iface t v=>K (.iface t v)
 |_=>False
def i5(P:Program)(s:TypeId)(x:Value)(i:Nat)(K:Value->Prop):Prop:=
 match P.underlying s,x with
 |some (.struct fs),.pointer p=>match fs[i]? with
  |some f=>match P.info? f.type with
   |some ti=>match Nat.beq ti.size 0 with|false=>aN p λa=>K (.pointer (some (a.add f.offset)))|true=>False
   |none=>False
  |none=>False
 |_,_=>False
def ve(P:Program)(t:TypeId)(cs:List Value)(off:Nat)(K:Value->Prop):Prop:=
 match P.underlying t,P.info? t with
 |some d,some ti=>match C7 d with
  |true=>K (.agg (cs.toArray.extract off (off+ti.size)))
  |false=>cX cs[off]? K
 |_,_=>False
def sw(P:Program)(s:TypeId)(x:Value)(i:Nat)(K:Value->Prop):Prop:=
 match P.underlying s,x with
 |some (.struct fs),.agg cs=>match fs[i]? with
  |some f=>ve P f.type cs.toList f.offset K
  |none=>False
 |_,_=>False
def ja(P:Program)(t:TypeId)(x i:Value)(K:Value->Prop):Prop:=
 match P.underlying t,x,i with
 |some (.array n e),.pointer p,.int _ j=>match P.info? e with
  |some ti=>aN p λa=>0<=j/\j<(n:Int)/\K (.pointer (some (a.add (j.toNat*ti.size))))
  |none=>False
 |some (.slice e),.slice p l _,.int _ j=>match P.info? e with
  |some ti=>aN p λa=>0<=j/\j<(l:Int)/\K (.pointer (some (a.add (j.toNat*ti.size))))
  |none=>False
 |_,_,_=>False
def xN(s:ByteArray)(j:Int)(K:Int->Prop):Prop:= ∃b:UInt8,s[j.toNat]? =some b/\K (b.toNat:Int)
def rl(P:Program)(t:TypeId)(x i:Value)(K:Value->Prop):Prop:=
 match P.underlying t,x,i with
 |some (.array n e),.agg cs,.int _ j=>match P.underlying e,P.info? e with
  |some d,some _=>match C7 d with
   |true=>0<=j/\j<(n:Int)/\(match zv P e with
    |some (.agg zs)=>match Nat.beq zs.size (P.cellsOf e)with
     |true=>D8 cs.toList (j.toNat*P.cellsOf e) 0 zs.toList λvs=>K (.agg vs.toArray)
     |false=>False
    |_=>False)
   |false=>0<=j/\j<(n:Int)/\(match P.cellsOf e with|1=>cX (zv P e) λz=>yq z cs.toList[j.toNat]? K|_=>False)
  |_,_=>False
 |some .string,.string s,.int _ j=>0<=j/\xN s j λn=>K (.int .u8 n)
 |_,_,_=>False
def rZ(P:Program)(t:TypeId)(x:Value)(lo hi:Option Value)(K:Value->Prop):Prop:=
 match P.underlying t,x with
 |some (.slice e),.slice p l c=>match P.info? e with
  |some ti=>match lo,hi with
   |none,some (.int _ j)=>0<=j/\j<=(c:Int)/\K (.slice (if c=0 then p else p.map (·.add (0*ti.size))) (j.toNat-0) (c-0))
   |some (.int _ i),none=>0<=i/\i<=(l:Int)/\K (.slice (if c=i.toNat then p else p.map (·.add (i.toNat*ti.size))) (l-i.toNat) (c-i.toNat))
   |some (.int _ i),some (.int _ j)=>0<=j/\j<=(c:Int)/\0<=i/\i<=j/\K (.slice (if c=i.toNat then p else p.map (·.add (i.toNat*ti.size))) (j.toNat-i.toNat) (c-i.toNat))
   |none,none=>K (.slice (if c=0 then p else p.map (·.add (0*ti.size))) (l-0) (c-0))
   |_,_=>False
  |none=>False
 |some (.array n e),.pointer p=>match P.info? e with
  |some ti=>match lo,hi with
   |none,some (.int _ j)=>aN p λa=>0<=j/\j<=(n:Int)/\K (.slice (some (if n=0 then a else a.add (0*ti.size))) (j.toNat-0) (n-0))
   |none,none=>aN p λa=>K (.slice (some (if n=0 then a else a.add (0*ti.size))) (n-0) (n-0))
   |some (.int _ i),none=>aN p λa=>0<=i/\i<=(n:Int)/\K (.slice (some (if n=i.toNat then a else a.add (i.toNat*ti.size))) (n-i.toNat) (n-i.toNat))
   |_,_=>False
  |none=>False
 |_,_=>False
def qA(x:Value)(i:Nat)(K:Value->Prop):Prop:=
 match x with
 | .tuple vs=>cX vs[i]? K
 |_=>False
def dW(h:aA)(r:Option Nat)(k1 kk:IntKind)(kn:Int)(K:Option (Nat×Value)->Prop):Prop:=
 cX r λb=> ∃es cl,mp h b=some (es,cl)/\ ∃o,Instr.findNow (.int k1) (.int kk kn) es.toList 0=some o/\K o
def lS(z:Value)(o:Option (Nat×Value)):Value:=match o with|some (_,v)=>v|none=>z
def EV(z:Value)(o:Option (Nat×Value))(ok:Bool)(K:Value->Prop):Prop:=
 match ok with
 |true=>yq z (some (lS z o)) λv=>K (.tuple #[v,.bool o.isSome])
 |false=>yq z (some (lS z o)) K
def oZ(P:Program)(t:TypeId)(h:aA)(x k:Value)(ok:Bool)(K:Value->Prop):Prop:=
 match P.underlying t,x,k with
 |some (.map kt et),.map r,.int kk kn=>match P.underlying kt,zv P et with
  |some (.int k1),some z=>dW h r k1 kk kn λo=>EV z o ok K
  |_,_=>False
 |_,_,_=>False
def oR(P:Program)(t:TypeId)(parts:Option (List Value))(ix:List Nat)(K:Value->Prop):Prop:=
 match P.underlying t,zv P t,parts with
 |some (.struct fs),some z,some vs=>match fs.toList.all (λf=>(P.info? f.type).isSome)with
  |true=>cX (Instr.fill ((fs.map λf=>(f.offset,P.cellsOf f.type))[·]?) z.cells (ix.zip vs)) λcells=>K (.agg cells)
  |false=>False
 |some (.array _ e),some z,some vs=>match (P.info? e).isSome with
  |true=>cX (Instr.fill (λi=>some (i*P.cellsOf e,P.cellsOf e)) z.cells (ix.zip vs)) λcells=>K (.agg cells)
  |false=>False
 |_,_,_=>False
def sn(P:Program)(t:TypeId)(v:Value)(K:Value->Prop):Prop:=
 match P.underlying t with
 |some (.interface _)=>False
 |some _=>K (.iface t v)
 |none=>False
def oI(P:Program)(asserted:TypeId)(ok:Bool)(x:Value)(K:Value->Prop):Prop:=
 match P.underlying asserted,x with
 |some (.interface _),_=>False
 |some _,.iface t v=>match Nat.beq t asserted with
  |true=>(match ok with|true=>K (.tuple #[v,.bool true])|false=>K v)
  |false=>False
 |_,_=>False
def Bx(P:Program)(t:TypeId)(h:aA)(x:Value)(K:Value->Prop):Prop:=
 match P.underlying t,x with
 |some (.slice _),.slice _ l _=>K (.int .i64 l)
 |some (.array n _),_=>K (.int .i64 n)
 |some .string,.string s=>K (.int .i64 s.size)
 |some (.map _ _),.map r=>cX r λb=> ∃es cl,mp h b=some (es,cl)/\K (.int .i64 es.size)
 |_,_=>False
def Bl(P:Program)(t:TypeId)(x:Value)(K:Value->Prop):Prop:=
 match P.underlying t,x with
 |some (.slice _),.slice _ _ c=>K (.int .i64 c)
 |_,_=>False
def DY(mx:Bool)(x y:Value)(K:Value->Prop):Prop:=
 match x,y with
 | .int k a,.int _ b=>K (.int k (match mx with|true=>(if b>a then b else a)|false=>(if b<a then b else a)))
 |_,_=>False
def CD(ρ:Fr):Option Operand->Option (Option Value)
 |none=>some none
 |some x=>match ev ρ x with|some v=>some (some v)|none=>none
def su(P:Program)(o:Op)(ρ:Fr)(h:aA)(K:Value->Prop):Prop:=
 match o with
 | .move x=>cX (ev ρ x) K
 | .assign x=>cX (ev ρ x) K
 | .pick c a b=>match ev ρ c with|some (.bool t)=>zJ t (ev ρ a) (ev ρ b) K|_=>False
 | .nilCheck x=>cX (ev ρ x) λv=>AL v K
 | .binOp op t x y _=>cX (ev ρ x) λa=>cX (ev ρ y) λb=>Bv P h op t a b K
 | .unOp op _ x=>cX (ev ρ x) λa=>Ej op a K
 | .convert s d x=>cX (ev ρ x) λa=>xd P s d a K
 | .load t a=>match ev ρ a with|some (.pointer p)=>pO P t h p K|_=>False
 | .fieldAddr s x i=>cX (ev ρ x) λa=>i5 P s a i K
 | .field s x i=>cX (ev ρ x) λa=>sw P s a i K
 | .indexAddr t x i=>cX (ev ρ x) λa=>cX (ev ρ i) λb=>ja P t a b K
 | .index t x i=>cX (ev ρ x) λa=>cX (ev ρ i) λb=>rl P t a b K
 | .slice t x lo hi none=>cX (ev ρ x) λa=>cX (CD ρ lo) λl=>cX (CD ρ hi) λu=>rZ P t a l u K
 | .extract x i=>cX (ev ρ x) λa=>qA a i K
 | .lookup t x k ok=>cX (ev ρ x) λa=>cX (ev ρ k) λb=>oZ P t h a b ok K
 | .build t ps=>oR P t (u2 ρ (ps.toList.map (·.2))) (ps.toList.map (·.1)) K
 | .makeInterface t x=>cX (ev ρ x) λa=>sn P t a K
 | .makeFunc fn first captured=>cX (u2 ρ first.toList) λa=>cX (u2 ρ captured.toList) λb=>K (.func fn a.toArray b.toArray)
 | .typeAssert x _ t ok=>cX (ev ρ x) λa=>oI P t ok a K
 | .call {callee:= .builtin b,args,argTypes}=>match b,args.toList,argTypes.toList with
  | .len,[x],[t]=>cX (ev ρ x) λa=>Bx P t h a K
  | .cap,[x],[t]=>cX (ev ρ x) λa=>Bl P t a K
  | .max,[x,y],_=>cX (ev ρ x) λa=>cX (ev ρ y) λb=>DY true a b K
  | .min,[x,y],_=>cX (ev ρ x) λa=>cX (ev ρ y) λb=>DY false a b K
  |_,_,_=>False
 |_=>False
def lJ:Op->Bool
 | .alloc _=>true| .box _ _=>true| .buildSlice _ _ _=>true| .store _ _ _=>true| .makeMap _ _=>true| .makeSlice _ _ _=>true
 | .mapUpdate _ _ _ _=>true| .mapEntry _ _ _=>true| .entryStore _ _ _ _=>true| .insert _ _ _ _=>true
 | .range _ _=>true| .next _ _=>true| .entry _=>true
 | .call {callee:= .builtin b,..}=>(match b with| .len=>false| .cap=>false| .max=>false| .min=>false|_=>true)
 | .call _=>true
 |_=>false
end
section
def bN(w w':World):Prop:=w'.os=w.os/\w'.tape=w.tape/\w'.output=w.output
def fH(P:Program)(f:FuncId)(args:List Value)(h:aA)(K:Value->aA->Prop):Prop:=
 ∀w:World,w.heap=h->Calls P f args.toArray w λe w'=> ∃v,e= .returned v/\bN w w'/\K v w'.heap
inductive cJ where
 |go|load (k:IntKind)|store|cas (k:IntKind)|add (k:IntKind)
 /--no function:the types of the key and the element at which an iterator (a slot) stands-/
 |ent (k v:TypeId)
def bW:List (Nat×cJ)->Nat->Option cJ
 | [],_=>none
 |(k,v)::r,t=>match Nat.beq k t with|true=>some v|false=>bW r t
def Em(P:Program):List TypeId->Option (List Value)
 | []=>some []
 |t::ts=>match zv P t,Em P ts with|some z,some zs=>some (z::zs)|_,_=>none
def yj(P:Program)(ty:TypeId)(v:Value)(K:Value->Prop):Prop:=
 match ((P.info? ty).map (λi=>i.desc):Option TypeDesc)with
 |some (TypeDesc.tuple ts)=>cX (Em P ts.toList) λzs=>D7 zs λvs=>v= .tuple vs.toArray/\K (.tuple vs.toArray)
 |some _=>cX (zv P ty) λz=>(match z with
  | .agg zs=>DV zs.toList λvs=>v= .agg vs.toArray/\K (.agg vs.toArray)
  |z=>yq z (some v) K)
 |none=>False
def vC(P:Program)(f:FuncId)(args:List Value)(ty:TypeId)(h:aA)(K:Value->aA->Prop):Prop:=
 fH P f args h λv h'=>yj P ty v λv'=>K v' h'
def aP(h:aA)(a:Addr)(v:Value)(K:aA->Prop):Prop:=
 match v.oneCell' with
 |true=>(rd h a).isSome=true/\fz h a=false/\K (wr h a v)
 |false=>False
def aZ(h:aA)(o:Obj)(K:Nat->aA->Prop):Prop:=K h.size (h.push o)
def mt(a:Addr):Nat->List Value->aA->(aA->Prop)->Prop
 |_,[],h,K=>K h
 |i,v::vs,h,K=>aP h (a.add i) v λh'=>mt a (i+1) vs h' K
def DO(e:cJ)(args:List Value)(h:aA)(K:Value->aA->Prop):Prop:=
 match e,args with
 | .load k,[.pointer p]=>aN p λa=>aI k (rd h a) λn=>K (.int k n) h
 | .store,[.pointer p,.int k y]=>aN p λa=>aP h a (.int k y) λh'=>K (.tuple #[]) h'
 | .cas k,[.pointer p,.int k1 x,.int k2 y]=>match Bg k k1,Bg k k2 with
  |true,true=>aN p λa=>aI k (rd h a) λn=>aC (n==x) (aP h a (.int k y) λh'=>K (.bool true) h') (fz h a=false/\K (.bool false) h)
  |_,_=>False
 | .add k,[.pointer p,.int k1 y]=>match Bg k k1 with
  |true=>aN p λa=>aI k (rd h a) λn=>aP h a (.int k (k.wrap (n+y))) λh'=>K (.int k (k.wrap (n+y))) h'
  |_=>False
 |_,_=>False
def EH(P:Program)(X:List (Nat×cJ))(f:FuncId)(args:List Value)(ty:TypeId)(h:aA)(K:Value->aA->Prop):Prop:=
 match bW X f with
 |some .go=>vC P f args ty h K
 |some e=>DO e args h K
 |none=>False
def gn(P:Program)(X:List (Nat×cJ))(f:Value)(args:List Value)(h:aA)(K:Value->aA->Prop):Prop:=
 match f with
 | .func (.func g) first captured=>(match bW X g with
  |some .go=>fH P g (first.toList++args++captured.toList) h K
  |_=>False)
 |_=>False
def BE(P:Program)(X:List (Nat×cJ))(f:Value)(args:List Value)(ty:TypeId)(h:aA)(K:Value->aA->Prop):Prop:=
 gn P X f args h λv h'=>yj P ty v λv'=>K v' h'
def AR(P:Program)(t:TypeId)(name:String):Option FuncId:=
 match P.info? t,P.underlying t with
 |some i,some (.pointer _)=>match i.methods.find? (·.name==name)with
  |some m=>match m.path.isEmpty,m.func with
   |true,some (f,true)=>some f
   |_,_=>none
  |none=>none
 |_,_=>none
def AF(P:Program)(X:List (Nat×cJ))(r:Value)(name:String)(args:List Value)(ty:TypeId)(h:aA)(K:Value->aA->Prop):Prop:=
 match r with
 | .iface t v=>match AR P t name with
  |some f=>(match bW X f with
   |some .go=>vC P f (v::args) ty h K
   |_=>False)
  |none=>False
 |_=>False
def lX(h:aA)(a:Addr)(cs:List Value):Prop:= ∀j v,cs[j]? =some v->rd h (a.add j)=some v
def fA(h:aA)(e:TypeId)(sz by_:Nat)(z:Array Value)(p:Option Addr)(l c:Nat)(q:Option Addr)(n:Nat)(K:Option Addr->Nat->Nat->aA->Prop):Prop:=
 ∃new:List Value,new.length=n*sz/\(match q with|some b=>lX h b new|none=>n=0)/\
  (l+n<=c->match p with
   |some a=>mt (a.add (l*sz)) 0 new h λh'=>K p (l+n) c h'
   |none=>n*sz=0/\K p (l+n) c h)/\
  (c<l+n-> ∃old:List Value,old.length=l*sz/\(match p with|some a=>lX h a old|none=>l=0)/\
   (l+n)*by_<=140737488355328/\
   ∀cap,l+n<=cap->K (some ⟨h.size,0,none⟩) (l+n) cap (h.push (.cells (old.toArray++new.toArray++Builtin.zeroCells z (cap-(l+n))) e)))
def tB(h:aA)(sz:Nat)(p:Option Addr)(l:Nat)(q:Option Addr)(n:Nat)(K:Nat->aA->Prop):Prop:=
 ∃new:List Value,new.length=Nat.min n l*sz/\(match q with|some b=>lX h b new|none=>n=0)/\
  match p with
  |some a=>mt a 0 new h λh'=>K (Nat.min n l) h'
  |none=>K (Nat.min n l) h
def iR(P:Program)(t:TypeId):Option (Nat×Nat×Array Value):=
 match P.info? t with
 |some i=>match i.zero with|some z=>some (i.size,i.bytes,z.cells)|none=>none
 |none=>none
def CS(P:Program)(t u:TypeId)(x y:Value)(h:aA)(K:Value->aA->Prop):Prop:=
 match P.underlying t,P.underlying u,x,y with
 |some (.slice e),some (.slice _),.slice p l c,.slice q n _=>match iR P e with
  |some (sz,by_,z)=>match Nat.ble 1 by_ with
   |true=>fA h e sz by_ z p l c q n λp' l' c' h'=>K (.slice p' l' c') h'
   |false=>False
  |none=>False
 |_,_,_,_=>False
def zA(P:Program)(t:TypeId)(x y:Value)(h:aA)(K:Value->aA->Prop):Prop:=
 match P.underlying t,x,y with
 |some (.slice e),.slice p l _,.slice q n _=>match P.info? e with
  |some ti=>tB h ti.size p l q n λm h'=>K (.int .i64 m) h'
  |none=>False
 |_,_,_=>False
def sq(h:aA)(z:Array Value)(p:Option Addr)(n:Nat)(K:aA->Prop):Prop:=
 match p with
 |some a=>mt a 0 (Builtin.zeroCells z n).toList h K
 |none=>K h
def sU(P:Program)(t:TypeId)(x:Value)(h:aA)(K:aA->Prop):Prop:=
 match P.underlying t,x with
 |some (.slice e),.slice p n _=>match iR P e with
  |some (_,_,z)=>sq h z p n K
  |none=>False
 |_,_=>False
def ff(P:Program)(t:TypeId)(p:Option Addr)(v:Value)(h:aA)(K:aA->Prop):Prop:=
 match P.info? t with
 |some ti=>match Nat.beq v.cells.size ti.size with
  |true=>aN p λa=>mt a 0 v.cells.toList h K
  |false=>False
 |none=>False
def jd(P:Program)(t:TypeId)(l c:Value)(h:aA)(K:Value->aA->Prop):Prop:=
 match P.underlying t,l,c with
 |some (.slice e),.int _ i,.int _ j=>match iR P e with
  |some (sz,by_,z)=>0<=i/\i<=j/\(by_:Int)*j<=281474976710656/\j<=9223372036854775807/\
    aZ h (.cells (madeCells z (j.toNat*sz)) e) λb h'=>K (.slice (some ⟨b,0,none⟩) i.toNat j.toNat) h'
  |none=>False
 |_,_,_=>False
def fG(P:Program)(t:TypeId)(len:Nat)(parts:Option (List Value))(ix:List Nat)(h:aA)(K:Value->aA->Prop):Prop:=
 match P.underlying t,parts with
 |some (.slice e),some vs=>match iR P e with
  |some (sz,_,z)=>match Nat.ble (len*sz) 16777216 with
   |true=>cX (Instr.fill (λi=>some (i*sz,sz)) (madeCells z (len*sz)) (ix.zip vs)) λcells=>
     aZ h (.cells cells e) λb h'=>K (.slice (some ⟨b,0,none⟩) len len) h'
   |false=>False
  |none=>False
 |_,_=>False
def EX(k1 kk:IntKind)(kn:Int)(es:Array MapEntry):Option (Option (Nat×Value)):=Instr.findNow (.int k1) (.int kk kn) es.toList 0
def AA(h:aA)(r:Option Nat)(k1 kk:IntKind)(kn:Int)(K:Nat->Array MapEntry->Nat->Option (Nat×Value)->Prop):Prop:=
 cX r λb=> ∃es cl,mp h b=some (es,cl)/\ ∃o,EX k1 kk kn es=some o/\K b es cl o
def qv(h:aA)(r:Option Nat)(k1 kk:IntKind)(kn:Int)(v:Value)(K:aA->Prop):Prop:=
 AA h r k1 kk kn λb es cl o=>match o with
  |some (i,_)=>Instr.sameBits 10000 (((es[i]?).map (·.key)).getD (.int kk kn)) (.int kk kn)=true/\
    K (h.setIfInBounds b (.map (es.modify i λe=>{e with key:= .int kk kn,val:=v}) cl))
  |none=>K (h.setIfInBounds b (.map (es.push {key:= .int kk kn,val:=v,born:=cl}) (cl+1)))
def EJ(h:aA)(r:Option Nat)(k1 kk:IntKind)(kn:Int)(z:Value)(K:Value->Int->aA->Prop):Prop:=
 AA h r k1 kk kn λb es cl o=>match o with
  |some (i,v)=>Instr.sameBits 10000 (((es[i]?).map (·.key)).getD (.int kk kn)) (.int kk kn)=true/\
    K v (((es[i]?).map (·.born)).getD 0) (h.setIfInBounds b (.map (es.modify i λe=>{e with key:= .int kk kn}) cl))
  |none=>K z cl (h.setIfInBounds b (.map (es.push {key:= .int kk kn,val:=z,born:=cl}) (cl+1)))
def ED(h:aA)(r:Option Nat)(st:Int)(v:Value)(K:aA->Prop):Prop:=
 cX r λb=> ∃es cl,mp h b=some (es,cl)/\ ∃i,es.findIdx? (λe=>(e.born:Int)==st)=some i/\
   K (h.setIfInBounds b (.map (es.modify i λe=>{e with val:=v}) cl))
def zp(h:aA)(r:Option Nat)(k1 kk:IntKind)(kn:Int)(K:aA->Prop):Prop:=
 AA h r k1 kk kn λb es cl o=>match o with
  |some (i,_)=>K (h.setIfInBounds b (.map (es.eraseIdxIfInBounds i) cl))
  |none=>K (h.setIfInBounds b (.map es cl))
def i7(P:Program)(t:TypeId)(m k v:Value)(h:aA)(K:aA->Prop):Prop:=
 match P.underlying t,m,k with
 |some (.map kt _),.map r,.int kk kn=>match P.underlying kt with
  |some (.int k1)=>qv h r k1 kk kn v K
  |_=>False
 |_,_,_=>False
def jN(P:Program)(t:TypeId)(m k:Value)(h:aA)(K:Value->aA->Prop):Prop:=
 match P.underlying t,m,k with
 |some (.map kt et),.map r,.int kk kn=>match P.underlying kt,zv P et with
  |some (.int k1),some z=>EJ h r k1 kk kn z λv st h'=>yq z (some v) λv'=>K (.tuple #[v',.int .i64 st]) h'
  |_,_=>False
 |_,_,_=>False
def ig(m s v:Value)(h:aA)(K:aA->Prop):Prop:=
 match m,s with
 | .map r,.int _ st=>ED h r st v K
 |_,_=>False
def ov(P:Program)(t:TypeId)(m k:Value)(h:aA)(K:aA->Prop):Prop:=
 match P.underlying t,m,k with
 |some (.map kt _),.map r,.int kk kn=>match P.underlying kt with
  |some (.int k1)=>zp h r k1 kk kn K
  |_=>False
 |_,_,_=>False
def Df(h:aA)(r:Option Nat)(K:Option Addr->aA->Prop):Prop:=
 match r with
 |none=>aZ h (.mapIter none 0 #[] 0) λb h'=>K (some ⟨b,0,none⟩) h'
 |some m=> ∃es cl,mp h m=some (es,cl)/\aZ h (.mapIter (some m) cl #[] cl) λb h'=>K (some ⟨b,0,none⟩) h'
def Eu(h:aA)(p:Option Addr)(K0:Prop)(K1:Value->Value->aA->Prop):Prop:=
 aN p λa=>a.off=0/\ ∃m since seen last,h[a.block]? =some (.mapIter m since seen last)/\
  match m with
  |none=>K0
  |some m=> ∃es cl,mp h m=some (es,cl)/\(∀x∈es.toList,x.born<since)/\since<=last/\((leftOf es seen).size=0->K0)/\
    ∀e∈(leftOf es seen).toList,K1 e.key e.val (h.setIfInBounds a.block (.mapIter (some m) since (seen.push e.born) cl))
def Ce(h:aA)(p:Option Addr)(K:Value->Value->Prop):Prop:=
 aN p λa=>a.off=0/\ ∃m since seen cl es stamp e,h[a.block]? =some (.mapIter (some m) since seen cl)/\seen.back? =some stamp/\mp h m=some (es,cl)/\es.find? (·.born==stamp)=some e/\K e.key e.val
def rO(P:Program)(t:TypeId)(x:Value)(h:aA)(K:Value->aA->Prop):Prop:=
 match P.underlying t,x with
 |some (.map _ _),.map r=>Df h r λp h'=>K (.pointer p) h'
 |_,_=>False
def vQ(x:Value)(h:aA)(K:Value->aA->Prop):Prop:=
 match x with
 | .pointer p=>Eu h p (K (.tuple #[.bool false]) h) λk v h'=>K (.tuple #[.bool true,k,v]) h'
 |_=>False
def sH(P:Program)(kt vt:TypeId)(x:Value)(h:aA)(K:Value->aA->Prop):Prop:=
 match x with
 | .pointer p=>Ce h p λk v=>cX (Em P [kt,vt]) λzs=>D7 zs λvs=>(Value.tuple #[k,v]=Value.tuple vs.toArray)/\K (.tuple vs.toArray) h
 |_=>False
def AP(P:Program)(X:List (Nat×cJ))(o:Op)(ty:TypeId)(ρ:Fr)(h:aA)(K:Value->aA->Prop):Prop:=
 match o with
 | .alloc t=>cX (zv P t) λz=>aZ h (.cells z.cells t) λb h'=>K (.pointer (some ⟨b,0,none⟩)) h'
 | .box t x=>cX (ev ρ x) λv=>aZ h (.cells v.cells t) λb h'=>K (.pointer (some ⟨b,0,none⟩)) h'
 | .store t a x=>match ev ρ a with
  |some (.pointer p)=>cX (ev ρ x) λv=>ff P t p v h λh'=>K undef h'
  |_=>False
 | .makeMap _ none=>aZ h (.map #[] 0) λb h'=>K (.map (some b)) h'
 | .makeSlice t l c=>cX (ev ρ l) λa=>cX (ev ρ c) λb=>jd P t a b h K
 | .buildSlice t n ps=>fG P t n (u2 ρ (ps.toList.map (·.2))) (ps.toList.map (·.1)) h K
 | .mapUpdate t m k x=>cX (ev ρ m) λa=>cX (ev ρ k) λb=>cX (ev ρ x) λv=>i7 P t a b v h λh'=>K undef h'
 | .mapEntry t m k=>cX (ev ρ m) λa=>cX (ev ρ k) λb=>jN P t a b h K
 | .entryStore _ m s x=>cX (ev ρ m) λa=>cX (ev ρ s) λb=>cX (ev ρ x) λv=>ig a b v h λh'=>K undef h'
 | .range t x=>cX (ev ρ x) λa=>rO P t a h K
 | .next x str=>cX (ev ρ x) λa=>match str with|false=>vQ a h K|true=>False
 | .entry x=>cX (ev ρ x) λa=>match x with
  | .tmp t=>(match bW X (1000000+t)with|some (.ent kt vt)=>sH P kt vt a h K|_=>False)
  |_=>False
 | .call {callee:= .value f,args,..}=>cX (u2 ρ args.toList) λxs=>match f with
  | .func g=>EH P X g xs ty h K
  |f=>cX (ev ρ f) λfv=>BE P X fv xs ty h K
 | .call {callee:= .invoke r name,args,..}=>cX (ev ρ r) λrv=>cX (u2 ρ args.toList) λxs=>AF P X rv name xs ty h K
 | .call {callee:= .builtin b,args,argTypes}=>match b,args.toList,argTypes.toList with
  | .append,[x,y],[t,u]=>cX (ev ρ x) λa=>cX (ev ρ y) λb=>CS P t u a b h K
  | .copy,[x,y],[t,_]=>cX (ev ρ x) λa=>cX (ev ρ y) λb=>zA P t a b h K
  | .delete,[x,y],[t,_]=>cX (ev ρ x) λa=>cX (ev ρ y) λb=>ov P t a b h λh'=>K (.tuple #[]) h'
  | .clear,[x],[t]=>cX (ev ρ x) λa=>sU P t a h λh'=>K (.tuple #[]) h'
  |_,_,_=>False
 |_=>False
def Ep(P:Program)(X:List (Nat×cJ))(o:Oper)(ρ:Fr)(h:aA)(K:Value->aA->Prop):Prop:=
 match lJ o.op with
 |true=>AP P X o.op o.type ρ h K
 |false=>su P o.op ρ h λv=>K v h
def vR(ops:Array Oper)(o:Oper)(ρ:Fr)(run skip:Fr->Prop):Prop:=
 match o.guard with
 |none=>run ρ
 |some (j,want)=>match (ops[j]?).bind (·.dst)with
  |none=>False
  |some d=>match get ρ d with
   |some (.bool b)=>(match want with
    |true=>aC b (run ((d,.bool true)::ρ)) (skip ((d,.bool false)::ρ))
    |false=>aC b (skip ((d,.bool true)::ρ)) (run ((d,.bool false)::ρ)))
   |some (.tuple _)=>skip ρ
   |_=>False
def mC(P:Program)(X:List (Nat×cJ))(ops:Array Oper)(o:Oper)(ρ:Fr)(h:aA)(K:Fr->aA->Prop):Prop:=
 vR ops o ρ (λρ=>Ep P X o ρ h λv h'=>K (put ρ o.dst v) h') (λρ=>K (put ρ o.dst undef) h)
def DX(P:Program)(X:List (Nat×cJ))(ops:Array Oper):List Oper->Fr->aA->(Fr->aA->Prop)->Prop
 | [],ρ,h,K=>K ρ h
 |o::rest,ρ,h,K=>mC P X ops o ρ h λρ' h'=>DX P X ops rest ρ' h' K
def dA(P:Program)(ops:Array Oper)(ρ:Fr)(h:aA):List Nat->Prop->Prop
 | [],K=>K
 |j::js,K=>match ops[j]? with
  |none=>False
  |some o=>
        match o.dst with
   |none=>False
   |some d=>match get ρ d with
    |none=>False
    |some v=>match o.guard with
     |none=>su P o.op ρ h λv'=>v'=v/\dA P ops ρ h js K
     |some (i,want)=>match (ops[i]?).bind (·.dst)with
      |none=>False
      |some g=>match get ρ g with
       |some (.bool b)=>(match want with
        |true=>aC b (su P o.op ρ h λv'=>v'=v/\dA P ops ρ h js K) (v=undef/\dA P ops ρ h js K)
        |false=>aC b (v=undef/\dA P ops ρ h js K) (su P o.op ρ h λv'=>v'=v/\dA P ops ρ h js K))
       |some (.tuple _)=>v=undef/\dA P ops ρ h js K
       |_=>False
def AM(P:Program)(X:List (Nat×cJ))(ops:Array Oper):List (Nat×List Nat)->Fr->aA->(Fr->aA->Prop)->Prop
 | [],ρ,h,K=>K ρ h
 |(i,js)::rest,ρ,h,K=>match ops[i]? with
  |none=>False
  |some o=>mC P X ops o ρ h λρ' h'=>dA P ops ρ' h' js (AM P X ops rest ρ' h' K)
def Bz(P:Program)(X:List (Nat×cJ))(ops:Array Oper):List (List (Nat×List Nat))->Fr->aA->(Fr->aA->Prop)->Prop
 | [],_,_,_=>False
 | [l],ρ,h,K=>AM P X ops l ρ h K
 |l::ls,ρ,h,K=>AM P X ops l ρ h K/\Bz P X ops ls ρ h K
def D3(ops:Array Oper)(i:Nat):Bool:=match ops[i]? with|some o=>lJ o.op|none=>false
def jr(ops:Array Oper):List (Nat×List Nat)->List (Nat×List Nat)
 | []=> []
 |x::l=>match D3 ops x.1 with|true=> []|false=>x::jr ops l
def gx(ops:Array Oper):List (Nat×List Nat)->List (Nat×List Nat)
 | []=> []
 |x::l=>match D3 ops x.1 with|true=>x::l|false=>gx ops l
def tZ(i:Nat):List (Nat×List Nat)->Bool
 | []=>false
 |x::l=>match Nat.beq x.1 i with|true=>true|false=>tZ i l
def gR:List (List (Nat×List Nat))->List (Nat×List Nat)
 | []=> []
 | []::A=>gR A
 |(x::_)::A=>let r:=gR A;match tZ x.1 r with|true=>r|false=>x::r
def m5(i:Nat):List (List (Nat×List Nat))->List (List (Nat×List Nat))
 | []=> []
 | []::A=>m5 i A
 |(x::l)::A=>match Nat.beq x.1 i with|true=>l::m5 i A|false=>m5 i A
def Az(P:Program)(X:List (Nat×cJ))(ops:Array Oper)(rec:List (List (Nat×List Nat))->Fr->aA->Prop)(A:List (List (Nat×List Nat))):List (Nat×List Nat)->Fr->aA->Prop
 | [],_,_=>True
 | [(i,js)],ρ,h=>(match ops[i]? with|none=>False|some o=>mC P X ops o ρ h λρ' h'=>dA P ops ρ' h' js (rec (m5 i A) ρ' h'))
 |(i,js)::l,ρ,h=>(match ops[i]? with|none=>False|some o=>mC P X ops o ρ h λρ' h'=>dA P ops ρ' h' js (rec (m5 i A) ρ' h'))/\Az P X ops rec A l ρ h
def D6(P:Program)(X:List (Nat×cJ))(ops:Array Oper)(K:Fr->aA->Prop):Nat->List (List (Nat×List Nat))->Fr->aA->Prop
 |0,_,_,_=>False
 |_+1,[],_,_=>False
 |n+1,a::A,ρ,h=>AM P X ops (jr ops a) ρ h λρ' h'=>
  match gx ops a with
  | []=>K ρ' h'
  |_::_=>let B:=(a::A).map (gx ops);Az P X ops (D6 P X ops K n) B (gR B) ρ' h'
abbrev KK:=Value->aA->Prop
def fX{α γ:Sort _}(f:α->γ){a a':α}(h:a=a'):f a=f a':=congrArg f h
def mM{α β γ:Sort _}(f:α->β->γ){a a':α}{b b':β}(h:a=a')(g:b=b'):f a b=f a' b':=by rw[h,g]
def bq{p q:Nat->Prop}(h: ∀n,p n=q n):(∃n,p n)= ∃n,q n:=congrArg _ (funext h)
structure bf where
 cuts:List (Nat×List Nat)
 alts:List (Nat×List (List (Nat×List Nat)))
def zm{α:Type}:List (Nat×α)->Nat->Option α
 | [],_=>none
 |(k,v)::r,t=>match Nat.beq k t with|true=>some v|false=>zm r t
def pd:Code->Option Nat
 | .region id _ _=>some id
 | .seq a _=>pd a
 | .block _ c=>pd c
 | .loop c=>pd c
 |_=>none
def bJ(T:bf)(c:Code):Option (List Nat):=
 match pd c with
 |some id=>zm T.cuts id
 |none=>none
def yS(q:Option (List Nat))(ρ:Fr):Fr:=match q with|some L=>cut L ρ|none=>ρ
abbrev XK:=Exit->Fr->aA->Prop
abbrev aS:=(Fr->aA->Prop)->Fr->aA->Prop
def dM(S:aS)(q:Option (List Nat))(κ:Fr->aA->Prop)(K:Exit->Fr->aA->Prop):Exit->Fr->aA->Prop:=λe ρ h=>
 match e with
 | .normal=>(match q with|some L=>S κ (cut L ρ) h|none=>κ ρ h)
 |e=>K e ρ h
def cO(S:aS)(q:Option (List Nat))(κ:Fr->aA->Prop)(K:Exit->Fr->aA->Prop):Exit->Fr->aA->Prop:=λe ρ h=>
 match e with
 | .normal=>S κ (yS q ρ) h
 |e=>K e ρ h
def br(id:Nat)(K:Exit->Fr->aA->Prop):Exit->Fr->aA->Prop:=λe ρ h=>match e with| .exit i=>(match Nat.beq i id with|true=>K .normal ρ h|false=>K (.exit i) ρ h)|e=>K e ρ h
def fQ(S:aS)(body:(Exit->Fr->aA->Prop)->Fr->aA->Prop)(q:Option (List Nat))(K:Exit->Fr->aA->Prop):Nat->Fr->aA->Prop
 |0,_,_=>False
 |n+1,ρ,h=>body (cO S q (fQ S body q K n) K) ρ h
def E(P:Program)(X:List (Nat×cJ))(T:bf)(S:aS):Code->(Exit->Fr->aA->Prop)->Fr->aA->Prop
 | .skip,K,ρ,h=>K .normal ρ h
 | .region id ops draw,K,ρ,h=>match draw with
  |false=>DX P X ops ops.toList ρ h λρ' h'=>K .normal ρ' h'
  |true=>match zm T.alts id with
   |some ls=>(match Nat.ble 5 ls.length with
    |true=>D6 P X ops (λρ' h'=>K .normal ρ' h') (ops.size+1) ls ρ h
    |false=>Bz P X ops ls ρ h λρ' h'=>K .normal ρ' h')
   |none=>False
 | .seq a b,K,ρ,h=>E P X T S a (dM S (bJ T b) (E P X T S b K) K) ρ h
 | .cond c a b,K,ρ,h=>match ev ρ c with
  |some (.bool t)=>aC t (E P X T S a K ρ h) (E P X T S b K ρ h)
  |_=>False
 | .block id c,K,ρ,h=>E P X T S c (br id K) ρ h
 | .loop c,K,ρ,h=> ∃n,S (fQ S (E P X T S c) (bJ T c) K n) (yS (bJ T c) ρ) h
 | .exit id,K,ρ,h=>K (.exit id) ρ h
 | .ret,K,ρ,h=>K .ret ρ h
 | .label _,K,ρ,h=>K .normal ρ h
 |_,_,_,_=>False
def sub:Code->List Nat->Code
 |c,[]=>c
 | .seq a _,0::p=>sub a p
 | .seq _ b,1::p=>sub b p
 | .cond _ a _,0::p=>sub a p
 | .cond _ _ b,1::p=>sub b p
 | .block _ c,0::p=>sub c p
 | .loop c,0::p=>sub c p
 |_,_=> .skip
abbrev S0:aS:=λκ ρ h=>κ ρ h
def so(P:Program):List ResultVar->Fr->aA->(List Value->Prop)->Prop
 | [],_,_,K=>K []
 | .tmp t::r,ρ,h,K=>cX (get ρ t) λv=>so P r ρ h λvs=>K (v::vs)
 | .cell a t::r,ρ,h,K=>match get ρ a with
  |some (.pointer p)=>pO P t h p λv=>so P r ρ h λvs=>K (v::vs)
  |_=>False
def fin(P:Program)(rs:List ResultVar)(K:Value->aA->Prop)(e:Exit)(ρ:Fr)(h:aA):Prop:=
 match e with
 | .ret=>so P rs ρ h λvs=>(match vs with| [v]=>K v h|vs=>K (.tuple vs.toArray) h)
 | .normal=>so P rs ρ h λvs=>(match vs with| [v]=>K v h|vs=>K (.tuple vs.toArray) h)
 |_=>False
def cx:Nat->List Value->Fr
 |_,[]=> []
 |i,v::vs=>(i,v)::cx (i+1) vs
end
section
def Bw(f:Operand->Option Value)(xs:Array Operand)(σ:Operand->Value):Prop:= ∀x∈xs,∀v,f x=some v->σ x=v
def zD(P:Program)(o:Oper)(f:Operand->Option Value)(h:aA)(v:Value):Prop:=
 ∀σ,Bw f o.op.operands σ-> ∀w:World,w.heap=h->(execOp σ o).run P w= .ok (.value v) w
def aO{α:Type}{x:Option α}{K:α->Prop}(h:cX x K): ∃v,x=some v/\K v:=by
 cases x with
 |none=>exact h.elim
 |some v=>exact⟨v,rfl,h⟩
def dx{b:Bool}{p q:Prop}(h:aC b p q):(b=true/\p)\/(b=false/\q):=by
 cases b
 ·exact .inr ⟨rfl,h⟩
 ·exact .inl ⟨rfl,h⟩
def bT{p:Option Addr}{K:Addr->Prop}(h:aN p K): ∃a,p=some a/\K a:=by
 cases p with
 |none=>exact h.elim
 |some v=>exact⟨v,rfl,h⟩
def ms{z:Value}{K:Value->Prop}(h:AG z K): ∃v,K v:=by
 unfold AG at h;split at h
 ·obtain⟨n,h⟩:=h;exact⟨_,h⟩
 ·obtain⟨n,h⟩:=h;exact⟨_,h⟩
 ·obtain⟨n,h⟩:=h;exact⟨_,h⟩
 ·obtain⟨p,l,c,h⟩:=h;exact⟨_,h⟩
 ·obtain⟨n,h⟩:=h;exact⟨_,h⟩
 ·obtain⟨n,h⟩:=h;exact⟨_,h⟩
 ·exact h
def qt{zs:List Value}: ∀{K:List Value->Prop},DV zs K-> ∃vs,K vs:=by
 induction zs with
 |nil=>intro K h;exact⟨[],h⟩
 |cons z zs ih=>intro K h;obtain⟨v,h⟩:=ms h;obtain⟨vs,h⟩:=ih h;exact⟨_,h⟩
def wh{z:Value}{K:Value->Prop}(h:EK z K): ∃v,K v:=by
 unfold EK at h;split at h
 ·obtain⟨vs,h⟩:=qt h;exact⟨_,h⟩
 ·exact ms h
def qj{zs:List Value}: ∀{K:List Value->Prop},D7 zs K-> ∃vs,K vs:=by
 induction zs with
 |nil=>intro K h;exact⟨[],h⟩
 |cons z zs ih=>intro K h;obtain⟨v,h⟩:=wh h;obtain⟨vs,h⟩:=ih h;exact⟨_,h⟩
def di{z:Value}{x:Option Value}{K:Value->Prop}(h:yq z x K): ∃v,x=some v/\K v:=ms h
def xv{h:aA}{a:Addr}: ∀{zs:List Value} {i:Nat} {K:List Value->Prop},EF h a i zs K-> ∃vs:List Value,vs.length=zs.length/\(∀j v,vs[j]? =some v->rd h (a.add (i+j))=some v)/\K vs:=by
 intro zs
 induction zs with
 |nil=>intro i K H;exact⟨[],rfl,Z,H⟩
 |cons z zs ih=>
  intro i K H;obtain⟨v,hv,H⟩:=di H;obtain⟨vs,hl,hr,H⟩:=ih H;refine⟨v::vs,by simp[hl],λj u hj=> ?_,H⟩;cases j with
  |zero=>simp at hj;subst hj;exact hv
  |succ j=>have:=hr j u (by simpa using hj);rw[<-this];congr 2;omega
def fE(w:World)(a:Addr):w.cell? a=rd w.heap a:=rfl
def fP(w:World)(a:Addr):w.frozen? a=fz w.heap a:=rfl
def pl(w:World)(a:Addr)(v:Value):(w.setCell a v).heap=wr w.heap a v:=rfl
def ba{P:Program}{t:TypeId}{d:TypeDesc}(h:P.underlying t=some d)(w:World):(underlying t).run P w= .ok d w:=run_underlying h w
def jP{P:Program}{t:TypeId}{i:TypeInfo}(h:P.info? t=some i)(w:World):(typeInfo t).run P w= .ok i w:=by simp[typeInfo,h]
def co{P:Program}{t:TypeId}{i:TypeInfo}(h:P.info? t=some i)(w:World):(sizeOf t).run P w= .ok i.size w:=by simp[sizeOf,jP h]
def mL{P:Program}{t:TypeId}{z:Value}(h:zv P t=some z)(w:World):(zeroValue t).run P w= .ok z w:=by
 unfold zv at h;cases hi:P.info? t with
 |none=>simp[hi]at h
 |some i=>simp[hi]at h;simp[zeroValue,jP hi,h]
def qQ{P:Program}{t:TypeId}{d:TypeDesc}(h:P.underlying t=some d): ∃i,P.info? t=some i:=by
 unfold Program.underlying at h;cases hi:P.info? t with
 |none=>simp[hi]at h
 |some i=>exact⟨i,rfl⟩
def fj{P:Program}{t:TypeId}{i:TypeInfo}(h:P.info? t=some i):P.cellsOf t=i.size:=by simp[Program.cellsOf,h]
def jw{P:Program}{t:TypeId}{d:TypeDesc}(h:P.underlying t=some d)(w:World):(isAgg t).run P w= .ok (C7 d) w:=by simp only[isAgg,Sem.run_bind,ba h,Result.andThen_ok];cases d<;>rfl
def vF{l:List Value}{b:Nat}: ∀{zs:List Value} {i:Nat} {K:List Value->Prop},D8 l b i zs K-> ∃vs:List Value,vs.length=zs.length/\(∀j v,vs[j]? =some v->l[b+(i+j)]? =some v)/\K vs:=by
 intro zs
 induction zs with
 |nil=>intro i K H;exact⟨[],rfl,Z,H⟩
 |cons z zs ih=>
  intro i K H;obtain⟨v,hv,H⟩:=di H;obtain⟨vs,hl,hr,H⟩:=ih H;refine⟨v::vs,by simp[hl],λj u hj=> ?_,H⟩;cases j with
  |zero=>simp at hj;subst hj;exact hv
  |succ j=>have:=hr j u (by simpa using hj);rw[<-this];congr 2;omega
def kJ{P:Program}{t:TypeId}{h:aA}{p:Option Addr}{K:Value->Prop}(H:pO P t h p K):
  ∃v,K v/\ ∀w:World,w.heap=h->(Instr.loadAt t (.pointer p)).run P w= .ok v w:=by
 unfold pO at H;split at H
 case h_2=>exact H.elim
 rename_i d z hd hz;obtain⟨i,hi⟩:=qQ hd;split at H
 ·rename_i ha;split at H
  case h_2=>exact H.elim
  rename_i zs;split at H
  case h_2=>exact H.elim
  rename_i hs;have hs:=Nat.eq_of_beq_eq_true hs
  have HH: ∃a,p=some a/\ ∃vs:List Value,vs.length=zs.toList.length/\(∀j v,vs[j]? =some v->rd h (a.add (0+j))=some v)/\K (.agg vs.toArray):=by
   split at H
   ·obtain⟨a,e,H⟩:=bT H;obtain⟨vs,hl,hr,H⟩:=H;exact⟨a,e,vs,by simpa using hl,λj v hj=>by rw[Nat.zero_add];exact hr j v hj,H⟩
   ·obtain⟨a,e,H⟩:=bT H;exact⟨a,e,xv H⟩
  obtain⟨a,rfl,vs,hl,hr,H⟩:=HH;refine⟨_,H,λw hw=> ?_⟩
  have hload:(loadCells a i.size).run P w= .ok vs.toArray w:=by have:=run_loadCells_list (P:=P) (w:=w) a vs (λj v hj=>by rw[fE,hw,<-hr j v hj];simp);rw[<-this,hl,<-fj hi,<-hs];simp
  simp[Instr.loadAt,Instr.sureAddr,loadVar,jw hd,ha,co hi,hload]
 ·rename_i ha;obtain⟨a,rfl,H⟩:=bT H;obtain⟨v,hv,H⟩:=di H;refine⟨v,H,λw hw=> ?_⟩;have hc:w.cell? a=some v:=by rw[fE,hw,hv]
  simp[Instr.loadAt,Instr.sureAddr,loadVar,jw hd,ha,hc]
def rY{P:Program}{op:BinOp}{t:TypeId}{k:IntKind}{a b:Int}{K:Value->Prop}(hs:Ck op=false)(H:Bd op k a b K):
  ∃v,K v/\ ∀w:World,(binOp op t (.int k a) (.int k b)).run P w= .ok v w:=by
 cases op<;>simp only[Bd]at H
 case quo=>obtain⟨hb,H⟩:=H;exact⟨_,H,λw=>by simp[binOp,Op.intDiv,hb]⟩
 case rem=>obtain⟨hb,H⟩:=H;exact⟨_,H,λw=>by simp[binOp,Op.intDiv,hb]⟩
 case and=>exact⟨_,H,λw=>by simp[binOp];rfl⟩
 case or=>exact⟨_,H,λw=>by simp[binOp];rfl⟩
 case xor=>exact⟨_,H,λw=>by simp[binOp];rfl⟩
 case andNot=>exact⟨_,H,λw=>by simp[binOp];rfl⟩
 all_goals exact⟨_,H,λw=>by simp[binOp,Op.intArith,Op.intCmp]⟩
def uu{P:Program}{op:BinOp}{t:TypeId}{k k':IntKind}{a b:Int}{K:Value->Prop}(H:EO op k a b K):
  ∃v,K v/\ ∀w:World,(binOp op t (.int k a) (.int k' b)).run P w= .ok v w:=by
 cases op<;>simp only[EO]at H<;>first
  |exact H.elim
  |(obtain⟨hb,H⟩:=H
    have hb': ¬b<0:=Y;exact⟨_,H,λw=>by simp[binOp,Op.shift,hb']⟩)
def jX{k k':IntKind}(h:Bg k k'=true):k=k':=by cases k<;>cases k'<;>first|rfl|(simp[Bg]at h)
def fY{P:Program}{t:TypeId}{d:TypeDesc}(hd:P.underlying t=some d)(ha:C7 d=false)(cs:Array Value)(off:Nat)(v:Value)(hv:cs[off]? =some v)(w:World):
  (part t cs off).run P w= .ok v w:=by
 simp[part,jw hd,ha,hv]
def Fl{P:Program}{xs ys:Array Value}(d:Nat)(w:World): ∀(fs:List Field) (n:Nat) (b:Bool),
  (∀(i:Nat) (f:Field),fs[i]? =some f→f.offset=n+i∧f.name≠ "_" ∧(∃k,P.underlying f.type=some (.int k)))→
  (xs.toList.drop n).length=fs.length->tU (xs.toList.drop n) (ys.toList.drop n)=some b->(Op.eqFields (d+1) xs ys fs).run P w= .ok b w:=by
 intro fs
 induction fs with
 |nil=>
  intro n b _ hl he;have h0:xs.toList.drop n=[]:=List.eq_nil_of_length_eq_zero hl;rw[h0]at he;cases hy:ys.toList.drop n with
  |nil=>rw[hy]at he;simp[tU]at he;subst he;simp[Op.eqFields]
  |cons y l=>rw[hy]at he;simp[tU]at he
 |cons f fs ih=>
  intro n b hf hl he;obtain⟨ho,hn,hk⟩:=hf 0 f rfl;cases hx:xs.toList.drop n with
  |nil=>rw[hx]at hl;simp at hl
  |cons x xl=>
   cases hy:ys.toList.drop n with
   |nil=>rw[hx,hy]at he;cases x<;>simp[tU]at he
   |cons y yl=>
    have hxn:xs[n]? =some x:=by have:=congrArg (·[0]?) hx;simpa using this
    have hyn:ys[n]? =some y:=by have:=congrArg (·[0]?) hy;simpa using this
    have hx':xs.toList.drop (n+1)=xl:=by rw[<-List.drop_drop,hx];rfl
    have hy':ys.toList.drop (n+1)=yl:=by rw[<-List.drop_drop,hy];rfl
    rw[hx,hy]at he;have ih':=λb h=>ih (n+1) b (λi g hg=>by have:=hf (i+1) g (by simpa using hg);rw[this.1];exact⟨Y,this.2⟩) (by rw[hx'];rw[hx]at hl;simpa using hl) h;rw[hx',hy']at ih'
    have hpx:(part f.type xs f.offset).run P w= .ok x w:=by rw[ho];obtain⟨k,hk⟩:=hk;exact fY hk rfl _ _ _ hxn w
    have hpy:(part f.type ys f.offset).run P w= .ok y w:=by rw[ho];obtain⟨k,hk⟩:=hk;exact fY hk rfl _ _ _ hyn w
    simp only[Op.eqFields,Sem.run_ite,hn,ne_eq,not_false_iff,if_true,Sem.run_bind,hpx,hpy,Result.andThen_ok];unfold tU at he;split at he
    ·simp at*
    ·rename_i k a _ k' c _ e1 e2;simp only[List.cons.injEq]at e1 e2;obtain⟨rfl,rfl⟩:=e1;obtain⟨rfl,rfl⟩:=e2;split at he
     case h_2=>simp at he
     rename_i hkk;split at he
     case h_2=>simp at he
     rename_i r hr;simp only[Option.some.injEq]at he;have hkk:=jX hkk;subst hkk;obtain⟨k2,hk⟩:=hk;rw[run_equalIn_int w d _ _ _ _ _ hk];simp only[Result.andThen_ok];by_cases hac:a=c
     ·subst hac;simp at he;subst he;simpa using ih' _ hr
     ·have:(a==c)=false:=by simpa using hac
      simp[this]at he;subst he;simp[this]
    ·simp at he
def E5{P:Program}{xs ys:Array Value}{e:TypeId}{k:IntKind}(hk:P.underlying e=some (.int k))(hc:P.cellsOf e=1)(d:Nat)(w:World): ∀(m n:Nat) (b:Bool),
  (xs.toList.drop n).length=m->tU (xs.toList.drop n) (ys.toList.drop n)=some b->(Op.eqItems (d+1) e (P.cellsOf e) xs ys (List.range' n m)).run P w= .ok b w:=by
 intro m;rw[hc]
 induction m with
 |zero=>
  intro n b hl he;have h0:xs.toList.drop n=[]:=List.eq_nil_of_length_eq_zero hl;rw[h0]at he;cases hy:ys.toList.drop n with
  |nil=>rw[hy]at he;simp[tU]at he;subst he;simp[Op.eqItems]
  |cons y l=>rw[hy]at he;simp[tU]at he
 |succ m ih=>
  intro n b hl he;cases hx:xs.toList.drop n with
  |nil=>rw[hx]at hl;simp at hl
  |cons x xl=>
   cases hy:ys.toList.drop n with
   |nil=>rw[hx,hy]at he;cases x<;>simp[tU]at he
   |cons y yl=>
    have hxn:xs[n]? =some x:=by have:=congrArg (·[0]?) hx;simpa using this
    have hyn:ys[n]? =some y:=by have:=congrArg (·[0]?) hy;simpa using this
    have hx':xs.toList.drop (n+1)=xl:=by rw[<-List.drop_drop,hx];rfl
    have hy':ys.toList.drop (n+1)=yl:=by rw[<-List.drop_drop,hy];rfl
    rw[hx,hy]at he;have ih':=λb h=>ih (n+1) b (by rw[hx'];rw[hx]at hl;simpa using hl) h;rw[hx',hy']at ih';have hpx:(part e xs (n*1)).run P w= .ok x w:=fY hk rfl _ _ _ (by simpa using hxn) w;have hpy:(part e ys (n*1)).run P w= .ok y w:=fY hk rfl _ _ _ (by simpa using hyn) w;rw[List.range'_succ];simp only[Op.eqItems,Sem.run_bind,hpx,hpy,Result.andThen_ok];unfold tU at he;split at he
    ·simp at*
    ·rename_i k a _ k' c _ e1 e2;simp only[List.cons.injEq]at e1 e2;obtain⟨rfl,rfl⟩:=e1;obtain⟨rfl,rfl⟩:=e2;split at he
     case h_2=>simp at he
     rename_i hkk;split at he
     case h_2=>simp at he
     rename_i r hr;simp only[Option.some.injEq]at he;have hkk:=jX hkk;subst hkk;rw[run_equalIn_int w d _ _ _ _ _ hk];simp only[Result.andThen_ok];by_cases hac:a=c
     ·subst hac;simp at he;subst he;simpa using ih' _ hr
     ·have:(a==c)=false:=by simpa using hac
      simp[this]at he;subst he;simp[this]
    ·simp at he
def sF{P:Program}{t e:TypeId}(h:wy P t e=true):P.eqGuardType P.depth t=false/\(∃k,P.underlying e=some (.int k))/\P.cellsOf e=1/\ ∃i,P.info? e=some i:=by
 simp only[wy,Bool.and_eq_true,Bool.not_eq_true',beq_iff_eq,Option.isSome_iff_exists]at h;refine⟨h.1.1.1,?_,h.1.2,h.2⟩;have h3:=h.1.1.2;split at h3
 ·rename_i k hk;exact⟨k,hk⟩
 ·simp at h3
def uP{P:Program}{t:TypeId}{fs:Array Field}(hu:P.underlying t=some (.struct fs))(h:wF P t=true):
  P.stoodInHeld t=false∧P.eqGuardType P.depth t=false∧ ∀(i:Nat) (f:Field),fs[i]? =some f→f.offset=i∧f.name≠ "_" ∧(∃k,P.underlying f.type=some (.int k)):=by
 simp only[wF,hu,Bool.and_eq_true,Bool.not_eq_true',List.all_eq_true]at h;refine⟨h.1.1.1,h.1.1.2,λi f hf=> ?_⟩
 have:=h.1.2 (f,i) (by rw[List.mem_iff_getElem?];exact⟨i,by simp[List.getElem?_zipIdx,hf]⟩)
 simp only[beq_iff_eq,bne_iff_ne,ne_eq]at this;refine⟨this.1.1,this.1.2,?_⟩;have h3:=this.2;split at h3
 ·rename_i k hk;exact⟨k,hk⟩
 ·simp at h3
def nu{P:Program}{h:aA}{t:TypeId}{x y:Value}{K:Bool->Prop}(H:Ar P h t x y K):
  ∃b,K b/\(∀(op:BinOp) (u v:Operand) (w:World),(eqGuard op t u v x y).run P w= .ok () w)/\(∀w:World,w.heap=h->(Op.equal t x y).run P w= .ok b w)/\
   (∀w:World,(binOp .eql t x y).run P w=((Op.equal t x y).run P w).andThen λb w'=> .ok (.bool b) w')/\
   (∀w:World,(binOp .neq t x y).run P w=((Op.equal t x y).run P w).andThen λb w'=> .ok (.bool (!b)) w'):=by
 have m:Op.maxDepth=9999+1:=rfl;unfold Ar at H;split at H
 ·rename_i hd;split at H
  case h_2=>exact H.elim
  refine⟨_,H,λop u v w=>by simp[eqGuard_at_bool],λw _=>by unfold Op.equal;rw[m];exact run_equalIn_bool' w _ _ _ _ hd,λw=> ?_,λw=> ?_⟩<;>simp[binOp]
 ·rename_i e hd
  have key: ∀(p q:Option Addr),(p=none\/q=none)-> ∀w:World,(Op.equal t (.pointer p) (.pointer q)).run P w= .ok (p.isNone&&q.isNone) w:=by intro p q hpq w;unfold Op.equal;rw[m];unfold Op.equalIn;cases p<;>cases q<;>simp[ba hd]at hpq ⊢
  split at H
  case h_4=>exact H.elim
  ·rename_i p;refine⟨_,H,λop u v w=>by simp[eqGuard_at_pointer],λw _=>by rw[key _ _ (.inr rfl)];simp,λw=> ?_,λw=> ?_⟩<;>cases p<;>simp[binOp]
  ·rename_i p _;refine⟨_,H,λop u v w=>by simp[eqGuard_at_pointer],λw _=>by rw[key _ _ (.inl rfl)];simp,λw=> ?_,λw=> ?_⟩<;>cases p<;>simp[binOp]
  ·rename_i a b;split at H
   case h_2=>exact H.elim
   rename_i j hj;split at H
   case h_2=>exact H.elim
   rename_i hz;have hz:j.size≠0:=λe=>by rw[e]at hz;cases hz
   by_cases hab:a=b
   ·subst hab;refine⟨true,H.1 rfl,λop u v w=>by simp[eqGuard_at_pointer],λw _=> ?_,λw=> ?_,λw=> ?_⟩
    ·unfold Op.equal;rw[m];unfold Op.equalIn;simp[ba hd,sizeOf,typeInfo,hj,run_sameAddr_same]
    ·simp[binOp]
    ·simp[binOp]
   ·obtain⟨⟨ca,ua,ha⟩,⟨cb,ub,hb⟩,hk⟩:=H.2 hab;refine⟨false,hk,λop u v w=>by simp[eqGuard_at_pointer],λw hw=> ?_,λw=> ?_,λw=> ?_⟩
    ·unfold Op.equal;rw[m];unfold Op.equalIn;subst hw;simp[ba hd,sizeOf,typeInfo,hj,hz,run_sameAddr_other w hab ha hb]
    ·simp[binOp]
    ·simp[binOp]
 ·rename_i fs hd;split at H
  case h_2=>exact H.elim
  rename_i xs ys hfl;split at H
  case h_2=>exact H.elim
  rename_i hsz;have hsz:=Nat.eq_of_beq_eq_true hsz;obtain⟨b,hb,H⟩:=aO H;obtain⟨hp,hg,hf⟩:=uP hd hfl;have hfo:P.fieldsOf t=fs:=by simp[Program.fieldsOf,hd]
  refine⟨b,H,λop u v w=>run_eqGuard_agg w op t u v xs ys hg,λw _=> ?_,λw=> ?_,λw=> ?_⟩
  ·unfold Op.equal;rw[m,run_equalIn_struct w _ t xs ys (by rw[hfo];exact hd) hp,hfo];exact Fl 9998 w fs.toList 0 b (λi f hf'=>by have:=hf i f (by simpa using hf');rw[this.1];exact⟨Y,this.2⟩) (by simpa using hsz) (by simpa using hb)
  ·rw[run_eql_struct];rfl
  ·rw[run_neq_struct];rfl
 ·rename_i n e hd;split at H
  case h_2=>exact H.elim
  rename_i xs ys hfl;split at H
  case h_2=>exact H.elim
  rename_i hsz;have hsz:=Nat.eq_of_beq_eq_true hsz;obtain⟨b,hb,H⟩:=aO H;obtain⟨hg,⟨k,hk⟩,hc,i,hi⟩:=sF hfl;refine⟨b,H,λop u v w=>run_eqGuard_agg w op t u v xs ys hg,λw _=> ?_,λw=> ?_,λw=> ?_⟩
  ·unfold Op.equal;rw[m,run_equalIn_array w _ xs ys hd hi,List.range_eq_range'];exact E5 hk hc 9998 w n 0 b (by simpa using hsz) (by simpa using hb)
  ·rw[run_eql_struct];rfl
  ·rw[run_neq_struct];rfl
 ·rename_i e hd;split at H
  case h_2=>exact H.elim
  rename_i p _ _ _ _;refine⟨_,H,λop u v w=>by simp[eqGuard_at_slice],λw _=> ?_,λw=> ?_,λw=> ?_⟩
  ·unfold Op.equal;rw[m];unfold Op.equalIn;cases p<;>simp[ba hd]
  ·cases p<;>simp[binOp]
  ·cases p<;>simp[binOp]
 ·exact H.elim
def sA{P:Program}{h:aA}{op:BinOp}{t:TypeId}{x y:Value}{K:Value->Prop}(H:Bv P h op t x y K):
  ∃v,K v/\(∀(u v:Operand) (w:World),(eqGuard op t u v x y).run P w= .ok () w)/\ ∀w:World,w.heap=h->(binOp op t x y).run P w= .ok v w:=by
 unfold Bv at H;split at H
 ·rename_i k a k' b;split at H
  ·rename_i hs;obtain⟨v,hv,hr⟩:=uu (P:=P) (t:=t) (k':=k') H;exact⟨v,hv,λu v w=>by simp[eqGuard_at_int],λw _=>hr w⟩
  ·rename_i hs;split at H
   case h_2=>exact H.elim
   rename_i hk;have:=jX hk;subst this;obtain⟨v,hv,hr⟩:=rY (P:=P) (t:=t) hs H;exact⟨v,hv,λu v w=>by simp[eqGuard_at_int],λw _=>hr w⟩
 ·split at H
  case h_3=>exact H.elim
  ·obtain⟨b,hb,hg,he,h1,h2⟩:=nu H;exact⟨_,hb,hg _,λw hw=>by rw[h1,he w hw];rfl⟩
  ·obtain⟨b,hb,hg,he,h1,h2⟩:=nu H;exact⟨_,hb,hg _,λw hw=>by rw[h2,he w hw];rfl⟩
end
section
def kc{ρ:Fr}: ∀{xs:List Operand} {vs:List Value},u2 ρ xs=some vs->vs.length=xs.length/\ ∀σ:Operand->Value,(∀x∈xs,∀v,ev ρ x=some v->σ x=v)->xs.map σ=vs:=by
 intro xs
 induction xs with
 |nil=>intro vs h;simp[u2]at h;subst h;simp
 |cons x xs ih=>
  intro vs h;simp only[u2]at h;split at h
  case h_2=>simp at h
  rename_i v hv;split at h
  case h_2=>simp at h
  rename_i us hus;simp at h;subst h;obtain⟨hl,hm⟩:=ih hus;refine⟨by simp[hl],λσ hσ=> ?_⟩;simp only[List.map_cons];rw[hσ x Z v hv,hm σ λy hy=>hσ y (by simp[hy])]
def pD{P:Program}{s d:TypeId}{x:Value}{K:Value->Prop}(H:xd P s d x K):
  ∃v,K v/\ ∀w:World,(convert s d x).run P w= .ok v w:=by
 unfold xd at H;split at H
 case h_2=>exact H.elim
 rename_i a k k' n hs hd;exact⟨_,H,λw=>by simp[convert,ba hs,ba hd,Conv.intToInt]⟩
def tX{P:Program}{op:UnOp}{x:Value}{K:Value->Prop}(H:Ej op x K):
  ∃v,K v/\ ∀w:World,(Op.unary op x).run P w= .ok v w:=by
 unfold Ej at H;split at H
 ·exact⟨_,H,λw=>by simp[Op.unary]⟩
 ·exact⟨_,H,λw=>by simp[Op.unary,Op.intArith]⟩
 ·exact⟨_,H,λw=>rfl⟩
 ·exact H.elim
def jO{P:Program}{s:TypeId}{x:Value}{i:Nat}{K:Value->Prop}(H:i5 P s x i K):
  ∃v,K v/\ ∀w:World,(Instr.fieldAt s x i).run P w= .ok v w:=by
 unfold i5 at H;split at H
 case h_2=>exact H.elim
 rename_i fs p hs;split at H
 case h_2=>exact H.elim
 rename_i f hf;split at H
 case h_2=>exact H.elim
 rename_i ti hti;split at H
 case h_2=>exact H.elim
 rename_i hz;obtain⟨a,rfl,H⟩:=bT H;have hz': ¬ti.size=0:=λe=>by rw[e]at hz;simp at hz
 exact⟨_,H,λw=>by simp[Instr.fieldAt,ba hs,hf,Instr.sureAddr,fieldPlace,co hti,hz']⟩
def px{P:Program}{t:TypeId}{cs:Array Value}{off:Nat}{K:Value->Prop}(H:ve P t cs.toList off K):
  ∃v,K v/\ ∀w:World,(part t cs off).run P w= .ok v w:=by
 unfold ve at H;split at H
 case h_2=>exact H.elim
 rename_i d ti hd hti;split at H
 ·rename_i ha;exact⟨_,H,λw=>by simp[part,jw hd,ha,co hti]⟩
 ·rename_i ha;obtain⟨v,hv,H⟩:=aO H;exact⟨v,H,λw=>fY hd ha cs off v (by simpa using hv) w⟩
def oa{P:Program}{s:TypeId}{x:Value}{i:Nat}{K:Value->Prop}(H:sw P s x i K):
  ∃v,K v/\ ∀w:World,(Instr.field s x i).run P w= .ok v w:=by
 unfold sw at H;split at H
 case h_2=>exact H.elim
 rename_i fs cs hs;split at H
 case h_2=>exact H.elim
 rename_i f hf;obtain⟨v,hv,hr⟩:=px H;exact⟨v,hv,λw=>by simp[Instr.field,ba hs,hf,asAgg,hr]⟩
def kq{P:Program}{t:TypeId}{x i:Value}{K:Value->Prop}(H:ja P t x i K):
  ∃v,K v/\ ∀w:World,(Instr.indexAt t x i).run P w= .ok v w:=by
 unfold ja at H;split at H
 ·rename_i n e p k j ht;split at H
  case h_2=>exact H.elim
  rename_i ti hti;obtain⟨a,rfl,h0,h1,H⟩:=bT H;exact⟨_,H,λw=>by simp[Instr.indexAt,asIntOf,ba ht,Instr.sureAddr,h0,h1,co hti]⟩
 ·rename_i e p l c k j ht;split at H
  case h_2=>exact H.elim
  rename_i ti hti;obtain⟨a,rfl,h0,h1,H⟩:=bT H;exact⟨_,H,λw=>by simp[Instr.indexAt,asIntOf,ba ht,h0,h1,co hti]⟩
 ·exact H.elim
def oJ{P:Program}{t:TypeId}{x i:Value}{K:Value->Prop}(H:rl P t x i K):
  ∃v,K v/\ ∀w:World,(Instr.index t x i).run P w= .ok v w:=by
 unfold rl at H;split at H
 case h_3=>exact H.elim
 case h_2=>
  rename_i s k j ht;obtain⟨h0,b,hb,H⟩:=H
  exact⟨_,H,λw=>by simp only[Instr.index,asIntOf,Sem.run_bind,Sem.run_pure,Result.andThen_ok,ba ht];simp[h0,hb]⟩
 rename_i n e cs k j ht;split at H
 case h_2=>exact H.elim
 rename_i d ti hd hti;split at H
 ·rename_i ha;obtain⟨h0,h1,H⟩:=H;split at H
  case h_2=>exact H.elim
  rename_i zs hz;split at H
  case h_2=>exact H.elim
  rename_i hs;have hs:=Nat.eq_of_beq_eq_true hs;have hsz:=fj hti;obtain⟨vs,hl,hr,H⟩:=vF H
  have hx:cs.extract (j.toNat*ti.size) (j.toNat*ti.size+ti.size)=vs.toArray:=by
   apply Array.toList_inj.1;rw[Array.toList_extract];apply List.ext_getElem?;intro q;simp only[List.extract_eq_take_drop,Nat.add_sub_cancel_left,List.getElem?_take,List.getElem?_drop];have hln:vs.length=ti.size:=by rw[<-hsz,<-hs];simpa using hl
   by_cases hq:q<ti.size
   ·rw[if_pos hq];have hv:q<vs.length:=Y;have:=hr q vs[q] (List.getElem?_eq_getElem hv);rw[hsz,Nat.zero_add]at this;rw[this];simp[hv]
   ·rw[if_neg hq];symm;simp;omega
  exact⟨_,H,λw=>by simp only[Instr.index,asIntOf,Sem.run_bind,Sem.run_pure,Result.andThen_ok,ba ht];simp[h0,h1,co hti,part,jw hd,ha,hx]⟩
 rename_i ha;obtain⟨h0,h1,H⟩:=H;split at H
 case h_2=>exact H.elim
 rename_i hc;obtain⟨z,-,H⟩:=aO H;obtain⟨v,hv,H⟩:=di H;have hs:ti.size=1:=by rw[<-fj hti];exact hc
 exact⟨v,H,λw=>by simp only[Instr.index,asIntOf,Sem.run_bind,Sem.run_pure,Result.andThen_ok,ba ht];simp[h0,h1,co hti,hs,fY hd ha cs j.toNat v (by simpa using hv) w]⟩
def fV{P:Program}{k:IntKind}{i:Int}{y:Nat}{code:BoundsCode}(h0:0<=i)(h1:i<=y)(w:World):(Instr.sliceBound (.int k i) y code).run P w= .ok i.toNat w:=by simp[Instr.sliceBound,asIntOf,h0,h1]
def oC{P:Program}{t:TypeId}{x:Value}{lo hi:Option Value}{K:Value->Prop}(H:rZ P t x lo hi K):
  ∃v,K v/\ ∀w:World,(Instr.sliceAt t x lo hi none).run P w= .ok v w:=by
 unfold rZ at H;split at H
 ·rename_i e p l c ht;split at H
  case h_2=>exact H.elim
  rename_i ti hti
  have hopen: ∀w,(Instr.sliceAt t (.slice p l c) lo hi none).run P w=((Instr.sliceBounds true l c lo hi none).run P w).andThen λr w'=>((sizeOf e).run P w').andThen λs w''=> .ok (.slice (if r.2.2=r.1 then p else p.map (·.add (r.1*s))) (r.2.1-r.1) (r.2.2-r.1)) w'':=by intro w;simp[Instr.sliceAt,ba ht,Instr.slice]
  split at H
  ·rename_i k j;obtain⟨h0,h1,H⟩:=H;refine⟨_,H,λw=> ?_⟩;rw[hopen];simp[Instr.sliceBounds,fV h0 h1,co hti]
  ·rename_i k i;obtain⟨h0,h1,H⟩:=H;refine⟨_,H,λw=> ?_⟩;rw[hopen];simp[Instr.sliceBounds,fV h0 h1,co hti]
  ·rename_i k i k' j;obtain⟨h0,h1,h2,h3,H⟩:=H;refine⟨_,H,λw=> ?_⟩;rw[hopen];have h3':i<=(j.toNat:Int):=Y;simp[Instr.sliceBounds,fV h0 h1,fV h2 h3',co hti]
  ·refine⟨_,H,λw=> ?_⟩;rw[hopen];simp[Instr.sliceBounds,co hti]
  ·exact H.elim
 ·rename_i n e p ht;split at H
  case h_2=>exact H.elim
  rename_i ti hti
  have hopen: ∀(a:Addr) w,(Instr.sliceAt t (.pointer (some a)) lo hi none).run P w=((Instr.sliceBounds false n n lo hi none).run P w).andThen λr w'=>((sizeOf e).run P w').andThen λs w''=> .ok (.slice (some (if r.2.2=r.1 then a else a.add (r.1*s))) (r.2.1-r.1) (r.2.2-r.1)) w'':=by intro a w;simp[Instr.sliceAt,ba ht,Instr.sureAddr]
  split at H
  ·rename_i k j;obtain⟨a,rfl,h0,h1,H⟩:=bT H;refine⟨_,H,λw=> ?_⟩;rw[hopen];simp[Instr.sliceBounds,fV h0 h1,co hti]
  ·obtain⟨a,rfl,H⟩:=bT H;refine⟨_,H,λw=> ?_⟩;rw[hopen];simp[Instr.sliceBounds,co hti]
  ·rename_i k i;obtain⟨a,rfl,h0,h1,H⟩:=bT H;refine⟨_,H,λw=> ?_⟩;rw[hopen];simp[Instr.sliceBounds,fV h0 h1,co hti]
  ·exact H.elim
 ·exact H.elim
def eI{w:World}{b:Nat}{es:Array MapEntry}{cl:Nat}(h:mp w.heap b=some (es,cl)):w.heap[b]? =some (.map es cl):=by
 unfold mp at h;split at h
 ·rename_i es' cl' hb;simp at h;obtain⟨rfl,rfl⟩:=h;exact hb
 ·simp at h
def cv{P:Program}{w:World}{b:Nat}{es:Array MapEntry}{cl:Nat}(h:w.heap[b]? =some (.map es cl)):(getObj b).run P w= .ok (.map es cl) w:=by simp[getObj,Sem.run,h]
def cp{P:Program}{kt:TypeId}{k k':IntKind}{n:Int}{b:Bool}(h:P.underlying kt=some (.int k))(w:World):(Instr.checkKey b 10000 kt (.int k' n)).run P w= .ok () w:=by have m:(10000:Nat)=9999+1:=rfl;rw[m];unfold Instr.checkKey;simp[ba h]
def cI{P:Program}{kt:TypeId}{k k':IntKind}{n:Int}{es:List MapEntry}{o:Option (Nat×Value)}(h:P.underlying kt=some (.int k))(hf:Instr.findNow (.int k) (.int k' n) es 0=some o)(w:World):
  (Instr.findKey kt (.int k' n) es).run P w= .ok o w:=by
 simp[Instr.findKey,ba h,hf]
def mY{P:Program}{t:TypeId}{h:aA}{x k:Value}{ok:Bool}{K:Value->Prop}(H:oZ P t h x k ok K):
  ∃v,K v/\ ∀w:World,w.heap=h->(Instr.lookup t x k ok).run P w= .ok v w:=by
 unfold oZ at H;split at H
 case h_2=>exact H.elim
 rename_i kt et r kk kn ht;split at H
 case h_2=>exact H.elim
 rename_i k1 z hk hz;obtain⟨b,rfl,es,cl,hm,o,hf,H⟩:=aO H
 have hrun: ∀w:World,w.heap=h->(Instr.lookup t (.map (some b)) (.int kk kn) ok).run P w= .ok (if ok then .tuple #[(match o with|some (_,v)=>v|none=>z),.bool o.isSome]else(match o with|some (_,v)=>v|none=>z)) w:=by
  intro w hw;subst hw;have hb:=eI hm;cases o with
  |none=>simp[Instr.lookup,ba ht,cv hb,cp hk,cI hk hf,mL hz]
  |some q=>simp[Instr.lookup,ba ht,cv hb,cp hk,cI hk hf]
 unfold EV at H;cases o with
 |none=>
  cases ok with
  |true=>
   obtain⟨v,hv,H⟩:=di H;simp only[Option.some.injEq]at hv;subst hv;exact⟨_,H,λw hw=>by rw[hrun w hw];rfl⟩
  |false=>
   obtain⟨v,hv,H⟩:=di H;simp only[Option.some.injEq]at hv;subst hv;exact⟨_,H,λw hw=>by rw[hrun w hw];rfl⟩
 |some q=>
  cases ok with
  |true=>
   obtain⟨v,hv,H⟩:=di H;simp only[Option.some.injEq]at hv;subst hv;exact⟨_,H,λw hw=>by rw[hrun w hw];rfl⟩
  |false=>
   obtain⟨v,hv,H⟩:=di H;simp only[Option.some.injEq]at hv;subst hv;exact⟨_,H,λw hw=>by rw[hrun w hw];rfl⟩
def sR{P:Program}(w:World): ∀(fs:List Field),(∀f∈fs,∃i,P.info? f.type=some i)->
  (fs.mapM (m:=Sem) λf=>do pure (f.offset,<-sizeOf f.type)).run P w= .ok (fs.map λf=>(f.offset,P.cellsOf f.type)) w:=by
 intro fs
 induction fs with
 |nil=>intro _;simp
 |cons f fs ih=>
  intro hf;obtain⟨i,hi⟩:=hf f Z;have:=ih λg hg=>hf g (by simp[hg]);simp only[List.mapM_cons,Sem.run_bind,co hi,Result.andThen_ok,Sem.run_pure,List.map_cons,fj hi];rw[this]
  rfl
def pb{P:Program}{t:TypeId}{vs:List Value}{ix:List Nat}{K:Value->Prop}(H:oR P t (some vs) ix K):
  ∃v,K v/\ ∀w:World,(Instr.build t (ix.zip vs).toArray).run P w= .ok v w:=by
 unfold oR at H;split at H
 ·rename_i fs z vs' ht hz hv;simp only[Option.some.injEq]at hv;subst hv;split at H
  case h_2=>exact H.elim
  rename_i hall;obtain⟨cells,hc,H⟩:=aO H
  have hi: ∀f∈fs.toList,∃i,P.info? f.type=some i:=λf hf=>by have:=List.all_eq_true.1 hall f hf;exact Option.isSome_iff_exists.1 this
  refine⟨_,H,λw=> ?_⟩
  have hm:(fs.mapM (m:=Sem) λf=>do pure (f.offset,<-sizeOf f.type)).run P w= .ok (fs.map λf=>(f.offset,P.cellsOf f.type)) w:=by
   have h1:=sR (P:=P) w fs.toList hi;rw[Array.mapM_eq_mapM_toList];simp only[Sem.run_map];rw[h1];simp only[Result.andThen_ok]
   congr 1
   apply Array.ext';simp
  simp only[Instr.build,Sem.run_bind,mL hz,Result.andThen_ok,ba ht,hm,hc,Sem.run_pure]
 ·rename_i n e z vs' ht hz hv;simp only[Option.some.injEq]at hv;subst hv;split at H
  case h_2=>exact H.elim
  rename_i hall;obtain⟨i,hi⟩:=Option.isSome_iff_exists.1 hall;obtain⟨cells,hc,H⟩:=aO H;refine⟨_,H,λw=> ?_⟩;rw[fj hi]at hc;simp only[Instr.build,Sem.run_bind,mL hz,Result.andThen_ok,ba ht,co hi,hc,Sem.run_pure]
 ·exact H.elim
def om{P:Program}{t:TypeId}{v:Value}{K:Value->Prop}(H:sn P t v K):
  ∃u,K u/\ ∀w:World,(Instr.makeInterface t v).run P w= .ok u w:=by
 unfold sn at H;split at H
 ·exact H.elim
 ·rename_i d hne hd;refine⟨_,H,λw=> ?_⟩;simp only[Instr.makeInterface,Sem.run_bind,ba hd,Result.andThen_ok];cases d<;>first|(exfalso;exact hne _ hd)|rfl
 ·exact H.elim
def mR{P:Program}{x:Value}{xt t:TypeId}{ok:Bool}{K:Value->Prop}(H:oI P t ok x K):
  ∃u,K u/\ ∀w:World,(Instr.typeAssert x xt t ok).run P w= .ok u w:=by
 unfold oI at H;split at H
 ·exact H.elim
 ·rename_i d _ s v hne hd;split at H
  case h_2=>exact H.elim
  rename_i hst;have hst:=Nat.eq_of_beq_eq_true hst;subst hst;cases ok
  ·refine⟨_,H,λw=> ?_⟩;simp only[Instr.typeAssert,Sem.run_bind,ba hd,Result.andThen_ok];cases d<;>first|(exfalso;exact hne _ _ hd rfl)|simp
  ·refine⟨_,H,λw=> ?_⟩;simp only[Instr.typeAssert,Sem.run_bind,ba hd,Result.andThen_ok];cases d<;>first|(exfalso;exact hne _ _ hd rfl)|simp
 ·exact H.elim
def sT{P:Program}{t ty:TypeId}{h:aA}{x:Value}{K:Value->Prop}(H:Bx P t h x K):
  ∃v,K v/\ ∀w:World,w.heap=h->(Builtin.len_ #[t] ty #[x]).run P w= .ok v w:=by
 unfold Bx at H;split at H
 ·rename_i ht;exact⟨_,H,λw _=>by simp[Builtin.len_,ba ht,goInt]⟩
 ·rename_i ht;exact⟨_,H,λw _=>by simp[Builtin.len_,ba ht,goInt]⟩
 ·rename_i ht;exact⟨_,H,λw _=>by simp[Builtin.len_,ba ht,goInt]⟩
 ·rename_i ht;obtain⟨b,rfl,es,cl,hm,H⟩:=aO H;refine⟨_,H,λw hw=> ?_⟩;subst hw;simp[Builtin.len_,ba ht,cv (eI hm),goInt]
 ·exact H.elim
def rF{P:Program}{t ty:TypeId}{x:Value}{K:Value->Prop}(H:Bl P t x K):
  ∃v,K v/\ ∀w:World,(Builtin.cap_ #[t] ty #[x]).run P w= .ok v w:=by
 unfold Bl at H;split at H
 ·rename_i ht;exact⟨_,H,λw=>by simp[Builtin.cap_,ba ht,goInt]⟩
 ·exact H.elim
def nK{P:Program}{mx:Bool}{ats:Array TypeId}{ty:TypeId}{x y:Value}{K:Value->Prop}(H:DY mx x y K):
  ∃v,K v/\ ∀w:World,(match mx with|true=>Builtin.max_ ats ty #[x,y]|false=>Builtin.min_ ats ty #[x,y]).run P w= .ok v w:=by
 unfold DY at H;split at H
 ·cases mx
  ·exact⟨_,H,λw=>by simp[Builtin.min_,Builtin.min2]⟩
  ·exact⟨_,H,λw=>by simp[Builtin.max_,Builtin.max2]⟩
 ·exact H.elim
def sQ{P:Program}{v:Value}{K:Value->Prop}(H:AL v K)(dst:Option Tmp)(x:Operand)(type:TypeId)(pos:String)(after:Array Edge)(guard:Option (Nat×Bool))(σ:Operand->Value)(hσ:σ x=v):
  K v/\ ∀w:World,(execOp σ {dst,op:= .nilCheck x,type,pos,after,guard}).run P w= .ok (.value v) w:=by
 unfold AL at H;split at H
 ·obtain⟨a,rfl,H⟩:=bT H;exact⟨H,λw=>by simp[execOp,hσ]⟩
 ·exact⟨H,λw=>by simp[execOp,hσ]⟩
 ·exact⟨H,λw=>by simp[execOp,hσ]⟩
 ·exact H.elim
def wg{ρ:Fr}{x:Option Operand}{r:Option Value}(h:CD ρ x=some r)(σ:Operand->Value)(hσ: ∀y,x=some y-> ∀v,ev ρ y=some v->σ y=v):x.map σ=r:=by
 cases x with
 |none=>simp[CD]at h;subst h;rfl
 |some y=>
  simp only[CD]at h;split at h
  case h_2=>simp at h
  rename_i v hv;simp at h;subst h;simp[hσ y rfl v hv]
def mD{P:Program}{o:Oper}{ρ:Fr}{h:aA}{K:Value->Prop}(H:su P o.op ρ h K):
  ∃v,zD P o (ev ρ) h v/\K v:=by
 obtain⟨dst,op,type,pos,after,guard⟩:=o
 have lift: ∀{s:(Operand->Value)->Sem Value} {v:Value},(∀σ,execOp σ ⟨dst,op,type,pos,after,guard⟩=(do pure (.value (<-s σ))))->
   (∀σ,Bw (ev ρ) op.operands σ-> ∀w:World,w.heap=h->(s σ).run P w= .ok v w)->zD P ⟨dst,op,type,pos,after,guard⟩ (ev ρ) h v:=by
  intro s v he hs σ hσ w hw;rw[he σ];simp[hs σ hσ w hw]
 unfold su at H;dsimp only at H;split at H
 ·obtain⟨v,hv,H⟩:=aO H;exact⟨v,λσ hσ w hw=>by simp[execOp,hσ _ (by simp[Op.operands]) v hv],H⟩
 ·obtain⟨v,hv,H⟩:=aO H;exact⟨v,λσ hσ w hw=>by simp[execOp,hσ _ (by simp[Op.operands]) v hv],H⟩
 ·rename_i c a b;split at H
  case h_2=>exact H.elim
  rename_i t hc
  have base: ∀v,(t=true->ev ρ a=some v)->(t=false->ev ρ b=some v)->zD P ⟨dst,.pick c a b,type,pos,after,guard⟩ (ev ρ) h v:=by
   intro v h1 h2 σ hσ w hw;have hcc:=hσ c (by simp[Op.operands]) _ hc;cases t
   ·simp[execOp,hcc,asBool,hσ b (by simp[Op.operands]) _ (h2 rfl)]
   ·simp[execOp,hcc,asBool,hσ a (by simp[Op.operands]) _ (h1 rfl)]
  unfold zJ at H;split at H
  ·rename_i x y hx hy;exact⟨_,base _ (λht=>by subst ht;simpa using hx) (λht=>by subst ht;simpa using hy),H⟩
  ·rcases dx H with⟨rfl,H⟩|⟨rfl,H⟩
   ·obtain⟨v,hv,H⟩:=aO H;exact⟨v,base v (λ_=>hv) (λh=>by simp at h),H⟩
   ·obtain⟨v,hv,H⟩:=aO H;exact⟨v,base v (λh=>by simp at h) (λ_=>hv),H⟩
 ·rename_i x;obtain⟨v,hv,H⟩:=aO H;have:=λσ hσ=>sQ (P:=P) H dst x type pos after guard σ hσ;exact⟨v,λσ hσ w _=>(this σ (hσ _ (by simp[Op.operands]) v hv)).2 w,(this (λ_=>v) rfl).1⟩
 ·rename_i op t x y yt;obtain⟨a,ha,H⟩:=aO H;obtain⟨b,hb,H⟩:=aO H;obtain⟨v,hv,hg,hr⟩:=sA H
  exact⟨v,lift (λσ=>rfl) λσ hσ w hw=>by rw[hσ x (by simp[Op.operands]) a ha,hσ y (by simp[Op.operands]) b hb];simp[hg,hr w hw],hv⟩
 ·rename_i op t x;obtain⟨a,ha,H⟩:=aO H;obtain⟨v,hv,hr⟩:=tX (P:=P) H;exact⟨v,lift (λσ=>rfl) λσ hσ w _=>by rw[hσ x (by simp[Op.operands]) a ha];exact hr w,hv⟩
 ·rename_i s d x;obtain⟨a,ha,H⟩:=aO H;obtain⟨v,hv,hr⟩:=pD H;exact⟨v,lift (λσ=>rfl) λσ hσ w _=>by rw[hσ x (by simp[Op.operands]) a ha];exact hr w,hv⟩
 ·rename_i t x;split at H
  case h_2=>exact H.elim
  rename_i p hp;obtain⟨v,hv,hr⟩:=kJ H;exact⟨v,lift (λσ=>rfl) λσ hσ w hw=>by rw[hσ x (by simp[Op.operands]) _ hp];exact hr w hw,hv⟩
 ·rename_i s x i;obtain⟨a,ha,H⟩:=aO H;obtain⟨v,hv,hr⟩:=jO H;exact⟨v,lift (λσ=>rfl) λσ hσ w _=>by rw[hσ x (by simp[Op.operands]) a ha];exact hr w,hv⟩
 ·rename_i s x i;obtain⟨a,ha,H⟩:=aO H;obtain⟨v,hv,hr⟩:=oa H;exact⟨v,lift (λσ=>rfl) λσ hσ w _=>by rw[hσ x (by simp[Op.operands]) a ha];exact hr w,hv⟩
 ·rename_i t x i;obtain⟨a,ha,H⟩:=aO H;obtain⟨b,hb,H⟩:=aO H;obtain⟨v,hv,hr⟩:=kq H;exact⟨v,lift (λσ=>rfl) λσ hσ w _=>by rw[hσ x (by simp[Op.operands]) a ha,hσ i (by simp[Op.operands]) b hb];exact hr w,hv⟩
 ·rename_i t x i;obtain⟨a,ha,H⟩:=aO H;obtain⟨b,hb,H⟩:=aO H;obtain⟨v,hv,hr⟩:=oJ H;exact⟨v,lift (λσ=>rfl) λσ hσ w _=>by rw[hσ x (by simp[Op.operands]) a ha,hσ i (by simp[Op.operands]) b hb];exact hr w,hv⟩
 ·rename_i t x lo hi;obtain⟨a,ha,H⟩:=aO H;obtain⟨l,hl,H⟩:=aO H;obtain⟨u,hu,H⟩:=aO H;obtain⟨v,hv,hr⟩:=oC H
  exact⟨v,lift (λσ=>rfl) λσ hσ w _=>by rw[hσ x (by simp[Op.operands]) a ha,wg hl σ (λy hy=>hσ y (by simp[Op.operands,hy])),wg hu σ (λy hy=>hσ y (by simp[Op.operands,hy]))];exact hr w,hv⟩
 ·rename_i x i;obtain⟨a,ha,H⟩:=aO H;unfold qA at H;split at H
  case h_2=>exact H.elim
  obtain⟨v,hv,H⟩:=aO H;exact⟨v,lift (λσ=>rfl) λσ hσ w _=>by rw[hσ x (by simp[Op.operands]) _ ha];simp[Instr.extract,hv],H⟩
 ·rename_i t x k ok;obtain⟨a,ha,H⟩:=aO H;obtain⟨b,hb,H⟩:=aO H;obtain⟨v,hv,hr⟩:=mY H;exact⟨v,lift (λσ=>rfl) λσ hσ w hw=>by rw[hσ x (by simp[Op.operands]) a ha,hσ k (by simp[Op.operands]) b hb];exact hr w hw,hv⟩
 ·rename_i t ps;cases hvs:u2 ρ (ps.toList.map (·.2))with
  |none=>rw[hvs]at H;unfold oR at H;split at H<;>first|exact H.elim|simp at*
  |some vs=>
   rw[hvs]at H;obtain⟨v,hv,hr⟩:=pb H;obtain⟨hl,hm⟩:=kc hvs;refine⟨v,lift (λσ=>rfl) λσ hσ w _=> ?_,hv⟩
   have e:(ps.map λ(i,x)=>(i,σ x))=((ps.toList.map (·.1)).zip vs).toArray:=by rw[<-hm σ λx hx=>hσ x (by simpa[Op.operands]using hx)];apply Array.ext';simp[List.zip_map',List.map_map]
   rw[e];exact hr w
 ·rename_i t x;obtain⟨a,ha,H⟩:=aO H;obtain⟨v,hv,hr⟩:=om H;exact⟨v,lift (λσ=>rfl) λσ hσ w _=>by rw[hσ x (by simp[Op.operands]) a ha];exact hr w,hv⟩
 ·rename_i fn first captured
  obtain⟨a,ha,H⟩:=aO H;obtain⟨b,hb,H⟩:=aO H;refine⟨_,lift (λσ=>rfl) λσ hσ w _=> ?_,H⟩;have h1:=(kc ha).2 σ λx hx=>hσ x (by simp only[Op.operands,Array.mem_append];exact .inl (by simpa using hx));have h2:=(kc hb).2 σ λx hx=>hσ x (by simp only[Op.operands,Array.mem_append];exact .inr (by simpa using hx));have e1:first.map σ=a.toArray:=by rw[<-h1];apply Array.ext';simp
  have e2:captured.map σ=b.toArray:=by rw[<-h2];apply Array.ext';simp
  rw[e1,e2];rfl
 ·rename_i x xt t ok;obtain⟨a,ha,H⟩:=aO H;obtain⟨v,hv,hr⟩:=mR (xt:=xt) H;exact⟨v,lift (λσ=>rfl) λσ hσ w _=>by rw[hσ x (by simp[Op.operands]) a ha];exact hr w,hv⟩
 ·rename_i b args ats;obtain⟨args⟩:=args;obtain⟨ats⟩:=ats;split at H
  ·rename_i x t e1 e2;dsimp only at e1 e2;subst e1;subst e2;obtain⟨a,ha,H⟩:=aO H;obtain⟨v,hv,hr⟩:=sT (ty:=type) H;exact⟨v,lift (s:=λσ=>Builtin.len_ #[t] type #[σ x]) (λσ=>by simp[execOp,resolve,invoke,builtin]) λσ hσ w hw=>by rw[hσ x (by simp[Op.operands,Call.operands]) a ha];exact hr w hw,hv⟩
  ·rename_i x t e1 e2;dsimp only at e1 e2;subst e1;subst e2;obtain⟨a,ha,H⟩:=aO H;obtain⟨v,hv,hr⟩:=rF (ty:=type) H;exact⟨v,lift (s:=λσ=>Builtin.cap_ #[t] type #[σ x]) (λσ=>by simp[execOp,resolve,invoke,builtin]) λσ hσ w hw=>by rw[hσ x (by simp[Op.operands,Call.operands]) a ha];exact hr w,hv⟩
  ·rename_i x y e1;dsimp only at e1;subst e1;obtain⟨a,ha,H⟩:=aO H;obtain⟨b,hb,H⟩:=aO H;obtain⟨v,hv,hr⟩:=nK (P:=P) (ats:=ats.toArray) (ty:=type) H;exact⟨v,lift (s:=λσ=>Builtin.max_ ats.toArray type #[σ x,σ y]) (λσ=>by simp[execOp,resolve,invoke,builtin]) λσ hσ w hw=>by rw[hσ x (by simp[Op.operands,Call.operands]) a ha,hσ y (by simp[Op.operands,Call.operands]) b hb];exact hr w,hv⟩
  ·rename_i x y e1;dsimp only at e1;subst e1;obtain⟨a,ha,H⟩:=aO H;obtain⟨b,hb,H⟩:=aO H;obtain⟨v,hv,hr⟩:=nK (P:=P) (ats:=ats.toArray) (ty:=type) H;exact⟨v,lift (s:=λσ=>Builtin.min_ ats.toArray type #[σ x,σ y]) (λσ=>by simp[execOp,resolve,invoke,builtin]) λσ hσ w hw=>by rw[hσ x (by simp[Op.operands,Call.operands]) a ha,hσ y (by simp[Op.operands,Call.operands]) b hb];exact hr w,hv⟩
  ·exact H.elim
 ·exact H.elim
end
section
def bN.refl(w:World):bN w w:=⟨rfl,rfl,rfl⟩
def bN.trans{a b c:World}(h:bN a b)(k:bN b c):bN a c:=⟨k.1.trans h.1,k.2.1.trans h.2.1,k.2.2.trans h.2.2⟩
def kT(P:Program)(K:Value->aA->Prop)(w:World):Result Next->Prop
 | .ok (.value v) w'=>bN w w'/\K v w'.heap
 | .ok .skip w'=>bN w w'/\K undef w'.heap
 | .ok (.enter f args) w'=>bN w w'/\Calls P f args w' λe w''=> ∃v,e= .returned v/\bN w' w''/\K v w''.heap
 |_=>False
def yW(P:Program)(o:Oper)(f:Operand->Option Value)(h:aA)(K:Value->aA->Prop):Prop:=
 ∀σ,Bw f o.op.operands σ-> ∀w:World,w.heap=h->kT P K w ((execOp σ o).run P w)
def kT.mono{P:Program}{K K':Value->aA->Prop}{w:World}{r:Result Next}(h:kT P K w r)(hk: ∀v h,K v h->K' v h):kT P K' w r:=by
 unfold kT at*
 split at h
 ·exact⟨h.1,hk _ _ h.2⟩
 ·exact⟨h.1,hk _ _ h.2⟩
 ·exact⟨h.1,h.2.mono λe w'' ⟨v,he,hs,hK⟩=>⟨v,he,hs,hk _ _ hK⟩⟩
 ·exact h.elim
def yW.mono{P:Program}{o:Oper}{f:Operand->Option Value}{h:aA}{K K':Value->aA->Prop}(H:yW P o f h K)(hk: ∀v h,K v h->K' v h):yW P o f h K':=
 λσ hσ w hw=>(H σ hσ w hw).mono hk
def jB(P:Program)(f:FuncId):cJ->Prop
 | .go=> ∃fn,P.funcs[f]? =some fn∧(fn.name== "runtime.NumGoroutine")=false∧fn.body.isNone=false
 | .load k=> ∃fn,P.funcs[f]? =some fn∧(fn.name== "runtime.NumGoroutine")=false∧fn.body.isNone=true∧Extern.findNext fn=none∧Extern.find fn=some (Extern.Atomic.loadT (.int k))
 | .store=> ∃fn,P.funcs[f]? =some fn∧(fn.name== "runtime.NumGoroutine")=false∧fn.body.isNone=true∧Extern.findNext fn=none∧Extern.find fn=some Extern.Atomic.storeT
 | .cas k=> ∃fn,P.funcs[f]? =some fn∧(fn.name== "runtime.NumGoroutine")=false∧fn.body.isNone=true∧Extern.findNext fn=none∧Extern.find fn=some (Extern.Atomic.casT (.int k))
 | .add k=> ∃fn,P.funcs[f]? =some fn∧(fn.name== "runtime.NumGoroutine")=false∧fn.body.isNone=true∧Extern.findNext fn=none∧Extern.find fn=some (Extern.Atomic.update (Op.intArith .add) k true)
 | .ent _ _=>True
def ue(P:Program)(X:List (Nat×cJ)):Prop:= ∀f e,bW X f=some e->jB P f e
def vU(P:Program)(X:List (Nat×cJ)):Prop:= ∀p∈X,jB P p.1 p.2
def yX{P:Program}:vU P []:=by intro p hp;simp at hp
def gL{P:Program}{f:Nat}{e:cJ}{X:List (Nat×cJ)}(h:jB P f e)(hX:vU P X):vU P ((f,e)::X):=by
 intro p hp;rcases List.mem_cons.1 hp with rfl|hp
 ·exact h
 ·exact hX p hp
def wC{f:Nat}{e:cJ}: ∀{X:List (Nat×cJ)},bW X f=some e->(f,e)∈X:=by
 intro X
 induction X with
 |nil=>intro h;simp[bW]at h
 |cons p X ih=>
  intro h;obtain⟨k,u⟩:=p;simp only[bW]at h;split at h
  ·rename_i hb;have:=Nat.eq_of_beq_eq_true hb;subst this;simp at h;subst h;simp
  ·exact List.mem_cons_of_mem _ (ih h)
def sP{P:Program}{X:List (Nat×cJ)}(h:vU P X):ue P X:=λf e hx=>h (f,e) (wC hx)
def uE{P:Program}{f:FuncId}(h:jB P f .go)(args:Array Value)(w:World):(callFunc f args).run P w= .ok (.enter f args) w:=by obtain⟨fn,hf,hn,hb⟩:=h;simp only[callFunc,Sem.run_bind,run_program,Result.andThen_ok,hf,hn,hb,Bool.false_eq_true,if_false,Sem.run_pure]
def tT{P:Program}{ty:TypeId}{v:Value}{K:Value->Prop}(H:yj P ty v K):K v:=by
 unfold yj at H;split at H
 ·obtain⟨zs,_,H⟩:=aO H;obtain⟨vs,he,H⟩:=qj H;rw[he];exact H
 ·obtain⟨z,_,H⟩:=aO H;split at H
  ·obtain⟨vs,he,H⟩:=qt H;rw[he];exact H
  ·obtain⟨u,he,H⟩:=di H;simp only[Option.some.injEq]at he;rw[he];exact H
 ·exact H.elim
def gM{P:Program}{f:FuncId}{args:List Value}{ty:TypeId}{h:aA}{K:Value->aA->Prop}(hgo:jB P f .go)(H:vC P f args ty h K)(w:World)(hw:w.heap=h):
  kT P K w ((callFunc f args.toArray).run P w):=by
 rw[uE hgo];refine⟨bN.refl w,(H w hw).mono λe w'' ⟨v,he,hs,hK⟩=>⟨v,he,hs,tT hK⟩⟩
def vV{P:Program}{h:aA}{a:Addr}{v:Value}{K:aA->Prop}(H:aP h a v K):
  K (wr h a v)/\ ∀(m:Mode) (w:World),w.heap=h->(store a v m).run P w= .ok () (w.setCell a v):=by
 unfold aP at H;split at H
 case h_2=>exact H.elim
 rename_i ho;obtain⟨hr,hf,H⟩:=H;refine⟨H,λm w hw=> ?_⟩;obtain⟨u,hu⟩:=Option.isSome_iff_exists.1 hr;rw[run_store P w a v m ho];have h1:w.cell? a=some u:=by rw[fE,hw,hu]
 have h2:w.frozen? a=false:=by rw[fP,hw,hf]
 simp[h1,h2]
def jz{P:Program}{a:Addr}: ∀{vs:List Value} {i:Nat} {h:aA} {K:aA->Prop},mt a i vs h K->
  ∀w:World,w.heap=h-> ∃w',(storeCells a vs i).run P w= .ok () w'/\bN w w'/\K w'.heap:=by
 intro vs
 induction vs with
 |nil=>intro i h K H w hw;exact⟨w,by simp[storeCells],bN.refl w,by rw[hw];exact H⟩
 |cons v vs ih=>
  intro i h K H w hw;obtain⟨H,hs⟩:=vV (P:=P) H;obtain⟨w',hr,hsame,hK⟩:=ih H (w.setCell (a.add i) v) (by rw[pl,hw]);refine⟨w',?_,bN.trans ⟨rfl,rfl,rfl⟩ hsame,hK⟩;simp only[storeCells,Sem.run_bind];rw[hs .plain w hw];simp only[Result.andThen_ok,hr]
def uq{P:Program}{X:List (Nat×cJ)}(hX:ue P X){f:FuncId}{args:List Value}{ty:TypeId}{h:aA}{K:Value->aA->Prop}(H:EH P X f args ty h K)(w:World)(hw:w.heap=h):
  kT P K w ((callFunc f args.toArray).run P w):=by
 unfold EH at H;split at H
 ·rename_i hx;exact gM (hX _ _ hx) H w hw
 ·rename_i e hne hx;have hok:=hX _ _ hx;unfold DO at H;split at H
  ·rename_i k p;obtain⟨a,rfl,n,hr,H⟩:=bT H;obtain⟨fn,hf,hn,hb,hnx,hfd⟩:=hok;have hc:w.cell? a=some (.int k n):=by rw[fE,hw,hr]
   rw[run_call_load hf hn hb hnx k hfd hc];exact⟨bN.refl w,by rw[hw];exact H⟩
  ·rename_i p k y;obtain⟨a,rfl,H⟩:=bT H;obtain⟨fn,hf,hn,hb,hnx,hfd⟩:=hok;unfold aP at H;split at H
   case h_2=>exact H.elim
   obtain⟨hr,hfz,H⟩:=H;obtain⟨u,hu⟩:=Option.isSome_iff_exists.1 hr;have hc:w.cell? a=some u:=by rw[fE,hw,hu]
   have hz:w.frozen? a=false:=by rw[fP,hw,hfz]
   rw[run_call_store hf hn hb hnx hfd hc hz];exact⟨⟨rfl,rfl,rfl⟩,by rw[pl,hw];exact H⟩
  ·rename_i k p k1 x k2 y;split at H
   case h_2=>exact H.elim
   rename_i e1 e2;have e1:=jX e1;have e2:=jX e2;subst e1;subst e2;obtain⟨a,rfl,n,hr,H⟩:=bT H;obtain⟨fn,hf,hn,hb,hnx,hfd⟩:=hok;have hc:w.cell? a=some (.int k n):=by rw[fE,hw,hr]
   rcases dx H with⟨he,H2⟩|⟨he,H2⟩
   ·have he:n=x:=by simpa using he
    subst he;obtain⟨_,hfz,H2⟩:=H2;have hz:w.frozen? a=false:=by rw[fP,hw,hfz]
    rw[run_call_cas_hit hf hn hb hnx k hfd hc hz];exact⟨⟨rfl,rfl,rfl⟩,by rw[pl,hw];exact H2⟩
   ·have he: ¬n=x:=by simpa using he
    obtain⟨hfz,H2⟩:=H2;have hz:w.frozen? a=false:=by rw[fP,hw,hfz]
    rw[run_call_cas_miss hf hn hb hnx k hfd hc hz he];exact⟨bN.refl w,by rw[hw];exact H2⟩
  ·rename_i k p k1 y;split at H
   case h_2=>exact H.elim
   rename_i e1;have e1:=jX e1;subst e1;obtain⟨a,rfl,n,hr,_,hfz,H⟩:=bT H;obtain⟨fn,hf,hn,hb,hnx,hfd⟩:=hok;have hc:w.cell? a=some (.int k n):=by rw[fE,hw,hr]
   have hz:w.frozen? a=false:=by rw[fP,hw,hfz]
   rw[run_call_add hf hn hb hnx k hfd hc hz (s:=k.wrap (n+y)) (by simp[Op.intArith])];exact⟨⟨rfl,rfl,rfl⟩,by rw[pl,hw];exact H⟩
  ·exact H.elim
 ·exact H.elim
def rL{P:Program}{X:List (Nat×cJ)}(hX:ue P X){f:Value}{args:List Value}{ty:TypeId}{h:aA}{K:Value->aA->Prop}(H:BE P X f args ty h K)(w:World)(hw:w.heap=h):
  kT P K w ((do let d <-Deferred.ofValue f args.toArray;invoke d.target d.args).run P w):=by
 unfold BE gn at H;split at H
 case h_2=>exact H.elim
 rename_i g first captured
 split at H
 case h_2=>exact H.elim
 rename_i hx;have:=gM (ty:=ty) (hX _ _ hx) H w hw
 have e:(first.toList++args++captured.toList).toArray=first++args.toArray++captured:=by apply Array.ext';simp
 rw[e]at this;simpa[Deferred.ofValue,invoke]using this
def wd{P:Program}{t:TypeId}{name:String}{f:FuncId}(h:AR P t name=some f)(n:Nat)(v:Value)(w:World):
  (method (n+1) t v name).run P w= .ok (f,v) w:=by
 unfold AR at h;split at h
 case h_2=>simp at h
 rename_i i e hi hu;split at h
 case h_2=>simp at h
 rename_i m hm;split at h
 case h_2=>simp at h
 rename_i g hp hf;simp at h;subst h;have hp:m.path.toList=[]:=by simpa[Array.isEmpty_iff]using hp
 unfold method;simp[jP hi,hm,hp,follow,hf,receiverAt,ba hu,Place.get]
def rq{P:Program}{X:List (Nat×cJ)}(hX:ue P X){r:Value}{name:String}{args:List Value}{ty:TypeId}{h:aA}{K:Value->aA->Prop}(H:AF P X r name args ty h K)(w:World)(hw:w.heap=h):
  kT P K w ((invoke (.fn (.method name) #[]) (#[r]++args.toArray)).run P w):=by
 unfold AF at H;split at H
 case h_2=>exact H.elim
 rename_i t v;split at H
 case h_2=>exact H.elim
 rename_i f hf;split at H
 case h_2=>exact H.elim
 rename_i hx;have:=gM (hX _ _ hx) H w hw
 have e:(#[Value.iface t v]++args.toArray).extract 1 (1+args.length)=args.toArray:=by apply Array.ext';simp
 have e2:(v::args).toArray= #[v]++args.toArray:=by apply Array.ext';simp
 have hm: ∀w,(method (P.types.size+Made.depth) t v name).run P w= .ok (f,v) w:=λw=>wd hf (P.types.size+99) v w;rw[e2]at this;have g0:(#[Value.iface t v]++args.toArray)[0]? =some (.iface t v):=Z;simp only[invoke,g0];simp only[Array.size_append,List.size_toArray,List.length_cons,List.length_nil,Nat.zero_add,e];simp only[callMethod,Sem.run_bind,run_program,Result.andThen_ok,hm];exact this
def gh{P:Program}{t:TypeId}{sz by_:Nat}{z:Array Value}(h:iR P t=some (sz,by_,z)):
  ∃i v,P.info? t=some i/\i.zero=some v/\i.size=sz/\i.bytes=by_/\v.cells=z:=by
 unfold iR at h;split at h
 case h_2=>simp at h
 rename_i i hi;split at h
 case h_2=>simp at h
 rename_i v hv;simp at h;obtain⟨rfl,rfl,rfl⟩:=h;exact⟨i,v,hi,hv,rfl,rfl,rfl⟩
def ly{P:Program}{h:aA}{a:Addr}{cs:List Value}{n:Nat}(H:lX h a cs)(hn:cs.length=n)(w:World)(hw:w.heap=h):(loadCells a n).run P w= .ok cs.toArray w:=by subst hn;exact run_loadCells_list (P:=P) (w:=w) a cs λj v hj=>by rw[fE,hw];exact H j v hj
def qC{P:Program}{h:aA}{q:Option Addr}{sz n c:Nat}{cs:List Value}(hl:cs.length=n*sz)(H:match q with|some b=>lX h b cs|none=>n=0)(w:World)(hw:w.heap=h):
  (Builtin.firstCells sz n (.slice q n c)).run P w= .ok cs.toArray w:=by
 cases q with
 |none=>simp at H;subst H;simp at hl;subst hl;simp[Builtin.firstCells]
 |some b=>simp only[Builtin.firstCells];exact ly H hl w hw
def lU{P:Program}{t u e ty:TypeId}{sz by_:Nat}{z:Array Value}{p q:Option Addr}{l c n c':Nat}{h:aA}{K:Value->aA->Prop}
  (ht:P.underlying t=some (.slice e)) (hu: ∃e',P.underlying u=some (.slice e')) (hs:iR P e=some (sz,by_,z)) (hby:1<=by_)
  (H:fA h e sz by_ z p l c q n λp' l' c' h'=>K (.slice p' l' c') h') (w:World) (hw:w.heap=h):
  ∃v w',(Builtin.append_ #[t,u] ty #[.slice p l c,.slice q n c']).run P w= .ok v w'/\bN w w'/\K v w'.heap:=by
 obtain⟨i,zv,hi,hz,hsz,hb,hzc⟩:=gh hs;obtain⟨e',hu⟩:=hu;obtain⟨new,hnl,hnew,hroom,hgrow⟩:=H;have hso: ∀w,(sizeOf e).run P w= .ok sz w:=λw=>by rw[co hi,hsz]
 have hti: ∀w,(typeInfo e).run P w= .ok i w:=λw=>jP hi w;have hzv: ∀w,(zeroValue e).run P w= .ok zv w:=λw=>by simp[zeroValue,hti,hz]
 have hfirst:=λw hw=>qC (P:=P) (c:=c') hnl hnew w hw;by_cases hle:l+n<=c
 ·have hroom:=hroom hle;cases p with
  |none=>
   obtain⟨hz0,hK⟩:=hroom;have hn0:new=[]:=List.eq_nil_of_length_eq_zero (hnl.trans hz0);refine⟨_,w,?_,bN.refl w,by rw[hw];exact hK⟩;simp[Builtin.append_,ba ht,ba hu,hso,Builtin.lenOf,hle,hfirst w hw]
  |some a=>
   obtain⟨w',hr,hsame,hK⟩:=jz (P:=P) hroom w hw;refine⟨_,w',?_,hsame,hK⟩;simp[Builtin.append_,ba ht,ba hu,hso,Builtin.lenOf,hle,hfirst w hw,hr]
 ·obtain⟨old,hol,hold,hbound,hK⟩:=hgrow Y
  have hb1:Builtin.nextslicecap (l+n) c*i.bytes<=281474976710656:=by rw[hb];exact growslice_fits Y hbound
  have hb2:l+n<=140737488355328:=Nat.le_trans (Nat.le_mul_of_pos_right _ hby) hbound
  have hmax: ¬(((l:Int)+n>IntKind.i64.max)/\i.bytes=0):=by rintro ⟨_,h0⟩;omega
  subst hsz;have hdrew:w.drew.heap=h:=hw;have hold':=qC (P:=P) (c:=c) hol hold w.drew hdrew;have hnew':=hfirst w.drew hdrew;have hK:=hK (Question.cut (.appendCap (l+n) c e) (w.tape w.drawn (.appendCap (l+n) c e))) (by simp[Question.cut]);rw[<-hw,<-hzc]at hK;refine⟨_,w.drew.alloc (.cells (old.toArray++new.toArray++Builtin.zeroCells zv.cells (Question.cut (.appendCap (l+n) c e) (w.tape w.drawn (.appendCap (l+n) c e))-(l+n))) e),?_,⟨rfl,rfl,rfl⟩,hK⟩;have h63': ¬(9223372036854775807<((l:Int)+(n:Int))):=Y;have h48': ¬(281474976710656<Builtin.nextslicecap (l+n) c*i.bytes):=Y;simp[Builtin.append_,ba ht,ba hu,sizeOf,typeInfo,zeroValue,hi,hz,Builtin.lenOf,hle,h63',h48',Question.forced,hold',hnew',newRow]
  congr 2
  apply Array.ext';simp[List.append_assoc]
def qI{P:Program}{t u e ty:TypeId}{ti:TypeInfo}{p q:Option Addr}{l c n c':Nat}{h:aA}{K:Value->aA->Prop}
  (ht:P.underlying t=some (.slice e)) (hti:P.info? e=some ti)
  (H:tB h ti.size p l q n λm h'=>K (.int .i64 m) h') (w:World) (hw:w.heap=h):
  ∃v w',(Builtin.copy_ #[t,u] ty #[.slice p l c,.slice q n c']).run P w= .ok v w'/\bN w w'/\K v w'.heap:=by
 obtain⟨new,hnl,hnew,H⟩:=H
 have hfirst:(Builtin.firstCells ti.size (Nat.min n l) (.slice q n c')).run P w= .ok new.toArray w:=by
  cases q with
  |none=>simp at hnew;subst hnew;simp at hnl;subst hnl;simp[Builtin.firstCells]
  |some b=>simp only[Builtin.firstCells];exact ly hnew hnl w hw
 cases p with
 |none=>
  refine⟨_,w,?_,bN.refl w,by rw[hw];exact H⟩;simp only[Builtin.copy_,List.getElem?_toArray,List.getElem?_cons_zero,List.getElem?_cons_succ,Sem.run_bind,ba ht,Result.andThen_ok,Builtin.lenOf,Sem.run_pure,co hti,hfirst];simp[goInt]
 |some a=>
  obtain⟨w',hr,hsame,hK⟩:=jz (P:=P) H w hw;refine⟨_,w',?_,hsame,hK⟩;simp only[Builtin.copy_,List.getElem?_toArray,List.getElem?_cons_zero,List.getElem?_cons_succ,Sem.run_bind,ba ht,Result.andThen_ok,Builtin.lenOf,Sem.run_pure,co hti,hfirst];simp[goInt,hr]
def oP{P:Program}{t:TypeId}{p:Option Addr}{v:Value}{h:aA}{K:aA->Prop}(H:ff P t p v h K)(w:World)(hw:w.heap=h):
  ∃w',(Instr.storeAt t (.pointer p) v).run P w= .ok () w'/\bN w w'/\K w'.heap:=by
 unfold ff at H;split at H
 case h_2=>exact H.elim
 rename_i ti hti;split at H
 case h_2=>exact H.elim
 rename_i hs;have hs:=Nat.eq_of_beq_eq_true hs;obtain⟨a,rfl,H⟩:=bT H;obtain⟨w',hr,hsame,hK⟩:=jz (P:=P) H w hw;refine⟨w',?_,hsame,hK⟩;simp[Instr.storeAt,Instr.sureAddr,storeVar,co hti,hs,hr]
def kg{P:Program}{t:TypeId}{a b:Value}{h:aA}{K:Value->aA->Prop}(H:jd P t a b h K)(w:World)(hw:w.heap=h):
  ∃v w',(Instr.makeSlice t a b).run P w= .ok v w'/\bN w w'/\K v w'.heap:=by
 unfold jd at H;split at H
 case h_2=>exact H.elim
 rename_i e k i k' j ht;split at H
 case h_2=>exact H.elim
 rename_i sz by_ z hs;obtain⟨ti,zv,hi,hz,hsz,hb,hzc⟩:=gh hs;obtain⟨h0,h1,h2,h3,H⟩:=H;subst hsz;subst hzc;subst hb;subst hw;exact⟨_,_,run_make w t e ti zv ht hi hz k k' i j h0 h1 h2 h3,⟨rfl,rfl,rfl⟩,H⟩
def jt{P:Program}{t:TypeId}{n:Nat}{vs:List Value}{ix:List Nat}{h:aA}{K:Value->aA->Prop}(H:fG P t n (some vs) ix h K)(w:World)(hw:w.heap=h):
  ∃v w',(Instr.buildSlice t n (ix.zip vs).toArray).run P w= .ok v w'/\bN w w'/\K v w'.heap:=by
 unfold fG at H;split at H
 case h_2=>exact H.elim
 rename_i e vs' ht hv;simp only[Option.some.injEq]at hv;subst hv;split at H
 case h_2=>exact H.elim
 rename_i sz by_ z hs;obtain⟨ti,zv,hi,hz,hsz,hb,hzc⟩:=gh hs;split at H
 case h_2=>exact H.elim
 rename_i hble;have hble:=Nat.le_of_ble_eq_true hble;obtain⟨cells,hc,H2⟩:=aO H;clear H;subst hsz;subst hzc;subst hw;refine⟨_,w.alloc (.cells cells e),?_,⟨rfl,rfl,rfl⟩,H2⟩;have hzv: ∀w,(zeroValue e).run P w= .ok zv w:=λw=>by simp[zeroValue,jP hi,hz]
 have hn: ¬(n*ti.size>2^24):=Y;by_cases h0:n*ti.size=0
 ·have hc':Instr.fill (λi=>some (i*ti.size,ti.size)) ((Array.range (n*ti.size)).map ((#[]:Array Value)[· %(#[]:Array Value).size]!)) (ix.zip vs)=some cells:=by
   rw[<-hc];simp[madeCells,h0,Array.range_zero']
  simp only[Instr.buildSlice,Sem.run_bind,ba ht,Result.andThen_ok,co hi,h0,if_true,Sem.run_ite,Sem.run_pure]at hc' ⊢;rw[hc'];simp[newRow]
 ·simp only[Instr.buildSlice,Sem.run_bind,ba ht,Result.andThen_ok,co hi,hn,h0,if_false,Sem.run_ite,Sem.run_pure,hzv];unfold madeCells at hc;rw[hc];simp[newRow]
def dv{P:Program}{w:World}{b:Nat}{es:Array MapEntry}{cl:Nat}(h:w.heap[b]? =some (.map es cl))(o:Obj):(setObj b o).run P w= .ok () {w with heap:=w.heap.setIfInBounds b o}:=by simp[setObj,Sem.run,h]
def ny{P:Program}{old new:Value}(h:Instr.sameBits 10000 old new=true)(w:World):(Instr.keyThatStays old new).run P w= .ok new w:=by simp[Instr.keyThatStays,h]
def jR{P:Program}{t:TypeId}{m k v:Value}{h:aA}{K:aA->Prop}(H:i7 P t m k v h K)(w:World)(hw:w.heap=h):
  ∃w',(Instr.mapUpdate t m k v).run P w= .ok () w'/\bN w w'/\K w'.heap:=by
 unfold i7 at H;split at H
 case h_2=>exact H.elim
 rename_i kt et r kk kn ht;split at H
 case h_2=>exact H.elim
 rename_i k1 hk;obtain⟨b,rfl,es,cl,hm,o,hf,H⟩:=aO H;subst hw;have hb:=eI hm;cases o with
 |none=>
  refine⟨{w with heap:=w.heap.setIfInBounds b (.map (es.push {key:= .int kk kn,val:=v,born:=cl}) (cl+1))},?_,⟨rfl,rfl,rfl⟩,H⟩;simp[Instr.mapUpdate,ba ht,cv hb,cp hk,cI hk hf,dv hb]
 |some q=>
  obtain⟨i,u⟩:=q;obtain⟨hsame,H⟩:=H;refine⟨{w with heap:=w.heap.setIfInBounds b (.map (es.modify i λe=>{e with key:= .int kk kn,val:=v}) cl)},?_,⟨rfl,rfl,rfl⟩,H⟩;simp only[Instr.mapUpdate,Sem.run_bind,ba ht,Result.andThen_ok,cv hb,cp hk,cI hk hf,ny hsame,dv hb]
def kQ{P:Program}{t:TypeId}{m k:Value}{h:aA}{K:Value->aA->Prop}(H:jN P t m k h K)(w:World)(hw:w.heap=h):
  ∃v w',(Instr.mapEntry t m k).run P w= .ok v w'/\bN w w'/\K v w'.heap:=by
 unfold jN at H;split at H
 case h_2=>exact H.elim
 rename_i kt et r kk kn ht;split at H
 case h_2=>exact H.elim
 rename_i k1 z hk hz;obtain⟨b,rfl,es,cl,hm,o,hf,H⟩:=aO H;subst hw;have hb:=eI hm;cases o with
 |none=>
  obtain⟨u,hu,H⟩:=di H;simp only[Option.some.injEq]at hu;subst hu;refine⟨_,{w with heap:=w.heap.setIfInBounds b (.map (es.push {key:= .int kk kn,val:=z,born:=cl}) (cl+1))},?_,⟨rfl,rfl,rfl⟩,H⟩;simp[Instr.mapEntry,ba ht,cv hb,cp hk,cI hk hf,dv hb,mL hz,goInt]
 |some q=>
  obtain⟨i,u⟩:=q;obtain⟨hsame,H⟩:=H;obtain⟨u',hu,H⟩:=di H;simp only[Option.some.injEq]at hu;subst hu;refine⟨_,{w with heap:=w.heap.setIfInBounds b (.map (es.modify i λe=>{e with key:= .int kk kn}) cl)},?_,⟨rfl,rfl,rfl⟩,H⟩;simp only[Instr.mapEntry,Sem.run_bind,ba ht,Result.andThen_ok,cv hb,cp hk,cI hk hf,ny hsame,dv hb,goInt,Sem.run_pure]
def jl{P:Program}{t:TypeId}{m s v:Value}{h:aA}{K:aA->Prop}(H:ig m s v h K)(w:World)(hw:w.heap=h):
  ∃w',(Instr.entryStore t m s v).run P w= .ok () w'/\bN w w'/\K w'.heap:=by
 unfold ig at H;split at H
 case h_2=>exact H.elim
 rename_i r k st;obtain⟨b,rfl,es,cl,hm,i,hi,H⟩:=aO H;subst hw;have hb:=eI hm;refine⟨{w with heap:=w.heap.setIfInBounds b (.map (es.modify i λe=>{e with val:=v}) cl)},?_,⟨rfl,rfl,rfl⟩,H⟩;simp[Instr.entryStore,cv hb,asInt,asIntOf,hi,dv hb]
def pf{P:Program}{t ty:TypeId}{x:Value}{h:aA}{K:aA->Prop}(H:sU P t x h K)(w:World)(hw:w.heap=h):
  ∃w',(Builtin.clear_ #[t] ty #[x]).run P w= .ok (.tuple #[]) w'/\bN w w'/\K w'.heap:=by
 unfold sU at H;split at H
 case h_2=>exact H.elim
 rename_i e p n c ht;split at H
 case h_2=>exact H.elim
 rename_i sz by_ z hs;obtain⟨i,zv,hi,hz,hsz,hb,hzc⟩:=gh hs;have hzv: ∀w,(zeroValue e).run P w= .ok zv w:=λw=>by simp[zeroValue,jP hi,hz]
 unfold sq at H;cases p with
 |none=>exact⟨w,by simp[Builtin.clear_,ba ht],bN.refl w,by rw[hw];exact H⟩
 |some a=>
  cases n with
  |zero=>
   refine⟨w,by simp[Builtin.clear_,ba ht],bN.refl w,?_⟩;rw[hw];simpa[Builtin.zeroCells,mt]using H
  |succ n=>
   obtain⟨w',hr,hsame,hK⟩:=jz (P:=P) H w hw;refine⟨w',?_,hsame,hK⟩;subst hzc;simp[Builtin.clear_,ba ht,hzv,hr]
def mS{P:Program}{t u ty:TypeId}{m k:Value}{h:aA}{K:aA->Prop}(H:ov P t m k h K)(w:World)(hw:w.heap=h):
  ∃w',(Builtin.delete_ #[t,u] ty #[m,k]).run P w= .ok (.tuple #[]) w'/\bN w w'/\K w'.heap:=by
 unfold ov at H;split at H
 case h_2=>exact H.elim
 rename_i kt et r kk kn ht;split at H
 case h_2=>exact H.elim
 rename_i k1 hk;obtain⟨b,rfl,es,cl,hm,o,hf,H⟩:=aO H;subst hw;have hb:=eI hm;cases o with
 |none=>
  refine⟨{w with heap:=w.heap.setIfInBounds b (.map es cl)},?_,⟨rfl,rfl,rfl⟩,H⟩;simp[Builtin.delete_,ba ht,cv hb,cp hk,cI hk hf,dv hb]
 |some q=>
  obtain⟨i,u⟩:=q;refine⟨{w with heap:=w.heap.setIfInBounds b (.map (es.eraseIdxIfInBounds i) cl)},?_,⟨rfl,rfl,rfl⟩,H⟩;simp[Builtin.delete_,ba ht,cv hb,cp hk,cI hk hf,dv hb]
def ow{P:Program}{t:TypeId}{x:Value}{h:aA}{K:Value->aA->Prop}(H:rO P t x h K): ∀w:World,w.heap=h-> ∃v w',(Instr.range t x).run P w= .ok v w'/\bN w w'/\K v w'.heap:=by
 intro w hw;subst hw;unfold rO at H;split at H
 case h_2=>exact H.elim
 rename_i k e r ht;unfold Df at H;split at H
 ·exact⟨_,_,run_range_nilMap w t k e ht,⟨rfl,rfl,rfl⟩,H⟩
 ·rename_i m;obtain⟨es,cl,hm,H⟩:=H;exact⟨_,_,run_range_map w t k e m es cl ht (eI hm),⟨rfl,rfl,rfl⟩,H⟩
def pE{P:Program}{ty:TypeId}{x:Value}{h:aA}{K:Value->aA->Prop}(H:vQ x h K): ∀w:World,w.heap=h-> ∃v w',(Instr.next x false ty).run P w= .ok v w'/\bN w w'/\K v w'.heap:=by
 intro w hw;subst hw;unfold vQ at H;split at H
 case h_2=>exact H.elim
 rename_i p;obtain⟨a,rfl,H⟩:=bT H;obtain⟨ho,m,since,seen,last,hr,G⟩:=H;obtain⟨ab,ao,asp⟩:=a;dsimp only at ho hr G;subst ho;clear H;cases m with
 |none=>
  refine⟨_,w,?_,⟨rfl,rfl,rfl⟩,G⟩;simp only[Instr.next,getObj,Sem.run_bind,Sem.run,hr,Result.andThen]
  rfl
 |some m=>
  obtain⟨es,cl,hm,hold,hsc,H0,H1⟩:=G;have hs: ∀s,(Instr.next (.pointer (some ⟨ab,0,s⟩)) false ty)=(Instr.next (.pointer (some ⟨ab,0,none⟩)) false ty):=λs=>rfl;rw[hs asp];rcases run_next_at w ty ab m since last seen es cl hr (eI hm) hold hsc with⟨h0,hrun⟩|⟨e,he,w1,hal,hrun⟩
  ·exact⟨_,w,hrun,⟨rfl,rfl,rfl⟩,H0 h0⟩
  ·refine⟨_,_,hrun,?_,?_⟩
   ·rcases hal with rfl|rfl<;>exact⟨rfl,rfl,rfl⟩
   ·have:=H1 e he;rcases hal with rfl|rfl<;>exact this
def og{P:Program}{kt vt:TypeId}{x:Value}{h:aA}{K:Value->aA->Prop}(H:sH P kt vt x h K): ∀w:World,w.heap=h-> ∃v w',(Instr.entry x).run P w= .ok v w'/\bN w w'/\K v w'.heap:=by
 intro w hw;subst hw;unfold sH at H;split at H
 case h_2=>exact H.elim
 rename_i p;obtain⟨a,rfl,H⟩:=bT H;obtain⟨ho,m,since,seen,cl,es,stamp,e,hr,hb,hm,hf,G⟩:=H;obtain⟨ab,ao,asp⟩:=a;dsimp only at ho hr;subst ho;obtain⟨zs,-,G⟩:=aO G;obtain⟨vs,e1,G⟩:=qj G;refine⟨_,w,?_,⟨rfl,rfl,rfl⟩,G⟩;rw[<-e1];simp only[Instr.entry,getObj,Sem.run_bind,Sem.run,hr,eI hm,hb,Result.andThen,bne_self_eq_false,Bool.false_eq_true,if_false,hf]
 rfl
def sy{P:Program}{X:List (Nat×cJ)}(hX:ue P X){o:Oper}{ρ:Fr}{h:aA}{K:Value->aA->Prop}(H:AP P X o.op o.type ρ h K):yW P o (ev ρ) h K:=by
 obtain⟨dst,op,type,pos,after,guard⟩:=o;intro σ hσ w hw;dsimp only at H hσ
 have liftv: ∀{s:Sem Value},execOp σ ⟨dst,op,type,pos,after,guard⟩=(do pure (.value (<-s)))->
   (∃v w',s.run P w= .ok v w'/\bN w w'/\K v w'.heap)->kT P K w ((execOp σ ⟨dst,op,type,pos,after,guard⟩).run P w):=by
  rintro s he ⟨v,w',hr,hs,hK⟩;rw[he];simp only[Sem.run_bind,hr,Result.andThen_ok,Sem.run_pure];exact⟨hs,hK⟩
 have liftu: ∀{s:Sem Unit},execOp σ ⟨dst,op,type,pos,after,guard⟩=(do s;pure .skip)->
   (∃w',s.run P w= .ok () w'/\bN w w'/\K undef w'.heap)->kT P K w ((execOp σ ⟨dst,op,type,pos,after,guard⟩).run P w):=by
  rintro s he ⟨w',hr,hs,hK⟩;rw[he];simp only[Sem.run_bind,hr,Result.andThen_ok,Sem.run_pure];exact⟨hs,hK⟩
 unfold AP at H;split at H
 ·rename_i t;obtain⟨z,hz,H⟩:=aO H;subst hw;exact liftv (s:=Instr.alloc t true (.tuple #[])) rfl ⟨_,w.alloc (.cells z.cells t),by simp[Instr.alloc,mL hz,newVar,newRow],⟨rfl,rfl,rfl⟩,H⟩
 ·rename_i t x;obtain⟨v,hv,H⟩:=aO H;subst hw;exact liftv (s:=Instr.box t (σ x)) rfl ⟨_,w.alloc (.cells v.cells t),by rw[hσ x (by simp[Op.operands]) v hv];simp[Instr.box,newVar,newRow],⟨rfl,rfl,rfl⟩,H⟩
 ·rename_i t a x;split at H
  case h_2=>exact H.elim
  rename_i p hp;obtain⟨v,hv,H⟩:=aO H;exact liftu (s:=Instr.storeAt t (σ a) (σ x)) rfl (by rw[hσ a (by simp[Op.operands]) _ hp,hσ x (by simp[Op.operands]) v hv];exact oP H w hw)
 ·rename_i t;subst hw;exact liftv (s:=Instr.makeMap t none) rfl ⟨_,w.alloc (.map #[] 0),by simp[Instr.makeMap],⟨rfl,rfl,rfl⟩,H⟩
 ·rename_i t l c;obtain⟨a,ha,H⟩:=aO H;obtain⟨b,hb,H⟩:=aO H;exact liftv (s:=Instr.makeSlice t (σ l) (σ c)) rfl (by rw[hσ l (by simp[Op.operands]) a ha,hσ c (by simp[Op.operands]) b hb];exact kg H w hw)
 ·rename_i t n ps;cases hvs:u2 ρ (ps.toList.map (·.2))with
  |none=>rw[hvs]at H;unfold fG at H;split at H<;>first|exact H.elim|simp at*
  |some vs=>
   rw[hvs]at H;obtain⟨hl,hm⟩:=kc hvs
   have e:(ps.map λ(i,x)=>(i,σ x))=((ps.toList.map (·.1)).zip vs).toArray:=by rw[<-hm σ λx hx=>hσ x (by simpa[Op.operands]using hx)];apply Array.ext';simp[List.zip_map',List.map_map]
   refine liftv rfl ?_;rw[e];exact jt H w hw
 ·rename_i t m k x;obtain⟨a,ha,H⟩:=aO H;obtain⟨b,hb,H⟩:=aO H;obtain⟨v,hv,H⟩:=aO H;exact liftu (s:=Instr.mapUpdate t (σ m) (σ k) (σ x)) rfl (by rw[hσ m (by simp[Op.operands]) a ha,hσ k (by simp[Op.operands]) b hb,hσ x (by simp[Op.operands]) v hv];exact jR H w hw)
 ·rename_i t m k;obtain⟨a,ha,H⟩:=aO H;obtain⟨b,hb,H⟩:=aO H;exact liftv (s:=Instr.mapEntry t (σ m) (σ k)) rfl (by rw[hσ m (by simp[Op.operands]) a ha,hσ k (by simp[Op.operands]) b hb];exact kQ H w hw)
 ·rename_i t m s x;obtain⟨a,ha,H⟩:=aO H;obtain⟨b,hb,H⟩:=aO H;obtain⟨v,hv,H⟩:=aO H;exact liftu (s:=Instr.entryStore t (σ m) (σ s) (σ x)) rfl (by rw[hσ m (by simp[Op.operands]) a ha,hσ s (by simp[Op.operands]) b hb,hσ x (by simp[Op.operands]) v hv];exact jl H w hw)
 ·rename_i t x;obtain⟨a,ha,H⟩:=aO H;exact liftv (s:=Instr.range t (σ x)) rfl (by rw[hσ x (by simp[Op.operands]) a ha];exact ow H w hw)
 ·rename_i x str;obtain⟨a,ha,H⟩:=aO H;split at H
  case h_2=>exact H.elim
  exact liftv (s:=Instr.next (σ x) false type) rfl (by rw[hσ x (by simp[Op.operands]) a ha];exact pE H w hw)
 ·rename_i x;obtain⟨a,ha,H2⟩:=aO H;clear H;split at H2
  case h_2=>exact H2.elim
  rename_i t;split at H2
  case h_2=>exact H2.elim
  exact liftv (s:=Instr.entry (σ (.tmp t))) rfl (by rw[hσ (.tmp t) (by simp[Op.operands]) a ha];exact og H2 w hw)
 ·rename_i f args ats;obtain⟨xs,hxs,H2⟩:=aO H;clear H
  have hargs:args.map σ=xs.toArray:=by rw[<-(kc hxs).2 σ λx hx=>hσ x (by simp only[Op.operands,Call.operands,Array.mem_append];exact .inr (by simpa using hx))];apply Array.ext';simp
  split at H2
  ·rename_i g;have:=uq hX H2 w hw;have hex:execOp σ ⟨dst,.call {callee:= .value (.func g),args:=args,argTypes:=ats},type,pos,after,guard⟩=(do let d <-Deferred.ofValue (σ (.func g)) (args.map σ);invoke d.target d.args):=rfl;rw[hex,hσ (.func g) (by simp[Op.operands,Call.operands]) _ rfl,hargs];have e2:(do let d <-Deferred.ofValue (.func (.func g) #[] #[]) xs.toArray;invoke d.target d.args)=callFunc g (#[]++xs.toArray++ #[]):=rfl;rw[e2];simpa using this
  ·obtain⟨fv,hfv,H3⟩:=aO H2;have:=rL hX H3 w hw;have hex:execOp σ ⟨dst,.call {callee:= .value f,args:=args,argTypes:=ats},type,pos,after,guard⟩=(do let d <-Deferred.ofValue (σ f) (args.map σ);invoke d.target d.args):=rfl;rw[hex,hσ f (by simp[Op.operands,Call.operands]) _ hfv,hargs];exact this
 ·rename_i r name args ats;obtain⟨rv,hrv,H⟩:=aO H;obtain⟨xs,hxs,H⟩:=aO H
  have hargs:args.map σ=xs.toArray:=by rw[<-(kc hxs).2 σ λx hx=>hσ x (by simp only[Op.operands,Call.operands,Array.mem_append];exact .inr (by simpa using hx))];apply Array.ext';simp
  have:=rq hX H w hw;have hex:execOp σ ⟨dst,.call {callee:= .invoke r name,args:=args,argTypes:=ats},type,pos,after,guard⟩=invoke (.fn (.method name) #[]) (#[σ r]++args.map σ):=rfl;rw[hex,hσ r (by simp[Op.operands,Call.operands]) _ hrv,hargs];exact this
 ·rename_i b args ats;obtain⟨args⟩:=args;obtain⟨ats⟩:=ats;split at H
  ·rename_i x y t u e1 e2;dsimp only at e1 e2;subst e1;subst e2;obtain⟨a,ha,H1⟩:=aO H;clear H;obtain⟨b,hb,H⟩:=aO H1;clear H1;refine liftv (s:=Builtin.append_ #[t,u] type #[σ x,σ y]) (by simp[execOp,resolve,invoke,builtin]) ?_;rw[hσ x (by simp[Op.operands,Call.operands]) a ha,hσ y (by simp[Op.operands,Call.operands]) b hb];unfold CS at H;split at H
   case h_2=>exact H.elim
   rename_i e e' p l c q n c' ht hu;split at H
   case h_2=>exact H.elim
   rename_i sz by_ z hs;split at H
   case h_2=>exact H.elim
   rename_i hby;exact lU ht ⟨_,hu⟩ hs (Nat.le_of_ble_eq_true hby) H w hw
  ·rename_i x y t u e1 e2;dsimp only at e1 e2;subst e1;subst e2;obtain⟨a,ha,H1⟩:=aO H;clear H;obtain⟨b,hb,H⟩:=aO H1;clear H1;refine liftv (s:=Builtin.copy_ #[t,u] type #[σ x,σ y]) (by simp[execOp,resolve,invoke,builtin]) ?_;rw[hσ x (by simp[Op.operands,Call.operands]) a ha,hσ y (by simp[Op.operands,Call.operands]) b hb];unfold zA at H;split at H
   case h_2=>exact H.elim
   rename_i e p l _ q n _ ht;split at H
   case h_2=>exact H.elim
   rename_i ti hti;exact qI ht hti H w hw
  ·rename_i x y t u e1 e2;dsimp only at e1 e2;subst e1;subst e2;obtain⟨a,ha,H1⟩:=aO H;clear H;obtain⟨b,hb,H⟩:=aO H1;clear H1;refine liftv (s:=Builtin.delete_ #[t,u] type #[σ x,σ y]) (by simp[execOp,resolve,invoke,builtin]) ?_;rw[hσ x (by simp[Op.operands,Call.operands]) a ha,hσ y (by simp[Op.operands,Call.operands]) b hb];obtain⟨w',hr,hs,hK⟩:=mS H w hw;exact⟨_,w',hr,hs,hK⟩
  ·rename_i x t e1 e2;dsimp only at e1 e2;subst e1;subst e2;obtain⟨a,ha,H1⟩:=aO H;clear H;refine liftv (s:=Builtin.clear_ #[t] type #[σ x]) (by simp[execOp,resolve,invoke,builtin]) ?_;rw[hσ x (by simp[Op.operands,Call.operands]) a ha];obtain⟨w',hr,hs,hK⟩:=pf H1 w hw;exact⟨_,w',hr,hs,hK⟩
  ·exact H.elim
 ·exact H.elim
end
section
abbrev FF:=Nat->Option Value
def tL(f:FF):Operand->Option Value
 | .tmp t=>f t
 | .const v=>some v
 | .global g=>some (.pointer (some ⟨g,0,none⟩))
 | .func f=>some (.func (.func f) #[] #[])
def dk(f:FF)(d:Option Nat)(v:Value):FF:=match d with|some k=>λt=>if t=k then some v else f t|none=>f
def ol(ρ:Fr):ev ρ=tL (get ρ):=by funext x;cases x<;>rfl
def lj(ρ:Fr)(d:Option Nat)(v:Value):get (put ρ d v)=dk (get ρ) d v:=by
 cases d with
 |none=>rfl
 |some k=>
  funext t;simp only[put,get,dk];by_cases h:t=k
  ·subst h;simp
  ·have:Nat.beq k t=false:=by
    cases hb:Nat.beq k t with
    |false=>rfl
    |true=>exact absurd (Nat.eq_of_beq_eq_true hb).symm h
   simp[this,h]
def lf{ρ:Fr}{d:Nat}{v:Value}(h:get ρ d=some v):get ((d,v)::ρ)=get ρ:=by
 have:=lj ρ (some d) v;rw[show put ρ (some d) v=(d,v)::ρ from rfl]at this;rw[this];funext t;simp only[dk];split
 ·rename_i e;rw[e,h]
 ·rfl
def jf(ops:Array Oper)(o:Oper)(f:FF):Prop:=
 match o.guard with
 |none=>True
 |some (j,want)=> ∃d,(ops[j]?).bind (·.dst)=some d/\f d=some (.bool want)
def rU(ops:Array Oper)(o:Oper)(f:FF):Prop:=
 match o.guard with
 |none=>False
 |some (j,want)=> ∃d v,(ops[j]?).bind (·.dst)=some d/\f d=some v/\v≠ .bool want
def gY(P:Program)(ops:Array Oper)(o:Oper)(f:FF)(h:aA)(v:Value):Prop:=
 (jf ops o f/\zD P o (tL f) h v)\/(rU ops o f/\v=undef)
def dG(P:Program)(ops:Array Oper)(i:Nat)(κ:FF->aA->Prop)(f:FF)(h:aA):Prop:=
 ∃o,ops[i]? =some o/\
  ((∃v,gY P ops o f h v/\(lJ o.op=true->rU ops o f)/\κ (dk f o.dst v) h)\/
   (lJ o.op=true/\jf ops o f/\yW P o (tL f) h λv h'=>κ (dk f o.dst v) h'))
def dK(P:Program)(ops:Array Oper)(f:FF)(h:aA)(j:Nat):Prop:=
 ∃o d v,ops[j]? =some o/\o.dst=some d/\f d=some v/\gY P ops o f h v
def SA(P:Program)(ops:Array Oper)(K:FF->aA->Prop):List (Nat×List Nat)->FF->aA->Prop
 | [],f,h=>K f h
 |(i,js)::r,f,h=>dG P ops i (λf' h'=>(∀j∈js,dK P ops f' h' j)/\SA P ops K r f' h') f h
def dG.mono{P:Program}{ops:Array Oper}{i:Nat}{κ κ':FF->aA->Prop}{f:FF}{h:aA}(H:dG P ops i κ f h)(hk: ∀f h,κ f h->κ' f h):dG P ops i κ' f h:=by obtain⟨o,ho,H⟩:=H;refine⟨o,ho,H.imp (λ⟨v,h1,h2,h3⟩=>⟨v,h1,h2,hk _ _ h3⟩) (λ⟨h1,h2,h3⟩=>⟨h1,h2,h3.mono λv h'=>hk _ _⟩)⟩
def iN(ops:Array Oper)(d:Option Nat)(o:Oper):Bool:=match d with|some k=> !(o.looksAt ops).contains k|none=>true
def pm{ops:Array Oper}{o:Oper}{f:FF}{d:Option Nat}{v:Value}(h:iN ops d o=true): ∀x∈o.op.operands,tL (dk f d v) x=tL f x:=by
 intro x hx;cases d with
 |none=>rfl
 |some k=>
  cases x with
  |tmp t=>
   simp only[tL,dk];by_cases e:t=k
   ·subst e;have:t∈o.looksAt ops:=List.mem_append_left _ (List.mem_filterMap.2 ⟨.tmp t,by simpa using hx,rfl⟩);simp[iN,this]at h
   ·simp[e]
  |_=>rfl
def iz{ops:Array Oper}{o:Oper}{f:FF}{d:Option Nat}{v:Value}{j:Nat}{want:Bool}{g:Nat}(h:iN ops d o=true)(hg:o.guard=some (j,want))(hb:(ops[j]?).bind (·.dst)=some g):dk f d v g=f g:=by
 cases d with
 |none=>rfl
 |some k=>
  simp only[dk];by_cases e:g=k
  ·subst e;have:g∈o.looksAt ops:=List.mem_append_right _ (by simp[hg,hb]);simp[iN,this]at h
  ·simp[e]
def qr{ops:Array Oper}{o:Oper}{f:FF}{d:Option Nat}{v:Value}(h:iN ops d o=true):jf ops o (dk f d v)↔jf ops o f:=by
 unfold jf;split
 ·rfl
 ·rename_i j want hg;constructor
  ·rintro ⟨g,hb,hv⟩;rw[iz h hg hb]at hv;exact⟨g,hb,hv⟩
  ·rintro ⟨g,hb,hv⟩;exact⟨g,hb,by rw[iz h hg hb];exact hv⟩
def tM{ops:Array Oper}{o:Oper}{f:FF}{d:Option Nat}{v:Value}(h:iN ops d o=true):rU ops o (dk f d v)↔rU ops o f:=by
 unfold rU;split
 ·rfl
 ·rename_i j want hg;constructor
  ·rintro ⟨g,u,hb,hv,hne⟩;rw[iz h hg hb]at hv;exact⟨g,u,hb,hv,hne⟩
  ·rintro ⟨g,u,hb,hv,hne⟩;exact⟨g,u,hb,by rw[iz h hg hb];exact hv,hne⟩
def Bw.congr{e e':Operand->Option Value}{xs:Array Operand}{σ:Operand->Value}(h: ∀x∈xs,e x=e' x)(H:Bw e xs σ):Bw e' xs σ:=
 λx hx v hv=>H x hx v (by rw[h x hx];exact hv)
def zD.off{P:Program}{ops:Array Oper}{o:Oper}{f:FF}{h:aA}{d:Option Nat}{u v:Value}(ho:iN ops d o=true):zD P o (tL (dk f d u)) h v↔zD P o (tL f) h v:=
 ⟨λH σ hσ w hw=>H σ (hσ.congr λx hx=>(pm ho x hx).symm) w hw,λH σ hσ w hw=>H σ (hσ.congr λx hx=>pm ho x hx) w hw⟩
def yW.off{P:Program}{ops:Array Oper}{o:Oper}{f:FF}{h:aA}{d:Option Nat}{u:Value}{K:Value->aA->Prop}(ho:iN ops d o=true)(H:yW P o (tL (dk f d u)) h K):yW P o (tL f) h K:=
 λσ hσ w hw=>H σ (hσ.congr λx hx=>(pm ho x hx).symm) w hw
def gY.off{P:Program}{ops:Array Oper}{o:Oper}{f:FF}{h:aA}{d:Option Nat}{u v:Value}(ho:iN ops d o=true):gY P ops o (dk f d u) h v↔gY P ops o f h v:=by unfold gY;rw[qr ho,tM ho,zD.off ho]
def ko(f:FF){d e:Option Nat}(u v:Value)(h: ∀k,d=some k->e≠some k):dk (dk f d u) e v=dk (dk f e v) d u:=by
 cases d with
 |none=>rfl
 |some k=>
  cases e with
  |none=>rfl
  |some l=>
   have hne:k≠l:=λe=>h k rfl (by rw[e]);funext t;simp only[dk];by_cases h1:t=l
   ·subst h1;simp[Ne.symm hne]
   ·simp[h1]
def yK(ops:Array Oper)(x y:Oper):Bool:=iN ops x.dst y&&iN ops y.dst x&&(match x.dst,y.dst with|some a,some b=> !(Nat.beq a b)|_,_=>true)
def wD{ops:Array Oper}{x y:Oper}(h:yK ops x y=true):iN ops x.dst y=true/\iN ops y.dst x=true/\ ∀k,x.dst=some k->y.dst≠some k:=by simp only[yK,Bool.and_eq_true]at h;refine⟨h.1.1,h.1.2,λk hk hy=> ?_⟩;rw[hk,hy]at h;simp at h
def bO(ops:Array Oper)(i:Nat):Bool:=match ops[i]? with|some o=>lJ o.op|none=>false
def wb(ops:Array Oper)(i j:Nat):Bool:=match ops[i]?,ops[j]? with|some x,some y=>yK ops x y|_,_=>false
def lY(ops:Array Oper)(j x:Nat):Bool:=match ops[j]?,ops[x]? with
 |some oj,some ox=>iN ops ox.dst oj&&(match ox.dst,oj.dst with|some a,some b=> !(Nat.beq a b)|_,_=>true)
 |_,_=>false
def sZ(ops:Array Oper)(anc:Nat->Nat->Bool)(x y:Nat×List Nat):Bool:=
 anc y.1 x.1||(bO ops x.1&&bO ops y.1)||(wb ops x.1 y.1&& !bO ops x.1&&(!bO ops y.1||y.2.contains x.1))
structure kU(ops:Array Oper)(anc:Nat->Nat->Bool)(rem:List (Nat×List Nat)):Prop where
 nodup:(rem.map (·.1)).Nodup
 pair:rem.Pairwise λx y=>sZ ops anc x y=true
 empty: ∀x∈rem,bO ops x.1=false->x.2=[]
 keep: ∀y∈rem,∀j∈y.2,∀x∈rem,x.1≠j->anc j x.1=true\/anc x.1 y.1=true\/lY ops j x.1=true
 self: ∀y∈rem,∀j∈y.2,∃o,ops[j]? =some o/\iN ops o.dst o=true
 lin:rem.Pairwise λx y=>anc x.1 y.1=false
def kU.tail{ops:Array Oper}{anc:Nat->Nat->Bool}{x:Nat×List Nat}{rem:List (Nat×List Nat)}(g:kU ops anc (x::rem)):kU ops anc rem:=
 ⟨by have:=g.nodup;simp at this;exact this.2,by have:=g.pair;rw[List.pairwise_cons]at this;exact this.2,λy hy=>g.empty y (by simp[hy]),
  λy hy j hj z hz=>g.keep y (by simp[hy]) j hj z (by simp[hz]),λy hy=>g.self y (by simp[hy]),by have:=g.lin;rw[List.pairwise_cons]at this;exact this.2⟩
def kU.sub{ops:Array Oper}{anc:Nat->Nat->Bool}{rem rem':List (Nat×List Nat)}(g:kU ops anc rem)(hs:rem'.Sublist rem):kU ops anc rem':=
 ⟨g.nodup.sublist (hs.map _),g.pair.sublist hs,λy hy=>g.empty y (hs.subset hy),λy hy j hj z hz=>g.keep y (hs.subset hy) j hj z (hs.subset hz),λy hy=>g.self y (hs.subset hy),g.lin.sublist hs⟩
def dK.keep{P:Program}{ops:Array Oper}{f:FF}{h:aA}{j x:Nat}{ox:Oper}{v:Value}(hx:ops[x]? =some ox)(hk:lY ops j x=true)(H:dK P ops (dk f ox.dst v) h j):dK P ops f h j:=by
 obtain⟨o,d,u,ho,hd,hu,hl⟩:=H;simp only[lY,ho,hx,Bool.and_eq_true]at hk;refine⟨o,d,u,ho,hd,?_,(gY.off hk.1).1 hl⟩;rw[hd]at hk;cases hxd:ox.dst with
 |none=>rw[hxd]at hu;exact hu
 |some k=>
  rw[hxd]at hu hk;have hne:d≠k:=λe=>by subst e;simp at hk
  simpa[dk,hne]using hu
def Bh{P:Program}{ops:Array Oper}{K:FF->aA->Prop}{anc:Nat->Nat->Bool}{i:Nat}{ji:List Nat}:
  ∀(rem:List (Nat×List Nat)) (f:FF) (h:aA),kU ops anc rem->(i,ji)∈rem->
   (∀x∈rem,anc i x.1=false)->(bO ops i=true-> ∀x∈rem.takeWhile (λz=> !(Nat.beq z.1 i)),bO ops x.1=false)->
   (∀j∈ji,j∉rem.map (·.1)-> ∀x∈rem,anc j x.1=false)->
   SA P ops K rem f h->
   dG P ops i (λf' h'=>(∀j∈ji,j∉rem.map (·.1)->dK P ops f' h' j)/\SA P ops K (rem.filter λz=> !(Nat.beq z.1 i)) f' h') f h:=by
 intro rem
 induction rem with
 |nil=>intro f h _ hm;simp at hm
 |cons x rest ih=>
  intro f h g hm hanc heff hdc H;obtain⟨x,jx⟩:=x;have hnd:=g.nodup;simp only[List.map_cons,List.nodup_cons]at hnd;by_cases hxi:x=i
  ·subst hxi
   have hji:jx=ji:=by
    simp only[List.mem_cons,Prod.mk.injEq,true_and]at hm;rcases hm with e|hm
    ·exact e.symm
    ·exact absurd (List.mem_map.2 ⟨_,hm,rfl⟩) hnd.1
   subst hji
   have hf:(((x,jx)::rest).filter λz=> !(Nat.beq z.1 x))=rest:=by
    rw[List.filter_cons];simp only[Nat.beq_refl,Bool.not_true,Bool.false_eq_true,if_false];rw[List.filter_eq_self];intro z hz;cases hb:Nat.beq z.1 x with
    |false=>rfl
    |true=>exact absurd (List.mem_map.2 ⟨z,hz,Nat.eq_of_beq_eq_true hb⟩) hnd.1
   rw[hf];exact dG.mono H λf' h' hh=>⟨λj hj _=>hh.1 j hj,hh.2⟩
  ·have hm':(i,ji)∈rest:=by
    simp only[List.mem_cons,Prod.mk.injEq]at hm;rcases hm with⟨e,_⟩|hm
    ·exact absurd e.symm hxi
    ·exact hm
   have hbx:Nat.beq x i=false:=by
    cases hb:Nat.beq x i with
    |false=>rfl
    |true=>exact absurd (Nat.eq_of_beq_eq_true hb) hxi
   have hp:=(List.pairwise_cons.1 g.pair).1 _ hm';simp only[sZ,hanc (x,jx) Z,Bool.false_or,Bool.or_eq_true,Bool.and_eq_true,Bool.not_eq_true',List.contains_iff_mem]at hp
   have hp':wb ops x i=true/\bO ops x=false/\(bO ops i=true->x∈ji):=by
    rcases hp with⟨h1,h2⟩|⟨⟨h1,h2⟩,h3⟩
    ·have:=heff h2 (x,jx) (by rw[List.takeWhile_cons];simp[hbx]);simp[this]at h1
    ·refine⟨h1,h2,λhe=> ?_⟩;rcases h3 with h3|h3
     ·rw[he]at h3;simp at h3
     ·exact h3
   obtain⟨hfar,hex,hre⟩:=hp';have hjx:jx=[]:=g.empty (x,jx) Z hex;subst hjx;obtain⟨ox,hox,H⟩:=H;have hnex:lJ ox.op=false:=by simpa[bO,hox]using hex
   have H: ∃v,gY P ops ox f h v/\SA P ops K rest (dk f ox.dst v) h:=by
    rcases H with⟨v,h1,_,h3⟩|⟨h1,_⟩
    ·exact⟨v,h1,h3.2⟩
    ·rw[hnex]at h1;simp at h1
   obtain⟨v,hlook,hrest⟩:=H
   have step:=ih (dk f ox.dst v) h g.tail hm' (λz hz=>hanc z (by simp[hz]))
    (λhe z hz=>heff he z (by rw[List.takeWhile_cons];simp[hbx];exact .inr hz))
    (λj hj hjn z hz=>by
     by_cases hjx:j=x
     ·subst hjx;exact(List.pairwise_cons.1 g.lin).1 z hz
     ·exact hdc j hj (by simp[hjx];simpa using hjn) z (by simp[hz])) hrest
   obtain⟨oi,hoi,step⟩:=step;have hfar':yK ops ox oi=true:=by simpa[wb,hox,hoi]using hfar
   obtain⟨h1,h2,h3⟩:=wD hfar'
   have hfil:((x,[])::rest).filter (λz=> !(Nat.beq z.1 i))=(x,[])::rest.filter λz=> !(Nat.beq z.1 i):=by rw[List.filter_cons];simp[hbx]
   have move: ∀u h',gY P ops ox (dk f oi.dst u) h' v->
     (∀j∈ji,j∉rest.map (·.1)->dK P ops (dk (dk f ox.dst v) oi.dst u) h' j)->
     SA P ops K (rest.filter λz=> !(Nat.beq z.1 i)) (dk (dk f ox.dst v) oi.dst u) h'->
     (∀j∈ji,j∉((x,[])::rest).map (·.1)->dK P ops (dk f oi.dst u) h' j)/\SA P ops K (((x,[])::rest).filter λz=> !(Nat.beq z.1 i)) (dk f oi.dst u) h':=by
    intro u h' hl hag hsa;rw[ko f v u h3]at hag hsa;refine⟨λj hj hjn=> ?_,?_⟩
    ·have hjx:x≠j:=λe=>hjn (by simp[e]);have hjr:j∉rest.map (·.1):=λe=>hjn (by simp only[List.map_cons,List.mem_cons];exact .inr e)
     have hk:lY ops j x=true:=by
      rcases g.keep (i,ji) hm j hj (x,[]) Z hjx with hk|hk|hk
      ·have:=hdc j hj hjn (x,[]) Z;rw[this]at hk;simp at hk
      ·have:=(List.pairwise_cons.1 g.lin).1 _ hm';rw[this]at hk;simp at hk
      ·exact hk
     exact dK.keep hox hk (hag j hj hjr)
    ·rw[hfil];exact⟨ox,hox,.inl ⟨v,hl,λe=>by rw[hnex]at e;simp at e,Z,hsa⟩⟩
   refine⟨oi,hoi,?_⟩;rcases step with⟨u,s1,s2,s3⟩|⟨s1,s2,s3⟩
   ·refine .inl ⟨u,(gY.off h1).1 s1,λe=>(tM h1).1 (s2 e),move u h ((gY.off h2).2 hlook) s3.1 s3.2⟩
   ·refine .inr ⟨s1,(qr h1).1 s2,(yW.off h1 s3).mono λu h' hh=> ?_⟩;refine move u h' ?_ hh.1 hh.2;have hxi':x∈ji:=hre (by simpa[bO,hoi]using s1);obtain⟨o,d,v',ho,hd,hv',hl⟩:=hh.1 x hxi' hnd.1;rw[hox]at ho;simp only[Option.some.injEq]at ho;subst ho;rw[ko f v u h3,hd]at hv';simp only[dk,if_true,Option.some.injEq]at hv';subst hv';rw[ko f v u h3]at hl;obtain⟨o',ho',hself⟩:=g.self (i,ji) hm x hxi';rw[hox]at ho';simp only[Option.some.injEq]at ho';subst ho';exact(gY.off hself).1 hl
end
section
def i3(f:FF)(a:Act):Prop:= ∀t v,f t=some v->a.tmps.getD t undef=v
structure mX(n:Nat)(w0:World)(f:FF)(h:aA)(a:Act)(w:World):Prop where
 agree:i3 f a
 defers:a.defers=[]
 size:a.tmps.size=n
 same:bN w0 w
 heap:w.heap=h
def lW(n:Nat)(o:Oper):Bool:=match o.dst with|some d=>Nat.blt d n|none=>true
def t8{f:FF}{a:Act}{d:Option Nat}{v:Value}(h:i3 f a)(hd: ∀k,d=some k->k<a.tmps.size):i3 (dk f d v) (a.put d v):=by
 cases d with
 |none=>exact h
 |some k=>
  intro t u hu;simp only[dk]at hu;by_cases e:t=k
  ·subst e;simp only[if_true,Option.some.injEq]at hu;subst hu;simp[Act.put,hd t rfl]
  ·simp only[e,if_false]at hu;have:=h t u hu;rw[<-this];simp[Act.put,Array.getElem?_setIfInBounds_ne (Ne.symm e)]
def vP(a:Act)(d:Option Nat)(v:Value):(a.put d v).tmps.size=a.tmps.size:=by cases d<;>simp[Act.put]
def sd(a:Act)(d:Option Nat)(v:Value):(a.put d v).defers=a.defers:=by cases d<;>rfl
def g7{f:FF}{a:Act}(h:i3 f a)(xs:Array Operand):Bw (tL f) xs a.eval:=by
 intro x _ v hv;cases x with
 |tmp t=>exact h t v hv
 |const u=>simpa[tL,Act.eval]using hv
 |global g=>simpa[tL,Act.eval]using hv
 |func g=>simpa[tL,Act.eval]using hv
def mX.put{n:Nat}{w0:World}{f:FF}{h h':aA}{a:Act}{w w':World}{o:Oper}(s:mX n w0 f h a w)(hd:lW n o=true)(v:Value)(hs:bN w w')(hh:w'.heap=h'):mX n w0 (dk f o.dst v) h' (a.put o.dst v) w':=by refine⟨t8 s.agree λk hk=> ?_,by rw[sd,s.defers],by rw[vP,s.size],s.same.trans hs,hh⟩;rw[s.size];simp only[lW,hk]at hd;exact Nat.le_of_ble_eq_true hd
def gk{ops:Array Oper}{o:Oper}{f:FF}{a:Act}(h:i3 f a)(g:jf ops o f):Region.wanted o (yielded ops a.tmps)=true:=by
 unfold jf at g;unfold Region.wanted;split at g
 ·rename_i hg;simp[hg]
 ·rename_i j want hg;obtain⟨d,hb,hv⟩:=g;have:=h d _ hv;simp only[hg,yielded,hb,Option.bind_some];cases ht:a.tmps[d]? with
  |none=>simp[ht,undef]at this
  |some u=>simp[ht]at this;subst this;simp
def kB{ops:Array Oper}{o:Oper}{f:FF}{a:Act}(h:i3 f a)(g:rU ops o f):Region.wanted o (yielded ops a.tmps)=false:=by
 unfold rU at g;unfold Region.wanted;split at g
 ·exact g.elim
 ·rename_i j want hg;obtain⟨d,v,hb,hv,hne⟩:=g;have:=h d _ hv;simp only[hg,yielded,hb,Option.bind_some];cases ht:a.tmps[d]? with
  |none=>simp
  |some u=>
   simp[ht]at this;subst this;cases u<;>simp;rename_i b;intro e;exact hne (by rw[e])
def dG.wpOp{P:Program}{ops:Array Oper}{Q:Exit->Act->World->Prop}{i n:Nat}{w0:World}{κ:FF->aA->Prop}{κ':Act->World->Prop}{f:FF}{h:aA}{a:Act}{w:World}
  (H:dG P ops i κ f h) (s:mX n w0 f h a w) (hd: ∀o:Oper,ops[i]? =some o->lW n o=true)
  (hk: ∀f' h' a' w',mX n w0 f' h' a' w'->κ f' h'->κ' a' w'):wpOp P ops Q i κ' a w:=by
 obtain⟨o,ho,H⟩:=H;unfold Go.wpOp;simp only[ho];have hdo:=hd o ho;rcases H with⟨v,hl,_,hκ⟩|⟨_,hy,he⟩
 ·rcases hl with⟨hy,hv⟩|⟨hn,rfl⟩
  ·rw[if_pos (gk s.agree hy)];refine .inl ?_;unfold Oper.wp;rw[hv a.eval (g7 s.agree _) w s.heap];exact hk _ _ _ _ (s.put hdo v (bN.refl w) s.heap) hκ
  ·rw[if_neg (by rw[kB s.agree hn];simp)];exact hk _ _ _ _ (s.put hdo undef (bN.refl w) s.heap) hκ
 ·rw[if_pos (gk s.agree hy)];refine .inl ?_;unfold Oper.wp;have:=he a.eval (g7 s.agree _) w s.heap;revert this;generalize (execOp a.eval o).run P w=r;intro this;unfold kT at this;split at this
  ·exact hk _ _ _ _ (s.put hdo _ this.1 rfl) this.2
  ·exact hk _ _ _ _ (s.put hdo _ this.1 rfl) this.2
  ·refine this.2.mono λe w'' hh=> ?_;obtain⟨v,rfl,hs,hK⟩:=hh;exact hk _ _ _ _ (s.put hdo v (this.1.trans hs) rfl) hK
  ·exact this.elim
structure te(ops:Array Oper)(anc:Nat->Nat->Bool):Prop where
 up: ∀j o x,ops[j]? =some o->anc j x=true-> ∃e∈o.after,Region.binds .any e=true/\e.on<j/\(e.on=x\/anc e.on x=true)
 edge: ∀j o,ops[j]? =some o-> ∀e∈o.after,Region.binds .any e=true->e.on<j/\anc j e.on=true
abbrev ids(rem:List (Nat×List Nat)):List Nat:=rem.map (·.1)
structure jp(ops:Array Oper)(rem:List (Nat×List Nat))(listed:Array Bool):Prop where
 size:listed.size=ops.size
 mem: ∀i,i<ops.size->(listed.getD i true=false↔i∈ids rem)
 lt: ∀i∈ids rem,i<ops.size
def oo(ops:Array Oper)(rem:List (Nat×List Nat)):Prop:= ∀j o,ops[j]? =some o->j∉ids rem-> ∀e∈o.after,Region.binds .any e=true->e.on∉ids rem
def jJ{ops:Array Oper}{anc:Nat->Nat->Bool}(hA:te ops anc){rem:List (Nat×List Nat)}(hD:oo ops rem):
  ∀j,j<ops.size->j∉ids rem-> ∀x,anc j x=true->x∉ids rem:=by
 intro j
 induction j using Nat.strongRecOn with
 |_ j ih=>
  intro hj hn x hx;obtain⟨o,ho⟩: ∃o,ops[j]? =some o:=⟨ops[j],by simp[hj]⟩;obtain⟨e,he,hb,hlt,hh⟩:=hA.up j o x ho hx;have hon:=hD j o ho hn e he hb;rcases hh with rfl|hh
  ·exact hon
  ·exact ih e.on hlt Y hon x hh
def iI{ops:Array Oper}{rem:List (Nat×List Nat)}{listed:Array Bool}(hC:jp ops rem listed){i:Nat}(hi:i∈Region.ready .any ops listed):
  i∈ids rem/\ ∃o,ops[i]? =some o/\ ∀e∈o.after,Region.binds .any e=true->e.on∉ids rem:=by
 obtain⟨h0,o,ho,hall⟩:=mem_ready.1 hi;have hlt:i<ops.size:=(Array.getElem?_eq_some_iff.1 ho).1;refine⟨(hC.mem i hlt).1 h0,o,ho,λe he hb hmem=> ?_⟩;have h1:=hall e he hb;have h2:=(hC.mem e.on (hC.lt _ hmem)).2 hmem;have:e.on<listed.size:=by rw[hC.size];exact hC.lt _ hmem
 simp[this]at h1 h2;rw[h1]at h2;simp at h2
abbrev cK(rem:List (Nat×List Nat))(i:Nat):List (Nat×List Nat):=rem.filter λz=> !(Nat.beq z.1 i)
def eX{rem:List (Nat×List Nat)}{i k:Nat}:k∈ids (cK rem i)↔k∈ids rem/\k≠i:=by
 simp only[List.mem_map,List.mem_filter];constructor
 ·rintro ⟨z,⟨hz,hb⟩,rfl⟩;refine⟨⟨z,hz,rfl⟩,λe=> ?_⟩;rw[e]at hb;simp at hb
 ·rintro ⟨⟨z,hz,rfl⟩,hne⟩;refine⟨z,⟨hz,?_⟩,rfl⟩;cases hb:Nat.beq z.1 i with
  |false=>rfl
  |true=>exact absurd (Nat.eq_of_beq_eq_true hb) hne
def jp.drop{ops:Array Oper}{rem:List (Nat×List Nat)}{listed:Array Bool}(hC:jp ops rem listed)(i:Nat)(hi:i∈ids rem):jp ops (cK rem i) (listed.setIfInBounds i true):=by
 refine⟨by simp[hC.size],λk hk=> ?_,λk hk=>hC.lt k (eX.1 hk).1⟩;rw[eX];by_cases e:k=i
 ·subst e;have:k<listed.size:=by rw[hC.size];exact hk
  simp[this]
 ·rw[getD_set_ne true (Ne.symm e),hC.mem k hk];simp[e]
def oo.drop{ops:Array Oper}{rem:List (Nat×List Nat)}(hD:oo ops rem){i:Nat}(hr: ∃o,ops[i]? =some o/\ ∀e∈o.after,Region.binds .any e=true->e.on∉ids rem):oo ops (cK rem i):=by
 intro j o ho hj e he hb hmem;rw[eX]at hmem;by_cases hji:j=i
 ·subst hji;obtain⟨o',ho',hall⟩:=hr;rw[ho]at ho';simp only[Option.some.injEq]at ho';subst ho';exact hall e he hb hmem.1
 ·exact hD j o ho (λh=>hj (eX.2 ⟨h,hji⟩)) e he hb hmem.1
def zU(ops:Array Oper)(anc:Nat->Nat->Bool)(rem:List (Nat×List Nat)):Prop:=
 rem.Pairwise λx y=>bO ops x.1=true->bO ops y.1=true->anc y.1 x.1=true
abbrev iD(rem:List (Nat×List Nat))(i:Nat):List (Nat×List Nat):=rem.takeWhile λz=> !(Nat.beq z.1 i)
def EL(ops:Array Oper)(anc:Nat->Nat->Bool)(A:List (List (Nat×List Nat))):Prop:=
 ∀rem∈A,∀i∈ids rem,bO ops i=true->(∀x∈rem,bO ops x.1=true->anc i x.1=false)-> ∃alt∈A,(∀x∈iD alt i,bO ops x.1=false)/\zU ops anc (cK alt i)
def qN{R:Nat×List Nat->Nat×List Nat->Prop}{rem:List (Nat×List Nat)}{i:Nat}{ji:List Nat}(h:rem.Pairwise R)(hm:(i,ji)∈rem): ∀x∈iD rem i,R x (i,ji):=by
 intro x hx;have hsplit:=List.takeWhile_append_dropWhile (p:=λz:Nat×List Nat=> !(Nat.beq z.1 i)) (l:=rem);rw[<-hsplit,List.pairwise_append]at h;refine h.2.2 x hx (i,ji) ?_;rw[<-hsplit]at hm;rcases List.mem_append.1 hm with hm|hm
 ·exfalso;revert hm;generalize rem=l;intro hm
  induction l with
  |nil=>simp at hm
  |cons z l ih=>
   simp only[List.takeWhile_cons]at hm;split at hm
   ·rename_i hz;rcases List.mem_cons.1 hm with rfl|hm
    ·simp at hz
    ·exact ih hm
   ·simp at hm
 ·exact hm
def un{ops:Array Oper}{anc:Nat->Nat->Bool}{rem:List (Nat×List Nat)}(h:zU ops anc rem):EL ops anc [rem]:=by
 intro r hr i hi he hmin;simp only[List.mem_singleton]at hr;subst hr;obtain⟨⟨i',ji⟩,hm,rfl⟩:=List.mem_map.1 hi;refine⟨r,Z,λx hx=> ?_,h.sublist List.filter_sublist⟩;cases hb:bO ops x.1 with
 |false=>rfl
 |true=>
  have:=qN h hm x hx hb he;have hx':x∈r:=(List.takeWhile_sublist _).subset hx;rw[hmin x hx' hb]at this;simp at this
def gY.uniq{P:Program}{ops:Array Oper}{o:Oper}{f:FF}{h:aA}{a:Act}{w:World}{u v:Value}(ha:i3 f a)(hw:w.heap=h)(h1:gY P ops o f h u)(h2:gY P ops o f h v):u=v:=by
 rcases h1 with⟨y1,v1⟩|⟨n1,rfl⟩<;>rcases h2 with⟨y2,v2⟩|⟨n2,rfl⟩
 ·have e1:=v1 a.eval (g7 ha _) w hw;have e2:=v2 a.eval (g7 ha _) w hw;rw[e1]at e2;simpa using e2
 ·have:=gk ha y1;rw[kB ha n2]at this;simp at this
 ·have:=gk ha y2;rw[kB ha n1]at this;simp at this
 ·rfl
def eT{rem:List (Nat×List Nat)}{i:Nat}(hi:i∈ids rem):(cK rem i).length<rem.length:=by obtain⟨z,hz,rfl⟩:=List.mem_map.1 hi;refine List.length_filter_lt_length_iff_exists.2 ⟨z,hz,?_⟩;simp
def qL{i k:Nat}(hk:k≠i): ∀{rem:List (Nat×List Nat)} {x:Nat×List Nat},x∈iD (cK rem k) i->x∈iD rem i:=by
 intro rem
 induction rem with
 |nil=>intro x hx;simp at hx
 |cons y l ih=>
  intro x hx;simp only[List.filter_cons]at hx;simp only[List.takeWhile_cons];cases hq:Nat.beq y.1 k with
  |false=>
   simp only[hq,Bool.not_false,if_true,List.takeWhile_cons]at hx;split
   ·rename_i hp;simp only[hp,if_true,List.mem_cons]at hx;rcases hx with rfl|hx
    ·simp
    ·exact List.mem_cons_of_mem _ (ih hx)
   ·rename_i hp;simp[hp]at hx
  |true=>
   simp only[hq,Bool.not_true,Bool.false_eq_true,if_false]at hx;have hyk:=Nat.eq_of_beq_eq_true hq
   have hyi:Nat.beq y.1 i=false:=by
    cases hb:Nat.beq y.1 i with
    |false=>rfl
    |true=>exact absurd (hyk.symm.trans (Nat.eq_of_beq_eq_true hb)) hk
   rw[if_pos (by simp[hyi])];exact List.mem_cons_of_mem _ (ih hx)
def uC(rem:List (Nat×List Nat))(i k:Nat):cK (cK rem i) k=cK (cK rem k) i:=by
 simp only[List.filter_filter]
 congr 1
 funext z;exact Bool.and_comm _ _
def Eg{P:Program}{ops:Array Oper}{Q:Exit->Act->World->Prop}{K:FF->aA->Prop}{anc:Nat->Nat->Bool}{n:Nat}{w0:World}(hA:te ops anc)
  (hd: ∀(i:Nat) (o:Oper),ops[i]? =some o->lW n o=true) (hK: ∀f h a w,mX n w0 f h a w->K f h->Q .normal a w):
  ∀(fuel:Nat) (A:List (List (Nat×List Nat))) (listed:Array Bool) (f:FF) (h:aA) (a:Act) (w:World),
   A≠[]->(∀rem∈A,kU ops anc rem/\jp ops rem listed/\oo ops rem/\rem.length<=fuel/\SA P ops K rem f h)->EL ops anc A->
   mX n w0 f h a w->wpAny P .any ops Q fuel listed a w:=by
 have over: ∀(A:List (List (Nat×List Nat))) (listed:Array Bool) (f:FF) (h:aA) (a:Act) (w:World),A≠[]->
   (∀rem∈A,kU ops anc rem/\jp ops rem listed/\oo ops rem/\SA P ops K rem f h)->mX n w0 f h a w->Region.ready .any ops listed=[]->Q .normal a w:=by
  intro A listed f h a w hne hall hs hr;obtain⟨rem,hrem⟩:=List.exists_mem_of_ne_nil A hne;obtain⟨g,hC,hD,hSA⟩:=hall rem hrem;cases rem with
  |nil=>exact hK f h a w hs hSA
  |cons x rest=>
   exfalso;have hx:x.1∈ids (x::rest):=Z;have hlt:=hC.lt _ hx
   have:x.1∈Region.ready .any ops listed:=by
    rw[mem_ready];refine⟨(hC.mem _ hlt).2 hx,ops[x.1],by simp[hlt],λe he hb=> ?_⟩;have hed:=hA.edge x.1 ops[x.1] (by simp[hlt]) e he hb
    have hnm:e.on∉ids (x::rest):=by
     intro hm;simp only[List.map_cons,List.mem_cons,List.mem_map]at hm;rcases hm with hm|⟨y,hy,hm⟩
     ·omega
     ·have:=(List.pairwise_cons.1 g.lin).1 y hy;rw[hm,hed.2]at this;simp at this
    have h1: ¬listed.getD e.on true=false:=λhh=>hnm ((hC.mem e.on Y).1 hh);have h2:e.on<listed.size:=by rw[hC.size];omega
    simp[h2]at h1 ⊢;exact h1
   rw[hr]at this;simp at this
 intro fuel
 induction fuel with
 |zero=>
  intro A listed f h a w hne hall hord hs
  have hr:Region.ready .any ops listed=[]:=by
   obtain⟨rem,hrem⟩:=List.exists_mem_of_ne_nil A hne;obtain⟨g,hC,hD,hl,hSA⟩:=hall rem hrem;have h0:rem=[]:=List.eq_nil_of_length_eq_zero Y;cases hr:Region.ready .any ops listed with
   |nil=>rfl
   |cons i l=>
    have:=(iI hC (i:=i) (by rw[hr];simp)).1;rw[h0]at this;simp at this
  exact⟨hr,over A listed f h a w hne (λrem hrem=>by obtain⟨g,hC,hD,_,hSA⟩:=hall rem hrem;exact⟨g,hC,hD,hSA⟩) hs hr⟩
 |succ fuel ih=>
  intro A listed f h a w hne hall hord hs;refine⟨λhr=>over A listed f h a w hne (λrem hrem=>by obtain⟨g,hC,hD,_,hSA⟩:=hall rem hrem;exact⟨g,hC,hD,hSA⟩) hs hr,λi hi=> ?_⟩
  have pulled: ∀rem∈A,i∈ids rem/\(∃o,ops[i]? =some o/\ ∀e∈o.after,Region.binds .any e=true->e.on∉ids rem)/\(∀x∈rem,anc i x.1=false):=by
   intro rem hrem;obtain⟨g,hC,hD,hl,hSA⟩:=hall rem hrem;obtain⟨hm,o,ho,hall'⟩:=iI hC hi;refine⟨hm,⟨o,ho,hall'⟩,λx hx=> ?_⟩;cases hb:anc i x.1 with
   |false=>rfl
   |true=>
    exfalso;obtain⟨e,he,hbe,hlt,hh⟩:=hA.up i o x.1 ho hb;have hon:=hall' e he hbe;have hil:i<ops.size:=(Array.getElem?_eq_some_iff.1 ho).1;have hxm:x.1∈ids rem:=List.mem_map.2 ⟨x,hx,rfl⟩;rcases hh with hh|hh
    ·rw[hh]at hon;exact hon hxm
    ·exact jJ hA hD e.on Y hon x.1 hh hxm
  have step: ∀rem∈A,(bO ops i=true-> ∀x∈iD rem i,bO ops x.1=false)->
    dG P ops i (λf' h'=>SA P ops K (cK rem i) f' h') f h:=by
   intro rem hrem heff;obtain⟨g,hC,hD,hl,hSA⟩:=hall rem hrem;obtain⟨hm,hr,hanc⟩:=pulled rem hrem;obtain⟨⟨i',ji⟩,hm',rfl⟩:=List.mem_map.1 hm;refine(Bh rem f h g hm' hanc heff (λj hj hjn x hx=> ?_) hSA).mono λf' h' hh=>hh.2;cases hb:anc j x.1 with
   |false=>rfl
   |true=>
    exfalso;obtain⟨o,ho,_⟩:=g.self _ hm' j hj;have hjl:j<ops.size:=(Array.getElem?_eq_some_iff.1 ho).1;exact jJ hA hD j hjl hjn x.1 hb (List.mem_map.2 ⟨x,hx,rfl⟩)
  cases he:bO ops i with
  |true=>
   obtain⟨rem0,hrem0⟩:=List.exists_mem_of_ne_nil A hne;obtain⟨alt,halt,hbef,hch⟩:=hord rem0 hrem0 i (pulled rem0 hrem0).1 he (λx hx _=>(pulled rem0 hrem0).2.2 x hx);obtain⟨g,hC,hD,hl,hSA⟩:=hall alt halt;obtain⟨hm,hr,hanc⟩:=pulled alt halt;refine(step alt halt λ_=>hbef).wpOp hs (λo ho=>hd i o ho) λf' h' a' w' hs' hk=> ?_;refine ih [cK alt i] (listed.setIfInBounds i true) f' h' a' w' Z ?_ (un hch) hs';intro rem hrem;simp only[List.mem_singleton]at hrem;subst hrem;exact⟨g.sub List.filter_sublist,hC.drop i hm,hD.drop hr,by have:=eT hm;omega,hk⟩
  |false=>
   obtain⟨rem0,hrem0⟩:=List.exists_mem_of_ne_nil A hne;obtain⟨o,ho,H⟩:=step rem0 hrem0 (λe=>by rw[he]at e;simp at e);have hne':lJ o.op=false:=by simpa[bO,ho]using he
   have H: ∃v,gY P ops o f h v:=by
    rcases H with⟨v,h1,_,_⟩|⟨h1,_⟩
    ·exact⟨v,h1⟩
    ·rw[hne']at h1;simp at h1
   obtain⟨v,hv⟩:=H
   have hone:dG P ops i (λf' h'=> ∀rem∈A,SA P ops K (cK rem i) f' h') f h:=by
    refine⟨o,ho,.inl ⟨v,hv,λe=>by rw[hne']at e;simp at e,λrem hrem=> ?_⟩⟩;obtain⟨o',ho',H⟩:=step rem hrem (λe=>by rw[he]at e;simp at e);rw[ho]at ho';simp only[Option.some.injEq]at ho';subst ho';rcases H with⟨u,h1,_,h3⟩|⟨h1,_⟩
    ·rw[gY.uniq hs.agree hs.heap hv h1];exact h3
    ·rw[hne']at h1;simp at h1
   refine hone.wpOp hs (λo ho=>hd i o ho) λf' h' a' w' hs' hk=> ?_;refine ih (A.map λrem=>cK rem i) (listed.setIfInBounds i true) f' h' a' w' (by simpa using hne) ?_ ?_ hs'
   ·intro rem' hrem';obtain⟨rem,hrem,rfl⟩:=List.mem_map.1 hrem';obtain⟨g,hC,hD,hl,hSA⟩:=hall rem hrem;obtain⟨hm,hr,hanc⟩:=pulled rem hrem;exact⟨g.sub List.filter_sublist,hC.drop i hm,hD.drop hr,by have:=eT hm;omega,hk rem hrem⟩
   ·intro rem' hrem' k hk1 hk2 hk3;obtain⟨rem,hrem,rfl⟩:=List.mem_map.1 hrem';have hki:k≠i:=λe=>by rw[e,he]at hk2;simp at hk2
    obtain⟨g,hC,hD,hl,hSA⟩:=hall rem hrem
    obtain⟨alt,halt,hbef,hch⟩:=hord rem hrem k (eX.1 hk1).1 hk2 (λx hx hxe=>by
     have hxi:x.1≠i:=λe=>by rw[e,he]at hxe;simp at hxe
     obtain⟨y,hy,hyx⟩:=List.mem_map.1 (eX.2 ⟨List.mem_map.2 ⟨x,hx,rfl⟩,hxi⟩);have hye:bO ops y.1=true:=by rw[hyx];exact hxe
     have:=hk3 y hy hye;rw[hyx]at this;exact this)
    refine⟨cK alt i,List.mem_map.2 ⟨alt,halt,rfl⟩,λx hx=>hbef x (qL (Ne.symm hki) hx),?_⟩;rw[uC];exact hch.sublist List.filter_sublist
abbrev jg:=List (Nat×List Nat)
def mv{ops:Array Oper}: ∀a:jg,jr ops a++gx ops a=a
 | []=>rfl
 |x::l=>by
  unfold jr gx;cases D3 ops x.1 with
  |true=>rfl
  |false=>simp[mv l]
def oW{ops:Array Oper}: ∀(a:jg),∀x∈jr ops a,bO ops x.1=false
 | [],x,hx=>by simp[jr]at hx
 |y::l,x,hx=>by
  unfold jr at hx;cases he:D3 ops y.1 with
  |true=>rw[he]at hx;simp at hx
  |false=>
   rw[he]at hx;rcases List.mem_cons.1 hx with rfl|hx
   ·exact he
   ·exact oW l x hx
def lF{i:Nat}: ∀{l:jg},tZ i l=true↔i∈ids l
 | []=>by simp[tZ]
 |x::l=>by
  unfold tZ;cases hb:Nat.beq x.1 i with
  |true=>
   have:=Nat.eq_of_beq_eq_true hb;simp[this]
  |false=>
   have hne:i≠x.1:=λe=>by rw[e]at hb;simp at hb
   simp only[lF (l:=l),List.map_cons,List.mem_cons];exact⟨.inr,λh=>h.resolve_left hne⟩
def iu{i:Nat}{js:List Nat}: ∀{B:List jg},(i,js)∈gR B-> ∃r,((i,js)::r)∈B
 | [],h=>by simp[gR]at h
 | []::A,h=>by obtain⟨r,hr⟩:=iu (B:=A) h;exact⟨r,List.mem_cons_of_mem _ hr⟩
 |(x::l)::A,h=>by
  unfold gR at h;dsimp only at h;split at h
  ·obtain⟨r,hr⟩:=iu (B:=A) h;exact⟨r,List.mem_cons_of_mem _ hr⟩
  ·rcases List.mem_cons.1 h with e|h
   ·exact⟨l,by rw[e];simp⟩
   ·obtain⟨r,hr⟩:=iu (B:=A) h;exact⟨r,List.mem_cons_of_mem _ hr⟩
def kZ{i:Nat}{l:jg}: ∀{B:List jg},l∈m5 i B-> ∃js,((i,js)::l)∈B
 | [],h=>by simp[m5]at h
 | []::A,h=>by obtain⟨r,hr⟩:=kZ (B:=A) h;exact⟨r,List.mem_cons_of_mem _ hr⟩
 |(x::r)::A,h=>by
  unfold m5 at h;cases hb:Nat.beq x.1 i with
  |true=>
   rw[hb]at h;have:=Nat.eq_of_beq_eq_true hb;rcases List.mem_cons.1 h with e|h
   ·exact⟨x.2,by rw[e,<-this];simp⟩
   ·obtain⟨js,hr⟩:=kZ (B:=A) h;exact⟨js,List.mem_cons_of_mem _ hr⟩
  |false=>
   rw[hb]at h;obtain⟨js,hr⟩:=kZ (B:=A) h;exact⟨js,List.mem_cons_of_mem _ hr⟩
def jV{i:Nat}: ∀{B:List jg},m5 i B≠[]->i∈ids (gR B)
 | [],h=>absurd rfl h
 | []::A,h=>by unfold gR;exact jV (B:=A) h
 |(x::r)::A,h=>by
  unfold gR;dsimp only;cases hb:Nat.beq x.1 i with
  |true=>
   have e:=Nat.eq_of_beq_eq_true hb;split
   ·rename_i hh;rw[e]at hh;exact lF.1 hh
   ·simp[e]
  |false=>
   unfold m5 at h;rw[hb]at h;have:=jV (B:=A) h;split
   ·exact this
   ·simp only[List.map_cons,List.mem_cons];exact .inr this
def CZ(P:Program)(ops:Array Oper)(K:FF->aA->Prop)(rec:List jg->FF->aA->Prop)(B:List jg)(f:FF)(h:aA):Prop:=
 match B with
 | []::_=>K f h
 |B=> ∀i js,(i,js)∈gR B->dG P ops i (λf' h'=>(∀j∈js,dK P ops f' h' j)/\rec (m5 i B) f' h') f h
def SG(P:Program)(ops:Array Oper)(K:FF->aA->Prop):Nat->List jg->FF->aA->Prop
 |0,_,_,_=>False
 |_+1,[],_,_=>False
 |n+1,a::A,f,h=>SA P ops (CZ P ops K (SG P ops K n) ((a::A).map (gx ops))) (jr ops a) f h
def EP(ops:Array Oper)(anc:Nat->Nat->Bool)(rec:List jg->Prop)(B:List jg):Prop:=
 (∀b∈B,b=[])\/((∀b∈B,∃x r,b=x::r/\bO ops x.1=true/\ ∀j∈x.2,j∉ids r)/\
  ∀b0∈B.head?,∀y∈ids b0,bO ops y=true->(∀x∈b0,bO ops x.1=true->anc y x.1=false)->m5 y B≠[]/\rec (m5 y B))
def Ed(ops:Array Oper)(anc:Nat->Nat->Bool):Nat->List jg->Prop
 |0,_=>False
 |n+1,A=>A≠[]/\(∀a∈A,∀b∈A,jr ops a=jr ops b)/\EP ops anc (Ed ops anc n) (A.map (gx ops))
def SA.mono{P:Program}{ops:Array Oper}{K K':FF->aA->Prop}(hk: ∀f h,K f h->K' f h): ∀{l:jg} {f:FF} {h:aA},SA P ops K l f h->SA P ops K' l f h
 | [],_,_,H=>hk _ _ H
 |(_,_)::_,_,_,H=>dG.mono H λ_ _ hh=>⟨hh.1,SA.mono hk hh.2⟩
def kA{P:Program}{ops:Array Oper}{K:FF->aA->Prop}: ∀{l m:jg} {f:FF} {h:aA},SA P ops (SA P ops K m) l f h->SA P ops K (l++m) f h
 | [],_,_,_,H=>H
 |(_,_)::_,_,_,_,H=>dG.mono H λ_ _ hh=>⟨hh.1,kA hh.2⟩
def jm{l:jg}{i:Nat}(h:i∉ids l):cK l i=l:=by
 rw[List.filter_eq_self];intro z hz;cases hb:Nat.beq z.1 i with
 |false=>rfl
 |true=>exact absurd (List.mem_map.2 ⟨z,hz,Nat.eq_of_beq_eq_true hb⟩) h
def kz(l m:jg)(i:Nat):cK (l++m) i=cK l i++cK m i:=List.filter_append ..
def tF(l m:jg):ids (l++m)=ids l++ids m:=List.map_append
def Dp{P:Program}{ops:Array Oper}{Q:Exit->Act->World->Prop}{K:FF->aA->Prop}{anc:Nat->Nat->Bool}{n:Nat}{w0:World}(hA:te ops anc)
  (hd: ∀(i:Nat) (o:Oper),ops[i]? =some o->lW n o=true) (hK: ∀f h a w,mX n w0 f h a w->K f h->Q .normal a w):
  ∀(fuel d:Nat) (pre:jg) (B:List jg) (listed:Array Bool) (f:FF) (h:aA) (a:Act) (w:World),
   B≠[]->(∀x∈pre,bO ops x.1=false)->(∀b∈B,kU ops anc (pre++b)/\jp ops (pre++b) listed/\oo ops (pre++b)/\(pre++b).length<=fuel)->EP ops anc (Ed ops anc d) B->
   SA P ops (CZ P ops K (SG P ops K d) B) pre f h->mX n w0 f h a w->wpAny P .any ops Q fuel listed a w:=by
 have over: ∀(d:Nat) (pre:jg) (B:List jg) (listed:Array Bool) (f:FF) (h:aA) (a:Act) (w:World),B≠[]->
   (∀b∈B,kU ops anc (pre++b)/\jp ops (pre++b) listed/\oo ops (pre++b))->SA P ops (CZ P ops K (SG P ops K d) B) pre f h->mX n w0 f h a w->Region.ready .any ops listed=[]->Q .normal a w:=by
  intro d pre B listed f h a w hne hall hSA hs hr;obtain⟨b,B',rfl⟩: ∃b B',B=b::B':=by cases B with|nil=>exact absurd rfl hne|cons b B'=>exact⟨b,B',rfl⟩
  obtain⟨g,hC,hD⟩:=hall b Z;cases hrem:pre++b with
  |nil=>
   obtain⟨rfl,rfl⟩:=List.append_eq_nil_iff.1 hrem;exact hK f h a w hs hSA
  |cons x rest=>
   exfalso;rw[hrem]at g hC hD;have hx:x.1∈ids (x::rest):=Z;have hlt:=hC.lt _ hx
   have:x.1∈Region.ready .any ops listed:=by
    rw[mem_ready];refine⟨(hC.mem _ hlt).2 hx,ops[x.1],by simp[hlt],λe he hb=> ?_⟩;have hed:=hA.edge x.1 ops[x.1] (by simp[hlt]) e he hb
    have hnm:e.on∉ids (x::rest):=by
     intro hm;simp only[List.map_cons,List.mem_cons,List.mem_map]at hm;rcases hm with hm|⟨y,hy,hm⟩
     ·omega
     ·have:=(List.pairwise_cons.1 g.lin).1 y hy;rw[hm,hed.2]at this;simp at this
    have h1: ¬listed.getD e.on true=false:=λhh=>hnm ((hC.mem e.on Y).1 hh);have h2:e.on<listed.size:=by rw[hC.size];omega
    simp[h2]at h1 ⊢;exact h1
   rw[hr]at this;simp at this
 intro fuel
 induction fuel with
 |zero=>
  intro d pre B listed f h a w hne hpre hall hok hSA hs
  have hr:Region.ready .any ops listed=[]:=by
   obtain⟨b,hb⟩:=List.exists_mem_of_ne_nil B hne;obtain⟨g,hC,hD,hl⟩:=hall b hb;have h0:pre++b=[]:=List.eq_nil_of_length_eq_zero Y;cases hr:Region.ready .any ops listed with
   |nil=>rfl
   |cons i l=>
    have:=(iI hC (i:=i) (by rw[hr];simp)).1;rw[h0]at this;simp at this
  exact⟨hr,over d pre B listed f h a w hne (λb hb=>by obtain⟨g,hC,hD,_⟩:=hall b hb;exact⟨g,hC,hD⟩) hSA hs hr⟩
 |succ fuel ih=>
  intro d pre B listed f h a w hne hpre hall hok hSA hs;refine⟨λhr=>over d pre B listed f h a w hne (λb hb=>by obtain⟨g,hC,hD,_⟩:=hall b hb;exact⟨g,hC,hD⟩) hSA hs hr,λi hi=> ?_⟩
  have pulled: ∀b∈B,i∈ids (pre++b)/\(∃o,ops[i]? =some o/\ ∀e∈o.after,Region.binds .any e=true->e.on∉ids (pre++b))/\(∀x∈pre++b,anc i x.1=false):=by
   intro b hb;obtain⟨g,hC,hD,hl⟩:=hall b hb;obtain⟨hm,o,ho,hall'⟩:=iI hC hi;refine⟨hm,⟨o,ho,hall'⟩,λx hx=> ?_⟩;cases hb:anc i x.1 with
   |false=>rfl
   |true=>
    exfalso;obtain⟨e,he,hbe,hlt,hh⟩:=hA.up i o x.1 ho hb;have hon:=hall' e he hbe;have hil:i<ops.size:=(Array.getElem?_eq_some_iff.1 ho).1;have hxm:x.1∈ids (pre++b):=List.mem_map.2 ⟨x,hx,rfl⟩;rcases hh with hh|hh
    ·rw[hh]at hon;exact hon hxm
    ·exact jJ hA hD e.on Y hon x.1 hh hxm
  obtain⟨b0,B',eB⟩: ∃b B',B=b::B':=by cases B with|nil=>exact absurd rfl hne|cons b B'=>exact⟨b,B',rfl⟩
  have hb0:b0∈B:=by rw[eB];simp
  cases he:bO ops i with
  |false=>
   have inpre: ∀b∈B,i∉ids b:=by
    intro b hb him;obtain⟨g,-⟩:=hall b hb;rcases hok with hok|⟨hok,-⟩
    ·rw[hok b hb]at him;simp at him
    ·obtain⟨x,r,rfl,hx,-⟩:=hok b hb;simp only[List.map_cons,List.mem_cons]at him;rcases him with rfl|him
     ·rw[he]at hx;simp at hx
     ·obtain⟨y,hy,rfl⟩:=List.mem_map.1 him;have hp:=g.pair;rw[List.pairwise_append]at hp;have:=(List.pairwise_cons.1 hp.2.1).1 y hy;have ha:=(pulled _ hb).2.2 x Z;simp only[sZ,ha,he,hx,Bool.false_or,Bool.and_false,Bool.false_and,Bool.not_true]at this;cases this
   have him:i∈ids pre:=by have:=(pulled b0 hb0).1;rw[tF,List.mem_append]at this;exact this.resolve_right (inpre b0 hb0)
   obtain⟨⟨i',ji⟩,hm',rfl⟩:=List.mem_map.1 him;obtain⟨g,hC,hD,hl⟩:=hall b0 hb0;have hji:ji=[]:=g.empty (i',ji) (by simp[hm']) he;have step:=Bh (K:=CZ P ops K (SG P ops K d) B) pre f h (g.sub (List.sublist_append_left _ _)) hm' (λx hx=>(pulled b0 hb0).2.2 x (by simp[hx])) (λe=>by rw[he]at e;simp at e) (by rw[hji];simp) hSA;refine step.wpOp hs (λo ho=>hd _ o ho) λf' h' a' w' hs' hk=> ?_;refine ih d (cK pre i') B _ f' h' a' w' hne (λx hx=>hpre x (List.mem_filter.1 hx).1) (λb hb=> ?_) hok hk.2 hs';obtain⟨g,hC,hD,hl⟩:=hall b hb;obtain⟨hm,hr,hanc⟩:=pulled b hb;have e:cK pre i'++b=cK (pre++b) i':=by rw[kz,jm (inpre b hb)]
   rw[e];exact⟨g.sub List.filter_sublist,hC.drop _ hm,hD.drop hr,by have:=eT hm;dsimp only at this;omega⟩
  |true=>
   have nopre:i∉ids pre:=λhim=>by obtain⟨x,hx,rfl⟩:=List.mem_map.1 him;rw[hpre x hx]at he;simp at he
   have hib:i∈ids b0:=by have:=(pulled b0 hb0).1;rw[tF,List.mem_append]at this;exact this.resolve_left nopre
   rcases hok with hok|⟨hok1,hok2⟩
   ·rw[hok b0 hb0]at hib;simp at hib
   obtain⟨hg,hrec⟩:=hok2 b0 (by rw[eB];rfl) i hib he (λx hx _=>(pulled b0 hb0).2.2 x (by simp[hx]));obtain⟨⟨i',ji⟩,hh,e'⟩:=List.mem_map.1 (jV hg);dsimp only at e';subst e';obtain⟨r,hr⟩:=iu hh;obtain⟨g,hC,hD,hl⟩:=hall _ hr
   have hSA':SA P ops (SG P ops K d (m5 i' B)) (pre++[(i',ji)]) f h:=by
    refine kA (SA.mono (λf h H=> ?_) hSA)
    have H': ∀i js,(i,js)∈gR B->dG P ops i (λf' h'=>(∀j∈js,dK P ops f' h' j)/\SG P ops K d (m5 i B) f' h') f h:=by obtain⟨x,r',e,-⟩:=hok1 b0 hb0;subst eB e;exact H
    exact H' i' ji hh
   have sub:(pre++[(i',ji)]).Sublist (pre++((i',ji)::r)):=List.Sublist.append_left Z _;have hm':(i',ji)∈pre++[(i',ji)]:=Z;have step:=Bh (K:=SG P ops K d (m5 i' B)) (pre++[(i',ji)]) f h (g.sub sub) hm' (λx hx=>(pulled _ hr).2.2 x (sub.subset hx)) (λ_ x hx=> ?_) (λj hj hjn x hx=> ?_) hSA'
   ·refine step.wpOp hs (λo ho=>hd _ o ho) λf' h' a' w' hs' hk=> ?_
    have ep:(pre++[(i',ji)]).filter (λz=> !(Nat.beq z.1 i'))=pre:=by have:=kz pre [(i',ji)] i';rw[jm nopre]at this;simpa using this
    rw[ep]at hk;cases d with
    |zero=>exact hrec.elim
    |succ d=>
     obtain⟨-,hpe,hb⟩:=hrec;obtain⟨c0,C,eC⟩: ∃c C,m5 i' B=c::C:=by cases hq:m5 i' B with|nil=>exact absurd hq hg|cons c C=>exact⟨c,C,rfl⟩
     rw[eC]at hk hpe hb;refine ih d (pre++jr ops c0) ((c0::C).map (gx ops)) _ f' h' a' w' Z (λx hx=> ?_) (λb hb=> ?_) hb (kA hk.2) hs'
     ·rcases List.mem_append.1 hx with hx|hx
      ·exact hpre x hx
      ·exact oW _ x hx
     ·obtain⟨c,hc,rfl⟩:=List.mem_map.1 hb;rw[hpe c0 Z c hc,List.append_assoc,mv];obtain⟨js,hjs⟩:=kZ (i:=i') (l:=c) (B:=B) (by rw[eC];exact hc);obtain⟨g,hC,hD,hl⟩:=hall _ hjs;obtain⟨hm,hr',hanc⟩:=pulled _ hjs;have hnd:=g.nodup
      have e:pre++c=cK (pre++((i',js)::c)) i':=by
       rw[kz,jm nopre]
       congr 1
       rw[List.map_append,List.nodup_append]at hnd
       have:i'∉ids c:=by have:=hnd.2.1;simp only[List.map_cons,List.nodup_cons]at this;exact this.1
       have e2:cK ((i',js)::c) i'=cK c i':=Z;rw[e2];exact(jm this).symm
      rw[e];exact⟨g.sub List.filter_sublist,hC.drop _ hm,hD.drop hr',by have:=eT hm;omega⟩
   ·have hx':x∈pre\/x=(i',ji):=by
     have:=(List.takeWhile_sublist _).subset hx;simpa using this
    rcases hx' with hx'|rfl
    ·exact hpre x hx'
    ·exfalso;have:=List.all_eq_true.1 List.all_takeWhile _ hx;simp at this
   ·cases hb:anc j x.1 with
    |false=>rfl
    |true=>
     exfalso;obtain⟨o,ho,_⟩:=g.self (i',ji) Z j hj;have hjl:j<ops.size:=(Array.getElem?_eq_some_iff.1 ho).1
     have hjn':j∉ids (pre++((i',ji)::r)):=by
      obtain⟨x',r',e',-,hjr⟩:=hok1 _ hr;simp only[List.cons.injEq]at e';obtain⟨rfl,rfl⟩:=e';intro hm;have hm:j∈ids pre\/j=i'\/j∈ids r:=by simpa using hm
      have hjn: ¬(j∈ids pre\/j=i'):=by simpa using hjn
      rcases hm with hm|hm|hm
      ·exact hjn (.inl hm)
      ·exact hjn (.inr hm)
      ·exact hjr j hj hm
     exact jJ hA hD j hjl hjn' x.1 hb (List.mem_map.2 ⟨x,sub.subset hx,rfl⟩)
end
section
def Cq{α:Type}(r:α->α->Bool):List α->Bool
 | []=>true
 |x::l=>l.all (r x)&&Cq r l
def tj{α:Type}{r:α->α->Bool}: ∀{l:List α},Cq r l=true->l.Pairwise λx y=>r x y=true:=by
 intro l
 induction l with
 |nil=>intro _;exact List.Pairwise.nil
 |cons x l ih=>
  intro h;simp only[Cq,Bool.and_eq_true,List.all_eq_true]at h;exact List.Pairwise.cons h.1 (ih h.2)
def ii(A:List Nat)(j x:Nat):Bool:=(A.getD j 0).testBit x
def DB(ops:List Oper)(A:List Nat):Bool:=
 ops.zipIdx.all λ(o,j)=>Nat.blt (A.getD j 0) (2^j)&&
  o.after.toList.all (λe=> !Region.binds .any e||(Nat.blt e.on j&&ii A j e.on))&&
  (List.range j).all λx=> !ii A j x||o.after.toList.any λe=>Region.binds .any e&&(Nat.beq e.on x||ii A e.on x)
def s9(ops:Array Oper)(anc:Nat->Nat->Bool)(x y:Nat×List Nat):Bool:=sZ ops anc x y&& !anc x.1 y.1&& !Nat.beq x.1 y.1
def zH(ops:Array Oper)(j:Nat):Bool:=match ops[j]? with|some o=>iN ops o.dst o|none=>false
def Al(ops:Array Oper)(anc:Nat->Nat->Bool)(alt:List (Nat×List Nat)):Bool:=
 Cq (s9 ops anc) alt&&alt.all (λx=>bO ops x.1||x.2.isEmpty)&&
 alt.all (λy=>y.2.all λj=>zH ops j&&alt.all λx=>Nat.beq x.1 j||anc j x.1||anc x.1 y.1||lY ops j x.1)&&
 (List.range ops.size).all (λi=>(ids alt).contains i)&&(ids alt).all λi=>Nat.blt i ops.size
def Dn(ops:Array Oper)(anc:Nat->Nat->Bool)(A:List (List (Nat×List Nat))):Bool:=
 A.all λrem=>rem.all λi=> !bO ops i.1||rem.any (λx=>bO ops x.1&&anc i.1 x.1)||
  A.any λalt=>(iD alt i.1).all (λx=> !bO ops x.1)&&Cq (λx y=> !bO ops x.1|| !bO ops y.1||anc y.1 x.1) (cK alt i.1)
def CQ(ops:Array Oper)(anc:Nat->Nat->Bool)(rec:List jg->Bool)(B:List jg):Bool:=
 B.all (·.isEmpty)||(B.all (λb=>match b with| []=>false|x::r=>bO ops x.1&&x.2.all λj=> !tZ j r)&&
  (match B with| []=>true|b0::_=>b0.all λy=> !bO ops y.1||b0.any (λx=>bO ops x.1&&anc y.1 x.1)||(!(m5 y.1 B).isEmpty&&rec (m5 y.1 B))))
def wE(ops:Array Oper)(anc:Nat->Nat->Bool):Nat->List jg->Bool
 |0,_=>false
 |n+1,A=> !A.isEmpty&&(match A with| []=>true|a::_=>A.all λb=>decide (jr ops b=jr ops a))&&CQ ops anc (wE ops anc n) (A.map (gx ops))
def rK(ops:Array Oper)(alts:List (List (Nat×List Nat))):Bool:=
 let A:=(Region.before ops).toList
 DB ops.toList A&& !alts.isEmpty&&alts.all (Al ops (ii A))&&(match Nat.ble 5 alts.length with|true=>wE ops (ii A) (ops.size+1) alts|false=>Dn ops (ii A) alts)
def nv{ops:Array Oper}{anc:Nat->Nat->Bool}: ∀(n:Nat) (A:List jg),wE ops anc n A=true->Ed ops anc n A
 |0,_,h=>by simp[wE]at h
 |n+1,A,h=>by
  unfold wE at h;simp only[Bool.and_eq_true]at h;obtain⟨⟨h1,h2⟩,h3⟩:=h;refine⟨by intro e;subst e;simp at h1,?_,?_⟩
  ·cases A with
   |nil=>intro a ha;simp at ha
   |cons a0 A=>
    simp only[List.all_eq_true,decide_eq_true_eq]at h2;intro a ha b hb;rw[h2 a ha,h2 b hb]
  ·unfold CQ at h3;simp only[Bool.or_eq_true,Bool.and_eq_true,List.all_eq_true]at h3;rcases h3 with h3|⟨h3,h4⟩
   ·exact .inl λb hb=>by simpa using h3 b hb
   ·refine .inr ⟨λb hb=> ?_,λb0 hb0 y hy he hmin=> ?_⟩
    ·have:=h3 b hb;cases b with
     |nil=>simp at this
     |cons x r=>
      simp only[Bool.and_eq_true,List.all_eq_true,Bool.not_eq_true']at this;refine⟨x,r,rfl,this.1,λj hj hm=> ?_⟩;have h5:=this.2 j hj;rw[lF.2 hm]at h5;simp at h5
    ·generalize hB:A.map (gx ops)=B at h4 hb0 ⊢;cases B with
     |nil=>simp at hb0
     |cons b B=>
      simp only[List.head?_cons,Option.mem_some_iff]at hb0;subst hb0;simp only[List.all_eq_true,Bool.or_eq_true,Bool.not_eq_true',List.any_eq_true,Bool.and_eq_true]at h4;obtain⟨z,hz,rfl⟩:=List.mem_map.1 hy;rcases h4 z hz with(h5|⟨x,hx,h5,h6⟩)|⟨h5,h6⟩
      ·rw[he]at h5;simp at h5
      ·rw[hmin x hx h5]at h6;simp at h6
      ·exact⟨by intro e;rw[e]at h5;simp at h5,nv n _ h6⟩
def pK{ops:Array Oper}{A:List Nat}(h:DB ops.toList A=true):te ops (ii A):=by
 have key: ∀j o,ops[j]? =some o->A.getD j 0<2^j/\(∀e∈o.after,Region.binds .any e=true->e.on<j/\ii A j e.on=true)/\
   ∀x,x<j->ii A j x=true-> ∃e∈o.after,Region.binds .any e=true/\(e.on=x\/ii A e.on x=true):=by
  intro j o ho
  have:=List.all_eq_true.1 h (o,j) (by rw[List.mem_iff_getElem?];exact⟨j,by simp[List.getElem?_zipIdx,ho]⟩)
  simp only[Bool.and_eq_true,List.all_eq_true]at this;obtain⟨⟨h1,h2⟩,h3⟩:=this;refine⟨Nat.le_of_ble_eq_true h1,λe he hb=> ?_,λx hx hax=> ?_⟩
  ·have:=h2 e (by simpa using he);simp only[hb,Bool.not_true,Bool.false_or,Bool.and_eq_true]at this;exact⟨Nat.le_of_ble_eq_true this.1,this.2⟩
  ·have:=h3 x (by simpa using hx);simp only[hax,Bool.not_true,Bool.false_or,List.any_eq_true,Bool.and_eq_true,Bool.or_eq_true]at this;obtain⟨e,he,hb,hh⟩:=this;exact⟨e,by simpa using he,hb,hh.imp Nat.eq_of_beq_eq_true id⟩
 refine⟨λj o x ho hx=> ?_,λj o ho e he hb=>(key j o ho).2.1 e he hb⟩;obtain⟨h1,h2,h3⟩:=key j o ho
 have hxj:x<j:=by
  rcases Nat.lt_or_ge x j with hlt|hge
  ·exact hlt
  ·have hp:2^j<=2^x:=Nat.pow_le_pow_right Y hge;have:=Nat.testBit_lt_two_pow (i:=x) (x:=A.getD j 0) Y;unfold ii at hx;rw[this]at hx;simp at hx
 obtain⟨e,he,hb,hh⟩:=h3 x hxj hx;exact⟨e,he,hb,(h2 e he hb).1,hh⟩
def qJ{ops:Array Oper}{anc:Nat->Nat->Bool}{alt:List (Nat×List Nat)}(h:Al ops anc alt=true):
  kU ops anc alt/\jp ops alt (Array.replicate ops.size false)/\oo ops alt/\alt.length<=ops.size:=by
 simp only[Al,Bool.and_eq_true,List.all_eq_true]at h;obtain⟨⟨⟨⟨h1,h2⟩,h3⟩,h4⟩,h5⟩:=h;have h1:=tj h1
 have hall: ∀i,i<ops.size->i∈ids alt:=λi hi=>by have:=h4 i (List.mem_range.2 hi);exact List.contains_iff_mem.1 this
 have hlt: ∀i∈ids alt,i<ops.size:=λi hi=>Nat.le_of_ble_eq_true (h5 i hi)
 have hnd:(ids alt).Nodup:=by rw[List.nodup_iff_pairwise_ne,List.pairwise_map];refine h1.imp λ{x y} hxy e=> ?_;simp[s9,e]at hxy
 refine⟨⟨hnd,h1.imp λ{x y} hxy=> ?_,λx hx he=> ?_,λy hy j hj x hx hne=> ?_,λy hy j hj=> ?_,h1.imp λ{x y} hxy=> ?_⟩,⟨Z,λi hi=> ?_,hlt⟩,λj o ho hj=> ?_,?_⟩
 ·simp only[s9,Bool.and_eq_true]at hxy;exact hxy.1.1
 ·have:=h2 x hx;simpa[he]using this
 ·have:=(h3 y hy j hj).2 x hx;simp only[Bool.or_eq_true]at this;rcases this with((this|this)|this)|this
  ·exact absurd (Nat.eq_of_beq_eq_true this) hne
  ·exact .inl this
  ·exact .inr (.inl this)
  ·exact .inr (.inr this)
 ·have hs:=(h3 y hy j hj).1;unfold zH at hs;split at hs
  ·rename_i o ho;exact⟨o,ho,hs⟩
  ·simp at hs
 ·simp only[s9,Bool.and_eq_true,Bool.not_eq_true']at hxy;exact hxy.1.2
 ·simp[hall i hi,hi]
 ·exact absurd (hall j (Array.getElem?_eq_some_iff.1 ho).1) hj
 ·have:(ids alt).length<=(List.range ops.size).length:=hnd.length_le_of_subset λi hi=>by simpa using hlt i hi
  simpa using this
def vS{ops:Array Oper}{anc:Nat->Nat->Bool}{A:List (List (Nat×List Nat))}(h:Dn ops anc A=true):EL ops anc A:=by
 intro rem hrem i hi he hmin;obtain⟨x,hx,rfl⟩:=List.mem_map.1 hi;have:=List.all_eq_true.1 (List.all_eq_true.1 h rem hrem) x hx;simp only[he,Bool.not_true,Bool.false_or,Bool.or_eq_true,List.any_eq_true,Bool.and_eq_true]at this;rcases this with⟨y,hy,h1,h2⟩|⟨alt,halt,h1,h2⟩
 ·rw[hmin y hy h1]at h2;simp at h2
 ·refine⟨alt,halt,λy hy=> ?_,(tj h2).imp λ{x y} hxy hx hy=> ?_⟩
  ·have:=List.all_eq_true.1 h1 y hy;simpa using this
  ·simpa[hx,hy]using hxy
def ki{P:Program}{X:List (Nat×cJ)}(hX:ue P X){ops:Array Oper}{i:Nat}{o:Oper}{ρ:Fr}{h:aA}{K:Fr->aA->Prop}{κ:FF->aA->Prop}
  (ho:ops[i]? =some o) (hk: ∀ρ h,K ρ h->κ (get ρ) h) (H:mC P X ops o ρ h K):dG P ops i κ (get ρ) h:=by
 have run: ∀ρ':Fr,get ρ'=get ρ->jf ops o (get ρ)->(Ep P X o ρ' h λv h'=>K (put ρ' o.dst v) h')->dG P ops i κ (get ρ) h:=by
  intro ρ' hρ hy H;unfold Ep at H;split at H
  ·rename_i he;refine⟨o,ho,.inr ⟨he,hy,?_⟩⟩;have:=sy hX H;rw[ol,hρ]at this;exact this.mono λv h' hh=>by have:=hk _ _ hh;rwa[lj,hρ]at this
  ·rename_i he;obtain⟨v,hv,hK⟩:=mD H;rw[ol,hρ]at hv;refine⟨o,ho,.inl ⟨v,.inl ⟨hy,hv⟩,λe=>by rw[he]at e;simp at e,?_⟩⟩;have:=hk _ _ hK;rwa[lj,hρ]at this
 have skip: ∀ρ':Fr,get ρ'=get ρ->rU ops o (get ρ)->K (put ρ' o.dst undef) h->dG P ops i κ (get ρ) h:=by intro ρ' hρ hn H;refine⟨o,ho,.inl ⟨undef,.inr ⟨hn,rfl⟩,λ_=>hn,?_⟩⟩;have:=hk _ _ H;rwa[lj,hρ]at this
 unfold mC vR at H;split at H
 ·rename_i hg;exact run ρ rfl (by simp[jf,hg]) H
 ·rename_i j want hg;split at H
  ·exact H.elim
  ·rename_i d hd;split at H
   ·rename_i b hb;have hy:b=want->jf ops o (get ρ):=λe=>by subst e;simp only[jf,hg];exact⟨d,hd,hb⟩
    have hn:b≠want->rU ops o (get ρ):=λe=>by simp only[rU,hg];exact⟨d,_,hd,hb,λh=>e (by simpa using h)⟩
    split at H
    ·rcases dx H with⟨rfl,H⟩|⟨rfl,H⟩
     ·exact run _ (lf hb) (hy rfl) H
     ·exact skip _ (lf hb) (hn Z) H
    ·rcases dx H with⟨rfl,H⟩|⟨rfl,H⟩
     ·exact skip _ (lf hb) (hn Z) H
     ·exact run _ (lf hb) (hy rfl) H
   ·rename_i vs hb;exact skip ρ rfl (by simp only[rU,hg];exact⟨d,_,hd,hb,Z⟩) H
   ·exact H.elim
def nD{P:Program}{ops:Array Oper}{ρ:Fr}{h:aA}{K:Prop}: ∀{js:List Nat},dA P ops ρ h js K->(∀j∈js,dK P ops (get ρ) h j)/\K:=by
 intro js
 induction js with
 |nil=>intro H;exact⟨Z,H⟩
 |cons j js ih=>
  intro H;unfold dA at H;split at H
  ·exact H.elim
  rename_i o ho;split at H
  ·exact H.elim
  rename_i d hd;split at H
  ·exact H.elim
  rename_i v hv
  have yes:jf ops o (get ρ)->(su P o.op ρ h λv'=>v'=v/\dA P ops ρ h js K)->(∀k∈j::js,dK P ops (get ρ) h k)/\K:=by
   intro hy H;obtain⟨u,hu,rfl,hK⟩:=mD H;rw[ol]at hu;have:=ih hK;refine⟨λk hk=> ?_,this.2⟩;rcases List.mem_cons.1 hk with rfl|hk
   ·exact⟨o,d,u,ho,hd,hv,.inl ⟨hy,hu⟩⟩
   ·exact this.1 k hk
  have no:rU ops o (get ρ)->(v=undef/\dA P ops ρ h js K)->(∀k∈j::js,dK P ops (get ρ) h k)/\K:=by
   rintro hn ⟨rfl,hK⟩;have:=ih hK;refine⟨λk hk=> ?_,this.2⟩;rcases List.mem_cons.1 hk with rfl|hk
   ·exact⟨o,d,undef,ho,hd,hv,.inr ⟨hn,rfl⟩⟩
   ·exact this.1 k hk
  split at H
  ·rename_i hg;exact yes (by simp[jf,hg]) H
  ·rename_i i want hg;split at H
   ·exact H.elim
   rename_i g hgd;split at H
   ·rename_i b hb;have hy:b=want->jf ops o (get ρ):=λe=>by subst e;simp only[jf,hg];exact⟨g,hgd,hb⟩
    have hn:b≠want->rU ops o (get ρ):=λe=>by simp only[rU,hg];exact⟨g,_,hgd,hb,λh=>e (by simpa using h)⟩
    split at H
    ·rcases dx H with⟨rfl,H⟩|⟨rfl,H⟩
     ·exact yes (hy rfl) H
     ·exact no (hn Z) H
    ·rcases dx H with⟨rfl,H⟩|⟨rfl,H⟩
     ·exact no (hn Z) H
     ·exact yes (hy rfl) H
   ·rename_i vs hb;exact no (by simp only[rU,hg];exact⟨g,_,hgd,hb,Z⟩) H
   ·exact H.elim
def tq{P:Program}{X:List (Nat×cJ)}(hX:ue P X){ops:Array Oper}{K:Fr->aA->Prop}{κ:FF->aA->Prop}(hk: ∀ρ h,K ρ h->κ (get ρ) h):
  ∀{alt:List (Nat×List Nat)} {ρ:Fr} {h:aA},AM P X ops alt ρ h K->SA P ops κ alt (get ρ) h:=by
 intro alt
 induction alt with
 |nil=>intro ρ h H;exact hk _ _ H
 |cons x alt ih=>
  intro ρ h H;obtain⟨i,js⟩:=x;unfold AM at H;split at H
  ·exact H.elim
  rename_i o ho
  exact ki hX ho (λρ h hh=>by have:=nD hh;exact⟨this.1,ih this.2⟩) H
def vi{P:Program}{X:List (Nat×cJ)}{ops:Array Oper}{K:Fr->aA->Prop}{ρ:Fr}{h:aA}:
  ∀{alts:List (List (Nat×List Nat))},Bz P X ops alts ρ h K-> ∀alt∈alts,AM P X ops alt ρ h K:=by
 intro alts
 induction alts with
 |nil=>intro _ alt ha;simp at ha
 |cons a l ih=>
  intro H alt ha;cases l with
  |nil=>simp only[List.mem_singleton]at ha;subst ha;exact H
  |cons b l=>
   rcases List.mem_cons.1 ha with rfl|ha
   ·exact H.1
   ·exact ih H.2 alt ha
def pU{P:Program}{X:List (Nat×cJ)}{ops:Array Oper}{rec:List jg->Fr->aA->Prop}{A:List jg}{ρ:Fr}{h:aA}:
  ∀{l:jg},Az P X ops rec A l ρ h-> ∀i js,(i,js)∈l->(match ops[i]? with|none=>False|some o=>mC P X ops o ρ h λρ' h'=>dA P ops ρ' h' js (rec (m5 i A) ρ' h'))
 | [],_,i,js,hm=>by simp at hm
 | [x],H,i,js,hm=>by simp only[List.mem_singleton]at hm;subst hm;exact H
 |x::y::l,H,i,js,hm=>by
  rcases List.mem_cons.1 hm with e|hm
  ·subst e;exact H.1
  ·exact pU H.2 i js hm
def tu{P:Program}{X:List (Nat×cJ)}(hX:ue P X){ops:Array Oper}{K:Fr->aA->Prop}{κ:FF->aA->Prop}(hk: ∀ρ h,K ρ h->κ (get ρ) h):
  ∀(n:Nat) (A:List jg) (ρ:Fr) (h:aA),D6 P X ops K n A ρ h->SG P ops κ n A (get ρ) h
 |0,_,_,_,H=>H.elim
 |_+1,[],_,_,H=>H.elim
 |n+1,a::A,ρ,h,H=>by
  unfold D6 at H;unfold SG;refine tq hX (λρ h hh=> ?_) H;unfold CZ;rw[List.map_cons];generalize hp:gx ops a=p at hh;cases p with
  |nil=>exact hk _ _ hh
  |cons x r=>
   dsimp only at hh ⊢;intro i js hm;have:=pU hh i js (by rw[List.map_cons,hp];exact hm);split at this
   ·exact this.elim
   ·rename_i o ho;refine ki hX ho (λρ h hh=> ?_) this;have h2:=nD hh;refine⟨h2.1,?_⟩;have h3:=tu hX hk n _ _ _ h2.2;rw[List.map_cons,hp]at h3;exact h3
def lift(n:Nat)(w0:World)(K:Exit->Fr->aA->Prop):Exit->Act->World->Prop:=λe a w=> ∃ρ h,mX n w0 (get ρ) h a w/\K e ρ h
def tk{L:List Nat}{ρ:Fr}: ∀t v,get (cut L ρ) t=some v->get ρ t=some v:=by
 intro t v
 induction L with
 |nil=>intro h;simp[cut,get]at h
 |cons k L ih=>
  intro h;simp only[cut]at h;split at h
  ·rename_i u hu;simp only[get]at h;split at h
   ·rename_i hb;rw[<-Nat.eq_of_beq_eq_true hb,<-h];exact hu
   ·exact ih h
  ·exact ih h
def mX.weaken{n:Nat}{w0:World}{f g:FF}{h:aA}{a:Act}{w:World}(s:mX n w0 f h a w)(hg: ∀t v,g t=some v->f t=some v):mX n w0 g h a w:=
 ⟨λt v hv=>s.agree t v (hg t v hv),s.defers,s.size,s.same,s.heap⟩
def pQ{q:Option (List Nat)}{ρ:Fr}: ∀t v,get (yS q ρ) t=some v->get ρ t=some v:=by
 intro t v h;unfold yS at h;split at h
 ·exact tk t v h
 ·exact h
def bZ(T:bf)(n:Nat):Code->Bool
 | .region id ops draw=>ops.toList.all (lW n)&&(!draw||(match zm T.alts id with|some ls=>rK ops ls|none=>false))
 | .seq a b=>bZ T n a&&bZ T n b
 | .cond _ a b=>bZ T n a&&bZ T n b
 | .block _ c=>bZ T n c
 | .loop c=>bZ T n c
 |_=>true
def pA{P:Program}{ops:Array Oper}{Q:Exit->Act->World->Prop}{i:Nat}{o:Oper}(ho:ops[i]? =some o)(rest:List Oper)(a:Act)(w:World):
  wpOp P ops Q i (wpList P ops Q rest) a w->wpList P ops Q (o::rest) a w:=by
 intro h;simp only[wpOp,ho]at h;exact h
def uD{P:Program}{X:List (Nat×cJ)}(hX:ue P X){ops:Array Oper}{n:Nat}{w0:World}{K:Exit->Fr->aA->Prop}:
  ∀(l:List Oper) (ρ:Fr) (h:aA) (a:Act) (w:World),(∀o∈l,o∈ops.toList/\lW n o=true)->DX P X ops l ρ h (λρ' h'=>K .normal ρ' h')->mX n w0 (get ρ) h a w->
   wpList P ops (lift n w0 K) l a w:=by
 intro l
 induction l with
 |nil=>intro ρ h a w _ H s;exact wpList_nil ⟨ρ,h,s,H⟩
 |cons o rest ih=>
  intro ρ h a w hl H s;obtain⟨hm,hd⟩:=hl o Z;obtain⟨i,hi⟩:=List.mem_iff_getElem?.1 hm;have hi:ops[i]? =some o:=by simpa using hi
  refine pA hi rest a w ?_
  have st:dG P ops i (λf h=> ∃ρ,get ρ=f/\DX P X ops rest ρ h (λρ' h'=>K .normal ρ' h')) (get ρ) h:=
   ki hX hi (λρ h hh=>⟨ρ,rfl,hh⟩) H
  refine st.wpOp s (λo' ho'=>by rw[hi]at ho';simp only[Option.some.injEq]at ho';subst ho';exact hd) λf' h' a' w' s' ⟨ρ',hρ,hh⟩=> ?_;subst hρ;exact ih ρ' h' a' w' (λo ho=>hl o (by simp[ho])) hh s'
def yv{P:Program}{X:List (Nat×cJ)}{T:bf}{S:aS}(hS: ∀κ ρ h,S κ ρ h->κ ρ h)(hX:ue P X)(hmix:P.follows .mixedOrders=true){n:Nat}:
  ∀(c:Code),bZ T n c=true-> ∀(K:Exit->Fr->aA->Prop) (ρ:Fr) (h:aA),E P X T S c K ρ h-> ∀(a:Act) (w w0:World),mX n w0 (get ρ) h a w->c.wp P (lift n w0 K) a w:=by
 intro c
 induction c with
 |skip=>intro _ K ρ h H a w w0 s;exact wp_skip ⟨ρ,h,s,H⟩
 |region id ops draw=>
  intro hok K ρ h H a w w0 s;simp only[bZ,Bool.and_eq_true,List.all_eq_true]at hok;unfold E at H;split at H
  ·refine wp_region_list (uD hX ops.toList ρ h a w (λo ho=>⟨ho,hok.1 o ho⟩) H s)
  ·split at H
   case h_2=>exact H.elim
   rename_i ls hls;have hal:rK ops ls=true:=by have:=hok.2;simpa[hls]using this
   simp only[rK,Bool.and_eq_true,Bool.not_eq_true',List.all_eq_true]at hal;obtain⟨⟨⟨h1,h2⟩,h3⟩,h4⟩:=hal;refine wp_region_any hmix ?_;have s':mX n w0 (get ρ) h a {w with drawn:=w.drawn+1}:=⟨s.agree,s.defers,s.size,s.same,s.heap⟩;split at h4
   ·rename_i hle;rw[hle]at H;have ho:=nv _ _ h4;have hG:=tu hX (κ:=λf h=> ∃ρ,get ρ=f/\K .normal ρ h) (λρ h hh=>⟨ρ,rfl,hh⟩) _ _ _ _ H;obtain⟨hne,hpe,hob⟩:=ho;cases ls with
    |nil=>exact absurd rfl hne
    |cons a0 ls=>
     refine Dp (K:=λf h=> ∃ρ,get ρ=f/\K .normal ρ h) (pK h1) (λi o ho=>hok.1 o (by have:=Array.mem_of_getElem? ho;simpa using this))
      (λf h a w hs ⟨ρ,hρ,hK⟩=>⟨ρ,h,by rw[hρ];exact hs,hK⟩) ops.size ops.size (jr ops a0) ((a0::ls).map (gx ops)) _ (get ρ) h a _ Z (oW a0) (λb hb=> ?_) hob hG s'
     obtain⟨c,hc,rfl⟩:=List.mem_map.1 hb;rw[hpe a0 Z c hc,mv];exact qJ (h3 c hc)
   rename_i hle;rw[hle]at H
   refine Eg (K:=λf h=> ∃ρ,get ρ=f/\K .normal ρ h) (pK h1) (λi o ho=>hok.1 o (by have:=Array.mem_of_getElem? ho;simpa using this))
    (λf h a w hs ⟨ρ,hρ,hK⟩=>⟨ρ,h,by rw[hρ];exact hs,hK⟩) ops.size ls _ (get ρ) h a _ (by intro e;rw[e]at h2;simp at h2) (λrem hrem=> ?_) (vS h4) s'
   obtain⟨g,hC,hD,hl⟩:=qJ (h3 rem hrem);exact⟨g,hC,hD,hl,tq hX (λρ h hh=>⟨ρ,rfl,hh⟩) (vi H rem hrem)⟩
 |seq x y ihx ihy=>
  intro hok K ρ h H a w w0 s;simp only[bZ,Bool.and_eq_true]at hok;refine wp_seq (wp_mono (ihx hok.1 _ ρ h H a w w0 s) λe a' w' hh=> ?_);obtain⟨ρ',h',s',hK⟩:=hh;cases e with
  |normal=>
   simp only[dM]at hK;split at hK
   ·exact ihy hok.2 K _ h' (hS _ _ _ hK) a' w' w0 (s'.weaken tk)
   ·exact ihy hok.2 K _ h' hK a' w' w0 s'
  |_=>exact⟨ρ',h',s',hK⟩
 |cond c x y ihx ihy=>
  intro hok K ρ h H a w w0 s;simp only[bZ,Bool.and_eq_true]at hok;unfold E at H;split at H
  case h_2=>exact H.elim
  rename_i t ht
  have hc:a.eval c= .bool t:=by rw[ol]at ht;exact g7 s.agree #[c] c Z _ ht
  refine wp_cond hc ?_;rcases dx H with⟨rfl,H⟩|⟨rfl,H⟩
  ·exact ihx hok.1 K ρ h H a w w0 s
  ·exact ihy hok.2 K ρ h H a w w0 s
 |block id c ih=>
  intro hok K ρ h H a w w0 s;refine wp_block (wp_mono (ih hok _ ρ h H a w w0 s) λe a' w' hh=> ?_);obtain⟨ρ',h',s',hK⟩:=hh;cases e with
  |exit i=>
   simp only[Exit.inBlock];by_cases e:i=id
   ·subst e;simp only[br,Nat.beq_refl]at hK;rw[if_pos rfl];exact⟨ρ',h',s',hK⟩
   ·have hb:Nat.beq i id=false:=by
     cases hb:Nat.beq i id with
     |false=>rfl
     |true=>exact absurd (Nat.eq_of_beq_eq_true hb) e
    simp only[br,hb]at hK;rw[if_neg e];exact⟨ρ',h',s',hK⟩
  |_=>exact⟨ρ',h',s',hK⟩
 |loop c ih=>
  intro hok K ρ h H a w w0 s;obtain⟨m,H⟩:=H;refine wp_loop_rounds m ?_
  have key: ∀(m:Nat) (ρ:Fr) (h:aA) (a:Act) (w:World),fQ S (E P X T S c) (bJ T c) K m ρ h->mX n w0 (get ρ) h a w->Code.rounds P c (lift n w0 K) m a w:=by
   intro m
   induction m with
   |zero=>intro ρ h a w H _;exact H.elim
   |succ m ihm=>
    intro ρ h a w H s;rw[rounds_succ];refine wp_mono (ih hok _ ρ h H a w w0 s) λe a' w' hh=> ?_;obtain⟨ρ',h',s',hK⟩:=hh;cases e with
    |normal=>exact ihm _ h' a' w' (hS _ _ _ hK) (s'.weaken pQ)
    |_=>exact⟨ρ',h',s',hK⟩
  exact key m _ h a w (hS _ _ _ H) (s.weaken pQ)
 |exit id=>intro _ K ρ h H a w w0 s;exact wp_exit ⟨ρ,h,s,H⟩
 |ret=>intro _ K ρ h H a w w0 s;exact wp_ret ⟨ρ,h,s,H⟩
 |label l=>intro _ K ρ h H a w w0 s;exact wp_label ⟨ρ,h,s,H⟩
 |rangeFunc=>intro _ K ρ h H;exact H.elim
 |scope=>intro _ K ρ h H;exact H.elim
 |goto=>intro _ K ρ h H;exact H.elim
 |refuse=>intro _ K ρ h H;exact H.elim
def rv(a:Act):ResultVar->Sem Value
 | .tmp t=>pure (a.tmps.getD t undef)
 | .cell x t=>do loadVar t (<-asAddr (a.tmps.getD x undef))
def sj(fn:Func)(a:Act):results fn a.tmps=(do let vs <-fn.results.mapM (rv a);pure (if h:vs.size=1 then vs[0]else .tuple vs)):=by
 unfold results
 congr 1
def sI{P:Program}{n:Nat}{w0:World}{f:FF}{a:Act}{w:World}: ∀{rs:List ResultVar} {ρ:Fr} {h:aA} {κ:List Value->Prop},so P rs ρ h κ->mX n w0 f h a w->get ρ=f->
  ∃vs,κ vs/\(rs.mapM (rv a)).run P w= .ok vs w:=by
 intro rs
 induction rs with
 |nil=>intro ρ h κ H s hρ;exact⟨[],H,Z⟩
 |cons r rs ih=>
  intro ρ h κ H s hρ;cases r with
  |tmp t=>
   obtain⟨v,hv,H⟩:=aO H;obtain⟨vs,hK,hr⟩:=ih H s hρ;refine⟨v::vs,hK,?_⟩;have:=s.agree t v (by rw[<-hρ];exact hv);simp only[List.mapM_cons,rv,Sem.run_bind,Sem.run_pure,Result.andThen_ok,hr,this]
  |cell x t=>
   simp only[so]at H;split at H
   case h_2=>exact H.elim
   rename_i p hp;obtain⟨v,hK1,hload⟩:=kJ H;obtain⟨vs,hK,hr⟩:=ih hK1 s hρ;refine⟨v::vs,hK,?_⟩;have hx:=s.agree x _ (by rw[<-hρ];exact hp);have hl:=hload w s.heap;cases p with
   |none=>simp[pO]at H;split at H<;>(try split at H)<;>(try split at H)<;>(try split at H)<;>(try split at H)<;>first|exact H.elim|skip
   |some b=>
    have hl':(loadVar t b).run P w= .ok v w:=by simpa[Instr.loadAt,Instr.sureAddr]using hl
    have ha:(asAddr (.pointer (some b))).run P w= .ok b w:=rfl;simp only[List.mapM_cons,rv,Sem.run_bind,hx,ha,Result.andThen_ok,hl',hr,Sem.run_pure]
def cf{P:Program}{X:List (Nat×cJ)}{T:bf}{f:FuncId}{fn:Func}{c:Code}{args:List Value}{h:aA}{K:Value->aA->Prop}(hX:ue P X)(hmix:P.follows .mixedOrders=true)
  (hf:P.funcs[f]? =some fn) (hb:fn.body=some c) (hok:bZ T fn.ntmps c=true) (hsz:Nat.ble args.length fn.ntmps=true)
  (H:E P X T S0 c (fin P fn.results.toList K) (cx 0 args) h):fH P f args h K:=by
 intro w hw;have hsz:=Nat.le_of_ble_eq_true hsz;refine calls_of_wp hf hb ?_
 have hag: ∀(l:List Value) (i:Nat) (t:Nat) (v:Value),get (cx i l) t=some v->i<=t/\l[t-i]? =some v:=by
  intro l
  induction l with
  |nil=>intro i t v h;simp[cx,get]at h
  |cons u l ih=>
   intro i t v h;simp only[cx,get]at h;split at h
   ·rename_i hb;have:=Nat.eq_of_beq_eq_true hb;subst this;simp at h;subst h;simp
   ·rename_i hb;have:=ih (i+1) t v h;have e:t-i=(t-(i+1))+1:=Y;exact⟨Y,by rw[e];simpa using this.2⟩
 have s:mX fn.ntmps w (get (cx 0 args)) h {tmps:=args.toArray++Array.replicate (fn.ntmps-args.toArray.size) undef,defers:=[]} w:=by
  refine⟨λt v hv=> ?_,rfl,by simp;omega,bN.refl w,hw⟩;have:=(hag args 0 t v hv).2
  have hlt:t<args.length:=by have:=List.getElem?_eq_some_iff.1 this;simpa using this.1
  simp only[Nat.sub_zero]at this
  have e:(args.toArray++Array.replicate (fn.ntmps-args.toArray.size) undef)[t]? =some v:=by rw[Array.getElem?_append_left (by simpa using hlt)];simpa using this
  have e2:args.toArray.size=args.length:=rfl;rw[e2]at e;simp[e]
 refine wp_mono (yv (S:=S0) (λ_ _ _ h=>h) hX hmix c hok _ _ h H _ w w s) λe a w' hh=> ?_;obtain⟨ρ,h',s',hK⟩:=hh
 have fin': ∀{rs:List ResultVar},fn.results.toList=rs->so P rs ρ h' (λvs=>(match vs with| [v]=>K v h'|vs=>K (.tuple vs.toArray) h'))->
   a.defers=[]/\ ∃v,(results fn a.tmps).run P w'= .ok v w'/\ ∃u,Ending.returned v= .returned u/\bN w w'/\K u w'.heap:=by
  rintro rs rfl hR;obtain⟨vs,hKv,hr⟩:=sI hR s' rfl;refine⟨s'.defers,(if hh:vs.toArray.size=1 then vs.toArray[0]else .tuple vs.toArray),?_,_,rfl,s'.same,?_⟩
  ·rw[sj,Array.mapM_eq_mapM_toList];simp only[Sem.run_bind,Sem.run_map,hr,Result.andThen_ok,Sem.run_pure]
  ·rw[s'.heap]
   match vs,hKv with
   | [],hKv=>exact hKv
   | [v],hKv=>exact hKv
   |u::v::r,hKv=>simpa using hKv
 cases e with
 |normal=>exact fin' rfl hK
 |ret=>exact fin' rfl hK
 |_=>exact hK.elim
def cE{P:Program}{X:List (Nat×cJ)}{f:FuncId}{fn:Func}{args:List Value}{h:aA}{K:Value->aA->Prop}{W:Prop}(hX:ue P X)(hmix:P.follows .mixedOrders=true)
  (hf:P.funcs[f]? =some fn) (hb:fn.body=some (fn.body.getD .skip)) (hok:bZ ⟨[],[]⟩ fn.ntmps (fn.body.getD .skip)=true) (hsz:Nat.ble args.length fn.ntmps=true)
  (e:E P X ⟨[],[]⟩ S0 (fn.body.getD .skip) (fin P fn.results.toList K) (cx 0 args) h=W) (H:W):fH P f args h K:=
 cf (T:=⟨[],[]⟩) hX hmix hf hb hok hsz (by rw[e];exact H)
end
section
noncomputable def gX(l:List Nat):List (Nat×cJ):=List.rec (motive:=λ_=>List (Nat×cJ)) [] (λa _ r=>(a,.go)::r) l
noncomputable def gB(P:Program):List Nat->Bool
 | []=>true
 |a::r=>(match P.funcs[a]? with|some f=> !(f.name== "runtime.NumGoroutine")&& !f.body.isNone|none=>false)&&gB P r
def zK{P:Program}: ∀l,gB P l=true->vU P (gX l)
 | [],_=>yX
 |a::r,h=>by
  unfold gB at h;rw[Bool.and_eq_true]at h;have h1:=h.1;split at h1
  ·rename_i f e;rw[Bool.and_eq_true,Bool.not_eq_true',Bool.not_eq_true']at h1;exact gL ⟨f,e,h1.1,h1.2⟩ (zK r h.2)
  ·exact Bool.noConfusion h1
set_option maxRecDepth 100000 in
noncomputable def X:List (Nat×cJ):=(248,.load .u64)::(249,.cas .u64)::(250,.add .i64)::(337,.store)::gX [14,18,22,23,24,26,27,28,29,33,34,35,36,38,39,40,42,43,45,47,48,53,54,56,58,59,61,67,68,70,71,72,73,74,75,76,77,78,79,80,81,82,83,86,87,88,89,90,91,92,93,94,95,99,104,108,109,110,111,113,114,117,118,119,120,121,122,123,124,125,126,127,128,129,130,131,132,133,134,135,136,137,138,139,140,141,142,143,145,146,159,160,161,162,163,165,166,167,168,172,173,174,175,176,177,178,179,180,181,182,186,193,194,195,197,198,199,200,201,202,203,204,205,207,208,209,210,213,214,215,216,217,218,219,220,221,223,224,225,226,227,228,229,230,239,240,241,242,243,244,245,246,247,252,258,259,260,261,262,263,264,265,266,267,268,269,270,273,274,275,276,282,283,284,285,286,287,292,293,294,295,296,297,298,299,300,301,302,304,305,306,307,308,313,314,315,316,317,318,319,320,321,323,324,325,326,327,328,329,330,331,332,333,334,335,336,338,343,344,345,346,347,348,352,353,354,355,356,366,368]
def EE:jB Tryz.prog 248 (.load .u64):=⟨Tryz.f248,Tryz.func248,by kernel_rfl,by kernel_rfl,by kernel_rfl,by kernel_rfl⟩
def Es:jB Tryz.prog 249 (.cas .u64):=⟨Tryz.f249,Tryz.func249,by kernel_rfl,by kernel_rfl,by kernel_rfl,by kernel_rfl⟩
def EA:jB Tryz.prog 250 (.add .i64):=⟨Tryz.f250,Tryz.func250,by kernel_rfl,by kernel_rfl,by kernel_rfl,by kernel_rfl⟩
def EI:jB Tryz.prog 337 (.store):=⟨Tryz.f337,Tryz.func337,by kernel_rfl,by kernel_rfl,by kernel_rfl,by kernel_rfl⟩
set_option maxRecDepth 100000 in
def xK:ue Tryz.prog X:=sP (gL EE<|gL Es<|gL EA<|gL EI<|zK _ (by kernel_rfl))
def xJ:Tryz.prog.follows .mixedOrders=true:=by kernel_rfl
abbrev Cl:=fH Tryz.prog
def Lq(n:Nat)(ρ:Fr)(h:aA)(T:bf):Code->List Nat->XK->Prop
 | .loop c,[],K=>fQ S0 (E Tryz.prog X T S0 c) (bJ T c) K n ρ h
 | .seq a b,0::p,K=>Lq n ρ h T a p (dM S0 (bJ T b) (E Tryz.prog X T S0 b K) K)
 | .seq _ b,1::p,K=>Lq n ρ h T b p K
 | .cond _ a _,0::p,K=>Lq n ρ h T a p K
 | .cond _ _ b,1::p,K=>Lq n ρ h T b p K
 | .block i c,0::p,K=>Lq n ρ h T c p (br i K)
 |_,_,_=>False
@[irreducible] def Lp (f:Func) (T:bf) (p:List Nat) (n:Nat) (ρ:Fr) (h:aA) (K:KK):Prop:=Lq n ρ h T (f.body.getD .skip) p (fin Tryz.prog f.results.toList K)
def cT{f:FuncId}{fn:Func}{args:List Value}{h:aA}{K:KK}{W:Prop}(T:bf)(hf:Tryz.prog.funcs[f]? =some fn)(H:W)(hb:fn.body=some (fn.body.getD .skip):=by kernel_rfl)(hok:bZ T fn.ntmps (fn.body.getD .skip)=true:=by kernel_rfl)(hsz:Nat.ble args.length fn.ntmps=true:=by kernel_rfl)(e:E Tryz.prog X T S0 (fn.body.getD .skip) (fin Tryz.prog fn.results.toList K) (cx 0 args) h=W:=by kernel_rfl):Cl f args h K:=
 cf (T:=T) xK xJ hf hb hok hsz (by rw[e];exact H)
def cN{f:FuncId}{fn:Func}{args:List Value}{h:aA}{K:KK}{W:Prop}(hf:Tryz.prog.funcs[f]? =some fn)(H:W)(hb:fn.body=some (fn.body.getD .skip):=by kernel_rfl)(hok:bZ ⟨[],[]⟩ fn.ntmps (fn.body.getD .skip)=true:=by kernel_rfl)(hsz:Nat.ble args.length fn.ntmps=true:=by kernel_rfl)(e:E Tryz.prog X ⟨[],[]⟩ S0 (fn.body.getD .skip) (fin Tryz.prog fn.results.toList K) (cx 0 args) h=W:=by kernel_rfl):Cl f args h K:=cT ⟨[],[]⟩ hf H hb hok hsz e
end
section
variable {i j k l m n o p q r s t:Int}{a b c d:Addr}{u v:Nat}{x y:ak}{h:aA}{K:KK}
def F61.T:bf:=⟨[(5,[0,1])],[]⟩
section
variable (a b:Int)(h:aA)(K:KK)
def F61.wk5:Prop:=Cl 108 [ac a] h λa c=>bi (some a) λa=>aZ c (.cells #[ac b,ap a,.slice none 0 0,.slice none 0 0,ap none,.map none,ap none,aq] 185) λa b=>Cl 110 [ac 256] b λb c=>aI .i64 (some b) λb=>Cl 89 [ac b] c λb c=>bi (some b) λb=>Cl 109 [ap b,ac 0,ac 256] c λb c=> ∃d:ak,∃e:Int,b=(.tuple #[ap d,ac e])/\aP c (((ah a).add 6).add 0) (ap d) λb=>Cl 111 [ag (ah a),ac 32,.slice none 0 0] b λb c=>b=ax/\K (.tuple #[ag (ah a),ac 0]) c
end
def F61.spec(H:aC (i<1) (K (.tuple #[ap none,ac 40]) h) (aC (i>8) (K (.tuple #[ap none,ac 40]) h) (aC (j<1) (K (.tuple #[ap none,ac 60]) h) (aC (j>32768) (K (.tuple #[ap none,ac 60]) h) (F61.wk5 i j h K))))):Cl 61 [ac i,ac j] h K:=cT F61.T Tryz.func61 H
def F74.spec(H:aC (i<=1) (K au h) (Cl 117 [ag a,ae i] h λa b=>bi (some a) λa=>K (aw (!(Option.isNone a))) b)):Cl 74 [ag a,ae i] h K:=cN Tryz.func74 H
def F117.spec(H:aC (i<2) (K (ap none) h) (cW (rd h (a.add 2)) λ_ b _=>aC ((ai ((ai i)-2))>=(b:Int)) (K (ap none) h) (cW (rd h (a.add 2)) λb c _=>aN b λb=>0<=(IntKind.wrap .u32 (i-2))/\(IntKind.wrap .u32 (i-2))<(c:Int)/\bA (rd h ((b.add ((IntKind.wrap .u32 (i-2)).toNat*4)).add 0)) λb=>aC (!b) (K (ap none) h) (cW (rd h (a.add 2)) λa b _=>aN a λa=>0<=(IntKind.wrap .u32 (i-2))/\(IntKind.wrap .u32 (i-2))<(b:Int)/\K (ag (a.add ((IntKind.wrap .u32 (i-2)).toNat*4))) h)))):Cl 117 [ag a,ae i] h K:=cN Tryz.func117 H
def F71.spec(H:aC (i<=1) (Cl 75 [ag a] h λa b=>aI .i64 (some a) λa=>K (ac a) b) (Cl 117 [ag a,ae i] h λa b=>bi (some a) λa=>aC (!(Option.isNone a)) (aN a λa=>aI .i64 (rd b (a.add 1)) λa=>K (ac a) b) (K (ac (-1)) b))):Cl 71 [ag a,ae i] h K:=cN Tryz.func71 H
def F72.spec(H:Cl 117 [ag a,ae i] h λb c=>bi (some b) λb=>aC (!(Option.isNone b)) (aN b λa=>aI .u32 (rd c (a.add 2)) λa=>K (ae a) c) (Cl 118 [ag a,ae i] c λa b=>aI .i64 (some a) λa=>K (ae (aY .and .u32 i (IntKind.wrap .u32 a))) b)):Cl 72 [ag a,ae i] h K:=cN Tryz.func72 H
def F73.spec(H:Cl 117 [ag a,ae i] h λb c=>bi (some b) λb=>aC (!(Option.isNone b)) (aN b λa=>aI .u32 (rd c (a.add 3)) λa=>K (ae a) c) (Cl 118 [ag a,ae i] c λa b=>aI .i64 (some a) λa=>K (ae (aY .and .u32 i (IntKind.wrap .u32 a))) b)):Cl 73 [ag a,ae i] h K:=cN Tryz.func73 H
def F199.T:bf:=⟨[(3,[0,1,6,14,15])],[]⟩
section
variable (n:Nat)(c:Addr)(d f b a:Int)(h:aA)(K:KK)
def F199.wL3:Prop:=Lp Tryz.f199 F199.T [1,1,0,1,0] n [(0,(ag c)),(1,(af d)),(6,(ac f)),(14,(ac b)),(15,(ac a))] h K
def F199.sL3:F199.wL3 (n+1) c d f b a h K=(aC (a<b) (Cl 246 [af d,ac f] h λe g=>aI .i64 (some e) λe=>f≠0/\bi (rd g (c.add 4)) λi=>Cl 247 [ap i,ac (Int.tmod (ai (e+a)) f)] g λg i=>aI .u64 (some g) λg=>aC (g==d) (nT (rd i (c.add 5)) λb=>dW i b .i64 .i64 (Int.tmod (ai (e+a)) f) λa=>aI .u32 (some (lS (ae 0) a)) λa=>K (.tuple #[ae a,au]) i) (aC (g==0) (K (.tuple #[ae 0,aq]) i) (F199.wL3 n c d f b (ai (a+1)) i K))) (K (.tuple #[ae 0,aq]) h)):=by kernel_rfl
def F199.wk3:Prop:=(∃e,F199.wL3 e c d f b a h K)
def F199.spec(H:bi (rd h (c.add 4)) λa=>Cl 200 [ap a] h λa b=>aI .i64 (some a) λa=>F199.wk3 c d a a 0 b K):Cl 199 [ag c,af d] h K:=cT F199.T Tryz.func199 H
end
def F197.T:bf:=⟨[(3,[6,7]),(4,[6])],[]⟩
section
variable (n:Nat)(c:Addr)(d:Int)(a:ak)(b:Value)(h:aA)(K:KK)
def F197.wk4:Prop:=Cl 243 [ap a] h λb c=> ∃d:Int,∃e:Int,b=(.tuple #[ac d,ac e])/\Cl 244 [ap a] c λa b=>bA (some a) λa=>K (.tuple #[ac d,aw a]) b
def F197.wL3:Prop:=Lp Tryz.f197 F197.T [1,1,0,1,0] n [(6,(ap a)),(7,b)] h K
def F197.sL3:F197.wL3 (n+1) a b h K=(gn Tryz.prog X b [] h λc d=>bA (some c) λc=>aC (!c) (F197.wL3 n a b d K) (F197.wk4 a d K)):=by kernel_rfl
def F197.wk3:Prop:=(∃c,F197.wL3 c a b h K)
def F197.spec(H:bi (rd h (c.add 4)) λa=>Cl 241 [ap a,af d] h λa b=>bi (some a) λa=>F197.wk3 a (.func (.func 242) #[ap a] #[]) b K):Cl 197 [ag c,af d] h K:=cT F197.T Tryz.func197 H
end
def F160.spec(f:Addr)(g:Int)(a:Bool)(b c d:Int)(h:aA)(K:KK)(H:aZ h (.cells #[aw a,ac b,ae c,ae d] 195) λa b=>aI .i64 (rd b ((ah a).add 1)) λc=>aI .u32 (rd b ((ah a).add 2)) λd=>aI .u32 (rd b ((ah a).add 3)) λa=>Cl 198 [ac c,ae d,ae a] b λa b=>aI .u64 (some a) λa=>Cl 197 [ag f,af a] b λa b=> ∃c:Int,∃d:Bool,a=(.tuple #[ac c,aw d])/\nT (rd b (f.add 5)) λa=>qv b a .i64 .i64 c (ae g) λa=>K ax a):Cl 160 [ag f,ae g,.agg #[aw a,ac b,ae c,ae d]] h K:=cN Tryz.func160 H
def F111.T:bf:=⟨[(4,[0,6,29,30,31]),(8,[0,6]),(9,[0,6,42,43,44])],[]⟩
section
variable (n:Nat)(f:Addr)(v:Int)(u:ak)(s t:Nat)(q:Option Nat)(i:ak)(g o:Nat)(r j:Int)(c:ak)(b d:Nat)(l a:Int)(h:aA)(K:KK)
def F111.wL9:Prop:=Lp Tryz.f111 F111.T [1,1,1,1,1,0] n [(0,(ag f)),(6,(.map q)),(42,(.slice c b d)),(43,(ac l)),(44,(ac a))] h K
def F111.sL9:F111.wL9 (n+1) f q c b d l a h K=(aC (a<l) (aN c λe=>0<=a/\a<(b:Int)/\bA (rd h ((e.add (a.toNat*4)).add 0)) λg=>aI .i64 (rd h ((e.add (a.toNat*4)).add 1)) λi=>aI .u32 (rd h ((e.add (a.toNat*4)).add 2)) λj=>aI .u32 (rd h ((e.add (a.toNat*4)).add 3)) λe=>aZ h (.cells #[aq,ac 0,ae 0,ae 0] 195) λk m=>aP m ((ah k).add 0) (aw g) λg=>aP g ((ah k).add 1) (ac i) λg=>aP g ((ah k).add 2) (ae j) λg=>aP g ((ah k).add 3) (ae e) λe=>dW e q .u32 .u32 (IntKind.wrap .u32 (ai (a+2))) λg=>qW (some (lS (.agg #[]) g)) λi=>aZ e (.cells #[] 218) λe j=>ff Tryz.prog 218 (some (ah e)) i j λe=>bA (rd e ((ah k).add 0)) λi=>aC i (aC (!(Option.isSome g)) (bA (rd e ((ah k).add 0)) λg=>aI .i64 (rd e ((ah k).add 1)) λi=>aI .u32 (rd e ((ah k).add 2)) λj=>aI .u32 (rd e ((ah k).add 3)) λk=>Cl 160 [ag f,ae (IntKind.wrap .u32 (ai (a+2))),.agg #[aw g,ac i,ae j,ae k]] e λe g=>e=ax/\F111.wL9 n f q c b d l (ai (a+1)) g K) (F111.wL9 n f q c b d l (ai (a+1)) e K)) (F111.wL9 n f q c b d l (ai (a+1)) e K)) (K ax h)):=by kernel_rfl
def F111.wk9:Prop:=(∃e,F111.wL9 e f q c b d l a h K)
def F111.wk8:Prop:=cW (rd h (f.add 2)) λa b c=>F111.wk9 f q a b c (b:Int) 0 h K
def F111.wL4:Prop:=Lp Tryz.f111 F111.T [1,1,1,0,1,0] n [(0,(ag f)),(6,(.map q)),(29,(.slice i g o)),(30,(ac r)),(31,(ac j))] h K
def F111.sL4:F111.wL4 (n+1) f q i g o r j h K=(aC (j<r) (aN i λa=>0<=j/\j<(g:Int)/\aI .u32 (rd h (a.add (j.toNat*1))) λa=>qv h q .u32 .u32 a (.agg #[]) λa=>F111.wL4 n f q i g o r (ai (j+1)) a K) (F111.wk8 f q h K)):=by kernel_rfl
def F111.wk4:Prop:=(∃a,F111.wL4 a f q i g o r j h K)
def F111.spec(H:Cl 89 [ac v] h λa b=>bi (some a) λa=>Cl 159 [ap a,ac 0,ac v] b λa b=> ∃c:ak,∃d:Int,a=(.tuple #[ap c,ac d])/\aP b ((f.add 4).add 0) (ap c) λa=>aZ a (.map #[] 0) λa b=>aP b ((f.add 5).add 0) (.map (some a)) λa=>aZ a (.map #[] 0) λa b=>F111.wk4 f (some a) u s t (s:Int) 0 b K):Cl 111 [ag f,ac v,.slice u s t] h K:=cT F111.T Tryz.func111 H
end
def F161.T:bf:=⟨[(9,[0,1,2,3]),(17,[0,1,2,3])],[(13,[[(0,[]),(2,[]),(3,[]),(4,[]),(5,[]),(1,[2,3,4,5]),(6,[])]]),(15,[[(0,[]),(4,[]),(5,[]),(6,[]),(7,[]),(1,[4,5,6,7]),(2,[]),(3,[]),(8,[2,3]),(9,[])]])]⟩
section
variable (a:Addr)(b c d:Int)(h:aA)(K:KK)
def F161.wk17:Prop:=Cl 201 [ag a] h λe f=>aI .u32 (some e) λe=>cW (rd f (a.add 2)) λg i _=>aN g λg=>0<=(IntKind.wrap .u32 (e-2))/\(IntKind.wrap .u32 (e-2))<(i:Int)/\aP f ((g.add ((IntKind.wrap .u32 (e-2)).toNat*4)).add 0) au λf=>aP f ((g.add ((IntKind.wrap .u32 (e-2)).toNat*4)).add 1) (ac b) λb=>aP b ((g.add ((IntKind.wrap .u32 (e-2)).toNat*4)).add 2) (ae c) λb=>aP b ((g.add ((IntKind.wrap .u32 (e-2)).toNat*4)).add 3) (ae d) λb=>cW (rd b (a.add 2)) λc d _=>aN c λc=>0<=(IntKind.wrap .u32 (e-2))/\(IntKind.wrap .u32 (e-2))<(d:Int)/\bA (rd b ((c.add ((IntKind.wrap .u32 (e-2)).toNat*4)).add 0)) λd=>aI .i64 (rd b ((c.add ((IntKind.wrap .u32 (e-2)).toNat*4)).add 1)) λf=>aI .u32 (rd b ((c.add ((IntKind.wrap .u32 (e-2)).toNat*4)).add 2)) λg=>aI .u32 (rd b ((c.add ((IntKind.wrap .u32 (e-2)).toNat*4)).add 3)) λc=>Cl 160 [ag a,ae e,.agg #[aw d,ac f,ae g,ae c]] b λa b=>a=ax/\K (.tuple #[ae e,ac 0]) b
def F161.wk9:Prop:=Cl 198 [ac b,ae c,ae d] h λe f=>aI .u64 (some e) λe=>Cl 199 [ag a,af e] f λe f=> ∃g:Int,∃i:Bool,e=(.tuple #[ae g,aw i])/\aC i (K (.tuple #[ae g,ac 0]) f) (aI .i64 (rd f (a.add 0)) λe=>Cl 45 [ag a] f λf g=>aI .i64 (some f) λf=>ay (ag a)/\ay (ag a)/\ay (ag (a.add 0))/\aI .i64 (rd g (a.add 0)) λi=>az (ac i) (ac e)/\aC (f>=e) (K (.tuple #[ae 0,ac 60]) g) (bi (rd g (a.add 4)) λe=>Cl 45 [ag a] g λf g=>aI .i64 (some f) λf=>ay (ag a)/\ay (ag a)/\ay (ag (a.add 4))/\bi (rd g (a.add 4)) λi=>az (ap i) (ap e)/\Cl 200 [ap e] g λe g=>aI .i64 (some e) λe=>ay (ac (ai (f+1)))/\ay (ac (ai (2*(ai (f+1)))))/\aC ((ai (2*(ai (f+1))))>e) (bi (rd g (a.add 4)) λe=>Cl 200 [ap e] g λe f=>aI .i64 (some e) λe=>Cl 111 [ag a,ac (ai (2*e)),.slice none 0 0] f λe f=>e=ax/\F161.wk17 a b c d f K) (F161.wk17 a b c d g K)))
end
def F161.spec(H:aC (i<0) (K (.tuple #[ae 0,ac 40]) h) (Cl 75 [ag a] h λb c=>aI .i64 (some b) λb=>aC (i>=b) (K (.tuple #[ae 0,ac 40]) c) (Cl 74 [ag a,ae j] c λb c=>bA (some b) λb=>aC (!b) (K (.tuple #[ae 0,ac 101]) c) (Cl 74 [ag a,ae k] c λb c=>bA (some b) λb=>aC (!b) (K (.tuple #[ae 0,ac 101]) c) (Cl 71 [ag a,ae j] c λb c=>aI .i64 (some b) λb=>aC (b<=i) (K (.tuple #[ae 0,ac 100]) c) (Cl 71 [ag a,ae k] c λb c=>aI .i64 (some b) λb=>aC (b<=i) (K (.tuple #[ae 0,ac 100]) c) (aC (j==k) (K (.tuple #[ae j,ac 0]) c) (F161.wk9 a i j k c K)))))))):Cl 161 [ag a,ac i,ae j,ae k] h K:=cT F161.T Tryz.func161 H
def F45.T:bf:=⟨[],[(1,[[(0,[]),(1,[]),(2,[]),(3,[]),(4,[]),(5,[]),(6,[]),(7,[]),(8,[]),(9,[]),(10,[]),(11,[])]])]⟩
def F45.spec(H:cW (rd h (a.add 2)) λ_ b _=>cW (rd h (a.add 3)) λ_ a _=>K (ac (ai ((b:Int)-(a:Int)))) h):Cl 45 [ag a] h K:=cT F45.T Tryz.func45 H
def F201.spec(H:cW (rd h (a.add 3)) λ_ b _=>aC ((b:Int)>(0:Int)) (cW (rd h (a.add 3)) λc d _=>aN c λc=>0<=(ai ((b:Int)-(1:Int)))/\(ai ((b:Int)-(1:Int)))<(d:Int)/\aI .u32 (rd h (c.add ((ai ((b:Int)-(1:Int))).toNat*1))) λc=>cW (rd h (a.add 3)) λd _ e=>0<=(ai ((b:Int)-(1:Int)))/\(ai ((b:Int)-(1:Int)))<=(e:Int)/\aP h ((a.add 3).add 0) (.slice (if e=0 then d else Option.map (λa=>Addr.add a (0*1)) d) ((ai ((b:Int)-(1:Int))).toNat-0) (e-0)) λa=>K (ae c) a) (cW (rd h (a.add 2)) λb c d=>aZ h (.cells #[aq,ac 0,ae 0,ae 0] 195) λe f=>fA f 195 4 24 #[aq,ac 0,ae 0,ae 0] b c d (some (ah e)) 1 λb c d e=>aP e ((a.add 2).add 0) (.slice b c d) λb=>cW (rd b (a.add 2)) λ_ a _=>K (ae (IntKind.wrap .u32 (ai ((ai ((a:Int)-(1:Int)))+2)))) b)):Cl 201 [ag a] h K:=cN Tryz.func201 H
def F75.spec(H:bi (rd h (a.add 1)) λa=>Cl 119 [ap a] h λa b=>aI .i64 (some a) λa=>K (ac a) b):Cl 75 [ag a] h K:=cN Tryz.func75 H
def F47.spec(H:bi (rd h (a.add 1)) λa=>Cl 104 [ap a] h λa b=>bi (some a) λa=>K (ap a) b):Cl 47 [ag a] h K:=cN Tryz.func47 H
def F198.spec(H:Cl 245 [.int .u8 (IntKind.wrap .u8 i),ae j,ae k] h λa b=>aI .u64 (some a) λa=>K (af a) b):Cl 198 [ac i,ae j,ae k] h K:=cN Tryz.func198 H
def F118.spec(H:aC (i<=1) (K (ac 1) h) (K (ac 0) h)):Cl 118 [ag a,ae i] h K:=cN Tryz.func118 H
end
section
variable {i j k l m n o p q r s t:Int}{a b c d:Addr}{u v:Nat}{x y:ak}{h:aA}{K:KK}
def F246.spec(H:aC (j<1) (K (ac 0) h) (Cl 286 [af i] h λa b=>aI .u64 (some a) λa=>(IntKind.wrap .u64 j)≠0/\K (ac (ai (Int.tmod a (IntKind.wrap .u64 j)))) b)):Cl 246 [af i,ac j] h K:=cN Tryz.func246 H
def F286.T:bf:=⟨[(2,[0,5,6]),(7,[0])],[]⟩
section
variable (n:Nat)(a b:Int)(h:aA)(K:KK)
def F286.wk7:Prop:=(0<=(33:Int)/\K (af (aY .xor .u64 a (Int.fdiv a (2^(min (Int.toNat 33) (IntKind.bits .u64)))))) h)
def F286.wL2:Prop:=Lp Tryz.f286 F286.T [1,0,1,0] n [(0,(af a)),(5,(.agg #[af 18397679294719823053,af 14181476777654086739])),(6,(ac b))] h K
def F286.sL2:F286.wL2 (n+1) a b h K=(aC (b<2) ((0<=b/\b<2/\aI .u64 ([af 18397679294719823053,af 14181476777654086739]:List Value)[b.toNat]? (λc=>0<=(33:Int)/\F286.wL2 n (IntKind.wrap .u64 ((aY .xor .u64 a (Int.fdiv a (2^(min (Int.toNat 33) (IntKind.bits .u64)))))*c)) (ai (b+1)) h K))) (F286.wk7 a h K)):=by kernel_rfl
def F286.wk2:Prop:=(∃c,F286.wL2 c a b h K)
def F286.spec(H:F286.wk2 a 0 h K):Cl 286 [af a] h K:=cT F286.T Tryz.func286 H
end
def F245.spec(H:(0<=(56:Int)/\0<=(28:Int)/\K (af (aY .or .u64 (aY .or .u64 (IntKind.wrap .u64 ((IntKind.wrap .u64 i)*2^(min (Int.toNat 56) (IntKind.bits .u64)))) (IntKind.wrap .u64 ((IntKind.wrap .u64 (aY .and .u32 j 268435455))*2^(min (Int.toNat 28) (IntKind.bits .u64))))) (IntKind.wrap .u64 (aY .and .u32 k 268435455)))) h)):Cl 245 [.int .u8 i,ae j,ae k] h K:=cN Tryz.func245 H
end
section
def At(h:aA)(b:Nat)(c:List Value):Prop:= ∃e,h[b]? =some (.cells c.toArray e)
structure aF(S:List Nat)(h h':aA):Prop where
 size:h.size<=h'.size
 same: ∀b,b<h.size->b∉S->h'[b]? =h[b]?
 fzn: ∀a,fz h' a=fz h a
def At.lt{h:aA}{b:Nat}{c:List Value}(H:At h b c):b<h.size:=by obtain⟨e,H⟩:=H;exact(Array.getElem?_eq_some_iff.1 H).1
def At.rd{h:aA}{b:Nat}{c:List Value}(H:At h b c)(i:Nat):rd h ⟨b,i,none⟩=c[i]? :=by obtain⟨e,H⟩:=H;simp[Ev.rd,H]
def At.fz{h:aA}{b:Nat}{c:List Value}(H:At h b c)(i:Nat)(s:Option Nat):fz h ⟨b,i,s⟩=false:=by obtain⟨e,H⟩:=H;simp[Ev.fz,H]
def At.only{S:List Nat}{h h':aA}{b:Nat}{c:List Value}(H:At h b c)(O:aF S h h')(hb:b∉S):At h' b c:=by obtain⟨e,H⟩:=H;exact⟨e,(O.same b (Array.getElem?_eq_some_iff.1 H).1 hb).trans H⟩
def aF.refl(S:List Nat)(h:aA):aF S h h:=⟨Nat.le_refl _,λ_ _ _=>rfl,λ_=>rfl⟩
def aF.trans{S T:List Nat}{h h' h'':aA}(A:aF S h h')(B:aF T h' h'')(hT: ∀b,b∈T->b<h.size->b∈S):aF S h h'':=
 ⟨Nat.le_trans A.size B.size,λb hb hS=>(B.same b (Nat.lt_of_lt_of_le hb A.size) (λhbT=>hS (hT b hbT hb))).trans (A.same b hb hS),
  λa=>(B.fzn a).trans (A.fzn a)⟩
def aF.mono{S T:List Nat}{h h':aA}(A:aF S h h')(hS: ∀b,b∈S->b<h.size->b∈T):aF T h h':=
 aF.trans (aF.refl T h) A hS
def aF.push_cells(h:aA)(c:Array Value)(e:TypeId):aF [] h (h.push (.cells c e)):=by
 refine⟨Z,λb hb _=>by simp[Array.getElem?_push,Nat.ne_of_lt hb],λa=> ?_⟩;unfold fz;rw[Array.getElem?_push];by_cases ha:a.block=h.size
 ·rw[if_pos ha,ha];simp
 ·rw[if_neg ha]
def aF.push_map(h:aA)(es:Array MapEntry)(n:Nat):aF [] h (h.push (.map es n)):=by
 refine⟨Z,λb hb _=>by simp[Array.getElem?_push,Nat.ne_of_lt hb],λa=> ?_⟩;unfold fz;rw[Array.getElem?_push];by_cases ha:a.block=h.size
 ·rw[if_pos ha,ha];simp
 ·rw[if_neg ha]
def qd(h:aA)(a:Addr)(v:Value)(b:Nat)(hb:b≠a.block):(wr h a v)[b]? =h[b]? :=by unfold wr;rw[Array.getElem?_modify,if_neg (λe=>hb e.symm)]
def aF.wr(h:aA)(a:Addr)(v:Value):aF [a.block] h (wr h a v):=by
 refine⟨by simp[Ev.wr],λb _ hS=>qd h a v b (by simpa using hS),λx=> ?_⟩;unfold Ev.fz;by_cases hx:x.block=a.block
 ·unfold Ev.wr;rw[Array.getElem?_modify,if_pos hx.symm];cases hh:h[x.block]? with
  |none=>simp
  |some o=>cases o<;>simp
 ·rw[qd h a v x.block hx]
def At.wr{h:aA}{b:Nat}{c:List Value}(H:At h b c)(i:Nat)(v:Value):At (wr h ⟨b,i,none⟩ v) b (c.set i v):=by obtain⟨e,H⟩:=H;refine⟨e,?_⟩;unfold Ev.wr;rw[Array.getElem?_modify,if_pos rfl,H];simp
def At.push(h:aA)(c:Array Value)(e:TypeId):At (h.push (.cells c e)) h.size c.toList:=⟨e,Z⟩
@[simp] theorem aE (b o n:Nat):Addr.add ⟨b,o,none⟩ n=⟨b,o+n,none⟩:=by
 unfold Addr.add;split
 ·next h=>subst h;rfl
 ·rfl
def add_zero(a:Addr):Addr.add a 0=a:=by simp[Addr.add]
def aB{k:IntKind}{x:Option Value}{K:Int->Prop}{n:Int}(hx:x=some (.int k n))(hK:K n):aI k x K:=⟨n,hx,hK⟩
def aQ{x:Option Value}{K:Bool->Prop}{n:Bool}(hx:x=some (.bool n))(hK:K n):bA x K:=⟨n,hx,hK⟩
def aJ{x:Option Value}{K:Option Addr->Prop}{n:Option Addr}(hx:x=some (.pointer n))(hK:K n):bi x K:=⟨n,hx,hK⟩
def bj{x:Option Value}{K:Option Addr->Nat->Nat->Prop}{p:Option Addr}{l c:Nat}(hx:x=some (.slice p l c))(hK:K p l c):cW x K:=⟨p,l,c,hx,hK⟩
@[simp] theorem aU {k:IntKind} {K:Int->Prop} {n:Int}:aI k (some (.int k n)) K↔K n:=
 ⟨λ⟨m,e,h⟩=>by injection e with e;injection e with _ e;exact e▸h,aB rfl⟩
@[simp] theorem bC {K:Bool->Prop} {n:Bool}:bA (some (.bool n)) K↔K n:=
 ⟨λ⟨m,e,h⟩=>by injection e with e;injection e with e;exact e▸h,aQ rfl⟩
@[simp] theorem mA {K:Option Addr->Prop} {n:Option Addr}:bi (some (.pointer n)) K↔K n:=
 ⟨λ⟨m,e,h⟩=>by injection e with e;injection e with e;exact e▸h,aJ rfl⟩
@[simp] theorem bD {K:Option Addr->Nat->Nat->Prop} {p:Option Addr} {l c:Nat}:cW (some (.slice p l c)) K↔K p l c:=
 ⟨λ⟨_,_,_,e,h⟩=>by injection e with e;injection e with e1 e2 e3;subst e1;subst e2;subst e3;exact h,bj rfl⟩
@[simp] theorem fM {K:Option Nat->Prop} {n:Option Nat}:nT (some (.map n)) K↔K n:=
 ⟨λ⟨m,e,h⟩=>by injection e with e;injection e with e;exact e▸h,λh=>⟨n,rfl,h⟩⟩
@[simp] theorem qT {K:Value->Prop} {v:Value}:qW (some v) K↔K v:=
 ⟨λ⟨m,e,h⟩=>by injection e with e;exact e▸h,λh=>⟨v,rfl,h⟩⟩
@[simp] theorem aL {a:Addr} {K:Addr->Prop}:aN (some a) K↔K a:=Iff.rfl
@[simp] theorem aG {t f:Prop}:aC true t f↔t:=Iff.rfl
@[simp] theorem aD {t f:Prop}:aC false t f↔f:=Iff.rfl
def aH{b:Bool}{t f:Prop}(ht:b=true->t)(hf:b=false->f):aC b t f:=by
 cases b with
 |true=>exact ht rfl
 |false=>exact hf rfl
def aK{h:aA}{b i:Nat}{c:List Value}{v:Value}{K:aA->Prop}(H:At h b c)(hi:i<c.length)(hv:v.oneCell'=true)
  (hK: ∀h',At h' b (c.set i v)->aF [b] h h'->h'.size=h.size->K h'):aP h ⟨b,i,none⟩ v K:=by
 unfold aP;rw[hv];refine⟨?_,H.fz i none,hK _ (H.wr i v) (aF.wr h ⟨b,i,none⟩ v) (by simp[Ev.wr])⟩;rw[H.rd];simp[hi]
def aM{h:aA}{c:Array Value}{e:TypeId}{K:Nat->aA->Prop}
  (hK: ∀h',At h' h.size c.toList->aF [] h h'->h'.size=h.size+1->K h.size h'):aZ h (.cells c e) K:=
 hK _ (At.push h c e) (aF.push_cells h c e) Z
def fH.mono{P:Program}{f:FuncId}{args:List Value}{h:aA}{K K':Value->aA->Prop}(H:fH P f args h K)(hK: ∀v h',K v h'->K' v h'):fH P f args h K':=
 λw hw=>(H w hw).mono λ_ _ ⟨v,e,s,k⟩=>⟨v,e,s,hK _ _ k⟩
def wrap_i64{n:Int}(h0: -9223372036854775808<=n)(h1:n<9223372036854775808):ai n=n:=by refine(IntKind.wrap_i64 n).trans ?_;omega
def bG{n:Int}(h0:0<=n)(h1:n<18446744073709551616):IntKind.wrap .u64 n=n:=by simp[IntKind.wrap,IntKind.bits,IntKind.signed];omega
def kb(n:Int):IntKind.wrap .u64 n=n%18446744073709551616:=by simp[IntKind.wrap,IntKind.bits,IntKind.signed]
def bz{P:Program}{X:List (Nat×cJ)}{g:Nat}{first captured:Array Value}{args:List Value}{h:aA}{K:Value->aA->Prop}(hx:bW X g=some .go)
  (H:fH P g (first.toList++args++captured.toList) h K):gn P X (.func (.func g) first captured) args h K:=by
 unfold gn;simp only[hx];exact H
end
end Go.Proofs.YtnofenejoebkhaaGreat.Ev
