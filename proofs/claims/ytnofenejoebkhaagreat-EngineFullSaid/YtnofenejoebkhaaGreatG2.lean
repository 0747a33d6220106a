/- PART 2 OF WHAT THE LAW EngineFull STANDS ON: EvK, EvL, FunF5, FunA5, FunB5, FunC5, FunD5, MemF5, MemC5, TabF5, TabC5, TabD5, TabP5, NodA5, NodB5, EvN, NodC5, OrdF5, OrdC5, CacF5, CacC5, CacP5, EvM, NodD5, NodG5, NodH5, NodI5, NodJ5, NodK5, StoA5, RecF5. Conditions: none but those that each lemma states. -/
import Derived.Test.YtnofenejoebkhaaGreatG1
import Derived.WalkKit
import Derived.ProofKit
import Derived.OpenShut
import Derived.Carry
import Derived.Deep.Slices
import Derived.Laws.AppendOwn
namespace Go.Proofs.YtnofenejoebkhaaGreat.Ev
open Go
set_option linter.defProp false
section
open Go Go.ChangeShapes Go.WideShapes Go.ChangeAt Go.RowKit
def dp(h:aA)(v:Value)(h':aA):Prop:=v= .bool true/\aF [] h h'
def EU(w:World)(a:Addr):w.frozen? a=fz w.heap a:=by
 unfold World.frozen? fz
 rfl
def law_calls{P:Program}{f:FuncId}{args:List Value}{W:World}(H:fH P f args W.heap (dp W.heap)):
  Calls P f args.toArray W λe W'=>e= .returned (.bool true)/\Below W.heap.size W W'/\ ∀a,W'.frozen? a=W.frozen? a:=by
 refine(H W rfl).mono λe W' ⟨v,he,hs,hv,hO⟩=> ?_;subst hv;exact⟨he,⟨hs.1,hs.2.1,hs.2.2,hO.size,λk hk=>hO.same k hk Z⟩,λa=>by rw[EU,EU];exact hO.fzn a⟩
def iX{H:Type}{enc:TypeId×Value->H}{P:Program}(hl:laidOutB P=true){W W':World}{sp:Nat->Bool}:
  ∀(ts:List TypeId) (vs:List Value) (ds:List (DataW H)) (ps:List MemPlace),ts.all (λt=>P.readableRec t&&decide (t<P.types.size))=true->
   DataW.TrodAll enc P W 0 (λ_=>true) true ts vs ds ps->(∀p∈ps,W.sameAt W' p)->(∀p∈ps,sp p.block=true)->DataW.TrodAll enc P W' 0 sp true ts vs ds ps
 | [],[],[],_,_,h,_,_=>h
 |t::ts,v::vs,d::ds,ps,hr,⟨p,q,hd,hds,e⟩,hsame,hsp=>by
  subst e;simp only[List.all_cons,Bool.and_eq_true,decide_eq_true_eq]at hr
  exact⟨p,q,WideElems.Trod_stays hl hr.1.1 hr.1.2 hd (λx hx=>hsame x (List.mem_append.2 (.inl hx))) (λx hx=>hsp x (List.mem_append.2 (.inl hx))),
   iX hl ts vs ds q hr.2 hds (λx hx=>hsame x (List.mem_append.2 (.inr hx))) (λx hx=>hsp x (List.mem_append.2 (.inr hx))),rfl⟩
 | [],_::_,_,_,_,h,_,_=>h.elim
 | [],[],_::_,_,_,h,_,_=>h.elim
 |_::_,[],_,_,_,h,_,_=>h.elim
 |_::_,_::_,[],_,_,h,_,_=>h.elim
def post_law{H:Type}{enc:TypeId×Value->H}{P:Program}{f:Func}{s:ChangeSpec}{apart fresh handsOn dA:Bool}{W W':World}{args:Array Value}{ds gs:List (DataW H)}{before:List MemPlace}{tb:TypeId}
  (hl:laidOutB P=true) (hread:f.params.toList.all (λt=>P.readableRec t&&decide (t<P.types.size))=true)
  (hres:f.resultTypes= #[tb]) (hb:P.underlying tb=some .bool) (hvars:s.vars=[])
  (hW:DataW.Whole enc P f.params.toList s.vars apart W args.toList ds gs before)
  (hs:s.fn H ds={results:=[.lit (.bool true)],args:=ds})
  (hB:Below W.heap.size W W') (hfz: ∀a,W'.frozen? a=W.frozen? a):s.post enc P f apart fresh handsOn dA W args (.bool true) W':=by
 have hlt: ∀p∈before,p.block<W.heap.size:=λp hp=>hW.lt p hp;obtain⟨p,q,hA,hV,rfl,hz,hn⟩:=id hW;rw[hvars]at hV
 obtain⟨rfl,rfl⟩:gs=[]/\q=[]:=by
  cases gs with
  |nil=>exact⟨rfl,hV⟩
  |cons _ _=>exact hV.elim
 refine post_of_same (pa:=p) (pv:=[]) hW (λ_ _ _=> ?_) (λsp hsp=> ?_) (λsp hsp=> ?_) rfl (hB.frame _) hfz ?_
 ·rw[hres,List.append_nil,hs];exact trodAll_cons_mk (shut_bool hb _) trodAll_mk0
 ·rw[List.append_nil,hs];exact iX hl _ _ _ _ hread hA (λx hx=>hB.same (hlt x (List.mem_append.2 (.inl hx)))) (λx hx=>hsp x (List.mem_append.2 (.inl hx)))
 ·rw[List.append_nil,hs,hvars]
  rfl
 ·exact ok_one hres rfl (okWide_bool_mk hb _)
def mT(h:aA)(k:IntKind)(p:Option Addr)(zs:List Int):Prop:=
 ∀i,i<zs.length-> ∃a,p=some a/\rd h (a.add i)=some (.int k (zs.getD i 0))
def mT.only{S:List Nat}{h h':aA}{k:IntKind}{p:Option Addr}{zs:List Int}(H:mT h k p zs)(O:aF S h h')(hS: ∀b∈S,h.size<=b):mT h' k p zs:=by
 intro i hi;obtain⟨a,e,hr⟩:=H i hi;refine⟨a,e,?_⟩;rw[<-hr]
 have hb:(a.add i).block<h.size:=by apply Classical.byContradiction;intro hn;have:h[(a.add i).block]? =none:=Array.getElem?_eq_none Y;simp[rd,this]at hr
 unfold rd;rw[O.same _ hb λhm=>absurd (hS _ hm) Y]
def wf_range{k:IntKind}{n:Int}(h:(Lit.int k n).wf=true):k.min<=n/\n<=k.max:=by simpa[Lit.wf]using h
def open_sl{H:Type}{enc:TypeId×Value->H}{P:Program}{W:World}{r:Reach}{b0 base:Nat}{sp:Nat->Bool}{held:Bool}{t e:TypeId}{k:IntKind}{v:Value}{d:DataW H}{ps:List MemPlace}
  (ht:P.underlying t=some (.slice e)) (he:P.underlying e=some (.int k)) (hc:P.cellsOf e=1) (hval:Value.okWide P W r b0 t v)
  (hd:DataW.Trod enc P W base sp held t v d ps) (hsp: ∀b,sp b=true):
  ∃(p:Option Addr) (c:Nat) (zs:List Int),v= .slice p zs.length c/\mT W.heap k p zs/\(∀z∈zs,k.min<=z/\z<=k.max)/\(zs.length:Int)<=maxLen:=by
 obtain⟨a,len,cap,rfl⟩:=okWide_slice ht hval;obtain⟨fuel,hf⟩:=hd;rcases open_ints ht he hc hf with⟨hcs,-⟩|⟨a',len',cap',zs,hcs,-,hle,hmx,hzl,-,hcell,hwf⟩
 ·simp only[Value.cells,List.cons.injEq,and_true]at hcs;injection hcs with e1 e2 e3;subst e1 e2 e3;exact⟨none,0,[],rfl,λi hi=>absurd hi Z,Z,by simp[maxLen]⟩
 ·simp only[Value.cells,List.cons.injEq,and_true]at hcs;injection hcs with e1 e2 e3;subst e1 e2 e3;rw[if_pos (hsp _)]at hzl;have hl:(zs.take len).length=len:=by rw[List.length_take];omega
  refine⟨some a',cap,zs.take len,by rw[hl],λi hi=>⟨a',rfl,?_⟩,λz hz=>wf_range (hwf z (List.mem_of_mem_take hz)),by rw[hl];omega⟩;rw[hl]at hi;have:=hcell i Y;rw[show(zs.take len).getD i 0=zs.getD i 0 by simp[List.getD,hi]];exact this
def yz{S:List Nat}{h h':aA}{a:Addr}{v:Value}(H:rd h a=some v)(O:aF S h h')(hS: ∀b∈S,h.size<=b):rd h' a=some v:=by
 rw[<-H]
 have hb:a.block<h.size:=by apply Classical.byContradiction;intro hn;have:h[a.block]? =none:=Array.getElem?_eq_none Y;simp[rd,this]at H
 unfold rd;rw[O.same _ hb λhm=>absurd (hS _ hm) Y]
def pick{α:Type}[Inhabited α]{l:Nat}{Q:Nat->α->Prop}(H: ∀i,i<l-> ∃n,Q i n): ∃f:Nat->α,∀i,i<l->Q i (f i):=
 ⟨λi=>if h:i<l then(H i h).choose else default,λi hi=>by simp only[dif_pos hi];exact(H i hi).choose_spec⟩
def wz{z:Int}(h:IntKind.min .u8<=z/\z<=IntKind.max .u8){d:Int}(hd:0<d):0<=z.tmod d/\z.tmod d<d:=by have h0:0<=z:=h.1;rw[Int.tmod_eq_emod_of_nonneg h0];exact⟨Int.emod_nonneg _ Y,Int.emod_lt_of_pos _ hd⟩
end
section
def ip{b o:Nat}{K:aA->Prop}: ∀(new:List Value) (i:Nat) (c:List Value) (h:aA),At h b c->o+i+new.length<=c.length->(∀v∈new,v.oneCell'=true)->
  (∀h',At h' b (c.take (o+i)++new++c.drop (o+i+new.length))->aF [b] h h'->h'.size=h.size->K h')->mt ⟨b,o,none⟩ i new h K:=by
 intro new
 induction new with
 |nil=>
  intro i c h A hi hv hK;unfold mt;exact hK h (by simpa using A) (aF.refl _ _) rfl
 |cons v vs ih=>
  intro i c h A hi hv hK;simp only[List.length_cons]at hi;unfold mt;rw[aE];refine aK A Y (hv v Z) λh1 A1 O1 z1=>ih (i+1) _ h1 A1 (by simp;omega) (λx hx=>hv x (by simp[hx])) λh2 A2 O2 z2=>hK h2 ?_ (O1.trans O2 Z) (z2.trans z1)
  have e:(c.set (o+i) v).take (o+(i+1))=c.take (o+i)++[v]:=by rw[show o+(i+1)=(o+i)+1 by omega,List.take_set,List.take_succ_eq_append_getElem Y,List.set_append_right _ _ (by simp;omega)];simp[List.length_take,Nat.min_eq_left (by omega:o+i<=c.length)]
  have e2:(c.set (o+i) v).drop (o+(i+1)+vs.length)=c.drop (o+i+(vs.length+1)):=by
   rw[List.drop_set_of_lt Y]
   congr 1
   omega
  rw[e,e2]at A2;simpa using A2
def ct(h:aA)(lo N:Nat)(p:Option Addr)(l c:Nat)(cs:List Value):Prop:=
 cs.length=l*N/\((p=none/\l=0/\c=0)\/ ∃(b:Nat) (sp:List Value),p=some ⟨b,0,none⟩/\lo<=b/\l<=c/\sp.length=(c-l)*N/\At h b (cs++sp))
def aR:Option Addr->List Nat
 |some a=> [a.block]
 |none=> []
def ct.nil(h:aA)(lo N:Nat):ct h lo N none 0 0 []:=⟨Z,Or.inl ⟨rfl,rfl,rfl⟩⟩
def ct.only{S:List Nat}{h h':aA}{lo N:Nat}{p:Option Addr}{l c:Nat}{cs:List Value}(H:ct h lo N p l c cs)(O:aF S h h')(hS: ∀b,p=some ⟨b,0,none⟩->b∉S):ct h' lo N p l c cs:=by
 obtain⟨e,H⟩:=H;rcases H with H|⟨b,sp,h1,h2,h3,h4,h5⟩
 ·exact⟨e,Or.inl H⟩
 ·exact⟨e,Or.inr ⟨b,sp,h1,h2,h3,h4,h5.only O (hS b h1)⟩⟩
def ct.lt{h:aA}{lo N:Nat}{p:Option Addr}{l c:Nat}{cs:List Value}(H:ct h lo N p l c cs): ∀b∈aR p,lo<=b/\b<h.size:=by
 obtain⟨-,H⟩:=H;rcases H with⟨e,-⟩|⟨b,sp,h1,h2,-,-,h5⟩
 ·subst e;simp[aR]
 ·subst h1;intro x hx;simp[aR]at hx;subst hx;exact⟨h2,h5.lt⟩
def ct.rd{h:aA}{lo N:Nat}{p:Option Addr}{l c:Nat}{cs:List Value}(H:ct h lo N p l c cs){j:Nat}(hj:j<cs.length): ∃b,p=some ⟨b,0,none⟩/\rd h ⟨b,j,none⟩=cs[j]? :=by
 obtain⟨e,H⟩:=H;rcases H with⟨-,h0,-⟩|⟨b,sp,h1,h2,-,-,h5⟩
 ·subst h0;simp at e;simp[e]at hj
 ·exact⟨b,h1,by rw[h5.rd,List.getElem?_append_left hj]⟩
def dT{h:aA}{b o:Nat}{c new:List Value}(A:At h b c)(hn: ∀j v,new[j]? =some v->c[o+j]? =some v):lX h ⟨b,o,none⟩ new:=by intro j v hj;rw[aE,A.rd];exact hn j v hj
def dD(z:Array Value)(n:Nat):(Builtin.zeroCells z n).toList.length=n*z.size:=by simp[Builtin.zeroCells]
def gv{h:aA}{lo N by_:Nat}{z:Array Value}{p:Option Addr}{l c bx:Nat}{cs new:List Value}{e:TypeId}{K:Option Addr->Nat->Nat->aA->Prop}
  (H:ct h lo N p l c cs) (A:At h bx new) (hnew:new.length=N) (hz:z.size=N) (hcap:(l+1)*by_<=140737488355328) (hv: ∀v∈new,v.oneCell'=true) (hlo:lo<=h.size)
  (hK: ∀p' c' h',ct h' lo N p' (l+1) c' (cs++new)->aF (aR p) h h'->(∀b∈aR p',b∈aR p\/h.size<=b)->K p' (l+1) c' h'):
  fA h e N by_ z p l c (some ⟨bx,0,none⟩) 1 K:=by
 obtain⟨hlen,H⟩:=H;refine⟨new,Y,dT A Z,λhle=> ?_,λhlt=>⟨cs,hlen,?_,hcap,λcap hc=> ?_⟩⟩
 ·rcases H with⟨-,h0,h1⟩|⟨b,sp,rfl,h2,h3,h4,h5⟩
  ·omega
  ·show mt ((⟨b,0,none⟩:Addr).add (l*N)) 0 new h _;rw[aE,Nat.zero_add]
   have hsp:N<=sp.length:=by rw[h4];have:1*N<=(c-l)*N:=Nat.mul_le_mul_right _ Y;omega
   refine ip new 0 _ h h5 (by simp;omega) hv λh' A' O' z'=>hK _ _ h' ⟨by simp[hlen,hnew,Nat.add_mul],Or.inr ⟨b,sp.drop N,rfl,h2,hle,?_,?_⟩⟩ O' λx hx=>Or.inl hx
   ·rw[List.length_drop,h4,show c-l=(c-(l+1))+1 by omega,Nat.add_mul];omega
   ·rw[Nat.add_zero,<-hlen,List.take_left,hnew,List.drop_append,List.drop_eq_nil_of_le (by omega:cs.length<=cs.length+N)]at A';simpa using A'
 ·rcases H with⟨e,h0,-⟩|⟨b,sp,rfl,-,-,-,h5⟩
  ·subst e;exact h0
  ·exact dT h5 λj v hj=>by rw[Nat.zero_add,List.getElem?_append_left (List.getElem?_eq_some_iff.1 hj).1];exact hj
 ·refine hK _ _ _ ⟨by simp[hlen,hnew,Nat.add_mul],Or.inr ⟨h.size,(Builtin.zeroCells z (cap-(l+1))).toList,rfl,hlo,hc,by rw[dD,hz],?_⟩⟩ ((aF.push_cells h _ e).mono Z) λx hx=>Or.inr ?_
  ·have:=At.push h (cs.toArray++new.toArray++Builtin.zeroCells z (cap-(l+1))) e;simpa using this
  ·simp[aR]at hx;omega
def ct.set{h:aA}{lo N:Nat}{l c b j:Nat}{cs:List Value}{v:Value}{K:aA->Prop}(H:ct h lo N (some ⟨b,0,none⟩) l c cs)(hj:j<cs.length)(hv:v.oneCell'=true)
  (hK: ∀h',ct h' lo N (some ⟨b,0,none⟩) l c (cs.set j v)->aF [b] h h'->K h'):aP h ⟨b,j,none⟩ v K:=by
 obtain⟨e,H⟩:=H;rcases H with⟨h1,-⟩|⟨b',sp,h1,h2,h3,h4,h5⟩
 ·cases h1
 ·injection h1 with h1;injection h1 with h1;subst h1;refine aK h5 (by simp;omega) hv λh' A O _=>hK h' ⟨by simp[e],Or.inr ⟨b,sp,rfl,h2,h3,h4,?_⟩⟩ O;rw[List.set_append_left _ _ hj]at A;exact A
def bS(L:Nat)(g:Nat->Value):List Value:=(List.range L).map g
def bu(L:Nat)(g:Nat->Value):(bS L g).length=L:=by simp[bS]
def bY{L k:Nat}{g:Nat->Value}(hk:k<L):(bS L g)[k]? =some (g k):=by simp[bS,hk]
def dS(L k:Nat)(g:Nat->Value)(v:Value):(bS L g).set k v=bS L λj=>if j=k then v else g j:=by
 apply List.ext_getElem?;intro i;by_cases hi:i<L
 ·rw[bY hi,List.getElem?_set];by_cases h:k=i
  ·subst h;rw[if_pos rfl,if_pos (by rw[bu];exact hi),if_pos rfl]
  ·rw[if_neg h,bY hi,if_neg (Ne.symm h)]
 ·rw[List.getElem?_eq_none (by simp[bu];omega),List.getElem?_eq_none (by simp[bu];omega)]
def iH(L:Nat)(g:Nat->Value):bS (L+1) g=bS L g++[g L]:=by simp[bS,List.range_succ]
def dg{L:Nat}{g g':Nat->Value}(h: ∀k,k<L->g k=g' k):bS L g=bS L g':=List.map_congr_left λk hk=>h k (List.mem_range.1 hk)
end
section
def F87.T:bf:=⟨[],[(1,[[(0,[]),(1,[]),(2,[]),(3,[]),(4,[]),(5,[]),(6,[]),(7,[]),(8,[]),(9,[]),(10,[]),(11,[]),(12,[]),(13,[]),(14,[]),(15,[])]])]⟩
def F87.spec(b:Addr)(a:Int)(c:Bool)(h:aA)(K:KK)(H:aC c (((64:Int)≠0/\(64:Int)≠0/\0<=(IntKind.wrap .u8 (Int.tdiv a 64))/\(IntKind.wrap .u8 (Int.tdiv a 64))<4/\aI .u64 (rd h (b.add ((IntKind.wrap .u8 (Int.tdiv a 64)).toNat*1))) λc=>(64:Int)≠0/\0<=(Int.tmod a 64)/\0<=(IntKind.wrap .u8 (Int.tdiv a 64))/\(IntKind.wrap .u8 (Int.tdiv a 64))<4/\aP h ((b.add ((IntKind.wrap .u8 (Int.tdiv a 64)).toNat*1)).add 0) (af (aY .or .u64 c (IntKind.wrap .u64 ((1:Int)*2^(min ((Int.tmod a 64).toNat) (IntKind.bits .u64)))))) λa=>K ax a)) (K ax h)):Cl 87 [ag b,.int .u8 a,aw c] h K:=cT F87.T Tryz.func87 H
def F33.T:bf:=⟨[(3,[0,2,3,4])],[]⟩
section
variable (n:Nat)(c:Int)(a b:Addr)(d:Int)(h:aA)(K:KK)
def F33.wL3:Prop:=Lp Tryz.f33 F33.T [1,1,0,1,0] n [(0,(ac c)),(2,(ag a)),(3,(ag b)),(4,(ac d))] h K
def F33.sL3:F33.wL3 (n+1) c a b d h K=(aC (d<256) (aC (c>=0) (aC (c<8) ((0<=(IntKind.wrap .u64 c)/\Cl 87 [ag b,.int .u8 (IntKind.wrap .u8 d),aw ((aY .and .i64 (Int.fdiv d (2^(min ((IntKind.wrap .u64 c).toNat) (IntKind.bits .i64)))) 1)==1)] h λe f=>e=ax/\F33.wL3 n c a b (ai (d+1)) f K)) (aI .u64 (rd h (b.add 0)) λc=>aI .u64 (rd h (b.add 1)) λd=>aI .u64 (rd h (b.add 2)) λe=>aI .u64 (rd h (b.add 3)) λb=>aP h (a.add 0) (af c) λc=>aP c (a.add 1) (af d) λc=>aP c (a.add 2) (af e) λc=>aP c (a.add 3) (af b) λb=>aI .u64 (rd b (a.add 0)) λc=>aI .u64 (rd b (a.add 1)) λd=>aI .u64 (rd b (a.add 2)) λe=>aI .u64 (rd b (a.add 3)) λa=>K (.agg #[af c,af d,af e,af a]) b)) (aI .u64 (rd h (b.add 0)) λc=>aI .u64 (rd h (b.add 1)) λd=>aI .u64 (rd h (b.add 2)) λe=>aI .u64 (rd h (b.add 3)) λb=>aP h (a.add 0) (af c) λc=>aP c (a.add 1) (af d) λc=>aP c (a.add 2) (af e) λc=>aP c (a.add 3) (af b) λb=>aI .u64 (rd b (a.add 0)) λc=>aI .u64 (rd b (a.add 1)) λd=>aI .u64 (rd b (a.add 2)) λe=>aI .u64 (rd b (a.add 3)) λa=>K (.agg #[af c,af d,af e,af a]) b)) (aI .u64 (rd h (b.add 0)) λc=>aI .u64 (rd h (b.add 1)) λd=>aI .u64 (rd h (b.add 2)) λe=>aI .u64 (rd h (b.add 3)) λb=>aP h (a.add 0) (af c) λc=>aP c (a.add 1) (af d) λc=>aP c (a.add 2) (af e) λc=>aP c (a.add 3) (af b) λb=>aI .u64 (rd b (a.add 0)) λc=>aI .u64 (rd b (a.add 1)) λd=>aI .u64 (rd b (a.add 2)) λe=>aI .u64 (rd b (a.add 3)) λa=>K (.agg #[af c,af d,af e,af a]) b)):=by kernel_rfl
def F33.wk3:Prop:=(∃e,F33.wL3 e c a b d h K)
def F33.spec(H:aZ h (.cells #[af 0,af 0,af 0,af 0] 51) λa b=>aZ b (.cells #[af 0,af 0,af 0,af 0] 51) λb d=>aP d ((ah b).add 0) (af 0) λd=>aP d ((ah b).add 1) (af 0) λd=>aP d ((ah b).add 2) (af 0) λd=>aP d ((ah b).add 3) (af 0) λd=>F33.wk3 c (ah a) (ah b) 0 d K):Cl 33 [ac c] h K:=cT F33.T Tryz.func33 H
end
def F146.T:bf:=⟨[(2,[2,3,4,5])],[(4,[[(0,[]),(1,[]),(2,[]),(3,[]),(4,[]),(5,[]),(6,[]),(7,[]),(8,[]),(9,[])]])]⟩
section
variable (n:Nat)(d f g i j l o q:Int)(c r b:Addr)(a:Int)(h:aA)(K:KK)
def F146.wL2:Prop:=Lp Tryz.f146 F146.T [1,0,1,0] n [(2,(ag c)),(3,(ag r)),(4,(ag b)),(5,(ac a))] h K
def F146.sL2:F146.wL2 (n+1) c r b a h K=(aC (a<4) ((0<=a/\a<4/\aI .u64 (rd h (c.add (a.toNat*1))) λd=>0<=a/\a<4/\aI .u64 (rd h (r.add (a.toNat*1))) λe=>0<=a/\a<4/\aP h ((c.add (a.toNat*1)).add 0) (af (aY .or .u64 d e)) λd=>F146.wL2 n c r b (ai (a+1)) d K)) (aI .u64 (rd h (c.add 0)) λa=>aI .u64 (rd h (c.add 1)) λd=>aI .u64 (rd h (c.add 2)) λe=>aI .u64 (rd h (c.add 3)) λc=>aP h (b.add 0) (af a) λa=>aP a (b.add 1) (af d) λa=>aP a (b.add 2) (af e) λa=>aP a (b.add 3) (af c) λa=>aI .u64 (rd a (b.add 0)) λc=>aI .u64 (rd a (b.add 1)) λd=>aI .u64 (rd a (b.add 2)) λe=>aI .u64 (rd a (b.add 3)) λb=>K (.agg #[af c,af d,af e,af b]) a)):=by kernel_rfl
def F146.wk2:Prop:=(∃d,F146.wL2 d c r b a h K)
def F146.spec(H:aZ h (.cells #[af d,af f,af g,af i] 51) λa b=>aZ b (.cells #[af j,af l,af o,af q] 51) λb c=>aZ c (.cells #[af 0,af 0,af 0,af 0] 51) λc d=>F146.wk2 (ah a) (ah b) (ah c) 0 d K):Cl 146 [.agg #[af d,af f,af g,af i],.agg #[af j,af l,af o,af q]] h K:=cT F146.T Tryz.func146 H
end
end
section
def eU:Nat:=18446744073709551616
def iA:eU=2^64:=by decide
def iC{a:Nat}(ha:a<eU):(BitVec.ofInt 64 (a:Int)).toNat=a:=by unfold eU at ha;rw[BitVec.toNat_ofInt];omega
def kI{a:Nat}(ha:a<eU):IntKind.wrap .u64 (a:Int)=a:=bG Y (by unfold eU at ha;omega)
def zZ{a b:Nat}(ha:a<eU)(hb:b<eU):aY .or .u64 (a:Int) (b:Int)=((a|||b:Nat):Int):=by unfold aY;show IntKind.wrap .u64 ((BitVec.ofInt 64 (a:Int)|||BitVec.ofInt 64 (b:Int)).toNat:Int)=_;rw[BitVec.toNat_or,iC ha,iC hb];exact kI (by rw[iA]at*;exact Nat.or_lt_two_pow ha hb)
def En{a b:Nat}(ha:a<eU)(hb:b<eU):aY .and .u64 (a:Int) (b:Int)=((a&&&b:Nat):Int):=by unfold aY;show IntKind.wrap .u64 ((BitVec.ofInt 64 (a:Int)&&&BitVec.ofInt 64 (b:Int)).toNat:Int)=_;rw[BitVec.toNat_and,iC ha,iC hb];exact kI (by rw[iA]at*;exact Nat.and_lt_two_pow _ hb)
def fb(g:Nat->Nat)(x:Nat):Bool:=(g (x/64)).testBit (x%64)
def gA(g:Nat->Nat):Prop:= ∀i,i<4->g i<eU
def AH{g g':Nat->Nat}(hg:gA g)(hg':gA g')(h: ∀x,x<256->fb g x=fb g' x): ∀i,i<4->g i=g' i:=λi hi=>by
 apply Nat.eq_of_testBit_eq;intro k;by_cases hk:k<64
 ·have:=h (i*64+k) Y;unfold fb at this;rwa[show(i*64+k)/64=i by omega,show(i*64+k)%64=k by omega]at this
 ·have a:=hg i hi;have b:=hg' i hi;rw[iA]at a b;rw[Nat.testBit_lt_two_pow (Nat.lt_of_lt_of_le a (Nat.pow_le_pow_right Y Y)),Nat.testBit_lt_two_pow (Nat.lt_of_lt_of_le b (Nat.pow_le_pow_right Y Y))]
def cr(g:Nat->Nat):List Value:=bS 4 λi=>af (g i:Int)
def oz(g:Nat->Nat)(x:Nat)(v:Bool):Nat->Nat:=λi=>if v=true/\i=x/64 then g i|||2^(x%64)else g i
def ri(k:Nat)(hk:k<64):2^k<eU:=by rw[iA];exact Nat.pow_lt_pow_right Y hk
def yP{g:Nat->Nat}(hg:gA g){x:Nat}{v:Bool}:gA (oz g x v):=λi hi=>by
 unfold oz;split
 ·have a:=hg i hi;have b:=ri (x%64) (Nat.mod_lt _ Y);rw[iA]at*
  exact Nat.or_lt_two_pow a b
 ·exact hg i hi
def yO(g:Nat->Nat)(x:Nat)(v:Bool)(y:Nat):fb (oz g x v) y=(fb g y||(v&&decide (y=x))):=by
 unfold fb oz;cases v
 ·simp
 ·by_cases h:y/64=x/64
  ·rw[if_pos ⟨rfl,h⟩,Nat.testBit_or,Nat.testBit_two_pow]
   congr 1
   by_cases e:y=x
   ·subst e;simp
   ·simp only[Bool.true_and,decide_eq_false e,decide_eq_false_iff_not];omega
  ·rw[if_neg (λhh=>h hh.2)];have:y≠x:=λe=>h (by rw[e]);simp[this]
def Be{x:Nat}(hx:x<256):IntKind.wrap .u8 (Int.tdiv (x:Int) 64)=((x/64:Nat):Int):=by rw[Int.tdiv_eq_ediv_of_nonneg Y];simp[IntKind.wrap,IntKind.bits,IntKind.signed];omega
def Bn(x:Nat):Int.tmod (x:Int) 64=((x%64:Nat):Int):=by
 rw[Int.tmod_eq_emod_of_nonneg Y]
 rfl
def Do{k:Nat}(hk:k<64):min (Int.toNat (k:Int)) (IntKind.bits .u64)=k:=by rw[Int.toNat_natCast];show min k 64=k;omega
def dF{h:aA}{b:Nat}{g:Nat->Nat}(A:At h b (cr g)){i:Nat}(hi:i<4):rd h ⟨b,i,none⟩=some (af (g i:Int)):=by rw[A.rd];exact bY hi
def gy{h:aA}{b:Nat}{g:Nat->Nat}(A:At h b (cr g)){i:Nat}(hi:i<4){v:Nat}{K:aA->Prop}(hK: ∀h',At h' b (cr λj=>if j=i then v else g j)->aF [b] h h'->K h'):aP h ⟨b,i,none⟩ (af (v:Int)) K:=
 aK A (by unfold cr;rw[bu];exact hi) rfl λh' A' O' _=>hK h' (by
  unfold cr at A' ⊢;rw[dS]at A';have e:(bS 4 λj=>if j=i then af (v:Int)else af (g j:Int))=bS 4 λj=>af ((if j=i then v else g j:Nat):Int):=dg λj _=>by split<;>rfl
  rw[e]at A';exact A') O'
def CR{h:aA}{b x:Nat}{g:Nat->Nat}{v:Bool}{K:KK}(A:At h b (cr g))(hg:gA g)(hx:x<256)(hK: ∀h',At h' b (cr (oz g x v))->aF [b] h h'->K ax h'):
  Cl 87 [ag (ah b),.int .u8 (x:Int),aw v] h K:=by
 refine F87.spec _ _ _ h K ?_;refine aH (λhv=> ?_) λhv=> ?_
 ·subst hv;have q:x/64<4:=Y;rw[Be hx,Bn];refine⟨by decide,by decide,Y,Y,?_⟩;rw[aE,Int.toNat_natCast,Nat.zero_add,Nat.mul_one,dF A q,aU,Do Y];refine⟨by decide,Y,Y,Y,?_⟩;rw[aE,Nat.add_zero,show(1:Int)*2^(x%64)=((2^(x%64):Nat):Int) by simp,kI (ri _ Y),zZ (hg _ q) (ri _ Y)];refine gy A q λh' A' O'=>hK h' ?_ O'
  have e:(λj=>if j=x/64 then g (x/64)|||2^(x%64)else g j)=oz g x true:=by
   funext j;unfold oz;by_cases hj:j=x/64
   ·subst hj;simp
   ·rw[if_neg hj,if_neg (λh=>hj h.2)]
  rw[e]at A';exact A'
 ·subst hv;refine hK h ?_ (aF.refl _ _)
  have e:oz g x false=g:=by funext j;unfold oz;rw[if_neg (λh=>by cases h.1)]
  rw[e];exact A
end
section
def m9{x:Nat}(h:x<256):IntKind.wrap .u8 (x:Int)=x:=by simp[IntKind.wrap,IntKind.bits,IntKind.signed];omega
def gp(g:Nat->Nat):Value:= .agg #[af (g 0:Int),af (g 1:Int),af (g 2:Int),af (g 3:Int)]
def nG{h:aA}{b c:Nat}{g g0:Nat->Nat}{K:KK}(A:At h b (cr g))(C:At h c (cr g0))(hne:b≠c)(hK: ∀h',aF [c] h h'->K (gp g) h'):
  aI .u64 (rd h (Addr.add (ah b) 0)) (λn4=>aI .u64 (rd h (Addr.add (ah b) 1)) (λn5=>aI .u64 (rd h (Addr.add (ah b) 2)) (λn6=>aI .u64 (rd h (Addr.add (ah b) 3)) (λn7=>aP h (Addr.add (ah c) 0) (af n4) (λh8=>aP h8 (Addr.add (ah c) 1) (af n5) (λh9=>aP h9 (Addr.add (ah c) 2) (af n6) (λh10=>aP h10 (Addr.add (ah c) 3) (af n7) (λh11=>aI .u64 (rd h11 (Addr.add (ah c) 0)) (λn12=>aI .u64 (rd h11 (Addr.add (ah c) 1)) (λn13=>aI .u64 (rd h11 (Addr.add (ah c) 2)) (λn14=>aI .u64 (rd h11 (Addr.add (ah c) 3)) (λn15=>K (.agg #[(af n12),(af n13),(af n14),(af n15)]) h11)))))))))))):=by
 simp only[aE,Nat.zero_add];rw[dF A (by decide:0<4),aU,dF A (by decide:1<4),aU,dF A (by decide:2<4),aU,dF A (by decide:3<4),aU];refine gy C (by decide) λh1 C1 O1=>gy C1 (by decide) λh2 C2 O2=>gy C2 (by decide) λh3 C3 O3=>gy C3 (by decide) λh4 C4 O4=> ?_;rw[dF C4 (by decide:0<4),aU,dF C4 (by decide:1<4),aU,dF C4 (by decide:2<4),aU,dF C4 (by decide:3<4),aU];exact hK h4 (((O1.trans O2 Z).trans O3 Z).trans O4 Z)
def sY(y:Nat):fb (λ_=>0) y=false:=by simp[fb]
end
section
def kD{a b:Nat}(ha:a<eU)(hb:b<eU):a|||b<eU:=by
 rw[iA]at*
 exact Nat.or_lt_two_pow ha hb
def lZ(f g:Nat->Nat)(i:Nat):Nat->Nat:=λj=>if j<i then f j|||g j else f j
def yo{f g:Nat->Nat}(hf:gA f)(hg:gA g)(i:Nat):gA (lZ f g i):=λj hj=>by
 unfold lZ;split
 ·exact kD (hf j hj) (hg j hj)
 ·exact hf j hj
def zu(f g:Nat->Nat){y:Nat}(hy:y<256):fb (lZ f g 4) y=(fb f y||fb g y):=by unfold fb lZ;rw[if_pos Y,Nat.testBit_or]
def Ec{h:aA}{f g:Nat->Nat}{K:KK}(hf:gA f)(hg:gA g)(hK: ∀h' k,gA k->(∀y,y<256->fb k y=(fb f y||fb g y))->aF [] h h'->K (gp k) h'):Cl 146 [gp f,gp g] h K:=by
 refine F146.spec _ _ _ _ _ _ _ _ h K ?_;refine aM λh1 A1 O1 z1=>aM λh2 A2 O2 z2=>aM λh3 A3 O3 z3=> ?_
 replace A1:At h1 h.size (cr f):=A1
 replace A2:At h2 h1.size (cr g):=A2
 replace A3:At h3 h2.size (cr λ_=>0):=A3
 have B1:=(A1.only O2 Z).only O3 Z;have B2:=A2.only O3 Z;have O13:aF [] h h3:=(O1.trans O2 Z).trans O3 Z;unfold F146.wk2
 have main: ∀(d i:Nat) (h':aA),i+d=4->At h' h.size (cr (lZ f g i))->At h' h1.size (cr g)->At h' h2.size (cr λ_=>0)->aF [] h h'->
   F146.wL2 (d+1) (ah h.size) (ah h1.size) (ah h2.size) i h' K:=by
  intro d
  induction d with
  |zero=>
   intro i h' hd A B C O;rw[F146.sL2];rw[show decide ((i:Int)<4)=false by simp;omega,aD];have hi:i=4:=Y;subst hi;exact nG A C Y λh'' O''=>hK h'' _ (yo hf hg 4) (λy hy=>zu f g hy) (O.trans O'' (by intro b hb hlt;simp at hb;omega))
  |succ d ih=>
   intro i h' hd A B C O;rw[F146.sL2];have hi:i<4:=Y;rw[show decide ((i:Int)<4)=true by simp;omega,aG,show ai ((i:Int)+1)=((i+1:Nat):Int) by rw[wrap_i64 Y Y];omega];refine⟨Y,Y,?_⟩;rw[aE,aE,show 0+Int.toNat (i:Int)*1=i by omega,dF A hi,aU];refine⟨Y,Y,?_⟩;rw[dF B hi,aU];refine⟨Y,Y,?_⟩;have e0:lZ f g i i=f i:=if_neg Y;rw[aE,Nat.add_zero,e0,zZ (hf i hi) (hg i hi)];refine gy A hi λh'' A'' O''=>ih (i+1) h'' Y ?_ (B.only O'' (by simp;omega)) (C.only O'' (by simp;omega)) (O.trans O'' (by intro b hb hlt;simp at hb;omega))
   have e:(λj=>if j=i then f i|||g i else lZ f g i j)=lZ f g (i+1):=by
    funext j;unfold lZ;by_cases hj:j=i
    ·subst hj;rw[if_pos rfl,if_pos Y]
    ·rw[if_neg hj];by_cases hl:j<i
     ·rw[if_pos hl,if_pos Y]
     ·rw[if_neg hl,if_neg Y]
   rw[e]at A'';exact A''
 have e0:lZ f g 0=f:=by funext j;unfold lZ;rw[if_neg Y]
 exact⟨_,main 4 0 h3 Y (by rw[e0];exact B1) B2 A3 O13⟩
end
section
end
section
variable {i j k l m n o p q r s t:Int}{a b c d:Addr}{u v:Nat}{x y:ak}{h:aA}{K:KK}
def F89.spec(H:(0<=(if 262144<(if 0>i then 0 else i)then 262144 else(if 0>i then 0 else i))/\(if 262144<(if 0>i then 0 else i)then 262144 else(if 0>i then 0 else i))<=(if 262144<(if 0>i then 0 else i)then 262144 else(if 0>i then 0 else i))/\(8*(if 262144<(if 0>i then 0 else i)then 262144 else(if 0>i then 0 else i))<=281474976710656)/\(if 262144<(if 0>i then 0 else i)then 262144 else(if 0>i then 0 else i))<=9223372036854775807/\aZ h (.cells (madeCells #[af 0] ((if 262144<(if 0>i then 0 else i)then 262144 else(if 0>i then 0 else i)).toNat*1)) 315) λa b=>aZ b (.cells #[.slice (some (ah a)) ((if 262144<(if 0>i then 0 else i)then 262144 else(if 0>i then 0 else i)).toNat) ((if 262144<(if 0>i then 0 else i)then 262144 else(if 0>i then 0 else i)).toNat),ac 0,ac 0] 224) λa b=>K (ag (ah a)) b)):Cl 89 [ac i] h K:=cN Tryz.func89 H
def F110.spec(H:aC (i<1) (K (ac 0) h) (K (ac (ai (3*i))) h)):Cl 110 [ac i] h K:=cN Tryz.func110 H
def F132.spec(H:cW (rd h (a.add 0)) λ_ a _=>K (ac (a:Int)) h):Cl 132 [ag a] h K:=cN Tryz.func132 H
def F162.spec(H:Cl 202 [ag a,ac i] h λa b=>bi (some a) λa=>aC (!(Option.isNone a)) (Cl 203 [ap a] b λa b=>aI .u64 (some a) λa=>K (af a) b) (K (af 0) b)):Cl 162 [ag a,ac i] h K:=cN Tryz.func162 H
def F202.spec(H:aC (i<0) (K (ap none) h) (cW (rd h (a.add 0)) λ_ b _=>aC (i>=(b:Int)) (K (ap none) h) (Cl 205 [ag (a.add 1),ac 1] h λb c=>aI .i64 (some b) λ_=>cW (rd c (a.add 0)) λa b _=>aN a λa=>0<=i/\i<(b:Int)/\K (ag (a.add (i.toNat*1))) c))):Cl 202 [ag a,ac i] h K:=cN Tryz.func202 H
def F203.spec(H:aI .u64 (rd h (a.add 0)) λa=>K (af a) h):Cl 203 [ag a] h K:=cN Tryz.func203 H
def F163.spec(H:Cl 202 [ag a,ac i] h λb c=>bi (some b) λb=>aC (Option.isNone b) (K aq c) (Cl 204 [ap b,af j,af k] c λb c=>bA (some b) λb=>aC (!b) (Cl 205 [ag (a.add 2),ac 1] c λa c=>aI .i64 (some a) λ_=>K (aw b) c) (K (aw b) c))):Cl 163 [ag a,ac i,af j,af k] h K:=cN Tryz.func163 H
def F205.spec(H:aI .i64 (rd h (a.add 0)) λb=>aP h (a.add 0) (ac (ai (b+i))) λa=>K (ac (ai (b+i))) a):Cl 205 [ag a,ac i] h K:=cN Tryz.func205 H
def F204.spec(H:aI .u64 (rd h (a.add 0)) λb=>aC (b==i) (aP h (a.add 0) (af j) λa=>K au a) (fz h (a.add 0)=false/\K aq h)):Cl 204 [ag a,af i,af j] h K:=cN Tryz.func204 H
def F282.spec(H:Cl 202 [ag a,ac i] h λa b=>bi (some a) λa=>aC (!(Option.isNone a)) (Cl 304 [ap a,af j] b λa b=>a=ax/\K ax b) (K ax b)):Cl 282 [ag a,ac i,af j] h K:=cN Tryz.func282 H
def F304.spec(H:aP h (a.add 0) (af i) λa=>K ax a):Cl 304 [ag a,af i] h K:=cN Tryz.func304 H
end
section
structure bg(h:aA)(m c:Nat)(cs:List Int)(ops fails:Int):Prop where
 head:At h m [.slice (some (ah c)) cs.length cs.length,ac ops,ac fails]
 body:At h c (cs.map (.int .u64))
 ne:m≠c
def bg.only{S:List Nat}{h h':aA}{m c:Nat}{cs:List Int}{ops fails:Int}(H:bg h m c cs ops fails)(O:aF S h h')(hm:m∉S)(hc:c∉S):bg h' m c cs ops fails:=
 ⟨H.head.only O hm,H.body.only O hc,H.ne⟩
def up(n:Int):Int:=ai (n+1)
def Fm{h:aA}{b i:Nat}{n:Int}{K:KK}(hr:rd h ⟨b,i,none⟩=some (af n))(hK:K (af n) h):
  Cl 203 [ag ⟨b,i,none⟩] h K:=by
 apply F203.spec;rw[add_zero];exact aB hr hK
def ES{h:aA}{b i:Nat}{c:List Value}{n d:Int}{K:KK}(H:At h b c)(hi:c[i]? =some (ac n))
  (hK: ∀h',At h' b (c.set i (ac (ai (n+d))))->aF [b] h h'->K (ac (ai (n+d))) h'):
  Cl 205 [ag ⟨b,i,none⟩,ac d] h K:=by
 apply F205.spec;rw[add_zero];exact aB (by rw[H.rd];exact hi) (aK H (List.getElem?_eq_some_iff.1 hi).1 rfl λh' h1 h2 _=>hK h' h1 h2)
def Fn{h:aA}{b i:Nat}{c:List Value}{d:Int}{K:KK}(H:At h b c)(hi:i<c.length)
  (hK: ∀h',At h' b (c.set i (af d))->aF [b] h h'->K ax h'):
  Cl 304 [ag ⟨b,i,none⟩,af d] h K:=by
 apply F304.spec;rw[add_zero];exact aK H hi rfl λh' h1 h2 _=>hK h' h1 h2
def Fc{h:aA}{b i:Nat}{c:List Value}{n x y:Int}{K:KK}(H:At h b c)(hi:c[i]? =some (af n))
  (hT:n=x-> ∀h',At h' b (c.set i (af y))->aF [b] h h'->K au h') (hF:n≠x->K aq h):
  Cl 204 [ag ⟨b,i,none⟩,af x,af y] h K:=by
 apply F204.spec;rw[add_zero];refine aB (by rw[H.rd];exact hi) (aH (λe=>aK H (List.getElem?_eq_some_iff.1 hi).1 rfl λh' h1 h2 _=>hT (by simpa using e) h' h1 h2) λe=>⟨H.fz _ _,hF (by simpa using e)⟩)
def xn{h:aA}{m c:Nat}{cs:List Int}{ops fails:Int}{i:Int}{K:KK}(H:bg h m c cs ops fails)(h0:0<=i)(h1:i<cs.length)
  (hK: ∀h',bg h' m c cs (up ops) fails->aF [m,c] h h'->K (ag ⟨c,i.toNat,none⟩) h'):
  Cl 202 [ag (ah m),ac i] h K:=by
 apply F202.spec;rw[decide_eq_false (by omega: ¬i<0)];simp only[aE,H.head.rd,Nat.zero_add,List.getElem?_cons_zero,bD,aD];rw[decide_eq_false (by omega: ¬i>=(Nat.cast cs.length:Int)),aD];refine ES (n:=ops) (i:=1) H.head rfl λh' a1 a2=> ?_;simp only[aU,List.set_cons_succ,List.set_cons_zero]at a1 ⊢;simp only[a1.rd,List.getElem?_cons_zero,bD,aL,aE,Nat.zero_add,Nat.mul_one];exact⟨h0,h1,hK h' ⟨a1,H.body.only a2 (by simp[H.ne.symm]),H.ne⟩ (a2.mono (by simp+contextual))⟩
def dC{h:aA}{m c:Nat}{cs:List Int}{ops fails:Int}{i:Int}{K:KK}(H:bg h m c cs ops fails)(h0:0<=i)(h1:i<cs.length)
  (hK: ∀h',bg h' m c cs (up ops) fails->aF [m,c] h h'->K (af (cs.getD i.toNat 0)) h'):
  Cl 162 [ag (ah m),ac i] h K:=by
 apply F162.spec;refine xn H h0 h1 λh' a1 a2=> ?_;have hi:i.toNat<cs.length:=Y;simp only[mA,Option.isNone_some,Bool.not_false,aG];refine Fm (n:=cs.getD i.toNat 0) (by rw[a1.body.rd];simp[hi]) ?_;simp only[aU];exact hK h' a1 a2
def bg.put{h h':aA}{m c:Nat}{cs:List Int}{ops fails:Int}(H:bg h m c cs ops fails){i:Nat}{v:Int}(a:At h' c ((cs.map (Value.int .u64)).set i (af v)))(O:aF [c] h h'):
  bg h' m c (cs.set i v) ops fails:=
 ⟨by rw[List.length_set];exact H.head.only O (by simp[H.ne]),by rw[List.map_set];exact a,H.ne⟩
def fd{h:aA}{m c:Nat}{cs:List Int}{ops fails:Int}{i d:Int}{K:KK}(H:bg h m c cs ops fails)(h0:0<=i)(h1:i<cs.length)
  (hK: ∀h',bg h' m c (cs.set i.toNat d) (up ops) fails->aF [m,c] h h'->K ax h'):
  Cl 282 [ag (ah m),ac i,af d] h K:=by
 apply F282.spec;refine xn H h0 h1 λh' a1 a2=> ?_;have hi:i.toNat<cs.length:=Y;simp only[mA,Option.isNone_some,Bool.not_false,aG];exact Fn a1.body (by simpa using hi) λh'' b1 b2=>⟨rfl,hK h'' (a1.put b1 b2) (a2.trans b2 Z)⟩
def mE{h:aA}{m c:Nat}{cs:List Int}{ops fails:Int}{i x y:Int}{K:KK}(H:bg h m c cs ops fails)(h0:0<=i)(h1:i<cs.length)
  (hT:cs.getD i.toNat 0=x-> ∀h',bg h' m c (cs.set i.toNat y) (up ops) fails->aF [m,c] h h'->K au h')
  (hF:cs.getD i.toNat 0≠x-> ∀h',bg h' m c cs (up ops) (up fails)->aF [m,c] h h'->K aq h'):
  Cl 163 [ag (ah m),ac i,af x,af y] h K:=by
 apply F163.spec;refine xn H h0 h1 λh' a1 a2=> ?_;have hi:i.toNat<cs.length:=Y;simp only[mA,Option.isNone_some,aD];refine Fc (n:=cs.getD i.toNat 0) a1.body (by simp[hi]) (λe h'' b1 b2=> ?_) λe=> ?_
 ·simp only[bC,Bool.not_true,aD];exact hT e h'' (a1.put b1 b2) (a2.trans b2 Z)
 ·simp only[bC,Bool.not_false,aG,aE,Nat.zero_add];refine ES (n:=fails) a1.head rfl λh'' b1 b2=> ?_;simp only[aU];exact hF e h'' ⟨b1,a1.body.only b2 (by simp[H.ne.symm]),H.ne⟩ (a2.trans b2 Z)
def fN{h:aA}{m c:Nat}{cs:List Int}{ops fails:Int}{K:KK}(H:bg h m c cs ops fails)(hK:K (ac cs.length) h):
  Cl 132 [ag (ah m)] h K:=by
 apply F132.spec;rw[aE,H.head.rd];exact bj rfl hK
def eZ(n:Int):Nat:=(min (max n 0) 262144).toNat
def ik{k:Nat}(h:k<=262144):eZ (k:Int)=k:=by unfold eZ;rw[Int.max_eq_left Y,Int.min_eq_left Y,Int.toNat_natCast]
def uI(n:Nat):(madeCells #[af (0:Int)] n).toList=(List.replicate n (0:Int)).map (Value.int .u64):=by rw[toList_madeCells_one];simp
def lT{h:aA}{n:Int}{K:KK}
  (hK: ∀m c h',bg h' m c (List.replicate (eZ n) 0) 0 0->aF [] h h'->h.size<=m->h.size<=c->K (ag (ah m)) h'):
  Cl 89 [ac n] h K:=by
 apply F89.spec
 have e:(if(262144:Int)<(if(0:Int)>n then(0:Int)else n)then(262144:Int)else(if(0:Int)>n then(0:Int)else n))=(eZ n:Int):=by unfold eZ;split<;>split<;>omega
 have h2:eZ n<=262144:=by unfold eZ;omega
 rw[e];refine⟨Y,Y,Y,Y,?_⟩;refine aM λh1 a1 a2 a3=>aM λh2 b1 b2 b3=> ?_;simp only[Int.toNat_natCast,Nat.mul_one]at a1 b1 ⊢;rw[uI]at a1;refine hK h1.size h.size h2 ⟨?_,a1.only b2 Z,Y⟩ (a2.trans b2 Z) Y Y;rw[List.length_replicate];exact b1
end
section
variable {i j k l m n o p q r s t:Int}{a b c d:Addr}{u v:Nat}{x y:ak}{h:aA}{K:KK}
def F159.spec(H:aC (i<0) (K (.tuple #[ap none,ac 61]) h) (aC (j<1) (K (.tuple #[ap none,ac 61]) h) (Cl 132 [ag a] h λb c=>aI .i64 (some b) λb=>aC (i>b) (K (.tuple #[ap none,ac 61]) c) (Cl 132 [ag a] c λb c=>aI .i64 (some b) λb=>aC (j>(ai (b-i))) (K (.tuple #[ap none,ac 61]) c) (aZ c (.cells #[ag a,ac i,ac j] 276) λa b=>K (.tuple #[ag (ah a),ac 0]) b))))):Cl 159 [ag a,ac i,ac j] h K:=cN Tryz.func159 H
def F241.T:bf:=⟨[],[(1,[[(0,[]),(1,[]),(2,[]),(3,[]),(4,[]),(5,[]),(6,[]),(8,[]),(9,[]),(10,[]),(11,[]),(12,[]),(13,[]),(7,[0,1,8,9,10,11,12,13]),(14,[]),(15,[]),(16,[])]])]⟩
def F241.spec(H:aI .i64 (rd h (a.add 2)) λb=>aI .i64 (rd h (a.add 2)) λc=>Cl 246 [af i,ac b] h λb d=>aI .i64 (some b) λb=>ay (ag a)/\ay (af i)/\ay (ag a)/\ay (ag a)/\ay (ag (a.add 2))/\aI .i64 (rd d (a.add 2)) λe=>az (ac e) (ac c)/\ay (af i)/\ay (aw (i==0))/\aZ d (.cells #[ag a,af i,ac b,ac c,.nilFunc,aw (i==0),ac (-1),ac 61,aq] 350) λa b=>aP b (((ah a).add 4).add 0) (.func (.func 285) #[ag (ah a)] #[]) λb=>K (ag (ah a)) b):Cl 241 [ag a,af i] h K:=cT F241.T Tryz.func241 H
def F242.T:bf:=⟨[(3,[0])],[]⟩
section
variable (a:Addr)(h:aA)(K:KK)
def F242.wk3:Prop:=bA (rd h (a.add 5)) λa=>K (aw a) h
end
def F242.spec(H:bA (rd h (a.add 5)) λb=>aC (!b) (qW (rd h (a.add 4)) λb=>gn Tryz.prog X b [] h λb c=>b=ax/\F242.wk3 a c K) (F242.wk3 a h K)):Cl 242 [ag a] h K:=cT F242.T Tryz.func242 H
def F243.T:bf:=⟨[],[(1,[[(0,[]),(1,[]),(2,[]),(3,[]),(4,[]),(5,[]),(6,[]),(7,[]),(8,[]),(9,[])]])]⟩
def F243.spec(H:aI .i64 (rd h (a.add 6)) λb=>aI .i64 (rd h (a.add 7)) λa=>K (.tuple #[ac b,ac a]) h):Cl 243 [ag a] h K:=cT F243.T Tryz.func243 H
def F244.spec(H:bA (rd h (a.add 8)) λa=>K (aw a) h):Cl 244 [ag a] h K:=cN Tryz.func244 H
def F200.spec(H:aI .i64 (rd h (a.add 2)) λa=>K (ac a) h):Cl 200 [ag a] h K:=cN Tryz.func200 H
def F247.T:bf:=⟨[],[(3,[[(0,[]),(1,[]),(2,[]),(3,[]),(4,[]),(5,[]),(6,[]),(7,[]),(8,[]),(9,[]),(10,[]),(11,[])]])]⟩
def F247.spec(H:aC (i<0) (K (af 0) h) (aI .i64 (rd h (a.add 2)) λb=>aC (i>=b) (K (af 0) h) (bi (rd h (a.add 0)) λb=>aI .i64 (rd h (a.add 1)) λa=>Cl 162 [ap b,ac (ai (a+i))] h λa b=>aI .u64 (some a) λa=>K (af a) b))):Cl 247 [ag a,ac i] h K:=cT F247.T Tryz.func247 H
def F285.T:bf:=⟨[],[(0,[[(0,[]),(1,[]),(2,[]),(3,[]),(4,[]),(5,[]),(6,[]),(7,[]),(8,[]),(9,[]),(10,[]),(11,[]),(12,[]),(13,[]),(14,[]),(15,[]),(16,[]),(17,[]),(18,[]),(19,[])]])]⟩
def F285.spec(H:bi (rd h (a.add 0)) λb=>aN b λb=>bi (rd h (b.add 0)) λb=>bi (rd h (a.add 0)) λc=>aN c λc=>aI .i64 (rd h (c.add 1)) λc=>aI .i64 (rd h (a.add 2)) λd=>Cl 162 [ap b,ac (ai (c+d))] h λb c=>aI .u64 (some b) λb=>aI .u64 (rd c (a.add 1)) λd=>aC (b==d) (aI .i64 (rd c (a.add 2)) λb=>Cl 305 [ag a,ac b,ac 0] c λa b=>a=ax/\K ax b) (aC (b==0) (aP c ((a.add 4).add 0) (.func (.func 306) #[ag a] #[]) λa=>K ax a) (Cl 307 [ag a] c λa b=>a=ax/\K ax b))):Cl 285 [ag a] h K:=cT F285.T Tryz.func285 H
def F305.spec(H:aP h ((a.add 5).add 0) au λb=>aP b ((a.add 6).add 0) (ac i) λb=>aP b ((a.add 7).add 0) (ac j) λa=>K ax a):Cl 305 [ag a,ac i,ac j] h K:=cN Tryz.func305 H
def F306.T:bf:=⟨[],[(1,[[(0,[]),(1,[]),(2,[]),(3,[]),(4,[]),(5,[]),(6,[]),(7,[]),(8,[]),(9,[]),(10,[]),(11,[]),(12,[]),(13,[]),(14,[]),(15,[]),(16,[]),(17,[]),(18,[]),(19,[]),(20,[]),(21,[]),(22,[]),(23,[])]])]⟩
def F306.spec(H:aP h ((a.add 4).add 0) (.func (.func 285) #[ag a] #[]) λb=>bi (rd b (a.add 0)) λc=>aN c λc=>bi (rd b (c.add 0)) λc=>bi (rd b (a.add 0)) λd=>aN d λd=>aI .i64 (rd b (d.add 1)) λd=>aI .i64 (rd b (a.add 2)) λe=>aI .u64 (rd b (a.add 1)) λf=>Cl 163 [ap c,ac (ai (d+e)),af 0,af f] b λb c=>bA (some b) λb=>aC b (aP c ((a.add 8).add 0) au λb=>aI .i64 (rd b (a.add 2)) λc=>Cl 305 [ag a,ac c,ac 0] b λa b=>a=ax/\K ax b) (K ax c)):Cl 306 [ag a] h K:=cT F306.T Tryz.func306 H
def F307.T:bf:=⟨[],[(0,[[(0,[]),(1,[]),(2,[]),(3,[]),(4,[]),(5,[]),(6,[]),(7,[]),(8,[]),(9,[]),(10,[]),(11,[]),(12,[]),(13,[]),(14,[]),(15,[]),(16,[])]])]⟩
def F307.spec(H:aI .i64 (rd h (a.add 2)) λb=>bi (rd h (a.add 0)) λc=>aN c λc=>aI .i64 (rd h (c.add 2)) λc=>c≠0/\aP h ((a.add 2).add 0) (ac (Int.tmod (ai (b+1)) c)) λb=>aI .i64 (rd b (a.add 3)) λc=>aP b ((a.add 3).add 0) (ac (ai (c-1))) λb=>aI .i64 (rd b (a.add 3)) λc=>aC (c==0) (Cl 305 [ag a,ac (-1),ac 60] b λa b=>a=ax/\K ax b) (K ax b)):Cl 307 [ag a] h K:=cT F307.T Tryz.func307 H
end
section
def Cg(x:Int):Int:=aY .xor .u64 x (Int.fdiv x (2^(min (Int.toNat (33:Int)) (IntKind.bits .u64))))
def qq(x:Int):Int:=Cg (IntKind.wrap .u64 (Cg (IntKind.wrap .u64 (Cg x*18397679294719823053))*14181476777654086739))
def pI(x:Int):0<=IntKind.wrap .u64 x/\IntKind.wrap .u64 x<18446744073709551616:=by rw[kb];omega
def nh(x:Int):0<=Cg x/\Cg x<18446744073709551616:=pI _
def vI{h:aA}{x:Int}{K:KK}(hK:K (af (qq x)) h):Cl 286 [af x] h K:=by
 apply F286.spec;unfold F286.wk2;refine⟨3,?_⟩;rw[F286.sL2];rw[show decide ((0:Int)<2)=true from rfl,aG];refine⟨by decide,by decide,aB rfl ⟨by decide,?_⟩⟩;rw[F286.sL2]
 try dsimp only
 rw[show ai ((0:Int)+1)=1 from rfl,show decide ((1:Int)<2)=true from rfl,aG];refine⟨by decide,by decide,aB rfl ⟨by decide,?_⟩⟩;rw[F286.sL2]
 try dsimp only
 rw[show ai ((1:Int)+1)=2 from rfl,show decide ((2:Int)<2)=false from rfl,aD];exact⟨by decide,hK⟩
def ft(key:Int)(n:Nat):Nat:=((qq key).tmod n).toNat
def eH(key:Int){n:Nat}(hn:1<=n):ft key n<n:=by unfold ft;have h0:0<=qq key:=(nh _).1;rw[Int.tmod_eq_emod_of_nonneg h0];have:=Int.emod_lt_of_pos (qq key) (by omega:(0:Int)<n);have:=Int.emod_nonneg (qq key) (by omega:(n:Int)≠0);omega
def jZ{h:aA}{x:Int}{n:Nat}{K:KK}(h1:1<=n)(h2:n<1000000000)(hK:K (ac (ft x n:Int)) h):Cl 246 [af x,ac (n:Int)] h K:=by
 apply F246.spec;rw[decide_eq_false Y,aD];refine vI (aB rfl ?_);rw[bG (n:=(n:Int)) Y Y];have h0:0<=qq x:=(nh _).1
 have e:(qq x).tmod n=(ft x n:Int):=by unfold ft;rw[Int.tmod_eq_emod_of_nonneg h0];have:=Int.emod_nonneg (qq x) (by omega:(n:Int)≠0);omega
 have:=eH x h1;rw[e,wrap_i64 Y Y];exact⟨Y,hK⟩
def da(h:aA)(t m base n:Nat):Prop:=At h t [ag (ah m),ac (base:Int),ac (n:Int)]
def da.only{S:List Nat}{h h':aA}{t m base n:Nat}(H:da h t m base n)(O:aF S h h')(ht:t∉S):da h' t m base n:=At.only H O ht
structure Fi where
 key:Int
 pos:Nat
 left:Nat
 claims:Bool
 done:Bool
 slot:Int
 e:Int
 made:Bool
def BR(f:Nat):Bool->Value
 |true=> .func (.func 306) #[ag (ah f)] #[]
 |false=> .func (.func 285) #[ag (ah f)] #[]
def cF(h:aA)(f t:Nat)(F:Fi):Prop:=
 At h f [ag (ah t),af F.key,ac (F.pos:Int),ac (F.left:Int),BR f F.claims,aw F.done,ac F.slot,ac F.e,aw F.made]
def cF.only{S:List Nat}{h h':aA}{f t:Nat}{F:Fi}(H:cF h f t F)(O:aF S h h')(ht:f∉S):cF h' f t F:=At.only H O ht
def bE(base n:Nat)(cs:List Int)(F:Fi):Fi×List Int:=
 if F.done then(F,cs)else
 if F.claims then
  if cs.getD (base+F.pos) 0=0 then({F with claims:=false,made:=true,done:=true,slot:=F.pos,e:=0},cs.set (base+F.pos) F.key)
  else({F with claims:=false},cs)
 else if cs.getD (base+F.pos) 0=F.key then({F with done:=true,slot:=F.pos,e:=0},cs)
 else if cs.getD (base+F.pos) 0=0 then({F with claims:=true},cs)
 else if F.left=1 then({F with pos:=(F.pos+1)%n,left:=0,done:=true,slot:= -1,e:=60},cs)
 else({F with pos:=(F.pos+1)%n,left:=F.left-1},cs)
def jQ{h:aA}{f t:Nat}{F:Fi}{s e:Int}{K:KK}(H:cF h f t F)
  (hK: ∀h',cF h' f t {F with done:=true,slot:=s,e:=e}->aF [f] h h'->K ax h'):
  Cl 305 [ag (ah f),ac s,ac e] h K:=by
 apply F305.spec;simp only[aE,Nat.zero_add,Nat.add_zero];refine aK H Z rfl λh1 A1 O1 _=>aK A1 Z rfl λh2 A2 O2 _=>aK A2 Z rfl λh3 A3 O3 _=> ?_;exact hK h3 A3 ((O1.trans O2 Z).trans O3 Z)
section
variable {h:aA}{f t m mc base n:Nat}{cs:List Int}{ops fails:Int}{F:Fi}{K:KK}
def uL(T:da h t m base n)(H:cF h f t F)(hn:1<=n)(hn2:n<1000000000)(hp:F.pos<n)(hl:1<=F.left)(hl2:F.left<1000000000)
  (hK: ∀h',cF h' f t (if F.left=1 then {F with pos:=(F.pos+1)%n,left:=0,done:=true,slot:= -1,e:=60}else {F with pos:=(F.pos+1)%n,left:=F.left-1})->aF [f] h h'->K ax h'):
  Cl 307 [ag (ah f)] h K:=by
 apply F307.spec;simp only[aE,Nat.zero_add,Nat.add_zero];refine aB (by rw[At.rd H];rfl) (aJ (by rw[At.rd H];rfl) ?_);simp only[aL,aE,Nat.zero_add];refine aB (by rw[At.rd T];rfl) ⟨Y,aK H Z rfl λh1 A1 O1 _=> ?_⟩
 have e1:(ai ((F.pos:Int)+1)).tmod n=(((F.pos+1)%n:Nat):Int):=by rw[wrap_i64 Y Y,Int.tmod_eq_emod_of_nonneg Y];simp
 rw[e1]at A1;refine aB (by rw[A1.rd];rfl) (aK A1 Z rfl λh2 A2 O2 _=> ?_);rw[wrap_i64 Y Y]at A2
 have A2:cF h2 f t {F with pos:=(F.pos+1)%n,left:=F.left-1}:=by rw[show(F.left:Int)-1=((F.left-1:Nat):Int) by omega]at A2;exact A2
 have O12:=O1.trans O2 Z;refine aB (n:=((F.left-1:Nat):Int)) (by rw[At.rd A2];rfl) ?_;by_cases h1:F.left=1
 ·rw[show(((F.left-1:Nat):Int)==0)=true by simp[h1],aG];refine jQ A2 λh3 A3 O3=>⟨rfl,hK h3 ?_ (O12.trans O3 Z)⟩;rw[if_pos h1];simpa[h1]using A3
 ·rw[show(((F.left-1:Nat):Int)==0)=false by simp;omega,aD];refine hK h2 ?_ O12;rw[if_neg h1];exact A2
def uk(T:da h t m base n)(H:cF h f t F)(M:bg h m mc cs ops fails)(hn:1<=n)(hn2:n<1000000000)(hb:base<1000000000)(hp:F.pos<n)(hl:F.done=false->1<=F.left)(hl2:F.left<1000000000)
  (hc:base+n<=cs.length) (d1:f≠t) (d2:f≠m) (d3:f≠mc) (d4:t≠m) (d5:t≠mc)
  (hK: ∀h' fails',cF h' f t (bE base n cs F).1->da h' t m base n->bg h' m mc (bE base n cs F).2 (if F.done then ops else up ops) fails'->aF [f,m,mc] h h'->K (aw (bE base n cs F).1.done) h'):
  Cl 242 [ag (ah f)] h K:=by
 apply F242.spec;simp only[aE,Nat.zero_add];refine aQ (n:=F.done) (by rw[At.rd H];rfl) ?_
 have hend: ∀h' fails',cF h' f t (bE base n cs F).1->da h' t m base n->bg h' m mc (bE base n cs F).2 (if F.done then ops else up ops) fails'->aF [f,m,mc] h h'->F242.wk3 (ah f) h' K:=by intro h' fails' a1 a2 a3 a4;unfold F242.wk3;simp only[aE,Nat.zero_add];exact aQ (by rw[At.rd a1];rfl) (hK h' fails' a1 a2 a3 a4)
 cases hd:F.done with
 |true=>
  rw[Bool.not_true,aD];have e:bE base n cs F=(F,cs):=by unfold bE;rw[if_pos hd]
  rw[e,hd]at hend;exact hend h fails H T M (aF.refl _ _)
 |false=>
  rw[Bool.not_false,aG];have hb2:ai ((base:Int)+(F.pos:Int))=((base+F.pos:Nat):Int):=by rw[wrap_i64 Y Y];simp
  have hi:base+F.pos<cs.length:=Y;have hg:cs.getD (((base+F.pos:Nat):Int).toNat) 0=cs.getD (base+F.pos) 0:=by rw[Int.toNat_natCast]
  rw[hd]at hend;have hs: ∀b∈[m,mc],b∈[f,m,mc]:=by simp+contextual
  cases hcl:F.claims with
  |false=>
   refine⟨_,by rw[At.rd H];rfl,?_⟩;rw[hcl];refine bz (by kernel_rfl) ?_;refine F285.spec ?_;simp only[aE,Nat.zero_add,Nat.add_zero];refine aJ (by rw[At.rd H];rfl) ?_;simp only[aL,aE,Nat.zero_add];refine aJ (by rw[At.rd T];rfl) (aJ (by rw[At.rd H];rfl) ?_);simp only[aL,aE,Nat.zero_add];refine aB (by rw[At.rd T];rfl) (aB (by rw[At.rd H];rfl) ?_);rw[hb2];refine dC M Y Y λh1 M1 O1=>aB rfl ?_;have H1:=H.only O1 (by simp[d2,d3]);have T1:=T.only O1 (by simp[d4,d5]);have Q1:=O1.mono (T:=[f,m,mc]) λb hb _=>hs b hb;rw[hg];refine aB (n:=F.key) (by rw[At.rd H1];rfl) ?_;unfold bE at hend;rw[if_neg (by simp[hd]),if_neg (by simp[hcl])]at hend;by_cases hk:cs.getD (base+F.pos) 0=F.key
   ·rw[if_pos hk]at hend;rw[show(cs.getD (base+F.pos) 0==F.key)=true by simpa using hk,aG];refine aB (by rw[At.rd H1];rfl) (jQ H1 λh2 H2 O2=>⟨by trivial,by trivial,?_⟩);exact hend h2 fails H2 (T1.only O2 (by simp[d1.symm])) (M1.only O2 (by simp[d2.symm]) (by simp[d3.symm])) (Q1.trans O2 Z)
   ·rw[if_neg hk]at hend;rw[show(cs.getD (base+F.pos) 0==F.key)=false by simpa using hk,aD];by_cases hz:cs.getD (base+F.pos) 0=0
    ·rw[if_pos hz]at hend;rw[show(cs.getD (base+F.pos) 0==0)=true by simpa using hz,aG];refine aK H1 Z rfl λh2 A2 O2 _=>⟨by trivial,?_⟩;exact hend h2 fails A2 (T1.only O2 (by simp[d1.symm])) (M1.only O2 (by simp[d2.symm]) (by simp[d3.symm])) (Q1.trans O2 Z)
    ·rw[if_neg hz]at hend;rw[show(cs.getD (base+F.pos) 0==0)=false by simpa using hz,aD];refine uL T1 H1 hn hn2 hp (hl hd) hl2 λh2 H2 O2=>⟨by trivial,by trivial,?_⟩;have T2:=T1.only O2 (by simp[d1.symm]);have M2:=M1.only O2 (by simp[d2.symm]) (by simp[d3.symm]);have Q2:=Q1.trans O2 Z;by_cases h1:F.left=1
     ·rw[if_pos h1]at hend H2;exact hend h2 fails H2 T2 M2 Q2
     ·rw[if_neg h1]at hend H2;exact hend h2 fails H2 T2 M2 Q2
  |true=>
   refine⟨_,by rw[At.rd H];rfl,?_⟩;rw[hcl];refine bz (by kernel_rfl) ?_;refine F306.spec ?_;simp only[aE,Nat.zero_add,Nat.add_zero];refine aK H Z rfl λh1 A1 O1 _=> ?_;have H1:cF h1 f t {F with claims:=false}:=A1;have T1:=T.only O1 (by simp[d1.symm]);have M1:=M.only O1 (by simp[d2.symm]) (by simp[d3.symm]);have Q1:=O1.mono (T:=[f,m,mc]) λb hb _=>(by simp at hb;simp[hb]);refine aJ (by rw[At.rd H1];rfl) ?_;simp only[aL,aE,Nat.zero_add];refine aJ (by rw[At.rd T1];rfl) (aJ (by rw[At.rd H1];rfl) ?_);simp only[aL,aE,Nat.zero_add];refine aB (by rw[At.rd T1];rfl) (aB (by rw[At.rd H1];rfl) (aB (n:=F.key) (by rw[At.rd H1];rfl) ?_));rw[hb2];unfold bE at hend;rw[if_neg (by simp[hd]),if_pos (by simp[hcl])]at hend;refine mE M1 Y Y (λe h2 M2 O2=> ?_) λe h2 M2 O2=> ?_
   ·rw[hg]at e;rw[if_pos e]at hend;rw[bC,aG];refine aK (H1.only O2 (by simp[d2,d3])) Z rfl λh3 A3 O3 _=> ?_;have H3:cF h3 f t {F with claims:=false,made:=true}:=A3;refine aB (by rw[At.rd H3];rfl) (jQ H3 λh4 H4 O4=>⟨by trivial,by trivial,?_⟩);have O34:=O3.trans O4 Z;rw[Int.toNat_natCast]at M2;exact hend h4 fails H4 ((T1.only O2 (by simp[d4,d5])).only O34 (by simp[d1.symm])) (M2.only O34 (by simp[d2.symm]) (by simp[d3.symm])) ((Q1.trans O2 λb hb _=>hs b hb).trans O34 Z)
   ·rw[hg]at e;rw[if_neg e]at hend;rw[bC,aD];exact⟨by trivial,hend h2 (up fails) (H1.only O2 (by simp[d2,d3])) (T1.only O2 (by simp[d4,d5])) M2 (Q1.trans O2 λb hb _=>hs b hb)⟩
def gI(key:Int)(n:Nat):Fi:=⟨key,ft key n,n,false,key==0,-1,61,false⟩
def tY{key:Int}(T:da h t m base n)(hn:1<=n)(hn2:n<1000000000)
  (hK: ∀f h',cF h' f t (gI key n)->aF [] h h'->h.size<=f->K (ag (ah f)) h'):
  Cl 241 [ag (ah t),af key] h K:=by
 apply F241.spec;simp only[aE,Nat.zero_add,Nat.add_zero];have hr:rd h ⟨t,2,none⟩=some (ac (n:Int)):=by rw[At.rd T];rfl
 refine aB hr (aB hr (jZ hn hn2 (aB rfl ⟨trivial,trivial,trivial,trivial,trivial,aB hr ⟨rfl,trivial,trivial,?_⟩⟩)));refine aM λh1 A1 O1 z1=>aK A1 Z rfl λh2 A2 O2 _=> ?_;exact hK h.size h2 A2 (O1.trans O2 λb hb hl=>absurd (show b=h.size by simpa using hb) Y) (Nat.le_refl _)
def u1(H:cF h f t F)(hK:K (aw F.made) h):Cl 244 [ag (ah f)] h K:=by apply F244.spec;simp only[aE,Nat.zero_add];exact aQ (by rw[At.rd H];rfl) hK
def uJ(H:cF h f t F)(hK:K (.tuple #[ac F.slot,ac F.e]) h):Cl 243 [ag (ah f)] h K:=by apply F243.spec;simp only[aE,Nat.zero_add];exact aB (by rw[At.rd H];rfl) (aB (by rw[At.rd H];rfl) hK)
def gc(T:da h t m base n)(hK:K (ac (n:Int)) h):Cl 200 [ag (ah t)] h K:=by apply F200.spec;simp only[aE,Nat.zero_add];exact aB (by rw[At.rd T];rfl) hK
def qU{base n:Nat}(M:bg h m mc cs ops fails)(hn:1<=n)(hb:base+n<=cs.length)(hc:cs.length<1000000000)
  (hK: ∀t h',da h' t m base n->aF [] h h'->h.size<=t->K (.tuple #[ag (ah t),ac 0]) h'):
  Cl 159 [ag (ah m),ac (base:Int),ac (n:Int)] h K:=by
 apply F159.spec;rw[decide_eq_false Y,aD,decide_eq_false Y,aD];refine fN M (aB rfl ?_);rw[decide_eq_false Y,aD];refine fN M (aB rfl ?_);rw[wrap_i64 Y Y,decide_eq_false Y,aD];exact aM λh1 A1 O1 z1=>hK h.size h1 A1 O1 (Nat.le_refl _)
end
end
section
def cell(base:Nat)(cs:List Int)(i:Nat):Int:=cs.getD (base+i) 0
def cnt(base:Nat)(cs:List Int):Nat->Nat
 |0=>0
 |n+1=>cnt base cs n+(if cell base cs n=0 then 0 else 1)
section
variable {h:aA}{t m mc base n:Nat}{cs:List Int}{ops fails:Int}{K:KK}
def yw(T:da h t m base n)(M:bg h m mc cs ops fails)(hb:base<1000000000)(hn:n<1000000000)(hc:base+n<=cs.length){i:Nat}(hi:i<n)
  (hK: ∀h',bg h' m mc cs (up ops) fails->aF [m,mc] h h'->K (af (cell base cs i)) h'):
  Cl 247 [ag (ah t),ac (i:Int)] h K:=by
 apply F247.spec;simp only[aE,Nat.zero_add];rw[decide_eq_false Y,aD];refine aB (n:=(n:Int)) (by rw[At.rd T];rfl) ?_;rw[decide_eq_false Y,aD];refine aJ (by rw[At.rd T];rfl) (aB (by rw[At.rd T];rfl) ?_);rw[show ai ((base:Int)+(i:Int))=((base+i:Nat):Int) by rw[wrap_i64 Y Y];simp];refine dC M Y Y λh1 M1 O1=>aB rfl ?_;rw[Int.toNat_natCast];exact hK h1 M1 O1
end
end
section
def path(n:Nat)(key:Int)(d:Nat):Nat:=(ft key n+d)%n
def pn{n:Nat}{key:Int}{d:Nat}(hn:1<=n):path n key d<n:=Nat.mod_lt _ Y
def nN{n:Nat}{key:Int}{i:Nat}(hi:i<n): ∃d,d<n/\path n key d=i:=by
 have hh:=eH key (show 1<=n by omega);by_cases h:ft key n<=i
 ·exact⟨i-ft key n,Y,by unfold path;rw[show ft key n+(i-ft key n)=i by omega];exact Nat.mod_eq_of_lt hi⟩
 ·exact⟨i+n-ft key n,Y,by unfold path;rw[show ft key n+(i+n-ft key n)=i+n by omega,Nat.add_mod_right];exact Nat.mod_eq_of_lt hi⟩
def ul{n:Nat}{key:Int}{d:Nat}:path n key (d+1)=(path n key d+1)%n:=by unfold path;rw[<-Nat.add_assoc,Nat.mod_add_mod]
def m7(base n:Nat)(cs:List Int)(key:Int)(d:Nat):Prop:= ∀j,j<d->cell base cs (path n key j)≠0/\cell base cs (path n key j)≠key
def iO(base n:Nat)(cs:List Int):Prop:=
 ∀i,i<n->cell base cs i≠0-> ∃d,d<n/\path n (cell base cs i) d=i/\m7 base n cs (cell base cs i) d
structure CO(base n:Nat)(cs:List Int)(F:Fi):Prop where
 pos:F.pos<n
 left:F.left<=n
 going:F.done=false->F.key≠0/\1<=F.left/\F.pos=path n F.key (n-F.left)/\m7 base n cs F.key (n-F.left)/\F.made=false/\F.slot= -1/\F.e=61
 ended:F.done=true->(F.key=0/\F.slot= -1/\F.e=61/\F.made=false)\/(F.key≠0/\F.e=0/\ ∃i:Nat,i<n/\F.slot=i/\cell base cs i=F.key)\/
  (F.key≠0/\F.e=60/\F.slot= -1/\F.made=false/\ ∀i,i<n->cell base cs i≠0/\cell base cs i≠F.key)
def il(base n:Nat)(cs cs':List Int):Prop:=cs'.length=cs.length/\(∀i,i<n->cell base cs i≠0->cell base cs' i=cell base cs i)/\ ∀x,x<base\/base+n<=x->cs'.getD x 0=cs.getD x 0
def il.refl(base n:Nat)(cs:List Int):il base n cs cs:=⟨rfl,λ_ _ _=>rfl,λ_ _=>rfl⟩
def il.trans{base n:Nat}{a b c:List Int}(H:il base n a b)(G:il base n b c):il base n a c:=
 ⟨G.1.trans H.1,λi hi h=>by rw[G.2.1 i hi (by rw[H.2.1 i hi h];exact h),H.2.1 i hi h],λx hx=>(G.2.2 x hx).trans (H.2.2 x hx)⟩
def m7.grow{base n:Nat}{cs cs':List Int}{key:Int}{d:Nat}(hn:1<=n)(H:m7 base n cs key d)(G:il base n cs cs'):m7 base n cs' key d:=by intro j hj;obtain⟨a,b⟩:=H j hj;rw[G.2.1 _ (pn hn) a];exact⟨a,b⟩
def xE{base n:Nat}{cs:List Int}{key:Int}(hn:1<=n):CO base n cs (gI key n):=by
 refine⟨eH key hn,Nat.le_refl _,λhd=> ?_,λhd=> ?_⟩
 ·have hk:key≠0:=by simpa[gI]using hd
  refine⟨hk,hn,?_,?_,rfl,rfl,rfl⟩
  ·show ft key n=path n key (n-n);unfold path;rw[Nat.sub_self,Nat.add_zero,Nat.mod_eq_of_lt (eH key hn)]
  ·intro j hj;simp[gI]at hj
 ·have hk:key=0:=by simpa[gI]using hd
  exact Or.inl ⟨hk,rfl,rfl,rfl⟩
section
variable {base n:Nat}{cs:List Int}{F:Fi}
def gO{i j:Nat}{v:Int}(hi:base+i<cs.length):cell base (cs.set (base+i) v) j=if j=i then v else cell base cs j:=by
 unfold cell;by_cases h:j=i
 ·subst h;simp[hi]
 ·simp only[List.getD,List.getElem?_set,if_neg (by omega: ¬base+i=base+j),if_neg h]
def iO.absent(T:iO base n cs){key:Int}{d:Nat}(hd:d<n)(hk:key≠0)(S:m7 base n cs key d)(hz:cell base cs (path n key d)=0): ∀j,j<n->cell base cs j≠key:=by
 intro j hj e;obtain⟨d',h1,h2,h3⟩:=T j hj (by rw[e];exact hk);rw[e]at h2 h3;by_cases c1:d'<d
 ·have:=(S d' c1).2;rw[h2]at this;exact this e
 ·by_cases c2:d'=d
  ·subst c2;rw[h2,e]at hz;exact hk hz
  ·exact(h3 d Y).1 hz
def qg{i:Nat}{v:Int}(hi:i<n)(hc:base+n<=cs.length)(hz:cell base cs i=0):il base n cs (cs.set (base+i) v):=by
 refine⟨Z,λj hj hnz=> ?_,λx hx=> ?_⟩
 ·rw[gO Y,if_neg (λe=>hnz (by rw[e];exact hz))]
 ·simp only[List.getD,List.getElem?_set,if_neg (by omega: ¬base+i=x)]
def iO.set(hn:1<=n)(hc:base+n<=cs.length)(T:iO base n cs){key:Int}{d:Nat}(hd:d<n)(S:m7 base n cs key d)(hz:cell base cs (path n key d)=0):
  iO base n (cs.set (base+path n key d) key):=by
 have hp:path n key d<n:=pn hn;have G:=qg (v:=key) hp hc hz;intro i hi hnz;rw[gO Y]at hnz ⊢;by_cases h:i=path n key d
 ·rw[if_pos h];exact⟨d,hd,h.symm,S.grow hn G⟩
 ·rw[if_neg h]at hnz ⊢;obtain⟨d',h1,h2,h3⟩:=T i hi hnz;exact⟨d',h1,h2,h3.grow hn G⟩
def xQ(hn:1<=n)(hc:base+n<=cs.length)(T:iO base n cs)(H:CO base n cs F):
  iO base n (bE base n cs F).2/\CO base n (bE base n cs F).2 (bE base n cs F).1/\il base n cs (bE base n cs F).2/\(bE base n cs F).1.key=F.key/\
  (((bE base n cs F).1.made=F.made/\(bE base n cs F).2=cs)\/
   (F.done=false/\F.made=false/\(bE base n cs F).1.made=true/\(bE base n cs F).1.done=true/\(bE base n cs F).1.slot=F.pos/\(bE base n cs F).1.e=0/\F.pos<n/\cell base cs F.pos=0/\F.key≠0/\(∀j,j<n->cell base cs j≠F.key)/\(bE base n cs F).2=cs.set (base+F.pos) F.key)):=by
 unfold bE;by_cases hd:F.done=true
 ·rw[if_pos hd];exact⟨T,H,il.refl _ _ _,rfl,Or.inl ⟨rfl,rfl⟩⟩
 ·rw[if_neg hd];have hd':F.done=false:=by simpa using hd
  obtain⟨hk,hl,hp,S,hm,hs,he⟩:=H.going hd';have hdn:n-F.left<n:=Y;by_cases hcl:F.claims=true
  ·rw[if_pos hcl];by_cases hz:cs.getD (base+F.pos) 0=0
   ·rw[if_pos hz];have hz':cell base cs F.pos=0:=hz;have hz2:cell base cs (path n F.key (n-F.left))=0:=by rw[<-hp];exact hz'
    refine⟨?_,⟨H.pos,H.left,λh=>by simp at h,λ_=>Or.inr (Or.inl ⟨hk,rfl,F.pos,H.pos,rfl,?_⟩)⟩,qg H.pos hc hz',rfl,
     Or.inr ⟨hd',hm,rfl,rfl,rfl,rfl,H.pos,hz',hk,T.absent hdn hk S hz2,rfl⟩⟩
    ·have:=T.set hn hc hdn S hz2;rw[<-hp]at this;exact this
    ·rw[gO (by have:=H.pos;omega),if_pos rfl]
   ·rw[if_neg hz];exact⟨T,⟨H.pos,H.left,λ_=>⟨hk,hl,hp,S,hm,hs,he⟩,λh=>absurd h hd⟩,il.refl _ _ _,rfl,Or.inl ⟨rfl,rfl⟩⟩
  ·rw[if_neg hcl];by_cases hkey:cs.getD (base+F.pos) 0=F.key
   ·rw[if_pos hkey];exact⟨T,⟨H.pos,H.left,λh=>by simp at h,λ_=>Or.inr (Or.inl ⟨hk,rfl,F.pos,H.pos,rfl,hkey⟩)⟩,il.refl _ _ _,rfl,Or.inl ⟨rfl,rfl⟩⟩
   ·rw[if_neg hkey];by_cases hz:cs.getD (base+F.pos) 0=0
    ·rw[if_pos hz];exact⟨T,⟨H.pos,H.left,λ_=>⟨hk,hl,hp,S,hm,hs,he⟩,λh=>absurd h hd⟩,il.refl _ _ _,rfl,Or.inl ⟨rfl,rfl⟩⟩
    ·rw[if_neg hz]
     have S':m7 base n cs F.key (n-F.left+1):=by
      intro j hj;by_cases h':j<n-F.left
      ·exact S j h'
      ·obtain rfl:j=n-F.left:=Y;rw[<-hp];exact⟨hz,hkey⟩
     have hp':(F.pos+1)%n<n:=Nat.mod_lt _ Y;by_cases h1:F.left=1
     ·rw[if_pos h1];refine⟨T,⟨hp',Nat.zero_le _,λh=>by simp at h,λ_=>Or.inr (Or.inr ⟨hk,rfl,rfl,hm,λi hi=> ?_⟩)⟩,il.refl _ _ _,rfl,Or.inl ⟨rfl,rfl⟩⟩;obtain⟨d,hd1,hd2⟩:=nN (key:=F.key) hi;rw[<-hd2];exact S' d Y
     ·rw[if_neg h1];refine⟨T,⟨hp',by have:=H.left;show F.left-1<=n;omega,λ_=>⟨hk,by show 1<=F.left-1;omega,?_,?_,hm,hs,he⟩,λh=>absurd h hd⟩,il.refl _ _ _,rfl,Or.inl ⟨rfl,rfl⟩⟩
      ·show(F.pos+1)%n=path n F.key (n-(F.left-1));have:=H.left;rw[show n-(F.left-1)=(n-F.left)+1 by omega,ul,<-hp]
      ·show m7 base n cs F.key (n-(F.left-1));have:=H.left;rw[show n-(F.left-1)=(n-F.left)+1 by omega];exact S'
def qZ(base:Nat)(cs:List Int)(F:Fi):Nat:=
 if F.done then 0 else 3*(F.left-1)+(if F.claims then 2 else if cell base cs F.pos=0 then 3 else 1)
def fF(h:F.done=true):qZ base cs F=0:=by unfold qZ;rw[if_pos h]
def iU(h:F.done=false)(hc:F.claims=true):qZ base cs F=3*(F.left-1)+2:=by unfold qZ;rw[if_neg (by simp[h]),if_pos hc]
def kL(h:F.done=false)(hc:F.claims=false)(hz:cell base cs F.pos=0):qZ base cs F=3*(F.left-1)+3:=by unfold qZ;rw[if_neg (by simp[h]),if_neg (by simp[hc]),if_pos hz]
def kG(h:F.done=false)(hc:F.claims=false)(hz:cell base cs F.pos≠0):qZ base cs F=3*(F.left-1)+1:=by unfold qZ;rw[if_neg (by simp[h]),if_neg (by simp[hc]),if_neg hz]
def rz(h:F.done=false)(hc:F.claims=false):qZ base cs F<=3*(F.left-1)+3/\3*(F.left-1)+1<=qZ base cs F:=by
 by_cases hz:cell base cs F.pos=0
 ·rw[kL h hc hz];omega
 ·rw[kG h hc hz];omega
def yx{key:Int}(hn:1<=n):qZ base cs (gI key n)<=3*n:=by
 by_cases h:(gI key n).done=true
 ·rw[fF h];omega
 ·have:=(rz (base:=base) (cs:=cs) (F:=gI key n) (by simpa using h) rfl).1;have e:(gI key n).left=n:=rfl;rw[e]at this;omega
def vy(H:CO base n cs F)(hd:F.done=false):qZ base (bE base n cs F).2 (bE base n cs F).1<qZ base cs F:=by
 obtain⟨hk,hl,hp,S,hm,hs,he⟩:=H.going hd;by_cases hcl:F.claims=true
 ·rw[iU hd hcl];by_cases hz:cs.getD (base+F.pos) 0=0
  ·rw[fF (by unfold bE;rw[if_neg (by simp[hd]),if_pos hcl,if_pos hz])];omega
  ·have e:bE base n cs F=({F with claims:=false},cs):=by unfold bE;rw[if_neg (by simp[hd]),if_pos hcl,if_neg hz]
   rw[e,kG (F:={F with claims:=false}) hd rfl hz];show 3*(F.left-1)+1<_;omega
 ·have hcl':F.claims=false:=by simpa using hcl
  have hle:=rz (base:=base) (cs:=cs) hd hcl';by_cases hkey:cs.getD (base+F.pos) 0=F.key
  ·rw[fF (by unfold bE;rw[if_neg (by simp[hd]),if_neg hcl,if_pos hkey])];omega
  ·by_cases hz:cs.getD (base+F.pos) 0=0
   ·have e:bE base n cs F=({F with claims:=true},cs):=by unfold bE;rw[if_neg (by simp[hd]),if_neg hcl,if_neg hkey,if_pos hz]
    rw[e,iU (F:={F with claims:=true}) hd rfl,kL hd hcl' hz];show 3*(F.left-1)+2<_;omega
   ·by_cases h1:F.left=1
    ·rw[fF (by unfold bE;rw[if_neg (by simp[hd]),if_neg hcl,if_neg hkey,if_neg hz,if_pos h1])];omega
    ·have e:bE base n cs F=({F with pos:=(F.pos+1)%n,left:=F.left-1},cs):=by unfold bE;rw[if_neg (by simp[hd]),if_neg hcl,if_neg hkey,if_neg hz,if_neg h1]
     have h2:=(rz (base:=base) (cs:=cs) (F:={F with pos:=(F.pos+1)%n,left:=F.left-1}) hd hcl').1;rw[e];refine Nat.lt_of_le_of_lt h2 ?_;show 3*(F.left-1-1)+3<_;omega
def w9(H:qZ base cs F=0):F.done=true:=by
 unfold qZ at H;by_cases h:F.done=true
 ·exact h
 ·rw[if_neg h]at H;split at H
  ·omega
  ·split at H<;>omega
def xH(base n:Nat)(cs0 cs:List Int)(F:Fi):Prop:=
 CO base n cs F/\iO base n cs/\il base n cs0 cs/\((F.made=false/\cs=cs0)\/(F.made=true/\F.done=true/\F.e=0/\F.key≠0/\ ∃i:Nat,i<n/\F.slot=i/\cell base cs0 i=0/\(∀j,j<n->cell base cs0 j≠F.key)/\cs=cs0.set (base+i) F.key))
def xH.new{cs0:List Int}{key:Int}(hn:1<=n)(T:iO base n cs0):xH base n cs0 cs0 (gI key n):=
 ⟨xE hn,T,il.refl _ _ _,Or.inl ⟨rfl,rfl⟩⟩
def xH.step{cs0:List Int}(hn:1<=n)(hc:base+n<=cs.length)(R:xH base n cs0 cs F):xH base n cs0 (bE base n cs F).2 (bE base n cs F).1/\(bE base n cs F).1.key=F.key:=by
 obtain⟨H,T,G,D⟩:=R;obtain⟨s1,s2,s3,s4,s5⟩:=xQ hn hc T H;refine⟨⟨s2,s1,G.trans s3,?_⟩,s4⟩;rcases D with⟨d1,d2⟩|⟨d1,d2,d3,d4,d5⟩
 ·subst d2;rcases s5 with⟨e1,e2⟩|⟨e1,e2,e3,e4,e5,e6,e7,e8,e9,e10,e11⟩
  ·exact Or.inl ⟨e1.trans d1,e2⟩
  ·exact Or.inr ⟨e3,e4,e6,by rw[s4];exact e9,F.pos,e7,e5,e8,by rw[s4];exact e10,by rw[s4];exact e11⟩
 ·have e:bE base n cs F=(F,cs):=by unfold bE;rw[if_pos d2]
  rw[e];exact Or.inr ⟨d1,d2,d3,d4,d5⟩
def zk{i:Nat}{v:Int}(hv:v≠0)(hz:cell base cs i=0)(hi:base+i<cs.length): ∀m,cnt base (cs.set (base+i) v) m=cnt base cs m+(if i<m then 1 else 0):=by
 intro m
 induction m with
 |zero=>rfl
 |succ m ih=>
  unfold cnt;rw[ih,gO hi];by_cases h:m=i
  ·subst h;simp[hv,hz]
  ·rw[if_neg h];by_cases h':i<m
   ·rw[if_pos h',if_pos (by omega:i<m+1)];omega
   ·rw[if_neg h',if_neg (by omega: ¬i<m+1)];omega
def xq: ∀m,(∀i,i<m->cell base cs i≠0)->cnt base cs m=m:=by
 intro m
 induction m with
 |zero=>intro _;rfl
 |succ m ih=>
  intro h;unfold cnt;rw[ih λi hi=>h i Y,if_neg (h m Y)]
def vj: ∀m,(∀i,i<m->cell base cs i=0)->cnt base cs m=0:=by
 intro m
 induction m with
 |zero=>intro _;rfl
 |succ m ih=>
  intro h;unfold cnt;rw[ih λi hi=>h i Y,if_pos (h m Y)]
def iO.empty(h: ∀i,i<n->cell base cs i=0):iO base n cs:=λi hi hnz=>absurd (h i hi) hnz
end
end
section
def pH(l a b:Nat):Nat:=l*2^56+(a*2^28+b)
def xx{l a b l' a' b':Nat}(ha:a<2^28)(hb:b<2^28)(ha':a'<2^28)(hb':b'<2^28)(e:pH l a b=pH l' a' b'):l=l'/\a=a'/\b=b':=by unfold pH at e;omega
def lc{a:Nat}(ha:a<2^32):(BitVec.ofInt 32 (a:Int)).toNat=a:=by rw[BitVec.toNat_ofInt];omega
def gi{a:Nat}(ha:a<2^32):IntKind.wrap .u32 (a:Int)=a:=by simp[IntKind.wrap,IntKind.bits,IntKind.signed];omega
def wZ{a b:Nat}(ha:a<2^32)(hb:b<2^32):aY .and .u32 (a:Int) (b:Int)=((a&&&b:Nat):Int):=by unfold aY;show IntKind.wrap .u32 ((BitVec.ofInt 32 (a:Int)&&&BitVec.ofInt 32 (b:Int)).toNat:Int)=_;rw[BitVec.toNat_and,lc ha,lc hb];exact gi (by have:= @Nat.and_le_left a b;omega)
def zF{a:Nat}(ha:a<2^28):aY .and .u32 (a:Int) 268435455=(a:Int):=by rw[show(268435455:Int)=((2^28-1:Nat):Int) by rfl,wZ Y (by decide),Nat.and_two_pow_sub_one_eq_mod,Nat.mod_eq_of_lt ha]
def zN{h:aA}{l a b:Nat}{K:KK}(hl:l<256)(ha:a<2^28)(hb:b<2^28)(hK:K (af ((pH l a b:Nat):Int)) h):
  Cl 198 [ac (l:Int),ae (a:Int),ae (b:Int)] h K:=by
 refine F198.spec ?_;refine F245.spec ?_;have U: ∀{x:Nat},x<2^64->IntKind.wrap .u64 (x:Int)=(x:Int):=λh=>kI (by unfold eU;omega)
 have e1:IntKind.wrap .u64 ((IntKind.wrap .u64 (IntKind.wrap .u8 (l:Int)))*2^(min (Int.toNat (56:Int)) (IntKind.bits .u64)))=((l<<<56:Nat):Int):=by rw[show IntKind.wrap .u8 (l:Int)=(l:Int)from m9 hl,U Y,show min (Int.toNat (56:Int)) (IntKind.bits .u64)=56 by rfl,show(l:Int)*2^56=((l*2^56:Nat):Int) by omega,U Y,Nat.shiftLeft_eq]
 have e2:IntKind.wrap .u64 ((IntKind.wrap .u64 (aY .and .u32 (a:Int) 268435455))*2^(min (Int.toNat (28:Int)) (IntKind.bits .u64)))=((a<<<28:Nat):Int):=by rw[zF ha,U Y,show min (Int.toNat (28:Int)) (IntKind.bits .u64)=28 by rfl,show(a:Int)*2^28=((a*2^28:Nat):Int) by omega,U Y,Nat.shiftLeft_eq]
 refine⟨Y,Y,aB rfl ?_⟩;rw[e1,e2,zF hb,U Y];have s1:l<<<56<eU:=by rw[Nat.shiftLeft_eq];unfold eU;omega
 have s2:a<<<28<eU:=by rw[Nat.shiftLeft_eq];unfold eU;omega
 have s3:b<eU:=by unfold eU;omega
 rw[zZ s1 s2,zZ (kD s1 s2) s3,Nat.or_assoc,<-Nat.shiftLeft_add_eq_or_of_lt hb,<-Nat.shiftLeft_add_eq_or_of_lt (by rw[Nat.shiftLeft_eq];omega),Nat.shiftLeft_eq,Nat.shiftLeft_eq];exact hK
end
section
set_option maxRecDepth 100000 in
def yY{h:aA}{s t m mc T:Nat}{cs:List Int}{ops fails key:Int}{K:KK}(hp:rd h ⟨s,4,none⟩=some (ag (ah t)))
  (Tb:da h t m 0 T) (M:bg h m mc cs ops fails) (hn:1<=T) (hn2:T<1000000000) (hc:cs.length=T) (d4:t≠m) (d5:t≠mc) (bt:t<h.size) (bm:m<h.size) (bmc:mc<h.size)
  (I:iO 0 T cs) (hk:key≠0) (habs: ∀j,j<T->cell 0 cs j≠key) {z:Nat} (hz:z<T) (hz0:cell 0 cs z=0)
  (hK: ∀h' i ops' fails',i<T->cell 0 cs i=0->da h' t m 0 T->bg h' m mc (cs.set i key) ops' fails'->iO 0 T (cs.set i key)->aF [m,mc] h h'->K (.tuple #[ac (i:Int),au]) h'):
  Cl 197 [ag (ah s),af key] h K:=by
 refine F197.spec _ _ h K ?_;simp only[aE,Nat.zero_add];refine aJ hp ?_;refine tY Tb hn hn2 λf h1 H1 O1 hf=>aJ rfl ?_;unfold F197.wk3;have ht:=Tb.only O1 Z;have hm:=M.only O1 Z Z
 have fin: ∀(F:Fi) (cs':List Int) (h':aA) (ops' fails':Int),F.done=true->xH 0 T cs cs' F->F.key=key->cF h' f t F->da h' t m 0 T->bg h' m mc cs' ops' fails'->aF [m,mc] h h'->
   F197.wk4 (some (ah f)) h' K:=by
  intro F cs' h' ops' fails' hd R ek H Tb M O;unfold F197.wk4;refine uJ H ⟨_,_,rfl,u1 H (aQ rfl ?_)⟩;obtain⟨R1,R2,R3,R4⟩:=R;have ze:cell 0 cs z=0:=hz0;rcases R4 with⟨r1,r2⟩|⟨r1,r2,r3,r4,i,r5,r6,r7,r8,r9⟩
  ·subst r2;rcases R1.ended hd with⟨e1,_⟩|⟨_,_,i,hi,_,e4⟩|⟨_,_,_,_,e5⟩
   ·exact absurd (ek▸e1) hk
   ·exact absurd (e4.trans ek) (habs i hi)
   ·exact absurd ze (e5 z hz).1
  ·rw[r6,r1];rw[Nat.zero_add,ek]at r9;rw[r9]at M R2;exact hK h' i _ _ r5 r7 Tb M R2 O
 have pass: ∀(d:Nat) (F:Fi) (cs':List Int) (h':aA) (ops' fails':Int),xH 0 T cs cs' F->F.key=key->cF h' f t F->da h' t m 0 T->bg h' m mc cs' ops' fails'->aF [m,mc] h h'->
   (F.done=false-> ∀h'' ops'' fails'',(bE 0 T cs' F).1.done=false->xH 0 T cs (bE 0 T cs' F).2 (bE 0 T cs' F).1->(bE 0 T cs' F).1.key=key->cF h'' f t (bE 0 T cs' F).1->da h'' t m 0 T->bg h'' m mc (bE 0 T cs' F).2 ops'' fails''->aF [m,mc] h h''->
    F197.wL3 d (some (ah f)) (.func (.func 242) #[ag (ah f)] #[]) h'' K)->
   F197.wL3 (d+1) (some (ah f)) (.func (.func 242) #[ag (ah f)] #[]) h' K:=by
  intro d F cs' h' ops' fails' R ek H Tb M O nx;have hl':cs'.length=T:=R.2.2.1.1.trans hc;obtain⟨R',ek'⟩:=R.step hn Y;rw[F197.sL3];refine bz (by kernel_rfl) ?_;refine uk Tb H M hn hn2 Y R.1.pos (λhd=>(R.1.going hd).2.1) (by have:=R.1.left;omega) Y Y Y Y d4 d5 λh2 fails2 H2 T2 M2 O2=>aQ rfl ?_;have O':aF [m,mc] h h2:=O.trans O2 (by intro b hb hl;simp at hb ⊢;omega);refine aH (λhb=> ?_) λhb=> ?_
  ·have hb:(bE 0 T cs' F).1.done=false:=by simpa using hb
   refine nx ?_ h2 _ _ hb R' (ek'.trans ek) H2 T2 M2 O';cases hd:F.done with
   |false=>rfl
   |true=>
    have e:bE 0 T cs' F=(F,cs'):=by unfold bE;rw[if_pos hd]
    rw[e,hd]at hb;exact absurd hb Z
  ·have hb:(bE 0 T cs' F).1.done=true:=by simpa using hb
   exact fin _ _ _ _ _ hb R' (ek'.trans ek) H2 T2 M2 O'
 have main: ∀(d:Nat) (F:Fi) (cs':List Int) (h':aA) (ops' fails':Int),qZ 0 cs' F<=d->xH 0 T cs cs' F->F.key=key->cF h' f t F->da h' t m 0 T->bg h' m mc cs' ops' fails'->aF [m,mc] h h'->
   F197.wL3 (d+1) (some (ah f)) (.func (.func 242) #[ag (ah f)] #[]) h' K:=by
  intro d
  induction d with
  |zero=> 
   intro F cs' h' ops' fails' hd R ek H Tb M O;refine pass 0 F cs' h' ops' fails' R ek H Tb M O λhf=> ?_;rw[w9 (base:=0) (cs:=cs') (F:=F) Y]at hf;exact absurd hf Z
  |succ d ih=>
   intro F cs' h' ops' fails' hd R ek H Tb M O;refine pass (d+1) F cs' h' ops' fails' R ek H Tb M O λhf h2 o2 f2 _ R' ek' H' T' M' O'=> ?_;exact ih _ _ _ _ _ (by have:=vy (base:=0) (cs:=cs') R.1 hf;omega) R' ek' H' T' M' O'
 exact⟨_,main (3*T) (gI key T) cs h1 ops fails (yx hn) (xH.new hn I) rfl H1 ht hm (by have:=(aF.refl [m,mc] h).trans O1 Z;exact this)⟩
end
section
def bU(h:aA)(b:Nat)(k:IntKind)(m:List (Int×Value)):Prop:=
 ∃es cl,mp h b=some (es,cl)/\es.toList.map (λe=>(e.key,e.val))=m.map (λp=>(Value.int k p.1,p.2))/\(m.map (·.1)).Nodup/\(es.toList.map (·.born)).Nodup/\ ∀e∈es.toList,e.born<cl
def bU.lt{h:aA}{b:Nat}{k:IntKind}{m:List (Int×Value)}(H:bU h b k m):b<h.size:=by
 obtain⟨es,cl,h1,-⟩:=H;unfold mp at h1;cases hh:h[b]? with
 |none=>rw[hh]at h1;cases h1
 |some o=>exact(Array.getElem?_eq_some_iff.1 hh).1
def bU.only{S:List Nat}{h h':aA}{b:Nat}{k:IntKind}{m:List (Int×Value)}(H:bU h b k m)(O:aF S h h')(hb:b∉S):bU h' b k m:=by have hl:=H.lt;obtain⟨es,cl,h1,h2⟩:=H;refine⟨es,cl,?_,h2⟩;unfold mp at h1 ⊢;rw[O.same b hl hb];exact h1
def oq{h:aA}{b:Nat}{es:Array MapEntry}{cl:Nat}(h1:mp h b=some (es,cl)):h[b]? =some (.map es cl):=by
 unfold mp at h1;cases hh:h[b]? with
 |none=>rw[hh]at h1;cases h1
 |some o=>
  rw[hh]at h1;cases o with
  |map a c=>injection h1 with h1;injection h1 with e1 e2;subst e1;subst e2;rfl
  |_=>cases h1
def aF.map{h:aA}{b:Nat}{es:Array MapEntry}{cl:Nat}(h1:mp h b=some (es,cl))(es':Array MapEntry)(cl':Nat):aF [b] h (h.setIfInBounds b (.map es' cl')):=by
 have ho:=oq h1;refine⟨Z,λj hj hb=> ?_,λa=> ?_⟩
 ·rw[Array.getElem?_setIfInBounds,if_neg (λe=>hb (by simp[e]))]
 ·unfold fz;rw[Array.getElem?_setIfInBounds];by_cases e:b=a.block
  ·subst e;rw[if_pos rfl,if_pos (Array.getElem?_eq_some_iff.1 ho).1,ho]
  ·rw[if_neg e]
def oM{h:aA}{b:Nat}{es:Array MapEntry}{cl:Nat}(h1:mp h b=some (es,cl))(es':Array MapEntry)(cl':Nat):mp (h.setIfInBounds b (.map es' cl')) b=some (es',cl'):=by unfold mp;rw[Array.getElem?_setIfInBounds,if_pos rfl,if_pos (Array.getElem?_eq_some_iff.1 (oq h1)).1]
def gH{k:IntKind}{x:Int}: ∀(es:List MapEntry) (m:List (Int×Value)) (i:Nat),es.map (λe=>(e.key,e.val))=m.map (λp=>(Value.int k p.1,p.2))->
  (Instr.findNow (.int k) (.int k x) es i=some none/\m.lookup x=none/\ ∀p∈m,p.1≠x)\/
  ∃j v m1 m2,Instr.findNow (.int k) (.int k x) es i=some (some (i+j,v))/\m=m1++(x,v)::m2/\m1.length=j/\m.lookup x=some v/\(∀p∈m1,p.1≠x)
 | [],[],i,_=>Or.inl ⟨rfl,rfl,Z⟩
 | [],_::_,_,h=>by simp at h
 |_::_,[],_,h=>by simp at h
 |e::es,p::m,i,h=>by
  simp only[List.map_cons,List.cons.injEq,Prod.mk.injEq]at h;obtain⟨⟨h1,h2⟩,h3⟩:=h;by_cases hx:x=p.1
  ·subst hx;refine Or.inr ⟨0,p.2,[],m,?_,rfl,rfl,?_,Z⟩
   ·simp[Instr.findNow,Instr.sameNow,h1,h2]
   ·simp[List.lookup]
  ·have hs:Instr.sameNow (.int k) (.int k x) e.key=some false:=by simp[Instr.sameNow,h1,hx]
   rcases gH es m (i+1) h3 with⟨a,b,c⟩|⟨j,v,m1,m2,a,b,c,d,f⟩
   ·refine Or.inl ⟨?_,?_,?_⟩
    ·simp only[Instr.findNow,hs];exact a
    ·simp only[List.lookup,show(x==p.1)=false by simp[hx]];exact b
    ·intro q hq;rcases List.mem_cons.1 hq with rfl|hq
     ·exact λe=>hx e.symm
     ·exact c q hq
   ·refine Or.inr ⟨j+1,v,p::m1,m2,?_,by rw[b];rfl,by simp[c],?_,?_⟩
    ·simp only[Instr.findNow,hs];rw[a]
     congr 3
     omega
    ·simp only[List.lookup,show(x==p.1)=false by simp[hx]];exact d
    ·intro q hq;rcases List.mem_cons.1 hq with rfl|hq
     ·exact λe=>hx e.symm
     ·exact f q hq
def dt{h:aA}{b:Nat}{k:IntKind}{m:List (Int×Value)}{x:Int}{K:Option (Nat×Value)->Prop}(H:bU h b k m)
  (hN:m.lookup x=none->K none) (hS: ∀i v,m.lookup x=some v->K (some (i,v))):dW h (some b) k k x K:=by
 obtain⟨es,cl,h1,h2,h3,-⟩:=H;refine⟨es,cl,h1,?_⟩;rcases gH (x:=x) es.toList m 0 h2 with⟨a,c,-⟩|⟨j,v,m1,m2,a,c,d,e,-⟩
 ·exact⟨_,a,hN c⟩
 ·exact⟨_,a,hS _ v e⟩
def iP(m:List (Int×Value))(x:Int)(v:Value):List (Int×Value):=if(m.lookup x).isSome then m.map (λp=>if p.1=x then(x,v)else p)else m++[(x,v)]
def jn(m:List (Int×Value))(x:Int):List (Int×Value):=m.filter λp=>p.1≠x
def mV{m m':List (Int×Value)}{x:Int}:(m++m').lookup x=(m.lookup x).or (m'.lookup x):=by
 induction m with
 |nil=>simp[List.lookup]
 |cons p m ih=>
  simp only[List.cons_append,List.lookup];cases x==p.1<;>simp[ih]
def nc{m:List (Int×Value)}{x:Int}{v:Value}:(iP m x v).map (·.1)=if(m.lookup x).isSome then m.map (·.1)else m.map (·.1)++[x]:=by
 unfold iP;split
 ·rw[List.map_map];apply List.map_congr_left;intro p _;simp only[Function.comp];split
  ·next e=>exact e.symm
  ·rfl
 ·simp
def dz{m:List (Int×Value)}{x:Int}:m.lookup x=none↔x∉m.map (·.1):=by
 induction m with
 |nil=>simp[List.lookup]
 |cons p m ih=>
  simp only[List.lookup,List.map_cons,List.mem_cons,not_or];by_cases h:x=p.1
  ·subst h;simp
  ·simp only[show(x==p.1)=false by simp[h]];rw[ih];exact⟨λa=>⟨h,a⟩,λa=>a.2⟩
def cH{m:List (Int×Value)}{x y:Int}{v:Value}:(iP m x v).lookup y=if y=x then some v else m.lookup y:=by
 unfold iP;split
 ·next hs=>
  induction m with
  |nil=>simp[List.lookup]at hs
  |cons p m ih=>
   simp only[List.map_cons,List.lookup];by_cases hp:p.1=x
   ·rw[if_pos hp];by_cases hy:y=x
    ·subst hy;simp
    ·rw[if_neg hy];have e1:(y==x)=false:=by simp[hy]
     have e2:(y==p.1)=false:=by simp[hp,hy]
     simp only[e1,e2];clear ih hs
     induction m with
     |nil=>rfl
     |cons r m ih2=>
      simp only[List.map_cons,List.lookup];by_cases hr:r.1=x
      ·rw[if_pos hr];have e3:(y==r.1)=false:=by simp[hr,hy]
       simp only[e1,e3];exact ih2
      ·rw[if_neg hr];cases y==r.1
       ·exact ih2
       ·rfl
   ·rw[if_neg hp]
    have hs':(m.lookup x).isSome:=by simp only[List.lookup,show(x==p.1)=false by simp[Ne.symm hp]]at hs;exact hs
    by_cases hy:y=p.1
    ·subst hy;simp[hp]
    ·have e1:(y==p.1)=false:=by simp[hy]
     simp only[e1];exact ih hs'
 ·next hs=>
  have hn:m.lookup x=none:=by
   cases hh:m.lookup x with
   |none=>rfl
   |some v=>rw[hh]at hs;exact absurd rfl hs
  rw[mV];by_cases hy:y=x
  ·subst hy;rw[hn,if_pos rfl];simp[List.lookup]
  ·rw[if_neg hy];simp[List.lookup,show(y==x)=false by simp[hy]]
def pJ{m:List (Int×Value)}{x y:Int}:(jn m x).lookup y=if y=x then none else m.lookup y:=by
 unfold jn
 induction m with
 |nil=>simp[List.lookup]
 |cons p m ih=>
  by_cases hp:p.1=x
  ·rw[List.filter_cons_of_neg (by simp[hp]),ih];by_cases hy:y=x
   ·rw[if_pos hy,if_pos hy]
   ·rw[if_neg hy,if_neg hy];simp[List.lookup,show(y==p.1)=false by simp[hp,hy]]
  ·rw[List.filter_cons_of_pos (by simp[hp])];simp only[List.lookup];by_cases hy:y=p.1
   ·subst hy;simp[hp]
   ·simp only[show(y==p.1)=false by simp[hy]];exact ih
def yQ{m1 m2:List (Int×Value)}{x:Int}{v v':Value}(h1: ∀p∈m1,p.1≠x)(h2: ∀p∈m2,p.1≠x):(m1++(x,v)::m2).map (λp=>if p.1=x then(x,v')else p)=m1++(x,v')::m2:=by
 have e: ∀l:List (Int×Value),(∀p∈l,p.1≠x)->l.map (λp=>if p.1=x then(x,v')else p)=l:=by
  intro l hl
  conv=>rhs;rw[<-List.map_id l]
  apply List.map_congr_left;intro p hp;rw[if_neg (hl p hp)]
  rfl
 rw[List.map_append,List.map_cons,if_pos rfl,e m1 h1,e m2 h2]
def uw{m1 m2:List (Int×Value)}{x:Int}{v:Value}(h:((m1++(x,v)::m2).map (·.1)).Nodup):(∀p∈m1,p.1≠x)/\ ∀p∈m2,p.1≠x:=by rw[List.map_append,List.map_cons]at h;obtain⟨h1,h2,h3⟩:=List.nodup_append.1 h;refine⟨λp hp e=>h3 p.1 (List.mem_map.2 ⟨p,hp,rfl⟩) x Z e,λp hp e=> ?_⟩;exact(List.nodup_cons.1 h2).1 (List.mem_map.2 ⟨p,hp,e⟩)
def nE{h:aA}{b:Nat}{k:IntKind}{m:List (Int×Value)}{x:Int}(H:bU h b k m):
  ∃es cl,mp h b=some (es,cl)/\((Instr.findNow (.int k) (.int k x) es.toList 0=some none/\m.lookup x=none/\bU (h.setIfInBounds b (.map es cl)) b k (jn m x)/\
    (∀v,bU (h.setIfInBounds b (.map (es.push {key:= .int k x,val:=v,born:=cl}) (cl+1))) b k (iP m x v)))\/
   ∃j v,Instr.findNow (.int k) (.int k x) es.toList 0=some (some (j,v))/\m.lookup x=some v/\Instr.sameBits 10000 (((es[j]?).map (·.key)).getD (.int k x)) (.int k x)=true/\
    bU (h.setIfInBounds b (.map (es.eraseIdxIfInBounds j) cl)) b k (jn m x)/\(∃e,es[j]? =some e/\e.key= .int k x/\e.val=v/\ ∀i e',es[i]? =some e'->e'.key= .int k x->i=j)/\
    ∀(g:MapEntry->MapEntry) v',(∀e,es[j]? =some e->(g e).key= .int k x/\(g e).val=v'/\(g e).born=e.born)->bU (h.setIfInBounds b (.map (es.modify j g) cl)) b k (iP m x v')):=by
 obtain⟨es,cl,h1,h2,h3,h4,h5⟩:=H;refine⟨es,cl,h1,?_⟩;rcases gH (x:=x) es.toList m 0 h2 with⟨a,c,c'⟩|⟨j,v,m1,m2,a,c,d,e,e'⟩
 ·refine Or.inl ⟨a,c,⟨es,cl,oM h1 _ _,?_,?_,h4,h5⟩,λv=>⟨_,_,oM h1 _ _,?_,?_,?_,?_⟩⟩
  ·rw[show jn m x=m from List.filter_eq_self.2 λp hp=>by simp[c' p hp]];exact h2
  ·rw[show jn m x=m from List.filter_eq_self.2 λp hp=>by simp[c' p hp]];exact h3
  ·unfold iP;rw[if_neg (by simp[c])];simp[h2]
  ·rw[nc,if_neg (by simp[c])];refine List.nodup_append.2 ⟨h3,Z,λy hy z hz=> ?_⟩;simp at hz;subst hz;intro e;subst e;exact dz.1 c hy
  ·simp only[Array.toList_push,List.map_append];refine List.nodup_append.2 ⟨h4,Z,λy hy z hz=> ?_⟩;simp at hz;subst hz;obtain⟨e0,he0,rfl⟩:=List.mem_map.1 hy;have:=h5 e0 he0;omega
  ·intro e0 he0;simp only[Array.toList_push,List.mem_append,List.mem_singleton]at he0;rcases he0 with he0|rfl
   ·have:=h5 e0 he0;omega
   ·exact Nat.lt_succ_self _
 ·subst c;obtain⟨n1,n2⟩:=uw h3;rw[Nat.zero_add]at a
  have hjl:j<es.size:=by have:=congrArg List.length h2;simp at this;omega
  have hget:es.toList.map (λe=>(e.key,e.val))=m1.map (λp=>(Value.int k p.1,p.2))++(Value.int k x,v)::m2.map (λp=>(Value.int k p.1,p.2)):=by rw[h2];simp
  have hj5:(es.toList.map (λe=>(e.key,e.val)))[j]? =some (Value.int k x,v):=by rw[hget,List.getElem?_append_right (by simp[d])];simp[d]
  obtain⟨e0,he0,hk0,hv0⟩: ∃e0,es[j]? =some e0/\e0.key= .int k x/\e0.val=v:=by
   rw[List.getElem?_map]at hj5;cases hh:es[j]? with
   |none=>simp[hh]at hj5
   |some e0=>
    simp[hh]at hj5;exact⟨e0,rfl,hj5.1,hj5.2⟩
  have huniq: ∀i e',es[i]? =some e'->e'.key= .int k x->i=j:=by
   intro i e' hi hk;have h6:=congrArg (λl=>l[i]?) hget;simp only[List.getElem?_map]at h6;rw[show es.toList[i]? =some e' by rw[<-hi];simp]at h6;by_cases hlt:i<j
   ·rw[List.getElem?_append_left (by simp;omega),List.getElem?_map]at h6;cases hm:m1[i]? with
    |none=>simp[hm]at h6
    |some p=>
     simp[hm,hk]at h6;exact absurd h6.1.symm (n1 p (List.mem_of_getElem? hm))
   ·by_cases hgt:j<i
    ·rw[List.getElem?_append_right (by simp;omega)]at h6;obtain⟨r,hr⟩: ∃r,i=j+1+r:=⟨i-j-1,Y⟩;subst hr;simp only[List.length_map,d]at h6;rw[show j+1+r-j=r+1 by omega,List.getElem?_cons_succ,List.getElem?_map]at h6;cases hm:m2[r]? with
     |none=>simp[hm]at h6
     |some p=>
      simp[hm,hk]at h6;exact absurd h6.1.symm (n2 p (List.mem_of_getElem? hm))
    ·omega
  refine Or.inr ⟨j,v,a,e,?_,⟨_,_,oM h1 _ _,?_,?_,?_,?_⟩,⟨e0,he0,hk0,hv0,huniq⟩,λg v' hg=>⟨_,_,oM h1 _ _,?_,?_,?_,?_⟩⟩
  ·rw[he0];simp[Instr.sameBits,hk0]
  ·have hd:jn (m1++(x,v)::m2) x=m1++m2:=by
    unfold jn;rw[List.filter_append,List.filter_cons_of_neg Z,List.filter_eq_self.2 (λp hp=>by simp[n1 p hp]),List.filter_eq_self.2 (λp hp=>by simp[n2 p hp])]
   rw[hd];simp only[Array.eraseIdxIfInBounds,hjl,dif_pos,Array.toList_eraseIdx];rw[List.eraseIdx_eq_take_drop_succ,List.map_append,List.map_take,List.map_drop,hget];have l1:(m1.map (λp=>(Value.int k p.1,p.2))).length=j:=by simp[d]
   rw[<-l1,List.take_left,List.drop_append,List.drop_eq_nil_of_le Y];simp
  ·have:=h3.sublist (l₁:=(jn (m1++(x,v)::m2) x).map (·.1)) (List.Sublist.map _ List.filter_sublist);exact this
  ·simp only[Array.eraseIdxIfInBounds,hjl,dif_pos,Array.toList_eraseIdx];exact h4.sublist (List.Sublist.map _ (List.eraseIdx_sublist _ _))
  ·simp only[Array.eraseIdxIfInBounds,hjl,dif_pos,Array.toList_eraseIdx];exact λe1 he1=>h5 e1 ((List.eraseIdx_sublist _ _).subset he1)
  ·unfold iP;rw[if_pos (by simp[e]),yQ n1 n2];rw[Array.toList_modify];apply List.ext_getElem?;intro i;rw[List.getElem?_map,List.getElem?_modify];have h6:=congrArg (λl=>l[i]?) hget;simp only[List.getElem?_map]at h6;by_cases hi:j=i
   ·subst hi;simp only[if_true];rw[show es.toList[j]? =some e0 by rw[<-he0];simp];obtain⟨g1,g2,-⟩:=hg e0 he0;rw[List.map_append,List.map_cons,List.getElem?_append_right (by simp[d])];simp[d,g1,g2]
   ·simp only[hi,if_false];rw[List.map_append,List.map_cons];rw[show((λa:MapEntry=>a)<$>es.toList[i]?)=es.toList[i]? by cases es.toList[i]? <;>rfl];rw[h6];by_cases hlt:i<j
    ·rw[List.getElem?_append_left (by simp;omega),List.getElem?_append_left (by simp;omega)]
    ·rw[List.getElem?_append_right (by simp;omega),List.getElem?_append_right (by simp;omega)];obtain⟨r,hr⟩: ∃r,i=j+1+r:=⟨i-j-1,Y⟩;subst hr;simp only[List.length_map,d];rw[show j+1+r-j=r+1 by omega]
     rfl
  ·rw[nc,if_pos (by simp[e])];exact h3
  ·rw[show(es.modify j g).toList.map (·.born)=es.toList.map (·.born)from ?_]
   ·exact h4
   ·rw[Array.toList_modify];apply List.ext_getElem?;intro i;rw[List.getElem?_map,List.getElem?_modify,List.getElem?_map];by_cases hi:j=i
    ·subst hi;rw[show es.toList[j]? =some e0 by rw[<-he0];simp];simp[(hg e0 he0).2.2]
    ·simp only[hi,if_false];cases es.toList[i]? <;>rfl
  ·intro e1 he1;rw[Array.toList_modify]at he1;obtain⟨i,hi⟩:=List.mem_iff_getElem?.1 he1;rw[List.getElem?_modify]at hi;by_cases hij:j=i
   ·subst hij;rw[show es.toList[j]? =some e0 by rw[<-he0];simp]at hi;simp at hi;subst hi;rw[(hg e0 he0).2.2];exact h5 e0 (List.mem_of_getElem? (i:=j) (by rw[<-he0];simp))
   ·simp only[hij,if_false]at hi
    have:es.toList[i]? =some e1:=by
     cases hh:es.toList[i]? with
     |none=>rw[hh]at hi;cases hi
     |some e2=>rw[hh]at hi;exact hi
    exact h5 e1 (List.mem_of_getElem? this)
def ir{h:aA}{b:Nat}{k:IntKind}{m:List (Int×Value)}{x:Int}{v:Value}{K:aA->Prop}(H:bU h b k m)(hK: ∀h',bU h' b k (iP m x v)->aF [b] h h'->h'.size=h.size->K h'):qv h (some b) k k x v K:=by
 obtain⟨es,cl,h1,h2⟩:=nE (x:=x) H;refine⟨es,cl,h1,?_⟩;rcases h2 with⟨a,c,d,e⟩|⟨j,v0,a,c,d,e,f,g⟩
 ·exact⟨_,a,hK _ (e v) (aF.map h1 _ _) Z⟩
 ·exact⟨_,a,d,hK _ (g _ v λe _=>⟨rfl,rfl,rfl⟩) (aF.map h1 _ _) Z⟩
def tP{h:aA}{b:Nat}{k:IntKind}{m:List (Int×Value)}{x:Int}{K:aA->Prop}(H:bU h b k m)(hK: ∀h',bU h' b k (jn m x)->aF [b] h h'->h'.size=h.size->K h'):zp h (some b) k k x K:=by
 obtain⟨es,cl,h1,h2⟩:=nE (x:=x) H;refine⟨es,cl,h1,?_⟩;rcases h2 with⟨a,c,d,e⟩|⟨j,v0,a,c,d,e,f,g⟩
 ·exact⟨_,a,hK _ d (aF.map h1 _ _) Z⟩
 ·exact⟨_,a,hK _ e (aF.map h1 _ _) Z⟩
def bU.empty{h:aA}{b:Nat}{k:IntKind}(h1:mp h b=some (#[],0)):bU h b k []:=⟨#[],0,h1,rfl,Z,Z,Z⟩
end
section
abbrev Nd:=Nat×Nat×Nat
def kf(x:Nd):Nat:=pH x.1 x.2.1 x.2.2
def lA(x:Nd):Prop:=x.1<256/\x.2.1<2^28/\x.2.2<2^28/\x.2.1≠x.2.2
def qD{x:Nd}(h:lA x):kf x≠0:=by obtain⟨a,b,c,d⟩:=h;unfold kf pH;omega
def wT{x y:Nd}(h:lA x)(g:lA y)(e:kf x=kf y):x=y:=by obtain⟨a,b,c⟩:=x;obtain⟨a',b',c'⟩:=y;obtain⟨e1,e2,e3⟩:=xx h.2.1 h.2.2.1 g.2.1 g.2.2.1 e;dsimp only at e1 e2 e3;rw[e1,e2,e3]
def nd(N:aj)(i:Nat):Option Nd:=(N[i]?).join
def aT(N:aj):Nat:=N.countP (·.isSome)
def eS{N:aj}{i:Nat}{x:Nd}:nd N i=some x↔N[i]? =some (some x):=by
 unfold nd;cases h:N[i]? with
 |none=>simp
 |some o=>simp
def tA{N:aj}{i:Nat}{x:Nd}(h:nd N i=some x):i<N.length:=(List.getElem?_eq_some_iff.1 (eS.1 h)).1
def lI{N:aj}{i:Nat}(h:N.length<=i):nd N i=none:=by
 unfold nd;rw[List.getElem?_eq_none h]
 rfl
def rQ{N:aj}{o:Option Nd}(k:Nat):nd (N++[o]) k=if k=N.length then o else nd N k:=by
 unfold nd;by_cases h:k<N.length
 ·rw[List.getElem?_append_left h,if_neg Y]
 ·by_cases e:k=N.length
  ·subst e;rw[if_pos rfl];simp
  ·rw[if_neg e,List.getElem?_eq_none (by simp;omega),List.getElem?_eq_none Y]
def lO{N:aj}{i:Nat}{o:Option Nd}(hi:i<N.length)(k:Nat):nd (N.set i o) k=if k=i then o else nd N k:=by
 unfold nd;rw[List.getElem?_set];by_cases e:i=k
 ·subst e;rw[if_pos rfl,if_pos hi,if_pos rfl]
  rfl
 ·rw[if_neg e,if_neg (Ne.symm e)]
def kV(N:aj)(o:Option Nd):aT (N++[o])=aT N+if o.isSome then 1 else 0:=by unfold aT;rw[List.countP_append,List.countP_singleton]
def kX: ∀N:aj,aT N<=N.length:=λN=>List.countP_le_length
def mj{x:Nd}: ∀{N:aj} {i:Nat},N[i]? =some none->aT (N.set i (some x))=aT N+1
 | [],i,h=>by simp at h
 |o::N,0,h=>by simp at h;subst h;simp[aT]
 |o::N,i+1,h=>by have:=mj (x:=x) (N:=N) (i:=i) (by simpa using h);unfold aT at this ⊢;rw[List.set_cons_succ,List.countP_cons,List.countP_cons,this];omega
def pW{y:Nd}: ∀{N:aj} {i:Nat},N[i]? =some (some y)->aT (N.set i none)+1=aT N
 | [],i,h=>by simp at h
 |o::N,0,h=>by simp at h;subst h;simp[aT]
 |o::N,i+1,h=>by have:=pW (y:=y) (N:=N) (i:=i) (by simpa using h);unfold aT at this ⊢;rw[List.set_cons_succ,List.countP_cons,List.countP_cons,<-this];omega
structure ky(T:Nat)(cs:List Int)(mm:List (Int×Value))(N:aj):Prop where
 len:cs.length=T
 inv:iO 0 T cs
 cells: ∀j,j<T->cell 0 cs j=0\/ ∃i x,nd N i=some x/\cell 0 cs j=(kf x:Int)/\mm.lookup (j:Int)=some (ae ((i+2:Nat):Int))
 all: ∀i x,nd N i=some x-> ∃j,j<T/\cell 0 cs j=(kf x:Int)
 cnt:cnt 0 cs T=aT N
 ok: ∀i x,nd N i=some x->lA x
def ky.congr{T:Nat}{cs:List Int}{mm:List (Int×Value)}{N N':aj}(L:ky T cs mm N)(h: ∀k,nd N' k=nd N k)(hc:aT N'=aT N):ky T cs mm N':=
 ⟨L.len,L.inv,λj hj=>by
  rcases L.cells j hj with e|⟨i,x,e1,e2⟩
  ·exact .inl e
  ·exact .inr ⟨i,x,by rw[h];exact e1,e2⟩,λi x e=>L.all i x (by rw[<-h];exact e),by rw[hc];exact L.cnt,λi x e=>L.ok i x (by rw[<-h];exact e)⟩
def uA{cs:List Int}: ∀T,cnt 0 cs T<T-> ∃z,z<T/\cell 0 cs z=0:=λT h=>by
 by_cases e: ∃z,z<T/\cell 0 cs z=0
 ·exact e
 ·have:=xq T λi hi hz=>e ⟨i,hi,hz⟩;omega
def pG(N:aj)(k:Nat):Prop:= ∀i x,nd N i=some x->kf x≠k
def ky.absent{T:Nat}{cs:List Int}{mm:List (Int×Value)}{N:aj}(L:ky T cs mm N){k:Nat}(hk:k≠0)(hn:pG N k): ∀j,j<T->cell 0 cs j≠(k:Int):=λj hj e=>by
 rcases L.cells j hj with h|⟨i,x,h1,h2,_⟩
 ·omega
 ·exact hn i x h1 Y
set_option maxRecDepth 100000 in
def ky.put{T:Nat}{cs:List Int}{mm:List (Int×Value)}{N N':aj}{q:Nat}(L:ky T cs mm N){x:Nd}(hx:lA x){i:Nat}(hi:i<T)(hz:cell 0 cs i=0)(I:iO 0 T (cs.set i (kf x)))
  (hq:nd N q=none) (hN: ∀k,nd N' k=if k=q then some x else nd N k) (hc:aT N'=aT N+1):
  ky T (cs.set i (kf x)) (iP mm (i:Int) (ae ((q+2:Nat):Int))) N':=by
 have hi':0+i<cs.length:=by have:=L.len;omega
 have cell': ∀j,cell 0 (cs.set i (kf x:Int)) j=if j=i then(kf x:Int)else cell 0 cs j:=λj=>by have:=gO (base:=0) (cs:=cs) (i:=i) (j:=j) (v:=(kf x:Int)) hi';rw[Nat.zero_add]at this;exact this
 have kx:=qD hx;refine⟨by rw[List.length_set];exact L.len,I,λj hj=> ?_,λk y hy=> ?_,?_,λk y hy=> ?_⟩
 ·rw[cell' j,cH];by_cases e:j=i
  ·subst e;rw[if_pos rfl,if_pos rfl];exact .inr ⟨q,x,by rw[hN,if_pos rfl],rfl,rfl⟩
  ·rw[if_neg e,if_neg Y];rcases L.cells j hj with h|⟨k,y,h1,h2,h3⟩
   ·exact .inl h
   ·refine .inr ⟨k,y,?_,h2,h3⟩;rw[hN,if_neg]
    ·exact h1
    ·intro e2;subst e2;rw[hq]at h1;cases h1
 ·rw[hN]at hy;split at hy
  ·injection hy with hy;subst hy;exact⟨i,hi,by rw[cell' i,if_pos rfl]⟩
  ·obtain⟨j,h1,h2⟩:=L.all k y hy;refine⟨j,h1,?_⟩;rw[cell' j,if_neg ?_]
   ·exact h2
   ·intro e;subst e;rw[hz]at h2;have:=qD (L.ok k y hy);omega
 ·have:=zk (base:=0) (cs:=cs) (i:=i) (v:=(kf x:Int)) Y hz hi' T;rw[Nat.zero_add,if_pos hi]at this;rw[this,L.cnt,hc]
 ·rw[hN]at hy;split at hy
  ·injection hy with hy;subst hy;exact hx
  ·exact L.ok k y hy
set_option maxRecDepth 100000 in
def wK{h:aA}{s t m mc sb T q:Nat}{S:List Value}{cs:List Int}{ops fails:Int}{mm:List (Int×Value)}{N N':aj}{x:Nd}{K:KK}(A:At h s S)
  (hp4:S[4]? =some (ag (ah t))) (hp5:S[5]? =some (.map (some sb))) (ds:s∉[m,mc,sb])
  (Tb:da h t m 0 T) (M:bg h m mc cs ops fails) (Mp:bU h sb .i64 mm) (hn2:T<1000000000) (d4:t∉[m,mc,sb]) (d7:m≠sb) (d8:mc≠sb) (bt:t<h.size) (bm:m<h.size) (bmc:mc<h.size)
  (L:ky T cs mm N) (hx:lA x) (hnew:pG N (kf x)) (hroom:aT N<T) (hq:nd N q=none) (hN: ∀k,nd N' k=if k=q then some x else nd N k) (hc:aT N'=aT N+1)
  (hK: ∀h' cs' mm' ops' fails',At h' s S->da h' t m 0 T->bg h' m mc cs' ops' fails'->bU h' sb .i64 mm'->ky T cs' mm' N'->aF [m,mc,sb] h h'->K ax h'):
  Cl 160 [ag (ah s),ae ((q+2:Nat):Int),.agg #[au,ac (x.1:Int),ae (x.2.1:Int),ae (x.2.2:Int)]] h K:=by
 simp only[List.mem_cons,List.not_mem_nil,or_false,not_or]at d4 ds;refine F160.spec _ _ _ _ _ _ h K ?_;simp only[aE,Nat.zero_add];refine aM λh1 A1 O1 z1=> ?_;refine aB (by rw[At.rd A1];rfl) (aB (by rw[At.rd A1];rfl) (aB (by rw[At.rd A1];rfl) ?_));refine zN hx.1 hx.2.1 hx.2.2.1 (aB rfl ?_);obtain⟨z,hz,hz0⟩:=uA (cs:=cs) T (by rw[L.cnt];exact hroom);have As:=A.only O1 Z
 refine yY (t:=t) (by rw[At.rd As];exact hp4) (Tb.only O1 Z) (M.only O1 Z Z) Y hn2 L.len d4.1 d4.2.1 Y Y Y L.inv (by have:=qD hx;unfold kf at this;omega)
  (L.absent (qD hx) hnew) hz hz0 λh2 i o2 f2 hi hi0 T2 M2 I2 O2=>⟨_,_,rfl,?_⟩
 have As2:=As.only O2 (by simp;omega);refine⟨_,(by rw[At.rd As2];exact hp5),?_⟩;refine ir ((Mp.only O1 Z).only O2 (by simp;omega)) λh3 M3 O3 z3=> ?_;refine hK h3 _ _ _ _ (As2.only O3 (by simp;omega)) (T2.only O3 (by simp;omega)) (M2.only O3 (by simp;omega) (by simp;omega)) M3 (L.put hx hi hi0 I2 hq hN hc) ?_;exact(((aF.refl [m,mc,sb] h).trans O1 Z).trans O2 (by intro b hb _;simp at hb ⊢;omega)).trans O3 (by intro b hb _;simp at hb ⊢;omega)
end
section
variable {i j k l m n o p q r s t:Int}{a b c d:Addr}{u v:Nat}{x y:ak}{h:aA}{K:KK}
def F108.T:bf:=⟨[(3,[3,13,14])],[(5,[[(0,[]),(1,[]),(2,[]),(3,[]),(4,[]),(5,[]),(6,[]),(7,[]),(8,[]),(10,[]),(11,[]),(9,[2,3,5,10,11]),(12,[]),(13,[])]])]⟩
section
variable (n:Nat)(d:Int)(b:Addr)(c a:Int)(h:aA)(K:KK)
def F108.wL3:Prop:=Lp Tryz.f108 F108.T [1,1,0,1,0] n [(3,(ag b)),(13,(ac c)),(14,(ac a))] h K
def F108.sL3:F108.wL3 (n+1) b c a h K=(aC (a<c) ((0<=a/\a<8/\aP h (((b.add 1).add (a.toNat*1)).add 0) (ac a) λd=>ay (ag b)/\ay (ac a)/\ay (ac a)/\ay (ag b)/\ay (ag (b.add 9))/\0<=a/\a<8/\aP d (((b.add 9).add (a.toNat*1)).add 0) (ac a) λd=>F108.wL3 n b c (ai (a+1)) d K)) (K (ag b) h)):=by kernel_rfl
def F108.wk3:Prop:=(∃d,F108.wL3 d b c a h K)
def F108.spec(H:aZ h (.cells #[ac (if 8<(if 1>d then 1 else d)then 8 else(if 1>d then 1 else d)),ac 0,ac 0,ac 0,ac 0,ac 0,ac 0,ac 0,ac 0,ac 0,ac 0,ac 0,ac 0,ac 0,ac 0,ac 0,ac 0] 189) λa b=>aI .i64 (rd b ((ah a).add 0)) λc=>F108.wk3 (ah a) c 0 b K):Cl 108 [ac d] h K:=cT F108.T Tryz.func108 H
end
def F48.T:bf:=⟨[],[(2,[[(0,[]),(1,[]),(2,[]),(3,[]),(4,[]),(5,[]),(6,[]),(7,[]),(8,[]),(9,[])]])]⟩
def F48.spec(H:aI .i64 (rd h (a.add 0)) λb=>0<=b/\b<=b/\(8*b<=281474976710656)/\b<=9223372036854775807/\aZ h (.cells (madeCells #[ac 0] (b.toNat*1)) 3) λc d=>aI .i64 (rd d (a.add 0)) λe=>0<=e/\e<=8/\tB d 1 (some (ah c)) (b.toNat) (some (if 8=0 then(a.add 1)else Addr.add (a.add 1) (0*1))) (e.toNat-0) λ_ a=>K (.slice (some (ah c)) (b.toNat) (b.toNat)) a):Cl 48 [ag a] h K:=cT F48.T Tryz.func48 H
def F104.spec(H:aI .i64 (rd h (a.add 0)) λb=>aI .i64 (rd h (a.add 1)) λc=>aI .i64 (rd h (a.add 2)) λd=>aI .i64 (rd h (a.add 3)) λe=>aI .i64 (rd h (a.add 4)) λf=>aI .i64 (rd h (a.add 5)) λg=>aI .i64 (rd h (a.add 6)) λi=>aI .i64 (rd h (a.add 7)) λj=>aI .i64 (rd h (a.add 8)) λk=>aI .i64 (rd h (a.add 9)) λl=>aI .i64 (rd h (a.add 10)) λm=>aI .i64 (rd h (a.add 11)) λn=>aI .i64 (rd h (a.add 12)) λo=>aI .i64 (rd h (a.add 13)) λp=>aI .i64 (rd h (a.add 14)) λq=>aI .i64 (rd h (a.add 15)) λr=>aI .i64 (rd h (a.add 16)) λa=>aZ h (.cells (Array.replicate 17 ((ac 0):Value)) 189) λs t=>aP t ((ah s).add 0) (ac b) λb=>aP b ((ah s).add 1) (ac c) λb=>aP b ((ah s).add 2) (ac d) λb=>aP b ((ah s).add 3) (ac e) λb=>aP b ((ah s).add 4) (ac f) λb=>aP b ((ah s).add 5) (ac g) λb=>aP b ((ah s).add 6) (ac i) λb=>aP b ((ah s).add 7) (ac j) λb=>aP b ((ah s).add 8) (ac k) λb=>aP b ((ah s).add 9) (ac l) λb=>aP b ((ah s).add 10) (ac m) λb=>aP b ((ah s).add 11) (ac n) λb=>aP b ((ah s).add 12) (ac o) λb=>aP b ((ah s).add 13) (ac p) λb=>aP b ((ah s).add 14) (ac q) λb=>aP b ((ah s).add 15) (ac r) λb=>aP b ((ah s).add 16) (ac a) λa=>K (ag (ah s)) a):Cl 104 [ag a] h K:=cN Tryz.func104 H
def F119.spec(H:aI .i64 (rd h (a.add 0)) λa=>K (ac a) h):Cl 119 [ag a] h K:=cN Tryz.func119 H
end
section
def L8(f:Nat->Nat):List Value:=(List.range 8).map λi=>ac (f i:Int)
def Bf(f:Nat->Nat)(k v:Nat):Nat->Nat:=λi=>if i=k then v else f i
def dZ(f:Nat->Nat):(L8 f).length=8:=by simp[L8]
def ou{f:Nat->Nat}{i:Nat}(hi:i<8):(L8 f)[i]? =some (ac (f i:Int)):=by simp[L8,hi]
def xr(f:Nat->Nat)(k v:Nat):(L8 f).set k (ac (v:Int))=L8 (Bf f k v):=by
 apply List.ext_getElem?;intro i;by_cases h8:i<8
 ·rw[ou h8,List.getElem?_set];by_cases h:k=i
  ·subst h;rw[if_pos rfl,if_pos (by rw[dZ];exact h8)];simp[Bf]
  ·rw[if_neg h,ou h8];simp[Bf,Ne.symm h]
 ·rw[List.getElem?_eq_none (by simp[dZ];omega),List.getElem?_eq_none (by simp[dZ];omega)]
def cB(h:aA)(b n:Nat)(f g:Nat->Nat):Prop:=At h b (ac (n:Int)::(L8 f++L8 g))
def cB.only{S:List Nat}{h h':aA}{b n:Nat}{f g:Nat->Nat}(H:cB h b n f g)(O:aF S h h')(hb:b∉S):cB h' b n f g:=At.only H O hb
def cB.rd0{h:aA}{b n:Nat}{f g:Nat->Nat}(H:cB h b n f g):rd h (ah b)=some (ac n):=by rw[At.rd H];rfl
def cB.rdv{h:aA}{b n:Nat}{f g:Nat->Nat}(H:cB h b n f g){i:Nat}(hi:i<8):rd h ⟨b,1+i,none⟩=some (ac (f i:Int)):=by rw[At.rd H,Nat.add_comm,List.getElem?_cons_succ,List.getElem?_append_left (by rw[dZ];exact hi),ou hi]
def cB.rdl{h:aA}{b n:Nat}{f g:Nat->Nat}(H:cB h b n f g){i:Nat}(hi:i<8):rd h ⟨b,9+i,none⟩=some (ac (g i:Int)):=by rw[At.rd H,show 9+i=(8+i)+1 by omega,List.getElem?_cons_succ,List.getElem?_append_right (by rw[dZ];omega),dZ,show 8+i-8=i by omega,ou hi]
def cB.stv{h:aA}{b n:Nat}{f g:Nat->Nat}{i v:Nat}{K:aA->Prop}(H:cB h b n f g)(hi:i<8)
  (hK: ∀h',cB h' b n (Bf f i v) g->aF [b] h h'->K h'):aP h ⟨b,1+i,none⟩ (ac (v:Int)) K:=by
 refine aK H (by simp[dZ];omega) rfl λh' A O _=>hK h' ?_ O;rw[Nat.add_comm,List.set_cons_succ,List.set_append_left _ _ (by rw[dZ];exact hi),xr]at A;exact A
def cB.stl{h:aA}{b n:Nat}{f g:Nat->Nat}{i v:Nat}{K:aA->Prop}(H:cB h b n f g)(hi:i<8)
  (hK: ∀h',cB h' b n f (Bf g i v)->aF [b] h h'->K h'):aP h ⟨b,9+i,none⟩ (ac (v:Int)) K:=by
 refine aK H (by simp[dZ];omega) rfl λh' A O _=>hK h' ?_ O;rw[show 9+i=(8+i)+1 by omega,List.set_cons_succ,List.set_append_right _ _ (by rw[dZ];omega),dZ,show 8+i-8=i by omega,xr]at A;exact A
def zl{h:aA}{b n:Nat}{f g:Nat->Nat}{K:KK}(H:cB h b n f g)(hK:K (ac n) h):
  Cl 119 [ag (ah b)] h K:=by
 apply F119.spec;simp only[aE,Nat.zero_add];exact aB H.rd0 hK
def fill(k:Nat):Nat->Nat:=λi=>if i<k then i else 0
def vo{k:Nat}:Bf (fill k) k k=fill (k+1):=by
 funext i;unfold Bf fill;split
 ·next h=>subst h;simp
 ·split
  ·rw[if_pos Y]
  ·rw[if_neg Y]
def vW{h0:aA}{b n:Nat}(hb:h0.size<=b)(hn:n<=8){K:KK}(hK: ∀h',cB h' b n (fill n) (fill n)->aF [] h0 h'->K (ag (ah b)) h'):
  ∀(m k:Nat) (h:aA),n-k<m->k<=n->cB h b n (fill k) (fill k)->aF [] h0 h->F108.wL3 m (ah b) (n:Int) (k:Int) h K:=by
 intro m
 induction m with
 |zero=>intro k h hm;omega
 |succ m ih=>
  intro k h hm hk H O;rw[F108.sL3];by_cases hlt:k<n
  ·rw[decide_eq_true Y,aG];simp only[aE,Nat.zero_add,Nat.mul_one,Nat.add_zero,Int.toNat_natCast];refine⟨Y,Y,H.stv Y λh1 A1 O1=>⟨trivial,trivial,trivial,trivial,trivial,Y,Y,A1.stl Y λh2 A2 O2=> ?_⟩⟩;rw[show ai ((k:Int)+1)=((k+1:Nat):Int) by rw[wrap_i64 Y Y];simp];rw[vo]at A2;exact ih (k+1) h2 Y Y A2 (O.trans (O1.trans (T:=[b]) O2 Z) λx hx hl=>absurd (show x=b by simpa using hx) Y)
  ·rw[decide_eq_false Y,aD];obtain rfl:k=n:=Y;exact hK h H O
def y9{h:aA}{n:Nat}(h1:1<=n)(h8:n<=8){K:KK}(hK: ∀b h',cB h' b n (fill n) (fill n)->h.size<=b->aF [] h h'->K (ag (ah b)) h'):
  Cl 108 [ac (n:Int)] h K:=by
 apply F108.spec;rw[if_neg (by omega: ¬(1:Int)>(n:Int)),if_neg (by omega: ¬(8:Int)<(n:Int))];refine aM λh2 A2 O2 z2=> ?_;have A2:cB h2 h.size n (fill 0) (fill 0):=A2;simp only[aE,Nat.zero_add];refine aB A2.rd0 ?_;unfold F108.wk3;exact⟨n+1,vW (Nat.le_refl _) h8 (λh' H O=>hK h.size h' H (Nat.le_refl _) O) (n+1) 0 h2 Y Y A2 O2⟩
def zj{b:Nat}{K:aA->Prop}: ∀(new:List Value) (i:Nat) (c:List Value) (h:aA),At h b c->i+new.length<=c.length->(∀v∈new,v.oneCell'=true)->
  (∀h',At h' b (c.take i++new++c.drop (i+new.length))->aF [b] h h'->K h')->mt (ah b) i new h K:=by
 intro new
 induction new with
 |nil=>
  intro i c h A hi hv hK;unfold mt;exact hK h (by simpa using A) (aF.refl _ _)
 |cons v vs ih=>
  intro i c h A hi hv hK;simp only[List.length_cons]at hi;unfold mt;rw[aE,Nat.zero_add];refine aK A Y (hv v Z) λh1 A1 O1 _=>ih (i+1) _ h1 A1 (by simp;omega) (λx hx=>hv x (by simp[hx])) λh2 A2 O2=>hK h2 ?_ (O1.trans O2 Z)
  have e:(c.set i v).take (i+1)=c.take i++[v]:=by rw[List.take_set,List.take_succ_eq_append_getElem Y,List.set_append_right _ _ (by simp;omega)];simp[List.length_take,Nat.min_eq_left (by omega:i<=c.length)]
  have e2:(c.set i v).drop (i+1+vs.length)=c.drop (i+(vs.length+1)):=by
   rw[List.drop_set_of_lt Y]
   congr 1
   omega
  rw[e,e2]at A2;simpa using A2
def zz{h:aA}{b n:Nat}{f g:Nat->Nat}{K:KK}(H:cB h b n f g)(hn:n<=8)
  (hK: ∀x h',At h' x (((List.range n).map λi=>(f i:Int)).map (.int .i64))->h.size<=x->aF [] h h'->K (.slice (some (ah x)) n n) h'):
  Cl 48 [ag (ah b)] h K:=by
 apply F48.spec;simp only[aE,Nat.zero_add,Nat.mul_one];refine aB H.rd0 ⟨Y,Y,Y,Y,aM λh1 A1 O1 z1=> ?_⟩;have H1:=H.only O1 Z;refine aB H1.rd0 ⟨Y,Y,?_⟩;rw[if_neg (by decide: ¬(8=0)),Int.toNat_natCast,Nat.sub_zero,toList_madeCells_one]at*
 unfold tB;rw[show Nat.min n n=n from Nat.min_self n];refine⟨((List.range n).map λi=>(f i:Int)).map (.int .i64),Z,?_,?_⟩
 ·intro j v hj
  have hjn:j<n:=by have:=(List.getElem?_eq_some_iff.1 hj).1;simpa using this
  rw[aE,H1.rdv Y,<-hj];simp[hjn]
 ·refine zj _ 0 _ h1 A1 Z (by simp[Value.oneCell']) λh2 A2 O2=>hK h.size h2 ?_ (Nat.le_refl _) ?_
  ·simpa using A2
  ·exact O1.trans O2 λx hx hl=>absurd (show x=h.size by simpa using hx) Y
end
section
variable {i j k l m n o p q r s t:Int}{a b c d:Addr}{u v:Nat}{x y:ak}{h:aA}{K:KK}
def F109.spec(H:aC (i<0) (K (.tuple #[ap none,ac 61]) h) (aC (j<1) (K (.tuple #[ap none,ac 61]) h) (aC (j>1024) (K (.tuple #[ap none,ac 61]) h) (Cl 132 [ag a] h λb c=>aI .i64 (some b) λb=>aC (i>b) (K (.tuple #[ap none,ac 61]) c) (Cl 110 [ac j] c λb c=>aI .i64 (some b) λb=>Cl 132 [ag a] c λc d=>aI .i64 (some c) λc=>aC (b>(ai (c-i))) (K (.tuple #[ap none,ac 61]) d) (aZ d (.cells #[ag a,ac i,ac j] 247) λa b=>K (.tuple #[ag (ah a),ac 0]) b)))))):Cl 109 [ag a,ac i,ac j] h K:=cN Tryz.func109 H
def F227.T:bf:=⟨[],[(1,[[(0,[]),(1,[]),(2,[]),(3,[]),(4,[]),(5,[]),(7,[]),(6,[0,1,2,3,7]),(8,[]),(9,[]),(10,[])]])]⟩
def F227.spec(H:bi (rd h (a.add 0)) λb=>Cl 274 [ag a,af i] h λc d=>aI .i64 (some c) λc=>ay (ag a)/\ay (ag a)/\ay (ag (a.add 0))/\bi (rd d (a.add 0)) λa=>az (ap a) (ap b)/\ay (af i)/\aZ d (.cells #[ap b,ac c,af i,af 0,af 0,.nilFunc,aq,aq,af 0] 345) λa b=>aP b (((ah a).add 5).add 0) (.func (.func 275) #[ag (ah a)] #[]) λb=>K (ag (ah a)) b):Cl 227 [ag a,af i] h K:=cT F227.T Tryz.func227 H
def F252.T:bf:=⟨[],[(1,[[(0,[]),(1,[]),(2,[]),(3,[]),(4,[]),(5,[]),(7,[]),(8,[]),(6,[0,1,2,3,7,8]),(9,[]),(10,[]),(11,[])]])]⟩
def F252.spec(H:bi (rd h (a.add 0)) λb=>Cl 274 [ag a,af i] h λc d=>aI .i64 (some c) λc=>ay (ag a)/\ay (ag a)/\ay (ag (a.add 0))/\bi (rd d (a.add 0)) λa=>az (ap a) (ap b)/\ay (af i)/\ay (af j)/\aZ d (.cells #[ap b,ac c,af i,af j,af 0,.nilFunc,aq,aq,af 0] 345) λa b=>aP b (((ah a).add 5).add 0) (.func (.func 287) #[ag (ah a)] #[]) λb=>K (ag (ah a)) b):Cl 252 [ag a,af i,af j] h K:=cT F252.T Tryz.func252 H
def F229.T:bf:=⟨[(3,[0])],[]⟩
section
variable (a:Addr)(h:aA)(K:KK)
def F229.wk3:Prop:=bA (rd h (a.add 6)) λa=>K (aw a) h
end
def F229.spec(H:bA (rd h (a.add 6)) λb=>aC (!b) (qW (rd h (a.add 5)) λb=>gn Tryz.prog X b [] h λb c=>b=ax/\F229.wk3 a c K) (F229.wk3 a h K)):Cl 229 [ag a] h K:=cT F229.T Tryz.func229 H
def F230.spec(H:bA (rd h (a.add 6)) λb=>aC (!b) (K (.tuple #[af 0,aq]) h) (bA (rd h (a.add 7)) λb=>aC (!b) (K (.tuple #[af 0,aq]) h) (aI .u64 (rd h (a.add 8)) λa=>K (.tuple #[af a,au]) h))):Cl 230 [ag a] h K:=cN Tryz.func230 H
def F274.T:bf:=⟨[],[(1,[[(0,[]),(1,[]),(2,[]),(3,[]),(4,[]),(5,[]),(6,[]),(7,[]),(8,[]),(9,[0,1,2,3]),(10,[]),(11,[]),(12,[])]])]⟩
def F274.spec(H:aI .i64 (rd h (a.add 1)) λb=>aI .i64 (rd h (a.add 2)) λc=>Cl 246 [af i,ac c] h λc d=>aI .i64 (some c) λc=>ay (ag a)/\ay (ag a)/\ay (ag (a.add 1))/\aI .i64 (rd d (a.add 1)) λa=>az (ac a) (ac b)/\K (ac (ai (b+(ai (3*c))))) d):Cl 274 [ag a,af i] h K:=cT F274.T Tryz.func274 H
def F275.T:bf:=⟨[],[(0,[[(0,[]),(1,[]),(2,[]),(3,[]),(4,[]),(5,[]),(6,[]),(7,[]),(8,[]),(9,[0]),(10,[]),(11,[]),(12,[])]])]⟩
def F275.spec(H:bi (rd h (a.add 0)) λb=>aI .i64 (rd h (a.add 1)) λc=>Cl 162 [ap b,ac c] h λb c=>aI .u64 (some b) λb=>ay (ag a)/\aP c ((a.add 4).add 0) (af b) λb=>aP b ((a.add 5).add 0) (.func (.func 302) #[ag a] #[]) λb=>aI .u64 (rd b (a.add 4)) λc=>aP b ((a.add 6).add 0) (aw ((aY .and .u64 c 3) !=2)) λa=>K ax a):Cl 275 [ag a] h K:=cT F275.T Tryz.func275 H
def F287.T:bf:=⟨[],[(0,[[(0,[]),(1,[]),(2,[]),(3,[]),(4,[]),(5,[]),(6,[]),(7,[]),(8,[]),(9,[0]),(10,[]),(11,[]),(12,[])]])]⟩
def F287.spec(H:bi (rd h (a.add 0)) λb=>aI .i64 (rd h (a.add 1)) λc=>Cl 162 [ap b,ac c] h λb c=>aI .u64 (some b) λb=>ay (ag a)/\aP c ((a.add 4).add 0) (af b) λb=>aP b ((a.add 5).add 0) (.func (.func 308) #[ag a] #[]) λb=>aI .u64 (rd b (a.add 4)) λc=>aP b ((a.add 6).add 0) (aw ((aY .and .u64 c 1) !=0)) λa=>K ax a):Cl 287 [ag a] h K:=cT F287.T Tryz.func287 H
def F302.T:bf:=⟨[],[(0,[[(0,[]),(1,[]),(2,[]),(3,[]),(4,[]),(5,[]),(6,[]),(7,[]),(8,[]),(9,[]),(11,[]),(12,[]),(13,[]),(14,[]),(10,[0,11,12,13,14]),(15,[]),(16,[]),(17,[]),(18,[])]])]⟩
def F302.spec(H:bi (rd h (a.add 0)) λb=>aI .i64 (rd h (a.add 1)) λc=>aI .u64 (rd h (a.add 2)) λd=>Cl 162 [ap b,ac (ai (c+1))] h λb c=>aI .u64 (some b) λb=>ay (ag a)/\ay (ag a)/\ay (ag a)/\ay (ag (a.add 2))/\aI .u64 (rd c (a.add 2)) λe=>az (af e) (af d)/\aP c ((a.add 6).add 0) (aw (b !=d)) λb=>aP b ((a.add 5).add 0) (.func (.func 336) #[ag a] #[]) λa=>K ax a):Cl 302 [ag a] h K:=cT F302.T Tryz.func302 H
def F308.T:bf:=⟨[],[(1,[[(0,[]),(1,[]),(2,[]),(3,[]),(4,[]),(5,[]),(6,[]),(7,[]),(8,[]),(9,[]),(10,[]),(11,[]),(12,[]),(13,[]),(14,[]),(15,[]),(16,[]),(17,[]),(18,[0]),(19,[]),(20,[]),(21,[]),(22,[])]])]⟩
def F308.spec(H:aP h ((a.add 5).add 0) (.func (.func 338) #[ag a] #[]) λb=>bi (rd b (a.add 0)) λc=>aI .i64 (rd b (a.add 1)) λd=>aI .u64 (rd b (a.add 4)) λe=>aI .u64 (rd b (a.add 4)) λf=>Cl 163 [ap c,ac d,af e,af (aY .or .u64 f 1)] b λb c=>bA (some b) λb=>ay (ag a)/\aP c ((a.add 6).add 0) (aw (!b)) λa=>K ax a):Cl 308 [ag a] h K:=cT F308.T Tryz.func308 H
def F336.T:bf:=⟨[],[(0,[[(0,[]),(1,[]),(2,[]),(3,[]),(4,[]),(5,[]),(6,[]),(7,[]),(8,[]),(9,[]),(10,[0]),(11,[]),(12,[]),(13,[])]])]⟩
def F336.spec(H:bi (rd h (a.add 0)) λb=>aI .i64 (rd h (a.add 1)) λc=>Cl 162 [ap b,ac (ai (c+2))] h λb c=>aI .u64 (some b) λb=>ay (ag a)/\aP c ((a.add 8).add 0) (af b) λb=>aP b ((a.add 5).add 0) (.func (.func 355) #[ag a] #[]) λa=>K ax a):Cl 336 [ag a] h K:=cT F336.T Tryz.func336 H
def F338.T:bf:=⟨[],[(0,[[(0,[]),(1,[]),(2,[]),(3,[]),(4,[]),(5,[]),(6,[]),(7,[]),(8,[]),(9,[]),(10,[]),(11,[]),(12,[]),(13,[])]])]⟩
def F338.spec(H:bi (rd h (a.add 0)) λb=>aI .i64 (rd h (a.add 1)) λc=>aI .u64 (rd h (a.add 2)) λd=>Cl 282 [ap b,ac (ai (c+1)),af d] h λb c=>b=ax/\aP c ((a.add 5).add 0) (.func (.func 356) #[ag a] #[]) λa=>K ax a):Cl 338 [ag a] h K:=cT F338.T Tryz.func338 H
def F355.T:bf:=⟨[],[(0,[[(0,[]),(1,[]),(2,[]),(3,[]),(4,[]),(5,[]),(6,[]),(7,[]),(8,[]),(10,[]),(11,[]),(12,[]),(13,[]),(9,[0,10,11,12,13]),(14,[]),(15,[]),(16,[]),(17,[])]])]⟩
def F355.spec(H:bi (rd h (a.add 0)) λb=>aI .i64 (rd h (a.add 1)) λc=>aI .u64 (rd h (a.add 4)) λd=>Cl 162 [ap b,ac c] h λb c=>aI .u64 (some b) λb=>ay (ag a)/\ay (ag a)/\ay (ag a)/\ay (ag (a.add 4))/\aI .u64 (rd c (a.add 4)) λe=>az (af e) (af d)/\aP c ((a.add 7).add 0) (aw (b==d)) λb=>aP b ((a.add 6).add 0) au λa=>K ax a):Cl 355 [ag a] h K:=cT F355.T Tryz.func355 H
def F356.T:bf:=⟨[],[(0,[[(0,[]),(1,[]),(2,[]),(3,[]),(4,[]),(5,[]),(6,[]),(7,[]),(8,[]),(9,[]),(10,[]),(11,[]),(12,[]),(13,[])]])]⟩
def F356.spec(H:bi (rd h (a.add 0)) λb=>aI .i64 (rd h (a.add 1)) λc=>aI .u64 (rd h (a.add 3)) λd=>Cl 282 [ap b,ac (ai (c+2)),af d] h λb c=>b=ax/\aP c ((a.add 5).add 0) (.func (.func 368) #[ag a] #[]) λa=>K ax a):Cl 356 [ag a] h K:=cT F356.T Tryz.func356 H
def F368.T:bf:=⟨[],[(0,[[(0,[]),(1,[]),(2,[]),(3,[]),(4,[]),(5,[]),(6,[]),(7,[]),(8,[]),(9,[]),(10,[]),(11,[]),(12,[]),(13,[]),(14,[])]])]⟩
def F368.spec(H:bi (rd h (a.add 0)) λb=>aI .i64 (rd h (a.add 1)) λc=>aI .u64 (rd h (a.add 4)) λd=>Cl 282 [ap b,ac c,af (IntKind.wrap .u64 ((aY .or .u64 d 2)+4))] h λb c=>b=ax/\aP c ((a.add 6).add 0) au λa=>K ax a):Cl 368 [ag a] h K:=cT F368.T Tryz.func368 H
end
section
def kO(h:aA)(c m base n:Nat):Prop:=At h c [ag (ah m),ac (base:Int),ac (n:Int)]
def kO.only{S:List Nat}{h h':aA}{t m base n:Nat}(H:kO h t m base n)(O:aF S h h')(ht:t∉S):kO h' t m base n:=At.only H O ht
structure Ac where
 key:Int
 val:Int
 pos:Nat
 ver:Int
 ph:Nat
 done:Bool
 ok:Bool
 got:Int
def EW:Nat->Nat
 |0=>287
 |1=>308
 |2=>338
 |3=>356
 |4=>368
 |5=>275
 |6=>302
 |7=>336
 |_=>355
def DG:bW X 287=some cJ.go:=by kernel_rfl
def Dq:bW X 308=some cJ.go:=by kernel_rfl
def BT:bW X 338=some cJ.go:=by kernel_rfl
def C8:bW X 356=some cJ.go:=by kernel_rfl
def DR:bW X 368=some cJ.go:=by kernel_rfl
def Co:bW X 275=some cJ.go:=by kernel_rfl
def BY:bW X 302=some cJ.go:=by kernel_rfl
def CL:bW X 336=some cJ.go:=by kernel_rfl
def Du:bW X 355=some cJ.go:=by kernel_rfl
def By: ∀k,k<=8->bW X (EW k)=some cJ.go
 |0,_=>DG
 |1,_=>Dq
 |2,_=>BT
 |3,_=>C8
 |4,_=>DR
 |5,_=>Co
 |6,_=>BY
 |7,_=>CL
 |8,_=>Du
def Fe(f ph:Nat):Value:= .func (.func (EW ph)) #[ag (ah f)] #[]
def fq(h:aA)(f m:Nat)(A:Ac):Prop:=
 At h f [ag (ah m),ac (A.pos:Int),af A.key,af A.val,af A.ver,Fe f A.ph,aw A.done,aw A.ok,af A.got]
def fq.only{S:List Nat}{h h':aA}{f m:Nat}{A:Ac}(H:fq h f m A)(O:aF S h h')(ht:f∉S):fq h' f m A:=At.only H O ht
def bB(cs:List Int)(A:Ac):Ac×List Int:=
 if A.done then(A,cs)else
 match A.ph with
 |0=>({A with ver:=cs.getD A.pos 0,ph:=1,done:=aY .and .u64 (cs.getD A.pos 0) 1 !=0},cs)
 |1=>if cs.getD A.pos 0=A.ver then({A with ph:=2,done:=false},cs.set A.pos (aY .or .u64 A.ver 1))else({A with ph:=2,done:=true},cs)
 |2=>({A with ph:=3},cs.set (A.pos+1) A.key)
 |3=>({A with ph:=4},cs.set (A.pos+2) A.val)
 |4=>({A with done:=true},cs.set A.pos (IntKind.wrap .u64 (aY .or .u64 A.ver 2+4)))
 |5=>({A with ver:=cs.getD A.pos 0,ph:=6,done:=aY .and .u64 (cs.getD A.pos 0) 3 !=2},cs)
 |6=>({A with ph:=7,done:=cs.getD (A.pos+1) 0 !=A.key},cs)
 |7=>({A with ph:=8,got:=cs.getD (A.pos+2) 0},cs)
 |_=>({A with ok:=cs.getD A.pos 0==A.ver,done:=true},cs)
def nF{cs:List Int}{A:Ac}:(bB cs A).2.length=cs.length:=by
 unfold bB
 repeat' split
 all_goals simp
section
variable {h:aA}{f c m mc base n:Nat}{cs:List Int}{ops fails:Int}{A:Ac}{K:KK}
def sc(H:fq h f m A)(M:bg h m mc cs ops fails)(hp:A.pos+2<cs.length)(hc:cs.length<1000000000)(hph:A.ph<=8)(d2:f≠m)(d3:f≠mc)
  (hK: ∀h' ops' fails',fq h' f m (bB cs A).1->bg h' m mc (bB cs A).2 ops' fails'->aF [f,m,mc] h h'->K (aw (bB cs A).1.done) h'):
  Cl 229 [ag (ah f)] h K:=by
 apply F229.spec;simp only[aE,Nat.zero_add];refine aQ (n:=A.done) (by rw[At.rd H];rfl) ?_
 have hend: ∀h' ops' fails',fq h' f m (bB cs A).1->bg h' m mc (bB cs A).2 ops' fails'->aF [f,m,mc] h h'->F229.wk3 (ah f) h' K:=by intro h' ops' fails' a1 a2 a3;unfold F229.wk3;simp only[aE,Nat.zero_add];exact aQ (by rw[At.rd a1];rfl) (hK h' ops' fails' a1 a2 a3)
 cases hd:A.done with
 |true=>
  rw[Bool.not_true,aD];have e:bB cs A=(A,cs):=by unfold bB;rw[if_pos hd]
  rw[e]at hend;exact hend h ops fails H M (aF.refl _ _)
 |false=>
  rw[Bool.not_false,aG];have hs: ∀b∈[m,mc],b∈[f,m,mc]:=by simp+contextual
  have hS: ∀b∈[f],b∈[f,m,mc]:=Z;have d2':=d2.symm;have d3':=d3.symm;have w1:ai ((A.pos:Int)+1)=((A.pos+1:Nat):Int):=by rw[wrap_i64 Y Y];simp
  have w2:ai ((A.pos:Int)+2)=((A.pos+2:Nat):Int):=by rw[wrap_i64 Y Y];simp
  unfold bB at hend;rw[if_neg (by simp[hd])]at hend;have hx:=By A.ph hph;refine⟨_,by rw[At.rd H];rfl,bz hx ?_⟩;clear hx;obtain⟨key,val,pos,ver,ph,done,ok,got⟩:=A;dsimp only at*
  subst hd
  match ph,hph,H,hend with
  |0,_,H,hend=>
   refine F287.spec ?_;simp only[aE,Nat.zero_add,Nat.add_zero];refine aJ (by rw[At.rd H];rfl) (aB (n:=(pos:Int)) (by rw[At.rd H];rfl) (dC M Y Y λh1 M1 O1=>aB rfl ⟨trivial,?_⟩));have H1:=H.only O1 (by simp[d2,d3]);rw[Int.toNat_natCast];refine aK H1 Z rfl λh2 A2 O2 _=>aK A2 Z rfl λh3 A3 O3 _=>aB (n:=cs.getD pos 0) (by rw[A3.rd];rfl) (aK A3 Z rfl λh4 A4 O4 _=>⟨by trivial,?_⟩);have O24:=(O2.trans O3 Z).trans O4 Z;exact hend h4 _ _ A4 (M1.only O24 (by simp[d2']) (by simp[d3'])) ((O1.mono λb hb _=>hs b hb).trans O24 λb hb _=>hS b hb)
  |1,_,H,hend=>
   refine F308.spec ?_;simp only[aE,Nat.zero_add,Nat.add_zero];refine aK H Z rfl λh1 A1 O1 _=> ?_;have M1:=M.only O1 (by simp[d2']) (by simp[d3']);refine aJ (by rw[A1.rd];rfl) (aB (n:=(pos:Int)) (by rw[A1.rd];rfl) (aB (n:=ver) (by rw[A1.rd];rfl) (aB (n:=ver) (by rw[A1.rd];rfl) ?_)));refine mE M1 Y Y (λe h2 M2 O2=>aQ rfl ⟨trivial,?_⟩) λe h2 M2 O2=>aQ rfl ⟨trivial,?_⟩
   all_goals rw[Int.toNat_natCast]at e
   ·rw[Int.toNat_natCast]at M2;refine aK (A1.only O2 (by simp[d2,d3])) Z rfl λh3 A3 O3 _=>⟨by trivial,?_⟩;rw[if_pos e]at hend;exact hend h3 _ _ A3 (M2.only O3 (by simp[d2']) (by simp[d3'])) (((O1.mono λb hb _=>hS b hb).trans O2 λb hb _=>hs b hb).trans O3 λb hb _=>hS b hb)
   ·refine aK (A1.only O2 (by simp[d2,d3])) Z rfl λh3 A3 O3 _=>⟨by trivial,?_⟩;rw[if_neg e]at hend;exact hend h3 _ _ A3 (M2.only O3 (by simp[d2']) (by simp[d3'])) (((O1.mono λb hb _=>hS b hb).trans O2 λb hb _=>hs b hb).trans O3 λb hb _=>hS b hb)
  |2,_,H,hend=>
   refine F338.spec ?_;simp only[aE,Nat.zero_add,Nat.add_zero];refine aJ (by rw[At.rd H];rfl) (aB (n:=(pos:Int)) (by rw[At.rd H];rfl) (aB (n:=key) (by rw[At.rd H];rfl) ?_));rw[w1];refine fd M Y Y λh1 M1 O1=>⟨rfl,aK (H.only O1 (by simp[d2,d3])) Z rfl λh2 A2 O2 _=>⟨by trivial,?_⟩⟩;rw[Int.toNat_natCast]at M1;exact hend h2 _ _ A2 (M1.only O2 (by simp[d2']) (by simp[d3'])) ((O1.mono λb hb _=>hs b hb).trans O2 λb hb _=>hS b hb)
  |3,_,H,hend=>
   refine F356.spec ?_;simp only[aE,Nat.zero_add,Nat.add_zero];refine aJ (by rw[At.rd H];rfl) (aB (n:=(pos:Int)) (by rw[At.rd H];rfl) (aB (n:=val) (by rw[At.rd H];rfl) ?_));rw[w2];refine fd M Y Y λh1 M1 O1=>⟨rfl,aK (H.only O1 (by simp[d2,d3])) Z rfl λh2 A2 O2 _=>⟨by trivial,?_⟩⟩;rw[Int.toNat_natCast]at M1;exact hend h2 _ _ A2 (M1.only O2 (by simp[d2']) (by simp[d3'])) ((O1.mono λb hb _=>hs b hb).trans O2 λb hb _=>hS b hb)
  |4,_,H,hend=>
   refine F368.spec ?_;simp only[aE,Nat.zero_add,Nat.add_zero];refine aJ (by rw[At.rd H];rfl) (aB (n:=(pos:Int)) (by rw[At.rd H];rfl) (aB (n:=ver) (by rw[At.rd H];rfl) ?_));refine fd M Y Y λh1 M1 O1=>⟨rfl,aK (H.only O1 (by simp[d2,d3])) Z rfl λh2 A2 O2 _=>⟨by trivial,?_⟩⟩;rw[Int.toNat_natCast]at M1;exact hend h2 _ _ A2 (M1.only O2 (by simp[d2']) (by simp[d3'])) ((O1.mono λb hb _=>hs b hb).trans O2 λb hb _=>hS b hb)
  |5,_,H,hend=>
   refine F275.spec ?_;simp only[aE,Nat.zero_add,Nat.add_zero];refine aJ (by rw[At.rd H];rfl) (aB (n:=(pos:Int)) (by rw[At.rd H];rfl) (dC M Y Y λh1 M1 O1=>aB rfl ⟨trivial,?_⟩));have H1:=H.only O1 (by simp[d2,d3]);rw[Int.toNat_natCast];refine aK H1 Z rfl λh2 A2 O2 _=>aK A2 Z rfl λh3 A3 O3 _=>aB (n:=cs.getD pos 0) (by rw[A3.rd];rfl) (aK A3 Z rfl λh4 A4 O4 _=>⟨by trivial,?_⟩);have O24:=(O2.trans O3 Z).trans O4 Z;exact hend h4 _ _ A4 (M1.only O24 (by simp[d2']) (by simp[d3'])) ((O1.mono λb hb _=>hs b hb).trans O24 λb hb _=>hS b hb)
  |6,_,H,hend=>
   refine F302.spec ?_;simp only[aE,Nat.zero_add,Nat.add_zero];refine aJ (by rw[At.rd H];rfl) (aB (n:=(pos:Int)) (by rw[At.rd H];rfl) (aB (n:=key) (by rw[At.rd H];rfl) ?_));rw[w1];refine dC M Y Y λh1 M1 O1=>aB rfl ⟨trivial,trivial,trivial,trivial,?_⟩;have H1:=H.only O1 (by simp[d2,d3]);rw[Int.toNat_natCast];refine aB (n:=key) (by rw[At.rd H1];rfl) ⟨rfl,aK H1 Z rfl λh2 A2 O2 _=>aK A2 Z rfl λh3 A3 O3 _=>⟨by trivial,?_⟩⟩;have O24:=O2.trans O3 Z;exact hend h3 _ _ A3 (M1.only O24 (by simp[d2']) (by simp[d3'])) ((O1.mono λb hb _=>hs b hb).trans O24 λb hb _=>hS b hb)
  |7,_,H,hend=>
   refine F336.spec ?_;simp only[aE,Nat.zero_add,Nat.add_zero];refine aJ (by rw[At.rd H];rfl) (aB (n:=(pos:Int)) (by rw[At.rd H];rfl) ?_);rw[w2];refine dC M Y Y λh1 M1 O1=>aB rfl ⟨trivial,?_⟩;have H1:=H.only O1 (by simp[d2,d3]);rw[Int.toNat_natCast];refine aK H1 Z rfl λh2 A2 O2 _=>aK A2 Z rfl λh3 A3 O3 _=>⟨by trivial,?_⟩;have O24:=O2.trans O3 Z;exact hend h3 _ _ A3 (M1.only O24 (by simp[d2']) (by simp[d3'])) ((O1.mono λb hb _=>hs b hb).trans O24 λb hb _=>hS b hb)
  |8,_,H,hend=>
   refine F355.spec ?_;simp only[aE,Nat.zero_add,Nat.add_zero];refine aJ (by rw[At.rd H];rfl) (aB (n:=(pos:Int)) (by rw[At.rd H];rfl) (aB (n:=ver) (by rw[At.rd H];rfl) ?_));refine dC M Y Y λh1 M1 O1=>aB rfl ⟨trivial,trivial,trivial,trivial,?_⟩;have H1:=H.only O1 (by simp[d2,d3]);rw[Int.toNat_natCast];refine aB (n:=ver) (by rw[At.rd H1];rfl) ⟨rfl,aK H1 Z rfl λh2 A2 O2 _=>aK A2 Z rfl λh3 A3 O3 _=>⟨by trivial,?_⟩⟩;have O24:=O2.trans O3 Z;exact hend h3 _ _ A3 (M1.only O24 (by simp[d2']) (by simp[d3'])) ((O1.mono λb hb _=>hs b hb).trans O24 λb hb _=>hS b hb)
def dy(base n:Nat)(key:Int):Nat:=base+3*ft key n
def nV{key:Int}(C:kO h c m base n)(hn:1<=n)(hn2:n<10000)(hb:base<1000000)(hK:K (ac (dy base n key:Int)) h):Cl 274 [ag (ah c),af key] h K:=by
 apply F274.spec;simp only[aE,Nat.zero_add];have hl:=eH key hn;have r1:rd h ⟨c,1,none⟩=some (ac (base:Int)):=by rw[At.rd C];rfl
 refine aB r1 (aB (n:=(n:Int)) (by rw[At.rd C];rfl) (jZ hn Y (aB rfl ⟨trivial,trivial,trivial,aB r1 ⟨rfl,?_⟩⟩)))
 rw[show ai ((base:Int)+ai (3*(ft key n:Int)))=(dy base n key:Int) by unfold dy;rw[wrap_i64 (n:=3*(ft key n:Int)) Y Y,wrap_i64 Y Y];simp]
 exact hK
def Bc(base n:Nat)(key:Int):Ac:=⟨key,0,dy base n key,0,5,false,false,0⟩
def BA(base n:Nat)(key val:Int):Ac:=⟨key,val,dy base n key,0,0,false,false,0⟩
def u7{key:Int}(C:kO h c m base n)(hn:1<=n)(hn2:n<10000)(hb:base<1000000)
  (hK: ∀f h',fq h' f m (Bc base n key)->aF [] h h'->h.size<=f->K (ag (ah f)) h'):Cl 227 [ag (ah c),af key] h K:=by
 apply F227.spec;simp only[aE,Nat.zero_add,Nat.add_zero];have r0:rd h (ah c)=some (ag (ah m)):=by rw[At.rd C];rfl
 refine aJ r0 (nV C hn hn2 hb (aB rfl ⟨trivial,trivial,trivial,aJ r0 ⟨rfl,trivial,aM λh1 A1 O1 z1=>aK A1 Z rfl λh2 A2 O2 _=> ?_⟩⟩));exact hK h.size h2 A2 (O1.trans O2 λb hb hl=>absurd (show b=h.size by simpa using hb) Y) (Nat.le_refl _)
def vl{key val:Int}(C:kO h c m base n)(hn:1<=n)(hn2:n<10000)(hb:base<1000000)
  (hK: ∀f h',fq h' f m (BA base n key val)->aF [] h h'->h.size<=f->K (ag (ah f)) h'):Cl 252 [ag (ah c),af key,af val] h K:=by
 apply F252.spec;simp only[aE,Nat.zero_add,Nat.add_zero];have r0:rd h (ah c)=some (ag (ah m)):=by rw[At.rd C];rfl
 refine aJ r0 (nV C hn hn2 hb (aB rfl ⟨trivial,trivial,trivial,aJ r0 ⟨rfl,trivial,trivial,aM λh1 A1 O1 z1=>aK A1 Z rfl λh2 A2 O2 _=> ?_⟩⟩));exact hK h.size h2 A2 (O1.trans O2 λb hb hl=>absurd (show b=h.size by simpa using hb) Y) (Nat.le_refl _)
def uZ(A:Ac):Int:=if A.done&&A.ok then A.got else 0
def uK(A:Ac):Bool:=A.done&&A.ok
def xG(H:fq h f m A)(hK:K (.tuple #[af (uZ A),aw (uK A)]) h):Cl 230 [ag (ah f)] h K:=by
 apply F230.spec;simp only[aE,Nat.zero_add];unfold uZ uK at hK;refine aQ (n:=A.done) (by rw[At.rd H];rfl) (aH (λe=> ?_) λe=>aQ (n:=A.ok) (by rw[At.rd H];rfl) (aH (λe'=> ?_) λe'=>aB (n:=A.got) (by rw[At.rd H];rfl) ?_))
 ·have e:A.done=false:=by simpa using e
  simpa[e]using hK
 ·have e:A.done=true:=by simpa using e
  have e':A.ok=false:=by simpa using e'
  simpa[e,e']using hK
 ·have e:A.done=true:=by simpa using e
  have e':A.ok=true:=by simpa using e'
  simpa[e,e']using hK
def lK{k:Int}(h0:1<=k)(h1:k<1000000)(hK:K (ac (3*k)) h):Cl 110 [ac k] h K:=by apply F110.spec;rw[decide_eq_false Y,aD,wrap_i64 Y Y];exact hK
def qE(M:bg h m mc cs ops fails)(hn:1<=n)(hn2:n<=1024)(hb:base+3*n<=cs.length)(hc:cs.length<1000000)
  (hK: ∀c h',kO h' c m base n->aF [] h h'->h.size<=c->K (.tuple #[ag (ah c),ac 0]) h'):
  Cl 109 [ag (ah m),ac (base:Int),ac (n:Int)] h K:=by
 apply F109.spec;rw[decide_eq_false Y,aD,decide_eq_false Y,aD,decide_eq_false Y,aD];refine fN M (aB rfl ?_);rw[decide_eq_false Y,aD];refine lK Y Y (aB rfl (fN M (aB rfl ?_)));rw[wrap_i64 Y Y,decide_eq_false Y,aD];exact aM λh1 A1 O1 z1=>hK h.size h1 A1 O1 (Nat.le_refl _)
end
end
section
def zh{x:Int}(h0:0<=x)(h1:x<18446744073709551616):(BitVec.ofInt 64 x).toNat=x.toNat:=by
 rw[BitVec.toNat_ofInt]
 congr 1
 omega
def yb{x:Int}(h0:0<=x)(h1:x<18446744073709551616):aY .and .u64 x 1=x%2:=by show IntKind.wrap .u64 (((BitVec.ofInt 64 x&&&BitVec.ofInt 64 1).toNat:Nat):Int)=_;rw[BitVec.toNat_and,zh h0 h1,show(BitVec.ofInt 64 1).toNat=1 from rfl,Nat.and_one_is_mod,bG Y Y];omega
def uF{x:Int}(h0:0<=x)(h1:x<18446744073709551616):aY .and .u64 x 3=x%4:=by show IntKind.wrap .u64 (((BitVec.ofInt 64 x&&&BitVec.ofInt 64 3).toNat:Nat):Int)=_;rw[BitVec.toNat_and,zh h0 h1,show(BitVec.ofInt 64 3).toNat=2^2-1 from rfl,Nat.and_two_pow_sub_one_eq_mod,bG Y Y];omega
def rI(n:Nat):n|||2=4*(n/4)+2+n%2:=by
 apply Nat.eq_of_testBit_eq;intro i
 match i with
 |0=>
  rw[Nat.testBit_or];simp[Nat.testBit_zero];omega
 |1=>
  rw[Nat.testBit_or,Nat.testBit_succ,Nat.testBit_succ,Nat.testBit_succ,Nat.testBit_zero,Nat.testBit_zero,Nat.testBit_zero];simp;omega
 |i+2=>
  rw[Nat.testBit_or,Nat.testBit_succ,Nat.testBit_succ,Nat.testBit_succ,Nat.testBit_succ,Nat.testBit_succ,Nat.testBit_succ];rw[show 2/2/2=0 by omega,show(4*(n/4)+2+n%2)/2/2=n/2/2 by omega];simp
def AV{x:Int}(h0:0<=x)(h1:x<18446744073709551616):aY .or .u64 x 2=4*(x/4)+2+x%2:=by show IntKind.wrap .u64 (((BitVec.ofInt 64 x|||BitVec.ofInt 64 2).toNat:Nat):Int)=_;rw[BitVec.toNat_or,zh h0 h1,show(BitVec.ofInt 64 2).toNat=2 from rfl,rI,bG Y Y];omega
def mf{n:Nat}(h:n<18446744073709551616):n&&&18446744073709551613=4*(n/4)+n%2:=by
 apply Nat.eq_of_testBit_eq;intro i
 match i with
 |0=>
  rw[Nat.testBit_and];simp[Nat.testBit_zero];omega
 |1=>
  rw[Nat.testBit_and,Nat.testBit_succ,Nat.testBit_succ,Nat.testBit_succ,Nat.testBit_zero,Nat.testBit_zero,Nat.testBit_zero];simp;omega
 |i+2=>
  rw[Nat.testBit_and,Nat.testBit_succ,Nat.testBit_succ,Nat.testBit_succ,Nat.testBit_succ,Nat.testBit_succ,Nat.testBit_succ];rw[show 18446744073709551613/2/2=2^62-1 by decide,Nat.testBit_two_pow_sub_one,show(4*(n/4)+n%2)/2/2=n/2/2 by omega];by_cases hi:i<62
  ·simp[hi]
  ·have:n/2/2<2^i:=Nat.lt_of_lt_of_le (show n/2/2<2^62 by omega) (Nat.pow_le_pow_right Y Y);rw[Nat.testBit_lt_two_pow this];simp
def sK{x:Int}(h0:0<=x)(h1:x<18446744073709551616):aY .andNot .u64 x 2=4*(x/4)+x%2:=by show IntKind.wrap .u64 (((BitVec.ofInt 64 x&&& ~~~ BitVec.ofInt 64 2).toNat:Nat):Int)=_;rw[BitVec.toNat_and,zh h0 h1,show(~~~ BitVec.ofInt 64 2).toNat=18446744073709551613 from rfl,mf Y,bG Y Y];omega
def sN(pos:Nat)(key val:Int)(cs cs':List Int):Prop:=
 cs'.length=cs.length/\(∀x,x≠pos->x≠pos+1->x≠pos+2->cs'.getD x 0=cs.getD x 0)/\
 ((aY .and .u64 (cs.getD pos 0) 1=0/\cs'.getD pos 0=IntKind.wrap .u64 (aY .or .u64 (cs.getD pos 0) 2+4)/\cs'.getD (pos+1) 0=key/\cs'.getD (pos+2) 0=val)\/
  (aY .and .u64 (cs.getD pos 0) 1≠0/\cs'=cs))
def sS(pos:Nat)(key:Int)(cs:List Int)(v:Int)(ok:Bool):Prop:=
 (ok=true/\aY .and .u64 (cs.getD pos 0) 3=2/\cs.getD (pos+1) 0=key/\v=cs.getD (pos+2) 0)\/(ok=false/\v=0/\ ¬(aY .and .u64 (cs.getD pos 0) 3=2/\cs.getD (pos+1) 0=key))
def yr(cs:List Int)(A:Ac):Prop:=
 A.done=false/\A.ok=false/\(A.ph=5\/(A.ph=6/\A.ver=cs.getD A.pos 0/\aY .and .u64 (cs.getD A.pos 0) 3=2)\/(A.ph=7/\A.ver=cs.getD A.pos 0/\aY .and .u64 (cs.getD A.pos 0) 3=2/\cs.getD (A.pos+1) 0=A.key)\/
  (A.ph=8/\A.ver=cs.getD A.pos 0/\aY .and .u64 (cs.getD A.pos 0) 3=2/\cs.getD (A.pos+1) 0=A.key/\A.got=cs.getD (A.pos+2) 0))
def yr.step{cs:List Int}{A:Ac}(G:yr cs A):(bB cs A).2=cs/\(bB cs A).1.pos=A.pos/\(bB cs A).1.key=A.key/\
  (((bB cs A).1.done=true/\sS A.pos A.key cs (uZ (bB cs A).1) (uK (bB cs A).1))\/(yr cs (bB cs A).1/\(bB cs A).1.ph=A.ph+1)):=by
 obtain⟨key,val,pos,ver,ph,done,ok,got⟩:=A;obtain⟨hd,ho,G⟩:=G;dsimp only at hd ho G;subst hd ho;rcases G with rfl|⟨rfl,hv,h3⟩|⟨rfl,hv,h3,hk⟩|⟨rfl,hv,h3,hk,hg⟩
 ·by_cases h:aY .and .u64 (cs.getD pos 0) 3=2
  ·have e:(aY .and .u64 (cs.getD pos 0) 3 !=2)=false:=by simpa using h
   refine⟨rfl,rfl,rfl,Or.inr ⟨⟨?_,rfl,Or.inr (Or.inl ⟨rfl,rfl,h⟩)⟩,rfl⟩⟩;simpa[bB]using h
  ·have e:(aY .and .u64 (cs.getD pos 0) 3 !=2)=true:=by simpa using h
   refine⟨rfl,rfl,rfl,Or.inl ⟨?_,Or.inr ⟨?_,?_,λh'=>h h'.1⟩⟩⟩
   ·simpa[bB]using h
   ·simp[uK,bB]
   ·simp[uZ,bB]
 ·by_cases h:cs.getD (pos+1) 0=key
  ·refine⟨rfl,rfl,rfl,Or.inr ⟨⟨?_,rfl,Or.inr (Or.inr (Or.inl ⟨rfl,hv,h3,h⟩))⟩,rfl⟩⟩;simpa[bB]using h
  ·refine⟨rfl,rfl,rfl,Or.inl ⟨?_,Or.inr ⟨?_,?_,λh'=>h h'.2⟩⟩⟩
   ·simpa[bB]using h
   ·simp[uK,bB]
   ·simp[uZ,bB]
 ·exact⟨rfl,rfl,rfl,Or.inr ⟨⟨rfl,rfl,Or.inr (Or.inr (Or.inr ⟨rfl,hv,h3,hk,rfl⟩))⟩,rfl⟩⟩
 ·refine⟨rfl,rfl,rfl,Or.inl ⟨rfl,Or.inl ⟨?_,h3,hk,?_⟩⟩⟩
  ·simp[uK,bB,hv]
  ·simp only[uZ,bB,hv,hg];simp
def ta(cs0 cs:List Int)(A:Ac):Prop:=
 A.done=false/\A.ok=false/\((A.ph=0/\cs=cs0)\/(aY .and .u64 (cs0.getD A.pos 0) 1=0/\A.ver=cs0.getD A.pos 0/\
  ((A.ph=1/\cs=cs0)\/(A.ph=2/\cs=cs0.set A.pos (aY .or .u64 A.ver 1))\/(A.ph=3/\cs=(cs0.set A.pos (aY .or .u64 A.ver 1)).set (A.pos+1) A.key)\/
   (A.ph=4/\cs=((cs0.set A.pos (aY .or .u64 A.ver 1)).set (A.pos+1) A.key).set (A.pos+2) A.val))))
def cS{l:List Int}{i j:Nat}{v:Int}(hi:i<l.length):(l.set i v).getD j 0=if i=j then v else l.getD j 0:=by
 by_cases h:i=j
 ·subst h;simp[hi]
 ·simp[List.getD,h]
def ta.step{cs0 cs:List Int}{A:Ac}(hp:A.pos+2<cs0.length)(G:ta cs0 cs A):(bB cs A).1.pos=A.pos/\(bB cs A).1.key=A.key/\(bB cs A).1.val=A.val/\
  (((bB cs A).1.done=true/\(bB cs A).1.ok=false/\sN A.pos A.key A.val cs0 (bB cs A).2)\/(ta cs0 (bB cs A).2 (bB cs A).1/\(bB cs A).1.ph=A.ph+1)):=by
 obtain⟨key,val,pos,ver,ph,done,ok,got⟩:=A;obtain⟨hd,ho,G⟩:=G;dsimp only at hd ho G hp;subst hd ho;rcases G with⟨rfl,rfl⟩|⟨h1,rfl,⟨rfl,rfl⟩|⟨rfl,rfl⟩|⟨rfl,rfl⟩|⟨rfl,rfl⟩⟩
 ·by_cases h:aY .and .u64 (cs.getD pos 0) 1=0
  ·refine⟨rfl,rfl,rfl,Or.inr ⟨⟨?_,rfl,Or.inr ⟨h,rfl,Or.inl ⟨rfl,rfl⟩⟩⟩,rfl⟩⟩;simpa[bB]using h
  ·refine⟨rfl,rfl,rfl,Or.inl ⟨?_,rfl,rfl,λ_ _ _ _=>rfl,Or.inr ⟨h,rfl⟩⟩⟩;simpa[bB]using h
 ·refine⟨?_,?_,?_,Or.inr ⟨⟨?_,?_,Or.inr ⟨?_,?_,Or.inr (Or.inl ⟨?_,?_⟩)⟩⟩,?_⟩⟩<;>simp[bB];exact h1
 ·exact⟨rfl,rfl,rfl,Or.inr ⟨⟨rfl,rfl,Or.inr ⟨h1,rfl,Or.inr (Or.inr (Or.inl ⟨rfl,rfl⟩))⟩⟩,rfl⟩⟩
 ·exact⟨rfl,rfl,rfl,Or.inr ⟨⟨rfl,rfl,Or.inr ⟨h1,rfl,Or.inr (Or.inr (Or.inr ⟨rfl,rfl⟩))⟩⟩,rfl⟩⟩
 ·refine⟨rfl,rfl,rfl,Or.inl ⟨rfl,rfl,by simp[bB],λx n1 n2 n3=> ?_,Or.inl ⟨h1,?_,?_,?_⟩⟩⟩
  ·simp only[bB,Bool.false_eq_true,if_false];rw[cS (by simp;omega),if_neg (Ne.symm n1),cS (by simp;omega),if_neg (Ne.symm n3),cS (by simp;omega),if_neg (Ne.symm n2),cS Y,if_neg (Ne.symm n1)]
  ·simp only[bB,Bool.false_eq_true,if_false];rw[cS (by simp;omega),if_pos rfl]
  ·simp only[bB,Bool.false_eq_true,if_false];rw[cS (by simp;omega),if_neg Y,cS (by simp;omega),if_neg Y,cS (by simp;omega),if_pos rfl]
  ·simp only[bB,Bool.false_eq_true,if_false];rw[cS (by simp;omega),if_neg Y,cS (by simp;omega),if_pos rfl]
structure CW(h:aA)(c m mc base n:Nat)(cs:List Int)(ops fails:Int):Prop where
 cac:kO h c m base n
 mem:bg h m mc cs ops fails
 d4:c≠m
 d5:c≠mc
 hn:1<=n
 hn2:n<=1024
 hc:base+3*n<=cs.length
 hl:cs.length<1000000
def CW.only{h h':aA}{c m mc base n:Nat}{cs:List Int}{ops fails:Int}{S:List Nat}(W:CW h c m mc base n cs ops fails)(O:aF S h h')(h1:c∉S)(h2:m∉S)(h3:mc∉S):CW h' c m mc base n cs ops fails:=
 ⟨W.cac.only O h1,W.mem.only O h2 h3,W.d4,W.d5,W.hn,W.hn2,W.hc,W.hl⟩
def CW.pos{h:aA}{c m mc base n:Nat}{cs:List Int}{ops fails:Int}(W:CW h c m mc base n cs ops fails)(key:Int):dy base n key+2<cs.length:=by have:=eH key W.hn;have:=W.hc;unfold dy;omega
def CW.lt{h:aA}{c m mc base n:Nat}{cs:List Int}{ops fails:Int}(W:CW h c m mc base n cs ops fails):c<h.size/\m<h.size/\mc<h.size:=⟨At.lt W.cac,W.mem.head.lt,W.mem.body.lt⟩
section
variable {h0 h:aA}{f c m mc base n:Nat}{cs:List Int}{ops fails:Int}{K:KK}{key val:Int}
def qR{A:Ac}(W:CW h c m mc base n cs ops fails)(H:fq h f m A)(hp:A.pos+2<cs.length)(hph:A.ph<=8)(d1:f≠c)(d2:f≠m)(d3:f≠mc)
  (hK: ∀h' ops' fails',fq h' f m (bB cs A).1->CW h' c m mc base n (bB cs A).2 ops' fails'->aF [f,m,mc] h h'->K (aw (bB cs A).1.done) h'):
  Cl 229 [ag (ah f)] h K:=
 sc H W.mem hp (Nat.lt_trans W.hl (by decide)) hph d2 d3 λh' ops' fails' a b O=>
  hK h' ops' fails' a ⟨W.cac.only O (by simp[d1.symm,W.d4,W.d5]),b,W.d4,W.d5,W.hn,W.hn2,by rw[nF];exact W.hc,by rw[nF];exact W.hl⟩ O
end
end
section
def kR(h:aA)(lo:Nat)(p:Option Addr)(l c:Nat)(cs:List Value):Prop:=
 cs.length=l/\((p=none/\l=0/\c=0)\/ ∃b o,p=some ⟨b,o,none⟩/\lo<=b/\b<h.size/\((l=0/\c=0)\/ ∃pre sp:List Value,pre.length=o/\l<=c/\sp.length=c-l/\At h b (pre++cs++sp)))
def kR.nil(h:aA)(lo:Nat):kR h lo none 0 0 []:=⟨rfl,Or.inl ⟨rfl,rfl,rfl⟩⟩
def kR.only{S:List Nat}{h h':aA}{lo:Nat}{p:Option Addr}{l c:Nat}{cs:List Value}(H:kR h lo p l c cs)(O:aF S h h')(hS: ∀b∈aR p,b∉S):kR h' lo p l c cs:=by
 obtain⟨e,H⟩:=H;rcases H with H|⟨b,o,h1,h2,h3,H⟩
 ·exact⟨e,Or.inl H⟩
 ·refine⟨e,Or.inr ⟨b,o,h1,h2,Nat.lt_of_lt_of_le h3 O.size,?_⟩⟩;rcases H with H|⟨pre,sp,h4,h5,h6,h7⟩
  ·exact Or.inl H
  ·exact Or.inr ⟨pre,sp,h4,h5,h6,h7.only O (hS b (by rw[h1];simp[aR]))⟩
def kR.lt{h:aA}{lo:Nat}{p:Option Addr}{l c:Nat}{cs:List Value}(H:kR h lo p l c cs): ∀b∈aR p,lo<=b/\b<h.size:=by
 obtain⟨-,H⟩:=H;rcases H with⟨e,-⟩|⟨b,o,h1,h2,h3,-⟩
 ·subst e;simp[aR]
 ·subst h1;intro x hx;simp[aR]at hx;subst hx;exact⟨h2,h3⟩
def kR.rd{h:aA}{lo:Nat}{p:Option Addr}{l c:Nat}{cs:List Value}(H:kR h lo p l c cs){j:Nat}(hj:j<cs.length): ∃a,p=some a/\rd h (a.add j)=cs[j]? :=by
 obtain⟨e,H⟩:=H;rcases H with⟨-,h0,-⟩|⟨b,o,h1,h2,h3,⟨h0,-⟩|⟨pre,sp,h4,h5,h6,h7⟩⟩
 ·omega
 ·omega
 ·refine⟨_,h1,?_⟩;rw[aE,h7.rd,List.getElem?_append_left (by simp;omega),List.getElem?_append_right Y]
  congr 1
  omega
def kR.cap{h:aA}{lo:Nat}{p:Option Addr}{l c:Nat}{cs:List Value}(H:kR h lo p l c cs):l<=c:=by
 obtain⟨e,H⟩:=H;rcases H with⟨-,h0,h1⟩|⟨b,o,h1,h2,h3,⟨h0,h4⟩|⟨pre,sp,h4,h5,h6,h7⟩⟩
 ·omega
 ·omega
 ·exact h5
def kR.pop{h:aA}{lo:Nat}{p:Option Addr}{l c:Nat}{cs:List Value}{v:Value}(H:kR h lo p (l+1) c (cs++[v])):kR h lo (if c=0 then p else Option.map (λa=>Addr.add a (0*1)) p) l c cs:=by
 have ep:(if c=0 then p else Option.map (λa=>Addr.add a (0*1)) p)=p:=by
  split
  ·rfl
  ·cases p with
   |none=>rfl
   |some a=>simp[Addr.add]
 rw[ep];obtain⟨e,H⟩:=H;rw[List.length_append,List.length_singleton]at e;refine⟨Y,?_⟩;rcases H with⟨-,h0,-⟩|⟨b,o,h1,h2,h3,⟨h0,-⟩|⟨pre,sp,h4,h5,h6,h7⟩⟩
 ·omega
 ·omega
 ·exact Or.inr ⟨b,o,h1,h2,h3,Or.inr ⟨pre,v::sp,h4,Y,by simp;omega,by simpa using h7⟩⟩
def tc{h:aA}{lo by_:Nat}{z:Value}{p:Option Addr}{l c bx:Nat}{cs:List Value}{v:Value}{e:TypeId}{K:Option Addr->Nat->Nat->aA->Prop}
  (H:kR h lo p l c cs) (A:At h bx [v]) (hcap:(l+1)*by_<=140737488355328) (hv:v.oneCell'=true) (hlo:lo<=h.size)
  (hK: ∀p' c' h',kR h' lo p' (l+1) c' (cs++[v])->aF (aR p) h h'->(∀b∈aR p',b∈aR p\/h.size<=b)->K p' (l+1) c' h'):
  fA h e 1 by_ #[z] p l c (some ⟨bx,0,none⟩) 1 K:=by
 obtain⟨hlen,H⟩:=H;refine⟨[v],rfl,dT A Z,λhle=> ?_,λhlt=>⟨cs,Y,?_,hcap,λcap hc=> ?_⟩⟩
 ·rcases H with⟨-,h0,h1⟩|⟨b,o,h1,h2,h3,⟨h0,h4⟩|⟨pre,sp,h4,h5,h6,h7⟩⟩
  ·omega
  ·omega
  ·subst h1;show mt ((⟨b,o,none⟩:Addr).add (l*1)) 0 [v] h _;rw[aE];refine ip [v] 0 _ h h7 (by simp;omega) (by simpa using hv) λh' A' O' z'=>hK _ _ h' ⟨by simp[hlen],Or.inr ⟨b,o,rfl,h2,Y,Or.inr ⟨pre,sp.drop 1,h4,hle,by simp;omega,?_⟩⟩⟩ O' λx hx=>Or.inl hx
   have e1:(pre++cs++sp).take (o+l*1+0)=pre++cs:=by rw[show o+l*1+0=(pre++cs).length by simp;omega,List.take_left]
   have e2:(pre++cs++sp).drop (o+l*1+0+[v].length)=sp.drop 1:=by
    rw[List.drop_append,List.drop_eq_nil_of_le (by simp;omega),List.nil_append]
    congr 1
    simp;omega
   rw[e1,e2]at A';simpa using A'
 ·rcases H with⟨e,h0,-⟩|⟨b,o,h1,h2,h3,⟨h0,h4⟩|⟨pre,sp,h4,h5,h6,h7⟩⟩
  ·subst e;exact h0
  ·subst h1;obtain rfl:cs=[]:=List.length_eq_zero_iff.1 Y;intro j x hj;simp at hj
  ·subst h1
   exact dT h7 λj x hj=>by
    have hj':=(List.getElem?_eq_some_iff.1 hj).1;rw[List.getElem?_append_left (by simp;omega),List.getElem?_append_right Y,<-hj]
    congr 1
    omega
 ·refine hK _ _ _ ⟨by simp[hlen],Or.inr ⟨h.size,0,rfl,hlo,Z,Or.inr ⟨[],(Builtin.zeroCells #[z] (cap-(l+1))).toList,rfl,hc,by rw[dD];simp,?_⟩⟩⟩ ((aF.push_cells h _ e).mono Z) λx hx=>Or.inr ?_
  ·have:=At.push h (cs.toArray++ #[v]++Builtin.zeroCells #[z] (cap-(l+1))) e;simpa using this
  ·simp[aR]at hx;omega
end
section
def dh:Option Nd->List Value
 |some x=> [au,ac (x.1:Int),ae (x.2.1:Int),ae (x.2.2:Int)]
 |none=> [aq,ac 0,ae 0,ae 0]
def eY(o:Option Nd):(dh o).length=4:=by cases o<;>rfl
def gD:aj->List Value
 | []=> []
 |x::N=>dh x++gD N
def fR: ∀N,(gD N).length=N.length*4
 | []=>rfl
 |x::N=>by simp[gD,eY,fR N];omega
def qe: ∀N M,gD (N++M)=gD N++gD M
 | [],M=>rfl
 |x::N,M=>by simp[gD,qe N M]
def mP: ∀(N:aj) (i:Nat) (x:Option Nd) (k:Nat),N[i]? =some x->k<4->(gD N)[i*4+k]? =(dh x)[k]?
 | [],i,x,k,h,_=>by simp at h
 |y::N,0,x,k,h,hk=>by simp at h;subst h;rw[Nat.zero_mul,Nat.zero_add];exact List.getElem?_append_left (by rw[eY];exact hk)
 |y::N,i+1,x,k,h,hk=>by
  have:=mP N i x k (by simpa using h) hk;unfold gD;rw[List.getElem?_append_right (by rw[eY];omega),<-this]
  congr 1
  rw[eY];omega
def kv: ∀(N:aj) (i:Nat) (o:Option Nd) (a b c d:Value),i<N.length->dh o=[a,b,c,d]->((((gD N).set (i*4+0) a).set (i*4+1) b).set (i*4+2) c).set (i*4+3) d=gD (N.set i o)
 | [],i,o,a,b,c,d,h,_=>by simp at h
 |y::N,0,o,a,b,c,d,h,e=>by
  simp only[gD,List.set_cons_zero,e];have:=eY y
  match hy:dh y,this with
  | [p,q,r,s],_=>simp
 |y::N,i+1,o,a,b,c,d,h,e=>by have ih:=kv N i o a b c d (by simpa using h) e;simp only[gD,List.set_cons_succ];rw[<-ih];have:=eY y;rw[show(i+1)*4+0=(dh y).length+(i*4+0) by omega,show(i+1)*4+1=(dh y).length+(i*4+1) by omega,show(i+1)*4+2=(dh y).length+(i*4+2) by omega,show(i+1)*4+3=(dh y).length+(i*4+3) by omega];simp only[List.set_append,Nat.not_lt.2 (Nat.le_add_right _ _),if_false,Nat.add_sub_cancel_left]
def isN(N:aj)(a:Nat):Prop:=a<2\/ ∃x,nd N (a-2)=some x
def lvl(n:Nat)(N:aj)(a:Nat):Nat:=if a<2 then n else match nd N (a-2)with|some x=>x.1|none=>0
def low(N:aj)(a:Nat):Nat:=if a<2 then a else match nd N (a-2)with|some x=>x.2.1|none=>0
def high(N:aj)(a:Nat):Nat:=if a<2 then a else match nd N (a-2)with|some x=>x.2.2|none=>0
structure ey(n:Nat)(N:aj):Prop where
 node: ∀i x,nd N i=some x->x.1<n/\isN N x.2.1/\isN N x.2.2/\x.2.1≠x.2.2/\x.1<lvl n N x.2.1/\x.1<lvl n N x.2.2
 once: ∀i j x,nd N i=some x->nd N j=some x->i=j
structure SB where
 ob:Nat
 tb:Nat
 m:Nat
 mc:Nat
 sb:Nat
 cac:Nat
 cm:Nat
 cmc:Nat
 p:ak
 c:Nat
 fp:ak
 fc:Nat
def SB.bm(B:SB)(s:Nat):List Nat:=[s,B.ob,B.cac,B.cm,B.cmc]++aR B.p++aR B.fp
def SB.bt(B:SB):List Nat:=[B.tb,B.m,B.mc,B.sb]
def mG(F:List Nat):List Value:=F.map λ(a:Nat)=>ae (a:Int)
def ie(room:Nat)(B:SB)(l fl:Nat)(off:Bool):List Value:=[ac (room:Int),ag (ah B.ob),.slice B.p l B.c,.slice B.fp fl B.fc,ag (ah B.tb),.map (some B.sb),ag (ah B.cac),aw off]
def jL(Q:Int->Int->Prop)(cs:List Int):Prop:= ∀l,l<256->0<=cs.getD (3*l) 0/\cs.getD (3*l) 0<18446744073709551616/\cs.getD (3*l) 0%2=0/\(cs.getD (3*l) 0%4=2->Q (cs.getD (3*l+1) 0) (cs.getD (3*l+2) 0))
def nY(h:aA)(B:SB)(Q:Int->Int->Prop):Prop:= ∃cs ops fails,CW h B.cac B.cm B.cmc 0 256 cs ops fails/\jL Q cs
def nY.only{S:List Nat}{h h':aA}{B:SB}{Q:Int->Int->Prop}(H:nY h B Q)(O:aF S h h')(h1:B.cac∉S)(h2:B.cm∉S)(h3:B.cmc∉S):nY h' B Q:=by obtain⟨cs,o,f,a,b⟩:=H;exact⟨cs,o,f,a.only O h1 h2 h3,b⟩
structure i9(h:aA)(s n room:Nat)(B:SB)(f g:Nat->Nat)(N:aj)(F:List Nat)(Q:Int->Int->Prop)(off:Bool):Prop where
 S:At h s (ie room B N.length F.length off)
 O:cB h B.ob n f g
 own:ct h 0 4 B.p N.length B.c (gD N)
 fre:kR h 0 B.fp F.length B.fc (mG F)
 cac:nY h B Q
 n8:1<=n/\n<=8
 len:N.length<=room/\room<=32768/\F.length<=N.length
 sep:(B.bm s).Nodup
def gC(h:aA)(B:SB)(E:aj)(T:Nat):Prop:= ∃cs mm ops fails,da h B.tb B.m 0 T/\bg h B.m B.mc cs ops fails/\bU h B.sb .i64 mm/\ky T cs mm E
def gC.only{h h':aA}{B:SB}{E:aj}{T:Nat}{L:List Nat}(H:gC h B E T)(O:aF L h h')(hL: ∀b∈L,b∉B.bt):gC h' B E T:=by have d: ∀b,b∈B.bt->b∉L:=λb hb hl=>hL b hl hb;obtain⟨cs,mm,o,f',t1,t2,t3,t4⟩:=H;exact⟨cs,mm,o,f',t1.only O (d _ (by simp[SB.bt])),t2.only O (d _ (by simp[SB.bt])) (d _ (by simp[SB.bt])),t3.only O (d _ (by simp[SB.bt])),t4⟩
def gC.lt{h:aA}{B:SB}{E:aj}{T:Nat}(H:gC h B E T): ∀b∈B.bt,b<h.size:=λb hb=>by obtain⟨cs,mm,o,f',t1,t2,t3,-⟩:=H;have:=At.lt t1;have:=t2.head.lt;have:=t2.body.lt;have:=t3.lt;simp only[SB.bt,List.mem_cons,List.not_mem_nil,or_false]at hb;omega
structure sa(h:aA)(s:Nat)(B:SB)(N:aj):Prop where
 tab: ∃T,gC h B N T/\(∃k,T=32*2^k)/\2*aT N<=T/\T<=262144
 nd:B.bt.Nodup
 sep: ∀b∈B.bt,b∉B.bm s
def i9.only{h h':aA}{s n room:Nat}{B:SB}{f g:Nat->Nat}{N:aj}{F:List Nat}{Q:Int->Int->Prop}{off:Bool}{L:List Nat}(H:i9 h s n room B f g N F Q off)(O:aF L h h')(hL: ∀b∈L,b∉B.bm s):i9 h' s n room B f g N F Q off:=by have d: ∀b,b∈B.bm s->b∉L:=λb hb hl=>hL b hl hb;exact⟨H.S.only O (d _ (by simp[SB.bm])),H.O.only O (d _ (by simp[SB.bm])),H.own.only O λb hb=>d _ (by simp[SB.bm,hb,aR]),H.fre.only O λb hb=>d _ (by simp[SB.bm,hb]),H.cac.only O (d _ (by simp[SB.bm])) (d _ (by simp[SB.bm])) (d _ (by simp[SB.bm])),H.n8,H.len,H.sep⟩
def sa.only{h h':aA}{s:Nat}{B:SB}{N:aj}{L:List Nat}(H:sa h s B N)(O:aF L h h')(hL: ∀b∈L,b∉B.bt):sa h' s B N:=by obtain⟨T,t,t5⟩:=H.tab;exact⟨⟨T,t.only O hL,t5⟩,H.nd,H.sep⟩
def i9.lt{h:aA}{s n room:Nat}{B:SB}{f g:Nat->Nat}{N:aj}{F:List Nat}{Q:Int->Int->Prop}{off:Bool}(H:i9 h s n room B f g N F Q off): ∀b∈B.bm s,b<h.size:=λb hb=>by
 obtain⟨cs,o,f,c1,-⟩:=H.cac;have:=c1.lt;have:=H.S.lt;have:=At.lt H.O;simp only[SB.bm,List.mem_append,List.mem_cons,List.not_mem_nil,or_false]at hb;rcases hb with(hb|hb)|hb
 ·omega
 ·exact(H.own.lt b hb).2
 ·exact(H.fre.lt b hb).2
def sa.lt{h:aA}{s:Nat}{B:SB}{N:aj}(H:sa h s B N): ∀b∈B.bt,b<h.size:=by obtain⟨T,t,-⟩:=H.tab;exact t.lt
section
variable {h:aA}{s n room:Nat}{B:SB}{f g:Nat->Nat}{N:aj}{F:List Nat}{Q:Int->Int->Prop}{off:Bool}{K:KK}
def rW(H:i9 h s n room B f g N F Q off)(hK:K (ac (n:Int)) h):Cl 75 [ag (ah s)] h K:=by refine F75.spec ?_;simp only[aE,Nat.zero_add];refine aJ (by rw[At.rd H.S];rfl) (zl H.O (aB rfl hK))
def nM{a:Nat}(h2:2<=a)(ha:a<4294967296):IntKind.wrap .u32 ((a:Int)-2)=((a-2:Nat):Int):=by rw[show(a:Int)-2=((a-2:Nat):Int) by omega];exact gi Y
def i9.cells(H:i9 h s n room B f g N F Q off){i:Nat}{o:Option Nd}(hi:N[i]? =some o): ∃b,B.p=some (ah b)/\ ∀k,k<4->rd h ⟨b,i*4+k,none⟩=(dh o)[k]? :=by
 have hl:=(List.getElem?_eq_some_iff.1 hi).1
 have rr: ∀k,k<4-> ∃b,B.p=some (ah b)/\rd h ⟨b,i*4+k,none⟩=(dh o)[k]? :=λk hk=>by obtain⟨b,e1,e2⟩:=H.own.rd (j:=i*4+k) (by rw[fR];omega);exact⟨b,e1,by rw[e2,mP N _ o k hi hk]⟩
 obtain⟨b,e1,e2⟩:=rr 0 Y;refine⟨b,e1,λk hk=> ?_⟩;obtain⟨b',e1',e2'⟩:=rr k hk;rw[e1]at e1';injection e1' with e1';injection e1' with e1';subst e1';exact e2'
def ye(H:i9 h s n room B f g N F Q off){a:Nat}(ha:a<4294967296)
  (h1:(∀x,2<=a->nd N (a-2)≠some x)->K (.pointer none) h)
  (h2: ∀b x,B.p=some (ah b)->2<=a->nd N (a-2)=some x->(∀k,k<4->rd h ⟨b,(a-2)*4+k,none⟩=(dh (some x))[k]?)->K (ag ⟨b,(a-2)*4,none⟩) h):
  Cl 117 [ag (ah s),ae (a:Int)] h K:=by
 refine F117.spec ?_;simp only[aE,Nat.zero_add];refine aH (λhb=> ?_) λhb=> ?_
 ·have hb:=of_decide_eq_true hb;exact h1 λx h2=>Y
 have hb:=of_decide_eq_false hb;have rs:rd h ⟨s,2,none⟩=some (.slice B.p N.length B.c):=by rw[At.rd H.S];rfl
 refine bj rs ?_;have w1:ai (a:Int)=(a:Int):=wrap_i64 Y Y;rw[w1,wrap_i64 Y Y,nM Y ha];refine aH (λhc=> ?_) λhc=> ?_
 ·have hc:=of_decide_eq_true hc;exact h1 λx h2=>by rw[lI Y];simp
 have hc:=of_decide_eq_false hc;have hi:a-2<N.length:=Y;obtain⟨o,ho⟩: ∃o,N[a-2]? =some o:=⟨_,List.getElem?_eq_getElem hi⟩;obtain⟨b,e1,rb⟩:=H.cells ho;refine bj rs ?_;rw[e1,aL];refine⟨Y,Y,?_⟩;rw[aE,aE,show 0+Int.toNat ((a-2:Nat):Int)*4+0=(a-2)*4+0 by omega,rb 0 Y];cases o with
 |none=>
  refine aQ rfl ?_;rw[Bool.not_false,aG];exact h1 λx _=>by rw[Ne,eS,ho];simp
 |some x=>
  refine aQ rfl ?_;rw[Bool.not_true,aD];refine bj rs ?_;rw[e1,aL];refine⟨Y,Y,?_⟩;rw[aE,show 0+Int.toNat ((a-2:Nat):Int)*4=(a-2)*4 by omega];exact h2 b x e1 Y (eS.2 ho) rb
def isN_lt(H:i9 h s n room B f g N F Q off){a:Nat}(ha:isN N a):a<N.length+2:=by
 rcases ha with h|⟨x,h⟩
 ·omega
 ·have:=tA h;omega
def BJ(H:i9 h s n room B f g N F Q off){a:Nat}(ha:a<4294967296)(h1:isN N a->K au h)(h0: ¬isN N a->K aq h):Cl 74 [ag (ah s),ae (a:Int)] h K:=by
 refine F74.spec ?_;refine aH (λhb=> ?_) λhb=> ?_
 ·have hb:=of_decide_eq_true hb;exact h1 (.inl Y)
 have hb:=of_decide_eq_false hb;refine ye H ha (λe=>aJ rfl ?_) λb x e1 h2 hx r=>aJ rfl ?_
 ·refine h0 λhn=> ?_;rcases hn with h|⟨x,h⟩
  ·omega
  ·exact e x Y h
 ·exact h1 (.inr ⟨x,hx⟩)
def oU(H:i9 h s n room B f g N F Q off){a:Nat}(ha:isN N a)(hK:K (ac (lvl n N a:Int)) h):Cl 71 [ag (ah s),ae (a:Int)] h K:=by
 have hl:=H.len;have ha':=isN_lt H ha;refine F71.spec ?_;unfold lvl at hK;refine aH (λhb=> ?_) λhb=> ?_
 ·have hb:=of_decide_eq_true hb;rw[if_pos Y]at hK;exact rW H (aB rfl hK)
 have hb:=of_decide_eq_false hb;rw[if_neg Y]at hK;refine ye H Y (λh1=> ?_) λb x e1 h2 hx r=>aJ rfl ?_
 ·rcases ha with h|⟨x,h⟩
  ·omega
  ·exact absurd h (h1 x Y)
 rw[show(!(Option.isNone (some (⟨b,(a-2)*4,none⟩:Addr))))=true from rfl,aG,aL,aE,r 1 Y];refine aB rfl ?_;rw[hx]at hK;exact hK
def zM{a:Nat}(ha:a<2)(hK:K (ac 1) h):Cl 118 [ag (ah s),ae (a:Int)] h K:=by refine F118.spec ?_;exact aH (λ_=>hK) λhb=>absurd (of_decide_eq_false hb) Y
def pT: ∀a:Fin 2,aY .and .u32 ((a.1:Nat):Int) (IntKind.wrap .u32 1)=((a.1:Nat):Int):=by decide+kernel
def Dd(H:i9 h s n room B f g N F Q off){a:Nat}(ha:isN N a)(hK:K (ae (low N a:Int)) h):Cl 72 [ag (ah s),ae (a:Int)] h K:=by
 have hl:=H.len;have ha':=isN_lt H ha;refine F72.spec ?_;unfold low at hK;refine ye H Y (λh1=>aJ rfl ?_) λb x e1 h2 hx r=>aJ rfl ?_
 ·have h2:a<2:=by
   rcases ha with h|⟨x,h⟩
   ·exact h
   ·exact Classical.byContradiction λhn=>h1 x Y h
  rw[if_pos h2]at hK;rw[show(!(Option.isNone (none:ak)))=false from rfl,aD];refine zM h2 ?_;refine aB rfl ?_;have:=pT ⟨a,h2⟩;dsimp only at this;rw[this];exact hK
 ·rw[if_neg Y,hx]at hK;rw[show(!(Option.isNone (some (⟨b,(a-2)*4,none⟩:Addr))))=true from rfl,aG,aL,aE,r 2 Y];exact aB rfl hK
def AI(H:i9 h s n room B f g N F Q off){a:Nat}(ha:isN N a)(hK:K (ae (high N a:Int)) h):Cl 73 [ag (ah s),ae (a:Int)] h K:=by
 have hl:=H.len;have ha':=isN_lt H ha;refine F73.spec ?_;unfold high at hK;refine ye H Y (λh1=>aJ rfl ?_) λb x e1 h2 hx r=>aJ rfl ?_
 ·have h2:a<2:=by
   rcases ha with h|⟨x,h⟩
   ·exact h
   ·exact Classical.byContradiction λhn=>h1 x Y h
  rw[if_pos h2]at hK;rw[show(!(Option.isNone (none:ak)))=false from rfl,aD];refine zM h2 ?_;refine aB rfl ?_;have:=pT ⟨a,h2⟩;dsimp only at this;rw[this];exact hK
 ·rw[if_neg Y,hx]at hK;rw[show(!(Option.isNone (some (⟨b,(a-2)*4,none⟩:Addr))))=true from rfl,aG,aL,aE,r 3 Y];exact aB rfl hK
def wU(H:i9 h s n room B f g N F Q off)(hF:N.length=aT N+F.length)(hK:K (ac (aT N:Int)) h):Cl 45 [ag (ah s)] h K:=by have hl:=H.len;refine F45.spec ?_;simp only[aE,Nat.zero_add];refine bj (by rw[At.rd H.S];rfl) (bj (by rw[At.rd H.S];rfl) ?_);rw[wrap_i64 Y Y,show((N.length:Nat):Int)-((F.length:Nat):Int)=(aT N:Int) by omega];exact hK
end
end
section
section
variable {h:aA}{s n room:Nat}{B:SB}{f g:Nat->Nat}{N:aj}{F:List Nat}{Q:Int->Int->Prop}{off:Bool}{K:KK}
def Dl{E:aj}{T:Nat}(H:i9 h s n room B f g N F Q off)(Tm:gC h B E T)(nn:B.bt.Nodup)(ss: ∀b∈B.bt,b∉B.bm s)(hT:1<=T)(t7:T<=262144){k:Nat}(hk:k≠0)
  (hY: ∀h' i x,nd E i=some x->kf x=k->aF [B.m,B.mc] h h'->gC h' B E T->K (.tuple #[ae ((i+2:Nat):Int),au]) h')
  (hN: ∀h',pG E k->aF [B.m,B.mc] h h'->gC h' B E T->K (.tuple #[ae 0,aq]) h'):
  Cl 199 [ag (ah s),af (k:Int)] h K:=by
 obtain⟨cs,mm,ops,fails,t1,t2,t3,L⟩:=Tm;simp only[SB.bt,List.nodup_cons,List.mem_cons,List.not_mem_nil,or_false,not_or,List.nodup_nil,and_true,not_false_eq_true]at nn;obtain⟨s1,s2,s3⟩:=nn;have sp:s∉B.bt:=λhm=>ss s hm (by simp[SB.bm]);simp only[SB.bt,List.mem_cons,List.not_mem_nil,or_false,not_or]at sp;refine F199.spec _ _ h K ?_;simp only[aE,Nat.zero_add];refine aJ (by rw[At.rd H.S];rfl) (gc t1 (aB rfl ?_));unfold F199.wk3
 have mk: ∀h' ops',bg h' B.m B.mc cs ops' fails->aF [B.m,B.mc] h h'->gC h' B E T:=λh' ops' M O=>
  ⟨cs,mm,ops',fails,t1.only O (by simp;omega),M,t3.only O (by simp;omega),L⟩
 have S': ∀{h'},aF [B.m,B.mc] h h'->At h' s (ie room B N.length F.length off):=λO=>H.S.only O (by simp;omega)
 have main: ∀(d i:Nat) (h':aA) (ops':Int),i+d=T->m7 0 T cs (k:Int) i->bg h' B.m B.mc cs ops' fails->aF [B.m,B.mc] h h'->F199.wL3 (d+1) (ah s) (k:Int) (T:Int) (T:Int) (i:Int) h' K:=by
  intro d
  induction d with
  |zero=>
   intro i h' ops' hd S M O;rw[F199.sL3];rw[decide_eq_false Y,aD];refine hN h' (λi0 x hx e=> ?_) O (mk h' ops' M O);obtain⟨j,hj,ej⟩:=L.all i0 x hx;obtain⟨d',hd',ed⟩:=nN (key:=(k:Int)) hj;have:=(S d' Y).2;rw[ed,ej,e]at this;exact this rfl
  |succ d ih=>
   intro i h' ops' hd S M O;rw[F199.sL3];rw[decide_eq_true Y,aG];refine jZ Y Y (aB rfl ⟨Y,?_⟩);simp only[aE,Nat.zero_add];refine aJ (by rw[At.rd (S' O)];rfl) ?_;have hh:=eH (k:Int) (n:=T) Y
   have ep:Int.tmod (ai ((ft (k:Int) T:Int)+(i:Int))) (T:Int)=((path T (k:Int) i:Nat):Int):=by
    unfold path;generalize ft (k:Int) T=y at hh;rw[wrap_i64 Y Y,show(y:Int)+(i:Int)=((y+i:Nat):Int) by omega,Int.tmod_eq_emod_of_nonneg Y]
    rfl
   rw[ep];have hp:path T (k:Int) i<T:=pn Y;refine yw (t1.only O (by simp;omega)) M Y Y (by have:=L.len;omega) hp λh2 M2 O2=>aB rfl ?_;have O':aF [B.m,B.mc] h h2:=O.trans O2 (by intro b hb _;exact hb);refine aH (λhb=> ?_) λhb=> ?_
   ·have hb:cell 0 cs (path T (k:Int) i)=(k:Int):=by simpa using hb
    refine⟨_,by rw[At.rd (S' O')];rfl,?_⟩;rcases L.cells _ hp with h0|⟨i0,x,c1,c2,c3⟩
    ·omega
    refine dt (m:=mm) (t3.only O' (by simp;omega)) (λhn=>by rw[hn]at c3;cases c3) λj v hv=> ?_;rw[c3]at hv;injection hv with hv;subst hv;exact aB rfl (hY h2 i0 x c1 Y O' (mk h2 _ M2 O'))
   ·have hb:cell 0 cs (path T (k:Int) i)≠(k:Int):=by simpa using hb
    refine aH (λhz=> ?_) λhz=> ?_
    ·have hz:cell 0 cs (path T (k:Int) i)=0:=by simpa using hz
     refine hN h2 (λi0 x hx e=> ?_) O' (mk h2 _ M2 O');obtain⟨j,hj,ej⟩:=L.all i0 x hx;exact L.inv.absent Y Y S hz j hj (by rw[ej,e])
    ·have hz:cell 0 cs (path T (k:Int) i)≠0:=by simpa using hz
     rw[show ai ((i:Int)+1)=((i+1:Nat):Int) by rw[wrap_i64 Y Y];omega];refine ih (i+1) h2 _ Y (λj hj=> ?_) M2 O';by_cases e:j=i
     ·subst e;exact⟨hz,hb⟩
     ·exact S j Y
 exact⟨_,main T 0 h ops Y (λj hj=>Y) t2 (aF.refl _ _)⟩
end
end
section
def tW{A P P' C:List Nat}(H:(A++P++C).Nodup)(hp:P'.Nodup)(hx: ∀x∈P',x∉A/\x∉C):(A++P'++C).Nodup:=by simp only[List.nodup_append,List.mem_append,ne_eq]at H ⊢;obtain⟨⟨h1,-,-⟩,h3,h4⟩:=H;exact⟨⟨h1,hp,λa ha b hb e=>(hx b hb).1 (e▸ha)⟩,h3,λa ha b hb e=>ha.elim (λh=>h4 a (.inl h) b hb e) λh=>(hx a h).2 (e▸hb)⟩
def nO(p:ak):(aR p).Nodup:=by cases p<;>simp[aR]
def SB.grow{B:SB}{s:Nat}{h:aA}{p':ak}{c':Nat}(H:(B.bm s).Nodup)(hlt: ∀b∈B.bm s,b<h.size)(hp: ∀b∈aR p',b∈aR B.p\/h.size<=b):
  (SB.bm {B with p:=p',c:=c'} s).Nodup/\ ∀b∈SB.bm {B with p:=p',c:=c'} s,b∈B.bm s\/h.size<=b:=by
 refine⟨tW H (nO p') λx hx=> ?_,λb hb=> ?_⟩
 ·rcases hp x hx with h1|h1
  ·unfold SB.bm at H;simp only[List.nodup_append,List.mem_append,ne_eq]at H;obtain⟨⟨_,_,h2⟩,_,h4⟩:=H;exact⟨λhA=>h2 x hA x h1 rfl,λhC=>h4 x (.inr h1) x hC rfl⟩
  ·refine⟨λhA=> ?_,λhC=> ?_⟩
   ·have:=hlt x (by simp only[SB.bm,List.mem_append];exact .inl (.inl hA));omega
   ·have:=hlt x (by simp only[SB.bm,List.mem_append];exact .inr hC);omega
 ·simp only[SB.bm,List.mem_append]at hb ⊢;rcases hb with(hb|hb)|hb
  ·exact .inl (.inl (.inl hb))
  ·rcases hp b hb with h1|h1
   ·exact .inl (.inl (.inr h1))
   ·exact .inr h1
  ·exact .inl (.inr hb)
def lV(p:ak)(c:Nat):(if c=0 then p else Option.map (λa=>Addr.add a (0*1)) p)=p:=by
 split
 ·rfl
 ·cases p with
  |none=>rfl
  |some a=>simp[add_zero]
def Ez(N:aj)(F:List Nat)(N':aj)(F':List Nat)(a:Nat):Prop:=(F=[]/\N'=N++[none]/\F'=[]/\a=N.length+2)\/(F=F'++[a]/\N'=N)
section
variable {h:aA}{s n room:Nat}{B:SB}{f g:Nat->Nat}{N M:aj}{F:List Nat}{Q:Int->Int->Prop}{off:Bool}{K:KK}
set_option maxRecDepth 100000 in
def vO(H:i9 h s n room B f g N F Q off)(hroom:F=[]->N.length<room)
  (hK: ∀h' p' c' N' F' a,Ez N F N' F' a->i9 h' s n room {B with p:=p',c:=c'} f g N' F' Q off->aF (s::aR B.p) h h'->(∀b∈aR p',b∈aR B.p\/h.size<=b)->K (ae (a:Int)) h'):
  Cl 201 [ag (ah s)] h K:=by
 have hl:=H.len;have hsz:s<h.size:=H.S.lt;have hsep:=H.sep;have hlt:=H.lt
 have hin:s∉aR B.p/\s∉aR B.fp/\s∉[B.ob,B.cac,B.cm,B.cmc]:=by unfold SB.bm at hsep;simp only[List.cons_append,List.nodup_cons,List.mem_cons,List.mem_append,not_or,List.nil_append]at hsep;simp only[List.mem_cons,List.not_mem_nil,or_false,not_or];exact⟨hsep.1.2.2.2.2.1,hsep.1.2.2.2.2.2,hsep.1.1,hsep.1.2.1,hsep.1.2.2.1,hsep.1.2.2.2.1⟩
 refine F201.spec ?_;simp only[aE,Nat.zero_add];have rf:rd h ⟨s,3,none⟩=some (.slice B.fp F.length B.fc):=by rw[At.rd H.S];rfl
 refine bj rf ?_;rcases List.eq_nil_or_concat F with e|⟨F',a,e⟩
 ·subst e;rw[decide_eq_false Z,aD];have hr:=hroom rfl;refine bj (by rw[At.rd H.S];rfl) ?_;refine aM λh1 A1 O1 z1=> ?_;have As:=H.S.only O1 Z;have Ws:=H.own.only O1 Z;refine gv (new:=dh none) Ws A1 rfl rfl Y (by simp[dh,Value.oneCell']) Y λp' c' h2 W2 O2 hb2=> ?_;have As2:=As.only O2 hin.1
  have hs':s∉aR p':=λhm=>by
   rcases hb2 s hm with h|h
   ·exact hin.1 h
   ·omega
  refine aK As2 (by simp[ie]) rfl λh3 A3 O3 _=> ?_
  replace A3:At h3 s (ie room {B with p:=p',c:=c'} (N.length+1) 0 off):=A3
  refine bj (by rw[At.rd A3];rfl) ?_
  rw[show IntKind.wrap .u32 (ai (ai (((N.length+1:Nat):Int)-1)+2))=((N.length+2:Nat):Int) by have w1:ai (((N.length+1:Nat):Int)-1)=((N.length+1:Nat):Int)-1:=wrap_i64 Y Y;rw[w1,wrap_i64 Y Y,show((N.length+1:Nat):Int)-1+2=((N.length+2:Nat):Int) by omega];exact gi Y]
  have OO:aF (s::aR B.p) h h3:=(((aF.refl (s::aR B.p) h).trans O1 Z).trans O2 (by intro b hb _;simp[hb])).trans O3 (by intro b hb _;simp at hb;simp[hb])
  have hb3: ∀b∈aR p',b∈aR B.p\/h.size<=b:=λb hb=>by
   rcases hb2 b hb with h|h
   ·exact .inl h
   ·exact .inr Y
  obtain⟨g1,g2⟩:=SB.grow (c':=c') hsep hlt hb3
  have dis: ∀b,b∈[B.ob,B.cac,B.cm,B.cmc]++aR B.fp->b∉s::aR B.p:=λb hb hm=>by
   unfold SB.bm at hsep;simp only[List.nodup_append,List.mem_append,ne_eq]at hsep;obtain⟨⟨h1,_,h2⟩,_,h4⟩:=hsep;rcases List.mem_append.1 hb with hb|hb
   ·rcases List.mem_cons.1 hm with e|hm
    ·exact hin.2.2 (e▸hb)
    ·exact h2 b (by simp only[List.mem_cons]at hb ⊢;exact .inr hb) b hm rfl
   ·rcases List.mem_cons.1 hm with e|hm
    ·exact hin.2.1 (e▸hb)
    ·exact h4 b (.inr hm) b hb rfl
  refine hK h3 p' c' (N++[none]) [] _ (.inl ⟨rfl,rfl,rfl,rfl⟩) ⟨by rw[List.length_append];exact A3,H.O.only OO (dis _ Z),?_,H.fre.only OO λb hb=>dis _ (by simp[hb]),H.cac.only OO (dis _ Z) (dis _ Z) (dis _ Z),H.n8,by rw[List.length_append];exact⟨hr,hl.2.1,Z⟩,g1⟩ OO hb3;rw[qe,List.length_append];exact W2.only O3 λb hb hm=>hs' (by simp at hm;subst hm;rw[hb];simp[aR])
 ·rw[List.concat_eq_append]at e;subst e;rw[List.length_append]at rf;rw[List.length_append,decide_eq_true Z,aG];refine bj rf ?_;have fr:=H.fre;have hfl:(mG (F'++[a])).length=F'.length+1:=by simp[mG]
  obtain⟨ad,e1,e2⟩:=fr.rd (j:=F'.length) Y;rw[e1,aL]
  have w1:ai (((F'.length+[a].length:Nat):Int)-1)=(F'.length:Int):=by
   have hcap:=fr.cap
   have hF:F'.length<9223372036854775807:=by have:=hl.2.2;rw[List.length_append]at this;omega
   rw[wrap_i64 (by rw[List.length_singleton];omega) (by rw[List.length_singleton];omega)];simp
  rw[w1];refine⟨Y,by rw[List.length_singleton];omega,?_⟩;rw[Nat.mul_one,Int.toNat_natCast,e2];refine aB (by simp[mG];rfl) ?_;refine bj rf ⟨Y,?_,?_⟩
  ·have:=fr.cap;simp at this;omega
  ·rw[e1,lV,Nat.sub_zero,Nat.sub_zero];refine aK H.S (by simp[ie]) rfl λh3 A3 O3 _=> ?_
   have dis: ∀b,b∈[B.ob,B.cac,B.cm,B.cmc]++aR B.p++aR B.fp->b∉[s]:=λb hb hm=>by
    simp only[List.mem_singleton]at hm;subst hm;rcases List.mem_append.1 hb with hb|hb
    ·rcases List.mem_append.1 hb with hb|hb
     ·exact hin.2.2 hb
     ·exact hin.1 hb
    ·exact hin.2.1 hb
   refine hK h3 B.p B.c N F' a (.inr ⟨rfl,rfl⟩) ⟨?_,H.O.only O3 (dis _ Z),H.own.only O3 λb hb=>dis _ (by simp[hb,aR]),?_,H.cac.only O3 (dis _ Z) (dis _ Z) (dis _ Z),H.n8,⟨hl.1,hl.2.1,by have:=hl.2.2;rw[List.length_append]at this;omega⟩,hsep⟩ (O3.mono Z) λb hb=> .inl hb
   ·rw[<-e1]at A3;exact A3
   ·have pp:=fr;rw[show mG (F'++[a])=mG F'++[ae (a:Int)] by simp[mG],List.length_append]at pp;have pq:=pp.pop;rw[lV]at pq;exact pq.only O3 λb hb=>dis _ (by simp[hb])
end
end
section
def xL:(Tryz.prog.info? 218).map (·.size)=some 0:=by kernel_rfl
def lG{a:Addr}{h:aA}{K:aA->Prop}(hK:K h):ff Tryz.prog 218 (some a) (.agg #[]) h K:=by
 unfold ff;have e:=xL;cases hi:Tryz.prog.info? 218 with
 |none=>rw[hi]at e;cases e
 |some ti=>
  rw[hi]at e;have e:ti.size=0:=by simpa using e
  have e2:Nat.beq (Value.agg #[]).cells.size ti.size=true:=by rw[e];rfl
  dsimp only;rw[e2];exact hK
def iE{h:aA}{k:IntKind}{K:Nat->aA->Prop}(hK: ∀h',bU h' h.size k []->aF [] h h'->h'.size=h.size+1->K h.size h'):aZ h (.map #[] 0) K:=
 hK _ (bU.empty (by unfold mp;simp)) (aF.push_map h _ _) Z
def mT.only'{S:List Nat}{h h':aA}{k:IntKind}{p:ak}{zs:List Int}(H:mT h k p zs)(O:aF S h h')(hS: ∀a,p=some a->a.block∉S):mT h' k p zs:=by
 intro i hi;obtain⟨a,e,hr⟩:=H i hi;refine⟨a,e,?_⟩;rw[<-hr]
 have hab:(a.add i).block=a.block:=by unfold Addr.add;split<;>rfl
 have hb:(a.add i).block<h.size:=by apply Classical.byContradiction;intro hn;have:h[(a.add i).block]? =none:=Array.getElem?_eq_none Y;simp[rd,this]at hr
 unfold rd;rw[O.same _ hb (by rw[hab];exact hS a e)]
def iT(bl:List Nat)(N:aj):aj:=N.mapIdx λi o=>if i+2∈bl then none else o
def tG{bl:List Nat}{N:aj}{i:Nat}{o:Option Nd}(h:N[i]? =some o):(iT bl N)[i]? =some (if i+2∈bl then none else o):=by
 unfold iT;rw[List.getElem?_mapIdx,h]
 rfl
def oO{bl:List Nat}{N:aj}:(iT bl N).length=N.length:=by simp[iT]
def oy{bl:List Nat}{N:aj}(i:Nat):nd (iT bl N) i=if i+2∈bl then none else nd N i:=by
 unfold nd;cases h:N[i]? with
 |none=>
  rw[List.getElem?_eq_none (by rw[oO];exact List.getElem?_eq_none_iff.1 h)];simp
 |some o=>
  rw[tG h];split<;>rfl
def dl(N:aj):iT [] N=N:=by apply List.ext_getElem?;intro i;unfold iT;rw[List.getElem?_mapIdx];cases N[i]? <;>simp
def fi{E:aj}{i:Nat}{x:Option Nd}(h:E[i]? =some x):E.take (i+1)=E.take i++[x]:=by
 rw[List.take_add_one,h]
 rfl
def xS{E:aj}{i k:Nat}{x:Nd}(h:nd (E.take i) k=some x):nd E k=some x/\k<i:=by have hl:=tA h;rw[List.length_take]at hl;have:=eS.1 h;rw[List.getElem?_take_of_lt Y]at this;exact⟨eS.2 this,Y⟩
def SB.tabs(B:SB)(tb m mc sb:Nat):SB:={B with tb:=tb,m:=m,mc:=mc,sb:=sb}
def xP(mo:List (Int×Value))(bl:List Nat):Prop:= ∀k:Nat,(k∈bl->mo.lookup (k:Int)=some (.agg #[]))/\(k∉bl->mo.lookup (k:Int)=none)
structure BN(h:aA)(s n room:Nat)(B:SB)(f g:Nat->Nat)(N:aj)(F:List Nat)(Q:Int->Int->Prop):Prop where
 O:cB h B.ob n f g
 own:ct h 0 4 B.p N.length B.c (gD N)
 fre:kR h 0 B.fp F.length B.fc (mG F)
 cac:nY h B Q
 n8:1<=n/\n<=8
 len:N.length<=room/\room<=32768/\F.length<=N.length
 sep:(B.bm s).Nodup
def i9.r{h:aA}{s n room:Nat}{B:SB}{f g:Nat->Nat}{N:aj}{F:List Nat}{Q:Int->Int->Prop}{off:Bool}(H:i9 h s n room B f g N F Q off):BN h s n room B f g N F Q:=⟨H.O,H.own,H.fre,H.cac,H.n8,H.len,H.sep⟩
def qG(room:Nat)(B:SB)(l fl:Nat)(off:Bool)(v4 v5:Value):List Value:=[ac (room:Int),ag (ah B.ob),.slice B.p l B.c,.slice B.fp fl B.fc,v4,v5,ag (ah B.cac),aw off]
def BN.lt{h:aA}{s n room:Nat}{B:SB}{f g:Nat->Nat}{N:aj}{F:List Nat}{Q:Int->Int->Prop}(H:BN h s n room B f g N F Q)(hs:s<h.size): ∀b∈B.bm s,b<h.size:=λb hb=>by
 obtain⟨cs,o,f,c1,-⟩:=H.cac;have:=c1.lt;have:=At.lt H.O;simp only[SB.bm,List.mem_append,List.mem_cons,List.not_mem_nil,or_false]at hb;rcases hb with(hb|hb)|hb
 ·omega
 ·exact(H.own.lt b hb).2
 ·exact(H.fre.lt b hb).2
set_option maxRecDepth 100000 in
def oS{h:aA}{s n room:Nat}{B:SB}{f g:Nat->Nat}{N:aj}{F:List Nat}{Q:Int->Int->Prop}{off:Bool}{K:KK}{T bc:Nat}{bp:ak}{bl:List Nat}{v4 v5:Value}(HS:At h s (qG room B N.length F.length off v4 v5))(H:BN h s n room B f g N F Q)
  (hbl:mT h .u32 bp (bl.map λ(k:Nat)=>(k:Int))) (hbs: ∀a,bp=some a->a.block≠s) (hbb:bl.length<=32768)
  (hok: ∀i x,nd (iT bl N) i=some x->lA x) (honce: ∀i j x,nd (iT bl N) i=some x->nd (iT bl N) j=some x->i=j) (hT1: ∃k,T=32*2^k) (hT:2*aT (iT bl N)<=T) (hT2:T<=262144)
  (hK: ∀tb m mc sb h',i9 h' s n room (B.tabs tb m mc sb) f g N F Q off->sa h' s (B.tabs tb m mc sb) (iT bl N)->gC h' (B.tabs tb m mc sb) (iT bl N) T->h.size<=tb->h.size<=m->h.size<=mc->h.size<=sb->aF [s] h h'->K ax h'):
  Cl 111 [ag (ah s),ac (T:Int),.slice bp bl.length bc] h K:=by
 have hT0:1<=T:=by obtain⟨k,e⟩:=hT1;have:=Nat.two_pow_pos k;omega
 have hsep:=H.sep;have hlen:=H.len
 have hin:s∉aR B.p/\s∉aR B.fp/\s∉[B.ob,B.cac,B.cm,B.cmc]:=by unfold SB.bm at hsep;simp only[List.cons_append,List.nodup_cons,List.mem_cons,List.mem_append,not_or,List.nil_append]at hsep;simp only[List.mem_cons,List.not_mem_nil,or_false,not_or];exact⟨hsep.1.2.2.2.2.1,hsep.1.2.2.2.2.2,hsep.1.1,hsep.1.2.1,hsep.1.2.2.1,hsep.1.2.2.2.1⟩
 have dis: ∀b,b∈[B.ob,B.cac,B.cm,B.cmc]++aR B.p++aR B.fp->b∉[s]:=λb hb hm=>by
  simp only[List.mem_singleton]at hm;subst hm;rcases List.mem_append.1 hb with hb|hb
  ·rcases List.mem_append.1 hb with hb|hb
   ·exact hin.2.2 hb
   ·exact hin.1 hb
  ·exact hin.2.1 hb
 have W:=H.own;have hs:=hin.1;refine F111.spec _ _ _ _ _ h K ?_;simp only[aE,Nat.zero_add];have hsz:=HS.lt;refine lT λm mc h1 M1 O1 g1 g2=>aJ rfl ?_;rw[ik hT2]at M1;have lm:m<h1.size:=M1.head.lt;have lmc:mc<h1.size:=M1.body.lt;have hmn:=M1.ne;refine qU (base:=0) M1 hT0 Z (by simp;omega) λtb h2' T2 O2 g3=>⟨_,_,rfl,?_⟩;have lt:tb<h2'.size:=At.lt T2;have A2:=(HS.only O1 Z).only O2 Z;have M2:=M1.only O2 Z Z;refine aK A2 (by simp[qG]) rfl λh3 A3 O3 z3=> ?_;have T3:=T2.only O3 (by simp;omega);have M3:=M2.only O3 (by simp;omega) (by simp;omega);refine iE (k:= .i64) λh4 Mp4 O4 z4=> ?_;have A4:=A3.only O4 Z;refine aK A4 (by simp[qG]) rfl λh5 A5 O5 z5=> ?_;have Mp5:=Mp4.only O5 (by simp;omega);refine iE (k:= .u32) λh6 Mq6 O6 z6=> ?_;have O16:aF [s] h h6:=((((((aF.refl [s] h).trans O1 Z).trans O2 Z).trans O3 (by intro b hb _;exact hb)).trans O4 Z).trans O5 (by intro b hb _;exact hb)).trans O6 Z
 replace A5:At h5 s (ie room (B.tabs tb m mc h3.size) N.length F.length off):=A5
 have A6:=A5.only O6 Z;have hp: ∀b,B.p=some (ah b)->b<h.size:=λb e=>(W.lt b (by rw[e];simp[aR])).2;have hps: ∀b,B.p=some (ah b)->b≠s:=λb e e2=>hs (by rw[e,e2];simp[aR])
 have main: ∀(d i:Nat) (h':aA) (cs:List Int) (mm mo:List (Int×Value)) (ops fails:Int),i+d=N.length->At h' s (ie room (B.tabs tb m mc h3.size) N.length F.length off)->da h' tb m 0 T->bg h' m mc cs ops fails->bU h' h3.size .i64 mm->ky T cs mm ((iT bl N).take i)->
   bU h' h5.size .u32 mo->xP mo bl->aF [s] h h'->F111.wL9 (d+1) (ah s) (some h5.size) B.p N.length B.c (N.length:Int) (i:Int) h' K:=by
  intro d
  induction d with
  |zero=>
   intro i h' cs mm mo ops fails hd A T' M Mp L Mq Om O;rw[F111.sL9];rw[decide_eq_false Y,aD];rw[List.take_of_length_le (by rw[oO];omega)]at L
   refine hK tb m mc h3.size h' ⟨A,H.O.only O (dis _ Z),H.own.only O λb hb=>dis _ (by simp[hb,aR]),H.fre.only O λb hb=>dis _ (by simp[hb]),H.cac.only O (dis _ Z) (dis _ Z) (dis _ Z),H.n8,H.len,H.sep⟩
    ⟨⟨T,⟨cs,mm,ops,fails,T',M,Mp,L⟩,hT1,hT,hT2⟩,?_,?_⟩ ⟨cs,mm,ops,fails,T',M,Mp,L⟩ Y g1 g2 Y O
   ·simp[SB.bt,SB.tabs];omega
   ·intro b hb hm;have:=H.lt HS.lt b hm;simp[SB.bt,SB.tabs]at hb;omega
  |succ d ih=>
   intro i h' cs mm mo ops fails hd A T' M Mp L Mq Om O;have hi:i<N.length:=Y;obtain⟨o,ho⟩: ∃o,N[i]? =some o:=⟨_,List.getElem?_eq_getElem hi⟩;have he:=tG (bl:=bl) ho;have W':ct h' 0 4 B.p N.length B.c (gD N):=W.only O λb hb=>dis _ (by simp[hb,aR])
   obtain⟨b,eb,rr⟩: ∃b,B.p=some (ah b)/\ ∀k,k<4->rd h' ⟨b,i*4+k,none⟩=(dh o)[k]? :=by obtain⟨b,eb,r0⟩:=W'.rd (j:=i*4+0) (by rw[fR];omega);refine⟨b,eb,λk hk=> ?_⟩;obtain⟨b',e1',e2'⟩:=W'.rd (j:=i*4+k) (by rw[fR];omega);rw[eb]at e1';injection e1' with e1';injection e1' with e1';subst e1';rw[e2',mP N i o k ho hk]
   have hb:=hp b eb;have hbs:=hps b eb
   have hw:IntKind.wrap .u32 (ai ((i:Int)+2))=((i+2:Nat):Int):=by rw[wrap_i64 Y Y,show(i:Int)+2=((i+2:Nat):Int) by omega];exact gi Y
   have nx: ∀(k7:aA) (cs':List Int) (mm':List (Int×Value)) (ops' fails':Int),At k7 s (ie room (B.tabs tb m mc h3.size) N.length F.length off)->da k7 tb m 0 T->bg k7 m mc cs' ops' fails'->bU k7 h3.size .i64 mm'->ky T cs' mm' ((iT bl N).take (i+1))->bU k7 h5.size .u32 mo->aF [s] h k7->
     F111.wL9 (d+1) (ah s) (some h5.size) B.p N.length B.c (N.length:Int) (ai ((i:Int)+1)) k7 K:=λk7 cs' mm' ops' fails' A8 T8 M8 Mp8 L8 Mq8 O8=>by
    rw[show ai ((i:Int)+1)=((i+1:Nat):Int) by rw[wrap_i64 Y Y];omega];exact ih (i+1) k7 cs' mm' mo ops' fails' Y A8 T8 M8 Mp8 L8 Mq8 Om O8
   have skip:(if i+2∈bl then none else o)=none-> ∀k6,aF [] h' k6->F111.wL9 (d+1) (ah s) (some h5.size) B.p N.length B.c (N.length:Int) (ai ((i:Int)+1)) k6 K:=λe k6 P16=>by
    rw[e]at he;refine nx k6 cs mm ops fails (A.only P16 Z) (T'.only P16 Z) (M.only P16 Z Z) (Mp.only P16 Z) ?_ (Mq.only P16 Z) (O.trans P16 Z);refine L.congr (λk=> ?_) (by rw[fi he,kV];rfl);rw[fi he,rQ];split
    ·next hh=>rw[lI Y]
    ·rfl
   rw[F111.sL9];rw[decide_eq_true Y,aG,eb,aL];refine⟨Y,Y,?_⟩;rw[<-eb];simp only[aE,Nat.zero_add];rw[show Int.toNat (i:Int)*4=i*4 by omega,hw]
   obtain⟨tv,lv,av,bv,ec⟩: ∃tv lv av bv,dh o=[aw tv,ac lv,ae av,ae bv]:=by
    cases o with
    |none=>exact⟨_,_,_,_,rfl⟩
    |some x=>exact⟨_,_,_,_,rfl⟩
   rw[ec]at rr;refine aQ (by rw[rr 0 Y];rfl) (aB (by rw[rr 1 Y];rfl) (aB (by rw[rr 2 Y];rfl) (aB (by rw[rr 3 Y];rfl) ?_)));refine aM λk1 B1 P1 y1=> ?_;refine aK B1 Z rfl λk2 B2 P2 y2=>aK B2 Z rfl λk3 B3 P3 y3=>aK B3 Z rfl λk4 B4 P4 y4=>aK B4 Z rfl λk5 B5 P5 y5=> ?_
   replace B5:At k5 h'.size [aw tv,ac lv,ae av,ae bv]:=B5
   have P15:aF [] h' k5:=(((P1.trans P2 (by intro b hb hl;simp at hb;omega)).trans P3 (by intro b hb hl;simp at hb;omega)).trans P4 (by intro b hb hl;simp at hb;omega)).trans P5 (by intro b hb hl;simp at hb;omega)
   have tail: ∀(o12:Option (Nat×Value)),(o12.isSome=decide (i+2∈bl))->(lS (.agg #[]) o12= .agg #[])->qW (some (lS (.agg #[]) o12)) (λv13=>aZ k5 (.cells #[] 218) (λb14 h15=>ff Tryz.prog 218 (some (ah b14)) v13 h15 (λh16=>bA (rd h16 (ah h'.size)) (λb17=>aC b17 (aC (!(Option.isSome o12)) (bA (rd h16 (ah h'.size)) (λb18=>aI .i64 (rd h16 ⟨h'.size,1,none⟩) (λn19=>aI .u32 (rd h16 ⟨h'.size,2,none⟩) (λn20=>aI .u32 (rd h16 ⟨h'.size,3,none⟩) (λn21=>Cl 160 [(ag (ah s)),(ae ((i+2:Nat):Int)),(.agg #[(aw b18),(ac n19),(ae n20),(ae n21)])] h16 (λv22 h23=>(v22=ax/\F111.wL9 (d+1) (ah s) (some h5.size) B.p N.length B.c (N.length:Int) (ai ((i:Int)+1)) h23 K))))))) (F111.wL9 (d+1) (ah s) (some h5.size) B.p N.length B.c (N.length:Int) (ai ((i:Int)+1)) h16 K)) (F111.wL9 (d+1) (ah s) (some h5.size) B.p N.length B.c (N.length:Int) (ai ((i:Int)+1)) h16 K))))):=by
    intro o12 e1 e2;rw[e2];refine⟨_,rfl,?_⟩;refine aM λk6 B6 P6 y6=> ?_;refine lG ?_;have C6:=B5.only P6 Z;have P16:aF [] h' k6:=P15.trans P6 Z;have rc: ∀k,rd k6 ⟨h'.size,k,none⟩=([aw tv,ac lv,ae av,ae bv]:List Value)[k]? :=λk=>At.rd C6 k;refine aQ (by rw[rc 0];rfl) ?_;rw[e1];cases o with
    |none=>
     simp only[dh,List.cons.injEq,Value.bool.injEq]at ec;rw[<-ec.1,aD];exact skip (by split<;>rfl) k6 P16
    |some x=>
     simp only[dh,List.cons.injEq,Value.bool.injEq,Value.int.injEq,true_and,and_true]at ec;obtain⟨c1,c2,c3,c4⟩:=ec;rw[<-c1,aG];by_cases hm:i+2∈bl
     ·rw[decide_eq_true hm,Bool.not_true,aD];exact skip (if_pos hm) k6 P16
     ·rw[decide_eq_false hm,Bool.not_false,aG];refine aQ (by rw[rc 0];rfl) (aB (by rw[rc 1];rfl) (aB (by rw[rc 2];rfl) (aB (by rw[rc 3];rfl) ?_)));rw[<-c1,<-c2,<-c3,<-c4];rw[if_neg hm]at he;have hE:nd (iT bl N) i=some x:=eS.2 he
      have hnew:pG ((iT bl N).take i) (kf x):=λk y hy e=>by obtain⟨q1,q2⟩:=xS hy;have:=wT (hok k y q1) (hok i x hE) e;subst this;have:=honce _ _ _ q1 hE;omega
      have A7:=A.only P16 Z;have hc1:aT ((iT bl N).take (i+1))=aT ((iT bl N).take i)+1:=by rw[fi he,kV];rfl
      have hc2:aT ((iT bl N).take (i+1))<=aT (iT bl N):=(List.take_sublist _ _).countP_le
      refine wK A7 (t:=tb) (m:=m) (mc:=mc) (sb:=h3.size) (T:=T) (N':=(iT bl N).take (i+1)) rfl rfl (by simp;omega)
       (T'.only P16 Z) (M.only P16 Z Z) (Mp.only P16 Z) Y (by simp;omega) Y Y (by have:=(At.lt (T'.only P16 Z));omega) (by have:=((M.only P16 Z Z).head).lt;omega) (by have:=((M.only P16 Z Z).body).lt;omega)
       L (hok i x hE) hnew Y (lI (by rw[List.length_take];omega)) (λk=> ?_) hc1 λk7 cs' mm' ops' fails' A8 T8 M8 Mp8 L8 O8=>⟨rfl,?_⟩
      ·rw[fi he,rQ,List.length_take,oO,Nat.min_eq_left Y]
      ·have lq:h5.size<k6.size:=(Mq.only P16 Z).lt;exact nx k7 cs' mm' ops' fails' A8 T8 M8 Mp8 L8 ((Mq.only P16 Z).only O8 (by simp;omega)) ((O.trans P16 Z).trans O8 (by intro b hb hl;simp at hb ⊢;omega))
   refine dt (m:=mo) (Mq.only P15 Z) (λhn=> ?_) λj v hv=> ?_
   ·have:i+2∉bl:=λhm=>by
     rw[(Om (i+2)).1 hm]at hn;cases hn
    exact tail none (by rw[decide_eq_false this];rfl) rfl
   ·have:i+2∈bl:=Classical.byContradiction λhm=>by
     rw[(Om (i+2)).2 hm]at hv;cases hv
    rw[(Om (i+2)).1 this]at hv;injection hv with hv;subst hv;exact tail (some (j,.agg #[])) (by rw[decide_eq_true this];rfl) rfl
 have second: ∀(h':aA) (mo:List (Int×Value)),At h' s (ie room (B.tabs tb m mc h3.size) N.length F.length off)->da h' tb m 0 T->bg h' m mc (List.replicate T 0) 0 0->bU h' h3.size .i64 []->
   bU h' h5.size .u32 mo->xP mo bl->aF [s] h h'->F111.wk8 (ah s) (some h5.size) h' K:=by
  intro h' mo A T' M Mp Mq Om O;unfold F111.wk8;simp only[aE,Nat.zero_add];refine bj (by rw[At.rd A];rfl) ?_;unfold F111.wk9;refine⟨_,main N.length 0 h' (List.replicate T 0) [] mo 0 0 Y A T' M Mp ?_ Mq Om O⟩
  have cz: ∀j,cell 0 (List.replicate T (0:Int)) j=0:=λj=>by unfold cell;rw[List.getD_eq_getElem?_getD,List.getElem?_replicate];split<;>rfl
  refine⟨Z,iO.empty λi _=>cz i,λj _=> .inl (cz j),by simp[nd],?_,by simp[nd]⟩;rw[vj T λi _=>cz i]
  rfl
 unfold F111.wk4
 have first: ∀(d i:Nat) (h':aA) (mo:List (Int×Value)),i+d=bl.length->At h' s (ie room (B.tabs tb m mc h3.size) N.length F.length off)->da h' tb m 0 T->bg h' m mc (List.replicate T 0) 0 0->bU h' h3.size .i64 []->
   bU h' h5.size .u32 mo->xP mo (bl.take i)->aF [s] h h'->F111.wL4 (d+1) (ah s) (some h5.size) bp bl.length bc (bl.length:Int) (i:Int) h' K:=by
  intro d
  induction d with
  |zero=>
   intro i h' mo hd A T' M Mp Mq Om O;rw[F111.sL4];rw[decide_eq_false Y,aD];rw[List.take_of_length_le Y]at Om;exact second h' mo A T' M Mp Mq Om O
  |succ d ih=>
   intro i h' mo hd A T' M Mp Mq Om O;have hi:i<bl.length:=Y;obtain⟨a,ea,er⟩:=(hbl.only' O λa e hm=>hbs a e (by simpa using hm)) i (by simpa using hi);have e3:(bl.map λ(k:Nat)=>(k:Int)).getD i 0=(bl[i]:Int):=by simp[List.getD,hi]
   rw[e3]at er;rw[F111.sL4];rw[decide_eq_true Y,aG,ea,aL];refine⟨Y,Y,?_⟩;rw[<-ea,Nat.mul_one,Int.toNat_natCast,er];refine aB rfl ?_;refine ir Mq λk3 Mq3 P3 y3=> ?_
   rw[show ai ((i:Int)+1)=((i+1:Nat):Int) by rw[wrap_i64 Y Y];omega]
   have lq:=Mq.lt;refine ih (i+1) k3 _ Y (A.only P3 (by simp;omega)) (T'.only P3 (by simp;omega)) (M.only P3 (by simp;omega) (by simp;omega)) (Mp.only P3 (by simp;omega)) Mq3 (λk=> ?_) (O.trans P3 (by intro b hb hl;simp at hb;omega));rw[cH,List.take_add_one,List.getElem?_eq_getElem hi];simp only[Option.toList_some,List.mem_append,List.mem_singleton];refine⟨λhk=> ?_,λhk=> ?_⟩
   ·by_cases e:k=bl[i]
    ·rw[if_pos Y]
    ·rw[if_neg Y];exact(Om k).1 (hk.resolve_right e)
   ·rw[if_neg (λe=>hk (.inr Y))];exact(Om k).2 λhm=>hk (.inl hm)
 have Z6:xP [] (bl.take 0):=λk=>⟨λhm=>by simp at hm,λ_=>rfl⟩;exact⟨_,first bl.length 0 h6 [] Y A6 ((T3.only O4 Z).only O5 (by simp;omega)|>.only O6 Z) (((M3.only O4 Z Z).only O5 (by simp;omega) (by simp;omega)).only O6 Z Z) (Mp5.only O6 Z) Mq6 Z6 O16⟩
end
section
structure mW(h:aA)(s n room:Nat)(B:SB)(f g:Nat->Nat)(N:aj)(F:List Nat)(Q:Int->Int->Prop)(off:Bool):Prop where
 m:i9 h s n room B f g N F Q off
 t:sa h s B N
 ok:ey n N
 cnt:N.length=aT N+F.length
 fre:F.Nodup/\ ∀a∈F,2<=a/\a-2<N.length/\nd N (a-2)=none
def ey.ndok{n:Nat}{N:aj}(H:ey n N)(hn:n<=8)(hl:N.length<=32768){i:Nat}{x:Nd}(hx:nd N i=some x):lA x:=by
 obtain⟨a,b,c,d,-⟩:=H.node i x hx
 have lt: ∀{y},isN N y->y<2^28:=λ{y} h=>by
  rcases h with h|⟨z,h⟩
  ·omega
  ·have:=tA h;omega
 exact⟨Y,lt b,lt c,d⟩
structure iY(N N':aj)(q:Nat)(x:Nd):Prop where
 was:nd N q=none
 get: ∀k,nd N' k=if k=q then some x else nd N k
 cnt:aT N'=aT N+1
 len:N.length<=N'.length/\N'.length<=N.length+1
def iY.isN{N N':aj}{q:Nat}{x:Nd}(P:iY N N' q x){a:Nat}(h:isN N a):isN N' a:=by
 rcases h with h|⟨y,h⟩
 ·exact .inl h
 ·refine .inr ?_;rw[P.get];split
  ·exact⟨_,rfl⟩
  ·exact⟨y,h⟩
def iY.old{N N':aj}{q:Nat}{x:Nd}(P:iY N N' q x){i:Nat}{y:Nd}(h:nd N i=some y):nd N' i=some y:=by
 rw[P.get,if_neg]
 ·exact h
 ·intro e;subst e;rw[P.was]at h;cases h
def iY.lvl{N N':aj}{q n:Nat}{x:Nd}(P:iY N N' q x){a:Nat}(h:Ev.isN N a):lvl n N' a=lvl n N a:=by
 unfold Ev.lvl;rcases h with h|⟨y,h⟩
 ·rw[if_pos h,if_pos h]
 ·rw[P.old h,h]
def iY.ok{n:Nat}{N N':aj}{q:Nat}{x:Nd}(P:iY N N' q x)(H:ey n N)(h1:x.1<n)(h2:Ev.isN N x.2.1)(h3:Ev.isN N x.2.2)(h4:x.2.1≠x.2.2)(h5:x.1<Ev.lvl n N x.2.1)(h6:x.1<Ev.lvl n N x.2.2)(h7: ∀i,nd N i≠some x):ey n N':=by
 refine⟨λi y hy=> ?_,λi j y hi hj=> ?_⟩
 ·rw[P.get]at hy;split at hy
  ·injection hy with hy;subst hy;exact⟨h1,P.isN h2,P.isN h3,h4,by rw[P.lvl h2];exact h5,by rw[P.lvl h3];exact h6⟩
  ·obtain⟨a,b,c,d,e,f⟩:=H.node i y hy;exact⟨a,P.isN b,P.isN c,d,by rw[P.lvl b];exact e,by rw[P.lvl c];exact f⟩
 ·rw[P.get]at hi hj;split at hi
  ·injection hi with hi;subst hi;split at hj
   ·omega
   ·exact absurd hj (h7 j)
  ·split at hj
   ·injection hj with hj;subst hj;exact absurd hi (h7 i)
   ·exact H.once i j y hi hj
def Ff(room:Nat)(N E:aj)(l a b:Nat)(N':aj)(r e:Nat):Prop:=
 (a=b/\r=a/\e=0/\N'=N)\/(a≠b/\ ∃i,nd E i=some (l,a,b)/\r=i+2/\e=0/\N'=N)\/
 (a≠b/\(∀i,nd E i≠some (l,a,b))/\room<=aT N/\r=0/\e=60/\N'=N)\/
 (a≠b/\(∀i,nd E i≠some (l,a,b))/\aT N<room/\e=0/\ ∃q,r=q+2/\iY N N' q (l,a,b))
def gU(room:Nat)(N:aj)(l a b:Nat)(N':aj)(r e:Nat):Prop:=
 (a=b/\r=a/\e=0/\N'=N)\/(a≠b/\ ∃i,nd N i=some (l,a,b)/\r=i+2/\e=0/\N'=N)\/
 (a≠b/\(∀i,nd N i≠some (l,a,b))/\room<=aT N/\r=0/\e=60/\N'=N)\/
 (a≠b/\(∀i,nd N i≠some (l,a,b))/\aT N<room/\e=0/\ ∃q,r=q+2/\iY N N' q (l,a,b))
section
variable {h:aA}{s n room:Nat}{B:SB}{f g:Nat->Nat}{N:aj}{F:List Nat}{Q:Int->Int->Prop}{off:Bool}{K:KK}
def mW.only{L:List Nat}{h':aA}(H:mW h s n room B f g N F Q off)(O:aF L h h')(h1: ∀b∈L,b∉B.bm s/\b∉B.bt):mW h' s n room B f g N F Q off:=
 ⟨H.m.only O λb hb=>(h1 b hb).1,H.t.only O λb hb=>(h1 b hb).2,H.ok,H.cnt,H.fre⟩
def sO: ∀{A C:aj},(∀i,nd A i=nd C i)->aT A=aT C:=by
 have z: ∀{C:aj},(∀i,nd C i=none)->aT C=0:=by
  intro C
  induction C with
  |nil=>intro _;rfl
  |cons o C ih=>
   intro h;have h0:o=none:=by have:=h 0;simpa[nd]using this
   have:=ih λi=>by have:=h (i+1);simpa[nd]using this
   unfold aT at this ⊢;rw[List.countP_cons,this,h0]
   rfl
 intro A
 induction A with
 |nil=>intro C h;rw[z λi=>(by rw[<-h];rfl:nd C i=none)];rfl
 |cons o A ih=>
  intro C h;cases C with
  |nil=>rw[z λi=>(by rw[h];rfl:nd (o::A) i=none)];rfl
  |cons p C=>
   have h0:o=p:=by have:=h 0;simpa[nd]using this
   have:=ih (C:=C) λi=>by have:=h (i+1);simpa[nd]using this
   unfold aT at this ⊢;rw[List.countP_cons,List.countP_cons,this,h0]
def BL: ∀{A C:aj},(∀i x,nd A i=some x->nd C i=some x)->aT A<=aT C:=by
 intro A
 induction A with
 |nil=>intro C _;exact Nat.zero_le _
 |cons o A ih=>
  intro C h;cases C with
  |nil=>
   have h0:o=none:=by
    cases o with
    |none=>rfl
    |some x=>have:=h 0 x (by simp[nd]);simp[nd]at this
   have:=ih (C:=[]) λi x hx=>(by have:=h (i+1) x (by simpa[nd]using hx);simp[nd]at this);unfold aT at this ⊢;rw[List.countP_cons,h0];simpa using this
  |cons p C=>
   have:=ih (C:=C) λi x hx=>by have:=h (i+1) x (by simpa[nd]using hx);simpa[nd]using this
   unfold aT at this ⊢;rw[List.countP_cons,List.countP_cons];cases o with
   |none=>simp;omega
   |some x=>
    have h0:p=some x:=by have:=h 0 x (by simp[nd]);simpa[nd]using this
    rw[h0];simp;omega
def xW{A C:aj}{q:Nat}{x:Nd}(h0:nd A q=none)(h: ∀i,nd C i=if i=q then some x else nd A i):aT C=aT A+1:=by
 obtain⟨A',eA⟩: ∃A',A'=A++List.replicate (q+1) none:=⟨_,rfl⟩
 have nA: ∀i,nd A' i=nd A i:=λi=>by
  unfold nd;rw[eA];by_cases hi:i<A.length
  ·rw[List.getElem?_append_left hi]
  ·rw[List.getElem?_append_right Y,List.getElem?_replicate,List.getElem?_eq_none Y];split<;>rfl
 have lt:q<A'.length:=by rw[eA];simp;omega
 have e0:A'[q]? =some none:=by have:=nA q;rw[h0]at this;unfold nd at this;rw[List.getElem?_eq_getElem lt]at this ⊢;simpa using this
 rw[<-sO nA,<-mj (x:=x) e0];exact sO λi=>by rw[h,lO lt,nA]
def wN(A:aj)(q:Nat)(x:Nd):aj:=(A++List.replicate (q+1) none).set q (some x)
def jv{A:aj}{q:Nat}{x:Nd}(_:nd A q=none)(i:Nat):nd (wN A q x) i=if i=q then some x else nd A i:=by
 unfold wN;rw[lO (by simp;omega)];split
 ·rfl
 ·unfold nd;by_cases hi:i<A.length
  ·rw[List.getElem?_append_left hi]
  ·rw[List.getElem?_append_right Y,List.getElem?_replicate,List.getElem?_eq_none Y];split<;>rfl
set_option maxRecDepth 100000 in
def tw{E:aj}{T:Nat}(H:i9 h s n room B f g N F Q off)(Tm:gC h B E T)(bn:B.bt.Nodup)(bs: ∀b∈B.bt,b∉B.bm s)(hc:N.length=aT N+F.length)(hfre:F.Nodup/\ ∀a∈F,2<=a/\a-2<N.length/\nd N (a-2)=none){l a b:Nat}(hx:lA (l,a,b))(hnew:pG E (kf (l,a,b)))
  (hr:aT N<room) (hE:aT E<T) (hT:T<=262144) (hqE: ∀q,nd N q=none->nd E q=none)
  (hK: ∀h' B' N' F' q,iY N N' q (l,a,b)->i9 h' s n room B' f g N' F' Q off->(∀E',(∀k,nd E' k=if k=q then some (l,a,b)else nd E k)->gC h' B' E' T)->B'.bt.Nodup->(∀b∈B'.bt,b∉B'.bm s)->N'.length=aT N'+F'.length->(F'.Nodup/\ ∀a∈F',2<=a/\a-2<N'.length/\nd N' (a-2)=none)->
   aF (B.bm s++B.bt) h h'->(∀y∈B'.bm s++B'.bt,y∈B.bm s++B.bt\/h.size<=y)->K (.tuple #[ae ((q+2:Nat):Int),ac 0]) h'):
  F161.wk17 (ah s) (l:Int) (a:Int) (b:Int) h K:=by
 have hn8:=H.n8;have hlen:=H.len;unfold F161.wk17;refine vO H (λe=>by subst e;simp at hc;omega) λh1 p' c' N1 F1 a1 R H1 O1 hp=>aB rfl ?_
 have hsub: ∀b∈s::aR B.p,b∈B.bm s:=λb hb=>by
  rcases List.mem_cons.1 hb with e|hb
  ·subst e;simp[SB.bm]
  ·simp only[SB.bm,List.mem_append];exact .inl (.inr hb)
 have Tm1:gC h1 {B with p:=p',c:=c'} E T:=Tm.only O1 λb hb hm=>bs b hm (hsub b hb)
 have bs1: ∀b∈B.bt,b∉SB.bm {B with p:=p',c:=c'} s:=λb hb hm=>by
  rcases(SB.grow (c':=c') H.sep H.lt hp).2 b hm with h2|h2
  ·exact bs b hb h2
  ·have:=Tm.lt b hb;omega
 obtain⟨q,eq,hq,hN1,hc1,hq0,hlen1,hF1⟩: ∃q,a1=q+2/\N1[q]? =some none/\(∀k,nd N1 k=nd N k)/\aT N1=aT N/\nd N q=none/\(N.length<=N1.length/\N1.length<=N.length+1)/\(N1.length=aT N+F1.length+1/\F1.Nodup/\a1∉F1/\ ∀a∈F1,2<=a/\a-2<N1.length/\nd N (a-2)=none):=by
  rcases R with⟨e1,e2,e3,e4⟩|⟨e1,e2⟩
  ·subst e1 e2 e3;refine⟨N.length,e4,Z,λk=> ?_,by rw[kV];rfl,lI (Nat.le_refl _),Z,by simp at hc;simp;omega,Z,Z,Z⟩;rw[rQ];split
   ·next e=>rw[lI Y]
   ·rfl
  ·subst e1 e2;obtain⟨g1,g2⟩:=hfre;obtain⟨f1,f2,f3⟩:=g2 a1 Z;refine⟨a1-2,Y,?_,λ_=>rfl,rfl,f3,Y,by simp at hc;omega,(List.nodup_append.1 g1).1,λhm=>(List.nodup_append.1 g1).2.2 a1 hm a1 Z rfl,λa ha=>g2 a (by simp[ha])⟩;obtain⟨o,ho⟩: ∃o,N1[a1-2]? =some o:=⟨_,List.getElem?_eq_getElem f2⟩;unfold nd at f3;rw[ho]at f3 ⊢;simp at f3;rw[f3]
 subst eq;have hql:q<N1.length:=(List.getElem?_eq_some_iff.1 hq).1;have hl1:=H1.len
 have wq:IntKind.wrap .u32 (((q+2:Nat):Int)-2)=((q:Nat):Int):=by have:=nM (a:=q+2) Y Y;rw[this];simp
 simp only[aE,Nat.zero_add];have rs1:rd h1 ⟨s,2,none⟩=some (.slice p' N1.length c'):=by rw[At.rd H1.S];rfl
 obtain⟨b0,e1,-⟩:=H1.cells hq;have e1:p'=some (ah b0):=e1;refine bj rs1 ?_;rw[e1,aL,wq];refine⟨Y,Y,?_⟩;rw[aE,show 0+Int.toNat (q:Int)*4=q*4 by omega];simp only[aE];have W1:=H1.own;rw[show SB.p {B with p:=p',c:=c'}=some (ah b0)from e1]at W1;have nl:(gD N1).length=N1.length*4:=fR N1;refine ct.set W1 Y rfl λh2 W2 O2=>ct.set W2 (by simp;omega) rfl λh3 W3 O3=>ct.set W3 (by simp;omega) rfl λh4 W4 O4=>ct.set W4 (by simp;omega) rfl λh5 W5 O5=> ?_;rw[kv N1 q (some (l,a,b)) _ _ _ _ hql rfl]at W5;have O25:aF [b0] h1 h5:=((O2.trans O3 Z).trans O4 Z).trans O5 Z;have hsep1:=H1.sep
 have nb: ∀y∈[s,B.ob,B.cac,B.cm,B.cmc]++aR B.fp,y∉[b0]:=λy hy hm=>by
  simp only[List.mem_singleton]at hm;subst hm;unfold SB.bm at hsep1;simp only[List.nodup_append,List.mem_append,ne_eq]at hsep1;obtain⟨⟨_,_,g2⟩,_,g4⟩:=hsep1;have hmp:y∈aR p':=by rw[e1];simp[aR]
  rcases List.mem_append.1 hy with h|h
  ·exact g2 y h y hmp rfl
  ·exact g4 y (.inr hmp) y h rfl
 have H5:i9 h5 s n room {B with p:=p',c:=c'} f g (N1.set q (some (l,a,b))) F1 Q off:=by have el:(N1.set q (some (l,a,b))).length=N1.length:=Z;refine⟨by rw[el];exact H1.S.only O25 (nb _ Z),H1.O.only O25 (nb _ Z),by rw[el,show SB.p {B with p:=p',c:=c'}=some (ah b0)from e1];exact W5,H1.fre.only O25 λy hy=>nb _ (by simp only[List.mem_append];exact .inr hy),H1.cac.only O25 (nb _ Z) (nb _ Z) (nb _ Z),H1.n8,by rw[el];exact H1.len,H1.sep⟩
 have Tm5:gC h5 {B with p:=p',c:=c'} E T:=Tm1.only O25 λy hy hm=>by simp only[List.mem_singleton]at hy;subst hy;exact bs1 y hm (by simp only[SB.bm,List.mem_append];exact .inl (.inr (by rw[e1];simp[aR])))
 have P:iY N (N1.set q (some (l,a,b))) q (l,a,b):=by
  refine⟨hq0,λk=> ?_,?_,by simp;omega⟩
  ·rw[lO hql,hN1]
  ·rw[mj hq,hc1]
 have rs5:rd h5 ⟨s,2,none⟩=some (.slice p' N1.length c'):=by
  have:=H5.S;rw[show(N1.set q (some (l,a,b))).length=N1.length by simp]at this;rw[At.rd this]
  rfl
 refine bj rs5 ?_;rw[e1,aL];refine⟨Y,Y,?_⟩;rw[aE,show 0+Int.toNat (q:Int)*4=q*4 by omega];simp only[aE];obtain⟨b5,e5,r5⟩:=H5.cells (i:=q) (o:=some (l,a,b)) (by rw[List.getElem?_set_self hql])
 have:b5=b0:=by have e5:p'=some (ah b5):=e5;rw[e1]at e5;injection e5 with e5;injection e5 with e5;exact e5.symm
 subst this;refine aQ (by rw[r5 0 Y];rfl) (aB (by rw[r5 1 Y];rfl) (aB (by rw[r5 2 Y];rfl) (aB (by rw[r5 3 Y];rfl) ?_)));have bl:=Tm5.lt;obtain⟨cs,mm,ops,fails,t1,t2,t3,L⟩:=Tm5;have nn:=bn;simp only[SB.bt,List.nodup_cons,List.mem_cons,List.not_mem_nil,or_false,not_or,List.nodup_nil,and_true,not_false_eq_true]at nn;have sp:s∉B.bt:=λhm=>bs s hm (by simp[SB.bm]);simp only[SB.bt,List.mem_cons,List.not_mem_nil,or_false,not_or]at sp;have S5:=H5.S;rw[show(N1.set q (some (l,a,b))).length=N1.length by simp]at S5
 refine wK S5 (t:=B.tb) (m:=B.m) (mc:=B.mc) (sb:=B.sb) (T:=T) rfl rfl (by simp;omega) t1 t2 t3 Y (by simp;omega) Y Y (bl _ (by simp[SB.bt])) (bl _ (by simp[SB.bt])) (bl _ (by simp[SB.bt]))
  (N':=wN E q (l,a,b)) L hx hnew Y (hqE q hq0) (jv (hqE q hq0)) (xW (hqE q hq0) (jv (hqE q hq0))) λh6 cs' mm' ops' fails' A6 T6 M6 Mp6 L6 O6=>⟨rfl,?_⟩
 have Hm6:=H5.only O6 λy hy hm=>bs1 y (by simp[SB.bt]at hy ⊢;omega) hm;refine hK h6 {B with p:=p',c:=c'} _ F1 q P Hm6 (λE' hE'=>⟨cs',mm',ops',fails',T6,M6,Mp6,L6.congr (λk=>by rw[hE',jv (hqE q hq0)]) (sO λk=>by rw[hE',jv (hqE q hq0)])⟩) bn bs1 (by simp only[List.length_set];rw[P.cnt];omega) ⟨hF1.2.1,λy hy=> ?_⟩ ?_ λy hy=> ?_
 ·obtain⟨z1,z2,z3⟩:=hF1.2.2.2 y hy;refine⟨z1,by simp only[List.length_set];exact z2,?_⟩;rw[P.get,if_neg]
  ·exact z3
  ·intro e;apply hF1.2.2.1;rw[show q+2=y by omega];exact hy
 ·refine((aF.mono O1 λy hy _=> ?_).trans O25 λy hy hlt=> ?_).trans O6 λy hy _=> ?_
  ·simp only[List.mem_append];exact .inl (hsub y hy)
  ·simp only[List.mem_singleton]at hy;subst hy;rcases hp y (by rw[e1];simp[aR])with h7|h7
   ·simp only[List.mem_append];exact .inl (hsub y (by simp[h7]))
   ·omega
  ·simp only[List.mem_append,SB.bt];simp at hy ⊢;omega
 ·rcases List.mem_append.1 hy with hy|hy
  ·rcases(SB.grow (c':=c') H.sep H.lt hp).2 y hy with h7|h7
   ·exact .inl (List.mem_append.2 (.inl h7))
   ·exact .inr h7
  ·exact .inl (List.mem_append.2 (.inr hy))
end
end
section
section
variable {h:aA}{s n room:Nat}{B:SB}{f g:Nat->Nat}{N:aj}{F:List Nat}{Q:Int->Int->Prop}{off:Bool}{K:KK}
set_option maxRecDepth 100000 in
def E3{U:List Nat}{T:Nat}(Hm:i9 h s n room B f g N F Q off)(Tm:gC h B (iT U N) T)(bn:B.bt.Nodup)(bs: ∀b∈B.bt,b∉B.bm s)(t5: ∃k,T=32*2^k)(t7:T<=262144)(hc:N.length=aT N+F.length)(hfre:F.Nodup/\ ∀a∈F,2<=a/\a-2<N.length/\nd N (a-2)=none)
  (ok: ∀i x,nd (iT U N) i=some x->lA x) {l a b:Nat} (hl:l<n) (ha:isN N a) (hb:isN N b) (la:l<lvl n N a) (lb:l<lvl n N b) (hg:2*(aT N+1)<=T\/U=[]/\ey n N/\2*aT N<=T) (hU: ∀c∈U,2<=c/\nd N (c-2)≠none)
  (hK: ∀h' B' N' F' r e T',Ff room N (iT U N) l a b N' r e->i9 h' s n room B' f g N' F' Q off->gC h' B' (iT U N') T'->(2*(aT N+1)<=T->T'=T)->(U=[]->2*aT N<=T->2*aT N'<=T')->(∃k,T'=32*2^k)->T'<=262144->B'.bt.Nodup->(∀b∈B'.bt,b∉B'.bm s)->N'.length=aT N'+F'.length->(F'.Nodup/\ ∀a∈F',2<=a/\a-2<N'.length/\nd N' (a-2)=none)->
   aF (B.bm s++B.bt) h h'->(∀y∈B'.bm s++B'.bt,y∈B.bm s++B.bt\/h.size<=y)->K (.tuple #[ae (r:Int),ac (e:Int)]) h'):
  Cl 161 [ag (ah s),ac (l:Int),ae (a:Int),ae (b:Int)] h K:=by
 have hn8:=Hm.n8;have hlen:=Hm.len
 have T32:32<=T:=by obtain⟨k,e⟩:=t5;have:=Nat.two_pow_pos k;omega
 have el:aT (iT U N)<=aT N:=BL λi x hx=>by
  rw[oy]at hx;split at hx
  ·cases hx
  ·exact hx
 have ha':=isN_lt Hm ha;have hb':=isN_lt Hm hb;refine F161.spec ?_;rw[decide_eq_false Y,aD];refine rW Hm (aB rfl ?_);rw[decide_eq_false Y,aD];refine BJ Hm Y (λ_=>aQ rfl ?_) λe=>absurd ha e;rw[Bool.not_true,aD];refine BJ Hm Y (λ_=>aQ rfl ?_) λe=>absurd hb e;rw[Bool.not_true,aD];refine oU Hm ha (aB rfl ?_);rw[decide_eq_false Y,aD];refine oU Hm hb (aB rfl ?_);rw[decide_eq_false Y,aD];refine aH (λhe=> ?_) λhe=> ?_
 ·have he:a=b:=by
   have:(a:Int)=b:=by simpa using he
   omega
  exact hK h B N F a 0 T (.inl ⟨he,rfl,rfl,rfl⟩) Hm Tm (λ_=>rfl) (λ_=>id) t5 t7 bn bs hc hfre (aF.refl _ _) λy hy=> .inl hy
 have hne:a≠b:=λe=>by subst e;simp at he
 unfold F161.wk9;have hx:lA (l,a,b):=⟨by show l<256;omega,by show a<2^28;omega,by show b<2^28;omega,hne⟩;refine zN hx.1 hx.2.1 hx.2.2.1 (aB rfl ?_)
 have hmb: ∀y∈[B.m,B.mc],y∈B.bm s++B.bt:=λy hy=>by simp only[List.mem_append,SB.bt];simp at hy ⊢;omega
 have hk0:pH l a b≠0:=by have:=qD hx;unfold kf at this;exact this
 refine Dl (k:=pH l a b) Hm Tm bn bs Y t7 hk0 (λh1 i x hx1 hx2 O1 T1=>⟨_,_,rfl,?_⟩) λh1 hnk O1 T1=>⟨_,_,rfl,?_⟩
 ·rw[aG];have:=wT (ok i x hx1) hx hx2;subst this;exact hK h1 B N F (i+2) 0 T (.inr (.inl ⟨hne,i,hx1,rfl,rfl,rfl⟩)) (Hm.only O1 λy hy hm=>bs y (by simp[SB.bt]at hy ⊢;omega) hm) T1 (λ_=>rfl) (λ_=>id) t5 t7 bn bs hc hfre (O1.mono λy hy _=>hmb y hy) λy hy=> .inl hy
 ·have H1:i9 h1 s n room B f g N F Q off:=Hm.only O1 λy hy hm=>bs y (by simp[SB.bt]at hy ⊢;omega) hm;have OO:aF (B.bm s++B.bt) h h1:=O1.mono λy hy _=>hmb y hy;have hnew: ∀i,nd (iT U N) i≠some (l,a,b):=λi hi=>hnk i _ hi rfl;have hcl:=kX N;rw[aD];simp only[aE,Nat.zero_add,Nat.add_zero];have r0:rd h1 (ah s)=some (ac (room:Int)):=by rw[At.rd H1.S];rfl
  have r4:rd h1 ⟨s,4,none⟩=some (ag (ah B.tb)):=by rw[At.rd H1.S];rfl
  refine aB r0 (wU H1 hc (aB rfl ⟨trivial,trivial,trivial,aB r0 ⟨rfl,?_⟩⟩));refine aH (λhf=> ?_) λhf=> ?_
  ·have hf:=of_decide_eq_true hf;exact hK h1 B N F 0 60 T (.inr (.inr (.inl ⟨hne,hnew,Y,rfl,rfl,rfl⟩))) H1 T1 (λ_=>rfl) (λ_=>id) t5 t7 bn bs hc hfre OO λy hy=> .inl hy
  have hf:=of_decide_eq_false hf;have hr:aT N<room:=Y
  have era0: ∀q,nd N q=none->nd (iT U N) q=none:=λq hq=>by
   rw[oy];split
   ·rfl
   ·exact hq
  have eraP: ∀{N' q},iY N N' q (l,a,b)-> ∀k,nd (iT U N') k=if k=q then some (l,a,b)else nd (iT U N) k:=λ{N' q} P k=>by
   rw[oy,oy,P.get];by_cases e:k=q
   ·rw[if_pos e,if_pos e,if_neg];intro hm;have:=(hU _ hm).2;rw[show k+2-2=k by omega,e,P.was]at this;exact this rfl
   ·rw[if_neg e,if_neg e]
  obtain⟨cs,mm,o,f',t1,t2,t3,L⟩:=id T1;refine aJ r4 (wU H1 hc (aB rfl ⟨trivial,trivial,trivial,aJ r4 ⟨rfl,gc t1 (aB rfl ⟨by trivial,by trivial,?_⟩)⟩⟩));have w1:ai ((aT N:Int)+1)=((aT N+1:Nat):Int):=by rw[wrap_i64 Y Y];omega
  have w2:ai (2*((aT N+1:Nat):Int))=((2*(aT N+1):Nat):Int):=by rw[wrap_i64 Y Y];omega
  rw[w1,w2];refine aH (λhq=> ?_) λhq=> ?_
  ·have hq:=of_decide_eq_true hq;obtain⟨e0,ok0,t6⟩:=hg.resolve_left Y;subst e0;have w3:ai (2*(T:Int))=((2*T:Nat):Int):=by rw[wrap_i64 Y Y];omega
   refine aJ r4 (gc t1 (aB rfl ?_));rw[w3];have hsz:s<h1.size:=H1.S.lt
   refine oS (bl:=[]) H1.S H1.r (λi hi=>absurd hi Z) (λa e=>by cases e) Z ok (by rw[dl];exact ok0.once) (by obtain⟨k,e⟩:=t5;exact⟨k+1,by rw[e,Nat.pow_succ];omega⟩) (by rw[dl];omega) Y
    λtb m mc sb h2 H2 T2 TX g1 g2 g3 g4 O2=>⟨rfl,?_⟩
   have hsm:s∈B.bm s:=by simp[SB.bm]
   refine tw H2 TX T2.nd T2.sep hc hfre hx hnk hr Y Y era0 λh3 B3 N3 F3 q P S3 T3 n3 s3 c3 f3 O3 fr=>hK h3 B3 N3 F3 (q+2) 0 (2*T) (.inr (.inr (.inr ⟨hne,hnew,hr,rfl,q,rfl,P⟩))) S3 (T3 _ (eraP P)) (λw=>Y) (λ_ w=>by rw[P.cnt];omega) (by obtain⟨k,e⟩:=t5;exact⟨k+1,by rw[e,Nat.pow_succ];omega⟩) Y n3 s3 c3 f3 ?_ λy hy=> ?_
   ·refine(OO.trans O2 λy hy _=> ?_).trans O3 λy hy hlt=> ?_
    ·simp only[List.mem_singleton]at hy;subst hy;exact List.mem_append.2 (.inl hsm)
    ·rcases List.mem_append.1 hy with hy|hy
     ·exact List.mem_append.2 (.inl hy)
     ·have:=OO.size;simp[SB.bt,SB.tabs]at hy;omega
   ·rcases fr y hy with hy|hy
    ·rcases List.mem_append.1 hy with hy|hy
     ·exact .inl (List.mem_append.2 (.inl hy))
     ·have:=OO.size;simp[SB.bt,SB.tabs]at hy;exact .inr Y
    ·have:=OO.size;have:=O2.size;exact .inr Y
  ·have hq:=of_decide_eq_false hq;refine tw H1 T1 bn bs hc hfre hx hnk hr Y t7 era0 λh3 B3 N3 F3 q P S3 T3 n3 s3 c3 f3 O3 fr=>hK h3 B3 N3 F3 (q+2) 0 T (.inr (.inr (.inr ⟨hne,hnew,hr,rfl,q,rfl,P⟩))) S3 (T3 _ (eraP P)) (λ_=>rfl) (λ_ w=>by rw[P.cnt];omega) t5 t7 n3 s3 c3 f3 (OO.trans O3 λy hy _=>hy) λy hy=> ?_;rcases fr y hy with hy|hy
   ·exact .inl hy
   ·have:=OO.size;exact .inr Y
set_option maxRecDepth 100000 in
def Er(H:mW h s n room B f g N F Q off){l a b:Nat}(hl:l<n)(ha:isN N a)(hb:isN N b)(la:l<lvl n N a)(lb:l<lvl n N b)
  (hK: ∀h' B' N' F' r e,gU room N l a b N' r e->mW h' s n room B' f g N' F' Q off->aF (B.bm s++B.bt) h h'->(∀y∈B'.bm s++B'.bt,y∈B.bm s++B.bt\/h.size<=y)->K (.tuple #[ae (r:Int),ac (e:Int)]) h'):
  Cl 161 [ag (ah s),ac (l:Int),ae (a:Int),ae (b:Int)] h K:=by
 obtain⟨T,t,t5,t6,t7⟩:=H.t.tab;have n8:=H.m.n8;have hl':=H.m.len;have t':gC h B (iT [] N) T:=by rw[dl];exact t
 refine E3 (U:=[]) H.m t' H.t.nd H.t.sep t5 t7 H.cnt H.fre (by rw[dl];exact λi x hx=>H.ok.ndok n8.2 Y hx) hl ha hb la lb (.inr ⟨rfl,H.ok,t6⟩) (λc hc=>by cases hc) λh' B' N' F' r e T' R S1 T1 _ c6 k5 k7 n1 s1 c1 f1 O1 fr=> ?_;rw[dl]at R T1;have R:gU room N l a b N' r e:=R;refine hK h' B' N' F' r e R ⟨S1,⟨⟨T',T1,k5,c6 rfl t6,k7⟩,n1,s1⟩,?_,c1,f1⟩ O1 fr;rcases R with⟨-,-,-,e1⟩|⟨-,i,-,-,-,e1⟩|⟨-,-,-,-,-,e1⟩|⟨hne,hnew,-,-,q,-,P⟩
 ·rw[e1];exact H.ok
 ·rw[e1];exact H.ok
 ·rw[e1];exact H.ok
 ·exact P.ok H.ok hl ha hb hne la lb hnew
end
end
section
structure SX where
 n:Nat
 room:Nat
 f:Nat->Nat
 g:Nat->Nat
 N:aj
 Q:Int->Int->Prop
 off:Bool
def cG(h:aA)(s:Nat)(L:List Nat)(X:SX):Prop:= ∃B F,L=B.bm s++B.bt/\mW h s X.n X.room B X.f X.g X.N F X.Q X.off
def cj(L L':List Nat)(h:aA):Prop:= ∀b∈L',b∈L\/h.size<=b
def cj.refl(L:List Nat)(h:aA):cj L L h:=λ_ hb=> .inl hb
def cj.trans{L L' L'':List Nat}{h h':aA}(a:cj L L' h)(b:cj L' L'' h')(hz:h.size<=h'.size):cj L L'' h:=λx hx=>by
 rcases b x hx with h1|h1
 ·exact a x h1
 ·exact .inr Y
def aF.app{L L':List Nat}{h h' h'':aA}(a:aF L h h')(b:aF L' h' h'')(f:cj L L' h):aF L h h'':=a.trans b λx hx hl=>by
 rcases f x hx with h1|h1
 ·exact h1
 ·omega
section
variable {h h':aA}{s:Nat}{L S:List Nat}{X:SX}{K:KK}
def cG.only(H:cG h s L X)(O:aF S h h')(hS: ∀b∈S,b∉L):cG h' s L X:=by obtain⟨B,F,e,H⟩:=H;subst e;exact⟨B,F,rfl,H.only O λb hb=>⟨λhm=>hS b hb (List.mem_append.2 (.inl hm)),λhm=>hS b hb (List.mem_append.2 (.inr hm))⟩⟩
def cG.only0(H:cG h s L X)(O:aF [] h h'):cG h' s L X:=H.only O Z
def cG.lt(H:cG h s L X): ∀b∈L,b<h.size:=λb hb=>by
 obtain⟨B,F,e,H⟩:=H;subst e;rcases List.mem_append.1 hb with h1|h1
 ·exact H.m.lt b h1
 ·exact H.t.lt b h1
def cG.ok(H:cG h s L X):ey X.n X.N/\1<=X.n/\X.n<=8/\X.N.length<=X.room/\X.room<=32768/\aT X.N<=X.N.length:=by obtain⟨B,F,e,H⟩:=H;exact⟨H.ok,H.m.n8.1,H.m.n8.2,H.m.len.1,H.m.len.2.1,kX _⟩
def cG.isN_lt(H:cG h s L X){a:Nat}(ha:isN X.N a):a<32770:=by obtain⟨B,F,e,H⟩:=H;have:=Ev.isN_lt H.m ha;have:=H.m.len;omega
def gS(H:cG h s L X)(hK:K (ac (X.n:Int)) h):Cl 75 [ag (ah s)] h K:=by obtain⟨B,F,e,H⟩:=H;exact rW H.m hK
def Ai(H:cG h s L X){a:Nat}(ha:a<4294967296)(h1:isN X.N a->K au h)(h0: ¬isN X.N a->K aq h):Cl 74 [ag (ah s),ae (a:Int)] h K:=by obtain⟨B,F,e,H⟩:=H;exact BJ H.m ha h1 h0
def eK(H:cG h s L X){a:Nat}(ha:isN X.N a)(h1:K au h):Cl 74 [ag (ah s),ae (a:Int)] h K:=
 Ai H (by have:=H.isN_lt ha;omega) (λ_=>h1) λe=>absurd ha e
def dj(H:cG h s L X){a:Nat}(ha:isN X.N a)(hK:K (ac (lvl X.n X.N a:Int)) h):Cl 71 [ag (ah s),ae (a:Int)] h K:=by obtain⟨B,F,e,H⟩:=H;exact oU H.m ha hK
def iv(H:cG h s L X){a:Nat}(ha:isN X.N a)(hK:K (ae (low X.N a:Int)) h):Cl 72 [ag (ah s),ae (a:Int)] h K:=by obtain⟨B,F,e,H⟩:=H;exact Dd H.m ha hK
def fW(H:cG h s L X){a:Nat}(ha:isN X.N a)(hK:K (ae (high X.N a:Int)) h):Cl 73 [ag (ah s),ae (a:Int)] h K:=by obtain⟨B,F,e,H⟩:=H;exact AI H.m ha hK
def jG(H:cG h s L X)(hK:K (ac (aT X.N:Int)) h):Cl 45 [ag (ah s)] h K:=by obtain⟨B,F,e,H⟩:=H;exact wU H.m H.cnt hK
def xw(H:cG h s L X){l a b:Nat}(hl:l<X.n)(ha:isN X.N a)(hb:isN X.N b)(la:l<lvl X.n X.N a)(lb:l<lvl X.n X.N b)
  (hK: ∀h' L' N' r e,gU X.room X.N l a b N' r e->cG h' s L' {X with N:=N'}->aF L h h'->cj L L' h->K (.tuple #[ae (r:Int),ac (e:Int)]) h'):
  Cl 161 [ag (ah s),ac (l:Int),ae (a:Int),ae (b:Int)] h K:=by
 obtain⟨B,F,e,H⟩:=H;subst e;exact Er H hl ha hb la lb λh' B' N' F' r e R S O fr=>hK h' _ N' r e R ⟨B',F',rfl,S⟩ O fr
def wn{b n:Nat}{f g:Nat->Nat}(H:cB h b n f g)(hK: ∀c h',cB h' c n f g->h.size<=c->aF [] h h'->K (ag (ah c)) h'):
  Cl 104 [ag (ah b)] h K:=by
 refine F104.spec ?_;have r: ∀k,rd h ⟨b,k,none⟩=(ac (n:Int)::(L8 f++L8 g))[k]? :=λk=>At.rd H k;refine aB (by rw[aE,r];rfl) (aB (by rw[aE,r];rfl) (aB (by rw[aE,r];rfl) (aB (by rw[aE,r];rfl) (aB (by rw[aE,r];rfl) (aB (by rw[aE,r];rfl) (aB (by rw[aE,r];rfl) (aB (by rw[aE,r];rfl) (aB (by rw[aE,r];rfl) (aB (by rw[aE,r];rfl) (aB (by rw[aE,r];rfl) (aB (by rw[aE,r];rfl) (aB (by rw[aE,r];rfl) (aB (by rw[aE,r];rfl) (aB (by rw[aE,r];rfl) (aB (by rw[aE,r];rfl) (aB (by rw[aE,r];rfl) ?_))))))))))))))));refine aM λh0 A0 O0 z0=> ?_;show mt (ah h.size) 0 (ac (n:Int)::(L8 f++L8 g)) h0 λh'=>K (ag (ah h.size)) h';refine ip (o:=0) _ 0 _ h0 A0 (by simp[L8]) (λv hv=> ?_) λh' A' O' z=>hK h.size h' ?_ (Nat.le_refl _) (O0.trans O' (by intro x hx hlt;simp at hx;omega))
 ·simp only[List.mem_cons,List.mem_append,L8,List.mem_map]at hv;rcases hv with e|⟨i,_,e⟩|⟨i,_,e⟩<;>subst e<;>rfl
 ·simp[dZ]at A';exact A'
end
end
section
variable {i j k l m n o p q r s t:Int}{a b c d:Addr}{u v:Nat}{x y:ak}{h:aA}{K:KK}
def F182.T:bf:=⟨[(5,[14,15]),(6,[14])],[(3,[[(0,[]),(1,[]),(2,[]),(3,[]),(4,[]),(5,[]),(6,[]),(7,[]),(8,[]),(9,[0,1,2,3]),(10,[]),(11,[])]])]⟩
section
variable (n:Nat)(c:Addr)(d f g i j:Int)(a:ak)(b:Value)(h:aA)(K:KK)
def F182.wk6:Prop:=Cl 230 [ap a] h λa b=> ∃c:Int,∃d:Bool,a=(.tuple #[af c,aw d])/\K (.tuple #[ae (IntKind.wrap .u32 c),aw d]) b
def F182.wL5:Prop:=Lp Tryz.f182 F182.T [1,1,1,0,1,0] n [(14,(ap a)),(15,b)] h K
def F182.sL5:F182.wL5 (n+1) a b h K=(gn Tryz.prog X b [] h λc d=>bA (some c) λc=>aC (!c) (F182.wL5 n a b d K) (F182.wk6 a d K)):=by kernel_rfl
def F182.wk5:Prop:=(∃c,F182.wL5 c a b h K)
def F182.spec(H:bA (rd h (c.add 7)) λa=>aC a (K (.tuple #[ae 0,aq]) h) (bi (rd h (c.add 6)) λa=>Cl 228 [.int .u8 d,.int .u8 f,ae g,ae i,ae j] h λb d=>aI .u64 (some b) λb=>ay (ag c)/\ay (ag c)/\ay (ag (c.add 6))/\bi (rd d (c.add 6)) λc=>az (ap c) (ap a)/\Cl 227 [ap a,af b] d λa b=>bi (some a) λa=>F182.wk5 a (.func (.func 229) #[ap a] #[]) b K)):Cl 182 [ag c,.int .u8 d,.int .u8 f,ae g,ae i,ae j] h K:=cT F182.T Tryz.func182 H
end
def F207.T:bf:=⟨[(3,[15])],[(1,[[(0,[]),(1,[]),(2,[]),(3,[]),(4,[]),(5,[]),(6,[]),(7,[]),(8,[]),(10,[]),(11,[]),(9,[0,1,2,3,10,11]),(12,[]),(13,[])]])]⟩
section
variable (n:Nat)(b:Addr)(d f g i j c:Int)(a:Value)(h:aA)(K:KK)
def F207.wL3:Prop:=Lp Tryz.f207 F207.T [1,1,1,0] n [(15,a)] h K
def F207.sL3:F207.wL3 (n+1) a h K=(gn Tryz.prog X a [] h λb c=>bA (some b) λb=>aC (!b) (F207.wL3 n a c K) (K ax c)):=by kernel_rfl
def F207.wk3:Prop:=(∃b,F207.wL3 b a h K)
def F207.spec(H:bA (rd h (b.add 7)) λa=>aC a (K ax h) (bi (rd h (b.add 6)) λa=>Cl 228 [.int .u8 d,.int .u8 f,ae g,ae i,ae j] h λd e=>aI .u64 (some d) λd=>ay (ag b)/\ay (ag b)/\ay (ag (b.add 6))/\bi (rd e (b.add 6)) λb=>az (ap b) (ap a)/\ay (ae c)/\ay (af (IntKind.wrap .u64 c))/\Cl 252 [ap a,af d,af (IntKind.wrap .u64 c)] e λa b=>bi (some a) λa=>F207.wk3 (.func (.func 229) #[ap a] #[]) b K)):Cl 207 [ag b,.int .u8 d,.int .u8 f,ae g,ae i,ae j,ae c] h K:=cT F207.T Tryz.func207 H
end
def F228.spec(H:(0<=(56:Int)/\0<=(48:Int)/\0<=(32:Int)/\0<=(16:Int)/\K (af (aY .or .u64 (aY .or .u64 (aY .or .u64 (aY .or .u64 (IntKind.wrap .u64 ((IntKind.wrap .u64 i)*2^(min (Int.toNat 56) (IntKind.bits .u64)))) (IntKind.wrap .u64 ((IntKind.wrap .u64 j)*2^(min (Int.toNat 48) (IntKind.bits .u64))))) (IntKind.wrap .u64 ((IntKind.wrap .u64 k)*2^(min (Int.toNat 32) (IntKind.bits .u64))))) (IntKind.wrap .u64 ((IntKind.wrap .u64 l)*2^(min (Int.toNat 16) (IntKind.bits .u64))))) (IntKind.wrap .u64 m))) h)):Cl 228 [.int .u8 i,.int .u8 j,ae k,ae l,ae m] h K:=cN Tryz.func228 H
end
end Go.Proofs.YtnofenejoebkhaaGreat.Ev
