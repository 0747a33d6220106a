/- PART 2 OF WHAT THE LAW EngineStands STANDS ON: EvK, EvL, FunF5, FunA5, FunB5, FunC5, FunD5, MemF5, MemC5, TabF5, TabC5, TabD5, TabP5, NodA5, NodB5, EvN, NodC5, OrdF5, OrdC5, CacF5, CacC5, CacP5, EvM, NodD5, NodG5, NodH5, NodI5, NodJ5, NodK5. Conditions: none but those that each lemma states. -/
import Derived.Test.YtnofenejoebkhaaGreatG1
import Derived.WalkKit
import Derived.ProofKit
import Derived.OpenShut
import Derived.Carry
import Derived.Deep.Slices
import Derived.Laws.AppendOwn
namespace Go.Proofs.YtnofenejoebkhaaGreat.Ev
open Go
set_option linter.defProp false
section
open Go Go.ChangeShapes Go.WideShapes Go.ChangeAt Go.RowKit
def ff(h:aH)(v:Value)(h':aH):Prop:=v= .bool true/\aM [] h h'
def IY(w:World)(a:Addr):w.frozen? a=fz w.heap a:=by
 unfold World.frozen? fz
 rfl
def law_calls{P:Program}{f:FuncId}{args:List Value}{W:World}(H:gU P f args W.heap (ff W.heap)):
  Calls P f args.toArray W λe W'=>e= .returned (.bool true)/\Below W.heap.size W W'/\ ∀a,W'.frozen? a=W.frozen? a:=by
 refine(H W rfl).mono λe W' ⟨v,he,hs,hv,hO⟩=> ?_;subst hv;exact⟨he,⟨hs.1,hs.2.1,hs.2.2,hO.size,λk hk=>hO.same k hk ak⟩,λa=>by rw[IY,IY];exact hO.fzn a⟩
def jV{H:Type}{enc:TypeId×Value->H}{P:Program}(hl:laidOutB P=true){W W':World}{sp:Nat->Bool}:
  ∀(ts:List TypeId) (vs:List Value) (ds:List (DataW H)) (ps:List MemPlace),ts.all (λt=>P.readableRec t&&decide (t<P.types.size))=true->
   DataW.TrodAll enc P W 0 (λ_=>true) true ts vs ds ps->(∀p∈ps,W.sameAt W' p)->(∀p∈ps,sp p.block=true)->DataW.TrodAll enc P W' 0 sp true ts vs ds ps
 | [],[],[],_,_,h,_,_=>h
 |t::ts,v::vs,d::ds,ps,hr,⟨p,q,hd,hds,e⟩,hsame,hsp=>by
  subst e;simp only[List.all_cons,Bool.and_eq_true,decide_eq_true_eq]at hr
  exact⟨p,q,WideElems.Trod_stays hl hr.1.1 hr.1.2 hd (λx hx=>hsame x (List.mem_append.2 (.inl hx))) (λx hx=>hsp x (List.mem_append.2 (.inl hx))),
   jV hl ts vs ds q hr.2 hds (λx hx=>hsame x (List.mem_append.2 (.inr hx))) (λx hx=>hsp x (List.mem_append.2 (.inr hx))),rfl⟩
 | [],_::_,_,_,_,h,_,_=>h.elim
 | [],[],_::_,_,_,h,_,_=>h.elim
 |_::_,[],_,_,_,h,_,_=>h.elim
 |_::_,_::_,[],_,_,h,_,_=>h.elim
def post_law{H:Type}{enc:TypeId×Value->H}{P:Program}{f:Func}{s:ChangeSpec}{apart fresh handsOn fH:Bool}{W W':World}{args:Array Value}{ds gs:List (DataW H)}{before:List MemPlace}{tb:TypeId}
  (hl:laidOutB P=true) (hread:f.params.toList.all (λt=>P.readableRec t&&decide (t<P.types.size))=true)
  (hres:f.resultTypes= #[tb]) (hb:P.underlying tb=some .bool) (hvars:s.vars=[])
  (hW:DataW.Whole enc P f.params.toList s.vars apart W args.toList ds gs before)
  (hs:s.fn H ds={results:=[.lit (.bool true)],args:=ds})
  (hB:Below W.heap.size W W') (hfz: ∀a,W'.frozen? a=W.frozen? a):s.post enc P f apart fresh handsOn fH W args (.bool true) W':=by
 have hlt: ∀p∈before,p.block<W.heap.size:=λp hp=>hW.lt p hp;obtain⟨p,q,hA,hV,rfl,hz,hn⟩:=id hW;rw[hvars]at hV
 obtain⟨rfl,rfl⟩:gs=[]/\q=[]:=by
  cases gs with
  |nil=>exact⟨rfl,hV⟩
  |cons _ _=>exact hV.elim
 refine post_of_same (pa:=p) (pv:=[]) hW (λ_ _ _=> ?_) (λsp hsp=> ?_) (λsp hsp=> ?_) rfl (hB.frame _) hfz ?_
 ·rw[hres,List.append_nil,hs];exact trodAll_cons_mk (shut_bool hb _) trodAll_mk0
 ·rw[List.append_nil,hs];exact jV hl _ _ _ _ hread hA (λx hx=>hB.same (hlt x (List.mem_append.2 (.inl hx)))) (λx hx=>hsp x (List.mem_append.2 (.inl hx)))
 ·rw[List.append_nil,hs,hvars]
  rfl
 ·exact ok_one hres rfl (okWide_bool_mk hb _)
def pS(h:aH)(k:IntKind)(p:Option Addr)(zs:List Int):Prop:=
 ∀i,i<zs.length-> ∃a,p=some a/\rd h (a.add i)=some (.int k (zs.getD i 0))
def pS.only{S:List Nat}{h h':aH}{k:IntKind}{p:Option Addr}{zs:List Int}(H:pS h k p zs)(O:aM S h h')(hS: ∀b∈S,h.size<=b):pS h' k p zs:=by
 intro i hi;obtain⟨a,e,hr⟩:=H i hi;refine⟨a,e,?_⟩;rw[<-hr]
 have hb:(a.add i).block<h.size:=by apply Classical.byContradiction;intro hn;have:h[(a.add i).block]? =none:=Array.getElem?_eq_none ah;simp[rd,this]at hr
 unfold rd;rw[O.same _ hb λhm=>absurd (hS _ hm) ah]
def yY{k:IntKind}{n:Int}(h:(Lit.int k n).wf=true):k.min<=n/\n<=k.max:=by simpa[Lit.wf]using h
def open_sl{H:Type}{enc:TypeId×Value->H}{P:Program}{W:World}{r:Reach}{b0 base:Nat}{sp:Nat->Bool}{held:Bool}{t e:TypeId}{k:IntKind}{v:Value}{d:DataW H}{ps:List MemPlace}
  (ht:P.underlying t=some (.slice e)) (he:P.underlying e=some (.int k)) (hc:P.cellsOf e=1) (hval:Value.okWide P W r b0 t v)
  (hd:DataW.Trod enc P W base sp held t v d ps) (hsp: ∀b,sp b=true):
  ∃(p:Option Addr) (c:Nat) (zs:List Int),v= .slice p zs.length c/\pS W.heap k p zs/\(∀z∈zs,k.min<=z/\z<=k.max)/\(zs.length:Int)<=maxLen:=by
 obtain⟨a,len,cap,rfl⟩:=okWide_slice ht hval;obtain⟨fuel,hf⟩:=hd;rcases open_ints ht he hc hf with⟨hcs,-⟩|⟨a',len',cap',zs,hcs,-,hle,hmx,hzl,-,hcell,hwf⟩
 ·simp only[Value.cells,List.cons.injEq,and_true]at hcs;injection hcs with e1 e2 e3;subst e1 e2 e3;exact⟨none,0,[],rfl,λi hi=>absurd hi ak,ak,by simp[maxLen]⟩
 ·simp only[Value.cells,List.cons.injEq,and_true]at hcs;injection hcs with e1 e2 e3;subst e1 e2 e3;rw[if_pos (hsp _)]at hzl;have hl:(zs.take len).length=len:=by rw[List.length_take];omega
  refine⟨some a',cap,zs.take len,by rw[hl],λi hi=>⟨a',rfl,?_⟩,λz hz=>yY (hwf z (List.mem_of_mem_take hz)),by rw[hl];omega⟩;rw[hl]at hi;have:=hcell i ah;rw[show(zs.take len).getD i 0=zs.getD i 0 by simp[List.getD,hi]];exact this
def wz{S:List Nat}{h h':aH}{a:Addr}{v:Value}(H:rd h a=some v)(O:aM S h h')(hS: ∀b∈S,h.size<=b):rd h' a=some v:=by
 rw[<-H]
 have hb:a.block<h.size:=by apply Classical.byContradiction;intro hn;have:h[a.block]? =none:=Array.getElem?_eq_none ah;simp[rd,this]at H
 unfold rd;rw[O.same _ hb λhm=>absurd (hS _ hm) ah]
def Dh(a:Addr)(m n:Nat):(a.add m).add n=a.add (m+n):=by
 unfold Addr.add;by_cases hm:m=0
 ·subst hm;simp
 ·by_cases hn:n=0
  ·subst hn;simp
  ·rw[if_neg hm,if_neg hn,if_neg ah];simp[Nat.add_assoc]
def pick{α:Type}[Inhabited α]{l:Nat}{Q:Nat->α->Prop}(H: ∀i,i<l-> ∃n,Q i n): ∃f:Nat->α,∀i,i<l->Q i (f i):=
 ⟨λi=>if h:i<l then(H i h).choose else default,λi hi=>by simp only[dif_pos hi];exact(H i hi).choose_spec⟩
def aM.nil{h h' h'':aH}{S:List Nat}(A:aM [] h h')(B:aM S h' h'')(hS: ∀b∈S,h.size<=b):aM [] h h'':=
 A.trans B λb hb hl=>absurd (hS b hb) ah
end
section
def jB{b o:Nat}{K:aH->Prop}: ∀(new:List Value) (i:Nat) (c:List Value) (h:aH),At h b c->o+i+new.length<=c.length->(∀v∈new,v.oneCell'=true)->
  (∀h',At h' b (c.take (o+i)++new++c.drop (o+i+new.length))->aM [b] h h'->h'.size=h.size->K h')->pd ⟨b,o,none⟩ i new h K:=by
 intro new
 induction new with
 |nil=>
  intro i c h A hi hv hK;unfold pd;exact hK h (by simpa using A) (aM.refl _ _) rfl
 |cons v vs ih=>
  intro i c h A hi hv hK;simp only[List.length_cons]at hi;unfold pd;rw[aL];refine aS A ah (hv v ak) λh1 A1 O1 z1=>ih (i+1) _ h1 A1 (by simp;omega) (λx hx=>hv x (by simp[hx])) λh2 A2 O2 z2=>hK h2 ?_ (O1.trans O2 ak) (z2.trans z1)
  have e:(c.set (o+i) v).take (o+(i+1))=c.take (o+i)++[v]:=by rw[show o+(i+1)=(o+i)+1 by omega,List.take_set,List.take_succ_eq_append_getElem ah,List.set_append_right _ _ (by simp;omega)];simp[List.length_take,Nat.min_eq_left (by omega:o+i<=c.length)]
  have e2:(c.set (o+i) v).drop (o+(i+1)+vs.length)=c.drop (o+i+(vs.length+1)):=by
   rw[List.drop_set_of_lt ah]
   congr 1
   omega
  rw[e,e2]at A2;simpa using A2
def cj(h:aH)(lo N:Nat)(p:Option Addr)(l c:Nat)(cs:List Value):Prop:=
 cs.length=l*N/\((p=none/\l=0/\c=0)\/ ∃(b:Nat) (sp:List Value),p=some ⟨b,0,none⟩/\lo<=b/\l<=c/\sp.length=(c-l)*N/\At h b (cs++sp))
def aX:Option Addr->List Nat
 |some a=> [a.block]
 |none=> []
def cj.nil(h:aH)(lo N:Nat):cj h lo N none 0 0 []:=⟨ak,Or.inl ⟨rfl,rfl,rfl⟩⟩
def cj.only{S:List Nat}{h h':aH}{lo N:Nat}{p:Option Addr}{l c:Nat}{cs:List Value}(H:cj h lo N p l c cs)(O:aM S h h')(hS: ∀b,p=some ⟨b,0,none⟩->b∉S):cj h' lo N p l c cs:=by
 obtain⟨e,H⟩:=H;rcases H with H|⟨b,sp,h1,h2,h3,h4,h5⟩
 ·exact⟨e,Or.inl H⟩
 ·exact⟨e,Or.inr ⟨b,sp,h1,h2,h3,h4,h5.only O (hS b h1)⟩⟩
def cj.lt{h:aH}{lo N:Nat}{p:Option Addr}{l c:Nat}{cs:List Value}(H:cj h lo N p l c cs): ∀b∈aX p,lo<=b/\b<h.size:=by
 obtain⟨-,H⟩:=H;rcases H with⟨e,-⟩|⟨b,sp,h1,h2,-,-,h5⟩
 ·subst e;simp[aX]
 ·subst h1;intro x hx;simp[aX]at hx;subst hx;exact⟨h2,h5.lt⟩
def cj.rd{h:aH}{lo N:Nat}{p:Option Addr}{l c:Nat}{cs:List Value}(H:cj h lo N p l c cs){j:Nat}(hj:j<cs.length): ∃b,p=some ⟨b,0,none⟩/\rd h ⟨b,j,none⟩=cs[j]? :=by
 obtain⟨e,H⟩:=H;rcases H with⟨-,h0,-⟩|⟨b,sp,h1,h2,-,-,h5⟩
 ·subst h0;simp at e;simp[e]at hj
 ·exact⟨b,h1,by rw[h5.rd,List.getElem?_append_left hj]⟩
def fA{h:aH}{b o:Nat}{c new:List Value}(A:At h b c)(hn: ∀j v,new[j]? =some v->c[o+j]? =some v):pB h ⟨b,o,none⟩ new:=by intro j v hj;rw[aL,A.rd];exact hn j v hj
def eK(z:Array Value)(n:Nat):(Builtin.zeroCells z n).toList.length=n*z.size:=by simp[Builtin.zeroCells]
def fT{h:aH}{lo N by_:Nat}{z:Array Value}{p:Option Addr}{l c bx:Nat}{cs new:List Value}{e:TypeId}{K:Option Addr->Nat->Nat->aH->Prop}
  (H:cj h lo N p l c cs) (A:At h bx new) (hnew:new.length=N) (hz:z.size=N) (hcap:(l+1)*by_<=140737488355328) (hv: ∀v∈new,v.oneCell'=true) (hlo:lo<=h.size)
  (hK: ∀p' c' h',cj h' lo N p' (l+1) c' (cs++new)->aM (aX p) h h'->(∀b∈aX p',b∈aX p\/h.size<=b)->K p' (l+1) c' h'):
  fB h e N by_ z p l c (some ⟨bx,0,none⟩) 1 K:=by
 obtain⟨hlen,H⟩:=H;refine⟨new,ah,fA A ak,λhle=> ?_,λhlt=>⟨cs,hlen,?_,hcap,λcap hc=> ?_⟩⟩
 ·rcases H with⟨-,h0,h1⟩|⟨b,sp,rfl,h2,h3,h4,h5⟩
  ·omega
  ·show pd ((⟨b,0,none⟩:Addr).add (l*N)) 0 new h _;rw[aL,Nat.zero_add]
   have hsp:N<=sp.length:=by rw[h4];have:1*N<=(c-l)*N:=Nat.mul_le_mul_right _ ah;omega
   refine jB new 0 _ h h5 (by simp;omega) hv λh' A' O' z'=>hK _ _ h' ⟨by simp[hlen,hnew,Nat.add_mul],Or.inr ⟨b,sp.drop N,rfl,h2,hle,?_,?_⟩⟩ O' λx hx=>Or.inl hx
   ·rw[List.length_drop,h4,show c-l=(c-(l+1))+1 by omega,Nat.add_mul];omega
   ·rw[Nat.add_zero,<-hlen,List.take_left,hnew,List.drop_append,List.drop_eq_nil_of_le (by omega:cs.length<=cs.length+N)]at A';simpa using A'
 ·rcases H with⟨e,h0,-⟩|⟨b,sp,rfl,-,-,-,h5⟩
  ·subst e;exact h0
  ·exact fA h5 λj v hj=>by rw[Nat.zero_add,List.getElem?_append_left (List.getElem?_eq_some_iff.1 hj).1];exact hj
 ·refine hK _ _ _ ⟨by simp[hlen,hnew,Nat.add_mul],Or.inr ⟨h.size,(Builtin.zeroCells z (cap-(l+1))).toList,rfl,hlo,hc,by rw[eK,hz],?_⟩⟩ ((aM.push_cells h _ e).mono ak) λx hx=>Or.inr ?_
  ·have:=At.push h (cs.toArray++new.toArray++Builtin.zeroCells z (cap-(l+1))) e;simpa using this
  ·simp[aX]at hx;omega
def cj.set{h:aH}{lo N:Nat}{l c b j:Nat}{cs:List Value}{v:Value}{K:aH->Prop}(H:cj h lo N (some ⟨b,0,none⟩) l c cs)(hj:j<cs.length)(hv:v.oneCell'=true)
  (hK: ∀h',cj h' lo N (some ⟨b,0,none⟩) l c (cs.set j v)->aM [b] h h'->K h'):aW h ⟨b,j,none⟩ v K:=by
 obtain⟨e,H⟩:=H;rcases H with⟨h1,-⟩|⟨b',sp,h1,h2,h3,h4,h5⟩
 ·cases h1
 ·injection h1 with h1;injection h1 with h1;subst h1;refine aS h5 (by simp;omega) hv λh' A O _=>hK h' ⟨by simp[e],Or.inr ⟨b,sp,rfl,h2,h3,h4,?_⟩⟩ O;rw[List.set_append_left _ _ hj]at A;exact A
def co(L:Nat)(g:Nat->Value):List Value:=(List.range L).map g
def bJ(L:Nat)(g:Nat->Value):(co L g).length=L:=by simp[co]
def cF{L k:Nat}{g:Nat->Value}(hk:k<L):(co L g)[k]? =some (g k):=by simp[co,hk]
def dQ(L k:Nat)(g:Nat->Value)(v:Value):(co L g).set k v=co L λj=>if j=k then v else g j:=by
 apply List.ext_getElem?;intro i;by_cases hi:i<L
 ·rw[cF hi,List.getElem?_set];by_cases h:k=i
  ·subst h;rw[if_pos rfl,if_pos (by rw[bJ];exact hi),if_pos rfl]
  ·rw[if_neg h,cF hi,if_neg (Ne.symm h)]
 ·rw[List.getElem?_eq_none (by simp[bJ];omega),List.getElem?_eq_none (by simp[bJ];omega)]
def jI(L:Nat)(g:Nat->Value):co (L+1) g=co L g++[g L]:=by simp[co,List.range_succ]
def dR{L:Nat}{g g':Nat->Value}(h: ∀k,k<L->g k=g' k):co L g=co L g':=List.map_congr_left λk hk=>h k (List.mem_range.1 hk)
def vG(n:Nat)(v:Value):(Array.replicate n v).toList=co n λ_=>v:=by unfold co;rw[List.map_const'];simp
end
section
def F87.T:bj:=⟨[],[(1,[[(0,[]),(1,[]),(2,[]),(3,[]),(4,[]),(5,[]),(6,[]),(7,[]),(8,[]),(9,[]),(10,[]),(11,[]),(12,[]),(13,[]),(14,[]),(15,[])]])]⟩
def F87.spec(b:Addr)(a:Int)(c:Bool)(h:aH)(K:KK)(H:aK c (((64:Int)≠0/\(64:Int)≠0/\0<=(IntKind.wrap .u8 (Int.tdiv a 64))/\(IntKind.wrap .u8 (Int.tdiv a 64))<4/\aQ .u64 (rd h (b.add ((IntKind.wrap .u8 (Int.tdiv a 64)).toNat*1))) λc=>(64:Int)≠0/\0<=(Int.tmod a 64)/\0<=(IntKind.wrap .u8 (Int.tdiv a 64))/\(IntKind.wrap .u8 (Int.tdiv a 64))<4/\aW h ((b.add ((IntKind.wrap .u8 (Int.tdiv a 64)).toNat*1)).add 0) (aq (bB .or .u64 c (IntKind.wrap .u64 ((1:Int)*2^(min ((Int.tmod a 64).toNat) (IntKind.bits .u64)))))) λa=>K aE a)) (K aE h)):Cl 87 [au b,.int .u8 a,aD c] h K:=cT F87.T Tryz.func87 H
def F33.T:bj:=⟨[(3,[0,2,3,4])],[]⟩
section
variable (n:Nat)(c:Int)(a b:Addr)(d:Int)(h:aH)(K:KK)
def F33.wL3:Prop:=Lp Tryz.f33 F33.T [1,1,0,1,0] n [(0,(al c)),(2,(au a)),(3,(au b)),(4,(al d))] h K
def F33.sL3:F33.wL3 (n+1) c a b d h K=(aK (d<256) (aK (c>=0) (aK (c<8) ((0<=(IntKind.wrap .u64 c)/\Cl 87 [au b,.int .u8 (IntKind.wrap .u8 d),aD ((bB .and .i64 (Int.fdiv d (2^(min ((IntKind.wrap .u64 c).toNat) (IntKind.bits .i64)))) 1)==1)] h λe f=>e=aE/\F33.wL3 n c a b (ax (d+1)) f K)) (aQ .u64 (rd h (b.add 0)) λc=>aQ .u64 (rd h (b.add 1)) λd=>aQ .u64 (rd h (b.add 2)) λe=>aQ .u64 (rd h (b.add 3)) λb=>aW h (a.add 0) (aq c) λc=>aW c (a.add 1) (aq d) λc=>aW c (a.add 2) (aq e) λc=>aW c (a.add 3) (aq b) λb=>aQ .u64 (rd b (a.add 0)) λc=>aQ .u64 (rd b (a.add 1)) λd=>aQ .u64 (rd b (a.add 2)) λe=>aQ .u64 (rd b (a.add 3)) λa=>K (.agg #[aq c,aq d,aq e,aq a]) b)) (aQ .u64 (rd h (b.add 0)) λc=>aQ .u64 (rd h (b.add 1)) λd=>aQ .u64 (rd h (b.add 2)) λe=>aQ .u64 (rd h (b.add 3)) λb=>aW h (a.add 0) (aq c) λc=>aW c (a.add 1) (aq d) λc=>aW c (a.add 2) (aq e) λc=>aW c (a.add 3) (aq b) λb=>aQ .u64 (rd b (a.add 0)) λc=>aQ .u64 (rd b (a.add 1)) λd=>aQ .u64 (rd b (a.add 2)) λe=>aQ .u64 (rd b (a.add 3)) λa=>K (.agg #[aq c,aq d,aq e,aq a]) b)) (aQ .u64 (rd h (b.add 0)) λc=>aQ .u64 (rd h (b.add 1)) λd=>aQ .u64 (rd h (b.add 2)) λe=>aQ .u64 (rd h (b.add 3)) λb=>aW h (a.add 0) (aq c) λc=>aW c (a.add 1) (aq d) λc=>aW c (a.add 2) (aq e) λc=>aW c (a.add 3) (aq b) λb=>aQ .u64 (rd b (a.add 0)) λc=>aQ .u64 (rd b (a.add 1)) λd=>aQ .u64 (rd b (a.add 2)) λe=>aQ .u64 (rd b (a.add 3)) λa=>K (.agg #[aq c,aq d,aq e,aq a]) b)):=by kernel_rfl
def F33.wk3:Prop:=(∃e,F33.wL3 e c a b d h K)
def F33.spec(H:a9 h (.cells #[aq 0,aq 0,aq 0,aq 0] 51) λa b=>a9 b (.cells #[aq 0,aq 0,aq 0,aq 0] 51) λb d=>aW d ((aw b).add 0) (aq 0) λd=>aW d ((aw b).add 1) (aq 0) λd=>aW d ((aw b).add 2) (aq 0) λd=>aW d ((aw b).add 3) (aq 0) λd=>F33.wk3 c (aw a) (aw b) 0 d K):Cl 33 [al c] h K:=cT F33.T Tryz.func33 H
end
def F146.T:bj:=⟨[(2,[2,3,4,5])],[(4,[[(0,[]),(1,[]),(2,[]),(3,[]),(4,[]),(5,[]),(6,[]),(7,[]),(8,[]),(9,[])]])]⟩
section
variable (n:Nat)(d f g i j l o q:Int)(c r b:Addr)(a:Int)(h:aH)(K:KK)
def F146.wL2:Prop:=Lp Tryz.f146 F146.T [1,0,1,0] n [(2,(au c)),(3,(au r)),(4,(au b)),(5,(al a))] h K
def F146.sL2:F146.wL2 (n+1) c r b a h K=(aK (a<4) ((0<=a/\a<4/\aQ .u64 (rd h (c.add (a.toNat*1))) λd=>0<=a/\a<4/\aQ .u64 (rd h (r.add (a.toNat*1))) λe=>0<=a/\a<4/\aW h ((c.add (a.toNat*1)).add 0) (aq (bB .or .u64 d e)) λd=>F146.wL2 n c r b (ax (a+1)) d K)) (aQ .u64 (rd h (c.add 0)) λa=>aQ .u64 (rd h (c.add 1)) λd=>aQ .u64 (rd h (c.add 2)) λe=>aQ .u64 (rd h (c.add 3)) λc=>aW h (b.add 0) (aq a) λa=>aW a (b.add 1) (aq d) λa=>aW a (b.add 2) (aq e) λa=>aW a (b.add 3) (aq c) λa=>aQ .u64 (rd a (b.add 0)) λc=>aQ .u64 (rd a (b.add 1)) λd=>aQ .u64 (rd a (b.add 2)) λe=>aQ .u64 (rd a (b.add 3)) λb=>K (.agg #[aq c,aq d,aq e,aq b]) a)):=by kernel_rfl
def F146.wk2:Prop:=(∃d,F146.wL2 d c r b a h K)
def F146.spec(H:a9 h (.cells #[aq d,aq f,aq g,aq i] 51) λa b=>a9 b (.cells #[aq j,aq l,aq o,aq q] 51) λb c=>a9 c (.cells #[aq 0,aq 0,aq 0,aq 0] 51) λc d=>F146.wk2 (aw a) (aw b) (aw c) 0 d K):Cl 146 [.agg #[aq d,aq f,aq g,aq i],.agg #[aq j,aq l,aq o,aq q]] h K:=cT F146.T Tryz.func146 H
end
end
section
def fP:Nat:=18446744073709551616
def jC:fP=2^64:=by decide
def jJ{a:Nat}(ha:a<fP):(BitVec.ofInt 64 (a:Int)).toNat=a:=by unfold fP at ha;rw[BitVec.toNat_ofInt];omega
def mW{a:Nat}(ha:a<fP):IntKind.wrap .u64 (a:Int)=a:=cd ah (by unfold fP at ha;omega)
def Ej{a b:Nat}(ha:a<fP)(hb:b<fP):bB .or .u64 (a:Int) (b:Int)=((a|||b:Nat):Int):=by unfold bB;show IntKind.wrap .u64 ((BitVec.ofInt 64 (a:Int)|||BitVec.ofInt 64 (b:Int)).toNat:Int)=_;rw[BitVec.toNat_or,jJ ha,jJ hb];exact mW (by rw[jC]at*;exact Nat.or_lt_two_pow ha hb)
def Ig{a b:Nat}(ha:a<fP)(hb:b<fP):bB .and .u64 (a:Int) (b:Int)=((a&&&b:Nat):Int):=by unfold bB;show IntKind.wrap .u64 ((BitVec.ofInt 64 (a:Int)&&&BitVec.ofInt 64 (b:Int)).toNat:Int)=_;rw[BitVec.toNat_and,jJ ha,jJ hb];exact mW (by rw[jC]at*;exact Nat.and_lt_two_pow _ hb)
def fb(g:Nat->Nat)(x:Nat):Bool:=(g (x/64)).testBit (x%64)
def iA(g:Nat->Nat):Prop:= ∀i,i<4->g i<fP
def FP{g g':Nat->Nat}(hg:iA g)(hg':iA g')(h: ∀x,x<256->fb g x=fb g' x): ∀i,i<4->g i=g' i:=λi hi=>by
 apply Nat.eq_of_testBit_eq;intro k;by_cases hk:k<64
 ·have:=h (i*64+k) ah;unfold fb at this;rwa[show(i*64+k)/64=i by omega,show(i*64+k)%64=k by omega]at this
 ·have a:=hg i hi;have b:=hg' i hi;rw[jC]at a b;rw[Nat.testBit_lt_two_pow (Nat.lt_of_lt_of_le a (Nat.pow_le_pow_right ah ah)),Nat.testBit_lt_two_pow (Nat.lt_of_lt_of_le b (Nat.pow_le_pow_right ah ah))]
def cQ(g:Nat->Nat):List Value:=co 4 λi=>aq (g i:Int)
def qV(g:Nat->Nat)(x:Nat)(v:Bool):Nat->Nat:=λi=>if v=true/\i=x/64 then g i|||2^(x%64)else g i
def uQ(k:Nat)(hk:k<64):2^k<fP:=by rw[jC];exact Nat.pow_lt_pow_right ah hk
def CF{g:Nat->Nat}(hg:iA g){x:Nat}{v:Bool}:iA (qV g x v):=λi hi=>by
 unfold qV;split
 ·have a:=hg i hi;have b:=uQ (x%64) (Nat.mod_lt _ ah);rw[jC]at*
  exact Nat.or_lt_two_pow a b
 ·exact hg i hi
def Cg(g:Nat->Nat)(x:Nat)(v:Bool)(y:Nat):fb (qV g x v) y=(fb g y||(v&&decide (y=x))):=by
 unfold fb qV;cases v
 ·simp
 ·by_cases h:y/64=x/64
  ·rw[if_pos ⟨rfl,h⟩,Nat.testBit_or,Nat.testBit_two_pow]
   congr 1
   by_cases e:y=x
   ·subst e;simp
   ·simp only[Bool.true_and,decide_eq_false e,decide_eq_false_iff_not];omega
  ·rw[if_neg (λhh=>h hh.2)];have:y≠x:=λe=>h (by rw[e]);simp[this]
def FJ{x:Nat}(hx:x<256):IntKind.wrap .u8 (Int.tdiv (x:Int) 64)=((x/64:Nat):Int):=by rw[Int.tdiv_eq_ediv_of_nonneg ah];simp[IntKind.wrap,IntKind.bits,IntKind.signed];omega
def FB(x:Nat):Int.tmod (x:Int) 64=((x%64:Nat):Int):=by
 rw[Int.tmod_eq_emod_of_nonneg ah]
 rfl
def HX{k:Nat}(hk:k<64):min (Int.toNat (k:Int)) (IntKind.bits .u64)=k:=by rw[Int.toNat_natCast];show min k 64=k;omega
def eW{h:aH}{b:Nat}{g:Nat->Nat}(A:At h b (cQ g)){i:Nat}(hi:i<4):rd h ⟨b,i,none⟩=some (aq (g i:Int)):=by rw[A.rd];exact cF hi
def iS{h:aH}{b:Nat}{g:Nat->Nat}(A:At h b (cQ g)){i:Nat}(hi:i<4){v:Nat}{K:aH->Prop}(hK: ∀h',At h' b (cQ λj=>if j=i then v else g j)->aM [b] h h'->K h'):aW h ⟨b,i,none⟩ (aq (v:Int)) K:=
 aS A (by unfold cQ;rw[bJ];exact hi) rfl λh' A' O' _=>hK h' (by
  unfold cQ at A' ⊢;rw[dQ]at A';have e:(co 4 λj=>if j=i then aq (v:Int)else aq (g j:Int))=co 4 λj=>aq ((if j=i then v else g j:Nat):Int):=dR λj _=>by split<;>rfl
  rw[e]at A';exact A') O'
def Gi{h:aH}{b x:Nat}{g:Nat->Nat}{v:Bool}{K:KK}(A:At h b (cQ g))(hg:iA g)(hx:x<256)(hK: ∀h',At h' b (cQ (qV g x v))->aM [b] h h'->K aE h'):
  Cl 87 [au (aw b),.int .u8 (x:Int),aD v] h K:=by
 refine F87.spec _ _ _ h K ?_;refine aT (λhv=> ?_) λhv=> ?_
 ·subst hv;have q:x/64<4:=ah;rw[FJ hx,FB];refine⟨by decide,by decide,ah,ah,?_⟩;rw[aL,Int.toNat_natCast,Nat.zero_add,Nat.mul_one,eW A q,bC,HX ah];refine⟨by decide,ah,ah,ah,?_⟩;rw[aL,Nat.add_zero,show(1:Int)*2^(x%64)=((2^(x%64):Nat):Int) by simp,mW (uQ _ ah),Ej (hg _ q) (uQ _ ah)];refine iS A q λh' A' O'=>hK h' ?_ O'
  have e:(λj=>if j=x/64 then g (x/64)|||2^(x%64)else g j)=qV g x true:=by
   funext j;unfold qV;by_cases hj:j=x/64
   ·subst hj;simp
   ·rw[if_neg hj,if_neg (λh=>hj h.2)]
  rw[e]at A';exact A'
 ·subst hv;refine hK h ?_ (aM.refl _ _)
  have e:qV g x false=g:=by funext j;unfold qV;rw[if_neg (λh=>by cases h.1)]
  rw[e];exact A
end
section
def tV{x:Nat}(h:x<256):IntKind.wrap .u8 (x:Int)=x:=by simp[IntKind.wrap,IntKind.bits,IntKind.signed];omega
def iK(g:Nat->Nat):Value:= .agg #[aq (g 0:Int),aq (g 1:Int),aq (g 2:Int),aq (g 3:Int)]
def qk{h:aH}{b c:Nat}{g g0:Nat->Nat}{K:KK}(A:At h b (cQ g))(C:At h c (cQ g0))(hne:b≠c)(hK: ∀h',aM [c] h h'->K (iK g) h'):
  aQ .u64 (rd h (Addr.add (aw b) 0)) (λn4=>aQ .u64 (rd h (Addr.add (aw b) 1)) (λn5=>aQ .u64 (rd h (Addr.add (aw b) 2)) (λn6=>aQ .u64 (rd h (Addr.add (aw b) 3)) (λn7=>aW h (Addr.add (aw c) 0) (aq n4) (λh8=>aW h8 (Addr.add (aw c) 1) (aq n5) (λh9=>aW h9 (Addr.add (aw c) 2) (aq n6) (λh10=>aW h10 (Addr.add (aw c) 3) (aq n7) (λh11=>aQ .u64 (rd h11 (Addr.add (aw c) 0)) (λn12=>aQ .u64 (rd h11 (Addr.add (aw c) 1)) (λn13=>aQ .u64 (rd h11 (Addr.add (aw c) 2)) (λn14=>aQ .u64 (rd h11 (Addr.add (aw c) 3)) (λn15=>K (.agg #[(aq n12),(aq n13),(aq n14),(aq n15)]) h11)))))))))))):=by
 simp only[aL,Nat.zero_add];rw[eW A (by decide:0<4),bC,eW A (by decide:1<4),bC,eW A (by decide:2<4),bC,eW A (by decide:3<4),bC];refine iS C (by decide) λh1 C1 O1=>iS C1 (by decide) λh2 C2 O2=>iS C2 (by decide) λh3 C3 O3=>iS C3 (by decide) λh4 C4 O4=> ?_;rw[eW C4 (by decide:0<4),bC,eW C4 (by decide:1<4),bC,eW C4 (by decide:2<4),bC,eW C4 (by decide:3<4),bC];exact hK h4 (((O1.trans O2 ak).trans O3 ak).trans O4 ak)
def wm(y:Nat):fb (λ_=>0) y=false:=by simp[fb]
end
section
def mU{a b:Nat}(ha:a<fP)(hb:b<fP):a|||b<fP:=by
 rw[jC]at*
 exact Nat.or_lt_two_pow ha hb
def oo(f g:Nat->Nat)(i:Nat):Nat->Nat:=λj=>if j<i then f j|||g j else f j
def BM{f g:Nat->Nat}(hf:iA f)(hg:iA g)(i:Nat):iA (oo f g i):=λj hj=>by
 unfold oo;split
 ·exact mU (hf j hj) (hg j hj)
 ·exact hf j hj
def Ci(f g:Nat->Nat){y:Nat}(hy:y<256):fb (oo f g 4) y=(fb f y||fb g y):=by unfold fb oo;rw[if_pos ah,Nat.testBit_or]
def ID{h:aH}{f g:Nat->Nat}{K:KK}(hf:iA f)(hg:iA g)(hK: ∀h' k,iA k->(∀y,y<256->fb k y=(fb f y||fb g y))->aM [] h h'->K (iK k) h'):Cl 146 [iK f,iK g] h K:=by
 refine F146.spec _ _ _ _ _ _ _ _ h K ?_;refine aV λh1 A1 O1 z1=>aV λh2 A2 O2 z2=>aV λh3 A3 O3 z3=> ?_
 replace A1:At h1 h.size (cQ f):=A1
 replace A2:At h2 h1.size (cQ g):=A2
 replace A3:At h3 h2.size (cQ λ_=>0):=A3
 have B1:=(A1.only O2 ak).only O3 ak;have B2:=A2.only O3 ak;have O13:aM [] h h3:=(O1.trans O2 ak).trans O3 ak;unfold F146.wk2
 have main: ∀(d i:Nat) (h':aH),i+d=4->At h' h.size (cQ (oo f g i))->At h' h1.size (cQ g)->At h' h2.size (cQ λ_=>0)->aM [] h h'->
   F146.wL2 (d+1) (aw h.size) (aw h1.size) (aw h2.size) i h' K:=by
  intro d
  induction d with
  |zero=>
   intro i h' hd A B C O;rw[F146.sL2];rw[show decide ((i:Int)<4)=false by simp;omega,aJ];have hi:i=4:=ah;subst hi;exact qk A C ah λh'' O''=>hK h'' _ (BM hf hg 4) (λy hy=>Ci f g hy) (O.trans O'' (by intro b hb hlt;simp at hb;omega))
  |succ d ih=>
   intro i h' hd A B C O;rw[F146.sL2];have hi:i<4:=ah;rw[show decide ((i:Int)<4)=true by simp;omega,aO,show ax ((i:Int)+1)=((i+1:Nat):Int) by rw[wrap_i64 ah ah];omega];refine⟨ah,ah,?_⟩;rw[aL,aL,show 0+Int.toNat (i:Int)*1=i by omega,eW A hi,bC];refine⟨ah,ah,?_⟩;rw[eW B hi,bC];refine⟨ah,ah,?_⟩;have e0:oo f g i i=f i:=if_neg ah;rw[aL,Nat.add_zero,e0,Ej (hf i hi) (hg i hi)];refine iS A hi λh'' A'' O''=>ih (i+1) h'' ah ?_ (B.only O'' (by simp;omega)) (C.only O'' (by simp;omega)) (O.trans O'' (by intro b hb hlt;simp at hb;omega))
   have e:(λj=>if j=i then f i|||g i else oo f g i j)=oo f g (i+1):=by
    funext j;unfold oo;by_cases hj:j=i
    ·subst hj;rw[if_pos rfl,if_pos ah]
    ·rw[if_neg hj];by_cases hl:j<i
     ·rw[if_pos hl,if_pos ah]
     ·rw[if_neg hl,if_neg ah]
   rw[e]at A'';exact A''
 have e0:oo f g 0=f:=by funext j;unfold oo;rw[if_neg ah]
 exact⟨_,main 4 0 h3 ah (by rw[e0];exact B1) B2 A3 O13⟩
end
section
def vV(y v:Nat)(b:Bool):Nat:=if y.testBit v=b then y else if b then y+2^v else y-2^v
end
section
variable {i j k l m n o p q r s t:Int}{a b c d:Addr}{u v:Nat}{x y:az}{h:aH}{K:KK}
def F89.spec(H:(0<=(if 262144<(if 0>i then 0 else i)then 262144 else(if 0>i then 0 else i))/\(if 262144<(if 0>i then 0 else i)then 262144 else(if 0>i then 0 else i))<=(if 262144<(if 0>i then 0 else i)then 262144 else(if 0>i then 0 else i))/\(8*(if 262144<(if 0>i then 0 else i)then 262144 else(if 0>i then 0 else i))<=281474976710656)/\(if 262144<(if 0>i then 0 else i)then 262144 else(if 0>i then 0 else i))<=9223372036854775807/\a9 h (.cells (madeCells #[aq 0] ((if 262144<(if 0>i then 0 else i)then 262144 else(if 0>i then 0 else i)).toNat*1)) 315) λa b=>a9 b (.cells #[.slice (some (aw a)) ((if 262144<(if 0>i then 0 else i)then 262144 else(if 0>i then 0 else i)).toNat) ((if 262144<(if 0>i then 0 else i)then 262144 else(if 0>i then 0 else i)).toNat),al 0,al 0] 224) λa b=>K (au (aw a)) b)):Cl 89 [al i] h K:=cN Tryz.func89 H
def F110.spec(H:aK (i<1) (K (al 0) h) (K (al (ax (3*i))) h)):Cl 110 [al i] h K:=cN Tryz.func110 H
def F132.spec(H:cv (rd h (a.add 0)) λ_ a _=>K (al (a:Int)) h):Cl 132 [au a] h K:=cN Tryz.func132 H
def F162.spec(H:Cl 202 [au a,al i] h λa b=>ba (some a) λa=>aK (!(Option.isNone a)) (Cl 203 [aA a] b λa b=>aQ .u64 (some a) λa=>K (aq a) b) (K (aq 0) b)):Cl 162 [au a,al i] h K:=cN Tryz.func162 H
def F202.spec(H:aK (i<0) (K (aA none) h) (cv (rd h (a.add 0)) λ_ b _=>aK (i>=(b:Int)) (K (aA none) h) (Cl 205 [au (a.add 1),al 1] h λb c=>aQ .i64 (some b) λ_=>cv (rd c (a.add 0)) λa b _=>bf a λa=>0<=i/\i<(b:Int)/\K (au (a.add (i.toNat*1))) c))):Cl 202 [au a,al i] h K:=cN Tryz.func202 H
def F203.spec(H:aQ .u64 (rd h (a.add 0)) λa=>K (aq a) h):Cl 203 [au a] h K:=cN Tryz.func203 H
def F163.spec(H:Cl 202 [au a,al i] h λb c=>ba (some b) λb=>aK (Option.isNone b) (K aB c) (Cl 204 [aA b,aq j,aq k] c λb c=>bI (some b) λb=>aK (!b) (Cl 205 [au (a.add 2),al 1] c λa c=>aQ .i64 (some a) λ_=>K (aD b) c) (K (aD b) c))):Cl 163 [au a,al i,aq j,aq k] h K:=cN Tryz.func163 H
def F205.spec(H:aQ .i64 (rd h (a.add 0)) λb=>aW h (a.add 0) (al (ax (b+i))) λa=>K (al (ax (b+i))) a):Cl 205 [au a,al i] h K:=cN Tryz.func205 H
def F204.spec(H:aQ .u64 (rd h (a.add 0)) λb=>aK (b==i) (aW h (a.add 0) (aq j) λa=>K aC a) (fz h (a.add 0)=false/\K aB h)):Cl 204 [au a,aq i,aq j] h K:=cN Tryz.func204 H
def F282.spec(H:Cl 202 [au a,al i] h λa b=>ba (some a) λa=>aK (!(Option.isNone a)) (Cl 304 [aA a,aq j] b λa b=>a=aE/\K aE b) (K aE b)):Cl 282 [au a,al i,aq j] h K:=cN Tryz.func282 H
def F304.spec(H:aW h (a.add 0) (aq i) λa=>K aE a):Cl 304 [au a,aq i] h K:=cN Tryz.func304 H
end
section
structure bu(h:aH)(m c:Nat)(cs:List Int)(ops fails:Int):Prop where
 head:At h m [.slice (some (aw c)) cs.length cs.length,al ops,al fails]
 body:At h c (cs.map (.int .u64))
 ne:m≠c
def bu.only{S:List Nat}{h h':aH}{m c:Nat}{cs:List Int}{ops fails:Int}(H:bu h m c cs ops fails)(O:aM S h h')(hm:m∉S)(hc:c∉S):bu h' m c cs ops fails:=
 ⟨H.head.only O hm,H.body.only O hc,H.ne⟩
def up(n:Int):Int:=ax (n+1)
def Jh{h:aH}{b i:Nat}{n:Int}{K:KK}(hr:rd h ⟨b,i,none⟩=some (aq n))(hK:K (aq n) h):
  Cl 203 [au ⟨b,i,none⟩] h K:=by
 apply F203.spec;rw[add_zero];exact aI hr hK
def IW{h:aH}{b i:Nat}{c:List Value}{n d:Int}{K:KK}(H:At h b c)(hi:c[i]? =some (al n))
  (hK: ∀h',At h' b (c.set i (al (ax (n+d))))->aM [b] h h'->K (al (ax (n+d))) h'):
  Cl 205 [au ⟨b,i,none⟩,al d] h K:=by
 apply F205.spec;rw[add_zero];exact aI (by rw[H.rd];exact hi) (aS H (List.getElem?_eq_some_iff.1 hi).1 rfl λh' h1 h2 _=>hK h' h1 h2)
def Jy{h:aH}{b i:Nat}{c:List Value}{d:Int}{K:KK}(H:At h b c)(hi:i<c.length)
  (hK: ∀h',At h' b (c.set i (aq d))->aM [b] h h'->K aE h'):
  Cl 304 [au ⟨b,i,none⟩,aq d] h K:=by
 apply F304.spec;rw[add_zero];exact aS H hi rfl λh' h1 h2 _=>hK h' h1 h2
def Jf{h:aH}{b i:Nat}{c:List Value}{n x y:Int}{K:KK}(H:At h b c)(hi:c[i]? =some (aq n))
  (hT:n=x-> ∀h',At h' b (c.set i (aq y))->aM [b] h h'->K aC h') (hF:n≠x->K aB h):
  Cl 204 [au ⟨b,i,none⟩,aq x,aq y] h K:=by
 apply F204.spec;rw[add_zero];refine aI (by rw[H.rd];exact hi) (aT (λe=>aS H (List.getElem?_eq_some_iff.1 hi).1 rfl λh' h1 h2 _=>hT (by simpa using e) h' h1 h2) λe=>⟨H.fz _ _,hF (by simpa using e)⟩)
def yQ{h:aH}{m c:Nat}{cs:List Int}{ops fails:Int}{i:Int}{K:KK}(H:bu h m c cs ops fails)(h0:0<=i)(h1:i<cs.length)
  (hK: ∀h',bu h' m c cs (up ops) fails->aM [m,c] h h'->K (au ⟨c,i.toNat,none⟩) h'):
  Cl 202 [au (aw m),al i] h K:=by
 apply F202.spec;rw[decide_eq_false (by omega: ¬i<0)];simp only[aL,H.head.rd,Nat.zero_add,List.getElem?_cons_zero,bV,aJ];rw[decide_eq_false (by omega: ¬i>=(Nat.cast cs.length:Int)),aJ];refine IW (n:=ops) (i:=1) H.head rfl λh' a1 a2=> ?_;simp only[bC,List.set_cons_succ,List.set_cons_zero]at a1 ⊢;simp only[a1.rd,List.getElem?_cons_zero,bV,aU,aL,Nat.zero_add,Nat.mul_one];exact⟨h0,h1,hK h' ⟨a1,H.body.only a2 (by simp[H.ne.symm]),H.ne⟩ (a2.mono (by simp+contextual))⟩
def eI{h:aH}{m c:Nat}{cs:List Int}{ops fails:Int}{i:Int}{K:KK}(H:bu h m c cs ops fails)(h0:0<=i)(h1:i<cs.length)
  (hK: ∀h',bu h' m c cs (up ops) fails->aM [m,c] h h'->K (aq (cs.getD i.toNat 0)) h'):
  Cl 162 [au (aw m),al i] h K:=by
 apply F162.spec;refine yQ H h0 h1 λh' a1 a2=> ?_;have hi:i.toNat<cs.length:=ah;simp only[pD,Option.isNone_some,Bool.not_false,aO];refine Jh (n:=cs.getD i.toNat 0) (by rw[a1.body.rd];simp[hi]) ?_;simp only[bC];exact hK h' a1 a2
def bu.put{h h':aH}{m c:Nat}{cs:List Int}{ops fails:Int}(H:bu h m c cs ops fails){i:Nat}{v:Int}(a:At h' c ((cs.map (Value.int .u64)).set i (aq v)))(O:aM [c] h h'):
  bu h' m c (cs.set i v) ops fails:=
 ⟨by rw[List.length_set];exact H.head.only O (by simp[H.ne]),by rw[List.map_set];exact a,H.ne⟩
def gd{h:aH}{m c:Nat}{cs:List Int}{ops fails:Int}{i d:Int}{K:KK}(H:bu h m c cs ops fails)(h0:0<=i)(h1:i<cs.length)
  (hK: ∀h',bu h' m c (cs.set i.toNat d) (up ops) fails->aM [m,c] h h'->K aE h'):
  Cl 282 [au (aw m),al i,aq d] h K:=by
 apply F282.spec;refine yQ H h0 h1 λh' a1 a2=> ?_;have hi:i.toNat<cs.length:=ah;simp only[pD,Option.isNone_some,Bool.not_false,aO];exact Jy a1.body (by simpa using hi) λh'' b1 b2=>⟨rfl,hK h'' (a1.put b1 b2) (a2.trans b2 ak)⟩
def pf{h:aH}{m c:Nat}{cs:List Int}{ops fails:Int}{i x y:Int}{K:KK}(H:bu h m c cs ops fails)(h0:0<=i)(h1:i<cs.length)
  (hT:cs.getD i.toNat 0=x-> ∀h',bu h' m c (cs.set i.toNat y) (up ops) fails->aM [m,c] h h'->K aC h')
  (hF:cs.getD i.toNat 0≠x-> ∀h',bu h' m c cs (up ops) (up fails)->aM [m,c] h h'->K aB h'):
  Cl 163 [au (aw m),al i,aq x,aq y] h K:=by
 apply F163.spec;refine yQ H h0 h1 λh' a1 a2=> ?_;have hi:i.toNat<cs.length:=ah;simp only[pD,Option.isNone_some,aJ];refine Jf (n:=cs.getD i.toNat 0) a1.body (by simp[hi]) (λe h'' b1 b2=> ?_) λe=> ?_
 ·simp only[dS,Bool.not_true,aJ];exact hT e h'' (a1.put b1 b2) (a2.trans b2 ak)
 ·simp only[dS,Bool.not_false,aO,aL,Nat.zero_add];refine IW (n:=fails) a1.head rfl λh'' b1 b2=> ?_;simp only[bC];exact hF e h'' ⟨b1,a1.body.only b2 (by simp[H.ne.symm]),H.ne⟩ (a2.trans b2 ak)
def iq{h:aH}{m c:Nat}{cs:List Int}{ops fails:Int}{K:KK}(H:bu h m c cs ops fails)(hK:K (al cs.length) h):
  Cl 132 [au (aw m)] h K:=by
 apply F132.spec;rw[aL,H.head.rd];exact bo rfl hK
def gy(n:Int):Nat:=(min (max n 0) 262144).toNat
def jy{k:Nat}(h:k<=262144):gy (k:Int)=k:=by unfold gy;rw[Int.max_eq_left ah,Int.min_eq_left ah,Int.toNat_natCast]
def xC(n:Nat):(madeCells #[aq (0:Int)] n).toList=(List.replicate n (0:Int)).map (Value.int .u64):=by rw[toList_madeCells_one];simp
def pj{h:aH}{n:Int}{K:KK}
  (hK: ∀m c h',bu h' m c (List.replicate (gy n) 0) 0 0->aM [] h h'->h.size<=m->h.size<=c->K (au (aw m)) h'):
  Cl 89 [al n] h K:=by
 apply F89.spec
 have e:(if(262144:Int)<(if(0:Int)>n then(0:Int)else n)then(262144:Int)else(if(0:Int)>n then(0:Int)else n))=(gy n:Int):=by unfold gy;split<;>split<;>omega
 have h2:gy n<=262144:=by unfold gy;omega
 rw[e];refine⟨ah,ah,ah,ah,?_⟩;refine aV λh1 a1 a2 a3=>aV λh2 b1 b2 b3=> ?_;simp only[Int.toNat_natCast,Nat.mul_one]at a1 b1 ⊢;rw[xC]at a1;refine hK h1.size h.size h2 ⟨?_,a1.only b2 ak,ah⟩ (a2.trans b2 ak) ah ah;rw[List.length_replicate];exact b1
end
section
variable {i j k l m n o p q r s t:Int}{a b c d:Addr}{u v:Nat}{x y:az}{h:aH}{K:KK}
def F159.spec(H:aK (i<0) (K (.tuple #[aA none,al 61]) h) (aK (j<1) (K (.tuple #[aA none,al 61]) h) (Cl 132 [au a] h λb c=>aQ .i64 (some b) λb=>aK (i>b) (K (.tuple #[aA none,al 61]) c) (Cl 132 [au a] c λb c=>aQ .i64 (some b) λb=>aK (j>(ax (b-i))) (K (.tuple #[aA none,al 61]) c) (a9 c (.cells #[au a,al i,al j] 276) λa b=>K (.tuple #[au (aw a),al 0]) b))))):Cl 159 [au a,al i,al j] h K:=cN Tryz.func159 H
def F241.T:bj:=⟨[],[(1,[[(0,[]),(1,[]),(2,[]),(3,[]),(4,[]),(5,[]),(6,[]),(8,[]),(9,[]),(10,[]),(11,[]),(12,[]),(13,[]),(7,[0,1,8,9,10,11,12,13]),(14,[]),(15,[]),(16,[])]])]⟩
def F241.spec(H:aQ .i64 (rd h (a.add 2)) λb=>aQ .i64 (rd h (a.add 2)) λc=>Cl 246 [aq i,al b] h λb d=>aQ .i64 (some b) λb=>aF (au a)/\aF (aq i)/\aF (au a)/\aF (au a)/\aF (au (a.add 2))/\aQ .i64 (rd d (a.add 2)) λe=>aG (al e) (al c)/\aF (aq i)/\aF (aD (i==0))/\a9 d (.cells #[au a,aq i,al b,al c,.nilFunc,aD (i==0),al (-1),al 61,aB] 350) λa b=>aW b (((aw a).add 4).add 0) (.func (.func 285) #[au (aw a)] #[]) λb=>K (au (aw a)) b):Cl 241 [au a,aq i] h K:=cT F241.T Tryz.func241 H
def F242.T:bj:=⟨[(3,[0])],[]⟩
section
variable (a:Addr)(h:aH)(K:KK)
def F242.wk3:Prop:=bI (rd h (a.add 5)) λa=>K (aD a) h
end
def F242.spec(H:bI (rd h (a.add 5)) λb=>aK (!b) (lI (rd h (a.add 4)) λb=>eV Tryz.prog X b [] h λb c=>b=aE/\F242.wk3 a c K) (F242.wk3 a h K)):Cl 242 [au a] h K:=cT F242.T Tryz.func242 H
def F243.T:bj:=⟨[],[(1,[[(0,[]),(1,[]),(2,[]),(3,[]),(4,[]),(5,[]),(6,[]),(7,[]),(8,[]),(9,[])]])]⟩
def F243.spec(H:aQ .i64 (rd h (a.add 6)) λb=>aQ .i64 (rd h (a.add 7)) λa=>K (.tuple #[al b,al a]) h):Cl 243 [au a] h K:=cT F243.T Tryz.func243 H
def F244.spec(H:bI (rd h (a.add 8)) λa=>K (aD a) h):Cl 244 [au a] h K:=cN Tryz.func244 H
def F200.spec(H:aQ .i64 (rd h (a.add 2)) λa=>K (al a) h):Cl 200 [au a] h K:=cN Tryz.func200 H
def F247.T:bj:=⟨[],[(3,[[(0,[]),(1,[]),(2,[]),(3,[]),(4,[]),(5,[]),(6,[]),(7,[]),(8,[]),(9,[]),(10,[]),(11,[])]])]⟩
def F247.spec(H:aK (i<0) (K (aq 0) h) (aQ .i64 (rd h (a.add 2)) λb=>aK (i>=b) (K (aq 0) h) (ba (rd h (a.add 0)) λb=>aQ .i64 (rd h (a.add 1)) λa=>Cl 162 [aA b,al (ax (a+i))] h λa b=>aQ .u64 (some a) λa=>K (aq a) b))):Cl 247 [au a,al i] h K:=cT F247.T Tryz.func247 H
def F285.T:bj:=⟨[],[(0,[[(0,[]),(1,[]),(2,[]),(3,[]),(4,[]),(5,[]),(6,[]),(7,[]),(8,[]),(9,[]),(10,[]),(11,[]),(12,[]),(13,[]),(14,[]),(15,[]),(16,[]),(17,[]),(18,[]),(19,[])]])]⟩
def F285.spec(H:ba (rd h (a.add 0)) λb=>bf b λb=>ba (rd h (b.add 0)) λb=>ba (rd h (a.add 0)) λc=>bf c λc=>aQ .i64 (rd h (c.add 1)) λc=>aQ .i64 (rd h (a.add 2)) λd=>Cl 162 [aA b,al (ax (c+d))] h λb c=>aQ .u64 (some b) λb=>aQ .u64 (rd c (a.add 1)) λd=>aK (b==d) (aQ .i64 (rd c (a.add 2)) λb=>Cl 305 [au a,al b,al 0] c λa b=>a=aE/\K aE b) (aK (b==0) (aW c ((a.add 4).add 0) (.func (.func 306) #[au a] #[]) λa=>K aE a) (Cl 307 [au a] c λa b=>a=aE/\K aE b))):Cl 285 [au a] h K:=cT F285.T Tryz.func285 H
def F305.spec(H:aW h ((a.add 5).add 0) aC λb=>aW b ((a.add 6).add 0) (al i) λb=>aW b ((a.add 7).add 0) (al j) λa=>K aE a):Cl 305 [au a,al i,al j] h K:=cN Tryz.func305 H
def F306.T:bj:=⟨[],[(1,[[(0,[]),(1,[]),(2,[]),(3,[]),(4,[]),(5,[]),(6,[]),(7,[]),(8,[]),(9,[]),(10,[]),(11,[]),(12,[]),(13,[]),(14,[]),(15,[]),(16,[]),(17,[]),(18,[]),(19,[]),(20,[]),(21,[]),(22,[]),(23,[])]])]⟩
def F306.spec(H:aW h ((a.add 4).add 0) (.func (.func 285) #[au a] #[]) λb=>ba (rd b (a.add 0)) λc=>bf c λc=>ba (rd b (c.add 0)) λc=>ba (rd b (a.add 0)) λd=>bf d λd=>aQ .i64 (rd b (d.add 1)) λd=>aQ .i64 (rd b (a.add 2)) λe=>aQ .u64 (rd b (a.add 1)) λf=>Cl 163 [aA c,al (ax (d+e)),aq 0,aq f] b λb c=>bI (some b) λb=>aK b (aW c ((a.add 8).add 0) aC λb=>aQ .i64 (rd b (a.add 2)) λc=>Cl 305 [au a,al c,al 0] b λa b=>a=aE/\K aE b) (K aE c)):Cl 306 [au a] h K:=cT F306.T Tryz.func306 H
def F307.T:bj:=⟨[],[(0,[[(0,[]),(1,[]),(2,[]),(3,[]),(4,[]),(5,[]),(6,[]),(7,[]),(8,[]),(9,[]),(10,[]),(11,[]),(12,[]),(13,[]),(14,[]),(15,[]),(16,[])]])]⟩
def F307.spec(H:aQ .i64 (rd h (a.add 2)) λb=>ba (rd h (a.add 0)) λc=>bf c λc=>aQ .i64 (rd h (c.add 2)) λc=>c≠0/\aW h ((a.add 2).add 0) (al (Int.tmod (ax (b+1)) c)) λb=>aQ .i64 (rd b (a.add 3)) λc=>aW b ((a.add 3).add 0) (al (ax (c-1))) λb=>aQ .i64 (rd b (a.add 3)) λc=>aK (c==0) (Cl 305 [au a,al (-1),al 60] b λa b=>a=aE/\K aE b) (K aE b)):Cl 307 [au a] h K:=cT F307.T Tryz.func307 H
end
section
def Hb(x:Int):Int:=bB .xor .u64 x (Int.fdiv x (2^(min (Int.toNat (33:Int)) (IntKind.bits .u64))))
def tW(x:Int):Int:=Hb (IntKind.wrap .u64 (Hb (IntKind.wrap .u64 (Hb x*18397679294719823053))*14181476777654086739))
def t9(x:Int):0<=IntKind.wrap .u64 x/\IntKind.wrap .u64 x<18446744073709551616:=by rw[mQ];omega
def qA(x:Int):0<=Hb x/\Hb x<18446744073709551616:=t9 _
def yR{h:aH}{x:Int}{K:KK}(hK:K (aq (tW x)) h):Cl 286 [aq x] h K:=by
 apply F286.spec;unfold F286.wk2;refine⟨3,?_⟩;rw[F286.sL2];rw[show decide ((0:Int)<2)=true from rfl,aO];refine⟨by decide,by decide,aI rfl ⟨by decide,?_⟩⟩;rw[F286.sL2]
 try dsimp only
 rw[show ax ((0:Int)+1)=1 from rfl,show decide ((1:Int)<2)=true from rfl,aO];refine⟨by decide,by decide,aI rfl ⟨by decide,?_⟩⟩;rw[F286.sL2]
 try dsimp only
 rw[show ax ((1:Int)+1)=2 from rfl,show decide ((2:Int)<2)=false from rfl,aJ];exact⟨by decide,hK⟩
def gL(key:Int)(n:Nat):Nat:=((tW key).tmod n).toNat
def fU(key:Int){n:Nat}(hn:1<=n):gL key n<n:=by unfold gL;have h0:0<=tW key:=(qA _).1;rw[Int.tmod_eq_emod_of_nonneg h0];have:=Int.emod_lt_of_pos (tW key) (by omega:(0:Int)<n);have:=Int.emod_nonneg (tW key) (by omega:(n:Int)≠0);omega
def lV{h:aH}{x:Int}{n:Nat}{K:KK}(h1:1<=n)(h2:n<1000000000)(hK:K (al (gL x n:Int)) h):Cl 246 [aq x,al (n:Int)] h K:=by
 apply F246.spec;rw[decide_eq_false ah,aJ];refine yR (aI rfl ?_);rw[cd (n:=(n:Int)) ah ah];have h0:0<=tW x:=(qA _).1
 have e:(tW x).tmod n=(gL x n:Int):=by unfold gL;rw[Int.tmod_eq_emod_of_nonneg h0];have:=Int.emod_nonneg (tW x) (by omega:(n:Int)≠0);omega
 have:=fU x h1;rw[e,wrap_i64 ah ah];exact⟨ah,hK⟩
def dD(h:aH)(t m base n:Nat):Prop:=At h t [au (aw m),al (base:Int),al (n:Int)]
def dD.only{S:List Nat}{h h':aH}{t m base n:Nat}(H:dD h t m base n)(O:aM S h h')(ht:t∉S):dD h' t m base n:=At.only H O ht
structure Fi where
 key:Int
 pos:Nat
 left:Nat
 claims:Bool
 done:Bool
 slot:Int
 e:Int
 made:Bool
def Jn(f:Nat):Bool->Value
 |true=> .func (.func 306) #[au (aw f)] #[]
 |false=> .func (.func 285) #[au (aw f)] #[]
def da(h:aH)(f t:Nat)(F:Fi):Prop:=
 At h f [au (aw t),aq F.key,al (F.pos:Int),al (F.left:Int),Jn f F.claims,aD F.done,al F.slot,al F.e,aD F.made]
def da.only{S:List Nat}{h h':aH}{f t:Nat}{F:Fi}(H:da h f t F)(O:aM S h h')(ht:f∉S):da h' f t F:=At.only H O ht
def bN(base n:Nat)(cs:List Int)(F:Fi):Fi×List Int:=
 if F.done then(F,cs)else
 if F.claims then
  if cs.getD (base+F.pos) 0=0 then({F with claims:=false,made:=true,done:=true,slot:=F.pos,e:=0},cs.set (base+F.pos) F.key)
  else({F with claims:=false},cs)
 else if cs.getD (base+F.pos) 0=F.key then({F with done:=true,slot:=F.pos,e:=0},cs)
 else if cs.getD (base+F.pos) 0=0 then({F with claims:=true},cs)
 else if F.left=1 then({F with pos:=(F.pos+1)%n,left:=0,done:=true,slot:= -1,e:=60},cs)
 else({F with pos:=(F.pos+1)%n,left:=F.left-1},cs)
def lZ{h:aH}{f t:Nat}{F:Fi}{s e:Int}{K:KK}(H:da h f t F)
  (hK: ∀h',da h' f t {F with done:=true,slot:=s,e:=e}->aM [f] h h'->K aE h'):
  Cl 305 [au (aw f),al s,al e] h K:=by
 apply F305.spec;simp only[aL,Nat.zero_add,Nat.add_zero];refine aS H ak rfl λh1 A1 O1 _=>aS A1 ak rfl λh2 A2 O2 _=>aS A2 ak rfl λh3 A3 O3 _=> ?_;exact hK h3 A3 ((O1.trans O2 ak).trans O3 ak)
section
variable {h:aH}{f t m mc base n:Nat}{cs:List Int}{ops fails:Int}{F:Fi}{K:KK}
def xv(T:dD h t m base n)(H:da h f t F)(hn:1<=n)(hn2:n<1000000000)(hp:F.pos<n)(hl:1<=F.left)(hl2:F.left<1000000000)
  (hK: ∀h',da h' f t (if F.left=1 then {F with pos:=(F.pos+1)%n,left:=0,done:=true,slot:= -1,e:=60}else {F with pos:=(F.pos+1)%n,left:=F.left-1})->aM [f] h h'->K aE h'):
  Cl 307 [au (aw f)] h K:=by
 apply F307.spec;simp only[aL,Nat.zero_add,Nat.add_zero];refine aI (by rw[At.rd H];rfl) (aR (by rw[At.rd H];rfl) ?_);simp only[aU,aL,Nat.zero_add];refine aI (by rw[At.rd T];rfl) ⟨ah,aS H ak rfl λh1 A1 O1 _=> ?_⟩
 have e1:(ax ((F.pos:Int)+1)).tmod n=(((F.pos+1)%n:Nat):Int):=by rw[wrap_i64 ah ah,Int.tmod_eq_emod_of_nonneg ah];simp
 rw[e1]at A1;refine aI (by rw[A1.rd];rfl) (aS A1 ak rfl λh2 A2 O2 _=> ?_);rw[wrap_i64 ah ah]at A2
 have A2:da h2 f t {F with pos:=(F.pos+1)%n,left:=F.left-1}:=by rw[show(F.left:Int)-1=((F.left-1:Nat):Int) by omega]at A2;exact A2
 have O12:=O1.trans O2 ak;refine aI (n:=((F.left-1:Nat):Int)) (by rw[At.rd A2];rfl) ?_;by_cases h1:F.left=1
 ·rw[show(((F.left-1:Nat):Int)==0)=true by simp[h1],aO];refine lZ A2 λh3 A3 O3=>⟨rfl,hK h3 ?_ (O12.trans O3 ak)⟩;rw[if_pos h1];simpa[h1]using A3
 ·rw[show(((F.left-1:Nat):Int)==0)=false by simp;omega,aJ];refine hK h2 ?_ O12;rw[if_neg h1];exact A2
def xT(T:dD h t m base n)(H:da h f t F)(M:bu h m mc cs ops fails)(hn:1<=n)(hn2:n<1000000000)(hb:base<1000000000)(hp:F.pos<n)(hl:F.done=false->1<=F.left)(hl2:F.left<1000000000)
  (hc:base+n<=cs.length) (d1:f≠t) (d2:f≠m) (d3:f≠mc) (d4:t≠m) (d5:t≠mc)
  (hK: ∀h' fails',da h' f t (bN base n cs F).1->dD h' t m base n->bu h' m mc (bN base n cs F).2 (if F.done then ops else up ops) fails'->aM [f,m,mc] h h'->K (aD (bN base n cs F).1.done) h'):
  Cl 242 [au (aw f)] h K:=by
 apply F242.spec;simp only[aL,Nat.zero_add];refine aY (n:=F.done) (by rw[At.rd H];rfl) ?_
 have hend: ∀h' fails',da h' f t (bN base n cs F).1->dD h' t m base n->bu h' m mc (bN base n cs F).2 (if F.done then ops else up ops) fails'->aM [f,m,mc] h h'->F242.wk3 (aw f) h' K:=by intro h' fails' a1 a2 a3 a4;unfold F242.wk3;simp only[aL,Nat.zero_add];exact aY (by rw[At.rd a1];rfl) (hK h' fails' a1 a2 a3 a4)
 cases hd:F.done with
 |true=>
  rw[Bool.not_true,aJ];have e:bN base n cs F=(F,cs):=by unfold bN;rw[if_pos hd]
  rw[e,hd]at hend;exact hend h fails H T M (aM.refl _ _)
 |false=>
  rw[Bool.not_false,aO];have hb2:ax ((base:Int)+(F.pos:Int))=((base+F.pos:Nat):Int):=by rw[wrap_i64 ah ah];simp
  have hi:base+F.pos<cs.length:=ah;have hg:cs.getD (((base+F.pos:Nat):Int).toNat) 0=cs.getD (base+F.pos) 0:=by rw[Int.toNat_natCast]
  rw[hd]at hend;have hs: ∀b∈[m,mc],b∈[f,m,mc]:=by simp+contextual
  cases hcl:F.claims with
  |false=>
   refine⟨_,by rw[At.rd H];rfl,?_⟩;rw[hcl];refine bE (by kernel_rfl) ?_;refine F285.spec ?_;simp only[aL,Nat.zero_add,Nat.add_zero];refine aR (by rw[At.rd H];rfl) ?_;simp only[aU,aL,Nat.zero_add];refine aR (by rw[At.rd T];rfl) (aR (by rw[At.rd H];rfl) ?_);simp only[aU,aL,Nat.zero_add];refine aI (by rw[At.rd T];rfl) (aI (by rw[At.rd H];rfl) ?_);rw[hb2];refine eI M ah ah λh1 M1 O1=>aI rfl ?_;have H1:=H.only O1 (by simp[d2,d3]);have T1:=T.only O1 (by simp[d4,d5]);have Q1:=O1.mono (T:=[f,m,mc]) λb hb _=>hs b hb;rw[hg];refine aI (n:=F.key) (by rw[At.rd H1];rfl) ?_;unfold bN at hend;rw[if_neg (by simp[hd]),if_neg (by simp[hcl])]at hend;by_cases hk:cs.getD (base+F.pos) 0=F.key
   ·rw[if_pos hk]at hend;rw[show(cs.getD (base+F.pos) 0==F.key)=true by simpa using hk,aO];refine aI (by rw[At.rd H1];rfl) (lZ H1 λh2 H2 O2=>⟨by trivial,by trivial,?_⟩);exact hend h2 fails H2 (T1.only O2 (by simp[d1.symm])) (M1.only O2 (by simp[d2.symm]) (by simp[d3.symm])) (Q1.trans O2 ak)
   ·rw[if_neg hk]at hend;rw[show(cs.getD (base+F.pos) 0==F.key)=false by simpa using hk,aJ];by_cases hz:cs.getD (base+F.pos) 0=0
    ·rw[if_pos hz]at hend;rw[show(cs.getD (base+F.pos) 0==0)=true by simpa using hz,aO];refine aS H1 ak rfl λh2 A2 O2 _=>⟨by trivial,?_⟩;exact hend h2 fails A2 (T1.only O2 (by simp[d1.symm])) (M1.only O2 (by simp[d2.symm]) (by simp[d3.symm])) (Q1.trans O2 ak)
    ·rw[if_neg hz]at hend;rw[show(cs.getD (base+F.pos) 0==0)=false by simpa using hz,aJ];refine xv T1 H1 hn hn2 hp (hl hd) hl2 λh2 H2 O2=>⟨by trivial,by trivial,?_⟩;have T2:=T1.only O2 (by simp[d1.symm]);have M2:=M1.only O2 (by simp[d2.symm]) (by simp[d3.symm]);have Q2:=Q1.trans O2 ak;by_cases h1:F.left=1
     ·rw[if_pos h1]at hend H2;exact hend h2 fails H2 T2 M2 Q2
     ·rw[if_neg h1]at hend H2;exact hend h2 fails H2 T2 M2 Q2
  |true=>
   refine⟨_,by rw[At.rd H];rfl,?_⟩;rw[hcl];refine bE (by kernel_rfl) ?_;refine F306.spec ?_;simp only[aL,Nat.zero_add,Nat.add_zero];refine aS H ak rfl λh1 A1 O1 _=> ?_;have H1:da h1 f t {F with claims:=false}:=A1;have T1:=T.only O1 (by simp[d1.symm]);have M1:=M.only O1 (by simp[d2.symm]) (by simp[d3.symm]);have Q1:=O1.mono (T:=[f,m,mc]) λb hb _=>(by simp at hb;simp[hb]);refine aR (by rw[At.rd H1];rfl) ?_;simp only[aU,aL,Nat.zero_add];refine aR (by rw[At.rd T1];rfl) (aR (by rw[At.rd H1];rfl) ?_);simp only[aU,aL,Nat.zero_add];refine aI (by rw[At.rd T1];rfl) (aI (by rw[At.rd H1];rfl) (aI (n:=F.key) (by rw[At.rd H1];rfl) ?_));rw[hb2];unfold bN at hend;rw[if_neg (by simp[hd]),if_pos (by simp[hcl])]at hend;refine pf M1 ah ah (λe h2 M2 O2=> ?_) λe h2 M2 O2=> ?_
   ·rw[hg]at e;rw[if_pos e]at hend;rw[dS,aO];refine aS (H1.only O2 (by simp[d2,d3])) ak rfl λh3 A3 O3 _=> ?_;have H3:da h3 f t {F with claims:=false,made:=true}:=A3;refine aI (by rw[At.rd H3];rfl) (lZ H3 λh4 H4 O4=>⟨by trivial,by trivial,?_⟩);have O34:=O3.trans O4 ak;rw[Int.toNat_natCast]at M2;exact hend h4 fails H4 ((T1.only O2 (by simp[d4,d5])).only O34 (by simp[d1.symm])) (M2.only O34 (by simp[d2.symm]) (by simp[d3.symm])) ((Q1.trans O2 λb hb _=>hs b hb).trans O34 ak)
   ·rw[hg]at e;rw[if_neg e]at hend;rw[dS,aJ];exact⟨by trivial,hend h2 (up fails) (H1.only O2 (by simp[d2,d3])) (T1.only O2 (by simp[d4,d5])) M2 (Q1.trans O2 λb hb _=>hs b hb)⟩
def i6(key:Int)(n:Nat):Fi:=⟨key,gL key n,n,false,key==0,-1,61,false⟩
def xz{key:Int}(T:dD h t m base n)(hn:1<=n)(hn2:n<1000000000)
  (hK: ∀f h',da h' f t (i6 key n)->aM [] h h'->h.size<=f->K (au (aw f)) h'):
  Cl 241 [au (aw t),aq key] h K:=by
 apply F241.spec;simp only[aL,Nat.zero_add,Nat.add_zero];have hr:rd h ⟨t,2,none⟩=some (al (n:Int)):=by rw[At.rd T];rfl
 refine aI hr (aI hr (lV hn hn2 (aI rfl ⟨trivial,trivial,trivial,trivial,trivial,aI hr ⟨rfl,trivial,trivial,?_⟩⟩)));refine aV λh1 A1 O1 z1=>aS A1 ak rfl λh2 A2 O2 _=> ?_;exact hK h.size h2 A2 (O1.trans O2 λb hb hl=>absurd (show b=h.size by simpa using hb) ah) (Nat.le_refl _)
def xB(H:da h f t F)(hK:K (aD F.made) h):Cl 244 [au (aw f)] h K:=by apply F244.spec;simp only[aL,Nat.zero_add];exact aY (by rw[At.rd H];rfl) hK
def w8(H:da h f t F)(hK:K (.tuple #[al F.slot,al F.e]) h):Cl 243 [au (aw f)] h K:=by apply F243.spec;simp only[aL,Nat.zero_add];exact aI (by rw[At.rd H];rfl) (aI (by rw[At.rd H];rfl) hK)
def gC(T:dD h t m base n)(hK:K (al (n:Int)) h):Cl 200 [au (aw t)] h K:=by apply F200.spec;simp only[aL,Nat.zero_add];exact aI (by rw[At.rd T];rfl) hK
def tj{base n:Nat}(M:bu h m mc cs ops fails)(hn:1<=n)(hb:base+n<=cs.length)(hc:cs.length<1000000000)
  (hK: ∀t h',dD h' t m base n->aM [] h h'->h.size<=t->K (.tuple #[au (aw t),al 0]) h'):
  Cl 159 [au (aw m),al (base:Int),al (n:Int)] h K:=by
 apply F159.spec;rw[decide_eq_false ah,aJ,decide_eq_false ah,aJ];refine iq M (aI rfl ?_);rw[decide_eq_false ah,aJ];refine iq M (aI rfl ?_);rw[wrap_i64 ah ah,decide_eq_false ah,aJ];exact aV λh1 A1 O1 z1=>hK h.size h1 A1 O1 (Nat.le_refl _)
end
end
section
def cell(base:Nat)(cs:List Int)(i:Nat):Int:=cs.getD (base+i) 0
def cnt(base:Nat)(cs:List Int):Nat->Nat
 |0=>0
 |n+1=>cnt base cs n+(if cell base cs n=0 then 0 else 1)
section
variable {h:aH}{t m mc base n:Nat}{cs:List Int}{ops fails:Int}{K:KK}
def CH(T:dD h t m base n)(M:bu h m mc cs ops fails)(hb:base<1000000000)(hn:n<1000000000)(hc:base+n<=cs.length){i:Nat}(hi:i<n)
  (hK: ∀h',bu h' m mc cs (up ops) fails->aM [m,mc] h h'->K (aq (cell base cs i)) h'):
  Cl 247 [au (aw t),al (i:Int)] h K:=by
 apply F247.spec;simp only[aL,Nat.zero_add];rw[decide_eq_false ah,aJ];refine aI (n:=(n:Int)) (by rw[At.rd T];rfl) ?_;rw[decide_eq_false ah,aJ];refine aR (by rw[At.rd T];rfl) (aI (by rw[At.rd T];rfl) ?_);rw[show ax ((base:Int)+(i:Int))=((base+i:Nat):Int) by rw[wrap_i64 ah ah];simp];refine eI M ah ah λh1 M1 O1=>aI rfl ?_;rw[Int.toNat_natCast];exact hK h1 M1 O1
end
end
section
def path(n:Nat)(key:Int)(d:Nat):Nat:=(gL key n+d)%n
def rF{n:Nat}{key:Int}{d:Nat}(hn:1<=n):path n key d<n:=Nat.mod_lt _ ah
def qK{n:Nat}{key:Int}{i:Nat}(hi:i<n): ∃d,d<n/\path n key d=i:=by
 have hh:=fU key (show 1<=n by omega);by_cases h:gL key n<=i
 ·exact⟨i-gL key n,ah,by unfold path;rw[show gL key n+(i-gL key n)=i by omega];exact Nat.mod_eq_of_lt hi⟩
 ·exact⟨i+n-gL key n,ah,by unfold path;rw[show gL key n+(i+n-gL key n)=i+n by omega,Nat.add_mod_right];exact Nat.mod_eq_of_lt hi⟩
def xY{n:Nat}{key:Int}{d:Nat}:path n key (d+1)=(path n key d+1)%n:=by unfold path;rw[<-Nat.add_assoc,Nat.mod_add_mod]
def pY(base n:Nat)(cs:List Int)(key:Int)(d:Nat):Prop:= ∀j,j<d->cell base cs (path n key j)≠0/\cell base cs (path n key j)≠key
def jQ(base n:Nat)(cs:List Int):Prop:=
 ∀i,i<n->cell base cs i≠0-> ∃d,d<n/\path n (cell base cs i) d=i/\pY base n cs (cell base cs i) d
structure GS(base n:Nat)(cs:List Int)(F:Fi):Prop where
 pos:F.pos<n
 left:F.left<=n
 going:F.done=false->F.key≠0/\1<=F.left/\F.pos=path n F.key (n-F.left)/\pY base n cs F.key (n-F.left)/\F.made=false/\F.slot= -1/\F.e=61
 ended:F.done=true->(F.key=0/\F.slot= -1/\F.e=61/\F.made=false)\/(F.key≠0/\F.e=0/\ ∃i:Nat,i<n/\F.slot=i/\cell base cs i=F.key)\/
  (F.key≠0/\F.e=60/\F.slot= -1/\F.made=false/\ ∀i,i<n->cell base cs i≠0/\cell base cs i≠F.key)
def ju(base n:Nat)(cs cs':List Int):Prop:=cs'.length=cs.length/\(∀i,i<n->cell base cs i≠0->cell base cs' i=cell base cs i)/\ ∀x,x<base\/base+n<=x->cs'.getD x 0=cs.getD x 0
def ju.refl(base n:Nat)(cs:List Int):ju base n cs cs:=⟨rfl,λ_ _ _=>rfl,λ_ _=>rfl⟩
def ju.trans{base n:Nat}{a b c:List Int}(H:ju base n a b)(G:ju base n b c):ju base n a c:=
 ⟨G.1.trans H.1,λi hi h=>by rw[G.2.1 i hi (by rw[H.2.1 i hi h];exact h),H.2.1 i hi h],λx hx=>(G.2.2 x hx).trans (H.2.2 x hx)⟩
def pY.grow{base n:Nat}{cs cs':List Int}{key:Int}{d:Nat}(hn:1<=n)(H:pY base n cs key d)(G:ju base n cs cs'):pY base n cs' key d:=by intro j hj;obtain⟨a,b⟩:=H j hj;rw[G.2.1 _ (rF hn) a];exact⟨a,b⟩
def AQ{base n:Nat}{cs:List Int}{key:Int}(hn:1<=n):GS base n cs (i6 key n):=by
 refine⟨fU key hn,Nat.le_refl _,λhd=> ?_,λhd=> ?_⟩
 ·have hk:key≠0:=by simpa[i6]using hd
  refine⟨hk,hn,?_,?_,rfl,rfl,rfl⟩
  ·show gL key n=path n key (n-n);unfold path;rw[Nat.sub_self,Nat.add_zero,Nat.mod_eq_of_lt (fU key hn)]
  ·intro j hj;simp[i6]at hj
 ·have hk:key=0:=by simpa[i6]using hd
  exact Or.inl ⟨hk,rfl,rfl,rfl⟩
section
variable {base n:Nat}{cs:List Int}{F:Fi}
def i9{i j:Nat}{v:Int}(hi:base+i<cs.length):cell base (cs.set (base+i) v) j=if j=i then v else cell base cs j:=by
 unfold cell;by_cases h:j=i
 ·subst h;simp[hi]
 ·simp only[List.getD,List.getElem?_set,if_neg (by omega: ¬base+i=base+j),if_neg h]
def jQ.absent(T:jQ base n cs){key:Int}{d:Nat}(hd:d<n)(hk:key≠0)(S:pY base n cs key d)(hz:cell base cs (path n key d)=0): ∀j,j<n->cell base cs j≠key:=by
 intro j hj e;obtain⟨d',h1,h2,h3⟩:=T j hj (by rw[e];exact hk);rw[e]at h2 h3;by_cases c1:d'<d
 ·have:=(S d' c1).2;rw[h2]at this;exact this e
 ·by_cases c2:d'=d
  ·subst c2;rw[h2,e]at hz;exact hk hz
  ·exact(h3 d ah).1 hz
def sS{i:Nat}{v:Int}(hi:i<n)(hc:base+n<=cs.length)(hz:cell base cs i=0):ju base n cs (cs.set (base+i) v):=by
 refine⟨ak,λj hj hnz=> ?_,λx hx=> ?_⟩
 ·rw[i9 ah,if_neg (λe=>hnz (by rw[e];exact hz))]
 ·simp only[List.getD,List.getElem?_set,if_neg (by omega: ¬base+i=x)]
def jQ.set(hn:1<=n)(hc:base+n<=cs.length)(T:jQ base n cs){key:Int}{d:Nat}(hd:d<n)(S:pY base n cs key d)(hz:cell base cs (path n key d)=0):
  jQ base n (cs.set (base+path n key d) key):=by
 have hp:path n key d<n:=rF hn;have G:=sS (v:=key) hp hc hz;intro i hi hnz;rw[i9 ah]at hnz ⊢;by_cases h:i=path n key d
 ·rw[if_pos h];exact⟨d,hd,h.symm,S.grow hn G⟩
 ·rw[if_neg h]at hnz ⊢;obtain⟨d',h1,h2,h3⟩:=T i hi hnz;exact⟨d',h1,h2,h3.grow hn G⟩
def Dp(hn:1<=n)(hc:base+n<=cs.length)(T:jQ base n cs)(H:GS base n cs F):
  jQ base n (bN base n cs F).2/\GS base n (bN base n cs F).2 (bN base n cs F).1/\ju base n cs (bN base n cs F).2/\(bN base n cs F).1.key=F.key/\
  (((bN base n cs F).1.made=F.made/\(bN base n cs F).2=cs)\/
   (F.done=false/\F.made=false/\(bN base n cs F).1.made=true/\(bN base n cs F).1.done=true/\(bN base n cs F).1.slot=F.pos/\(bN base n cs F).1.e=0/\F.pos<n/\cell base cs F.pos=0/\F.key≠0/\(∀j,j<n->cell base cs j≠F.key)/\(bN base n cs F).2=cs.set (base+F.pos) F.key)):=by
 unfold bN;by_cases hd:F.done=true
 ·rw[if_pos hd];exact⟨T,H,ju.refl _ _ _,rfl,Or.inl ⟨rfl,rfl⟩⟩
 ·rw[if_neg hd];have hd':F.done=false:=by simpa using hd
  obtain⟨hk,hl,hp,S,hm,hs,he⟩:=H.going hd';have hdn:n-F.left<n:=ah;by_cases hcl:F.claims=true
  ·rw[if_pos hcl];by_cases hz:cs.getD (base+F.pos) 0=0
   ·rw[if_pos hz];have hz':cell base cs F.pos=0:=hz;have hz2:cell base cs (path n F.key (n-F.left))=0:=by rw[<-hp];exact hz'
    refine⟨?_,⟨H.pos,H.left,λh=>by simp at h,λ_=>Or.inr (Or.inl ⟨hk,rfl,F.pos,H.pos,rfl,?_⟩)⟩,sS H.pos hc hz',rfl,
     Or.inr ⟨hd',hm,rfl,rfl,rfl,rfl,H.pos,hz',hk,T.absent hdn hk S hz2,rfl⟩⟩
    ·have:=T.set hn hc hdn S hz2;rw[<-hp]at this;exact this
    ·rw[i9 (by have:=H.pos;omega),if_pos rfl]
   ·rw[if_neg hz];exact⟨T,⟨H.pos,H.left,λ_=>⟨hk,hl,hp,S,hm,hs,he⟩,λh=>absurd h hd⟩,ju.refl _ _ _,rfl,Or.inl ⟨rfl,rfl⟩⟩
  ·rw[if_neg hcl];by_cases hkey:cs.getD (base+F.pos) 0=F.key
   ·rw[if_pos hkey];exact⟨T,⟨H.pos,H.left,λh=>by simp at h,λ_=>Or.inr (Or.inl ⟨hk,rfl,F.pos,H.pos,rfl,hkey⟩)⟩,ju.refl _ _ _,rfl,Or.inl ⟨rfl,rfl⟩⟩
   ·rw[if_neg hkey];by_cases hz:cs.getD (base+F.pos) 0=0
    ·rw[if_pos hz];exact⟨T,⟨H.pos,H.left,λ_=>⟨hk,hl,hp,S,hm,hs,he⟩,λh=>absurd h hd⟩,ju.refl _ _ _,rfl,Or.inl ⟨rfl,rfl⟩⟩
    ·rw[if_neg hz]
     have S':pY base n cs F.key (n-F.left+1):=by
      intro j hj;by_cases h':j<n-F.left
      ·exact S j h'
      ·obtain rfl:j=n-F.left:=ah;rw[<-hp];exact⟨hz,hkey⟩
     have hp':(F.pos+1)%n<n:=Nat.mod_lt _ ah;by_cases h1:F.left=1
     ·rw[if_pos h1];refine⟨T,⟨hp',Nat.zero_le _,λh=>by simp at h,λ_=>Or.inr (Or.inr ⟨hk,rfl,rfl,hm,λi hi=> ?_⟩)⟩,ju.refl _ _ _,rfl,Or.inl ⟨rfl,rfl⟩⟩;obtain⟨d,hd1,hd2⟩:=qK (key:=F.key) hi;rw[<-hd2];exact S' d ah
     ·rw[if_neg h1];refine⟨T,⟨hp',by have:=H.left;show F.left-1<=n;omega,λ_=>⟨hk,by show 1<=F.left-1;omega,?_,?_,hm,hs,he⟩,λh=>absurd h hd⟩,ju.refl _ _ _,rfl,Or.inl ⟨rfl,rfl⟩⟩
      ·show(F.pos+1)%n=path n F.key (n-(F.left-1));have:=H.left;rw[show n-(F.left-1)=(n-F.left)+1 by omega,xY,<-hp]
      ·show pY base n cs F.key (n-(F.left-1));have:=H.left;rw[show n-(F.left-1)=(n-F.left)+1 by omega];exact S'
def uv(base:Nat)(cs:List Int)(F:Fi):Nat:=
 if F.done then 0 else 3*(F.left-1)+(if F.claims then 2 else if cell base cs F.pos=0 then 3 else 1)
def gR(h:F.done=true):uv base cs F=0:=by unfold uv;rw[if_pos h]
def jT(h:F.done=false)(hc:F.claims=true):uv base cs F=3*(F.left-1)+2:=by unfold uv;rw[if_neg (by simp[h]),if_pos hc]
def mZ(h:F.done=false)(hc:F.claims=false)(hz:cell base cs F.pos=0):uv base cs F=3*(F.left-1)+3:=by unfold uv;rw[if_neg (by simp[h]),if_neg (by simp[hc]),if_pos hz]
def mX(h:F.done=false)(hc:F.claims=false)(hz:cell base cs F.pos≠0):uv base cs F=3*(F.left-1)+1:=by unfold uv;rw[if_neg (by simp[h]),if_neg (by simp[hc]),if_neg hz]
def uA(h:F.done=false)(hc:F.claims=false):uv base cs F<=3*(F.left-1)+3/\3*(F.left-1)+1<=uv base cs F:=by
 by_cases hz:cell base cs F.pos=0
 ·rw[mZ h hc hz];omega
 ·rw[mX h hc hz];omega
def BL{key:Int}(hn:1<=n):uv base cs (i6 key n)<=3*n:=by
 by_cases h:(i6 key n).done=true
 ·rw[gR h];omega
 ·have:=(uA (base:=base) (cs:=cs) (F:=i6 key n) (by simpa using h) rfl).1;have e:(i6 key n).left=n:=rfl;rw[e]at this;omega
def yf(H:GS base n cs F)(hd:F.done=false):uv base (bN base n cs F).2 (bN base n cs F).1<uv base cs F:=by
 obtain⟨hk,hl,hp,S,hm,hs,he⟩:=H.going hd;by_cases hcl:F.claims=true
 ·rw[jT hd hcl];by_cases hz:cs.getD (base+F.pos) 0=0
  ·rw[gR (by unfold bN;rw[if_neg (by simp[hd]),if_pos hcl,if_pos hz])];omega
  ·have e:bN base n cs F=({F with claims:=false},cs):=by unfold bN;rw[if_neg (by simp[hd]),if_pos hcl,if_neg hz]
   rw[e,mX (F:={F with claims:=false}) hd rfl hz];show 3*(F.left-1)+1<_;omega
 ·have hcl':F.claims=false:=by simpa using hcl
  have hle:=uA (base:=base) (cs:=cs) hd hcl';by_cases hkey:cs.getD (base+F.pos) 0=F.key
  ·rw[gR (by unfold bN;rw[if_neg (by simp[hd]),if_neg hcl,if_pos hkey])];omega
  ·by_cases hz:cs.getD (base+F.pos) 0=0
   ·have e:bN base n cs F=({F with claims:=true},cs):=by unfold bN;rw[if_neg (by simp[hd]),if_neg hcl,if_neg hkey,if_pos hz]
    rw[e,jT (F:={F with claims:=true}) hd rfl,mZ hd hcl' hz];show 3*(F.left-1)+2<_;omega
   ·by_cases h1:F.left=1
    ·rw[gR (by unfold bN;rw[if_neg (by simp[hd]),if_neg hcl,if_neg hkey,if_neg hz,if_pos h1])];omega
    ·have e:bN base n cs F=({F with pos:=(F.pos+1)%n,left:=F.left-1},cs):=by unfold bN;rw[if_neg (by simp[hd]),if_neg hcl,if_neg hkey,if_neg hz,if_neg h1]
     have h2:=(uA (base:=base) (cs:=cs) (F:={F with pos:=(F.pos+1)%n,left:=F.left-1}) hd hcl').1;rw[e];refine Nat.lt_of_le_of_lt h2 ?_;show 3*(F.left-1-1)+3<_;omega
def Ao(H:uv base cs F=0):F.done=true:=by
 unfold uv at H;by_cases h:F.done=true
 ·exact h
 ·rw[if_neg h]at H;split at H
  ·omega
  ·split at H<;>omega
def BC(base n:Nat)(cs0 cs:List Int)(F:Fi):Prop:=
 GS base n cs F/\jQ base n cs/\ju base n cs0 cs/\((F.made=false/\cs=cs0)\/(F.made=true/\F.done=true/\F.e=0/\F.key≠0/\ ∃i:Nat,i<n/\F.slot=i/\cell base cs0 i=0/\(∀j,j<n->cell base cs0 j≠F.key)/\cs=cs0.set (base+i) F.key))
def BC.new{cs0:List Int}{key:Int}(hn:1<=n)(T:jQ base n cs0):BC base n cs0 cs0 (i6 key n):=
 ⟨AQ hn,T,ju.refl _ _ _,Or.inl ⟨rfl,rfl⟩⟩
def BC.step{cs0:List Int}(hn:1<=n)(hc:base+n<=cs.length)(R:BC base n cs0 cs F):BC base n cs0 (bN base n cs F).2 (bN base n cs F).1/\(bN base n cs F).1.key=F.key:=by
 obtain⟨H,T,G,D⟩:=R;obtain⟨s1,s2,s3,s4,s5⟩:=Dp hn hc T H;refine⟨⟨s2,s1,G.trans s3,?_⟩,s4⟩;rcases D with⟨d1,d2⟩|⟨d1,d2,d3,d4,d5⟩
 ·subst d2;rcases s5 with⟨e1,e2⟩|⟨e1,e2,e3,e4,e5,e6,e7,e8,e9,e10,e11⟩
  ·exact Or.inl ⟨e1.trans d1,e2⟩
  ·exact Or.inr ⟨e3,e4,e6,by rw[s4];exact e9,F.pos,e7,e5,e8,by rw[s4];exact e10,by rw[s4];exact e11⟩
 ·have e:bN base n cs F=(F,cs):=by unfold bN;rw[if_pos d2]
  rw[e];exact Or.inr ⟨d1,d2,d3,d4,d5⟩
def Cu{i:Nat}{v:Int}(hv:v≠0)(hz:cell base cs i=0)(hi:base+i<cs.length): ∀m,cnt base (cs.set (base+i) v) m=cnt base cs m+(if i<m then 1 else 0):=by
 intro m
 induction m with
 |zero=>rfl
 |succ m ih=>
  unfold cnt;rw[ih,i9 hi];by_cases h:m=i
  ·subst h;simp[hv,hz]
  ·rw[if_neg h];by_cases h':i<m
   ·rw[if_pos h',if_pos (by omega:i<m+1)];omega
   ·rw[if_neg h',if_neg (by omega: ¬i<m+1)];omega
def BB: ∀m,(∀i,i<m->cell base cs i≠0)->cnt base cs m=m:=by
 intro m
 induction m with
 |zero=>intro _;rfl
 |succ m ih=>
  intro h;unfold cnt;rw[ih λi hi=>h i ah,if_neg (h m ah)]
def Be: ∀m,(∀i,i<m->cell base cs i=0)->cnt base cs m=0:=by
 intro m
 induction m with
 |zero=>intro _;rfl
 |succ m ih=>
  intro h;unfold cnt;rw[ih λi hi=>h i ah,if_pos (h m ah)]
def jQ.empty(h: ∀i,i<n->cell base cs i=0):jQ base n cs:=λi hi hnz=>absurd (h i hi) hnz
end
end
section
def tT(l a b:Nat):Nat:=l*2^56+(a*2^28+b)
def Av{l a b l' a' b':Nat}(ha:a<2^28)(hb:b<2^28)(ha':a'<2^28)(hb':b'<2^28)(e:tT l a b=tT l' a' b'):l=l'/\a=a'/\b=b':=by unfold tT at e;omega
def oa{a:Nat}(ha:a<2^32):(BitVec.ofInt 32 (a:Int)).toNat=a:=by rw[BitVec.toNat_ofInt];omega
def gY{a:Nat}(ha:a<2^32):IntKind.wrap .u32 (a:Int)=a:=by simp[IntKind.wrap,IntKind.bits,IntKind.signed];omega
def yE{a b:Nat}(ha:a<2^32)(hb:b<2^32):bB .and .u32 (a:Int) (b:Int)=((a&&&b:Nat):Int):=by unfold bB;show IntKind.wrap .u32 ((BitVec.ofInt 32 (a:Int)&&&BitVec.ofInt 32 (b:Int)).toNat:Int)=_;rw[BitVec.toNat_and,oa ha,oa hb];exact gY (by have:= @Nat.and_le_left a b;omega)
def El{a:Nat}(ha:a<2^28):bB .and .u32 (a:Int) 268435455=(a:Int):=by rw[show(268435455:Int)=((2^28-1:Nat):Int) by rfl,yE ah (by decide),Nat.and_two_pow_sub_one_eq_mod,Nat.mod_eq_of_lt ha]
def Eg{h:aH}{l a b:Nat}{K:KK}(hl:l<256)(ha:a<2^28)(hb:b<2^28)(hK:K (aq ((tT l a b:Nat):Int)) h):
  Cl 198 [al (l:Int),ap (a:Int),ap (b:Int)] h K:=by
 refine F198.spec ?_;refine F245.spec ?_;have U: ∀{x:Nat},x<2^64->IntKind.wrap .u64 (x:Int)=(x:Int):=λh=>mW (by unfold fP;omega)
 have e1:IntKind.wrap .u64 ((IntKind.wrap .u64 (IntKind.wrap .u8 (l:Int)))*2^(min (Int.toNat (56:Int)) (IntKind.bits .u64)))=((l<<<56:Nat):Int):=by rw[show IntKind.wrap .u8 (l:Int)=(l:Int)from tV hl,U ah,show min (Int.toNat (56:Int)) (IntKind.bits .u64)=56 by rfl,show(l:Int)*2^56=((l*2^56:Nat):Int) by omega,U ah,Nat.shiftLeft_eq]
 have e2:IntKind.wrap .u64 ((IntKind.wrap .u64 (bB .and .u32 (a:Int) 268435455))*2^(min (Int.toNat (28:Int)) (IntKind.bits .u64)))=((a<<<28:Nat):Int):=by rw[El ha,U ah,show min (Int.toNat (28:Int)) (IntKind.bits .u64)=28 by rfl,show(a:Int)*2^28=((a*2^28:Nat):Int) by omega,U ah,Nat.shiftLeft_eq]
 refine⟨ah,ah,aI rfl ?_⟩;rw[e1,e2,El hb,U ah];have s1:l<<<56<fP:=by rw[Nat.shiftLeft_eq];unfold fP;omega
 have s2:a<<<28<fP:=by rw[Nat.shiftLeft_eq];unfold fP;omega
 have s3:b<fP:=by unfold fP;omega
 rw[Ej s1 s2,Ej (mU s1 s2) s3,Nat.or_assoc,<-Nat.shiftLeft_add_eq_or_of_lt hb,<-Nat.shiftLeft_add_eq_or_of_lt (by rw[Nat.shiftLeft_eq];omega),Nat.shiftLeft_eq,Nat.shiftLeft_eq];exact hK
end
section
set_option maxRecDepth 100000 in
def Ds{h:aH}{s t m mc T:Nat}{cs:List Int}{ops fails key:Int}{K:KK}(hp:rd h ⟨s,4,none⟩=some (au (aw t)))
  (Tb:dD h t m 0 T) (M:bu h m mc cs ops fails) (hn:1<=T) (hn2:T<1000000000) (hc:cs.length=T) (d4:t≠m) (d5:t≠mc) (bt:t<h.size) (bm:m<h.size) (bmc:mc<h.size)
  (I:jQ 0 T cs) (hk:key≠0) (habs: ∀j,j<T->cell 0 cs j≠key) {z:Nat} (hz:z<T) (hz0:cell 0 cs z=0)
  (hK: ∀h' i ops' fails',i<T->cell 0 cs i=0->dD h' t m 0 T->bu h' m mc (cs.set i key) ops' fails'->jQ 0 T (cs.set i key)->aM [m,mc] h h'->K (.tuple #[al (i:Int),aC]) h'):
  Cl 197 [au (aw s),aq key] h K:=by
 refine F197.spec _ _ h K ?_;simp only[aL,Nat.zero_add];refine aR hp ?_;refine xz Tb hn hn2 λf h1 H1 O1 hf=>aR rfl ?_;unfold F197.wk3;have ht:=Tb.only O1 ak;have hm:=M.only O1 ak ak
 have fin: ∀(F:Fi) (cs':List Int) (h':aH) (ops' fails':Int),F.done=true->BC 0 T cs cs' F->F.key=key->da h' f t F->dD h' t m 0 T->bu h' m mc cs' ops' fails'->aM [m,mc] h h'->
   F197.wk4 (some (aw f)) h' K:=by
  intro F cs' h' ops' fails' hd R ek H Tb M O;unfold F197.wk4;refine w8 H ⟨_,_,rfl,xB H (aY rfl ?_)⟩;obtain⟨R1,R2,R3,R4⟩:=R;have ze:cell 0 cs z=0:=hz0;rcases R4 with⟨r1,r2⟩|⟨r1,r2,r3,r4,i,r5,r6,r7,r8,r9⟩
  ·subst r2;rcases R1.ended hd with⟨e1,_⟩|⟨_,_,i,hi,_,e4⟩|⟨_,_,_,_,e5⟩
   ·exact absurd (ek▸e1) hk
   ·exact absurd (e4.trans ek) (habs i hi)
   ·exact absurd ze (e5 z hz).1
  ·rw[r6,r1];rw[Nat.zero_add,ek]at r9;rw[r9]at M R2;exact hK h' i _ _ r5 r7 Tb M R2 O
 have pass: ∀(d:Nat) (F:Fi) (cs':List Int) (h':aH) (ops' fails':Int),BC 0 T cs cs' F->F.key=key->da h' f t F->dD h' t m 0 T->bu h' m mc cs' ops' fails'->aM [m,mc] h h'->
   (F.done=false-> ∀h'' ops'' fails'',(bN 0 T cs' F).1.done=false->BC 0 T cs (bN 0 T cs' F).2 (bN 0 T cs' F).1->(bN 0 T cs' F).1.key=key->da h'' f t (bN 0 T cs' F).1->dD h'' t m 0 T->bu h'' m mc (bN 0 T cs' F).2 ops'' fails''->aM [m,mc] h h''->
    F197.wL3 d (some (aw f)) (.func (.func 242) #[au (aw f)] #[]) h'' K)->
   F197.wL3 (d+1) (some (aw f)) (.func (.func 242) #[au (aw f)] #[]) h' K:=by
  intro d F cs' h' ops' fails' R ek H Tb M O nx;have hl':cs'.length=T:=R.2.2.1.1.trans hc;obtain⟨R',ek'⟩:=R.step hn ah;rw[F197.sL3];refine bE (by kernel_rfl) ?_;refine xT Tb H M hn hn2 ah R.1.pos (λhd=>(R.1.going hd).2.1) (by have:=R.1.left;omega) ah ah ah ah d4 d5 λh2 fails2 H2 T2 M2 O2=>aY rfl ?_;have O':aM [m,mc] h h2:=O.trans O2 (by intro b hb hl;simp at hb ⊢;omega);refine aT (λhb=> ?_) λhb=> ?_
  ·have hb:(bN 0 T cs' F).1.done=false:=by simpa using hb
   refine nx ?_ h2 _ _ hb R' (ek'.trans ek) H2 T2 M2 O';cases hd:F.done with
   |false=>rfl
   |true=>
    have e:bN 0 T cs' F=(F,cs'):=by unfold bN;rw[if_pos hd]
    rw[e,hd]at hb;exact absurd hb ak
  ·have hb:(bN 0 T cs' F).1.done=true:=by simpa using hb
   exact fin _ _ _ _ _ hb R' (ek'.trans ek) H2 T2 M2 O'
 have main: ∀(d:Nat) (F:Fi) (cs':List Int) (h':aH) (ops' fails':Int),uv 0 cs' F<=d->BC 0 T cs cs' F->F.key=key->da h' f t F->dD h' t m 0 T->bu h' m mc cs' ops' fails'->aM [m,mc] h h'->
   F197.wL3 (d+1) (some (aw f)) (.func (.func 242) #[au (aw f)] #[]) h' K:=by
  intro d
  induction d with
  |zero=> 
   intro F cs' h' ops' fails' hd R ek H Tb M O;refine pass 0 F cs' h' ops' fails' R ek H Tb M O λhf=> ?_;rw[Ao (base:=0) (cs:=cs') (F:=F) ah]at hf;exact absurd hf ak
  |succ d ih=>
   intro F cs' h' ops' fails' hd R ek H Tb M O;refine pass (d+1) F cs' h' ops' fails' R ek H Tb M O λhf h2 o2 f2 _ R' ek' H' T' M' O'=> ?_;exact ih _ _ _ _ _ (by have:=yf (base:=0) (cs:=cs') R.1 hf;omega) R' ek' H' T' M' O'
 exact⟨_,main (3*T) (i6 key T) cs h1 ops fails (BL hn) (BC.new hn I) rfl H1 ht hm (by have:=(aM.refl [m,mc] h).trans O1 ak;exact this)⟩
end
section
def bO(h:aH)(b:Nat)(k:IntKind)(m:List (Int×Value)):Prop:=
 ∃es cl,mp h b=some (es,cl)/\es.toList.map (λe=>(e.key,e.val))=m.map (λp=>(Value.int k p.1,p.2))/\(m.map (·.1)).Nodup/\(es.toList.map (·.born)).Nodup/\ ∀e∈es.toList,e.born<cl
def bO.lt{h:aH}{b:Nat}{k:IntKind}{m:List (Int×Value)}(H:bO h b k m):b<h.size:=by
 obtain⟨es,cl,h1,-⟩:=H;unfold mp at h1;cases hh:h[b]? with
 |none=>rw[hh]at h1;cases h1
 |some o=>exact(Array.getElem?_eq_some_iff.1 hh).1
def bO.only{S:List Nat}{h h':aH}{b:Nat}{k:IntKind}{m:List (Int×Value)}(H:bO h b k m)(O:aM S h h')(hb:b∉S):bO h' b k m:=by have hl:=H.lt;obtain⟨es,cl,h1,h2⟩:=H;refine⟨es,cl,?_,h2⟩;unfold mp at h1 ⊢;rw[O.same b hl hb];exact h1
def kg{h:aH}{b:Nat}{es:Array MapEntry}{cl:Nat}(h1:mp h b=some (es,cl)):h[b]? =some (.map es cl):=by
 unfold mp at h1;cases hh:h[b]? with
 |none=>rw[hh]at h1;cases h1
 |some o=>
  rw[hh]at h1;cases o with
  |map a c=>injection h1 with h1;injection h1 with e1 e2;subst e1;subst e2;rfl
  |_=>cases h1
def aM.map{h:aH}{b:Nat}{es:Array MapEntry}{cl:Nat}(h1:mp h b=some (es,cl))(es':Array MapEntry)(cl':Nat):aM [b] h (h.setIfInBounds b (.map es' cl')):=by
 have ho:=kg h1;refine⟨ak,λj hj hb=> ?_,λa=> ?_⟩
 ·rw[Array.getElem?_setIfInBounds,if_neg (λe=>hb (by simp[e]))]
 ·unfold fz;rw[Array.getElem?_setIfInBounds];by_cases e:b=a.block
  ·subst e;rw[if_pos rfl,if_pos (Array.getElem?_eq_some_iff.1 ho).1,ho]
  ·rw[if_neg e]
def lR{h:aH}{b:Nat}{es:Array MapEntry}{cl:Nat}(h1:mp h b=some (es,cl))(es':Array MapEntry)(cl':Nat):mp (h.setIfInBounds b (.map es' cl')) b=some (es',cl'):=by unfold mp;rw[Array.getElem?_setIfInBounds,if_pos rfl,if_pos (Array.getElem?_eq_some_iff.1 (kg h1)).1]
def jh{k:IntKind}{x:Int}: ∀(es:List MapEntry) (m:List (Int×Value)) (i:Nat),es.map (λe=>(e.key,e.val))=m.map (λp=>(Value.int k p.1,p.2))->
  (Instr.findNow (.int k) (.int k x) es i=some none/\m.lookup x=none/\ ∀p∈m,p.1≠x)\/
  ∃j v m1 m2,Instr.findNow (.int k) (.int k x) es i=some (some (i+j,v))/\m=m1++(x,v)::m2/\m1.length=j/\m.lookup x=some v/\(∀p∈m1,p.1≠x)
 | [],[],i,_=>Or.inl ⟨rfl,rfl,ak⟩
 | [],_::_,_,h=>by simp at h
 |_::_,[],_,h=>by simp at h
 |e::es,p::m,i,h=>by
  simp only[List.map_cons,List.cons.injEq,Prod.mk.injEq]at h;obtain⟨⟨h1,h2⟩,h3⟩:=h;by_cases hx:x=p.1
  ·subst hx;refine Or.inr ⟨0,p.2,[],m,?_,rfl,rfl,?_,ak⟩
   ·simp[Instr.findNow,Instr.sameNow,h1,h2]
   ·simp[List.lookup]
  ·have hs:Instr.sameNow (.int k) (.int k x) e.key=some false:=by simp[Instr.sameNow,h1,hx]
   rcases jh es m (i+1) h3 with⟨a,b,c⟩|⟨j,v,m1,m2,a,b,c,d,f⟩
   ·refine Or.inl ⟨?_,?_,?_⟩
    ·simp only[Instr.findNow,hs];exact a
    ·simp only[List.lookup,show(x==p.1)=false by simp[hx]];exact b
    ·intro q hq;rcases List.mem_cons.1 hq with rfl|hq
     ·exact λe=>hx e.symm
     ·exact c q hq
   ·refine Or.inr ⟨j+1,v,p::m1,m2,?_,by rw[b];rfl,by simp[c],?_,?_⟩
    ·simp only[Instr.findNow,hs];rw[a]
     congr 3
     omega
    ·simp only[List.lookup,show(x==p.1)=false by simp[hx]];exact d
    ·intro q hq;rcases List.mem_cons.1 hq with rfl|hq
     ·exact λe=>hx e.symm
     ·exact f q hq
def dt{h:aH}{b:Nat}{k:IntKind}{m:List (Int×Value)}{x:Int}{K:Option (Nat×Value)->Prop}(H:bO h b k m)
  (hN:m.lookup x=none->K none) (hS: ∀i v,m.lookup x=some v->K (some (i,v))):dP h (some b) k k x K:=by
 obtain⟨es,cl,h1,h2,h3,-⟩:=H;refine⟨es,cl,h1,?_⟩;rcases jh (x:=x) es.toList m 0 h2 with⟨a,c,-⟩|⟨j,v,m1,m2,a,c,d,e,-⟩
 ·exact⟨_,a,hN c⟩
 ·exact⟨_,a,hS _ v e⟩
def ig(m:List (Int×Value))(x:Int)(v:Value):List (Int×Value):=if(m.lookup x).isSome then m.map (λp=>if p.1=x then(x,v)else p)else m++[(x,v)]
def ll(m:List (Int×Value))(x:Int):List (Int×Value):=m.filter λp=>p.1≠x
def pW{m m':List (Int×Value)}{x:Int}:(m++m').lookup x=(m.lookup x).or (m'.lookup x):=by
 induction m with
 |nil=>simp[List.lookup]
 |cons p m ih=>
  simp only[List.cons_append,List.lookup];cases x==p.1<;>simp[ih]
def qP{m:List (Int×Value)}{x:Int}{v:Value}:(ig m x v).map (·.1)=if(m.lookup x).isSome then m.map (·.1)else m.map (·.1)++[x]:=by
 unfold ig;split
 ·rw[List.map_map];apply List.map_congr_left;intro p _;simp only[Function.comp];split
  ·next e=>exact e.symm
  ·rfl
 ·simp
def cr{m:List (Int×Value)}{x:Int}:m.lookup x=none↔x∉m.map (·.1):=by
 induction m with
 |nil=>simp[List.lookup]
 |cons p m ih=>
  simp only[List.lookup,List.map_cons,List.mem_cons,not_or];by_cases h:x=p.1
  ·subst h;simp
  ·simp only[show(x==p.1)=false by simp[h]];rw[ih];exact⟨λa=>⟨h,a⟩,λa=>a.2⟩
def bX{m:List (Int×Value)}{x y:Int}{v:Value}:(ig m x v).lookup y=if y=x then some v else m.lookup y:=by
 unfold ig;split
 ·next hs=>
  induction m with
  |nil=>simp[List.lookup]at hs
  |cons p m ih=>
   simp only[List.map_cons,List.lookup];by_cases hp:p.1=x
   ·rw[if_pos hp];by_cases hy:y=x
    ·subst hy;simp
    ·rw[if_neg hy];have e1:(y==x)=false:=by simp[hy]
     have e2:(y==p.1)=false:=by simp[hp,hy]
     simp only[e1,e2];clear ih hs
     induction m with
     |nil=>rfl
     |cons r m ih2=>
      simp only[List.map_cons,List.lookup];by_cases hr:r.1=x
      ·rw[if_pos hr];have e3:(y==r.1)=false:=by simp[hr,hy]
       simp only[e1,e3];exact ih2
      ·rw[if_neg hr];cases y==r.1
       ·exact ih2
       ·rfl
   ·rw[if_neg hp]
    have hs':(m.lookup x).isSome:=by simp only[List.lookup,show(x==p.1)=false by simp[Ne.symm hp]]at hs;exact hs
    by_cases hy:y=p.1
    ·subst hy;simp[hp]
    ·have e1:(y==p.1)=false:=by simp[hy]
     simp only[e1];exact ih hs'
 ·next hs=>
  have hn:m.lookup x=none:=by
   cases hh:m.lookup x with
   |none=>rfl
   |some v=>rw[hh]at hs;exact absurd rfl hs
  rw[pW];by_cases hy:y=x
  ·subst hy;rw[hn,if_pos rfl];simp[List.lookup]
  ·rw[if_neg hy];simp[List.lookup,show(y==x)=false by simp[hy]]
def mY{m:List (Int×Value)}{x y:Int}:(ll m x).lookup y=if y=x then none else m.lookup y:=by
 unfold ll
 induction m with
 |nil=>simp[List.lookup]
 |cons p m ih=>
  by_cases hp:p.1=x
  ·rw[List.filter_cons_of_neg (by simp[hp]),ih];by_cases hy:y=x
   ·rw[if_pos hy,if_pos hy]
   ·rw[if_neg hy,if_neg hy];simp[List.lookup,show(y==p.1)=false by simp[hp,hy]]
  ·rw[List.filter_cons_of_pos (by simp[hp])];simp only[List.lookup];by_cases hy:y=p.1
   ·subst hy;simp[hp]
   ·simp only[show(y==p.1)=false by simp[hy]];exact ih
def CD{m1 m2:List (Int×Value)}{x:Int}{v v':Value}(h1: ∀p∈m1,p.1≠x)(h2: ∀p∈m2,p.1≠x):(m1++(x,v)::m2).map (λp=>if p.1=x then(x,v')else p)=m1++(x,v')::m2:=by
 have e: ∀l:List (Int×Value),(∀p∈l,p.1≠x)->l.map (λp=>if p.1=x then(x,v')else p)=l:=by
  intro l hl
  conv=>rhs;rw[<-List.map_id l]
  apply List.map_congr_left;intro p hp;rw[if_neg (hl p hp)]
  rfl
 rw[List.map_append,List.map_cons,if_pos rfl,e m1 h1,e m2 h2]
def ya{m1 m2:List (Int×Value)}{x:Int}{v:Value}(h:((m1++(x,v)::m2).map (·.1)).Nodup):(∀p∈m1,p.1≠x)/\ ∀p∈m2,p.1≠x:=by rw[List.map_append,List.map_cons]at h;obtain⟨h1,h2,h3⟩:=List.nodup_append.1 h;refine⟨λp hp e=>h3 p.1 (List.mem_map.2 ⟨p,hp,rfl⟩) x ak e,λp hp e=> ?_⟩;exact(List.nodup_cons.1 h2).1 (List.mem_map.2 ⟨p,hp,e⟩)
def jE{h:aH}{b:Nat}{k:IntKind}{m:List (Int×Value)}{x:Int}(H:bO h b k m):
  ∃es cl,mp h b=some (es,cl)/\((Instr.findNow (.int k) (.int k x) es.toList 0=some none/\m.lookup x=none/\bO (h.setIfInBounds b (.map es cl)) b k (ll m x)/\
    (∀v,bO (h.setIfInBounds b (.map (es.push {key:= .int k x,val:=v,born:=cl}) (cl+1))) b k (ig m x v)))\/
   ∃j v,Instr.findNow (.int k) (.int k x) es.toList 0=some (some (j,v))/\m.lookup x=some v/\Instr.sameBits 10000 (((es[j]?).map (·.key)).getD (.int k x)) (.int k x)=true/\
    bO (h.setIfInBounds b (.map (es.eraseIdxIfInBounds j) cl)) b k (ll m x)/\(∃e,es[j]? =some e/\e.key= .int k x/\e.val=v/\ ∀i e',es[i]? =some e'->e'.key= .int k x->i=j)/\
    ∀(g:MapEntry->MapEntry) v',(∀e,es[j]? =some e->(g e).key= .int k x/\(g e).val=v'/\(g e).born=e.born)->bO (h.setIfInBounds b (.map (es.modify j g) cl)) b k (ig m x v')):=by
 obtain⟨es,cl,h1,h2,h3,h4,h5⟩:=H;refine⟨es,cl,h1,?_⟩;rcases jh (x:=x) es.toList m 0 h2 with⟨a,c,c'⟩|⟨j,v,m1,m2,a,c,d,e,e'⟩
 ·refine Or.inl ⟨a,c,⟨es,cl,lR h1 _ _,?_,?_,h4,h5⟩,λv=>⟨_,_,lR h1 _ _,?_,?_,?_,?_⟩⟩
  ·rw[show ll m x=m from List.filter_eq_self.2 λp hp=>by simp[c' p hp]];exact h2
  ·rw[show ll m x=m from List.filter_eq_self.2 λp hp=>by simp[c' p hp]];exact h3
  ·unfold ig;rw[if_neg (by simp[c])];simp[h2]
  ·rw[qP,if_neg (by simp[c])];refine List.nodup_append.2 ⟨h3,ak,λy hy z hz=> ?_⟩;simp at hz;subst hz;intro e;subst e;exact cr.1 c hy
  ·simp only[Array.toList_push,List.map_append];refine List.nodup_append.2 ⟨h4,ak,λy hy z hz=> ?_⟩;simp at hz;subst hz;obtain⟨e0,he0,rfl⟩:=List.mem_map.1 hy;have:=h5 e0 he0;omega
  ·intro e0 he0;simp only[Array.toList_push,List.mem_append,List.mem_singleton]at he0;rcases he0 with he0|rfl
   ·have:=h5 e0 he0;omega
   ·exact Nat.lt_succ_self _
 ·subst c;obtain⟨n1,n2⟩:=ya h3;rw[Nat.zero_add]at a
  have hjl:j<es.size:=by have:=congrArg List.length h2;simp at this;omega
  have hget:es.toList.map (λe=>(e.key,e.val))=m1.map (λp=>(Value.int k p.1,p.2))++(Value.int k x,v)::m2.map (λp=>(Value.int k p.1,p.2)):=by rw[h2];simp
  have hj5:(es.toList.map (λe=>(e.key,e.val)))[j]? =some (Value.int k x,v):=by rw[hget,List.getElem?_append_right (by simp[d])];simp[d]
  obtain⟨e0,he0,hk0,hv0⟩: ∃e0,es[j]? =some e0/\e0.key= .int k x/\e0.val=v:=by
   rw[List.getElem?_map]at hj5;cases hh:es[j]? with
   |none=>simp[hh]at hj5
   |some e0=>
    simp[hh]at hj5;exact⟨e0,rfl,hj5.1,hj5.2⟩
  have huniq: ∀i e',es[i]? =some e'->e'.key= .int k x->i=j:=by
   intro i e' hi hk;have h6:=congrArg (λl=>l[i]?) hget;simp only[List.getElem?_map]at h6;rw[show es.toList[i]? =some e' by rw[<-hi];simp]at h6;by_cases hlt:i<j
   ·rw[List.getElem?_append_left (by simp;omega),List.getElem?_map]at h6;cases hm:m1[i]? with
    |none=>simp[hm]at h6
    |some p=>
     simp[hm,hk]at h6;exact absurd h6.1.symm (n1 p (List.mem_of_getElem? hm))
   ·by_cases hgt:j<i
    ·rw[List.getElem?_append_right (by simp;omega)]at h6;obtain⟨r,hr⟩: ∃r,i=j+1+r:=⟨i-j-1,ah⟩;subst hr;simp only[List.length_map,d]at h6;rw[show j+1+r-j=r+1 by omega,List.getElem?_cons_succ,List.getElem?_map]at h6;cases hm:m2[r]? with
     |none=>simp[hm]at h6
     |some p=>
      simp[hm,hk]at h6;exact absurd h6.1.symm (n2 p (List.mem_of_getElem? hm))
    ·omega
  refine Or.inr ⟨j,v,a,e,?_,⟨_,_,lR h1 _ _,?_,?_,?_,?_⟩,⟨e0,he0,hk0,hv0,huniq⟩,λg v' hg=>⟨_,_,lR h1 _ _,?_,?_,?_,?_⟩⟩
  ·rw[he0];simp[Instr.sameBits,hk0]
  ·have hd:ll (m1++(x,v)::m2) x=m1++m2:=by
    unfold ll;rw[List.filter_append,List.filter_cons_of_neg ak,List.filter_eq_self.2 (λp hp=>by simp[n1 p hp]),List.filter_eq_self.2 (λp hp=>by simp[n2 p hp])]
   rw[hd];simp only[Array.eraseIdxIfInBounds,hjl,dif_pos,Array.toList_eraseIdx];rw[List.eraseIdx_eq_take_drop_succ,List.map_append,List.map_take,List.map_drop,hget];have l1:(m1.map (λp=>(Value.int k p.1,p.2))).length=j:=by simp[d]
   rw[<-l1,List.take_left,List.drop_append,List.drop_eq_nil_of_le ah];simp
  ·have:=h3.sublist (l₁:=(ll (m1++(x,v)::m2) x).map (·.1)) (List.Sublist.map _ List.filter_sublist);exact this
  ·simp only[Array.eraseIdxIfInBounds,hjl,dif_pos,Array.toList_eraseIdx];exact h4.sublist (List.Sublist.map _ (List.eraseIdx_sublist _ _))
  ·simp only[Array.eraseIdxIfInBounds,hjl,dif_pos,Array.toList_eraseIdx];exact λe1 he1=>h5 e1 ((List.eraseIdx_sublist _ _).subset he1)
  ·unfold ig;rw[if_pos (by simp[e]),CD n1 n2];rw[Array.toList_modify];apply List.ext_getElem?;intro i;rw[List.getElem?_map,List.getElem?_modify];have h6:=congrArg (λl=>l[i]?) hget;simp only[List.getElem?_map]at h6;by_cases hi:j=i
   ·subst hi;simp only[if_true];rw[show es.toList[j]? =some e0 by rw[<-he0];simp];obtain⟨g1,g2,-⟩:=hg e0 he0;rw[List.map_append,List.map_cons,List.getElem?_append_right (by simp[d])];simp[d,g1,g2]
   ·simp only[hi,if_false];rw[List.map_append,List.map_cons];rw[show((λa:MapEntry=>a)<$>es.toList[i]?)=es.toList[i]? by cases es.toList[i]? <;>rfl];rw[h6];by_cases hlt:i<j
    ·rw[List.getElem?_append_left (by simp;omega),List.getElem?_append_left (by simp;omega)]
    ·rw[List.getElem?_append_right (by simp;omega),List.getElem?_append_right (by simp;omega)];obtain⟨r,hr⟩: ∃r,i=j+1+r:=⟨i-j-1,ah⟩;subst hr;simp only[List.length_map,d];rw[show j+1+r-j=r+1 by omega]
     rfl
  ·rw[qP,if_pos (by simp[e])];exact h3
  ·rw[show(es.modify j g).toList.map (·.born)=es.toList.map (·.born)from ?_]
   ·exact h4
   ·rw[Array.toList_modify];apply List.ext_getElem?;intro i;rw[List.getElem?_map,List.getElem?_modify,List.getElem?_map];by_cases hi:j=i
    ·subst hi;rw[show es.toList[j]? =some e0 by rw[<-he0];simp];simp[(hg e0 he0).2.2]
    ·simp only[hi,if_false];cases es.toList[i]? <;>rfl
  ·intro e1 he1;rw[Array.toList_modify]at he1;obtain⟨i,hi⟩:=List.mem_iff_getElem?.1 he1;rw[List.getElem?_modify]at hi;by_cases hij:j=i
   ·subst hij;rw[show es.toList[j]? =some e0 by rw[<-he0];simp]at hi;simp at hi;subst hi;rw[(hg e0 he0).2.2];exact h5 e0 (List.mem_of_getElem? (i:=j) (by rw[<-he0];simp))
   ·simp only[hij,if_false]at hi
    have:es.toList[i]? =some e1:=by
     cases hh:es.toList[i]? with
     |none=>rw[hh]at hi;cases hi
     |some e2=>rw[hh]at hi;exact hi
    exact h5 e1 (List.mem_of_getElem? this)
def ft{h:aH}{b:Nat}{k:IntKind}{m:List (Int×Value)}{x:Int}{v:Value}{K:aH->Prop}(H:bO h b k m)(hK: ∀h',bO h' b k (ig m x v)->aM [b] h h'->h'.size=h.size->K h'):lO h (some b) k k x v K:=by
 obtain⟨es,cl,h1,h2⟩:=jE (x:=x) H;refine⟨es,cl,h1,?_⟩;rcases h2 with⟨a,c,d,e⟩|⟨j,v0,a,c,d,e,f,g⟩
 ·exact⟨_,a,hK _ (e v) (aM.map h1 _ _) ak⟩
 ·exact⟨_,a,d,hK _ (g _ v λe _=>⟨rfl,rfl,rfl⟩) (aM.map h1 _ _) ak⟩
def sd{h:aH}{b:Nat}{k:IntKind}{m:List (Int×Value)}{x:Int}{K:aH->Prop}(H:bO h b k m)(hK: ∀h',bO h' b k (ll m x)->aM [b] h h'->h'.size=h.size->K h'):xo h (some b) k k x K:=by
 obtain⟨es,cl,h1,h2⟩:=jE (x:=x) H;refine⟨es,cl,h1,?_⟩;rcases h2 with⟨a,c,d,e⟩|⟨j,v0,a,c,d,e,f,g⟩
 ·exact⟨_,a,hK _ d (aM.map h1 _ _) ak⟩
 ·exact⟨_,a,hK _ e (aM.map h1 _ _) ak⟩
def DR(h:aH)(b:Nat)(k:IntKind)(x st:Int):Prop:= ∃(es:Array MapEntry) (cl i:Nat) (e:MapEntry),mp h b=some (es,cl)/\es[i]? =some e/\e.key= .int k x/\(e.born:Int)=st
def Db{h:aH}{b:Nat}{k:IntKind}{m:List (Int×Value)}{x:Int}{z:Value}{K:Value->Int->aH->Prop}(H:bO h b k m)
  (hK: ∀v st h',v=(m.lookup x).getD z->bO h' b k (ig m x v)->DR h' b k x st->aM [b] h h'->h'.size=h.size->K v st h'):zW h (some b) k k x z K:=by
 obtain⟨es,cl,h1,h2⟩:=jE (x:=x) H;refine⟨es,cl,h1,?_⟩;rcases h2 with⟨a,c,d,e⟩|⟨j,v0,a,c,d,e,⟨e0,f1,f2,f3,f4⟩,g⟩
 ·refine⟨_,a,hK _ _ _ (by rw[c];rfl) (e z) ⟨_,_,es.size,{key:= .int k x,val:=z,born:=cl},lR h1 _ _,ak,rfl,rfl⟩ (aM.map h1 _ _) ak⟩
 ·refine⟨_,a,d,hK _ _ _ (by rw[c];rfl) (g _ v0 λe he=> ?_) ⟨_,_,j,{e0 with key:= .int k x},lR h1 _ _,by simp[Array.getElem?_modify,f1],rfl,?_⟩ (aM.map h1 _ _) ak⟩
  ·rw[f1]at he;injection he with he;subst he;exact⟨rfl,f3,rfl⟩
  ·simp[f1]
def Dq{h:aH}{b:Nat}{k:IntKind}{m:List (Int×Value)}{x st:Int}{v:Value}{K:aH->Prop}(H:bO h b k m)(S:DR h b k x st)
  (hK: ∀h',bO h' b k (ig m x v)->aM [b] h h'->h'.size=h.size->K h'):zk h (some b) st v K:=by
 obtain⟨es',cl',i,ei,s1,s2,s3,s4⟩:=S;have H':=H;obtain⟨es,cl,h1,h2⟩:=jE (x:=x) H;rw[h1]at s1;injection s1 with s1;injection s1 with s1 s1';subst s1 s1';refine⟨es,cl,h1,?_⟩;rcases h2 with⟨a,c,d,e⟩|⟨j,v0,a,c,d,e,⟨e0,f1,f2,f3,f4⟩,g⟩
 ·obtain⟨es2,cl2,q1,q2,q3,q4,q5⟩:=H';rw[h1]at q1;injection q1 with q1;injection q1 with q1 q1';subst q1 q1';exfalso
  have h6:(es.toList.map (λe=>(e.key,e.val)))[i]? =some (Value.int k x,ei.val):=by rw[List.getElem?_map,show es.toList[i]? =some ei by rw[<-s2];simp];simp[s3]
  rw[q2,List.getElem?_map]at h6;cases hm:m[i]? with
  |none=>simp[hm]at h6
  |some p=>
   simp[hm]at h6;exact cr.1 c (List.mem_map.2 ⟨p,List.mem_of_getElem? hm,h6.1⟩)
 ·have hij:=f4 i ei s2 s3;subst hij;obtain⟨es2,cl2,q1,q2,q3,q4,q5⟩:=H';rw[h1]at q1;injection q1 with q1;injection q1 with q1 q1';subst q1 q1';have hlt:i<es.size:=(Array.getElem?_eq_some_iff.1 s2).1;refine⟨i,?_,hK _ (g _ v λe he=> ?_) (aM.map h1 _ _) ak⟩
  ·rw[Array.findIdx?_eq_some_iff_getElem];refine⟨hlt,?_,λj hji=> ?_⟩
   ·have:es[i]=ei:=(Array.getElem?_eq_some_iff.1 s2).2;rw[this];simp[s4]
   ·have hi':es[i]=ei:=(Array.getElem?_eq_some_iff.1 s2).2;intro hb;have hb:(es[j].born:Int)=st:=by simpa using hb
    have:es[j].born=es[i].born:=by rw[hi'];omega
    have hnd:=List.nodup_iff_pairwise_ne.1 q4;rw[List.pairwise_map,List.pairwise_iff_getElem]at hnd;exact hnd j i (by simp;omega) (by simpa using hlt) hji (by simpa using this)
  ·rw[s2]at he;injection he with he;subst he;exact⟨s3,rfl,rfl⟩
def bO.empty{h:aH}{b:Nat}{k:IntKind}(h1:mp h b=some (#[],0)):bO h b k []:=⟨#[],0,h1,rfl,ak,ak,ak⟩
end
section
abbrev Nd:=Nat×Nat×Nat
def kf(x:Nd):Nat:=tT x.1 x.2.1 x.2.2
def kA(x:Nd):Prop:=x.1<256/\x.2.1<2^28/\x.2.2<2^28/\x.2.1≠x.2.2
def tJ{x:Nd}(h:kA x):kf x≠0:=by obtain⟨a,b,c,d⟩:=h;unfold kf tT;omega
def vT{x y:Nd}(h:kA x)(g:kA y)(e:kf x=kf y):x=y:=by obtain⟨a,b,c⟩:=x;obtain⟨a',b',c'⟩:=y;obtain⟨e1,e2,e3⟩:=Av h.2.1 h.2.2.1 g.2.1 g.2.2.1 e;dsimp only at e1 e2 e3;rw[e1,e2,e3]
def nd(N:ay)(i:Nat):Option Nd:=(N[i]?).join
def be(N:ay):Nat:=N.countP (·.isSome)
def cO{N:ay}{i:Nat}{x:Nd}:nd N i=some x↔N[i]? =some (some x):=by
 unfold nd;cases h:N[i]? with
 |none=>simp
 |some o=>simp
def iW{N:ay}{i:Nat}{x:Nd}(h:nd N i=some x):i<N.length:=(List.getElem?_eq_some_iff.1 (cO.1 h)).1
def py{N:ay}{i:Nat}(h:N.length<=i):nd N i=none:=by
 unfold nd;rw[List.getElem?_eq_none h]
 rfl
def vj{N:ay}{o:Option Nd}(k:Nat):nd (N++[o]) k=if k=N.length then o else nd N k:=by
 unfold nd;by_cases h:k<N.length
 ·rw[List.getElem?_append_left h,if_neg ah]
 ·by_cases e:k=N.length
  ·subst e;rw[if_pos rfl];simp
  ·rw[if_neg e,List.getElem?_eq_none (by simp;omega),List.getElem?_eq_none ah]
def dX{N:ay}{i:Nat}{o:Option Nd}(hi:i<N.length)(k:Nat):nd (N.set i o) k=if k=i then o else nd N k:=by
 unfold nd;rw[List.getElem?_set];by_cases e:i=k
 ·subst e;rw[if_pos rfl,if_pos hi,if_pos rfl]
  rfl
 ·rw[if_neg e,if_neg (Ne.symm e)]
def nR(N:ay)(o:Option Nd):be (N++[o])=be N+if o.isSome then 1 else 0:=by unfold be;rw[List.countP_append,List.countP_singleton]
def lE: ∀N:ay,be N<=N.length:=λN=>List.countP_le_length
def oD{x:Nd}: ∀{N:ay} {i:Nat},N[i]? =some none->be (N.set i (some x))=be N+1
 | [],i,h=>by simp at h
 |o::N,0,h=>by simp at h;subst h;simp[be]
 |o::N,i+1,h=>by have:=oD (x:=x) (N:=N) (i:=i) (by simpa using h);unfold be at this ⊢;rw[List.set_cons_succ,List.countP_cons,List.countP_cons,this];omega
def qj{x y:Nd}: ∀{N:ay} {i:Nat},N[i]? =some (some y)->be (N.set i (some x))=be N
 | [],i,h=>by simp at h
 |o::N,0,h=>by simp at h;subst h;simp[be]
 |o::N,i+1,h=>by have:=qj (x:=x) (y:=y) (N:=N) (i:=i) (by simpa using h);unfold be at this ⊢;rw[List.set_cons_succ,List.countP_cons,List.countP_cons,this]
def sN{y:Nd}: ∀{N:ay} {i:Nat},N[i]? =some (some y)->be (N.set i none)+1=be N
 | [],i,h=>by simp at h
 |o::N,0,h=>by simp at h;subst h;simp[be]
 |o::N,i+1,h=>by have:=sN (y:=y) (N:=N) (i:=i) (by simpa using h);unfold be at this ⊢;rw[List.set_cons_succ,List.countP_cons,List.countP_cons,<-this];omega
structure mS(T:Nat)(cs:List Int)(mm:List (Int×Value))(N:ay):Prop where
 len:cs.length=T
 inv:jQ 0 T cs
 cells: ∀j,j<T->cell 0 cs j=0\/ ∃i x,nd N i=some x/\cell 0 cs j=(kf x:Int)/\mm.lookup (j:Int)=some (ap ((i+2:Nat):Int))
 all: ∀i x,nd N i=some x-> ∃j,j<T/\cell 0 cs j=(kf x:Int)
 cnt:cnt 0 cs T=be N
 ok: ∀i x,nd N i=some x->kA x
def mS.congr{T:Nat}{cs:List Int}{mm:List (Int×Value)}{N N':ay}(L:mS T cs mm N)(h: ∀k,nd N' k=nd N k)(hc:be N'=be N):mS T cs mm N':=
 ⟨L.len,L.inv,λj hj=>by
  rcases L.cells j hj with e|⟨i,x,e1,e2⟩
  ·exact .inl e
  ·exact .inr ⟨i,x,by rw[h];exact e1,e2⟩,λi x e=>L.all i x (by rw[<-h];exact e),by rw[hc];exact L.cnt,λi x e=>L.ok i x (by rw[<-h];exact e)⟩
def xd{cs:List Int}: ∀T,cnt 0 cs T<T-> ∃z,z<T/\cell 0 cs z=0:=λT h=>by
 by_cases e: ∃z,z<T/\cell 0 cs z=0
 ·exact e
 ·have:=BB T λi hi hz=>e ⟨i,hi,hz⟩;omega
def qI(N:ay)(k:Nat):Prop:= ∀i x,nd N i=some x->kf x≠k
def mS.absent{T:Nat}{cs:List Int}{mm:List (Int×Value)}{N:ay}(L:mS T cs mm N){k:Nat}(hk:k≠0)(hn:qI N k): ∀j,j<T->cell 0 cs j≠(k:Int):=λj hj e=>by
 rcases L.cells j hj with h|⟨i,x,h1,h2,_⟩
 ·omega
 ·exact hn i x h1 ah
set_option maxRecDepth 100000 in
def mS.put{T:Nat}{cs:List Int}{mm:List (Int×Value)}{N N':ay}{q:Nat}(L:mS T cs mm N){x:Nd}(hx:kA x){i:Nat}(hi:i<T)(hz:cell 0 cs i=0)(I:jQ 0 T (cs.set i (kf x)))
  (hq:nd N q=none) (hN: ∀k,nd N' k=if k=q then some x else nd N k) (hc:be N'=be N+1):
  mS T (cs.set i (kf x)) (ig mm (i:Int) (ap ((q+2:Nat):Int))) N':=by
 have hi':0+i<cs.length:=by have:=L.len;omega
 have cell': ∀j,cell 0 (cs.set i (kf x:Int)) j=if j=i then(kf x:Int)else cell 0 cs j:=λj=>by have:=i9 (base:=0) (cs:=cs) (i:=i) (j:=j) (v:=(kf x:Int)) hi';rw[Nat.zero_add]at this;exact this
 have kx:=tJ hx;refine⟨by rw[List.length_set];exact L.len,I,λj hj=> ?_,λk y hy=> ?_,?_,λk y hy=> ?_⟩
 ·rw[cell' j,bX];by_cases e:j=i
  ·subst e;rw[if_pos rfl,if_pos rfl];exact .inr ⟨q,x,by rw[hN,if_pos rfl],rfl,rfl⟩
  ·rw[if_neg e,if_neg ah];rcases L.cells j hj with h|⟨k,y,h1,h2,h3⟩
   ·exact .inl h
   ·refine .inr ⟨k,y,?_,h2,h3⟩;rw[hN,if_neg]
    ·exact h1
    ·intro e2;subst e2;rw[hq]at h1;cases h1
 ·rw[hN]at hy;split at hy
  ·injection hy with hy;subst hy;exact⟨i,hi,by rw[cell' i,if_pos rfl]⟩
  ·obtain⟨j,h1,h2⟩:=L.all k y hy;refine⟨j,h1,?_⟩;rw[cell' j,if_neg ?_]
   ·exact h2
   ·intro e;subst e;rw[hz]at h2;have:=tJ (L.ok k y hy);omega
 ·have:=Cu (base:=0) (cs:=cs) (i:=i) (v:=(kf x:Int)) ah hz hi' T;rw[Nat.zero_add,if_pos hi]at this;rw[this,L.cnt,hc]
 ·rw[hN]at hy;split at hy
  ·injection hy with hy;subst hy;exact hx
  ·exact L.ok k y hy
set_option maxRecDepth 100000 in
def uI{h:aH}{s t m mc sb T q:Nat}{S:List Value}{cs:List Int}{ops fails:Int}{mm:List (Int×Value)}{N N':ay}{x:Nd}{K:KK}(A:At h s S)
  (hp4:S[4]? =some (au (aw t))) (hp5:S[5]? =some (.map (some sb))) (ds:s∉[m,mc,sb])
  (Tb:dD h t m 0 T) (M:bu h m mc cs ops fails) (Mp:bO h sb .i64 mm) (hn2:T<1000000000) (d4:t∉[m,mc,sb]) (d7:m≠sb) (d8:mc≠sb) (bt:t<h.size) (bm:m<h.size) (bmc:mc<h.size)
  (L:mS T cs mm N) (hx:kA x) (hnew:qI N (kf x)) (hroom:be N<T) (hq:nd N q=none) (hN: ∀k,nd N' k=if k=q then some x else nd N k) (hc:be N'=be N+1)
  (hK: ∀h' cs' mm' ops' fails',At h' s S->dD h' t m 0 T->bu h' m mc cs' ops' fails'->bO h' sb .i64 mm'->mS T cs' mm' N'->aM [m,mc,sb] h h'->K aE h'):
  Cl 160 [au (aw s),ap ((q+2:Nat):Int),.agg #[aC,al (x.1:Int),ap (x.2.1:Int),ap (x.2.2:Int)]] h K:=by
 simp only[List.mem_cons,List.not_mem_nil,or_false,not_or]at d4 ds;refine F160.spec _ _ _ _ _ _ h K ?_;simp only[aL,Nat.zero_add];refine aV λh1 A1 O1 z1=> ?_;refine aI (by rw[At.rd A1];rfl) (aI (by rw[At.rd A1];rfl) (aI (by rw[At.rd A1];rfl) ?_));refine Eg hx.1 hx.2.1 hx.2.2.1 (aI rfl ?_);obtain⟨z,hz,hz0⟩:=xd (cs:=cs) T (by rw[L.cnt];exact hroom);have As:=A.only O1 ak
 refine Ds (t:=t) (by rw[At.rd As];exact hp4) (Tb.only O1 ak) (M.only O1 ak ak) ah hn2 L.len d4.1 d4.2.1 ah ah ah L.inv (by have:=tJ hx;unfold kf at this;omega)
  (L.absent (tJ hx) hnew) hz hz0 λh2 i o2 f2 hi hi0 T2 M2 I2 O2=>⟨_,_,rfl,?_⟩
 have As2:=As.only O2 (by simp;omega);refine⟨_,(by rw[At.rd As2];exact hp5),?_⟩;refine ft ((Mp.only O1 ak).only O2 (by simp;omega)) λh3 M3 O3 z3=> ?_;refine hK h3 _ _ _ _ (As2.only O3 (by simp;omega)) (T2.only O3 (by simp;omega)) (M2.only O3 (by simp;omega) (by simp;omega)) M3 (L.put hx hi hi0 I2 hq hN hc) ?_;exact(((aM.refl [m,mc,sb] h).trans O1 ak).trans O2 (by intro b hb _;simp at hb ⊢;omega)).trans O3 (by intro b hb _;simp at hb ⊢;omega)
end
section
variable {i j k l m n o p q r s t:Int}{a b c d:Addr}{u v:Nat}{x y:az}{h:aH}{K:KK}
def F108.T:bj:=⟨[(3,[3,13,14])],[(5,[[(0,[]),(1,[]),(2,[]),(3,[]),(4,[]),(5,[]),(6,[]),(7,[]),(8,[]),(10,[]),(11,[]),(9,[2,3,5,10,11]),(12,[]),(13,[])]])]⟩
section
variable (n:Nat)(d:Int)(b:Addr)(c a:Int)(h:aH)(K:KK)
def F108.wL3:Prop:=Lp Tryz.f108 F108.T [1,1,0,1,0] n [(3,(au b)),(13,(al c)),(14,(al a))] h K
def F108.sL3:F108.wL3 (n+1) b c a h K=(aK (a<c) ((0<=a/\a<8/\aW h (((b.add 1).add (a.toNat*1)).add 0) (al a) λd=>aF (au b)/\aF (al a)/\aF (al a)/\aF (au b)/\aF (au (b.add 9))/\0<=a/\a<8/\aW d (((b.add 9).add (a.toNat*1)).add 0) (al a) λd=>F108.wL3 n b c (ax (a+1)) d K)) (K (au b) h)):=by kernel_rfl
def F108.wk3:Prop:=(∃d,F108.wL3 d b c a h K)
def F108.spec(H:a9 h (.cells #[al (if 8<(if 1>d then 1 else d)then 8 else(if 1>d then 1 else d)),al 0,al 0,al 0,al 0,al 0,al 0,al 0,al 0,al 0,al 0,al 0,al 0,al 0,al 0,al 0,al 0] 189) λa b=>aQ .i64 (rd b ((aw a).add 0)) λc=>F108.wk3 (aw a) c 0 b K):Cl 108 [al d] h K:=cT F108.T Tryz.func108 H
end
def F48.T:bj:=⟨[],[(2,[[(0,[]),(1,[]),(2,[]),(3,[]),(4,[]),(5,[]),(6,[]),(7,[]),(8,[]),(9,[])]])]⟩
def F48.spec(H:aQ .i64 (rd h (a.add 0)) λb=>0<=b/\b<=b/\(8*b<=281474976710656)/\b<=9223372036854775807/\a9 h (.cells (madeCells #[al 0] (b.toNat*1)) 3) λc d=>aQ .i64 (rd d (a.add 0)) λe=>0<=e/\e<=8/\wP d 1 (some (aw c)) (b.toNat) (some (if 8=0 then(a.add 1)else Addr.add (a.add 1) (0*1))) (e.toNat-0) λ_ a=>K (.slice (some (aw c)) (b.toNat) (b.toNat)) a):Cl 48 [au a] h K:=cT F48.T Tryz.func48 H
def F104.spec(H:aQ .i64 (rd h (a.add 0)) λb=>aQ .i64 (rd h (a.add 1)) λc=>aQ .i64 (rd h (a.add 2)) λd=>aQ .i64 (rd h (a.add 3)) λe=>aQ .i64 (rd h (a.add 4)) λf=>aQ .i64 (rd h (a.add 5)) λg=>aQ .i64 (rd h (a.add 6)) λi=>aQ .i64 (rd h (a.add 7)) λj=>aQ .i64 (rd h (a.add 8)) λk=>aQ .i64 (rd h (a.add 9)) λl=>aQ .i64 (rd h (a.add 10)) λm=>aQ .i64 (rd h (a.add 11)) λn=>aQ .i64 (rd h (a.add 12)) λo=>aQ .i64 (rd h (a.add 13)) λp=>aQ .i64 (rd h (a.add 14)) λq=>aQ .i64 (rd h (a.add 15)) λr=>aQ .i64 (rd h (a.add 16)) λa=>a9 h (.cells (Array.replicate 17 ((al 0):Value)) 189) λs t=>aW t ((aw s).add 0) (al b) λb=>aW b ((aw s).add 1) (al c) λb=>aW b ((aw s).add 2) (al d) λb=>aW b ((aw s).add 3) (al e) λb=>aW b ((aw s).add 4) (al f) λb=>aW b ((aw s).add 5) (al g) λb=>aW b ((aw s).add 6) (al i) λb=>aW b ((aw s).add 7) (al j) λb=>aW b ((aw s).add 8) (al k) λb=>aW b ((aw s).add 9) (al l) λb=>aW b ((aw s).add 10) (al m) λb=>aW b ((aw s).add 11) (al n) λb=>aW b ((aw s).add 12) (al o) λb=>aW b ((aw s).add 13) (al p) λb=>aW b ((aw s).add 14) (al q) λb=>aW b ((aw s).add 15) (al r) λb=>aW b ((aw s).add 16) (al a) λa=>K (au (aw s)) a):Cl 104 [au a] h K:=cN Tryz.func104 H
def F272.spec(H:aK (i<0) (K (al (-1)) h) (aQ .i64 (rd h (a.add 0)) λb=>aK (i>=b) (K (al (-1)) h) ((0<=i/\i<8/\aQ .i64 (rd h ((a.add 1).add (i.toNat*1))) λa=>K (al a) h)))):Cl 272 [au a,al i] h K:=cN Tryz.func272 H
def F119.spec(H:aQ .i64 (rd h (a.add 0)) λa=>K (al a) h):Cl 119 [au a] h K:=cN Tryz.func119 H
end
section
def L8(f:Nat->Nat):List Value:=(List.range 8).map λi=>al (f i:Int)
def upd(f:Nat->Nat)(k v:Nat):Nat->Nat:=λi=>if i=k then v else f i
def fG(f:Nat->Nat):(L8 f).length=8:=by simp[L8]
def rY{f:Nat->Nat}{i:Nat}(hi:i<8):(L8 f)[i]? =some (al (f i:Int)):=by simp[L8,hi]
def yz(f:Nat->Nat)(k v:Nat):(L8 f).set k (al (v:Int))=L8 (upd f k v):=by
 apply List.ext_getElem?;intro i;by_cases h8:i<8
 ·rw[rY h8,List.getElem?_set];by_cases h:k=i
  ·subst h;rw[if_pos rfl,if_pos (by rw[fG];exact h8)];simp[upd]
  ·rw[if_neg h,rY h8];simp[upd,Ne.symm h]
 ·rw[List.getElem?_eq_none (by simp[fG];omega),List.getElem?_eq_none (by simp[fG];omega)]
def cx(h:aH)(b n:Nat)(f g:Nat->Nat):Prop:=At h b (al (n:Int)::(L8 f++L8 g))
def cx.only{S:List Nat}{h h':aH}{b n:Nat}{f g:Nat->Nat}(H:cx h b n f g)(O:aM S h h')(hb:b∉S):cx h' b n f g:=At.only H O hb
def cx.rd0{h:aH}{b n:Nat}{f g:Nat->Nat}(H:cx h b n f g):rd h (aw b)=some (al n):=by rw[At.rd H];rfl
def cx.rdv{h:aH}{b n:Nat}{f g:Nat->Nat}(H:cx h b n f g){i:Nat}(hi:i<8):rd h ⟨b,1+i,none⟩=some (al (f i:Int)):=by rw[At.rd H,Nat.add_comm,List.getElem?_cons_succ,List.getElem?_append_left (by rw[fG];exact hi),rY hi]
def cx.rdl{h:aH}{b n:Nat}{f g:Nat->Nat}(H:cx h b n f g){i:Nat}(hi:i<8):rd h ⟨b,9+i,none⟩=some (al (g i:Int)):=by rw[At.rd H,show 9+i=(8+i)+1 by omega,List.getElem?_cons_succ,List.getElem?_append_right (by rw[fG];omega),fG,show 8+i-8=i by omega,rY hi]
def cx.stv{h:aH}{b n:Nat}{f g:Nat->Nat}{i v:Nat}{K:aH->Prop}(H:cx h b n f g)(hi:i<8)
  (hK: ∀h',cx h' b n (upd f i v) g->aM [b] h h'->K h'):aW h ⟨b,1+i,none⟩ (al (v:Int)) K:=by
 refine aS H (by simp[fG];omega) rfl λh' A O _=>hK h' ?_ O;rw[Nat.add_comm,List.set_cons_succ,List.set_append_left _ _ (by rw[fG];exact hi),yz]at A;exact A
def cx.stl{h:aH}{b n:Nat}{f g:Nat->Nat}{i v:Nat}{K:aH->Prop}(H:cx h b n f g)(hi:i<8)
  (hK: ∀h',cx h' b n f (upd g i v)->aM [b] h h'->K h'):aW h ⟨b,9+i,none⟩ (al (v:Int)) K:=by
 refine aS H (by simp[fG];omega) rfl λh' A O _=>hK h' ?_ O;rw[show 9+i=(8+i)+1 by omega,List.set_cons_succ,List.set_append_right _ _ (by rw[fG];omega),fG,show 8+i-8=i by omega,yz]at A;exact A
def Cc{h:aH}{b n:Nat}{f g:Nat->Nat}{k:Nat}{K:KK}(H:cx h b n f g)(hn:n<=8)(hk:k<n)(hK:K (al (f k:Int)) h):
  Cl 272 [au (aw b),al (k:Int)] h K:=by
 apply F272.spec;simp only[aL,Nat.zero_add,Nat.mul_one,Int.toNat_natCast];rw[decide_eq_false ah,aJ];refine aI H.rd0 ?_;rw[decide_eq_false ah,aJ];exact⟨ah,ah,aI (H.rdv ah) hK⟩
def Cp{h:aH}{b n:Nat}{f g:Nat->Nat}{K:KK}(H:cx h b n f g)(hK:K (al n) h):
  Cl 119 [au (aw b)] h K:=by
 apply F119.spec;simp only[aL,Nat.zero_add];exact aI H.rd0 hK
def sw(k:Nat)(f:Nat->Nat):Nat->Nat:=upd (upd f k (f (k+1))) (k+1) (f k)
def so(k:Nat)(f g:Nat->Nat):Nat->Nat:=upd (upd g (f (k+1)) k) (f k) (k+1)
def fill(k:Nat):Nat->Nat:=λi=>if i<k then i else 0
def Bp{k:Nat}:upd (fill k) k k=fill (k+1):=by
 funext i;unfold upd fill;split
 ·next h=>subst h;simp
 ·split
  ·rw[if_pos ah]
  ·rw[if_neg ah]
def Ad{h0:aH}{b n:Nat}(hb:h0.size<=b)(hn:n<=8){K:KK}(hK: ∀h',cx h' b n (fill n) (fill n)->aM [] h0 h'->K (au (aw b)) h'):
  ∀(m k:Nat) (h:aH),n-k<m->k<=n->cx h b n (fill k) (fill k)->aM [] h0 h->F108.wL3 m (aw b) (n:Int) (k:Int) h K:=by
 intro m
 induction m with
 |zero=>intro k h hm;omega
 |succ m ih=>
  intro k h hm hk H O;rw[F108.sL3];by_cases hlt:k<n
  ·rw[decide_eq_true ah,aO];simp only[aL,Nat.zero_add,Nat.mul_one,Nat.add_zero,Int.toNat_natCast];refine⟨ah,ah,H.stv ah λh1 A1 O1=>⟨trivial,trivial,trivial,trivial,trivial,ah,ah,A1.stl ah λh2 A2 O2=> ?_⟩⟩;rw[show ax ((k:Int)+1)=((k+1:Nat):Int) by rw[wrap_i64 ah ah];simp];rw[Bp]at A2;exact ih (k+1) h2 ah ah A2 (O.trans (O1.trans (T:=[b]) O2 ak) λx hx hl=>absurd (show x=b by simpa using hx) ah)
  ·rw[decide_eq_false ah,aJ];obtain rfl:k=n:=ah;exact hK h H O
def BJ{h:aH}{n:Nat}(h1:1<=n)(h8:n<=8){K:KK}(hK: ∀b h',cx h' b n (fill n) (fill n)->h.size<=b->aM [] h h'->K (au (aw b)) h'):
  Cl 108 [al (n:Int)] h K:=by
 apply F108.spec;rw[if_neg (by omega: ¬(1:Int)>(n:Int)),if_neg (by omega: ¬(8:Int)<(n:Int))];refine aV λh2 A2 O2 z2=> ?_;have A2:cx h2 h.size n (fill 0) (fill 0):=A2;simp only[aL,Nat.zero_add];refine aI A2.rd0 ?_;unfold F108.wk3;exact⟨n+1,Ad (Nat.le_refl _) h8 (λh' H O=>hK h.size h' H (Nat.le_refl _) O) (n+1) 0 h2 ah ah A2 O2⟩
def Cw{b:Nat}{K:aH->Prop}: ∀(new:List Value) (i:Nat) (c:List Value) (h:aH),At h b c->i+new.length<=c.length->(∀v∈new,v.oneCell'=true)->
  (∀h',At h' b (c.take i++new++c.drop (i+new.length))->aM [b] h h'->K h')->pd (aw b) i new h K:=by
 intro new
 induction new with
 |nil=>
  intro i c h A hi hv hK;unfold pd;exact hK h (by simpa using A) (aM.refl _ _)
 |cons v vs ih=>
  intro i c h A hi hv hK;simp only[List.length_cons]at hi;unfold pd;rw[aL,Nat.zero_add];refine aS A ah (hv v ak) λh1 A1 O1 _=>ih (i+1) _ h1 A1 (by simp;omega) (λx hx=>hv x (by simp[hx])) λh2 A2 O2=>hK h2 ?_ (O1.trans O2 ak)
  have e:(c.set i v).take (i+1)=c.take i++[v]:=by rw[List.take_set,List.take_succ_eq_append_getElem ah,List.set_append_right _ _ (by simp;omega)];simp[List.length_take,Nat.min_eq_left (by omega:i<=c.length)]
  have e2:(c.set i v).drop (i+1+vs.length)=c.drop (i+(vs.length+1)):=by
   rw[List.drop_set_of_lt ah]
   congr 1
   omega
  rw[e,e2]at A2;simpa using A2
def CC{h:aH}{b n:Nat}{f g:Nat->Nat}{K:KK}(H:cx h b n f g)(hn:n<=8)
  (hK: ∀x h',At h' x (((List.range n).map λi=>(f i:Int)).map (.int .i64))->h.size<=x->aM [] h h'->K (.slice (some (aw x)) n n) h'):
  Cl 48 [au (aw b)] h K:=by
 apply F48.spec;simp only[aL,Nat.zero_add,Nat.mul_one];refine aI H.rd0 ⟨ah,ah,ah,ah,aV λh1 A1 O1 z1=> ?_⟩;have H1:=H.only O1 ak;refine aI H1.rd0 ⟨ah,ah,?_⟩;rw[if_neg (by decide: ¬(8=0)),Int.toNat_natCast,Nat.sub_zero,toList_madeCells_one]at*
 unfold wP;rw[show Nat.min n n=n from Nat.min_self n];refine⟨((List.range n).map λi=>(f i:Int)).map (.int .i64),ak,?_,?_⟩
 ·intro j v hj
  have hjn:j<n:=by have:=(List.getElem?_eq_some_iff.1 hj).1;simpa using this
  rw[aL,H1.rdv ah,<-hj];simp[hjn]
 ·refine Cw _ 0 _ h1 A1 ak (by simp[Value.oneCell']) λh2 A2 O2=>hK h.size h2 ?_ (Nat.le_refl _) ?_
  ·simpa using A2
  ·exact O1.trans O2 λx hx hl=>absurd (show x=h.size by simpa using hx) ah
end
section
variable {i j k l m n o p q r s t:Int}{a b c d:Addr}{u v:Nat}{x y:az}{h:aH}{K:KK}
def F109.spec(H:aK (i<0) (K (.tuple #[aA none,al 61]) h) (aK (j<1) (K (.tuple #[aA none,al 61]) h) (aK (j>1024) (K (.tuple #[aA none,al 61]) h) (Cl 132 [au a] h λb c=>aQ .i64 (some b) λb=>aK (i>b) (K (.tuple #[aA none,al 61]) c) (Cl 110 [al j] c λb c=>aQ .i64 (some b) λb=>Cl 132 [au a] c λc d=>aQ .i64 (some c) λc=>aK (b>(ax (c-i))) (K (.tuple #[aA none,al 61]) d) (a9 d (.cells #[au a,al i,al j] 247) λa b=>K (.tuple #[au (aw a),al 0]) b)))))):Cl 109 [au a,al i,al j] h K:=cN Tryz.func109 H
def F227.T:bj:=⟨[],[(1,[[(0,[]),(1,[]),(2,[]),(3,[]),(4,[]),(5,[]),(7,[]),(6,[0,1,2,3,7]),(8,[]),(9,[]),(10,[])]])]⟩
def F227.spec(H:ba (rd h (a.add 0)) λb=>Cl 274 [au a,aq i] h λc d=>aQ .i64 (some c) λc=>aF (au a)/\aF (au a)/\aF (au (a.add 0))/\ba (rd d (a.add 0)) λa=>aG (aA a) (aA b)/\aF (aq i)/\a9 d (.cells #[aA b,al c,aq i,aq 0,aq 0,.nilFunc,aB,aB,aq 0] 345) λa b=>aW b (((aw a).add 5).add 0) (.func (.func 275) #[au (aw a)] #[]) λb=>K (au (aw a)) b):Cl 227 [au a,aq i] h K:=cT F227.T Tryz.func227 H
def F252.T:bj:=⟨[],[(1,[[(0,[]),(1,[]),(2,[]),(3,[]),(4,[]),(5,[]),(7,[]),(8,[]),(6,[0,1,2,3,7,8]),(9,[]),(10,[]),(11,[])]])]⟩
def F252.spec(H:ba (rd h (a.add 0)) λb=>Cl 274 [au a,aq i] h λc d=>aQ .i64 (some c) λc=>aF (au a)/\aF (au a)/\aF (au (a.add 0))/\ba (rd d (a.add 0)) λa=>aG (aA a) (aA b)/\aF (aq i)/\aF (aq j)/\a9 d (.cells #[aA b,al c,aq i,aq j,aq 0,.nilFunc,aB,aB,aq 0] 345) λa b=>aW b (((aw a).add 5).add 0) (.func (.func 287) #[au (aw a)] #[]) λb=>K (au (aw a)) b):Cl 252 [au a,aq i,aq j] h K:=cT F252.T Tryz.func252 H
def F229.T:bj:=⟨[(3,[0])],[]⟩
section
variable (a:Addr)(h:aH)(K:KK)
def F229.wk3:Prop:=bI (rd h (a.add 6)) λa=>K (aD a) h
end
def F229.spec(H:bI (rd h (a.add 6)) λb=>aK (!b) (lI (rd h (a.add 5)) λb=>eV Tryz.prog X b [] h λb c=>b=aE/\F229.wk3 a c K) (F229.wk3 a h K)):Cl 229 [au a] h K:=cT F229.T Tryz.func229 H
def F230.spec(H:bI (rd h (a.add 6)) λb=>aK (!b) (K (.tuple #[aq 0,aB]) h) (bI (rd h (a.add 7)) λb=>aK (!b) (K (.tuple #[aq 0,aB]) h) (aQ .u64 (rd h (a.add 8)) λa=>K (.tuple #[aq a,aC]) h))):Cl 230 [au a] h K:=cN Tryz.func230 H
def F274.T:bj:=⟨[],[(1,[[(0,[]),(1,[]),(2,[]),(3,[]),(4,[]),(5,[]),(6,[]),(7,[]),(8,[]),(9,[0,1,2,3]),(10,[]),(11,[]),(12,[])]])]⟩
def F274.spec(H:aQ .i64 (rd h (a.add 1)) λb=>aQ .i64 (rd h (a.add 2)) λc=>Cl 246 [aq i,al c] h λc d=>aQ .i64 (some c) λc=>aF (au a)/\aF (au a)/\aF (au (a.add 1))/\aQ .i64 (rd d (a.add 1)) λa=>aG (al a) (al b)/\K (al (ax (b+(ax (3*c))))) d):Cl 274 [au a,aq i] h K:=cT F274.T Tryz.func274 H
def F275.T:bj:=⟨[],[(0,[[(0,[]),(1,[]),(2,[]),(3,[]),(4,[]),(5,[]),(6,[]),(7,[]),(8,[]),(9,[0]),(10,[]),(11,[]),(12,[])]])]⟩
def F275.spec(H:ba (rd h (a.add 0)) λb=>aQ .i64 (rd h (a.add 1)) λc=>Cl 162 [aA b,al c] h λb c=>aQ .u64 (some b) λb=>aF (au a)/\aW c ((a.add 4).add 0) (aq b) λb=>aW b ((a.add 5).add 0) (.func (.func 302) #[au a] #[]) λb=>aQ .u64 (rd b (a.add 4)) λc=>aW b ((a.add 6).add 0) (aD ((bB .and .u64 c 3) !=2)) λa=>K aE a):Cl 275 [au a] h K:=cT F275.T Tryz.func275 H
def F287.T:bj:=⟨[],[(0,[[(0,[]),(1,[]),(2,[]),(3,[]),(4,[]),(5,[]),(6,[]),(7,[]),(8,[]),(9,[0]),(10,[]),(11,[]),(12,[])]])]⟩
def F287.spec(H:ba (rd h (a.add 0)) λb=>aQ .i64 (rd h (a.add 1)) λc=>Cl 162 [aA b,al c] h λb c=>aQ .u64 (some b) λb=>aF (au a)/\aW c ((a.add 4).add 0) (aq b) λb=>aW b ((a.add 5).add 0) (.func (.func 308) #[au a] #[]) λb=>aQ .u64 (rd b (a.add 4)) λc=>aW b ((a.add 6).add 0) (aD ((bB .and .u64 c 1) !=0)) λa=>K aE a):Cl 287 [au a] h K:=cT F287.T Tryz.func287 H
def F302.T:bj:=⟨[],[(0,[[(0,[]),(1,[]),(2,[]),(3,[]),(4,[]),(5,[]),(6,[]),(7,[]),(8,[]),(9,[]),(11,[]),(12,[]),(13,[]),(14,[]),(10,[0,11,12,13,14]),(15,[]),(16,[]),(17,[]),(18,[])]])]⟩
def F302.spec(H:ba (rd h (a.add 0)) λb=>aQ .i64 (rd h (a.add 1)) λc=>aQ .u64 (rd h (a.add 2)) λd=>Cl 162 [aA b,al (ax (c+1))] h λb c=>aQ .u64 (some b) λb=>aF (au a)/\aF (au a)/\aF (au a)/\aF (au (a.add 2))/\aQ .u64 (rd c (a.add 2)) λe=>aG (aq e) (aq d)/\aW c ((a.add 6).add 0) (aD (b !=d)) λb=>aW b ((a.add 5).add 0) (.func (.func 336) #[au a] #[]) λa=>K aE a):Cl 302 [au a] h K:=cT F302.T Tryz.func302 H
def F308.T:bj:=⟨[],[(1,[[(0,[]),(1,[]),(2,[]),(3,[]),(4,[]),(5,[]),(6,[]),(7,[]),(8,[]),(9,[]),(10,[]),(11,[]),(12,[]),(13,[]),(14,[]),(15,[]),(16,[]),(17,[]),(18,[0]),(19,[]),(20,[]),(21,[]),(22,[])]])]⟩
def F308.spec(H:aW h ((a.add 5).add 0) (.func (.func 338) #[au a] #[]) λb=>ba (rd b (a.add 0)) λc=>aQ .i64 (rd b (a.add 1)) λd=>aQ .u64 (rd b (a.add 4)) λe=>aQ .u64 (rd b (a.add 4)) λf=>Cl 163 [aA c,al d,aq e,aq (bB .or .u64 f 1)] b λb c=>bI (some b) λb=>aF (au a)/\aW c ((a.add 6).add 0) (aD (!b)) λa=>K aE a):Cl 308 [au a] h K:=cT F308.T Tryz.func308 H
def F336.T:bj:=⟨[],[(0,[[(0,[]),(1,[]),(2,[]),(3,[]),(4,[]),(5,[]),(6,[]),(7,[]),(8,[]),(9,[]),(10,[0]),(11,[]),(12,[]),(13,[])]])]⟩
def F336.spec(H:ba (rd h (a.add 0)) λb=>aQ .i64 (rd h (a.add 1)) λc=>Cl 162 [aA b,al (ax (c+2))] h λb c=>aQ .u64 (some b) λb=>aF (au a)/\aW c ((a.add 8).add 0) (aq b) λb=>aW b ((a.add 5).add 0) (.func (.func 355) #[au a] #[]) λa=>K aE a):Cl 336 [au a] h K:=cT F336.T Tryz.func336 H
def F338.T:bj:=⟨[],[(0,[[(0,[]),(1,[]),(2,[]),(3,[]),(4,[]),(5,[]),(6,[]),(7,[]),(8,[]),(9,[]),(10,[]),(11,[]),(12,[]),(13,[])]])]⟩
def F338.spec(H:ba (rd h (a.add 0)) λb=>aQ .i64 (rd h (a.add 1)) λc=>aQ .u64 (rd h (a.add 2)) λd=>Cl 282 [aA b,al (ax (c+1)),aq d] h λb c=>b=aE/\aW c ((a.add 5).add 0) (.func (.func 356) #[au a] #[]) λa=>K aE a):Cl 338 [au a] h K:=cT F338.T Tryz.func338 H
def F355.T:bj:=⟨[],[(0,[[(0,[]),(1,[]),(2,[]),(3,[]),(4,[]),(5,[]),(6,[]),(7,[]),(8,[]),(10,[]),(11,[]),(12,[]),(13,[]),(9,[0,10,11,12,13]),(14,[]),(15,[]),(16,[]),(17,[])]])]⟩
def F355.spec(H:ba (rd h (a.add 0)) λb=>aQ .i64 (rd h (a.add 1)) λc=>aQ .u64 (rd h (a.add 4)) λd=>Cl 162 [aA b,al c] h λb c=>aQ .u64 (some b) λb=>aF (au a)/\aF (au a)/\aF (au a)/\aF (au (a.add 4))/\aQ .u64 (rd c (a.add 4)) λe=>aG (aq e) (aq d)/\aW c ((a.add 7).add 0) (aD (b==d)) λb=>aW b ((a.add 6).add 0) aC λa=>K aE a):Cl 355 [au a] h K:=cT F355.T Tryz.func355 H
def F356.T:bj:=⟨[],[(0,[[(0,[]),(1,[]),(2,[]),(3,[]),(4,[]),(5,[]),(6,[]),(7,[]),(8,[]),(9,[]),(10,[]),(11,[]),(12,[]),(13,[])]])]⟩
def F356.spec(H:ba (rd h (a.add 0)) λb=>aQ .i64 (rd h (a.add 1)) λc=>aQ .u64 (rd h (a.add 3)) λd=>Cl 282 [aA b,al (ax (c+2)),aq d] h λb c=>b=aE/\aW c ((a.add 5).add 0) (.func (.func 368) #[au a] #[]) λa=>K aE a):Cl 356 [au a] h K:=cT F356.T Tryz.func356 H
def F368.T:bj:=⟨[],[(0,[[(0,[]),(1,[]),(2,[]),(3,[]),(4,[]),(5,[]),(6,[]),(7,[]),(8,[]),(9,[]),(10,[]),(11,[]),(12,[]),(13,[]),(14,[])]])]⟩
def F368.spec(H:ba (rd h (a.add 0)) λb=>aQ .i64 (rd h (a.add 1)) λc=>aQ .u64 (rd h (a.add 4)) λd=>Cl 282 [aA b,al c,aq (IntKind.wrap .u64 ((bB .or .u64 d 2)+4))] h λb c=>b=aE/\aW c ((a.add 6).add 0) aC λa=>K aE a):Cl 368 [au a] h K:=cT F368.T Tryz.func368 H
end
section
def ng(h:aH)(c m base n:Nat):Prop:=At h c [au (aw m),al (base:Int),al (n:Int)]
def ng.only{S:List Nat}{h h':aH}{t m base n:Nat}(H:ng h t m base n)(O:aM S h h')(ht:t∉S):ng h' t m base n:=At.only H O ht
structure Ac where
 key:Int
 val:Int
 pos:Nat
 ver:Int
 ph:Nat
 done:Bool
 ok:Bool
 got:Int
def I0:Nat->Nat
 |0=>287
 |1=>308
 |2=>338
 |3=>356
 |4=>368
 |5=>275
 |6=>302
 |7=>336
 |_=>355
def HD:bZ X 287=some cY.go:=by kernel_rfl
def Hl:bZ X 308=some cY.go:=by kernel_rfl
def Hj:bZ X 338=some cY.go:=by kernel_rfl
def HC:bZ X 356=some cY.go:=by kernel_rfl
def Ge:bZ X 368=some cY.go:=by kernel_rfl
def Gy:bZ X 275=some cY.go:=by kernel_rfl
def Gb:bZ X 302=some cY.go:=by kernel_rfl
def Hf:bZ X 336=some cY.go:=by kernel_rfl
def Hs:bZ X 355=some cY.go:=by kernel_rfl
def EB: ∀k,k<=8->bZ X (I0 k)=some cY.go
 |0,_=>HD
 |1,_=>Hl
 |2,_=>Hj
 |3,_=>HC
 |4,_=>Ge
 |5,_=>Gy
 |6,_=>Gb
 |7,_=>Hf
 |8,_=>Hs
def Jd(f ph:Nat):Value:= .func (.func (I0 ph)) #[au (aw f)] #[]
def gr(h:aH)(f m:Nat)(A:Ac):Prop:=
 At h f [au (aw m),al (A.pos:Int),aq A.key,aq A.val,aq A.ver,Jd f A.ph,aD A.done,aD A.ok,aq A.got]
def gr.only{S:List Nat}{h h':aH}{f m:Nat}{A:Ac}(H:gr h f m A)(O:aM S h h')(ht:f∉S):gr h' f m A:=At.only H O ht
def bL(cs:List Int)(A:Ac):Ac×List Int:=
 if A.done then(A,cs)else
 match A.ph with
 |0=>({A with ver:=cs.getD A.pos 0,ph:=1,done:=bB .and .u64 (cs.getD A.pos 0) 1 !=0},cs)
 |1=>if cs.getD A.pos 0=A.ver then({A with ph:=2,done:=false},cs.set A.pos (bB .or .u64 A.ver 1))else({A with ph:=2,done:=true},cs)
 |2=>({A with ph:=3},cs.set (A.pos+1) A.key)
 |3=>({A with ph:=4},cs.set (A.pos+2) A.val)
 |4=>({A with done:=true},cs.set A.pos (IntKind.wrap .u64 (bB .or .u64 A.ver 2+4)))
 |5=>({A with ver:=cs.getD A.pos 0,ph:=6,done:=bB .and .u64 (cs.getD A.pos 0) 3 !=2},cs)
 |6=>({A with ph:=7,done:=cs.getD (A.pos+1) 0 !=A.key},cs)
 |7=>({A with ph:=8,got:=cs.getD (A.pos+2) 0},cs)
 |_=>({A with ok:=cs.getD A.pos 0==A.ver,done:=true},cs)
def qF{cs:List Int}{A:Ac}:(bL cs A).2.length=cs.length:=by
 unfold bL
 repeat' split
 all_goals simp
section
variable {h:aH}{f c m mc base n:Nat}{cs:List Int}{ops fails:Int}{A:Ac}{K:KK}
def vo(H:gr h f m A)(M:bu h m mc cs ops fails)(hp:A.pos+2<cs.length)(hc:cs.length<1000000000)(hph:A.ph<=8)(d2:f≠m)(d3:f≠mc)
  (hK: ∀h' ops' fails',gr h' f m (bL cs A).1->bu h' m mc (bL cs A).2 ops' fails'->aM [f,m,mc] h h'->K (aD (bL cs A).1.done) h'):
  Cl 229 [au (aw f)] h K:=by
 apply F229.spec;simp only[aL,Nat.zero_add];refine aY (n:=A.done) (by rw[At.rd H];rfl) ?_
 have hend: ∀h' ops' fails',gr h' f m (bL cs A).1->bu h' m mc (bL cs A).2 ops' fails'->aM [f,m,mc] h h'->F229.wk3 (aw f) h' K:=by intro h' ops' fails' a1 a2 a3;unfold F229.wk3;simp only[aL,Nat.zero_add];exact aY (by rw[At.rd a1];rfl) (hK h' ops' fails' a1 a2 a3)
 cases hd:A.done with
 |true=>
  rw[Bool.not_true,aJ];have e:bL cs A=(A,cs):=by unfold bL;rw[if_pos hd]
  rw[e]at hend;exact hend h ops fails H M (aM.refl _ _)
 |false=>
  rw[Bool.not_false,aO];have hs: ∀b∈[m,mc],b∈[f,m,mc]:=by simp+contextual
  have hS: ∀b∈[f],b∈[f,m,mc]:=ak;have d2':=d2.symm;have d3':=d3.symm;have w1:ax ((A.pos:Int)+1)=((A.pos+1:Nat):Int):=by rw[wrap_i64 ah ah];simp
  have w2:ax ((A.pos:Int)+2)=((A.pos+2:Nat):Int):=by rw[wrap_i64 ah ah];simp
  unfold bL at hend;rw[if_neg (by simp[hd])]at hend;have hx:=EB A.ph hph;refine⟨_,by rw[At.rd H];rfl,bE hx ?_⟩;clear hx;obtain⟨key,val,pos,ver,ph,done,ok,got⟩:=A;dsimp only at*
  subst hd
  match ph,hph,H,hend with
  |0,_,H,hend=>
   refine F287.spec ?_;simp only[aL,Nat.zero_add,Nat.add_zero];refine aR (by rw[At.rd H];rfl) (aI (n:=(pos:Int)) (by rw[At.rd H];rfl) (eI M ah ah λh1 M1 O1=>aI rfl ⟨trivial,?_⟩));have H1:=H.only O1 (by simp[d2,d3]);rw[Int.toNat_natCast];refine aS H1 ak rfl λh2 A2 O2 _=>aS A2 ak rfl λh3 A3 O3 _=>aI (n:=cs.getD pos 0) (by rw[A3.rd];rfl) (aS A3 ak rfl λh4 A4 O4 _=>⟨by trivial,?_⟩);have O24:=(O2.trans O3 ak).trans O4 ak;exact hend h4 _ _ A4 (M1.only O24 (by simp[d2']) (by simp[d3'])) ((O1.mono λb hb _=>hs b hb).trans O24 λb hb _=>hS b hb)
  |1,_,H,hend=>
   refine F308.spec ?_;simp only[aL,Nat.zero_add,Nat.add_zero];refine aS H ak rfl λh1 A1 O1 _=> ?_;have M1:=M.only O1 (by simp[d2']) (by simp[d3']);refine aR (by rw[A1.rd];rfl) (aI (n:=(pos:Int)) (by rw[A1.rd];rfl) (aI (n:=ver) (by rw[A1.rd];rfl) (aI (n:=ver) (by rw[A1.rd];rfl) ?_)));refine pf M1 ah ah (λe h2 M2 O2=>aY rfl ⟨trivial,?_⟩) λe h2 M2 O2=>aY rfl ⟨trivial,?_⟩
   all_goals rw[Int.toNat_natCast]at e
   ·rw[Int.toNat_natCast]at M2;refine aS (A1.only O2 (by simp[d2,d3])) ak rfl λh3 A3 O3 _=>⟨by trivial,?_⟩;rw[if_pos e]at hend;exact hend h3 _ _ A3 (M2.only O3 (by simp[d2']) (by simp[d3'])) (((O1.mono λb hb _=>hS b hb).trans O2 λb hb _=>hs b hb).trans O3 λb hb _=>hS b hb)
   ·refine aS (A1.only O2 (by simp[d2,d3])) ak rfl λh3 A3 O3 _=>⟨by trivial,?_⟩;rw[if_neg e]at hend;exact hend h3 _ _ A3 (M2.only O3 (by simp[d2']) (by simp[d3'])) (((O1.mono λb hb _=>hS b hb).trans O2 λb hb _=>hs b hb).trans O3 λb hb _=>hS b hb)
  |2,_,H,hend=>
   refine F338.spec ?_;simp only[aL,Nat.zero_add,Nat.add_zero];refine aR (by rw[At.rd H];rfl) (aI (n:=(pos:Int)) (by rw[At.rd H];rfl) (aI (n:=key) (by rw[At.rd H];rfl) ?_));rw[w1];refine gd M ah ah λh1 M1 O1=>⟨rfl,aS (H.only O1 (by simp[d2,d3])) ak rfl λh2 A2 O2 _=>⟨by trivial,?_⟩⟩;rw[Int.toNat_natCast]at M1;exact hend h2 _ _ A2 (M1.only O2 (by simp[d2']) (by simp[d3'])) ((O1.mono λb hb _=>hs b hb).trans O2 λb hb _=>hS b hb)
  |3,_,H,hend=>
   refine F356.spec ?_;simp only[aL,Nat.zero_add,Nat.add_zero];refine aR (by rw[At.rd H];rfl) (aI (n:=(pos:Int)) (by rw[At.rd H];rfl) (aI (n:=val) (by rw[At.rd H];rfl) ?_));rw[w2];refine gd M ah ah λh1 M1 O1=>⟨rfl,aS (H.only O1 (by simp[d2,d3])) ak rfl λh2 A2 O2 _=>⟨by trivial,?_⟩⟩;rw[Int.toNat_natCast]at M1;exact hend h2 _ _ A2 (M1.only O2 (by simp[d2']) (by simp[d3'])) ((O1.mono λb hb _=>hs b hb).trans O2 λb hb _=>hS b hb)
  |4,_,H,hend=>
   refine F368.spec ?_;simp only[aL,Nat.zero_add,Nat.add_zero];refine aR (by rw[At.rd H];rfl) (aI (n:=(pos:Int)) (by rw[At.rd H];rfl) (aI (n:=ver) (by rw[At.rd H];rfl) ?_));refine gd M ah ah λh1 M1 O1=>⟨rfl,aS (H.only O1 (by simp[d2,d3])) ak rfl λh2 A2 O2 _=>⟨by trivial,?_⟩⟩;rw[Int.toNat_natCast]at M1;exact hend h2 _ _ A2 (M1.only O2 (by simp[d2']) (by simp[d3'])) ((O1.mono λb hb _=>hs b hb).trans O2 λb hb _=>hS b hb)
  |5,_,H,hend=>
   refine F275.spec ?_;simp only[aL,Nat.zero_add,Nat.add_zero];refine aR (by rw[At.rd H];rfl) (aI (n:=(pos:Int)) (by rw[At.rd H];rfl) (eI M ah ah λh1 M1 O1=>aI rfl ⟨trivial,?_⟩));have H1:=H.only O1 (by simp[d2,d3]);rw[Int.toNat_natCast];refine aS H1 ak rfl λh2 A2 O2 _=>aS A2 ak rfl λh3 A3 O3 _=>aI (n:=cs.getD pos 0) (by rw[A3.rd];rfl) (aS A3 ak rfl λh4 A4 O4 _=>⟨by trivial,?_⟩);have O24:=(O2.trans O3 ak).trans O4 ak;exact hend h4 _ _ A4 (M1.only O24 (by simp[d2']) (by simp[d3'])) ((O1.mono λb hb _=>hs b hb).trans O24 λb hb _=>hS b hb)
  |6,_,H,hend=>
   refine F302.spec ?_;simp only[aL,Nat.zero_add,Nat.add_zero];refine aR (by rw[At.rd H];rfl) (aI (n:=(pos:Int)) (by rw[At.rd H];rfl) (aI (n:=key) (by rw[At.rd H];rfl) ?_));rw[w1];refine eI M ah ah λh1 M1 O1=>aI rfl ⟨trivial,trivial,trivial,trivial,?_⟩;have H1:=H.only O1 (by simp[d2,d3]);rw[Int.toNat_natCast];refine aI (n:=key) (by rw[At.rd H1];rfl) ⟨rfl,aS H1 ak rfl λh2 A2 O2 _=>aS A2 ak rfl λh3 A3 O3 _=>⟨by trivial,?_⟩⟩;have O24:=O2.trans O3 ak;exact hend h3 _ _ A3 (M1.only O24 (by simp[d2']) (by simp[d3'])) ((O1.mono λb hb _=>hs b hb).trans O24 λb hb _=>hS b hb)
  |7,_,H,hend=>
   refine F336.spec ?_;simp only[aL,Nat.zero_add,Nat.add_zero];refine aR (by rw[At.rd H];rfl) (aI (n:=(pos:Int)) (by rw[At.rd H];rfl) ?_);rw[w2];refine eI M ah ah λh1 M1 O1=>aI rfl ⟨trivial,?_⟩;have H1:=H.only O1 (by simp[d2,d3]);rw[Int.toNat_natCast];refine aS H1 ak rfl λh2 A2 O2 _=>aS A2 ak rfl λh3 A3 O3 _=>⟨by trivial,?_⟩;have O24:=O2.trans O3 ak;exact hend h3 _ _ A3 (M1.only O24 (by simp[d2']) (by simp[d3'])) ((O1.mono λb hb _=>hs b hb).trans O24 λb hb _=>hS b hb)
  |8,_,H,hend=>
   refine F355.spec ?_;simp only[aL,Nat.zero_add,Nat.add_zero];refine aR (by rw[At.rd H];rfl) (aI (n:=(pos:Int)) (by rw[At.rd H];rfl) (aI (n:=ver) (by rw[At.rd H];rfl) ?_));refine eI M ah ah λh1 M1 O1=>aI rfl ⟨trivial,trivial,trivial,trivial,?_⟩;have H1:=H.only O1 (by simp[d2,d3]);rw[Int.toNat_natCast];refine aI (n:=ver) (by rw[At.rd H1];rfl) ⟨rfl,aS H1 ak rfl λh2 A2 O2 _=>aS A2 ak rfl λh3 A3 O3 _=>⟨by trivial,?_⟩⟩;have O24:=O2.trans O3 ak;exact hend h3 _ _ A3 (M1.only O24 (by simp[d2']) (by simp[d3'])) ((O1.mono λb hb _=>hs b hb).trans O24 λb hb _=>hS b hb)
def dZ(base n:Nat)(key:Int):Nat:=base+3*gL key n
def qO{key:Int}(C:ng h c m base n)(hn:1<=n)(hn2:n<10000)(hb:base<1000000)(hK:K (al (dZ base n key:Int)) h):Cl 274 [au (aw c),aq key] h K:=by
 apply F274.spec;simp only[aL,Nat.zero_add];have hl:=fU key hn;have r1:rd h ⟨c,1,none⟩=some (al (base:Int)):=by rw[At.rd C];rfl
 refine aI r1 (aI (n:=(n:Int)) (by rw[At.rd C];rfl) (lV hn ah (aI rfl ⟨trivial,trivial,trivial,aI r1 ⟨rfl,?_⟩⟩)))
 rw[show ax ((base:Int)+ax (3*(gL key n:Int)))=(dZ base n key:Int) by unfold dZ;rw[wrap_i64 (n:=3*(gL key n:Int)) ah ah,wrap_i64 ah ah];simp]
 exact hK
def Fm(base n:Nat)(key:Int):Ac:=⟨key,0,dZ base n key,0,5,false,false,0⟩
def FV(base n:Nat)(key val:Int):Ac:=⟨key,val,dZ base n key,0,0,false,false,0⟩
def zR{key:Int}(C:ng h c m base n)(hn:1<=n)(hn2:n<10000)(hb:base<1000000)
  (hK: ∀f h',gr h' f m (Fm base n key)->aM [] h h'->h.size<=f->K (au (aw f)) h'):Cl 227 [au (aw c),aq key] h K:=by
 apply F227.spec;simp only[aL,Nat.zero_add,Nat.add_zero];have r0:rd h (aw c)=some (au (aw m)):=by rw[At.rd C];rfl
 refine aR r0 (qO C hn hn2 hb (aI rfl ⟨trivial,trivial,trivial,aR r0 ⟨rfl,trivial,aV λh1 A1 O1 z1=>aS A1 ak rfl λh2 A2 O2 _=> ?_⟩⟩));exact hK h.size h2 A2 (O1.trans O2 λb hb hl=>absurd (show b=h.size by simpa using hb) ah) (Nat.le_refl _)
def An{key val:Int}(C:ng h c m base n)(hn:1<=n)(hn2:n<10000)(hb:base<1000000)
  (hK: ∀f h',gr h' f m (FV base n key val)->aM [] h h'->h.size<=f->K (au (aw f)) h'):Cl 252 [au (aw c),aq key,aq val] h K:=by
 apply F252.spec;simp only[aL,Nat.zero_add,Nat.add_zero];have r0:rd h (aw c)=some (au (aw m)):=by rw[At.rd C];rfl
 refine aR r0 (qO C hn hn2 hb (aI rfl ⟨trivial,trivial,trivial,aR r0 ⟨rfl,trivial,trivial,aV λh1 A1 O1 z1=>aS A1 ak rfl λh2 A2 O2 _=> ?_⟩⟩));exact hK h.size h2 A2 (O1.trans O2 λb hb hl=>absurd (show b=h.size by simpa using hb) ah) (Nat.le_refl _)
def xM(A:Ac):Int:=if A.done&&A.ok then A.got else 0
def w7(A:Ac):Bool:=A.done&&A.ok
def Bx(H:gr h f m A)(hK:K (.tuple #[aq (xM A),aD (w7 A)]) h):Cl 230 [au (aw f)] h K:=by
 apply F230.spec;simp only[aL,Nat.zero_add];unfold xM w7 at hK;refine aY (n:=A.done) (by rw[At.rd H];rfl) (aT (λe=> ?_) λe=>aY (n:=A.ok) (by rw[At.rd H];rfl) (aT (λe'=> ?_) λe'=>aI (n:=A.got) (by rw[At.rd H];rfl) ?_))
 ·have e:A.done=false:=by simpa using e
  simpa[e]using hK
 ·have e:A.done=true:=by simpa using e
  have e':A.ok=false:=by simpa using e'
  simpa[e,e']using hK
 ·have e:A.done=true:=by simpa using e
  have e':A.ok=true:=by simpa using e'
  simpa[e,e']using hK
def o9{k:Int}(h0:1<=k)(h1:k<1000000)(hK:K (al (3*k)) h):Cl 110 [al k] h K:=by apply F110.spec;rw[decide_eq_false ah,aJ,wrap_i64 ah ah];exact hK
def sA(M:bu h m mc cs ops fails)(hn:1<=n)(hn2:n<=1024)(hb:base+3*n<=cs.length)(hc:cs.length<1000000)
  (hK: ∀c h',ng h' c m base n->aM [] h h'->h.size<=c->K (.tuple #[au (aw c),al 0]) h'):
  Cl 109 [au (aw m),al (base:Int),al (n:Int)] h K:=by
 apply F109.spec;rw[decide_eq_false ah,aJ,decide_eq_false ah,aJ,decide_eq_false ah,aJ];refine iq M (aI rfl ?_);rw[decide_eq_false ah,aJ];refine o9 ah ah (aI rfl (iq M (aI rfl ?_)));rw[wrap_i64 ah ah,decide_eq_false ah,aJ];exact aV λh1 A1 O1 z1=>hK h.size h1 A1 O1 (Nat.le_refl _)
end
end
section
def BP{x:Int}(h0:0<=x)(h1:x<18446744073709551616):(BitVec.ofInt 64 x).toNat=x.toNat:=by
 rw[BitVec.toNat_ofInt]
 congr 1
 omega
def De{x:Int}(h0:0<=x)(h1:x<18446744073709551616):bB .and .u64 x 1=x%2:=by show IntKind.wrap .u64 (((BitVec.ofInt 64 x&&&BitVec.ofInt 64 1).toNat:Nat):Int)=_;rw[BitVec.toNat_and,BP h0 h1,show(BitVec.ofInt 64 1).toNat=1 from rfl,Nat.and_one_is_mod,cd ah ah];omega
def xG{x:Int}(h0:0<=x)(h1:x<18446744073709551616):bB .and .u64 x 3=x%4:=by show IntKind.wrap .u64 (((BitVec.ofInt 64 x&&&BitVec.ofInt 64 3).toNat:Nat):Int)=_;rw[BitVec.toNat_and,BP h0 h1,show(BitVec.ofInt 64 3).toNat=2^2-1 from rfl,Nat.and_two_pow_sub_one_eq_mod,cd ah ah];omega
def uK(n:Nat):n|||2=4*(n/4)+2+n%2:=by
 apply Nat.eq_of_testBit_eq;intro i
 match i with
 |0=>
  rw[Nat.testBit_or];simp[Nat.testBit_zero];omega
 |1=>
  rw[Nat.testBit_or,Nat.testBit_succ,Nat.testBit_succ,Nat.testBit_succ,Nat.testBit_zero,Nat.testBit_zero,Nat.testBit_zero];simp;omega
 |i+2=>
  rw[Nat.testBit_or,Nat.testBit_succ,Nat.testBit_succ,Nat.testBit_succ,Nat.testBit_succ,Nat.testBit_succ,Nat.testBit_succ];rw[show 2/2/2=0 by omega,show(4*(n/4)+2+n%2)/2/2=n/2/2 by omega];simp
def FM{x:Int}(h0:0<=x)(h1:x<18446744073709551616):bB .or .u64 x 2=4*(x/4)+2+x%2:=by show IntKind.wrap .u64 (((BitVec.ofInt 64 x|||BitVec.ofInt 64 2).toNat:Nat):Int)=_;rw[BitVec.toNat_or,BP h0 h1,show(BitVec.ofInt 64 2).toNat=2 from rfl,uK,cd ah ah];omega
def om{n:Nat}(h:n<18446744073709551616):n&&&18446744073709551613=4*(n/4)+n%2:=by
 apply Nat.eq_of_testBit_eq;intro i
 match i with
 |0=>
  rw[Nat.testBit_and];simp[Nat.testBit_zero];omega
 |1=>
  rw[Nat.testBit_and,Nat.testBit_succ,Nat.testBit_succ,Nat.testBit_succ,Nat.testBit_zero,Nat.testBit_zero,Nat.testBit_zero];simp;omega
 |i+2=>
  rw[Nat.testBit_and,Nat.testBit_succ,Nat.testBit_succ,Nat.testBit_succ,Nat.testBit_succ,Nat.testBit_succ,Nat.testBit_succ];rw[show 18446744073709551613/2/2=2^62-1 by decide,Nat.testBit_two_pow_sub_one,show(4*(n/4)+n%2)/2/2=n/2/2 by omega];by_cases hi:i<62
  ·simp[hi]
  ·have:n/2/2<2^i:=Nat.lt_of_lt_of_le (show n/2/2<2^62 by omega) (Nat.pow_le_pow_right ah ah);rw[Nat.testBit_lt_two_pow this];simp
def vf{x:Int}(h0:0<=x)(h1:x<18446744073709551616):bB .andNot .u64 x 2=4*(x/4)+x%2:=by show IntKind.wrap .u64 (((BitVec.ofInt 64 x&&& ~~~ BitVec.ofInt 64 2).toNat:Nat):Int)=_;rw[BitVec.toNat_and,BP h0 h1,show(~~~ BitVec.ofInt 64 2).toNat=18446744073709551613 from rfl,om ah,cd ah ah];omega
def u5(pos:Nat)(key val:Int)(cs cs':List Int):Prop:=
 cs'.length=cs.length/\(∀x,x≠pos->x≠pos+1->x≠pos+2->cs'.getD x 0=cs.getD x 0)/\
 ((bB .and .u64 (cs.getD pos 0) 1=0/\cs'.getD pos 0=IntKind.wrap .u64 (bB .or .u64 (cs.getD pos 0) 2+4)/\cs'.getD (pos+1) 0=key/\cs'.getD (pos+2) 0=val)\/
  (bB .and .u64 (cs.getD pos 0) 1≠0/\cs'=cs))
def vC(pos:Nat)(key:Int)(cs:List Int)(v:Int)(ok:Bool):Prop:=
 (ok=true/\bB .and .u64 (cs.getD pos 0) 3=2/\cs.getD (pos+1) 0=key/\v=cs.getD (pos+2) 0)\/(ok=false/\v=0/\ ¬(bB .and .u64 (cs.getD pos 0) 3=2/\cs.getD (pos+1) 0=key))
def CL(cs:List Int)(A:Ac):Prop:=
 A.done=false/\A.ok=false/\(A.ph=5\/(A.ph=6/\A.ver=cs.getD A.pos 0/\bB .and .u64 (cs.getD A.pos 0) 3=2)\/(A.ph=7/\A.ver=cs.getD A.pos 0/\bB .and .u64 (cs.getD A.pos 0) 3=2/\cs.getD (A.pos+1) 0=A.key)\/
  (A.ph=8/\A.ver=cs.getD A.pos 0/\bB .and .u64 (cs.getD A.pos 0) 3=2/\cs.getD (A.pos+1) 0=A.key/\A.got=cs.getD (A.pos+2) 0))
def CL.step{cs:List Int}{A:Ac}(G:CL cs A):(bL cs A).2=cs/\(bL cs A).1.pos=A.pos/\(bL cs A).1.key=A.key/\
  (((bL cs A).1.done=true/\vC A.pos A.key cs (xM (bL cs A).1) (w7 (bL cs A).1))\/(CL cs (bL cs A).1/\(bL cs A).1.ph=A.ph+1)):=by
 obtain⟨key,val,pos,ver,ph,done,ok,got⟩:=A;obtain⟨hd,ho,G⟩:=G;dsimp only at hd ho G;subst hd ho;rcases G with rfl|⟨rfl,hv,h3⟩|⟨rfl,hv,h3,hk⟩|⟨rfl,hv,h3,hk,hg⟩
 ·by_cases h:bB .and .u64 (cs.getD pos 0) 3=2
  ·have e:(bB .and .u64 (cs.getD pos 0) 3 !=2)=false:=by simpa using h
   refine⟨rfl,rfl,rfl,Or.inr ⟨⟨?_,rfl,Or.inr (Or.inl ⟨rfl,rfl,h⟩)⟩,rfl⟩⟩;simpa[bL]using h
  ·have e:(bB .and .u64 (cs.getD pos 0) 3 !=2)=true:=by simpa using h
   refine⟨rfl,rfl,rfl,Or.inl ⟨?_,Or.inr ⟨?_,?_,λh'=>h h'.1⟩⟩⟩
   ·simpa[bL]using h
   ·simp[w7,bL]
   ·simp[xM,bL]
 ·by_cases h:cs.getD (pos+1) 0=key
  ·refine⟨rfl,rfl,rfl,Or.inr ⟨⟨?_,rfl,Or.inr (Or.inr (Or.inl ⟨rfl,hv,h3,h⟩))⟩,rfl⟩⟩;simpa[bL]using h
  ·refine⟨rfl,rfl,rfl,Or.inl ⟨?_,Or.inr ⟨?_,?_,λh'=>h h'.2⟩⟩⟩
   ·simpa[bL]using h
   ·simp[w7,bL]
   ·simp[xM,bL]
 ·exact⟨rfl,rfl,rfl,Or.inr ⟨⟨rfl,rfl,Or.inr (Or.inr (Or.inr ⟨rfl,hv,h3,hk,rfl⟩))⟩,rfl⟩⟩
 ·refine⟨rfl,rfl,rfl,Or.inl ⟨rfl,Or.inl ⟨?_,h3,hk,?_⟩⟩⟩
  ·simp[w7,bL,hv]
  ·simp only[xM,bL,hv,hg];simp
def wF(cs0 cs:List Int)(A:Ac):Prop:=
 A.done=false/\A.ok=false/\((A.ph=0/\cs=cs0)\/(bB .and .u64 (cs0.getD A.pos 0) 1=0/\A.ver=cs0.getD A.pos 0/\
  ((A.ph=1/\cs=cs0)\/(A.ph=2/\cs=cs0.set A.pos (bB .or .u64 A.ver 1))\/(A.ph=3/\cs=(cs0.set A.pos (bB .or .u64 A.ver 1)).set (A.pos+1) A.key)\/
   (A.ph=4/\cs=((cs0.set A.pos (bB .or .u64 A.ver 1)).set (A.pos+1) A.key).set (A.pos+2) A.val))))
def dv{l:List Int}{i j:Nat}{v:Int}(hi:i<l.length):(l.set i v).getD j 0=if i=j then v else l.getD j 0:=by
 by_cases h:i=j
 ·subst h;simp[hi]
 ·simp[List.getD,h]
def wF.step{cs0 cs:List Int}{A:Ac}(hp:A.pos+2<cs0.length)(G:wF cs0 cs A):(bL cs A).1.pos=A.pos/\(bL cs A).1.key=A.key/\(bL cs A).1.val=A.val/\
  (((bL cs A).1.done=true/\(bL cs A).1.ok=false/\u5 A.pos A.key A.val cs0 (bL cs A).2)\/(wF cs0 (bL cs A).2 (bL cs A).1/\(bL cs A).1.ph=A.ph+1)):=by
 obtain⟨key,val,pos,ver,ph,done,ok,got⟩:=A;obtain⟨hd,ho,G⟩:=G;dsimp only at hd ho G hp;subst hd ho;rcases G with⟨rfl,rfl⟩|⟨h1,rfl,⟨rfl,rfl⟩|⟨rfl,rfl⟩|⟨rfl,rfl⟩|⟨rfl,rfl⟩⟩
 ·by_cases h:bB .and .u64 (cs.getD pos 0) 1=0
  ·refine⟨rfl,rfl,rfl,Or.inr ⟨⟨?_,rfl,Or.inr ⟨h,rfl,Or.inl ⟨rfl,rfl⟩⟩⟩,rfl⟩⟩;simpa[bL]using h
  ·refine⟨rfl,rfl,rfl,Or.inl ⟨?_,rfl,rfl,λ_ _ _ _=>rfl,Or.inr ⟨h,rfl⟩⟩⟩;simpa[bL]using h
 ·refine⟨?_,?_,?_,Or.inr ⟨⟨?_,?_,Or.inr ⟨?_,?_,Or.inr (Or.inl ⟨?_,?_⟩)⟩⟩,?_⟩⟩<;>simp[bL];exact h1
 ·exact⟨rfl,rfl,rfl,Or.inr ⟨⟨rfl,rfl,Or.inr ⟨h1,rfl,Or.inr (Or.inr (Or.inl ⟨rfl,rfl⟩))⟩⟩,rfl⟩⟩
 ·exact⟨rfl,rfl,rfl,Or.inr ⟨⟨rfl,rfl,Or.inr ⟨h1,rfl,Or.inr (Or.inr (Or.inr ⟨rfl,rfl⟩))⟩⟩,rfl⟩⟩
 ·refine⟨rfl,rfl,rfl,Or.inl ⟨rfl,rfl,by simp[bL],λx n1 n2 n3=> ?_,Or.inl ⟨h1,?_,?_,?_⟩⟩⟩
  ·simp only[bL,Bool.false_eq_true,if_false];rw[dv (by simp;omega),if_neg (Ne.symm n1),dv (by simp;omega),if_neg (Ne.symm n3),dv (by simp;omega),if_neg (Ne.symm n2),dv ah,if_neg (Ne.symm n1)]
  ·simp only[bL,Bool.false_eq_true,if_false];rw[dv (by simp;omega),if_pos rfl]
  ·simp only[bL,Bool.false_eq_true,if_false];rw[dv (by simp;omega),if_neg ah,dv (by simp;omega),if_neg ah,dv (by simp;omega),if_pos rfl]
  ·simp only[bL,Bool.false_eq_true,if_false];rw[dv (by simp;omega),if_neg ah,dv (by simp;omega),if_pos rfl]
structure CW(h:aH)(c m mc base n:Nat)(cs:List Int)(ops fails:Int):Prop where
 cac:ng h c m base n
 mem:bu h m mc cs ops fails
 d4:c≠m
 d5:c≠mc
 hn:1<=n
 hn2:n<=1024
 hc:base+3*n<=cs.length
 hl:cs.length<1000000
def CW.only{h h':aH}{c m mc base n:Nat}{cs:List Int}{ops fails:Int}{S:List Nat}(W:CW h c m mc base n cs ops fails)(O:aM S h h')(h1:c∉S)(h2:m∉S)(h3:mc∉S):CW h' c m mc base n cs ops fails:=
 ⟨W.cac.only O h1,W.mem.only O h2 h3,W.d4,W.d5,W.hn,W.hn2,W.hc,W.hl⟩
def CW.pos{h:aH}{c m mc base n:Nat}{cs:List Int}{ops fails:Int}(W:CW h c m mc base n cs ops fails)(key:Int):dZ base n key+2<cs.length:=by have:=fU key W.hn;have:=W.hc;unfold dZ;omega
def CW.lt{h:aH}{c m mc base n:Nat}{cs:List Int}{ops fails:Int}(W:CW h c m mc base n cs ops fails):c<h.size/\m<h.size/\mc<h.size:=⟨At.lt W.cac,W.mem.head.lt,W.mem.body.lt⟩
section
variable {h0 h:aH}{f c m mc base n:Nat}{cs:List Int}{ops fails:Int}{K:KK}{key val:Int}
def ta{A:Ac}(W:CW h c m mc base n cs ops fails)(H:gr h f m A)(hp:A.pos+2<cs.length)(hph:A.ph<=8)(d1:f≠c)(d2:f≠m)(d3:f≠mc)
  (hK: ∀h' ops' fails',gr h' f m (bL cs A).1->CW h' c m mc base n (bL cs A).2 ops' fails'->aM [f,m,mc] h h'->K (aD (bL cs A).1.done) h'):
  Cl 229 [au (aw f)] h K:=
 vo H W.mem hp (Nat.lt_trans W.hl (by decide)) hph d2 d3 λh' ops' fails' a b O=>
  hK h' ops' fails' a ⟨W.cac.only O (by simp[d1.symm,W.d4,W.d5]),b,W.d4,W.d5,W.hn,W.hn2,by rw[qF];exact W.hc,by rw[qF];exact W.hl⟩ O
end
end
section
def nq(h:aH)(lo:Nat)(p:Option Addr)(l c:Nat)(cs:List Value):Prop:=
 cs.length=l/\((p=none/\l=0/\c=0)\/ ∃b o,p=some ⟨b,o,none⟩/\lo<=b/\b<h.size/\((l=0/\c=0)\/ ∃pre sp:List Value,pre.length=o/\l<=c/\sp.length=c-l/\At h b (pre++cs++sp)))
def nq.nil(h:aH)(lo:Nat):nq h lo none 0 0 []:=⟨rfl,Or.inl ⟨rfl,rfl,rfl⟩⟩
def nq.only{S:List Nat}{h h':aH}{lo:Nat}{p:Option Addr}{l c:Nat}{cs:List Value}(H:nq h lo p l c cs)(O:aM S h h')(hS: ∀b∈aX p,b∉S):nq h' lo p l c cs:=by
 obtain⟨e,H⟩:=H;rcases H with H|⟨b,o,h1,h2,h3,H⟩
 ·exact⟨e,Or.inl H⟩
 ·refine⟨e,Or.inr ⟨b,o,h1,h2,Nat.lt_of_lt_of_le h3 O.size,?_⟩⟩;rcases H with H|⟨pre,sp,h4,h5,h6,h7⟩
  ·exact Or.inl H
  ·exact Or.inr ⟨pre,sp,h4,h5,h6,h7.only O (hS b (by rw[h1];simp[aX]))⟩
def nq.lt{h:aH}{lo:Nat}{p:Option Addr}{l c:Nat}{cs:List Value}(H:nq h lo p l c cs): ∀b∈aX p,lo<=b/\b<h.size:=by
 obtain⟨-,H⟩:=H;rcases H with⟨e,-⟩|⟨b,o,h1,h2,h3,-⟩
 ·subst e;simp[aX]
 ·subst h1;intro x hx;simp[aX]at hx;subst hx;exact⟨h2,h3⟩
def nq.rd{h:aH}{lo:Nat}{p:Option Addr}{l c:Nat}{cs:List Value}(H:nq h lo p l c cs){j:Nat}(hj:j<cs.length): ∃a,p=some a/\rd h (a.add j)=cs[j]? :=by
 obtain⟨e,H⟩:=H;rcases H with⟨-,h0,-⟩|⟨b,o,h1,h2,h3,⟨h0,-⟩|⟨pre,sp,h4,h5,h6,h7⟩⟩
 ·omega
 ·omega
 ·refine⟨_,h1,?_⟩;rw[aL,h7.rd,List.getElem?_append_left (by simp;omega),List.getElem?_append_right ah]
  congr 1
  omega
def nq.cap{h:aH}{lo:Nat}{p:Option Addr}{l c:Nat}{cs:List Value}(H:nq h lo p l c cs):l<=c:=by
 obtain⟨e,H⟩:=H;rcases H with⟨-,h0,h1⟩|⟨b,o,h1,h2,h3,⟨h0,h4⟩|⟨pre,sp,h4,h5,h6,h7⟩⟩
 ·omega
 ·omega
 ·exact h5
def nq.pop{h:aH}{lo:Nat}{p:Option Addr}{l c:Nat}{cs:List Value}{v:Value}(H:nq h lo p (l+1) c (cs++[v])):nq h lo (if c=0 then p else Option.map (λa=>Addr.add a (0*1)) p) l c cs:=by
 have ep:(if c=0 then p else Option.map (λa=>Addr.add a (0*1)) p)=p:=by
  split
  ·rfl
  ·cases p with
   |none=>rfl
   |some a=>simp[Addr.add]
 rw[ep];obtain⟨e,H⟩:=H;rw[List.length_append,List.length_singleton]at e;refine⟨ah,?_⟩;rcases H with⟨-,h0,-⟩|⟨b,o,h1,h2,h3,⟨h0,-⟩|⟨pre,sp,h4,h5,h6,h7⟩⟩
 ·omega
 ·omega
 ·exact Or.inr ⟨b,o,h1,h2,h3,Or.inr ⟨pre,v::sp,h4,ah,by simp;omega,by simpa using h7⟩⟩
def wR{h:aH}{lo by_:Nat}{z:Value}{p:Option Addr}{l c bx:Nat}{cs:List Value}{v:Value}{e:TypeId}{K:Option Addr->Nat->Nat->aH->Prop}
  (H:nq h lo p l c cs) (A:At h bx [v]) (hcap:(l+1)*by_<=140737488355328) (hv:v.oneCell'=true) (hlo:lo<=h.size)
  (hK: ∀p' c' h',nq h' lo p' (l+1) c' (cs++[v])->aM (aX p) h h'->(∀b∈aX p',b∈aX p\/h.size<=b)->K p' (l+1) c' h'):
  fB h e 1 by_ #[z] p l c (some ⟨bx,0,none⟩) 1 K:=by
 obtain⟨hlen,H⟩:=H;refine⟨[v],rfl,fA A ak,λhle=> ?_,λhlt=>⟨cs,ah,?_,hcap,λcap hc=> ?_⟩⟩
 ·rcases H with⟨-,h0,h1⟩|⟨b,o,h1,h2,h3,⟨h0,h4⟩|⟨pre,sp,h4,h5,h6,h7⟩⟩
  ·omega
  ·omega
  ·subst h1;show pd ((⟨b,o,none⟩:Addr).add (l*1)) 0 [v] h _;rw[aL];refine jB [v] 0 _ h h7 (by simp;omega) (by simpa using hv) λh' A' O' z'=>hK _ _ h' ⟨by simp[hlen],Or.inr ⟨b,o,rfl,h2,ah,Or.inr ⟨pre,sp.drop 1,h4,hle,by simp;omega,?_⟩⟩⟩ O' λx hx=>Or.inl hx
   have e1:(pre++cs++sp).take (o+l*1+0)=pre++cs:=by rw[show o+l*1+0=(pre++cs).length by simp;omega,List.take_left]
   have e2:(pre++cs++sp).drop (o+l*1+0+[v].length)=sp.drop 1:=by
    rw[List.drop_append,List.drop_eq_nil_of_le (by simp;omega),List.nil_append]
    congr 1
    simp;omega
   rw[e1,e2]at A';simpa using A'
 ·rcases H with⟨e,h0,-⟩|⟨b,o,h1,h2,h3,⟨h0,h4⟩|⟨pre,sp,h4,h5,h6,h7⟩⟩
  ·subst e;exact h0
  ·subst h1;obtain rfl:cs=[]:=List.length_eq_zero_iff.1 ah;intro j x hj;simp at hj
  ·subst h1
   exact fA h7 λj x hj=>by
    have hj':=(List.getElem?_eq_some_iff.1 hj).1;rw[List.getElem?_append_left (by simp;omega),List.getElem?_append_right ah,<-hj]
    congr 1
    omega
 ·refine hK _ _ _ ⟨by simp[hlen],Or.inr ⟨h.size,0,rfl,hlo,ak,Or.inr ⟨[],(Builtin.zeroCells #[z] (cap-(l+1))).toList,rfl,hc,by rw[eK];simp,?_⟩⟩⟩ ((aM.push_cells h _ e).mono ak) λx hx=>Or.inr ?_
  ·have:=At.push h (cs.toArray++ #[v]++Builtin.zeroCells #[z] (cap-(l+1))) e;simpa using this
  ·simp[aX]at hx;omega
end
section
def db:Option Nd->List Value
 |some x=> [aC,al (x.1:Int),ap (x.2.1:Int),ap (x.2.2:Int)]
 |none=> [aB,al 0,ap 0,ap 0]
def dO(o:Option Nd):(db o).length=4:=by cases o<;>rfl
def gI:ay->List Value
 | []=> []
 |x::N=>db x++gI N
def gw: ∀N,(gI N).length=N.length*4
 | []=>rfl
 |x::N=>by simp[gI,dO,gw N];omega
def ue: ∀N M,gI (N++M)=gI N++gI M
 | [],M=>rfl
 |x::N,M=>by simp[gI,ue N M]
def pI: ∀(N:ay) (i:Nat) (x:Option Nd) (k:Nat),N[i]? =some x->k<4->(gI N)[i*4+k]? =(db x)[k]?
 | [],i,x,k,h,_=>by simp at h
 |y::N,0,x,k,h,hk=>by simp at h;subst h;rw[Nat.zero_mul,Nat.zero_add];exact List.getElem?_append_left (by rw[dO];exact hk)
 |y::N,i+1,x,k,h,hk=>by
  have:=pI N i x k (by simpa using h) hk;unfold gI;rw[List.getElem?_append_right (by rw[dO];omega),<-this]
  congr 1
  rw[dO];omega
def mC: ∀(N:ay) (i:Nat) (o:Option Nd) (a b c d:Value),i<N.length->db o=[a,b,c,d]->((((gI N).set (i*4+0) a).set (i*4+1) b).set (i*4+2) c).set (i*4+3) d=gI (N.set i o)
 | [],i,o,a,b,c,d,h,_=>by simp at h
 |y::N,0,o,a,b,c,d,h,e=>by
  simp only[gI,List.set_cons_zero,e];have:=dO y
  match hy:db y,this with
  | [p,q,r,s],_=>simp
 |y::N,i+1,o,a,b,c,d,h,e=>by have ih:=mC N i o a b c d (by simpa using h) e;simp only[gI,List.set_cons_succ];rw[<-ih];have:=dO y;rw[show(i+1)*4+0=(db y).length+(i*4+0) by omega,show(i+1)*4+1=(db y).length+(i*4+1) by omega,show(i+1)*4+2=(db y).length+(i*4+2) by omega,show(i+1)*4+3=(db y).length+(i*4+3) by omega];simp only[List.set_append,Nat.not_lt.2 (Nat.le_add_right _ _),if_false,Nat.add_sub_cancel_left]
def isN(N:ay)(a:Nat):Prop:=a<2\/ ∃x,nd N (a-2)=some x
def lvl(n:Nat)(N:ay)(a:Nat):Nat:=if a<2 then n else match nd N (a-2)with|some x=>x.1|none=>0
def low(N:ay)(a:Nat):Nat:=if a<2 then a else match nd N (a-2)with|some x=>x.2.1|none=>0
def high(N:ay)(a:Nat):Nat:=if a<2 then a else match nd N (a-2)with|some x=>x.2.2|none=>0
structure dz(n:Nat)(N:ay):Prop where
 node: ∀i x,nd N i=some x->x.1<n/\isN N x.2.1/\isN N x.2.2/\x.2.1≠x.2.2/\x.1<lvl n N x.2.1/\x.1<lvl n N x.2.2
 once: ∀i j x,nd N i=some x->nd N j=some x->i=j
structure SB where
 ob:Nat
 tb:Nat
 m:Nat
 mc:Nat
 sb:Nat
 cac:Nat
 cm:Nat
 cmc:Nat
 p:az
 c:Nat
 fp:az
 fc:Nat
def SB.bm(B:SB)(s:Nat):List Nat:=[s,B.ob,B.cac,B.cm,B.cmc]++aX B.p++aX B.fp
def SB.bt(B:SB):List Nat:=[B.tb,B.m,B.mc,B.sb]
def pJ(F:List Nat):List Value:=F.map λ(a:Nat)=>ap (a:Int)
def i5(room:Nat)(B:SB)(l fl:Nat)(off:Bool):List Value:=[al (room:Int),au (aw B.ob),.slice B.p l B.c,.slice B.fp fl B.fc,au (aw B.tb),.map (some B.sb),au (aw B.cac),aD off]
def mP(Q:Int->Int->Prop)(cs:List Int):Prop:= ∀l,l<256->0<=cs.getD (3*l) 0/\cs.getD (3*l) 0<18446744073709551616/\cs.getD (3*l) 0%2=0/\(cs.getD (3*l) 0%4=2->Q (cs.getD (3*l+1) 0) (cs.getD (3*l+2) 0))
def qB(h:aH)(B:SB)(Q:Int->Int->Prop):Prop:= ∃cs ops fails,CW h B.cac B.cm B.cmc 0 256 cs ops fails/\mP Q cs
def qB.only{S:List Nat}{h h':aH}{B:SB}{Q:Int->Int->Prop}(H:qB h B Q)(O:aM S h h')(h1:B.cac∉S)(h2:B.cm∉S)(h3:B.cmc∉S):qB h' B Q:=by obtain⟨cs,o,f,a,b⟩:=H;exact⟨cs,o,f,a.only O h1 h2 h3,b⟩
structure gV(h:aH)(s n room:Nat)(B:SB)(f g:Nat->Nat)(N:ay)(F:List Nat)(Q:Int->Int->Prop)(off:Bool):Prop where
 S:At h s (i5 room B N.length F.length off)
 O:cx h B.ob n f g
 own:cj h 0 4 B.p N.length B.c (gI N)
 fre:nq h 0 B.fp F.length B.fc (pJ F)
 cac:qB h B Q
 n8:1<=n/\n<=8
 len:N.length<=room/\room<=32768/\F.length<=N.length
 sep:(B.bm s).Nodup
def gZ(h:aH)(B:SB)(E:ay)(T:Nat):Prop:= ∃cs mm ops fails,dD h B.tb B.m 0 T/\bu h B.m B.mc cs ops fails/\bO h B.sb .i64 mm/\mS T cs mm E
def gZ.only{h h':aH}{B:SB}{E:ay}{T:Nat}{L:List Nat}(H:gZ h B E T)(O:aM L h h')(hL: ∀b∈L,b∉B.bt):gZ h' B E T:=by have d: ∀b,b∈B.bt->b∉L:=λb hb hl=>hL b hl hb;obtain⟨cs,mm,o,f',t1,t2,t3,t4⟩:=H;exact⟨cs,mm,o,f',t1.only O (d _ (by simp[SB.bt])),t2.only O (d _ (by simp[SB.bt])) (d _ (by simp[SB.bt])),t3.only O (d _ (by simp[SB.bt])),t4⟩
def gZ.lt{h:aH}{B:SB}{E:ay}{T:Nat}(H:gZ h B E T): ∀b∈B.bt,b<h.size:=λb hb=>by obtain⟨cs,mm,o,f',t1,t2,t3,-⟩:=H;have:=At.lt t1;have:=t2.head.lt;have:=t2.body.lt;have:=t3.lt;simp only[SB.bt,List.mem_cons,List.not_mem_nil,or_false]at hb;omega
structure vO(h:aH)(s:Nat)(B:SB)(N:ay):Prop where
 tab: ∃T,gZ h B N T/\(∃k,T=32*2^k)/\2*be N<=T/\T<=262144
 nd:B.bt.Nodup
 sep: ∀b∈B.bt,b∉B.bm s
def gV.only{h h':aH}{s n room:Nat}{B:SB}{f g:Nat->Nat}{N:ay}{F:List Nat}{Q:Int->Int->Prop}{off:Bool}{L:List Nat}(H:gV h s n room B f g N F Q off)(O:aM L h h')(hL: ∀b∈L,b∉B.bm s):gV h' s n room B f g N F Q off:=by have d: ∀b,b∈B.bm s->b∉L:=λb hb hl=>hL b hl hb;exact⟨H.S.only O (d _ (by simp[SB.bm])),H.O.only O (d _ (by simp[SB.bm])),H.own.only O λb hb=>d _ (by simp[SB.bm,hb,aX]),H.fre.only O λb hb=>d _ (by simp[SB.bm,hb]),H.cac.only O (d _ (by simp[SB.bm])) (d _ (by simp[SB.bm])) (d _ (by simp[SB.bm])),H.n8,H.len,H.sep⟩
def vO.only{h h':aH}{s:Nat}{B:SB}{N:ay}{L:List Nat}(H:vO h s B N)(O:aM L h h')(hL: ∀b∈L,b∉B.bt):vO h' s B N:=by obtain⟨T,t,t5⟩:=H.tab;exact⟨⟨T,t.only O hL,t5⟩,H.nd,H.sep⟩
def gV.lt{h:aH}{s n room:Nat}{B:SB}{f g:Nat->Nat}{N:ay}{F:List Nat}{Q:Int->Int->Prop}{off:Bool}(H:gV h s n room B f g N F Q off): ∀b∈B.bm s,b<h.size:=λb hb=>by
 obtain⟨cs,o,f,c1,-⟩:=H.cac;have:=c1.lt;have:=H.S.lt;have:=At.lt H.O;simp only[SB.bm,List.mem_append,List.mem_cons,List.not_mem_nil,or_false]at hb;rcases hb with(hb|hb)|hb
 ·omega
 ·exact(H.own.lt b hb).2
 ·exact(H.fre.lt b hb).2
def vO.lt{h:aH}{s:Nat}{B:SB}{N:ay}(H:vO h s B N): ∀b∈B.bt,b<h.size:=by obtain⟨T,t,-⟩:=H.tab;exact t.lt
section
variable {h:aH}{s n room:Nat}{B:SB}{f g:Nat->Nat}{N:ay}{F:List Nat}{Q:Int->Int->Prop}{off:Bool}{K:KK}
def vk(H:gV h s n room B f g N F Q off)(hK:K (al (n:Int)) h):Cl 75 [au (aw s)] h K:=by refine F75.spec ?_;simp only[aL,Nat.zero_add];refine aR (by rw[At.rd H.S];rfl) (Cp H.O (aI rfl hK))
def qz{a:Nat}(h2:2<=a)(ha:a<4294967296):IntKind.wrap .u32 ((a:Int)-2)=((a-2:Nat):Int):=by rw[show(a:Int)-2=((a-2:Nat):Int) by omega];exact gY ah
def gV.cells(H:gV h s n room B f g N F Q off){i:Nat}{o:Option Nd}(hi:N[i]? =some o): ∃b,B.p=some (aw b)/\ ∀k,k<4->rd h ⟨b,i*4+k,none⟩=(db o)[k]? :=by
 have hl:=(List.getElem?_eq_some_iff.1 hi).1
 have rr: ∀k,k<4-> ∃b,B.p=some (aw b)/\rd h ⟨b,i*4+k,none⟩=(db o)[k]? :=λk hk=>by obtain⟨b,e1,e2⟩:=H.own.rd (j:=i*4+k) (by rw[gw];omega);exact⟨b,e1,by rw[e2,pI N _ o k hi hk]⟩
 obtain⟨b,e1,e2⟩:=rr 0 ah;refine⟨b,e1,λk hk=> ?_⟩;obtain⟨b',e1',e2'⟩:=rr k hk;rw[e1]at e1';injection e1' with e1';injection e1' with e1';subst e1';exact e2'
def tf(H:gV h s n room B f g N F Q off){a:Nat}(ha:a<4294967296)
  (h1:(∀x,2<=a->nd N (a-2)≠some x)->K (.pointer none) h)
  (h2: ∀b x,B.p=some (aw b)->2<=a->nd N (a-2)=some x->(∀k,k<4->rd h ⟨b,(a-2)*4+k,none⟩=(db (some x))[k]?)->K (au ⟨b,(a-2)*4,none⟩) h):
  Cl 117 [au (aw s),ap (a:Int)] h K:=by
 refine F117.spec ?_;simp only[aL,Nat.zero_add];refine aT (λhb=> ?_) λhb=> ?_
 ·have hb:=of_decide_eq_true hb;exact h1 λx h2=>ah
 have hb:=of_decide_eq_false hb;have rs:rd h ⟨s,2,none⟩=some (.slice B.p N.length B.c):=by rw[At.rd H.S];rfl
 refine bo rs ?_;have w1:ax (a:Int)=(a:Int):=wrap_i64 ah ah;rw[w1,wrap_i64 ah ah,qz ah ha];refine aT (λhc=> ?_) λhc=> ?_
 ·have hc:=of_decide_eq_true hc;exact h1 λx h2=>by rw[py ah];simp
 have hc:=of_decide_eq_false hc;have hi:a-2<N.length:=ah;obtain⟨o,ho⟩: ∃o,N[a-2]? =some o:=⟨_,List.getElem?_eq_getElem hi⟩;obtain⟨b,e1,rb⟩:=H.cells ho;refine bo rs ?_;rw[e1,aU];refine⟨ah,ah,?_⟩;rw[aL,aL,show 0+Int.toNat ((a-2:Nat):Int)*4+0=(a-2)*4+0 by omega,rb 0 ah];cases o with
 |none=>
  refine aY rfl ?_;rw[Bool.not_false,aO];exact h1 λx _=>by rw[Ne,cO,ho];simp
 |some x=>
  refine aY rfl ?_;rw[Bool.not_true,aJ];refine bo rs ?_;rw[e1,aU];refine⟨ah,ah,?_⟩;rw[aL,show 0+Int.toNat ((a-2:Nat):Int)*4=(a-2)*4 by omega];exact h2 b x e1 ah (cO.2 ho) rb
def isN_lt(H:gV h s n room B f g N F Q off){a:Nat}(ha:isN N a):a<N.length+2:=by
 rcases ha with h|⟨x,h⟩
 ·omega
 ·have:=iW h;omega
def FD(H:gV h s n room B f g N F Q off){a:Nat}(ha:a<4294967296)(h1:isN N a->K aC h)(h0: ¬isN N a->K aB h):Cl 74 [au (aw s),ap (a:Int)] h K:=by
 refine F74.spec ?_;refine aT (λhb=> ?_) λhb=> ?_
 ·have hb:=of_decide_eq_true hb;exact h1 (.inl ah)
 have hb:=of_decide_eq_false hb;refine tf H ha (λe=>aR rfl ?_) λb x e1 h2 hx r=>aR rfl ?_
 ·refine h0 λhn=> ?_;rcases hn with h|⟨x,h⟩
  ·omega
  ·exact e x ah h
 ·exact h1 (.inr ⟨x,hx⟩)
def lu(H:gV h s n room B f g N F Q off){a:Nat}(ha:isN N a)(hK:K (al (lvl n N a:Int)) h):Cl 71 [au (aw s),ap (a:Int)] h K:=by
 have hl:=H.len;have ha':=isN_lt H ha;refine F71.spec ?_;unfold lvl at hK;refine aT (λhb=> ?_) λhb=> ?_
 ·have hb:=of_decide_eq_true hb;rw[if_pos ah]at hK;exact vk H (aI rfl hK)
 have hb:=of_decide_eq_false hb;rw[if_neg ah]at hK;refine tf H ah (λh1=> ?_) λb x e1 h2 hx r=>aR rfl ?_
 ·rcases ha with h|⟨x,h⟩
  ·omega
  ·exact absurd h (h1 x ah)
 rw[show(!(Option.isNone (some (⟨b,(a-2)*4,none⟩:Addr))))=true from rfl,aO,aU,aL,r 1 ah];refine aI rfl ?_;rw[hx]at hK;exact hK
def Eb{a:Nat}(ha:a<2)(hK:K (al 1) h):Cl 118 [au (aw s),ap (a:Int)] h K:=by refine F118.spec ?_;exact aT (λ_=>hK) λhb=>absurd (of_decide_eq_false hb) ah
def tK: ∀a:Fin 2,bB .and .u32 ((a.1:Nat):Int) (IntKind.wrap .u32 1)=((a.1:Nat):Int):=by decide+kernel
def yi(H:gV h s n room B f g N F Q off){a:Nat}(ha:isN N a)(hK:K (ap (low N a:Int)) h):Cl 72 [au (aw s),ap (a:Int)] h K:=by
 have hl:=H.len;have ha':=isN_lt H ha;refine F72.spec ?_;unfold low at hK;refine tf H ah (λh1=>aR rfl ?_) λb x e1 h2 hx r=>aR rfl ?_
 ·have h2:a<2:=by
   rcases ha with h|⟨x,h⟩
   ·exact h
   ·exact Classical.byContradiction λhn=>h1 x ah h
  rw[if_pos h2]at hK;rw[show(!(Option.isNone (none:az)))=false from rfl,aJ];refine Eb h2 ?_;refine aI rfl ?_;have:=tK ⟨a,h2⟩;dsimp only at this;rw[this];exact hK
 ·rw[if_neg ah,hx]at hK;rw[show(!(Option.isNone (some (⟨b,(a-2)*4,none⟩:Addr))))=true from rfl,aO,aU,aL,r 2 ah];exact aI rfl hK
def uN(H:gV h s n room B f g N F Q off){a:Nat}(ha:isN N a)(hK:K (ap (high N a:Int)) h):Cl 73 [au (aw s),ap (a:Int)] h K:=by
 have hl:=H.len;have ha':=isN_lt H ha;refine F73.spec ?_;unfold high at hK;refine tf H ah (λh1=>aR rfl ?_) λb x e1 h2 hx r=>aR rfl ?_
 ·have h2:a<2:=by
   rcases ha with h|⟨x,h⟩
   ·exact h
   ·exact Classical.byContradiction λhn=>h1 x ah h
  rw[if_pos h2]at hK;rw[show(!(Option.isNone (none:az)))=false from rfl,aJ];refine Eb h2 ?_;refine aI rfl ?_;have:=tK ⟨a,h2⟩;dsimp only at this;rw[this];exact hK
 ·rw[if_neg ah,hx]at hK;rw[show(!(Option.isNone (some (⟨b,(a-2)*4,none⟩:Addr))))=true from rfl,aO,aU,aL,r 3 ah];exact aI rfl hK
def tP(H:gV h s n room B f g N F Q off)(hF:N.length=be N+F.length)(hK:K (al (be N:Int)) h):Cl 45 [au (aw s)] h K:=by have hl:=H.len;refine F45.spec ?_;simp only[aL,Nat.zero_add];refine bo (by rw[At.rd H.S];rfl) (bo (by rw[At.rd H.S];rfl) ?_);rw[wrap_i64 ah ah,show((N.length:Nat):Int)-((F.length:Nat):Int)=(be N:Int) by omega];exact hK
end
end
section
section
variable {h:aH}{s n room:Nat}{B:SB}{f g:Nat->Nat}{N:ay}{F:List Nat}{Q:Int->Int->Prop}{off:Bool}{K:KK}
def GN{E:ay}{T:Nat}(H:gV h s n room B f g N F Q off)(Tm:gZ h B E T)(nn:B.bt.Nodup)(ss: ∀b∈B.bt,b∉B.bm s)(hT:1<=T)(t7:T<=262144){k:Nat}(hk:k≠0)
  (hY: ∀h' i x,nd E i=some x->kf x=k->aM [B.m,B.mc] h h'->gZ h' B E T->K (.tuple #[ap ((i+2:Nat):Int),aC]) h')
  (hN: ∀h',qI E k->aM [B.m,B.mc] h h'->gZ h' B E T->K (.tuple #[ap 0,aB]) h'):
  Cl 199 [au (aw s),aq (k:Int)] h K:=by
 obtain⟨cs,mm,ops,fails,t1,t2,t3,L⟩:=Tm;simp only[SB.bt,List.nodup_cons,List.mem_cons,List.not_mem_nil,or_false,not_or,List.nodup_nil,and_true,not_false_eq_true]at nn;obtain⟨s1,s2,s3⟩:=nn;have sp:s∉B.bt:=λhm=>ss s hm (by simp[SB.bm]);simp only[SB.bt,List.mem_cons,List.not_mem_nil,or_false,not_or]at sp;refine F199.spec _ _ h K ?_;simp only[aL,Nat.zero_add];refine aR (by rw[At.rd H.S];rfl) (gC t1 (aI rfl ?_));unfold F199.wk3
 have mk: ∀h' ops',bu h' B.m B.mc cs ops' fails->aM [B.m,B.mc] h h'->gZ h' B E T:=λh' ops' M O=>
  ⟨cs,mm,ops',fails,t1.only O (by simp;omega),M,t3.only O (by simp;omega),L⟩
 have S': ∀{h'},aM [B.m,B.mc] h h'->At h' s (i5 room B N.length F.length off):=λO=>H.S.only O (by simp;omega)
 have main: ∀(d i:Nat) (h':aH) (ops':Int),i+d=T->pY 0 T cs (k:Int) i->bu h' B.m B.mc cs ops' fails->aM [B.m,B.mc] h h'->F199.wL3 (d+1) (aw s) (k:Int) (T:Int) (T:Int) (i:Int) h' K:=by
  intro d
  induction d with
  |zero=>
   intro i h' ops' hd S M O;rw[F199.sL3];rw[decide_eq_false ah,aJ];refine hN h' (λi0 x hx e=> ?_) O (mk h' ops' M O);obtain⟨j,hj,ej⟩:=L.all i0 x hx;obtain⟨d',hd',ed⟩:=qK (key:=(k:Int)) hj;have:=(S d' ah).2;rw[ed,ej,e]at this;exact this rfl
  |succ d ih=>
   intro i h' ops' hd S M O;rw[F199.sL3];rw[decide_eq_true ah,aO];refine lV ah ah (aI rfl ⟨ah,?_⟩);simp only[aL,Nat.zero_add];refine aR (by rw[At.rd (S' O)];rfl) ?_;have hh:=fU (k:Int) (n:=T) ah
   have ep:Int.tmod (ax ((gL (k:Int) T:Int)+(i:Int))) (T:Int)=((path T (k:Int) i:Nat):Int):=by
    unfold path;generalize gL (k:Int) T=y at hh;rw[wrap_i64 ah ah,show(y:Int)+(i:Int)=((y+i:Nat):Int) by omega,Int.tmod_eq_emod_of_nonneg ah]
    rfl
   rw[ep];have hp:path T (k:Int) i<T:=rF ah;refine CH (t1.only O (by simp;omega)) M ah ah (by have:=L.len;omega) hp λh2 M2 O2=>aI rfl ?_;have O':aM [B.m,B.mc] h h2:=O.trans O2 (by intro b hb _;exact hb);refine aT (λhb=> ?_) λhb=> ?_
   ·have hb:cell 0 cs (path T (k:Int) i)=(k:Int):=by simpa using hb
    refine⟨_,by rw[At.rd (S' O')];rfl,?_⟩;rcases L.cells _ hp with h0|⟨i0,x,c1,c2,c3⟩
    ·omega
    refine dt (m:=mm) (t3.only O' (by simp;omega)) (λhn=>by rw[hn]at c3;cases c3) λj v hv=> ?_;rw[c3]at hv;injection hv with hv;subst hv;exact aI rfl (hY h2 i0 x c1 ah O' (mk h2 _ M2 O'))
   ·have hb:cell 0 cs (path T (k:Int) i)≠(k:Int):=by simpa using hb
    refine aT (λhz=> ?_) λhz=> ?_
    ·have hz:cell 0 cs (path T (k:Int) i)=0:=by simpa using hz
     refine hN h2 (λi0 x hx e=> ?_) O' (mk h2 _ M2 O');obtain⟨j,hj,ej⟩:=L.all i0 x hx;exact L.inv.absent ah ah S hz j hj (by rw[ej,e])
    ·have hz:cell 0 cs (path T (k:Int) i)≠0:=by simpa using hz
     rw[show ax ((i:Int)+1)=((i+1:Nat):Int) by rw[wrap_i64 ah ah];omega];refine ih (i+1) h2 _ ah (λj hj=> ?_) M2 O';by_cases e:j=i
     ·subst e;exact⟨hz,hb⟩
     ·exact S j ah
 exact⟨_,main T 0 h ops ah (λj hj=>ah) t2 (aM.refl _ _)⟩
end
end
section
def xE{A P P' C:List Nat}(H:(A++P++C).Nodup)(hp:P'.Nodup)(hx: ∀x∈P',x∉A/\x∉C):(A++P'++C).Nodup:=by simp only[List.nodup_append,List.mem_append,ne_eq]at H ⊢;obtain⟨⟨h1,-,-⟩,h3,h4⟩:=H;exact⟨⟨h1,hp,λa ha b hb e=>(hx b hb).1 (e▸ha)⟩,h3,λa ha b hb e=>ha.elim (λh=>h4 a (.inl h) b hb e) λh=>(hx a h).2 (e▸hb)⟩
def qo(p:az):(aX p).Nodup:=by cases p<;>simp[aX]
def SB.grow{B:SB}{s:Nat}{h:aH}{p':az}{c':Nat}(H:(B.bm s).Nodup)(hlt: ∀b∈B.bm s,b<h.size)(hp: ∀b∈aX p',b∈aX B.p\/h.size<=b):
  (SB.bm {B with p:=p',c:=c'} s).Nodup/\ ∀b∈SB.bm {B with p:=p',c:=c'} s,b∈B.bm s\/h.size<=b:=by
 refine⟨xE H (qo p') λx hx=> ?_,λb hb=> ?_⟩
 ·rcases hp x hx with h1|h1
  ·unfold SB.bm at H;simp only[List.nodup_append,List.mem_append,ne_eq]at H;obtain⟨⟨_,_,h2⟩,_,h4⟩:=H;exact⟨λhA=>h2 x hA x h1 rfl,λhC=>h4 x (.inr h1) x hC rfl⟩
  ·refine⟨λhA=> ?_,λhC=> ?_⟩
   ·have:=hlt x (by simp only[SB.bm,List.mem_append];exact .inl (.inl hA));omega
   ·have:=hlt x (by simp only[SB.bm,List.mem_append];exact .inr hC);omega
 ·simp only[SB.bm,List.mem_append]at hb ⊢;rcases hb with(hb|hb)|hb
  ·exact .inl (.inl (.inl hb))
  ·rcases hp b hb with h1|h1
   ·exact .inl (.inl (.inr h1))
   ·exact .inr h1
  ·exact .inl (.inr hb)
def oL(p:az)(c:Nat):(if c=0 then p else Option.map (λa=>Addr.add a (0*1)) p)=p:=by
 split
 ·rfl
 ·cases p with
  |none=>rfl
  |some a=>simp[add_zero]
def IP(N:ay)(F:List Nat)(N':ay)(F':List Nat)(a:Nat):Prop:=(F=[]/\N'=N++[none]/\F'=[]/\a=N.length+2)\/(F=F'++[a]/\N'=N)
section
variable {h:aH}{s n room:Nat}{B:SB}{f g:Nat->Nat}{N M:ay}{F:List Nat}{Q:Int->Int->Prop}{off:Bool}{K:KK}
set_option maxRecDepth 100000 in
def AG(H:gV h s n room B f g N F Q off)(hroom:F=[]->N.length<room)
  (hK: ∀h' p' c' N' F' a,IP N F N' F' a->gV h' s n room {B with p:=p',c:=c'} f g N' F' Q off->aM (s::aX B.p) h h'->(∀b∈aX p',b∈aX B.p\/h.size<=b)->K (ap (a:Int)) h'):
  Cl 201 [au (aw s)] h K:=by
 have hl:=H.len;have hsz:s<h.size:=H.S.lt;have hsep:=H.sep;have hlt:=H.lt
 have hin:s∉aX B.p/\s∉aX B.fp/\s∉[B.ob,B.cac,B.cm,B.cmc]:=by unfold SB.bm at hsep;simp only[List.cons_append,List.nodup_cons,List.mem_cons,List.mem_append,not_or,List.nil_append]at hsep;simp only[List.mem_cons,List.not_mem_nil,or_false,not_or];exact⟨hsep.1.2.2.2.2.1,hsep.1.2.2.2.2.2,hsep.1.1,hsep.1.2.1,hsep.1.2.2.1,hsep.1.2.2.2.1⟩
 refine F201.spec ?_;simp only[aL,Nat.zero_add];have rf:rd h ⟨s,3,none⟩=some (.slice B.fp F.length B.fc):=by rw[At.rd H.S];rfl
 refine bo rf ?_;rcases List.eq_nil_or_concat F with e|⟨F',a,e⟩
 ·subst e;rw[decide_eq_false ak,aJ];have hr:=hroom rfl;refine bo (by rw[At.rd H.S];rfl) ?_;refine aV λh1 A1 O1 z1=> ?_;have As:=H.S.only O1 ak;have Ws:=H.own.only O1 ak;refine fT (new:=db none) Ws A1 rfl rfl ah (by simp[db,Value.oneCell']) ah λp' c' h2 W2 O2 hb2=> ?_;have As2:=As.only O2 hin.1
  have hs':s∉aX p':=λhm=>by
   rcases hb2 s hm with h|h
   ·exact hin.1 h
   ·omega
  refine aS As2 (by simp[i5]) rfl λh3 A3 O3 _=> ?_
  replace A3:At h3 s (i5 room {B with p:=p',c:=c'} (N.length+1) 0 off):=A3
  refine bo (by rw[At.rd A3];rfl) ?_
  rw[show IntKind.wrap .u32 (ax (ax (((N.length+1:Nat):Int)-1)+2))=((N.length+2:Nat):Int) by have w1:ax (((N.length+1:Nat):Int)-1)=((N.length+1:Nat):Int)-1:=wrap_i64 ah ah;rw[w1,wrap_i64 ah ah,show((N.length+1:Nat):Int)-1+2=((N.length+2:Nat):Int) by omega];exact gY ah]
  have OO:aM (s::aX B.p) h h3:=(((aM.refl (s::aX B.p) h).trans O1 ak).trans O2 (by intro b hb _;simp[hb])).trans O3 (by intro b hb _;simp at hb;simp[hb])
  have hb3: ∀b∈aX p',b∈aX B.p\/h.size<=b:=λb hb=>by
   rcases hb2 b hb with h|h
   ·exact .inl h
   ·exact .inr ah
  obtain⟨g1,g2⟩:=SB.grow (c':=c') hsep hlt hb3
  have dis: ∀b,b∈[B.ob,B.cac,B.cm,B.cmc]++aX B.fp->b∉s::aX B.p:=λb hb hm=>by
   unfold SB.bm at hsep;simp only[List.nodup_append,List.mem_append,ne_eq]at hsep;obtain⟨⟨h1,_,h2⟩,_,h4⟩:=hsep;rcases List.mem_append.1 hb with hb|hb
   ·rcases List.mem_cons.1 hm with e|hm
    ·exact hin.2.2 (e▸hb)
    ·exact h2 b (by simp only[List.mem_cons]at hb ⊢;exact .inr hb) b hm rfl
   ·rcases List.mem_cons.1 hm with e|hm
    ·exact hin.2.1 (e▸hb)
    ·exact h4 b (.inr hm) b hb rfl
  refine hK h3 p' c' (N++[none]) [] _ (.inl ⟨rfl,rfl,rfl,rfl⟩) ⟨by rw[List.length_append];exact A3,H.O.only OO (dis _ ak),?_,H.fre.only OO λb hb=>dis _ (by simp[hb]),H.cac.only OO (dis _ ak) (dis _ ak) (dis _ ak),H.n8,by rw[List.length_append];exact⟨hr,hl.2.1,ak⟩,g1⟩ OO hb3;rw[ue,List.length_append];exact W2.only O3 λb hb hm=>hs' (by simp at hm;subst hm;rw[hb];simp[aX])
 ·rw[List.concat_eq_append]at e;subst e;rw[List.length_append]at rf;rw[List.length_append,decide_eq_true ak,aO];refine bo rf ?_;have fr:=H.fre;have hfl:(pJ (F'++[a])).length=F'.length+1:=by simp[pJ]
  obtain⟨ad,e1,e2⟩:=fr.rd (j:=F'.length) ah;rw[e1,aU]
  have w1:ax (((F'.length+[a].length:Nat):Int)-1)=(F'.length:Int):=by
   have hcap:=fr.cap
   have hF:F'.length<9223372036854775807:=by have:=hl.2.2;rw[List.length_append]at this;omega
   rw[wrap_i64 (by rw[List.length_singleton];omega) (by rw[List.length_singleton];omega)];simp
  rw[w1];refine⟨ah,by rw[List.length_singleton];omega,?_⟩;rw[Nat.mul_one,Int.toNat_natCast,e2];refine aI (by simp[pJ];rfl) ?_;refine bo rf ⟨ah,?_,?_⟩
  ·have:=fr.cap;simp at this;omega
  ·rw[e1,oL,Nat.sub_zero,Nat.sub_zero];refine aS H.S (by simp[i5]) rfl λh3 A3 O3 _=> ?_
   have dis: ∀b,b∈[B.ob,B.cac,B.cm,B.cmc]++aX B.p++aX B.fp->b∉[s]:=λb hb hm=>by
    simp only[List.mem_singleton]at hm;subst hm;rcases List.mem_append.1 hb with hb|hb
    ·rcases List.mem_append.1 hb with hb|hb
     ·exact hin.2.2 hb
     ·exact hin.1 hb
    ·exact hin.2.1 hb
   refine hK h3 B.p B.c N F' a (.inr ⟨rfl,rfl⟩) ⟨?_,H.O.only O3 (dis _ ak),H.own.only O3 λb hb=>dis _ (by simp[hb,aX]),?_,H.cac.only O3 (dis _ ak) (dis _ ak) (dis _ ak),H.n8,⟨hl.1,hl.2.1,by have:=hl.2.2;rw[List.length_append]at this;omega⟩,hsep⟩ (O3.mono ak) λb hb=> .inl hb
   ·rw[<-e1]at A3;exact A3
   ·have pp:=fr;rw[show pJ (F'++[a])=pJ F'++[ap (a:Int)] by simp[pJ],List.length_append]at pp;have pq:=pp.pop;rw[oL]at pq;exact pq.only O3 λb hb=>dis _ (by simp[hb])
end
end
section
def BZ:(Tryz.prog.info? 218).map (·.size)=some 0:=by kernel_rfl
def ja{a:Addr}{h:aH}{K:aH->Prop}(hK:K h):dF Tryz.prog 218 (some a) (.agg #[]) h K:=by
 unfold dF;have e:=BZ;cases hi:Tryz.prog.info? 218 with
 |none=>rw[hi]at e;cases e
 |some ti=>
  rw[hi]at e;have e:ti.size=0:=by simpa using e
  have e2:Nat.beq (Value.agg #[]).cells.size ti.size=true:=by rw[e];rfl
  dsimp only;rw[e2];exact hK
def fi{h:aH}{k:IntKind}{K:Nat->aH->Prop}(hK: ∀h',bO h' h.size k []->aM [] h h'->h'.size=h.size+1->K h.size h'):a9 h (.map #[] 0) K:=
 hK _ (bO.empty (by unfold mp;simp)) (aM.push_map h _ _) ak
def pS.only'{S:List Nat}{h h':aH}{k:IntKind}{p:az}{zs:List Int}(H:pS h k p zs)(O:aM S h h')(hS: ∀a,p=some a->a.block∉S):pS h' k p zs:=by
 intro i hi;obtain⟨a,e,hr⟩:=H i hi;refine⟨a,e,?_⟩;rw[<-hr]
 have hab:(a.add i).block=a.block:=by unfold Addr.add;split<;>rfl
 have hb:(a.add i).block<h.size:=by apply Classical.byContradiction;intro hn;have:h[(a.add i).block]? =none:=Array.getElem?_eq_none ah;simp[rd,this]at hr
 unfold rd;rw[O.same _ hb (by rw[hab];exact hS a e)]
def gH(bl:List Nat)(N:ay):ay:=N.mapIdx λi o=>if i+2∈bl then none else o
def wY{bl:List Nat}{N:ay}{i:Nat}{o:Option Nd}(h:N[i]? =some o):(gH bl N)[i]? =some (if i+2∈bl then none else o):=by
 unfold gH;rw[List.getElem?_mapIdx,h]
 rfl
def ri{bl:List Nat}{N:ay}:(gH bl N).length=N.length:=by simp[gH]
def gG{bl:List Nat}{N:ay}(i:Nat):nd (gH bl N) i=if i+2∈bl then none else nd N i:=by
 unfold nd;cases h:N[i]? with
 |none=>
  rw[List.getElem?_eq_none (by rw[ri];exact List.getElem?_eq_none_iff.1 h)];simp
 |some o=>
  rw[wY h];split<;>rfl
def dE(N:ay):gH [] N=N:=by apply List.ext_getElem?;intro i;unfold gH;rw[List.getElem?_mapIdx];cases N[i]? <;>simp
def ga{E:ay}{i:Nat}{x:Option Nd}(h:E[i]? =some x):E.take (i+1)=E.take i++[x]:=by
 rw[List.take_add_one,h]
 rfl
def BY{E:ay}{i k:Nat}{x:Nd}(h:nd (E.take i) k=some x):nd E k=some x/\k<i:=by have hl:=iW h;rw[List.length_take]at hl;have:=cO.1 h;rw[List.getElem?_take_of_lt ah]at this;exact⟨cO.2 this,ah⟩
def SB.tabs(B:SB)(tb m mc sb:Nat):SB:={B with tb:=tb,m:=m,mc:=mc,sb:=sb}
def sZ(mo:List (Int×Value))(bl:List Nat):Prop:= ∀k:Nat,(k∈bl->mo.lookup (k:Int)=some (.agg #[]))/\(k∉bl->mo.lookup (k:Int)=none)
structure Ga(h:aH)(s n room:Nat)(B:SB)(f g:Nat->Nat)(N:ay)(F:List Nat)(Q:Int->Int->Prop):Prop where
 O:cx h B.ob n f g
 own:cj h 0 4 B.p N.length B.c (gI N)
 fre:nq h 0 B.fp F.length B.fc (pJ F)
 cac:qB h B Q
 n8:1<=n/\n<=8
 len:N.length<=room/\room<=32768/\F.length<=N.length
 sep:(B.bm s).Nodup
def gV.r{h:aH}{s n room:Nat}{B:SB}{f g:Nat->Nat}{N:ay}{F:List Nat}{Q:Int->Int->Prop}{off:Bool}(H:gV h s n room B f g N F Q off):Ga h s n room B f g N F Q:=⟨H.O,H.own,H.fre,H.cac,H.n8,H.len,H.sep⟩
def tg(room:Nat)(B:SB)(l fl:Nat)(off:Bool)(v4 v5:Value):List Value:=[al (room:Int),au (aw B.ob),.slice B.p l B.c,.slice B.fp fl B.fc,v4,v5,au (aw B.cac),aD off]
def Ga.lt{h:aH}{s n room:Nat}{B:SB}{f g:Nat->Nat}{N:ay}{F:List Nat}{Q:Int->Int->Prop}(H:Ga h s n room B f g N F Q)(hs:s<h.size): ∀b∈B.bm s,b<h.size:=λb hb=>by
 obtain⟨cs,o,f,c1,-⟩:=H.cac;have:=c1.lt;have:=At.lt H.O;simp only[SB.bm,List.mem_append,List.mem_cons,List.not_mem_nil,or_false]at hb;rcases hb with(hb|hb)|hb
 ·omega
 ·exact(H.own.lt b hb).2
 ·exact(H.fre.lt b hb).2
set_option maxRecDepth 100000 in
def nN{h:aH}{s n room:Nat}{B:SB}{f g:Nat->Nat}{N:ay}{F:List Nat}{Q:Int->Int->Prop}{off:Bool}{K:KK}{T bc:Nat}{bp:az}{bl:List Nat}{v4 v5:Value}(HS:At h s (tg room B N.length F.length off v4 v5))(H:Ga h s n room B f g N F Q)
  (hbl:pS h .u32 bp (bl.map λ(k:Nat)=>(k:Int))) (hbs: ∀a,bp=some a->a.block≠s) (hbb:bl.length<=32768)
  (hok: ∀i x,nd (gH bl N) i=some x->kA x) (honce: ∀i j x,nd (gH bl N) i=some x->nd (gH bl N) j=some x->i=j) (hT1: ∃k,T=32*2^k) (hT:2*be (gH bl N)<=T) (hT2:T<=262144)
  (hK: ∀tb m mc sb h',gV h' s n room (B.tabs tb m mc sb) f g N F Q off->vO h' s (B.tabs tb m mc sb) (gH bl N)->gZ h' (B.tabs tb m mc sb) (gH bl N) T->h.size<=tb->h.size<=m->h.size<=mc->h.size<=sb->aM [s] h h'->K aE h'):
  Cl 111 [au (aw s),al (T:Int),.slice bp bl.length bc] h K:=by
 have hT0:1<=T:=by obtain⟨k,e⟩:=hT1;have:=Nat.two_pow_pos k;omega
 have hsep:=H.sep;have hlen:=H.len
 have hin:s∉aX B.p/\s∉aX B.fp/\s∉[B.ob,B.cac,B.cm,B.cmc]:=by unfold SB.bm at hsep;simp only[List.cons_append,List.nodup_cons,List.mem_cons,List.mem_append,not_or,List.nil_append]at hsep;simp only[List.mem_cons,List.not_mem_nil,or_false,not_or];exact⟨hsep.1.2.2.2.2.1,hsep.1.2.2.2.2.2,hsep.1.1,hsep.1.2.1,hsep.1.2.2.1,hsep.1.2.2.2.1⟩
 have dis: ∀b,b∈[B.ob,B.cac,B.cm,B.cmc]++aX B.p++aX B.fp->b∉[s]:=λb hb hm=>by
  simp only[List.mem_singleton]at hm;subst hm;rcases List.mem_append.1 hb with hb|hb
  ·rcases List.mem_append.1 hb with hb|hb
   ·exact hin.2.2 hb
   ·exact hin.1 hb
  ·exact hin.2.1 hb
 have W:=H.own;have hs:=hin.1;refine F111.spec _ _ _ _ _ h K ?_;simp only[aL,Nat.zero_add];have hsz:=HS.lt;refine pj λm mc h1 M1 O1 g1 g2=>aR rfl ?_;rw[jy hT2]at M1;have lm:m<h1.size:=M1.head.lt;have lmc:mc<h1.size:=M1.body.lt;have hmn:=M1.ne;refine tj (base:=0) M1 hT0 ak (by simp;omega) λtb h2' T2 O2 g3=>⟨_,_,rfl,?_⟩;have lt:tb<h2'.size:=At.lt T2;have A2:=(HS.only O1 ak).only O2 ak;have M2:=M1.only O2 ak ak;refine aS A2 (by simp[tg]) rfl λh3 A3 O3 z3=> ?_;have T3:=T2.only O3 (by simp;omega);have M3:=M2.only O3 (by simp;omega) (by simp;omega);refine fi (k:= .i64) λh4 Mp4 O4 z4=> ?_;have A4:=A3.only O4 ak;refine aS A4 (by simp[tg]) rfl λh5 A5 O5 z5=> ?_;have Mp5:=Mp4.only O5 (by simp;omega);refine fi (k:= .u32) λh6 Mq6 O6 z6=> ?_;have O16:aM [s] h h6:=((((((aM.refl [s] h).trans O1 ak).trans O2 ak).trans O3 (by intro b hb _;exact hb)).trans O4 ak).trans O5 (by intro b hb _;exact hb)).trans O6 ak
 replace A5:At h5 s (i5 room (B.tabs tb m mc h3.size) N.length F.length off):=A5
 have A6:=A5.only O6 ak;have hp: ∀b,B.p=some (aw b)->b<h.size:=λb e=>(W.lt b (by rw[e];simp[aX])).2;have hps: ∀b,B.p=some (aw b)->b≠s:=λb e e2=>hs (by rw[e,e2];simp[aX])
 have main: ∀(d i:Nat) (h':aH) (cs:List Int) (mm mo:List (Int×Value)) (ops fails:Int),i+d=N.length->At h' s (i5 room (B.tabs tb m mc h3.size) N.length F.length off)->dD h' tb m 0 T->bu h' m mc cs ops fails->bO h' h3.size .i64 mm->mS T cs mm ((gH bl N).take i)->
   bO h' h5.size .u32 mo->sZ mo bl->aM [s] h h'->F111.wL9 (d+1) (aw s) (some h5.size) B.p N.length B.c (N.length:Int) (i:Int) h' K:=by
  intro d
  induction d with
  |zero=>
   intro i h' cs mm mo ops fails hd A T' M Mp L Mq Om O;rw[F111.sL9];rw[decide_eq_false ah,aJ];rw[List.take_of_length_le (by rw[ri];omega)]at L
   refine hK tb m mc h3.size h' ⟨A,H.O.only O (dis _ ak),H.own.only O λb hb=>dis _ (by simp[hb,aX]),H.fre.only O λb hb=>dis _ (by simp[hb]),H.cac.only O (dis _ ak) (dis _ ak) (dis _ ak),H.n8,H.len,H.sep⟩
    ⟨⟨T,⟨cs,mm,ops,fails,T',M,Mp,L⟩,hT1,hT,hT2⟩,?_,?_⟩ ⟨cs,mm,ops,fails,T',M,Mp,L⟩ ah g1 g2 ah O
   ·simp[SB.bt,SB.tabs];omega
   ·intro b hb hm;have:=H.lt HS.lt b hm;simp[SB.bt,SB.tabs]at hb;omega
  |succ d ih=>
   intro i h' cs mm mo ops fails hd A T' M Mp L Mq Om O;have hi:i<N.length:=ah;obtain⟨o,ho⟩: ∃o,N[i]? =some o:=⟨_,List.getElem?_eq_getElem hi⟩;have he:=wY (bl:=bl) ho;have W':cj h' 0 4 B.p N.length B.c (gI N):=W.only O λb hb=>dis _ (by simp[hb,aX])
   obtain⟨b,eb,rr⟩: ∃b,B.p=some (aw b)/\ ∀k,k<4->rd h' ⟨b,i*4+k,none⟩=(db o)[k]? :=by obtain⟨b,eb,r0⟩:=W'.rd (j:=i*4+0) (by rw[gw];omega);refine⟨b,eb,λk hk=> ?_⟩;obtain⟨b',e1',e2'⟩:=W'.rd (j:=i*4+k) (by rw[gw];omega);rw[eb]at e1';injection e1' with e1';injection e1' with e1';subst e1';rw[e2',pI N i o k ho hk]
   have hb:=hp b eb;have hbs:=hps b eb
   have hw:IntKind.wrap .u32 (ax ((i:Int)+2))=((i+2:Nat):Int):=by rw[wrap_i64 ah ah,show(i:Int)+2=((i+2:Nat):Int) by omega];exact gY ah
   have nx: ∀(k7:aH) (cs':List Int) (mm':List (Int×Value)) (ops' fails':Int),At k7 s (i5 room (B.tabs tb m mc h3.size) N.length F.length off)->dD k7 tb m 0 T->bu k7 m mc cs' ops' fails'->bO k7 h3.size .i64 mm'->mS T cs' mm' ((gH bl N).take (i+1))->bO k7 h5.size .u32 mo->aM [s] h k7->
     F111.wL9 (d+1) (aw s) (some h5.size) B.p N.length B.c (N.length:Int) (ax ((i:Int)+1)) k7 K:=λk7 cs' mm' ops' fails' A8 T8 M8 Mp8 L8 Mq8 O8=>by
    rw[show ax ((i:Int)+1)=((i+1:Nat):Int) by rw[wrap_i64 ah ah];omega];exact ih (i+1) k7 cs' mm' mo ops' fails' ah A8 T8 M8 Mp8 L8 Mq8 Om O8
   have skip:(if i+2∈bl then none else o)=none-> ∀k6,aM [] h' k6->F111.wL9 (d+1) (aw s) (some h5.size) B.p N.length B.c (N.length:Int) (ax ((i:Int)+1)) k6 K:=λe k6 P16=>by
    rw[e]at he;refine nx k6 cs mm ops fails (A.only P16 ak) (T'.only P16 ak) (M.only P16 ak ak) (Mp.only P16 ak) ?_ (Mq.only P16 ak) (O.trans P16 ak);refine L.congr (λk=> ?_) (by rw[ga he,nR];rfl);rw[ga he,vj];split
    ·next hh=>rw[py ah]
    ·rfl
   rw[F111.sL9];rw[decide_eq_true ah,aO,eb,aU];refine⟨ah,ah,?_⟩;rw[<-eb];simp only[aL,Nat.zero_add];rw[show Int.toNat (i:Int)*4=i*4 by omega,hw]
   obtain⟨tv,lv,av,bv,ec⟩: ∃tv lv av bv,db o=[aD tv,al lv,ap av,ap bv]:=by
    cases o with
    |none=>exact⟨_,_,_,_,rfl⟩
    |some x=>exact⟨_,_,_,_,rfl⟩
   rw[ec]at rr;refine aY (by rw[rr 0 ah];rfl) (aI (by rw[rr 1 ah];rfl) (aI (by rw[rr 2 ah];rfl) (aI (by rw[rr 3 ah];rfl) ?_)));refine aV λk1 B1 P1 y1=> ?_;refine aS B1 ak rfl λk2 B2 P2 y2=>aS B2 ak rfl λk3 B3 P3 y3=>aS B3 ak rfl λk4 B4 P4 y4=>aS B4 ak rfl λk5 B5 P5 y5=> ?_
   replace B5:At k5 h'.size [aD tv,al lv,ap av,ap bv]:=B5
   have P15:aM [] h' k5:=(((P1.trans P2 (by intro b hb hl;simp at hb;omega)).trans P3 (by intro b hb hl;simp at hb;omega)).trans P4 (by intro b hb hl;simp at hb;omega)).trans P5 (by intro b hb hl;simp at hb;omega)
   have tail: ∀(o12:Option (Nat×Value)),(o12.isSome=decide (i+2∈bl))->(kE (.agg #[]) o12= .agg #[])->lI (some (kE (.agg #[]) o12)) (λv13=>a9 k5 (.cells #[] 218) (λb14 h15=>dF Tryz.prog 218 (some (aw b14)) v13 h15 (λh16=>bI (rd h16 (aw h'.size)) (λb17=>aK b17 (aK (!(Option.isSome o12)) (bI (rd h16 (aw h'.size)) (λb18=>aQ .i64 (rd h16 ⟨h'.size,1,none⟩) (λn19=>aQ .u32 (rd h16 ⟨h'.size,2,none⟩) (λn20=>aQ .u32 (rd h16 ⟨h'.size,3,none⟩) (λn21=>Cl 160 [(au (aw s)),(ap ((i+2:Nat):Int)),(.agg #[(aD b18),(al n19),(ap n20),(ap n21)])] h16 (λv22 h23=>(v22=aE/\F111.wL9 (d+1) (aw s) (some h5.size) B.p N.length B.c (N.length:Int) (ax ((i:Int)+1)) h23 K))))))) (F111.wL9 (d+1) (aw s) (some h5.size) B.p N.length B.c (N.length:Int) (ax ((i:Int)+1)) h16 K)) (F111.wL9 (d+1) (aw s) (some h5.size) B.p N.length B.c (N.length:Int) (ax ((i:Int)+1)) h16 K))))):=by
    intro o12 e1 e2;rw[e2];refine⟨_,rfl,?_⟩;refine aV λk6 B6 P6 y6=> ?_;refine ja ?_;have C6:=B5.only P6 ak;have P16:aM [] h' k6:=P15.trans P6 ak;have rc: ∀k,rd k6 ⟨h'.size,k,none⟩=([aD tv,al lv,ap av,ap bv]:List Value)[k]? :=λk=>At.rd C6 k;refine aY (by rw[rc 0];rfl) ?_;rw[e1];cases o with
    |none=>
     simp only[db,List.cons.injEq,Value.bool.injEq]at ec;rw[<-ec.1,aJ];exact skip (by split<;>rfl) k6 P16
    |some x=>
     simp only[db,List.cons.injEq,Value.bool.injEq,Value.int.injEq,true_and,and_true]at ec;obtain⟨c1,c2,c3,c4⟩:=ec;rw[<-c1,aO];by_cases hm:i+2∈bl
     ·rw[decide_eq_true hm,Bool.not_true,aJ];exact skip (if_pos hm) k6 P16
     ·rw[decide_eq_false hm,Bool.not_false,aO];refine aY (by rw[rc 0];rfl) (aI (by rw[rc 1];rfl) (aI (by rw[rc 2];rfl) (aI (by rw[rc 3];rfl) ?_)));rw[<-c1,<-c2,<-c3,<-c4];rw[if_neg hm]at he;have hE:nd (gH bl N) i=some x:=cO.2 he
      have hnew:qI ((gH bl N).take i) (kf x):=λk y hy e=>by obtain⟨q1,q2⟩:=BY hy;have:=vT (hok k y q1) (hok i x hE) e;subst this;have:=honce _ _ _ q1 hE;omega
      have A7:=A.only P16 ak;have hc1:be ((gH bl N).take (i+1))=be ((gH bl N).take i)+1:=by rw[ga he,nR];rfl
      have hc2:be ((gH bl N).take (i+1))<=be (gH bl N):=(List.take_sublist _ _).countP_le
      refine uI A7 (t:=tb) (m:=m) (mc:=mc) (sb:=h3.size) (T:=T) (N':=(gH bl N).take (i+1)) rfl rfl (by simp;omega)
       (T'.only P16 ak) (M.only P16 ak ak) (Mp.only P16 ak) ah (by simp;omega) ah ah (by have:=(At.lt (T'.only P16 ak));omega) (by have:=((M.only P16 ak ak).head).lt;omega) (by have:=((M.only P16 ak ak).body).lt;omega)
       L (hok i x hE) hnew ah (py (by rw[List.length_take];omega)) (λk=> ?_) hc1 λk7 cs' mm' ops' fails' A8 T8 M8 Mp8 L8 O8=>⟨rfl,?_⟩
      ·rw[ga he,vj,List.length_take,ri,Nat.min_eq_left ah]
      ·have lq:h5.size<k6.size:=(Mq.only P16 ak).lt;exact nx k7 cs' mm' ops' fails' A8 T8 M8 Mp8 L8 ((Mq.only P16 ak).only O8 (by simp;omega)) ((O.trans P16 ak).trans O8 (by intro b hb hl;simp at hb ⊢;omega))
   refine dt (m:=mo) (Mq.only P15 ak) (λhn=> ?_) λj v hv=> ?_
   ·have:i+2∉bl:=λhm=>by
     rw[(Om (i+2)).1 hm]at hn;cases hn
    exact tail none (by rw[decide_eq_false this];rfl) rfl
   ·have:i+2∈bl:=Classical.byContradiction λhm=>by
     rw[(Om (i+2)).2 hm]at hv;cases hv
    rw[(Om (i+2)).1 this]at hv;injection hv with hv;subst hv;exact tail (some (j,.agg #[])) (by rw[decide_eq_true this];rfl) rfl
 have second: ∀(h':aH) (mo:List (Int×Value)),At h' s (i5 room (B.tabs tb m mc h3.size) N.length F.length off)->dD h' tb m 0 T->bu h' m mc (List.replicate T 0) 0 0->bO h' h3.size .i64 []->
   bO h' h5.size .u32 mo->sZ mo bl->aM [s] h h'->F111.wk8 (aw s) (some h5.size) h' K:=by
  intro h' mo A T' M Mp Mq Om O;unfold F111.wk8;simp only[aL,Nat.zero_add];refine bo (by rw[At.rd A];rfl) ?_;unfold F111.wk9;refine⟨_,main N.length 0 h' (List.replicate T 0) [] mo 0 0 ah A T' M Mp ?_ Mq Om O⟩
  have cz: ∀j,cell 0 (List.replicate T (0:Int)) j=0:=λj=>by unfold cell;rw[List.getD_eq_getElem?_getD,List.getElem?_replicate];split<;>rfl
  refine⟨ak,jQ.empty λi _=>cz i,λj _=> .inl (cz j),by simp[nd],?_,by simp[nd]⟩;rw[Be T λi _=>cz i]
  rfl
 unfold F111.wk4
 have first: ∀(d i:Nat) (h':aH) (mo:List (Int×Value)),i+d=bl.length->At h' s (i5 room (B.tabs tb m mc h3.size) N.length F.length off)->dD h' tb m 0 T->bu h' m mc (List.replicate T 0) 0 0->bO h' h3.size .i64 []->
   bO h' h5.size .u32 mo->sZ mo (bl.take i)->aM [s] h h'->F111.wL4 (d+1) (aw s) (some h5.size) bp bl.length bc (bl.length:Int) (i:Int) h' K:=by
  intro d
  induction d with
  |zero=>
   intro i h' mo hd A T' M Mp Mq Om O;rw[F111.sL4];rw[decide_eq_false ah,aJ];rw[List.take_of_length_le ah]at Om;exact second h' mo A T' M Mp Mq Om O
  |succ d ih=>
   intro i h' mo hd A T' M Mp Mq Om O;have hi:i<bl.length:=ah;obtain⟨a,ea,er⟩:=(hbl.only' O λa e hm=>hbs a e (by simpa using hm)) i (by simpa using hi);have e3:(bl.map λ(k:Nat)=>(k:Int)).getD i 0=(bl[i]:Int):=by simp[List.getD,hi]
   rw[e3]at er;rw[F111.sL4];rw[decide_eq_true ah,aO,ea,aU];refine⟨ah,ah,?_⟩;rw[<-ea,Nat.mul_one,Int.toNat_natCast,er];refine aI rfl ?_;refine ft Mq λk3 Mq3 P3 y3=> ?_
   rw[show ax ((i:Int)+1)=((i+1:Nat):Int) by rw[wrap_i64 ah ah];omega]
   have lq:=Mq.lt;refine ih (i+1) k3 _ ah (A.only P3 (by simp;omega)) (T'.only P3 (by simp;omega)) (M.only P3 (by simp;omega) (by simp;omega)) (Mp.only P3 (by simp;omega)) Mq3 (λk=> ?_) (O.trans P3 (by intro b hb hl;simp at hb;omega));rw[bX,List.take_add_one,List.getElem?_eq_getElem hi];simp only[Option.toList_some,List.mem_append,List.mem_singleton];refine⟨λhk=> ?_,λhk=> ?_⟩
   ·by_cases e:k=bl[i]
    ·rw[if_pos ah]
    ·rw[if_neg ah];exact(Om k).1 (hk.resolve_right e)
   ·rw[if_neg (λe=>hk (.inr ah))];exact(Om k).2 λhm=>hk (.inl hm)
 have Z6:sZ [] (bl.take 0):=λk=>⟨λhm=>by simp at hm,λ_=>rfl⟩;exact⟨_,first bl.length 0 h6 [] ah A6 ((T3.only O4 ak).only O5 (by simp;omega)|>.only O6 ak) (((M3.only O4 ak ak).only O5 (by simp;omega) (by simp;omega)).only O6 ak ak) (Mp5.only O6 ak) Mq6 Z6 O16⟩
end
section
structure nF(h:aH)(s n room:Nat)(B:SB)(f g:Nat->Nat)(N:ay)(F:List Nat)(Q:Int->Int->Prop)(off:Bool):Prop where
 m:gV h s n room B f g N F Q off
 t:vO h s B N
 ok:dz n N
 cnt:N.length=be N+F.length
 fre:F.Nodup/\ ∀a∈F,2<=a/\a-2<N.length/\nd N (a-2)=none
def dz.ndok{n:Nat}{N:ay}(H:dz n N)(hn:n<=8)(hl:N.length<=32768){i:Nat}{x:Nd}(hx:nd N i=some x):kA x:=by
 obtain⟨a,b,c,d,-⟩:=H.node i x hx
 have lt: ∀{y},isN N y->y<2^28:=λ{y} h=>by
  rcases h with h|⟨z,h⟩
  ·omega
  ·have:=iW h;omega
 exact⟨ah,lt b,lt c,d⟩
structure jN(N N':ay)(q:Nat)(x:Nd):Prop where
 was:nd N q=none
 get: ∀k,nd N' k=if k=q then some x else nd N k
 cnt:be N'=be N+1
 len:N.length<=N'.length/\N'.length<=N.length+1
def jN.isN{N N':ay}{q:Nat}{x:Nd}(P:jN N N' q x){a:Nat}(h:isN N a):isN N' a:=by
 rcases h with h|⟨y,h⟩
 ·exact .inl h
 ·refine .inr ?_;rw[P.get];split
  ·exact⟨_,rfl⟩
  ·exact⟨y,h⟩
def jN.old{N N':ay}{q:Nat}{x:Nd}(P:jN N N' q x){i:Nat}{y:Nd}(h:nd N i=some y):nd N' i=some y:=by
 rw[P.get,if_neg]
 ·exact h
 ·intro e;subst e;rw[P.was]at h;cases h
def jN.lvl{N N':ay}{q n:Nat}{x:Nd}(P:jN N N' q x){a:Nat}(h:Ev.isN N a):lvl n N' a=lvl n N a:=by
 unfold Ev.lvl;rcases h with h|⟨y,h⟩
 ·rw[if_pos h,if_pos h]
 ·rw[P.old h,h]
def jN.ok{n:Nat}{N N':ay}{q:Nat}{x:Nd}(P:jN N N' q x)(H:dz n N)(h1:x.1<n)(h2:Ev.isN N x.2.1)(h3:Ev.isN N x.2.2)(h4:x.2.1≠x.2.2)(h5:x.1<Ev.lvl n N x.2.1)(h6:x.1<Ev.lvl n N x.2.2)(h7: ∀i,nd N i≠some x):dz n N':=by
 refine⟨λi y hy=> ?_,λi j y hi hj=> ?_⟩
 ·rw[P.get]at hy;split at hy
  ·injection hy with hy;subst hy;exact⟨h1,P.isN h2,P.isN h3,h4,by rw[P.lvl h2];exact h5,by rw[P.lvl h3];exact h6⟩
  ·obtain⟨a,b,c,d,e,f⟩:=H.node i y hy;exact⟨a,P.isN b,P.isN c,d,by rw[P.lvl b];exact e,by rw[P.lvl c];exact f⟩
 ·rw[P.get]at hi hj;split at hi
  ·injection hi with hi;subst hi;split at hj
   ·omega
   ·exact absurd hj (h7 j)
  ·split at hj
   ·injection hj with hj;subst hj;exact absurd hi (h7 i)
   ·exact H.once i j y hi hj
def JA(room:Nat)(N E:ay)(l a b:Nat)(N':ay)(r e:Nat):Prop:=
 (a=b/\r=a/\e=0/\N'=N)\/(a≠b/\ ∃i,nd E i=some (l,a,b)/\r=i+2/\e=0/\N'=N)\/
 (a≠b/\(∀i,nd E i≠some (l,a,b))/\room<=be N/\r=0/\e=60/\N'=N)\/
 (a≠b/\(∀i,nd E i≠some (l,a,b))/\be N<room/\e=0/\ ∃q,r=q+2/\jN N N' q (l,a,b))
def jr(room:Nat)(N:ay)(l a b:Nat)(N':ay)(r e:Nat):Prop:=
 (a=b/\r=a/\e=0/\N'=N)\/(a≠b/\ ∃i,nd N i=some (l,a,b)/\r=i+2/\e=0/\N'=N)\/
 (a≠b/\(∀i,nd N i≠some (l,a,b))/\room<=be N/\r=0/\e=60/\N'=N)\/
 (a≠b/\(∀i,nd N i≠some (l,a,b))/\be N<room/\e=0/\ ∃q,r=q+2/\jN N N' q (l,a,b))
section
variable {h:aH}{s n room:Nat}{B:SB}{f g:Nat->Nat}{N:ay}{F:List Nat}{Q:Int->Int->Prop}{off:Bool}{K:KK}
def nF.only{L:List Nat}{h':aH}(H:nF h s n room B f g N F Q off)(O:aM L h h')(h1: ∀b∈L,b∉B.bm s/\b∉B.bt):nF h' s n room B f g N F Q off:=
 ⟨H.m.only O λb hb=>(h1 b hb).1,H.t.only O λb hb=>(h1 b hb).2,H.ok,H.cnt,H.fre⟩
def rA: ∀{A C:ay},(∀i,nd A i=nd C i)->be A=be C:=by
 have z: ∀{C:ay},(∀i,nd C i=none)->be C=0:=by
  intro C
  induction C with
  |nil=>intro _;rfl
  |cons o C ih=>
   intro h;have h0:o=none:=by have:=h 0;simpa[nd]using this
   have:=ih λi=>by have:=h (i+1);simpa[nd]using this
   unfold be at this ⊢;rw[List.countP_cons,this,h0]
   rfl
 intro A
 induction A with
 |nil=>intro C h;rw[z λi=>(by rw[<-h];rfl:nd C i=none)];rfl
 |cons o A ih=>
  intro C h;cases C with
  |nil=>rw[z λi=>(by rw[h];rfl:nd (o::A) i=none)];rfl
  |cons p C=>
   have h0:o=p:=by have:=h 0;simpa[nd]using this
   have:=ih (C:=C) λi=>by have:=h (i+1);simpa[nd]using this
   unfold be at this ⊢;rw[List.countP_cons,List.countP_cons,this,h0]
def uM: ∀{A C:ay},(∀i x,nd A i=some x->nd C i=some x)->be A<=be C:=by
 intro A
 induction A with
 |nil=>intro C _;exact Nat.zero_le _
 |cons o A ih=>
  intro C h;cases C with
  |nil=>
   have h0:o=none:=by
    cases o with
    |none=>rfl
    |some x=>have:=h 0 x (by simp[nd]);simp[nd]at this
   have:=ih (C:=[]) λi x hx=>(by have:=h (i+1) x (by simpa[nd]using hx);simp[nd]at this);unfold be at this ⊢;rw[List.countP_cons,h0];simpa using this
  |cons p C=>
   have:=ih (C:=C) λi x hx=>by have:=h (i+1) x (by simpa[nd]using hx);simpa[nd]using this
   unfold be at this ⊢;rw[List.countP_cons,List.countP_cons];cases o with
   |none=>simp;omega
   |some x=>
    have h0:p=some x:=by have:=h 0 x (by simp[nd]);simpa[nd]using this
    rw[h0];simp;omega
def wQ{A C:ay}{q:Nat}{x:Nd}(h0:nd A q=none)(h: ∀i,nd C i=if i=q then some x else nd A i):be C=be A+1:=by
 obtain⟨A',eA⟩: ∃A',A'=A++List.replicate (q+1) none:=⟨_,rfl⟩
 have nA: ∀i,nd A' i=nd A i:=λi=>by
  unfold nd;rw[eA];by_cases hi:i<A.length
  ·rw[List.getElem?_append_left hi]
  ·rw[List.getElem?_append_right ah,List.getElem?_replicate,List.getElem?_eq_none ah];split<;>rfl
 have lt:q<A'.length:=by rw[eA];simp;omega
 have e0:A'[q]? =some none:=by have:=nA q;rw[h0]at this;unfold nd at this;rw[List.getElem?_eq_getElem lt]at this ⊢;simpa using this
 rw[<-rA nA,<-oD (x:=x) e0];exact rA λi=>by rw[h,dX lt,nA]
def Ag(A:ay)(q:Nat)(x:Nd):ay:=(A++List.replicate (q+1) none).set q (some x)
def lc{A:ay}{q:Nat}{x:Nd}(_:nd A q=none)(i:Nat):nd (Ag A q x) i=if i=q then some x else nd A i:=by
 unfold Ag;rw[dX (by simp;omega)];split
 ·rfl
 ·unfold nd;by_cases hi:i<A.length
  ·rw[List.getElem?_append_left hi]
  ·rw[List.getElem?_append_right ah,List.getElem?_replicate,List.getElem?_eq_none ah];split<;>rfl
set_option maxRecDepth 100000 in
def wU{E:ay}{T:Nat}(H:gV h s n room B f g N F Q off)(Tm:gZ h B E T)(bn:B.bt.Nodup)(bs: ∀b∈B.bt,b∉B.bm s)(hc:N.length=be N+F.length)(hfre:F.Nodup/\ ∀a∈F,2<=a/\a-2<N.length/\nd N (a-2)=none){l a b:Nat}(hx:kA (l,a,b))(hnew:qI E (kf (l,a,b)))
  (hr:be N<room) (hE:be E<T) (hT:T<=262144) (hqE: ∀q,nd N q=none->nd E q=none)
  (hK: ∀h' B' N' F' q,jN N N' q (l,a,b)->gV h' s n room B' f g N' F' Q off->(∀E',(∀k,nd E' k=if k=q then some (l,a,b)else nd E k)->gZ h' B' E' T)->B'.bt.Nodup->(∀b∈B'.bt,b∉B'.bm s)->N'.length=be N'+F'.length->(F'.Nodup/\ ∀a∈F',2<=a/\a-2<N'.length/\nd N' (a-2)=none)->
   aM (B.bm s++B.bt) h h'->(∀y∈B'.bm s++B'.bt,y∈B.bm s++B.bt\/h.size<=y)->K (.tuple #[ap ((q+2:Nat):Int),al 0]) h'):
  F161.wk17 (aw s) (l:Int) (a:Int) (b:Int) h K:=by
 have hn8:=H.n8;have hlen:=H.len;unfold F161.wk17;refine AG H (λe=>by subst e;simp at hc;omega) λh1 p' c' N1 F1 a1 R H1 O1 hp=>aI rfl ?_
 have hsub: ∀b∈s::aX B.p,b∈B.bm s:=λb hb=>by
  rcases List.mem_cons.1 hb with e|hb
  ·subst e;simp[SB.bm]
  ·simp only[SB.bm,List.mem_append];exact .inl (.inr hb)
 have Tm1:gZ h1 {B with p:=p',c:=c'} E T:=Tm.only O1 λb hb hm=>bs b hm (hsub b hb)
 have bs1: ∀b∈B.bt,b∉SB.bm {B with p:=p',c:=c'} s:=λb hb hm=>by
  rcases(SB.grow (c':=c') H.sep H.lt hp).2 b hm with h2|h2
  ·exact bs b hb h2
  ·have:=Tm.lt b hb;omega
 obtain⟨q,eq,hq,hN1,hc1,hq0,hlen1,hF1⟩: ∃q,a1=q+2/\N1[q]? =some none/\(∀k,nd N1 k=nd N k)/\be N1=be N/\nd N q=none/\(N.length<=N1.length/\N1.length<=N.length+1)/\(N1.length=be N+F1.length+1/\F1.Nodup/\a1∉F1/\ ∀a∈F1,2<=a/\a-2<N1.length/\nd N (a-2)=none):=by
  rcases R with⟨e1,e2,e3,e4⟩|⟨e1,e2⟩
  ·subst e1 e2 e3;refine⟨N.length,e4,ak,λk=> ?_,by rw[nR];rfl,py (Nat.le_refl _),ak,by simp at hc;simp;omega,ak,ak,ak⟩;rw[vj];split
   ·next e=>rw[py ah]
   ·rfl
  ·subst e1 e2;obtain⟨g1,g2⟩:=hfre;obtain⟨f1,f2,f3⟩:=g2 a1 ak;refine⟨a1-2,ah,?_,λ_=>rfl,rfl,f3,ah,by simp at hc;omega,(List.nodup_append.1 g1).1,λhm=>(List.nodup_append.1 g1).2.2 a1 hm a1 ak rfl,λa ha=>g2 a (by simp[ha])⟩;obtain⟨o,ho⟩: ∃o,N1[a1-2]? =some o:=⟨_,List.getElem?_eq_getElem f2⟩;unfold nd at f3;rw[ho]at f3 ⊢;simp at f3;rw[f3]
 subst eq;have hql:q<N1.length:=(List.getElem?_eq_some_iff.1 hq).1;have hl1:=H1.len
 have wq:IntKind.wrap .u32 (((q+2:Nat):Int)-2)=((q:Nat):Int):=by have:=qz (a:=q+2) ah ah;rw[this];simp
 simp only[aL,Nat.zero_add];have rs1:rd h1 ⟨s,2,none⟩=some (.slice p' N1.length c'):=by rw[At.rd H1.S];rfl
 obtain⟨b0,e1,-⟩:=H1.cells hq;have e1:p'=some (aw b0):=e1;refine bo rs1 ?_;rw[e1,aU,wq];refine⟨ah,ah,?_⟩;rw[aL,show 0+Int.toNat (q:Int)*4=q*4 by omega];simp only[aL];have W1:=H1.own;rw[show SB.p {B with p:=p',c:=c'}=some (aw b0)from e1]at W1;have nl:(gI N1).length=N1.length*4:=gw N1;refine cj.set W1 ah rfl λh2 W2 O2=>cj.set W2 (by simp;omega) rfl λh3 W3 O3=>cj.set W3 (by simp;omega) rfl λh4 W4 O4=>cj.set W4 (by simp;omega) rfl λh5 W5 O5=> ?_;rw[mC N1 q (some (l,a,b)) _ _ _ _ hql rfl]at W5;have O25:aM [b0] h1 h5:=((O2.trans O3 ak).trans O4 ak).trans O5 ak;have hsep1:=H1.sep
 have nb: ∀y∈[s,B.ob,B.cac,B.cm,B.cmc]++aX B.fp,y∉[b0]:=λy hy hm=>by
  simp only[List.mem_singleton]at hm;subst hm;unfold SB.bm at hsep1;simp only[List.nodup_append,List.mem_append,ne_eq]at hsep1;obtain⟨⟨_,_,g2⟩,_,g4⟩:=hsep1;have hmp:y∈aX p':=by rw[e1];simp[aX]
  rcases List.mem_append.1 hy with h|h
  ·exact g2 y h y hmp rfl
  ·exact g4 y (.inr hmp) y h rfl
 have H5:gV h5 s n room {B with p:=p',c:=c'} f g (N1.set q (some (l,a,b))) F1 Q off:=by have el:(N1.set q (some (l,a,b))).length=N1.length:=ak;refine⟨by rw[el];exact H1.S.only O25 (nb _ ak),H1.O.only O25 (nb _ ak),by rw[el,show SB.p {B with p:=p',c:=c'}=some (aw b0)from e1];exact W5,H1.fre.only O25 λy hy=>nb _ (by simp only[List.mem_append];exact .inr hy),H1.cac.only O25 (nb _ ak) (nb _ ak) (nb _ ak),H1.n8,by rw[el];exact H1.len,H1.sep⟩
 have Tm5:gZ h5 {B with p:=p',c:=c'} E T:=Tm1.only O25 λy hy hm=>by simp only[List.mem_singleton]at hy;subst hy;exact bs1 y hm (by simp only[SB.bm,List.mem_append];exact .inl (.inr (by rw[e1];simp[aX])))
 have P:jN N (N1.set q (some (l,a,b))) q (l,a,b):=by
  refine⟨hq0,λk=> ?_,?_,by simp;omega⟩
  ·rw[dX hql,hN1]
  ·rw[oD hq,hc1]
 have rs5:rd h5 ⟨s,2,none⟩=some (.slice p' N1.length c'):=by
  have:=H5.S;rw[show(N1.set q (some (l,a,b))).length=N1.length by simp]at this;rw[At.rd this]
  rfl
 refine bo rs5 ?_;rw[e1,aU];refine⟨ah,ah,?_⟩;rw[aL,show 0+Int.toNat (q:Int)*4=q*4 by omega];simp only[aL];obtain⟨b5,e5,r5⟩:=H5.cells (i:=q) (o:=some (l,a,b)) (by rw[List.getElem?_set_self hql])
 have:b5=b0:=by have e5:p'=some (aw b5):=e5;rw[e1]at e5;injection e5 with e5;injection e5 with e5;exact e5.symm
 subst this;refine aY (by rw[r5 0 ah];rfl) (aI (by rw[r5 1 ah];rfl) (aI (by rw[r5 2 ah];rfl) (aI (by rw[r5 3 ah];rfl) ?_)));have bl:=Tm5.lt;obtain⟨cs,mm,ops,fails,t1,t2,t3,L⟩:=Tm5;have nn:=bn;simp only[SB.bt,List.nodup_cons,List.mem_cons,List.not_mem_nil,or_false,not_or,List.nodup_nil,and_true,not_false_eq_true]at nn;have sp:s∉B.bt:=λhm=>bs s hm (by simp[SB.bm]);simp only[SB.bt,List.mem_cons,List.not_mem_nil,or_false,not_or]at sp;have S5:=H5.S;rw[show(N1.set q (some (l,a,b))).length=N1.length by simp]at S5
 refine uI S5 (t:=B.tb) (m:=B.m) (mc:=B.mc) (sb:=B.sb) (T:=T) rfl rfl (by simp;omega) t1 t2 t3 ah (by simp;omega) ah ah (bl _ (by simp[SB.bt])) (bl _ (by simp[SB.bt])) (bl _ (by simp[SB.bt]))
  (N':=Ag E q (l,a,b)) L hx hnew ah (hqE q hq0) (lc (hqE q hq0)) (wQ (hqE q hq0) (lc (hqE q hq0))) λh6 cs' mm' ops' fails' A6 T6 M6 Mp6 L6 O6=>⟨rfl,?_⟩
 have Hm6:=H5.only O6 λy hy hm=>bs1 y (by simp[SB.bt]at hy ⊢;omega) hm;refine hK h6 {B with p:=p',c:=c'} _ F1 q P Hm6 (λE' hE'=>⟨cs',mm',ops',fails',T6,M6,Mp6,L6.congr (λk=>by rw[hE',lc (hqE q hq0)]) (rA λk=>by rw[hE',lc (hqE q hq0)])⟩) bn bs1 (by simp only[List.length_set];rw[P.cnt];omega) ⟨hF1.2.1,λy hy=> ?_⟩ ?_ λy hy=> ?_
 ·obtain⟨z1,z2,z3⟩:=hF1.2.2.2 y hy;refine⟨z1,by simp only[List.length_set];exact z2,?_⟩;rw[P.get,if_neg]
  ·exact z3
  ·intro e;apply hF1.2.2.1;rw[show q+2=y by omega];exact hy
 ·refine((aM.mono O1 λy hy _=> ?_).trans O25 λy hy hlt=> ?_).trans O6 λy hy _=> ?_
  ·simp only[List.mem_append];exact .inl (hsub y hy)
  ·simp only[List.mem_singleton]at hy;subst hy;rcases hp y (by rw[e1];simp[aX])with h7|h7
   ·simp only[List.mem_append];exact .inl (hsub y (by simp[h7]))
   ·omega
  ·simp only[List.mem_append,SB.bt];simp at hy ⊢;omega
 ·rcases List.mem_append.1 hy with hy|hy
  ·rcases(SB.grow (c':=c') H.sep H.lt hp).2 y hy with h7|h7
   ·exact .inl (List.mem_append.2 (.inl h7))
   ·exact .inr h7
  ·exact .inl (List.mem_append.2 (.inr hy))
end
end
section
section
variable {h:aH}{s n room:Nat}{B:SB}{f g:Nat->Nat}{N:ay}{F:List Nat}{Q:Int->Int->Prop}{off:Bool}{K:KK}
set_option maxRecDepth 100000 in
def IU{U:List Nat}{T:Nat}(Hm:gV h s n room B f g N F Q off)(Tm:gZ h B (gH U N) T)(bn:B.bt.Nodup)(bs: ∀b∈B.bt,b∉B.bm s)(t5: ∃k,T=32*2^k)(t7:T<=262144)(hc:N.length=be N+F.length)(hfre:F.Nodup/\ ∀a∈F,2<=a/\a-2<N.length/\nd N (a-2)=none)
  (ok: ∀i x,nd (gH U N) i=some x->kA x) {l a b:Nat} (hl:l<n) (ha:isN N a) (hb:isN N b) (la:l<lvl n N a) (lb:l<lvl n N b) (hg:2*(be N+1)<=T\/U=[]/\dz n N/\2*be N<=T) (hU: ∀c∈U,2<=c/\nd N (c-2)≠none)
  (hK: ∀h' B' N' F' r e T',JA room N (gH U N) l a b N' r e->gV h' s n room B' f g N' F' Q off->gZ h' B' (gH U N') T'->(2*(be N+1)<=T->T'=T)->(U=[]->2*be N<=T->2*be N'<=T')->(∃k,T'=32*2^k)->T'<=262144->B'.bt.Nodup->(∀b∈B'.bt,b∉B'.bm s)->N'.length=be N'+F'.length->(F'.Nodup/\ ∀a∈F',2<=a/\a-2<N'.length/\nd N' (a-2)=none)->
   aM (B.bm s++B.bt) h h'->(∀y∈B'.bm s++B'.bt,y∈B.bm s++B.bt\/h.size<=y)->K (.tuple #[ap (r:Int),al (e:Int)]) h'):
  Cl 161 [au (aw s),al (l:Int),ap (a:Int),ap (b:Int)] h K:=by
 have hn8:=Hm.n8;have hlen:=Hm.len
 have T32:32<=T:=by obtain⟨k,e⟩:=t5;have:=Nat.two_pow_pos k;omega
 have el:be (gH U N)<=be N:=uM λi x hx=>by
  rw[gG]at hx;split at hx
  ·cases hx
  ·exact hx
 have ha':=isN_lt Hm ha;have hb':=isN_lt Hm hb;refine F161.spec ?_;rw[decide_eq_false ah,aJ];refine vk Hm (aI rfl ?_);rw[decide_eq_false ah,aJ];refine FD Hm ah (λ_=>aY rfl ?_) λe=>absurd ha e;rw[Bool.not_true,aJ];refine FD Hm ah (λ_=>aY rfl ?_) λe=>absurd hb e;rw[Bool.not_true,aJ];refine lu Hm ha (aI rfl ?_);rw[decide_eq_false ah,aJ];refine lu Hm hb (aI rfl ?_);rw[decide_eq_false ah,aJ];refine aT (λhe=> ?_) λhe=> ?_
 ·have he:a=b:=by
   have:(a:Int)=b:=by simpa using he
   omega
  exact hK h B N F a 0 T (.inl ⟨he,rfl,rfl,rfl⟩) Hm Tm (λ_=>rfl) (λ_=>id) t5 t7 bn bs hc hfre (aM.refl _ _) λy hy=> .inl hy
 have hne:a≠b:=λe=>by subst e;simp at he
 unfold F161.wk9;have hx:kA (l,a,b):=⟨by show l<256;omega,by show a<2^28;omega,by show b<2^28;omega,hne⟩;refine Eg hx.1 hx.2.1 hx.2.2.1 (aI rfl ?_)
 have hmb: ∀y∈[B.m,B.mc],y∈B.bm s++B.bt:=λy hy=>by simp only[List.mem_append,SB.bt];simp at hy ⊢;omega
 have hk0:tT l a b≠0:=by have:=tJ hx;unfold kf at this;exact this
 refine GN (k:=tT l a b) Hm Tm bn bs ah t7 hk0 (λh1 i x hx1 hx2 O1 T1=>⟨_,_,rfl,?_⟩) λh1 hnk O1 T1=>⟨_,_,rfl,?_⟩
 ·rw[aO];have:=vT (ok i x hx1) hx hx2;subst this;exact hK h1 B N F (i+2) 0 T (.inr (.inl ⟨hne,i,hx1,rfl,rfl,rfl⟩)) (Hm.only O1 λy hy hm=>bs y (by simp[SB.bt]at hy ⊢;omega) hm) T1 (λ_=>rfl) (λ_=>id) t5 t7 bn bs hc hfre (O1.mono λy hy _=>hmb y hy) λy hy=> .inl hy
 ·have H1:gV h1 s n room B f g N F Q off:=Hm.only O1 λy hy hm=>bs y (by simp[SB.bt]at hy ⊢;omega) hm;have OO:aM (B.bm s++B.bt) h h1:=O1.mono λy hy _=>hmb y hy;have hnew: ∀i,nd (gH U N) i≠some (l,a,b):=λi hi=>hnk i _ hi rfl;have hcl:=lE N;rw[aJ];simp only[aL,Nat.zero_add,Nat.add_zero];have r0:rd h1 (aw s)=some (al (room:Int)):=by rw[At.rd H1.S];rfl
  have r4:rd h1 ⟨s,4,none⟩=some (au (aw B.tb)):=by rw[At.rd H1.S];rfl
  refine aI r0 (tP H1 hc (aI rfl ⟨trivial,trivial,trivial,aI r0 ⟨rfl,?_⟩⟩));refine aT (λhf=> ?_) λhf=> ?_
  ·have hf:=of_decide_eq_true hf;exact hK h1 B N F 0 60 T (.inr (.inr (.inl ⟨hne,hnew,ah,rfl,rfl,rfl⟩))) H1 T1 (λ_=>rfl) (λ_=>id) t5 t7 bn bs hc hfre OO λy hy=> .inl hy
  have hf:=of_decide_eq_false hf;have hr:be N<room:=ah
  have era0: ∀q,nd N q=none->nd (gH U N) q=none:=λq hq=>by
   rw[gG];split
   ·rfl
   ·exact hq
  have eraP: ∀{N' q},jN N N' q (l,a,b)-> ∀k,nd (gH U N') k=if k=q then some (l,a,b)else nd (gH U N) k:=λ{N' q} P k=>by
   rw[gG,gG,P.get];by_cases e:k=q
   ·rw[if_pos e,if_pos e,if_neg];intro hm;have:=(hU _ hm).2;rw[show k+2-2=k by omega,e,P.was]at this;exact this rfl
   ·rw[if_neg e,if_neg e]
  obtain⟨cs,mm,o,f',t1,t2,t3,L⟩:=id T1;refine aR r4 (tP H1 hc (aI rfl ⟨trivial,trivial,trivial,aR r4 ⟨rfl,gC t1 (aI rfl ⟨by trivial,by trivial,?_⟩)⟩⟩));have w1:ax ((be N:Int)+1)=((be N+1:Nat):Int):=by rw[wrap_i64 ah ah];omega
  have w2:ax (2*((be N+1:Nat):Int))=((2*(be N+1):Nat):Int):=by rw[wrap_i64 ah ah];omega
  rw[w1,w2];refine aT (λhq=> ?_) λhq=> ?_
  ·have hq:=of_decide_eq_true hq;obtain⟨e0,ok0,t6⟩:=hg.resolve_left ah;subst e0;have w3:ax (2*(T:Int))=((2*T:Nat):Int):=by rw[wrap_i64 ah ah];omega
   refine aR r4 (gC t1 (aI rfl ?_));rw[w3];have hsz:s<h1.size:=H1.S.lt
   refine nN (bl:=[]) H1.S H1.r (λi hi=>absurd hi ak) (λa e=>by cases e) ak ok (by rw[dE];exact ok0.once) (by obtain⟨k,e⟩:=t5;exact⟨k+1,by rw[e,Nat.pow_succ];omega⟩) (by rw[dE];omega) ah
    λtb m mc sb h2 H2 T2 TX g1 g2 g3 g4 O2=>⟨rfl,?_⟩
   have hsm:s∈B.bm s:=by simp[SB.bm]
   refine wU H2 TX T2.nd T2.sep hc hfre hx hnk hr ah ah era0 λh3 B3 N3 F3 q P S3 T3 n3 s3 c3 f3 O3 fr=>hK h3 B3 N3 F3 (q+2) 0 (2*T) (.inr (.inr (.inr ⟨hne,hnew,hr,rfl,q,rfl,P⟩))) S3 (T3 _ (eraP P)) (λw=>ah) (λ_ w=>by rw[P.cnt];omega) (by obtain⟨k,e⟩:=t5;exact⟨k+1,by rw[e,Nat.pow_succ];omega⟩) ah n3 s3 c3 f3 ?_ λy hy=> ?_
   ·refine(OO.trans O2 λy hy _=> ?_).trans O3 λy hy hlt=> ?_
    ·simp only[List.mem_singleton]at hy;subst hy;exact List.mem_append.2 (.inl hsm)
    ·rcases List.mem_append.1 hy with hy|hy
     ·exact List.mem_append.2 (.inl hy)
     ·have:=OO.size;simp[SB.bt,SB.tabs]at hy;omega
   ·rcases fr y hy with hy|hy
    ·rcases List.mem_append.1 hy with hy|hy
     ·exact .inl (List.mem_append.2 (.inl hy))
     ·have:=OO.size;simp[SB.bt,SB.tabs]at hy;exact .inr ah
    ·have:=OO.size;have:=O2.size;exact .inr ah
  ·have hq:=of_decide_eq_false hq;refine wU H1 T1 bn bs hc hfre hx hnk hr ah t7 era0 λh3 B3 N3 F3 q P S3 T3 n3 s3 c3 f3 O3 fr=>hK h3 B3 N3 F3 (q+2) 0 T (.inr (.inr (.inr ⟨hne,hnew,hr,rfl,q,rfl,P⟩))) S3 (T3 _ (eraP P)) (λ_=>rfl) (λ_ w=>by rw[P.cnt];omega) t5 t7 n3 s3 c3 f3 (OO.trans O3 λy hy _=>hy) λy hy=> ?_;rcases fr y hy with hy|hy
   ·exact .inl hy
   ·have:=OO.size;exact .inr ah
set_option maxRecDepth 100000 in
def Il(H:nF h s n room B f g N F Q off){l a b:Nat}(hl:l<n)(ha:isN N a)(hb:isN N b)(la:l<lvl n N a)(lb:l<lvl n N b)
  (hK: ∀h' B' N' F' r e,jr room N l a b N' r e->nF h' s n room B' f g N' F' Q off->aM (B.bm s++B.bt) h h'->(∀y∈B'.bm s++B'.bt,y∈B.bm s++B.bt\/h.size<=y)->K (.tuple #[ap (r:Int),al (e:Int)]) h'):
  Cl 161 [au (aw s),al (l:Int),ap (a:Int),ap (b:Int)] h K:=by
 obtain⟨T,t,t5,t6,t7⟩:=H.t.tab;have n8:=H.m.n8;have hl':=H.m.len;have t':gZ h B (gH [] N) T:=by rw[dE];exact t
 refine IU (U:=[]) H.m t' H.t.nd H.t.sep t5 t7 H.cnt H.fre (by rw[dE];exact λi x hx=>H.ok.ndok n8.2 ah hx) hl ha hb la lb (.inr ⟨rfl,H.ok,t6⟩) (λc hc=>by cases hc) λh' B' N' F' r e T' R S1 T1 _ c6 k5 k7 n1 s1 c1 f1 O1 fr=> ?_;rw[dE]at R T1;have R:jr room N l a b N' r e:=R;refine hK h' B' N' F' r e R ⟨S1,⟨⟨T',T1,k5,c6 rfl t6,k7⟩,n1,s1⟩,?_,c1,f1⟩ O1 fr;rcases R with⟨-,-,-,e1⟩|⟨-,i,-,-,-,e1⟩|⟨-,-,-,-,-,e1⟩|⟨hne,hnew,-,-,q,-,P⟩
 ·rw[e1];exact H.ok
 ·rw[e1];exact H.ok
 ·rw[e1];exact H.ok
 ·exact P.ok H.ok hl ha hb hne la lb hnew
end
end
end Go.Proofs.YtnofenejoebkhaaGreat.Ev
