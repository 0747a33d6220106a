/- PART 2 OF WHAT THE LAW WholeTotal STANDS ON. Conditions: none but those that each lemma states. -/
import Derived.Test.YtnofenejoebkhaaGreatG1
import Derived.WalkKit
import Derived.ProofKit
import Derived.OpenShut
import Derived.Carry
import Derived.Deep.Slices
import Derived.Laws.AppendOwn
namespace Go.Proofs.YtnofenejoebkhaaGreat.Ev
open Go
set_option linter.defProp false
set_option maxRecDepth 100000
set_option autoImplicit true
set_option relaxedAutoImplicit true
section
open Go Go.ChangeShapes Go.WideShapes Go.ChangeAt Go.RowKit
def hZ(h:aI)(v:Value)(h':aI):Prop:=v= .bool true/\aM [] h h'
def Lk(w:World)(a:Addr):w.frozen? a=fz w.heap a:=by
 unfold World.frozen? fz
 rfl
def law_calls{args:List Value}{W:World}(H:kM P f args W.heap (hZ W.heap)):
  Calls P f args.toArray W λe W'=>e= .returned (.bool true)/\Below W.heap.size W W'/\ ∀a,W'.frozen? a=W.frozen? a:=by
 refine(H W rfl).mono λe W' ⟨v,he,hs,hv,hO⟩=> ?_;subst hv;exact⟨he,⟨hs.1,hs.2.1,hs.2.2,hO.size,λk hk=>hO.same k hk ak⟩,λa=>by rw[Lk,Lk];exact hO.fzn a⟩
def ku{H:Type}{a:TypeId×Value->H}{P:Program}(hl:laidOutB P=true){W W':World}{sp:Nat->Bool}:
  ∀(ts:List TypeId) (vs:List Value) (ds:List (DataW H)) (ps:List MemPlace),ts.all (λt=>P.readableRec t&&decide (t<P.types.size))=true->
   DataW.TrodAll a P W 0 (λ_=>true) true ts vs ds ps->(∀p∈ps,W.sameAt W' p)->(∀p∈ps,sp p.block=true)->DataW.TrodAll a P W' 0 sp true ts vs ds ps
 | [],[],[],_,_,h,_,_=>h
 |t::ts,v::vs,d::ds,ps,hr,⟨p,q,hd,hds,e⟩,hsame,hsp=>by
  subst e;simp only[List.all_cons,MG,Mu]at hr
  exact⟨p,q,WideElems.Trod_stays hl hr.1.1 hr.1.2 hd (λx hx=>hsame x (Zp (.inl hx))) (λx hx=>hsp x (Zp (.inl hx))),
   ku hl ts vs ds q hr.2 hds (λx hx=>hsame x (Zp (.inr hx))) (λx hx=>hsp x (Zp (.inr hx))),rfl⟩
 | [],_::_,_,_,_,h,_,_=>h.elim
 | [],[],_::_,_,_,h,_,_=>h.elim
 |_::_,[],_,_,_,h,_,_=>h.elim
 |_::_,_::_,[],_,_,h,_,_=>h.elim
def post_law{H:Type}{j:TypeId×Value->H}{P:Program}{f:Func}{s:ChangeSpec}{d i e fy:Bool}{W W':World}{args:Array Value}{ds gs:List (DataW H)}{b:List MemPlace}{tb:TypeId}
  (hl:laidOutB P=true) (h:f.params.toList.all (λt=>P.readableRec t&&decide (t<P.types.size))=true)
  (g:f.resultTypes= #[tb]) (hb:P.underlying tb=some .bool) (c:s.vars=[])
  (hW:DataW.Whole j P f.params.toList s.vars d W args.toList ds gs b)
  (hs:s.fn H ds={results:=[.lit (.bool true)],args:=ds})
  (hB:Below W.heap.size W W') (l: ∀a,W'.frozen? a=W.frozen? a):s.post j P f d i e fy W args (.bool true) W':=by
 have m: ∀p∈b,p.block<W.heap.size:=λp hp=>hW.lt p hp;obtain⟨p,q,hA,hV,rfl,hz,hn⟩:=id hW;rw[c]at hV
 obtain⟨rfl,rfl⟩:gs=[]/\q=[]:=by
  cases gs with
  |nil=>exact⟨rfl,hV⟩
  |cons _ _=>exact hV.elim
 refine post_of_same (pa:=p) (pv:=[]) hW (λ_ _ _=> ?_) (λsp k=> ?_) (λsp k=> ?_) rfl (hB.frame _) l ?_
 ·rw[g,List.append_nil,hs];exact trodAll_cons_mk (shut_bool hb _) trodAll_mk0
 ·rw[List.append_nil,hs];exact ku hl _ _ _ _ h hA (λx hx=>hB.same (m x (Zp (.inl hx)))) (λx hx=>k x (Zp (.inl hx)))
 ·rw[List.append_nil,hs,c]
  rfl
 ·exact ok_one g rfl (okWide_bool_mk hb _)
def qq(h:aI)(k:IntKind)(p:Option Addr)(zs:List Int):Prop:=
 ∀i,i<zs.length-> ∃a,p=some a/\rd h (a.add i)=some (.int k (zs.getD i 0))
def qq.only{h:aI}(H:qq h k p zs)(O:aM S h h')(hS: ∀b∈S,h.size<=b):qq h' k p zs:=by
 intro i hi;obtain⟨a,e,hr⟩:=H i hi;refine⟨a,e,?_⟩;rw[<-hr]
 have hb:(a.add i).block<h.size:=by apply Mi;intro hn;have:h[(a.add i).block]? =none:=NB ah;simp[rd,this]at hr
 unfold rd;rw[O.same _ hb λhm=>Mw (hS _ hm) ah]
def wf_range{k:IntKind}(h:(Lit.int k n).wf=true):k.min<=n/\n<=k.max:=by simpa[Lit.wf]using h
def open_sl{P:Program}{W:World}{k:IntKind}
  (ht:P.underlying t=some (.slice e)) (he:P.underlying e=some (.int k)) (hc:P.cellsOf e=1) (h:Value.okWide P W r b0 t v)
  (hd:DataW.Trod n P W base sp held t v d ps) (m: ∀b,sp b=true):
  ∃(p:Option Addr) (c:Nat) (zs:List Int),v= .slice p zs.length c/\qq W.heap k p zs/\(∀z∈zs,k.min<=z/\z<=k.max)/\(zs.length:Int)<=maxLen:=by
 obtain⟨a,len,cap,rfl⟩:=okWide_slice ht h;obtain⟨u,hf⟩:=hd;rcases open_ints ht he hc hf with⟨f,-⟩|⟨a',o,q,zs,f,-,y,x,j,-,g,l⟩
 ·simp only[Value.cells,Ng,OU]at f;injection f with e1 e2 e3;subst e1 e2 e3;exact⟨none,0,[],rfl,λi hi=>Mw hi ak,ak,by simp[maxLen]⟩
 ·simp only[Value.cells,Ng,OU]at f;injection f with e1 e2 e3;subst e1 e2 e3;rw[L4 (m _)]at j;have hl:(zs.take len).length=len:=by rw[NI];omega
  refine⟨some a',cap,zs.take len,by rw[hl],λi hi=>⟨a',rfl,?_⟩,λz hz=>wf_range (l z (List.mem_of_mem_take hz)),by rw[hl];omega⟩;rw[hl]at hi;have:=g i ah;rw[show(zs.take len).getD i 0=zs.getD i 0 by simp[List.getD,hi]];exact this
def Hg(h:aI)(p:Option Addr)(l N:Nat)(s:Nat->Nat->Value):Prop:=
 ∀i j,i<l->j<N-> ∃a,p=some a/\rd h (a.add (i*N+j))=some (s i j)
def Dr{h:aI}(H:rd h a=some v)(O:aM S h h')(hS: ∀b∈S,h.size<=b):rd h' a=some v:=by
 rw[<-H]
 have hb:a.block<h.size:=by apply Mi;intro hn;have:h[a.block]? =none:=NB ah;simp[rd,this]at H
 unfold rd;rw[O.same _ hb λhm=>Mw (hS _ hm) ah]
def xg(a:Addr)(m n:Nat):(a.add m).add n=a.add (m+n):=by
 unfold Addr.add;by_cases hm:m=0
 ·subst hm;simp
 ·by_cases hn:n=0
  ·subst hn;simp
  ·rw[LY hm,LY hn,LY ah];simp[Nat.add_assoc]
def pick{α:Type}[Inhabited α]{l:Nat}{Q:Nat->α->Prop}(H: ∀i,i<l-> ∃n,Q i n): ∃f:Nat->α,∀i,i<l->Q i (f i):=
 ⟨λi=>if h:i<l then(H i h).choose else default,λi hi=>by simp only[dif_pos hi];exact(H i hi).choose_spec⟩
def open_ss{P:Program}{W:World}
  (ht:P.underlying t=some (.slice e)) (he:P.underlying e=some (.struct fs)) (hc:P.cellsOf e=N) (q:Value.okWide P W r b0 t v)
  (hd:DataW.Trod h P W base sp held t v d ps) (C: ∀b,sp b=true):
  ∃(p:Option Addr) (c l:Nat) (s:Nat->Nat->Value),v= .slice p l c/\Hg W.heap p l N s/\(l:Int)<=maxLen/\
   ∀i,i<l-> ∀(j:Nat) (f:Field),fs[j]? =some f->P.cellsOf f.type=1->f.offset<N->
    (∀k,P.underlying f.type=some (.int k)-> ∃n,s i f.offset= .int k n/\k.min<=n/\n<=k.max)/\(P.underlying f.type=some .bool-> ∃b,s i f.offset= .bool b):=by
 obtain⟨a,len,cap,rfl⟩:=okWide_slice ht q;obtain⟨I,hf⟩:=hd;rcases Go.Deep.open_slice ht hf with⟨g,-⟩|⟨a',F,G,m,n,D,Pl,g,-,M,J,hm,-,hi⟩
 ·simp only[Value.cells,Ng,OU]at g;injection g with e1 e2 e3;subst e1 e2 e3;exact⟨none,0,0,λ_ _=> .bool false,rfl,λi j hi=>Mw hi ah,by simp[maxLen],λi hi=>Mw hi ah⟩
 ·simp only[Value.cells,Ng,OU]at g;injection g with e1 e2 e3;subst e1 e2 e3;rw[L4 (C _)]at hm;subst hm;rw[hc]at hi
  have key: ∀i,i<len-> ∃cs':List Value,cs'.length=N/\(∀j,j<N->rd W.heap (a'.add (i*N+j))=cs'[j]?)/\ ∃x,DataW.trod h P W base sp held n e cs'=some x:=by intro i hl;obtain⟨cs',h1,h2⟩:=hi i ah;obtain⟨_,B,u⟩:=World.cells?_some h1;exact⟨cs',B,λj hj=>by rw[<-xg];exact u j hj,_,h2⟩
  refine⟨some a',_,len,λi j=>(rd W.heap (a'.add (i*N+j))).getD (.bool false),rfl,λi j hl hj=>⟨a',rfl,?_⟩,ah,λi hl j f hj y ho=> ?_⟩
  ·obtain⟨cs',h1,h2,-⟩:=key i hl;simp only[h2 j hj];simp[h1,hj]
  ·obtain⟨cs',h1,h2,x,h3⟩:=key i hl;obtain⟨ys,n',-,-,-,K,A⟩:=DataW.trod_struct he h3;have L:j<fs.size:=(Mf.1 hj).1;have h4:=A j f hj;rw[y,Mj (by omega:j<ys.length)]at h4;simp only[h2 _ ho]
   have o:(cs'.drop f.offset).take 1=[cs'[f.offset]'ah]:=by
    rw[Pb ah]
    rfl
   rw[o]at h4;simp only[Mj (by omega:f.offset<cs'.length),OD];refine⟨λk hk=> ?_,λhk=> ?_⟩
   ·obtain⟨z,h5,-,h6⟩:=DataW.trod_int hk h4;injection h5 with h5;exact⟨z,h5,wf_range h6⟩
   ·obtain⟨z,h5,-⟩:=DataW.trod_bool hk h4;injection h5 with h5;exact⟨z,h5⟩
def aM.nil{h:aI}(A:aM [] h h')(B:aM S h' a)(hS: ∀b∈S,h.size<=b):aM [] h a:=
 A.trans B λb hb hl=>Mw (hS b hb) ah
end
def jN: ∀(new:List Value) (i:Nat) (c:List Value) (h:aI),At h b c->o+i+new.length<=c.length->(∀v∈new,v.oneCell'=true)->
  (∀h',At h' b (c.take (o+i)++new++c.drop (o+i+new.length))->aM [b] h h'->h'.size=h.size->K h')->rH ⟨b,o,none⟩ i new h K:=by
 intro new
 induction new with
 |nil=>
  intro i c h A hi hv hK;unfold rH;exact hK h (by simpa using A) (aM.refl _ _) rfl
 |cons v vs ih=>
  intro i c h A hi hv hK;simp only[Nh]at hi;unfold rH;rw[aL];refine aU A ah (hv v ak) λh1 A1 O1 z1=>ih (i+1) _ h1 A1 (by simp;omega) (λx hx=>hv x (by simp[hx])) λh2 A2 O2 z2=>hK h2 ?_ (O1.trans O2 ak) (z2.trans z1)
  have e:(c.set (o+i) v).take (o+(i+1))=c.take (o+i)++[v]:=by rw[show o+(i+1)=(o+i)+1 by omega,List.take_set,List.take_succ_eq_append_getElem ah,Pq _ _ (by simp;omega)];simp[NI,Nat.min_eq_left (by omega:o+i<=c.length)]
  have e2:(c.set (o+i) v).drop (o+(i+1)+vs.length)=c.drop (o+i+(vs.length+1)):=by
   rw[List.drop_set_of_lt ah]
   congr 1
   omega
  rw[e,e2]at A2;simpa using A2
def cy(h:aI)(lo N:Nat)(p:Option Addr)(l c:Nat)(cs:List Value):Prop:=
 cs.length=l*N/\((p=none/\l=0/\c=0)\/ ∃(b:Nat) (sp:List Value),p=some ⟨b,0,none⟩/\lo<=b/\l<=c/\sp.length=(c-l)*N/\At h b (cs++sp))
def aV:Option Addr->List Nat
 |some a=> [a.block]
 |none=> []
def cy.nil(h:aI)(lo N:Nat):cy h lo N none 0 0 []:=⟨ak,Or.inl ⟨rfl,rfl,rfl⟩⟩
def cy.only(H:cy h lo N p l c cs)(O:aM S h h')(hS: ∀b,p=some ⟨b,0,none⟩->b∉S):cy h' lo N p l c cs:=by
 obtain⟨e,H⟩:=H;rcases H with H|⟨b,sp,h1,h2,h3,h4,h5⟩
 ·exact⟨e,Or.inl H⟩
 ·exact⟨e,Or.inr ⟨b,sp,h1,h2,h3,h4,h5.only O (hS b h1)⟩⟩
def cy.lt{h:aI}(H:cy h lo N p l c cs): ∀b∈aV p,lo<=b/\b<h.size:=by
 obtain⟨-,H⟩:=H;rcases H with⟨e,-⟩|⟨b,sp,h1,h2,-,-,h5⟩
 ·subst e;simp[aV]
 ·subst h1;intro x hx;simp[aV]at hx;subst hx;exact⟨h2,h5.lt⟩
def cy.rd{cs:List Value}(H:cy h lo N p l c cs)(hj:j<cs.length): ∃b,p=some ⟨b,0,none⟩/\rd h ⟨b,j,none⟩=cs[j]? :=by
 obtain⟨e,H⟩:=H;rcases H with⟨-,h0,-⟩|⟨b,sp,h1,h2,-,-,h5⟩
 ·subst h0;simp at e;simp[e]at hj
 ·exact⟨b,h1,by rw[h5.rd,Mo hj]⟩
def fg(A:At h b c)(hn: ∀j v,new[j]? =some v->c[o+j]? =some v):oD h ⟨b,o,none⟩ new:=by intro j v hj;rw[aL,A.rd];exact hn j v hj
def fu(z:Array Value)(n:Nat):(Builtin.zeroCells z n).toList.length=n*z.size:=by simp[Builtin.zeroCells]
def gU{h:aI}{z:Array Value}{new:List Value}
  (H:cy h lo N p l c cs) (A:At h bx new) (d:new.length=N) (hz:z.size=N) (f:(l+1)*g<=140737488355328) (hv: ∀v∈new,v.oneCell'=true) (k:lo<=h.size)
  (hK: ∀p' c' h',cy h' lo N p' (l+1) c' (cs++new)->aM (aV p) h h'->(∀b∈aV p',b∈aV p\/h.size<=b)->K p' (l+1) c' h'):
  fQ h e N g z p l c (some ⟨bx,0,none⟩) 1 K:=by
 obtain⟨a,H⟩:=H;refine⟨new,ah,fg A ak,λi=> ?_,λm=>⟨cs,a,?_,f,λcap hc=> ?_⟩⟩
 ·rcases H with⟨-,h0,h1⟩|⟨b,sp,rfl,h2,h3,h4,h5⟩
  ·omega
  ·show rH ((⟨b,0,none⟩:Addr).add (l*N)) 0 new h _;rw[aL,LX]
   have n:N<=sp.length:=by rw[h4];have:1*N<=(c-l)*N:=N0 _ ah;omega
   refine jN new 0 _ h h5 (by simp;omega) hv λh' A' O' z'=>hK _ _ h' ⟨by simp[a,d,OH],Or.inr ⟨b,sp.drop N,rfl,h2,i,?_,?_⟩⟩ O' λx hx=>Or.inl hx
   ·rw[List.length_drop,h4,show c-l=(c-(l+1))+1 by omega,OH];omega
   ·rw[Ma,<-a,Pz,d,Pj,Oh (by omega:cs.length<=cs.length+N)]at A';simpa using A'
 ·rcases H with⟨e,h0,-⟩|⟨b,sp,rfl,-,-,-,h5⟩
  ·subst e;exact h0
  ·exact fg h5 λj v hj=>by rw[LX,Mo (Ml.1 hj).1];exact hj
 ·refine hK _ _ _ ⟨by simp[a,d,OH],Or.inr ⟨h.size,(Builtin.zeroCells z (cap-(l+1))).toList,rfl,k,hc,by rw[fu,hz],?_⟩⟩ ((aM.push_cells h _ e).mono ak) λx hx=>Or.inr ?_
  ·have:=At.push h (cs.toArray++new.toArray++Builtin.zeroCells z (cap-(l+1))) e;simpa using this
  ·simp[aV]at hx;omega
def cy.set{cs:List Value}{v:Value}(H:cy h lo N (some ⟨b,0,none⟩) l c cs)(hj:j<cs.length)(hv:v.oneCell'=true)
  (hK: ∀h',cy h' lo N (some ⟨b,0,none⟩) l c (cs.set j v)->aM [b] h h'->K h'):aY h ⟨b,j,none⟩ v K:=by
 obtain⟨e,H⟩:=H;rcases H with⟨h1,-⟩|⟨b',sp,h1,h2,h3,h4,h5⟩
 ·cases h1
 ·injection h1 with h1;injection h1 with h1;subst h1;refine aU h5 (by simp;omega) hv λh' A O _=>hK h' ⟨by simp[e],Or.inr ⟨b,sp,rfl,h2,h3,h4,?_⟩⟩ O;rw[OI _ _ hj]at A;exact A
def dQ(L:Nat)(g:Nat->Value):List Value:=(List.range L).map g
def cj(L:Nat)(g:Nat->Value):(dQ L g).length=L:=by simp[dQ]
def dR(hk:k<L):(dQ L g)[k]? =some (g k):=by simp[dQ,hk]
def jE(L k:Nat)(g:Nat->Value)(v:Value):(dQ L g).set k v=dQ L λj=>if j=k then v else g j:=by
 apply MM;intro i;by_cases hi:i<L
 ·rw[dR hi,ME];by_cases h:k=i
  ·subst h;rw[L4 rfl,L4 (by rw[cj];exact hi),L4 rfl]
  ·rw[LY h,dR hi,LY (Ne.symm h)]
 ·rw[Mt (by simp[cj];omega),Mt (by simp[cj];omega)]
def gC(h: ∀k,k<L->g k=g' k):dQ L g=dQ L g':=Nb λk hk=>h k (MW.1 hk)
def jP:Nat:=18446744073709551616
def xD:jP=2^64:=by decide
def rG(ha:a<jP):(BitVec.ofInt 64 (a:Int)).toNat=a:=by unfold jP at ha;rw[BitVec.toNat_ofInt];omega
def pC{a:Nat}(ha:a<jP):IntKind.wrap .u64 (a:Int)=a:=bZ ah (by unfold jP at ha;omega)
def HG{a b:Nat}(ha:a<jP)(hb:b<jP):bu .or .u64 (a:Int) (b:Int)=((a|||b:Nat):Int):=by unfold bu;show IntKind.wrap .u64 ((BitVec.ofInt 64 (a:Int)|||BitVec.ofInt 64 (b:Int)).toNat:Int)=_;rw[BitVec.toNat_or,rG ha,rG hb];exact pC (by rw[xD]at*;exact Pc ha hb)
def fb(g:Nat->Nat)(x:Nat):Bool:=(g (x/64)).testBit (x%64)
def xc{x:Nat}(h:x<256):IntKind.wrap .u8 (x:Int)=x:=by simp[IntKind.wrap,IntKind.bits,IntKind.signed];omega
def pG{a b:Nat}(ha:a<jP)(hb:b<jP):a|||b<jP:=by
 rw[xD]at*
 exact Pc ha hb
def wN(y v:Nat)(b:Bool):Nat:=if y.testBit v=b then y else if b then y+2^v else y-2^v
def F89.spec(H:(0<=(if 262144<(if 0>i then 0 else i)then 262144 else(if 0>i then 0 else i))/\(if 262144<(if 0>i then 0 else i)then 262144 else(if 0>i then 0 else i))<=(if 262144<(if 0>i then 0 else i)then 262144 else(if 0>i then 0 else i))/\(8*(if 262144<(if 0>i then 0 else i)then 262144 else(if 0>i then 0 else i))<=281474976710656)/\(if 262144<(if 0>i then 0 else i)then 262144 else(if 0>i then 0 else i))<=9223372036854775807/\bg h (.cells (madeCells #[ar 0] ((if 262144<(if 0>i then 0 else i)then 262144 else(if 0>i then 0 else i)).toNat*1)) 315) λa b=>bg b (.cells #[.slice (some (aw a)) ((if 262144<(if 0>i then 0 else i)then 262144 else(if 0>i then 0 else i)).toNat) ((if 262144<(if 0>i then 0 else i)then 262144 else(if 0>i then 0 else i)).toNat),ap 0,ap 0] 224) λa b=>K (au (aw a)) b)):Cl 89 [ap i] h K:=cN Tryz.func89 H
def F110.spec(H:aJ (i<1) (K (ap 0) h) (K (ap (ax (3*i))) h)):Cl 110 [ap i] h K:=cN Tryz.func110 H
def F132.spec{a:Addr}(H:cF (rd h (a.add 0)) λ_ a _=>K (ap (a:Int)) h):Cl 132 [au a] h K:=cN Tryz.func132 H
def F162.spec(H:Cl 202 [au a,ap i] h λa b=>aZ (some a) λa=>aJ (!(Option.isNone a)) (Cl 203 [aA a] b λa b=>aS .u64 (some a) λa=>K (ar a) b) (K (ar 0) b)):Cl 162 [au a,ap i] h K:=cN Tryz.func162 H
def F202.spec{i:Int}{a:Addr}(H:aJ (i<0) (K (aA none) h) (cF (rd h (a.add 0)) λ_ b _=>aJ (i>=(b:Int)) (K (aA none) h) (Cl 205 [au (a.add 1),ap 1] h λb c=>aS .i64 (some b) λ_=>cF (rd c (a.add 0)) λa b _=>aX a λa=>0<=i/\i<(b:Int)/\K (au (a.add (i.toNat*1))) c))):Cl 202 [au a,ap i] h K:=cN Tryz.func202 H
def F203.spec{a:Addr}(H:aS .u64 (rd h (a.add 0)) λa=>K (ar a) h):Cl 203 [au a] h K:=cN Tryz.func203 H
def F163.spec{a:Addr}(H:Cl 202 [au a,ap i] h λb c=>aZ (some b) λb=>aJ (Option.isNone b) (K aB c) (Cl 204 [aA b,ar j,ar k] c λb c=>bQ (some b) λb=>aJ (!b) (Cl 205 [au (a.add 2),ap 1] c λa c=>aS .i64 (some a) λ_=>K (aD b) c) (K (aD b) c))):Cl 163 [au a,ap i,ar j,ar k] h K:=cN Tryz.func163 H
def F205.spec{a:Addr}(H:aS .i64 (rd h (a.add 0)) λb=>aY h (a.add 0) (ap (ax (b+i))) λa=>K (ap (ax (b+i))) a):Cl 205 [au a,ap i] h K:=cN Tryz.func205 H
def F204.spec{a:Addr}(H:aS .u64 (rd h (a.add 0)) λb=>aJ (b==i) (aY h (a.add 0) (ar j) λa=>K aC a) (fz h (a.add 0)=false/\K aB h)):Cl 204 [au a,ar i,ar j] h K:=cN Tryz.func204 H
def F282.spec(H:Cl 202 [au a,ap i] h λa b=>aZ (some a) λa=>aJ (!(Option.isNone a)) (Cl 304 [aA a,ar j] b λa b=>a=aE/\K aE b) (K aE b)):Cl 282 [au a,ap i,ar j] h K:=cN Tryz.func282 H
def F304.spec{a:Addr}(H:aY h (a.add 0) (ar i) λa=>K aE a):Cl 304 [au a,ar i] h K:=cN Tryz.func304 H
structure bH(h:aI)(m c:Nat)(cs:List Int)(ops fails:Int):Prop where
 head:At h m [.slice (some (aw c)) cs.length cs.length,ap ops,ap fails]
 body:At h c (cs.map (.int .u64))
 ne:m≠c
def bH.only(H:bH h m c cs ops fails)(O:aM S h h')(hm:m∉S)(hc:c∉S):bH h' m c cs ops fails:=
 ⟨H.head.only O hm,H.body.only O hc,H.ne⟩
def up(n:Int):Int:=ax (n+1)
def LP(hr:rd h ⟨b,i,none⟩=some (ar n))(hK:K (ar n) h):
  Cl 203 [au ⟨b,i,none⟩] h K:=by
 apply F203.spec;rw[add_zero];exact aH hr hK
def Lu{c:List Value}(H:At h b c)(hi:c[i]? =some (ap n))
  (hK: ∀h',At h' b (c.set i (ap (ax (n+d))))->aM [b] h h'->K (ap (ax (n+d))) h'):
  Cl 205 [au ⟨b,i,none⟩,ap d] h K:=by
 apply F205.spec;rw[add_zero];exact aH (by rw[H.rd];exact hi) (aU H (Ml.1 hi).1 rfl λh' h1 h2 _=>hK h' h1 h2)
def LL{c:List Value}(H:At h b c)(hi:i<c.length)
  (hK: ∀h',At h' b (c.set i (ar d))->aM [b] h h'->K aE h'):
  Cl 304 [au ⟨b,i,none⟩,ar d] h K:=by
 apply F304.spec;rw[add_zero];exact aU H hi rfl λh' h1 h2 _=>hK h' h1 h2
def LM{c:List Value}(H:At h b c)(hi:c[i]? =some (ar n))
  (hT:n=x-> ∀h',At h' b (c.set i (ar y))->aM [b] h h'->K aC h') (hF:n≠x->K aB h):
  Cl 204 [au ⟨b,i,none⟩,ar x,ar y] h K:=by
 apply F204.spec;rw[add_zero];refine aH (by rw[H.rd];exact hi) (aR (λe=>aU H (Ml.1 hi).1 rfl λh' h1 h2 _=>hT (by simpa using e) h' h1 h2) λe=>⟨H.fz _ _,hF (by simpa using e)⟩)
def Bg{cs:List Int}{i:Int}(H:bH h m c cs ops fails)(h0:0<=i)(h1:i<cs.length)
  (hK: ∀h',bH h' m c cs (up ops) fails->aM [m,c] h h'->K (au ⟨c,i.toNat,none⟩) h'):
  Cl 202 [au (aw m),ap i] h K:=by
 apply F202.spec;rw[L7 (by omega: ¬i<0)];simp only[aL,H.head.rd,LX,Ox,bK,aK];rw[L7 (by omega: ¬i>=(Nat.cast cs.length:Int)),aK];refine Lu (n:=ops) (i:=1) H.head rfl λh' a1 a2=> ?_;simp only[bB,Ni,OX]at a1 ⊢;simp only[a1.rd,Ox,bK,aT,aL,LX,MU];exact⟨h0,h1,hK h' ⟨a1,H.body.only a2 (by simp[H.ne.symm]),H.ne⟩ (a2.mono (by simp+contextual))⟩
def fi{cs:List Int}{i:Int}(H:bH h m c cs ops fails)(h0:0<=i)(h1:i<cs.length)
  (hK: ∀h',bH h' m c cs (up ops) fails->aM [m,c] h h'->K (ar (cs.getD i.toNat 0)) h'):
  Cl 162 [au (aw m),ap i] h K:=by
 apply F162.spec;refine Bg H h0 h1 λh' a1 a2=> ?_;have hi:i.toNat<cs.length:=ah;simp only[oE,PI,MS,aO];refine LP (n:=cs.getD i.toNat 0) (by rw[a1.body.rd];simp[hi]) ?_;simp only[bB];exact hK h' a1 a2
def bH.put{cs:List Int}(H:bH h m c cs ops fails)(a:At h' c ((cs.map (Value.int .u64)).set i (ar v)))(O:aM [c] h h'):
  bH h' m c (cs.set i v) ops fails:=
 ⟨by rw[No];exact H.head.only O (by simp[H.ne]),by rw[PO];exact a,H.ne⟩
def gx{cs:List Int}{i:Int}(H:bH h m c cs ops fails)(h0:0<=i)(h1:i<cs.length)
  (hK: ∀h',bH h' m c (cs.set i.toNat d) (up ops) fails->aM [m,c] h h'->K aE h'):
  Cl 282 [au (aw m),ap i,ar d] h K:=by
 apply F282.spec;refine Bg H h0 h1 λh' a1 a2=> ?_;have hi:i.toNat<cs.length:=ah;simp only[oE,PI,MS,aO];exact LL a1.body (by simpa using hi) λa b1 b2=>⟨rfl,hK a (a1.put b1 b2) (a2.trans b2 ak)⟩
def oW{cs:List Int}{i:Int}(H:bH h m c cs ops fails)(h0:0<=i)(h1:i<cs.length)
  (hT:cs.getD i.toNat 0=x-> ∀h',bH h' m c (cs.set i.toNat y) (up ops) fails->aM [m,c] h h'->K aC h')
  (hF:cs.getD i.toNat 0≠x-> ∀h',bH h' m c cs (up ops) (up fails)->aM [m,c] h h'->K aB h'):
  Cl 163 [au (aw m),ap i,ar x,ar y] h K:=by
 apply F163.spec;refine Bg H h0 h1 λh' a1 a2=> ?_;have hi:i.toNat<cs.length:=ah;simp only[oE,PI,aK];refine LM (n:=cs.getD i.toNat 0) a1.body (by simp[hi]) (λe a b1 b2=> ?_) λe=> ?_
 ·simp only[bX,MF,aK];exact hT e a (a1.put b1 b2) (a2.trans b2 ak)
 ·simp only[bX,MS,aO,aL,LX];refine Lu (n:=fails) a1.head rfl λa b1 b2=> ?_;simp only[bB];exact hF e a ⟨b1,a1.body.only b2 (by simp[H.ne.symm]),H.ne⟩ (a2.trans b2 ak)
def io{cs:List Int}(H:bH h m c cs ops fails)(hK:K (ap cs.length) h):
  Cl 132 [au (aw m)] h K:=by
 apply F132.spec;rw[aL,H.head.rd];exact bF rfl hK
def gD(n:Int):Nat:=(min (max n 0) 262144).toNat
def jy{k:Nat}(h:k<=262144):gD (k:Int)=k:=by unfold gD;rw[Int.max_eq_left ah,Int.min_eq_left ah,Md]
def xP(n:Nat):(madeCells #[ar (0:Int)] n).toList=(List.replicate n (0:Int)).map (Value.int .u64):=by rw[toList_madeCells_one];simp
def pU{h:aI}
  (hK: ∀m c h',bH h' m c (List.replicate (gD n) 0) 0 0->aM [] h h'->h.size<=m->h.size<=c->K (au (aw m)) h'):
  Cl 89 [ap n] h K:=by
 apply F89.spec
 have e:(if(262144:Int)<(if(0:Int)>n then(0:Int)else n)then(262144:Int)else(if(0:Int)>n then(0:Int)else n))=(gD n:Int):=by unfold gD;split<;>split<;>omega
 have h2:gD n<=262144:=by unfold gD;omega
 rw[e];refine⟨ah,ah,ah,ah,?_⟩;refine aW λh1 a1 a2 a3=>aW λh2 b1 b2 b3=> ?_;simp only[Md,MU]at a1 b1 ⊢;rw[xP]at a1;refine hK h1.size h.size h2 ⟨?_,a1.only b2 ak,ah⟩ (a2.trans b2 ak) ah ah;rw[List.length_replicate];exact b1
def F159.spec(H:aJ (i<0) (K (.tuple #[aA none,ap 61]) h) (aJ (j<1) (K (.tuple #[aA none,ap 61]) h) (Cl 132 [au a] h λb c=>aS .i64 (some b) λb=>aJ (i>b) (K (.tuple #[aA none,ap 61]) c) (Cl 132 [au a] c λb c=>aS .i64 (some b) λb=>aJ (j>(ax (b-i))) (K (.tuple #[aA none,ap 61]) c) (bg c (.cells #[au a,ap i,ap j] 276) λa b=>K (.tuple #[au (aw a),ap 0]) b))))):Cl 159 [au a,ap i,ap j] h K:=cN Tryz.func159 H
def F241.T:bh:=⟨[],[(1,[[(0,[]),(1,[]),(2,[]),(3,[]),(4,[]),(5,[]),(6,[]),(8,[]),(9,[]),(10,[]),(11,[]),(12,[]),(13,[]),(7,[0,1,8,9,10,11,12,13]),(14,[]),(15,[]),(16,[])]])]⟩
def F241.spec{a:Addr}(H:aS .i64 (rd h (a.add 2)) λb=>aS .i64 (rd h (a.add 2)) λc=>Cl 246 [ar i,ap b] h λb d=>aS .i64 (some b) λb=>aF (au a)/\aF (ar i)/\aF (au a)/\aF (au a)/\aF (au (a.add 2))/\aS .i64 (rd d (a.add 2)) λe=>aG (ap e) (ap c)/\aF (ar i)/\aF (aD (i==0))/\bg d (.cells #[au a,ar i,ap b,ap c,.nilFunc,aD (i==0),ap (-1),ap 61,aB] 350) λa b=>aY b (((aw a).add 4).add 0) (.func (.func 285) #[au (aw a)] #[]) λb=>K (au (aw a)) b):Cl 241 [au a,ar i] h K:=cT F241.T Tryz.func241 H
def F242.T:bh:=⟨[(3,[0])],[]⟩
section
variable (a:Addr)(h:aI)(K:KK)
def F242.wk3:Prop:=bQ (rd h (a.add 5)) λa=>K (aD a) h
end
def F242.spec{a:Addr}(H:bQ (rd h (a.add 5)) λb=>aJ (!b) (jX (rd h (a.add 4)) λb=>dS Tryz.prog X b [] h λb c=>b=aE/\F242.wk3 a c K) (F242.wk3 a h K)):Cl 242 [au a] h K:=cT F242.T Tryz.func242 H
def F243.T:bh:=⟨[],[(1,[[(0,[]),(1,[]),(2,[]),(3,[]),(4,[]),(5,[]),(6,[]),(7,[]),(8,[]),(9,[])]])]⟩
def F243.spec{a:Addr}(H:aS .i64 (rd h (a.add 6)) λb=>aS .i64 (rd h (a.add 7)) λa=>K (.tuple #[ap b,ap a]) h):Cl 243 [au a] h K:=cT F243.T Tryz.func243 H
def F244.spec{a:Addr}(H:bQ (rd h (a.add 8)) λa=>K (aD a) h):Cl 244 [au a] h K:=cN Tryz.func244 H
def F200.spec{a:Addr}(H:aS .i64 (rd h (a.add 2)) λa=>K (ap a) h):Cl 200 [au a] h K:=cN Tryz.func200 H
def F247.T:bh:=⟨[],[(3,[[(0,[]),(1,[]),(2,[]),(3,[]),(4,[]),(5,[]),(6,[]),(7,[]),(8,[]),(9,[]),(10,[]),(11,[])]])]⟩
def F247.spec{a:Addr}(H:aJ (i<0) (K (ar 0) h) (aS .i64 (rd h (a.add 2)) λb=>aJ (i>=b) (K (ar 0) h) (aZ (rd h (a.add 0)) λb=>aS .i64 (rd h (a.add 1)) λa=>Cl 162 [aA b,ap (ax (a+i))] h λa b=>aS .u64 (some a) λa=>K (ar a) b))):Cl 247 [au a,ap i] h K:=cT F247.T Tryz.func247 H
def F285.T:bh:=⟨[],[(0,[[(0,[]),(1,[]),(2,[]),(3,[]),(4,[]),(5,[]),(6,[]),(7,[]),(8,[]),(9,[]),(10,[]),(11,[]),(12,[]),(13,[]),(14,[]),(15,[]),(16,[]),(17,[]),(18,[]),(19,[])]])]⟩
def F285.spec{a:Addr}(H:aZ (rd h (a.add 0)) λb=>aX b λb=>aZ (rd h (b.add 0)) λb=>aZ (rd h (a.add 0)) λc=>aX c λc=>aS .i64 (rd h (c.add 1)) λc=>aS .i64 (rd h (a.add 2)) λd=>Cl 162 [aA b,ap (ax (c+d))] h λb c=>aS .u64 (some b) λb=>aS .u64 (rd c (a.add 1)) λd=>aJ (b==d) (aS .i64 (rd c (a.add 2)) λb=>Cl 305 [au a,ap b,ap 0] c λa b=>a=aE/\K aE b) (aJ (b==0) (aY c ((a.add 4).add 0) (.func (.func 306) #[au a] #[]) λa=>K aE a) (Cl 307 [au a] c λa b=>a=aE/\K aE b))):Cl 285 [au a] h K:=cT F285.T Tryz.func285 H
def F305.spec{a:Addr}(H:aY h ((a.add 5).add 0) aC λb=>aY b ((a.add 6).add 0) (ap i) λb=>aY b ((a.add 7).add 0) (ap j) λa=>K aE a):Cl 305 [au a,ap i,ap j] h K:=cN Tryz.func305 H
def F306.T:bh:=⟨[],[(1,[[(0,[]),(1,[]),(2,[]),(3,[]),(4,[]),(5,[]),(6,[]),(7,[]),(8,[]),(9,[]),(10,[]),(11,[]),(12,[]),(13,[]),(14,[]),(15,[]),(16,[]),(17,[]),(18,[]),(19,[]),(20,[]),(21,[]),(22,[]),(23,[])]])]⟩
def F306.spec{a:Addr}(H:aY h ((a.add 4).add 0) (.func (.func 285) #[au a] #[]) λb=>aZ (rd b (a.add 0)) λc=>aX c λc=>aZ (rd b (c.add 0)) λc=>aZ (rd b (a.add 0)) λd=>aX d λd=>aS .i64 (rd b (d.add 1)) λd=>aS .i64 (rd b (a.add 2)) λe=>aS .u64 (rd b (a.add 1)) λf=>Cl 163 [aA c,ap (ax (d+e)),ar 0,ar f] b λb c=>bQ (some b) λb=>aJ b (aY c ((a.add 8).add 0) aC λb=>aS .i64 (rd b (a.add 2)) λc=>Cl 305 [au a,ap c,ap 0] b λa b=>a=aE/\K aE b) (K aE c)):Cl 306 [au a] h K:=cT F306.T Tryz.func306 H
def F307.T:bh:=⟨[],[(0,[[(0,[]),(1,[]),(2,[]),(3,[]),(4,[]),(5,[]),(6,[]),(7,[]),(8,[]),(9,[]),(10,[]),(11,[]),(12,[]),(13,[]),(14,[]),(15,[]),(16,[])]])]⟩
def F307.spec{a:Addr}(H:aS .i64 (rd h (a.add 2)) λb=>aZ (rd h (a.add 0)) λc=>aX c λc=>aS .i64 (rd h (c.add 2)) λc=>c≠0/\aY h ((a.add 2).add 0) (ap (Int.tmod (ax (b+1)) c)) λb=>aS .i64 (rd b (a.add 3)) λc=>aY b ((a.add 3).add 0) (ap (ax (c-1))) λb=>aS .i64 (rd b (a.add 3)) λc=>aJ (c==0) (Cl 305 [au a,ap (-1),ap 60] b λa b=>a=aE/\K aE b) (K aE b)):Cl 307 [au a] h K:=cT F307.T Tryz.func307 H
def JQ(x:Int):Int:=bu .xor .u64 x (Int.fdiv x (2^(min (Int.toNat (33:Int)) (IntKind.bits .u64))))
def uf(x:Int):Int:=JQ (IntKind.wrap .u64 (JQ (IntKind.wrap .u64 (JQ x*18397679294719823053))*14181476777654086739))
def ur(x:Int):0<=IntKind.wrap .u64 x/\IntKind.wrap .u64 x<18446744073709551616:=by rw[mN];omega
def qO(x:Int):0<=JQ x/\JQ x<18446744073709551616:=ur _
def Av(hK:K (ar (uf x)) h):Cl 286 [ar x] h K:=by
 apply F286.spec;unfold F286.wk2;refine⟨3,?_⟩;rw[F286.sL2];rw[show decide ((0:Int)<2)=true from rfl,aO];refine⟨by decide,by decide,aH rfl ⟨by decide,?_⟩⟩;rw[F286.sL2]
 try dsimp only
 rw[show ax ((0:Int)+1)=1 from rfl,show decide ((1:Int)<2)=true from rfl,aO];refine⟨by decide,by decide,aH rfl ⟨by decide,?_⟩⟩;rw[F286.sL2]
 try dsimp only
 rw[show ax ((1:Int)+1)=2 from rfl,show decide ((2:Int)<2)=false from rfl,aK];exact⟨by decide,hK⟩
def gP(key:Int)(n:Nat):Nat:=((uf key).tmod n).toNat
def ga(key:Int)(hn:1<=n):gP key n<n:=by unfold gP;have h0:0<=uf key:=(qO _).1;rw[Nm h0];have:=Int.emod_lt_of_pos (uf key) (by omega:(0:Int)<n);have:=Int.emod_nonneg (uf key) (by omega:(n:Int)≠0);omega
def mQ{h:aI}{x:Int}{n:Nat}{K:KK}(h1:1<=n)(h2:n<1000000000)(hK:K (ap (gP x n:Int)) h):Cl 246 [ar x,ap (n:Int)] h K:=by
 apply F246.spec;rw[L7 ah,aK];refine Av (aH rfl ?_);rw[bZ (n:=(n:Int)) ah ah];have h0:0<=uf x:=(qO _).1
 have e:(uf x).tmod n=(gP x n:Int):=by unfold gP;rw[Nm h0];have:=Int.emod_nonneg (uf x) (by omega:(n:Int)≠0);omega
 have:=ga x h1;rw[e,wrap_i64 ah ah];exact⟨ah,hK⟩
def dO(h:aI)(t m base n:Nat):Prop:=At h t [au (aw m),ap (base:Int),ap (n:Int)]
def dO.only(H:dO h t m base n)(O:aM S h h')(ht:t∉S):dO h' t m base n:=At.only H O ht
structure Fi where
 key:Int
 pos:Nat
 left:Nat
 claims:Bool
 done:Bool
 slot:Int
 e:Int
 made:Bool
def LG(f:Nat):Bool->Value
 |true=> .func (.func 306) #[au (aw f)] #[]
 |false=> .func (.func 285) #[au (aw f)] #[]
def dr(h:aI)(f t:Nat)(F:Fi):Prop:=
 At h f [au (aw t),ar F.key,ap (F.pos:Int),ap (F.left:Int),LG f F.claims,aD F.done,ap F.slot,ap F.e,aD F.made]
def dr.only(H:dr h f t F)(O:aM S h h')(ht:f∉S):dr h' f t F:=At.only H O ht
def bY(base n:Nat)(cs:List Int)(F:Fi):Fi×List Int:=
 if F.done then(F,cs)else
 if F.claims then
  if cs.getD (base+F.pos) 0=0 then({F with claims:=false,made:=true,done:=true,slot:=F.pos,e:=0},cs.set (base+F.pos) F.key)
  else({F with claims:=false},cs)
 else if cs.getD (base+F.pos) 0=F.key then({F with done:=true,slot:=F.pos,e:=0},cs)
 else if cs.getD (base+F.pos) 0=0 then({F with claims:=true},cs)
 else if F.left=1 then({F with pos:=(F.pos+1)%n,left:=0,done:=true,slot:= -1,e:=60},cs)
 else({F with pos:=(F.pos+1)%n,left:=F.left-1},cs)
def ms(H:dr h f t F)
  (hK: ∀h',dr h' f t {F with done:=true,slot:=s,e:=e}->aM [f] h h'->K aE h'):
  Cl 305 [au (aw f),ap s,ap e] h K:=by
 apply F305.spec;simp only[aL,LX,Ma];refine aU H ak rfl λh1 A1 O1 _=>aU A1 ak rfl λh2 A2 O2 _=>aU A2 ak rfl λh3 A3 O3 _=> ?_;exact hK h3 A3 ((O1.trans O2 ak).trans O3 ak)
def yv{F:Fi}(T:dO h t m base n)(H:dr h f t F)(hn:1<=n)(hn2:n<1000000000)(hp:F.pos<n)(hl:1<=F.left)(a:F.left<1000000000)
  (hK: ∀h',dr h' f t (if F.left=1 then {F with pos:=(F.pos+1)%n,left:=0,done:=true,slot:= -1,e:=60}else {F with pos:=(F.pos+1)%n,left:=F.left-1})->aM [f] h h'->K aE h'):
  Cl 307 [au (aw f)] h K:=by
 apply F307.spec;simp only[aL,LX,Ma];refine aH (by rw[At.rd H];rfl) (aQ (by rw[At.rd H];rfl) ?_);simp only[aT,aL,LX];refine aH (by rw[At.rd T];rfl) ⟨ah,aU H ak rfl λh1 A1 O1 _=> ?_⟩
 have e1:(ax ((F.pos:Int)+1)).tmod n=(((F.pos+1)%n:Nat):Int):=by rw[wrap_i64 ah ah,Nm ah];simp
 rw[e1]at A1;refine aH (by rw[A1.rd];rfl) (aU A1 ak rfl λh2 A2 O2 _=> ?_);rw[wrap_i64 ah ah]at A2
 have A2:dr h2 f t {F with pos:=(F.pos+1)%n,left:=F.left-1}:=by rw[show(F.left:Int)-1=((F.left-1:Nat):Int) by omega]at A2;exact A2
 have O12:=O1.trans O2 ak;refine aH (n:=((F.left-1:Nat):Int)) (by rw[At.rd A2];rfl) ?_;by_cases h1:F.left=1
 ·rw[show(((F.left-1:Nat):Int)==0)=true by simp[h1],aO];refine ms A2 λh3 A3 O3=>⟨rfl,hK h3 ?_ (O12.trans O3 ak)⟩;rw[L4 h1];simpa[h1]using A3
 ·rw[show(((F.left-1:Nat):Int)==0)=false by simp;omega,aK];refine hK h2 ?_ O12;rw[LY h1];exact A2
def yj{cs:List Int}{F:Fi}(T:dO h t m base n)(H:dr h f t F)(M:bH h m mc cs ops fails)(hn:1<=n)(hn2:n<1000000000)(hb:base<1000000000)(hp:F.pos<n)(hl:F.done=false->1<=F.left)(g:F.left<1000000000)
  (hc:base+n<=cs.length) (d1:f≠t) (d2:f≠m) (d3:f≠mc) (d4:t≠m) (d5:t≠mc)
  (hK: ∀h' c,dr h' f t (bY base n cs F).1->dO h' t m base n->bH h' m mc (bY base n cs F).2 (if F.done then ops else up ops) c->aM [f,m,mc] h h'->K (aD (bY base n cs F).1.done) h'):
  Cl 242 [au (aw f)] h K:=by
 apply F242.spec;simp only[aL,LX];refine a8 (n:=F.done) (by rw[At.rd H];rfl) ?_
 have a: ∀h' c,dr h' f t (bY base n cs F).1->dO h' t m base n->bH h' m mc (bY base n cs F).2 (if F.done then ops else up ops) c->aM [f,m,mc] h h'->F242.wk3 (aw f) h' K:=by intro h' c a1 a2 a3 a4;unfold F242.wk3;simp only[aL,LX];exact a8 (by rw[At.rd a1];rfl) (hK h' c a1 a2 a3 a4)
 cases hd:F.done with
 |true=>
  rw[MF,aK];have e:bY base n cs F=(F,cs):=by unfold bY;rw[L4 hd]
  rw[e,hd]at a;exact a h fails H T M (aM.refl _ _)
 |false=>
  rw[MS,aO];have d:ax ((base:Int)+(F.pos:Int))=((base+F.pos:Nat):Int):=by rw[wrap_i64 ah ah];simp
  have hi:base+F.pos<cs.length:=ah;have hg:cs.getD (((base+F.pos:Nat):Int).toNat) 0=cs.getD (base+F.pos) 0:=by rw[Md]
  rw[hd]at a;have hs: ∀b∈[m,mc],b∈[f,m,mc]:=by simp+contextual
  cases hcl:F.claims with
  |false=>
   refine⟨_,by rw[At.rd H];rfl,?_⟩;rw[hcl];refine bj (by kernel_rfl) ?_;refine F285.spec ?_;simp only[aL,LX,Ma];refine aQ (by rw[At.rd H];rfl) ?_;simp only[aT,aL,LX];refine aQ (by rw[At.rd T];rfl) (aQ (by rw[At.rd H];rfl) ?_);simp only[aT,aL,LX];refine aH (by rw[At.rd T];rfl) (aH (by rw[At.rd H];rfl) ?_);rw[d];refine fi M ah ah λh1 M1 O1=>aH rfl ?_;have H1:=H.only O1 (by simp[d2,d3]);have T1:=T.only O1 (by simp[d4,d5]);have Q1:=O1.mono (T:=[f,m,mc]) λb hb _=>hs b hb;rw[hg];refine aH (n:=F.key) (by rw[At.rd H1];rfl) ?_;unfold bY at a;rw[LY (by simp[hd]),LY (by simp[hcl])]at a;by_cases hk:cs.getD (base+F.pos) 0=F.key
   ·rw[L4 hk]at a;rw[show(cs.getD (base+F.pos) 0==F.key)=true by simpa using hk,aO];refine aH (by rw[At.rd H1];rfl) (ms H1 λh2 H2 O2=>⟨by trivial,by trivial,?_⟩);exact a h2 fails H2 (T1.only O2 (by simp[d1.symm])) (M1.only O2 (by simp[d2.symm]) (by simp[d3.symm])) (Q1.trans O2 ak)
   ·rw[LY hk]at a;rw[show(cs.getD (base+F.pos) 0==F.key)=false by simpa using hk,aK];by_cases hz:cs.getD (base+F.pos) 0=0
    ·rw[L4 hz]at a;rw[show(cs.getD (base+F.pos) 0==0)=true by simpa using hz,aO];refine aU H1 ak rfl λh2 A2 O2 _=>⟨by trivial,?_⟩;exact a h2 fails A2 (T1.only O2 (by simp[d1.symm])) (M1.only O2 (by simp[d2.symm]) (by simp[d3.symm])) (Q1.trans O2 ak)
    ·rw[LY hz]at a;rw[show(cs.getD (base+F.pos) 0==0)=false by simpa using hz,aK];refine yv T1 H1 hn hn2 hp (hl hd) g λh2 H2 O2=>⟨by trivial,by trivial,?_⟩;have T2:=T1.only O2 (by simp[d1.symm]);have M2:=M1.only O2 (by simp[d2.symm]) (by simp[d3.symm]);have Q2:=Q1.trans O2 ak;by_cases h1:F.left=1
     ·rw[L4 h1]at a H2;exact a h2 fails H2 T2 M2 Q2
     ·rw[LY h1]at a H2;exact a h2 fails H2 T2 M2 Q2
  |true=>
   refine⟨_,by rw[At.rd H];rfl,?_⟩;rw[hcl];refine bj (by kernel_rfl) ?_;refine F306.spec ?_;simp only[aL,LX,Ma];refine aU H ak rfl λh1 A1 O1 _=> ?_;have H1:dr h1 f t {F with claims:=false}:=A1;have T1:=T.only O1 (by simp[d1.symm]);have M1:=M.only O1 (by simp[d2.symm]) (by simp[d3.symm]);have Q1:=O1.mono (T:=[f,m,mc]) λb hb _=>(by simp at hb;simp[hb]);refine aQ (by rw[At.rd H1];rfl) ?_;simp only[aT,aL,LX];refine aQ (by rw[At.rd T1];rfl) (aQ (by rw[At.rd H1];rfl) ?_);simp only[aT,aL,LX];refine aH (by rw[At.rd T1];rfl) (aH (by rw[At.rd H1];rfl) (aH (n:=F.key) (by rw[At.rd H1];rfl) ?_));rw[d];unfold bY at a;rw[LY (by simp[hd]),L4 (by simp[hcl])]at a;refine oW M1 ah ah (λe h2 M2 O2=> ?_) λe h2 M2 O2=> ?_
   ·rw[hg]at e;rw[L4 e]at a;rw[bX,aO];refine aU (H1.only O2 (by simp[d2,d3])) ak rfl λh3 A3 O3 _=> ?_;have H3:dr h3 f t {F with claims:=false,made:=true}:=A3;refine aH (by rw[At.rd H3];rfl) (ms H3 λh4 H4 O4=>⟨by trivial,by trivial,?_⟩);have O34:=O3.trans O4 ak;rw[Md]at M2;exact a h4 fails H4 ((T1.only O2 (by simp[d4,d5])).only O34 (by simp[d1.symm])) (M2.only O34 (by simp[d2.symm]) (by simp[d3.symm])) ((Q1.trans O2 λb hb _=>hs b hb).trans O34 ak)
   ·rw[hg]at e;rw[LY e]at a;rw[bX,aK];exact⟨by trivial,a h2 (up fails) (H1.only O2 (by simp[d2,d3])) (T1.only O2 (by simp[d4,d5])) M2 (Q1.trans O2 λb hb _=>hs b hb)⟩
def jo(key:Int)(n:Nat):Fi:=⟨key,gP key n,n,false,key==0,-1,61,false⟩
def yU{h:aI}{t m base n:Nat}{K:KK}{key:Int}(T:dO h t m base n)(hn:1<=n)(hn2:n<1000000000)
  (hK: ∀f h',dr h' f t (jo key n)->aM [] h h'->h.size<=f->K (au (aw f)) h'):
  Cl 241 [au (aw t),ar key] h K:=by
 apply F241.spec;simp only[aL,LX,Ma];have hr:rd h ⟨t,2,none⟩=some (ap (n:Int)):=by rw[At.rd T];rfl
 refine aH hr (aH hr (mQ hn hn2 (aH rfl ⟨trivial,trivial,trivial,trivial,trivial,aH hr ⟨rfl,trivial,trivial,?_⟩⟩)));refine aW λh1 A1 O1 z1=>aU A1 ak rfl λh2 A2 O2 _=> ?_;exact hK h.size h2 A2 (O1.trans O2 λb hb hl=>Mw (show b=h.size by simpa using hb) ah) (Mb _)
def yf{F:Fi}(H:dr h f t F)(hK:K (aD F.made) h):Cl 244 [au (aw f)] h K:=by apply F244.spec;simp only[aL,LX];exact a8 (by rw[At.rd H];rfl) hK
def yz{F:Fi}(H:dr h f t F)(hK:K (.tuple #[ap F.slot,ap F.e]) h):Cl 243 [au (aw f)] h K:=by apply F243.spec;simp only[aL,LX];exact aH (by rw[At.rd H];rfl) (aH (by rw[At.rd H];rfl) hK)
def gq(T:dO h t m base n)(hK:K (ap (n:Int)) h):Cl 200 [au (aw t)] h K:=by apply F200.spec;simp only[aL,LX];exact aH (by rw[At.rd T];rfl) hK
def uE{h:aI}{cs:List Int}(M:bH h m mc cs ops fails)(hn:1<=n)(hb:base+n<=cs.length)(hc:cs.length<1000000000)
  (hK: ∀t h',dO h' t m base n->aM [] h h'->h.size<=t->K (.tuple #[au (aw t),ap 0]) h'):
  Cl 159 [au (aw m),ap (base:Int),ap (n:Int)] h K:=by
 apply F159.spec;rw[L7 ah,aK,L7 ah,aK];refine io M (aH rfl ?_);rw[L7 ah,aK];refine io M (aH rfl ?_);rw[wrap_i64 ah ah,L7 ah,aK];exact aW λh1 A1 O1 z1=>hK h.size h1 A1 O1 (Mb _)
def cell(base:Nat)(cs:List Int)(i:Nat):Int:=cs.getD (base+i) 0
def cnt(base:Nat)(cs:List Int):Nat->Nat
 |0=>0
 |n+1=>cnt base cs n+(if cell base cs n=0 then 0 else 1)
def Da{cs:List Int}(T:dO h t m base n)(M:bH h m mc cs ops fails)(hb:base<1000000000)(hn:n<1000000000)(hc:base+n<=cs.length)(hi:i<n)
  (hK: ∀h',bH h' m mc cs (up ops) fails->aM [m,mc] h h'->K (ar (cell base cs i)) h'):
  Cl 247 [au (aw t),ap (i:Int)] h K:=by
 apply F247.spec;simp only[aL,LX];rw[L7 ah,aK];refine aH (n:=(n:Int)) (by rw[At.rd T];rfl) ?_;rw[L7 ah,aK];refine aQ (by rw[At.rd T];rfl) (aH (by rw[At.rd T];rfl) ?_);rw[show ax ((base:Int)+(i:Int))=((base+i:Nat):Int) by rw[wrap_i64 ah ah];simp];refine fi M ah ah λh1 M1 O1=>aH rfl ?_;rw[Md];exact hK h1 M1 O1
def path(n:Nat)(key:Int)(d:Nat):Nat:=(gP key n+d)%n
def sX(hn:1<=n):path n key d<n:=Po _ ah
def rE(hi:i<n): ∃d,d<n/\path n key d=i:=by
 have hh:=ga key (show 1<=n by omega);by_cases h:gP key n<=i
 ·exact⟨i-gP key n,ah,by unfold path;rw[show gP key n+(i-gP key n)=i by omega];exact Od hi⟩
 ·exact⟨i+n-gP key n,ah,by unfold path;rw[show gP key n+(i+n-gP key n)=i+n by omega,Nat.add_mod_right];exact Od hi⟩
def xW:path n key (d+1)=(path n key d+1)%n:=by unfold path;rw[<-Nat.add_assoc,Nat.mod_add_mod]
def qF(base n:Nat)(cs:List Int)(key:Int)(d:Nat):Prop:= ∀j,j<d->cell base cs (path n key j)≠0/\cell base cs (path n key j)≠key
def jV(base n:Nat)(cs:List Int):Prop:=
 ∀i,i<n->cell base cs i≠0-> ∃d,d<n/\path n (cell base cs i) d=i/\qF base n cs (cell base cs i) d
structure IW(base n:Nat)(cs:List Int)(F:Fi):Prop where
 pos:F.pos<n
 left:F.left<=n
 going:F.done=false->F.key≠0/\1<=F.left/\F.pos=path n F.key (n-F.left)/\qF base n cs F.key (n-F.left)/\F.made=false/\F.slot= -1/\F.e=61
 ended:F.done=true->(F.key=0/\F.slot= -1/\F.e=61/\F.made=false)\/(F.key≠0/\F.e=0/\ ∃i:Nat,i<n/\F.slot=i/\cell base cs i=F.key)\/
  (F.key≠0/\F.e=60/\F.slot= -1/\F.made=false/\ ∀i,i<n->cell base cs i≠0/\cell base cs i≠F.key)
def jA(base n:Nat)(cs cs':List Int):Prop:=cs'.length=cs.length/\(∀i,i<n->cell base cs i≠0->cell base cs' i=cell base cs i)/\ ∀x,x<base\/base+n<=x->cs'.getD x 0=cs.getD x 0
def jA.refl(base n:Nat)(cs:List Int):jA base n cs cs:=⟨rfl,λ_ _ _=>rfl,λ_ _=>rfl⟩
def jA.trans(H:jA base n a b)(G:jA base n b c):jA base n a c:=
 ⟨G.1.trans H.1,λi hi h=>by rw[G.2.1 i hi (by rw[H.2.1 i hi h];exact h),H.2.1 i hi h],λx hx=>(G.2.2 x hx).trans (H.2.2 x hx)⟩
def qF.grow(hn:1<=n)(H:qF base n cs key d)(G:jA base n cs cs'):qF base n cs' key d:=by intro j hj;obtain⟨a,b⟩:=H j hj;rw[G.2.1 _ (sX hn) a];exact⟨a,b⟩
def AE(hn:1<=n):IW base n cs (jo key n):=by
 refine⟨ga key hn,Mb _,λhd=> ?_,λhd=> ?_⟩
 ·have hk:key≠0:=by simpa[jo]using hd
  refine⟨hk,hn,?_,?_,rfl,rfl,rfl⟩
  ·show gP key n=path n key (n-n);unfold path;rw[Nat.sub_self,Ma,Od (ga key hn)]
  ·intro j hj;simp[jo]at hj
 ·have hk:key=0:=by simpa[jo]using hd
  exact Or.inl ⟨hk,rfl,rfl,rfl⟩
def jk{cs:List Int}(hi:base+i<cs.length):cell base (cs.set (base+i) v) j=if j=i then v else cell base cs j:=by
 unfold cell;by_cases h:j=i
 ·subst h;simp[hi]
 ·simp only[List.getD,ME,LY (by omega: ¬base+i=base+j),LY h]
def jV.absent(T:jV base n cs)(hd:d<n)(hk:key≠0)(S:qF base n cs key d)(hz:cell base cs (path n key d)=0): ∀j,j<n->cell base cs j≠key:=by
 intro j hj e;obtain⟨d',h1,h2,h3⟩:=T j hj (by rw[e];exact hk);rw[e]at h2 h3;by_cases c1:d'<d
 ·have:=(S d' c1).2;rw[h2]at this;exact this e
 ·by_cases c2:d'=d
  ·subst c2;rw[h2,e]at hz;exact hk hz
  ·exact(h3 d ah).1 hz
def uP{cs:List Int}(hi:i<n)(hc:base+n<=cs.length)(hz:cell base cs i=0):jA base n cs (cs.set (base+i) v):=by
 refine⟨ak,λj hj a=> ?_,λx hx=> ?_⟩
 ·rw[jk ah,LY (λe=>a (by rw[e];exact hz))]
 ·simp only[List.getD,ME,LY (by omega: ¬base+i=x)]
def jV.set{cs:List Int}(hn:1<=n)(hc:base+n<=cs.length)(T:jV base n cs)(hd:d<n)(S:qF base n cs key d)(hz:cell base cs (path n key d)=0):
  jV base n (cs.set (base+path n key d) key):=by
 have hp:path n key d<n:=sX hn;have G:=uP (v:=key) hp hc hz;intro i hi a;rw[jk ah]at a ⊢;by_cases h:i=path n key d
 ·rw[L4 h];exact⟨d,hd,h.symm,S.grow hn G⟩
 ·rw[LY h]at a ⊢;obtain⟨d',h1,h2,h3⟩:=T i hi a;exact⟨d',h1,h2,h3.grow hn G⟩
def Ec{cs:List Int}{F:Fi}(hn:1<=n)(hc:base+n<=cs.length)(T:jV base n cs)(H:IW base n cs F):
  jV base n (bY base n cs F).2/\IW base n (bY base n cs F).2 (bY base n cs F).1/\jA base n cs (bY base n cs F).2/\(bY base n cs F).1.key=F.key/\
  (((bY base n cs F).1.made=F.made/\(bY base n cs F).2=cs)\/
   (F.done=false/\F.made=false/\(bY base n cs F).1.made=true/\(bY base n cs F).1.done=true/\(bY base n cs F).1.slot=F.pos/\(bY base n cs F).1.e=0/\F.pos<n/\cell base cs F.pos=0/\F.key≠0/\(∀j,j<n->cell base cs j≠F.key)/\(bY base n cs F).2=cs.set (base+F.pos) F.key)):=by
 unfold bY;by_cases hd:F.done=true
 ·rw[L4 hd];exact⟨T,H,jA.refl _ _ _,rfl,Or.inl ⟨rfl,rfl⟩⟩
 ·rw[LY hd];have b:F.done=false:=by simpa using hd
  obtain⟨hk,hl,hp,S,hm,hs,he⟩:=H.going b;have f:n-F.left<n:=ah;by_cases hcl:F.claims=true
  ·rw[L4 hcl];by_cases hz:cs.getD (base+F.pos) 0=0
   ·rw[L4 hz];have a:cell base cs F.pos=0:=hz;have g:cell base cs (path n F.key (n-F.left))=0:=by rw[<-hp];exact a
    refine⟨?_,⟨H.pos,H.left,λh=>by simp at h,λ_=>Or.inr (Or.inl ⟨hk,rfl,F.pos,H.pos,rfl,?_⟩)⟩,uP H.pos hc a,rfl,
     Or.inr ⟨b,hm,rfl,rfl,rfl,rfl,H.pos,a,hk,T.absent f hk S g,rfl⟩⟩
    ·have:=T.set hn hc f S g;rw[<-hp]at this;exact this
    ·rw[jk (by have:=H.pos;omega),L4 rfl]
   ·rw[LY hz];exact⟨T,⟨H.pos,H.left,λ_=>⟨hk,hl,hp,S,hm,hs,he⟩,λh=>Mw h hd⟩,jA.refl _ _ _,rfl,Or.inl ⟨rfl,rfl⟩⟩
  ·rw[LY hcl];by_cases hkey:cs.getD (base+F.pos) 0=F.key
   ·rw[L4 hkey];exact⟨T,⟨H.pos,H.left,λh=>by simp at h,λ_=>Or.inr (Or.inl ⟨hk,rfl,F.pos,H.pos,rfl,hkey⟩)⟩,jA.refl _ _ _,rfl,Or.inl ⟨rfl,rfl⟩⟩
   ·rw[LY hkey];by_cases hz:cs.getD (base+F.pos) 0=0
    ·rw[L4 hz];exact⟨T,⟨H.pos,H.left,λ_=>⟨hk,hl,hp,S,hm,hs,he⟩,λh=>Mw h hd⟩,jA.refl _ _ _,rfl,Or.inl ⟨rfl,rfl⟩⟩
    ·rw[LY hz]
     have S':qF base n cs F.key (n-F.left+1):=by
      intro j hj;by_cases h':j<n-F.left
      ·exact S j h'
      ·obtain rfl:j=n-F.left:=ah;rw[<-hp];exact⟨hz,hkey⟩
     have c:(F.pos+1)%n<n:=Po _ ah;by_cases h1:F.left=1
     ·rw[L4 h1];refine⟨T,⟨c,Nq _,λh=>by simp at h,λ_=>Or.inr (Or.inr ⟨hk,rfl,rfl,hm,λi hi=> ?_⟩)⟩,jA.refl _ _ _,rfl,Or.inl ⟨rfl,rfl⟩⟩;obtain⟨d,l,k⟩:=rE (key:=F.key) hi;rw[<-k];exact S' d ah
     ·rw[LY h1];refine⟨T,⟨c,by have:=H.left;show F.left-1<=n;omega,λ_=>⟨hk,by show 1<=F.left-1;omega,?_,?_,hm,hs,he⟩,λh=>Mw h hd⟩,jA.refl _ _ _,rfl,Or.inl ⟨rfl,rfl⟩⟩
      ·show(F.pos+1)%n=path n F.key (n-(F.left-1));have:=H.left;rw[show n-(F.left-1)=(n-F.left)+1 by omega,xW,<-hp]
      ·show qF base n cs F.key (n-(F.left-1));have:=H.left;rw[show n-(F.left-1)=(n-F.left)+1 by omega];exact S'
def uX(base:Nat)(cs:List Int)(F:Fi):Nat:=
 if F.done then 0 else 3*(F.left-1)+(if F.claims then 2 else if cell base cs F.pos=0 then 3 else 1)
def gV{F:Fi}(h:F.done=true):uX base cs F=0:=by unfold uX;rw[L4 h]
def ki{F:Fi}(h:F.done=false)(hc:F.claims=true):uX base cs F=3*(F.left-1)+2:=by unfold uX;rw[LY (by simp[h]),L4 hc]
def nG{F:Fi}(h:F.done=false)(hc:F.claims=false)(hz:cell base cs F.pos=0):uX base cs F=3*(F.left-1)+3:=by unfold uX;rw[LY (by simp[h]),LY (by simp[hc]),L4 hz]
def nD{F:Fi}(h:F.done=false)(hc:F.claims=false)(hz:cell base cs F.pos≠0):uX base cs F=3*(F.left-1)+1:=by unfold uX;rw[LY (by simp[h]),LY (by simp[hc]),LY hz]
def vY{F:Fi}(h:F.done=false)(hc:F.claims=false):uX base cs F<=3*(F.left-1)+3/\3*(F.left-1)+1<=uX base cs F:=by
 by_cases hz:cell base cs F.pos=0
 ·rw[nG h hc hz];omega
 ·rw[nD h hc hz];omega
def DI(hn:1<=n):uX base cs (jo key n)<=3*n:=by
 by_cases h:(jo key n).done=true
 ·rw[gV h];omega
 ·have:=(vY (base:=base) (cs:=cs) (F:=jo key n) (by simpa using h) rfl).1;have e:(jo key n).left=n:=rfl;rw[e]at this;omega
def AK{F:Fi}(H:IW base n cs F)(hd:F.done=false):uX base (bY base n cs F).2 (bY base n cs F).1<uX base cs F:=by
 obtain⟨hk,hl,hp,S,hm,hs,he⟩:=H.going hd;by_cases hcl:F.claims=true
 ·rw[ki hd hcl];by_cases hz:cs.getD (base+F.pos) 0=0
  ·rw[gV (by unfold bY;rw[LY (by simp[hd]),L4 hcl,L4 hz])];omega
  ·have e:bY base n cs F=({F with claims:=false},cs):=by unfold bY;rw[LY (by simp[hd]),L4 hcl,LY hz]
   rw[e,nD (F:={F with claims:=false}) hd rfl hz];show 3*(F.left-1)+1<_;omega
 ·have a:F.claims=false:=by simpa using hcl
  have b:=vY (base:=base) (cs:=cs) hd a;by_cases hkey:cs.getD (base+F.pos) 0=F.key
  ·rw[gV (by unfold bY;rw[LY (by simp[hd]),LY hcl,L4 hkey])];omega
  ·by_cases hz:cs.getD (base+F.pos) 0=0
   ·have e:bY base n cs F=({F with claims:=true},cs):=by unfold bY;rw[LY (by simp[hd]),LY hcl,LY hkey,L4 hz]
    rw[e,ki (F:={F with claims:=true}) hd rfl,nG hd a hz];show 3*(F.left-1)+2<_;omega
   ·by_cases h1:F.left=1
    ·rw[gV (by unfold bY;rw[LY (by simp[hd]),LY hcl,LY hkey,LY hz,L4 h1])];omega
    ·have e:bY base n cs F=({F with pos:=(F.pos+1)%n,left:=F.left-1},cs):=by unfold bY;rw[LY (by simp[hd]),LY hcl,LY hkey,LY hz,LY h1]
     have h2:=(vY (base:=base) (cs:=cs) (F:={F with pos:=(F.pos+1)%n,left:=F.left-1}) hd a).1;rw[e];refine OV h2 ?_;show 3*(F.left-1-1)+3<_;omega
def zN{F:Fi}(H:uX base cs F=0):F.done=true:=by
 unfold uX at H;by_cases h:F.done=true
 ·exact h
 ·rw[LY h]at H;split at H
  ·omega
  ·split at H<;>omega
def CG(base n:Nat)(a cs:List Int)(F:Fi):Prop:=
 IW base n cs F/\jV base n cs/\jA base n a cs/\((F.made=false/\cs=a)\/(F.made=true/\F.done=true/\F.e=0/\F.key≠0/\ ∃i:Nat,i<n/\F.slot=i/\cell base a i=0/\(∀j,j<n->cell base a j≠F.key)/\cs=a.set (base+i) F.key))
def CG.new(hn:1<=n)(T:jV base n a):CG base n a a (jo key n):=
 ⟨AE hn,T,jA.refl _ _ _,Or.inl ⟨rfl,rfl⟩⟩
def CG.step{cs:List Int}{F:Fi}(hn:1<=n)(hc:base+n<=cs.length)(R:CG base n a cs F):CG base n a (bY base n cs F).2 (bY base n cs F).1/\(bY base n cs F).1.key=F.key:=by
 obtain⟨H,T,G,D⟩:=R;obtain⟨s1,s2,s3,s4,s5⟩:=Ec hn hc T H;refine⟨⟨s2,s1,G.trans s3,?_⟩,s4⟩;rcases D with⟨d1,d2⟩|⟨d1,d2,d3,d4,d5⟩
 ·subst d2;rcases s5 with⟨e1,e2⟩|⟨e1,e2,e3,e4,e5,e6,e7,e8,e9,c,b⟩
  ·exact Or.inl ⟨e1.trans d1,e2⟩
  ·exact Or.inr ⟨e3,e4,e6,by rw[s4];exact e9,F.pos,e7,e5,e8,by rw[s4];exact c,by rw[s4];exact b⟩
 ·have e:bY base n cs F=(F,cs):=by unfold bY;rw[L4 d2]
  rw[e];exact Or.inr ⟨d1,d2,d3,d4,d5⟩
def CZ{cs:List Int}(hv:v≠0)(hz:cell base cs i=0)(hi:base+i<cs.length): ∀m,cnt base (cs.set (base+i) v) m=cnt base cs m+(if i<m then 1 else 0):=by
 intro m
 induction m with
 |zero=>rfl
 |succ m ih=>
  unfold cnt;rw[ih,jk hi];by_cases h:m=i
  ·subst h;simp[hv,hz]
  ·rw[LY h];by_cases h':i<m
   ·rw[L4 h',L4 (by omega:i<m+1)];omega
   ·rw[LY h',LY (by omega: ¬i<m+1)];omega
def BU: ∀m,(∀i,i<m->cell base cs i≠0)->cnt base cs m=m:=by
 intro m
 induction m with
 |zero=>intro _;rfl
 |succ m ih=>
  intro h;unfold cnt;rw[ih λi hi=>h i ah,LY (h m ah)]
def Co: ∀m,(∀i,i<m->cell base cs i=0)->cnt base cs m=0:=by
 intro m
 induction m with
 |zero=>intro _;rfl
 |succ m ih=>
  intro h;unfold cnt;rw[ih λi hi=>h i ah,L4 (h m ah)]
def jV.empty(h: ∀i,i<n->cell base cs i=0):jV base n cs:=λi hi a=>Mw (h i hi) a
def tD(l a b:Nat):Nat:=l*2^56+(a*2^28+b)
def Cr(ha:a<2^28)(hb:b<2^28)(c:a'<2^28)(d:b'<2^28)(e:tD l a b=tD l' a' b'):l=l'/\a=a'/\b=b':=by unfold tD at e;omega
def oo{a:Nat}(ha:a<2^32):(BitVec.ofInt 32 (a:Int)).toNat=a:=by rw[BitVec.toNat_ofInt];omega
def gK{a:Nat}(ha:a<2^32):IntKind.wrap .u32 (a:Int)=a:=by simp[IntKind.wrap,IntKind.bits,IntKind.signed];omega
def AQ{a b:Nat}(ha:a<2^32)(hb:b<2^32):bu .and .u32 (a:Int) (b:Int)=((a&&&b:Nat):Int):=by unfold bu;show IntKind.wrap .u32 ((BitVec.ofInt 32 (a:Int)&&&BitVec.ofInt 32 (b:Int)).toNat:Int)=_;rw[BitVec.toNat_and,oo ha,oo hb];exact gK (by have:= @Nat.and_le_left a b;omega)
def E5{a:Nat}(ha:a<2^28):bu .and .u32 (a:Int) 268435455=(a:Int):=by rw[show(268435455:Int)=((2^28-1:Nat):Int) by rfl,AQ ah (by decide),Nat.and_two_pow_sub_one_eq_mod,Od ha]
def Ff{h:aI}{l a b:Nat}{K:KK}(hl:l<256)(ha:a<2^28)(hb:b<2^28)(hK:K (ar ((tD l a b:Nat):Int)) h):
  Cl 198 [ap (l:Int),aq (a:Int),aq (b:Int)] h K:=by
 refine F198.spec ?_;refine F245.spec ?_;have U: ∀{x:Nat},x<2^64->IntKind.wrap .u64 (x:Int)=(x:Int):=λh=>pC (by unfold jP;omega)
 have e1:IntKind.wrap .u64 ((IntKind.wrap .u64 (IntKind.wrap .u8 (l:Int)))*2^(min (Int.toNat (56:Int)) (IntKind.bits .u64)))=((l<<<56:Nat):Int):=by rw[show IntKind.wrap .u8 (l:Int)=(l:Int)from xc hl,U ah,show min (Int.toNat (56:Int)) (IntKind.bits .u64)=56 by rfl,show(l:Int)*2^56=((l*2^56:Nat):Int) by omega,U ah,MN]
 have e2:IntKind.wrap .u64 ((IntKind.wrap .u64 (bu .and .u32 (a:Int) 268435455))*2^(min (Int.toNat (28:Int)) (IntKind.bits .u64)))=((a<<<28:Nat):Int):=by rw[E5 ha,U ah,show min (Int.toNat (28:Int)) (IntKind.bits .u64)=28 by rfl,show(a:Int)*2^28=((a*2^28:Nat):Int) by omega,U ah,MN]
 refine⟨ah,ah,aH rfl ?_⟩;rw[e1,e2,E5 hb,U ah];have s1:l<<<56<jP:=by rw[MN];unfold jP;omega
 have s2:a<<<28<jP:=by rw[MN];unfold jP;omega
 have s3:b<jP:=by unfold jP;omega
 rw[HG s1 s2,HG (pG s1 s2) s3,PK,<-Nw hb,<-Nw (by rw[MN];omega),MN,MN];exact hK
def Du{h:aI}{cs:List Int}(hp:rd h ⟨s,4,none⟩=some (au (aw t)))
  (Tb:dO h t m 0 T) (M:bH h m mc cs ops fails) (hn:1<=T) (hn2:T<1000000000) (hc:cs.length=T) (d4:t≠m) (d5:t≠mc) (bt:t<h.size) (bm:m<h.size) (y:mc<h.size)
  (I:jV 0 T cs) (hk:key≠0) (u: ∀j,j<T->cell 0 cs j≠key)  (hz:z<T) (x:cell 0 cs z=0)
  (hK: ∀h' i c a,i<T->cell 0 cs i=0->dO h' t m 0 T->bH h' m mc (cs.set i key) c a->jV 0 T (cs.set i key)->aM [m,mc] h h'->K (.tuple #[ap (i:Int),aC]) h'):
  Cl 197 [au (aw s),ar key] h K:=by
 refine F197.spec _ _ h K ?_;simp only[aL,LX];refine aQ hp ?_;refine yU Tb hn hn2 λf h1 H1 O1 hf=>aQ rfl ?_;unfold F197.wk3;have ht:=Tb.only O1 ak;have hm:=M.only O1 ak ak
 have fin: ∀(F:Fi) (cs':List Int) (h':aI) (c a:Int),F.done=true->CG 0 T cs cs' F->F.key=key->dr h' f t F->dO h' t m 0 T->bH h' m mc cs' c a->aM [m,mc] h h'->
   F197.wk4 (some (aw f)) h' K:=by
  intro F cs' h' c a hd R ek H Tb M O;unfold F197.wk4;refine yz H ⟨_,_,rfl,yf H (a8 rfl ?_)⟩;obtain⟨R1,R2,R3,R4⟩:=R;have ze:cell 0 cs z=0:=x;rcases R4 with⟨r1,r2⟩|⟨r1,r2,r3,r4,i,r5,r6,r7,r8,r9⟩
  ·subst r2;rcases R1.ended hd with⟨e1,_⟩|⟨_,_,i,hi,_,e4⟩|⟨_,_,_,_,e5⟩
   ·exact Mw (ek▸e1) hk
   ·exact Mw (e4.trans ek) (u i hi)
   ·exact Mw ze (e5 z hz).1
  ·rw[r6,r1];rw[LX,ek]at r9;rw[r9]at M R2;exact hK h' i _ _ r5 r7 Tb M R2 O
 have n: ∀(d:Nat) (F:Fi) (cs':List Int) (h':aI) (c a:Int),CG 0 T cs cs' F->F.key=key->dr h' f t F->dO h' t m 0 T->bH h' m mc cs' c a->aM [m,mc] h h'->
   (F.done=false-> ∀k o g,(bY 0 T cs' F).1.done=false->CG 0 T cs (bY 0 T cs' F).2 (bY 0 T cs' F).1->(bY 0 T cs' F).1.key=key->dr k f t (bY 0 T cs' F).1->dO k t m 0 T->bH k m mc (bY 0 T cs' F).2 o g->aM [m,mc] h k->
    F197.wL3 d (some (aw f)) (.func (.func 242) #[au (aw f)] #[]) k K)->
   F197.wL3 (d+1) (some (aw f)) (.func (.func 242) #[au (aw f)] #[]) h' K:=by
  intro d F cs' h' c a R ek H Tb M O nx;have A:cs'.length=T:=R.2.2.1.1.trans hc;obtain⟨R',l⟩:=R.step hn ah;rw[F197.sL3];refine bj (by kernel_rfl) ?_;refine yj Tb H M hn hn2 ah R.1.pos (λhd=>(R.1.going hd).2.1) (by have:=R.1.left;omega) ah ah ah ah d4 d5 λh2 v H2 T2 M2 O2=>a8 rfl ?_;have O':aM [m,mc] h h2:=O.trans O2 (by intro b hb hl;simp at hb ⊢;omega);refine aR (λhb=> ?_) λhb=> ?_
  ·have hb:(bY 0 T cs' F).1.done=false:=by simpa using hb
   refine nx ?_ h2 _ _ hb R' (l.trans ek) H2 T2 M2 O';cases hd:F.done with
   |false=>rfl
   |true=>
    have e:bY 0 T cs' F=(F,cs'):=by unfold bY;rw[L4 hd]
    rw[e,hd]at hb;exact Mw hb ak
  ·have hb:(bY 0 T cs' F).1.done=true:=by simpa using hb
   exact fin _ _ _ _ _ hb R' (l.trans ek) H2 T2 M2 O'
 have q: ∀(d:Nat) (F:Fi) (cs':List Int) (h':aI) (c a:Int),uX 0 cs' F<=d->CG 0 T cs cs' F->F.key=key->dr h' f t F->dO h' t m 0 T->bH h' m mc cs' c a->aM [m,mc] h h'->
   F197.wL3 (d+1) (some (aw f)) (.func (.func 242) #[au (aw f)] #[]) h' K:=by
  intro d
  induction d with
  |zero=> 
   intro F cs' h' c a hd R ek H Tb M O;refine n 0 F cs' h' c a R ek H Tb M O λhf=> ?_;rw[zN (base:=0) (cs:=cs') (F:=F) ah]at hf;exact Mw hf ak
  |succ d ih=>
   intro F cs' h' c a hd R ek H Tb M O;refine n (d+1) F cs' h' c a R ek H Tb M O λhf h2 o2 f2 _ R' l H' T' M' O'=> ?_;exact ih _ _ _ _ _ (by have:=AK (base:=0) (cs:=cs') R.1 hf;omega) R' l H' T' M' O'
 exact⟨_,q (3*T) (jo key T) cs h1 ops fails (DI hn) (CG.new hn I) rfl H1 ht hm (by have:=(aM.refl [m,mc] h).trans O1 ak;exact this)⟩
def bV(h:aI)(b:Nat)(k:IntKind)(m:List (Int×Value)):Prop:=
 ∃es cl,mp h b=some (es,cl)/\es.toList.map (λe=>(e.key,e.val))=m.map (λp=>(Value.int k p.1,p.2))/\(m.map (·.1)).Nodup/\(es.toList.map (·.born)).Nodup/\ ∀e∈es.toList,e.born<cl
def bV.lt{h:aI}(H:bV h b k m):b<h.size:=by
 obtain⟨es,cl,h1,-⟩:=H;unfold mp at h1;cases hh:h[b]? with
 |none=>rw[hh]at h1;cases h1
 |some o=>exact(Mf.1 hh).1
def bV.only(H:bV h b k m)(O:aM S h h')(hb:b∉S):bV h' b k m:=by have hl:=H.lt;obtain⟨es,cl,h1,h2⟩:=H;refine⟨es,cl,?_,h2⟩;unfold mp at h1 ⊢;rw[O.same b hl hb];exact h1
def kF(h1:mp h b=some (es,cl)):h[b]? =some (.map es cl):=by
 unfold mp at h1;cases hh:h[b]? with
 |none=>rw[hh]at h1;cases h1
 |some o=>
  rw[hh]at h1;cases o with
  |map a c=>injection h1 with h1;injection h1 with e1 e2;subst e1;subst e2;rfl
  |_=>cases h1
def aM.map{h:aI}(h1:mp h b=some (es,cl))(c:Array MapEntry)(d:Nat):aM [b] h (h.setIfInBounds b (.map c d)):=by
 have ho:=kF h1;refine⟨ak,λj hj hb=> ?_,λa=> ?_⟩
 ·rw[Np,LY (λe=>hb (by simp[e]))]
 ·unfold fz;rw[Np];by_cases e:b=a.block
  ·subst e;rw[L4 rfl,L4 (Mf.1 ho).1,ho]
  ·rw[LY e]
def my{h:aI}(h1:mp h b=some (es,cl))(a:Array MapEntry)(c:Nat):mp (h.setIfInBounds b (.map a c)) b=some (a,c):=by unfold mp;rw[Np,L4 rfl,L4 (Mf.1 (kF h1)).1]
def jr: ∀(es:List MapEntry) (m:List (Int×Value)) (i:Nat),es.map (λe=>(e.key,e.val))=m.map (λp=>(Value.int k p.1,p.2))->
  (Instr.findNow (.int k) (.int k x) es i=some none/\m.lookup x=none/\ ∀p∈m,p.1≠x)\/
  ∃j v m1 m2,Instr.findNow (.int k) (.int k x) es i=some (some (i+j,v))/\m=m1++(x,v)::m2/\m1.length=j/\m.lookup x=some v/\(∀p∈m1,p.1≠x)
 | [],[],i,_=>Or.inl ⟨rfl,rfl,ak⟩
 | [],_::_,_,h=>by simp at h
 |_::_,[],_,h=>by simp at h
 |e::es,p::m,i,h=>by
  simp only[Mz,Ng,Ph]at h;obtain⟨⟨h1,h2⟩,h3⟩:=h;by_cases hx:x=p.1
  ·subst hx;refine Or.inr ⟨0,p.2,[],m,?_,rfl,rfl,?_,ak⟩
   ·simp[Instr.findNow,Instr.sameNow,h1,h2]
   ·simp[List.lookup]
  ·have hs:Instr.sameNow (.int k) (.int k x) e.key=some false:=by simp[Instr.sameNow,h1,hx]
   rcases jr es m (i+1) h3 with⟨a,b,c⟩|⟨j,v,m1,m2,a,b,c,d,f⟩
   ·refine Or.inl ⟨?_,?_,?_⟩
    ·simp only[Instr.findNow,hs];exact a
    ·simp only[List.lookup,show(x==p.1)=false by simp[hx]];exact b
    ·intro q hq;rcases List.mem_cons.1 hq with rfl|hq
     ·exact λe=>hx e.symm
     ·exact c q hq
   ·refine Or.inr ⟨j+1,v,p::m1,m2,?_,by rw[b];rfl,by simp[c],?_,?_⟩
    ·simp only[Instr.findNow,hs];rw[a]
     congr 3
     omega
    ·simp only[List.lookup,show(x==p.1)=false by simp[hx]];exact d
    ·intro q hq;rcases List.mem_cons.1 hq with rfl|hq
     ·exact λe=>hx e.symm
     ·exact f q hq
def dg{m:List (Int×Value)}(H:bV h b k m)
  (hN:m.lookup x=none->K none) (hS: ∀i v,m.lookup x=some v->K (some (i,v))):dT h (some b) k k x K:=by
 obtain⟨es,cl,h1,h2,h3,-⟩:=H;refine⟨es,cl,h1,?_⟩;rcases jr (x:=x) es.toList m 0 h2 with⟨a,c,-⟩|⟨j,v,m1,m2,a,c,d,e,-⟩
 ·exact⟨_,a,hN c⟩
 ·exact⟨_,a,hS _ v e⟩
def iz(m:List (Int×Value))(x:Int)(v:Value):List (Int×Value):=if(m.lookup x).isSome then m.map (λp=>if p.1=x then(x,v)else p)else m++[(x,v)]
def lE(m:List (Int×Value))(x:Int):List (Int×Value):=m.filter λp=>p.1≠x
def qC{m m':List (Int×Value)}:(m++m').lookup x=(m.lookup x).or (m'.lookup x):=by
 induction m with
 |nil=>simp[List.lookup]
 |cons p m ih=>
  simp only[Nu,List.lookup];cases x==p.1<;>simp[ih]
def qP{m:List (Int×Value)}:(iz m x v).map (·.1)=if(m.lookup x).isSome then m.map (·.1)else m.map (·.1)++[x]:=by
 unfold iz;split
 ·rw[NL];apply Nb;intro p _;simp only[Function.comp];split
  ·next e=>exact e.symm
  ·rfl
 ·simp
def dY{m:List (Int×Value)}:m.lookup x=none↔x∉m.map (·.1):=by
 induction m with
 |nil=>simp[List.lookup]
 |cons p m ih=>
  simp only[List.lookup,Mz,List.mem_cons,NU];by_cases h:x=p.1
  ·subst h;simp
  ·simp only[show(x==p.1)=false by simp[h]];rw[ih];exact⟨λa=>⟨h,a⟩,λa=>a.2⟩
def cr{m:List (Int×Value)}:(iz m x v).lookup y=if y=x then some v else m.lookup y:=by
 unfold iz;split
 ·next hs=>
  induction m with
  |nil=>simp[List.lookup]at hs
  |cons p m ih=>
   simp only[Mz,List.lookup];by_cases hp:p.1=x
   ·rw[L4 hp];by_cases hy:y=x
    ·subst hy;simp
    ·rw[LY hy];have e1:(y==x)=false:=by simp[hy]
     have e2:(y==p.1)=false:=by simp[hp,hy]
     simp only[e1,e2];clear ih hs
     induction m with
     |nil=>rfl
     |cons r m ih2=>
      simp only[Mz,List.lookup];by_cases hr:r.1=x
      ·rw[L4 hr];have e3:(y==r.1)=false:=by simp[hr,hy]
       simp only[e1,e3];exact ih2
      ·rw[LY hr];cases y==r.1
       ·exact ih2
       ·rfl
   ·rw[LY hp]
    have a:(m.lookup x).isSome:=by simp only[List.lookup,show(x==p.1)=false by simp[Ne.symm hp]]at hs;exact hs
    by_cases hy:y=p.1
    ·subst hy;simp[hp]
    ·have e1:(y==p.1)=false:=by simp[hy]
     simp only[e1];exact ih a
 ·next hs=>
  have hn:m.lookup x=none:=by
   cases hh:m.lookup x with
   |none=>rfl
   |some v=>rw[hh]at hs;exact Mw rfl hs
  rw[qC];by_cases hy:y=x
  ·subst hy;rw[hn,L4 rfl];simp[List.lookup]
  ·rw[LY hy];simp[List.lookup,show(y==x)=false by simp[hy]]
def ny{m:List (Int×Value)}:(lE m x).lookup y=if y=x then none else m.lookup y:=by
 unfold lE
 induction m with
 |nil=>simp[List.lookup]
 |cons p m ih=>
  by_cases hp:p.1=x
  ·rw[List.filter_cons_of_neg (by simp[hp]),ih];by_cases hy:y=x
   ·rw[L4 hy,L4 hy]
   ·rw[LY hy,LY hy];simp[List.lookup,show(y==p.1)=false by simp[hp,hy]]
  ·rw[List.filter_cons_of_pos (by simp[hp])];simp only[List.lookup];by_cases hy:y=p.1
   ·subst hy;simp[hp]
   ·simp only[show(y==p.1)=false by simp[hy]];exact ih
def De{m1 m2:List (Int×Value)}{x:Int}{v v':Value}(h1: ∀p∈m1,p.1≠x)(h2: ∀p∈m2,p.1≠x):(m1++(x,v)::m2).map (λp=>if p.1=x then(x,v')else p)=m1++(x,v')::m2:=by
 have e: ∀l:List (Int×Value),(∀p∈l,p.1≠x)->l.map (λp=>if p.1=x then(x,v')else p)=l:=by
  intro l hl
  conv=>rhs;rw[<-List.map_id l]
  apply Nb;intro p hp;rw[LY (hl p hp)]
  rfl
 rw[MJ,Mz,L4 rfl,e m1 h1,e m2 h2]
def yL{m1 m2:List (Int×Value)}{x:Int}{v:Value}(h:((m1++(x,v)::m2).map (·.1)).Nodup):(∀p∈m1,p.1≠x)/\ ∀p∈m2,p.1≠x:=by rw[MJ,Mz]at h;obtain⟨h1,h2,h3⟩:=ML.1 h;refine⟨λp hp e=>h3 p.1 (Ms.2 ⟨p,hp,rfl⟩) x ak e,λp hp e=> ?_⟩;exact(MO.1 h2).1 (Ms.2 ⟨p,hp,e⟩)
def jK{h:aI}{b:Nat}{k:IntKind}{m:List (Int×Value)}{x:Int}(H:bV h b k m):
  ∃es cl,mp h b=some (es,cl)/\((Instr.findNow (.int k) (.int k x) es.toList 0=some none/\m.lookup x=none/\bV (h.setIfInBounds b (.map es cl)) b k (lE m x)/\
    (∀v,bV (h.setIfInBounds b (.map (es.push {key:= .int k x,val:=v,born:=cl}) (cl+1))) b k (iz m x v)))\/
   ∃j v,Instr.findNow (.int k) (.int k x) es.toList 0=some (some (j,v))/\m.lookup x=some v/\Instr.sameBits 10000 (((es[j]?).map (·.key)).getD (.int k x)) (.int k x)=true/\
    bV (h.setIfInBounds b (.map (es.eraseIdxIfInBounds j) cl)) b k (lE m x)/\(∃e,es[j]? =some e/\e.key= .int k x/\e.val=v/\ ∀i e',es[i]? =some e'->e'.key= .int k x->i=j)/\
    ∀(g:MapEntry->MapEntry) v',(∀e,es[j]? =some e->(g e).key= .int k x/\(g e).val=v'/\(g e).born=e.born)->bV (h.setIfInBounds b (.map (es.modify j g) cl)) b k (iz m x v')):=by
 obtain⟨es,cl,h1,h2,h3,h4,h5⟩:=H;refine⟨es,cl,h1,?_⟩;rcases jr (x:=x) es.toList m 0 h2 with⟨a,c,c'⟩|⟨j,v,m1,m2,a,c,d,e,e'⟩
 ·refine Or.inl ⟨a,c,⟨es,cl,my h1 _ _,?_,?_,h4,h5⟩,λv=>⟨_,_,my h1 _ _,?_,?_,?_,?_⟩⟩
  ·rw[show lE m x=m from Nr.2 λp hp=>by simp[c' p hp]];exact h2
  ·rw[show lE m x=m from Nr.2 λp hp=>by simp[c' p hp]];exact h3
  ·unfold iz;rw[LY (by simp[c])];simp[h2]
  ·rw[qP,LY (by simp[c])];refine ML.2 ⟨h3,ak,λy hy z hz=> ?_⟩;simp at hz;subst hz;intro e;subst e;exact dY.1 c hy
  ·simp only[Array.toList_push,MJ];refine ML.2 ⟨h4,ak,λy hy z hz=> ?_⟩;simp at hz;subst hz;obtain⟨e0,f,rfl⟩:=Ms.1 hy;have:=h5 e0 f;omega
  ·intro e0 f;simp only[Array.toList_push,List.mem_append,LZ]at f;rcases f with f|rfl
   ·have:=h5 e0 f;omega
   ·exact Nat.lt_succ_self _
 ·subst c;obtain⟨n1,n2⟩:=yL h3;rw[LX]at a
  have t:j<es.size:=by have:=congrArg List.length h2;simp at this;omega
  have n:es.toList.map (λe=>(e.key,e.val))=m1.map (λp=>(Value.int k p.1,p.2))++(Value.int k x,v)::m2.map (λp=>(Value.int k p.1,p.2)):=by rw[h2];simp
  have o:(es.toList.map (λe=>(e.key,e.val)))[j]? =some (Value.int k x,v):=by rw[n,MK (by simp[d])];simp[d]
  obtain⟨e0,f,A,B⟩: ∃e0,es[j]? =some e0/\e0.key= .int k x/\e0.val=v:=by
   rw[Mx]at o;cases hh:es[j]? with
   |none=>simp[hh]at o
   |some e0=>
    simp[hh]at o;exact⟨e0,rfl,o.1,o.2⟩
  have u: ∀i e',es[i]? =some e'->e'.key= .int k x->i=j:=by
   intro i e' hi hk;have h6:=congrArg (λl=>l[i]?) n;simp only[Mx]at h6;rw[show es.toList[i]? =some e' by rw[<-hi];simp]at h6;by_cases hlt:i<j
   ·rw[Mo (by simp;omega),Mx]at h6;cases hm:m1[i]? with
    |none=>simp[hm]at h6
    |some p=>
     simp[hm,hk]at h6;exact Mw h6.1.symm (n1 p (Mc hm))
   ·by_cases hgt:j<i
    ·rw[MK (by simp;omega)]at h6;obtain⟨r,hr⟩: ∃r,i=j+1+r:=⟨i-j-1,ah⟩;subst hr;simp only[ND,d]at h6;rw[show j+1+r-j=r+1 by omega,NA,Mx]at h6;cases hm:m2[r]? with
     |none=>simp[hm]at h6
     |some p=>
      simp[hm,hk]at h6;exact Mw h6.1.symm (n2 p (Mc hm))
    ·omega
  refine Or.inr ⟨j,v,a,e,?_,⟨_,_,my h1 _ _,?_,?_,?_,?_⟩,⟨e0,f,A,B,u⟩,λg v' hg=>⟨_,_,my h1 _ _,?_,?_,?_,?_⟩⟩
  ·rw[f];simp[Instr.sameBits,A]
  ·have hd:lE (m1++(x,v)::m2) x=m1++m2:=by
    unfold lE;rw[Nx,List.filter_cons_of_neg ak,Nr.2 (λp hp=>by simp[n1 p hp]),Nr.2 (λp hp=>by simp[n2 p hp])]
   rw[hd];simp only[Array.eraseIdxIfInBounds,t,dif_pos,Pu];rw[List.eraseIdx_eq_take_drop_succ,MJ,List.map_take,List.map_drop,n];have l1:(m1.map (λp=>(Value.int k p.1,p.2))).length=j:=by simp[d]
   rw[<-l1,Pz,Pj,Oh ah];simp
  ·have:=h3.sublist (l₁:=(lE (m1++(x,v)::m2) x).map (·.1)) (List.Sublist.map _ Nv);exact this
  ·simp only[Array.eraseIdxIfInBounds,t,dif_pos,Pu];exact h4.sublist (List.Sublist.map _ (List.eraseIdx_sublist _ _))
  ·simp only[Array.eraseIdxIfInBounds,t,dif_pos,Pu];exact λe1 q=>h5 e1 ((List.eraseIdx_sublist _ _).subset q)
  ·unfold iz;rw[L4 (by simp[e]),De n1 n2];rw[PG];apply MM;intro i;rw[Mx,PB];have h6:=congrArg (λl=>l[i]?) n;simp only[Mx]at h6;by_cases hi:j=i
   ·subst hi;simp only[PF];rw[show es.toList[j]? =some e0 by rw[<-f];simp];obtain⟨g1,g2,-⟩:=hg e0 f;rw[MJ,Mz,MK (by simp[d])];simp[d,g1,g2]
   ·simp only[hi,Nf];rw[MJ,Mz];rw[show((λa:MapEntry=>a)<$>es.toList[i]?)=es.toList[i]? by cases es.toList[i]? <;>rfl];rw[h6];by_cases hlt:i<j
    ·rw[Mo (by simp;omega),Mo (by simp;omega)]
    ·rw[MK (by simp;omega),MK (by simp;omega)];obtain⟨r,hr⟩: ∃r,i=j+1+r:=⟨i-j-1,ah⟩;subst hr;simp only[ND,d];rw[show j+1+r-j=r+1 by omega]
     rfl
  ·rw[qP,L4 (by simp[e])];exact h3
  ·rw[show(es.modify j g).toList.map (·.born)=es.toList.map (·.born)from ?_]
   ·exact h4
   ·rw[PG];apply MM;intro i;rw[Mx,PB,Mx];by_cases hi:j=i
    ·subst hi;rw[show es.toList[j]? =some e0 by rw[<-f];simp];simp[(hg e0 f).2.2]
    ·simp only[hi,Nf];cases es.toList[i]? <;>rfl
  ·intro e1 q;rw[PG]at q;obtain⟨i,hi⟩:=MC.1 q;rw[PB]at hi;by_cases hij:j=i
   ·subst hij;rw[show es.toList[j]? =some e0 by rw[<-f];simp]at hi;simp at hi;subst hi;rw[(hg e0 f).2.2];exact h5 e0 (Mc (i:=j) (by rw[<-f];simp))
   ·simp only[hij,Nf]at hi
    have:es.toList[i]? =some e1:=by
     cases hh:es.toList[i]? with
     |none=>rw[hh]at hi;cases hi
     |some e2=>rw[hh]at hi;exact hi
    exact h5 e1 (Mc this)
def fk{h:aI}(H:bV h b k m)(hK: ∀h',bV h' b k (iz m x v)->aM [b] h h'->h'.size=h.size->K h'):lu h (some b) k k x v K:=by
 obtain⟨es,cl,h1,h2⟩:=jK (x:=x) H;refine⟨es,cl,h1,?_⟩;rcases h2 with⟨a,c,d,e⟩|⟨j,v0,a,c,d,e,f,g⟩
 ·exact⟨_,a,hK _ (e v) (aM.map h1 _ _) ak⟩
 ·exact⟨_,a,d,hK _ (g _ v λe _=>⟨rfl,rfl,rfl⟩) (aM.map h1 _ _) ak⟩
def sn{h:aI}(H:bV h b k m)(hK: ∀h',bV h' b k (lE m x)->aM [b] h h'->h'.size=h.size->K h'):yy h (some b) k k x K:=by
 obtain⟨es,cl,h1,h2⟩:=jK (x:=x) H;refine⟨es,cl,h1,?_⟩;rcases h2 with⟨a,c,d,e⟩|⟨j,v0,a,c,d,e,f,g⟩
 ·exact⟨_,a,hK _ d (aM.map h1 _ _) ak⟩
 ·exact⟨_,a,hK _ e (aM.map h1 _ _) ak⟩
def Fo(h:aI)(b:Nat)(k:IntKind)(x st:Int):Prop:= ∃(es:Array MapEntry) (cl i:Nat) (e:MapEntry),mp h b=some (es,cl)/\es[i]? =some e/\e.key= .int k x/\(e.born:Int)=st
def Eo{h:aI}{m:List (Int×Value)}(H:bV h b k m)
  (hK: ∀v st h',v=(m.lookup x).getD z->bV h' b k (iz m x v)->Fo h' b k x st->aM [b] h h'->h'.size=h.size->K v st h'):zC h (some b) k k x z K:=by
 obtain⟨es,cl,h1,h2⟩:=jK (x:=x) H;refine⟨es,cl,h1,?_⟩;rcases h2 with⟨a,c,d,e⟩|⟨j,v0,a,c,d,e,⟨e0,f1,f2,f3,f4⟩,g⟩
 ·refine⟨_,a,hK _ _ _ (by rw[c];rfl) (e z) ⟨_,_,es.size,{key:= .int k x,val:=z,born:=cl},my h1 _ _,ak,rfl,rfl⟩ (aM.map h1 _ _) ak⟩
 ·refine⟨_,a,d,hK _ _ _ (by rw[c];rfl) (g _ v0 λe he=> ?_) ⟨_,_,j,{e0 with key:= .int k x},my h1 _ _,by simp[OC,f1],rfl,?_⟩ (aM.map h1 _ _) ak⟩
  ·rw[f1]at he;injection he with he;subst he;exact⟨rfl,f3,rfl⟩
  ·simp[f1]
def DL{h:aI}(H:bV h b k m)(S:Fo h b k x st)
  (hK: ∀h',bV h' b k (iz m x v)->aM [b] h h'->h'.size=h.size->K h'):zb h (some b) st v K:=by
 obtain⟨u,y,i,ei,s1,s2,s3,s4⟩:=S;have H':=H;obtain⟨es,cl,h1,h2⟩:=jK (x:=x) H;rw[h1]at s1;injection s1 with s1;injection s1 with s1 s1';subst s1 s1';refine⟨es,cl,h1,?_⟩;rcases h2 with⟨a,c,d,e⟩|⟨j,v0,a,c,d,e,⟨e0,f1,f2,f3,f4⟩,g⟩
 ·obtain⟨t,l,q1,q2,q3,q4,q5⟩:=H';rw[h1]at q1;injection q1 with q1;injection q1 with q1 q1';subst q1 q1';exfalso
  have h6:(es.toList.map (λe=>(e.key,e.val)))[i]? =some (Value.int k x,ei.val):=by rw[Mx,show es.toList[i]? =some ei by rw[<-s2];simp];simp[s3]
  rw[q2,Mx]at h6;cases hm:m[i]? with
  |none=>simp[hm]at h6
  |some p=>
   simp[hm]at h6;exact dY.1 c (Ms.2 ⟨p,Mc hm,h6.1⟩)
 ·have n:=f4 i ei s2 s3;subst n;obtain⟨t,l,q1,q2,q3,q4,q5⟩:=H';rw[h1]at q1;injection q1 with q1;injection q1 with q1 q1';subst q1 q1';have f:i<es.size:=(Mf.1 s2).1;refine⟨i,?_,hK _ (g _ v λe he=> ?_) (aM.map h1 _ _) ak⟩
  ·rw[Array.findIdx?_eq_some_iff_getElem];refine⟨f,?_,λj o=> ?_⟩
   ·have:es[i]=ei:=(Mf.1 s2).2;rw[this];simp[s4]
   ·have q:es[i]=ei:=(Mf.1 s2).2;intro hb;have hb:(es[j].born:Int)=st:=by simpa using hb
    have:es[j].born=es[i].born:=by rw[q];omega
    have hnd:=List.nodup_iff_pairwise_ne.1 q4;rw[PN,NW]at hnd;exact hnd j i (by simp;omega) (by simpa using f) o (by simpa using this)
  ·rw[s2]at he;injection he with he;subst he;exact⟨s3,rfl,rfl⟩
def bV.empty(h1:mp h b=some (#[],0)):bV h b k []:=⟨#[],0,h1,rfl,ak,ak,ak⟩
abbrev Nd:=Nat×Nat×Nat
def kf(x:Nd):Nat:=tD x.1 x.2.1 x.2.2
def kE(x:Nd):Prop:=x.1<256/\x.2.1<2^28/\x.2.2<2^28/\x.2.1≠x.2.2
def tO(h:kE x):kf x≠0:=by obtain⟨a,b,c,d⟩:=h;unfold kf tD;omega
def wG(h:kE x)(g:kE y)(e:kf x=kf y):x=y:=by obtain⟨a,b,c⟩:=x;obtain⟨a',b',c'⟩:=y;obtain⟨e1,e2,e3⟩:=Cr h.2.1 h.2.2.1 g.2.1 g.2.2.1 e;dsimp only at e1 e2 e3;rw[e1,e2,e3]
def nd(N:ay)(i:Nat):Option Nd:=(N[i]?).join
def bi(N:ay):Nat:=N.countP (·.isSome)
def dk:nd N i=some x↔N[i]? =some (some x):=by
 unfold nd;cases h:N[i]? with
 |none=>simp
 |some o=>simp
def ko{N:ay}(h:nd N i=some x):i<N.length:=(Ml.1 (dk.1 h)).1
def o0{N:ay}(h:N.length<=i):nd N i=none:=by
 unfold nd;rw[Mt h]
 rfl
def vE{N:ay}(k:Nat):nd (N++[o]) k=if k=N.length then o else nd N k:=by
 unfold nd;by_cases h:k<N.length
 ·rw[Mo h,LY ah]
 ·by_cases e:k=N.length
  ·subst e;rw[L4 rfl];simp
  ·rw[LY e,Mt (by simp;omega),Mt ah]
def fq{N:ay}(hi:i<N.length)(k:Nat):nd (N.set i o) k=if k=i then o else nd N k:=by
 unfold nd;rw[ME];by_cases e:i=k
 ·subst e;rw[L4 rfl,L4 hi,L4 rfl]
  rfl
 ·rw[LY e,LY (Ne.symm e)]
def ta(N:ay)(o:Option Nd):bi (N++[o])=bi N+if o.isSome then 1 else 0:=by unfold bi;rw[List.countP_append,List.countP_singleton]
def ov: ∀N:ay,bi N<=N.length:=λN=>List.countP_le_length
def pY: ∀{N:ay} {i:Nat},N[i]? =some none->bi (N.set i (some x))=bi N+1
 | [],i,h=>by simp at h
 |o::N,0,h=>by simp at h;subst h;simp[bi]
 |o::N,i+1,h=>by have:=pY (x:=x) (N:=N) (i:=i) (by simpa using h);unfold bi at this ⊢;rw[Ni,Nl,Nl,this];omega
def rK: ∀{N:ay} {i:Nat},N[i]? =some (some y)->bi (N.set i (some x))=bi N
 | [],i,h=>by simp at h
 |o::N,0,h=>by simp at h;subst h;simp[bi]
 |o::N,i+1,h=>by have:=rK (x:=x) (y:=y) (N:=N) (i:=i) (by simpa using h);unfold bi at this ⊢;rw[Ni,Nl,Nl,this]
structure mT(T:Nat)(cs:List Int)(mm:List (Int×Value))(N:ay):Prop where
 len:cs.length=T
 inv:jV 0 T cs
 cells: ∀j,j<T->cell 0 cs j=0\/ ∃i x,nd N i=some x/\cell 0 cs j=(kf x:Int)/\mm.lookup (j:Int)=some (aq ((i+2:Nat):Int))
 all: ∀i x,nd N i=some x-> ∃j,j<T/\cell 0 cs j=(kf x:Int)
 cnt:cnt 0 cs T=bi N
 ok: ∀i x,nd N i=some x->kE x
def mT.congr(L:mT T cs mm N)(h: ∀k,nd N' k=nd N k)(hc:bi N'=bi N):mT T cs mm N':=
 ⟨L.len,L.inv,λj hj=>by
  rcases L.cells j hj with e|⟨i,x,e1,e2⟩
  ·exact .inl e
  ·exact .inr ⟨i,x,by rw[h];exact e1,e2⟩,λi x e=>L.all i x (by rw[<-h];exact e),by rw[hc];exact L.cnt,λi x e=>L.ok i x (by rw[<-h];exact e)⟩
def yc: ∀T,cnt 0 cs T<T-> ∃z,z<T/\cell 0 cs z=0:=λT h=>by
 by_cases e: ∃z,z<T/\cell 0 cs z=0
 ·exact e
 ·have:=BU T λi hi hz=>e ⟨i,hi,hz⟩;omega
def rC(N:ay)(k:Nat):Prop:= ∀i x,nd N i=some x->kf x≠k
def mT.absent(L:mT T cs mm N)(hk:k≠0)(hn:rC N k): ∀j,j<T->cell 0 cs j≠(k:Int):=λj hj e=>by
 rcases L.cells j hj with h|⟨i,x,h1,h2,_⟩
 ·omega
 ·exact hn i x h1 ah
def mT.put{cs:List Int}(L:mT T cs mm N)(hx:kE x)(hi:i<T)(hz:cell 0 cs i=0)(I:jV 0 T (cs.set i (kf x)))
  (hq:nd N q=none) (hN: ∀k,nd N' k=if k=q then some x else nd N k) (hc:bi N'=bi N+1):
  mT T (cs.set i (kf x)) (iz mm (i:Int) (aq ((q+2:Nat):Int))) N':=by
 have b:0+i<cs.length:=by have:=L.len;omega
 have a: ∀j,cell 0 (cs.set i (kf x:Int)) j=if j=i then(kf x:Int)else cell 0 cs j:=λj=>by have:=jk (base:=0) (cs:=cs) (i:=i) (j:=j) (v:=(kf x:Int)) b;rw[LX]at this;exact this
 have kx:=tO hx;refine⟨by rw[No];exact L.len,I,λj hj=> ?_,λk y hy=> ?_,?_,λk y hy=> ?_⟩
 ·rw[a j,cr];by_cases e:j=i
  ·subst e;rw[L4 rfl,L4 rfl];exact .inr ⟨q,x,by rw[hN,L4 rfl],rfl,rfl⟩
  ·rw[LY e,LY ah];rcases L.cells j hj with h|⟨k,y,h1,h2,h3⟩
   ·exact .inl h
   ·refine .inr ⟨k,y,?_,h2,h3⟩;rw[hN,LY]
    ·exact h1
    ·intro e2;subst e2;rw[hq]at h1;cases h1
 ·rw[hN]at hy;split at hy
  ·injection hy with hy;subst hy;exact⟨i,hi,by rw[a i,L4 rfl]⟩
  ·obtain⟨j,h1,h2⟩:=L.all k y hy;refine⟨j,h1,?_⟩;rw[a j,LY ?_]
   ·exact h2
   ·intro e;subst e;rw[hz]at h2;have:=tO (L.ok k y hy);omega
 ·have:=CZ (base:=0) (cs:=cs) (i:=i) (v:=(kf x:Int)) ah hz b T;rw[LX,L4 hi]at this;rw[this,L.cnt,hc]
 ·rw[hN]at hy;split at hy
  ·injection hy with hy;subst hy;exact hx
  ·exact L.ok k y hy
def vV{h:aI}{s t m mc sb T q:Nat}{S:List Value}{cs:List Int}{ops fails:Int}{mm:List (Int×Value)}{N N':ay}{x:Nd}{K:KK}(A:At h s S)
  (n:S[4]? =some (au (aw t))) (j:S[5]? =some (.map (some sb))) (ds:s∉[m,mc,sb])
  (Tb:dO h t m 0 T) (M:bH h m mc cs ops fails) (Mp:bV h sb .i64 mm) (hn2:T<1000000000) (d4:t∉[m,mc,sb]) (d7:m≠sb) (d8:mc≠sb) (bt:t<h.size) (bm:m<h.size) (o:mc<h.size)
  (L:mT T cs mm N) (hx:kE x) (f:rC N (kf x)) (c:bi N<T) (hq:nd N q=none) (hN: ∀k,nd N' k=if k=q then some x else nd N k) (hc:bi N'=bi N+1)
  (hK: ∀h' cs' d e a,At h' s S->dO h' t m 0 T->bH h' m mc cs' e a->bV h' sb .i64 d->mT T cs' d N'->aM [m,mc,sb] h h'->K aE h'):
  Cl 160 [au (aw s),aq ((q+2:Nat):Int),.agg #[aC,ap (x.1:Int),aq (x.2.1:Int),aq (x.2.2:Int)]] h K:=by
 simp only[List.mem_cons,MR,Nk,NU]at d4 ds;refine F160.spec _ _ _ _ _ _ h K ?_;simp only[aL,LX];refine aW λh1 A1 O1 z1=> ?_;refine aH (by rw[At.rd A1];rfl) (aH (by rw[At.rd A1];rfl) (aH (by rw[At.rd A1];rfl) ?_));refine Ff hx.1 hx.2.1 hx.2.2.1 (aH rfl ?_);obtain⟨z,hz,g⟩:=yc (cs:=cs) T (by rw[L.cnt];exact c);have As:=A.only O1 ak
 refine Du (t:=t) (by rw[At.rd As];exact n) (Tb.only O1 ak) (M.only O1 ak ak) ah hn2 L.len d4.1 d4.2.1 ah ah ah L.inv (by have:=tO hx;unfold kf at this;omega)
  (L.absent (tO hx) f) hz g λh2 i o2 f2 hi l T2 M2 I2 O2=>⟨_,_,rfl,?_⟩
 have As2:=As.only O2 (by simp;omega);refine⟨_,(by rw[At.rd As2];exact j),?_⟩;refine fk ((Mp.only O1 ak).only O2 (by simp;omega)) λh3 M3 O3 z3=> ?_;refine hK h3 _ _ _ _ (As2.only O3 (by simp;omega)) (T2.only O3 (by simp;omega)) (M2.only O3 (by simp;omega) (by simp;omega)) M3 (L.put hx hi l I2 hq hN hc) ?_;exact(((aM.refl [m,mc,sb] h).trans O1 ak).trans O2 (by intro b hb _;simp at hb ⊢;omega)).trans O3 (by intro b hb _;simp at hb ⊢;omega)
def F108.T:bh:=⟨[(3,[3,13,14])],[(5,[[(0,[]),(1,[]),(2,[]),(3,[]),(4,[]),(5,[]),(6,[]),(7,[]),(8,[]),(10,[]),(11,[]),(9,[2,3,5,10,11]),(12,[]),(13,[])]])]⟩
section
variable (n:Nat)(d:Int)(b:Addr)(c a:Int)(h:aI)(K:KK)
def F108.wL3:Prop:=Lp Tryz.f108 F108.T [1,1,0,1,0] n [(3,(au b)),(13,(ap c)),(14,(ap a))] h K
def F108.sL3:F108.wL3 (n+1) b c a h K=(aJ (a<c) ((0<=a/\a<8/\aY h (((b.add 1).add (a.toNat*1)).add 0) (ap a) λd=>aF (au b)/\aF (ap a)/\aF (ap a)/\aF (au b)/\aF (au (b.add 9))/\0<=a/\a<8/\aY d (((b.add 9).add (a.toNat*1)).add 0) (ap a) λd=>F108.wL3 n b c (ax (a+1)) d K)) (K (au b) h)):=by kernel_rfl
def F108.wk3:Prop:=(∃d,F108.wL3 d b c a h K)
def F108.spec(H:bg h (.cells #[ap (if 8<(if 1>d then 1 else d)then 8 else(if 1>d then 1 else d)),ap 0,ap 0,ap 0,ap 0,ap 0,ap 0,ap 0,ap 0,ap 0,ap 0,ap 0,ap 0,ap 0,ap 0,ap 0,ap 0] 189) λa b=>aS .i64 (rd b ((aw a).add 0)) λc=>F108.wk3 (aw a) c 0 b K):Cl 108 [ap d] h K:=cT F108.T Tryz.func108 H
end
def F104.spec{a:Addr}(H:aS .i64 (rd h (a.add 0)) λb=>aS .i64 (rd h (a.add 1)) λc=>aS .i64 (rd h (a.add 2)) λd=>aS .i64 (rd h (a.add 3)) λe=>aS .i64 (rd h (a.add 4)) λf=>aS .i64 (rd h (a.add 5)) λg=>aS .i64 (rd h (a.add 6)) λi=>aS .i64 (rd h (a.add 7)) λj=>aS .i64 (rd h (a.add 8)) λk=>aS .i64 (rd h (a.add 9)) λl=>aS .i64 (rd h (a.add 10)) λm=>aS .i64 (rd h (a.add 11)) λn=>aS .i64 (rd h (a.add 12)) λo=>aS .i64 (rd h (a.add 13)) λp=>aS .i64 (rd h (a.add 14)) λq=>aS .i64 (rd h (a.add 15)) λr=>aS .i64 (rd h (a.add 16)) λa=>bg h (.cells (Array.replicate 17 ((ap 0):Value)) 189) λs t=>aY t ((aw s).add 0) (ap b) λb=>aY b ((aw s).add 1) (ap c) λb=>aY b ((aw s).add 2) (ap d) λb=>aY b ((aw s).add 3) (ap e) λb=>aY b ((aw s).add 4) (ap f) λb=>aY b ((aw s).add 5) (ap g) λb=>aY b ((aw s).add 6) (ap i) λb=>aY b ((aw s).add 7) (ap j) λb=>aY b ((aw s).add 8) (ap k) λb=>aY b ((aw s).add 9) (ap l) λb=>aY b ((aw s).add 10) (ap m) λb=>aY b ((aw s).add 11) (ap n) λb=>aY b ((aw s).add 12) (ap o) λb=>aY b ((aw s).add 13) (ap p) λb=>aY b ((aw s).add 14) (ap q) λb=>aY b ((aw s).add 15) (ap r) λb=>aY b ((aw s).add 16) (ap a) λa=>K (au (aw s)) a):Cl 104 [au a] h K:=cN Tryz.func104 H
def F272.spec{i:Int}{a:Addr}(H:aJ (i<0) (K (ap (-1)) h) (aS .i64 (rd h (a.add 0)) λb=>aJ (i>=b) (K (ap (-1)) h) ((0<=i/\i<8/\aS .i64 (rd h ((a.add 1).add (i.toNat*1))) λa=>K (ap a) h)))):Cl 272 [au a,ap i] h K:=cN Tryz.func272 H
def F119.spec{a:Addr}(H:aS .i64 (rd h (a.add 0)) λa=>K (ap a) h):Cl 119 [au a] h K:=cN Tryz.func119 H
def L8(f:Nat->Nat):List Value:=(List.range 8).map λi=>ap (f i:Int)
def iX(f:Nat->Nat)(k v:Nat):Nat->Nat:=λi=>if i=k then v else f i
def fU(f:Nat->Nat):(L8 f).length=8:=by simp[L8]
def rY(hi:i<8):(L8 f)[i]? =some (ap (f i:Int)):=by simp[L8,hi]
def AF(f:Nat->Nat)(k v:Nat):(L8 f).set k (ap (v:Int))=L8 (iX f k v):=by
 apply MM;intro i;by_cases h8:i<8
 ·rw[rY h8,ME];by_cases h:k=i
  ·subst h;rw[L4 rfl,L4 (by rw[fU];exact h8)];simp[iX]
  ·rw[LY h,rY h8];simp[iX,Ne.symm h]
 ·rw[Mt (by simp[fU];omega),Mt (by simp[fU];omega)]
def cL(h:aI)(b n:Nat)(f g:Nat->Nat):Prop:=At h b (ap (n:Int)::(L8 f++L8 g))
def cL.only(H:cL h b n f g)(O:aM S h h')(hb:b∉S):cL h' b n f g:=At.only H O hb
def cL.rd0(H:cL h b n f g):rd h (aw b)=some (ap n):=by rw[At.rd H];rfl
def cL.rdv(H:cL h b n f g)(hi:i<8):rd h ⟨b,1+i,none⟩=some (ap (f i:Int)):=by rw[At.rd H,Nat.add_comm,NA,Mo (by rw[fU];exact hi),rY hi]
def cL.rdl(H:cL h b n f g)(hi:i<8):rd h ⟨b,9+i,none⟩=some (ap (g i:Int)):=by rw[At.rd H,show 9+i=(8+i)+1 by omega,NA,MK (by rw[fU];omega),fU,show 8+i-8=i by omega,rY hi]
def cL.stv(H:cL h b n f g)(hi:i<8)
  (hK: ∀h',cL h' b n (iX f i v) g->aM [b] h h'->K h'):aY h ⟨b,1+i,none⟩ (ap (v:Int)) K:=by
 refine aU H (by simp[fU];omega) rfl λh' A O _=>hK h' ?_ O;rw[Nat.add_comm,Ni,OI _ _ (by rw[fU];exact hi),AF]at A;exact A
def cL.stl(H:cL h b n f g)(hi:i<8)
  (hK: ∀h',cL h' b n f (iX g i v)->aM [b] h h'->K h'):aY h ⟨b,9+i,none⟩ (ap (v:Int)) K:=by
 refine aU H (by simp[fU];omega) rfl λh' A O _=>hK h' ?_ O;rw[show 9+i=(8+i)+1 by omega,Ni,Pq _ _ (by rw[fU];omega),fU,show 8+i-8=i by omega,AF]at A;exact A
def nZ(H:cL h b n f g)(hn:n<=8)(hk:k<n)(hK:K (ap (f k:Int)) h):
  Cl 272 [au (aw b),ap (k:Int)] h K:=by
 apply F272.spec;simp only[aL,LX,MU,Md];rw[L7 ah,aK];refine aH H.rd0 ?_;rw[L7 ah,aK];exact⟨ah,ah,aH (H.rdv ah) hK⟩
def Es(H:cL h b n f g)(hK:K (ap n) h):
  Cl 119 [au (aw b)] h K:=by
 apply F119.spec;simp only[aL,LX];exact aH H.rd0 hK
def sw(k:Nat)(f:Nat->Nat):Nat->Nat:=iX (iX f k (f (k+1))) (k+1) (f k)
def tk(k:Nat)(f g:Nat->Nat):Nat->Nat:=iX (iX g (f (k+1)) k) (f k) (k+1)
def fill(k:Nat):Nat->Nat:=λi=>if i<k then i else 0
def zo:iX (fill k) k k=fill (k+1):=by
 funext i;unfold iX fill;split
 ·next h=>subst h;simp
 ·split
  ·rw[L4 ah]
  ·rw[LY ah]
def BY{h0:aI}(hb:h0.size<=b)(hn:n<=8)(hK: ∀h',cL h' b n (fill n) (fill n)->aM [] h0 h'->K (au (aw b)) h'):
  ∀(m k:Nat) (h:aI),n-k<m->k<=n->cL h b n (fill k) (fill k)->aM [] h0 h->F108.wL3 m (aw b) (n:Int) (k:Int) h K:=by
 intro m
 induction m with
 |zero=>intro k h hm;omega
 |succ m ih=>
  intro k h hm hk H O;rw[F108.sL3];by_cases hlt:k<n
  ·rw[Mg ah,aO];simp only[aL,LX,MU,Ma,Md];refine⟨ah,ah,H.stv ah λh1 A1 O1=>⟨trivial,trivial,trivial,trivial,trivial,ah,ah,A1.stl ah λh2 A2 O2=> ?_⟩⟩;rw[show ax ((k:Int)+1)=((k+1:Nat):Int) by rw[wrap_i64 ah ah];simp];rw[zo]at A2;exact ih (k+1) h2 ah ah A2 (O.trans (O1.trans (T:=[b]) O2 ak) λx hx hl=>Mw (show x=b by simpa using hx) ah)
  ·rw[L7 ah,aK];obtain rfl:k=n:=ah;exact hK h H O
def CS{h:aI}(h1:1<=n)(h8:n<=8)(hK: ∀b h',cL h' b n (fill n) (fill n)->h.size<=b->aM [] h h'->K (au (aw b)) h'):
  Cl 108 [ap (n:Int)] h K:=by
 apply F108.spec;rw[LY (by omega: ¬(1:Int)>(n:Int)),LY (by omega: ¬(8:Int)<(n:Int))];refine aW λh2 A2 O2 z2=> ?_;have A2:cL h2 h.size n (fill 0) (fill 0):=A2;simp only[aL,LX];refine aH A2.rd0 ?_;unfold F108.wk3;exact⟨n+1,BY (Mb _) h8 (λh' H O=>hK h.size h' H (Mb _) O) (n+1) 0 h2 ah ah A2 O2⟩
def F109.spec(H:aJ (i<0) (K (.tuple #[aA none,ap 61]) h) (aJ (j<1) (K (.tuple #[aA none,ap 61]) h) (aJ (j>1024) (K (.tuple #[aA none,ap 61]) h) (Cl 132 [au a] h λb c=>aS .i64 (some b) λb=>aJ (i>b) (K (.tuple #[aA none,ap 61]) c) (Cl 110 [ap j] c λb c=>aS .i64 (some b) λb=>Cl 132 [au a] c λc d=>aS .i64 (some c) λc=>aJ (b>(ax (c-i))) (K (.tuple #[aA none,ap 61]) d) (bg d (.cells #[au a,ap i,ap j] 247) λa b=>K (.tuple #[au (aw a),ap 0]) b)))))):Cl 109 [au a,ap i,ap j] h K:=cN Tryz.func109 H
def F227.T:bh:=⟨[],[(1,[[(0,[]),(1,[]),(2,[]),(3,[]),(4,[]),(5,[]),(7,[]),(6,[0,1,2,3,7]),(8,[]),(9,[]),(10,[])]])]⟩
def F227.spec{a:Addr}(H:aZ (rd h (a.add 0)) λb=>Cl 274 [au a,ar i] h λc d=>aS .i64 (some c) λc=>aF (au a)/\aF (au a)/\aF (au (a.add 0))/\aZ (rd d (a.add 0)) λa=>aG (aA a) (aA b)/\aF (ar i)/\bg d (.cells #[aA b,ap c,ar i,ar 0,ar 0,.nilFunc,aB,aB,ar 0] 345) λa b=>aY b (((aw a).add 5).add 0) (.func (.func 275) #[au (aw a)] #[]) λb=>K (au (aw a)) b):Cl 227 [au a,ar i] h K:=cT F227.T Tryz.func227 H
def F252.T:bh:=⟨[],[(1,[[(0,[]),(1,[]),(2,[]),(3,[]),(4,[]),(5,[]),(7,[]),(8,[]),(6,[0,1,2,3,7,8]),(9,[]),(10,[]),(11,[])]])]⟩
def F252.spec{a:Addr}(H:aZ (rd h (a.add 0)) λb=>Cl 274 [au a,ar i] h λc d=>aS .i64 (some c) λc=>aF (au a)/\aF (au a)/\aF (au (a.add 0))/\aZ (rd d (a.add 0)) λa=>aG (aA a) (aA b)/\aF (ar i)/\aF (ar j)/\bg d (.cells #[aA b,ap c,ar i,ar j,ar 0,.nilFunc,aB,aB,ar 0] 345) λa b=>aY b (((aw a).add 5).add 0) (.func (.func 287) #[au (aw a)] #[]) λb=>K (au (aw a)) b):Cl 252 [au a,ar i,ar j] h K:=cT F252.T Tryz.func252 H
def F229.T:bh:=⟨[(3,[0])],[]⟩
section
variable (a:Addr)(h:aI)(K:KK)
def F229.wk3:Prop:=bQ (rd h (a.add 6)) λa=>K (aD a) h
end
def F229.spec{a:Addr}(H:bQ (rd h (a.add 6)) λb=>aJ (!b) (jX (rd h (a.add 5)) λb=>dS Tryz.prog X b [] h λb c=>b=aE/\F229.wk3 a c K) (F229.wk3 a h K)):Cl 229 [au a] h K:=cT F229.T Tryz.func229 H
def F230.spec{a:Addr}(H:bQ (rd h (a.add 6)) λb=>aJ (!b) (K (.tuple #[ar 0,aB]) h) (bQ (rd h (a.add 7)) λb=>aJ (!b) (K (.tuple #[ar 0,aB]) h) (aS .u64 (rd h (a.add 8)) λa=>K (.tuple #[ar a,aC]) h))):Cl 230 [au a] h K:=cN Tryz.func230 H
def F274.T:bh:=⟨[],[(1,[[(0,[]),(1,[]),(2,[]),(3,[]),(4,[]),(5,[]),(6,[]),(7,[]),(8,[]),(9,[0,1,2,3]),(10,[]),(11,[]),(12,[])]])]⟩
def F274.spec{a:Addr}(H:aS .i64 (rd h (a.add 1)) λb=>aS .i64 (rd h (a.add 2)) λc=>Cl 246 [ar i,ap c] h λc d=>aS .i64 (some c) λc=>aF (au a)/\aF (au a)/\aF (au (a.add 1))/\aS .i64 (rd d (a.add 1)) λa=>aG (ap a) (ap b)/\K (ap (ax (b+(ax (3*c))))) d):Cl 274 [au a,ar i] h K:=cT F274.T Tryz.func274 H
def F275.T:bh:=⟨[],[(0,[[(0,[]),(1,[]),(2,[]),(3,[]),(4,[]),(5,[]),(6,[]),(7,[]),(8,[]),(9,[0]),(10,[]),(11,[]),(12,[])]])]⟩
def F275.spec{a:Addr}(H:aZ (rd h (a.add 0)) λb=>aS .i64 (rd h (a.add 1)) λc=>Cl 162 [aA b,ap c] h λb c=>aS .u64 (some b) λb=>aF (au a)/\aY c ((a.add 4).add 0) (ar b) λb=>aY b ((a.add 5).add 0) (.func (.func 302) #[au a] #[]) λb=>aS .u64 (rd b (a.add 4)) λc=>aY b ((a.add 6).add 0) (aD ((bu .and .u64 c 3) !=2)) λa=>K aE a):Cl 275 [au a] h K:=cT F275.T Tryz.func275 H
def F287.T:bh:=⟨[],[(0,[[(0,[]),(1,[]),(2,[]),(3,[]),(4,[]),(5,[]),(6,[]),(7,[]),(8,[]),(9,[0]),(10,[]),(11,[]),(12,[])]])]⟩
def F287.spec{a:Addr}(H:aZ (rd h (a.add 0)) λb=>aS .i64 (rd h (a.add 1)) λc=>Cl 162 [aA b,ap c] h λb c=>aS .u64 (some b) λb=>aF (au a)/\aY c ((a.add 4).add 0) (ar b) λb=>aY b ((a.add 5).add 0) (.func (.func 308) #[au a] #[]) λb=>aS .u64 (rd b (a.add 4)) λc=>aY b ((a.add 6).add 0) (aD ((bu .and .u64 c 1) !=0)) λa=>K aE a):Cl 287 [au a] h K:=cT F287.T Tryz.func287 H
def F302.T:bh:=⟨[],[(0,[[(0,[]),(1,[]),(2,[]),(3,[]),(4,[]),(5,[]),(6,[]),(7,[]),(8,[]),(9,[]),(11,[]),(12,[]),(13,[]),(14,[]),(10,[0,11,12,13,14]),(15,[]),(16,[]),(17,[]),(18,[])]])]⟩
def F302.spec{a:Addr}(H:aZ (rd h (a.add 0)) λb=>aS .i64 (rd h (a.add 1)) λc=>aS .u64 (rd h (a.add 2)) λd=>Cl 162 [aA b,ap (ax (c+1))] h λb c=>aS .u64 (some b) λb=>aF (au a)/\aF (au a)/\aF (au a)/\aF (au (a.add 2))/\aS .u64 (rd c (a.add 2)) λe=>aG (ar e) (ar d)/\aY c ((a.add 6).add 0) (aD (b !=d)) λb=>aY b ((a.add 5).add 0) (.func (.func 336) #[au a] #[]) λa=>K aE a):Cl 302 [au a] h K:=cT F302.T Tryz.func302 H
def F308.T:bh:=⟨[],[(1,[[(0,[]),(1,[]),(2,[]),(3,[]),(4,[]),(5,[]),(6,[]),(7,[]),(8,[]),(9,[]),(10,[]),(11,[]),(12,[]),(13,[]),(14,[]),(15,[]),(16,[]),(17,[]),(18,[0]),(19,[]),(20,[]),(21,[]),(22,[])]])]⟩
def F308.spec{a:Addr}(H:aY h ((a.add 5).add 0) (.func (.func 338) #[au a] #[]) λb=>aZ (rd b (a.add 0)) λc=>aS .i64 (rd b (a.add 1)) λd=>aS .u64 (rd b (a.add 4)) λe=>aS .u64 (rd b (a.add 4)) λf=>Cl 163 [aA c,ap d,ar e,ar (bu .or .u64 f 1)] b λb c=>bQ (some b) λb=>aF (au a)/\aY c ((a.add 6).add 0) (aD (!b)) λa=>K aE a):Cl 308 [au a] h K:=cT F308.T Tryz.func308 H
def F336.T:bh:=⟨[],[(0,[[(0,[]),(1,[]),(2,[]),(3,[]),(4,[]),(5,[]),(6,[]),(7,[]),(8,[]),(9,[]),(10,[0]),(11,[]),(12,[]),(13,[])]])]⟩
def F336.spec{a:Addr}(H:aZ (rd h (a.add 0)) λb=>aS .i64 (rd h (a.add 1)) λc=>Cl 162 [aA b,ap (ax (c+2))] h λb c=>aS .u64 (some b) λb=>aF (au a)/\aY c ((a.add 8).add 0) (ar b) λb=>aY b ((a.add 5).add 0) (.func (.func 355) #[au a] #[]) λa=>K aE a):Cl 336 [au a] h K:=cT F336.T Tryz.func336 H
def F338.T:bh:=⟨[],[(0,[[(0,[]),(1,[]),(2,[]),(3,[]),(4,[]),(5,[]),(6,[]),(7,[]),(8,[]),(9,[]),(10,[]),(11,[]),(12,[]),(13,[])]])]⟩
def F338.spec{a:Addr}(H:aZ (rd h (a.add 0)) λb=>aS .i64 (rd h (a.add 1)) λc=>aS .u64 (rd h (a.add 2)) λd=>Cl 282 [aA b,ap (ax (c+1)),ar d] h λb c=>b=aE/\aY c ((a.add 5).add 0) (.func (.func 356) #[au a] #[]) λa=>K aE a):Cl 338 [au a] h K:=cT F338.T Tryz.func338 H
def F355.T:bh:=⟨[],[(0,[[(0,[]),(1,[]),(2,[]),(3,[]),(4,[]),(5,[]),(6,[]),(7,[]),(8,[]),(10,[]),(11,[]),(12,[]),(13,[]),(9,[0,10,11,12,13]),(14,[]),(15,[]),(16,[]),(17,[])]])]⟩
def F355.spec{a:Addr}(H:aZ (rd h (a.add 0)) λb=>aS .i64 (rd h (a.add 1)) λc=>aS .u64 (rd h (a.add 4)) λd=>Cl 162 [aA b,ap c] h λb c=>aS .u64 (some b) λb=>aF (au a)/\aF (au a)/\aF (au a)/\aF (au (a.add 4))/\aS .u64 (rd c (a.add 4)) λe=>aG (ar e) (ar d)/\aY c ((a.add 7).add 0) (aD (b==d)) λb=>aY b ((a.add 6).add 0) aC λa=>K aE a):Cl 355 [au a] h K:=cT F355.T Tryz.func355 H
def F356.T:bh:=⟨[],[(0,[[(0,[]),(1,[]),(2,[]),(3,[]),(4,[]),(5,[]),(6,[]),(7,[]),(8,[]),(9,[]),(10,[]),(11,[]),(12,[]),(13,[])]])]⟩
def F356.spec{a:Addr}(H:aZ (rd h (a.add 0)) λb=>aS .i64 (rd h (a.add 1)) λc=>aS .u64 (rd h (a.add 3)) λd=>Cl 282 [aA b,ap (ax (c+2)),ar d] h λb c=>b=aE/\aY c ((a.add 5).add 0) (.func (.func 368) #[au a] #[]) λa=>K aE a):Cl 356 [au a] h K:=cT F356.T Tryz.func356 H
def F368.T:bh:=⟨[],[(0,[[(0,[]),(1,[]),(2,[]),(3,[]),(4,[]),(5,[]),(6,[]),(7,[]),(8,[]),(9,[]),(10,[]),(11,[]),(12,[]),(13,[]),(14,[])]])]⟩
def F368.spec{a:Addr}(H:aZ (rd h (a.add 0)) λb=>aS .i64 (rd h (a.add 1)) λc=>aS .u64 (rd h (a.add 4)) λd=>Cl 282 [aA b,ap c,ar (IntKind.wrap .u64 ((bu .or .u64 d 2)+4))] h λb c=>b=aE/\aY c ((a.add 6).add 0) aC λa=>K aE a):Cl 368 [au a] h K:=cT F368.T Tryz.func368 H
def nC(h:aI)(c m base n:Nat):Prop:=At h c [au (aw m),ap (base:Int),ap (n:Int)]
def nC.only(H:nC h t m base n)(O:aM S h h')(ht:t∉S):nC h' t m base n:=At.only H O ht
structure Ac where
 key:Int
 val:Int
 pos:Nat
 ver:Int
 ph:Nat
 done:Bool
 ok:Bool
 got:Int
def Li:Nat->Nat
 |0=>287
 |1=>308
 |2=>338
 |3=>356
 |4=>368
 |5=>275
 |6=>302
 |7=>336
 |_=>355
def If:bR X 287=some cH.go:=by kernel_rfl
def Id:bR X 308=some cH.go:=by kernel_rfl
def IV:bR X 338=some cH.go:=by kernel_rfl
def JT:bR X 356=some cH.go:=by kernel_rfl
def IU:bR X 368=some cH.go:=by kernel_rfl
def JW:bR X 275=some cH.go:=by kernel_rfl
def Jg:bR X 302=some cH.go:=by kernel_rfl
def I0:bR X 336=some cH.go:=by kernel_rfl
def ID:bR X 355=some cH.go:=by kernel_rfl
def GA: ∀k,k<=8->bR X (Li k)=some cH.go
 |0,_=>If
 |1,_=>Id
 |2,_=>IV
 |3,_=>JT
 |4,_=>IU
 |5,_=>JW
 |6,_=>Jg
 |7,_=>I0
 |8,_=>ID
def Lz(f ph:Nat):Value:= .func (.func (Li ph)) #[au (aw f)] #[]
def gw(h:aI)(f m:Nat)(A:Ac):Prop:=
 At h f [au (aw m),ap (A.pos:Int),ar A.key,ar A.val,ar A.ver,Lz f A.ph,aD A.done,aD A.ok,ar A.got]
def gw.only(H:gw h f m A)(O:aM S h h')(ht:f∉S):gw h' f m A:=At.only H O ht
def bW(cs:List Int)(A:Ac):Ac×List Int:=
 if A.done then(A,cs)else
 match A.ph with
 |0=>({A with ver:=cs.getD A.pos 0,ph:=1,done:=bu .and .u64 (cs.getD A.pos 0) 1 !=0},cs)
 |1=>if cs.getD A.pos 0=A.ver then({A with ph:=2,done:=false},cs.set A.pos (bu .or .u64 A.ver 1))else({A with ph:=2,done:=true},cs)
 |2=>({A with ph:=3},cs.set (A.pos+1) A.key)
 |3=>({A with ph:=4},cs.set (A.pos+2) A.val)
 |4=>({A with done:=true},cs.set A.pos (IntKind.wrap .u64 (bu .or .u64 A.ver 2+4)))
 |5=>({A with ver:=cs.getD A.pos 0,ph:=6,done:=bu .and .u64 (cs.getD A.pos 0) 3 !=2},cs)
 |6=>({A with ph:=7,done:=cs.getD (A.pos+1) 0 !=A.key},cs)
 |7=>({A with ph:=8,got:=cs.getD (A.pos+2) 0},cs)
 |_=>({A with ok:=cs.getD A.pos 0==A.ver,done:=true},cs)
def rV{cs:List Int}:(bW cs A).2.length=cs.length:=by
 unfold bW
 repeat' split
 all_goals simp
def vD{cs:List Int}{A:Ac}(H:gw h f m A)(M:bH h m mc cs ops fails)(hp:A.pos+2<cs.length)(hc:cs.length<1000000000)(k:A.ph<=8)(d2:f≠m)(d3:f≠mc)
  (hK: ∀h' j d,gw h' f m (bW cs A).1->bH h' m mc (bW cs A).2 j d->aM [f,m,mc] h h'->K (aD (bW cs A).1.done) h'):
  Cl 229 [au (aw f)] h K:=by
 apply F229.spec;simp only[aL,LX];refine a8 (n:=A.done) (by rw[At.rd H];rfl) ?_
 have a: ∀h' j d,gw h' f m (bW cs A).1->bH h' m mc (bW cs A).2 j d->aM [f,m,mc] h h'->F229.wk3 (aw f) h' K:=by intro h' j d a1 a2 a3;unfold F229.wk3;simp only[aL,LX];exact a8 (by rw[At.rd a1];rfl) (hK h' j d a1 a2 a3)
 cases hd:A.done with
 |true=>
  rw[MF,aK];have e:bW cs A=(A,cs):=by unfold bW;rw[L4 hd]
  rw[e]at a;exact a h ops fails H M (aM.refl _ _)
 |false=>
  rw[MS,aO];have hs: ∀b∈[m,mc],b∈[f,m,mc]:=by simp+contextual
  have hS: ∀b∈[f],b∈[f,m,mc]:=ak;have i:=d2.symm;have g:=d3.symm;have w1:ax ((A.pos:Int)+1)=((A.pos+1:Nat):Int):=by rw[wrap_i64 ah ah];simp
  have w2:ax ((A.pos:Int)+2)=((A.pos+2:Nat):Int):=by rw[wrap_i64 ah ah];simp
  unfold bW at a;rw[LY (by simp[hd])]at a;have hx:=GA A.ph k;refine⟨_,by rw[At.rd H];rfl,bj hx ?_⟩;clear hx;obtain⟨key,val,pos,ver,ph,done,ok,got⟩:=A;dsimp only at*
  subst hd
  match ph,k,H,a with
  |0,_,H,a=>
   refine F287.spec ?_;simp only[aL,LX,Ma];refine aQ (by rw[At.rd H];rfl) (aH (n:=(pos:Int)) (by rw[At.rd H];rfl) (fi M ah ah λh1 M1 O1=>aH rfl ⟨trivial,?_⟩));have H1:=H.only O1 (by simp[d2,d3]);rw[Md];refine aU H1 ak rfl λh2 A2 O2 _=>aU A2 ak rfl λh3 A3 O3 _=>aH (n:=cs.getD pos 0) (by rw[A3.rd];rfl) (aU A3 ak rfl λh4 A4 O4 _=>⟨by trivial,?_⟩);have O24:=(O2.trans O3 ak).trans O4 ak;exact a h4 _ _ A4 (M1.only O24 (by simp[i]) (by simp[g])) ((O1.mono λb hb _=>hs b hb).trans O24 λb hb _=>hS b hb)
  |1,_,H,a=>
   refine F308.spec ?_;simp only[aL,LX,Ma];refine aU H ak rfl λh1 A1 O1 _=> ?_;have M1:=M.only O1 (by simp[i]) (by simp[g]);refine aQ (by rw[A1.rd];rfl) (aH (n:=(pos:Int)) (by rw[A1.rd];rfl) (aH (n:=ver) (by rw[A1.rd];rfl) (aH (n:=ver) (by rw[A1.rd];rfl) ?_)));refine oW M1 ah ah (λe h2 M2 O2=>a8 rfl ⟨trivial,?_⟩) λe h2 M2 O2=>a8 rfl ⟨trivial,?_⟩
   all_goals rw[Md]at e
   ·rw[Md]at M2;refine aU (A1.only O2 (by simp[d2,d3])) ak rfl λh3 A3 O3 _=>⟨by trivial,?_⟩;rw[L4 e]at a;exact a h3 _ _ A3 (M2.only O3 (by simp[i]) (by simp[g])) (((O1.mono λb hb _=>hS b hb).trans O2 λb hb _=>hs b hb).trans O3 λb hb _=>hS b hb)
   ·refine aU (A1.only O2 (by simp[d2,d3])) ak rfl λh3 A3 O3 _=>⟨by trivial,?_⟩;rw[LY e]at a;exact a h3 _ _ A3 (M2.only O3 (by simp[i]) (by simp[g])) (((O1.mono λb hb _=>hS b hb).trans O2 λb hb _=>hs b hb).trans O3 λb hb _=>hS b hb)
  |2,_,H,a=>
   refine F338.spec ?_;simp only[aL,LX,Ma];refine aQ (by rw[At.rd H];rfl) (aH (n:=(pos:Int)) (by rw[At.rd H];rfl) (aH (n:=key) (by rw[At.rd H];rfl) ?_));rw[w1];refine gx M ah ah λh1 M1 O1=>⟨rfl,aU (H.only O1 (by simp[d2,d3])) ak rfl λh2 A2 O2 _=>⟨by trivial,?_⟩⟩;rw[Md]at M1;exact a h2 _ _ A2 (M1.only O2 (by simp[i]) (by simp[g])) ((O1.mono λb hb _=>hs b hb).trans O2 λb hb _=>hS b hb)
  |3,_,H,a=>
   refine F356.spec ?_;simp only[aL,LX,Ma];refine aQ (by rw[At.rd H];rfl) (aH (n:=(pos:Int)) (by rw[At.rd H];rfl) (aH (n:=val) (by rw[At.rd H];rfl) ?_));rw[w2];refine gx M ah ah λh1 M1 O1=>⟨rfl,aU (H.only O1 (by simp[d2,d3])) ak rfl λh2 A2 O2 _=>⟨by trivial,?_⟩⟩;rw[Md]at M1;exact a h2 _ _ A2 (M1.only O2 (by simp[i]) (by simp[g])) ((O1.mono λb hb _=>hs b hb).trans O2 λb hb _=>hS b hb)
  |4,_,H,a=>
   refine F368.spec ?_;simp only[aL,LX,Ma];refine aQ (by rw[At.rd H];rfl) (aH (n:=(pos:Int)) (by rw[At.rd H];rfl) (aH (n:=ver) (by rw[At.rd H];rfl) ?_));refine gx M ah ah λh1 M1 O1=>⟨rfl,aU (H.only O1 (by simp[d2,d3])) ak rfl λh2 A2 O2 _=>⟨by trivial,?_⟩⟩;rw[Md]at M1;exact a h2 _ _ A2 (M1.only O2 (by simp[i]) (by simp[g])) ((O1.mono λb hb _=>hs b hb).trans O2 λb hb _=>hS b hb)
  |5,_,H,a=>
   refine F275.spec ?_;simp only[aL,LX,Ma];refine aQ (by rw[At.rd H];rfl) (aH (n:=(pos:Int)) (by rw[At.rd H];rfl) (fi M ah ah λh1 M1 O1=>aH rfl ⟨trivial,?_⟩));have H1:=H.only O1 (by simp[d2,d3]);rw[Md];refine aU H1 ak rfl λh2 A2 O2 _=>aU A2 ak rfl λh3 A3 O3 _=>aH (n:=cs.getD pos 0) (by rw[A3.rd];rfl) (aU A3 ak rfl λh4 A4 O4 _=>⟨by trivial,?_⟩);have O24:=(O2.trans O3 ak).trans O4 ak;exact a h4 _ _ A4 (M1.only O24 (by simp[i]) (by simp[g])) ((O1.mono λb hb _=>hs b hb).trans O24 λb hb _=>hS b hb)
  |6,_,H,a=>
   refine F302.spec ?_;simp only[aL,LX,Ma];refine aQ (by rw[At.rd H];rfl) (aH (n:=(pos:Int)) (by rw[At.rd H];rfl) (aH (n:=key) (by rw[At.rd H];rfl) ?_));rw[w1];refine fi M ah ah λh1 M1 O1=>aH rfl ⟨trivial,trivial,trivial,trivial,?_⟩;have H1:=H.only O1 (by simp[d2,d3]);rw[Md];refine aH (n:=key) (by rw[At.rd H1];rfl) ⟨rfl,aU H1 ak rfl λh2 A2 O2 _=>aU A2 ak rfl λh3 A3 O3 _=>⟨by trivial,?_⟩⟩;have O24:=O2.trans O3 ak;exact a h3 _ _ A3 (M1.only O24 (by simp[i]) (by simp[g])) ((O1.mono λb hb _=>hs b hb).trans O24 λb hb _=>hS b hb)
  |7,_,H,a=>
   refine F336.spec ?_;simp only[aL,LX,Ma];refine aQ (by rw[At.rd H];rfl) (aH (n:=(pos:Int)) (by rw[At.rd H];rfl) ?_);rw[w2];refine fi M ah ah λh1 M1 O1=>aH rfl ⟨trivial,?_⟩;have H1:=H.only O1 (by simp[d2,d3]);rw[Md];refine aU H1 ak rfl λh2 A2 O2 _=>aU A2 ak rfl λh3 A3 O3 _=>⟨by trivial,?_⟩;have O24:=O2.trans O3 ak;exact a h3 _ _ A3 (M1.only O24 (by simp[i]) (by simp[g])) ((O1.mono λb hb _=>hs b hb).trans O24 λb hb _=>hS b hb)
  |8,_,H,a=>
   refine F355.spec ?_;simp only[aL,LX,Ma];refine aQ (by rw[At.rd H];rfl) (aH (n:=(pos:Int)) (by rw[At.rd H];rfl) (aH (n:=ver) (by rw[At.rd H];rfl) ?_));refine fi M ah ah λh1 M1 O1=>aH rfl ⟨trivial,trivial,trivial,trivial,?_⟩;have H1:=H.only O1 (by simp[d2,d3]);rw[Md];refine aH (n:=ver) (by rw[At.rd H1];rfl) ⟨rfl,aU H1 ak rfl λh2 A2 O2 _=>aU A2 ak rfl λh3 A3 O3 _=>⟨by trivial,?_⟩⟩;have O24:=O2.trans O3 ak;exact a h3 _ _ A3 (M1.only O24 (by simp[i]) (by simp[g])) ((O1.mono λb hb _=>hs b hb).trans O24 λb hb _=>hS b hb)
def eU(base n:Nat)(key:Int):Nat:=base+3*gP key n
def qQ{h:aI}{c m base n:Nat}{K:KK}{key:Int}(C:nC h c m base n)(hn:1<=n)(hn2:n<10000)(hb:base<1000000)(hK:K (ap (eU base n key:Int)) h):Cl 274 [au (aw c),ar key] h K:=by
 apply F274.spec;simp only[aL,LX];have hl:=ga key hn;have r1:rd h ⟨c,1,none⟩=some (ap (base:Int)):=by rw[At.rd C];rfl
 refine aH r1 (aH (n:=(n:Int)) (by rw[At.rd C];rfl) (mQ hn ah (aH rfl ⟨trivial,trivial,trivial,aH r1 ⟨rfl,?_⟩⟩)))
 rw[show ax ((base:Int)+ax (3*(gP key n:Int)))=(eU base n key:Int) by unfold eU;rw[wrap_i64 (n:=3*(gP key n:Int)) ah ah,wrap_i64 ah ah];simp]
 exact hK
def He(base n:Nat)(key:Int):Ac:=⟨key,0,eU base n key,0,5,false,false,0⟩
def GQ(base n:Nat)(key val:Int):Ac:=⟨key,val,eU base n key,0,0,false,false,0⟩
def Az{h:aI}(C:nC h c m base n)(hn:1<=n)(hn2:n<10000)(hb:base<1000000)
  (hK: ∀f h',gw h' f m (He base n key)->aM [] h h'->h.size<=f->K (au (aw f)) h'):Cl 227 [au (aw c),ar key] h K:=by
 apply F227.spec;simp only[aL,LX,Ma];have r0:rd h (aw c)=some (au (aw m)):=by rw[At.rd C];rfl
 refine aQ r0 (qQ C hn hn2 hb (aH rfl ⟨trivial,trivial,trivial,aQ r0 ⟨rfl,trivial,aW λh1 A1 O1 z1=>aU A1 ak rfl λh2 A2 O2 _=> ?_⟩⟩));exact hK h.size h2 A2 (O1.trans O2 λb hb hl=>Mw (show b=h.size by simpa using hb) ah) (Mb _)
def Ai{h:aI}(C:nC h c m base n)(hn:1<=n)(hn2:n<10000)(hb:base<1000000)
  (hK: ∀f h',gw h' f m (GQ base n key val)->aM [] h h'->h.size<=f->K (au (aw f)) h'):Cl 252 [au (aw c),ar key,ar val] h K:=by
 apply F252.spec;simp only[aL,LX,Ma];have r0:rd h (aw c)=some (au (aw m)):=by rw[At.rd C];rfl
 refine aQ r0 (qQ C hn hn2 hb (aH rfl ⟨trivial,trivial,trivial,aQ r0 ⟨rfl,trivial,trivial,aW λh1 A1 O1 z1=>aU A1 ak rfl λh2 A2 O2 _=> ?_⟩⟩));exact hK h.size h2 A2 (O1.trans O2 λb hb hl=>Mw (show b=h.size by simpa using hb) ah) (Mb _)
def xZ(A:Ac):Int:=if A.done&&A.ok then A.got else 0
def yx(A:Ac):Bool:=A.done&&A.ok
def BJ(H:gw h f m A)(hK:K (.tuple #[ar (xZ A),aD (yx A)]) h):Cl 230 [au (aw f)] h K:=by
 apply F230.spec;simp only[aL,LX];unfold xZ yx at hK;refine a8 (n:=A.done) (by rw[At.rd H];rfl) (aR (λe=> ?_) λe=>a8 (n:=A.ok) (by rw[At.rd H];rfl) (aR (λe'=> ?_) λe'=>aH (n:=A.got) (by rw[At.rd H];rfl) ?_))
 ·have e:A.done=false:=by simpa using e
  simpa[e]using hK
 ·have e:A.done=true:=by simpa using e
  have e':A.ok=false:=by simpa using e'
  simpa[e,e']using hK
 ·have e:A.done=true:=by simpa using e
  have e':A.ok=true:=by simpa using e'
  simpa[e,e']using hK
def oN(h0:1<=k)(h1:k<1000000)(hK:K (ap (3*k)) h):Cl 110 [ap k] h K:=by apply F110.spec;rw[L7 ah,aK,wrap_i64 ah ah];exact hK
def uT{h:aI}{cs:List Int}(M:bH h m mc cs ops fails)(hn:1<=n)(hn2:n<=1024)(hb:base+3*n<=cs.length)(hc:cs.length<1000000)
  (hK: ∀c h',nC h' c m base n->aM [] h h'->h.size<=c->K (.tuple #[au (aw c),ap 0]) h'):
  Cl 109 [au (aw m),ap (base:Int),ap (n:Int)] h K:=by
 apply F109.spec;rw[L7 ah,aK,L7 ah,aK,L7 ah,aK];refine io M (aH rfl ?_);rw[L7 ah,aK];refine oN ah ah (aH rfl (io M (aH rfl ?_)));rw[wrap_i64 ah ah,L7 ah,aK];exact aW λh1 A1 O1 z1=>hK h.size h1 A1 O1 (Mb _)
def CT{x:Int}(h0:0<=x)(h1:x<18446744073709551616):(BitVec.ofInt 64 x).toNat=x.toNat:=by
 rw[BitVec.toNat_ofInt]
 congr 1
 omega
def ED(h0:0<=x)(h1:x<18446744073709551616):bu .and .u64 x 1=x%2:=by show IntKind.wrap .u64 (((BitVec.ofInt 64 x&&&BitVec.ofInt 64 1).toNat:Nat):Int)=_;rw[BitVec.toNat_and,CT h0 h1,show(BitVec.ofInt 64 1).toNat=1 from rfl,Nat.and_one_is_mod,bZ ah ah];omega
def yb(h0:0<=x)(h1:x<18446744073709551616):bu .and .u64 x 3=x%4:=by show IntKind.wrap .u64 (((BitVec.ofInt 64 x&&&BitVec.ofInt 64 3).toNat:Nat):Int)=_;rw[BitVec.toNat_and,CT h0 h1,show(BitVec.ofInt 64 3).toNat=2^2-1 from rfl,Nat.and_two_pow_sub_one_eq_mod,bZ ah ah];omega
def vc(n:Nat):n|||2=4*(n/4)+2+n%2:=by
 apply Py;intro i
 match i with
 |0=>
  rw[Nat.testBit_or];simp[NR];omega
 |1=>
  rw[Nat.testBit_or,MY,MY,MY,NR,NR,NR];simp;omega
 |i+2=>
  rw[Nat.testBit_or,MY,MY,MY,MY,MY,MY];rw[show 2/2/2=0 by omega,show(4*(n/4)+2+n%2)/2/2=n/2/2 by omega];simp
def Gu(h0:0<=x)(h1:x<18446744073709551616):bu .or .u64 x 2=4*(x/4)+2+x%2:=by show IntKind.wrap .u64 (((BitVec.ofInt 64 x|||BitVec.ofInt 64 2).toNat:Nat):Int)=_;rw[BitVec.toNat_or,CT h0 h1,show(BitVec.ofInt 64 2).toNat=2 from rfl,vc,bZ ah ah];omega
def pS(h:n<18446744073709551616):n&&&18446744073709551613=4*(n/4)+n%2:=by
 apply Py;intro i
 match i with
 |0=>
  rw[Nat.testBit_and];simp[NR];omega
 |1=>
  rw[Nat.testBit_and,MY,MY,MY,NR,NR,NR];simp;omega
 |i+2=>
  rw[Nat.testBit_and,MY,MY,MY,MY,MY,MY];rw[show 18446744073709551613/2/2=2^62-1 by decide,Nat.testBit_two_pow_sub_one,show(4*(n/4)+n%2)/2/2=n/2/2 by omega];by_cases hi:i<62
  ·simp[hi]
  ·have:n/2/2<2^i:=Nt (show n/2/2<2^62 by omega) (NZ ah ah);rw[NP this];simp
def wz(h0:0<=x)(h1:x<18446744073709551616):bu .andNot .u64 x 2=4*(x/4)+x%2:=by show IntKind.wrap .u64 (((BitVec.ofInt 64 x&&& ~~~ BitVec.ofInt 64 2).toNat:Nat):Int)=_;rw[BitVec.toNat_and,CT h0 h1,show(~~~ BitVec.ofInt 64 2).toNat=18446744073709551613 from rfl,pS ah,bZ ah ah];omega
def vI(pos:Nat)(key val:Int)(cs cs':List Int):Prop:=
 cs'.length=cs.length/\(∀x,x≠pos->x≠pos+1->x≠pos+2->cs'.getD x 0=cs.getD x 0)/\
 ((bu .and .u64 (cs.getD pos 0) 1=0/\cs'.getD pos 0=IntKind.wrap .u64 (bu .or .u64 (cs.getD pos 0) 2+4)/\cs'.getD (pos+1) 0=key/\cs'.getD (pos+2) 0=val)\/
  (bu .and .u64 (cs.getD pos 0) 1≠0/\cs'=cs))
def wA(pos:Nat)(key:Int)(cs:List Int)(v:Int)(ok:Bool):Prop:=
 (ok=true/\bu .and .u64 (cs.getD pos 0) 3=2/\cs.getD (pos+1) 0=key/\v=cs.getD (pos+2) 0)\/(ok=false/\v=0/\ ¬(bu .and .u64 (cs.getD pos 0) 3=2/\cs.getD (pos+1) 0=key))
def CK(cs:List Int)(A:Ac):Prop:=
 A.done=false/\A.ok=false/\(A.ph=5\/(A.ph=6/\A.ver=cs.getD A.pos 0/\bu .and .u64 (cs.getD A.pos 0) 3=2)\/(A.ph=7/\A.ver=cs.getD A.pos 0/\bu .and .u64 (cs.getD A.pos 0) 3=2/\cs.getD (A.pos+1) 0=A.key)\/
  (A.ph=8/\A.ver=cs.getD A.pos 0/\bu .and .u64 (cs.getD A.pos 0) 3=2/\cs.getD (A.pos+1) 0=A.key/\A.got=cs.getD (A.pos+2) 0))
def CK.step{A:Ac}(G:CK cs A):(bW cs A).2=cs/\(bW cs A).1.pos=A.pos/\(bW cs A).1.key=A.key/\
  (((bW cs A).1.done=true/\wA A.pos A.key cs (xZ (bW cs A).1) (yx (bW cs A).1))\/(CK cs (bW cs A).1/\(bW cs A).1.ph=A.ph+1)):=by
 obtain⟨key,val,pos,ver,ph,done,ok,got⟩:=A;obtain⟨hd,ho,G⟩:=G;dsimp only at hd ho G;subst hd ho;rcases G with rfl|⟨rfl,hv,h3⟩|⟨rfl,hv,h3,hk⟩|⟨rfl,hv,h3,hk,hg⟩
 ·by_cases h:bu .and .u64 (cs.getD pos 0) 3=2
  ·have e:(bu .and .u64 (cs.getD pos 0) 3 !=2)=false:=by simpa using h
   refine⟨rfl,rfl,rfl,Or.inr ⟨⟨?_,rfl,Or.inr (Or.inl ⟨rfl,rfl,h⟩)⟩,rfl⟩⟩;simpa[bW]using h
  ·have e:(bu .and .u64 (cs.getD pos 0) 3 !=2)=true:=by simpa using h
   refine⟨rfl,rfl,rfl,Or.inl ⟨?_,Or.inr ⟨?_,?_,λh'=>h h'.1⟩⟩⟩
   ·simpa[bW]using h
   ·simp[yx,bW]
   ·simp[xZ,bW]
 ·by_cases h:cs.getD (pos+1) 0=key
  ·refine⟨rfl,rfl,rfl,Or.inr ⟨⟨?_,rfl,Or.inr (Or.inr (Or.inl ⟨rfl,hv,h3,h⟩))⟩,rfl⟩⟩;simpa[bW]using h
  ·refine⟨rfl,rfl,rfl,Or.inl ⟨?_,Or.inr ⟨?_,?_,λh'=>h h'.2⟩⟩⟩
   ·simpa[bW]using h
   ·simp[yx,bW]
   ·simp[xZ,bW]
 ·exact⟨rfl,rfl,rfl,Or.inr ⟨⟨rfl,rfl,Or.inr (Or.inr (Or.inr ⟨rfl,hv,h3,hk,rfl⟩))⟩,rfl⟩⟩
 ·refine⟨rfl,rfl,rfl,Or.inl ⟨rfl,Or.inl ⟨?_,h3,hk,?_⟩⟩⟩
  ·simp[yx,bW,hv]
  ·simp only[xZ,bW,hv,hg];simp
def xN(a cs:List Int)(A:Ac):Prop:=
 A.done=false/\A.ok=false/\((A.ph=0/\cs=a)\/(bu .and .u64 (a.getD A.pos 0) 1=0/\A.ver=a.getD A.pos 0/\
  ((A.ph=1/\cs=a)\/(A.ph=2/\cs=a.set A.pos (bu .or .u64 A.ver 1))\/(A.ph=3/\cs=(a.set A.pos (bu .or .u64 A.ver 1)).set (A.pos+1) A.key)\/
   (A.ph=4/\cs=((a.set A.pos (bu .or .u64 A.ver 1)).set (A.pos+1) A.key).set (A.pos+2) A.val))))
def dF{l:List Int}(hi:i<l.length):(l.set i v).getD j 0=if i=j then v else l.getD j 0:=by
 by_cases h:i=j
 ·subst h;simp[hi]
 ·simp[List.getD,h]
def xN.step{a:List Int}{A:Ac}(hp:A.pos+2<a.length)(G:xN a cs A):(bW cs A).1.pos=A.pos/\(bW cs A).1.key=A.key/\(bW cs A).1.val=A.val/\
  (((bW cs A).1.done=true/\(bW cs A).1.ok=false/\vI A.pos A.key A.val a (bW cs A).2)\/(xN a (bW cs A).2 (bW cs A).1/\(bW cs A).1.ph=A.ph+1)):=by
 obtain⟨key,val,pos,ver,ph,done,ok,got⟩:=A;obtain⟨hd,ho,G⟩:=G;dsimp only at hd ho G hp;subst hd ho;rcases G with⟨rfl,rfl⟩|⟨h1,rfl,⟨rfl,rfl⟩|⟨rfl,rfl⟩|⟨rfl,rfl⟩|⟨rfl,rfl⟩⟩
 ·by_cases h:bu .and .u64 (cs.getD pos 0) 1=0
  ·refine⟨rfl,rfl,rfl,Or.inr ⟨⟨?_,rfl,Or.inr ⟨h,rfl,Or.inl ⟨rfl,rfl⟩⟩⟩,rfl⟩⟩;simpa[bW]using h
  ·refine⟨rfl,rfl,rfl,Or.inl ⟨?_,rfl,rfl,λ_ _ _ _=>rfl,Or.inr ⟨h,rfl⟩⟩⟩;simpa[bW]using h
 ·refine⟨?_,?_,?_,Or.inr ⟨⟨?_,?_,Or.inr ⟨?_,?_,Or.inr (Or.inl ⟨?_,?_⟩)⟩⟩,?_⟩⟩<;>simp[bW];exact h1
 ·exact⟨rfl,rfl,rfl,Or.inr ⟨⟨rfl,rfl,Or.inr ⟨h1,rfl,Or.inr (Or.inr (Or.inl ⟨rfl,rfl⟩))⟩⟩,rfl⟩⟩
 ·exact⟨rfl,rfl,rfl,Or.inr ⟨⟨rfl,rfl,Or.inr ⟨h1,rfl,Or.inr (Or.inr (Or.inr ⟨rfl,rfl⟩))⟩⟩,rfl⟩⟩
 ·refine⟨rfl,rfl,rfl,Or.inl ⟨rfl,rfl,by simp[bW],λx n1 n2 n3=> ?_,Or.inl ⟨h1,?_,?_,?_⟩⟩⟩
  ·simp only[bW,MD,Nf];rw[dF (by simp;omega),LY (Ne.symm n1),dF (by simp;omega),LY (Ne.symm n3),dF (by simp;omega),LY (Ne.symm n2),dF ah,LY (Ne.symm n1)]
  ·simp only[bW,MD,Nf];rw[dF (by simp;omega),L4 rfl]
  ·simp only[bW,MD,Nf];rw[dF (by simp;omega),LY ah,dF (by simp;omega),LY ah,dF (by simp;omega),L4 rfl]
  ·simp only[bW,MD,Nf];rw[dF (by simp;omega),LY ah,dF (by simp;omega),L4 rfl]
structure CW(h:aI)(c m mc base n:Nat)(cs:List Int)(ops fails:Int):Prop where
 cac:nC h c m base n
 mem:bH h m mc cs ops fails
 d4:c≠m
 d5:c≠mc
 hn:1<=n
 hn2:n<=1024
 hc:base+3*n<=cs.length
 hl:cs.length<1000000
def CW.only(W:CW h c m mc base n cs ops fails)(O:aM S h h')(h1:c∉S)(h2:m∉S)(h3:mc∉S):CW h' c m mc base n cs ops fails:=
 ⟨W.cac.only O h1,W.mem.only O h2 h3,W.d4,W.d5,W.hn,W.hn2,W.hc,W.hl⟩
def CW.pos{cs:List Int}(W:CW h c m mc base n cs ops fails)(key:Int):eU base n key+2<cs.length:=by have:=ga key W.hn;have:=W.hc;unfold eU;omega
def CW.lt{h:aI}(W:CW h c m mc base n cs ops fails):c<h.size/\m<h.size/\mc<h.size:=⟨At.lt W.cac,W.mem.head.lt,W.mem.body.lt⟩
def tq{cs:List Int}{A:Ac}(W:CW h c m mc base n cs ops fails)(H:gw h f m A)(hp:A.pos+2<cs.length)(g:A.ph<=8)(d1:f≠c)(d2:f≠m)(d3:f≠mc)
  (hK: ∀h' e d,gw h' f m (bW cs A).1->CW h' c m mc base n (bW cs A).2 e d->aM [f,m,mc] h h'->K (aD (bW cs A).1.done) h'):
  Cl 229 [au (aw f)] h K:=
 vD H W.mem hp (Nat.lt_trans W.hl (by decide)) g d2 d3 λh' e d a b O=>
  hK h' e d a ⟨W.cac.only O (by simp[d1.symm,W.d4,W.d5]),b,W.d4,W.d5,W.hn,W.hn2,by rw[rV];exact W.hc,by rw[rV];exact W.hl⟩ O
def nE(h:aI)(lo:Nat)(p:Option Addr)(l c:Nat)(cs:List Value):Prop:=
 cs.length=l/\((p=none/\l=0/\c=0)\/ ∃b o,p=some ⟨b,o,none⟩/\lo<=b/\b<h.size/\((l=0/\c=0)\/ ∃a sp:List Value,a.length=o/\l<=c/\sp.length=c-l/\At h b (a++cs++sp)))
def nE.nil(h:aI)(lo:Nat):nE h lo none 0 0 []:=⟨rfl,Or.inl ⟨rfl,rfl,rfl⟩⟩
def nE.only(H:nE h lo p l c cs)(O:aM S h h')(hS: ∀b∈aV p,b∉S):nE h' lo p l c cs:=by
 obtain⟨e,H⟩:=H;rcases H with H|⟨b,o,h1,h2,h3,H⟩
 ·exact⟨e,Or.inl H⟩
 ·refine⟨e,Or.inr ⟨b,o,h1,h2,Nt h3 O.size,?_⟩⟩;rcases H with H|⟨a,sp,h4,h5,h6,h7⟩
  ·exact Or.inl H
  ·exact Or.inr ⟨a,sp,h4,h5,h6,h7.only O (hS b (by rw[h1];simp[aV]))⟩
def nE.lt{h:aI}(H:nE h lo p l c cs): ∀b∈aV p,lo<=b/\b<h.size:=by
 obtain⟨-,H⟩:=H;rcases H with⟨e,-⟩|⟨b,o,h1,h2,h3,-⟩
 ·subst e;simp[aV]
 ·subst h1;intro x hx;simp[aV]at hx;subst hx;exact⟨h2,h3⟩
def nE.rd{cs:List Value}(H:nE h lo p l c cs)(hj:j<cs.length): ∃a,p=some a/\rd h (a.add j)=cs[j]? :=by
 obtain⟨e,H⟩:=H;rcases H with⟨-,h0,-⟩|⟨b,o,h1,h2,h3,⟨h0,-⟩|⟨d,sp,h4,h5,h6,h7⟩⟩
 ·omega
 ·omega
 ·refine⟨_,h1,?_⟩;rw[aL,h7.rd,Mo (by simp;omega),MK ah]
  congr 1
  omega
def nE.cap(H:nE h lo p l c cs):l<=c:=by
 obtain⟨e,H⟩:=H;rcases H with⟨-,h0,h1⟩|⟨b,o,h1,h2,h3,⟨h0,h4⟩|⟨a,sp,h4,h5,h6,h7⟩⟩
 ·omega
 ·omega
 ·exact h5
def nE.pop(H:nE h lo p (l+1) c (cs++[v])):nE h lo (if c=0 then p else Option.map (λa=>Addr.add a (0*1)) p) l c cs:=by
 have ep:(if c=0 then p else Option.map (λa=>Addr.add a (0*1)) p)=p:=by
  split
  ·rfl
  ·cases p with
   |none=>rfl
   |some a=>simp[Addr.add]
 rw[ep];obtain⟨e,H⟩:=H;rw[Mv,MP]at e;refine⟨ah,?_⟩;rcases H with⟨-,h0,-⟩|⟨b,o,h1,h2,h3,⟨h0,-⟩|⟨d,sp,h4,h5,h6,h7⟩⟩
 ·omega
 ·omega
 ·exact Or.inr ⟨b,o,h1,h2,h3,Or.inr ⟨d,v::sp,h4,ah,by simp;omega,by simpa using h7⟩⟩
def xy{h:aI}{v:Value}
  (H:nE h lo p l c cs) (A:At h bx [v]) (f:(l+1)*g<=140737488355328) (hv:v.oneCell'=true) (k:lo<=h.size)
  (hK: ∀p' c' h',nE h' lo p' (l+1) c' (cs++[v])->aM (aV p) h h'->(∀b∈aV p',b∈aV p\/h.size<=b)->K p' (l+1) c' h'):
  fQ h e 1 g #[z] p l c (some ⟨bx,0,none⟩) 1 K:=by
 obtain⟨d,H⟩:=H;refine⟨[v],rfl,fg A ak,λi=> ?_,λm=>⟨cs,ah,?_,f,λcap hc=> ?_⟩⟩
 ·rcases H with⟨-,h0,h1⟩|⟨b,o,h1,h2,h3,⟨h0,h4⟩|⟨a,sp,h4,h5,h6,h7⟩⟩
  ·omega
  ·omega
  ·subst h1;show rH ((⟨b,o,none⟩:Addr).add (l*1)) 0 [v] h _;rw[aL];refine jN [v] 0 _ h h7 (by simp;omega) (by simpa using hv) λh' A' O' z'=>hK _ _ h' ⟨by simp[d],Or.inr ⟨b,o,rfl,h2,ah,Or.inr ⟨a,sp.drop 1,h4,i,by simp;omega,?_⟩⟩⟩ O' λx hx=>Or.inl hx
   have e1:(a++cs++sp).take (o+l*1+0)=a++cs:=by rw[show o+l*1+0=(a++cs).length by simp;omega,Pz]
   have e2:(a++cs++sp).drop (o+l*1+0+[v].length)=sp.drop 1:=by
    rw[Pj,Oh (by simp;omega),Nn]
    congr 1
    simp;omega
   rw[e1,e2]at A';simpa using A'
 ·rcases H with⟨e,h0,-⟩|⟨b,o,h1,h2,h3,⟨h0,h4⟩|⟨a,sp,h4,h5,h6,h7⟩⟩
  ·subst e;exact h0
  ·subst h1;obtain rfl:cs=[]:=List.length_eq_zero_iff.1 ah;intro j x hj;simp at hj
  ·subst h1
   exact fg h7 λj x hj=>by
    have n:=(Ml.1 hj).1;rw[Mo (by simp;omega),MK ah,<-hj]
    congr 1
    omega
 ·refine hK _ _ _ ⟨by simp[d],Or.inr ⟨h.size,0,rfl,k,ak,Or.inr ⟨[],(Builtin.zeroCells #[z] (cap-(l+1))).toList,rfl,hc,by rw[fu];simp,?_⟩⟩⟩ ((aM.push_cells h _ e).mono ak) λx hx=>Or.inr ?_
  ·have:=At.push h (cs.toArray++ #[v]++Builtin.zeroCells #[z] (cap-(l+1))) e;simpa using this
  ·simp[aV]at hx;omega
def dE:Option Nd->List Value
 |some x=> [aC,ap (x.1:Int),aq (x.2.1:Int),aq (x.2.2:Int)]
 |none=> [aB,ap 0,aq 0,aq 0]
def eE(o:Option Nd):(dE o).length=4:=by cases o<;>rfl
def gR:ay->List Value
 | []=> []
 |x::N=>dE x++gR N
def gA: ∀N,(gR N).length=N.length*4
 | []=>rfl
 |x::N=>by simp[gR,eE,gA N];omega
def uI: ∀N M,gR (N++M)=gR N++gR M
 | [],M=>rfl
 |x::N,M=>by simp[gR,uI N M]
def pn: ∀(N:ay) (i:Nat) (x:Option Nd) (k:Nat),N[i]? =some x->k<4->(gR N)[i*4+k]? =(dE x)[k]?
 | [],i,x,k,h,_=>by simp at h
 |y::N,0,x,k,h,hk=>by simp at h;subst h;rw[Nat.zero_mul,LX];exact Mo (by rw[eE];exact hk)
 |y::N,i+1,x,k,h,hk=>by
  have:=pn N i x k (by simpa using h) hk;unfold gR;rw[MK (by rw[eE];omega),<-this]
  congr 1
  rw[eE];omega
def mI: ∀(N:ay) (i:Nat) (o:Option Nd) (a b c d:Value),i<N.length->dE o=[a,b,c,d]->((((gR N).set (i*4+0) a).set (i*4+1) b).set (i*4+2) c).set (i*4+3) d=gR (N.set i o)
 | [],i,o,a,b,c,d,h,_=>by simp at h
 |y::N,0,o,a,b,c,d,h,e=>by
  simp only[gR,OX,e];have:=eE y
  match hy:dE y,this with
  | [p,q,r,s],_=>simp
 |y::N,i+1,o,a,b,c,d,h,e=>by have ih:=mI N i o a b c d (by simpa using h) e;simp only[gR,Ni];rw[<-ih];have:=eE y;rw[show(i+1)*4+0=(dE y).length+(i*4+0) by omega,show(i+1)*4+1=(dE y).length+(i*4+1) by omega,show(i+1)*4+2=(dE y).length+(i*4+2) by omega,show(i+1)*4+3=(dE y).length+(i*4+3) by omega];simp only[List.set_append,Nat.not_lt.2 (OE _ _),Nf,Nat.add_sub_cancel_left]
def isN(N:ay)(a:Nat):Prop:=a<2\/ ∃x,nd N (a-2)=some x
def lvl(n:Nat)(N:ay)(a:Nat):Nat:=if a<2 then n else match nd N (a-2)with|some x=>x.1|none=>0
def low(N:ay)(a:Nat):Nat:=if a<2 then a else match nd N (a-2)with|some x=>x.2.1|none=>0
def high(N:ay)(a:Nat):Nat:=if a<2 then a else match nd N (a-2)with|some x=>x.2.2|none=>0
structure cX(n:Nat)(N:ay):Prop where
 node: ∀i x,nd N i=some x->x.1<n/\isN N x.2.1/\isN N x.2.2/\x.2.1≠x.2.2/\x.1<lvl n N x.2.1/\x.1<lvl n N x.2.2
 once: ∀i j x,nd N i=some x->nd N j=some x->i=j
structure SB where
 ob:Nat
 tb:Nat
 m:Nat
 mc:Nat
 sb:Nat
 cac:Nat
 cm:Nat
 cmc:Nat
 p:az
 c:Nat
 fp:az
 fc:Nat
def SB.bm(B:SB)(s:Nat):List Nat:=[s,B.ob,B.cac,B.cm,B.cmc]++aV B.p++aV B.fp
def SB.bt(B:SB):List Nat:=[B.tb,B.m,B.mc,B.sb]
def oO(F:List Nat):List Value:=F.map λ(a:Nat)=>aq (a:Int)
def jz(room:Nat)(B:SB)(l fl:Nat)(off:Bool):List Value:=[ap (room:Int),au (aw B.ob),.slice B.p l B.c,.slice B.fp fl B.fc,au (aw B.tb),.map (some B.sb),au (aw B.cac),aD off]
def mw(Q:Int->Int->Prop)(cs:List Int):Prop:= ∀l,l<256->0<=cs.getD (3*l) 0/\cs.getD (3*l) 0<18446744073709551616/\cs.getD (3*l) 0%2=0/\(cs.getD (3*l) 0%4=2->Q (cs.getD (3*l+1) 0) (cs.getD (3*l+2) 0))
def rq(h:aI)(B:SB)(Q:Int->Int->Prop):Prop:= ∃cs ops fails,CW h B.cac B.cm B.cmc 0 256 cs ops fails/\mw Q cs
def rq.only{B:SB}(H:rq h B Q)(O:aM S h h')(h1:B.cac∉S)(h2:B.cm∉S)(h3:B.cmc∉S):rq h' B Q:=by obtain⟨cs,o,f,a,b⟩:=H;exact⟨cs,o,f,a.only O h1 h2 h3,b⟩
structure ie(h:aI)(s n room:Nat)(B:SB)(f g:Nat->Nat)(N:ay)(F:List Nat)(Q:Int->Int->Prop)(off:Bool):Prop where
 S:At h s (jz room B N.length F.length off)
 O:cL h B.ob n f g
 own:cy h 0 4 B.p N.length B.c (gR N)
 fre:nE h 0 B.fp F.length B.fc (oO F)
 cac:rq h B Q
 n8:1<=n/\n<=8
 len:N.length<=room/\room<=32768/\F.length<=N.length
 sep:(B.bm s).Nodup
def ic(h:aI)(B:SB)(E:ay)(T:Nat):Prop:= ∃cs mm ops fails,dO h B.tb B.m 0 T/\bH h B.m B.mc cs ops fails/\bV h B.sb .i64 mm/\mT T cs mm E
def ic.only{h h':aI}{B:SB}{E:ay}{T:Nat}{L:List Nat}(H:ic h B E T)(O:aM L h h')(hL: ∀b∈L,b∉B.bt):ic h' B E T:=by have d: ∀b,b∈B.bt->b∉L:=λb hb hl=>hL b hl hb;obtain⟨cs,mm,o,f',t1,t2,t3,t4⟩:=H;exact⟨cs,mm,o,f',t1.only O (d _ (by simp[SB.bt])),t2.only O (d _ (by simp[SB.bt])) (d _ (by simp[SB.bt])),t3.only O (d _ (by simp[SB.bt])),t4⟩
def ic.lt{h:aI}{B:SB}{E:ay}{T:Nat}(H:ic h B E T): ∀b∈B.bt,b<h.size:=λb hb=>by obtain⟨cs,mm,o,f',t1,t2,t3,-⟩:=H;have:=At.lt t1;have:=t2.head.lt;have:=t2.body.lt;have:=t3.lt;simp only[SB.bt,List.mem_cons,MR,Nk]at hb;omega
structure wB(h:aI)(s:Nat)(B:SB)(N:ay):Prop where
 tab: ∃T,ic h B N T/\(∃k,T=32*2^k)/\2*bi N<=T/\T<=262144
 nd:B.bt.Nodup
 sep: ∀b∈B.bt,b∉B.bm s
def ie.only{B:SB}(H:ie h s n room B f g N F Q off)(O:aM L h h')(hL: ∀b∈L,b∉B.bm s):ie h' s n room B f g N F Q off:=by have d: ∀b,b∈B.bm s->b∉L:=λb hb hl=>hL b hl hb;exact⟨H.S.only O (d _ (by simp[SB.bm])),H.O.only O (d _ (by simp[SB.bm])),H.own.only O λb hb=>d _ (by simp[SB.bm,hb,aV]),H.fre.only O λb hb=>d _ (by simp[SB.bm,hb]),H.cac.only O (d _ (by simp[SB.bm])) (d _ (by simp[SB.bm])) (d _ (by simp[SB.bm])),H.n8,H.len,H.sep⟩
def wB.only{B:SB}(H:wB h s B N)(O:aM L h h')(hL: ∀b∈L,b∉B.bt):wB h' s B N:=by obtain⟨T,t,t5⟩:=H.tab;exact⟨⟨T,t.only O hL,t5⟩,H.nd,H.sep⟩
def ie.lt{h:aI}{B:SB}(H:ie h s n room B f g N F Q off): ∀b∈B.bm s,b<h.size:=λb hb=>by
 obtain⟨cs,o,f,c1,-⟩:=H.cac;have:=c1.lt;have:=H.S.lt;have:=At.lt H.O;simp only[SB.bm,List.mem_append,List.mem_cons,MR,Nk]at hb;rcases hb with(hb|hb)|hb
 ·omega
 ·exact(H.own.lt b hb).2
 ·exact(H.fre.lt b hb).2
def wB.lt{h:aI}{B:SB}(H:wB h s B N): ∀b∈B.bt,b<h.size:=by obtain⟨T,t,-⟩:=H.tab;exact t.lt
def vp(H:ie h s n room B f g N F Q off)(hK:K (ap (n:Int)) h):Cl 75 [au (aw s)] h K:=by refine F75.spec ?_;simp only[aL,LX];refine aQ (by rw[At.rd H.S];rfl) (Es H.O (aH rfl hK))
def qR{a:Nat}(h2:2<=a)(ha:a<4294967296):IntKind.wrap .u32 ((a:Int)-2)=((a-2:Nat):Int):=by rw[show(a:Int)-2=((a-2:Nat):Int) by omega];exact gK ah
def ie.cells{B:SB}(H:ie h s n room B f g N F Q off)(hi:N[i]? =some o): ∃b,B.p=some (aw b)/\ ∀k,k<4->rd h ⟨b,i*4+k,none⟩=(dE o)[k]? :=by
 have hl:=(Ml.1 hi).1
 have rr: ∀k,k<4-> ∃b,B.p=some (aw b)/\rd h ⟨b,i*4+k,none⟩=(dE o)[k]? :=λk hk=>by obtain⟨b,e1,e2⟩:=H.own.rd (j:=i*4+k) (by rw[gA];omega);exact⟨b,e1,by rw[e2,pn N _ o k hi hk]⟩
 obtain⟨b,e1,e2⟩:=rr 0 ah;refine⟨b,e1,λk hk=> ?_⟩;obtain⟨b',a,c⟩:=rr k hk;rw[e1]at a;injection a with a;injection a with a;subst a;exact c
def ux{h:aI}{s n room:Nat}{B:SB}{f g:Nat->Nat}{N:ay}{F:List Nat}{Q:Int->Int->Prop}{off:Bool}{K:KK}(H:ie h s n room B f g N F Q off){a:Nat}(ha:a<4294967296)
  (h1:(∀x,2<=a->nd N (a-2)≠some x)->K (.pointer none) h)
  (h2: ∀b x,B.p=some (aw b)->2<=a->nd N (a-2)=some x->(∀k,k<4->rd h ⟨b,(a-2)*4+k,none⟩=(dE (some x))[k]?)->K (au ⟨b,(a-2)*4,none⟩) h):
  Cl 117 [au (aw s),aq (a:Int)] h K:=by
 refine F117.spec ?_;simp only[aL,LX];refine aR (λhb=> ?_) λhb=> ?_
 ·have hb:=Mn hb;exact h1 λx h2=>ah
 have hb:=Me hb;have rs:rd h ⟨s,2,none⟩=some (.slice B.p N.length B.c):=by rw[At.rd H.S];rfl
 refine bF rs ?_;have w1:ax (a:Int)=(a:Int):=wrap_i64 ah ah;rw[w1,wrap_i64 ah ah,qR ah ha];refine aR (λhc=> ?_) λhc=> ?_
 ·have hc:=Mn hc;exact h1 λx h2=>by rw[o0 ah];simp
 have hc:=Me hc;have hi:a-2<N.length:=ah;obtain⟨o,ho⟩: ∃o,N[a-2]? =some o:=⟨_,Mj hi⟩;obtain⟨b,e1,rb⟩:=H.cells ho;refine bF rs ?_;rw[e1,aT];refine⟨ah,ah,?_⟩;rw[aL,aL,show 0+Int.toNat ((a-2:Nat):Int)*4+0=(a-2)*4+0 by omega,rb 0 ah];cases o with
 |none=>
  refine a8 rfl ?_;rw[MS,aO];exact h1 λx _=>by rw[Ne,dk,ho];simp
 |some x=>
  refine a8 rfl ?_;rw[MF,aK];refine bF rs ?_;rw[e1,aT];refine⟨ah,ah,?_⟩;rw[aL,show 0+Int.toNat ((a-2:Nat):Int)*4=(a-2)*4 by omega];exact h2 b x e1 ah (dk.2 ho) rb
def isN_lt{h:aI}{s n room:Nat}{B:SB}{f g:Nat->Nat}{N:ay}{F:List Nat}{Q:Int->Int->Prop}{off:Bool}(H:ie h s n room B f g N F Q off){a:Nat}(ha:isN N a):a<N.length+2:=by
 rcases ha with h|⟨x,h⟩
 ·omega
 ·have:=ko h;omega
def GC(H:ie h s n room B f g N F Q off)(ha:a<4294967296)(h1:isN N a->K aC h)(h0: ¬isN N a->K aB h):Cl 74 [au (aw s),aq (a:Int)] h K:=by
 refine F74.spec ?_;refine aR (λhb=> ?_) λhb=> ?_
 ·have hb:=Mn hb;exact h1 (.inl ah)
 have hb:=Me hb;refine ux H ha (λe=>aQ rfl ?_) λb x e1 h2 hx r=>aQ rfl ?_
 ·refine h0 λhn=> ?_;rcases hn with h|⟨x,h⟩
  ·omega
  ·exact e x ah h
 ·exact h1 (.inr ⟨x,hx⟩)
def lG(H:ie h s n room B f g N F Q off)(ha:isN N a)(hK:K (ap (lvl n N a:Int)) h):Cl 71 [au (aw s),aq (a:Int)] h K:=by
 have hl:=H.len;have c:=isN_lt H ha;refine F71.spec ?_;unfold lvl at hK;refine aR (λhb=> ?_) λhb=> ?_
 ·have hb:=Mn hb;rw[L4 ah]at hK;exact vp H (aH rfl hK)
 have hb:=Me hb;rw[LY ah]at hK;refine ux H ah (λh1=> ?_) λb x e1 h2 hx r=>aQ rfl ?_
 ·rcases ha with h|⟨x,h⟩
  ·omega
  ·exact Mw h (h1 x ah)
 rw[show(!(Option.isNone (some (⟨b,(a-2)*4,none⟩:Addr))))=true from rfl,aO,aT,aL,r 1 ah];refine aH rfl ?_;rw[hx]at hK;exact hK
def EI{h:aI}{s:Nat}{K:KK}{a:Nat}(ha:a<2)(hK:K (ap 1) h):Cl 118 [au (aw s),aq (a:Int)] h K:=by refine F118.spec ?_;exact aR (λ_=>hK) λhb=>Mw (Me hb) ah
def tB: ∀a:Fin 2,bu .and .u32 ((a.1:Nat):Int) (IntKind.wrap .u32 1)=((a.1:Nat):Int):=by decide+kernel
def Bn{h:aI}{s n room:Nat}{B:SB}{f g:Nat->Nat}{N:ay}{F:List Nat}{Q:Int->Int->Prop}{off:Bool}{K:KK}(H:ie h s n room B f g N F Q off){a:Nat}(ha:isN N a)(hK:K (aq (low N a:Int)) h):Cl 72 [au (aw s),aq (a:Int)] h K:=by
 have hl:=H.len;have c:=isN_lt H ha;refine F72.spec ?_;unfold low at hK;refine ux H ah (λh1=>aQ rfl ?_) λb x e1 h2 hx r=>aQ rfl ?_
 ·have h2:a<2:=by
   rcases ha with h|⟨x,h⟩
   ·exact h
   ·exact Mi λhn=>h1 x ah h
  rw[L4 h2]at hK;rw[show(!(Option.isNone (none:az)))=false from rfl,aK];refine EI h2 ?_;refine aH rfl ?_;have:=tB ⟨a,h2⟩;dsimp only at this;rw[this];exact hK
 ·rw[LY ah,hx]at hK;rw[show(!(Option.isNone (some (⟨b,(a-2)*4,none⟩:Addr))))=true from rfl,aO,aT,aL,r 2 ah];exact aH rfl hK
def vm{h:aI}{s n room:Nat}{B:SB}{f g:Nat->Nat}{N:ay}{F:List Nat}{Q:Int->Int->Prop}{off:Bool}{K:KK}(H:ie h s n room B f g N F Q off){a:Nat}(ha:isN N a)(hK:K (aq (high N a:Int)) h):Cl 73 [au (aw s),aq (a:Int)] h K:=by
 have hl:=H.len;have c:=isN_lt H ha;refine F73.spec ?_;unfold high at hK;refine ux H ah (λh1=>aQ rfl ?_) λb x e1 h2 hx r=>aQ rfl ?_
 ·have h2:a<2:=by
   rcases ha with h|⟨x,h⟩
   ·exact h
   ·exact Mi λhn=>h1 x ah h
  rw[L4 h2]at hK;rw[show(!(Option.isNone (none:az)))=false from rfl,aK];refine EI h2 ?_;refine aH rfl ?_;have:=tB ⟨a,h2⟩;dsimp only at this;rw[this];exact hK
 ·rw[LY ah,hx]at hK;rw[show(!(Option.isNone (some (⟨b,(a-2)*4,none⟩:Addr))))=true from rfl,aO,aT,aL,r 3 ah];exact aH rfl hK
def ud{N:ay}{F:List Nat}(H:ie h s n room B f g N F Q off)(hF:N.length=bi N+F.length)(hK:K (ap (bi N:Int)) h):Cl 45 [au (aw s)] h K:=by have hl:=H.len;refine F45.spec ?_;simp only[aL,LX];refine bF (by rw[At.rd H.S];rfl) (bF (by rw[At.rd H.S];rfl) ?_);rw[wrap_i64 ah ah,show((N.length:Nat):Int)-((F.length:Nat):Int)=(bi N:Int) by omega];exact hK
def IR{h:aI}{s n room:Nat}{B:SB}{f g:Nat->Nat}{N:ay}{F:List Nat}{Q:Int->Int->Prop}{off:Bool}{K:KK}{E:ay}{T:Nat}(H:ie h s n room B f g N F Q off)(Tm:ic h B E T)(nn:B.bt.Nodup)(ss: ∀b∈B.bt,b∉B.bm s)(hT:1<=T)(t7:T<=262144){k:Nat}(hk:k≠0)
  (hY: ∀h' i x,nd E i=some x->kf x=k->aM [B.m,B.mc] h h'->ic h' B E T->K (.tuple #[aq ((i+2:Nat):Int),aC]) h')
  (hN: ∀h',rC E k->aM [B.m,B.mc] h h'->ic h' B E T->K (.tuple #[aq 0,aB]) h'):
  Cl 199 [au (aw s),ar (k:Int)] h K:=by
 obtain⟨cs,mm,ops,fails,t1,t2,t3,L⟩:=Tm;simp only[SB.bt,MO,List.mem_cons,MR,Nk,NU,PA,OU,not_false_eq_true]at nn;obtain⟨s1,s2,s3⟩:=nn;have sp:s∉B.bt:=λhm=>ss s hm (by simp[SB.bm]);simp only[SB.bt,List.mem_cons,MR,Nk,NU]at sp;refine F199.spec _ _ h K ?_;simp only[aL,LX];refine aQ (by rw[At.rd H.S];rfl) (gq t1 (aH rfl ?_));unfold F199.wk3
 have mk: ∀h' a,bH h' B.m B.mc cs a fails->aM [B.m,B.mc] h h'->ic h' B E T:=λh' a M O=>
  ⟨cs,mm,a,fails,t1.only O (by simp;omega),M,t3.only O (by simp;omega),L⟩
 have S': ∀{h'},aM [B.m,B.mc] h h'->At h' s (jz room B N.length F.length off):=λO=>H.S.only O (by simp;omega)
 have c: ∀(d i:Nat) (h':aI) (a:Int),i+d=T->qF 0 T cs (k:Int) i->bH h' B.m B.mc cs a fails->aM [B.m,B.mc] h h'->F199.wL3 (d+1) (aw s) (k:Int) (T:Int) (T:Int) (i:Int) h' K:=by
  intro d
  induction d with
  |zero=>
   intro i h' a hd S M O;rw[F199.sL3];rw[L7 ah,aK];refine hN h' (λi0 x hx e=> ?_) O (mk h' a M O);obtain⟨j,hj,ej⟩:=L.all i0 x hx;obtain⟨d',l,ed⟩:=rE (key:=(k:Int)) hj;have:=(S d' ah).2;rw[ed,ej,e]at this;exact this rfl
  |succ d ih=>
   intro i h' a hd S M O;rw[F199.sL3];rw[Mg ah,aO];refine mQ ah ah (aH rfl ⟨ah,?_⟩);simp only[aL,LX];refine aQ (by rw[At.rd (S' O)];rfl) ?_;have hh:=ga (k:Int) (n:=T) ah
   have ep:Int.tmod (ax ((gP (k:Int) T:Int)+(i:Int))) (T:Int)=((path T (k:Int) i:Nat):Int):=by
    unfold path;generalize gP (k:Int) T=y at hh;rw[wrap_i64 ah ah,show(y:Int)+(i:Int)=((y+i:Nat):Int) by omega,Nm ah]
    rfl
   rw[ep];have hp:path T (k:Int) i<T:=sX ah;refine Da (t1.only O (by simp;omega)) M ah ah (by have:=L.len;omega) hp λh2 M2 O2=>aH rfl ?_;have O':aM [B.m,B.mc] h h2:=O.trans O2 (by intro b hb _;exact hb);refine aR (λhb=> ?_) λhb=> ?_
   ·have hb:cell 0 cs (path T (k:Int) i)=(k:Int):=by simpa using hb
    refine⟨_,by rw[At.rd (S' O')];rfl,?_⟩;rcases L.cells _ hp with h0|⟨i0,x,c1,c2,c3⟩
    ·omega
    refine dg (m:=mm) (t3.only O' (by simp;omega)) (λhn=>by rw[hn]at c3;cases c3) λj v hv=> ?_;rw[c3]at hv;injection hv with hv;subst hv;exact aH rfl (hY h2 i0 x c1 ah O' (mk h2 _ M2 O'))
   ·have hb:cell 0 cs (path T (k:Int) i)≠(k:Int):=by simpa using hb
    refine aR (λhz=> ?_) λhz=> ?_
    ·have hz:cell 0 cs (path T (k:Int) i)=0:=by simpa using hz
     refine hN h2 (λi0 x hx e=> ?_) O' (mk h2 _ M2 O');obtain⟨j,hj,ej⟩:=L.all i0 x hx;exact L.inv.absent ah ah S hz j hj (by rw[ej,e])
    ·have hz:cell 0 cs (path T (k:Int) i)≠0:=by simpa using hz
     rw[show ax ((i:Int)+1)=((i+1:Nat):Int) by rw[wrap_i64 ah ah];omega];refine ih (i+1) h2 _ ah (λj hj=> ?_) M2 O';by_cases e:j=i
     ·subst e;exact⟨hz,hb⟩
     ·exact S j ah
 exact⟨_,c T 0 h ops ah (λj hj=>ah) t2 (aM.refl _ _)⟩
def xQ{A P P' C:List Nat}(H:(A++P++C).Nodup)(hp:P'.Nodup)(hx: ∀x∈P',x∉A/\x∉C):(A++P'++C).Nodup:=by simp only[ML,List.mem_append,Pp]at H ⊢;obtain⟨⟨h1,-,-⟩,h3,h4⟩:=H;exact⟨⟨h1,hp,λa ha b hb e=>(hx b hb).1 (e▸ha)⟩,h3,λa ha b hb e=>ha.elim (λh=>h4 a (.inl h) b hb e) λh=>(hx a h).2 (e▸hb)⟩
def qU(p:az):(aV p).Nodup:=by cases p<;>simp[aV]
def SB.grow{B:SB}{s:Nat}{h:aI}{p':az}{c':Nat}(H:(B.bm s).Nodup)(a: ∀b∈B.bm s,b<h.size)(hp: ∀b∈aV p',b∈aV B.p\/h.size<=b):
  (SB.bm {B with p:=p',c:=c'} s).Nodup/\ ∀b∈SB.bm {B with p:=p',c:=c'} s,b∈B.bm s\/h.size<=b:=by
 refine⟨xQ H (qU p') λx hx=> ?_,λb hb=> ?_⟩
 ·rcases hp x hx with h1|h1
  ·unfold SB.bm at H;simp only[ML,List.mem_append,Pp]at H;obtain⟨⟨_,_,h2⟩,_,h4⟩:=H;exact⟨λhA=>h2 x hA x h1 rfl,λhC=>h4 x (.inr h1) x hC rfl⟩
  ·refine⟨λhA=> ?_,λhC=> ?_⟩
   ·have:=a x (by simp only[SB.bm,List.mem_append];exact .inl (.inl hA));omega
   ·have:=a x (by simp only[SB.bm,List.mem_append];exact .inr hC);omega
 ·simp only[SB.bm,List.mem_append]at hb ⊢;rcases hb with(hb|hb)|hb
  ·exact .inl (.inl (.inl hb))
  ·rcases hp b hb with h1|h1
   ·exact .inl (.inl (.inr h1))
   ·exact .inr h1
  ·exact .inl (.inr hb)
def oV(p:az)(c:Nat):(if c=0 then p else Option.map (λa=>Addr.add a (0*1)) p)=p:=by
 split
 ·rfl
 ·cases p with
  |none=>rfl
  |some a=>simp[add_zero]
def Kw(N:ay)(F:List Nat)(N':ay)(F':List Nat)(a:Nat):Prop:=(F=[]/\N'=N++[none]/\F'=[]/\a=N.length+2)\/(F=F'++[a]/\N'=N)
def Bf{h:aI}{B:SB}{N:ay}(H:ie h s n room B f g N F Q off)(l:F=[]->N.length<room)
  (hK: ∀h' p' c' N' F' a,Kw N F N' F' a->ie h' s n room {B with p:=p',c:=c'} f g N' F' Q off->aM (s::aV B.p) h h'->(∀b∈aV p',b∈aV B.p\/h.size<=b)->K (aq (a:Int)) h'):
  Cl 201 [au (aw s)] h K:=by
 have hl:=H.len;have x:s<h.size:=H.S.lt;have d:=H.sep;have q:=H.lt
 have k:s∉aV B.p/\s∉aV B.fp/\s∉[B.ob,B.cac,B.cm,B.cmc]:=by unfold SB.bm at d;simp only[Nu,MO,List.mem_cons,List.mem_append,NU,Nn]at d;simp only[List.mem_cons,MR,Nk,NU];exact⟨d.1.2.2.2.2.1,d.1.2.2.2.2.2,d.1.1,d.1.2.1,d.1.2.2.1,d.1.2.2.2.1⟩
 refine F201.spec ?_;simp only[aL,LX];have rf:rd h ⟨s,3,none⟩=some (.slice B.fp F.length B.fc):=by rw[At.rd H.S];rfl
 refine bF rf ?_;rcases List.eq_nil_or_concat F with e|⟨F',a,e⟩
 ·subst e;rw[L7 ak,aK];have hr:=l rfl;refine bF (by rw[At.rd H.S];rfl) ?_;refine aW λh1 A1 O1 z1=> ?_;have As:=H.S.only O1 ak;have Ws:=H.own.only O1 ak;refine gU (new:=dE none) Ws A1 rfl rfl ah (by simp[dE,Value.oneCell']) ah λp' c' h2 W2 O2 o=> ?_;have As2:=As.only O2 k.1
  have t:s∉aV p':=λhm=>by
   rcases o s hm with h|h
   ·exact k.1 h
   ·omega
  refine aU As2 (by simp[jz]) rfl λh3 A3 O3 _=> ?_
  replace A3:At h3 s (jz room {B with p:=p',c:=c'} (N.length+1) 0 off):=A3
  refine bF (by rw[At.rd A3];rfl) ?_
  rw[show IntKind.wrap .u32 (ax (ax (((N.length+1:Nat):Int)-1)+2))=((N.length+2:Nat):Int) by have w1:ax (((N.length+1:Nat):Int)-1)=((N.length+1:Nat):Int)-1:=wrap_i64 ah ah;rw[w1,wrap_i64 ah ah,show((N.length+1:Nat):Int)-1+2=((N.length+2:Nat):Int) by omega];exact gK ah]
  have OO:aM (s::aV B.p) h h3:=(((aM.refl (s::aV B.p) h).trans O1 ak).trans O2 (by intro b hb _;simp[hb])).trans O3 (by intro b hb _;simp at hb;simp[hb])
  have m: ∀b∈aV p',b∈aV B.p\/h.size<=b:=λb hb=>by
   rcases o b hb with h|h
   ·exact .inl h
   ·exact .inr ah
  obtain⟨g1,g2⟩:=SB.grow (c':=c') d q m
  have i: ∀b,b∈[B.ob,B.cac,B.cm,B.cmc]++aV B.fp->b∉s::aV B.p:=λb hb hm=>by
   unfold SB.bm at d;simp only[ML,List.mem_append,Pp]at d;obtain⟨⟨h1,_,h2⟩,_,h4⟩:=d;rcases Zq hb with hb|hb
   ·rcases List.mem_cons.1 hm with e|hm
    ·exact k.2.2 (e▸hb)
    ·exact h2 b (by simp only[List.mem_cons]at hb ⊢;exact .inr hb) b hm rfl
   ·rcases List.mem_cons.1 hm with e|hm
    ·exact k.2.1 (e▸hb)
    ·exact h4 b (.inr hm) b hb rfl
  refine hK h3 p' c' (N++[none]) [] _ (.inl ⟨rfl,rfl,rfl,rfl⟩) ⟨by rw[Mv];exact A3,H.O.only OO (i _ ak),?_,H.fre.only OO λb hb=>i _ (by simp[hb]),H.cac.only OO (i _ ak) (i _ ak) (i _ ak),H.n8,by rw[Mv];exact⟨hr,hl.2.1,ak⟩,g1⟩ OO m;rw[uI,Mv];exact W2.only O3 λb hb hm=>t (by simp at hm;subst hm;rw[hb];simp[aV])
 ·rw[Pr]at e;subst e;rw[Mv]at rf;rw[Mv,Mg ak,aO];refine bF rf ?_;have fr:=H.fre;have v:(oO (F'++[a])).length=F'.length+1:=by simp[oO]
  obtain⟨ad,e1,e2⟩:=fr.rd (j:=F'.length) ah;rw[e1,aT]
  have w1:ax (((F'.length+[a].length:Nat):Int)-1)=(F'.length:Int):=by
   have u:=fr.cap
   have hF:F'.length<9223372036854775807:=by have:=hl.2.2;rw[Mv]at this;omega
   rw[wrap_i64 (by rw[MP];omega) (by rw[MP];omega)];simp
  rw[w1];refine⟨ah,by rw[MP];omega,?_⟩;rw[MU,Md,e2];refine aH (by simp[oO];rfl) ?_;refine bF rf ⟨ah,?_,?_⟩
  ·have:=fr.cap;simp at this;omega
  ·rw[e1,oV,Of,Of];refine aU H.S (by simp[jz]) rfl λh3 A3 O3 _=> ?_
   have i: ∀b,b∈[B.ob,B.cac,B.cm,B.cmc]++aV B.p++aV B.fp->b∉[s]:=λb hb hm=>by
    simp only[LZ]at hm;subst hm;rcases Zq hb with hb|hb
    ·rcases Zq hb with hb|hb
     ·exact k.2.2 hb
     ·exact k.1 hb
    ·exact k.2.1 hb
   refine hK h3 B.p B.c N F' a (.inr ⟨rfl,rfl⟩) ⟨?_,H.O.only O3 (i _ ak),H.own.only O3 λb hb=>i _ (by simp[hb,aV]),?_,H.cac.only O3 (i _ ak) (i _ ak) (i _ ak),H.n8,⟨hl.1,hl.2.1,by have:=hl.2.2;rw[Mv]at this;omega⟩,d⟩ (O3.mono ak) λb hb=> .inl hb
   ·rw[<-e1]at A3;exact A3
   ·have pp:=fr;rw[show oO (F'++[a])=oO F'++[aq (a:Int)] by simp[oO],Mv]at pp;have pq:=pp.pop;rw[oV]at pq;exact pq.only O3 λb hb=>i _ (by simp[hb])
def CX:(Tryz.prog.info? 218).map (·.size)=some 0:=by kernel_rfl
def je(hK:K h):du Tryz.prog 218 (some a) (.agg #[]) h K:=by
 unfold du;have e:=CX;cases hi:Tryz.prog.info? 218 with
 |none=>rw[hi]at e;cases e
 |some ti=>
  rw[hi]at e;have e:ti.size=0:=by simpa using e
  have e2:Nat.beq (Value.agg #[]).cells.size ti.size=true:=by rw[e];rfl
  dsimp only;rw[e2];exact hK
def fa{h:aI}(hK: ∀h',bV h' h.size k []->aM [] h h'->h'.size=h.size+1->K h.size h'):bg h (.map #[] 0) K:=
 hK _ (bV.empty (by unfold mp;simp)) (aM.push_map h _ _) ak
def qq.only'(H:qq h k p zs)(O:aM S h h')(hS: ∀a,p=some a->a.block∉S):qq h' k p zs:=by
 intro i hi;obtain⟨a,e,hr⟩:=H i hi;refine⟨a,e,?_⟩;rw[<-hr]
 have b:(a.add i).block=a.block:=by unfold Addr.add;split<;>rfl
 have hb:(a.add i).block<h.size:=by apply Mi;intro hn;have:h[(a.add i).block]? =none:=NB ah;simp[rd,this]at hr
 unfold rd;rw[O.same _ hb (by rw[b];exact hS a e)]
def gN(bl:List Nat)(N:ay):ay:=N.mapIdx λi o=>if i+2∈bl then none else o
def xG(h:N[i]? =some o):(gN bl N)[i]? =some (if i+2∈bl then none else o):=by
 unfold gN;rw[Ob,h]
 rfl
def sx{N:ay}:(gN bl N).length=N.length:=by simp[gN]
def gF(i:Nat):nd (gN bl N) i=if i+2∈bl then none else nd N i:=by
 unfold nd;cases h:N[i]? with
 |none=>
  rw[Mt (by rw[sx];exact MV.1 h)];simp
 |some o=>
  rw[xG h];split<;>rfl
def dP(N:ay):gN [] N=N:=by apply MM;intro i;unfold gN;rw[Ob];cases N[i]? <;>simp
def iS{E:ay}(h:E[i]? =some x):E.take (i+1)=E.take i++[x]:=by
 rw[NM,h]
 rfl
def Dt{E:ay}(h:nd (E.take i) k=some x):nd E k=some x/\k<i:=by have hl:=ko h;rw[NI]at hl;have:=dk.1 h;rw[List.getElem?_take_of_lt ah]at this;exact⟨dk.2 this,ah⟩
def SB.tabs(B:SB)(tb m mc sb:Nat):SB:={B with tb:=tb,m:=m,mc:=mc,sb:=sb}
def uh(mo:List (Int×Value))(bl:List Nat):Prop:= ∀k:Nat,(k∈bl->mo.lookup (k:Int)=some (.agg #[]))/\(k∉bl->mo.lookup (k:Int)=none)
structure HJ(h:aI)(s n room:Nat)(B:SB)(f g:Nat->Nat)(N:ay)(F:List Nat)(Q:Int->Int->Prop):Prop where
 O:cL h B.ob n f g
 own:cy h 0 4 B.p N.length B.c (gR N)
 fre:nE h 0 B.fp F.length B.fc (oO F)
 cac:rq h B Q
 n8:1<=n/\n<=8
 len:N.length<=room/\room<=32768/\F.length<=N.length
 sep:(B.bm s).Nodup
def ie.r(H:ie h s n room B f g N F Q off):HJ h s n room B f g N F Q:=⟨H.O,H.own,H.fre,H.cac,H.n8,H.len,H.sep⟩
def tW(room:Nat)(B:SB)(l fl:Nat)(off:Bool)(v4 v5:Value):List Value:=[ap (room:Int),au (aw B.ob),.slice B.p l B.c,.slice B.fp fl B.fc,v4,v5,au (aw B.cac),aD off]
def HJ.lt{h:aI}{B:SB}(H:HJ h s n room B f g N F Q)(hs:s<h.size): ∀b∈B.bm s,b<h.size:=λb hb=>by
 obtain⟨cs,o,f,c1,-⟩:=H.cac;have:=c1.lt;have:=At.lt H.O;simp only[SB.bm,List.mem_append,List.mem_cons,MR,Nk]at hb;rcases hb with(hb|hb)|hb
 ·omega
 ·exact(H.own.lt b hb).2
 ·exact(H.fre.lt b hb).2
def oA{h:aI}{s n room:Nat}{B:SB}{f g:Nat->Nat}{N:ay}{F:List Nat}{Q:Int->Int->Prop}{off:Bool}{K:KK}{T bc:Nat}{bp:az}{bl:List Nat}{v4 v5:Value}(HS:At h s (tW room B N.length F.length off v4 v5))(H:HJ h s n room B f g N F Q)
  (b3:qq h .u32 bp (bl.map λ(k:Nat)=>(k:Int))) (V: ∀a,bp=some a->a.block≠s) (c7:bl.length<=32768)
  (S: ∀i x,nd (gN bl N) i=some x->kE x) (R: ∀i j x,nd (gN bl N) i=some x->nd (gN bl N) j=some x->i=j) (Y: ∃k,T=32*2^k) (hT:2*bi (gN bl N)<=T) (Z:T<=262144)
  (hK: ∀tb m mc sb h',ie h' s n room (B.tabs tb m mc sb) f g N F Q off->wB h' s (B.tabs tb m mc sb) (gN bl N)->ic h' (B.tabs tb m mc sb) (gN bl N) T->h.size<=tb->h.size<=m->h.size<=mc->h.size<=sb->aM [s] h h'->K aE h'):
  Cl 111 [au (aw s),ap (T:Int),.slice bp bl.length bc] h K:=by
 have b7:1<=T:=by obtain⟨k,e⟩:=Y;have:=NX k;omega
 have q:=H.sep;have b9:=H.len
 have P:s∉aV B.p/\s∉aV B.fp/\s∉[B.ob,B.cac,B.cm,B.cmc]:=by unfold SB.bm at q;simp only[Nu,MO,List.mem_cons,List.mem_append,NU,Nn]at q;simp only[List.mem_cons,MR,Nk,NU];exact⟨q.1.2.2.2.2.1,q.1.2.2.2.2.2,q.1.1,q.1.2.1,q.1.2.2.1,q.1.2.2.2.1⟩
 have C: ∀b,b∈[B.ob,B.cac,B.cm,B.cmc]++aV B.p++aV B.fp->b∉[s]:=λb hb hm=>by
  simp only[LZ]at hm;subst hm;rcases Zq hb with hb|hb
  ·rcases Zq hb with hb|hb
   ·exact P.2.2 hb
   ·exact P.1 hb
  ·exact P.2.1 hb
 have W:=H.own;have hs:=P.1;refine F111.spec _ _ _ _ _ h K ?_;simp only[aL,LX];have c6:=HS.lt;refine pU λm mc h1 M1 O1 g1 g2=>aQ rfl ?_;rw[jy Z]at M1;have lm:m<h1.size:=M1.head.lt;have c9:mc<h1.size:=M1.body.lt;have c5:=M1.ne;refine uE (base:=0) M1 b7 ak (by simp;omega) λtb b6 T2 O2 g3=>⟨_,_,rfl,?_⟩;have lt:tb<b6.size:=At.lt T2;have A2:=(HS.only O1 ak).only O2 ak;have M2:=M1.only O2 ak ak;refine aU A2 (by simp[tW]) rfl λh3 A3 O3 z3=> ?_;have T3:=T2.only O3 (by simp;omega);have M3:=M2.only O3 (by simp;omega) (by simp;omega);refine fa (k:= .i64) λh4 Mp4 O4 z4=> ?_;have A4:=A3.only O4 ak;refine aU A4 (by simp[tW]) rfl λh5 A5 O5 z5=> ?_;have Mp5:=Mp4.only O5 (by simp;omega);refine fa (k:= .u32) λh6 Mq6 O6 z6=> ?_;have O16:aM [s] h h6:=((((((aM.refl [s] h).trans O1 ak).trans O2 ak).trans O3 (by intro b hb _;exact hb)).trans O4 ak).trans O5 (by intro b hb _;exact hb)).trans O6 ak
 replace A5:At h5 s (jz room (B.tabs tb m mc h3.size) N.length F.length off):=A5
 have A6:=A5.only O6 ak;have hp: ∀b,B.p=some (aw b)->b<h.size:=λb e=>(W.lt b (by rw[e];simp[aV])).2;have b4: ∀b,B.p=some (aw b)->b≠s:=λb e e2=>hs (by rw[e,e2];simp[aV])
 have a0: ∀(d i:Nat) (h':aI) (cs:List Int) (mm mo:List (Int×Value)) (ops fails:Int),i+d=N.length->At h' s (jz room (B.tabs tb m mc h3.size) N.length F.length off)->dO h' tb m 0 T->bH h' m mc cs ops fails->bV h' h3.size .i64 mm->mT T cs mm ((gN bl N).take i)->
   bV h' h5.size .u32 mo->uh mo bl->aM [s] h h'->F111.wL9 (d+1) (aw s) (some h5.size) B.p N.length B.c (N.length:Int) (i:Int) h' K:=by
  intro d
  induction d with
  |zero=>
   intro i h' cs mm mo ops fails hd A T' M Mp L Mq Om O;rw[F111.sL9];rw[L7 ah,aK];rw[Oy (by rw[sx];omega)]at L
   refine hK tb m mc h3.size h' ⟨A,H.O.only O (C _ ak),H.own.only O λb hb=>C _ (by simp[hb,aV]),H.fre.only O λb hb=>C _ (by simp[hb]),H.cac.only O (C _ ak) (C _ ak) (C _ ak),H.n8,H.len,H.sep⟩
    ⟨⟨T,⟨cs,mm,ops,fails,T',M,Mp,L⟩,Y,hT,Z⟩,?_,?_⟩ ⟨cs,mm,ops,fails,T',M,Mp,L⟩ ah g1 g2 ah O
   ·simp[SB.bt,SB.tabs];omega
   ·intro b hb hm;have:=H.lt HS.lt b hm;simp[SB.bt,SB.tabs]at hb;omega
  |succ d ih=>
   intro i h' cs mm mo ops fails hd A T' M Mp L Mq Om O;have hi:i<N.length:=ah;obtain⟨o,ho⟩: ∃o,N[i]? =some o:=⟨_,Mj hi⟩;have he:=xG (bl:=bl) ho;have W':cy h' 0 4 B.p N.length B.c (gR N):=W.only O λb hb=>C _ (by simp[hb,aV])
   obtain⟨b,eb,rr⟩: ∃b,B.p=some (aw b)/\ ∀k,k<4->rd h' ⟨b,i*4+k,none⟩=(dE o)[k]? :=by obtain⟨b,eb,r0⟩:=W'.rd (j:=i*4+0) (by rw[gA];omega);refine⟨b,eb,λk hk=> ?_⟩;obtain⟨b',D,b1⟩:=W'.rd (j:=i*4+k) (by rw[gA];omega);rw[eb]at D;injection D with D;injection D with D;subst D;rw[b1,pn N i o k ho hk]
   have hb:=hp b eb;have V:=b4 b eb
   have hw:IntKind.wrap .u32 (ax ((i:Int)+2))=((i+2:Nat):Int):=by rw[wrap_i64 ah ah,show(i:Int)+2=((i+2:Nat):Int) by omega];exact gK ah
   have nx: ∀(k7:aI) (cs':List Int) (G:List (Int×Value)) (u l:Int),At k7 s (jz room (B.tabs tb m mc h3.size) N.length F.length off)->dO k7 tb m 0 T->bH k7 m mc cs' u l->bV k7 h3.size .i64 G->mT T cs' G ((gN bl N).take (i+1))->bV k7 h5.size .u32 mo->aM [s] h k7->
     F111.wL9 (d+1) (aw s) (some h5.size) B.p N.length B.c (N.length:Int) (ax ((i:Int)+1)) k7 K:=λk7 cs' G u l A8 T8 M8 Mp8 L8 Mq8 O8=>by
    rw[show ax ((i:Int)+1)=((i+1:Nat):Int) by rw[wrap_i64 ah ah];omega];exact ih (i+1) k7 cs' G mo u l ah A8 T8 M8 Mp8 L8 Mq8 Om O8
   have skip:(if i+2∈bl then none else o)=none-> ∀k6,aM [] h' k6->F111.wL9 (d+1) (aw s) (some h5.size) B.p N.length B.c (N.length:Int) (ax ((i:Int)+1)) k6 K:=λe k6 P16=>by
    rw[e]at he;refine nx k6 cs mm ops fails (A.only P16 ak) (T'.only P16 ak) (M.only P16 ak ak) (Mp.only P16 ak) ?_ (Mq.only P16 ak) (O.trans P16 ak);refine L.congr (λk=> ?_) (by rw[iS he,ta];rfl);rw[iS he,vE];split
    ·next hh=>rw[o0 ah]
    ·rfl
   rw[F111.sL9];rw[Mg ah,aO,eb,aT];refine⟨ah,ah,?_⟩;rw[<-eb];simp only[aL,LX];rw[show Int.toNat (i:Int)*4=i*4 by omega,hw]
   obtain⟨tv,lv,av,bv,ec⟩: ∃tv lv av bv,dE o=[aD tv,ap lv,aq av,aq bv]:=by
    cases o with
    |none=>exact⟨_,_,_,_,rfl⟩
    |some x=>exact⟨_,_,_,_,rfl⟩
   rw[ec]at rr;refine a8 (by rw[rr 0 ah];rfl) (aH (by rw[rr 1 ah];rfl) (aH (by rw[rr 2 ah];rfl) (aH (by rw[rr 3 ah];rfl) ?_)));refine aW λk1 B1 P1 y1=> ?_;refine aU B1 ak rfl λk2 B2 P2 y2=>aU B2 ak rfl λk3 B3 P3 y3=>aU B3 ak rfl λk4 B4 P4 y4=>aU B4 ak rfl λk5 B5 P5 y5=> ?_
   replace B5:At k5 h'.size [aD tv,ap lv,aq av,aq bv]:=B5
   have P15:aM [] h' k5:=(((P1.trans P2 (by intro b hb hl;simp at hb;omega)).trans P3 (by intro b hb hl;simp at hb;omega)).trans P4 (by intro b hb hl;simp at hb;omega)).trans P5 (by intro b hb hl;simp at hb;omega)
   have tail: ∀(I:Option (Nat×Value)),(I.isSome=decide (i+2∈bl))->(kU (.agg #[]) I= .agg #[])->jX (some (kU (.agg #[]) I)) (λa6=>bg k5 (.cells #[] 218) (λa5 b5=>du Tryz.prog 218 (some (aw a5)) a6 b5 (λz=>bQ (rd z (aw h'.size)) (λa1=>aJ a1 (aJ (!(Option.isSome I)) (bQ (rd z (aw h'.size)) (λb0=>aS .i64 (rd z ⟨h'.size,1,none⟩) (λb2=>aS .u32 (rd z ⟨h'.size,2,none⟩) (λa3=>aS .u32 (rd z ⟨h'.size,3,none⟩) (λb8=>Cl 160 [(au (aw s)),(aq ((i+2:Nat):Int)),(.agg #[(aD b0),(ap b2),(aq a3),(aq b8)])] z (λa7 a4=>(a7=aE/\F111.wL9 (d+1) (aw s) (some h5.size) B.p N.length B.c (N.length:Int) (ax ((i:Int)+1)) a4 K))))))) (F111.wL9 (d+1) (aw s) (some h5.size) B.p N.length B.c (N.length:Int) (ax ((i:Int)+1)) z K)) (F111.wL9 (d+1) (aw s) (some h5.size) B.p N.length B.c (N.length:Int) (ax ((i:Int)+1)) z K))))):=by
    intro I e1 e2;rw[e2];refine⟨_,rfl,?_⟩;refine aW λk6 B6 P6 y6=> ?_;refine je ?_;have C6:=B5.only P6 ak;have P16:aM [] h' k6:=P15.trans P6 ak;have rc: ∀k,rd k6 ⟨h'.size,k,none⟩=([aD tv,ap lv,aq av,aq bv]:List Value)[k]? :=λk=>At.rd C6 k;refine a8 (by rw[rc 0];rfl) ?_;rw[e1];cases o with
    |none=>
     simp only[dE,Ng,Value.bool.injEq]at ec;rw[<-ec.1,aK];exact skip (by split<;>rfl) k6 P16
    |some x=>
     simp only[dE,Ng,Value.bool.injEq,Value.int.injEq,Ol,OU]at ec;obtain⟨c1,c2,c3,c4⟩:=ec;rw[<-c1,aO];by_cases hm:i+2∈bl
     ·rw[Mg hm,MF,aK];exact skip (L4 hm) k6 P16
     ·rw[L7 hm,MS,aO];refine a8 (by rw[rc 0];rfl) (aH (by rw[rc 1];rfl) (aH (by rw[rc 2];rfl) (aH (by rw[rc 3];rfl) ?_)));rw[<-c1,<-c2,<-c3,<-c4];rw[LY hm]at he;have hE:nd (gN bl N) i=some x:=dk.2 he
      have U:rC ((gN bl N).take i) (kf x):=λk y hy e=>by obtain⟨q1,q2⟩:=Dt hy;have:=wG (S k y q1) (S i x hE) e;subst this;have:=R _ _ _ q1 hE;omega
      have A7:=A.only P16 ak;have a2:bi ((gN bl N).take (i+1))=bi ((gN bl N).take i)+1:=by rw[iS he,ta];rfl
      have d0:bi ((gN bl N).take (i+1))<=bi (gN bl N):=(List.take_sublist _ _).countP_le
      refine vV A7 (t:=tb) (m:=m) (mc:=mc) (sb:=h3.size) (T:=T) (N':=(gN bl N).take (i+1)) rfl rfl (by simp;omega)
       (T'.only P16 ak) (M.only P16 ak ak) (Mp.only P16 ak) ah (by simp;omega) ah ah (by have:=(At.lt (T'.only P16 ak));omega) (by have:=((M.only P16 ak ak).head).lt;omega) (by have:=((M.only P16 ak ak).body).lt;omega)
       L (S i x hE) U ah (o0 (by rw[NI];omega)) (λk=> ?_) a2 λk7 cs' G u l A8 T8 M8 Mp8 L8 O8=>⟨rfl,?_⟩
      ·rw[iS he,vE,NI,sx,Nat.min_eq_left ah]
      ·have lq:h5.size<k6.size:=(Mq.only P16 ak).lt;exact nx k7 cs' G u l A8 T8 M8 Mp8 L8 ((Mq.only P16 ak).only O8 (by simp;omega)) ((O.trans P16 ak).trans O8 (by intro b hb hl;simp at hb ⊢;omega))
   refine dg (m:=mo) (Mq.only P15 ak) (λhn=> ?_) λj v hv=> ?_
   ·have:i+2∉bl:=λhm=>by
     rw[(Om (i+2)).1 hm]at hn;cases hn
    exact tail none (by rw[L7 this];rfl) rfl
   ·have:i+2∈bl:=Mi λhm=>by
     rw[(Om (i+2)).2 hm]at hv;cases hv
    rw[(Om (i+2)).1 this]at hv;injection hv with hv;subst hv;exact tail (some (j,.agg #[])) (by rw[Mg this];rfl) rfl
 have J: ∀(h':aI) (mo:List (Int×Value)),At h' s (jz room (B.tabs tb m mc h3.size) N.length F.length off)->dO h' tb m 0 T->bH h' m mc (List.replicate T 0) 0 0->bV h' h3.size .i64 []->
   bV h' h5.size .u32 mo->uh mo bl->aM [s] h h'->F111.wk8 (aw s) (some h5.size) h' K:=by
  intro h' mo A T' M Mp Mq Om O;unfold F111.wk8;simp only[aL,LX];refine bF (by rw[At.rd A];rfl) ?_;unfold F111.wk9;refine⟨_,a0 N.length 0 h' (List.replicate T 0) [] mo 0 0 ah A T' M Mp ?_ Mq Om O⟩
  have cz: ∀j,cell 0 (List.replicate T (0:Int)) j=0:=λj=>by unfold cell;rw[OY,Ov];split<;>rfl
  refine⟨ak,jV.empty λi _=>cz i,λj _=> .inl (cz j),by simp[nd],?_,by simp[nd]⟩;rw[Co T λi _=>cz i]
  rfl
 unfold F111.wk4
 have first: ∀(d i:Nat) (h':aI) (mo:List (Int×Value)),i+d=bl.length->At h' s (jz room (B.tabs tb m mc h3.size) N.length F.length off)->dO h' tb m 0 T->bH h' m mc (List.replicate T 0) 0 0->bV h' h3.size .i64 []->
   bV h' h5.size .u32 mo->uh mo (bl.take i)->aM [s] h h'->F111.wL4 (d+1) (aw s) (some h5.size) bp bl.length bc (bl.length:Int) (i:Int) h' K:=by
  intro d
  induction d with
  |zero=>
   intro i h' mo hd A T' M Mp Mq Om O;rw[F111.sL4];rw[L7 ah,aK];rw[Oy ah]at Om;exact J h' mo A T' M Mp Mq Om O
  |succ d ih=>
   intro i h' mo hd A T' M Mp Mq Om O;have hi:i<bl.length:=ah;obtain⟨a,ea,er⟩:=(b3.only' O λa e hm=>V a e (by simpa using hm)) i (by simpa using hi);have e3:(bl.map λ(k:Nat)=>(k:Int)).getD i 0=(bl[i]:Int):=by simp[List.getD,hi]
   rw[e3]at er;rw[F111.sL4];rw[Mg ah,aO,ea,aT];refine⟨ah,ah,?_⟩;rw[<-ea,MU,Md,er];refine aH rfl ?_;refine fk Mq λk3 Mq3 P3 y3=> ?_
   rw[show ax ((i:Int)+1)=((i+1:Nat):Int) by rw[wrap_i64 ah ah];omega]
   have lq:=Mq.lt;refine ih (i+1) k3 _ ah (A.only P3 (by simp;omega)) (T'.only P3 (by simp;omega)) (M.only P3 (by simp;omega) (by simp;omega)) (Mp.only P3 (by simp;omega)) Mq3 (λk=> ?_) (O.trans P3 (by intro b hb hl;simp at hb;omega));rw[cr,NM,Mj hi];simp only[Option.toList_some,List.mem_append,LZ];refine⟨λhk=> ?_,λhk=> ?_⟩
   ·by_cases e:k=bl[i]
    ·rw[L4 ah]
    ·rw[LY ah];exact(Om k).1 (hk.resolve_right e)
   ·rw[LY (λe=>hk (.inr ah))];exact(Om k).2 λhm=>hk (.inl hm)
 have Z6:uh [] (bl.take 0):=λk=>⟨λhm=>by simp at hm,λ_=>rfl⟩;exact⟨_,first bl.length 0 h6 [] ah A6 ((T3.only O4 ak).only O5 (by simp;omega)|>.only O6 ak) (((M3.only O4 ak ak).only O5 (by simp;omega) (by simp;omega)).only O6 ak ak) (Mp5.only O6 ak) Mq6 Z6 O16⟩
structure nM(h:aI)(s n room:Nat)(B:SB)(f g:Nat->Nat)(N:ay)(F:List Nat)(Q:Int->Int->Prop)(off:Bool):Prop where
 m:ie h s n room B f g N F Q off
 t:wB h s B N
 ok:cX n N
 cnt:N.length=bi N+F.length
 fre:F.Nodup/\ ∀a∈F,2<=a/\a-2<N.length/\nd N (a-2)=none
def cX.ndok{N:ay}(H:cX n N)(hn:n<=8)(hl:N.length<=32768)(hx:nd N i=some x):kE x:=by
 obtain⟨a,b,c,d,-⟩:=H.node i x hx
 have lt: ∀{y},isN N y->y<2^28:=λ{y} h=>by
  rcases h with h|⟨z,h⟩
  ·omega
  ·have:=ko h;omega
 exact⟨ah,lt b,lt c,d⟩
structure jZ(N N':ay)(q:Nat)(x:Nd):Prop where
 was:nd N q=none
 get: ∀k,nd N' k=if k=q then some x else nd N k
 cnt:bi N'=bi N+1
 len:N.length<=N'.length/\N'.length<=N.length+1
def jZ.isN(P:jZ N N' q x)(h:isN N a):isN N' a:=by
 rcases h with h|⟨y,h⟩
 ·exact .inl h
 ·refine .inr ?_;rw[P.get];split
  ·exact⟨_,rfl⟩
  ·exact⟨y,h⟩
def jZ.old(P:jZ N N' q x)(h:nd N i=some y):nd N' i=some y:=by
 rw[P.get,LY]
 ·exact h
 ·intro e;subst e;rw[P.was]at h;cases h
def jZ.lvl(P:jZ N N' q x)(h:Ev.isN N a):lvl n N' a=lvl n N a:=by
 unfold Ev.lvl;rcases h with h|⟨y,h⟩
 ·rw[L4 h,L4 h]
 ·rw[P.old h,h]
def jZ.ok(P:jZ N N' q x)(H:cX n N)(h1:x.1<n)(h2:Ev.isN N x.2.1)(h3:Ev.isN N x.2.2)(h4:x.2.1≠x.2.2)(h5:x.1<Ev.lvl n N x.2.1)(h6:x.1<Ev.lvl n N x.2.2)(h7: ∀i,nd N i≠some x):cX n N':=by
 refine⟨λi y hy=> ?_,λi j y hi hj=> ?_⟩
 ·rw[P.get]at hy;split at hy
  ·injection hy with hy;subst hy;exact⟨h1,P.isN h2,P.isN h3,h4,by rw[P.lvl h2];exact h5,by rw[P.lvl h3];exact h6⟩
  ·obtain⟨a,b,c,d,e,f⟩:=H.node i y hy;exact⟨a,P.isN b,P.isN c,d,by rw[P.lvl b];exact e,by rw[P.lvl c];exact f⟩
 ·rw[P.get]at hi hj;split at hi
  ·injection hi with hi;subst hi;split at hj
   ·omega
   ·exact Mw hj (h7 j)
  ·split at hj
   ·injection hj with hj;subst hj;exact Mw hi (h7 i)
   ·exact H.once i j y hi hj
def LV(room:Nat)(N E:ay)(l a b:Nat)(N':ay)(r e:Nat):Prop:=
 (a=b/\r=a/\e=0/\N'=N)\/(a≠b/\ ∃i,nd E i=some (l,a,b)/\r=i+2/\e=0/\N'=N)\/
 (a≠b/\(∀i,nd E i≠some (l,a,b))/\room<=bi N/\r=0/\e=60/\N'=N)\/
 (a≠b/\(∀i,nd E i≠some (l,a,b))/\bi N<room/\e=0/\ ∃q,r=q+2/\jZ N N' q (l,a,b))
def iC(room:Nat)(N:ay)(l a b:Nat)(N':ay)(r e:Nat):Prop:=
 (a=b/\r=a/\e=0/\N'=N)\/(a≠b/\ ∃i,nd N i=some (l,a,b)/\r=i+2/\e=0/\N'=N)\/
 (a≠b/\(∀i,nd N i≠some (l,a,b))/\room<=bi N/\r=0/\e=60/\N'=N)\/
 (a≠b/\(∀i,nd N i≠some (l,a,b))/\bi N<room/\e=0/\ ∃q,r=q+2/\jZ N N' q (l,a,b))
def nM.only{B:SB}(H:nM h s n room B f g N F Q off)(O:aM L h h')(h1: ∀b∈L,b∉B.bm s/\b∉B.bt):nM h' s n room B f g N F Q off:=
 ⟨H.m.only O λb hb=>(h1 b hb).1,H.t.only O λb hb=>(h1 b hb).2,H.ok,H.cnt,H.fre⟩
def se: ∀{A C:ay},(∀i,nd A i=nd C i)->bi A=bi C:=by
 have z: ∀{C:ay},(∀i,nd C i=none)->bi C=0:=by
  intro C
  induction C with
  |nil=>intro _;rfl
  |cons o C ih=>
   intro h;have h0:o=none:=by have:=h 0;simpa[nd]using this
   have:=ih λi=>by have:=h (i+1);simpa[nd]using this
   unfold bi at this ⊢;rw[Nl,this,h0]
   rfl
 intro A
 induction A with
 |nil=>intro C h;rw[z λi=>(by rw[<-h];rfl:nd C i=none)];rfl
 |cons o A ih=>
  intro C h;cases C with
  |nil=>rw[z λi=>(by rw[h];rfl:nd (o::A) i=none)];rfl
  |cons p C=>
   have h0:o=p:=by have:=h 0;simpa[nd]using this
   have:=ih (C:=C) λi=>by have:=h (i+1);simpa[nd]using this
   unfold bi at this ⊢;rw[Nl,Nl,this,h0]
def vK: ∀{A C:ay},(∀i x,nd A i=some x->nd C i=some x)->bi A<=bi C:=by
 intro A
 induction A with
 |nil=>intro C _;exact Nq _
 |cons o A ih=>
  intro C h;cases C with
  |nil=>
   have h0:o=none:=by
    cases o with
    |none=>rfl
    |some x=>have:=h 0 x (by simp[nd]);simp[nd]at this
   have:=ih (C:=[]) λi x hx=>(by have:=h (i+1) x (by simpa[nd]using hx);simp[nd]at this);unfold bi at this ⊢;rw[Nl,h0];simpa using this
  |cons p C=>
   have:=ih (C:=C) λi x hx=>by have:=h (i+1) x (by simpa[nd]using hx);simpa[nd]using this
   unfold bi at this ⊢;rw[Nl,Nl];cases o with
   |none=>simp;omega
   |some x=>
    have h0:p=some x:=by have:=h 0 x (by simp[nd]);simpa[nd]using this
    rw[h0];simp;omega
def xA(h0:nd A q=none)(h: ∀i,nd C i=if i=q then some x else nd A i):bi C=bi A+1:=by
 obtain⟨A',eA⟩: ∃A',A'=A++List.replicate (q+1) none:=⟨_,rfl⟩
 have nA: ∀i,nd A' i=nd A i:=λi=>by
  unfold nd;rw[eA];by_cases hi:i<A.length
  ·rw[Mo hi]
  ·rw[MK ah,Ov,Mt ah];split<;>rfl
 have lt:q<A'.length:=by rw[eA];simp;omega
 have e0:A'[q]? =some none:=by have:=nA q;rw[h0]at this;unfold nd at this;rw[Mj lt]at this ⊢;simpa using this
 rw[<-se nA,<-pY (x:=x) e0];exact se λi=>by rw[h,fq lt,nA]
def AX(A:ay)(q:Nat)(x:Nd):ay:=(A++List.replicate (q+1) none).set q (some x)
def lS(_:nd A q=none)(i:Nat):nd (AX A q x) i=if i=q then some x else nd A i:=by
 unfold AX;rw[fq (by simp;omega)];split
 ·rfl
 ·unfold nd;by_cases hi:i<A.length
  ·rw[Mo hi]
  ·rw[MK ah,Ov,Mt ah];split<;>rfl
def xo{h:aI}{s n room:Nat}{B:SB}{f g:Nat->Nat}{N:ay}{F:List Nat}{Q:Int->Int->Prop}{off:Bool}{K:KK}{E:ay}{T:Nat}(H:ie h s n room B f g N F Q off)(Tm:ic h B E T)(bn:B.bt.Nodup)(bs: ∀b∈B.bt,b∉B.bm s)(hc:N.length=bi N+F.length)(J:F.Nodup/\ ∀a∈F,2<=a/\a-2<N.length/\nd N (a-2)=none){l a b:Nat}(hx:kE (l,a,b))(G:rC E (kf (l,a,b)))
  (hr:bi N<room) (hE:bi E<T) (hT:T<=262144) (u: ∀q,nd N q=none->nd E q=none)
  (hK: ∀h' B' N' F' q,jZ N N' q (l,a,b)->ie h' s n room B' f g N' F' Q off->(∀E',(∀k,nd E' k=if k=q then some (l,a,b)else nd E k)->ic h' B' E' T)->B'.bt.Nodup->(∀b∈B'.bt,b∉B'.bm s)->N'.length=bi N'+F'.length->(F'.Nodup/\ ∀a∈F',2<=a/\a-2<N'.length/\nd N' (a-2)=none)->
   aM (B.bm s++B.bt) h h'->(∀y∈B'.bm s++B'.bt,y∈B.bm s++B.bt\/h.size<=y)->K (.tuple #[aq ((q+2:Nat):Int),ap 0]) h'):
  F161.wk17 (aw s) (l:Int) (a:Int) (b:Int) h K:=by
 have a4:=H.n8;have a2:=H.len;unfold F161.wk17;refine Bf H (λe=>by subst e;simp at hc;omega) λh1 p' c' N1 F1 a1 R H1 O1 hp=>aH rfl ?_
 have v: ∀b∈s::aV B.p,b∈B.bm s:=λb hb=>by
  rcases List.mem_cons.1 hb with e|hb
  ·subst e;simp[SB.bm]
  ·simp only[SB.bm,List.mem_append];exact .inl (.inr hb)
 have Tm1:ic h1 {B with p:=p',c:=c'} E T:=Tm.only O1 λb hb hm=>bs b hm (v b hb)
 have C: ∀b∈B.bt,b∉SB.bm {B with p:=p',c:=c'} s:=λb hb hm=>by
  rcases(SB.grow (c':=c') H.sep H.lt hp).2 b hm with h2|h2
  ·exact bs b hb h2
  ·have:=Tm.lt b hb;omega
 obtain⟨q,eq,hq,Y,U,d,a0,A⟩: ∃q,a1=q+2/\N1[q]? =some none/\(∀k,nd N1 k=nd N k)/\bi N1=bi N/\nd N q=none/\(N.length<=N1.length/\N1.length<=N.length+1)/\(N1.length=bi N+F1.length+1/\F1.Nodup/\a1∉F1/\ ∀a∈F1,2<=a/\a-2<N1.length/\nd N (a-2)=none):=by
  rcases R with⟨e1,e2,e3,e4⟩|⟨e1,e2⟩
  ·subst e1 e2 e3;refine⟨N.length,e4,ak,λk=> ?_,by rw[ta];rfl,o0 (Mb _),ak,by simp at hc;simp;omega,ak,ak,ak⟩;rw[vE];split
   ·next e=>rw[o0 ah]
   ·rfl
  ·subst e1 e2;obtain⟨g1,g2⟩:=J;obtain⟨f1,f2,f3⟩:=g2 a1 ak;refine⟨a1-2,ah,?_,λ_=>rfl,rfl,f3,ah,by simp at hc;omega,(ML.1 g1).1,λhm=>(ML.1 g1).2.2 a1 hm a1 ak rfl,λa ha=>g2 a (by simp[ha])⟩;obtain⟨o,ho⟩: ∃o,N1[a1-2]? =some o:=⟨_,Mj f2⟩;unfold nd at f3;rw[ho]at f3 ⊢;simp at f3;rw[f3]
 subst eq;have z:q<N1.length:=(Ml.1 hq).1;have a3:=H1.len
 have wq:IntKind.wrap .u32 (((q+2:Nat):Int)-2)=((q:Nat):Int):=by have:=qR (a:=q+2) ah ah;rw[this];simp
 simp only[aL,LX];have V:rd h1 ⟨s,2,none⟩=some (.slice p' N1.length c'):=by rw[At.rd H1.S];rfl
 obtain⟨b0,e1,-⟩:=H1.cells hq;have e1:p'=some (aw b0):=e1;refine bF V ?_;rw[e1,aT,wq];refine⟨ah,ah,?_⟩;rw[aL,show 0+Int.toNat (q:Int)*4=q*4 by omega];simp only[aL];have W1:=H1.own;rw[show SB.p {B with p:=p',c:=c'}=some (aw b0)from e1]at W1;have nl:(gR N1).length=N1.length*4:=gA N1;refine cy.set W1 ah rfl λh2 W2 O2=>cy.set W2 (by simp;omega) rfl λh3 W3 O3=>cy.set W3 (by simp;omega) rfl λh4 W4 O4=>cy.set W4 (by simp;omega) rfl λh5 W5 O5=> ?_;rw[mI N1 q (some (l,a,b)) _ _ _ _ z rfl]at W5;have O25:aM [b0] h1 h5:=((O2.trans O3 ak).trans O4 ak).trans O5 ak;have j:=H1.sep
 have nb: ∀y∈[s,B.ob,B.cac,B.cm,B.cmc]++aV B.fp,y∉[b0]:=λy hy hm=>by
  simp only[LZ]at hm;subst hm;unfold SB.bm at j;simp only[ML,List.mem_append,Pp]at j;obtain⟨⟨_,_,g2⟩,_,g4⟩:=j;have I:y∈aV p':=by rw[e1];simp[aV]
  rcases Zq hy with h|h
  ·exact g2 y h y I rfl
  ·exact g4 y (.inr I) y h rfl
 have H5:ie h5 s n room {B with p:=p',c:=c'} f g (N1.set q (some (l,a,b))) F1 Q off:=by have el:(N1.set q (some (l,a,b))).length=N1.length:=ak;refine⟨by rw[el];exact H1.S.only O25 (nb _ ak),H1.O.only O25 (nb _ ak),by rw[el,show SB.p {B with p:=p',c:=c'}=some (aw b0)from e1];exact W5,H1.fre.only O25 λy hy=>nb _ (by simp only[List.mem_append];exact .inr hy),H1.cac.only O25 (nb _ ak) (nb _ ak) (nb _ ak),H1.n8,by rw[el];exact H1.len,H1.sep⟩
 have Tm5:ic h5 {B with p:=p',c:=c'} E T:=Tm1.only O25 λy hy hm=>by simp only[LZ]at hy;subst hy;exact C y hm (by simp only[SB.bm,List.mem_append];exact .inl (.inr (by rw[e1];simp[aV])))
 have P:jZ N (N1.set q (some (l,a,b))) q (l,a,b):=by
  refine⟨d,λk=> ?_,?_,by simp;omega⟩
  ·rw[fq z,Y]
  ·rw[pY hq,U]
 have Z:rd h5 ⟨s,2,none⟩=some (.slice p' N1.length c'):=by
  have:=H5.S;rw[show(N1.set q (some (l,a,b))).length=N1.length by simp]at this;rw[At.rd this]
  rfl
 refine bF Z ?_;rw[e1,aT];refine⟨ah,ah,?_⟩;rw[aL,show 0+Int.toNat (q:Int)*4=q*4 by omega];simp only[aL];obtain⟨b5,e5,r5⟩:=H5.cells (i:=q) (o:=some (l,a,b)) (by rw[List.getElem?_set_self z])
 have:b5=b0:=by have e5:p'=some (aw b5):=e5;rw[e1]at e5;injection e5 with e5;injection e5 with e5;exact e5.symm
 subst this;refine a8 (by rw[r5 0 ah];rfl) (aH (by rw[r5 1 ah];rfl) (aH (by rw[r5 2 ah];rfl) (aH (by rw[r5 3 ah];rfl) ?_)));have bl:=Tm5.lt;obtain⟨cs,mm,ops,fails,t1,t2,t3,L⟩:=Tm5;have nn:=bn;simp only[SB.bt,MO,List.mem_cons,MR,Nk,NU,PA,OU,not_false_eq_true]at nn;have sp:s∉B.bt:=λhm=>bs s hm (by simp[SB.bm]);simp only[SB.bt,List.mem_cons,MR,Nk,NU]at sp;have S5:=H5.S;rw[show(N1.set q (some (l,a,b))).length=N1.length by simp]at S5
 refine vV S5 (t:=B.tb) (m:=B.m) (mc:=B.mc) (sb:=B.sb) (T:=T) rfl rfl (by simp;omega) t1 t2 t3 ah (by simp;omega) ah ah (bl _ (by simp[SB.bt])) (bl _ (by simp[SB.bt])) (bl _ (by simp[SB.bt]))
  (N':=AX E q (l,a,b)) L hx G ah (u q d) (lS (u q d)) (xA (u q d) (lS (u q d))) λh6 cs' W D x A6 T6 M6 Mp6 L6 O6=>⟨rfl,?_⟩
 have Hm6:=H5.only O6 λy hy hm=>C y (by simp[SB.bt]at hy ⊢;omega) hm;refine hK h6 {B with p:=p',c:=c'} _ F1 q P Hm6 (λE' M=>⟨cs',W,D,x,T6,M6,Mp6,L6.congr (λk=>by rw[M,lS (u q d)]) (se λk=>by rw[M,lS (u q d)])⟩) bn C (by simp only[No];rw[P.cnt];omega) ⟨A.2.1,λy hy=> ?_⟩ ?_ λy hy=> ?_
 ·obtain⟨z1,z2,z3⟩:=A.2.2.2 y hy;refine⟨z1,by simp only[No];exact z2,?_⟩;rw[P.get,LY]
  ·exact z3
  ·intro e;apply A.2.2.1;rw[show q+2=y by omega];exact hy
 ·refine((aM.mono O1 λy hy _=> ?_).trans O25 λy hy a5=> ?_).trans O6 λy hy _=> ?_
  ·simp only[List.mem_append];exact .inl (v y hy)
  ·simp only[LZ]at hy;subst hy;rcases hp y (by rw[e1];simp[aV])with h7|h7
   ·simp only[List.mem_append];exact .inl (v y (by simp[h7]))
   ·omega
  ·simp only[List.mem_append,SB.bt];simp at hy ⊢;omega
 ·rcases Zq hy with hy|hy
  ·rcases(SB.grow (c':=c') H.sep H.lt hp).2 y hy with h7|h7
   ·exact .inl (Zp (.inl h7))
   ·exact .inr h7
  ·exact .inl (Zp (.inr hy))
def Lo{h:aI}{s n room:Nat}{B:SB}{f g:Nat->Nat}{N:ay}{F:List Nat}{Q:Int->Int->Prop}{off:Bool}{K:KK}{U:List Nat}{T:Nat}(Hm:ie h s n room B f g N F Q off)(Tm:ic h B (gN U N) T)(bn:B.bt.Nodup)(bs: ∀b∈B.bt,b∉B.bm s)(t5: ∃k,T=32*2^k)(t7:T<=262144)(hc:N.length=bi N+F.length)(d:F.Nodup/\ ∀a∈F,2<=a/\a-2<N.length/\nd N (a-2)=none)
  (ok: ∀i x,nd (gN U N) i=some x->kE x) {l a b:Nat} (hl:l<n) (ha:isN N a) (hb:isN N b) (la:l<lvl n N a) (lb:l<lvl n N b) (hg:2*(bi N+1)<=T\/U=[]/\cX n N/\2*bi N<=T) (hU: ∀c∈U,2<=c/\nd N (c-2)≠none)
  (hK: ∀h' B' N' F' r e T',LV room N (gN U N) l a b N' r e->ie h' s n room B' f g N' F' Q off->ic h' B' (gN U N') T'->(2*(bi N+1)<=T->T'=T)->(U=[]->2*bi N<=T->2*bi N'<=T')->(∃k,T'=32*2^k)->T'<=262144->B'.bt.Nodup->(∀b∈B'.bt,b∉B'.bm s)->N'.length=bi N'+F'.length->(F'.Nodup/\ ∀a∈F',2<=a/\a-2<N'.length/\nd N' (a-2)=none)->
   aM (B.bm s++B.bt) h h'->(∀y∈B'.bm s++B'.bt,y∈B.bm s++B.bt\/h.size<=y)->K (.tuple #[aq (r:Int),ap (e:Int)]) h'):
  Cl 161 [au (aw s),ap (l:Int),aq (a:Int),aq (b:Int)] h K:=by
 have V:=Hm.n8;have J:=Hm.len
 have T32:32<=T:=by obtain⟨k,e⟩:=t5;have:=NX k;omega
 have el:bi (gN U N)<=bi N:=vK λi x hx=>by
  rw[gF]at hx;split at hx
  ·cases hx
  ·exact hx
 have O:=isN_lt Hm ha;have R:=isN_lt Hm hb;refine F161.spec ?_;rw[L7 ah,aK];refine vp Hm (aH rfl ?_);rw[L7 ah,aK];refine GC Hm ah (λ_=>a8 rfl ?_) λe=>Mw ha e;rw[MF,aK];refine GC Hm ah (λ_=>a8 rfl ?_) λe=>Mw hb e;rw[MF,aK];refine lG Hm ha (aH rfl ?_);rw[L7 ah,aK];refine lG Hm hb (aH rfl ?_);rw[L7 ah,aK];refine aR (λhe=> ?_) λhe=> ?_
 ·have he:a=b:=by
   have:(a:Int)=b:=by simpa using he
   omega
  exact hK h B N F a 0 T (.inl ⟨he,rfl,rfl,rfl⟩) Hm Tm (λ_=>rfl) (λ_=>id) t5 t7 bn bs hc d (aM.refl _ _) λy hy=> .inl hy
 have t:a≠b:=λe=>by subst e;simp at he
 unfold F161.wk9;have hx:kE (l,a,b):=⟨by show l<256;omega,by show a<2^28;omega,by show b<2^28;omega,t⟩;refine Ff hx.1 hx.2.1 hx.2.2.1 (aH rfl ?_)
 have A: ∀y∈[B.m,B.mc],y∈B.bm s++B.bt:=λy hy=>by simp only[List.mem_append,SB.bt];simp at hy ⊢;omega
 have G:tD l a b≠0:=by have:=tO hx;unfold kf at this;exact this
 refine IR (k:=tD l a b) Hm Tm bn bs ah t7 G (λh1 i x C I O1 T1=>⟨_,_,rfl,?_⟩) λh1 z O1 T1=>⟨_,_,rfl,?_⟩
 ·rw[aO];have:=wG (ok i x C) hx I;subst this;exact hK h1 B N F (i+2) 0 T (.inr (.inl ⟨t,i,C,rfl,rfl,rfl⟩)) (Hm.only O1 λy hy hm=>bs y (by simp[SB.bt]at hy ⊢;omega) hm) T1 (λ_=>rfl) (λ_=>id) t5 t7 bn bs hc d (O1.mono λy hy _=>A y hy) λy hy=> .inl hy
 ·have H1:ie h1 s n room B f g N F Q off:=Hm.only O1 λy hy hm=>bs y (by simp[SB.bt]at hy ⊢;omega) hm;have OO:aM (B.bm s++B.bt) h h1:=O1.mono λy hy _=>A y hy;have j: ∀i,nd (gN U N) i≠some (l,a,b):=λi hi=>z i _ hi rfl;have Y:=ov N;rw[aK];simp only[aL,LX,Ma];have r0:rd h1 (aw s)=some (ap (room:Int)):=by rw[At.rd H1.S];rfl
  have r4:rd h1 ⟨s,4,none⟩=some (au (aw B.tb)):=by rw[At.rd H1.S];rfl
  refine aH r0 (ud H1 hc (aH rfl ⟨trivial,trivial,trivial,aH r0 ⟨rfl,?_⟩⟩));refine aR (λhf=> ?_) λhf=> ?_
  ·have hf:=Mn hf;exact hK h1 B N F 0 60 T (.inr (.inr (.inl ⟨t,j,ah,rfl,rfl,rfl⟩))) H1 T1 (λ_=>rfl) (λ_=>id) t5 t7 bn bs hc d OO λy hy=> .inl hy
  have hf:=Me hf;have hr:bi N<room:=ah
  have v: ∀q,nd N q=none->nd (gN U N) q=none:=λq hq=>by
   rw[gF];split
   ·rfl
   ·exact hq
  have u: ∀{N' q},jZ N N' q (l,a,b)-> ∀k,nd (gN U N') k=if k=q then some (l,a,b)else nd (gN U N) k:=λ{N' q} P k=>by
   rw[gF,gF,P.get];by_cases e:k=q
   ·rw[L4 e,L4 e,LY];intro hm;have:=(hU _ hm).2;rw[show k+2-2=k by omega,e,P.was]at this;exact this rfl
   ·rw[LY e,LY e]
  obtain⟨cs,mm,o,f',t1,t2,t3,L⟩:=id T1;refine aQ r4 (ud H1 hc (aH rfl ⟨trivial,trivial,trivial,aQ r4 ⟨rfl,gq t1 (aH rfl ⟨by trivial,by trivial,?_⟩)⟩⟩));have w1:ax ((bi N:Int)+1)=((bi N+1:Nat):Int):=by rw[wrap_i64 ah ah];omega
  have w2:ax (2*((bi N+1:Nat):Int))=((2*(bi N+1):Nat):Int):=by rw[wrap_i64 ah ah];omega
  rw[w1,w2];refine aR (λhq=> ?_) λhq=> ?_
  ·have hq:=Mn hq;obtain⟨e0,H,t6⟩:=hg.resolve_left ah;subst e0;have w3:ax (2*(T:Int))=((2*T:Nat):Int):=by rw[wrap_i64 ah ah];omega
   refine aQ r4 (gq t1 (aH rfl ?_));rw[w3];have M:s<h1.size:=H1.S.lt
   refine oA (bl:=[]) H1.S H1.r (λi hi=>Mw hi ak) (λa e=>by cases e) ak ok (by rw[dP];exact H.once) (by obtain⟨k,e⟩:=t5;exact⟨k+1,by rw[e,NY];omega⟩) (by rw[dP];omega) ah
    λtb m mc sb h2 H2 T2 TX g1 g2 g3 g4 O2=>⟨rfl,?_⟩
   have D:s∈B.bm s:=by simp[SB.bm]
   refine xo H2 TX T2.nd T2.sep hc d hx z hr ah ah v λh3 B3 N3 F3 q P S3 T3 n3 s3 c3 f3 O3 fr=>hK h3 B3 N3 F3 (q+2) 0 (2*T) (.inr (.inr (.inr ⟨t,j,hr,rfl,q,rfl,P⟩))) S3 (T3 _ (u P)) (λw=>ah) (λ_ w=>by rw[P.cnt];omega) (by obtain⟨k,e⟩:=t5;exact⟨k+1,by rw[e,NY];omega⟩) ah n3 s3 c3 f3 ?_ λy hy=> ?_
   ·refine(OO.trans O2 λy hy _=> ?_).trans O3 λy hy W=> ?_
    ·simp only[LZ]at hy;subst hy;exact Zp (.inl D)
    ·rcases Zq hy with hy|hy
     ·exact Zp (.inl hy)
     ·have:=OO.size;simp[SB.bt,SB.tabs]at hy;omega
   ·rcases fr y hy with hy|hy
    ·rcases Zq hy with hy|hy
     ·exact .inl (Zp (.inl hy))
     ·have:=OO.size;simp[SB.bt,SB.tabs]at hy;exact .inr ah
    ·have:=OO.size;have:=O2.size;exact .inr ah
  ·have hq:=Me hq;refine xo H1 T1 bn bs hc d hx z hr ah t7 v λh3 B3 N3 F3 q P S3 T3 n3 s3 c3 f3 O3 fr=>hK h3 B3 N3 F3 (q+2) 0 T (.inr (.inr (.inr ⟨t,j,hr,rfl,q,rfl,P⟩))) S3 (T3 _ (u P)) (λ_=>rfl) (λ_ w=>by rw[P.cnt];omega) t5 t7 n3 s3 c3 f3 (OO.trans O3 λy hy _=>hy) λy hy=> ?_;rcases fr y hy with hy|hy
   ·exact .inl hy
   ·have:=OO.size;exact .inr ah
def KV{h:aI}{B:SB}(H:nM h s n room B f g N F Q off)(hl:l<n)(ha:isN N a)(hb:isN N b)(la:l<lvl n N a)(lb:l<lvl n N b)
  (hK: ∀h' B' N' F' r e,iC room N l a b N' r e->nM h' s n room B' f g N' F' Q off->aM (B.bm s++B.bt) h h'->(∀y∈B'.bm s++B'.bt,y∈B.bm s++B.bt\/h.size<=y)->K (.tuple #[aq (r:Int),ap (e:Int)]) h'):
  Cl 161 [au (aw s),ap (l:Int),aq (a:Int),aq (b:Int)] h K:=by
 obtain⟨T,t,t5,t6,t7⟩:=H.t.tab;have n8:=H.m.n8;have k:=H.m.len;have t':ic h B (gN [] N) T:=by rw[dP];exact t
 refine Lo (U:=[]) H.m t' H.t.nd H.t.sep t5 t7 H.cnt H.fre (by rw[dP];exact λi x hx=>H.ok.ndok n8.2 ah hx) hl ha hb la lb (.inr ⟨rfl,H.ok,t6⟩) (λc hc=>by cases hc) λh' B' N' F' r e T' R S1 T1 _ c6 k5 k7 n1 s1 c1 f1 O1 fr=> ?_;rw[dP]at R T1;have R:iC room N l a b N' r e:=R;refine hK h' B' N' F' r e R ⟨S1,⟨⟨T',T1,k5,c6 rfl t6,k7⟩,n1,s1⟩,?_,c1,f1⟩ O1 fr;rcases R with⟨-,-,-,e1⟩|⟨-,i,-,-,-,e1⟩|⟨-,-,-,-,-,e1⟩|⟨j,d,-,-,q,-,P⟩
 ·rw[e1];exact H.ok
 ·rw[e1];exact H.ok
 ·rw[e1];exact H.ok
 ·exact P.ok H.ok hl ha hb j la lb d
structure SX where
 n:Nat
 room:Nat
 f:Nat->Nat
 g:Nat->Nat
 N:ay
 Q:Int->Int->Prop
 off:Bool
def bT(h:aI)(s:Nat)(L:List Nat)(X:SX):Prop:= ∃B F,L=B.bm s++B.bt/\nM h s X.n X.room B X.f X.g X.N F X.Q X.off
def bC(L L':List Nat)(h:aI):Prop:= ∀b∈L',b∈L\/h.size<=b
def bC.refl(L:List Nat)(h:aI):bC L L h:=λ_ hb=> .inl hb
def bC.trans{h h':aI}(a:bC L L' h)(b:bC L' L'' h')(hz:h.size<=h'.size):bC L L'' h:=λx hx=>by
 rcases b x hx with h1|h1
 ·exact a x h1
 ·exact .inr ah
def aM.app(a:aM L h h')(b:aM L' h' c)(f:bC L L' h):aM L h c:=a.trans b λx hx hl=>by
 rcases f x hx with h1|h1
 ·exact h1
 ·omega
def bT.only{h h':aI}{s:Nat}{L S:List Nat}{X:SX}(H:bT h s L X)(O:aM S h h')(hS: ∀b∈S,b∉L):bT h' s L X:=by obtain⟨B,F,e,H⟩:=H;subst e;exact⟨B,F,rfl,H.only O λb hb=>⟨λhm=>hS b hb (Zp (.inl hm)),λhm=>hS b hb (Zp (.inr hm))⟩⟩
def bT.only0{h h':aI}{s:Nat}{L:List Nat}{X:SX}(H:bT h s L X)(O:aM [] h h'):bT h' s L X:=H.only O ak
def bT.lt{h:aI}{s:Nat}{L:List Nat}{X:SX}(H:bT h s L X): ∀b∈L,b<h.size:=λb hb=>by
 obtain⟨B,F,e,H⟩:=H;subst e;rcases Zq hb with h1|h1
 ·exact H.m.lt b h1
 ·exact H.t.lt b h1
def bT.ok{X:SX}(H:bT h s L X):cX X.n X.N/\1<=X.n/\X.n<=8/\X.N.length<=X.room/\X.room<=32768/\bi X.N<=X.N.length:=by obtain⟨B,F,e,H⟩:=H;exact⟨H.ok,H.m.n8.1,H.m.n8.2,H.m.len.1,H.m.len.2.1,ov _⟩
def bT.isN_lt{h:aI}{s:Nat}{L:List Nat}{X:SX}(H:bT h s L X){a:Nat}(ha:isN X.N a):a<32770:=by obtain⟨B,F,e,H⟩:=H;have:=Ev.isN_lt H.m ha;have:=H.m.len;omega
def dX{X:SX}(H:bT h s L X)(hK:K (ap (X.n:Int)) h):Cl 75 [au (aw s)] h K:=by obtain⟨B,F,e,H⟩:=H;exact vp H.m hK
def vA{h:aI}{s:Nat}{L:List Nat}{X:SX}{K:KK}(H:bT h s L X){a:Nat}(ha:a<4294967296)(h1:isN X.N a->K aC h)(h0: ¬isN X.N a->K aB h):Cl 74 [au (aw s),aq (a:Int)] h K:=by obtain⟨B,F,e,H⟩:=H;exact GC H.m ha h1 h0
def td{h:aI}{s:Nat}{L:List Nat}{X:SX}{K:KK}(H:bT h s L X){a:Nat}(ha:isN X.N a)(h1:K aC h):Cl 74 [au (aw s),aq (a:Int)] h K:=
 vA H (by have:=H.isN_lt ha;omega) (λ_=>h1) λe=>Mw ha e
def dv{X:SX}(H:bT h s L X)(ha:isN X.N a)(hK:K (ap (lvl X.n X.N a:Int)) h):Cl 71 [au (aw s),aq (a:Int)] h K:=by obtain⟨B,F,e,H⟩:=H;exact lG H.m ha hK
def iI{h:aI}{s:Nat}{L:List Nat}{X:SX}{K:KK}(H:bT h s L X){a:Nat}(ha:isN X.N a)(hK:K (aq (low X.N a:Int)) h):Cl 72 [au (aw s),aq (a:Int)] h K:=by obtain⟨B,F,e,H⟩:=H;exact Bn H.m ha hK
def fA{h:aI}{s:Nat}{L:List Nat}{X:SX}{K:KK}(H:bT h s L X){a:Nat}(ha:isN X.N a)(hK:K (aq (high X.N a:Int)) h):Cl 73 [au (aw s),aq (a:Int)] h K:=by obtain⟨B,F,e,H⟩:=H;exact vm H.m ha hK
def n0{h:aI}{s:Nat}{L:List Nat}{X:SX}{K:KK}(H:bT h s L X)(hK:K (ap (bi X.N:Int)) h):Cl 45 [au (aw s)] h K:=by obtain⟨B,F,e,H⟩:=H;exact ud H.m H.cnt hK
def sJ{X:SX}(H:bT h s L X)(hl:l<X.n)(ha:isN X.N a)(hb:isN X.N b)(la:l<lvl X.n X.N a)(lb:l<lvl X.n X.N b)
  (hK: ∀h' L' N' r e,iC X.room X.N l a b N' r e->bT h' s L' {X with N:=N'}->aM L h h'->bC L L' h->K (.tuple #[aq (r:Int),ap (e:Int)]) h'):
  Cl 161 [au (aw s),ap (l:Int),aq (a:Int),aq (b:Int)] h K:=by
 obtain⟨B,F,e,H⟩:=H;subst e;exact KV H hl ha hb la lb λh' B' N' F' r e R S O fr=>hK h' _ N' r e R ⟨B',F',rfl,S⟩ O fr
def zE{h:aI}(H:cL h b n f g)(hK: ∀c h',cL h' c n f g->h.size<=c->aM [] h h'->K (au (aw c)) h'):
  Cl 104 [au (aw b)] h K:=by
 refine F104.spec ?_;have r: ∀k,rd h ⟨b,k,none⟩=(ap (n:Int)::(L8 f++L8 g))[k]? :=λk=>At.rd H k;refine aH (by rw[aL,r];rfl) (aH (by rw[aL,r];rfl) (aH (by rw[aL,r];rfl) (aH (by rw[aL,r];rfl) (aH (by rw[aL,r];rfl) (aH (by rw[aL,r];rfl) (aH (by rw[aL,r];rfl) (aH (by rw[aL,r];rfl) (aH (by rw[aL,r];rfl) (aH (by rw[aL,r];rfl) (aH (by rw[aL,r];rfl) (aH (by rw[aL,r];rfl) (aH (by rw[aL,r];rfl) (aH (by rw[aL,r];rfl) (aH (by rw[aL,r];rfl) (aH (by rw[aL,r];rfl) (aH (by rw[aL,r];rfl) ?_))))))))))))))));refine aW λh0 A0 O0 z0=> ?_;show rH (aw h.size) 0 (ap (n:Int)::(L8 f++L8 g)) h0 λh'=>K (au (aw h.size)) h';refine jN (o:=0) _ 0 _ h0 A0 (by simp[L8]) (λv hv=> ?_) λh' A' O' z=>hK h.size h' ?_ (Mb _) (O0.trans O' (by intro x hx a;simp at hx;omega))
 ·simp only[List.mem_cons,List.mem_append,L8,Ms]at hv;rcases hv with e|⟨i,_,e⟩|⟨i,_,e⟩<;>subst e<;>rfl
 ·simp[fU]at A';exact A'
def sem(f:Nat->Nat)(N:ay):Nat->Nat->Nat->Bool
 |0,a,_=>a==1
 |d+1,a,x=>if a<2 then a==1 else if x.testBit (f (lvl 0 N a))then sem f N d (high N a) x else sem f N d (low N a) x
def sm(n:Nat)(f:Nat->Nat)(N:ay)(a x:Nat):Bool:=sem f N n a x
def Ep(h:2<=a):lvl n N a=lvl m N a:=by unfold lvl;rw[LY ah,LY ah]
def cX.at(H:cX n N)(ha:isN N a)(h2:2<=a):lvl n N a<n/\isN N (low N a)/\isN N (high N a)/\low N a≠high N a/\lvl n N a<lvl n N (low N a)/\lvl n N a<lvl n N (high N a):=by
 rcases ha with h|⟨x,h⟩
 ·omega
 ·have:=H.node _ x h;have e1:lvl n N a=x.1:=by unfold lvl;rw[LY ah,h]
  have e2:low N a=x.2.1:=by unfold low;rw[LY ah,h]
  have e3:high N a=x.2.2:=by unfold high;rw[LY ah,h]
  rw[e1,e2,e3];exact this
def lvl_le(H:cX n N)(ha:isN N a):lvl n N a<=n:=by
 by_cases h2:a<2
 ·unfold lvl;rw[L4 h2];exact Mb _
 ·have:=(H.at ha ah).1;omega
def uU(H:cX n N): ∀(d e:Nat) {a:Nat},isN N a->n-lvl n N a<=d->n-lvl n N a<=e->sem f N d a x=sem f N e a x:=by
 intro d
 induction d with
 |zero=>
  intro e a ha hd he
  have h2:a<2:=by apply Mi;intro hn;have:=(H.at ha ah).1;omega
  cases e with
  |zero=>rfl
  |succ e=>unfold sem;rw[L4 h2]
 |succ d ih=>
  intro e a ha hd he;cases e with
  |zero=>
   have h2:a<2:=by apply Mi;intro hn;have:=(H.at ha ah).1;omega
   unfold sem;rw[L4 h2]
  |succ e=>
   unfold sem;by_cases h2:a<2
   ·rw[L4 h2,L4 h2]
   ·rw[LY h2,LY h2];obtain⟨h3,h4,h5,-,h6,h7⟩:=H.at ha ah;split
    ·exact ih e h5 ah ah
    ·exact ih e h4 ah ah
def br(h:a<2):sm n f N a x=(a==1):=by
 unfold sm;cases n with
 |zero=>rfl
 |succ n=>unfold sem;rw[L4 h]
def cP{x:Nat}(H:cX n N)(ha:isN N a)(h2:2<=a):sm n f N a x=if x.testBit (f (lvl n N a))then sm n f N (high N a) x else sm n f N (low N a) x:=by
 obtain⟨h3,h4,h5,-,h6,h7⟩:=H.at ha h2;unfold sm;cases n with
 |zero=>omega
 |succ n=>
  conv=>lhs;unfold sem
  rw[LY ah,Ep (n:=0) (m:=n+1) h2,uU H n (n+1) h4 ah ah,uU H n (n+1) h5 ah ah]
def Ex(N N':ay):Prop:= ∀i x,nd N i=some x->nd N' i=some x
def Ex.refl(N:ay):Ex N N:=λ_ _ h=>h
def Ex.trans(h:Ex N N')(g:Ex N' N''):Ex N N'':=λi x e=>g i x (h i x e)
def jZ.ext(P:jZ N N' q x):Ex N N':=λ_ _ h=>P.old h
def Ex.isN(E:Ex N N')(h:Ev.isN N a):Ev.isN N' a:=h.imp id λ⟨x,h⟩=>⟨x,E _ x h⟩
def Ex.lvl(E:Ex N N')(h:Ev.isN N a):lvl n N' a=lvl n N a:=by
 unfold Ev.lvl;rcases h with h|⟨x,h⟩
 ·rw[L4 h,L4 h]
 ·rw[E _ x h,h]
def Ex.low(E:Ex N N')(h:Ev.isN N a):low N' a=low N a:=by
 unfold Ev.low;rcases h with h|⟨x,h⟩
 ·rw[L4 h,L4 h]
 ·rw[E _ x h,h]
def Ex.high(E:Ex N N')(h:Ev.isN N a):high N' a=high N a:=by
 unfold Ev.high;rcases h with h|⟨x,h⟩
 ·rw[L4 h,L4 h]
 ·rw[E _ x h,h]
def Ex.sem(H:cX n N)(E:Ex N N'): ∀(d:Nat) {a:Nat},Ev.isN N a->Ev.sem f N' d a x=Ev.sem f N d a x:=by
 intro d
 induction d with
 |zero=>intro a _;rfl
 |succ d ih=>
  intro a ha;unfold Ev.sem;by_cases h2:a<2
  ·rw[L4 h2,L4 h2]
  ·obtain⟨h3,h4,h5,-,h6,h7⟩:=H.at ha ah;rw[LY h2,LY h2,E.lvl ha,E.low ha,E.high ha,ih h4,ih h5]
def Ex.sm(H:cX n N)(E:Ex N N')(ha:Ev.isN N a):sm n f N' a x=sm n f N a x:=E.sem H n ha
def gh(H:cX n N)(H':cX n N')(ha:isN N a)(hb:isN N b)(la:l<lvl n N a)(R:iC room N l a b N' r 0):
  Ex N N'/\isN N' r/\l<=lvl n N' r/\ ∀x,sm n f N' r x=if x.testBit (f l)then sm n f N b x else sm n f N a x:=by
 rcases R with⟨h1,h2,-,h4⟩|⟨h1,i,h2,h3,-,h4⟩|⟨-,-,-,-,h,-⟩|⟨h1,-,-,-,q,h3,P⟩
 ·subst h1 h2 h4;exact⟨Ex.refl _,ha,ah,λx=>ak⟩
 ·subst h3 h4;have hr:isN N' (i+2):= .inr ⟨_,h2⟩;have e1:lvl n N' (i+2)=l:=by unfold lvl;rw[LY ah,show i+2-2=i by omega,h2]
  have e2:low N' (i+2)=a:=by unfold low;rw[LY ah,show i+2-2=i by omega,h2]
  have e3:high N' (i+2)=b:=by unfold high;rw[LY ah,show i+2-2=i by omega,h2]
  refine⟨Ex.refl _,hr,ah,λx=> ?_⟩;rw[cP H hr ah,e1,e2,e3]
 ·omega
 ·subst h3;have E:=P.ext;have hn:nd N' q=some (l,a,b):=by rw[P.get,L4 rfl]
  have hr:isN N' (q+2):= .inr ⟨_,hn⟩;have e1:lvl n N' (q+2)=l:=by unfold lvl;rw[LY ah,show q+2-2=q by omega,hn]
  have e2:low N' (q+2)=a:=by unfold low;rw[LY ah,show q+2-2=q by omega,hn]
  have e3:high N' (q+2)=b:=by unfold high;rw[LY ah,show q+2-2=q by omega,hn]
  refine⟨E,hr,ah,λx=> ?_⟩;rw[cP H' hr ah,e1,e2,e3,E.sm H ha,E.sm H hb]
def sG:nd (o::N) (i+1)=nd N i:=by simp[nd]
def gf(n m:Nat)(leaf:Nat->Nat->Bool)(c:Nat->Nat->Bool->Bool->Bool)(N:ay):Nat->Nat->Nat->Bool
 |0,a,x=>leaf a x
 |d+1,a,x=>if m<=lvl n N a then leaf a x else c (lvl n N a) x (gf n m leaf c N d (low N a) x) (gf n m leaf c N d (high N a) x)
def wU(H:cX n N)(hm:m<=n): ∀(d e:Nat) {a:Nat},isN N a->n-lvl n N a<=d->n-lvl n N a<=e->gf n m leaf c N d a x=gf n m leaf c N e a x:=by
 intro d
 induction d with
 |zero=>
  intro e a ha hd he;cases e with
  |zero=>rfl
  |succ e=>unfold gf;rw[L4 ah]
 |succ d ih=>
  intro e a ha hd he;cases e with
  |zero=>unfold gf;rw[L4 ah]
  |succ e=>
   unfold gf;by_cases h2:m<=lvl n N a
   ·rw[L4 h2,L4 h2]
   ·have a2:2<=a:=by
     apply Mi;intro hn;have:lvl n N a=n:=by unfold lvl;rw[L4 ah]
     omega
    obtain⟨h3,h4,h5,-,h6,h7⟩:=H.at ha a2;rw[LY h2,LY h2,ih e h4 ah ah,ih e h5 ah ah]
def Gy(H:cX n N)(E:Ex N N')(hm:m<=n)(hl: ∀b,isN N b->leaf' b x=leaf b x): ∀(d:Nat) {a:Nat},isN N a->gf n m leaf' c N' d a x=gf n m leaf c N d a x:=by
 intro d
 induction d with
 |zero=>intro a ha;exact hl a ha
 |succ d ih=>
  intro a ha;unfold gf;rw[E.lvl ha];by_cases h2:m<=lvl n N a
  ·rw[L4 h2,L4 h2];exact hl a ha
  ·have a2:2<=a:=by
    apply Mi;intro hn;have:lvl n N a=n:=by unfold lvl;rw[L4 ah]
    omega
   obtain⟨h3,h4,h5,-,h6,h7⟩:=H.at ha a2;rw[LY h2,LY h2,E.low ha,E.high ha,ih h4,ih h5]
def Kl(fo:Nat->Nat)(op mask:Nat)(l x:Nat)(p q:Bool):Bool:=if mask.testBit (fo l)then(if op=7 then p&&q else p||q)else if x.testBit (fo l)then q else p
def Ga(n:Nat)(fo:Nat->Nat)(op mask:Nat)(N:ay)(a x:Nat):Bool:=gf n n (λa _=>a==1) (Kl fo op mask) N n a x
def D7(H:cX n N)(hm:m<=n)(ha:isN N a)(h:m<=lvl n N a):gf n m leaf c N n a x=leaf a x:=by rw[wU H hm n (n+1) ha ah ah];unfold gf;rw[L4 h]
def DU(H:cX n N)(hm:m<=n)(ha:isN N a)(h:lvl n N a<m):gf n m leaf c N n a x=c (lvl n N a) x (gf n m leaf c N n (low N a) x) (gf n m leaf c N n (high N a) x):=by
 rw[wU H hm n (n+1) ha ah ah]
 conv=>lhs;unfold gf
 rw[LY ah]
def nV(H:cX n N)(E:Ex N N')(ha:isN N a):Ga n fo op mask N' a x=Ga n fo op mask N a x:=Gy H E (Mb _) (λb hb=>rfl) n ha
structure QR(n:Nat)(fo:Nat->Nat)(N:ay)(op mask a r:Nat):Prop where
 is:isN N r
 lv:lvl n N a<=lvl n N r
 sm: ∀x,sm n fo N r x=Ga n fo op mask N a x
def QR.ext(R:QR n fo N op mask a r)(H:cX n N)(E:Ex N N')(ha:isN N a):QR n fo N' op mask a r:=
 ⟨E.isN R.is,by rw[E.lvl ha,E.lvl R.is];exact R.lv,λx=>by rw[E.sm H R.is,R.sm,nV H E ha]⟩
def F182.T:bh:=⟨[(5,[14,15]),(6,[14])],[(3,[[(0,[]),(1,[]),(2,[]),(3,[]),(4,[]),(5,[]),(6,[]),(7,[]),(8,[]),(9,[0,1,2,3]),(10,[]),(11,[])]])]⟩
section
variable (n:Nat)(c:Addr)(d f g i j:Int)(a:az)(b:Value)(h:aI)(K:KK)
def F182.wL5:Prop:=Lp Tryz.f182 F182.T [1,1,1,0,1,0] n [(14,(aA a)),(15,b)] h K
def F182.wk6:Prop:=Cl 230 [aA a] h λa b=> ∃c:Int,∃d:Bool,a=(.tuple #[ar c,aD d])/\K (.tuple #[aq (IntKind.wrap .u32 c),aD d]) b
def F182.sL5:F182.wL5 (n+1) a b h K=(dS Tryz.prog X b [] h λc d=>bQ (some c) λc=>aJ (!c) (F182.wL5 n a b d K) (F182.wk6 a d K)):=by kernel_rfl
def F182.wk5:Prop:=(∃c,F182.wL5 c a b h K)
def F182.spec(H:bQ (rd h (c.add 7)) λa=>aJ a (K (.tuple #[aq 0,aB]) h) (aZ (rd h (c.add 6)) λa=>Cl 228 [.int .u8 d,.int .u8 f,aq g,aq i,aq j] h λb d=>aS .u64 (some b) λb=>aF (au c)/\aF (au c)/\aF (au (c.add 6))/\aZ (rd d (c.add 6)) λc=>aG (aA c) (aA a)/\Cl 227 [aA a,ar b] d λa b=>aZ (some a) λa=>F182.wk5 a (.func (.func 229) #[aA a] #[]) b K)):Cl 182 [au c,.int .u8 d,.int .u8 f,aq g,aq i,aq j] h K:=cT F182.T Tryz.func182 H
end
def F207.T:bh:=⟨[(3,[15])],[(1,[[(0,[]),(1,[]),(2,[]),(3,[]),(4,[]),(5,[]),(6,[]),(7,[]),(8,[]),(10,[]),(11,[]),(9,[0,1,2,3,10,11]),(12,[]),(13,[])]])]⟩
section
variable (n:Nat)(b:Addr)(d f g i j c:Int)(a:Value)(h:aI)(K:KK)
def F207.wL3:Prop:=Lp Tryz.f207 F207.T [1,1,1,0] n [(15,a)] h K
def F207.sL3:F207.wL3 (n+1) a h K=(dS Tryz.prog X a [] h λb c=>bQ (some b) λb=>aJ (!b) (F207.wL3 n a c K) (K aE c)):=by kernel_rfl
def F207.wk3:Prop:=(∃b,F207.wL3 b a h K)
def F207.spec(H:bQ (rd h (b.add 7)) λa=>aJ a (K aE h) (aZ (rd h (b.add 6)) λa=>Cl 228 [.int .u8 d,.int .u8 f,aq g,aq i,aq j] h λd e=>aS .u64 (some d) λd=>aF (au b)/\aF (au b)/\aF (au (b.add 6))/\aZ (rd e (b.add 6)) λb=>aG (aA b) (aA a)/\aF (aq c)/\aF (ar (IntKind.wrap .u64 c))/\Cl 252 [aA a,ar d,ar (IntKind.wrap .u64 c)] e λa b=>aZ (some a) λa=>F207.wk3 (.func (.func 229) #[aA a] #[]) b K)):Cl 207 [au b,.int .u8 d,.int .u8 f,aq g,aq i,aq j,aq c] h K:=cT F207.T Tryz.func207 H
end
def F228.spec(H:(0<=(56:Int)/\0<=(48:Int)/\0<=(32:Int)/\0<=(16:Int)/\K (ar (bu .or .u64 (bu .or .u64 (bu .or .u64 (bu .or .u64 (IntKind.wrap .u64 ((IntKind.wrap .u64 i)*2^(min (Int.toNat 56) (IntKind.bits .u64)))) (IntKind.wrap .u64 ((IntKind.wrap .u64 j)*2^(min (Int.toNat 48) (IntKind.bits .u64))))) (IntKind.wrap .u64 ((IntKind.wrap .u64 k)*2^(min (Int.toNat 32) (IntKind.bits .u64))))) (IntKind.wrap .u64 ((IntKind.wrap .u64 l)*2^(min (Int.toNat 16) (IntKind.bits .u64))))) (IntKind.wrap .u64 m))) h)):Cl 228 [.int .u8 i,.int .u8 j,aq k,aq l,aq m] h K:=cN Tryz.func228 H
def xL{h:aI}{n room:Nat}{Q:Int->Int->Prop}{K:KK}(h1:1<=n)(h8:n<=8)(r1:1<=room)(r2:room<=32768)
  (hK: ∀h' s L,bT h' s L ⟨n,room,fill n,fill n,[],Q,false⟩->aM [] h h'->(∀b∈L,h.size<=b)->K (.tuple #[au (aw s),ap 0]) h'):
  Cl 61 [ap (n:Int),ap (room:Int)] h K:=by
 refine F61.spec ?_;rw[L7 ah,aK,L7 ah,aK,L7 ah,aK,L7 ah,aK];unfold F61.wk5;simp only[aL,LX];refine CS h1 h8 λob k1 Or g1 O1=>aQ rfl ?_;have lo:ob<k1.size:=At.lt Or;refine aW λk2 A2 O2 z2=> ?_;refine oN (k:=256) ah ah (aH rfl ?_);rw[show(3*256:Int)=((768:Nat):Int)from rfl];refine pU λcm cmc k3 M3 O3 g2 g3=>aQ rfl ?_;rw[jy ah]at M3;have l1:=M3.head.lt;have l2:=M3.body.lt;refine uT (base:=0) (n:=256) M3 ah ah ak ak λcac k4 C4 O4 g4=>⟨_,_,rfl,?_⟩;have l3:=At.lt C4;have A4:=(A2.only O3 ak).only O4 ak;refine aU A4 ak rfl λk5 A5 O5 z5=> ?_;have hB: ∃B:SB,B=⟨ob,0,0,0,0,cac,cm,cmc,none,0,none,0⟩:=⟨_,rfl⟩;obtain⟨B,eB⟩:=hB
 have H5:HJ k5 k1.size n room B (fill n) (fill n) [] [] Q:=by
  subst eB;refine⟨(((Or.only O2 ak).only O3 ak).only O4 ak).only O5 (by simp;omega),cy.nil _ _ _,nE.nil _ _,⟨List.replicate 768 0,0,0,⟨C4.only O5 (by simp;omega),(M3.only O4 ak ak).only O5 (by simp;omega) (by simp;omega),by have:=M3.head.lt;show cac≠cm;omega,by show cac≠cmc;omega,by omega,by omega,by simp,by simp⟩,?_⟩,⟨h1,h8⟩,⟨ak,r2,ak⟩,?_⟩
  ·intro l hl
   have: ∀j,(List.replicate 768 (0:Int)).getD j 0=0:=λj=>by rw[OY,Ov];split<;>rfl
   rw[this];exact⟨ah,ah,ah,λe=>ah⟩
  ·have:=M3.ne;simp[SB.bm,aV];omega
 have:=oA (T:=32) (bp:=none) (bc:=0) (bl:=[]) (K:=λv h'=>(v=aE/\K (.tuple #[(au (aw k1.size)),(ap (0:Int))]) h')) (show At k5 k1.size (tW room B 0 0 false (.pointer none) (.map none)) by subst eB;exact A5) H5 (λi hi=>Mw hi ak) (λa e=>by cases e) ak (by rw[dP];simp[nd]) (by rw[dP];simp[nd]) ⟨0,rfl⟩ (by rw[dP];simp[bi]) ah λtb m mc sb k6 H6 T6 _ p1 p2 p3 p4 O6=>⟨rfl,?_⟩
 ·exact this
 rw[dP]at T6;have OO:aM [] h k6:=((((((O1.trans O2 ak).trans O3 ak).trans O4 ak).trans O5 (by intro b hb hl;simp at hb;have:=O1.size;omega)).trans O6 (by intro b hb hl;simp at hb;have:=O1.size;omega)));have z1:=O1.size;have z3:=O3.size;have z4:=O4.size;refine hK k6 k1.size _ ⟨_,[],rfl,H6,T6,⟨by simp[nd],by simp[nd]⟩,by simp[bi],ak⟩ OO λb hb=> ?_;subst eB;simp[SB.bm,SB.bt,SB.tabs,aV]at hb;omega
def eX{h:aI}{X:SX}(H:bT h s L X)(hK: ∀c h',cL h' c X.n X.f X.g->h.size<=c->aM [] h h'->K (au (aw c)) h'):Cl 47 [au (aw s)] h K:=by obtain⟨B,F,e,H⟩:=H;refine F47.spec ?_;simp only[aL,LX];refine aQ (by rw[At.rd H.m.S];rfl) ?_;exact zE H.m.O λc h' a b d=>aQ rfl (hK c h' a b d)
end Go.Proofs.YtnofenejoebkhaaGreat.Ev
