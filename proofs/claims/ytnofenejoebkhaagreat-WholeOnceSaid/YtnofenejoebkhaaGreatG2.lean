/- PART 2 OF WHAT THE LAW WholeOnce STANDS ON. Conditions: none but those that each lemma states. -/
import Derived.Test.YtnofenejoebkhaaGreatG1
import Derived.WalkKit
import Derived.ProofKit
import Derived.OpenShut
import Derived.Carry
import Derived.Deep.Slices
import Derived.Laws.AppendOwn
namespace Go.Proofs.YtnofenejoebkhaaGreat.Ev
open Go
set_option linter.defProp false
set_option maxRecDepth 100000
set_option autoImplicit true
set_option relaxedAutoImplicit true
section
open Go Go.ChangeShapes Go.WideShapes Go.ChangeAt Go.RowKit
def sN(h:aI)(v:Value)(h':aI):Prop:=v= .bool true/\aM [] h h'
def LW(w:World)(a:Addr):w.frozen? a=fz w.heap a:=by
 unfold World.frozen? fz
 rfl
def law_calls{args:List Value}{W:World}(H:ib P f args W.heap (sN W.heap)):
  Calls P f args.toArray W λe W'=>e= .returned (.bool true)/\Below W.heap.size W W'/\ ∀a,W'.frozen? a=W.frozen? a:=by
 refine(H W rfl).mono λe W' ⟨v,he,hs,hv,hO⟩=> ?_;subst hv;exact⟨he,⟨hs.1,hs.2.1,hs.2.2,hO.size,λk hk=>hO.same k hk ak⟩,λa=>by rw[LW,LW];exact hO.fzn a⟩
def kq{H:Type}{a:TypeId×Value->H}{P:Program}(hl:laidOutB P=true){W W':World}{sp:Nat->Bool}:
  ∀(ts:List TypeId) (vs:List Value) (ds:List (DataW H)) (ps:List MemPlace),ts.all (λt=>P.readableRec t&&decide (t<P.types.size))=true->
   DataW.TrodAll a P W 0 (λ_=>true) true ts vs ds ps->(∀p∈ps,W.sameAt W' p)->(∀p∈ps,sp p.block=true)->DataW.TrodAll a P W' 0 sp true ts vs ds ps
 | [],[],[],_,_,h,_,_=>h
 |t::ts,v::vs,d::ds,ps,hr,⟨p,q,hd,hds,e⟩,hsame,hsp=>by
  subst e;simp only[List.all_cons,Nm,Na]at hr
  exact⟨p,q,WideElems.Trod_stays hl hr.1.1 hr.1.2 hd (λx hx=>hsame x (Zp (.inl hx))) (λx hx=>hsp x (Zp (.inl hx))),
   kq hl ts vs ds q hr.2 hds (λx hx=>hsame x (Zp (.inr hx))) (λx hx=>hsp x (Zp (.inr hx))),rfl⟩
 | [],_::_,_,_,_,h,_,_=>h.elim
 | [],[],_::_,_,_,h,_,_=>h.elim
 |_::_,[],_,_,_,h,_,_=>h.elim
 |_::_,_::_,[],_,_,h,_,_=>h.elim
def post_law{H:Type}{k:TypeId×Value->H}{P:Program}{f:Func}{s:ChangeSpec}{e i c fk:Bool}{W W':World}{args:Array Value}{ds gs:List (DataW H)}{b:List MemPlace}{tb:TypeId}
  (hl:laidOutB P=true) (h:f.params.toList.all (λt=>P.readableRec t&&decide (t<P.types.size))=true)
  (g:f.resultTypes= #[tb]) (hb:P.underlying tb=some .bool) (d:s.vars=[])
  (hW:DataW.Whole k P f.params.toList s.vars e W args.toList ds gs b)
  (hs:s.fn H ds={results:=[.lit (.bool true)],args:=ds})
  (hB:Below W.heap.size W W') (l: ∀a,W'.frozen? a=W.frozen? a):s.post k P f e i c fk W args (.bool true) W':=by
 have m: ∀p∈b,p.block<W.heap.size:=λp hp=>hW.lt p hp;obtain⟨p,q,hA,hV,rfl,hz,hn⟩:=id hW;rw[d]at hV
 obtain⟨rfl,rfl⟩:gs=[]/\q=[]:=by
  cases gs with
  |nil=>exact⟨rfl,hV⟩
  |cons _ _=>exact hV.elim
 refine post_of_same (pa:=p) (pv:=[]) hW (λ_ _ _=> ?_) (λsp j=> ?_) (λsp j=> ?_) rfl (hB.frame _) l ?_
 ·rw[g,List.append_nil,hs];exact trodAll_cons_mk (shut_bool hb _) trodAll_mk0
 ·rw[List.append_nil,hs];exact kq hl _ _ _ _ h hA (λx hx=>hB.same (m x (Zp (.inl hx)))) (λx hx=>j x (Zp (.inl hx)))
 ·rw[List.append_nil,hs,d]
  rfl
 ·exact ok_one g rfl (okWide_bool_mk hb _)
def Ee(h:aI)(k:IntKind)(p:Option Addr)(zs:List Int):Prop:=
 ∀i,i<zs.length-> ∃a,p=some a/\rd h (a.add i)=some (.int k (zs.getD i 0))
def wf_range{k:IntKind}(h:(Lit.int k n).wf=true):k.min<=n/\n<=k.max:=by simpa[Lit.wf]using h
def Gz(h:aI)(p:Option Addr)(l N:Nat)(s:Nat->Nat->Value):Prop:=
 ∀i j,i<l->j<N-> ∃a,p=some a/\rd h (a.add (i*N+j))=some (s i j)
def xM{h:aI}(H:rd h a=some v)(O:aM S h h')(hS: ∀b∈S,h.size<=b):rd h' a=some v:=by
 rw[<-H]
 have hb:a.block<h.size:=by apply MS;intro hn;have:h[a.block]? =none:=Ox ah;simp[rd,this]at H
 unfold rd;rw[O.same _ hb λhm=>Nc (hS _ hm) ah]
def xw(a:Addr)(m n:Nat):(a.add m).add n=a.add (m+n):=by
 unfold Addr.add;by_cases hm:m=0
 ·subst hm;simp
 ·by_cases hn:n=0
  ·subst hn;simp
  ·rw[MG hm,MG hn,MG ah];simp[Nat.add_assoc]
def pick{α:Type}[Inhabited α]{l:Nat}{Q:Nat->α->Prop}(H: ∀i,i<l-> ∃n,Q i n): ∃f:Nat->α,∀i,i<l->Q i (f i):=
 ⟨λi=>if h:i<l then(H i h).choose else default,λi hi=>by simp only[dif_pos hi];exact(H i hi).choose_spec⟩
def open_ss{P:Program}{W:World}
  (ht:P.underlying t=some (.slice e)) (he:P.underlying e=some (.struct fs)) (hc:P.cellsOf e=N) (o:Value.okWide P W r b0 t v)
  (hd:DataW.Trod q P W base sp held t v d ps) (A: ∀b,sp b=true):
  ∃(p:Option Addr) (c l:Nat) (s:Nat->Nat->Value),v= .slice p l c/\Gz W.heap p l N s/\(l:Int)<=maxLen/\
   ∀i,i<l-> ∀(j:Nat) (f:Field),fs[j]? =some f->P.cellsOf f.type=1->f.offset<N->
    (∀k,P.underlying f.type=some (.int k)-> ∃n,s i f.offset= .int k n/\k.min<=n/\n<=k.max)/\(P.underlying f.type=some .bool-> ∃b,s i f.offset= .bool b):=by
 obtain⟨a,len,cap,rfl⟩:=okWide_slice ht o;obtain⟨G,hf⟩:=hd;rcases Go.Deep.open_slice ht hf with⟨g,-⟩|⟨a',F,I,m,n,D,Pl,g,-,J,L,hm,-,hi⟩
 ·simp only[Value.cells,NL,Qd]at g;injection g with e1 e2 e3;subst e1 e2 e3;exact⟨none,0,0,λ_ _=> .bool false,rfl,λi j hi=>Nc hi ah,by simp[maxLen],λi hi=>Nc hi ah⟩
 ·simp only[Value.cells,NL,Qd]at g;injection g with e1 e2 e3;subst e1 e2 e3;rw[MK (A _)]at hm;subst hm;rw[hc]at hi
  have key: ∀i,i<len-> ∃cs':List Value,cs'.length=N/\(∀j,j<N->rd W.heap (a'.add (i*N+j))=cs'[j]?)/\ ∃x,DataW.trod q P W base sp held n e cs'=some x:=by intro i hl;obtain⟨cs',h1,h2⟩:=hi i ah;obtain⟨_,u,B⟩:=World.cells?_some h1;exact⟨cs',u,λj hj=>by rw[<-xw];exact B j hj,_,h2⟩
  refine⟨some a',_,len,λi j=>(rd W.heap (a'.add (i*N+j))).getD (.bool false),rfl,λi j hl hj=>⟨a',rfl,?_⟩,ah,λi hl j f hj y ho=> ?_⟩
  ·obtain⟨cs',h1,h2,-⟩:=key i hl;simp only[h2 j hj];simp[h1,hj]
  ·obtain⟨cs',h1,h2,x,h3⟩:=key i hl;obtain⟨ys,n',-,-,-,M,C⟩:=DataW.trod_struct he h3;have K:j<fs.size:=(MR.1 hj).1;have h4:=C j f hj;rw[y,MT (by omega:j<ys.length)]at h4;simp only[h2 _ ho]
   have h:(cs'.drop f.offset).take 1=[cs'[f.offset]'ah]:=by
    rw[List.drop_eq_getElem_cons ah]
    rfl
   rw[h]at h4;simp only[MT (by omega:f.offset<cs'.length),Pm];refine⟨λk hk=> ?_,λhk=> ?_⟩
   ·obtain⟨z,h5,-,h6⟩:=DataW.trod_int hk h4;injection h5 with h5;exact⟨z,h5,wf_range h6⟩
   ·obtain⟨z,h5,-⟩:=DataW.trod_bool hk h4;injection h5 with h5;exact⟨z,h5⟩
def aM.nil{h:aI}(A:aM [] h h')(B:aM S h' a)(hS: ∀b∈S,h.size<=b):aM [] h a:=
 A.trans B λb hb hl=>Nc (hS b hb) ah
end
def jU: ∀(new:List Value) (i:Nat) (c:List Value) (h:aI),At h b c->o+i+new.length<=c.length->(∀v∈new,v.oneCell'=true)->
  (∀h',At h' b (c.take (o+i)++new++c.drop (o+i+new.length))->aM [b] h h'->h'.size=h.size->K h')->pE ⟨b,o,none⟩ i new h K:=by
 intro new
 induction new with
 |nil=>
  intro i c h A hi hv hK;unfold pE;exact hK h (by simpa using A) (aM.refl _ _) rfl
 |cons v vs ih=>
  intro i c h A hi hv hK;simp only[NJ]at hi;unfold pE;rw[aL];refine aU A ah (hv v ak) λh1 A1 O1 z1=>ih (i+1) _ h1 A1 (by simp;omega) (λx hx=>hv x (by simp[hx])) λh2 A2 O2 z2=>hK h2 ?_ (O1.trans O2 ak) (z2.trans z1)
  have e:(c.set (o+i) v).take (o+(i+1))=c.take (o+i)++[v]:=by rw[show o+(i+1)=(o+i)+1 by omega,List.take_set,Qy ah,Pi _ _ (by simp;omega)];simp[N7,Nat.min_eq_left (by omega:o+i<=c.length)]
  have e2:(c.set (o+i) v).drop (o+(i+1)+vs.length)=c.drop (o+i+(vs.length+1)):=by
   rw[List.drop_set_of_lt ah]
   congr 1
   omega
  rw[e,e2]at A2;simpa using A2
def cw(h:aI)(lo N:Nat)(p:Option Addr)(l c:Nat)(cs:List Value):Prop:=
 cs.length=l*N/\((p=none/\l=0/\c=0)\/ ∃(b:Nat) (sp:List Value),p=some ⟨b,0,none⟩/\lo<=b/\l<=c/\sp.length=(c-l)*N/\At h b (cs++sp))
def aV:Option Addr->List Nat
 |some a=> [a.block]
 |none=> []
def cw.nil(h:aI)(lo N:Nat):cw h lo N none 0 0 []:=⟨ak,Or.inl ⟨rfl,rfl,rfl⟩⟩
def cw.only(H:cw h lo N p l c cs)(O:aM S h h')(hS: ∀b,p=some ⟨b,0,none⟩->b∉S):cw h' lo N p l c cs:=by
 obtain⟨e,H⟩:=H;rcases H with H|⟨b,sp,h1,h2,h3,h4,h5⟩
 ·exact⟨e,Or.inl H⟩
 ·exact⟨e,Or.inr ⟨b,sp,h1,h2,h3,h4,h5.only O (hS b h1)⟩⟩
def cw.lt{h:aI}(H:cw h lo N p l c cs): ∀b∈aV p,lo<=b/\b<h.size:=by
 obtain⟨-,H⟩:=H;rcases H with⟨e,-⟩|⟨b,sp,h1,h2,-,-,h5⟩
 ·subst e;simp[aV]
 ·subst h1;intro x hx;simp[aV]at hx;subst hx;exact⟨h2,h5.lt⟩
def cw.rd{cs:List Value}(H:cw h lo N p l c cs)(hj:j<cs.length): ∃b,p=some ⟨b,0,none⟩/\rd h ⟨b,j,none⟩=cs[j]? :=by
 obtain⟨e,H⟩:=H;rcases H with⟨-,h0,-⟩|⟨b,sp,h1,h2,-,-,h5⟩
 ·subst h0;simp at e;simp[e]at hj
 ·exact⟨b,h1,by rw[h5.rd,MW hj]⟩
def fa(A:At h b c)(hn: ∀j v,new[j]? =some v->c[o+j]? =some v):oW h ⟨b,o,none⟩ new:=by intro j v hj;rw[aL,A.rd];exact hn j v hj
def fg(z:Array Value)(n:Nat):(Builtin.zeroCells z n).toList.length=n*z.size:=by simp[Builtin.zeroCells]
def fO{h:aI}{z:Array Value}{new:List Value}
  (H:cw h lo N p l c cs) (A:At h bx new) (d:new.length=N) (hz:z.size=N) (g:(l+1)*f<=140737488355328) (hv: ∀v∈new,v.oneCell'=true) (k:lo<=h.size)
  (hK: ∀p' c' h',cw h' lo N p' (l+1) c' (cs++new)->aM (aV p) h h'->(∀b∈aV p',b∈aV p\/h.size<=b)->K p' (l+1) c' h'):
  fC h e N f z p l c (some ⟨bx,0,none⟩) 1 K:=by
 obtain⟨a,H⟩:=H;refine⟨new,ah,fa A ak,λi=> ?_,λn=>⟨cs,a,?_,g,λcap hc=> ?_⟩⟩
 ·rcases H with⟨-,h0,h1⟩|⟨b,sp,rfl,h2,h3,h4,h5⟩
  ·omega
  ·show pE ((⟨b,0,none⟩:Addr).add (l*N)) 0 new h _;rw[aL,MF]
   have m:N<=sp.length:=by rw[h4];have:1*N<=(c-l)*N:=OH _ ah;omega
   refine jU new 0 _ h h5 (by simp;omega) hv λh' A' O' z'=>hK _ _ h' ⟨by simp[a,d,Ps],Or.inr ⟨b,sp.drop N,rfl,h2,i,?_,?_⟩⟩ O' λx hx=>Or.inl hx
   ·rw[List.length_drop,h4,show c-l=(c-(l+1))+1 by omega,Ps];omega
   ·rw[ML,<-a,Qh,d,PV,OS (by omega:cs.length<=cs.length+N)]at A';simpa using A'
 ·rcases H with⟨e,h0,-⟩|⟨b,sp,rfl,-,-,-,h5⟩
  ·subst e;exact h0
  ·exact fa h5 λj v hj=>by rw[MF,MW (MQ.1 hj).1];exact hj
 ·refine hK _ _ _ ⟨by simp[a,d,Ps],Or.inr ⟨h.size,(Builtin.zeroCells z (cap-(l+1))).toList,rfl,k,hc,by rw[fg,hz],?_⟩⟩ ((aM.push_cells h _ e).mono ak) λx hx=>Or.inr ?_
  ·have:=At.push h (cs.toArray++new.toArray++Builtin.zeroCells z (cap-(l+1))) e;simpa using this
  ·simp[aV]at hx;omega
def cw.set{cs:List Value}{v:Value}(H:cw h lo N (some ⟨b,0,none⟩) l c cs)(hj:j<cs.length)(hv:v.oneCell'=true)
  (hK: ∀h',cw h' lo N (some ⟨b,0,none⟩) l c (cs.set j v)->aM [b] h h'->K h'):aW h ⟨b,j,none⟩ v K:=by
 obtain⟨e,H⟩:=H;rcases H with⟨h1,-⟩|⟨b',sp,h1,h2,h3,h4,h5⟩
 ·cases h1
 ·injection h1 with h1;injection h1 with h1;subst h1;refine aU h5 (by simp;omega) hv λh' A O _=>hK h' ⟨by simp[e],Or.inr ⟨b,sp,rfl,h2,h3,h4,?_⟩⟩ O;rw[Pu _ _ hj]at A;exact A
def cX(L:Nat)(g:Nat->Value):List Value:=(List.range L).map g
def bZ(L:Nat)(g:Nat->Value):(cX L g).length=L:=by simp[cX]
def dk(hk:k<L):(cX L g)[k]? =some (g k):=by simp[cX,hk]
def il(L k:Nat)(g:Nat->Value)(v:Value):(cX L g).set k v=cX L λj=>if j=k then v else g j:=by
 apply Ns;intro i;by_cases hi:i<L
 ·rw[dk hi,Nl];by_cases h:k=i
  ·subst h;rw[MK rfl,MK (by rw[bZ];exact hi),MK rfl]
  ·rw[MG h,dk hi,MG (Ne.symm h)]
 ·rw[Nb (by simp[bZ];omega),Nb (by simp[bZ];omega)]
def jT(L:Nat)(g:Nat->Value):cX (L+1) g=cX L g++[g L]:=by simp[cX,OD]
def fq(h: ∀k,k<L->g k=g' k):cX L g=cX L g':=NG λk hk=>h k (NA.1 hk)
def F87.T:bi:=⟨[],[(1,[[(0,[]),(1,[]),(2,[]),(3,[]),(4,[]),(5,[]),(6,[]),(7,[]),(8,[]),(9,[]),(10,[]),(11,[]),(12,[]),(13,[]),(14,[]),(15,[])]])]⟩
def F87.spec(b:Addr)(a:Int)(c:Bool)(h:aI)(K:KK)(H:aK c (((64:Int)≠0/\(64:Int)≠0/\0<=(IntKind.wrap .u8 (Int.tdiv a 64))/\(IntKind.wrap .u8 (Int.tdiv a 64))<4/\aQ .u64 (rd h (b.add ((IntKind.wrap .u8 (Int.tdiv a 64)).toNat*1))) λc=>(64:Int)≠0/\0<=(Int.tmod a 64)/\0<=(IntKind.wrap .u8 (Int.tdiv a 64))/\(IntKind.wrap .u8 (Int.tdiv a 64))<4/\aW h ((b.add ((IntKind.wrap .u8 (Int.tdiv a 64)).toNat*1)).add 0) (ar (bo .or .u64 c (IntKind.wrap .u64 ((1:Int)*2^(min ((Int.tmod a 64).toNat) (IntKind.bits .u64)))))) λa=>K aE a)) (K aE h)):Cl 87 [au b,.int .u8 a,aD c] h K:=cT F87.T Tryz.func87 H
def F33.T:bi:=⟨[(3,[0,2,3,4])],[]⟩
section
variable (n:Nat)(c:Int)(a b:Addr)(d:Int)(h:aI)(K:KK)
def F33.wL3:Prop:=Lp Tryz.f33 F33.T [1,1,0,1,0] n [(0,(ap c)),(2,(au a)),(3,(au b)),(4,(ap d))] h K
def F33.sL3:F33.wL3 (n+1) c a b d h K=(aK (d<256) (aK (c>=0) (aK (c<8) ((0<=(IntKind.wrap .u64 c)/\Cl 87 [au b,.int .u8 (IntKind.wrap .u8 d),aD ((bo .and .i64 (Int.fdiv d (2^(min ((IntKind.wrap .u64 c).toNat) (IntKind.bits .i64)))) 1)==1)] h λe f=>e=aE/\F33.wL3 n c a b (ax (d+1)) f K)) (aQ .u64 (rd h (b.add 0)) λc=>aQ .u64 (rd h (b.add 1)) λd=>aQ .u64 (rd h (b.add 2)) λe=>aQ .u64 (rd h (b.add 3)) λb=>aW h (a.add 0) (ar c) λc=>aW c (a.add 1) (ar d) λc=>aW c (a.add 2) (ar e) λc=>aW c (a.add 3) (ar b) λb=>aQ .u64 (rd b (a.add 0)) λc=>aQ .u64 (rd b (a.add 1)) λd=>aQ .u64 (rd b (a.add 2)) λe=>aQ .u64 (rd b (a.add 3)) λa=>K (.agg #[ar c,ar d,ar e,ar a]) b)) (aQ .u64 (rd h (b.add 0)) λc=>aQ .u64 (rd h (b.add 1)) λd=>aQ .u64 (rd h (b.add 2)) λe=>aQ .u64 (rd h (b.add 3)) λb=>aW h (a.add 0) (ar c) λc=>aW c (a.add 1) (ar d) λc=>aW c (a.add 2) (ar e) λc=>aW c (a.add 3) (ar b) λb=>aQ .u64 (rd b (a.add 0)) λc=>aQ .u64 (rd b (a.add 1)) λd=>aQ .u64 (rd b (a.add 2)) λe=>aQ .u64 (rd b (a.add 3)) λa=>K (.agg #[ar c,ar d,ar e,ar a]) b)) (aQ .u64 (rd h (b.add 0)) λc=>aQ .u64 (rd h (b.add 1)) λd=>aQ .u64 (rd h (b.add 2)) λe=>aQ .u64 (rd h (b.add 3)) λb=>aW h (a.add 0) (ar c) λc=>aW c (a.add 1) (ar d) λc=>aW c (a.add 2) (ar e) λc=>aW c (a.add 3) (ar b) λb=>aQ .u64 (rd b (a.add 0)) λc=>aQ .u64 (rd b (a.add 1)) λd=>aQ .u64 (rd b (a.add 2)) λe=>aQ .u64 (rd b (a.add 3)) λa=>K (.agg #[ar c,ar d,ar e,ar a]) b)):=by kernel_rfl
def F33.wk3:Prop:=(∃e,F33.wL3 e c a b d h K)
def F33.spec(H:bf h (.cells #[ar 0,ar 0,ar 0,ar 0] 51) λa b=>bf b (.cells #[ar 0,ar 0,ar 0,ar 0] 51) λb d=>aW d ((aw b).add 0) (ar 0) λd=>aW d ((aw b).add 1) (ar 0) λd=>aW d ((aw b).add 2) (ar 0) λd=>aW d ((aw b).add 3) (ar 0) λd=>F33.wk3 c (aw a) (aw b) 0 d K):Cl 33 [ap c] h K:=cT F33.T Tryz.func33 H
end
def F146.T:bi:=⟨[(2,[2,3,4,5])],[(4,[[(0,[]),(1,[]),(2,[]),(3,[]),(4,[]),(5,[]),(6,[]),(7,[]),(8,[]),(9,[])]])]⟩
section
variable (n:Nat)(d f g i j l o q:Int)(c r b:Addr)(a:Int)(h:aI)(K:KK)
def F146.wL2:Prop:=Lp Tryz.f146 F146.T [1,0,1,0] n [(2,(au c)),(3,(au r)),(4,(au b)),(5,(ap a))] h K
def F146.sL2:F146.wL2 (n+1) c r b a h K=(aK (a<4) ((0<=a/\a<4/\aQ .u64 (rd h (c.add (a.toNat*1))) λd=>0<=a/\a<4/\aQ .u64 (rd h (r.add (a.toNat*1))) λe=>0<=a/\a<4/\aW h ((c.add (a.toNat*1)).add 0) (ar (bo .or .u64 d e)) λd=>F146.wL2 n c r b (ax (a+1)) d K)) (aQ .u64 (rd h (c.add 0)) λa=>aQ .u64 (rd h (c.add 1)) λd=>aQ .u64 (rd h (c.add 2)) λe=>aQ .u64 (rd h (c.add 3)) λc=>aW h (b.add 0) (ar a) λa=>aW a (b.add 1) (ar d) λa=>aW a (b.add 2) (ar e) λa=>aW a (b.add 3) (ar c) λa=>aQ .u64 (rd a (b.add 0)) λc=>aQ .u64 (rd a (b.add 1)) λd=>aQ .u64 (rd a (b.add 2)) λe=>aQ .u64 (rd a (b.add 3)) λb=>K (.agg #[ar c,ar d,ar e,ar b]) a)):=by kernel_rfl
def F146.wk2:Prop:=(∃d,F146.wL2 d c r b a h K)
def F146.spec(H:bf h (.cells #[ar d,ar f,ar g,ar i] 51) λa b=>bf b (.cells #[ar j,ar l,ar o,ar q] 51) λb c=>bf c (.cells #[ar 0,ar 0,ar 0,ar 0] 51) λc d=>F146.wk2 (aw a) (aw b) (aw c) 0 d K):Cl 146 [.agg #[ar d,ar f,ar g,ar i],.agg #[ar j,ar l,ar o,ar q]] h K:=cT F146.T Tryz.func146 H
end
def fV:Nat:=18446744073709551616
def lx:fV=2^64:=by decide
def jR(ha:a<fV):(BitVec.ofInt 64 (a:Int)).toNat=a:=by unfold fV at ha;rw[BitVec.toNat_ofInt];omega
def jk{a:Nat}(ha:a<fV):IntKind.wrap .u64 (a:Int)=a:=bY ah (by unfold fV at ha;omega)
def Fc{a b:Nat}(ha:a<fV)(hb:b<fV):bo .or .u64 (a:Int) (b:Int)=((a|||b:Nat):Int):=by unfold bo;show IntKind.wrap .u64 ((BitVec.ofInt 64 (a:Int)|||BitVec.ofInt 64 (b:Int)).toNat:Int)=_;rw[BitVec.toNat_or,jR ha,jR hb];exact jk (by rw[lx]at*;exact Pd ha hb)
def Lu(ha:a<fV)(hb:b<fV):bo .and .u64 (a:Int) (b:Int)=((a&&&b:Nat):Int):=by unfold bo;show IntKind.wrap .u64 ((BitVec.ofInt 64 (a:Int)&&&BitVec.ofInt 64 (b:Int)).toNat:Int)=_;rw[BitVec.toNat_and,jR ha,jR hb];exact jk (by rw[lx]at*;exact Nat.and_lt_two_pow _ hb)
def fb(g:Nat->Nat)(x:Nat):Bool:=(g (x/64)).testBit (x%64)
def ko(g:Nat->Nat):Prop:= ∀i,i<4->g i<fV
def df(g:Nat->Nat):List Value:=cX 4 λi=>ar (g i:Int)
def sZ(g:Nat->Nat)(x:Nat)(v:Bool):Nat->Nat:=λi=>if v=true/\i=x/64 then g i|||2^(x%64)else g i
def vM(k:Nat)(hk:k<64):2^k<fV:=by rw[lx];exact Pq ah hk
def DX(hg:ko g):ko (sZ g x v):=λi hi=>by
 unfold sZ;split
 ·have a:=hg i hi;have b:=vM (x%64) (PG _ ah);rw[lx]at*
  exact Pd a b
 ·exact hg i hi
def E4(g:Nat->Nat)(x:Nat)(v:Bool)(y:Nat):fb (sZ g x v) y=(fb g y||(v&&decide (y=x))):=by
 unfold fb sZ;cases v
 ·simp
 ·by_cases h:y/64=x/64
  ·rw[MK ⟨rfl,h⟩,PF,Qq]
   congr 1
   by_cases e:y=x
   ·subst e;simp
   ·simp only[PT,MJ e,MX];omega
  ·rw[MG (λhh=>h hh.2)];have:y≠x:=λe=>h (by rw[e]);simp[this]
def GV{x:Nat}(hx:x<256):IntKind.wrap .u8 (Int.tdiv (x:Int) 64)=((x/64:Nat):Int):=by rw[N9 ah];simp[IntKind.wrap,IntKind.bits,IntKind.signed];omega
def Gc(x:Nat):Int.tmod (x:Int) 64=((x%64:Nat):Int):=by
 rw[NH ah]
 rfl
def Iy{k:Nat}(hk:k<64):min (Int.toNat (k:Int)) (IntKind.bits .u64)=k:=by rw[MO];show min k 64=k;omega
def fF(A:At h b (df g))(hi:i<4):rd h ⟨b,i,none⟩=some (ar (g i:Int)):=by rw[A.rd];exact dk hi
def iY(A:At h b (df g))(hi:i<4)(hK: ∀h',At h' b (df λj=>if j=i then v else g j)->aM [b] h h'->K h'):aW h ⟨b,i,none⟩ (ar (v:Int)) K:=
 aU A (by unfold df;rw[bZ];exact hi) rfl λh' A' O' _=>hK h' (by
  unfold df at A' ⊢;rw[il]at A';have e:(cX 4 λj=>if j=i then ar (v:Int)else ar (g j:Int))=cX 4 λj=>ar ((if j=i then v else g j:Nat):Int):=fq λj _=>by split<;>rfl
  rw[e]at A';exact A') O'
def Kk{h:aI}{b x:Nat}{g:Nat->Nat}{v:Bool}{K:KK}(A:At h b (df g))(hg:ko g)(hx:x<256)(hK: ∀h',At h' b (df (sZ g x v))->aM [b] h h'->K aE h'):
  Cl 87 [au (aw b),.int .u8 (x:Int),aD v] h K:=by
 refine F87.spec _ _ _ h K ?_;refine aS (λhv=> ?_) λhv=> ?_
 ·subst hv;have q:x/64<4:=ah;rw[GV hx,Gc];refine⟨by decide,by decide,ah,ah,?_⟩;rw[aL,MO,MF,Nz,fF A q,bh,Iy ah];refine⟨by decide,ah,ah,ah,?_⟩;rw[aL,ML,show(1:Int)*2^(x%64)=((2^(x%64):Nat):Int) by simp,jk (vM _ ah),Fc (hg _ q) (vM _ ah)];refine iY A q λh' A' O'=>hK h' ?_ O'
  have e:(λj=>if j=x/64 then g (x/64)|||2^(x%64)else g j)=sZ g x true:=by
   funext j;unfold sZ;by_cases hj:j=x/64
   ·subst hj;simp
   ·rw[MG hj,MG (λh=>hj h.2)]
  rw[e]at A';exact A'
 ·subst hv;refine hK h ?_ (aM.refl _ _)
  have e:sZ g x false=g:=by funext j;unfold sZ;rw[MG (λh=>by cases h.1)]
  rw[e];exact A
def t8{x:Nat}(h:x<256):IntKind.wrap .u8 (x:Int)=x:=by simp[IntKind.wrap,IntKind.bits,IntKind.signed];omega
def i5(g:Nat->Nat):Value:= .agg #[ar (g 0:Int),ar (g 1:Int),ar (g 2:Int),ar (g 3:Int)]
def rt{h:aI}{b c:Nat}{g g0:Nat->Nat}{K:KK}(A:At h b (df g))(C:At h c (df g0))(k:b≠c)(hK: ∀h',aM [c] h h'->K (i5 g) h'):
  aQ .u64 (rd h (Addr.add (aw b) 0)) (λn4=>aQ .u64 (rd h (Addr.add (aw b) 1)) (λn5=>aQ .u64 (rd h (Addr.add (aw b) 2)) (λn6=>aQ .u64 (rd h (Addr.add (aw b) 3)) (λn7=>aW h (Addr.add (aw c) 0) (ar n4) (λh8=>aW h8 (Addr.add (aw c) 1) (ar n5) (λh9=>aW h9 (Addr.add (aw c) 2) (ar n6) (λi=>aW i (Addr.add (aw c) 3) (ar n7) (λa=>aQ .u64 (rd a (Addr.add (aw c) 0)) (λj=>aQ .u64 (rd a (Addr.add (aw c) 1)) (λe=>aQ .u64 (rd a (Addr.add (aw c) 2)) (λd=>aQ .u64 (rd a (Addr.add (aw c) 3)) (λf=>K (.agg #[(ar j),(ar e),(ar d),(ar f)]) a)))))))))))):=by
 simp only[aL,MF];rw[fF A (by decide:0<4),bh,fF A (by decide:1<4),bh,fF A (by decide:2<4),bh,fF A (by decide:3<4),bh];refine iY C (by decide) λh1 C1 O1=>iY C1 (by decide) λh2 C2 O2=>iY C2 (by decide) λh3 C3 O3=>iY C3 (by decide) λh4 C4 O4=> ?_;rw[fF C4 (by decide:0<4),bh,fF C4 (by decide:1<4),bh,fF C4 (by decide:2<4),bh,fF C4 (by decide:3<4),bh];exact hK h4 (((O1.trans O2 ak).trans O3 ak).trans O4 ak)
def w7(y:Nat):fb (λ_=>0) y=false:=by simp[fb]
def nD{a b:Nat}(ha:a<fV)(hb:b<fV):a|||b<fV:=by
 rw[lx]at*
 exact Pd ha hb
def oC(f g:Nat->Nat)(i:Nat):Nat->Nat:=λj=>if j<i then f j|||g j else f j
def Er(hf:ko f)(hg:ko g)(i:Nat):ko (oC f g i):=λj hj=>by
 unfold oC;split
 ·exact nD (hf j hj) (hg j hj)
 ·exact hf j hj
def Dr(f g:Nat->Nat)(hy:y<256):fb (oC f g 4) y=(fb f y||fb g y):=by unfold fb oC;rw[MK ah,PF]
def LI(hf:ko f)(hg:ko g)(hK: ∀h' k,ko k->(∀y,y<256->fb k y=(fb f y||fb g y))->aM [] h h'->K (i5 k) h'):Cl 146 [i5 f,i5 g] h K:=by
 refine F146.spec _ _ _ _ _ _ _ _ h K ?_;refine aX λh1 A1 O1 z1=>aX λh2 A2 O2 z2=>aX λh3 A3 O3 z3=> ?_
 replace A1:At h1 h.size (df f):=A1
 replace A2:At h2 h1.size (df g):=A2
 replace A3:At h3 h2.size (df λ_=>0):=A3
 have B1:=(A1.only O2 ak).only O3 ak;have B2:=A2.only O3 ak;have O13:aM [] h h3:=(O1.trans O2 ak).trans O3 ak;unfold F146.wk2
 have c: ∀(d i:Nat) (h':aI),i+d=4->At h' h.size (df (oC f g i))->At h' h1.size (df g)->At h' h2.size (df λ_=>0)->aM [] h h'->
   F146.wL2 (d+1) (aw h.size) (aw h1.size) (aw h2.size) i h' K:=by
  intro d
  induction d with
  |zero=>
   intro i h' hd A B C O;rw[F146.sL2];rw[show decide ((i:Int)<4)=false by simp;omega,aJ];have hi:i=4:=ah;subst hi;exact rt A C ah λa O''=>hK a _ (Er hf hg 4) (λy hy=>Dr f g hy) (O.trans O'' (by intro b hb l;simp at hb;omega))
  |succ d ih=>
   intro i h' hd A B C O;rw[F146.sL2];have hi:i<4:=ah;rw[show decide ((i:Int)<4)=true by simp;omega,aO,show ax ((i:Int)+1)=((i+1:Nat):Int) by rw[wrap_i64 ah ah];omega];refine⟨ah,ah,?_⟩;rw[aL,aL,show 0+Int.toNat (i:Int)*1=i by omega,fF A hi,bh];refine⟨ah,ah,?_⟩;rw[fF B hi,bh];refine⟨ah,ah,?_⟩;have e0:oC f g i i=f i:=MG ah;rw[aL,ML,e0,Fc (hf i hi) (hg i hi)];refine iY A hi λa A'' O''=>ih (i+1) a ah ?_ (B.only O'' (by simp;omega)) (C.only O'' (by simp;omega)) (O.trans O'' (by intro b hb l;simp at hb;omega))
   have e:(λj=>if j=i then f i|||g i else oC f g i j)=oC f g (i+1):=by
    funext j;unfold oC;by_cases hj:j=i
    ·subst hj;rw[MK rfl,MK ah]
    ·rw[MG hj];by_cases hl:j<i
     ·rw[MK hl,MK ah]
     ·rw[MG hl,MG ah]
   rw[e]at A'';exact A''
 have e0:oC f g 0=f:=by funext j;unfold oC;rw[MG ah]
 exact⟨_,c 4 0 h3 ah (by rw[e0];exact B1) B2 A3 O13⟩
def wV(y v:Nat)(b:Bool):Nat:=if y.testBit v=b then y else if b then y+2^v else y-2^v
def F89.spec(H:(0<=(if 262144<(if 0>i then 0 else i)then 262144 else(if 0>i then 0 else i))/\(if 262144<(if 0>i then 0 else i)then 262144 else(if 0>i then 0 else i))<=(if 262144<(if 0>i then 0 else i)then 262144 else(if 0>i then 0 else i))/\(8*(if 262144<(if 0>i then 0 else i)then 262144 else(if 0>i then 0 else i))<=281474976710656)/\(if 262144<(if 0>i then 0 else i)then 262144 else(if 0>i then 0 else i))<=9223372036854775807/\bf h (.cells (madeCells #[ar 0] ((if 262144<(if 0>i then 0 else i)then 262144 else(if 0>i then 0 else i)).toNat*1)) 315) λa b=>bf b (.cells #[.slice (some (aw a)) ((if 262144<(if 0>i then 0 else i)then 262144 else(if 0>i then 0 else i)).toNat) ((if 262144<(if 0>i then 0 else i)then 262144 else(if 0>i then 0 else i)).toNat),ap 0,ap 0] 224) λa b=>K (au (aw a)) b)):Cl 89 [ap i] h K:=cN Tryz.func89 H
def F110.spec(H:aK (i<1) (K (ap 0) h) (K (ap (ax (3*i))) h)):Cl 110 [ap i] h K:=cN Tryz.func110 H
def F132.spec{a:Addr}(H:cx (rd h (a.add 0)) λ_ a _=>K (ap (a:Int)) h):Cl 132 [au a] h K:=cN Tryz.func132 H
def F162.spec(H:Cl 202 [au a,ap i] h λa b=>a8 (some a) λa=>aK (!(Option.isNone a)) (Cl 203 [aA a] b λa b=>aQ .u64 (some a) λa=>K (ar a) b) (K (ar 0) b)):Cl 162 [au a,ap i] h K:=cN Tryz.func162 H
def F202.spec{i:Int}{a:Addr}(H:aK (i<0) (K (aA none) h) (cx (rd h (a.add 0)) λ_ b _=>aK (i>=(b:Int)) (K (aA none) h) (Cl 205 [au (a.add 1),ap 1] h λb c=>aQ .i64 (some b) λ_=>cx (rd c (a.add 0)) λa b _=>aY a λa=>0<=i/\i<(b:Int)/\K (au (a.add (i.toNat*1))) c))):Cl 202 [au a,ap i] h K:=cN Tryz.func202 H
def F203.spec{a:Addr}(H:aQ .u64 (rd h (a.add 0)) λa=>K (ar a) h):Cl 203 [au a] h K:=cN Tryz.func203 H
def F163.spec{a:Addr}(H:Cl 202 [au a,ap i] h λb c=>a8 (some b) λb=>aK (Option.isNone b) (K aB c) (Cl 204 [aA b,ar j,ar k] c λb c=>bP (some b) λb=>aK (!b) (Cl 205 [au (a.add 2),ap 1] c λa c=>aQ .i64 (some a) λ_=>K (aD b) c) (K (aD b) c))):Cl 163 [au a,ap i,ar j,ar k] h K:=cN Tryz.func163 H
def F205.spec{a:Addr}(H:aQ .i64 (rd h (a.add 0)) λb=>aW h (a.add 0) (ap (ax (b+i))) λa=>K (ap (ax (b+i))) a):Cl 205 [au a,ap i] h K:=cN Tryz.func205 H
def F204.spec{a:Addr}(H:aQ .u64 (rd h (a.add 0)) λb=>aK (b==i) (aW h (a.add 0) (ar j) λa=>K aC a) (fz h (a.add 0)=false/\K aB h)):Cl 204 [au a,ar i,ar j] h K:=cN Tryz.func204 H
def F282.spec(H:Cl 202 [au a,ap i] h λa b=>a8 (some a) λa=>aK (!(Option.isNone a)) (Cl 304 [aA a,ar j] b λa b=>a=aE/\K aE b) (K aE b)):Cl 282 [au a,ap i,ar j] h K:=cN Tryz.func282 H
def F304.spec{a:Addr}(H:aW h (a.add 0) (ar i) λa=>K aE a):Cl 304 [au a,ar i] h K:=cN Tryz.func304 H
structure bG(h:aI)(m c:Nat)(cs:List Int)(ops fails:Int):Prop where
 head:At h m [.slice (some (aw c)) cs.length cs.length,ap ops,ap fails]
 body:At h c (cs.map (.int .u64))
 ne:m≠c
def bG.only(H:bG h m c cs ops fails)(O:aM S h h')(hm:m∉S)(hc:c∉S):bG h' m c cs ops fails:=
 ⟨H.head.only O hm,H.body.only O hc,H.ne⟩
def up(n:Int):Int:=ax (n+1)
def Md(hr:rd h ⟨b,i,none⟩=some (ar n))(hK:K (ar n) h):
  Cl 203 [au ⟨b,i,none⟩] h K:=by
 apply F203.spec;rw[add_zero];exact aH hr hK
def LU{c:List Value}(H:At h b c)(hi:c[i]? =some (ap n))
  (hK: ∀h',At h' b (c.set i (ap (ax (n+d))))->aM [b] h h'->K (ap (ax (n+d))) h'):
  Cl 205 [au ⟨b,i,none⟩,ap d] h K:=by
 apply F205.spec;rw[add_zero];exact aH (by rw[H.rd];exact hi) (aU H (MQ.1 hi).1 rfl λh' h1 h2 _=>hK h' h1 h2)
def Mo{c:List Value}(H:At h b c)(hi:i<c.length)
  (hK: ∀h',At h' b (c.set i (ar d))->aM [b] h h'->K aE h'):
  Cl 304 [au ⟨b,i,none⟩,ar d] h K:=by
 apply F304.spec;rw[add_zero];exact aU H hi rfl λh' h1 h2 _=>hK h' h1 h2
def L7{c:List Value}(H:At h b c)(hi:c[i]? =some (ar n))
  (hT:n=x-> ∀h',At h' b (c.set i (ar y))->aM [b] h h'->K aC h') (hF:n≠x->K aB h):
  Cl 204 [au ⟨b,i,none⟩,ar x,ar y] h K:=by
 apply F204.spec;rw[add_zero];refine aH (by rw[H.rd];exact hi) (aS (λe=>aU H (MQ.1 hi).1 rfl λh' h1 h2 _=>hT (by simpa using e) h' h1 h2) λe=>⟨H.fz _ _,hF (by simpa using e)⟩)
def BA{cs:List Int}{i:Int}(H:bG h m c cs ops fails)(h0:0<=i)(h1:i<cs.length)
  (hK: ∀h',bG h' m c cs (up ops) fails->aM [m,c] h h'->K (au ⟨c,i.toNat,none⟩) h'):
  Cl 202 [au (aw m),ap i] h K:=by
 apply F202.spec;rw[MJ (by omega: ¬i<0)];simp only[aL,H.head.rd,MF,Pc,bK,aJ];rw[MJ (by omega: ¬i>=(Nat.cast cs.length:Int)),aJ];refine LU (n:=ops) (i:=1) H.head rfl λh' a1 a2=> ?_;simp only[bh,NM,PH]at a1 ⊢;simp only[a1.rd,Pc,bK,aT,aL,MF,Nz];exact⟨h0,h1,hK h' ⟨a1,H.body.only a2 (by simp[H.ne.symm]),H.ne⟩ (a2.mono (by simp+contextual))⟩
def ff{cs:List Int}{i:Int}(H:bG h m c cs ops fails)(h0:0<=i)(h1:i<cs.length)
  (hK: ∀h',bG h' m c cs (up ops) fails->aM [m,c] h h'->K (ar (cs.getD i.toNat 0)) h'):
  Cl 162 [au (aw m),ap i] h K:=by
 apply F162.spec;refine BA H h0 h1 λh' a1 a2=> ?_;have hi:i.toNat<cs.length:=ah;simp only[pK,Qt,Nx,aO];refine Md (n:=cs.getD i.toNat 0) (by rw[a1.body.rd];simp[hi]) ?_;simp only[bh];exact hK h' a1 a2
def bG.put{cs:List Int}(H:bG h m c cs ops fails)(a:At h' c ((cs.map (Value.int .u64)).set i (ar v)))(O:aM [c] h h'):
  bG h' m c (cs.set i v) ops fails:=
 ⟨by rw[NT];exact H.head.only O (by simp[H.ne]),by rw[Qz];exact a,H.ne⟩
def gF{cs:List Int}{i:Int}(H:bG h m c cs ops fails)(h0:0<=i)(h1:i<cs.length)
  (hK: ∀h',bG h' m c (cs.set i.toNat d) (up ops) fails->aM [m,c] h h'->K aE h'):
  Cl 282 [au (aw m),ap i,ar d] h K:=by
 apply F282.spec;refine BA H h0 h1 λh' a1 a2=> ?_;have hi:i.toNat<cs.length:=ah;simp only[pK,Qt,Nx,aO];exact Mo a1.body (by simpa using hi) λa b1 b2=>⟨rfl,hK a (a1.put b1 b2) (a2.trans b2 ak)⟩
def oz{cs:List Int}{i:Int}(H:bG h m c cs ops fails)(h0:0<=i)(h1:i<cs.length)
  (hT:cs.getD i.toNat 0=x-> ∀h',bG h' m c (cs.set i.toNat y) (up ops) fails->aM [m,c] h h'->K aC h')
  (hF:cs.getD i.toNat 0≠x-> ∀h',bG h' m c cs (up ops) (up fails)->aM [m,c] h h'->K aB h'):
  Cl 163 [au (aw m),ap i,ar x,ar y] h K:=by
 apply F163.spec;refine BA H h0 h1 λh' a1 a2=> ?_;have hi:i.toNat<cs.length:=ah;simp only[pK,Qt,aJ];refine L7 (n:=cs.getD i.toNat 0) a1.body (by simp[hi]) (λe a b1 b2=> ?_) λe=> ?_
 ·simp only[bU,Ng,aJ];exact hT e a (a1.put b1 b2) (a2.trans b2 ak)
 ·simp only[bU,Nx,aO,aL,MF];refine LU (n:=fails) a1.head rfl λa b1 b2=> ?_;simp only[bh];exact hF e a ⟨b1,a1.body.only b2 (by simp[H.ne.symm]),H.ne⟩ (a2.trans b2 ak)
def im{cs:List Int}(H:bG h m c cs ops fails)(hK:K (ap cs.length) h):
  Cl 132 [au (aw m)] h K:=by
 apply F132.spec;rw[aL,H.head.rd];exact bB rfl hK
def gz(n:Int):Nat:=(min (max n 0) 262144).toNat
def jB{k:Nat}(h:k<=262144):gz (k:Int)=k:=by unfold gz;rw[Int.max_eq_left ah,Int.min_eq_left ah,MO]
def yL(n:Nat):(madeCells #[ar (0:Int)] n).toList=(List.replicate n (0:Int)).map (Value.int .u64):=by rw[toList_madeCells_one];simp
def pH{h:aI}
  (hK: ∀m c h',bG h' m c (List.replicate (gz n) 0) 0 0->aM [] h h'->h.size<=m->h.size<=c->K (au (aw m)) h'):
  Cl 89 [ap n] h K:=by
 apply F89.spec
 have e:(if(262144:Int)<(if(0:Int)>n then(0:Int)else n)then(262144:Int)else(if(0:Int)>n then(0:Int)else n))=(gz n:Int):=by unfold gz;split<;>split<;>omega
 have h2:gz n<=262144:=by unfold gz;omega
 rw[e];refine⟨ah,ah,ah,ah,?_⟩;refine aX λh1 a1 a2 a3=>aX λh2 b1 b2 b3=> ?_;simp only[MO,Nz]at a1 b1 ⊢;rw[yL]at a1;refine hK h1.size h.size h2 ⟨?_,a1.only b2 ak,ah⟩ (a2.trans b2 ak) ah ah;rw[List.length_replicate];exact b1
def F159.spec(H:aK (i<0) (K (.tuple #[aA none,ap 61]) h) (aK (j<1) (K (.tuple #[aA none,ap 61]) h) (Cl 132 [au a] h λb c=>aQ .i64 (some b) λb=>aK (i>b) (K (.tuple #[aA none,ap 61]) c) (Cl 132 [au a] c λb c=>aQ .i64 (some b) λb=>aK (j>(ax (b-i))) (K (.tuple #[aA none,ap 61]) c) (bf c (.cells #[au a,ap i,ap j] 276) λa b=>K (.tuple #[au (aw a),ap 0]) b))))):Cl 159 [au a,ap i,ap j] h K:=cN Tryz.func159 H
def F241.T:bi:=⟨[],[(1,[[(0,[]),(1,[]),(2,[]),(3,[]),(4,[]),(5,[]),(6,[]),(8,[]),(9,[]),(10,[]),(11,[]),(12,[]),(13,[]),(7,[0,1,8,9,10,11,12,13]),(14,[]),(15,[]),(16,[])]])]⟩
def F241.spec{a:Addr}(H:aQ .i64 (rd h (a.add 2)) λb=>aQ .i64 (rd h (a.add 2)) λc=>Cl 246 [ar i,ap b] h λb d=>aQ .i64 (some b) λb=>aF (au a)/\aF (ar i)/\aF (au a)/\aF (au a)/\aF (au (a.add 2))/\aQ .i64 (rd d (a.add 2)) λe=>aG (ap e) (ap c)/\aF (ar i)/\aF (aD (i==0))/\bf d (.cells #[au a,ar i,ap b,ap c,.nilFunc,aD (i==0),ap (-1),ap 61,aB] 350) λa b=>aW b (((aw a).add 4).add 0) (.func (.func 285) #[au (aw a)] #[]) λb=>K (au (aw a)) b):Cl 241 [au a,ar i] h K:=cT F241.T Tryz.func241 H
def F242.T:bi:=⟨[(3,[0])],[]⟩
section
variable (a:Addr)(h:aI)(K:KK)
def F242.wk3:Prop:=bP (rd h (a.add 5)) λa=>K (aD a) h
end
def F242.spec{a:Addr}(H:bP (rd h (a.add 5)) λb=>aK (!b) (lV (rd h (a.add 4)) λb=>eD Tryz.prog X b [] h λb c=>b=aE/\F242.wk3 a c K) (F242.wk3 a h K)):Cl 242 [au a] h K:=cT F242.T Tryz.func242 H
def F243.T:bi:=⟨[],[(1,[[(0,[]),(1,[]),(2,[]),(3,[]),(4,[]),(5,[]),(6,[]),(7,[]),(8,[]),(9,[])]])]⟩
def F243.spec{a:Addr}(H:aQ .i64 (rd h (a.add 6)) λb=>aQ .i64 (rd h (a.add 7)) λa=>K (.tuple #[ap b,ap a]) h):Cl 243 [au a] h K:=cT F243.T Tryz.func243 H
def F244.spec{a:Addr}(H:bP (rd h (a.add 8)) λa=>K (aD a) h):Cl 244 [au a] h K:=cN Tryz.func244 H
def F200.spec{a:Addr}(H:aQ .i64 (rd h (a.add 2)) λa=>K (ap a) h):Cl 200 [au a] h K:=cN Tryz.func200 H
def F247.T:bi:=⟨[],[(3,[[(0,[]),(1,[]),(2,[]),(3,[]),(4,[]),(5,[]),(6,[]),(7,[]),(8,[]),(9,[]),(10,[]),(11,[])]])]⟩
def F247.spec{a:Addr}(H:aK (i<0) (K (ar 0) h) (aQ .i64 (rd h (a.add 2)) λb=>aK (i>=b) (K (ar 0) h) (a8 (rd h (a.add 0)) λb=>aQ .i64 (rd h (a.add 1)) λa=>Cl 162 [aA b,ap (ax (a+i))] h λa b=>aQ .u64 (some a) λa=>K (ar a) b))):Cl 247 [au a,ap i] h K:=cT F247.T Tryz.func247 H
def F285.T:bi:=⟨[],[(0,[[(0,[]),(1,[]),(2,[]),(3,[]),(4,[]),(5,[]),(6,[]),(7,[]),(8,[]),(9,[]),(10,[]),(11,[]),(12,[]),(13,[]),(14,[]),(15,[]),(16,[]),(17,[]),(18,[]),(19,[])]])]⟩
def F285.spec{a:Addr}(H:a8 (rd h (a.add 0)) λb=>aY b λb=>a8 (rd h (b.add 0)) λb=>a8 (rd h (a.add 0)) λc=>aY c λc=>aQ .i64 (rd h (c.add 1)) λc=>aQ .i64 (rd h (a.add 2)) λd=>Cl 162 [aA b,ap (ax (c+d))] h λb c=>aQ .u64 (some b) λb=>aQ .u64 (rd c (a.add 1)) λd=>aK (b==d) (aQ .i64 (rd c (a.add 2)) λb=>Cl 305 [au a,ap b,ap 0] c λa b=>a=aE/\K aE b) (aK (b==0) (aW c ((a.add 4).add 0) (.func (.func 306) #[au a] #[]) λa=>K aE a) (Cl 307 [au a] c λa b=>a=aE/\K aE b))):Cl 285 [au a] h K:=cT F285.T Tryz.func285 H
def F305.spec{a:Addr}(H:aW h ((a.add 5).add 0) aC λb=>aW b ((a.add 6).add 0) (ap i) λb=>aW b ((a.add 7).add 0) (ap j) λa=>K aE a):Cl 305 [au a,ap i,ap j] h K:=cN Tryz.func305 H
def F306.T:bi:=⟨[],[(1,[[(0,[]),(1,[]),(2,[]),(3,[]),(4,[]),(5,[]),(6,[]),(7,[]),(8,[]),(9,[]),(10,[]),(11,[]),(12,[]),(13,[]),(14,[]),(15,[]),(16,[]),(17,[]),(18,[]),(19,[]),(20,[]),(21,[]),(22,[]),(23,[])]])]⟩
def F306.spec{a:Addr}(H:aW h ((a.add 4).add 0) (.func (.func 285) #[au a] #[]) λb=>a8 (rd b (a.add 0)) λc=>aY c λc=>a8 (rd b (c.add 0)) λc=>a8 (rd b (a.add 0)) λd=>aY d λd=>aQ .i64 (rd b (d.add 1)) λd=>aQ .i64 (rd b (a.add 2)) λe=>aQ .u64 (rd b (a.add 1)) λf=>Cl 163 [aA c,ap (ax (d+e)),ar 0,ar f] b λb c=>bP (some b) λb=>aK b (aW c ((a.add 8).add 0) aC λb=>aQ .i64 (rd b (a.add 2)) λc=>Cl 305 [au a,ap c,ap 0] b λa b=>a=aE/\K aE b) (K aE c)):Cl 306 [au a] h K:=cT F306.T Tryz.func306 H
def F307.T:bi:=⟨[],[(0,[[(0,[]),(1,[]),(2,[]),(3,[]),(4,[]),(5,[]),(6,[]),(7,[]),(8,[]),(9,[]),(10,[]),(11,[]),(12,[]),(13,[]),(14,[]),(15,[]),(16,[])]])]⟩
def F307.spec{a:Addr}(H:aQ .i64 (rd h (a.add 2)) λb=>a8 (rd h (a.add 0)) λc=>aY c λc=>aQ .i64 (rd h (c.add 2)) λc=>c≠0/\aW h ((a.add 2).add 0) (ap (Int.tmod (ax (b+1)) c)) λb=>aQ .i64 (rd b (a.add 3)) λc=>aW b ((a.add 3).add 0) (ap (ax (c-1))) λb=>aQ .i64 (rd b (a.add 3)) λc=>aK (c==0) (Cl 305 [au a,ap (-1),ap 60] b λa b=>a=aE/\K aE b) (K aE b)):Cl 307 [au a] h K:=cT F307.T Tryz.func307 H
def JN(x:Int):Int:=bo .xor .u64 x (Int.fdiv x (2^(min (Int.toNat (33:Int)) (IntKind.bits .u64))))
def to(x:Int):Int:=JN (IntKind.wrap .u64 (JN (IntKind.wrap .u64 (JN x*18397679294719823053))*14181476777654086739))
def uG(x:Int):0<=IntKind.wrap .u64 x/\IntKind.wrap .u64 x<18446744073709551616:=by rw[mE];omega
def rq(x:Int):0<=JN x/\JN x<18446744073709551616:=uG _
def Cb(hK:K (ar (to x)) h):Cl 286 [ar x] h K:=by
 apply F286.spec;unfold F286.wk2;refine⟨3,?_⟩;rw[F286.sL2];rw[show decide ((0:Int)<2)=true from rfl,aO];refine⟨by decide,by decide,aH rfl ⟨by decide,?_⟩⟩;rw[F286.sL2]
 try dsimp only
 rw[show ax ((0:Int)+1)=1 from rfl,show decide ((1:Int)<2)=true from rfl,aO];refine⟨by decide,by decide,aH rfl ⟨by decide,?_⟩⟩;rw[F286.sL2]
 try dsimp only
 rw[show ax ((1:Int)+1)=2 from rfl,show decide ((2:Int)<2)=false from rfl,aJ];exact⟨by decide,hK⟩
def gP(key:Int)(n:Nat):Nat:=((to key).tmod n).toNat
def gc(key:Int)(hn:1<=n):gP key n<n:=by unfold gP;have h0:0<=to key:=(rq _).1;rw[NH h0];have:=Int.emod_lt_of_pos (to key) (by omega:(0:Int)<n);have:=Int.emod_nonneg (to key) (by omega:(n:Int)≠0);omega
def mf{h:aI}{x:Int}{n:Nat}{K:KK}(h1:1<=n)(h2:n<1000000000)(hK:K (ap (gP x n:Int)) h):Cl 246 [ar x,ap (n:Int)] h K:=by
 apply F246.spec;rw[MJ ah,aJ];refine Cb (aH rfl ?_);rw[bY (n:=(n:Int)) ah ah];have h0:0<=to x:=(rq _).1
 have e:(to x).tmod n=(gP x n:Int):=by unfold gP;rw[NH h0];have:=Int.emod_nonneg (to x) (by omega:(n:Int)≠0);omega
 have:=gc x h1;rw[e,wrap_i64 ah ah];exact⟨ah,hK⟩
def dN(h:aI)(t m base n:Nat):Prop:=At h t [au (aw m),ap (base:Int),ap (n:Int)]
def dN.only(H:dN h t m base n)(O:aM S h h')(ht:t∉S):dN h' t m base n:=At.only H O ht
structure Fi where
 key:Int
 pos:Nat
 left:Nat
 claims:Bool
 done:Bool
 slot:Int
 e:Int
 made:Bool
def Mj(f:Nat):Bool->Value
 |true=> .func (.func 306) #[au (aw f)] #[]
 |false=> .func (.func 285) #[au (aw f)] #[]
def dl(h:aI)(f t:Nat)(F:Fi):Prop:=
 At h f [au (aw t),ar F.key,ap (F.pos:Int),ap (F.left:Int),Mj f F.claims,aD F.done,ap F.slot,ap F.e,aD F.made]
def dl.only(H:dl h f t F)(O:aM S h h')(ht:f∉S):dl h' f t F:=At.only H O ht
def bW(base n:Nat)(cs:List Int)(F:Fi):Fi×List Int:=
 if F.done then(F,cs)else
 if F.claims then
  if cs.getD (base+F.pos) 0=0 then({F with claims:=false,made:=true,done:=true,slot:=F.pos,e:=0},cs.set (base+F.pos) F.key)
  else({F with claims:=false},cs)
 else if cs.getD (base+F.pos) 0=F.key then({F with done:=true,slot:=F.pos,e:=0},cs)
 else if cs.getD (base+F.pos) 0=0 then({F with claims:=true},cs)
 else if F.left=1 then({F with pos:=(F.pos+1)%n,left:=0,done:=true,slot:= -1,e:=60},cs)
 else({F with pos:=(F.pos+1)%n,left:=F.left-1},cs)
def mQ(H:dl h f t F)
  (hK: ∀h',dl h' f t {F with done:=true,slot:=s,e:=e}->aM [f] h h'->K aE h'):
  Cl 305 [au (aw f),ap s,ap e] h K:=by
 apply F305.spec;simp only[aL,MF,ML];refine aU H ak rfl λh1 A1 O1 _=>aU A1 ak rfl λh2 A2 O2 _=>aU A2 ak rfl λh3 A3 O3 _=> ?_;exact hK h3 A3 ((O1.trans O2 ak).trans O3 ak)
def yN{F:Fi}(T:dN h t m base n)(H:dl h f t F)(hn:1<=n)(hn2:n<1000000000)(hp:F.pos<n)(hl:1<=F.left)(a:F.left<1000000000)
  (hK: ∀h',dl h' f t (if F.left=1 then {F with pos:=(F.pos+1)%n,left:=0,done:=true,slot:= -1,e:=60}else {F with pos:=(F.pos+1)%n,left:=F.left-1})->aM [f] h h'->K aE h'):
  Cl 307 [au (aw f)] h K:=by
 apply F307.spec;simp only[aL,MF,ML];refine aH (by rw[At.rd H];rfl) (aR (by rw[At.rd H];rfl) ?_);simp only[aT,aL,MF];refine aH (by rw[At.rd T];rfl) ⟨ah,aU H ak rfl λh1 A1 O1 _=> ?_⟩
 have e1:(ax ((F.pos:Int)+1)).tmod n=(((F.pos+1)%n:Nat):Int):=by rw[wrap_i64 ah ah,NH ah];simp
 rw[e1]at A1;refine aH (by rw[A1.rd];rfl) (aU A1 ak rfl λh2 A2 O2 _=> ?_);rw[wrap_i64 ah ah]at A2
 have A2:dl h2 f t {F with pos:=(F.pos+1)%n,left:=F.left-1}:=by rw[show(F.left:Int)-1=((F.left-1:Nat):Int) by omega]at A2;exact A2
 have O12:=O1.trans O2 ak;refine aH (n:=((F.left-1:Nat):Int)) (by rw[At.rd A2];rfl) ?_;by_cases h1:F.left=1
 ·rw[show(((F.left-1:Nat):Int)==0)=true by simp[h1],aO];refine mQ A2 λh3 A3 O3=>⟨rfl,hK h3 ?_ (O12.trans O3 ak)⟩;rw[MK h1];simpa[h1]using A3
 ·rw[show(((F.left-1:Nat):Int)==0)=false by simp;omega,aJ];refine hK h2 ?_ O12;rw[MG h1];exact A2
def yk{cs:List Int}{F:Fi}(T:dN h t m base n)(H:dl h f t F)(M:bG h m mc cs ops fails)(hn:1<=n)(hn2:n<1000000000)(hb:base<1000000000)(hp:F.pos<n)(hl:F.done=false->1<=F.left)(g:F.left<1000000000)
  (hc:base+n<=cs.length) (d1:f≠t) (d2:f≠m) (d3:f≠mc) (d4:t≠m) (d5:t≠mc)
  (hK: ∀h' c,dl h' f t (bW base n cs F).1->dN h' t m base n->bG h' m mc (bW base n cs F).2 (if F.done then ops else up ops) c->aM [f,m,mc] h h'->K (aD (bW base n cs F).1.done) h'):
  Cl 242 [au (aw f)] h K:=by
 apply F242.spec;simp only[aL,MF];refine aZ (n:=F.done) (by rw[At.rd H];rfl) ?_
 have a: ∀h' c,dl h' f t (bW base n cs F).1->dN h' t m base n->bG h' m mc (bW base n cs F).2 (if F.done then ops else up ops) c->aM [f,m,mc] h h'->F242.wk3 (aw f) h' K:=by intro h' c a1 a2 a3 a4;unfold F242.wk3;simp only[aL,MF];exact aZ (by rw[At.rd a1];rfl) (hK h' c a1 a2 a3 a4)
 cases hd:F.done with
 |true=>
  rw[Ng,aJ];have e:bW base n cs F=(F,cs):=by unfold bW;rw[MK hd]
  rw[e,hd]at a;exact a h fails H T M (aM.refl _ _)
 |false=>
  rw[Nx,aO];have d:ax ((base:Int)+(F.pos:Int))=((base+F.pos:Nat):Int):=by rw[wrap_i64 ah ah];simp
  have hi:base+F.pos<cs.length:=ah;have hg:cs.getD (((base+F.pos:Nat):Int).toNat) 0=cs.getD (base+F.pos) 0:=by rw[MO]
  rw[hd]at a;have hs: ∀b∈[m,mc],b∈[f,m,mc]:=by simp+contextual
  cases hcl:F.claims with
  |false=>
   refine⟨_,by rw[At.rd H];rfl,?_⟩;rw[hcl];refine bu (by kernel_rfl) ?_;refine F285.spec ?_;simp only[aL,MF,ML];refine aR (by rw[At.rd H];rfl) ?_;simp only[aT,aL,MF];refine aR (by rw[At.rd T];rfl) (aR (by rw[At.rd H];rfl) ?_);simp only[aT,aL,MF];refine aH (by rw[At.rd T];rfl) (aH (by rw[At.rd H];rfl) ?_);rw[d];refine ff M ah ah λh1 M1 O1=>aH rfl ?_;have H1:=H.only O1 (by simp[d2,d3]);have T1:=T.only O1 (by simp[d4,d5]);have Q1:=O1.mono (T:=[f,m,mc]) λb hb _=>hs b hb;rw[hg];refine aH (n:=F.key) (by rw[At.rd H1];rfl) ?_;unfold bW at a;rw[MG (by simp[hd]),MG (by simp[hcl])]at a;by_cases hk:cs.getD (base+F.pos) 0=F.key
   ·rw[MK hk]at a;rw[show(cs.getD (base+F.pos) 0==F.key)=true by simpa using hk,aO];refine aH (by rw[At.rd H1];rfl) (mQ H1 λh2 H2 O2=>⟨by trivial,by trivial,?_⟩);exact a h2 fails H2 (T1.only O2 (by simp[d1.symm])) (M1.only O2 (by simp[d2.symm]) (by simp[d3.symm])) (Q1.trans O2 ak)
   ·rw[MG hk]at a;rw[show(cs.getD (base+F.pos) 0==F.key)=false by simpa using hk,aJ];by_cases hz:cs.getD (base+F.pos) 0=0
    ·rw[MK hz]at a;rw[show(cs.getD (base+F.pos) 0==0)=true by simpa using hz,aO];refine aU H1 ak rfl λh2 A2 O2 _=>⟨by trivial,?_⟩;exact a h2 fails A2 (T1.only O2 (by simp[d1.symm])) (M1.only O2 (by simp[d2.symm]) (by simp[d3.symm])) (Q1.trans O2 ak)
    ·rw[MG hz]at a;rw[show(cs.getD (base+F.pos) 0==0)=false by simpa using hz,aJ];refine yN T1 H1 hn hn2 hp (hl hd) g λh2 H2 O2=>⟨by trivial,by trivial,?_⟩;have T2:=T1.only O2 (by simp[d1.symm]);have M2:=M1.only O2 (by simp[d2.symm]) (by simp[d3.symm]);have Q2:=Q1.trans O2 ak;by_cases h1:F.left=1
     ·rw[MK h1]at a H2;exact a h2 fails H2 T2 M2 Q2
     ·rw[MG h1]at a H2;exact a h2 fails H2 T2 M2 Q2
  |true=>
   refine⟨_,by rw[At.rd H];rfl,?_⟩;rw[hcl];refine bu (by kernel_rfl) ?_;refine F306.spec ?_;simp only[aL,MF,ML];refine aU H ak rfl λh1 A1 O1 _=> ?_;have H1:dl h1 f t {F with claims:=false}:=A1;have T1:=T.only O1 (by simp[d1.symm]);have M1:=M.only O1 (by simp[d2.symm]) (by simp[d3.symm]);have Q1:=O1.mono (T:=[f,m,mc]) λb hb _=>(by simp at hb;simp[hb]);refine aR (by rw[At.rd H1];rfl) ?_;simp only[aT,aL,MF];refine aR (by rw[At.rd T1];rfl) (aR (by rw[At.rd H1];rfl) ?_);simp only[aT,aL,MF];refine aH (by rw[At.rd T1];rfl) (aH (by rw[At.rd H1];rfl) (aH (n:=F.key) (by rw[At.rd H1];rfl) ?_));rw[d];unfold bW at a;rw[MG (by simp[hd]),MK (by simp[hcl])]at a;refine oz M1 ah ah (λe h2 M2 O2=> ?_) λe h2 M2 O2=> ?_
   ·rw[hg]at e;rw[MK e]at a;rw[bU,aO];refine aU (H1.only O2 (by simp[d2,d3])) ak rfl λh3 A3 O3 _=> ?_;have H3:dl h3 f t {F with claims:=false,made:=true}:=A3;refine aH (by rw[At.rd H3];rfl) (mQ H3 λh4 H4 O4=>⟨by trivial,by trivial,?_⟩);have O34:=O3.trans O4 ak;rw[MO]at M2;exact a h4 fails H4 ((T1.only O2 (by simp[d4,d5])).only O34 (by simp[d1.symm])) (M2.only O34 (by simp[d2.symm]) (by simp[d3.symm])) ((Q1.trans O2 λb hb _=>hs b hb).trans O34 ak)
   ·rw[hg]at e;rw[MG e]at a;rw[bU,aJ];exact⟨by trivial,a h2 (up fails) (H1.only O2 (by simp[d2,d3])) (T1.only O2 (by simp[d4,d5])) M2 (Q1.trans O2 λb hb _=>hs b hb)⟩
def jA(key:Int)(n:Nat):Fi:=⟨key,gP key n,n,false,key==0,-1,61,false⟩
def xP{h:aI}{t m base n:Nat}{K:KK}{key:Int}(T:dN h t m base n)(hn:1<=n)(hn2:n<1000000000)
  (hK: ∀f h',dl h' f t (jA key n)->aM [] h h'->h.size<=f->K (au (aw f)) h'):
  Cl 241 [au (aw t),ar key] h K:=by
 apply F241.spec;simp only[aL,MF,ML];have hr:rd h ⟨t,2,none⟩=some (ap (n:Int)):=by rw[At.rd T];rfl
 refine aH hr (aH hr (mf hn hn2 (aH rfl ⟨trivial,trivial,trivial,trivial,trivial,aH hr ⟨rfl,trivial,trivial,?_⟩⟩)));refine aX λh1 A1 O1 z1=>aU A1 ak rfl λh2 A2 O2 _=> ?_;exact hK h.size h2 A2 (O1.trans O2 λb hb hl=>Nc (show b=h.size by simpa using hb) ah) (MN _)
def yf{F:Fi}(H:dl h f t F)(hK:K (aD F.made) h):Cl 244 [au (aw f)] h K:=by apply F244.spec;simp only[aL,MF];exact aZ (by rw[At.rd H];rfl) hK
def xR{F:Fi}(H:dl h f t F)(hK:K (.tuple #[ap F.slot,ap F.e]) h):Cl 243 [au (aw f)] h K:=by apply F243.spec;simp only[aL,MF];exact aH (by rw[At.rd H];rfl) (aH (by rw[At.rd H];rfl) hK)
def gr(T:dN h t m base n)(hK:K (ap (n:Int)) h):Cl 200 [au (aw t)] h K:=by apply F200.spec;simp only[aL,MF];exact aH (by rw[At.rd T];rfl) hK
def t9{h:aI}{cs:List Int}(M:bG h m mc cs ops fails)(hn:1<=n)(hb:base+n<=cs.length)(hc:cs.length<1000000000)
  (hK: ∀t h',dN h' t m base n->aM [] h h'->h.size<=t->K (.tuple #[au (aw t),ap 0]) h'):
  Cl 159 [au (aw m),ap (base:Int),ap (n:Int)] h K:=by
 apply F159.spec;rw[MJ ah,aJ,MJ ah,aJ];refine im M (aH rfl ?_);rw[MJ ah,aJ];refine im M (aH rfl ?_);rw[wrap_i64 ah ah,MJ ah,aJ];exact aX λh1 A1 O1 z1=>hK h.size h1 A1 O1 (MN _)
def cell(base:Nat)(cs:List Int)(i:Nat):Int:=cs.getD (base+i) 0
def cnt(base:Nat)(cs:List Int):Nat->Nat
 |0=>0
 |n+1=>cnt base cs n+(if cell base cs n=0 then 0 else 1)
def Dk{cs:List Int}(T:dN h t m base n)(M:bG h m mc cs ops fails)(hb:base<1000000000)(hn:n<1000000000)(hc:base+n<=cs.length)(hi:i<n)
  (hK: ∀h',bG h' m mc cs (up ops) fails->aM [m,mc] h h'->K (ar (cell base cs i)) h'):
  Cl 247 [au (aw t),ap (i:Int)] h K:=by
 apply F247.spec;simp only[aL,MF];rw[MJ ah,aJ];refine aH (n:=(n:Int)) (by rw[At.rd T];rfl) ?_;rw[MJ ah,aJ];refine aR (by rw[At.rd T];rfl) (aH (by rw[At.rd T];rfl) ?_);rw[show ax ((base:Int)+(i:Int))=((base+i:Nat):Int) by rw[wrap_i64 ah ah];simp];refine ff M ah ah λh1 M1 O1=>aH rfl ?_;rw[MO];exact hK h1 M1 O1
def path(n:Nat)(key:Int)(d:Nat):Nat:=(gP key n+d)%n
def sE(hn:1<=n):path n key d<n:=PG _ ah
def qY(hi:i<n): ∃d,d<n/\path n key d=i:=by
 have hh:=gc key (show 1<=n by omega);by_cases h:gP key n<=i
 ·exact⟨i-gP key n,ah,by unfold path;rw[show gP key n+(i-gP key n)=i by omega];exact OM hi⟩
 ·exact⟨i+n-gP key n,ah,by unfold path;rw[show gP key n+(i+n-gP key n)=i+n by omega,Nat.add_mod_right];exact OM hi⟩
def xO:path n key (d+1)=(path n key d+1)%n:=by unfold path;rw[<-Nat.add_assoc,Nat.mod_add_mod]
def qA(base n:Nat)(cs:List Int)(key:Int)(d:Nat):Prop:= ∀j,j<d->cell base cs (path n key j)≠0/\cell base cs (path n key j)≠key
def jY(base n:Nat)(cs:List Int):Prop:=
 ∀i,i<n->cell base cs i≠0-> ∃d,d<n/\path n (cell base cs i) d=i/\qA base n cs (cell base cs i) d
structure JT(base n:Nat)(cs:List Int)(F:Fi):Prop where
 pos:F.pos<n
 left:F.left<=n
 going:F.done=false->F.key≠0/\1<=F.left/\F.pos=path n F.key (n-F.left)/\qA base n cs F.key (n-F.left)/\F.made=false/\F.slot= -1/\F.e=61
 ended:F.done=true->(F.key=0/\F.slot= -1/\F.e=61/\F.made=false)\/(F.key≠0/\F.e=0/\ ∃i:Nat,i<n/\F.slot=i/\cell base cs i=F.key)\/
  (F.key≠0/\F.e=60/\F.slot= -1/\F.made=false/\ ∀i,i<n->cell base cs i≠0/\cell base cs i≠F.key)
def jo(base n:Nat)(cs cs':List Int):Prop:=cs'.length=cs.length/\(∀i,i<n->cell base cs i≠0->cell base cs' i=cell base cs i)/\ ∀x,x<base\/base+n<=x->cs'.getD x 0=cs.getD x 0
def jo.refl(base n:Nat)(cs:List Int):jo base n cs cs:=⟨rfl,λ_ _ _=>rfl,λ_ _=>rfl⟩
def jo.trans(H:jo base n a b)(G:jo base n b c):jo base n a c:=
 ⟨G.1.trans H.1,λi hi h=>by rw[G.2.1 i hi (by rw[H.2.1 i hi h];exact h),H.2.1 i hi h],λx hx=>(G.2.2 x hx).trans (H.2.2 x hx)⟩
def qA.grow(hn:1<=n)(H:qA base n cs key d)(G:jo base n cs cs'):qA base n cs' key d:=by intro j hj;obtain⟨a,b⟩:=H j hj;rw[G.2.1 _ (sE hn) a];exact⟨a,b⟩
def AZ(hn:1<=n):JT base n cs (jA key n):=by
 refine⟨gc key hn,MN _,λhd=> ?_,λhd=> ?_⟩
 ·have hk:key≠0:=by simpa[jA]using hd
  refine⟨hk,hn,?_,?_,rfl,rfl,rfl⟩
  ·show gP key n=path n key (n-n);unfold path;rw[Nat.sub_self,ML,OM (gc key hn)]
  ·intro j hj;simp[jA]at hj
 ·have hk:key=0:=by simpa[jA]using hd
  exact Or.inl ⟨hk,rfl,rfl,rfl⟩
def jc{cs:List Int}(hi:base+i<cs.length):cell base (cs.set (base+i) v) j=if j=i then v else cell base cs j:=by
 unfold cell;by_cases h:j=i
 ·subst h;simp[hi]
 ·simp only[List.getD,Nl,MG (by omega: ¬base+i=base+j),MG h]
def jY.absent(T:jY base n cs)(hd:d<n)(hk:key≠0)(S:qA base n cs key d)(hz:cell base cs (path n key d)=0): ∀j,j<n->cell base cs j≠key:=by
 intro j hj e;obtain⟨d',h1,h2,h3⟩:=T j hj (by rw[e];exact hk);rw[e]at h2 h3;by_cases c1:d'<d
 ·have:=(S d' c1).2;rw[h2]at this;exact this e
 ·by_cases c2:d'=d
  ·subst c2;rw[h2,e]at hz;exact hk hz
  ·exact(h3 d ah).1 hz
def tj{cs:List Int}(hi:i<n)(hc:base+n<=cs.length)(hz:cell base cs i=0):jo base n cs (cs.set (base+i) v):=by
 refine⟨ak,λj hj a=> ?_,λx hx=> ?_⟩
 ·rw[jc ah,MG (λe=>a (by rw[e];exact hz))]
 ·simp only[List.getD,Nl,MG (by omega: ¬base+i=x)]
def jY.set{cs:List Int}(hn:1<=n)(hc:base+n<=cs.length)(T:jY base n cs)(hd:d<n)(S:qA base n cs key d)(hz:cell base cs (path n key d)=0):
  jY base n (cs.set (base+path n key d) key):=by
 have hp:path n key d<n:=sE hn;have G:=tj (v:=key) hp hc hz;intro i hi a;rw[jc ah]at a ⊢;by_cases h:i=path n key d
 ·rw[MK h];exact⟨d,hd,h.symm,S.grow hn G⟩
 ·rw[MG h]at a ⊢;obtain⟨d',h1,h2,h3⟩:=T i hi a;exact⟨d',h1,h2,h3.grow hn G⟩
def Ew{cs:List Int}{F:Fi}(hn:1<=n)(hc:base+n<=cs.length)(T:jY base n cs)(H:JT base n cs F):
  jY base n (bW base n cs F).2/\JT base n (bW base n cs F).2 (bW base n cs F).1/\jo base n cs (bW base n cs F).2/\(bW base n cs F).1.key=F.key/\
  (((bW base n cs F).1.made=F.made/\(bW base n cs F).2=cs)\/
   (F.done=false/\F.made=false/\(bW base n cs F).1.made=true/\(bW base n cs F).1.done=true/\(bW base n cs F).1.slot=F.pos/\(bW base n cs F).1.e=0/\F.pos<n/\cell base cs F.pos=0/\F.key≠0/\(∀j,j<n->cell base cs j≠F.key)/\(bW base n cs F).2=cs.set (base+F.pos) F.key)):=by
 unfold bW;by_cases hd:F.done=true
 ·rw[MK hd];exact⟨T,H,jo.refl _ _ _,rfl,Or.inl ⟨rfl,rfl⟩⟩
 ·rw[MG hd];have b:F.done=false:=by simpa using hd
  obtain⟨hk,hl,hp,S,hm,hs,he⟩:=H.going b;have c:n-F.left<n:=ah;by_cases hcl:F.claims=true
  ·rw[MK hcl];by_cases hz:cs.getD (base+F.pos) 0=0
   ·rw[MK hz];have a:cell base cs F.pos=0:=hz;have f:cell base cs (path n F.key (n-F.left))=0:=by rw[<-hp];exact a
    refine⟨?_,⟨H.pos,H.left,λh=>by simp at h,λ_=>Or.inr (Or.inl ⟨hk,rfl,F.pos,H.pos,rfl,?_⟩)⟩,tj H.pos hc a,rfl,
     Or.inr ⟨b,hm,rfl,rfl,rfl,rfl,H.pos,a,hk,T.absent c hk S f,rfl⟩⟩
    ·have:=T.set hn hc c S f;rw[<-hp]at this;exact this
    ·rw[jc (by have:=H.pos;omega),MK rfl]
   ·rw[MG hz];exact⟨T,⟨H.pos,H.left,λ_=>⟨hk,hl,hp,S,hm,hs,he⟩,λh=>Nc h hd⟩,jo.refl _ _ _,rfl,Or.inl ⟨rfl,rfl⟩⟩
  ·rw[MG hcl];by_cases hkey:cs.getD (base+F.pos) 0=F.key
   ·rw[MK hkey];exact⟨T,⟨H.pos,H.left,λh=>by simp at h,λ_=>Or.inr (Or.inl ⟨hk,rfl,F.pos,H.pos,rfl,hkey⟩)⟩,jo.refl _ _ _,rfl,Or.inl ⟨rfl,rfl⟩⟩
   ·rw[MG hkey];by_cases hz:cs.getD (base+F.pos) 0=0
    ·rw[MK hz];exact⟨T,⟨H.pos,H.left,λ_=>⟨hk,hl,hp,S,hm,hs,he⟩,λh=>Nc h hd⟩,jo.refl _ _ _,rfl,Or.inl ⟨rfl,rfl⟩⟩
    ·rw[MG hz]
     have S':qA base n cs F.key (n-F.left+1):=by
      intro j hj;by_cases h':j<n-F.left
      ·exact S j h'
      ·obtain rfl:j=n-F.left:=ah;rw[<-hp];exact⟨hz,hkey⟩
     have g:(F.pos+1)%n<n:=PG _ ah;by_cases h1:F.left=1
     ·rw[MK h1];refine⟨T,⟨g,NS _,λh=>by simp at h,λ_=>Or.inr (Or.inr ⟨hk,rfl,rfl,hm,λi hi=> ?_⟩)⟩,jo.refl _ _ _,rfl,Or.inl ⟨rfl,rfl⟩⟩;obtain⟨d,l,k⟩:=qY (key:=F.key) hi;rw[<-k];exact S' d ah
     ·rw[MG h1];refine⟨T,⟨g,by have:=H.left;show F.left-1<=n;omega,λ_=>⟨hk,by show 1<=F.left-1;omega,?_,?_,hm,hs,he⟩,λh=>Nc h hd⟩,jo.refl _ _ _,rfl,Or.inl ⟨rfl,rfl⟩⟩
      ·show(F.pos+1)%n=path n F.key (n-(F.left-1));have:=H.left;rw[show n-(F.left-1)=(n-F.left)+1 by omega,xO,<-hp]
      ·show qA base n cs F.key (n-(F.left-1));have:=H.left;rw[show n-(F.left-1)=(n-F.left)+1 by omega];exact S'
def uW(base:Nat)(cs:List Int)(F:Fi):Nat:=
 if F.done then 0 else 3*(F.left-1)+(if F.claims then 2 else if cell base cs F.pos=0 then 3 else 1)
def gV{F:Fi}(h:F.done=true):uW base cs F=0:=by unfold uW;rw[MK h]
def kb{F:Fi}(h:F.done=false)(hc:F.claims=true):uW base cs F=3*(F.left-1)+2:=by unfold uW;rw[MG (by simp[h]),MK hc]
def mW{F:Fi}(h:F.done=false)(hc:F.claims=false)(hz:cell base cs F.pos=0):uW base cs F=3*(F.left-1)+3:=by unfold uW;rw[MG (by simp[h]),MG (by simp[hc]),MK hz]
def m7{F:Fi}(h:F.done=false)(hc:F.claims=false)(hz:cell base cs F.pos≠0):uW base cs F=3*(F.left-1)+1:=by unfold uW;rw[MG (by simp[h]),MG (by simp[hc]),MG hz]
def vO{F:Fi}(h:F.done=false)(hc:F.claims=false):uW base cs F<=3*(F.left-1)+3/\3*(F.left-1)+1<=uW base cs F:=by
 by_cases hz:cell base cs F.pos=0
 ·rw[mW h hc hz];omega
 ·rw[m7 h hc hz];omega
def Eo(hn:1<=n):uW base cs (jA key n)<=3*n:=by
 by_cases h:(jA key n).done=true
 ·rw[gV h];omega
 ·have:=(vO (base:=base) (cs:=cs) (F:=jA key n) (by simpa using h) rfl).1;have e:(jA key n).left=n:=rfl;rw[e]at this;omega
def Bf{F:Fi}(H:JT base n cs F)(hd:F.done=false):uW base (bW base n cs F).2 (bW base n cs F).1<uW base cs F:=by
 obtain⟨hk,hl,hp,S,hm,hs,he⟩:=H.going hd;by_cases hcl:F.claims=true
 ·rw[kb hd hcl];by_cases hz:cs.getD (base+F.pos) 0=0
  ·rw[gV (by unfold bW;rw[MG (by simp[hd]),MK hcl,MK hz])];omega
  ·have e:bW base n cs F=({F with claims:=false},cs):=by unfold bW;rw[MG (by simp[hd]),MK hcl,MG hz]
   rw[e,m7 (F:={F with claims:=false}) hd rfl hz];show 3*(F.left-1)+1<_;omega
 ·have a:F.claims=false:=by simpa using hcl
  have b:=vO (base:=base) (cs:=cs) hd a;by_cases hkey:cs.getD (base+F.pos) 0=F.key
  ·rw[gV (by unfold bW;rw[MG (by simp[hd]),MG hcl,MK hkey])];omega
  ·by_cases hz:cs.getD (base+F.pos) 0=0
   ·have e:bW base n cs F=({F with claims:=true},cs):=by unfold bW;rw[MG (by simp[hd]),MG hcl,MG hkey,MK hz]
    rw[e,kb (F:={F with claims:=true}) hd rfl,mW hd a hz];show 3*(F.left-1)+2<_;omega
   ·by_cases h1:F.left=1
    ·rw[gV (by unfold bW;rw[MG (by simp[hd]),MG hcl,MG hkey,MG hz,MK h1])];omega
    ·have e:bW base n cs F=({F with pos:=(F.pos+1)%n,left:=F.left-1},cs):=by unfold bW;rw[MG (by simp[hd]),MG hcl,MG hkey,MG hz,MG h1]
     have h2:=(vO (base:=base) (cs:=cs) (F:={F with pos:=(F.pos+1)%n,left:=F.left-1}) hd a).1;rw[e];refine Pa h2 ?_;show 3*(F.left-1-1)+3<_;omega
def BC{F:Fi}(H:uW base cs F=0):F.done=true:=by
 unfold uW at H;by_cases h:F.done=true
 ·exact h
 ·rw[MG h]at H;split at H
  ·omega
  ·split at H<;>omega
def CI(base n:Nat)(a cs:List Int)(F:Fi):Prop:=
 JT base n cs F/\jY base n cs/\jo base n a cs/\((F.made=false/\cs=a)\/(F.made=true/\F.done=true/\F.e=0/\F.key≠0/\ ∃i:Nat,i<n/\F.slot=i/\cell base a i=0/\(∀j,j<n->cell base a j≠F.key)/\cs=a.set (base+i) F.key))
def CI.new(hn:1<=n)(T:jY base n a):CI base n a a (jA key n):=
 ⟨AZ hn,T,jo.refl _ _ _,Or.inl ⟨rfl,rfl⟩⟩
def CI.step{cs:List Int}{F:Fi}(hn:1<=n)(hc:base+n<=cs.length)(R:CI base n a cs F):CI base n a (bW base n cs F).2 (bW base n cs F).1/\(bW base n cs F).1.key=F.key:=by
 obtain⟨H,T,G,D⟩:=R;obtain⟨s1,s2,s3,s4,s5⟩:=Ew hn hc T H;refine⟨⟨s2,s1,G.trans s3,?_⟩,s4⟩;rcases D with⟨d1,d2⟩|⟨d1,d2,d3,d4,d5⟩
 ·subst d2;rcases s5 with⟨e1,e2⟩|⟨e1,e2,e3,e4,e5,e6,e7,e8,e9,b,c⟩
  ·exact Or.inl ⟨e1.trans d1,e2⟩
  ·exact Or.inr ⟨e3,e4,e6,by rw[s4];exact e9,F.pos,e7,e5,e8,by rw[s4];exact b,by rw[s4];exact c⟩
 ·have e:bW base n cs F=(F,cs):=by unfold bW;rw[MK d2]
  rw[e];exact Or.inr ⟨d1,d2,d3,d4,d5⟩
def Dn{cs:List Int}(hv:v≠0)(hz:cell base cs i=0)(hi:base+i<cs.length): ∀m,cnt base (cs.set (base+i) v) m=cnt base cs m+(if i<m then 1 else 0):=by
 intro m
 induction m with
 |zero=>rfl
 |succ m ih=>
  unfold cnt;rw[ih,jc hi];by_cases h:m=i
  ·subst h;simp[hv,hz]
  ·rw[MG h];by_cases h':i<m
   ·rw[MK h',MK (by omega:i<m+1)];omega
   ·rw[MG h',MG (by omega: ¬i<m+1)];omega
def BU: ∀m,(∀i,i<m->cell base cs i≠0)->cnt base cs m=m:=by
 intro m
 induction m with
 |zero=>intro _;rfl
 |succ m ih=>
  intro h;unfold cnt;rw[ih λi hi=>h i ah,MG (h m ah)]
def zw: ∀m,(∀i,i<m->cell base cs i=0)->cnt base cs m=0:=by
 intro m
 induction m with
 |zero=>intro _;rfl
 |succ m ih=>
  intro h;unfold cnt;rw[ih λi hi=>h i ah,MK (h m ah)]
def jY.empty(h: ∀i,i<n->cell base cs i=0):jY base n cs:=λi hi a=>Nc (h i hi) a
def tP(l a b:Nat):Nat:=l*2^56+(a*2^28+b)
def Av(ha:a<2^28)(hb:b<2^28)(c:a'<2^28)(d:b'<2^28)(e:tP l a b=tP l' a' b'):l=l'/\a=a'/\b=b':=by unfold tP at e;omega
def og{a:Nat}(ha:a<2^32):(BitVec.ofInt 32 (a:Int)).toNat=a:=by rw[BitVec.toNat_ofInt];omega
def gC{a:Nat}(ha:a<2^32):IntKind.wrap .u32 (a:Int)=a:=by simp[IntKind.wrap,IntKind.bits,IntKind.signed];omega
def AG{a b:Nat}(ha:a<2^32)(hb:b<2^32):bo .and .u32 (a:Int) (b:Int)=((a&&&b:Nat):Int):=by unfold bo;show IntKind.wrap .u32 ((BitVec.ofInt 32 (a:Int)&&&BitVec.ofInt 32 (b:Int)).toNat:Int)=_;rw[BitVec.toNat_and,og ha,og hb];exact gC (by have:= @Nat.and_le_left a b;omega)
def Ff{a:Nat}(ha:a<2^28):bo .and .u32 (a:Int) 268435455=(a:Int):=by rw[show(268435455:Int)=((2^28-1:Nat):Int) by rfl,AG ah (by decide),Nat.and_two_pow_sub_one_eq_mod,OM ha]
def FU{h:aI}{l a b:Nat}{K:KK}(hl:l<256)(ha:a<2^28)(hb:b<2^28)(hK:K (ar ((tP l a b:Nat):Int)) h):
  Cl 198 [ap (l:Int),aq (a:Int),aq (b:Int)] h K:=by
 refine F198.spec ?_;refine F245.spec ?_;have U: ∀{x:Nat},x<2^64->IntKind.wrap .u64 (x:Int)=(x:Int):=λh=>jk (by unfold fV;omega)
 have e1:IntKind.wrap .u64 ((IntKind.wrap .u64 (IntKind.wrap .u8 (l:Int)))*2^(min (Int.toNat (56:Int)) (IntKind.bits .u64)))=((l<<<56:Nat):Int):=by rw[show IntKind.wrap .u8 (l:Int)=(l:Int)from t8 hl,U ah,show min (Int.toNat (56:Int)) (IntKind.bits .u64)=56 by rfl,show(l:Int)*2^56=((l*2^56:Nat):Int) by omega,U ah,Nr]
 have e2:IntKind.wrap .u64 ((IntKind.wrap .u64 (bo .and .u32 (a:Int) 268435455))*2^(min (Int.toNat (28:Int)) (IntKind.bits .u64)))=((a<<<28:Nat):Int):=by rw[Ff ha,U ah,show min (Int.toNat (28:Int)) (IntKind.bits .u64)=28 by rfl,show(a:Int)*2^28=((a*2^28:Nat):Int) by omega,U ah,Nr]
 refine⟨ah,ah,aH rfl ?_⟩;rw[e1,e2,Ff hb,U ah];have s1:l<<<56<fV:=by rw[Nr];unfold fV;omega
 have s2:a<<<28<fV:=by rw[Nr];unfold fV;omega
 have s3:b<fV:=by unfold fV;omega
 rw[Fc s1 s2,Fc (nD s1 s2) s3,Qw,<-N0 hb,<-N0 (by rw[Nr];omega),Nr,Nr];exact hK
def EI{h:aI}{cs:List Int}(hp:rd h ⟨s,4,none⟩=some (au (aw t)))
  (Tb:dN h t m 0 T) (M:bG h m mc cs ops fails) (hn:1<=T) (hn2:T<1000000000) (hc:cs.length=T) (d4:t≠m) (d5:t≠mc) (bt:t<h.size) (bm:m<h.size) (y:mc<h.size)
  (I:jY 0 T cs) (hk:key≠0) (u: ∀j,j<T->cell 0 cs j≠key)  (hz:z<T) (x:cell 0 cs z=0)
  (hK: ∀h' i c a,i<T->cell 0 cs i=0->dN h' t m 0 T->bG h' m mc (cs.set i key) c a->jY 0 T (cs.set i key)->aM [m,mc] h h'->K (.tuple #[ap (i:Int),aC]) h'):
  Cl 197 [au (aw s),ar key] h K:=by
 refine F197.spec _ _ h K ?_;simp only[aL,MF];refine aR hp ?_;refine xP Tb hn hn2 λf h1 H1 O1 hf=>aR rfl ?_;unfold F197.wk3;have ht:=Tb.only O1 ak;have hm:=M.only O1 ak ak
 have fin: ∀(F:Fi) (cs':List Int) (h':aI) (c a:Int),F.done=true->CI 0 T cs cs' F->F.key=key->dl h' f t F->dN h' t m 0 T->bG h' m mc cs' c a->aM [m,mc] h h'->
   F197.wk4 (some (aw f)) h' K:=by
  intro F cs' h' c a hd R ek H Tb M O;unfold F197.wk4;refine xR H ⟨_,_,rfl,yf H (aZ rfl ?_)⟩;obtain⟨R1,R2,R3,R4⟩:=R;have ze:cell 0 cs z=0:=x;rcases R4 with⟨r1,r2⟩|⟨r1,r2,r3,r4,i,r5,r6,r7,r8,r9⟩
  ·subst r2;rcases R1.ended hd with⟨e1,_⟩|⟨_,_,i,hi,_,e4⟩|⟨_,_,_,_,e5⟩
   ·exact Nc (ek▸e1) hk
   ·exact Nc (e4.trans ek) (u i hi)
   ·exact Nc ze (e5 z hz).1
  ·rw[r6,r1];rw[MF,ek]at r9;rw[r9]at M R2;exact hK h' i _ _ r5 r7 Tb M R2 O
 have n: ∀(d:Nat) (F:Fi) (cs':List Int) (h':aI) (c a:Int),CI 0 T cs cs' F->F.key=key->dl h' f t F->dN h' t m 0 T->bG h' m mc cs' c a->aM [m,mc] h h'->
   (F.done=false-> ∀g o k,(bW 0 T cs' F).1.done=false->CI 0 T cs (bW 0 T cs' F).2 (bW 0 T cs' F).1->(bW 0 T cs' F).1.key=key->dl g f t (bW 0 T cs' F).1->dN g t m 0 T->bG g m mc (bW 0 T cs' F).2 o k->aM [m,mc] h g->
    F197.wL3 d (some (aw f)) (.func (.func 242) #[au (aw f)] #[]) g K)->
   F197.wL3 (d+1) (some (aw f)) (.func (.func 242) #[au (aw f)] #[]) h' K:=by
  intro d F cs' h' c a R ek H Tb M O nx;have A:cs'.length=T:=R.2.2.1.1.trans hc;obtain⟨R',l⟩:=R.step hn ah;rw[F197.sL3];refine bu (by kernel_rfl) ?_;refine yk Tb H M hn hn2 ah R.1.pos (λhd=>(R.1.going hd).2.1) (by have:=R.1.left;omega) ah ah ah ah d4 d5 λh2 v H2 T2 M2 O2=>aZ rfl ?_;have O':aM [m,mc] h h2:=O.trans O2 (by intro b hb hl;simp at hb ⊢;omega);refine aS (λhb=> ?_) λhb=> ?_
  ·have hb:(bW 0 T cs' F).1.done=false:=by simpa using hb
   refine nx ?_ h2 _ _ hb R' (l.trans ek) H2 T2 M2 O';cases hd:F.done with
   |false=>rfl
   |true=>
    have e:bW 0 T cs' F=(F,cs'):=by unfold bW;rw[MK hd]
    rw[e,hd]at hb;exact Nc hb ak
  ·have hb:(bW 0 T cs' F).1.done=true:=by simpa using hb
   exact fin _ _ _ _ _ hb R' (l.trans ek) H2 T2 M2 O'
 have q: ∀(d:Nat) (F:Fi) (cs':List Int) (h':aI) (c a:Int),uW 0 cs' F<=d->CI 0 T cs cs' F->F.key=key->dl h' f t F->dN h' t m 0 T->bG h' m mc cs' c a->aM [m,mc] h h'->
   F197.wL3 (d+1) (some (aw f)) (.func (.func 242) #[au (aw f)] #[]) h' K:=by
  intro d
  induction d with
  |zero=> 
   intro F cs' h' c a hd R ek H Tb M O;refine n 0 F cs' h' c a R ek H Tb M O λhf=> ?_;rw[BC (base:=0) (cs:=cs') (F:=F) ah]at hf;exact Nc hf ak
  |succ d ih=>
   intro F cs' h' c a hd R ek H Tb M O;refine n (d+1) F cs' h' c a R ek H Tb M O λhf h2 o2 f2 _ R' l H' T' M' O'=> ?_;exact ih _ _ _ _ _ (by have:=Bf (base:=0) (cs:=cs') R.1 hf;omega) R' l H' T' M' O'
 exact⟨_,q (3*T) (jA key T) cs h1 ops fails (Eo hn) (CI.new hn I) rfl H1 ht hm (by have:=(aM.refl [m,mc] h).trans O1 ak;exact this)⟩
def bS(h:aI)(b:Nat)(k:IntKind)(m:List (Int×Value)):Prop:=
 ∃es cl,mp h b=some (es,cl)/\es.toList.map (λe=>(e.key,e.val))=m.map (λp=>(Value.int k p.1,p.2))/\(m.map (·.1)).Nodup/\(es.toList.map (·.born)).Nodup/\ ∀e∈es.toList,e.born<cl
def bS.lt{h:aI}(H:bS h b k m):b<h.size:=by
 obtain⟨es,cl,h1,-⟩:=H;unfold mp at h1;cases hh:h[b]? with
 |none=>rw[hh]at h1;cases h1
 |some o=>exact(MR.1 hh).1
def bS.only(H:bS h b k m)(O:aM S h h')(hb:b∉S):bS h' b k m:=by have hl:=H.lt;obtain⟨es,cl,h1,h2⟩:=H;refine⟨es,cl,?_,h2⟩;unfold mp at h1 ⊢;rw[O.same b hl hb];exact h1
def kK(h1:mp h b=some (es,cl)):h[b]? =some (.map es cl):=by
 unfold mp at h1;cases hh:h[b]? with
 |none=>rw[hh]at h1;cases h1
 |some o=>
  rw[hh]at h1;cases o with
  |map a c=>injection h1 with h1;injection h1 with e1 e2;subst e1;subst e2;rfl
  |_=>cases h1
def aM.map{h:aI}(h1:mp h b=some (es,cl))(c:Array MapEntry)(d:Nat):aM [b] h (h.setIfInBounds b (.map c d)):=by
 have ho:=kK h1;refine⟨ak,λj hj hb=> ?_,λa=> ?_⟩
 ·rw[NU,MG (λe=>hb (by simp[e]))]
 ·unfold fz;rw[NU];by_cases e:b=a.block
  ·subst e;rw[MK rfl,MK (MR.1 ho).1,ho]
  ·rw[MG e]
def mj{h:aI}(h1:mp h b=some (es,cl))(a:Array MapEntry)(c:Nat):mp (h.setIfInBounds b (.map a c)) b=some (a,c):=by unfold mp;rw[NU,MK rfl,MK (MR.1 (kK h1)).1]
def jz: ∀(es:List MapEntry) (m:List (Int×Value)) (i:Nat),es.map (λe=>(e.key,e.val))=m.map (λp=>(Value.int k p.1,p.2))->
  (Instr.findNow (.int k) (.int k x) es i=some none/\m.lookup x=none/\ ∀p∈m,p.1≠x)\/
  ∃j v m1 m2,Instr.findNow (.int k) (.int k x) es i=some (some (i+j,v))/\m=m1++(x,v)::m2/\m1.length=j/\m.lookup x=some v/\(∀p∈m1,p.1≠x)
 | [],[],i,_=>Or.inl ⟨rfl,rfl,ak⟩
 | [],_::_,_,h=>by simp at h
 |_::_,[],_,h=>by simp at h
 |e::es,p::m,i,h=>by
  simp only[Nk,NL,PQ]at h;obtain⟨⟨h1,h2⟩,h3⟩:=h;by_cases hx:x=p.1
  ·subst hx;refine Or.inr ⟨0,p.2,[],m,?_,rfl,rfl,?_,ak⟩
   ·simp[Instr.findNow,Instr.sameNow,h1,h2]
   ·simp[List.lookup]
  ·have hs:Instr.sameNow (.int k) (.int k x) e.key=some false:=by simp[Instr.sameNow,h1,hx]
   rcases jz es m (i+1) h3 with⟨a,b,c⟩|⟨j,v,m1,m2,a,b,c,d,f⟩
   ·refine Or.inl ⟨?_,?_,?_⟩
    ·simp only[Instr.findNow,hs];exact a
    ·simp only[List.lookup,show(x==p.1)=false by simp[hx]];exact b
    ·intro q hq;rcases List.mem_cons.1 hq with rfl|hq
     ·exact λe=>hx e.symm
     ·exact c q hq
   ·refine Or.inr ⟨j+1,v,p::m1,m2,?_,by rw[b];rfl,by simp[c],?_,?_⟩
    ·simp only[Instr.findNow,hs];rw[a]
     congr 3
     omega
    ·simp only[List.lookup,show(x==p.1)=false by simp[hx]];exact d
    ·intro q hq;rcases List.mem_cons.1 hq with rfl|hq
     ·exact λe=>hx e.symm
     ·exact f q hq
def c8{m:List (Int×Value)}(H:bS h b k m)
  (hN:m.lookup x=none->K none) (hS: ∀i v,m.lookup x=some v->K (some (i,v))):dQ h (some b) k k x K:=by
 obtain⟨es,cl,h1,h2,h3,-⟩:=H;refine⟨es,cl,h1,?_⟩;rcases jz (x:=x) es.toList m 0 h2 with⟨a,c,-⟩|⟨j,v,m1,m2,a,c,d,e,-⟩
 ·exact⟨_,a,hN c⟩
 ·exact⟨_,a,hS _ v e⟩
def ik(m:List (Int×Value))(x:Int)(v:Value):List (Int×Value):=if(m.lookup x).isSome then m.map (λp=>if p.1=x then(x,v)else p)else m++[(x,v)]
def kX(m:List (Int×Value))(x:Int):List (Int×Value):=m.filter λp=>p.1≠x
def qF{m m':List (Int×Value)}:(m++m').lookup x=(m.lookup x).or (m'.lookup x):=by
 induction m with
 |nil=>simp[List.lookup]
 |cons p m ih=>
  simp only[NV,List.lookup];cases x==p.1<;>simp[ih]
def qJ{m:List (Int×Value)}:(ik m x v).map (·.1)=if(m.lookup x).isSome then m.map (·.1)else m.map (·.1)++[x]:=by
 unfold ik;split
 ·rw[On];apply NG;intro p _;simp only[Function.comp];split
  ·next e=>exact e.symm
  ·rfl
 ·simp
def dT{m:List (Int×Value)}:m.lookup x=none↔x∉m.map (·.1):=by
 induction m with
 |nil=>simp[List.lookup]
 |cons p m ih=>
  simp only[List.lookup,Nk,List.mem_cons,Oz];by_cases h:x=p.1
  ·subst h;simp
  ·simp only[show(x==p.1)=false by simp[h]];rw[ih];exact⟨λa=>⟨h,a⟩,λa=>a.2⟩
def cj{m:List (Int×Value)}:(ik m x v).lookup y=if y=x then some v else m.lookup y:=by
 unfold ik;split
 ·next hs=>
  induction m with
  |nil=>simp[List.lookup]at hs
  |cons p m ih=>
   simp only[Nk,List.lookup];by_cases hp:p.1=x
   ·rw[MK hp];by_cases hy:y=x
    ·subst hy;simp
    ·rw[MG hy];have e1:(y==x)=false:=by simp[hy]
     have e2:(y==p.1)=false:=by simp[hp,hy]
     simp only[e1,e2];clear ih hs
     induction m with
     |nil=>rfl
     |cons r m ih2=>
      simp only[Nk,List.lookup];by_cases hr:r.1=x
      ·rw[MK hr];have e3:(y==r.1)=false:=by simp[hr,hy]
       simp only[e1,e3];exact ih2
      ·rw[MG hr];cases y==r.1
       ·exact ih2
       ·rfl
   ·rw[MG hp]
    have a:(m.lookup x).isSome:=by simp only[List.lookup,show(x==p.1)=false by simp[Ne.symm hp]]at hs;exact hs
    by_cases hy:y=p.1
    ·subst hy;simp[hp]
    ·have e1:(y==p.1)=false:=by simp[hy]
     simp only[e1];exact ih a
 ·next hs=>
  have hn:m.lookup x=none:=by
   cases hh:m.lookup x with
   |none=>rfl
   |some v=>rw[hh]at hs;exact Nc rfl hs
  rw[qF];by_cases hy:y=x
  ·subst hy;rw[hn,MK rfl];simp[List.lookup]
  ·rw[MG hy];simp[List.lookup,show(y==x)=false by simp[hy]]
def ny{m:List (Int×Value)}:(kX m x).lookup y=if y=x then none else m.lookup y:=by
 unfold kX
 induction m with
 |nil=>simp[List.lookup]
 |cons p m ih=>
  by_cases hp:p.1=x
  ·rw[List.filter_cons_of_neg (by simp[hp]),ih];by_cases hy:y=x
   ·rw[MK hy,MK hy]
   ·rw[MG hy,MG hy];simp[List.lookup,show(y==p.1)=false by simp[hp,hy]]
  ·rw[List.filter_cons_of_pos (by simp[hp])];simp only[List.lookup];by_cases hy:y=p.1
   ·subst hy;simp[hp]
   ·simp only[show(y==p.1)=false by simp[hy]];exact ih
def DH{m1 m2:List (Int×Value)}{x:Int}{v v':Value}(h1: ∀p∈m1,p.1≠x)(h2: ∀p∈m2,p.1≠x):(m1++(x,v)::m2).map (λp=>if p.1=x then(x,v')else p)=m1++(x,v')::m2:=by
 have e: ∀l:List (Int×Value),(∀p∈l,p.1≠x)->l.map (λp=>if p.1=x then(x,v')else p)=l:=by
  intro l hl
  conv=>rhs;rw[<-List.map_id l]
  apply NG;intro p hp;rw[MG (hl p hp)]
  rfl
 rw[No,Nk,MK rfl,e m1 h1,e m2 h2]
def yu{m1 m2:List (Int×Value)}{x:Int}{v:Value}(h:((m1++(x,v)::m2).map (·.1)).Nodup):(∀p∈m1,p.1≠x)/\ ∀p∈m2,p.1≠x:=by rw[No,Nk]at h;obtain⟨h1,h2,h3⟩:=Nq.1 h;refine⟨λp hp e=>h3 p.1 (MY.2 ⟨p,hp,rfl⟩) x ak e,λp hp e=> ?_⟩;exact(Nt.1 h2).1 (MY.2 ⟨p,hp,e⟩)
def jN{h:aI}{b:Nat}{k:IntKind}{m:List (Int×Value)}{x:Int}(H:bS h b k m):
  ∃es cl,mp h b=some (es,cl)/\((Instr.findNow (.int k) (.int k x) es.toList 0=some none/\m.lookup x=none/\bS (h.setIfInBounds b (.map es cl)) b k (kX m x)/\
    (∀v,bS (h.setIfInBounds b (.map (es.push {key:= .int k x,val:=v,born:=cl}) (cl+1))) b k (ik m x v)))\/
   ∃j v,Instr.findNow (.int k) (.int k x) es.toList 0=some (some (j,v))/\m.lookup x=some v/\Instr.sameBits 10000 (((es[j]?).map (·.key)).getD (.int k x)) (.int k x)=true/\
    bS (h.setIfInBounds b (.map (es.eraseIdxIfInBounds j) cl)) b k (kX m x)/\(∃e,es[j]? =some e/\e.key= .int k x/\e.val=v/\ ∀i e',es[i]? =some e'->e'.key= .int k x->i=j)/\
    ∀(g:MapEntry->MapEntry) v',(∀e,es[j]? =some e->(g e).key= .int k x/\(g e).val=v'/\(g e).born=e.born)->bS (h.setIfInBounds b (.map (es.modify j g) cl)) b k (ik m x v')):=by
 obtain⟨es,cl,h1,h2,h3,h4,h5⟩:=H;refine⟨es,cl,h1,?_⟩;rcases jz (x:=x) es.toList m 0 h2 with⟨a,c,c'⟩|⟨j,v,m1,m2,a,c,d,e,e'⟩
 ·refine Or.inl ⟨a,c,⟨es,cl,mj h1 _ _,?_,?_,h4,h5⟩,λv=>⟨_,_,mj h1 _ _,?_,?_,?_,?_⟩⟩
  ·rw[show kX m x=m from NW.2 λp hp=>by simp[c' p hp]];exact h2
  ·rw[show kX m x=m from NW.2 λp hp=>by simp[c' p hp]];exact h3
  ·unfold ik;rw[MG (by simp[c])];simp[h2]
  ·rw[qJ,MG (by simp[c])];refine Nq.2 ⟨h3,ak,λy hy z hz=> ?_⟩;simp at hz;subst hz;intro e;subst e;exact dT.1 c hy
  ·simp only[Array.toList_push,No];refine Nq.2 ⟨h4,ak,λy hy z hz=> ?_⟩;simp at hz;subst hz;obtain⟨e0,f,rfl⟩:=MY.1 hy;have:=h5 e0 f;omega
  ·intro e0 f;simp only[Array.toList_push,List.mem_append,MH]at f;rcases f with f|rfl
   ·have:=h5 e0 f;omega
   ·exact Nat.lt_succ_self _
 ·subst c;obtain⟨n1,n2⟩:=yu h3;rw[MF]at a
  have u:j<es.size:=by have:=congrArg List.length h2;simp at this;omega
  have n:es.toList.map (λe=>(e.key,e.val))=m1.map (λp=>(Value.int k p.1,p.2))++(Value.int k x,v)::m2.map (λp=>(Value.int k p.1,p.2)):=by rw[h2];simp
  have o:(es.toList.map (λe=>(e.key,e.val)))[j]? =some (Value.int k x,v):=by rw[n,Np (by simp[d])];simp[d]
  obtain⟨e0,f,A,B⟩: ∃e0,es[j]? =some e0/\e0.key= .int k x/\e0.val=v:=by
   rw[Nf]at o;cases hh:es[j]? with
   |none=>simp[hh]at o
   |some e0=>
    simp[hh]at o;exact⟨e0,rfl,o.1,o.2⟩
  have t: ∀i e',es[i]? =some e'->e'.key= .int k x->i=j:=by
   intro i e' hi hk;have h6:=congrArg (λl=>l[i]?) n;simp only[Nf]at h6;rw[show es.toList[i]? =some e' by rw[<-hi];simp]at h6;by_cases hlt:i<j
   ·rw[MW (by simp;omega),Nf]at h6;cases hm:m1[i]? with
    |none=>simp[hm]at h6
    |some p=>
     simp[hm,hk]at h6;exact Nc h6.1.symm (n1 p (MM hm))
   ·by_cases hgt:j<i
    ·rw[Np (by simp;omega)]at h6;obtain⟨r,hr⟩: ∃r,i=j+1+r:=⟨i-j-1,ah⟩;subst hr;simp only[Oc,d]at h6;rw[show j+1+r-j=r+1 by omega,N8,Nf]at h6;cases hm:m2[r]? with
     |none=>simp[hm]at h6
     |some p=>
      simp[hm,hk]at h6;exact Nc h6.1.symm (n2 p (MM hm))
    ·omega
  refine Or.inr ⟨j,v,a,e,?_,⟨_,_,mj h1 _ _,?_,?_,?_,?_⟩,⟨e0,f,A,B,t⟩,λg v' hg=>⟨_,_,mj h1 _ _,?_,?_,?_,?_⟩⟩
  ·rw[f];simp[Instr.sameBits,A]
  ·have hd:kX (m1++(x,v)::m2) x=m1++m2:=by
    unfold kX;rw[NX,List.filter_cons_of_neg ak,NW.2 (λp hp=>by simp[n1 p hp]),NW.2 (λp hp=>by simp[n2 p hp])]
   rw[hd];simp only[Array.eraseIdxIfInBounds,u,dif_pos,Qc];rw[List.eraseIdx_eq_take_drop_succ,No,List.map_take,List.map_drop,n];have l1:(m1.map (λp=>(Value.int k p.1,p.2))).length=j:=by simp[d]
   rw[<-l1,Qh,PV,OS ah];simp
  ·have:=h3.sublist (l₁:=(kX (m1++(x,v)::m2) x).map (·.1)) (List.Sublist.map _ NZ);exact this
  ·simp only[Array.eraseIdxIfInBounds,u,dif_pos,Qc];exact h4.sublist (List.Sublist.map _ (List.eraseIdx_sublist _ _))
  ·simp only[Array.eraseIdxIfInBounds,u,dif_pos,Qc];exact λe1 q=>h5 e1 ((List.eraseIdx_sublist _ _).subset q)
  ·unfold ik;rw[MK (by simp[e]),DH n1 n2];rw[Qr];apply Ns;intro i;rw[Nf,Qj];have h6:=congrArg (λl=>l[i]?) n;simp only[Nf]at h6;by_cases hi:j=i
   ·subst hi;simp only[PC];rw[show es.toList[j]? =some e0 by rw[<-f];simp];obtain⟨g1,g2,-⟩:=hg e0 f;rw[No,Nk,Np (by simp[d])];simp[d,g1,g2]
   ·simp only[hi,NI];rw[No,Nk];rw[show((λa:MapEntry=>a)<$>es.toList[i]?)=es.toList[i]? by cases es.toList[i]? <;>rfl];rw[h6];by_cases hlt:i<j
    ·rw[MW (by simp;omega),MW (by simp;omega)]
    ·rw[Np (by simp;omega),Np (by simp;omega)];obtain⟨r,hr⟩: ∃r,i=j+1+r:=⟨i-j-1,ah⟩;subst hr;simp only[Oc,d];rw[show j+1+r-j=r+1 by omega]
     rfl
  ·rw[qJ,MK (by simp[e])];exact h3
  ·rw[show(es.modify j g).toList.map (·.born)=es.toList.map (·.born)from ?_]
   ·exact h4
   ·rw[Qr];apply Ns;intro i;rw[Nf,Qj,Nf];by_cases hi:j=i
    ·subst hi;rw[show es.toList[j]? =some e0 by rw[<-f];simp];simp[(hg e0 f).2.2]
    ·simp only[hi,NI];cases es.toList[i]? <;>rfl
  ·intro e1 q;rw[Qr]at q;obtain⟨i,hi⟩:=Ni.1 q;rw[Qj]at hi;by_cases hij:j=i
   ·subst hij;rw[show es.toList[j]? =some e0 by rw[<-f];simp]at hi;simp at hi;subst hi;rw[(hg e0 f).2.2];exact h5 e0 (MM (i:=j) (by rw[<-f];simp))
   ·simp only[hij,NI]at hi
    have:es.toList[i]? =some e1:=by
     cases hh:es.toList[i]? with
     |none=>rw[hh]at hi;cases hi
     |some e2=>rw[hh]at hi;exact hi
    exact h5 e1 (MM this)
def fh{h:aI}(H:bS h b k m)(hK: ∀h',bS h' b k (ik m x v)->aM [b] h h'->h'.size=h.size->K h'):lg h (some b) k k x v K:=by
 obtain⟨es,cl,h1,h2⟩:=jN (x:=x) H;refine⟨es,cl,h1,?_⟩;rcases h2 with⟨a,c,d,e⟩|⟨j,v0,a,c,d,e,f,g⟩
 ·exact⟨_,a,hK _ (e v) (aM.map h1 _ _) ak⟩
 ·exact⟨_,a,d,hK _ (g _ v λe _=>⟨rfl,rfl,rfl⟩) (aM.map h1 _ _) ak⟩
def rU{h:aI}(H:bS h b k m)(hK: ∀h',bS h' b k (kX m x)->aM [b] h h'->h'.size=h.size->K h'):yQ h (some b) k k x K:=by
 obtain⟨es,cl,h1,h2⟩:=jN (x:=x) H;refine⟨es,cl,h1,?_⟩;rcases h2 with⟨a,c,d,e⟩|⟨j,v0,a,c,d,e,f,g⟩
 ·exact⟨_,a,hK _ d (aM.map h1 _ _) ak⟩
 ·exact⟨_,a,hK _ e (aM.map h1 _ _) ak⟩
def FI(h:aI)(b:Nat)(k:IntKind)(x st:Int):Prop:= ∃(es:Array MapEntry) (cl i:Nat) (e:MapEntry),mp h b=some (es,cl)/\es[i]? =some e/\e.key= .int k x/\(e.born:Int)=st
def ED{h:aI}{m:List (Int×Value)}(H:bS h b k m)
  (hK: ∀v st h',v=(m.lookup x).getD z->bS h' b k (ik m x v)->FI h' b k x st->aM [b] h h'->h'.size=h.size->K v st h'):AH h (some b) k k x z K:=by
 obtain⟨es,cl,h1,h2⟩:=jN (x:=x) H;refine⟨es,cl,h1,?_⟩;rcases h2 with⟨a,c,d,e⟩|⟨j,v0,a,c,d,e,⟨e0,f1,f2,f3,f4⟩,g⟩
 ·refine⟨_,a,hK _ _ _ (by rw[c];rfl) (e z) ⟨_,_,es.size,{key:= .int k x,val:=z,born:=cl},mj h1 _ _,ak,rfl,rfl⟩ (aM.map h1 _ _) ak⟩
 ·refine⟨_,a,d,hK _ _ _ (by rw[c];rfl) (g _ v0 λe he=> ?_) ⟨_,_,j,{e0 with key:= .int k x},mj h1 _ _,by simp[Pj,f1],rfl,?_⟩ (aM.map h1 _ _) ak⟩
  ·rw[f1]at he;injection he with he;subst he;exact⟨rfl,f3,rfl⟩
  ·simp[f1]
def CN{h:aI}(H:bS h b k m)(S:FI h b k x st)
  (hK: ∀h',bS h' b k (ik m x v)->aM [b] h h'->h'.size=h.size->K h'):Cz h (some b) st v K:=by
 obtain⟨y,u,i,ei,s1,s2,s3,s4⟩:=S;have H':=H;obtain⟨es,cl,h1,h2⟩:=jN (x:=x) H;rw[h1]at s1;injection s1 with s1;injection s1 with s1 s1';subst s1 s1';refine⟨es,cl,h1,?_⟩;rcases h2 with⟨a,c,d,e⟩|⟨j,v0,a,c,d,e,⟨e0,f1,f2,f3,f4⟩,g⟩
 ·obtain⟨n,o,q1,q2,q3,q4,q5⟩:=H';rw[h1]at q1;injection q1 with q1;injection q1 with q1 q1';subst q1 q1';exfalso
  have h6:(es.toList.map (λe=>(e.key,e.val)))[i]? =some (Value.int k x,ei.val):=by rw[Nf,show es.toList[i]? =some ei by rw[<-s2];simp];simp[s3]
  rw[q2,Nf]at h6;cases hm:m[i]? with
  |none=>simp[hm]at h6
  |some p=>
   simp[hm]at h6;exact dT.1 c (MY.2 ⟨p,MM hm,h6.1⟩)
 ·have l:=f4 i ei s2 s3;subst l;obtain⟨n,o,q1,q2,q3,q4,q5⟩:=H';rw[h1]at q1;injection q1 with q1;injection q1 with q1 q1';subst q1 q1';have f:i<es.size:=(MR.1 s2).1;refine⟨i,?_,hK _ (g _ v λe he=> ?_) (aM.map h1 _ _) ak⟩
  ·rw[Array.findIdx?_eq_some_iff_getElem];refine⟨f,?_,λj t=> ?_⟩
   ·have:es[i]=ei:=(MR.1 s2).2;rw[this];simp[s4]
   ·have q:es[i]=ei:=(MR.1 s2).2;intro hb;have hb:(es[j].born:Int)=st:=by simpa using hb
    have:es[j].born=es[i].born:=by rw[q];omega
    have hnd:=List.nodup_iff_pairwise_ne.1 q4;rw[PN,Od]at hnd;exact hnd j i (by simp;omega) (by simpa using f) t (by simpa using this)
  ·rw[s2]at he;injection he with he;subst he;exact⟨s3,rfl,rfl⟩
def bS.empty(h1:mp h b=some (#[],0)):bS h b k []:=⟨#[],0,h1,rfl,ak,ak,ak⟩
abbrev Nd:=Nat×Nat×Nat
def kf(x:Nd):Nat:=tP x.1 x.2.1 x.2.2
def ky(x:Nd):Prop:=x.1<256/\x.2.1<2^28/\x.2.2<2^28/\x.2.1≠x.2.2
def tw(h:ky x):kf x≠0:=by obtain⟨a,b,c,d⟩:=h;unfold kf tP;omega
def wK(h:ky x)(g:ky y)(e:kf x=kf y):x=y:=by obtain⟨a,b,c⟩:=x;obtain⟨a',b',c'⟩:=y;obtain⟨e1,e2,e3⟩:=Av h.2.1 h.2.2.1 g.2.1 g.2.2.1 e;dsimp only at e1 e2 e3;rw[e1,e2,e3]
def nd(N:ay)(i:Nat):Option Nd:=(N[i]?).join
def bj(N:ay):Nat:=N.countP (·.isSome)
def dh:nd N i=some x↔N[i]? =some (some x):=by
 unfold nd;cases h:N[i]? with
 |none=>simp
 |some o=>simp
def jf{N:ay}(h:nd N i=some x):i<N.length:=(MQ.1 (dh.1 h)).1
def pA{N:ay}(h:N.length<=i):nd N i=none:=by
 unfold nd;rw[Nb h]
 rfl
def wd{N:ay}(k:Nat):nd (N++[o]) k=if k=N.length then o else nd N k:=by
 unfold nd;by_cases h:k<N.length
 ·rw[MW h,MG ah]
 ·by_cases e:k=N.length
  ·subst e;rw[MK rfl];simp
  ·rw[MG e,Nb (by simp;omega),Nb ah]
def fy{N:ay}(hi:i<N.length)(k:Nat):nd (N.set i o) k=if k=i then o else nd N k:=by
 unfold nd;rw[Nl];by_cases e:i=k
 ·subst e;rw[MK rfl,MK hi,MK rfl]
  rfl
 ·rw[MG e,MG (Ne.symm e)]
def nZ(N:ay)(o:Option Nd):bj (N++[o])=bj N+if o.isSome then 1 else 0:=by unfold bj;rw[List.countP_append,List.countP_singleton]
def lH: ∀N:ay,bj N<=N.length:=λN=>List.countP_le_length
def pT: ∀{N:ay} {i:Nat},N[i]? =some none->bj (N.set i (some x))=bj N+1
 | [],i,h=>by simp at h
 |o::N,0,h=>by simp at h;subst h;simp[bj]
 |o::N,i+1,h=>by have:=pT (x:=x) (N:=N) (i:=i) (by simpa using h);unfold bj at this ⊢;rw[NM,NQ,NQ,this];omega
def rH: ∀{N:ay} {i:Nat},N[i]? =some (some y)->bj (N.set i (some x))=bj N
 | [],i,h=>by simp at h
 |o::N,0,h=>by simp at h;subst h;simp[bj]
 |o::N,i+1,h=>by have:=rH (x:=x) (y:=y) (N:=N) (i:=i) (by simpa using h);unfold bj at this ⊢;rw[NM,NQ,NQ,this]
structure mR(T:Nat)(cs:List Int)(mm:List (Int×Value))(N:ay):Prop where
 len:cs.length=T
 inv:jY 0 T cs
 cells: ∀j,j<T->cell 0 cs j=0\/ ∃i x,nd N i=some x/\cell 0 cs j=(kf x:Int)/\mm.lookup (j:Int)=some (aq ((i+2:Nat):Int))
 all: ∀i x,nd N i=some x-> ∃j,j<T/\cell 0 cs j=(kf x:Int)
 cnt:cnt 0 cs T=bj N
 ok: ∀i x,nd N i=some x->ky x
def mR.congr(L:mR T cs mm N)(h: ∀k,nd N' k=nd N k)(hc:bj N'=bj N):mR T cs mm N':=
 ⟨L.len,L.inv,λj hj=>by
  rcases L.cells j hj with e|⟨i,x,e1,e2⟩
  ·exact .inl e
  ·exact .inr ⟨i,x,by rw[h];exact e1,e2⟩,λi x e=>L.all i x (by rw[<-h];exact e),by rw[hc];exact L.cnt,λi x e=>L.ok i x (by rw[<-h];exact e)⟩
def yV: ∀T,cnt 0 cs T<T-> ∃z,z<T/\cell 0 cs z=0:=λT h=>by
 by_cases e: ∃z,z<T/\cell 0 cs z=0
 ·exact e
 ·have:=BU T λi hi hz=>e ⟨i,hi,hz⟩;omega
def rD(N:ay)(k:Nat):Prop:= ∀i x,nd N i=some x->kf x≠k
def mR.absent(L:mR T cs mm N)(hk:k≠0)(hn:rD N k): ∀j,j<T->cell 0 cs j≠(k:Int):=λj hj e=>by
 rcases L.cells j hj with h|⟨i,x,h1,h2,_⟩
 ·omega
 ·exact hn i x h1 ah
def mR.put{cs:List Int}(L:mR T cs mm N)(hx:ky x)(hi:i<T)(hz:cell 0 cs i=0)(I:jY 0 T (cs.set i (kf x)))
  (hq:nd N q=none) (hN: ∀k,nd N' k=if k=q then some x else nd N k) (hc:bj N'=bj N+1):
  mR T (cs.set i (kf x)) (ik mm (i:Int) (aq ((q+2:Nat):Int))) N':=by
 have b:0+i<cs.length:=by have:=L.len;omega
 have a: ∀j,cell 0 (cs.set i (kf x:Int)) j=if j=i then(kf x:Int)else cell 0 cs j:=λj=>by have:=jc (base:=0) (cs:=cs) (i:=i) (j:=j) (v:=(kf x:Int)) b;rw[MF]at this;exact this
 have kx:=tw hx;refine⟨by rw[NT];exact L.len,I,λj hj=> ?_,λk y hy=> ?_,?_,λk y hy=> ?_⟩
 ·rw[a j,cj];by_cases e:j=i
  ·subst e;rw[MK rfl,MK rfl];exact .inr ⟨q,x,by rw[hN,MK rfl],rfl,rfl⟩
  ·rw[MG e,MG ah];rcases L.cells j hj with h|⟨k,y,h1,h2,h3⟩
   ·exact .inl h
   ·refine .inr ⟨k,y,?_,h2,h3⟩;rw[hN,MG]
    ·exact h1
    ·intro e2;subst e2;rw[hq]at h1;cases h1
 ·rw[hN]at hy;split at hy
  ·injection hy with hy;subst hy;exact⟨i,hi,by rw[a i,MK rfl]⟩
  ·obtain⟨j,h1,h2⟩:=L.all k y hy;refine⟨j,h1,?_⟩;rw[a j,MG ?_]
   ·exact h2
   ·intro e;subst e;rw[hz]at h2;have:=tw (L.ok k y hy);omega
 ·have:=Dn (base:=0) (cs:=cs) (i:=i) (v:=(kf x:Int)) ah hz b T;rw[MF,MK hi]at this;rw[this,L.cnt,hc]
 ·rw[hN]at hy;split at hy
  ·injection hy with hy;subst hy;exact hx
  ·exact L.ok k y hy
def wB{h:aI}{s t m mc sb T q:Nat}{S:List Value}{cs:List Int}{ops fails:Int}{mm:List (Int×Value)}{N N':ay}{x:Nd}{K:KK}(A:At h s S)
  (j:S[4]? =some (au (aw t))) (n:S[5]? =some (.map (some sb))) (ds:s∉[m,mc,sb])
  (Tb:dN h t m 0 T) (M:bG h m mc cs ops fails) (Mp:bS h sb .i64 mm) (hn2:T<1000000000) (d4:t∉[m,mc,sb]) (d7:m≠sb) (d8:mc≠sb) (bt:t<h.size) (bm:m<h.size) (o:mc<h.size)
  (L:mR T cs mm N) (hx:ky x) (d:rD N (kf x)) (c:bj N<T) (hq:nd N q=none) (hN: ∀k,nd N' k=if k=q then some x else nd N k) (hc:bj N'=bj N+1)
  (hK: ∀h' cs' f e a,At h' s S->dN h' t m 0 T->bG h' m mc cs' e a->bS h' sb .i64 f->mR T cs' f N'->aM [m,mc,sb] h h'->K aE h'):
  Cl 160 [au (aw s),aq ((q+2:Nat):Int),.agg #[aC,ap (x.1:Int),aq (x.2.1:Int),aq (x.2.2:Int)]] h K:=by
 simp only[List.mem_cons,Nw,NP,Oz]at d4 ds;refine F160.spec _ _ _ _ _ _ h K ?_;simp only[aL,MF];refine aX λh1 A1 O1 z1=> ?_;refine aH (by rw[At.rd A1];rfl) (aH (by rw[At.rd A1];rfl) (aH (by rw[At.rd A1];rfl) ?_));refine FU hx.1 hx.2.1 hx.2.2.1 (aH rfl ?_);obtain⟨z,hz,l⟩:=yV (cs:=cs) T (by rw[L.cnt];exact c);have As:=A.only O1 ak
 refine EI (t:=t) (by rw[At.rd As];exact j) (Tb.only O1 ak) (M.only O1 ak ak) ah hn2 L.len d4.1 d4.2.1 ah ah ah L.inv (by have:=tw hx;unfold kf at this;omega)
  (L.absent (tw hx) d) hz l λh2 i o2 f2 hi g T2 M2 I2 O2=>⟨_,_,rfl,?_⟩
 have As2:=As.only O2 (by simp;omega);refine⟨_,(by rw[At.rd As2];exact n),?_⟩;refine fh ((Mp.only O1 ak).only O2 (by simp;omega)) λh3 M3 O3 z3=> ?_;refine hK h3 _ _ _ _ (As2.only O3 (by simp;omega)) (T2.only O3 (by simp;omega)) (M2.only O3 (by simp;omega) (by simp;omega)) M3 (L.put hx hi g I2 hq hN hc) ?_;exact(((aM.refl [m,mc,sb] h).trans O1 ak).trans O2 (by intro b hb _;simp at hb ⊢;omega)).trans O3 (by intro b hb _;simp at hb ⊢;omega)
def F108.T:bi:=⟨[(3,[3,13,14])],[(5,[[(0,[]),(1,[]),(2,[]),(3,[]),(4,[]),(5,[]),(6,[]),(7,[]),(8,[]),(10,[]),(11,[]),(9,[2,3,5,10,11]),(12,[]),(13,[])]])]⟩
section
variable (n:Nat)(d:Int)(b:Addr)(c a:Int)(h:aI)(K:KK)
def F108.wL3:Prop:=Lp Tryz.f108 F108.T [1,1,0,1,0] n [(3,(au b)),(13,(ap c)),(14,(ap a))] h K
def F108.sL3:F108.wL3 (n+1) b c a h K=(aK (a<c) ((0<=a/\a<8/\aW h (((b.add 1).add (a.toNat*1)).add 0) (ap a) λd=>aF (au b)/\aF (ap a)/\aF (ap a)/\aF (au b)/\aF (au (b.add 9))/\0<=a/\a<8/\aW d (((b.add 9).add (a.toNat*1)).add 0) (ap a) λd=>F108.wL3 n b c (ax (a+1)) d K)) (K (au b) h)):=by kernel_rfl
def F108.wk3:Prop:=(∃d,F108.wL3 d b c a h K)
def F108.spec(H:bf h (.cells #[ap (if 8<(if 1>d then 1 else d)then 8 else(if 1>d then 1 else d)),ap 0,ap 0,ap 0,ap 0,ap 0,ap 0,ap 0,ap 0,ap 0,ap 0,ap 0,ap 0,ap 0,ap 0,ap 0,ap 0] 189) λa b=>aQ .i64 (rd b ((aw a).add 0)) λc=>F108.wk3 (aw a) c 0 b K):Cl 108 [ap d] h K:=cT F108.T Tryz.func108 H
end
def F48.T:bi:=⟨[],[(2,[[(0,[]),(1,[]),(2,[]),(3,[]),(4,[]),(5,[]),(6,[]),(7,[]),(8,[]),(9,[])]])]⟩
def F48.spec{a:Addr}(H:aQ .i64 (rd h (a.add 0)) λb=>0<=b/\b<=b/\(8*b<=281474976710656)/\b<=9223372036854775807/\bf h (.cells (madeCells #[ap 0] (b.toNat*1)) 3) λc d=>aQ .i64 (rd d (a.add 0)) λe=>0<=e/\e<=8/\wX d 1 (some (aw c)) (b.toNat) (some (if 8=0 then(a.add 1)else Addr.add (a.add 1) (0*1))) (e.toNat-0) λ_ a=>K (.slice (some (aw c)) (b.toNat) (b.toNat)) a):Cl 48 [au a] h K:=cT F48.T Tryz.func48 H
def F104.spec{a:Addr}(H:aQ .i64 (rd h (a.add 0)) λb=>aQ .i64 (rd h (a.add 1)) λc=>aQ .i64 (rd h (a.add 2)) λd=>aQ .i64 (rd h (a.add 3)) λe=>aQ .i64 (rd h (a.add 4)) λf=>aQ .i64 (rd h (a.add 5)) λg=>aQ .i64 (rd h (a.add 6)) λi=>aQ .i64 (rd h (a.add 7)) λj=>aQ .i64 (rd h (a.add 8)) λk=>aQ .i64 (rd h (a.add 9)) λl=>aQ .i64 (rd h (a.add 10)) λm=>aQ .i64 (rd h (a.add 11)) λn=>aQ .i64 (rd h (a.add 12)) λo=>aQ .i64 (rd h (a.add 13)) λp=>aQ .i64 (rd h (a.add 14)) λq=>aQ .i64 (rd h (a.add 15)) λr=>aQ .i64 (rd h (a.add 16)) λa=>bf h (.cells (Array.replicate 17 ((ap 0):Value)) 189) λs t=>aW t ((aw s).add 0) (ap b) λb=>aW b ((aw s).add 1) (ap c) λb=>aW b ((aw s).add 2) (ap d) λb=>aW b ((aw s).add 3) (ap e) λb=>aW b ((aw s).add 4) (ap f) λb=>aW b ((aw s).add 5) (ap g) λb=>aW b ((aw s).add 6) (ap i) λb=>aW b ((aw s).add 7) (ap j) λb=>aW b ((aw s).add 8) (ap k) λb=>aW b ((aw s).add 9) (ap l) λb=>aW b ((aw s).add 10) (ap m) λb=>aW b ((aw s).add 11) (ap n) λb=>aW b ((aw s).add 12) (ap o) λb=>aW b ((aw s).add 13) (ap p) λb=>aW b ((aw s).add 14) (ap q) λb=>aW b ((aw s).add 15) (ap r) λb=>aW b ((aw s).add 16) (ap a) λa=>K (au (aw s)) a):Cl 104 [au a] h K:=cN Tryz.func104 H
def F272.spec{i:Int}{a:Addr}(H:aK (i<0) (K (ap (-1)) h) (aQ .i64 (rd h (a.add 0)) λb=>aK (i>=b) (K (ap (-1)) h) ((0<=i/\i<8/\aQ .i64 (rd h ((a.add 1).add (i.toNat*1))) λa=>K (ap a) h)))):Cl 272 [au a,ap i] h K:=cN Tryz.func272 H
def F119.spec{a:Addr}(H:aQ .i64 (rd h (a.add 0)) λa=>K (ap a) h):Cl 119 [au a] h K:=cN Tryz.func119 H
def L8(f:Nat->Nat):List Value:=(List.range 8).map λi=>ap (f i:Int)
def iX(f:Nat->Nat)(k v:Nat):Nat->Nat:=λi=>if i=k then v else f i
def fY(f:Nat->Nat):(L8 f).length=8:=by simp[L8]
def sY(hi:i<8):(L8 f)[i]? =some (ap (f i:Int)):=by simp[L8,hi]
def Bp(f:Nat->Nat)(k v:Nat):(L8 f).set k (ap (v:Int))=L8 (iX f k v):=by
 apply Ns;intro i;by_cases h8:i<8
 ·rw[sY h8,Nl];by_cases h:k=i
  ·subst h;rw[MK rfl,MK (by rw[fY];exact h8)];simp[iX]
  ·rw[MG h,sY h8];simp[iX,Ne.symm h]
 ·rw[Nb (by simp[fY];omega),Nb (by simp[fY];omega)]
def cK(h:aI)(b n:Nat)(f g:Nat->Nat):Prop:=At h b (ap (n:Int)::(L8 f++L8 g))
def cK.only(H:cK h b n f g)(O:aM S h h')(hb:b∉S):cK h' b n f g:=At.only H O hb
def cK.rd0(H:cK h b n f g):rd h (aw b)=some (ap n):=by rw[At.rd H];rfl
def cK.rdv(H:cK h b n f g)(hi:i<8):rd h ⟨b,1+i,none⟩=some (ap (f i:Int)):=by rw[At.rd H,Nat.add_comm,N8,MW (by rw[fY];exact hi),sY hi]
def cK.rdl(H:cK h b n f g)(hi:i<8):rd h ⟨b,9+i,none⟩=some (ap (g i:Int)):=by rw[At.rd H,show 9+i=(8+i)+1 by omega,N8,Np (by rw[fY];omega),fY,show 8+i-8=i by omega,sY hi]
def cK.stv(H:cK h b n f g)(hi:i<8)
  (hK: ∀h',cK h' b n (iX f i v) g->aM [b] h h'->K h'):aW h ⟨b,1+i,none⟩ (ap (v:Int)) K:=by
 refine aU H (by simp[fY];omega) rfl λh' A O _=>hK h' ?_ O;rw[Nat.add_comm,NM,Pu _ _ (by rw[fY];exact hi),Bp]at A;exact A
def cK.stl(H:cK h b n f g)(hi:i<8)
  (hK: ∀h',cK h' b n f (iX g i v)->aM [b] h h'->K h'):aW h ⟨b,9+i,none⟩ (ap (v:Int)) K:=by
 refine aU H (by simp[fY];omega) rfl λh' A O _=>hK h' ?_ O;rw[show 9+i=(8+i)+1 by omega,NM,Pi _ _ (by rw[fY];omega),fY,show 8+i-8=i by omega,Bp]at A;exact A
def nO(H:cK h b n f g)(hn:n<=8)(hk:k<n)(hK:K (ap (f k:Int)) h):
  Cl 272 [au (aw b),ap (k:Int)] h K:=by
 apply F272.spec;simp only[aL,MF,Nz,MO];rw[MJ ah,aJ];refine aH H.rd0 ?_;rw[MJ ah,aJ];exact⟨ah,ah,aH (H.rdv ah) hK⟩
def Df(H:cK h b n f g)(hK:K (ap n) h):
  Cl 119 [au (aw b)] h K:=by
 apply F119.spec;simp only[aL,MF];exact aH H.rd0 hK
def sw(k:Nat)(f:Nat->Nat):Nat->Nat:=iX (iX f k (f (k+1))) (k+1) (f k)
def tf(k:Nat)(f g:Nat->Nat):Nat->Nat:=iX (iX g (f (k+1)) k) (f k) (k+1)
def fill(k:Nat):Nat->Nat:=λi=>if i<k then i else 0
def Br:iX (fill k) k k=fill (k+1):=by
 funext i;unfold iX fill;split
 ·next h=>subst h;simp
 ·split
  ·rw[MK ah]
  ·rw[MG ah]
def Aa{h0:aI}(hb:h0.size<=b)(hn:n<=8)(hK: ∀h',cK h' b n (fill n) (fill n)->aM [] h0 h'->K (au (aw b)) h'):
  ∀(m k:Nat) (h:aI),n-k<m->k<=n->cK h b n (fill k) (fill k)->aM [] h0 h->F108.wL3 m (aw b) (n:Int) (k:Int) h K:=by
 intro m
 induction m with
 |zero=>intro k h hm;omega
 |succ m ih=>
  intro k h hm hk H O;rw[F108.sL3];by_cases hlt:k<n
  ·rw[MP ah,aO];simp only[aL,MF,Nz,ML,MO];refine⟨ah,ah,H.stv ah λh1 A1 O1=>⟨trivial,trivial,trivial,trivial,trivial,ah,ah,A1.stl ah λh2 A2 O2=> ?_⟩⟩;rw[show ax ((k:Int)+1)=((k+1:Nat):Int) by rw[wrap_i64 ah ah];simp];rw[Br]at A2;exact ih (k+1) h2 ah ah A2 (O.trans (O1.trans (T:=[b]) O2 ak) λx hx hl=>Nc (show x=b by simpa using hx) ah)
  ·rw[MJ ah,aJ];obtain rfl:k=n:=ah;exact hK h H O
def ET{h:aI}(h1:1<=n)(h8:n<=8)(hK: ∀b h',cK h' b n (fill n) (fill n)->h.size<=b->aM [] h h'->K (au (aw b)) h'):
  Cl 108 [ap (n:Int)] h K:=by
 apply F108.spec;rw[MG (by omega: ¬(1:Int)>(n:Int)),MG (by omega: ¬(8:Int)<(n:Int))];refine aX λh2 A2 O2 z2=> ?_;have A2:cK h2 h.size n (fill 0) (fill 0):=A2;simp only[aL,MF];refine aH A2.rd0 ?_;unfold F108.wk3;exact⟨n+1,Aa (MN _) h8 (λh' H O=>hK h.size h' H (MN _) O) (n+1) 0 h2 ah ah A2 O2⟩
def DB: ∀(new:List Value) (i:Nat) (c:List Value) (h:aI),At h b c->i+new.length<=c.length->(∀v∈new,v.oneCell'=true)->
  (∀h',At h' b (c.take i++new++c.drop (i+new.length))->aM [b] h h'->K h')->pE (aw b) i new h K:=by
 intro new
 induction new with
 |nil=>
  intro i c h A hi hv hK;unfold pE;exact hK h (by simpa using A) (aM.refl _ _)
 |cons v vs ih=>
  intro i c h A hi hv hK;simp only[NJ]at hi;unfold pE;rw[aL,MF];refine aU A ah (hv v ak) λh1 A1 O1 _=>ih (i+1) _ h1 A1 (by simp;omega) (λx hx=>hv x (by simp[hx])) λh2 A2 O2=>hK h2 ?_ (O1.trans O2 ak)
  have e:(c.set i v).take (i+1)=c.take i++[v]:=by rw[List.take_set,Qy ah,Pi _ _ (by simp;omega)];simp[N7,Nat.min_eq_left (by omega:i<=c.length)]
  have e2:(c.set i v).drop (i+1+vs.length)=c.drop (i+(vs.length+1)):=by
   rw[List.drop_set_of_lt ah]
   congr 1
   omega
  rw[e,e2]at A2;simpa using A2
def CP{h:aI}(H:cK h b n f g)(hn:n<=8)
  (hK: ∀x h',At h' x (((List.range n).map λi=>(f i:Int)).map (.int .i64))->h.size<=x->aM [] h h'->K (.slice (some (aw x)) n n) h'):
  Cl 48 [au (aw b)] h K:=by
 apply F48.spec;simp only[aL,MF,Nz];refine aH H.rd0 ⟨ah,ah,ah,ah,aX λh1 A1 O1 z1=> ?_⟩;have H1:=H.only O1 ak;refine aH H1.rd0 ⟨ah,ah,?_⟩;rw[MG (by decide: ¬(8=0)),MO,OE,toList_madeCells_one]at*
 unfold wX;rw[show Nat.min n n=n from Nat.min_self n];refine⟨((List.range n).map λi=>(f i:Int)).map (.int .i64),ak,?_,?_⟩
 ·intro j v hj
  have a:j<n:=by have:=(MQ.1 hj).1;simpa using this
  rw[aL,H1.rdv ah,<-hj];simp[a]
 ·refine DB _ 0 _ h1 A1 ak (by simp[Value.oneCell']) λh2 A2 O2=>hK h.size h2 ?_ (MN _) ?_
  ·simpa using A2
  ·exact O1.trans O2 λx hx hl=>Nc (show x=h.size by simpa using hx) ah
def F109.spec(H:aK (i<0) (K (.tuple #[aA none,ap 61]) h) (aK (j<1) (K (.tuple #[aA none,ap 61]) h) (aK (j>1024) (K (.tuple #[aA none,ap 61]) h) (Cl 132 [au a] h λb c=>aQ .i64 (some b) λb=>aK (i>b) (K (.tuple #[aA none,ap 61]) c) (Cl 110 [ap j] c λb c=>aQ .i64 (some b) λb=>Cl 132 [au a] c λc d=>aQ .i64 (some c) λc=>aK (b>(ax (c-i))) (K (.tuple #[aA none,ap 61]) d) (bf d (.cells #[au a,ap i,ap j] 247) λa b=>K (.tuple #[au (aw a),ap 0]) b)))))):Cl 109 [au a,ap i,ap j] h K:=cN Tryz.func109 H
def F227.T:bi:=⟨[],[(1,[[(0,[]),(1,[]),(2,[]),(3,[]),(4,[]),(5,[]),(7,[]),(6,[0,1,2,3,7]),(8,[]),(9,[]),(10,[])]])]⟩
def F227.spec{a:Addr}(H:a8 (rd h (a.add 0)) λb=>Cl 274 [au a,ar i] h λc d=>aQ .i64 (some c) λc=>aF (au a)/\aF (au a)/\aF (au (a.add 0))/\a8 (rd d (a.add 0)) λa=>aG (aA a) (aA b)/\aF (ar i)/\bf d (.cells #[aA b,ap c,ar i,ar 0,ar 0,.nilFunc,aB,aB,ar 0] 345) λa b=>aW b (((aw a).add 5).add 0) (.func (.func 275) #[au (aw a)] #[]) λb=>K (au (aw a)) b):Cl 227 [au a,ar i] h K:=cT F227.T Tryz.func227 H
def F252.T:bi:=⟨[],[(1,[[(0,[]),(1,[]),(2,[]),(3,[]),(4,[]),(5,[]),(7,[]),(8,[]),(6,[0,1,2,3,7,8]),(9,[]),(10,[]),(11,[])]])]⟩
def F252.spec{a:Addr}(H:a8 (rd h (a.add 0)) λb=>Cl 274 [au a,ar i] h λc d=>aQ .i64 (some c) λc=>aF (au a)/\aF (au a)/\aF (au (a.add 0))/\a8 (rd d (a.add 0)) λa=>aG (aA a) (aA b)/\aF (ar i)/\aF (ar j)/\bf d (.cells #[aA b,ap c,ar i,ar j,ar 0,.nilFunc,aB,aB,ar 0] 345) λa b=>aW b (((aw a).add 5).add 0) (.func (.func 287) #[au (aw a)] #[]) λb=>K (au (aw a)) b):Cl 252 [au a,ar i,ar j] h K:=cT F252.T Tryz.func252 H
def F229.T:bi:=⟨[(3,[0])],[]⟩
section
variable (a:Addr)(h:aI)(K:KK)
def F229.wk3:Prop:=bP (rd h (a.add 6)) λa=>K (aD a) h
end
def F229.spec{a:Addr}(H:bP (rd h (a.add 6)) λb=>aK (!b) (lV (rd h (a.add 5)) λb=>eD Tryz.prog X b [] h λb c=>b=aE/\F229.wk3 a c K) (F229.wk3 a h K)):Cl 229 [au a] h K:=cT F229.T Tryz.func229 H
def F230.spec{a:Addr}(H:bP (rd h (a.add 6)) λb=>aK (!b) (K (.tuple #[ar 0,aB]) h) (bP (rd h (a.add 7)) λb=>aK (!b) (K (.tuple #[ar 0,aB]) h) (aQ .u64 (rd h (a.add 8)) λa=>K (.tuple #[ar a,aC]) h))):Cl 230 [au a] h K:=cN Tryz.func230 H
def F274.T:bi:=⟨[],[(1,[[(0,[]),(1,[]),(2,[]),(3,[]),(4,[]),(5,[]),(6,[]),(7,[]),(8,[]),(9,[0,1,2,3]),(10,[]),(11,[]),(12,[])]])]⟩
def F274.spec{a:Addr}(H:aQ .i64 (rd h (a.add 1)) λb=>aQ .i64 (rd h (a.add 2)) λc=>Cl 246 [ar i,ap c] h λc d=>aQ .i64 (some c) λc=>aF (au a)/\aF (au a)/\aF (au (a.add 1))/\aQ .i64 (rd d (a.add 1)) λa=>aG (ap a) (ap b)/\K (ap (ax (b+(ax (3*c))))) d):Cl 274 [au a,ar i] h K:=cT F274.T Tryz.func274 H
def F275.T:bi:=⟨[],[(0,[[(0,[]),(1,[]),(2,[]),(3,[]),(4,[]),(5,[]),(6,[]),(7,[]),(8,[]),(9,[0]),(10,[]),(11,[]),(12,[])]])]⟩
def F275.spec{a:Addr}(H:a8 (rd h (a.add 0)) λb=>aQ .i64 (rd h (a.add 1)) λc=>Cl 162 [aA b,ap c] h λb c=>aQ .u64 (some b) λb=>aF (au a)/\aW c ((a.add 4).add 0) (ar b) λb=>aW b ((a.add 5).add 0) (.func (.func 302) #[au a] #[]) λb=>aQ .u64 (rd b (a.add 4)) λc=>aW b ((a.add 6).add 0) (aD ((bo .and .u64 c 3) !=2)) λa=>K aE a):Cl 275 [au a] h K:=cT F275.T Tryz.func275 H
def F287.T:bi:=⟨[],[(0,[[(0,[]),(1,[]),(2,[]),(3,[]),(4,[]),(5,[]),(6,[]),(7,[]),(8,[]),(9,[0]),(10,[]),(11,[]),(12,[])]])]⟩
def F287.spec{a:Addr}(H:a8 (rd h (a.add 0)) λb=>aQ .i64 (rd h (a.add 1)) λc=>Cl 162 [aA b,ap c] h λb c=>aQ .u64 (some b) λb=>aF (au a)/\aW c ((a.add 4).add 0) (ar b) λb=>aW b ((a.add 5).add 0) (.func (.func 308) #[au a] #[]) λb=>aQ .u64 (rd b (a.add 4)) λc=>aW b ((a.add 6).add 0) (aD ((bo .and .u64 c 1) !=0)) λa=>K aE a):Cl 287 [au a] h K:=cT F287.T Tryz.func287 H
def F302.T:bi:=⟨[],[(0,[[(0,[]),(1,[]),(2,[]),(3,[]),(4,[]),(5,[]),(6,[]),(7,[]),(8,[]),(9,[]),(11,[]),(12,[]),(13,[]),(14,[]),(10,[0,11,12,13,14]),(15,[]),(16,[]),(17,[]),(18,[])]])]⟩
def F302.spec{a:Addr}(H:a8 (rd h (a.add 0)) λb=>aQ .i64 (rd h (a.add 1)) λc=>aQ .u64 (rd h (a.add 2)) λd=>Cl 162 [aA b,ap (ax (c+1))] h λb c=>aQ .u64 (some b) λb=>aF (au a)/\aF (au a)/\aF (au a)/\aF (au (a.add 2))/\aQ .u64 (rd c (a.add 2)) λe=>aG (ar e) (ar d)/\aW c ((a.add 6).add 0) (aD (b !=d)) λb=>aW b ((a.add 5).add 0) (.func (.func 336) #[au a] #[]) λa=>K aE a):Cl 302 [au a] h K:=cT F302.T Tryz.func302 H
def F308.T:bi:=⟨[],[(1,[[(0,[]),(1,[]),(2,[]),(3,[]),(4,[]),(5,[]),(6,[]),(7,[]),(8,[]),(9,[]),(10,[]),(11,[]),(12,[]),(13,[]),(14,[]),(15,[]),(16,[]),(17,[]),(18,[0]),(19,[]),(20,[]),(21,[]),(22,[])]])]⟩
def F308.spec{a:Addr}(H:aW h ((a.add 5).add 0) (.func (.func 338) #[au a] #[]) λb=>a8 (rd b (a.add 0)) λc=>aQ .i64 (rd b (a.add 1)) λd=>aQ .u64 (rd b (a.add 4)) λe=>aQ .u64 (rd b (a.add 4)) λf=>Cl 163 [aA c,ap d,ar e,ar (bo .or .u64 f 1)] b λb c=>bP (some b) λb=>aF (au a)/\aW c ((a.add 6).add 0) (aD (!b)) λa=>K aE a):Cl 308 [au a] h K:=cT F308.T Tryz.func308 H
def F336.T:bi:=⟨[],[(0,[[(0,[]),(1,[]),(2,[]),(3,[]),(4,[]),(5,[]),(6,[]),(7,[]),(8,[]),(9,[]),(10,[0]),(11,[]),(12,[]),(13,[])]])]⟩
def F336.spec{a:Addr}(H:a8 (rd h (a.add 0)) λb=>aQ .i64 (rd h (a.add 1)) λc=>Cl 162 [aA b,ap (ax (c+2))] h λb c=>aQ .u64 (some b) λb=>aF (au a)/\aW c ((a.add 8).add 0) (ar b) λb=>aW b ((a.add 5).add 0) (.func (.func 355) #[au a] #[]) λa=>K aE a):Cl 336 [au a] h K:=cT F336.T Tryz.func336 H
def F338.T:bi:=⟨[],[(0,[[(0,[]),(1,[]),(2,[]),(3,[]),(4,[]),(5,[]),(6,[]),(7,[]),(8,[]),(9,[]),(10,[]),(11,[]),(12,[]),(13,[])]])]⟩
def F338.spec{a:Addr}(H:a8 (rd h (a.add 0)) λb=>aQ .i64 (rd h (a.add 1)) λc=>aQ .u64 (rd h (a.add 2)) λd=>Cl 282 [aA b,ap (ax (c+1)),ar d] h λb c=>b=aE/\aW c ((a.add 5).add 0) (.func (.func 356) #[au a] #[]) λa=>K aE a):Cl 338 [au a] h K:=cT F338.T Tryz.func338 H
def F355.T:bi:=⟨[],[(0,[[(0,[]),(1,[]),(2,[]),(3,[]),(4,[]),(5,[]),(6,[]),(7,[]),(8,[]),(10,[]),(11,[]),(12,[]),(13,[]),(9,[0,10,11,12,13]),(14,[]),(15,[]),(16,[]),(17,[])]])]⟩
def F355.spec{a:Addr}(H:a8 (rd h (a.add 0)) λb=>aQ .i64 (rd h (a.add 1)) λc=>aQ .u64 (rd h (a.add 4)) λd=>Cl 162 [aA b,ap c] h λb c=>aQ .u64 (some b) λb=>aF (au a)/\aF (au a)/\aF (au a)/\aF (au (a.add 4))/\aQ .u64 (rd c (a.add 4)) λe=>aG (ar e) (ar d)/\aW c ((a.add 7).add 0) (aD (b==d)) λb=>aW b ((a.add 6).add 0) aC λa=>K aE a):Cl 355 [au a] h K:=cT F355.T Tryz.func355 H
def F356.T:bi:=⟨[],[(0,[[(0,[]),(1,[]),(2,[]),(3,[]),(4,[]),(5,[]),(6,[]),(7,[]),(8,[]),(9,[]),(10,[]),(11,[]),(12,[]),(13,[])]])]⟩
def F356.spec{a:Addr}(H:a8 (rd h (a.add 0)) λb=>aQ .i64 (rd h (a.add 1)) λc=>aQ .u64 (rd h (a.add 3)) λd=>Cl 282 [aA b,ap (ax (c+2)),ar d] h λb c=>b=aE/\aW c ((a.add 5).add 0) (.func (.func 368) #[au a] #[]) λa=>K aE a):Cl 356 [au a] h K:=cT F356.T Tryz.func356 H
def F368.T:bi:=⟨[],[(0,[[(0,[]),(1,[]),(2,[]),(3,[]),(4,[]),(5,[]),(6,[]),(7,[]),(8,[]),(9,[]),(10,[]),(11,[]),(12,[]),(13,[]),(14,[])]])]⟩
def F368.spec{a:Addr}(H:a8 (rd h (a.add 0)) λb=>aQ .i64 (rd h (a.add 1)) λc=>aQ .u64 (rd h (a.add 4)) λd=>Cl 282 [aA b,ap c,ar (IntKind.wrap .u64 ((bo .or .u64 d 2)+4))] h λb c=>b=aE/\aW c ((a.add 6).add 0) aC λa=>K aE a):Cl 368 [au a] h K:=cT F368.T Tryz.func368 H
def mX(h:aI)(c m base n:Nat):Prop:=At h c [au (aw m),ap (base:Int),ap (n:Int)]
def mX.only(H:mX h t m base n)(O:aM S h h')(ht:t∉S):mX h' t m base n:=At.only H O ht
structure Ac where
 key:Int
 val:Int
 pos:Nat
 ver:Int
 ph:Nat
 done:Bool
 ok:Bool
 got:Int
def LR:Nat->Nat
 |0=>287
 |1=>308
 |2=>338
 |3=>356
 |4=>368
 |5=>275
 |6=>302
 |7=>336
 |_=>355
def Im:bQ X 287=some cH.go:=by kernel_rfl
def Ip:bQ X 308=some cH.go:=by kernel_rfl
def IH:bQ X 338=some cH.go:=by kernel_rfl
def JM:bQ X 356=some cH.go:=by kernel_rfl
def Iz:bQ X 368=some cH.go:=by kernel_rfl
def Jt:bQ X 275=some cH.go:=by kernel_rfl
def JE:bQ X 302=some cH.go:=by kernel_rfl
def JF:bQ X 336=some cH.go:=by kernel_rfl
def ID:bQ X 355=some cH.go:=by kernel_rfl
def Ha: ∀k,k<=8->bQ X (LR k)=some cH.go
 |0,_=>Im
 |1,_=>Ip
 |2,_=>IH
 |3,_=>JM
 |4,_=>Iz
 |5,_=>Jt
 |6,_=>JE
 |7,_=>JF
 |8,_=>ID
def Mz(f ph:Nat):Value:= .func (.func (LR ph)) #[au (aw f)] #[]
def gy(h:aI)(f m:Nat)(A:Ac):Prop:=
 At h f [au (aw m),ap (A.pos:Int),ar A.key,ar A.val,ar A.ver,Mz f A.ph,aD A.done,aD A.ok,ar A.got]
def gy.only(H:gy h f m A)(O:aM S h h')(ht:f∉S):gy h' f m A:=At.only H O ht
def bT(cs:List Int)(A:Ac):Ac×List Int:=
 if A.done then(A,cs)else
 match A.ph with
 |0=>({A with ver:=cs.getD A.pos 0,ph:=1,done:=bo .and .u64 (cs.getD A.pos 0) 1 !=0},cs)
 |1=>if cs.getD A.pos 0=A.ver then({A with ph:=2,done:=false},cs.set A.pos (bo .or .u64 A.ver 1))else({A with ph:=2,done:=true},cs)
 |2=>({A with ph:=3},cs.set (A.pos+1) A.key)
 |3=>({A with ph:=4},cs.set (A.pos+2) A.val)
 |4=>({A with done:=true},cs.set A.pos (IntKind.wrap .u64 (bo .or .u64 A.ver 2+4)))
 |5=>({A with ver:=cs.getD A.pos 0,ph:=6,done:=bo .and .u64 (cs.getD A.pos 0) 3 !=2},cs)
 |6=>({A with ph:=7,done:=cs.getD (A.pos+1) 0 !=A.key},cs)
 |7=>({A with ph:=8,got:=cs.getD (A.pos+2) 0},cs)
 |_=>({A with ok:=cs.getD A.pos 0==A.ver,done:=true},cs)
def rF{cs:List Int}:(bT cs A).2.length=cs.length:=by
 unfold bT
 repeat' split
 all_goals simp
def vI{cs:List Int}{A:Ac}(H:gy h f m A)(M:bG h m mc cs ops fails)(hp:A.pos+2<cs.length)(hc:cs.length<1000000000)(k:A.ph<=8)(d2:f≠m)(d3:f≠mc)
  (hK: ∀h' j d,gy h' f m (bT cs A).1->bG h' m mc (bT cs A).2 j d->aM [f,m,mc] h h'->K (aD (bT cs A).1.done) h'):
  Cl 229 [au (aw f)] h K:=by
 apply F229.spec;simp only[aL,MF];refine aZ (n:=A.done) (by rw[At.rd H];rfl) ?_
 have a: ∀h' j d,gy h' f m (bT cs A).1->bG h' m mc (bT cs A).2 j d->aM [f,m,mc] h h'->F229.wk3 (aw f) h' K:=by intro h' j d a1 a2 a3;unfold F229.wk3;simp only[aL,MF];exact aZ (by rw[At.rd a1];rfl) (hK h' j d a1 a2 a3)
 cases hd:A.done with
 |true=>
  rw[Ng,aJ];have e:bT cs A=(A,cs):=by unfold bT;rw[MK hd]
  rw[e]at a;exact a h ops fails H M (aM.refl _ _)
 |false=>
  rw[Nx,aO];have hs: ∀b∈[m,mc],b∈[f,m,mc]:=by simp+contextual
  have hS: ∀b∈[f],b∈[f,m,mc]:=ak;have i:=d2.symm;have g:=d3.symm;have w1:ax ((A.pos:Int)+1)=((A.pos+1:Nat):Int):=by rw[wrap_i64 ah ah];simp
  have w2:ax ((A.pos:Int)+2)=((A.pos+2:Nat):Int):=by rw[wrap_i64 ah ah];simp
  unfold bT at a;rw[MG (by simp[hd])]at a;have hx:=Ha A.ph k;refine⟨_,by rw[At.rd H];rfl,bu hx ?_⟩;clear hx;obtain⟨key,val,pos,ver,ph,done,ok,got⟩:=A;dsimp only at*
  subst hd
  match ph,k,H,a with
  |0,_,H,a=>
   refine F287.spec ?_;simp only[aL,MF,ML];refine aR (by rw[At.rd H];rfl) (aH (n:=(pos:Int)) (by rw[At.rd H];rfl) (ff M ah ah λh1 M1 O1=>aH rfl ⟨trivial,?_⟩));have H1:=H.only O1 (by simp[d2,d3]);rw[MO];refine aU H1 ak rfl λh2 A2 O2 _=>aU A2 ak rfl λh3 A3 O3 _=>aH (n:=cs.getD pos 0) (by rw[A3.rd];rfl) (aU A3 ak rfl λh4 A4 O4 _=>⟨by trivial,?_⟩);have O24:=(O2.trans O3 ak).trans O4 ak;exact a h4 _ _ A4 (M1.only O24 (by simp[i]) (by simp[g])) ((O1.mono λb hb _=>hs b hb).trans O24 λb hb _=>hS b hb)
  |1,_,H,a=>
   refine F308.spec ?_;simp only[aL,MF,ML];refine aU H ak rfl λh1 A1 O1 _=> ?_;have M1:=M.only O1 (by simp[i]) (by simp[g]);refine aR (by rw[A1.rd];rfl) (aH (n:=(pos:Int)) (by rw[A1.rd];rfl) (aH (n:=ver) (by rw[A1.rd];rfl) (aH (n:=ver) (by rw[A1.rd];rfl) ?_)));refine oz M1 ah ah (λe h2 M2 O2=>aZ rfl ⟨trivial,?_⟩) λe h2 M2 O2=>aZ rfl ⟨trivial,?_⟩
   all_goals rw[MO]at e
   ·rw[MO]at M2;refine aU (A1.only O2 (by simp[d2,d3])) ak rfl λh3 A3 O3 _=>⟨by trivial,?_⟩;rw[MK e]at a;exact a h3 _ _ A3 (M2.only O3 (by simp[i]) (by simp[g])) (((O1.mono λb hb _=>hS b hb).trans O2 λb hb _=>hs b hb).trans O3 λb hb _=>hS b hb)
   ·refine aU (A1.only O2 (by simp[d2,d3])) ak rfl λh3 A3 O3 _=>⟨by trivial,?_⟩;rw[MG e]at a;exact a h3 _ _ A3 (M2.only O3 (by simp[i]) (by simp[g])) (((O1.mono λb hb _=>hS b hb).trans O2 λb hb _=>hs b hb).trans O3 λb hb _=>hS b hb)
  |2,_,H,a=>
   refine F338.spec ?_;simp only[aL,MF,ML];refine aR (by rw[At.rd H];rfl) (aH (n:=(pos:Int)) (by rw[At.rd H];rfl) (aH (n:=key) (by rw[At.rd H];rfl) ?_));rw[w1];refine gF M ah ah λh1 M1 O1=>⟨rfl,aU (H.only O1 (by simp[d2,d3])) ak rfl λh2 A2 O2 _=>⟨by trivial,?_⟩⟩;rw[MO]at M1;exact a h2 _ _ A2 (M1.only O2 (by simp[i]) (by simp[g])) ((O1.mono λb hb _=>hs b hb).trans O2 λb hb _=>hS b hb)
  |3,_,H,a=>
   refine F356.spec ?_;simp only[aL,MF,ML];refine aR (by rw[At.rd H];rfl) (aH (n:=(pos:Int)) (by rw[At.rd H];rfl) (aH (n:=val) (by rw[At.rd H];rfl) ?_));rw[w2];refine gF M ah ah λh1 M1 O1=>⟨rfl,aU (H.only O1 (by simp[d2,d3])) ak rfl λh2 A2 O2 _=>⟨by trivial,?_⟩⟩;rw[MO]at M1;exact a h2 _ _ A2 (M1.only O2 (by simp[i]) (by simp[g])) ((O1.mono λb hb _=>hs b hb).trans O2 λb hb _=>hS b hb)
  |4,_,H,a=>
   refine F368.spec ?_;simp only[aL,MF,ML];refine aR (by rw[At.rd H];rfl) (aH (n:=(pos:Int)) (by rw[At.rd H];rfl) (aH (n:=ver) (by rw[At.rd H];rfl) ?_));refine gF M ah ah λh1 M1 O1=>⟨rfl,aU (H.only O1 (by simp[d2,d3])) ak rfl λh2 A2 O2 _=>⟨by trivial,?_⟩⟩;rw[MO]at M1;exact a h2 _ _ A2 (M1.only O2 (by simp[i]) (by simp[g])) ((O1.mono λb hb _=>hs b hb).trans O2 λb hb _=>hS b hb)
  |5,_,H,a=>
   refine F275.spec ?_;simp only[aL,MF,ML];refine aR (by rw[At.rd H];rfl) (aH (n:=(pos:Int)) (by rw[At.rd H];rfl) (ff M ah ah λh1 M1 O1=>aH rfl ⟨trivial,?_⟩));have H1:=H.only O1 (by simp[d2,d3]);rw[MO];refine aU H1 ak rfl λh2 A2 O2 _=>aU A2 ak rfl λh3 A3 O3 _=>aH (n:=cs.getD pos 0) (by rw[A3.rd];rfl) (aU A3 ak rfl λh4 A4 O4 _=>⟨by trivial,?_⟩);have O24:=(O2.trans O3 ak).trans O4 ak;exact a h4 _ _ A4 (M1.only O24 (by simp[i]) (by simp[g])) ((O1.mono λb hb _=>hs b hb).trans O24 λb hb _=>hS b hb)
  |6,_,H,a=>
   refine F302.spec ?_;simp only[aL,MF,ML];refine aR (by rw[At.rd H];rfl) (aH (n:=(pos:Int)) (by rw[At.rd H];rfl) (aH (n:=key) (by rw[At.rd H];rfl) ?_));rw[w1];refine ff M ah ah λh1 M1 O1=>aH rfl ⟨trivial,trivial,trivial,trivial,?_⟩;have H1:=H.only O1 (by simp[d2,d3]);rw[MO];refine aH (n:=key) (by rw[At.rd H1];rfl) ⟨rfl,aU H1 ak rfl λh2 A2 O2 _=>aU A2 ak rfl λh3 A3 O3 _=>⟨by trivial,?_⟩⟩;have O24:=O2.trans O3 ak;exact a h3 _ _ A3 (M1.only O24 (by simp[i]) (by simp[g])) ((O1.mono λb hb _=>hs b hb).trans O24 λb hb _=>hS b hb)
  |7,_,H,a=>
   refine F336.spec ?_;simp only[aL,MF,ML];refine aR (by rw[At.rd H];rfl) (aH (n:=(pos:Int)) (by rw[At.rd H];rfl) ?_);rw[w2];refine ff M ah ah λh1 M1 O1=>aH rfl ⟨trivial,?_⟩;have H1:=H.only O1 (by simp[d2,d3]);rw[MO];refine aU H1 ak rfl λh2 A2 O2 _=>aU A2 ak rfl λh3 A3 O3 _=>⟨by trivial,?_⟩;have O24:=O2.trans O3 ak;exact a h3 _ _ A3 (M1.only O24 (by simp[i]) (by simp[g])) ((O1.mono λb hb _=>hs b hb).trans O24 λb hb _=>hS b hb)
  |8,_,H,a=>
   refine F355.spec ?_;simp only[aL,MF,ML];refine aR (by rw[At.rd H];rfl) (aH (n:=(pos:Int)) (by rw[At.rd H];rfl) (aH (n:=ver) (by rw[At.rd H];rfl) ?_));refine ff M ah ah λh1 M1 O1=>aH rfl ⟨trivial,trivial,trivial,trivial,?_⟩;have H1:=H.only O1 (by simp[d2,d3]);rw[MO];refine aH (n:=ver) (by rw[At.rd H1];rfl) ⟨rfl,aU H1 ak rfl λh2 A2 O2 _=>aU A2 ak rfl λh3 A3 O3 _=>⟨by trivial,?_⟩⟩;have O24:=O2.trans O3 ak;exact a h3 _ _ A3 (M1.only O24 (by simp[i]) (by simp[g])) ((O1.mono λb hb _=>hs b hb).trans O24 λb hb _=>hS b hb)
def eS(base n:Nat)(key:Int):Nat:=base+3*gP key n
def qM{h:aI}{c m base n:Nat}{K:KK}{key:Int}(C:mX h c m base n)(hn:1<=n)(hn2:n<10000)(hb:base<1000000)(hK:K (ap (eS base n key:Int)) h):Cl 274 [au (aw c),ar key] h K:=by
 apply F274.spec;simp only[aL,MF];have hl:=gc key hn;have r1:rd h ⟨c,1,none⟩=some (ap (base:Int)):=by rw[At.rd C];rfl
 refine aH r1 (aH (n:=(n:Int)) (by rw[At.rd C];rfl) (mf hn ah (aH rfl ⟨trivial,trivial,trivial,aH r1 ⟨rfl,?_⟩⟩)))
 rw[show ax ((base:Int)+ax (3*(gP key n:Int)))=(eS base n key:Int) by unfold eS;rw[wrap_i64 (n:=3*(gP key n:Int)) ah ah,wrap_i64 ah ah];simp]
 exact hK
def Ho(base n:Nat)(key:Int):Ac:=⟨key,0,eS base n key,0,5,false,false,0⟩
def HB(base n:Nat)(key val:Int):Ac:=⟨key,val,eS base n key,0,0,false,false,0⟩
def zo{h:aI}(C:mX h c m base n)(hn:1<=n)(hn2:n<10000)(hb:base<1000000)
  (hK: ∀f h',gy h' f m (Ho base n key)->aM [] h h'->h.size<=f->K (au (aw f)) h'):Cl 227 [au (aw c),ar key] h K:=by
 apply F227.spec;simp only[aL,MF,ML];have r0:rd h (aw c)=some (au (aw m)):=by rw[At.rd C];rfl
 refine aR r0 (qM C hn hn2 hb (aH rfl ⟨trivial,trivial,trivial,aR r0 ⟨rfl,trivial,aX λh1 A1 O1 z1=>aU A1 ak rfl λh2 A2 O2 _=> ?_⟩⟩));exact hK h.size h2 A2 (O1.trans O2 λb hb hl=>Nc (show b=h.size by simpa using hb) ah) (MN _)
def An{h:aI}(C:mX h c m base n)(hn:1<=n)(hn2:n<10000)(hb:base<1000000)
  (hK: ∀f h',gy h' f m (HB base n key val)->aM [] h h'->h.size<=f->K (au (aw f)) h'):Cl 252 [au (aw c),ar key,ar val] h K:=by
 apply F252.spec;simp only[aL,MF,ML];have r0:rd h (aw c)=some (au (aw m)):=by rw[At.rd C];rfl
 refine aR r0 (qM C hn hn2 hb (aH rfl ⟨trivial,trivial,trivial,aR r0 ⟨rfl,trivial,trivial,aX λh1 A1 O1 z1=>aU A1 ak rfl λh2 A2 O2 _=> ?_⟩⟩));exact hK h.size h2 A2 (O1.trans O2 λb hb hl=>Nc (show b=h.size by simpa using hb) ah) (MN _)
def yP(A:Ac):Int:=if A.done&&A.ok then A.got else 0
def yJ(A:Ac):Bool:=A.done&&A.ok
def Cp(H:gy h f m A)(hK:K (.tuple #[ar (yP A),aD (yJ A)]) h):Cl 230 [au (aw f)] h K:=by
 apply F230.spec;simp only[aL,MF];unfold yP yJ at hK;refine aZ (n:=A.done) (by rw[At.rd H];rfl) (aS (λe=> ?_) λe=>aZ (n:=A.ok) (by rw[At.rd H];rfl) (aS (λe'=> ?_) λe'=>aH (n:=A.got) (by rw[At.rd H];rfl) ?_))
 ·have e:A.done=false:=by simpa using e
  simpa[e]using hK
 ·have e:A.done=true:=by simpa using e
  have e':A.ok=false:=by simpa using e'
  simpa[e,e']using hK
 ·have e:A.done=true:=by simpa using e
  have e':A.ok=true:=by simpa using e'
  simpa[e,e']using hK
def qk(h0:1<=k)(h1:k<1000000)(hK:K (ap (3*k)) h):Cl 110 [ap k] h K:=by apply F110.spec;rw[MJ ah,aJ,wrap_i64 ah ah];exact hK
def uQ{h:aI}{cs:List Int}(M:bG h m mc cs ops fails)(hn:1<=n)(hn2:n<=1024)(hb:base+3*n<=cs.length)(hc:cs.length<1000000)
  (hK: ∀c h',mX h' c m base n->aM [] h h'->h.size<=c->K (.tuple #[au (aw c),ap 0]) h'):
  Cl 109 [au (aw m),ap (base:Int),ap (n:Int)] h K:=by
 apply F109.spec;rw[MJ ah,aJ,MJ ah,aJ,MJ ah,aJ];refine im M (aH rfl ?_);rw[MJ ah,aJ];refine qk ah ah (aH rfl (im M (aH rfl ?_)));rw[wrap_i64 ah ah,MJ ah,aJ];exact aX λh1 A1 O1 z1=>hK h.size h1 A1 O1 (MN _)
def Eb{x:Int}(h0:0<=x)(h1:x<18446744073709551616):(BitVec.ofInt 64 x).toNat=x.toNat:=by
 rw[BitVec.toNat_ofInt]
 congr 1
 omega
def CV(h0:0<=x)(h1:x<18446744073709551616):bo .and .u64 x 1=x%2:=by show IntKind.wrap .u64 (((BitVec.ofInt 64 x&&&BitVec.ofInt 64 1).toNat:Nat):Int)=_;rw[BitVec.toNat_and,Eb h0 h1,show(BitVec.ofInt 64 1).toNat=1 from rfl,Nat.and_one_is_mod,bY ah ah];omega
def yv(h0:0<=x)(h1:x<18446744073709551616):bo .and .u64 x 3=x%4:=by show IntKind.wrap .u64 (((BitVec.ofInt 64 x&&&BitVec.ofInt 64 3).toNat:Nat):Int)=_;rw[BitVec.toNat_and,Eb h0 h1,show(BitVec.ofInt 64 3).toNat=2^2-1 from rfl,Nat.and_two_pow_sub_one_eq_mod,bY ah ah];omega
def wo(n:Nat):n|||2=4*(n/4)+2+n%2:=by
 apply Qg;intro i
 match i with
 |0=>
  rw[PF];simp[Oy];omega
 |1=>
  rw[PF,ND,ND,ND,Oy,Oy,Oy];simp;omega
 |i+2=>
  rw[PF,ND,ND,ND,ND,ND,ND];rw[show 2/2/2=0 by omega,show(4*(n/4)+2+n%2)/2/2=n/2/2 by omega];simp
def Hv(h0:0<=x)(h1:x<18446744073709551616):bo .or .u64 x 2=4*(x/4)+2+x%2:=by show IntKind.wrap .u64 (((BitVec.ofInt 64 x|||BitVec.ofInt 64 2).toNat:Nat):Int)=_;rw[BitVec.toNat_or,Eb h0 h1,show(BitVec.ofInt 64 2).toNat=2 from rfl,wo,bY ah ah];omega
def oT(h:n<18446744073709551616):n&&&18446744073709551613=4*(n/4)+n%2:=by
 apply Qg;intro i
 match i with
 |0=>
  rw[PZ];simp[Oy];omega
 |1=>
  rw[PZ,ND,ND,ND,Oy,Oy,Oy];simp;omega
 |i+2=>
  rw[PZ,ND,ND,ND,ND,ND,ND];rw[show 18446744073709551613/2/2=2^62-1 by decide,Nat.testBit_two_pow_sub_one,show(4*(n/4)+n%2)/2/2=n/2/2 by omega];by_cases hi:i<62
  ·simp[hi]
  ·have:n/2/2<2^i:=Oh (show n/2/2<2^62 by omega) (OG ah ah);rw[Ou this];simp
def v7(h0:0<=x)(h1:x<18446744073709551616):bo .andNot .u64 x 2=4*(x/4)+x%2:=by show IntKind.wrap .u64 (((BitVec.ofInt 64 x&&& ~~~ BitVec.ofInt 64 2).toNat:Nat):Int)=_;rw[BitVec.toNat_and,Eb h0 h1,show(~~~ BitVec.ofInt 64 2).toNat=18446744073709551613 from rfl,oT ah,bY ah ah];omega
def vT(pos:Nat)(key val:Int)(cs cs':List Int):Prop:=
 cs'.length=cs.length/\(∀x,x≠pos->x≠pos+1->x≠pos+2->cs'.getD x 0=cs.getD x 0)/\
 ((bo .and .u64 (cs.getD pos 0) 1=0/\cs'.getD pos 0=IntKind.wrap .u64 (bo .or .u64 (cs.getD pos 0) 2+4)/\cs'.getD (pos+1) 0=key/\cs'.getD (pos+2) 0=val)\/
  (bo .and .u64 (cs.getD pos 0) 1≠0/\cs'=cs))
def vq(pos:Nat)(key:Int)(cs:List Int)(v:Int)(ok:Bool):Prop:=
 (ok=true/\bo .and .u64 (cs.getD pos 0) 3=2/\cs.getD (pos+1) 0=key/\v=cs.getD (pos+2) 0)\/(ok=false/\v=0/\ ¬(bo .and .u64 (cs.getD pos 0) 3=2/\cs.getD (pos+1) 0=key))
def Ej(cs:List Int)(A:Ac):Prop:=
 A.done=false/\A.ok=false/\(A.ph=5\/(A.ph=6/\A.ver=cs.getD A.pos 0/\bo .and .u64 (cs.getD A.pos 0) 3=2)\/(A.ph=7/\A.ver=cs.getD A.pos 0/\bo .and .u64 (cs.getD A.pos 0) 3=2/\cs.getD (A.pos+1) 0=A.key)\/
  (A.ph=8/\A.ver=cs.getD A.pos 0/\bo .and .u64 (cs.getD A.pos 0) 3=2/\cs.getD (A.pos+1) 0=A.key/\A.got=cs.getD (A.pos+2) 0))
def Ej.step{A:Ac}(G:Ej cs A):(bT cs A).2=cs/\(bT cs A).1.pos=A.pos/\(bT cs A).1.key=A.key/\
  (((bT cs A).1.done=true/\vq A.pos A.key cs (yP (bT cs A).1) (yJ (bT cs A).1))\/(Ej cs (bT cs A).1/\(bT cs A).1.ph=A.ph+1)):=by
 obtain⟨key,val,pos,ver,ph,done,ok,got⟩:=A;obtain⟨hd,ho,G⟩:=G;dsimp only at hd ho G;subst hd ho;rcases G with rfl|⟨rfl,hv,h3⟩|⟨rfl,hv,h3,hk⟩|⟨rfl,hv,h3,hk,hg⟩
 ·by_cases h:bo .and .u64 (cs.getD pos 0) 3=2
  ·have e:(bo .and .u64 (cs.getD pos 0) 3 !=2)=false:=by simpa using h
   refine⟨rfl,rfl,rfl,Or.inr ⟨⟨?_,rfl,Or.inr (Or.inl ⟨rfl,rfl,h⟩)⟩,rfl⟩⟩;simpa[bT]using h
  ·have e:(bo .and .u64 (cs.getD pos 0) 3 !=2)=true:=by simpa using h
   refine⟨rfl,rfl,rfl,Or.inl ⟨?_,Or.inr ⟨?_,?_,λh'=>h h'.1⟩⟩⟩
   ·simpa[bT]using h
   ·simp[yJ,bT]
   ·simp[yP,bT]
 ·by_cases h:cs.getD (pos+1) 0=key
  ·refine⟨rfl,rfl,rfl,Or.inr ⟨⟨?_,rfl,Or.inr (Or.inr (Or.inl ⟨rfl,hv,h3,h⟩))⟩,rfl⟩⟩;simpa[bT]using h
  ·refine⟨rfl,rfl,rfl,Or.inl ⟨?_,Or.inr ⟨?_,?_,λh'=>h h'.2⟩⟩⟩
   ·simpa[bT]using h
   ·simp[yJ,bT]
   ·simp[yP,bT]
 ·exact⟨rfl,rfl,rfl,Or.inr ⟨⟨rfl,rfl,Or.inr (Or.inr (Or.inr ⟨rfl,hv,h3,hk,rfl⟩))⟩,rfl⟩⟩
 ·refine⟨rfl,rfl,rfl,Or.inl ⟨rfl,Or.inl ⟨?_,h3,hk,?_⟩⟩⟩
  ·simp[yJ,bT,hv]
  ·simp only[yP,bT,hv,hg];simp
def xm(a cs:List Int)(A:Ac):Prop:=
 A.done=false/\A.ok=false/\((A.ph=0/\cs=a)\/(bo .and .u64 (a.getD A.pos 0) 1=0/\A.ver=a.getD A.pos 0/\
  ((A.ph=1/\cs=a)\/(A.ph=2/\cs=a.set A.pos (bo .or .u64 A.ver 1))\/(A.ph=3/\cs=(a.set A.pos (bo .or .u64 A.ver 1)).set (A.pos+1) A.key)\/
   (A.ph=4/\cs=((a.set A.pos (bo .or .u64 A.ver 1)).set (A.pos+1) A.key).set (A.pos+2) A.val))))
def dC{l:List Int}(hi:i<l.length):(l.set i v).getD j 0=if i=j then v else l.getD j 0:=by
 by_cases h:i=j
 ·subst h;simp[hi]
 ·simp[List.getD,h]
def xm.step{a:List Int}{A:Ac}(hp:A.pos+2<a.length)(G:xm a cs A):(bT cs A).1.pos=A.pos/\(bT cs A).1.key=A.key/\(bT cs A).1.val=A.val/\
  (((bT cs A).1.done=true/\(bT cs A).1.ok=false/\vT A.pos A.key A.val a (bT cs A).2)\/(xm a (bT cs A).2 (bT cs A).1/\(bT cs A).1.ph=A.ph+1)):=by
 obtain⟨key,val,pos,ver,ph,done,ok,got⟩:=A;obtain⟨hd,ho,G⟩:=G;dsimp only at hd ho G hp;subst hd ho;rcases G with⟨rfl,rfl⟩|⟨h1,rfl,⟨rfl,rfl⟩|⟨rfl,rfl⟩|⟨rfl,rfl⟩|⟨rfl,rfl⟩⟩
 ·by_cases h:bo .and .u64 (cs.getD pos 0) 1=0
  ·refine⟨rfl,rfl,rfl,Or.inr ⟨⟨?_,rfl,Or.inr ⟨h,rfl,Or.inl ⟨rfl,rfl⟩⟩⟩,rfl⟩⟩;simpa[bT]using h
  ·refine⟨rfl,rfl,rfl,Or.inl ⟨?_,rfl,rfl,λ_ _ _ _=>rfl,Or.inr ⟨h,rfl⟩⟩⟩;simpa[bT]using h
 ·refine⟨?_,?_,?_,Or.inr ⟨⟨?_,?_,Or.inr ⟨?_,?_,Or.inr (Or.inl ⟨?_,?_⟩)⟩⟩,?_⟩⟩<;>simp[bT];exact h1
 ·exact⟨rfl,rfl,rfl,Or.inr ⟨⟨rfl,rfl,Or.inr ⟨h1,rfl,Or.inr (Or.inr (Or.inl ⟨rfl,rfl⟩))⟩⟩,rfl⟩⟩
 ·exact⟨rfl,rfl,rfl,Or.inr ⟨⟨rfl,rfl,Or.inr ⟨h1,rfl,Or.inr (Or.inr (Or.inr ⟨rfl,rfl⟩))⟩⟩,rfl⟩⟩
 ·refine⟨rfl,rfl,rfl,Or.inl ⟨rfl,rfl,by simp[bT],λx n1 n2 n3=> ?_,Or.inl ⟨h1,?_,?_,?_⟩⟩⟩
  ·simp only[bT,Nj,NI];rw[dC (by simp;omega),MG (Ne.symm n1),dC (by simp;omega),MG (Ne.symm n3),dC (by simp;omega),MG (Ne.symm n2),dC ah,MG (Ne.symm n1)]
  ·simp only[bT,Nj,NI];rw[dC (by simp;omega),MK rfl]
  ·simp only[bT,Nj,NI];rw[dC (by simp;omega),MG ah,dC (by simp;omega),MG ah,dC (by simp;omega),MK rfl]
  ·simp only[bT,Nj,NI];rw[dC (by simp;omega),MG ah,dC (by simp;omega),MK rfl]
structure CW(h:aI)(c m mc base n:Nat)(cs:List Int)(ops fails:Int):Prop where
 cac:mX h c m base n
 mem:bG h m mc cs ops fails
 d4:c≠m
 d5:c≠mc
 hn:1<=n
 hn2:n<=1024
 hc:base+3*n<=cs.length
 hl:cs.length<1000000
def CW.only(W:CW h c m mc base n cs ops fails)(O:aM S h h')(h1:c∉S)(h2:m∉S)(h3:mc∉S):CW h' c m mc base n cs ops fails:=
 ⟨W.cac.only O h1,W.mem.only O h2 h3,W.d4,W.d5,W.hn,W.hn2,W.hc,W.hl⟩
def CW.pos{cs:List Int}(W:CW h c m mc base n cs ops fails)(key:Int):eS base n key+2<cs.length:=by have:=gc key W.hn;have:=W.hc;unfold eS;omega
def CW.lt{h:aI}(W:CW h c m mc base n cs ops fails):c<h.size/\m<h.size/\mc<h.size:=⟨At.lt W.cac,W.mem.head.lt,W.mem.body.lt⟩
def uO{cs:List Int}{A:Ac}(W:CW h c m mc base n cs ops fails)(H:gy h f m A)(hp:A.pos+2<cs.length)(g:A.ph<=8)(d1:f≠c)(d2:f≠m)(d3:f≠mc)
  (hK: ∀h' e d,gy h' f m (bT cs A).1->CW h' c m mc base n (bT cs A).2 e d->aM [f,m,mc] h h'->K (aD (bT cs A).1.done) h'):
  Cl 229 [au (aw f)] h K:=
 vI H W.mem hp (Nat.lt_trans W.hl (by decide)) g d2 d3 λh' e d a b O=>
  hK h' e d a ⟨W.cac.only O (by simp[d1.symm,W.d4,W.d5]),b,W.d4,W.d5,W.hn,W.hn2,by rw[rF];exact W.hc,by rw[rF];exact W.hl⟩ O
def nu(h:aI)(lo:Nat)(p:Option Addr)(l c:Nat)(cs:List Value):Prop:=
 cs.length=l/\((p=none/\l=0/\c=0)\/ ∃b o,p=some ⟨b,o,none⟩/\lo<=b/\b<h.size/\((l=0/\c=0)\/ ∃a sp:List Value,a.length=o/\l<=c/\sp.length=c-l/\At h b (a++cs++sp)))
def nu.nil(h:aI)(lo:Nat):nu h lo none 0 0 []:=⟨rfl,Or.inl ⟨rfl,rfl,rfl⟩⟩
def nu.only(H:nu h lo p l c cs)(O:aM S h h')(hS: ∀b∈aV p,b∉S):nu h' lo p l c cs:=by
 obtain⟨e,H⟩:=H;rcases H with H|⟨b,o,h1,h2,h3,H⟩
 ·exact⟨e,Or.inl H⟩
 ·refine⟨e,Or.inr ⟨b,o,h1,h2,Oh h3 O.size,?_⟩⟩;rcases H with H|⟨a,sp,h4,h5,h6,h7⟩
  ·exact Or.inl H
  ·exact Or.inr ⟨a,sp,h4,h5,h6,h7.only O (hS b (by rw[h1];simp[aV]))⟩
def nu.lt{h:aI}(H:nu h lo p l c cs): ∀b∈aV p,lo<=b/\b<h.size:=by
 obtain⟨-,H⟩:=H;rcases H with⟨e,-⟩|⟨b,o,h1,h2,h3,-⟩
 ·subst e;simp[aV]
 ·subst h1;intro x hx;simp[aV]at hx;subst hx;exact⟨h2,h3⟩
def nu.rd{cs:List Value}(H:nu h lo p l c cs)(hj:j<cs.length): ∃a,p=some a/\rd h (a.add j)=cs[j]? :=by
 obtain⟨e,H⟩:=H;rcases H with⟨-,h0,-⟩|⟨b,o,h1,h2,h3,⟨h0,-⟩|⟨d,sp,h4,h5,h6,h7⟩⟩
 ·omega
 ·omega
 ·refine⟨_,h1,?_⟩;rw[aL,h7.rd,MW (by simp;omega),Np ah]
  congr 1
  omega
def nu.cap(H:nu h lo p l c cs):l<=c:=by
 obtain⟨e,H⟩:=H;rcases H with⟨-,h0,h1⟩|⟨b,o,h1,h2,h3,⟨h0,h4⟩|⟨a,sp,h4,h5,h6,h7⟩⟩
 ·omega
 ·omega
 ·exact h5
def nu.pop(H:nu h lo p (l+1) c (cs++[v])):nu h lo (if c=0 then p else Option.map (λa=>Addr.add a (0*1)) p) l c cs:=by
 have ep:(if c=0 then p else Option.map (λa=>Addr.add a (0*1)) p)=p:=by
  split
  ·rfl
  ·cases p with
   |none=>rfl
   |some a=>simp[Addr.add]
 rw[ep];obtain⟨e,H⟩:=H;rw[MZ,Nu]at e;refine⟨ah,?_⟩;rcases H with⟨-,h0,-⟩|⟨b,o,h1,h2,h3,⟨h0,-⟩|⟨d,sp,h4,h5,h6,h7⟩⟩
 ·omega
 ·omega
 ·exact Or.inr ⟨b,o,h1,h2,h3,Or.inr ⟨d,v::sp,h4,ah,by simp;omega,by simpa using h7⟩⟩
def xo{h:aI}{v:Value}
  (H:nu h lo p l c cs) (A:At h bx [v]) (g:(l+1)*f<=140737488355328) (hv:v.oneCell'=true) (k:lo<=h.size)
  (hK: ∀p' c' h',nu h' lo p' (l+1) c' (cs++[v])->aM (aV p) h h'->(∀b∈aV p',b∈aV p\/h.size<=b)->K p' (l+1) c' h'):
  fC h e 1 f #[z] p l c (some ⟨bx,0,none⟩) 1 K:=by
 obtain⟨d,H⟩:=H;refine⟨[v],rfl,fa A ak,λi=> ?_,λn=>⟨cs,ah,?_,g,λcap hc=> ?_⟩⟩
 ·rcases H with⟨-,h0,h1⟩|⟨b,o,h1,h2,h3,⟨h0,h4⟩|⟨a,sp,h4,h5,h6,h7⟩⟩
  ·omega
  ·omega
  ·subst h1;show pE ((⟨b,o,none⟩:Addr).add (l*1)) 0 [v] h _;rw[aL];refine jU [v] 0 _ h h7 (by simp;omega) (by simpa using hv) λh' A' O' z'=>hK _ _ h' ⟨by simp[d],Or.inr ⟨b,o,rfl,h2,ah,Or.inr ⟨a,sp.drop 1,h4,i,by simp;omega,?_⟩⟩⟩ O' λx hx=>Or.inl hx
   have e1:(a++cs++sp).take (o+l*1+0)=a++cs:=by rw[show o+l*1+0=(a++cs).length by simp;omega,Qh]
   have e2:(a++cs++sp).drop (o+l*1+0+[v].length)=sp.drop 1:=by
    rw[PV,OS (by simp;omega),NN]
    congr 1
    simp;omega
   rw[e1,e2]at A';simpa using A'
 ·rcases H with⟨e,h0,-⟩|⟨b,o,h1,h2,h3,⟨h0,h4⟩|⟨a,sp,h4,h5,h6,h7⟩⟩
  ·subst e;exact h0
  ·subst h1;obtain rfl:cs=[]:=List.length_eq_zero_iff.1 ah;intro j x hj;simp at hj
  ·subst h1
   exact fa h7 λj x hj=>by
    have m:=(MQ.1 hj).1;rw[MW (by simp;omega),Np ah,<-hj]
    congr 1
    omega
 ·refine hK _ _ _ ⟨by simp[d],Or.inr ⟨h.size,0,rfl,k,ak,Or.inr ⟨[],(Builtin.zeroCells #[z] (cap-(l+1))).toList,rfl,hc,by rw[fg];simp,?_⟩⟩⟩ ((aM.push_cells h _ e).mono ak) λx hx=>Or.inr ?_
  ·have:=At.push h (cs.toArray++ #[v]++Builtin.zeroCells #[z] (cap-(l+1))) e;simpa using this
  ·simp[aV]at hx;omega
def dr:Option Nd->List Value
 |some x=> [aC,ap (x.1:Int),aq (x.2.1:Int),aq (x.2.2:Int)]
 |none=> [aB,ap 0,aq 0,aq 0]
def dU(o:Option Nd):(dr o).length=4:=by cases o<;>rfl
def gQ:ay->List Value
 | []=> []
 |x::N=>dr x++gQ N
def gH: ∀N,(gQ N).length=N.length*4
 | []=>rfl
 |x::N=>by simp[gQ,dU,gH N];omega
def uF: ∀N M,gQ (N++M)=gQ N++gQ M
 | [],M=>rfl
 |x::N,M=>by simp[gQ,uF N M]
def pd: ∀(N:ay) (i:Nat) (x:Option Nd) (k:Nat),N[i]? =some x->k<4->(gQ N)[i*4+k]? =(dr x)[k]?
 | [],i,x,k,h,_=>by simp at h
 |y::N,0,x,k,h,hk=>by simp at h;subst h;rw[Nat.zero_mul,MF];exact MW (by rw[dU];exact hk)
 |y::N,i+1,x,k,h,hk=>by
  have:=pd N i x k (by simpa using h) hk;unfold gQ;rw[Np (by rw[dU];omega),<-this]
  congr 1
  rw[dU];omega
def mA: ∀(N:ay) (i:Nat) (o:Option Nd) (a b c d:Value),i<N.length->dr o=[a,b,c,d]->((((gQ N).set (i*4+0) a).set (i*4+1) b).set (i*4+2) c).set (i*4+3) d=gQ (N.set i o)
 | [],i,o,a,b,c,d,h,_=>by simp at h
 |y::N,0,o,a,b,c,d,h,e=>by
  simp only[gQ,PH,e];have:=dU y
  match hy:dr y,this with
  | [p,q,r,s],_=>simp
 |y::N,i+1,o,a,b,c,d,h,e=>by have ih:=mA N i o a b c d (by simpa using h) e;simp only[gQ,NM];rw[<-ih];have:=dU y;rw[show(i+1)*4+0=(dr y).length+(i*4+0) by omega,show(i+1)*4+1=(dr y).length+(i*4+1) by omega,show(i+1)*4+2=(dr y).length+(i*4+2) by omega,show(i+1)*4+3=(dr y).length+(i*4+3) by omega];simp only[List.set_append,Nat.not_lt.2 (Pn _ _),NI,Nat.add_sub_cancel_left]
def isN(N:ay)(a:Nat):Prop:=a<2\/ ∃x,nd N (a-2)=some x
def lvl(n:Nat)(N:ay)(a:Nat):Nat:=if a<2 then n else match nd N (a-2)with|some x=>x.1|none=>0
def low(N:ay)(a:Nat):Nat:=if a<2 then a else match nd N (a-2)with|some x=>x.2.1|none=>0
def high(N:ay)(a:Nat):Nat:=if a<2 then a else match nd N (a-2)with|some x=>x.2.2|none=>0
structure cY(n:Nat)(N:ay):Prop where
 node: ∀i x,nd N i=some x->x.1<n/\isN N x.2.1/\isN N x.2.2/\x.2.1≠x.2.2/\x.1<lvl n N x.2.1/\x.1<lvl n N x.2.2
 once: ∀i j x,nd N i=some x->nd N j=some x->i=j
structure SB where
 ob:Nat
 tb:Nat
 m:Nat
 mc:Nat
 sb:Nat
 cac:Nat
 cm:Nat
 cmc:Nat
 p:az
 c:Nat
 fp:az
 fc:Nat
def SB.bm(B:SB)(s:Nat):List Nat:=[s,B.ob,B.cac,B.cm,B.cmc]++aV B.p++aV B.fp
def SB.bt(B:SB):List Nat:=[B.tb,B.m,B.mc,B.sb]
def o0(F:List Nat):List Value:=F.map λ(a:Nat)=>aq (a:Int)
def ja(room:Nat)(B:SB)(l fl:Nat)(off:Bool):List Value:=[ap (room:Int),au (aw B.ob),.slice B.p l B.c,.slice B.fp fl B.fc,au (aw B.tb),.map (some B.sb),au (aw B.cac),aD off]
def lX(Q:Int->Int->Prop)(cs:List Int):Prop:= ∀l,l<256->0<=cs.getD (3*l) 0/\cs.getD (3*l) 0<18446744073709551616/\cs.getD (3*l) 0%2=0/\(cs.getD (3*l) 0%4=2->Q (cs.getD (3*l+1) 0) (cs.getD (3*l+2) 0))
def rI(h:aI)(B:SB)(Q:Int->Int->Prop):Prop:= ∃cs ops fails,CW h B.cac B.cm B.cmc 0 256 cs ops fails/\lX Q cs
def rI.only{B:SB}(H:rI h B Q)(O:aM S h h')(h1:B.cac∉S)(h2:B.cm∉S)(h3:B.cmc∉S):rI h' B Q:=by obtain⟨cs,o,f,a,b⟩:=H;exact⟨cs,o,f,a.only O h1 h2 h3,b⟩
structure gZ(h:aI)(s n room:Nat)(B:SB)(f g:Nat->Nat)(N:ay)(F:List Nat)(Q:Int->Int->Prop)(off:Bool):Prop where
 S:At h s (ja room B N.length F.length off)
 O:cK h B.ob n f g
 own:cw h 0 4 B.p N.length B.c (gQ N)
 fre:nu h 0 B.fp F.length B.fc (o0 F)
 cac:rI h B Q
 n8:1<=n/\n<=8
 len:N.length<=room/\room<=32768/\F.length<=N.length
 sep:(B.bm s).Nodup
def gY(h:aI)(B:SB)(E:ay)(T:Nat):Prop:= ∃cs mm ops fails,dN h B.tb B.m 0 T/\bG h B.m B.mc cs ops fails/\bS h B.sb .i64 mm/\mR T cs mm E
def gY.only{h h':aI}{B:SB}{E:ay}{T:Nat}{L:List Nat}(H:gY h B E T)(O:aM L h h')(hL: ∀b∈L,b∉B.bt):gY h' B E T:=by have d: ∀b,b∈B.bt->b∉L:=λb hb hl=>hL b hl hb;obtain⟨cs,mm,o,f',t1,t2,t3,t4⟩:=H;exact⟨cs,mm,o,f',t1.only O (d _ (by simp[SB.bt])),t2.only O (d _ (by simp[SB.bt])) (d _ (by simp[SB.bt])),t3.only O (d _ (by simp[SB.bt])),t4⟩
def gY.lt{h:aI}{B:SB}{E:ay}{T:Nat}(H:gY h B E T): ∀b∈B.bt,b<h.size:=λb hb=>by obtain⟨cs,mm,o,f',t1,t2,t3,-⟩:=H;have:=At.lt t1;have:=t2.head.lt;have:=t2.body.lt;have:=t3.lt;simp only[SB.bt,List.mem_cons,Nw,NP]at hb;omega
structure wG(h:aI)(s:Nat)(B:SB)(N:ay):Prop where
 tab: ∃T,gY h B N T/\(∃k,T=32*2^k)/\2*bj N<=T/\T<=262144
 nd:B.bt.Nodup
 sep: ∀b∈B.bt,b∉B.bm s
def gZ.only{B:SB}(H:gZ h s n room B f g N F Q off)(O:aM L h h')(hL: ∀b∈L,b∉B.bm s):gZ h' s n room B f g N F Q off:=by have d: ∀b,b∈B.bm s->b∉L:=λb hb hl=>hL b hl hb;exact⟨H.S.only O (d _ (by simp[SB.bm])),H.O.only O (d _ (by simp[SB.bm])),H.own.only O λb hb=>d _ (by simp[SB.bm,hb,aV]),H.fre.only O λb hb=>d _ (by simp[SB.bm,hb]),H.cac.only O (d _ (by simp[SB.bm])) (d _ (by simp[SB.bm])) (d _ (by simp[SB.bm])),H.n8,H.len,H.sep⟩
def wG.only{B:SB}(H:wG h s B N)(O:aM L h h')(hL: ∀b∈L,b∉B.bt):wG h' s B N:=by obtain⟨T,t,t5⟩:=H.tab;exact⟨⟨T,t.only O hL,t5⟩,H.nd,H.sep⟩
def gZ.lt{h:aI}{B:SB}(H:gZ h s n room B f g N F Q off): ∀b∈B.bm s,b<h.size:=λb hb=>by
 obtain⟨cs,o,f,c1,-⟩:=H.cac;have:=c1.lt;have:=H.S.lt;have:=At.lt H.O;simp only[SB.bm,List.mem_append,List.mem_cons,Nw,NP]at hb;rcases hb with(hb|hb)|hb
 ·omega
 ·exact(H.own.lt b hb).2
 ·exact(H.fre.lt b hb).2
def wG.lt{h:aI}{B:SB}(H:wG h s B N): ∀b∈B.bt,b<h.size:=by obtain⟨T,t,-⟩:=H.tab;exact t.lt
def wi(H:gZ h s n room B f g N F Q off)(hK:K (ap (n:Int)) h):Cl 75 [au (aw s)] h K:=by refine F75.spec ?_;simp only[aL,MF];refine aR (by rw[At.rd H.S];rfl) (Df H.O (aH rfl hK))
def qT{a:Nat}(h2:2<=a)(ha:a<4294967296):IntKind.wrap .u32 ((a:Int)-2)=((a-2:Nat):Int):=by rw[show(a:Int)-2=((a-2:Nat):Int) by omega];exact gC ah
def gZ.cells{B:SB}(H:gZ h s n room B f g N F Q off)(hi:N[i]? =some o): ∃b,B.p=some (aw b)/\ ∀k,k<4->rd h ⟨b,i*4+k,none⟩=(dr o)[k]? :=by
 have hl:=(MQ.1 hi).1
 have rr: ∀k,k<4-> ∃b,B.p=some (aw b)/\rd h ⟨b,i*4+k,none⟩=(dr o)[k]? :=λk hk=>by obtain⟨b,e1,e2⟩:=H.own.rd (j:=i*4+k) (by rw[gH];omega);exact⟨b,e1,by rw[e2,pd N _ o k hi hk]⟩
 obtain⟨b,e1,e2⟩:=rr 0 ah;refine⟨b,e1,λk hk=> ?_⟩;obtain⟨b',a,c⟩:=rr k hk;rw[e1]at a;injection a with a;injection a with a;subst a;exact c
def tR{h:aI}{s n room:Nat}{B:SB}{f g:Nat->Nat}{N:ay}{F:List Nat}{Q:Int->Int->Prop}{off:Bool}{K:KK}(H:gZ h s n room B f g N F Q off){a:Nat}(ha:a<4294967296)
  (h1:(∀x,2<=a->nd N (a-2)≠some x)->K (.pointer none) h)
  (h2: ∀b x,B.p=some (aw b)->2<=a->nd N (a-2)=some x->(∀k,k<4->rd h ⟨b,(a-2)*4+k,none⟩=(dr (some x))[k]?)->K (au ⟨b,(a-2)*4,none⟩) h):
  Cl 117 [au (aw s),aq (a:Int)] h K:=by
 refine F117.spec ?_;simp only[aL,MF];refine aS (λhb=> ?_) λhb=> ?_
 ·have hb:=MV hb;exact h1 λx h2=>ah
 have hb:=MU hb;have rs:rd h ⟨s,2,none⟩=some (.slice B.p N.length B.c):=by rw[At.rd H.S];rfl
 refine bB rs ?_;have w1:ax (a:Int)=(a:Int):=wrap_i64 ah ah;rw[w1,wrap_i64 ah ah,qT ah ha];refine aS (λhc=> ?_) λhc=> ?_
 ·have hc:=MV hc;exact h1 λx h2=>by rw[pA ah];simp
 have hc:=MU hc;have hi:a-2<N.length:=ah;obtain⟨o,ho⟩: ∃o,N[a-2]? =some o:=⟨_,MT hi⟩;obtain⟨b,e1,rb⟩:=H.cells ho;refine bB rs ?_;rw[e1,aT];refine⟨ah,ah,?_⟩;rw[aL,aL,show 0+Int.toNat ((a-2:Nat):Int)*4+0=(a-2)*4+0 by omega,rb 0 ah];cases o with
 |none=>
  refine aZ rfl ?_;rw[Nx,aO];exact h1 λx _=>by rw[Ne,dh,ho];simp
 |some x=>
  refine aZ rfl ?_;rw[Ng,aJ];refine bB rs ?_;rw[e1,aT];refine⟨ah,ah,?_⟩;rw[aL,show 0+Int.toNat ((a-2:Nat):Int)*4=(a-2)*4 by omega];exact h2 b x e1 ah (dh.2 ho) rb
def isN_lt{h:aI}{s n room:Nat}{B:SB}{f g:Nat->Nat}{N:ay}{F:List Nat}{Q:Int->Int->Prop}{off:Bool}(H:gZ h s n room B f g N F Q off){a:Nat}(ha:isN N a):a<N.length+2:=by
 rcases ha with h|⟨x,h⟩
 ·omega
 ·have:=jf h;omega
def Hy(H:gZ h s n room B f g N F Q off)(ha:a<4294967296)(h1:isN N a->K aC h)(h0: ¬isN N a->K aB h):Cl 74 [au (aw s),aq (a:Int)] h K:=by
 refine F74.spec ?_;refine aS (λhb=> ?_) λhb=> ?_
 ·have hb:=MV hb;exact h1 (.inl ah)
 have hb:=MU hb;refine tR H ha (λe=>aR rfl ?_) λb x e1 h2 hx r=>aR rfl ?_
 ·refine h0 λhn=> ?_;rcases hn with h|⟨x,h⟩
  ·omega
  ·exact e x ah h
 ·exact h1 (.inr ⟨x,hx⟩)
def lj(H:gZ h s n room B f g N F Q off)(ha:isN N a)(hK:K (ap (lvl n N a:Int)) h):Cl 71 [au (aw s),aq (a:Int)] h K:=by
 have hl:=H.len;have c:=isN_lt H ha;refine F71.spec ?_;unfold lvl at hK;refine aS (λhb=> ?_) λhb=> ?_
 ·have hb:=MV hb;rw[MK ah]at hK;exact wi H (aH rfl hK)
 have hb:=MU hb;rw[MG ah]at hK;refine tR H ah (λh1=> ?_) λb x e1 h2 hx r=>aR rfl ?_
 ·rcases ha with h|⟨x,h⟩
  ·omega
  ·exact Nc h (h1 x ah)
 rw[show(!(Option.isNone (some (⟨b,(a-2)*4,none⟩:Addr))))=true from rfl,aO,aT,aL,r 1 ah];refine aH rfl ?_;rw[hx]at hK;exact hK
def FY{h:aI}{s:Nat}{K:KK}{a:Nat}(ha:a<2)(hK:K (ap 1) h):Cl 118 [au (aw s),aq (a:Int)] h K:=by refine F118.spec ?_;exact aS (λ_=>hK) λhb=>Nc (MU hb) ah
def tV: ∀a:Fin 2,bo .and .u32 ((a.1:Nat):Int) (IntKind.wrap .u32 1)=((a.1:Nat):Int):=by decide+kernel
def AM{h:aI}{s n room:Nat}{B:SB}{f g:Nat->Nat}{N:ay}{F:List Nat}{Q:Int->Int->Prop}{off:Bool}{K:KK}(H:gZ h s n room B f g N F Q off){a:Nat}(ha:isN N a)(hK:K (aq (low N a:Int)) h):Cl 72 [au (aw s),aq (a:Int)] h K:=by
 have hl:=H.len;have c:=isN_lt H ha;refine F72.spec ?_;unfold low at hK;refine tR H ah (λh1=>aR rfl ?_) λb x e1 h2 hx r=>aR rfl ?_
 ·have h2:a<2:=by
   rcases ha with h|⟨x,h⟩
   ·exact h
   ·exact MS λhn=>h1 x ah h
  rw[MK h2]at hK;rw[show(!(Option.isNone (none:az)))=false from rfl,aJ];refine FY h2 ?_;refine aH rfl ?_;have:=tV ⟨a,h2⟩;dsimp only at this;rw[this];exact hK
 ·rw[MG ah,hx]at hK;rw[show(!(Option.isNone (some (⟨b,(a-2)*4,none⟩:Addr))))=true from rfl,aO,aT,aL,r 2 ah];exact aH rfl hK
def wI{h:aI}{s n room:Nat}{B:SB}{f g:Nat->Nat}{N:ay}{F:List Nat}{Q:Int->Int->Prop}{off:Bool}{K:KK}(H:gZ h s n room B f g N F Q off){a:Nat}(ha:isN N a)(hK:K (aq (high N a:Int)) h):Cl 73 [au (aw s),aq (a:Int)] h K:=by
 have hl:=H.len;have c:=isN_lt H ha;refine F73.spec ?_;unfold high at hK;refine tR H ah (λh1=>aR rfl ?_) λb x e1 h2 hx r=>aR rfl ?_
 ·have h2:a<2:=by
   rcases ha with h|⟨x,h⟩
   ·exact h
   ·exact MS λhn=>h1 x ah h
  rw[MK h2]at hK;rw[show(!(Option.isNone (none:az)))=false from rfl,aJ];refine FY h2 ?_;refine aH rfl ?_;have:=tV ⟨a,h2⟩;dsimp only at this;rw[this];exact hK
 ·rw[MG ah,hx]at hK;rw[show(!(Option.isNone (some (⟨b,(a-2)*4,none⟩:Addr))))=true from rfl,aO,aT,aL,r 3 ah];exact aH rfl hK
def tC{N:ay}{F:List Nat}(H:gZ h s n room B f g N F Q off)(hF:N.length=bj N+F.length)(hK:K (ap (bj N:Int)) h):Cl 45 [au (aw s)] h K:=by have hl:=H.len;refine F45.spec ?_;simp only[aL,MF];refine bB (by rw[At.rd H.S];rfl) (bB (by rw[At.rd H.S];rfl) ?_);rw[wrap_i64 ah ah,show((N.length:Nat):Int)-((F.length:Nat):Int)=(bj N:Int) by omega];exact hK
def Is{h:aI}{s n room:Nat}{B:SB}{f g:Nat->Nat}{N:ay}{F:List Nat}{Q:Int->Int->Prop}{off:Bool}{K:KK}{E:ay}{T:Nat}(H:gZ h s n room B f g N F Q off)(Tm:gY h B E T)(nn:B.bt.Nodup)(ss: ∀b∈B.bt,b∉B.bm s)(hT:1<=T)(t7:T<=262144){k:Nat}(hk:k≠0)
  (hY: ∀h' i x,nd E i=some x->kf x=k->aM [B.m,B.mc] h h'->gY h' B E T->K (.tuple #[aq ((i+2:Nat):Int),aC]) h')
  (hN: ∀h',rD E k->aM [B.m,B.mc] h h'->gY h' B E T->K (.tuple #[aq 0,aB]) h'):
  Cl 199 [au (aw s),ar (k:Int)] h K:=by
 obtain⟨cs,mm,ops,fails,t1,t2,t3,L⟩:=Tm;simp only[SB.bt,Nt,List.mem_cons,Nw,NP,Oz,Qi,Qd,not_false_eq_true]at nn;obtain⟨s1,s2,s3⟩:=nn;have sp:s∉B.bt:=λhm=>ss s hm (by simp[SB.bm]);simp only[SB.bt,List.mem_cons,Nw,NP,Oz]at sp;refine F199.spec _ _ h K ?_;simp only[aL,MF];refine aR (by rw[At.rd H.S];rfl) (gr t1 (aH rfl ?_));unfold F199.wk3
 have mk: ∀h' a,bG h' B.m B.mc cs a fails->aM [B.m,B.mc] h h'->gY h' B E T:=λh' a M O=>
  ⟨cs,mm,a,fails,t1.only O (by simp;omega),M,t3.only O (by simp;omega),L⟩
 have S': ∀{h'},aM [B.m,B.mc] h h'->At h' s (ja room B N.length F.length off):=λO=>H.S.only O (by simp;omega)
 have c: ∀(d i:Nat) (h':aI) (a:Int),i+d=T->qA 0 T cs (k:Int) i->bG h' B.m B.mc cs a fails->aM [B.m,B.mc] h h'->F199.wL3 (d+1) (aw s) (k:Int) (T:Int) (T:Int) (i:Int) h' K:=by
  intro d
  induction d with
  |zero=>
   intro i h' a hd S M O;rw[F199.sL3];rw[MJ ah,aJ];refine hN h' (λi0 x hx e=> ?_) O (mk h' a M O);obtain⟨j,hj,ej⟩:=L.all i0 x hx;obtain⟨d',l,ed⟩:=qY (key:=(k:Int)) hj;have:=(S d' ah).2;rw[ed,ej,e]at this;exact this rfl
  |succ d ih=>
   intro i h' a hd S M O;rw[F199.sL3];rw[MP ah,aO];refine mf ah ah (aH rfl ⟨ah,?_⟩);simp only[aL,MF];refine aR (by rw[At.rd (S' O)];rfl) ?_;have hh:=gc (k:Int) (n:=T) ah
   have ep:Int.tmod (ax ((gP (k:Int) T:Int)+(i:Int))) (T:Int)=((path T (k:Int) i:Nat):Int):=by
    unfold path;generalize gP (k:Int) T=y at hh;rw[wrap_i64 ah ah,show(y:Int)+(i:Int)=((y+i:Nat):Int) by omega,NH ah]
    rfl
   rw[ep];have hp:path T (k:Int) i<T:=sE ah;refine Dk (t1.only O (by simp;omega)) M ah ah (by have:=L.len;omega) hp λh2 M2 O2=>aH rfl ?_;have O':aM [B.m,B.mc] h h2:=O.trans O2 (by intro b hb _;exact hb);refine aS (λhb=> ?_) λhb=> ?_
   ·have hb:cell 0 cs (path T (k:Int) i)=(k:Int):=by simpa using hb
    refine⟨_,by rw[At.rd (S' O')];rfl,?_⟩;rcases L.cells _ hp with h0|⟨i0,x,c1,c2,c3⟩
    ·omega
    refine c8 (m:=mm) (t3.only O' (by simp;omega)) (λhn=>by rw[hn]at c3;cases c3) λj v hv=> ?_;rw[c3]at hv;injection hv with hv;subst hv;exact aH rfl (hY h2 i0 x c1 ah O' (mk h2 _ M2 O'))
   ·have hb:cell 0 cs (path T (k:Int) i)≠(k:Int):=by simpa using hb
    refine aS (λhz=> ?_) λhz=> ?_
    ·have hz:cell 0 cs (path T (k:Int) i)=0:=by simpa using hz
     refine hN h2 (λi0 x hx e=> ?_) O' (mk h2 _ M2 O');obtain⟨j,hj,ej⟩:=L.all i0 x hx;exact L.inv.absent ah ah S hz j hj (by rw[ej,e])
    ·have hz:cell 0 cs (path T (k:Int) i)≠0:=by simpa using hz
     rw[show ax ((i:Int)+1)=((i+1:Nat):Int) by rw[wrap_i64 ah ah];omega];refine ih (i+1) h2 _ ah (λj hj=> ?_) M2 O';by_cases e:j=i
     ·subst e;exact⟨hz,hb⟩
     ·exact S j ah
 exact⟨_,c T 0 h ops ah (λj hj=>ah) t2 (aM.refl _ _)⟩
def ye{A P P' C:List Nat}(H:(A++P++C).Nodup)(hp:P'.Nodup)(hx: ∀x∈P',x∉A/\x∉C):(A++P'++C).Nodup:=by simp only[Nq,List.mem_append,PY]at H ⊢;obtain⟨⟨h1,-,-⟩,h3,h4⟩:=H;exact⟨⟨h1,hp,λa ha b hb e=>(hx b hb).1 (e▸ha)⟩,h3,λa ha b hb e=>ha.elim (λh=>h4 a (.inl h) b hb e) λh=>(hx a h).2 (e▸hb)⟩
def qZ(p:az):(aV p).Nodup:=by cases p<;>simp[aV]
def SB.grow{B:SB}{s:Nat}{h:aI}{p':az}{c':Nat}(H:(B.bm s).Nodup)(a: ∀b∈B.bm s,b<h.size)(hp: ∀b∈aV p',b∈aV B.p\/h.size<=b):
  (SB.bm {B with p:=p',c:=c'} s).Nodup/\ ∀b∈SB.bm {B with p:=p',c:=c'} s,b∈B.bm s\/h.size<=b:=by
 refine⟨ye H (qZ p') λx hx=> ?_,λb hb=> ?_⟩
 ·rcases hp x hx with h1|h1
  ·unfold SB.bm at H;simp only[Nq,List.mem_append,PY]at H;obtain⟨⟨_,_,h2⟩,_,h4⟩:=H;exact⟨λhA=>h2 x hA x h1 rfl,λhC=>h4 x (.inr h1) x hC rfl⟩
  ·refine⟨λhA=> ?_,λhC=> ?_⟩
   ·have:=a x (by simp only[SB.bm,List.mem_append];exact .inl (.inl hA));omega
   ·have:=a x (by simp only[SB.bm,List.mem_append];exact .inr hC);omega
 ·simp only[SB.bm,List.mem_append]at hb ⊢;rcases hb with(hb|hb)|hb
  ·exact .inl (.inl (.inl hb))
  ·rcases hp b hb with h1|h1
   ·exact .inl (.inl (.inr h1))
   ·exact .inr h1
  ·exact .inl (.inr hb)
def oD(p:az)(c:Nat):(if c=0 then p else Option.map (λa=>Addr.add a (0*1)) p)=p:=by
 split
 ·rfl
 ·cases p with
  |none=>rfl
  |some a=>simp[add_zero]
def LF(N:ay)(F:List Nat)(N':ay)(F':List Nat)(a:Nat):Prop:=(F=[]/\N'=N++[none]/\F'=[]/\a=N.length+2)\/(F=F'++[a]/\N'=N)
def zx{h:aI}{B:SB}{N:ay}(H:gZ h s n room B f g N F Q off)(l:F=[]->N.length<room)
  (hK: ∀h' p' c' N' F' a,LF N F N' F' a->gZ h' s n room {B with p:=p',c:=c'} f g N' F' Q off->aM (s::aV B.p) h h'->(∀b∈aV p',b∈aV B.p\/h.size<=b)->K (aq (a:Int)) h'):
  Cl 201 [au (aw s)] h K:=by
 have hl:=H.len;have x:s<h.size:=H.S.lt;have d:=H.sep;have q:=H.lt
 have k:s∉aV B.p/\s∉aV B.fp/\s∉[B.ob,B.cac,B.cm,B.cmc]:=by unfold SB.bm at d;simp only[NV,Nt,List.mem_cons,List.mem_append,Oz,NN]at d;simp only[List.mem_cons,Nw,NP,Oz];exact⟨d.1.2.2.2.2.1,d.1.2.2.2.2.2,d.1.1,d.1.2.1,d.1.2.2.1,d.1.2.2.2.1⟩
 refine F201.spec ?_;simp only[aL,MF];have rf:rd h ⟨s,3,none⟩=some (.slice B.fp F.length B.fc):=by rw[At.rd H.S];rfl
 refine bB rf ?_;rcases List.eq_nil_or_concat F with e|⟨F',a,e⟩
 ·subst e;rw[MJ ak,aJ];have hr:=l rfl;refine bB (by rw[At.rd H.S];rfl) ?_;refine aX λh1 A1 O1 z1=> ?_;have As:=H.S.only O1 ak;have Ws:=H.own.only O1 ak;refine fO (new:=dr none) Ws A1 rfl rfl ah (by simp[dr,Value.oneCell']) ah λp' c' h2 W2 O2 o=> ?_;have As2:=As.only O2 k.1
  have t:s∉aV p':=λhm=>by
   rcases o s hm with h|h
   ·exact k.1 h
   ·omega
  refine aU As2 (by simp[ja]) rfl λh3 A3 O3 _=> ?_
  replace A3:At h3 s (ja room {B with p:=p',c:=c'} (N.length+1) 0 off):=A3
  refine bB (by rw[At.rd A3];rfl) ?_
  rw[show IntKind.wrap .u32 (ax (ax (((N.length+1:Nat):Int)-1)+2))=((N.length+2:Nat):Int) by have w1:ax (((N.length+1:Nat):Int)-1)=((N.length+1:Nat):Int)-1:=wrap_i64 ah ah;rw[w1,wrap_i64 ah ah,show((N.length+1:Nat):Int)-1+2=((N.length+2:Nat):Int) by omega];exact gC ah]
  have OO:aM (s::aV B.p) h h3:=(((aM.refl (s::aV B.p) h).trans O1 ak).trans O2 (by intro b hb _;simp[hb])).trans O3 (by intro b hb _;simp at hb;simp[hb])
  have m: ∀b∈aV p',b∈aV B.p\/h.size<=b:=λb hb=>by
   rcases o b hb with h|h
   ·exact .inl h
   ·exact .inr ah
  obtain⟨g1,g2⟩:=SB.grow (c':=c') d q m
  have i: ∀b,b∈[B.ob,B.cac,B.cm,B.cmc]++aV B.fp->b∉s::aV B.p:=λb hb hm=>by
   unfold SB.bm at d;simp only[Nq,List.mem_append,PY]at d;obtain⟨⟨h1,_,h2⟩,_,h4⟩:=d;rcases Zq hb with hb|hb
   ·rcases List.mem_cons.1 hm with e|hm
    ·exact k.2.2 (e▸hb)
    ·exact h2 b (by simp only[List.mem_cons]at hb ⊢;exact .inr hb) b hm rfl
   ·rcases List.mem_cons.1 hm with e|hm
    ·exact k.2.1 (e▸hb)
    ·exact h4 b (.inr hm) b hb rfl
  refine hK h3 p' c' (N++[none]) [] _ (.inl ⟨rfl,rfl,rfl,rfl⟩) ⟨by rw[MZ];exact A3,H.O.only OO (i _ ak),?_,H.fre.only OO λb hb=>i _ (by simp[hb]),H.cac.only OO (i _ ak) (i _ ak) (i _ ak),H.n8,by rw[MZ];exact⟨hr,hl.2.1,ak⟩,g1⟩ OO m;rw[uF,MZ];exact W2.only O3 λb hb hm=>t (by simp at hm;subst hm;rw[hb];simp[aV])
 ·rw[Qa]at e;subst e;rw[MZ]at rf;rw[MZ,MP ak,aO];refine bB rf ?_;have fr:=H.fre;have v:(o0 (F'++[a])).length=F'.length+1:=by simp[o0]
  obtain⟨ad,e1,e2⟩:=fr.rd (j:=F'.length) ah;rw[e1,aT]
  have w1:ax (((F'.length+[a].length:Nat):Int)-1)=(F'.length:Int):=by
   have u:=fr.cap
   have hF:F'.length<9223372036854775807:=by have:=hl.2.2;rw[MZ]at this;omega
   rw[wrap_i64 (by rw[Nu];omega) (by rw[Nu];omega)];simp
  rw[w1];refine⟨ah,by rw[Nu];omega,?_⟩;rw[Nz,MO,e2];refine aH (by simp[o0];rfl) ?_;refine bB rf ⟨ah,?_,?_⟩
  ·have:=fr.cap;simp at this;omega
  ·rw[e1,oD,OE,OE];refine aU H.S (by simp[ja]) rfl λh3 A3 O3 _=> ?_
   have i: ∀b,b∈[B.ob,B.cac,B.cm,B.cmc]++aV B.p++aV B.fp->b∉[s]:=λb hb hm=>by
    simp only[MH]at hm;subst hm;rcases Zq hb with hb|hb
    ·rcases Zq hb with hb|hb
     ·exact k.2.2 hb
     ·exact k.1 hb
    ·exact k.2.1 hb
   refine hK h3 B.p B.c N F' a (.inr ⟨rfl,rfl⟩) ⟨?_,H.O.only O3 (i _ ak),H.own.only O3 λb hb=>i _ (by simp[hb,aV]),?_,H.cac.only O3 (i _ ak) (i _ ak) (i _ ak),H.n8,⟨hl.1,hl.2.1,by have:=hl.2.2;rw[MZ]at this;omega⟩,d⟩ (O3.mono ak) λb hb=> .inl hb
   ·rw[<-e1]at A3;exact A3
   ·have pp:=fr;rw[show o0 (F'++[a])=o0 F'++[aq (a:Int)] by simp[o0],MZ]at pp;have pq:=pp.pop;rw[oD]at pq;exact pq.only O3 λb hb=>i _ (by simp[hb])
def Dx:(Tryz.prog.info? 218).map (·.size)=some 0:=by kernel_rfl
def je(hK:K h):dp Tryz.prog 218 (some a) (.agg #[]) h K:=by
 unfold dp;have e:=Dx;cases hi:Tryz.prog.info? 218 with
 |none=>rw[hi]at e;cases e
 |some ti=>
  rw[hi]at e;have e:ti.size=0:=by simpa using e
  have e2:Nat.beq (Value.agg #[]).cells.size ti.size=true:=by rw[e];rfl
  dsimp only;rw[e2];exact hK
def eW{h:aI}(hK: ∀h',bS h' h.size k []->aM [] h h'->h'.size=h.size+1->K h.size h'):bf h (.map #[] 0) K:=
 hK _ (bS.empty (by unfold mp;simp)) (aM.push_map h _ _) ak
def Ee.only'(H:Ee h k p zs)(O:aM S h h')(hS: ∀a,p=some a->a.block∉S):Ee h' k p zs:=by
 intro i hi;obtain⟨a,e,hr⟩:=H i hi;refine⟨a,e,?_⟩;rw[<-hr]
 have b:(a.add i).block=a.block:=by unfold Addr.add;split<;>rfl
 have hb:(a.add i).block<h.size:=by apply MS;intro hn;have:h[(a.add i).block]? =none:=Ox ah;simp[rd,this]at hr
 unfold rd;rw[O.same _ hb (by rw[b];exact hS a e)]
def gM(bl:List Nat)(N:ay):ay:=N.mapIdx λi o=>if i+2∈bl then none else o
def xz(h:N[i]? =some o):(gM bl N)[i]? =some (if i+2∈bl then none else o):=by
 unfold gM;rw[OJ,h]
 rfl
def rZ{N:ay}:(gM bl N).length=N.length:=by simp[gM]
def gA(i:Nat):nd (gM bl N) i=if i+2∈bl then none else nd N i:=by
 unfold nd;cases h:N[i]? with
 |none=>
  rw[Nb (by rw[rZ];exact NB.1 h)];simp
 |some o=>
  rw[xz h];split<;>rfl
def dM(N:ay):gM [] N=N:=by apply Ns;intro i;unfold gM;rw[OJ];cases N[i]? <;>simp
def gp{E:ay}(h:E[i]? =some x):E.take (i+1)=E.take i++[x]:=by
 rw[Oo,h]
 rfl
def DV{E:ay}(h:nd (E.take i) k=some x):nd E k=some x/\k<i:=by have hl:=jf h;rw[N7]at hl;have:=dh.1 h;rw[List.getElem?_take_of_lt ah]at this;exact⟨dh.2 this,ah⟩
def SB.tabs(B:SB)(tb m mc sb:Nat):SB:={B with tb:=tb,m:=m,mc:=mc,sb:=sb}
def tE(mo:List (Int×Value))(bl:List Nat):Prop:= ∀k:Nat,(k∈bl->mo.lookup (k:Int)=some (.agg #[]))/\(k∉bl->mo.lookup (k:Int)=none)
structure Id(h:aI)(s n room:Nat)(B:SB)(f g:Nat->Nat)(N:ay)(F:List Nat)(Q:Int->Int->Prop):Prop where
 O:cK h B.ob n f g
 own:cw h 0 4 B.p N.length B.c (gQ N)
 fre:nu h 0 B.fp F.length B.fc (o0 F)
 cac:rI h B Q
 n8:1<=n/\n<=8
 len:N.length<=room/\room<=32768/\F.length<=N.length
 sep:(B.bm s).Nodup
def gZ.r(H:gZ h s n room B f g N F Q off):Id h s n room B f g N F Q:=⟨H.O,H.own,H.fre,H.cac,H.n8,H.len,H.sep⟩
def uU(room:Nat)(B:SB)(l fl:Nat)(off:Bool)(v4 v5:Value):List Value:=[ap (room:Int),au (aw B.ob),.slice B.p l B.c,.slice B.fp fl B.fc,v4,v5,au (aw B.cac),aD off]
def Id.lt{h:aI}{B:SB}(H:Id h s n room B f g N F Q)(hs:s<h.size): ∀b∈B.bm s,b<h.size:=λb hb=>by
 obtain⟨cs,o,f,c1,-⟩:=H.cac;have:=c1.lt;have:=At.lt H.O;simp only[SB.bm,List.mem_append,List.mem_cons,Nw,NP]at hb;rcases hb with(hb|hb)|hb
 ·omega
 ·exact(H.own.lt b hb).2
 ·exact(H.fre.lt b hb).2
def od{h:aI}{s n room:Nat}{B:SB}{f g:Nat->Nat}{N:ay}{F:List Nat}{Q:Int->Int->Prop}{off:Bool}{K:KK}{T bc:Nat}{bp:az}{bl:List Nat}{v4 v5:Value}(HS:At h s (uU room B N.length F.length off v4 v5))(H:Id h s n room B f g N F Q)
  (b2:Ee h .u32 bp (bl.map λ(k:Nat)=>(k:Int))) (V: ∀a,bp=some a->a.block≠s) (c9:bl.length<=32768)
  (R: ∀i x,nd (gM bl N) i=some x->ky x) (S: ∀i j x,nd (gM bl N) i=some x->nd (gM bl N) j=some x->i=j) (Z: ∃k,T=32*2^k) (hT:2*bj (gM bl N)<=T) (Y:T<=262144)
  (hK: ∀tb m mc sb h',gZ h' s n room (B.tabs tb m mc sb) f g N F Q off->wG h' s (B.tabs tb m mc sb) (gM bl N)->gY h' (B.tabs tb m mc sb) (gM bl N) T->h.size<=tb->h.size<=m->h.size<=mc->h.size<=sb->aM [s] h h'->K aE h'):
  Cl 111 [au (aw s),ap (T:Int),.slice bp bl.length bc] h K:=by
 have b6:1<=T:=by obtain⟨k,e⟩:=Z;have:=OC k;omega
 have q:=H.sep;have b9:=H.len
 have J:s∉aV B.p/\s∉aV B.fp/\s∉[B.ob,B.cac,B.cm,B.cmc]:=by unfold SB.bm at q;simp only[NV,Nt,List.mem_cons,List.mem_append,Oz,NN]at q;simp only[List.mem_cons,Nw,NP,Oz];exact⟨q.1.2.2.2.2.1,q.1.2.2.2.2.2,q.1.1,q.1.2.1,q.1.2.2.1,q.1.2.2.2.1⟩
 have C: ∀b,b∈[B.ob,B.cac,B.cm,B.cmc]++aV B.p++aV B.fp->b∉[s]:=λb hb hm=>by
  simp only[MH]at hm;subst hm;rcases Zq hb with hb|hb
  ·rcases Zq hb with hb|hb
   ·exact J.2.2 hb
   ·exact J.1 hb
  ·exact J.2.1 hb
 have W:=H.own;have hs:=J.1;refine F111.spec _ _ _ _ _ h K ?_;simp only[aL,MF];have c7:=HS.lt;refine pH λm mc h1 M1 O1 g1 g2=>aR rfl ?_;rw[jB Y]at M1;have lm:m<h1.size:=M1.head.lt;have c6:mc<h1.size:=M1.body.lt;have c5:=M1.ne;refine t9 (base:=0) M1 b6 ak (by simp;omega) λtb b5 T2 O2 g3=>⟨_,_,rfl,?_⟩;have lt:tb<b5.size:=At.lt T2;have A2:=(HS.only O1 ak).only O2 ak;have M2:=M1.only O2 ak ak;refine aU A2 (by simp[uU]) rfl λh3 A3 O3 z3=> ?_;have T3:=T2.only O3 (by simp;omega);have M3:=M2.only O3 (by simp;omega) (by simp;omega);refine eW (k:= .i64) λh4 Mp4 O4 z4=> ?_;have A4:=A3.only O4 ak;refine aU A4 (by simp[uU]) rfl λh5 A5 O5 z5=> ?_;have Mp5:=Mp4.only O5 (by simp;omega);refine eW (k:= .u32) λh6 Mq6 O6 z6=> ?_;have O16:aM [s] h h6:=((((((aM.refl [s] h).trans O1 ak).trans O2 ak).trans O3 (by intro b hb _;exact hb)).trans O4 ak).trans O5 (by intro b hb _;exact hb)).trans O6 ak
 replace A5:At h5 s (ja room (B.tabs tb m mc h3.size) N.length F.length off):=A5
 have A6:=A5.only O6 ak;have hp: ∀b,B.p=some (aw b)->b<h.size:=λb e=>(W.lt b (by rw[e];simp[aV])).2;have b1: ∀b,B.p=some (aw b)->b≠s:=λb e e2=>hs (by rw[e,e2];simp[aV])
 have U: ∀(d i:Nat) (h':aI) (cs:List Int) (mm mo:List (Int×Value)) (ops fails:Int),i+d=N.length->At h' s (ja room (B.tabs tb m mc h3.size) N.length F.length off)->dN h' tb m 0 T->bG h' m mc cs ops fails->bS h' h3.size .i64 mm->mR T cs mm ((gM bl N).take i)->
   bS h' h5.size .u32 mo->tE mo bl->aM [s] h h'->F111.wL9 (d+1) (aw s) (some h5.size) B.p N.length B.c (N.length:Int) (i:Int) h' K:=by
  intro d
  induction d with
  |zero=>
   intro i h' cs mm mo ops fails hd A T' M Mp L Mq Om O;rw[F111.sL9];rw[MJ ah,aJ];rw[Pf (by rw[rZ];omega)]at L
   refine hK tb m mc h3.size h' ⟨A,H.O.only O (C _ ak),H.own.only O λb hb=>C _ (by simp[hb,aV]),H.fre.only O λb hb=>C _ (by simp[hb]),H.cac.only O (C _ ak) (C _ ak) (C _ ak),H.n8,H.len,H.sep⟩
    ⟨⟨T,⟨cs,mm,ops,fails,T',M,Mp,L⟩,Z,hT,Y⟩,?_,?_⟩ ⟨cs,mm,ops,fails,T',M,Mp,L⟩ ah g1 g2 ah O
   ·simp[SB.bt,SB.tabs];omega
   ·intro b hb hm;have:=H.lt HS.lt b hm;simp[SB.bt,SB.tabs]at hb;omega
  |succ d ih=>
   intro i h' cs mm mo ops fails hd A T' M Mp L Mq Om O;have hi:i<N.length:=ah;obtain⟨o,ho⟩: ∃o,N[i]? =some o:=⟨_,MT hi⟩;have he:=xz (bl:=bl) ho;have W':cw h' 0 4 B.p N.length B.c (gQ N):=W.only O λb hb=>C _ (by simp[hb,aV])
   obtain⟨b,eb,rr⟩: ∃b,B.p=some (aw b)/\ ∀k,k<4->rd h' ⟨b,i*4+k,none⟩=(dr o)[k]? :=by obtain⟨b,eb,r0⟩:=W'.rd (j:=i*4+0) (by rw[gH];omega);refine⟨b,eb,λk hk=> ?_⟩;obtain⟨b',G,b0⟩:=W'.rd (j:=i*4+k) (by rw[gH];omega);rw[eb]at G;injection G with G;injection G with G;subst G;rw[b0,pd N i o k ho hk]
   have hb:=hp b eb;have V:=b1 b eb
   have hw:IntKind.wrap .u32 (ax ((i:Int)+2))=((i+2:Nat):Int):=by rw[wrap_i64 ah ah,show(i:Int)+2=((i+2:Nat):Int) by omega];exact gC ah
   have nx: ∀(k7:aI) (cs':List Int) (D:List (Int×Value)) (z l:Int),At k7 s (ja room (B.tabs tb m mc h3.size) N.length F.length off)->dN k7 tb m 0 T->bG k7 m mc cs' z l->bS k7 h3.size .i64 D->mR T cs' D ((gM bl N).take (i+1))->bS k7 h5.size .u32 mo->aM [s] h k7->
     F111.wL9 (d+1) (aw s) (some h5.size) B.p N.length B.c (N.length:Int) (ax ((i:Int)+1)) k7 K:=λk7 cs' D z l A8 T8 M8 Mp8 L8 Mq8 O8=>by
    rw[show ax ((i:Int)+1)=((i+1:Nat):Int) by rw[wrap_i64 ah ah];omega];exact ih (i+1) k7 cs' D mo z l ah A8 T8 M8 Mp8 L8 Mq8 Om O8
   have skip:(if i+2∈bl then none else o)=none-> ∀k6,aM [] h' k6->F111.wL9 (d+1) (aw s) (some h5.size) B.p N.length B.c (N.length:Int) (ax ((i:Int)+1)) k6 K:=λe k6 P16=>by
    rw[e]at he;refine nx k6 cs mm ops fails (A.only P16 ak) (T'.only P16 ak) (M.only P16 ak ak) (Mp.only P16 ak) ?_ (Mq.only P16 ak) (O.trans P16 ak);refine L.congr (λk=> ?_) (by rw[gp he,nZ];rfl);rw[gp he,wd];split
    ·next hh=>rw[pA ah]
    ·rfl
   rw[F111.sL9];rw[MP ah,aO,eb,aT];refine⟨ah,ah,?_⟩;rw[<-eb];simp only[aL,MF];rw[show Int.toNat (i:Int)*4=i*4 by omega,hw]
   obtain⟨tv,lv,av,bv,ec⟩: ∃tv lv av bv,dr o=[aD tv,ap lv,aq av,aq bv]:=by
    cases o with
    |none=>exact⟨_,_,_,_,rfl⟩
    |some x=>exact⟨_,_,_,_,rfl⟩
   rw[ec]at rr;refine aZ (by rw[rr 0 ah];rfl) (aH (by rw[rr 1 ah];rfl) (aH (by rw[rr 2 ah];rfl) (aH (by rw[rr 3 ah];rfl) ?_)));refine aX λk1 B1 P1 y1=> ?_;refine aU B1 ak rfl λk2 B2 P2 y2=>aU B2 ak rfl λk3 B3 P3 y3=>aU B3 ak rfl λk4 B4 P4 y4=>aU B4 ak rfl λk5 B5 P5 y5=> ?_
   replace B5:At k5 h'.size [aD tv,ap lv,aq av,aq bv]:=B5
   have P15:aM [] h' k5:=(((P1.trans P2 (by intro b hb hl;simp at hb;omega)).trans P3 (by intro b hb hl;simp at hb;omega)).trans P4 (by intro b hb hl;simp at hb;omega)).trans P5 (by intro b hb hl;simp at hb;omega)
   have tail: ∀(I:Option (Nat×Value)),(I.isSome=decide (i+2∈bl))->(kS (.agg #[]) I= .agg #[])->lV (some (kS (.agg #[]) I)) (λa3=>bf k5 (.cells #[] 218) (λa5 b4=>dp Tryz.prog 218 (some (aw a5)) a3 b4 (λu=>bP (rd u (aw h'.size)) (λb8=>aK b8 (aK (!(Option.isSome I)) (bP (rd u (aw h'.size)) (λb3=>aQ .i64 (rd u ⟨h'.size,1,none⟩) (λa1=>aQ .u32 (rd u ⟨h'.size,2,none⟩) (λa2=>aQ .u32 (rd u ⟨h'.size,3,none⟩) (λa4=>Cl 160 [(au (aw s)),(aq ((i+2:Nat):Int)),(.agg #[(aD b3),(ap a1),(aq a2),(aq a4)])] u (λb7 a6=>(b7=aE/\F111.wL9 (d+1) (aw s) (some h5.size) B.p N.length B.c (N.length:Int) (ax ((i:Int)+1)) a6 K))))))) (F111.wL9 (d+1) (aw s) (some h5.size) B.p N.length B.c (N.length:Int) (ax ((i:Int)+1)) u K)) (F111.wL9 (d+1) (aw s) (some h5.size) B.p N.length B.c (N.length:Int) (ax ((i:Int)+1)) u K))))):=by
    intro I e1 e2;rw[e2];refine⟨_,rfl,?_⟩;refine aX λk6 B6 P6 y6=> ?_;refine je ?_;have C6:=B5.only P6 ak;have P16:aM [] h' k6:=P15.trans P6 ak;have rc: ∀k,rd k6 ⟨h'.size,k,none⟩=([aD tv,ap lv,aq av,aq bv]:List Value)[k]? :=λk=>At.rd C6 k;refine aZ (by rw[rc 0];rfl) ?_;rw[e1];cases o with
    |none=>
     simp only[dr,NL,Value.bool.injEq]at ec;rw[<-ec.1,aJ];exact skip (by split<;>rfl) k6 P16
    |some x=>
     simp only[dr,NL,Value.bool.injEq,Value.int.injEq,OV,Qd]at ec;obtain⟨c1,c2,c3,c4⟩:=ec;rw[<-c1,aO];by_cases hm:i+2∈bl
     ·rw[MP hm,Ng,aJ];exact skip (MK hm) k6 P16
     ·rw[MJ hm,Nx,aO];refine aZ (by rw[rc 0];rfl) (aH (by rw[rc 1];rfl) (aH (by rw[rc 2];rfl) (aH (by rw[rc 3];rfl) ?_)));rw[<-c1,<-c2,<-c3,<-c4];rw[MG hm]at he;have hE:nd (gM bl N) i=some x:=dh.2 he
      have a0:rD ((gM bl N).take i) (kf x):=λk y hy e=>by obtain⟨q1,q2⟩:=DV hy;have:=wK (R k y q1) (R i x hE) e;subst this;have:=S _ _ _ q1 hE;omega
      have A7:=A.only P16 ak;have a7:bj ((gM bl N).take (i+1))=bj ((gM bl N).take i)+1:=by rw[gp he,nZ];rfl
      have d0:bj ((gM bl N).take (i+1))<=bj (gM bl N):=(List.take_sublist _ _).countP_le
      refine wB A7 (t:=tb) (m:=m) (mc:=mc) (sb:=h3.size) (T:=T) (N':=(gM bl N).take (i+1)) rfl rfl (by simp;omega)
       (T'.only P16 ak) (M.only P16 ak ak) (Mp.only P16 ak) ah (by simp;omega) ah ah (by have:=(At.lt (T'.only P16 ak));omega) (by have:=((M.only P16 ak ak).head).lt;omega) (by have:=((M.only P16 ak ak).body).lt;omega)
       L (R i x hE) a0 ah (pA (by rw[N7];omega)) (λk=> ?_) a7 λk7 cs' D z l A8 T8 M8 Mp8 L8 O8=>⟨rfl,?_⟩
      ·rw[gp he,wd,N7,rZ,Nat.min_eq_left ah]
      ·have lq:h5.size<k6.size:=(Mq.only P16 ak).lt;exact nx k7 cs' D z l A8 T8 M8 Mp8 L8 ((Mq.only P16 ak).only O8 (by simp;omega)) ((O.trans P16 ak).trans O8 (by intro b hb hl;simp at hb ⊢;omega))
   refine c8 (m:=mo) (Mq.only P15 ak) (λhn=> ?_) λj v hv=> ?_
   ·have:i+2∉bl:=λhm=>by
     rw[(Om (i+2)).1 hm]at hn;cases hn
    exact tail none (by rw[MJ this];rfl) rfl
   ·have:i+2∈bl:=MS λhm=>by
     rw[(Om (i+2)).2 hm]at hv;cases hv
    rw[(Om (i+2)).1 this]at hv;injection hv with hv;subst hv;exact tail (some (j,.agg #[])) (by rw[MP this];rfl) rfl
 have P: ∀(h':aI) (mo:List (Int×Value)),At h' s (ja room (B.tabs tb m mc h3.size) N.length F.length off)->dN h' tb m 0 T->bG h' m mc (List.replicate T 0) 0 0->bS h' h3.size .i64 []->
   bS h' h5.size .u32 mo->tE mo bl->aM [s] h h'->F111.wk8 (aw s) (some h5.size) h' K:=by
  intro h' mo A T' M Mp Mq Om O;unfold F111.wk8;simp only[aL,MF];refine bB (by rw[At.rd A];rfl) ?_;unfold F111.wk9;refine⟨_,U N.length 0 h' (List.replicate T 0) [] mo 0 0 ah A T' M Mp ?_ Mq Om O⟩
  have cz: ∀j,cell 0 (List.replicate T (0:Int)) j=0:=λj=>by unfold cell;rw[PI,Pb];split<;>rfl
  refine⟨ak,jY.empty λi _=>cz i,λj _=> .inl (cz j),by simp[nd],?_,by simp[nd]⟩;rw[zw T λi _=>cz i]
  rfl
 unfold F111.wk4
 have first: ∀(d i:Nat) (h':aI) (mo:List (Int×Value)),i+d=bl.length->At h' s (ja room (B.tabs tb m mc h3.size) N.length F.length off)->dN h' tb m 0 T->bG h' m mc (List.replicate T 0) 0 0->bS h' h3.size .i64 []->
   bS h' h5.size .u32 mo->tE mo (bl.take i)->aM [s] h h'->F111.wL4 (d+1) (aw s) (some h5.size) bp bl.length bc (bl.length:Int) (i:Int) h' K:=by
  intro d
  induction d with
  |zero=>
   intro i h' mo hd A T' M Mp Mq Om O;rw[F111.sL4];rw[MJ ah,aJ];rw[Pf ah]at Om;exact P h' mo A T' M Mp Mq Om O
  |succ d ih=>
   intro i h' mo hd A T' M Mp Mq Om O;have hi:i<bl.length:=ah;obtain⟨a,ea,er⟩:=(b2.only' O λa e hm=>V a e (by simpa using hm)) i (by simpa using hi);have e3:(bl.map λ(k:Nat)=>(k:Int)).getD i 0=(bl[i]:Int):=by simp[List.getD,hi]
   rw[e3]at er;rw[F111.sL4];rw[MP ah,aO,ea,aT];refine⟨ah,ah,?_⟩;rw[<-ea,Nz,MO,er];refine aH rfl ?_;refine fh Mq λk3 Mq3 P3 y3=> ?_
   rw[show ax ((i:Int)+1)=((i+1:Nat):Int) by rw[wrap_i64 ah ah];omega]
   have lq:=Mq.lt;refine ih (i+1) k3 _ ah (A.only P3 (by simp;omega)) (T'.only P3 (by simp;omega)) (M.only P3 (by simp;omega) (by simp;omega)) (Mp.only P3 (by simp;omega)) Mq3 (λk=> ?_) (O.trans P3 (by intro b hb hl;simp at hb;omega));rw[cj,Oo,MT hi];simp only[Option.toList_some,List.mem_append,MH];refine⟨λhk=> ?_,λhk=> ?_⟩
   ·by_cases e:k=bl[i]
    ·rw[MK ah]
    ·rw[MG ah];exact(Om k).1 (hk.resolve_right e)
   ·rw[MG (λe=>hk (.inr ah))];exact(Om k).2 λhm=>hk (.inl hm)
 have Z6:tE [] (bl.take 0):=λk=>⟨λhm=>by simp at hm,λ_=>rfl⟩;exact⟨_,first bl.length 0 h6 [] ah A6 ((T3.only O4 ak).only O5 (by simp;omega)|>.only O6 ak) (((M3.only O4 ak ak).only O5 (by simp;omega) (by simp;omega)).only O6 ak ak) (Mp5.only O6 ak) Mq6 Z6 O16⟩
structure nH(h:aI)(s n room:Nat)(B:SB)(f g:Nat->Nat)(N:ay)(F:List Nat)(Q:Int->Int->Prop)(off:Bool):Prop where
 m:gZ h s n room B f g N F Q off
 t:wG h s B N
 ok:cY n N
 cnt:N.length=bj N+F.length
 fre:F.Nodup/\ ∀a∈F,2<=a/\a-2<N.length/\nd N (a-2)=none
def cY.ndok{N:ay}(H:cY n N)(hn:n<=8)(hl:N.length<=32768)(hx:nd N i=some x):ky x:=by
 obtain⟨a,b,c,d,-⟩:=H.node i x hx
 have lt: ∀{y},isN N y->y<2^28:=λ{y} h=>by
  rcases h with h|⟨z,h⟩
  ·omega
  ·have:=jf h;omega
 exact⟨ah,lt b,lt c,d⟩
structure jW(N N':ay)(q:Nat)(x:Nd):Prop where
 was:nd N q=none
 get: ∀k,nd N' k=if k=q then some x else nd N k
 cnt:bj N'=bj N+1
 len:N.length<=N'.length/\N'.length<=N.length+1
def jW.isN(P:jW N N' q x)(h:isN N a):isN N' a:=by
 rcases h with h|⟨y,h⟩
 ·exact .inl h
 ·refine .inr ?_;rw[P.get];split
  ·exact⟨_,rfl⟩
  ·exact⟨y,h⟩
def jW.old(P:jW N N' q x)(h:nd N i=some y):nd N' i=some y:=by
 rw[P.get,MG]
 ·exact h
 ·intro e;subst e;rw[P.was]at h;cases h
def jW.lvl(P:jW N N' q x)(h:Ev.isN N a):lvl n N' a=lvl n N a:=by
 unfold Ev.lvl;rcases h with h|⟨y,h⟩
 ·rw[MK h,MK h]
 ·rw[P.old h,h]
def jW.ok(P:jW N N' q x)(H:cY n N)(h1:x.1<n)(h2:Ev.isN N x.2.1)(h3:Ev.isN N x.2.2)(h4:x.2.1≠x.2.2)(h5:x.1<Ev.lvl n N x.2.1)(h6:x.1<Ev.lvl n N x.2.2)(h7: ∀i,nd N i≠some x):cY n N':=by
 refine⟨λi y hy=> ?_,λi j y hi hj=> ?_⟩
 ·rw[P.get]at hy;split at hy
  ·injection hy with hy;subst hy;exact⟨h1,P.isN h2,P.isN h3,h4,by rw[P.lvl h2];exact h5,by rw[P.lvl h3];exact h6⟩
  ·obtain⟨a,b,c,d,e,f⟩:=H.node i y hy;exact⟨a,P.isN b,P.isN c,d,by rw[P.lvl b];exact e,by rw[P.lvl c];exact f⟩
 ·rw[P.get]at hi hj;split at hi
  ·injection hi with hi;subst hi;split at hj
   ·omega
   ·exact Nc hj (h7 j)
  ·split at hj
   ·injection hj with hj;subst hj;exact Nc hi (h7 i)
   ·exact H.once i j y hi hj
def Me(room:Nat)(N E:ay)(l a b:Nat)(N':ay)(r e:Nat):Prop:=
 (a=b/\r=a/\e=0/\N'=N)\/(a≠b/\ ∃i,nd E i=some (l,a,b)/\r=i+2/\e=0/\N'=N)\/
 (a≠b/\(∀i,nd E i≠some (l,a,b))/\room<=bj N/\r=0/\e=60/\N'=N)\/
 (a≠b/\(∀i,nd E i≠some (l,a,b))/\bj N<room/\e=0/\ ∃q,r=q+2/\jW N N' q (l,a,b))
def ig(room:Nat)(N:ay)(l a b:Nat)(N':ay)(r e:Nat):Prop:=
 (a=b/\r=a/\e=0/\N'=N)\/(a≠b/\ ∃i,nd N i=some (l,a,b)/\r=i+2/\e=0/\N'=N)\/
 (a≠b/\(∀i,nd N i≠some (l,a,b))/\room<=bj N/\r=0/\e=60/\N'=N)\/
 (a≠b/\(∀i,nd N i≠some (l,a,b))/\bj N<room/\e=0/\ ∃q,r=q+2/\jW N N' q (l,a,b))
def nH.only{B:SB}(H:nH h s n room B f g N F Q off)(O:aM L h h')(h1: ∀b∈L,b∉B.bm s/\b∉B.bt):nH h' s n room B f g N F Q off:=
 ⟨H.m.only O λb hb=>(h1 b hb).1,H.t.only O λb hb=>(h1 b hb).2,H.ok,H.cnt,H.fre⟩
def sT: ∀{A C:ay},(∀i,nd A i=nd C i)->bj A=bj C:=by
 have z: ∀{C:ay},(∀i,nd C i=none)->bj C=0:=by
  intro C
  induction C with
  |nil=>intro _;rfl
  |cons o C ih=>
   intro h;have h0:o=none:=by have:=h 0;simpa[nd]using this
   have:=ih λi=>by have:=h (i+1);simpa[nd]using this
   unfold bj at this ⊢;rw[NQ,this,h0]
   rfl
 intro A
 induction A with
 |nil=>intro C h;rw[z λi=>(by rw[<-h];rfl:nd C i=none)];rfl
 |cons o A ih=>
  intro C h;cases C with
  |nil=>rw[z λi=>(by rw[h];rfl:nd (o::A) i=none)];rfl
  |cons p C=>
   have h0:o=p:=by have:=h 0;simpa[nd]using this
   have:=ih (C:=C) λi=>by have:=h (i+1);simpa[nd]using this
   unfold bj at this ⊢;rw[NQ,NQ,this,h0]
def wj: ∀{A C:ay},(∀i x,nd A i=some x->nd C i=some x)->bj A<=bj C:=by
 intro A
 induction A with
 |nil=>intro C _;exact NS _
 |cons o A ih=>
  intro C h;cases C with
  |nil=>
   have h0:o=none:=by
    cases o with
    |none=>rfl
    |some x=>have:=h 0 x (by simp[nd]);simp[nd]at this
   have:=ih (C:=[]) λi x hx=>(by have:=h (i+1) x (by simpa[nd]using hx);simp[nd]at this);unfold bj at this ⊢;rw[NQ,h0];simpa using this
  |cons p C=>
   have:=ih (C:=C) λi x hx=>by have:=h (i+1) x (by simpa[nd]using hx);simpa[nd]using this
   unfold bj at this ⊢;rw[NQ,NQ];cases o with
   |none=>simp;omega
   |some x=>
    have h0:p=some x:=by have:=h 0 x (by simp[nd]);simpa[nd]using this
    rw[h0];simp;omega
def xh(h0:nd A q=none)(h: ∀i,nd C i=if i=q then some x else nd A i):bj C=bj A+1:=by
 obtain⟨A',eA⟩: ∃A',A'=A++List.replicate (q+1) none:=⟨_,rfl⟩
 have nA: ∀i,nd A' i=nd A i:=λi=>by
  unfold nd;rw[eA];by_cases hi:i<A.length
  ·rw[MW hi]
  ·rw[Np ah,Pb,Nb ah];split<;>rfl
 have lt:q<A'.length:=by rw[eA];simp;omega
 have e0:A'[q]? =some none:=by have:=nA q;rw[h0]at this;unfold nd at this;rw[MT lt]at this ⊢;simpa using this
 rw[<-sT nA,<-pT (x:=x) e0];exact sT λi=>by rw[h,fy lt,nA]
def CA(A:ay)(q:Nat)(x:Nd):ay:=(A++List.replicate (q+1) none).set q (some x)
def lG(_:nd A q=none)(i:Nat):nd (CA A q x) i=if i=q then some x else nd A i:=by
 unfold CA;rw[fy (by simp;omega)];split
 ·rfl
 ·unfold nd;by_cases hi:i<A.length
  ·rw[MW hi]
  ·rw[Np ah,Pb,Nb ah];split<;>rfl
def xv{h:aI}{s n room:Nat}{B:SB}{f g:Nat->Nat}{N:ay}{F:List Nat}{Q:Int->Int->Prop}{off:Bool}{K:KK}{E:ay}{T:Nat}(H:gZ h s n room B f g N F Q off)(Tm:gY h B E T)(bn:B.bt.Nodup)(bs: ∀b∈B.bt,b∉B.bm s)(hc:N.length=bj N+F.length)(M:F.Nodup/\ ∀a∈F,2<=a/\a-2<N.length/\nd N (a-2)=none){l a b:Nat}(hx:ky (l,a,b))(J:rD E (kf (l,a,b)))
  (hr:bj N<room) (hE:bj E<T) (hT:T<=262144) (u: ∀q,nd N q=none->nd E q=none)
  (hK: ∀h' B' N' F' q,jW N N' q (l,a,b)->gZ h' s n room B' f g N' F' Q off->(∀E',(∀k,nd E' k=if k=q then some (l,a,b)else nd E k)->gY h' B' E' T)->B'.bt.Nodup->(∀b∈B'.bt,b∉B'.bm s)->N'.length=bj N'+F'.length->(F'.Nodup/\ ∀a∈F',2<=a/\a-2<N'.length/\nd N' (a-2)=none)->
   aM (B.bm s++B.bt) h h'->(∀y∈B'.bm s++B'.bt,y∈B.bm s++B.bt\/h.size<=y)->K (.tuple #[aq ((q+2:Nat):Int),ap 0]) h'):
  F161.wk17 (aw s) (l:Int) (a:Int) (b:Int) h K:=by
 have a3:=H.n8;have a2:=H.len;unfold F161.wk17;refine zx H (λe=>by subst e;simp at hc;omega) λh1 p' c' N1 F1 a1 R H1 O1 hp=>aH rfl ?_
 have v: ∀b∈s::aV B.p,b∈B.bm s:=λb hb=>by
  rcases List.mem_cons.1 hb with e|hb
  ·subst e;simp[SB.bm]
  ·simp only[SB.bm,List.mem_append];exact .inl (.inr hb)
 have Tm1:gY h1 {B with p:=p',c:=c'} E T:=Tm.only O1 λb hb hm=>bs b hm (v b hb)
 have z: ∀b∈B.bt,b∉SB.bm {B with p:=p',c:=c'} s:=λb hb hm=>by
  rcases(SB.grow (c':=c') H.sep H.lt hp).2 b hm with h2|h2
  ·exact bs b hb h2
  ·have:=Tm.lt b hb;omega
 obtain⟨q,eq,hq,Z,V,d,W,C⟩: ∃q,a1=q+2/\N1[q]? =some none/\(∀k,nd N1 k=nd N k)/\bj N1=bj N/\nd N q=none/\(N.length<=N1.length/\N1.length<=N.length+1)/\(N1.length=bj N+F1.length+1/\F1.Nodup/\a1∉F1/\ ∀a∈F1,2<=a/\a-2<N1.length/\nd N (a-2)=none):=by
  rcases R with⟨e1,e2,e3,e4⟩|⟨e1,e2⟩
  ·subst e1 e2 e3;refine⟨N.length,e4,ak,λk=> ?_,by rw[nZ];rfl,pA (MN _),ak,by simp at hc;simp;omega,ak,ak,ak⟩;rw[wd];split
   ·next e=>rw[pA ah]
   ·rfl
  ·subst e1 e2;obtain⟨g1,g2⟩:=M;obtain⟨f1,f2,f3⟩:=g2 a1 ak;refine⟨a1-2,ah,?_,λ_=>rfl,rfl,f3,ah,by simp at hc;omega,(Nq.1 g1).1,λhm=>(Nq.1 g1).2.2 a1 hm a1 ak rfl,λa ha=>g2 a (by simp[ha])⟩;obtain⟨o,ho⟩: ∃o,N1[a1-2]? =some o:=⟨_,MT f2⟩;unfold nd at f3;rw[ho]at f3 ⊢;simp at f3;rw[f3]
 subst eq;have A:q<N1.length:=(MQ.1 hq).1;have a5:=H1.len
 have wq:IntKind.wrap .u32 (((q+2:Nat):Int)-2)=((q:Nat):Int):=by have:=qT (a:=q+2) ah ah;rw[this];simp
 simp only[aL,MF];have a0:rd h1 ⟨s,2,none⟩=some (.slice p' N1.length c'):=by rw[At.rd H1.S];rfl
 obtain⟨b0,e1,-⟩:=H1.cells hq;have e1:p'=some (aw b0):=e1;refine bB a0 ?_;rw[e1,aT,wq];refine⟨ah,ah,?_⟩;rw[aL,show 0+Int.toNat (q:Int)*4=q*4 by omega];simp only[aL];have W1:=H1.own;rw[show SB.p {B with p:=p',c:=c'}=some (aw b0)from e1]at W1;have nl:(gQ N1).length=N1.length*4:=gH N1;refine cw.set W1 ah rfl λh2 W2 O2=>cw.set W2 (by simp;omega) rfl λh3 W3 O3=>cw.set W3 (by simp;omega) rfl λh4 W4 O4=>cw.set W4 (by simp;omega) rfl λh5 W5 O5=> ?_;rw[mA N1 q (some (l,a,b)) _ _ _ _ A rfl]at W5;have O25:aM [b0] h1 h5:=((O2.trans O3 ak).trans O4 ak).trans O5 ak;have j:=H1.sep
 have nb: ∀y∈[s,B.ob,B.cac,B.cm,B.cmc]++aV B.fp,y∉[b0]:=λy hy hm=>by
  simp only[MH]at hm;subst hm;unfold SB.bm at j;simp only[Nq,List.mem_append,PY]at j;obtain⟨⟨_,_,g2⟩,_,g4⟩:=j;have I:y∈aV p':=by rw[e1];simp[aV]
  rcases Zq hy with h|h
  ·exact g2 y h y I rfl
  ·exact g4 y (.inr I) y h rfl
 have H5:gZ h5 s n room {B with p:=p',c:=c'} f g (N1.set q (some (l,a,b))) F1 Q off:=by have el:(N1.set q (some (l,a,b))).length=N1.length:=ak;refine⟨by rw[el];exact H1.S.only O25 (nb _ ak),H1.O.only O25 (nb _ ak),by rw[el,show SB.p {B with p:=p',c:=c'}=some (aw b0)from e1];exact W5,H1.fre.only O25 λy hy=>nb _ (by simp only[List.mem_append];exact .inr hy),H1.cac.only O25 (nb _ ak) (nb _ ak) (nb _ ak),H1.n8,by rw[el];exact H1.len,H1.sep⟩
 have Tm5:gY h5 {B with p:=p',c:=c'} E T:=Tm1.only O25 λy hy hm=>by simp only[MH]at hy;subst hy;exact z y hm (by simp only[SB.bm,List.mem_append];exact .inl (.inr (by rw[e1];simp[aV])))
 have P:jW N (N1.set q (some (l,a,b))) q (l,a,b):=by
  refine⟨d,λk=> ?_,?_,by simp;omega⟩
  ·rw[fy A,Z]
  ·rw[pT hq,V]
 have Y:rd h5 ⟨s,2,none⟩=some (.slice p' N1.length c'):=by
  have:=H5.S;rw[show(N1.set q (some (l,a,b))).length=N1.length by simp]at this;rw[At.rd this]
  rfl
 refine bB Y ?_;rw[e1,aT];refine⟨ah,ah,?_⟩;rw[aL,show 0+Int.toNat (q:Int)*4=q*4 by omega];simp only[aL];obtain⟨b5,e5,r5⟩:=H5.cells (i:=q) (o:=some (l,a,b)) (by rw[List.getElem?_set_self A])
 have:b5=b0:=by have e5:p'=some (aw b5):=e5;rw[e1]at e5;injection e5 with e5;injection e5 with e5;exact e5.symm
 subst this;refine aZ (by rw[r5 0 ah];rfl) (aH (by rw[r5 1 ah];rfl) (aH (by rw[r5 2 ah];rfl) (aH (by rw[r5 3 ah];rfl) ?_)));have bl:=Tm5.lt;obtain⟨cs,mm,ops,fails,t1,t2,t3,L⟩:=Tm5;have nn:=bn;simp only[SB.bt,Nt,List.mem_cons,Nw,NP,Oz,Qi,Qd,not_false_eq_true]at nn;have sp:s∉B.bt:=λhm=>bs s hm (by simp[SB.bm]);simp only[SB.bt,List.mem_cons,Nw,NP,Oz]at sp;have S5:=H5.S;rw[show(N1.set q (some (l,a,b))).length=N1.length by simp]at S5
 refine wB S5 (t:=B.tb) (m:=B.m) (mc:=B.mc) (sb:=B.sb) (T:=T) rfl rfl (by simp;omega) t1 t2 t3 ah (by simp;omega) ah ah (bl _ (by simp[SB.bt])) (bl _ (by simp[SB.bt])) (bl _ (by simp[SB.bt]))
  (N':=CA E q (l,a,b)) L hx J ah (u q d) (lG (u q d)) (xh (u q d) (lG (u q d))) λh6 cs' U G x A6 T6 M6 Mp6 L6 O6=>⟨rfl,?_⟩
 have Hm6:=H5.only O6 λy hy hm=>z y (by simp[SB.bt]at hy ⊢;omega) hm;refine hK h6 {B with p:=p',c:=c'} _ F1 q P Hm6 (λE' D=>⟨cs',U,G,x,T6,M6,Mp6,L6.congr (λk=>by rw[D,lG (u q d)]) (sT λk=>by rw[D,lG (u q d)])⟩) bn z (by simp only[NT];rw[P.cnt];omega) ⟨C.2.1,λy hy=> ?_⟩ ?_ λy hy=> ?_
 ·obtain⟨z1,z2,z3⟩:=C.2.2.2 y hy;refine⟨z1,by simp only[NT];exact z2,?_⟩;rw[P.get,MG]
  ·exact z3
  ·intro e;apply C.2.2.1;rw[show q+2=y by omega];exact hy
 ·refine((aM.mono O1 λy hy _=> ?_).trans O25 λy hy a4=> ?_).trans O6 λy hy _=> ?_
  ·simp only[List.mem_append];exact .inl (v y hy)
  ·simp only[MH]at hy;subst hy;rcases hp y (by rw[e1];simp[aV])with h7|h7
   ·simp only[List.mem_append];exact .inl (v y (by simp[h7]))
   ·omega
  ·simp only[List.mem_append,SB.bt];simp at hy ⊢;omega
 ·rcases Zq hy with hy|hy
  ·rcases(SB.grow (c':=c') H.sep H.lt hp).2 y hy with h7|h7
   ·exact .inl (Zp (.inl h7))
   ·exact .inr h7
  ·exact .inl (Zp (.inr hy))
def LX{h:aI}{s n room:Nat}{B:SB}{f g:Nat->Nat}{N:ay}{F:List Nat}{Q:Int->Int->Prop}{off:Bool}{K:KK}{U:List Nat}{T:Nat}(Hm:gZ h s n room B f g N F Q off)(Tm:gY h B (gM U N) T)(bn:B.bt.Nodup)(bs: ∀b∈B.bt,b∉B.bm s)(t5: ∃k,T=32*2^k)(t7:T<=262144)(hc:N.length=bj N+F.length)(d:F.Nodup/\ ∀a∈F,2<=a/\a-2<N.length/\nd N (a-2)=none)
  (ok: ∀i x,nd (gM U N) i=some x->ky x) {l a b:Nat} (hl:l<n) (ha:isN N a) (hb:isN N b) (la:l<lvl n N a) (lb:l<lvl n N b) (hg:2*(bj N+1)<=T\/U=[]/\cY n N/\2*bj N<=T) (hU: ∀c∈U,2<=c/\nd N (c-2)≠none)
  (hK: ∀h' B' N' F' r e T',Me room N (gM U N) l a b N' r e->gZ h' s n room B' f g N' F' Q off->gY h' B' (gM U N') T'->(2*(bj N+1)<=T->T'=T)->(U=[]->2*bj N<=T->2*bj N'<=T')->(∃k,T'=32*2^k)->T'<=262144->B'.bt.Nodup->(∀b∈B'.bt,b∉B'.bm s)->N'.length=bj N'+F'.length->(F'.Nodup/\ ∀a∈F',2<=a/\a-2<N'.length/\nd N' (a-2)=none)->
   aM (B.bm s++B.bt) h h'->(∀y∈B'.bm s++B'.bt,y∈B.bm s++B.bt\/h.size<=y)->K (.tuple #[aq (r:Int),ap (e:Int)]) h'):
  Cl 161 [au (aw s),ap (l:Int),aq (a:Int),aq (b:Int)] h K:=by
 have M:=Hm.n8;have J:=Hm.len
 have T32:32<=T:=by obtain⟨k,e⟩:=t5;have:=OC k;omega
 have el:bj (gM U N)<=bj N:=wj λi x hx=>by
  rw[gA]at hx;split at hx
  ·cases hx
  ·exact hx
 have Y:=isN_lt Hm ha;have O:=isN_lt Hm hb;refine F161.spec ?_;rw[MJ ah,aJ];refine wi Hm (aH rfl ?_);rw[MJ ah,aJ];refine Hy Hm ah (λ_=>aZ rfl ?_) λe=>Nc ha e;rw[Ng,aJ];refine Hy Hm ah (λ_=>aZ rfl ?_) λe=>Nc hb e;rw[Ng,aJ];refine lj Hm ha (aH rfl ?_);rw[MJ ah,aJ];refine lj Hm hb (aH rfl ?_);rw[MJ ah,aJ];refine aS (λhe=> ?_) λhe=> ?_
 ·have he:a=b:=by
   have:(a:Int)=b:=by simpa using he
   omega
  exact hK h B N F a 0 T (.inl ⟨he,rfl,rfl,rfl⟩) Hm Tm (λ_=>rfl) (λ_=>id) t5 t7 bn bs hc d (aM.refl _ _) λy hy=> .inl hy
 have j:a≠b:=λe=>by subst e;simp at he
 unfold F161.wk9;have hx:ky (l,a,b):=⟨by show l<256;omega,by show a<2^28;omega,by show b<2^28;omega,j⟩;refine FU hx.1 hx.2.1 hx.2.2.1 (aH rfl ?_)
 have C: ∀y∈[B.m,B.mc],y∈B.bm s++B.bt:=λy hy=>by simp only[List.mem_append,SB.bt];simp at hy ⊢;omega
 have G:tP l a b≠0:=by have:=tw hx;unfold kf at this;exact this
 refine Is (k:=tP l a b) Hm Tm bn bs ah t7 G (λh1 i x A H O1 T1=>⟨_,_,rfl,?_⟩) λh1 z O1 T1=>⟨_,_,rfl,?_⟩
 ·rw[aO];have:=wK (ok i x A) hx H;subst this;exact hK h1 B N F (i+2) 0 T (.inr (.inl ⟨j,i,A,rfl,rfl,rfl⟩)) (Hm.only O1 λy hy hm=>bs y (by simp[SB.bt]at hy ⊢;omega) hm) T1 (λ_=>rfl) (λ_=>id) t5 t7 bn bs hc d (O1.mono λy hy _=>C y hy) λy hy=> .inl hy
 ·have H1:gZ h1 s n room B f g N F Q off:=Hm.only O1 λy hy hm=>bs y (by simp[SB.bt]at hy ⊢;omega) hm;have OO:aM (B.bm s++B.bt) h h1:=O1.mono λy hy _=>C y hy;have t: ∀i,nd (gM U N) i≠some (l,a,b):=λi hi=>z i _ hi rfl;have W:=lH N;rw[aJ];simp only[aL,MF,ML];have r0:rd h1 (aw s)=some (ap (room:Int)):=by rw[At.rd H1.S];rfl
  have r4:rd h1 ⟨s,4,none⟩=some (au (aw B.tb)):=by rw[At.rd H1.S];rfl
  refine aH r0 (tC H1 hc (aH rfl ⟨trivial,trivial,trivial,aH r0 ⟨rfl,?_⟩⟩));refine aS (λhf=> ?_) λhf=> ?_
  ·have hf:=MV hf;exact hK h1 B N F 0 60 T (.inr (.inr (.inl ⟨j,t,ah,rfl,rfl,rfl⟩))) H1 T1 (λ_=>rfl) (λ_=>id) t5 t7 bn bs hc d OO λy hy=> .inl hy
  have hf:=MU hf;have hr:bj N<room:=ah
  have v: ∀q,nd N q=none->nd (gM U N) q=none:=λq hq=>by
   rw[gA];split
   ·rfl
   ·exact hq
  have u: ∀{N' q},jW N N' q (l,a,b)-> ∀k,nd (gM U N') k=if k=q then some (l,a,b)else nd (gM U N) k:=λ{N' q} P k=>by
   rw[gA,gA,P.get];by_cases e:k=q
   ·rw[MK e,MK e,MG];intro hm;have:=(hU _ hm).2;rw[show k+2-2=k by omega,e,P.was]at this;exact this rfl
   ·rw[MG e,MG e]
  obtain⟨cs,mm,o,f',t1,t2,t3,L⟩:=id T1;refine aR r4 (tC H1 hc (aH rfl ⟨trivial,trivial,trivial,aR r4 ⟨rfl,gr t1 (aH rfl ⟨by trivial,by trivial,?_⟩)⟩⟩));have w1:ax ((bj N:Int)+1)=((bj N+1:Nat):Int):=by rw[wrap_i64 ah ah];omega
  have w2:ax (2*((bj N+1:Nat):Int))=((2*(bj N+1):Nat):Int):=by rw[wrap_i64 ah ah];omega
  rw[w1,w2];refine aS (λhq=> ?_) λhq=> ?_
  ·have hq:=MV hq;obtain⟨e0,D,t6⟩:=hg.resolve_left ah;subst e0;have w3:ax (2*(T:Int))=((2*T:Nat):Int):=by rw[wrap_i64 ah ah];omega
   refine aR r4 (gr t1 (aH rfl ?_));rw[w3];have R:s<h1.size:=H1.S.lt
   refine od (bl:=[]) H1.S H1.r (λi hi=>Nc hi ak) (λa e=>by cases e) ak ok (by rw[dM];exact D.once) (by obtain⟨k,e⟩:=t5;exact⟨k+1,by rw[e,OF];omega⟩) (by rw[dM];omega) ah
    λtb m mc sb h2 H2 T2 TX g1 g2 g3 g4 O2=>⟨rfl,?_⟩
   have I:s∈B.bm s:=by simp[SB.bm]
   refine xv H2 TX T2.nd T2.sep hc d hx z hr ah ah v λh3 B3 N3 F3 q P S3 T3 n3 s3 c3 f3 O3 fr=>hK h3 B3 N3 F3 (q+2) 0 (2*T) (.inr (.inr (.inr ⟨j,t,hr,rfl,q,rfl,P⟩))) S3 (T3 _ (u P)) (λw=>ah) (λ_ w=>by rw[P.cnt];omega) (by obtain⟨k,e⟩:=t5;exact⟨k+1,by rw[e,OF];omega⟩) ah n3 s3 c3 f3 ?_ λy hy=> ?_
   ·refine(OO.trans O2 λy hy _=> ?_).trans O3 λy hy V=> ?_
    ·simp only[MH]at hy;subst hy;exact Zp (.inl I)
    ·rcases Zq hy with hy|hy
     ·exact Zp (.inl hy)
     ·have:=OO.size;simp[SB.bt,SB.tabs]at hy;omega
   ·rcases fr y hy with hy|hy
    ·rcases Zq hy with hy|hy
     ·exact .inl (Zp (.inl hy))
     ·have:=OO.size;simp[SB.bt,SB.tabs]at hy;exact .inr ah
    ·have:=OO.size;have:=O2.size;exact .inr ah
  ·have hq:=MU hq;refine xv H1 T1 bn bs hc d hx z hr ah t7 v λh3 B3 N3 F3 q P S3 T3 n3 s3 c3 f3 O3 fr=>hK h3 B3 N3 F3 (q+2) 0 T (.inr (.inr (.inr ⟨j,t,hr,rfl,q,rfl,P⟩))) S3 (T3 _ (u P)) (λ_=>rfl) (λ_ w=>by rw[P.cnt];omega) t5 t7 n3 s3 c3 f3 (OO.trans O3 λy hy _=>hy) λy hy=> ?_;rcases fr y hy with hy|hy
   ·exact .inl hy
   ·have:=OO.size;exact .inr ah
def K5{h:aI}{B:SB}(H:nH h s n room B f g N F Q off)(hl:l<n)(ha:isN N a)(hb:isN N b)(la:l<lvl n N a)(lb:l<lvl n N b)
  (hK: ∀h' B' N' F' r e,ig room N l a b N' r e->nH h' s n room B' f g N' F' Q off->aM (B.bm s++B.bt) h h'->(∀y∈B'.bm s++B'.bt,y∈B.bm s++B.bt\/h.size<=y)->K (.tuple #[aq (r:Int),ap (e:Int)]) h'):
  Cl 161 [au (aw s),ap (l:Int),aq (a:Int),aq (b:Int)] h K:=by
 obtain⟨T,t,t5,t6,t7⟩:=H.t.tab;have n8:=H.m.n8;have k:=H.m.len;have t':gY h B (gM [] N) T:=by rw[dM];exact t
 refine LX (U:=[]) H.m t' H.t.nd H.t.sep t5 t7 H.cnt H.fre (by rw[dM];exact λi x hx=>H.ok.ndok n8.2 ah hx) hl ha hb la lb (.inr ⟨rfl,H.ok,t6⟩) (λc hc=>by cases hc) λh' B' N' F' r e T' R S1 T1 _ c6 k5 k7 n1 s1 c1 f1 O1 fr=> ?_;rw[dM]at R T1;have R:ig room N l a b N' r e:=R;refine hK h' B' N' F' r e R ⟨S1,⟨⟨T',T1,k5,c6 rfl t6,k7⟩,n1,s1⟩,?_,c1,f1⟩ O1 fr;rcases R with⟨-,-,-,e1⟩|⟨-,i,-,-,-,e1⟩|⟨-,-,-,-,-,e1⟩|⟨j,d,-,-,q,-,P⟩
 ·rw[e1];exact H.ok
 ·rw[e1];exact H.ok
 ·rw[e1];exact H.ok
 ·exact P.ok H.ok hl ha hb j la lb d
structure SX where
 n:Nat
 room:Nat
 f:Nat->Nat
 g:Nat->Nat
 N:ay
 Q:Int->Int->Prop
 off:Bool
def bV(h:aI)(s:Nat)(L:List Nat)(X:SX):Prop:= ∃B F,L=B.bm s++B.bt/\nH h s X.n X.room B X.f X.g X.N F X.Q X.off
def bH(L L':List Nat)(h:aI):Prop:= ∀b∈L',b∈L\/h.size<=b
def bH.refl(L:List Nat)(h:aI):bH L L h:=λ_ hb=> .inl hb
def bH.trans{h h':aI}(a:bH L L' h)(b:bH L' L'' h')(hz:h.size<=h'.size):bH L L'' h:=λx hx=>by
 rcases b x hx with h1|h1
 ·exact a x h1
 ·exact .inr ah
def aM.app(a:aM L h h')(b:aM L' h' c)(f:bH L L' h):aM L h c:=a.trans b λx hx hl=>by
 rcases f x hx with h1|h1
 ·exact h1
 ·omega
def bV.only{h h':aI}{s:Nat}{L S:List Nat}{X:SX}(H:bV h s L X)(O:aM S h h')(hS: ∀b∈S,b∉L):bV h' s L X:=by obtain⟨B,F,e,H⟩:=H;subst e;exact⟨B,F,rfl,H.only O λb hb=>⟨λhm=>hS b hb (Zp (.inl hm)),λhm=>hS b hb (Zp (.inr hm))⟩⟩
def bV.only0{h h':aI}{s:Nat}{L:List Nat}{X:SX}(H:bV h s L X)(O:aM [] h h'):bV h' s L X:=H.only O ak
def bV.lt{h:aI}{s:Nat}{L:List Nat}{X:SX}(H:bV h s L X): ∀b∈L,b<h.size:=λb hb=>by
 obtain⟨B,F,e,H⟩:=H;subst e;rcases Zq hb with h1|h1
 ·exact H.m.lt b h1
 ·exact H.t.lt b h1
def bV.ok{X:SX}(H:bV h s L X):cY X.n X.N/\1<=X.n/\X.n<=8/\X.N.length<=X.room/\X.room<=32768/\bj X.N<=X.N.length:=by obtain⟨B,F,e,H⟩:=H;exact⟨H.ok,H.m.n8.1,H.m.n8.2,H.m.len.1,H.m.len.2.1,lH _⟩
def bV.isN_lt{h:aI}{s:Nat}{L:List Nat}{X:SX}(H:bV h s L X){a:Nat}(ha:isN X.N a):a<32770:=by obtain⟨B,F,e,H⟩:=H;have:=Ev.isN_lt H.m ha;have:=H.m.len;omega
def dE{X:SX}(H:bV h s L X)(hK:K (ap (X.n:Int)) h):Cl 75 [au (aw s)] h K:=by obtain⟨B,F,e,H⟩:=H;exact wi H.m hK
def AD{h:aI}{s:Nat}{L:List Nat}{X:SX}{K:KK}(H:bV h s L X){a:Nat}(ha:a<4294967296)(h1:isN X.N a->K aC h)(h0: ¬isN X.N a->K aB h):Cl 74 [au (aw s),aq (a:Int)] h K:=by obtain⟨B,F,e,H⟩:=H;exact Hy H.m ha h1 h0
def fP{h:aI}{s:Nat}{L:List Nat}{X:SX}{K:KK}(H:bV h s L X){a:Nat}(ha:isN X.N a)(h1:K aC h):Cl 74 [au (aw s),aq (a:Int)] h K:=
 AD H (by have:=H.isN_lt ha;omega) (λ_=>h1) λe=>Nc ha e
def cy{X:SX}(H:bV h s L X)(ha:isN X.N a)(hK:K (ap (lvl X.n X.N a:Int)) h):Cl 71 [au (aw s),aq (a:Int)] h K:=by obtain⟨B,F,e,H⟩:=H;exact lj H.m ha hK
def fN{h:aI}{s:Nat}{L:List Nat}{X:SX}{K:KK}(H:bV h s L X){a:Nat}(ha:isN X.N a)(hK:K (aq (low X.N a:Int)) h):Cl 72 [au (aw s),aq (a:Int)] h K:=by obtain⟨B,F,e,H⟩:=H;exact AM H.m ha hK
def dG{h:aI}{s:Nat}{L:List Nat}{X:SX}{K:KK}(H:bV h s L X){a:Nat}(ha:isN X.N a)(hK:K (aq (high X.N a:Int)) h):Cl 73 [au (aw s),aq (a:Int)] h K:=by obtain⟨B,F,e,H⟩:=H;exact wI H.m ha hK
def lC{h:aI}{s:Nat}{L:List Nat}{X:SX}{K:KK}(H:bV h s L X)(hK:K (ap (bj X.N:Int)) h):Cl 45 [au (aw s)] h K:=by obtain⟨B,F,e,H⟩:=H;exact tC H.m H.cnt hK
def va{X:SX}(H:bV h s L X)(hl:l<X.n)(ha:isN X.N a)(hb:isN X.N b)(la:l<lvl X.n X.N a)(lb:l<lvl X.n X.N b)
  (hK: ∀h' L' N' r e,ig X.room X.N l a b N' r e->bV h' s L' {X with N:=N'}->aM L h h'->bH L L' h->K (.tuple #[aq (r:Int),ap (e:Int)]) h'):
  Cl 161 [au (aw s),ap (l:Int),aq (a:Int),aq (b:Int)] h K:=by
 obtain⟨B,F,e,H⟩:=H;subst e;exact K5 H hl ha hb la lb λh' B' N' F' r e R S O fr=>hK h' _ N' r e R ⟨B',F',rfl,S⟩ O fr
def zD{h:aI}(H:cK h b n f g)(hK: ∀c h',cK h' c n f g->h.size<=c->aM [] h h'->K (au (aw c)) h'):
  Cl 104 [au (aw b)] h K:=by
 refine F104.spec ?_;have r: ∀k,rd h ⟨b,k,none⟩=(ap (n:Int)::(L8 f++L8 g))[k]? :=λk=>At.rd H k;refine aH (by rw[aL,r];rfl) (aH (by rw[aL,r];rfl) (aH (by rw[aL,r];rfl) (aH (by rw[aL,r];rfl) (aH (by rw[aL,r];rfl) (aH (by rw[aL,r];rfl) (aH (by rw[aL,r];rfl) (aH (by rw[aL,r];rfl) (aH (by rw[aL,r];rfl) (aH (by rw[aL,r];rfl) (aH (by rw[aL,r];rfl) (aH (by rw[aL,r];rfl) (aH (by rw[aL,r];rfl) (aH (by rw[aL,r];rfl) (aH (by rw[aL,r];rfl) (aH (by rw[aL,r];rfl) (aH (by rw[aL,r];rfl) ?_))))))))))))))));refine aX λh0 A0 O0 z0=> ?_;show pE (aw h.size) 0 (ap (n:Int)::(L8 f++L8 g)) h0 λh'=>K (au (aw h.size)) h';refine jU (o:=0) _ 0 _ h0 A0 (by simp[L8]) (λv hv=> ?_) λh' A' O' z=>hK h.size h' ?_ (MN _) (O0.trans O' (by intro x hx a;simp at hx;omega))
 ·simp only[List.mem_cons,List.mem_append,L8,MY]at hv;rcases hv with e|⟨i,_,e⟩|⟨i,_,e⟩<;>subst e<;>rfl
 ·simp[fY]at A';exact A'
def sem(f:Nat->Nat)(N:ay):Nat->Nat->Nat->Bool
 |0,a,_=>a==1
 |d+1,a,x=>if a<2 then a==1 else if x.testBit (f (lvl 0 N a))then sem f N d (high N a) x else sem f N d (low N a) x
def sm(n:Nat)(f:Nat->Nat)(N:ay)(a x:Nat):Bool:=sem f N n a x
def Eh(h:2<=a):lvl n N a=lvl m N a:=by unfold lvl;rw[MG ah,MG ah]
def cY.at(H:cY n N)(ha:isN N a)(h2:2<=a):lvl n N a<n/\isN N (low N a)/\isN N (high N a)/\low N a≠high N a/\lvl n N a<lvl n N (low N a)/\lvl n N a<lvl n N (high N a):=by
 rcases ha with h|⟨x,h⟩
 ·omega
 ·have:=H.node _ x h;have e1:lvl n N a=x.1:=by unfold lvl;rw[MG ah,h]
  have e2:low N a=x.2.1:=by unfold low;rw[MG ah,h]
  have e3:high N a=x.2.2:=by unfold high;rw[MG ah,h]
  rw[e1,e2,e3];exact this
def lvl_le(H:cY n N)(ha:isN N a):lvl n N a<=n:=by
 by_cases h2:a<2
 ·unfold lvl;rw[MK h2];exact MN _
 ·have:=(H.at ha ah).1;omega
def tZ(H:cY n N): ∀(d e:Nat) {a:Nat},isN N a->n-lvl n N a<=d->n-lvl n N a<=e->sem f N d a x=sem f N e a x:=by
 intro d
 induction d with
 |zero=>
  intro e a ha hd he
  have h2:a<2:=by apply MS;intro hn;have:=(H.at ha ah).1;omega
  cases e with
  |zero=>rfl
  |succ e=>unfold sem;rw[MK h2]
 |succ d ih=>
  intro e a ha hd he;cases e with
  |zero=>
   have h2:a<2:=by apply MS;intro hn;have:=(H.at ha ah).1;omega
   unfold sem;rw[MK h2]
  |succ e=>
   unfold sem;by_cases h2:a<2
   ·rw[MK h2,MK h2]
   ·rw[MG h2,MG h2];obtain⟨h3,h4,h5,-,h6,h7⟩:=H.at ha ah;split
    ·exact ih e h5 ah ah
    ·exact ih e h4 ah ah
def bC(h:a<2):sm n f N a x=(a==1):=by
 unfold sm;cases n with
 |zero=>rfl
 |succ n=>unfold sem;rw[MK h]
def cJ{x:Nat}(H:cY n N)(ha:isN N a)(h2:2<=a):sm n f N a x=if x.testBit (f (lvl n N a))then sm n f N (high N a) x else sm n f N (low N a) x:=by
 obtain⟨h3,h4,h5,-,h6,h7⟩:=H.at ha h2;unfold sm;cases n with
 |zero=>omega
 |succ n=>
  conv=>lhs;unfold sem
  rw[MG ah,Eh (n:=0) (m:=n+1) h2,tZ H n (n+1) h4 ah ah,tZ H n (n+1) h5 ah ah]
def Ex(N N':ay):Prop:= ∀i x,nd N i=some x->nd N' i=some x
def Ex.refl(N:ay):Ex N N:=λ_ _ h=>h
def Ex.trans(h:Ex N N')(g:Ex N' N''):Ex N N'':=λi x e=>g i x (h i x e)
def jW.ext(P:jW N N' q x):Ex N N':=λ_ _ h=>P.old h
def Ex.isN(E:Ex N N')(h:Ev.isN N a):Ev.isN N' a:=h.imp id λ⟨x,h⟩=>⟨x,E _ x h⟩
def Ex.lvl(E:Ex N N')(h:Ev.isN N a):lvl n N' a=lvl n N a:=by
 unfold Ev.lvl;rcases h with h|⟨x,h⟩
 ·rw[MK h,MK h]
 ·rw[E _ x h,h]
def Ex.low(E:Ex N N')(h:Ev.isN N a):low N' a=low N a:=by
 unfold Ev.low;rcases h with h|⟨x,h⟩
 ·rw[MK h,MK h]
 ·rw[E _ x h,h]
def Ex.high(E:Ex N N')(h:Ev.isN N a):high N' a=high N a:=by
 unfold Ev.high;rcases h with h|⟨x,h⟩
 ·rw[MK h,MK h]
 ·rw[E _ x h,h]
def Ex.sem(H:cY n N)(E:Ex N N'): ∀(d:Nat) {a:Nat},Ev.isN N a->Ev.sem f N' d a x=Ev.sem f N d a x:=by
 intro d
 induction d with
 |zero=>intro a _;rfl
 |succ d ih=>
  intro a ha;unfold Ev.sem;by_cases h2:a<2
  ·rw[MK h2,MK h2]
  ·obtain⟨h3,h4,h5,-,h6,h7⟩:=H.at ha ah;rw[MG h2,MG h2,E.lvl ha,E.low ha,E.high ha,ih h4,ih h5]
def Ex.sm(H:cY n N)(E:Ex N N')(ha:Ev.isN N a):sm n f N' a x=sm n f N a x:=E.sem H n ha
def gT(H:cY n N)(H':cY n N')(ha:isN N a)(hb:isN N b)(la:l<lvl n N a)(R:ig room N l a b N' r 0):
  Ex N N'/\isN N' r/\l<=lvl n N' r/\ ∀x,sm n f N' r x=if x.testBit (f l)then sm n f N b x else sm n f N a x:=by
 rcases R with⟨h1,h2,-,h4⟩|⟨h1,i,h2,h3,-,h4⟩|⟨-,-,-,-,h,-⟩|⟨h1,-,-,-,q,h3,P⟩
 ·subst h1 h2 h4;exact⟨Ex.refl _,ha,ah,λx=>ak⟩
 ·subst h3 h4;have hr:isN N' (i+2):= .inr ⟨_,h2⟩;have e1:lvl n N' (i+2)=l:=by unfold lvl;rw[MG ah,show i+2-2=i by omega,h2]
  have e2:low N' (i+2)=a:=by unfold low;rw[MG ah,show i+2-2=i by omega,h2]
  have e3:high N' (i+2)=b:=by unfold high;rw[MG ah,show i+2-2=i by omega,h2]
  refine⟨Ex.refl _,hr,ah,λx=> ?_⟩;rw[cJ H hr ah,e1,e2,e3]
 ·omega
 ·subst h3;have E:=P.ext;have hn:nd N' q=some (l,a,b):=by rw[P.get,MK rfl]
  have hr:isN N' (q+2):= .inr ⟨_,hn⟩;have e1:lvl n N' (q+2)=l:=by unfold lvl;rw[MG ah,show q+2-2=q by omega,hn]
  have e2:low N' (q+2)=a:=by unfold low;rw[MG ah,show q+2-2=q by omega,hn]
  have e3:high N' (q+2)=b:=by unfold high;rw[MG ah,show q+2-2=q by omega,hn]
  refine⟨E,hr,ah,λx=> ?_⟩;rw[cJ H' hr ah,e1,e2,e3,E.sm H ha,E.sm H hb]
def sQ:nd (o::N) (i+1)=nd N i:=by simp[nd]
def gf(n m:Nat)(leaf:Nat->Nat->Bool)(c:Nat->Nat->Bool->Bool->Bool)(N:ay):Nat->Nat->Nat->Bool
 |0,a,x=>leaf a x
 |d+1,a,x=>if m<=lvl n N a then leaf a x else c (lvl n N a) x (gf n m leaf c N d (low N a) x) (gf n m leaf c N d (high N a) x)
def xD(H:cY n N)(hm:m<=n): ∀(d e:Nat) {a:Nat},isN N a->n-lvl n N a<=d->n-lvl n N a<=e->gf n m leaf c N d a x=gf n m leaf c N e a x:=by
 intro d
 induction d with
 |zero=>
  intro e a ha hd he;cases e with
  |zero=>rfl
  |succ e=>unfold gf;rw[MK ah]
 |succ d ih=>
  intro e a ha hd he;cases e with
  |zero=>unfold gf;rw[MK ah]
  |succ e=>
   unfold gf;by_cases h2:m<=lvl n N a
   ·rw[MK h2,MK h2]
   ·have a2:2<=a:=by
     apply MS;intro hn;have:lvl n N a=n:=by unfold lvl;rw[MK ah]
     omega
    obtain⟨h3,h4,h5,-,h6,h7⟩:=H.at ha a2;rw[MG h2,MG h2,ih e h4 ah ah,ih e h5 ah ah]
def Gy(H:cY n N)(E:Ex N N')(hm:m<=n)(hl: ∀b,isN N b->leaf' b x=leaf b x): ∀(d:Nat) {a:Nat},isN N a->gf n m leaf' c N' d a x=gf n m leaf c N d a x:=by
 intro d
 induction d with
 |zero=>intro a ha;exact hl a ha
 |succ d ih=>
  intro a ha;unfold gf;rw[E.lvl ha];by_cases h2:m<=lvl n N a
  ·rw[MK h2,MK h2];exact hl a ha
  ·have a2:2<=a:=by
    apply MS;intro hn;have:lvl n N a=n:=by unfold lvl;rw[MK ah]
    omega
   obtain⟨h3,h4,h5,-,h6,h7⟩:=H.at ha a2;rw[MG h2,MG h2,E.low ha,E.high ha,ih h4,ih h5]
def KU(fo:Nat->Nat)(op mask:Nat)(l x:Nat)(p q:Bool):Bool:=if mask.testBit (fo l)then(if op=7 then p&&q else p||q)else if x.testBit (fo l)then q else p
def GE(n:Nat)(fo:Nat->Nat)(op mask:Nat)(N:ay)(a x:Nat):Bool:=gf n n (λa _=>a==1) (KU fo op mask) N n a x
def DK(H:cY n N)(hm:m<=n)(ha:isN N a)(h:m<=lvl n N a):gf n m leaf c N n a x=leaf a x:=by rw[xD H hm n (n+1) ha ah ah];unfold gf;rw[MK h]
def DO(H:cY n N)(hm:m<=n)(ha:isN N a)(h:lvl n N a<m):gf n m leaf c N n a x=c (lvl n N a) x (gf n m leaf c N n (low N a) x) (gf n m leaf c N n (high N a) x):=by
 rw[xD H hm n (n+1) ha ah ah]
 conv=>lhs;unfold gf
 rw[MG ah]
def nW(H:cY n N)(E:Ex N N')(ha:isN N a):GE n fo op mask N' a x=GE n fo op mask N a x:=Gy H E (MN _) (λb hb=>rfl) n ha
structure QR(n:Nat)(fo:Nat->Nat)(N:ay)(op mask a r:Nat):Prop where
 is:isN N r
 lv:lvl n N a<=lvl n N r
 sm: ∀x,sm n fo N r x=GE n fo op mask N a x
def QR.ext(R:QR n fo N op mask a r)(H:cY n N)(E:Ex N N')(ha:isN N a):QR n fo N' op mask a r:=
 ⟨E.isN R.is,by rw[E.lvl ha,E.lvl R.is];exact R.lv,λx=>by rw[E.sm H R.is,R.sm,nW H E ha]⟩
end Go.Proofs.YtnofenejoebkhaaGreat.Ev
