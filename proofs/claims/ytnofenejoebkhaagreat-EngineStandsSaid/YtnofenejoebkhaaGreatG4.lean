/- PART 4 OF WHAT THE LAW EngineStands STANDS ON: DeqR5, DeqQ5, EvO, PolA5, PolB5, PolC5, PolD5, PolE5, PolG5, PolH5, PolI5, LpF5, PolJ5, EngA5, EngF5, EngB5, EngC5, RefF5, IterE5, RefC5, RefD5. Conditions: none but those that each lemma states. -/
import Derived.Test.YtnofenejoebkhaaGreatG3
namespace Go.Proofs.YtnofenejoebkhaaGreat.Ev
open Go
set_option linter.defProp false
section
section
variable {h h0:aH}{f d bx by_ m mc base n:Nat}{cs:List Int}{ops fails:Int}{K:KK}
def zn{T:Nat}{q:List Int}(W:DW h d m mc base n cs ops fails)(S:DS base n cs T q)(hT:T+q.length<1000000000)(H:cG h f d bx by_ ⟨0,0,0,11,false,false⟩)(d1:f≠d)(d2:f≠m)(d3:f≠mc)
  (hE:q=[]-> ∀h' ops' fails',DW h' d m mc base n cs ops' fails'->aM [f,m,mc] h h'->K (.tuple #[aq 0,aB]) h')
  (hK: ∀x q',q=x::q'-> ∀h' ops' fails' cs',DS base n cs' (T+1) q'->kT base n cs cs'->DW h' d m mc base n cs' ops' fails'->aM [f,m,mc] h h'->K (.tuple #[aq x,aC]) h'):
  Cl 92 [au (aw f)] h K:=by
 apply F92.spec;unfold F92.wk2;have hb:ax (cs.getD (base+1) 0)=((T+q.length:Nat):Int):=by rw[S.bot,wrap_i64 ah ah]
 have ht:ax (cs.getD base 0)=(T:Int):=by rw[S.top,wrap_i64 ah ah]
 have hl:=W.hl;have hn:=W.hn;refine⟨4,?_⟩
 refine fF (A':=⟨0,T,0,12,false,false⟩) (cs':=cs) (by unfold bR;simp only[Bool.false_eq_true,if_false,ht]) (by decide) W H d1 d2 d3 ak ak ak rfl λh1 o1 f1 H1 W1 O1=> ?_
 cases q with
 |nil=>
  refine iE (A':=⟨0,T,T,13,true,false⟩) (cs':=cs) (by unfold bR;simp only[Bool.false_eq_true,if_false,hb];simp) (by decide) W1 H1 d1 d2 d3 ak ak ak rfl λh2 o2 f2 W2 O2=> ?_
  have:=hE rfl h2 o2 f2 W2 (O1.trans O2 λb hb _=>hb);simpa[iX,jp]using this
 |cons x q'=>
  simp only[List.length_cons]at hb hT
  refine fF (A':=⟨0,T,((T+(q'.length+1):Nat):Int),13,false,false⟩) (cs':=cs) (by unfold bR;simp only[Bool.false_eq_true,if_false,hb];rw[decide_eq_false ah];simp) (by decide) W1 H1 d1 d2 d3 ak ak ak rfl λh2 o2 f2 H2 W2 O2=> ?_
  have hv:cs.getD (dC base n (T:Int)) 0=x:=by rw[yA];have:=S.val 0 ak;simpa using this
  refine fF (A':=⟨x,T,((T+(q'.length+1):Nat):Int),14,false,false⟩) (cs':=cs) (by unfold bR;simp only[Bool.false_eq_true,if_false,hv]) (by decide) W2 H2 d1 d2 d3 ak ak (λ_=>by show(0:Int)<=(T:Int);omega) rfl λh3 o3 f3 H3 W3 O3=> ?_
  refine iE (A':=⟨x,T,((T+(q'.length+1):Nat):Int),14,true,true⟩) (cs':=cs.set base ((T+1:Nat):Int)) (by unfold bR;simp only[Bool.false_eq_true,if_false];rw[if_pos (by rw[S.top,cd ah ah]),wrap_i64 ah ah,cd ah ah];simp) (by decide) W3 H3 d1 d2 d3 ak ak ak rfl λh4 o4 f4 W4 O4=> ?_
  have P:=((O1.trans O2 λb hb _=>hb).trans O3 λb hb _=>hb).trans O4 λb hb _=>hb;have:=hK x q' rfl h4 o4 f4 _ ?_ ?_ W4 P
  ·simpa[iX,jp]using this
  ·refine⟨?_,?_,by have:=S.len;simp at this;omega,λi hi=> ?_⟩
   ·rw[bF ah,if_pos rfl]
   ·rw[bF ah,if_neg ah,S.bot];simp only[List.length_cons];omega
   ·rw[bF ah,if_neg ah,show T+1+i=T+(i+1) by omega,S.val (i+1) (by simp;omega)];simp[List.getD]
  ·refine⟨ak,λy hy=> ?_⟩;rw[bF ah,if_neg ah]
def EA{T:Nat}{q:List Int}(W:DW h d m mc base n cs ops fails)(S:DS base n cs T q)(hT:T+q.length<1000000000)(H:cG h f d bx by_ ⟨0,0,0,4,false,false⟩)(d1:f≠d)(d2:f≠m)(d3:f≠mc)
  (hE:q=[]-> ∀h' ops' fails' cs',DS base n cs' T []->kT base n cs cs'->DW h' d m mc base n cs' ops' fails'->aM [f,m,mc] h h'->K (.tuple #[aq 0,aB]) h')
  (hK: ∀x q' T',q=q'++[x]->T'+q'.length<=T+q.length->DS base n cs (T) q-> ∀h' ops' fails' cs',DS base n cs' T' q'->kT base n cs cs'->DW h' d m mc base n cs' ops' fails'->aM [f,m,mc] h h'->K (.tuple #[aq x,aC]) h'):
  Cl 92 [au (aw f)] h K:=by
 apply F92.spec;unfold F92.wk2;have hb:ax (cs.getD (base+1) 0)=((T+q.length:Nat):Int):=by rw[S.bot,wrap_i64 ah ah]
 have ht:ax (cs.getD base 0)=(T:Int):=by rw[S.top,wrap_i64 ah ah]
 have hl:=W.hl;have hn:=W.hn;refine⟨6,?_⟩
 refine fF (A':=⟨0,0,((T+q.length:Nat):Int)-1,5,false,false⟩) (cs':=cs) (by unfold bR;simp only[Bool.false_eq_true,if_false,hb];rw[wrap_i64 ah ah]) (by decide) W H d1 d2 d3 ak ak ak rfl λh1 o1 f1 H1 W1 O1=> ?_
 refine fF (A':=⟨0,0,((T+q.length:Nat):Int)-1,6,false,false⟩) (cs':=cs.set (base+1) (IntKind.wrap .u64 (((T+q.length:Nat):Int)-1))) (by unfold bR;simp only[Bool.false_eq_true,if_false]) (by decide) W1 H1 d1 d2 d3 ak ak ak rfl λh2 o2 f2 H2 W2 O2=> ?_
 have ht2:ax ((cs.set (base+1) (IntKind.wrap .u64 (((T+q.length:Nat):Int)-1))).getD base 0)=(T:Int):=by rw[bF ah,if_neg ah,ht]
 have top2:(cs.set (base+1) (IntKind.wrap .u64 (((T+q.length:Nat):Int)-1))).getD base 0=(T:Int):=by rw[bF ah,if_neg ah,S.top]
 have P2:=O1.trans O2 λb hb _=>hb;have ap2:kT base n cs (cs.set (base+1) (IntKind.wrap .u64 (((T+q.length:Nat):Int)-1))):=⟨ak,λy hy=>by rw[bF ah,if_neg ah]⟩;by_cases hq:q=[]
 ·subst hq;simp only[List.length_nil,Nat.add_zero]at*
  refine fF (A':=⟨0,T,(T:Int)-1,10,false,false⟩) (cs':=cs.set (base+1) (IntKind.wrap .u64 ((T:Int)-1))) (by unfold bR;simp only[Bool.false_eq_true,if_false,ht2];rw[decide_eq_true ah];simp) (by decide) W2 H2 d1 d2 d3 ak ak ak rfl λh3 o3 f3 H3 W3 O3=> ?_
  refine iE (A':=⟨0,T,(T:Int)-1,10,true,false⟩) (cs':=(cs.set (base+1) (IntKind.wrap .u64 ((T:Int)-1))).set (base+1) (T:Int)) (by unfold bR;simp only[Bool.false_eq_true,if_false];rw[show(T:Int)-1+1=T by omega,wrap_i64 (n:=(T:Int)) ah ah,cd (n:=(T:Int)) ah ah]) (by decide) W3 H3 d1 d2 d3 ak ak ak rfl λh4 o4 f4 W4 O4=> ?_
  have:=hE (by trivial) h4 o4 f4 _ ⟨?_,?_,Nat.zero_le _,λi hi=>by simp at hi⟩ ⟨ak,λy hy=> ?_⟩ W4 ((P2.trans O3 λb hb _=>hb).trans O4 λb hb _=>hb)
  ·simpa[iX,jp]using this
  ·rw[bF (by simp;omega),if_neg ah];exact top2
  ·rw[bF (by simp;omega),if_pos rfl];simp
  ·rw[bF (by simp;omega),if_neg ah];exact ap2.2 y hy
 ·obtain⟨q',x,rfl⟩: ∃q' x,q=q'++[x]:=⟨q.dropLast,q.getLast hq,(List.dropLast_concat_getLast hq).symm⟩;have sl:=S.len;simp only[List.length_append,List.length_cons,List.length_nil,Nat.zero_add]at*
  have eb:(((T+(q'.length+1):Nat):Int)-1)=((T+q'.length:Nat):Int):=ah;have ew:IntKind.wrap .u64 ((T+q'.length:Nat):Int)=((T+q'.length:Nat):Int):=cd ah ah;simp only[eb,ew]at H1 H2 W2 ht2 top2 ap2
  refine fF (A':=⟨0,T,((T+q'.length:Nat):Int),7,false,false⟩) (cs':=cs.set (base+1) ((T+q'.length:Nat):Int)) (by unfold bR;simp only[Bool.false_eq_true,if_false,ht2];rw[decide_eq_false ah];simp) (by decide) W2 H2 d1 d2 d3 ak ak ak rfl λh3 o3 f3 H3 W3 O3=> ?_
  have hmod:(T+q'.length)%n<n:=Nat.mod_lt _ ah
  have hv:(cs.set (base+1) ((T+q'.length:Nat):Int)).getD (dC base n ((T+q'.length:Nat):Int)) 0=x:=by rw[yA,bF ah,if_neg ah,S.val q'.length ak];simp[List.getD]
  have vals: ∀i,i<q'.length->(cs.set (base+1) ((T+q'.length:Nat):Int)).getD (base+2+(T+i)%n) 0=q'.getD i 0:=by intro i hi;rw[bF ah,if_neg ah,S.val i (by simp;omega)];simp only[List.getD,List.getElem?_append_left hi]
  by_cases h1q:T<T+q'.length
  ·refine iE (A':=⟨x,T,((T+q'.length:Nat):Int),7,true,true⟩) (cs':=cs.set (base+1) ((T+q'.length:Nat):Int)) (by
    unfold bR;simp only[Bool.false_eq_true,if_false,hv];rw[if_pos (decide_eq_true ah)]) (by decide) W3 H3 d1 d2 d3 ak (λ_=>by show(0:Int)<=((T+q'.length:Nat):Int);omega) ak rfl λh4 o4 f4 W4 O4=> ?_
   have:=hK x q' T rfl ah S h4 o4 f4 _ ⟨top2,by rw[bF ah,if_pos rfl],ah,vals⟩ ap2 W4 ((P2.trans O3 λb hb _=>hb).trans O4 λb hb _=>hb);simpa[iX,jp]using this
  ·have hq0:q'=[]:=List.length_eq_zero_iff.1 ah;subst hq0;simp only[List.length_nil,Nat.add_zero]at*
   refine fF (A':=⟨x,T,(T:Int),8,false,false⟩) (cs':=cs.set (base+1) (T:Int)) (by unfold bR;simp only[Bool.false_eq_true,if_false,hv];rw[if_neg ak]) (by decide) W3 H3 d1 d2 d3 ak (λ_=>by show(0:Int)<=(T:Int);omega) ak rfl λh4 o4 f4 H4 W4 O4=> ?_
   refine fF (A':=⟨x,T,(T:Int),9,false,true⟩) (cs':=(cs.set (base+1) (T:Int)).set base ((T+1:Nat):Int)) (by unfold bR;simp only[Bool.false_eq_true,if_false];rw[if_pos (by rw[top2,cd ah ah]),wrap_i64 ah ah,cd ah ah];simp) (by decide) W4 H4 d1 d2 d3 ak ak ak rfl λh5 o5 f5 H5 W5 O5=> ?_
   refine iE (A':=⟨x,T,(T:Int),9,true,true⟩) (cs':=((cs.set (base+1) (T:Int)).set base ((T+1:Nat):Int)).set (base+1) ((T+1:Nat):Int)) (by unfold bR;simp only[Bool.false_eq_true,if_false];rw[wrap_i64 ah ah,cd ah ah];simp) (by decide) W5 H5 d1 d2 d3 ak ak ak rfl λh6 o6 f6 W6 O6=> ?_
   have:=hK x [] (T+1) rfl ak S h6 o6 f6 _ ⟨?_,?_,Nat.zero_le _,λi hi=>by simp at hi⟩ ⟨ak,λy hy=> ?_⟩ W6 ((((P2.trans O3 λb hb _=>hb).trans O4 λb hb _=>hb).trans O5 λb hb _=>hb).trans O6 λb hb _=>hb)
   ·simpa[iX,jp]using this
   ·rw[bF (by simp;omega),if_neg ah,bF (by simp;omega),if_pos rfl]
   ·rw[bF (by simp;omega),if_pos rfl];simp
   ·rw[bF (by simp;omega),if_neg ah,bF (by simp;omega),if_neg ah];exact ap2.2 y hy
end
end
section
section
variable {h:aH}{d m mc base n:Nat}{cs:List Int}{ops fails:Int}{Q:KK}{T:Nat}{q:List Int}
def Dl{v:Int}(W:DW h d m mc base n cs ops fails)(S:DS base n cs T q)(hT:T+q.length<1000000000)
  (hQ: ∀h' ops' fails' cs',(q.length<n->DS base n cs' T (q++[v]))->(¬q.length<n->cs'=cs)->kT base n cs cs'->DW h' d m mc base n cs' ops' fails'->aM [m,mc] h h'->Q (.tuple #[aq (if q.length<n then v else 0),aD (decide (q.length<n))]) h'):
  Cl 93 [au (aw d),aq v] h (λv1 h2=>ba (some v1) (λp3=>Cl 92 [.pointer p3] h2 Q)):=by
 have lt:=W.lt;refine Cn λf bx by_ h1 H1 O1 a b c a' b' c' n1 n2 n3=>aR rfl ?_;refine BG (W.only O1 ak ak ak) S hT H1 ah ah ah λh2 o2 f2 cs2 r1 r2 r3 W2 O2=> ?_
 exact hQ h2 o2 f2 cs2 r1 r2 r3 W2 ((O1.mono (T:=[m,mc]) ak).trans O2 λx hx hl=>by simp at hx ⊢;omega)
def EW(W:DW h d m mc base n cs ops fails)(S:DS base n cs T q)(hT:T+q.length<1000000000)
  (hE:q=[]-> ∀h' ops' fails' cs',DS base n cs' T []->kT base n cs cs'->DW h' d m mc base n cs' ops' fails'->aM [m,mc] h h'->Q (.tuple #[aq 0,aB]) h')
  (hQ: ∀x q' T',q=q'++[x]->T'+q'.length<=T+q.length-> ∀h' ops' fails' cs',DS base n cs' T' q'->kT base n cs cs'->DW h' d m mc base n cs' ops' fails'->aM [m,mc] h h'->Q (.tuple #[aq x,aC]) h'):
  Cl 177 [au (aw d)] h (λv1 h2=>ba (some v1) (λp3=>Cl 92 [.pointer p3] h2 Q)):=by
 have lt:=W.lt;refine Fl λf bx by_ h1 H1 O1 a b c a' b' c' n1 n2 n3=>aR rfl ?_
 have hO: ∀h2,aM [f,m,mc] h1 h2->aM [m,mc] h h2:=λh2 O2=>(O1.mono (T:=[m,mc]) ak).trans O2 λx hx hl=>by simp at hx ⊢;omega
 exact EA (W.only O1 ak ak ak) S hT H1 ah ah ah (λe h2 o2 f2 cs2 r1 r2 W2 O2=>hE e h2 o2 f2 cs2 r1 r2 W2 (hO h2 O2)) λx q' T' e le _ h2 o2 f2 cs2 r1 r2 W2 O2=>hQ x q' T' e le h2 o2 f2 cs2 r1 r2 W2 (hO h2 O2)
def yj(W:DW h d m mc base n cs ops fails)(S:DS base n cs T q)(hT:T+q.length<1000000000)
  (hE:q=[]-> ∀h' ops' fails',DW h' d m mc base n cs ops' fails'->aM [m,mc] h h'->Q (.tuple #[aq 0,aB]) h')
  (hQ: ∀x q',q=x::q'-> ∀h' ops' fails' cs',DS base n cs' (T+1) q'->kT base n cs cs'->DW h' d m mc base n cs' ops' fails'->aM [m,mc] h h'->Q (.tuple #[aq x,aC]) h'):
  Cl 178 [au (aw d)] h (λv1 h2=>ba (some v1) (λp3=>Cl 92 [.pointer p3] h2 Q)):=by
 have lt:=W.lt;refine zE λf bx by_ h1 H1 O1 a b c a' b' c' n1 n2 n3=>aR rfl ?_
 have hO: ∀h2,aM [f,m,mc] h1 h2->aM [m,mc] h h2:=λh2 O2=>(O1.mono (T:=[m,mc]) ak).trans O2 λx hx hl=>by simp at hx ⊢;omega
 exact zn (W.only O1 ak ak ak) S hT H1 ah ah ah (λe h2 o2 f2 W2 O2=>hE e h2 o2 f2 W2 (hO h2 O2)) λx q' e h2 o2 f2 cs2 r1 r2 W2 O2=>hQ x q' e h2 o2 f2 cs2 r1 r2 W2 (hO h2 O2)
end
end
section
def ET(h:aH)(r b:Nat)(k:IntKind)(m left:List (Int×Value)):Prop:=
 ∃es cl since seen last,mp h b=some (es,cl)/\es.toList.map (λe=>(e.key,e.val))=m.map (λp=>(Value.int k p.1,p.2))/\(es.toList.map (·.born)).Nodup/\h[r]? =some (.mapIter (some b) since seen last)/\
  (∀x∈es.toList,x.born<since)/\since<=last/\(leftOf es seen).toList.map (λe=>(e.key,e.val))=left.map (λp=>(Value.int k p.1,p.2))/\since<=cl
def Eh(h:aH)(r b:Nat)(k:IntKind)(x:Int)(v:Value):Prop:=
 ∃(es:Array MapEntry) (since:Nat) (seen:Array Nat) (cl:Nat) (e:MapEntry),h[r]? =some (.mapIter (some b) since (seen.push e.born) cl)/\mp h b=some (es,cl)/\e∈es.toList/\(es.toList.map (·.born)).Nodup/\e.key= .int k x/\e.val=v
def ET.only{S:List Nat}{h h':aH}{r b:Nat}{k:IntKind}{m left:List (Int×Value)}(H:ET h r b k m left)(O:aM S h h')(hr:r∉S)(hb:b∉S):ET h' r b k m left:=by
 obtain⟨es,cl,since,seen,last,h1,h2,h3,h4,h5⟩:=H;refine⟨es,cl,since,seen,last,?_,h2,h3,?_,h5⟩
 ·have:=kg h1;unfold mp;rw[O.same b (Array.getElem?_eq_some_iff.1 this).1 hb,this]
 ·rw[O.same r (Array.getElem?_eq_some_iff.1 h4).1 hr];exact h4
def aM.push_obj(h:aH)(o:Obj)(ho: ∀c e f,o≠ .cells c e f):aM [] h (h.push o):=by
 refine⟨ak,λb hb _=>by simp[Array.getElem?_push,Nat.ne_of_lt hb],λa=> ?_⟩;unfold fz;rw[Array.getElem?_push];by_cases ha:a.block=h.size
 ·rw[if_pos ha,ha];cases o<;>simp_all
 ·rw[if_neg ha]
def aM.set_iter{h:aH}{r:Nat}{m:Option Nat}{s:Nat}{seen:Array Nat}{l:Nat}(hr:h[r]? =some (.mapIter m s seen l))(m':Option Nat)(s':Nat)(seen':Array Nat)(l':Nat):aM [r] h (h.setIfInBounds r (.mapIter m' s' seen' l')):=by
 have hlt:=(Array.getElem?_eq_some_iff.1 hr).1;refine⟨ak,λb hb hS=> ?_,λa=> ?_⟩
 ·have:r≠b:=λe=>hS (by simp[e]);rw[Array.getElem?_setIfInBounds,if_neg this]
 ·unfold fz;rw[Array.getElem?_setIfInBounds];by_cases ha:r=a.block
  ·rw[if_pos ha,if_pos hlt,<-ha,hr]
  ·rw[if_neg ha]
def xF{h:aH}{b:Nat}{k:IntKind}{m:List (Int×Value)}{K:Option Addr->aH->Prop}(H:bO h b k m)
  (hK: ∀h',ET h' h.size b k m m->aM [] h h'->h'.size=h.size+1->K (some ⟨h.size,0,none⟩) h'):BV h (some b) K:=by
 obtain⟨es,cl,h1,h2,h3,h4,h5⟩:=H;have hb:=kg h1;have hlt:=(Array.getElem?_eq_some_iff.1 hb).1;refine⟨es,cl,h1,hK _ ⟨es,cl,cl,#[],cl,?_,h2,h4,ak,h5,Nat.le_refl _,?_,Nat.le_refl _⟩ (aM.push_obj _ _ ak) ak⟩
 ·unfold mp;rw[Array.getElem?_push,if_neg (Nat.ne_of_lt hlt),hb]
 ·rw[<-h2];unfold leftOf;rw[Array.toList_filter,List.filter_eq_self.2 ak]
def sM{h:aH}{r b:Nat}{k:IntKind}{m left:List (Int×Value)}{K0:Prop}{K1:Value->Value->aH->Prop}(H:ET h r b k m left)(hrb:r≠b)(h0:left=[]->K0)
  (h1: ∀A x v B h',left=A++(x,v)::B->ET h' r b k m (A++B)->Eh h' r b k x v->aM [r] h h'->h'.size=h.size->K1 (.int k x) v h'):EH h (some ⟨r,0,none⟩) K0 K1:=by
 obtain⟨es,cl,since,seen,last,g1,g2,g3,g4,g5,g6,g7,g8⟩:=H;refine⟨rfl,some b,since,seen,last,g4,es,cl,g1,g5,g6,λhz=>h0 ?_,λe he=> ?_⟩
 ·have hl:(leftOf es seen).toList=[]:=by
   apply List.eq_nil_of_length_eq_zero;simpa using hz
  rw[hl]at g7;cases left with
  |nil=>rfl
  |cons a l=>simp at g7
 ·obtain⟨A',B',eL⟩:=List.append_of_mem he;rw[eL,List.map_append,List.map_cons]at g7;obtain⟨A,C,e1,e2,e3⟩:=List.map_eq_append_iff.1 g7.symm;obtain⟨⟨x,v⟩,B,e4,e5,e6⟩:=List.map_eq_cons_iff.1 e3;subst e4 e1;simp only[Prod.mk.injEq]at e5;have hsub:(leftOf es seen).toList.Sublist es.toList:=by unfold leftOf;rw[Array.toList_filter];exact List.filter_sublist
  have hnd:((A'++e::B').map (·.born)).Nodup:=by rw[<-eL];exact g3.sublist (hsub.map _)
  have hlt:=(Array.getElem?_eq_some_iff.1 g4).1
  have hit:(h.setIfInBounds r (.mapIter (some b) since (seen.push e.born) cl))[r]? =some (.mapIter (some b) since (seen.push e.born) cl):=by rw[Array.getElem?_setIfInBounds,if_pos rfl,if_pos hlt]
  have hmp:mp (h.setIfInBounds r (.mapIter (some b) since (seen.push e.born) cl)) b=some (es,cl):=by unfold mp;rw[Array.getElem?_setIfInBounds,if_neg hrb,kg g1]
  have hK:=h1 A x v B (h.setIfInBounds r (.mapIter (some b) since (seen.push e.born) cl)) rfl ⟨es,cl,since,seen.push e.born,cl,hmp,g2,g3,hit,g5,g8,?_,g8⟩
   ⟨es,since,seen,cl,e,hit,hmp,hsub.subset he,g3,e5.1.symm,e5.2.symm⟩ (aM.set_iter g4 _ _ _ _) ak
  ·rw[<-e5.1,<-e5.2];exact hK
  ·have hf:(leftOf es (seen.push e.born)).toList=A'++B':=by
    have h2:(leftOf es (seen.push e.born)).toList=(leftOf es seen).toList.filter λy=> !(y.born==e.born):=by unfold leftOf;rw[Array.toList_filter,Array.toList_filter,List.filter_filter];apply List.filter_congr;intro y _;simp only[Array.contains_push];cases h:seen.contains y.born<;>cases h':(y.born==e.born)<;>simp_all
    rw[h2,eL];rw[List.map_append,List.map_cons,List.nodup_append]at hnd;obtain⟨n1,n2,n3⟩:=hnd;rw[List.nodup_cons]at n2;rw[List.filter_append,List.filter_cons];simp only[beq_self_eq_true,Bool.not_true,Bool.false_eq_true,if_false];rw[List.filter_eq_self.2 λy hy=> ?_,List.filter_eq_self.2 λy hy=> ?_]
    ·have:y.born≠e.born:=λe'=>n2.1 (e'▸List.mem_map.2 ⟨y,hy,rfl⟩);simpa using this
    ·have:y.born≠e.born:=λe'=>n3 y.born (List.mem_map.2 ⟨y,hy,rfl⟩) e.born ak e';simpa using this
   rw[hf,List.map_append,List.map_append,e2,e6]
def xA{h:aH}{r b:Nat}{k:IntKind}{x:Int}{v:Value}{K:Value->Value->Prop}(H:Eh h r b k x v)(hK:K (.int k x) v):Ay h (some ⟨r,0,none⟩) K:=by obtain⟨es,since,seen,cl,e,h1,h2,h3,h4,h5,h6⟩:=H;refine⟨rfl,b,since,seen.push e.born,cl,es,e.born,e,h1,ak,h2,?_,by rw[h5,h6];exact hK⟩;rw[<-Array.find?_toList];exact find_born e es.toList h4 h3
end
section
structure Wk where
 w:Nat
 d:Nat
 m:Nat
 mc:Nat
 cs:List Int
 ops:Int
 fails:Int
 T:Nat
 q:List Int
 job:Int
def Wk.bl(k:Wk):List Nat:=[k.w,k.d,k.m,k.mc]
structure ki(h:aH)(k:Wk):Prop where
 own:At h k.w [bh k.d,al k.job]
 dw:DW h k.d k.m k.mc 0 64 k.cs k.ops k.fails
 ds:DS 0 64 k.cs k.T k.q
 ne:k.w≠k.d/\k.w≠k.m/\k.w≠k.mc
def ki.only{h h':aH}{k:Wk}{S:List Nat}(H:ki h k)(O:aM S h h')(hS: ∀b∈S,b∉k.bl):ki h' k:=
 ⟨H.own.only O λhm=>hS _ hm (by simp[Wk.bl]),H.dw.only O (λhm=>hS _ hm (by simp[Wk.bl])) (λhm=>hS _ hm (by simp[Wk.bl])) λhm=>hS _ hm (by simp[Wk.bl]),H.ds,H.ne⟩
def ki.lt{h:aH}{k:Wk}(H:ki h k): ∀b∈k.bl,b<h.size:=λb hb=>by have h1:=H.own.lt;obtain⟨h2,h3,h4⟩:=H.dw.lt;simp only[Wk.bl,List.mem_cons,List.not_mem_nil,or_false]at hb;rcases hb with e|e|e|e<;>subst e<;>assumption
structure Jb where
 id:Nat
 A:MA
 G:kO
structure PS where
 wp:az
 wc:Nat
 jb:Nat
 ws:List Wk
 jobs:List Jb
 last:Nat
 steals:Int
def jq(s:Nat)(P:PS):List Value:=[bh s,.slice P.wp P.ws.length P.wc,.map (some P.jb),al (P.last:Int),al P.steals]
def dx(p:Nat)(P:PS)(b:Nat):Prop:=b=p\/b=P.jb\/b∈aX P.wp\/(∃k∈P.ws,b∈k.bl)\/ ∃j∈P.jobs,b∈j.A.bl
structure Ii(τ:Nat->Nat)(p:Nat)(P:PS):Prop where
 p:τ p=0
 jb:τ P.jb=0
 wp: ∀b∈aX P.wp,τ b=0
 ws: ∀i k,P.ws[i]? =some k-> ∀b∈k.bl,τ b=2*i+1
 jobs: ∀j∈P.jobs,∀b∈j.A.bl,τ b=2*j.id+2
structure bG(h:aH)(p s:Nat)(P:PS):Prop where
 own:At h p (jq s P)
 wks:cj h 0 1 P.wp P.ws.length P.wc (P.ws.map λk=>bh k.w)
 wk: ∀k∈P.ws,ki h k
 jbm:bO h P.jb .i64 (P.jobs.map λj=>((j.id:Int),bh j.A.m))
 ma: ∀j∈P.jobs,cB h s j.A
 sep: ∃τ,Ii τ p P
 ne:p≠P.jb/\p∉aX P.wp/\P.jb∉aX P.wp
 ids:(P.jobs.map (·.id)).Nodup/\ ∀j∈P.jobs,1<=j.id/\j.id<=P.last
section
variable {h h':aH}{p s:Nat}{P:PS}{S:List Nat}
def bG.only(H:bG h p s P)(O:aM S h h')(hS: ∀b∈S,¬dx p P b):bG h' p s P:=by refine⟨H.own.only O λhm=>hS _ hm (.inl rfl),H.wks.only O λb e hm=>hS b hm (.inr (.inr (.inl (by rw[e];simp[aX])))),λk hk=>(H.wk k hk).only O λb hb hm=>hS b hb (.inr (.inr (.inr (.inl ⟨k,hk,hm⟩)))),H.jbm.only O λhm=>hS _ hm (.inr (.inl rfl)),λj hj=>(H.ma j hj).only O λb hb hm=>hS b hb (.inr (.inr (.inr (.inr ⟨j,hj,hm⟩)))),H.sep,H.ne,H.ids⟩
def bG.only0(H:bG h p s P)(O:aM [] h h'):bG h' p s P:=H.only O ak
def bG.lt(H:bG h p s P): ∀b,dx p P b->b<h.size:=λb hb=>by
 rcases hb with e|e|hb|⟨k,hk,hb⟩|⟨j,hj,hb⟩
 ·subst e;exact H.own.lt
 ·subst e;exact H.jbm.lt
 ·exact(H.wks.lt b hb).2
 ·exact(H.wk k hk).lt b hb
 ·exact(H.ma j hj).lt b hb
def bG.set_wk(H:bG h p s P){i:Nat}{k k':Wk}(hi:P.ws[i]? =some k)(O:aM S h h')(hS: ∀b∈S,b∈k.bl)(W:ki h' k')(hb:k'.bl=k.bl):bG h' p s {P with ws:=P.ws.set i k'}:=by
 obtain⟨τ,t⟩:=H.sep;have hil:i<P.ws.length:=(List.getElem?_eq_some_iff.1 hi).1;have tS: ∀b∈S,τ b=2*i+1:=λb hb=>t.ws i k hi b (hS b hb);have ew:k'.w=k.w:=by simp only[Wk.bl,List.cons.injEq]at hb;exact hb.1
 have em:(P.ws.set i k').map (λk=>bh k.w)=P.ws.map λk=>bh k.w:=by
  rw[List.map_set];apply List.ext_getElem?;intro j;rw[List.getElem?_set];by_cases hij:i=j
  ·subst hij;rw[if_pos rfl,if_pos (by simpa using hil),List.getElem?_map,hi];simp[ew]
  ·rw[if_neg hij]
 refine⟨?_,?_,λx hx=> ?_,H.jbm.only O λhm=>by have:=tS _ hm;have:=t.jb;omega,λj hj=>(H.ma j hj).only O λb hb hm=>by have:=tS b hb;have:=t.jobs j hj b hm;omega,⟨τ,t.p,t.jb,t.wp,λj x hx b hb'=> ?_,t.jobs⟩,H.ne,H.ids⟩
 ·have:=H.own.only O (λhm=>by have:=tS _ hm;have:=t.p;omega);simpa[jq]using this
 ·show cj h' 0 1 P.wp (P.ws.set i k').length P.wc ((P.ws.set i k').map λk=>bh k.w);rw[em,List.length_set];exact H.wks.only O λb e hm=>by have:=tS b hm;have:=t.wp b (by rw[e];simp[aX]);omega
 ·obtain⟨j,hj⟩:=List.mem_iff_getElem?.1 hx;have hj:(P.ws.set i k')[j]? =some x:=hj;rw[List.getElem?_set]at hj;by_cases hij:i=j
  ·rw[if_pos hij,if_pos ah]at hj;injection hj with hj;subst hj;exact W
  ·rw[if_neg hij]at hj;refine(H.wk x (List.mem_of_getElem? hj)).only O λb hb hm=> ?_;have:=tS b hb;have:=t.ws j x hj b hm;omega
 ·have hx:(P.ws.set i k')[j]? =some x:=hx;rw[List.getElem?_set]at hx;by_cases hij:i=j
  ·subst hij;rw[if_pos rfl,if_pos hil]at hx;injection hx with hx;subst hx;rw[hb]at hb';exact t.ws i k hi b hb'
  ·rw[if_neg hij]at hx;exact t.ws j x hx b hb'
def fh{i b:Nat}{k k':Wk}(hi:P.ws[i]? =some k)(hb:k'.bl=k.bl)(h:dx p {P with ws:=P.ws.set i k'} b):dx p P b:=by
 have hil:i<P.ws.length:=(List.getElem?_eq_some_iff.1 hi).1;rcases h with e|e|h|⟨x,hx,h⟩|h
 ·exact .inl e
 ·exact .inr (.inl e)
 ·exact .inr (.inr (.inl h))
 ·obtain⟨j,hj⟩:=List.mem_iff_getElem?.1 hx;have hj:(P.ws.set i k')[j]? =some x:=hj;rw[List.getElem?_set]at hj;by_cases hij:i=j
  ·rw[if_pos hij,if_pos ah]at hj;injection hj with hj;subst hj;rw[hb]at h;exact .inr (.inr (.inr (.inl ⟨k,List.mem_of_getElem? hi,h⟩)))
  ·rw[if_neg hij]at hj;exact .inr (.inr (.inr (.inl ⟨x,List.mem_of_getElem? hj,h⟩)))
 ·exact .inr (.inr (.inr (.inr h)))
def bG.set_ma(H:bG h p s P){i:Nat}{j:Jb}{A':MA}(hi:P.jobs[i]? =some j)(O:aM S h h')(hS: ∀b∈S,dx p P b->b∈j.A.bl)(M:cB h' s A')(em:A'.m=j.A.m)(hb: ∀b∈A'.bl,b∈j.A.bl\/h.size<=b):
  bG h' p s {P with jobs:=P.jobs.set i {j with A:=A'}}:=by
 obtain⟨τ,t⟩:=H.sep;have hil:i<P.jobs.length:=(List.getElem?_eq_some_iff.1 hi).1;have hj:=List.mem_of_getElem? hi;have tS: ∀b∈S,dx p P b->τ b=2*j.id+2:=λb hb h=>t.jobs j hj b (hS b hb h)
 have map_set: ∀{β:Type} (f:Jb->β),f {j with A:=A'}=f j->(P.jobs.set i {j with A:=A'}).map f=P.jobs.map f:=λf e=>by
  rw[List.map_set,e];apply List.ext_getElem?;intro x;rw[List.getElem?_set];by_cases hix:i=x
  ·subst hix;rw[if_pos rfl,if_pos (by simpa using hil),List.getElem?_map,hi]
   rfl
  ·rw[if_neg hix]
 have uniq: ∀x y,P.jobs[x]? =some y->y.id=j.id->x=i:=λx y hy e=>by
  have nd:=H.ids.1;have h1:(P.jobs.map (·.id))[x]? =some j.id:=by rw[List.getElem?_map,hy];simp[e]
  have h2:(P.jobs.map (·.id))[i]? =some j.id:=by rw[List.getElem?_map,hi];rfl
  have l1:x<(P.jobs.map (·.id)).length:=(List.getElem?_eq_some_iff.1 h1).1;have l2:i<(P.jobs.map (·.id)).length:=(List.getElem?_eq_some_iff.1 h2).1;apply Classical.byContradiction;intro hne;rcases Nat.lt_or_ge x i with h|h
  ·have:=(List.pairwise_iff_getElem.1 nd) x i l1 l2 h;rw[List.getElem?_eq_getElem l1]at h1;rw[List.getElem?_eq_getElem l2]at h2;injection h1 with h1;injection h2 with h2;exact this (h1.trans h2.symm)
  ·have:=(List.pairwise_iff_getElem.1 nd) i x l2 l1 ah;rw[List.getElem?_eq_getElem l1]at h1;rw[List.getElem?_eq_getElem l2]at h2;injection h1 with h1;injection h2 with h2;exact this (h2.trans h1.symm)
 have tp: ∀b∈S,b≠p:=λb hb e=>by subst e;have:=tS b hb (.inl rfl);have:=t.p;omega
 refine⟨?_,H.wks.only O λb e hm=> ?_,λk hk=>(H.wk k hk).only O λb hb hm=> ?_,?_,λy hy=> ?_,⟨λb=>if b<h.size then τ b else 2*j.id+2,?_,?_,λb hb=> ?_,λx k hk b hb=> ?_,λy hy b hb'=> ?_⟩,H.ne,?_⟩
 ·have:=H.own.only O (λhm=>tp _ hm rfl);exact this
 ·have hb:b∈aX P.wp:=by rw[e];simp[aX]
  have:=tS b hm (.inr (.inr (.inl hb)));have:=t.wp b hb;omega
 ·have h1:=tS b hb (.inr (.inr (.inr (.inl ⟨k,hk,hm⟩))));obtain⟨x,hx⟩:=List.mem_iff_getElem?.1 hk;have:=t.ws x k hx b hm;omega
 ·show bO h' P.jb .i64 ((P.jobs.set i {j with A:=A'}).map λj=>((j.id:Int),bh j.A.m));rw[map_set (λj=>((j.id:Int),bh j.A.m)) (by simp[em])];exact H.jbm.only O λhm=>by have:=tS _ hm (.inr (.inl rfl));have:=t.jb;omega
 ·obtain⟨x,hx⟩:=List.mem_iff_getElem?.1 hy;have hx:(P.jobs.set i {j with A:=A'})[x]? =some y:=hx;rw[List.getElem?_set]at hx;by_cases hix:i=x
  ·rw[if_pos hix,if_pos ah]at hx;injection hx with hx;subst hx;exact M
  ·rw[if_neg hix]at hx;refine(H.ma y (List.mem_of_getElem? hx)).only O λb hb hm=> ?_;have h1:=tS b hb (.inr (.inr (.inr (.inr ⟨y,List.mem_of_getElem? hx,hm⟩))));have h2:=t.jobs y (List.mem_of_getElem? hx) b hm;exact hix (uniq x y hx ah).symm
 ·show(if p<h.size then τ p else _)=0;rw[if_pos H.own.lt];exact t.p
 ·show(if P.jb<h.size then τ P.jb else _)=0;rw[if_pos H.jbm.lt];exact t.jb
 ·show(if b<h.size then τ b else _)=0;rw[if_pos (H.wks.lt b hb).2];exact t.wp b hb
 ·show(if b<h.size then τ b else _)=_;rw[if_pos ((H.wk k (List.mem_of_getElem? hk)).lt b hb)];exact t.ws x k hk b hb
 ·show(if b<h.size then τ b else _)=_;obtain⟨x,hx⟩:=List.mem_iff_getElem?.1 hy;have hx:(P.jobs.set i {j with A:=A'})[x]? =some y:=hx;rw[List.getElem?_set]at hx;by_cases hix:i=x
  ·rw[if_pos hix,if_pos ah]at hx;injection hx with hx;subst hx;rcases hb b hb' with h1|h1
   ·rw[if_pos ((H.ma j hj).lt b h1)];exact t.jobs j hj b h1
   ·rw[if_neg ah]
  ·rw[if_neg hix]at hx;rw[if_pos ((H.ma y (List.mem_of_getElem? hx)).lt b hb')];exact t.jobs y (List.mem_of_getElem? hx) b hb'
 ·refine⟨?_,λy hy=> ?_⟩
  ·show((P.jobs.set i {j with A:=A'}).map (·.id)).Nodup;rw[map_set (·.id) rfl];exact H.ids.1
  ·obtain⟨x,hx⟩:=List.mem_iff_getElem?.1 hy;have hx:(P.jobs.set i {j with A:=A'})[x]? =some y:=hx;rw[List.getElem?_set]at hx;by_cases hix:i=x
   ·rw[if_pos hix,if_pos ah]at hx;injection hx with hx;subst hx;exact H.ids.2 j hj
   ·rw[if_neg hix]at hx;exact H.ids.2 y (List.mem_of_getElem? hx)
end
end
section
def CP{P:Program}{h:aH}{t e:TypeId}{j:TypeInfo}{a b:Addr}{K:Bool->Prop}(ht:P.underlying t=some (.pointer e))(hi:P.info? e=some j)(hz:Nat.beq j.size 0=false)
  (h1:a=b->K true) (h2:a≠b->(∃c u,h[a.block]? =some (.cells c u))/\(∃c u,h[b.block]? =some (.cells c u))/\K false):EX P h t (au a) (au b) K:=by
 unfold EX;rw[ht];dsimp only;rw[hi];dsimp only;rw[hz];exact⟨h1,h2⟩
def Iq:Tryz.prog.underlying 164=some (.pointer 166):=by kernel_rfl
def Gc:(Tryz.prog.info? 166).map (λi=>Nat.beq i.size 0)=some false:=by kernel_rfl
def At.cells{h:aH}{b:Nat}{c:List Value}(A:At h b c): ∃c u,h[b]? =some (.cells c u):=by obtain⟨e,he⟩:=A;exact⟨_,_,he⟩
section
variable {h:aH}{p s:Nat}{P:PS}{k:Wk}{K:KK}
def AC(W:ki h k)(hT:k.T+k.q.length<1000000000)(hx: ∀x∈k.q,0<=x/\x<1000000000)
  (hE:k.q=[]-> ∀h' k',ki h' k'->k'.bl=k.bl->k'.q=[]->k'.job=k.job->k'.T=k.T->aM k.bl h h'->K aB h')
  (hQ: ∀x q',k.q=q'++[x]-> ∀h' k',ki h' k'->k'.bl=k.bl->k'.q=q'->k'.job=x->k'.T+k'.q.length<=k.T+k.q.length->aM k.bl h h'->K aC h'):
  Cl 129 [bh k.w] h K:=by
 refine F129.spec ?_;simp only[aL,Nat.zero_add,Nat.add_zero];refine aR (n:=some (aw k.d)) (by rw[At.rd W.own];rfl) ?_;obtain⟨n1,n2,n3⟩:=W.ne;refine EW W.dw W.ds hT (λe h1 o f cs D1 _ W1 O1=>⟨_,_,rfl,?_⟩) λx q' T' e le h1 o f cs D1 _ W1 O1=>⟨_,_,rfl,?_⟩
 ·rw[aJ];exact hE e h1 ⟨k.w,k.d,k.m,k.mc,cs,o,f,k.T,[],k.job⟩ ⟨W.own.only O1 (by simp;omega),W1,D1,W.ne⟩ rfl rfl rfl rfl (O1.mono λb hb _=>by simp[Wk.bl]at hb ⊢;omega)
 ·rw[aO];have hx1:=hx x (by rw[e];simp);refine aS (W.own.only O1 (by simp;omega)) ak rfl λh2 A2 O2 z2=> ?_;have lt:=W1.lt;rw[wrap_i64 (n:=x) ah ah]at A2;exact hQ x q' e h2 ⟨k.w,k.d,k.m,k.mc,cs,o,f,T',q',x⟩ ⟨A2,W1.only O2 (by simp;omega) (by simp;omega) (by simp;omega),D1,W.ne⟩ rfl rfl rfl le ((O1.mono λb hb _=>by simp[Wk.bl]at hb ⊢;omega).trans O2 λb hb _=>by simp[Wk.bl]at hb ⊢;omega)
end
def rN(k k':Wk):Prop:=k'.bl=k.bl/\k'.q=k.q/\k'.job=k.job/\k'.T=k.T
def fa(a b:List Wk):Prop:=b.length=a.length/\ ∀(i:Nat) (k:Wk),a[i]? =some k-> ∃k':Wk,b[i]? =some k'/\rN k k'
def fa.refl(a:List Wk):fa a a:=⟨rfl,λi k h=>⟨k,h,rfl,rfl,rfl,rfl⟩⟩
def fa.set{a b:List Wk}(H:fa a b){i:Nat}{k k':Wk}(hi:b[i]? =some k)(e:rN k k'):fa a (b.set i k'):=by
 refine⟨by rw[List.length_set];exact H.1,λj x hx=> ?_⟩;obtain⟨y,hy,e1,e2,e3,e4⟩:=H.2 j x hx;rw[List.getElem?_set];by_cases hij:i=j
 ·subst hij;rw[hi]at hy;injection hy with hy;subst hy;rw[if_pos rfl,if_pos (List.getElem?_eq_some_iff.1 hi).1];exact⟨k',rfl,e.1.trans e1,e.2.1.trans e2,e.2.2.1.trans e3,e.2.2.2.trans e4⟩
 ·rw[if_neg hij];exact⟨y,hy,e1,e2,e3,e4⟩
section
variable {h:aH}{p s:Nat}{P:PS}{K:KK}
def rN.w{k k':Wk}(e:rN k k'):k'.w=k.w:=by have:=e.1;simp only[Wk.bl,List.cons.injEq]at this;exact this.1
def cZ(H:bG h p s P):rd h (aw p)=some (bh s)/\rd h ⟨p,1,none⟩=some (.slice P.wp P.ws.length P.wc)/\rd h ⟨p,2,none⟩=some (.map (some P.jb))/\rd h ⟨p,3,none⟩=some (al (P.last:Int))/\rd h ⟨p,4,none⟩=some (al P.steals):=
 ⟨by rw[At.rd H.own];rfl,by rw[At.rd H.own];rfl,by rw[At.rd H.own];rfl,by rw[At.rd H.own];rfl,by rw[At.rd H.own];rfl⟩
def Bb(H:bG h p s P){i:Nat}{k:Wk}(hi:P.ws[i]? =some k): ∃b,P.wp=some (aw b)/\rd h ⟨b,i,none⟩=some (bh k.w):=by
 have hil:=(List.getElem?_eq_some_iff.1 hi).1;obtain⟨b,e,r⟩:=H.wks.rd (j:=i) (by simpa using hil);refine⟨b,e,?_⟩;rw[r,List.getElem?_map,hi]
 rfl
def bG.set_cell{h':aH}{l:Nat}{st:Int}(H:bG h p s P)(O:aM [p] h h')(A:At h' p (jq s {P with last:=l,steals:=st}))(hl:P.last<=l):bG h' p s {P with last:=l,steals:=st}:=by
 obtain⟨τ,t⟩:=H.sep;have np: ∀b,b∈[p]->τ b=0:=λb hb=>by simp only[List.mem_singleton]at hb;subst hb;exact t.p
 refine⟨A,H.wks.only O λb e hm=> ?_,λk hk=>(H.wk k hk).only O λb hb hm=> ?_,H.jbm.only O λhm=> ?_,λj hj=>(H.ma j hj).only O λb hb hm=> ?_,⟨τ,t.p,t.jb,t.wp,t.ws,t.jobs⟩,H.ne,H.ids.1,λj hj=> ?_⟩
 ·simp only[List.mem_singleton]at hm;subst hm;exact H.ne.2.1 (by rw[e];simp[aX])
 ·obtain⟨x,hx⟩:=List.mem_iff_getElem?.1 hk;have:=t.ws x k hx b hm;have:=np b hb;omega
 ·simp only[List.mem_singleton]at hm;exact H.ne.1 hm.symm
 ·have:=t.jobs j hj b hm;have:=np b hb;omega
 ·have:=H.ids.2 j hj;show 1<=j.id/\j.id<=l;omega
set_option maxRecDepth 100000 in
def xa(H:bG h p s P){i0:Nat}{kw:Wk}(h0:P.ws[i0]? =some kw){draw:Int}(hn:P.ws.length<=1000)(hT: ∀k∈P.ws,k.T+k.q.length<1000000000)(hx: ∀k∈P.ws,∀x∈k.q,0<=x/\x<1000000000)(hst:0<=P.steals/\P.steals<1000000000)
  (hN: ∀h' ws,bG h' p s {P with ws:=ws}->fa P.ws ws->(∀b,dx p {P with ws:=ws} b->dx p P b)->(∀S,(∀b,dx p P b->b∈S)->aM S h h')->K aB h')
  (hS: ∀h' ws i1 k1 x q1 kw' k1' ws',fa P.ws ws->i1≠i0->ws[i1]? =some k1->k1.q=x::q1->ws[i0]? =some kw'->k1'.bl=k1.bl->k1'.q=q1->k1'.job=k1.job->k1'.T=k1.T+1->ws'=(ws.set i1 k1').set i0 {kw' with job:=x}->bG h' p s {P with ws:=ws',steals:=P.steals+1}->(∀b,dx p {P with ws:=ws',steals:=P.steals+1} b->dx p P b)->(∀S,(∀b,dx p P b->b∈S)->aM S h h')->K aC h'):
  Cl 130 [bh p,bh kw.w,al draw] h K:=by
 refine F130.spec _ _ _ h K ?_;simp only[aL,Nat.zero_add,Nat.add_zero];refine bo (cZ H).2.1 ?_;unfold F130.wk3;have hlen:i0<P.ws.length:=(List.getElem?_eq_some_iff.1 h0).1
 have main: ∀(d i:Nat) (h1:aH) (ws:List Wk),i+d=P.ws.length->bG h1 p s {P with ws:=ws}->fa P.ws ws->(∀b,dx p {P with ws:=ws} b->dx p P b)->(∀S,(∀b,dx p P b->b∈S)->aM S h h1)->
   F130.wL3 (d+1) (aw p) (aw kw.w) draw (P.ws.length:Int) (P.ws.length:Int) (i:Int) h1 K:=by
  intro d
  induction d with
  |zero=>
   intro i h1 ws hi H1 E1 B1 O1;rw[F130.sL3];rw[decide_eq_false ah,aJ];exact hN h1 ws H1 E1 B1 O1
  |succ d ih=>
   intro i h1 ws hi H1 E1 B1 O1;have el:ws.length=P.ws.length:=E1.1;have ew:ax ((i:Int)+1)=((i+1:Nat):Int):=by rw[wrap_i64 ah ah];omega
   rw[F130.sL3];rw[decide_eq_true ah,aO,ew];simp only[aL,Nat.zero_add,Nat.add_zero]
   obtain⟨x,hxl,ex⟩: ∃x:Nat,x<P.ws.length/\(Int.tmod (ax ((Int.tmod (ax ((Int.tmod draw (P.ws.length:Int))+(i:Int))) (P.ws.length:Int))+(P.ws.length:Int))) (P.ws.length:Int))=(x:Int):=by
    obtain⟨n,hnn⟩: ∃n:Int,n=(P.ws.length:Int):=⟨_,rfl⟩;rw[<-hnn];have npos:0<n:=ah;have b1:=Int.tmod_lt_of_pos draw npos;have b2: -n<draw.tmod n:=by have:=Int.lt_tmod_of_pos draw npos;omega
    rw[wrap_i64 (n:=draw.tmod n+(i:Int)) ah ah];have c1:=Int.tmod_lt_of_pos (draw.tmod n+(i:Int)) npos;have c2: -n<(draw.tmod n+(i:Int)).tmod n:=by have:=Int.lt_tmod_of_pos (draw.tmod n+(i:Int)) npos;omega
    rw[wrap_i64 (n:=(draw.tmod n+(i:Int)).tmod n+n) ah ah];have d1:=Int.tmod_lt_of_pos ((draw.tmod n+(i:Int)).tmod n+n) npos;have d2:=Int.tmod_nonneg n (a:=(draw.tmod n+(i:Int)).tmod n+n) ah;exact⟨(((draw.tmod n+(i:Int)).tmod n+n).tmod n).toNat,ah,ah⟩
   obtain⟨k1,hk1⟩: ∃k1,ws[x]? =some k1:=⟨_,List.getElem?_eq_getElem ah⟩;obtain⟨b,eb,rb⟩:=Bb H1 hk1;rw[ex];refine bo (cZ H1).2.1 ⟨ah,ah,ah,?_⟩;dsimp only at eb ⊢;rw[eb,aU,el];refine⟨ah,ah,?_⟩;simp only[aL,Nat.zero_add,Nat.add_zero,Int.toNat_natCast,Nat.mul_one];refine aR rb ?_;obtain⟨kw',hkw,e0⟩:=E1.2 i0 kw h0;have ekw:=e0.w
   obtain⟨j,hj⟩: ∃j,Tryz.prog.info? 166=some j:=by
    cases hh:Tryz.prog.info? 166 with
    |none=>have:=Gc;rw[hh]at this;cases this
    |some j=>exact⟨j,rfl⟩
   have hjz:Nat.beq j.size 0=false:=by have:=Gc;rw[hj]at this;simpa using this
   have W1:=H1.wk k1 (List.mem_of_getElem? hk1);have Ww:=H1.wk kw' (List.mem_of_getElem? hkw);refine CP Iq hj hjz (λe=> ?_) λe=>⟨W1.own.cells,by rw[<-ekw];exact Ww.own.cells,?_⟩
   ·rw[aO];exact ih (i+1) h1 ws ah H1 E1 B1 O1
   ·rw[aJ]
    have hne:x≠i0:=λe'=>by subst e';rw[hk1]at hkw;injection hkw with hkw;subst hkw;exact e (by rw[ekw])
    rw[aU];simp only[aL,Nat.zero_add,Nat.add_zero];refine aR (n:=some (aw k1.d)) (by rw[At.rd W1.own];rfl) ?_;obtain⟨k0,hk0⟩: ∃k0,P.ws[x]? =some k0:=⟨_,List.getElem?_eq_getElem ah⟩;obtain⟨k1a,hk1a,q1,q2,q3,q4⟩:=E1.2 x k0 hk0;rw[hk1]at hk1a;injection hk1a with hk1a;subst hk1a;have hk0m:=List.mem_of_getElem? hk0;have hT1:k1.T+k1.q.length<1000000000:=by rw[q2,q4];exact hT k0 hk0m
    obtain⟨n1,n2,n3⟩:=W1.ne;have hp: ∀h2 S,(∀b,dx p P b->b∈S)->aM [k1.m,k1.mc] h1 h2->aM S h h2:=λh2 S hS O2=>(O1 S hS).trans O2 λb hb _=>hS b (B1 b (.inr (.inr (.inr (.inl ⟨k1,List.mem_of_getElem? hk1,by simp[Wk.bl]at hb ⊢;omega⟩)))));refine yj W1.dw W1.ds hT1 (λeq h2 o f W2 O2=>⟨_,_,rfl,?_⟩) λy q' eq h2 o f cs D2 _ W2 O2=>⟨_,_,rfl,?_⟩
    ·rw[aJ];have Wn:ki h2 ⟨k1.w,k1.d,k1.m,k1.mc,k1.cs,o,f,k1.T,k1.q,k1.job⟩:=⟨W1.own.only O2 (by simp;omega),W2,W1.ds,W1.ne⟩;have H2:=H1.set_wk (k':=⟨k1.w,k1.d,k1.m,k1.mc,k1.cs,o,f,k1.T,k1.q,k1.job⟩) hk1 O2 (λb hb=>by simp[Wk.bl]at hb ⊢;omega) Wn rfl;exact ih (i+1) h2 _ ah H2 (E1.set hk1 ⟨rfl,rfl,rfl,rfl⟩) (λb hb=>B1 b (fh (P:={P with ws:=ws}) hk1 (by rfl) hb)) λS hS=>hp h2 S hS O2
    ·rw[aO];have Wn:ki h2 ⟨k1.w,k1.d,k1.m,k1.mc,cs,o,f,k1.T+1,q',k1.job⟩:=⟨W1.own.only O2 (by simp;omega),W2,D2,W1.ne⟩;have H2:=H1.set_wk (k':=⟨k1.w,k1.d,k1.m,k1.mc,cs,o,f,k1.T+1,q',k1.job⟩) hk1 O2 (λb hb=>by simp[Wk.bl]at hb ⊢;omega) Wn rfl;have hkw2:(ws.set x ⟨k1.w,k1.d,k1.m,k1.mc,cs,o,f,k1.T+1,q',k1.job⟩)[i0]? =some kw':=by rw[List.getElem?_set,if_neg hne];exact hkw
     have Ww2:=H2.wk kw' (List.mem_of_getElem? hkw2);have hy:0<=y/\y<1000000000:=hx k0 hk0m y (by rw[<-q2,eq];simp);rw[wrap_i64 (n:=y) ah ah,<-ekw];refine aS Ww2.own ak rfl λh3 A3 O3 z3=> ?_;obtain⟨m1,m2,m3⟩:=Ww2.ne;have H3:=H2.set_wk (k':={kw' with job:=y}) hkw2 O3 (λb hb=>by simp[Wk.bl]at hb ⊢;omega) ⟨A3,Ww2.dw.only O3 (by simp;omega) (by simp;omega) (by simp;omega),Ww2.ds,Ww2.ne⟩ rfl;dsimp only at H3;refine aI (cZ H3).2.2.2.2 ?_;dsimp only;rw[wrap_i64 (n:=P.steals+1) ah ah];refine aS H3.own (by simp[jq]) rfl λh4 A4 O4 z4=> ?_;have H4:=H3.set_cell (l:=P.last) (st:=P.steals+1) O4 (by simpa[jq]using A4) (Nat.le_refl _);dsimp only at H4
     have hB: ∀b,dx p {P with ws:=(ws.set x ⟨k1.w,k1.d,k1.m,k1.mc,cs,o,f,k1.T+1,q',k1.job⟩).set i0 {kw' with job:=y},steals:=P.steals+1} b->dx p P b:=λb hb=>
      B1 b (fh (P:={P with ws:=ws}) (k':=⟨k1.w,k1.d,k1.m,k1.mc,cs,o,f,k1.T+1,q',k1.job⟩) hk1 (by rfl) (fh (P:={P with ws:=ws.set x ⟨k1.w,k1.d,k1.m,k1.mc,cs,o,f,k1.T+1,q',k1.job⟩}) (k':={kw' with job:=y}) hkw2 (by rfl) hb))
     refine hS h4 ws x k1 y q' kw' ⟨k1.w,k1.d,k1.m,k1.mc,cs,o,f,k1.T+1,q',k1.job⟩ _ E1 hne hk1 eq hkw rfl rfl rfl rfl rfl H4 hB λS hS'=> ?_;refine((hp h2 S hS' O2).trans O3 λb hb _=> ?_).trans O4 λb hb _=> ?_
     ·simp only[List.mem_singleton]at hb;subst hb;exact hS' _ (B1 _ (.inr (.inr (.inr (.inl ⟨kw',List.mem_of_getElem? hkw,by simp[Wk.bl]⟩)))))
     ·simp only[List.mem_singleton]at hb;subst hb;exact hS' _ (.inl rfl)
 exact⟨_,main P.ws.length 0 h P.ws ah H (fa.refl _) (λb hb=>hb) λS hS=>aM.refl _ _⟩
end
end
section
def fO{α:Type}(f:α->Nat): ∀(l:List α) (i:Nat) (a a':α),l[i]? =some a->((l.set i a').map f).sum+f a=(l.map f).sum+f a'
 | [],i,a,a',h=>by simp at h
 |x::l,0,a,a',h=>by simp at h;subst h;simp;omega
 |x::l,i+1,a,a',h=>by have ih:=fO f l i a a' (by simpa using h);simp only[List.set_cons_succ,List.map_cons,List.sum_cons];omega
def f7{α:Type}{l:List α}(h:l.Nodup){x y:Nat}{a:α}(hx:l[x]? =some a)(hy:l[y]? =some a):x=y:=by
 obtain⟨l1,e1⟩:=List.getElem?_eq_some_iff.1 hx;obtain⟨l2,e2⟩:=List.getElem?_eq_some_iff.1 hy;apply Classical.byContradiction;intro hne;rcases Nat.lt_or_ge x y with h'|h'
 ·exact(List.pairwise_iff_getElem.1 h) x y l1 l2 h' (e1.trans e2.symm)
 ·exact(List.pairwise_iff_getElem.1 h) y x l2 l1 ah (e2.trans e1.symm)
def gD{α β:Type}(f:α->List β): ∀(l:List α) (i:Nat) (a a':α),l[i]? =some a->(f a++(l.set i a').flatMap f).Perm (f a'++l.flatMap f)
 | [],i,a,a',h=>by simp at h
 |x::l,0,a,a',h=>by simp at h;subst h;simp only[List.set_cons_zero,List.flatMap_cons];exact List.perm_append_comm_assoc _ _ _
 |x::l,i+1,a,a',h=>by have ih:=gD f l i a a' (by simpa using h);simp only[List.set_cons_succ,List.flatMap_cons];exact(List.perm_append_comm_assoc _ _ _).trans ((ih.append_left _).trans (List.perm_append_comm_assoc _ _ _))
def fm{α:Type}{l:List α}{i:Nat}{a x:α}(h:x∈l.set i a):x=a\/ ∃j,j≠i/\l[j]? =some x:=by
 obtain⟨j,hj⟩:=List.mem_iff_getElem?.1 h;rw[List.getElem?_set]at hj;by_cases hij:i=j
 ·rw[if_pos hij]at hj;split at hj
  ·injection hj with hj;exact .inl hj.symm
  ·cases hj
 ·rw[if_neg hij]at hj;exact .inr ⟨j,λe=>hij e.symm,hj⟩
def Wk.loc(k:Wk):List Int:=(if k.job=0 then []else [k.job])++k.q
def locs(ws:List Wk):List Int:=ws.flatMap Wk.loc
def qlen(ws:List Wk):Nat:=(ws.map λk=>k.q.length).sum
structure bQ(n:Nat)(fo:Nat->Nat)(N:ay)(P:PS):Prop where
 mst: ∀j∈P.jobs,vH n fo N j.G j.A/\fy n N j.A.fs<=90000
 at_: ∀x∈locs P.ws,∃j∈P.jobs,x=(j.id:Int)/\j.A.done=false
 one:(locs P.ws).Nodup
 loc: ∀j∈P.jobs,j.A.done=false->(j.id:Int)∈locs P.ws
 T: ∀k∈P.ws,k.T+k.q.length<=P.last
 len:1<=P.ws.length/\P.ws.length<=4
 last:P.last<100000000
 steals:0<=P.steals/\P.steals+(qlen P.ws:Int)<=(P.last:Int)
def phi(n:Nat)(N:ay)(P:PS):Nat:=(P.jobs.map λj=>fy n N j.A.fs).sum+qlen P.ws
def psi(n:Nat)(N:ay)(P:PS):Nat:=be N+(P.jobs.map λj=>gK n N j.A.fs).sum
def rN.loc{k k':Wk}(e:rN k k'):k'.loc=k.loc:=by unfold Wk.loc;rw[e.2.1,e.2.2.1]
def fa.map{β:Type}{a b:List Wk}(H:fa a b)(f:Wk->β)(hf: ∀k k',rN k k'->f k'=f k):b.map f=a.map f:=by
 apply List.ext_getElem?;intro i;rw[List.getElem?_map,List.getElem?_map];cases h:a[i]? with
 |none=>
  rw[List.getElem?_eq_none (by have:=H.1;have:=List.getElem?_eq_none_iff.1 h;omega)]
 |some k=>
  obtain⟨k',h',e⟩:=H.2 i k h;rw[h'];simp[hf k k' e]
def fa.locs{a b:List Wk}(H:fa a b):locs b=locs a:=by unfold Ev.locs;rw[List.flatMap_def,List.flatMap_def,H.map Wk.loc λk k' e=>e.loc]
def fa.qlen{a b:List Wk}(H:fa a b):qlen b=qlen a:=by unfold Ev.qlen;rw[H.map (λk=>k.q.length) λk k' e=>by rw[e.2.1]]
def fa.mem{a b:List Wk}(H:fa a b){k':Wk}(h:k'∈b): ∃k∈a,rN k k':=by obtain⟨i,hi⟩:=List.mem_iff_getElem?.1 h;have hl:=(List.getElem?_eq_some_iff.1 hi).1;have h1:a[i]? =some (a[i]'(by have:=H.1;omega)):=List.getElem?_eq_getElem _;obtain⟨x,hx,e⟩:=H.2 i _ h1;rw[hi]at hx;injection hx with hx;subst hx;exact⟨_,List.getElem_mem _,e⟩
section
variable {n:Nat}{fo:Nat->Nat}{N N':ay}{P:PS}
def bQ.eq(H:bQ n fo N P){ws:List Wk}(E:fa P.ws ws):bQ n fo N {P with ws:=ws}/\phi n N {P with ws:=ws}=phi n N P/\psi n N {P with ws:=ws}=psi n N P:=by
 refine⟨⟨H.mst,?_,?_,?_,λk hk=> ?_,by show 1<=ws.length/\ws.length<=4;rw[E.1];exact H.len,H.last,?_⟩,?_,rfl⟩
 ·show ∀x∈locs ws,_;rw[E.locs];exact H.at_
 ·show(locs ws).Nodup;rw[E.locs];exact H.one
 ·show ∀j∈P.jobs,_->_∈locs ws;rw[E.locs];exact H.loc
 ·obtain⟨k0,h0,e⟩:=E.mem hk;have:=H.T k0 h0;rw[e.2.1,e.2.2.2];exact this
 ·show 0<=P.steals/\P.steals+(qlen ws:Int)<=_;rw[E.qlen];exact H.steals
 ·unfold phi;show _+qlen ws=_;rw[E.qlen]
def vH.frs{G:kO}{A:MA}(M:vH n fo N G A): ∀f∈A.fs,ie n fo N f:=λf hf=>by
 rcases M with⟨-,-,-,R⟩|⟨-,-,h,-⟩|⟨-,-,h⟩
 ·exact R.frs f hf
 ·rw[h]at hf;cases hf
 ·rw[h]at hf;cases hf
def kS.goal{G:kO}{r:Nat}(hG:isN N G.a0/\isN N G.a1/\isN N G.a2)(ok:dz n N)(E:Ex N N')(R:kS n fo N G.op G.a0 G.a1 G.a2 r):kS n fo N' G.op G.a0 G.a1 G.a2 r:=R.ext ok E hG.1 hG.2.1 hG.2.2
def vH.ext{G:kO}{A:MA}(hG:isN N G.a0/\isN N G.a1/\isN N G.a2)(ok:dz n N)(E:Ex N N')(M:vH n fo N G A):vH n fo N' G A:=by
 rcases M with⟨h1,h2,h3,R⟩|⟨h1,h2,h3,R⟩|h
 ·exact .inl ⟨h1,h2,h3,R.ext ok E⟩
 ·exact .inr (.inl ⟨h1,h2,h3,R.goal hG ok E⟩)
 ·exact .inr (.inr h)
end
def dT(N:ay)(P:PS):Prop:= ∀j∈P.jobs,isN N j.G.a0/\isN N j.G.a1/\isN N j.G.a2
section
variable {n:Nat}{fo:Nat->Nat}{N N':ay}{P:PS}
def bQ.step(H:bQ n fo N P)(GO:dT N P)(ok:dz n N)(E:Ex N N'){i w:Nat}{j:Jb}{k:Wk}{A':MA}(ids:(P.jobs.map (·.id)).Nodup)(pos:1<=j.id)(hi:P.jobs[i]? =some j)(hw:P.ws[w]? =some k)(hj:k.job=(j.id:Int))(M:vH n fo N' j.G A')
  (hm:fy n N' A'.fs+1<=fy n N j.A.fs) (hc:be N'+gK n N' A'.fs<=be N+gK n N j.A.fs):
  bQ n fo N' {P with jobs:=P.jobs.set i {j with A:=A'},ws:=if A'.done=true then P.ws.set w {k with job:=0}else P.ws}/\
  phi n N' {P with jobs:=P.jobs.set i {j with A:=A'},ws:=if A'.done=true then P.ws.set w {k with job:=0}else P.ws}+1<=phi n N P/\
  psi n N' {P with jobs:=P.jobs.set i {j with A:=A'},ws:=if A'.done=true then P.ws.set w {k with job:=0}else P.ws}<=psi n N P:=by
 have hjm:=List.mem_of_getElem? hi;have hil:=(List.getElem?_eq_some_iff.1 hi).1;have hkm:=List.mem_of_getElem? hw;have hwl:=(List.getElem?_eq_some_iff.1 hw).1
 have uniq: ∀y∈P.jobs,y.id=j.id->y=j:=λy hy e=>by
  obtain⟨x,hx⟩:=List.mem_iff_getElem?.1 hy;have h1:(P.jobs.map (·.id))[x]? =some j.id:=by rw[List.getElem?_map,hx];simp[e]
  have h2:(P.jobs.map (·.id))[i]? =some j.id:=by rw[List.getElem?_map,hi];rfl
  have:=f7 ids h1 h2;subst this;rw[hi]at hx;injection hx with hx;exact hx.symm
 have hk0:k.job≠0:=ah;have kl:k.loc=k.job::k.q:=by unfold Wk.loc;rw[if_neg hk0];rfl
 have rest: ∀y∈P.jobs.set i {j with A:=A'},y={j with A:=A'}\/(y∈P.jobs/\y.id≠j.id):=λy hy=>by
  rcases fm hy with h|⟨x,hx,h⟩
  ·exact .inl h
  ·refine .inr ⟨List.mem_of_getElem? h,λe=>hx ?_⟩;have:=uniq y (List.mem_of_getElem? h) e;subst this;exact f7 ids (x:=x) (y:=i) (a:=y.id) (by rw[List.getElem?_map,h];rfl) (by rw[List.getElem?_map,hi];rfl)
 have same: ∀y∈P.jobs,fy n N' y.A.fs=fy n N y.A.fs/\gK n N' y.A.fs=gK n N y.A.fs:=λy hy=>⟨nX (fo:=fo) E (H.mst y hy).1.frs,nQ (fo:=fo) E (H.mst y hy).1.frs⟩
 have mst': ∀y∈P.jobs.set i {j with A:=A'},vH n fo N' y.G y.A/\fy n N' y.A.fs<=90000:=λy hy=>by
  rcases rest y hy with h|⟨h,-⟩
  ·subst h;have:=(H.mst j hjm).2;exact⟨M,by show fy n N' A'.fs<=90000;omega⟩
  ·exact⟨(H.mst y h).1.ext (GO y h) ok E,by rw[(same y h).1];exact(H.mst y h).2⟩
 have up: ∀y∈P.jobs,y.id≠j.id->y∈P.jobs.set i {j with A:=A'}:=λy hy hne=>by
  obtain⟨x,hx⟩:=List.mem_iff_getElem?.1 hy;refine List.mem_iff_getElem?.2 ⟨x,?_⟩;rw[List.getElem?_set,if_neg λe=> ?_]
  ·exact hx
  ·subst e;rw[hi]at hx;injection hx with hx;subst hx;exact hne rfl
 have upj:{j with A:=A'}∈P.jobs.set i {j with A:=A'}:=List.mem_iff_getElem?.2 ⟨i,by rw[List.getElem?_set,if_pos rfl,if_pos hil]⟩;have smu:=fO (λy:Jb=>fy n N' y.A.fs) P.jobs i j {j with A:=A'} hi;have snb:=fO (λy:Jb=>gK n N' y.A.fs) P.jobs i j {j with A:=A'} hi;have e1:P.jobs.map (λy:Jb=>fy n N' y.A.fs)=P.jobs.map λy=>fy n N y.A.fs:=List.map_congr_left λy hy=>(same y hy).1;have e2:P.jobs.map (λy:Jb=>gK n N' y.A.fs)=P.jobs.map λy=>gK n N y.A.fs:=List.map_congr_left λy hy=>(same y hy).2;rw[e1]at smu;rw[e2]at snb;have s1:=(same j hjm).1;have s2:=(same j hjm).2;dsimp only at smu snb
 have psi':psi n N' {P with jobs:=P.jobs.set i {j with A:=A'},ws:=if A'.done=true then P.ws.set w {k with job:=0}else P.ws}<=psi n N P:=by unfold psi;dsimp only;omega
 by_cases hd:A'.done=true
 ·simp only[if_pos hd]at psi' ⊢;have perm:=gD Wk.loc P.ws w k {k with job:=0} hw;have k0:({k with job:=0}:Wk).loc=k.q:=by unfold Wk.loc;simp
  rw[kl,k0]at perm
  have perm:(k.job::locs (P.ws.set w {k with job:=0})).Perm (locs P.ws):=by
   have p2:(k.q++(k.job::locs (P.ws.set w {k with job:=0}))).Perm (k.q++locs P.ws):=by refine List.Perm.trans ?_ perm;exact List.perm_middle
   exact(List.perm_append_left_iff _).1 p2
  have nd:=perm.nodup_iff.2 H.one;have nd1:=(List.nodup_cons.1 nd);have ql:=fO (λk:Wk=>k.q.length) P.ws w k {k with job:=0} hw;dsimp only at ql;refine⟨⟨mst',λx hx=> ?_,nd1.2,λy hy hdn=> ?_,λx hx=> ?_,by show 1<=(P.ws.set w _).length/\(P.ws.set w _).length<=4;rw[List.length_set];exact H.len,H.last,?_⟩,?_,psi'⟩
  ·obtain⟨y,hy,e,hdn⟩:=H.at_ x (perm.mem_iff.1 (List.mem_cons_of_mem _ hx));refine⟨y,up y hy λe'=> ?_,e,hdn⟩;have:x=k.job:=by rw[e,e',hj]
   subst this;exact nd1.1 hx
  ·rcases rest y hy with h|⟨h,hne⟩
   ·subst h;rw[hd]at hdn;cases hdn
   ·have:=perm.mem_iff.2 (H.loc y h hdn);rcases List.mem_cons.1 this with e|e
    ·exfalso;rw[hj]at e;exact hne ah
    ·exact e
  ·rcases fm hx with h|⟨z,-,h⟩
   ·subst h;exact H.T k hkm
   ·exact H.T x (List.mem_of_getElem? h)
  ·have:=H.steals;unfold qlen at this ⊢;dsimp only;omega
  ·unfold phi qlen;dsimp only;omega
 ·simp only[if_neg hd]at psi' ⊢;have hd:A'.done=false:=by cases h:A'.done<;>simp_all
  refine⟨⟨mst',λx hx=> ?_,H.one,λy hy hdn=> ?_,H.T,H.len,H.last,H.steals⟩,?_,psi'⟩
  ·obtain⟨y,hy,e,hdn⟩:=H.at_ x hx;by_cases hne:y.id=j.id
   ·exact⟨_,upj,by show x=(j.id:Int);rw[e,hne],hd⟩
   ·exact⟨y,up y hy hne,e,hdn⟩
  ·rcases rest y hy with h|⟨h,hne⟩
   ·subst h;refine List.mem_flatMap.2 ⟨k,hkm,?_⟩;rw[kl,hj];exact List.mem_cons_self
   ·exact H.loc y h hdn
  ·unfold phi;dsimp only;omega
end
end
section
section
variable {n:Nat}{fo:Nat->Nat}{N N':ay}{P:PS}
def bQ.perm(H:bQ n fo N P){ws:List Wk}{st:Int}(hl:ws.length=P.ws.length)(hp:(locs ws).Perm (locs P.ws))(hT: ∀k∈ws,k.T+k.q.length<=P.last)(hst:0<=st/\st+(qlen ws:Int)<=(P.last:Int)):bQ n fo N {P with ws:=ws,steals:=st}:=
 ⟨H.mst,λx hx=>H.at_ x (hp.mem_iff.1 hx),hp.nodup_iff.2 H.one,λj hj hd=>hp.mem_iff.2 (H.loc j hj hd),hT,by show 1<=ws.length/\ws.length<=4;rw[hl];exact H.len,H.last,hst⟩
def yZ{ws:List Wk}{w:Nat}{k k':Wk}(hw:ws[w]? =some k)(e:k'.loc.Perm k.loc):(locs (ws.set w k')).Perm (locs ws):=by have p:=gD Wk.loc ws w k k' hw;exact(List.perm_append_left_iff k.loc).1 (p.trans (e.append_right _))
def kJ{k:Wk}(h:k.job=0):k.loc=k.q:=by unfold Wk.loc;rw[if_pos h];rfl
def kQ{k:Wk}(h:k.job≠0):k.loc=k.job::k.q:=by unfold Wk.loc;rw[if_neg h];rfl
def bQ.take(H:bQ n fo N P){w:Nat}{k k':Wk}{x:Int}{q':List Int}(hw:P.ws[w]? =some k)(h0:k.job=0)(hq:k.q=q'++[x])(hx:x≠0)(e1:k'.q=q')(e2:k'.job=x)(hT:k'.T+k'.q.length<=k.T+k.q.length):
  bQ n fo N {P with ws:=P.ws.set w k'}/\phi n N {P with ws:=P.ws.set w k'}+1=phi n N P:=by
 have hk:=List.mem_of_getElem? hw;have ql:=fO (λk:Wk=>k.q.length) P.ws w k k' hw;have l1:k.q.length=k'.q.length+1:=by rw[hq,e1];simp
 have lk:k'.loc.Perm k.loc:=by rw[kJ h0,kQ (by rw[e2];exact hx),e1,e2,hq];exact List.perm_append_comm (l₁:=[x])
 refine⟨H.perm (st:=P.steals) ak (yZ hw lk) (λy hy=> ?_) ?_,?_⟩
 ·rcases fm hy with h|⟨z,-,h⟩
  ·subst h;have:=H.T k hk;omega
  ·exact H.T y (List.mem_of_getElem? h)
 ·have:=H.steals;unfold qlen at this ⊢;omega
 ·unfold phi qlen;dsimp only;omega
def bQ.steal(H:bQ n fo N P){i0 i1:Nat}{k1 k1' kw:Wk}{x:Int}{q1:List Int}(hne:i1≠i0)(h1:P.ws[i1]? =some k1)(hw:P.ws[i0]? =some kw)(h0:kw.job=0)(hq:k1.q=x::q1)(hx:x≠0)(e1:k1'.q=q1)(e2:k1'.job=k1.job)(e3:k1'.T=k1.T+1):
  bQ n fo N {P with ws:=(P.ws.set i1 k1').set i0 {kw with job:=x},steals:=P.steals+1}/\phi n N {P with ws:=(P.ws.set i1 k1').set i0 {kw with job:=x},steals:=P.steals+1}+1=phi n N P:=by
 have hw2:(P.ws.set i1 k1')[i0]? =some kw:=by rw[List.getElem?_set,if_neg hne];exact hw
 have q1':=fO (λk:Wk=>k.q.length) P.ws i1 k1 k1' h1;have q2':=fO (λk:Wk=>k.q.length) (P.ws.set i1 k1') i0 kw {kw with job:=x} hw2;dsimp only at q1' q2';have l1:k1.q.length=k1'.q.length+1:=by rw[hq,e1];simp
 have p1:=gD Wk.loc P.ws i1 k1 k1' h1;have p2:=gD Wk.loc (P.ws.set i1 k1') i0 kw {kw with job:=x} hw2;have lw:({kw with job:=x}:Wk).loc=x::kw.q:=kQ hx
 have lk:k1.loc.Perm (x::k1'.loc):=by unfold Wk.loc;rw[e2,e1,hq];exact List.perm_middle
 rw[kJ h0,lw]at p2
 have p2:(locs ((P.ws.set i1 k1').set i0 {kw with job:=x})).Perm (x::locs (P.ws.set i1 k1')):=by have:(kw.q++locs ((P.ws.set i1 k1').set i0 {kw with job:=x})).Perm (kw.q++x::locs (P.ws.set i1 k1')):=p2.trans List.perm_middle.symm;exact(List.perm_append_left_iff _).1 this
 have p1:(x::locs (P.ws.set i1 k1')).Perm (locs P.ws):=by
  have:(k1'.loc++x::locs (P.ws.set i1 k1')).Perm (k1'.loc++locs P.ws):=by refine List.Perm.trans (List.perm_middle.trans ?_) p1;exact(lk.symm.append_right _)
  exact(List.perm_append_left_iff _).1 this
 refine⟨H.perm ak (p2.trans p1) (λy hy=> ?_) ?_,?_⟩
 ·rcases fm hy with h|⟨z,-,h⟩
  ·subst h;exact H.T kw (List.mem_of_getElem? hw)
  ·rcases fm (List.mem_of_getElem? h)with h|⟨z,-,h⟩
   ·subst h;have:=H.T k1 (List.mem_of_getElem? h1);omega
   ·exact H.T y (List.mem_of_getElem? h)
 ·have:=H.steals;unfold qlen at this ⊢;omega
 ·unfold phi qlen;dsimp only;omega
end
def wv(P P':PS):Prop:=P'.last=P.last/\P'.ws.length=P.ws.length/\P'.jobs.map (λj=>(j.id,j.G))=P.jobs.map λj=>(j.id,j.G)
structure qS(n:Nat)(fo:Nat->Nat)(room:Nat)(N N':ay)(P P':PS):Prop where
 ok:bQ n fo N' P'
 ex:Ex N N'
 alike:wv P P'
 le1:phi n N' P'<=phi n N P
 le2:psi n N' P'<=psi n N P
 bad:(∀j∈P.jobs,j.A.e=0)->psi n N P<=room-> ∀j∈P'.jobs,j.A.e=0
 fin: ∀(i:Nat) (j:Jb),P.jobs[i]? =some j->j.A.done=true->P'.jobs[i]? =some j
def mh{P:PS}{i:Nat}{j:Jb}(ids:(P.jobs.map (·.id)).Nodup)(hi:P.jobs[i]? =some j):(P.jobs.map λj=>((j.id:Int),bh j.A.m)).lookup (j.id:Int)=some (bh j.A.m):=by
 generalize P.jobs=l at ids hi
 induction l generalizing i with
 |nil=>simp at hi
 |cons y l ih=>
  simp only[List.map_cons,List.nodup_cons]at ids;cases i with
  |zero=>
   simp at hi;subst hi;simp[List.lookup]
  |succ i=>
   have hi:l[i]? =some j:=by simpa using hi
   have hne:y.id≠j.id:=λe=>ids.1 (by rw[e];exact List.mem_map.2 ⟨j,List.mem_of_getElem? hi,rfl⟩);simp only[List.map_cons,List.lookup];rw[show((j.id:Int)==(y.id:Int))=false by simp;omega];exact ih ids.2 hi
section
variable {h:aH}{p s n room:Nat}{fo gg:Nat->Nat}{off:Bool}{N:ay}{P:PS}{K:KK}{L:List Nat}
def qq(S:cI h s L (XL n room fo gg N off))(H:bG h p s P)(Ok:bQ n fo N P)(GO:dT N P)(D: ∀b,dx p P b->b∉L){w i:Nat}{k:Wk}{j:Jb}(hw:P.ws[w]? =some k)(hi:P.jobs[i]? =some j)(hj:k.job=(j.id:Int))(hd:j.A.done=false)
  (hK: ∀h' L' N' P',cI h' s L' (XL n room fo gg N' off)->bG h' p s P'->(∀b,dx p P' b->b∉L')->qS n fo room N N' P P'->phi n N' P'+1<=phi n N P->(∀T,(∀b,dx p P b->b∈T)->(∀b∈L,b∈T)->aM T h h')->bH L L' h->(∀b,dx p P' b->dx p P b\/h.size<=b)->K aC h'):
  dP h (some P.jb) .i64 .i64 k.job λo20=>ba (some (kE (.pointer none) o20)) λp21=>Cl 114 [.pointer p21] h λv24 h25=>bI (some v24) λb26=>aK b26 (bf (some (aw k.w)) λa27=>aW h25 (Addr.add (Addr.add a27 1) 0) (al (0:Int)) λh28=>K aC h28) (K aC h25):=by
 have hjm:=List.mem_of_getElem? hi;have ids:=H.ids;have lk:=mh (P:=P) ids.1 hi;refine dt H.jbm (λe=> ?_) λx v e=> ?_
 ·rw[hj,lk]at e;cases e
 rw[hj,lk]at e;injection e with e;subst e;refine aR rfl ?_;have DA: ∀b∈j.A.bl,b∉L:=λb hb=>D b (.inr (.inr (.inr (.inr ⟨j,hjm,hb⟩))));have ok:=S.ok;dsimp only[XL]at ok;have zP:=H.lt;have zL:=S.lt;refine Co S (H.ma j hjm) DA (Ok.mst j hjm).2 (Ok.mst j hjm).1 hd λh1 L1 N1 A1 em S1 M1 D1 E1 R1 m1 c1 f1 O1 g1 s1=>aY rfl ?_
 have H1:bG h1 p s {P with jobs:=P.jobs.set i {j with A:=A1}}:=H.set_ma hi O1 (λb hb hp=>by
  rcases List.mem_append.1 hb with hL|hA
  ·exact absurd hL (D b hp)
  ·exact hA) M1 em s1
 have st:=Ok.step GO ok.1 E1 ids.1 (ids.2 j hjm).1 hi hw hj R1 m1 c1
 have alike:(P.jobs.set i {j with A:=A1}).map (λj=>(j.id,j.G))=P.jobs.map λj=>(j.id,j.G):=by
  rw[List.map_set];apply List.ext_getElem?;intro x;rw[List.getElem?_set];by_cases hix:i=x
  ·subst hix;rw[if_pos rfl,if_pos (by simpa using (List.getElem?_eq_some_iff.1 hi).1),List.getElem?_map,hi]
   rfl
  ·rw[if_neg hix]
 have bad:(∀j∈P.jobs,j.A.e=0)->psi n N P<=room-> ∀y∈P.jobs.set i {j with A:=A1},y.A.e=0:=λh1 h2 y hy=>by
  rcases fm hy with e|⟨x,-,hx⟩
  ·subst e;show A1.e=0;rcases R1 with⟨-,h,-⟩|⟨-,h,-⟩|⟨-,h,-⟩
   ·exact h
   ·exact h
   ·exfalso;have:=f1 h;have sm:=fO (λy:Jb=>gK n N y.A.fs) P.jobs i j {j with A:=⟨0,none,0,[],0,false,0⟩} hi;dsimp only at sm;unfold psi at h2;have:gK n N ([]:List Fk)=0:=rfl;omega
  ·exact h1 y (List.mem_of_getElem? hx)
 have fin: ∀(x:Nat) (y:Jb),P.jobs[x]? =some y->y.A.done=true->(P.jobs.set i {j with A:=A1})[x]? =some y:=λx y hx hy=>by
  rw[List.getElem?_set];by_cases hix:i=x
  ·subst hix;rw[hi]at hx;injection hx with hx;subst hx;rw[hd]at hy;cases hy
  ·rw[if_neg hix];exact hx
 have blk: ∀b,dx p {P with jobs:=P.jobs.set i {j with A:=A1}} b->dx p P b\/h.size<=b:=λb hb=>by
  rcases hb with e|e|hb|hb|⟨y,hy,hb⟩
  ·exact .inl (.inl e)
  ·exact .inl (.inr (.inl e))
  ·exact .inl (.inr (.inr (.inl hb)))
  ·exact .inl (.inr (.inr (.inr (.inl hb))))
  ·rcases fm hy with e|⟨x,-,hx⟩
   ·subst e;exact(s1 b hb).imp (λhb=> .inr (.inr (.inr (.inr ⟨j,hjm,hb⟩)))) id
   ·exact .inl (.inr (.inr (.inr (.inr ⟨y,List.mem_of_getElem? hx,hb⟩))))
 have dis: ∀b,dx p {P with jobs:=P.jobs.set i {j with A:=A1}} b->b∉L1:=λb hb hm=>by
  have old:dx p P b->False:=λhp=>by
   rcases g1 b hm with h|h
   ·exact D b hp h
   ·have:=zP b hp;omega
  rcases hb with e|e|hb|hb|⟨y,hy,hb⟩
  ·exact old (.inl e)
  ·exact old (.inr (.inl e))
  ·exact old (.inr (.inr (.inl hb)))
  ·exact old (.inr (.inr (.inr (.inl hb))))
  ·rcases fm hy with e|⟨x,-,hx⟩
   ·subst e;exact D1 b hb hm
   ·exact old (.inr (.inr (.inr (.inr ⟨y,List.mem_of_getElem? hx,hb⟩))))
 have hO: ∀T,(∀b,dx p P b->b∈T)->(∀b∈L,b∈T)->aM T h h1:=λT hT hL=>O1.mono λb hb _=>by
  rcases List.mem_append.1 hb with h|h
  ·exact hL b h
  ·exact hT b (.inr (.inr (.inr (.inr ⟨j,hjm,h⟩))))
 refine aT (λe=> ?_) λe=> ?_
 ·simp only[if_pos e]at st;have W1:=H1.wk k (List.mem_of_getElem? hw);rw[aU];simp only[aL,Nat.zero_add,Nat.add_zero];refine aS W1.own ak rfl λh2 A2 O2 z2=> ?_;obtain⟨n1,n2,n3⟩:=W1.ne;have H2:=H1.set_wk (k':={k with job:=0}) hw O2 (λb hb=>by simp[Wk.bl]at hb ⊢;omega) ⟨A2,W1.dw.only O2 (by simp;omega) (by simp;omega) (by simp;omega),W1.ds,W1.ne⟩ rfl;dsimp only at H2;have b2: ∀b,dx p {P with jobs:=P.jobs.set i {j with A:=A1},ws:=P.ws.set w {k with job:=0}} b->dx p {P with jobs:=P.jobs.set i {j with A:=A1}} b:=λb hb=>fh (P:={P with jobs:=P.jobs.set i {j with A:=A1}}) (k':={k with job:=0}) hw rfl hb;have hkL:k.w∉L1:=dis k.w (.inr (.inr (.inr (.inl ⟨k,List.mem_of_getElem? hw,by simp[Wk.bl]⟩))));refine hK h2 L1 N1 _ (S1.only O2 λb hb hm=>by simp only[List.mem_singleton]at hb;subst hb;exact hkL hm) H2 (λb hb=>dis b (b2 b hb)) ⟨st.1,E1,⟨rfl,ak,alike⟩,by have:=st.2.1;omega,st.2.2,bad,fin⟩ st.2.1 (λT hT hL=>(hO T hT hL).trans O2 λb hb _=> ?_) g1 λb hb=>blk b (b2 b hb);simp only[List.mem_singleton]at hb;subst hb;exact hT _ (.inr (.inr (.inr (.inl ⟨k,List.mem_of_getElem? hw,by simp[Wk.bl]⟩))))
 ·have e': ¬A1.done=true:=by rw[e];simp
  simp only[if_neg e']at st;exact hK h1 L1 N1 _ S1 H1 dis ⟨st.1,E1,⟨rfl,rfl,alike⟩,by have:=st.2.1;omega,st.2.2,bad,fin⟩ st.2.1 hO g1 blk
end
end
section
section
variable {h:aH}{p s n room:Nat}{fo gg:Nat->Nat}{off:Bool}{N:ay}{P:PS}{K:KK}{L:List Nat}
def iC{x:Option Value}{K:Option Nat->Prop}{n:Option Nat}(hx:x=some (.map n))(hK:K n):bK x K:=⟨n,hx,hK⟩
def fa.trans{a b c:List Wk}(H:fa a b)(G:fa b c):fa a c:=by refine⟨G.1.trans H.1,λi k hk=> ?_⟩;obtain⟨k',h',e⟩:=H.2 i k hk;obtain⟨k'',h'',e'⟩:=G.2 i k' h';exact⟨k'',h'',e'.1.trans e.1,e'.2.1.trans e.2.1,e'.2.2.1.trans e.2.2.1,e'.2.2.2.trans e.2.2.2⟩
def Eo(p:Nat)(P:PS):List Nat:=p::P.jb::(aX P.wp++(P.ws.flatMap Wk.bl++P.jobs.flatMap λj=>j.A.bl))
def fR{b:Nat}:b∈Eo p P↔dx p P b:=by unfold Eo dx;simp only[List.mem_cons,List.mem_append,List.mem_flatMap]
def lg{ws:List Wk}{w:Nat}{k:Wk}(hw:ws[w]? =some k){x:Int}(h:x∈k.loc):x∈locs ws:=List.mem_flatMap.2 ⟨k,List.mem_of_getElem? hw,h⟩
def oU(Ok:bQ n fo N P)(ids: ∀j∈P.jobs,1<=j.id/\j.id<=P.last){k:Wk}(hk:k∈P.ws):k.T+k.q.length<1000000000/\ ∀x∈k.q,1<=x/\x<1000000000:=by have h1:=Ok.T k hk;have h2:=Ok.last;refine⟨ah,λx hx=> ?_⟩;obtain⟨j,hj,e,-⟩:=Ok.at_ x (List.mem_flatMap.2 ⟨k,hk,by unfold Wk.loc;simp[hx]⟩);have:=ids j hj;omega
set_option maxRecDepth 100000 in
def EY(S:cI h s L (XL n room fo gg N off))(H:bG h p s P)(Ok:bQ n fo N P)(GO:dT N P)(D: ∀b,dx p P b->b∉L){who draw:Int}
  (hOut:who<0\/(P.ws.length:Int)<=who->K aB h)
  (hK: ∀h' L' N' P' b (w:Nat) (k:Wk),who=(w:Int)->P.ws[w]? =some k->cI h' s L' (XL n room fo gg N' off)->bG h' p s P'->(∀b,dx p P' b->b∉L')->qS n fo room N N' P P'->(b=true->locs P.ws≠[])->(phi n N' P'+1<=phi n N P\/(k.job=0/\k.q=[]/\fa P.ws P'.ws))->(∀T,(∀b,dx p P b->b∈T)->(∀b∈L,b∈T)->aM T h h')->bH L L' h->(∀b,dx p P' b->dx p P b\/h.size<=b)->K (aD b) h'):
  Cl 81 [bh p,al who,al draw] h K:=by
 refine F81.spec ?_;refine aT (λe=>hOut (.inl (of_decide_eq_true e))) λe=> ?_;have w0:=of_decide_eq_false e;simp only[aL,Nat.zero_add,Nat.add_zero];have rp:=cZ H;refine bo rp.2.1 (aT (λe=>hOut (.inr (of_decide_eq_true e))) λe=> ?_);have w1:=of_decide_eq_false e;obtain⟨w,ew⟩: ∃w:Nat,who=(w:Int):=⟨who.toNat,ah⟩;subst ew;have hwl:w<P.ws.length:=ah;obtain⟨k,hw⟩: ∃k,P.ws[w]? =some k:=⟨_,List.getElem?_eq_getElem hwl⟩;have hk:=List.mem_of_getElem? hw;obtain⟨b,eb,rb⟩:=Bb H hw;refine bo rp.2.1 ?_;rw[eb,aU];refine⟨ah,ah,?_⟩;simp only[aL,Nat.zero_add,Nat.add_zero,Int.toNat_natCast,Nat.mul_one];refine aR rb ?_;rw[aU];simp only[aL,Nat.zero_add,Nat.add_zero];have W:=H.wk k hk;have rj:rd h ⟨k.w,1,none⟩=some (al k.job):=by rw[At.rd W.own];rfl
 have lim:=oU Ok H.ids.2 hk;have zP:=H.lt;refine aI rj (aT (λe=> ?_) λe=> ?_)
 ·have j0:k.job=0:=by simpa using e
  refine AC W lim.1 (λx hx=>by have:=lim.2 x hx;omega) (λeq h1 k' W' bl' q' jb' T' O1=>aY rfl ?_) λx q' eq h1 k' W' bl' e1 e2 hT O1=>aY rfl ?_
  ·rw[Bool.not_false,aO];have ke:rN k k':=⟨bl',by rw[q',eq],jb',T'⟩;have E1:=(fa.refl P.ws).set hw ke;have H1:=H.set_wk hw O1 (λb hb=>hb) W' bl';obtain⟨Ok1,p1,p2⟩:=Ok.eq E1;have hw1:(P.ws.set w k')[w]? =some k':=by rw[List.getElem?_set,if_pos rfl,if_pos hwl]
   have bd: ∀b,dx p {P with ws:=P.ws.set w k'} b->dx p P b:=λb hb=>fh hw bl' hb;have ekw:k'.w=k.w:=ke.w;have O1': ∀T,(∀b,dx p P b->b∈T)->aM T h h1:=λT hT=>O1.mono λb hb _=>hT b (.inr (.inr (.inr (.inl ⟨k,hk,hb⟩))));have S1:=S.only O1 λb hb hm=>D b (.inr (.inr (.inr (.inl ⟨k,hk,hb⟩)))) hm;rw[<-ekw];refine xa H1 hw1 (draw:=draw) (by have:=Ok1.len;omega) (λy hy=>(oU Ok1 H1.ids.2 hy).1) (λy hy x hx=>by have:=(oU Ok1 H1.ids.2 hy).2 x hx;omega) ⟨Ok1.steals.1,by have:=Ok1.steals;have:=Ok1.last;omega⟩ (λh2 ws H2 E2 B2 O2=>aY rfl ?_) λh2 ws i1 k1 x q1 kw' k1' ws' E2 hne hk1 eq1 hkw bl1 f1 f2 f3 ews H2 B2 O2=>aY rfl ?_
   ·dsimp only at H2 E2 B2;obtain⟨Ok2,p3,p4⟩:=Ok1.eq (ws:=ws) E2;dsimp only at Ok2 p3 p4;have O2': ∀T,(∀b,dx p P b->b∈T)->aM T h h2:=λT hT=>(O1' T hT).trans (O2 T λb hb=>hT b (bd b hb)) λb hb _=>hb;have S2:=S.only (O2' (Eo p P) λb hb=>fR.2 hb) λb hb hm=>D b (fR.1 hb) hm;refine hK h2 L N {P with ws:=ws} false w k rfl hw S2 H2 (λb hb=>D b (bd b (B2 b hb))) ⟨Ok2,Ex.refl _,⟨rfl,by show ws.length=_;rw[E2.1];simp,rfl⟩,by omega,by omega,λh _=>h,λi j h _=>h⟩ (λh=>by cases h) (.inr ⟨j0,eq,E1.trans E2⟩) (λT hT hL=>O2' T hT) (bH.refl _ _) λb hb=> .inl (bd b (B2 b hb))
   ·dsimp only at H2 E2 B2;obtain⟨Ok2,p3,p4⟩:=Ok1.eq (ws:=ws) E2;dsimp only at Ok2 p3 p4;obtain⟨ka,hka,ea⟩:=E2.2 w k' hw1;rw[hkw]at hka;injection hka with hka;subst hka;have hx:=(oU Ok2 H.ids.2 (List.mem_of_getElem? hk1)).2 x (by rw[eq1];simp);obtain⟨Ok3,p5⟩:=Ok2.steal (P:={P with ws:=ws}) hne hk1 hkw (by rw[ea.2.2.1,jb',j0]) eq1 ah f1 f2 f3;dsimp only at Ok3 p5;rw[<-ews]at Ok3 p5;have O2': ∀T,(∀b,dx p P b->b∈T)->aM T h h2:=λT hT=>(O1' T hT).trans (O2 T λb hb=>hT b (bd b hb)) λb hb _=>hb;have S2:=S.only (O2' (Eo p P) λb hb=>fR.2 hb) λb hb hm=>D b (fR.1 hb) hm;have hlen:ws'.length=P.ws.length:=by rw[ews,List.length_set,List.length_set,E2.1];simp
    refine hK h2 L N {P with ws:=ws',steals:=P.steals+1} true w k rfl hw S2 H2 (λb hb=>D b (bd b (B2 b hb))) ⟨Ok3,Ex.refl _,⟨rfl,hlen,rfl⟩,ah,Nat.le_refl _,λh _=>h,λi j h _=>h⟩ (λ_ hl=> ?_) (.inl ah) (λT hT hL=>O2' T hT) (bH.refl _ _) λb hb=> .inl (bd b (B2 b hb));have:=lg hk1 (x:=x) (by unfold Wk.loc;rw[eq1];simp);rw[E2.locs,E1.locs,hl]at this;cases this
  ·rw[Bool.not_true,aJ];have H1:=H.set_wk hw O1 (λb hb=>hb) W' bl';have hx:=lim.2 x (by rw[eq];simp);obtain⟨Ok1,p1⟩:=Ok.take hw j0 eq ah e1 e2 hT;have hw1:(P.ws.set w k')[w]? =some k':=by rw[List.getElem?_set,if_pos rfl,if_pos hwl]
   have bd: ∀b,dx p {P with ws:=P.ws.set w k'} b->dx p P b:=λb hb=>fh hw bl' hb
   have ekw:k'.w=k.w:=by simp only[Wk.bl,List.cons.injEq]at bl';exact bl'.1
   have O1': ∀T,(∀b,dx p P b->b∈T)->aM T h h1:=λT hT=>O1.mono λb hb _=>hT b (.inr (.inr (.inr (.inl ⟨k,hk,hb⟩))));have S1:=S.only O1 λb hb hm=>D b (.inr (.inr (.inr (.inl ⟨k,hk,hb⟩)))) hm;obtain⟨j,hj,ex,hd⟩:=Ok.at_ x (lg hw (by rw[kJ j0,eq];simp));obtain⟨i,hi⟩:=List.mem_iff_getElem?.1 hj;have W1':At h1 k'.w [bh k'.d,al k'.job]:=W'.own;refine iC (cZ H1).2.2.1 ?_;rw[aU];simp only[aL,Nat.zero_add,Nat.add_zero];refine aI (n:=k'.job) (by rw[<-ekw,At.rd W1'];rfl) ?_;rw[<-ekw];refine qq S1 H1 Ok1 GO (λb hb=>D b (bd b hb)) hw1 hi (by rw[e2,ex]) hd λh2 L2 N2 P2 S2 H2 D2 Pk hs O2 g2 b2=> ?_;have hal:wv P P2:=⟨Pk.alike.1,by rw[Pk.alike.2.1];simp,Pk.alike.2.2⟩;have l1:=Pk.le1;refine hK h2 L2 N2 P2 true w k rfl hw S2 H2 D2 ⟨Pk.ok,Pk.ex,hal,ah,Pk.le2,Pk.bad,Pk.fin⟩ (λ_ hl=> ?_) (.inl ah) (λT hT hL=>(O1' T hT).trans (O2 T (λb hb=>hT b (bd b hb)) hL) λb hb _=>hb) ?_ λb hb=> ?_
   ·have:=lg hw (x:=x) (by rw[kJ j0,eq];simp);rw[hl]at this;cases this
   ·intro b hb;rcases g2 b hb with h|h
    ·exact .inl h
    ·exact .inr (by have:=O1.size;omega)
   ·rcases b2 b hb with h|h
    ·exact .inl (bd b h)
    ·exact .inr (by have:=O1.size;omega)
 ·have j0:k.job≠0:=by simpa using e
  obtain⟨j,hj,ex,hd⟩:=Ok.at_ k.job (lg hw (by rw[kQ j0];simp));obtain⟨i,hi⟩:=List.mem_iff_getElem?.1 hj;refine iC rp.2.2.1 ?_;rw[aU];simp only[aL,Nat.zero_add,Nat.add_zero];refine aI rj ?_;refine qq S H Ok GO D hw hi ex hd λh2 L2 N2 P2 S2 H2 D2 Pk hs O2 g2 b2=> ?_;refine hK h2 L2 N2 P2 true w k rfl hw S2 H2 D2 Pk (λ_ hl=> ?_) (.inl hs) O2 g2 b2;have:=lg hw (x:=k.job) (by rw[kQ j0];simp);rw[hl]at this;cases this
end
end
section
def um(l:List Jb):List (Int×Value):=l.map λj=>((j.id:Int),bh j.A.m)
def lW{l:List Jb}{x:Int}:(um l).lookup x=none↔ ∀j∈l,x≠(j.id:Int):=by rw[cr];simp only[um,List.map_map,List.mem_map,Function.comp_apply,not_exists,not_and];exact⟨λh j hj e=>h j hj e.symm,λh j hj e=>h j hj e.symm⟩
def xR{l:List Jb}{y:Jb}:(um l).filter (λp=>p.1≠(y.id:Int))=um (l.filter λz=>decide (z.id≠y.id)):=by
 unfold um;rw[List.filter_map]
 congr 1
 apply List.filter_congr;intro z _;simp;omega
section
variable {h:aH}{p s n:Nat}{fo:Nat->Nat}{N:ay}{P:PS}{K:KK}
def qE(H:bG h p s P)(hK:K (al (P.ws.length:Int)) h):Cl 68 [bh p] h K:=by refine F68.spec ?_;simp only[aL,Nat.zero_add];exact bo (cZ H).2.1 hK
def yP(H:bG h p s P){x:Int}(hN:(∀j∈P.jobs,x≠(j.id:Int))->K aB h)(hJ: ∀(i:Nat) (j:Jb),P.jobs[i]? =some j->x=(j.id:Int)->K (aD j.A.done) h):Cl 39 [bh p,al x] h K:=by
 refine F39.spec ?_;simp only[aL,Nat.zero_add];refine iC (cZ H).2.2.1 (dt H.jbm (λe=>aR rfl ?_) λx' v e=> ?_)
 ·exact hN (lW.1 e)
 ·by_cases hx: ∀j∈P.jobs,x≠(j.id:Int)
  ·have e0:=lW.2 hx;unfold um at e0;rw[e0]at e;cases e
  ·obtain⟨j,hj,ej⟩: ∃j∈P.jobs,x=(j.id:Int):=by
    apply Classical.byContradiction;intro hn;exact hx λj hj e=>hn ⟨j,hj,e⟩
   obtain⟨i,hi⟩:=List.mem_iff_getElem?.1 hj;have:=mh H.ids.1 hi;rw[ej,this]at e;injection e with e;subst e;refine aR rfl ?_;rw[show(!(Option.isNone (some ((aw j.A.m):Addr))))=true from rfl,aO];exact ED (H.ma j hj) (aY rfl (hJ i j hi ej))
def tw(H:bG h p s P){x:Int}(hN:(∀j∈P.jobs,x≠(j.id:Int))->K (.tuple #[ap 0,al 61]) h)
  (hJ: ∀(i:Nat) (j:Jb),P.jobs[i]? =some j->x=(j.id:Int)->K (.tuple #[ap (if j.A.done=true/\j.A.e=0 then(j.A.told:Int)else 0),al (if j.A.done=true then(j.A.e:Int)else 61)]) h):Cl 38 [bh p,al x] h K:=by
 refine F38.spec ?_;refine yP H (λhx=>aY rfl ?_) λi j hi ej=>aY rfl ?_
 ·rw[Bool.not_false,aO];exact hN hx
 ·have R:=hJ i j hi ej;refine aT (λe=> ?_) λe=> ?_
  ·have e:j.A.done=false:=by simpa using e
   rw[if_neg (by rw[e];simp),if_neg (by rw[e];simp)]at R;exact R
  ·simp only[aL,Nat.zero_add];have lk:=mh H.ids.1 hi;refine iC (cZ H).2.2.1 (dt H.jbm (λe=> ?_) λx' v e=> ?_)
   ·rw[ej,lk]at e;cases e
   ·rw[ej,lk]at e;injection e with e;subst e;exact aR rfl (Bd (H.ma j (List.mem_of_getElem? hi)) ⟨_,_,rfl,R⟩)
def Bg(H:bG h p s P)(Ok:bQ n fo N P){x:Int}(hF:((∀j∈P.jobs,x≠(j.id:Int))\/ ∃j∈P.jobs,x=(j.id:Int)/\j.A.done=false)->K aB h)
  (hT: ∀h' j,j∈P.jobs->x=(j.id:Int)->j.A.done=true->bG h' p s {P with jobs:=P.jobs.filter λz=>decide (z.id≠j.id)}->bQ n fo N {P with jobs:=P.jobs.filter λz=>decide (z.id≠j.id)}->aM [P.jb] h h'->K aC h'):Cl 36 [bh p,al x] h K:=by
 refine F36.spec ?_;refine yP H (λhx=>aY rfl ?_) λi j hi ej=>aY rfl ?_
 ·rw[aJ];exact hF (.inl hx)
 ·have hj:=List.mem_of_getElem? hi;refine aT (λe=> ?_) λe=> ?_
  ·simp only[aL,Nat.zero_add];refine iC (cZ H).2.2.1 (sd H.jbm λh1 M1 O1 z1=> ?_);rw[e]
   have em:ll (P.jobs.map λj=>((j.id:Int),bh j.A.m)) x=(P.jobs.filter λz=>decide (z.id≠j.id)).map λj=>((j.id:Int),bh j.A.m):=by unfold ll;rw[ej];exact xR
   rw[em]at M1;obtain⟨τ,t⟩:=H.sep;have sub: ∀y∈P.jobs.filter (λz=>decide (z.id≠j.id)),y∈P.jobs/\y.id≠j.id:=λy hy=>by simpa using List.mem_filter.1 hy
   have up: ∀y∈P.jobs,y.id≠j.id->y∈P.jobs.filter (λz=>decide (z.id≠j.id)):=λy hy hn=>List.mem_filter.2 ⟨hy,by simpa using hn⟩;have nj: ∀b∈[P.jb],τ b=0:=λb hb=>by simp only[List.mem_singleton]at hb;subst hb;exact t.jb
   refine hT h1 j hj ej e ⟨H.own.only O1 λhm=> ?_,H.wks.only O1 λb eb hm=> ?_,λk hk=>(H.wk k hk).only O1 λb hb hm=> ?_,M1,λy hy=>(H.ma y (sub y hy).1).only O1 λb hb hm=> ?_,⟨τ,t.p,t.jb,t.wp,t.ws,λy hy=>t.jobs y (sub y hy).1⟩,H.ne,?_,λy hy=>H.ids.2 y (sub y hy).1⟩ ⟨λy hy=>Ok.mst y (sub y hy).1,λy hy=> ?_,Ok.one,λy hy hd=>Ok.loc y (sub y hy).1 hd,Ok.T,Ok.len,Ok.last,Ok.steals⟩ O1
   ·simp only[List.mem_singleton]at hm;exact H.ne.1 hm
   ·simp only[List.mem_singleton]at hm;subst hm;exact H.ne.2.2 (by rw[eb];simp[aX])
   ·obtain⟨w,hw⟩:=List.mem_iff_getElem?.1 hk;have:=t.ws w k hw b hm;have:=nj b hb;omega
   ·have:=t.jobs y (sub y hy).1 b hm;have:=nj b hb;omega
   ·exact H.ids.1.sublist (List.Sublist.map _ List.filter_sublist)
   ·obtain⟨z,hz,ez,hd⟩:=Ok.at_ y hy;refine⟨z,up z hz λe'=> ?_,ez,hd⟩;have nd:=H.ids.1;obtain⟨i',hi'⟩:=List.mem_iff_getElem?.1 hz;have:=f7 nd (x:=i') (y:=i) (a:=j.id) (by rw[List.getElem?_map,hi'];simp[e']) (by rw[List.getElem?_map,hi];rfl);subst this;rw[hi]at hi';injection hi' with hi';subst hi';rw[e]at hd;cases hd
  ·rw[e];exact hF (.inr ⟨j,hj,ej,e⟩)
end
end
section
def gW: ∀(l m:List Int),l.Nodup->(∀x∈l,x∈m)->l.length<=m.length
 | [],m,_,_=>Nat.zero_le _
 |x::l,m,h,hs=>by obtain⟨h1,h2⟩:=List.nodup_cons.1 h;have hx:=hs x List.mem_cons_self;have ih:=gW l (m.erase x) h2 λy hy=>(List.mem_erase_of_ne λe=>by subst e;exact h1 hy).2 (hs y (List.mem_cons_of_mem _ hy));rw[List.length_erase_of_mem hx]at ih;have:=List.length_pos_of_mem hx;simp only[List.length_cons];omega
def bO.size{h:aH}{b:Nat}{k:IntKind}{m:List (Int×Value)}(H:bO h b k m): ∃es cl,mp h b=some (es,cl)/\es.size=m.length:=by obtain⟨es,cl,h1,h2,-⟩:=H;refine⟨es,cl,h1,?_⟩;have:=congrArg List.length h2;simpa using this
section
variable {h h':aH}{p s n room:Nat}{fo gg:Nat->Nat}{off:Bool}{N:ay}{P:PS}{K:KK}{L:List Nat}
def bG.add_job(H:bG h p s P)(O:aM [P.jb] h h'){id:Nat}{A:MA}{G:kO}(M':bO h' P.jb .i64 ((P.jobs++[(⟨id,A,G⟩:Jb)]).map λj=>((j.id:Int),bh j.A.m)))(MA':cB h s A)(hf: ∀b∈A.bl,¬dx p P b)(h1:1<=id)(h2:id<=P.last)(h3: ∀j∈P.jobs,j.id≠id):
  bG h' p s {P with jobs:=P.jobs++[⟨id,A,G⟩]}:=by
 obtain⟨τ,t⟩:=H.sep;have nj: ∀b∈[P.jb],τ b=0:=λb hb=>by simp only[List.mem_singleton]at hb;subst hb;exact t.jb
 refine⟨H.own.only O λhm=> ?_,H.wks.only O λb eb hm=> ?_,λk hk=>(H.wk k hk).only O λb hb hm=> ?_,M',λy hy=> ?_,⟨λb=>if b∈A.bl then 2*id+2 else τ b,?_,?_,λb hb=> ?_,λx k hk b hb=> ?_,λy hy b hb=> ?_⟩,H.ne,?_,λy hy=> ?_⟩
 ·simp only[List.mem_singleton]at hm;exact H.ne.1 hm
 ·simp only[List.mem_singleton]at hm;subst hm;exact H.ne.2.2 (by rw[eb];simp[aX])
 ·obtain⟨w,hw⟩:=List.mem_iff_getElem?.1 hk;have:=t.ws w k hw b hm;have:=nj b hb;omega
 ·rcases List.mem_append.1 hy with hy|hy
  ·refine(H.ma y hy).only O λb hb hm=> ?_;have:=t.jobs y hy b hm;have:=nj b hb;omega
  ·simp only[List.mem_singleton]at hy;subst hy;exact MA'.only O λb hb hm=>hf b hm (by simp only[List.mem_singleton]at hb;exact .inr (.inl hb))
 ·show(if p∈A.bl then _ else τ p)=0;rw[if_neg λhm=>hf p hm (.inl rfl)];exact t.p
 ·show(if P.jb∈A.bl then _ else τ P.jb)=0;rw[if_neg λhm=>hf _ hm (.inr (.inl rfl))];exact t.jb
 ·show(if b∈A.bl then _ else τ b)=0;rw[if_neg λhm=>hf _ hm (.inr (.inr (.inl hb)))];exact t.wp b hb
 ·show(if b∈A.bl then _ else τ b)=_;rw[if_neg λhm=>hf _ hm (.inr (.inr (.inr (.inl ⟨k,List.mem_of_getElem? hk,hb⟩))))];exact t.ws x k hk b hb
 ·show(if b∈A.bl then _ else τ b)=_;rcases List.mem_append.1 hy with hy|hy
  ·rw[if_neg λhm=>hf _ hm (.inr (.inr (.inr (.inr ⟨y,hy,hb⟩))))];exact t.jobs y hy b hb
  ·simp only[List.mem_singleton]at hy;subst hy;rw[if_pos hb]
 ·show((P.jobs++[(⟨id,A,G⟩:Jb)]).map (·.id)).Nodup;rw[List.map_append,List.nodup_append];refine⟨H.ids.1,ak,λx hx y hy e=> ?_⟩;simp only[List.map_cons,List.map_nil,List.mem_singleton]at hy;obtain⟨j,hj,rfl⟩:=List.mem_map.1 hx;exact h3 j hj (e.trans hy)
 ·rcases List.mem_append.1 hy with hy|hy
  ·exact H.ids.2 y hy
  ·simp only[List.mem_singleton]at hy;subst hy;exact⟨h1,h2⟩
set_option maxRecDepth 100000 in
def zT{a b c op mask:Nat}(hmask:mask<256)(S:cI h s L (XL n room fo gg N off))(H:bG h p s P)(Ok:bQ n fo N P)(GO:dT N P)(D: ∀b,dx p P b->b∉L)(hop:op=1\/op=2\/op=3\/op=4\/op=5)(ha:isN N a)(hb:op≠1->isN N b)(hc:op=5->isN N c)(hlast:P.last+1<100000000)
  (hF:64<=P.jobs.length-> ∀h',aM [] h h'->K (.tuple #[al 0,al 60]) h')
  (hT:P.jobs.length<64-> ∀h' ws A,cI h' s L (XL n room fo gg N off)->bG h' p s {P with ws:=ws,jobs:=P.jobs++[⟨P.last+1,A,du op a b c⟩],last:=P.last+1}->bQ n fo N {P with ws:=ws,jobs:=P.jobs++[⟨P.last+1,A,du op a b c⟩],last:=P.last+1}->dT N {P with ws:=ws,jobs:=P.jobs++[⟨P.last+1,A,du op a b c⟩],last:=P.last+1}->
   (∀x,dx p {P with ws:=ws,jobs:=P.jobs++[⟨P.last+1,A,du op a b c⟩],last:=P.last+1} x->dx p P x\/h.size<=x)->(∀x,dx p {P with ws:=ws,jobs:=P.jobs++[⟨P.last+1,A,du op a b c⟩],last:=P.last+1} x->x∉L)->ws.length=P.ws.length->A.done=false->A.e=0->fy n N A.fs<=1021->gK n N A.fs<=2^n-1->qlen ws=qlen P.ws+1->(∀T,(∀b,dx p P b->b∈T)->aM T h h')->K (.tuple #[al ((P.last+1:Nat):Int),al 0]) h'):
  Cl 35 [bh p,FL (op:Int) a b c (mask:Int)] h K:=by
 have zP:=H.lt;have zL:=S.lt;have ok:=S.ok;dsimp only[XL]at ok;refine F35.spec ?_;refine aV λh1 A1 O1 z1=> ?_;simp only[aL,Nat.zero_add];have H1:=H.only0 O1;have r: ∀k,rd h1 ⟨h.size,k,none⟩=([al (op:Int),ap (a:Int),ap (b:Int),ap (c:Int),.int .u8 (mask:Int)]:List Value)[k]? :=λk=>At.rd A1 k;refine aR (cZ H1).1 (aI (by rw[r];rfl) (aI (by rw[r];rfl) (aI (by rw[r];rfl) (aI (by rw[r];rfl) (aI (by rw[r];rfl) ?_)))));refine Ht hmask (S.only0 O1) hop ha hb hc λh2 A f MA2 f2 ef efn eop ea0 ea1 ea2 etd edn ee O2=>⟨_,_,rfl,?_⟩;rw[show((0:Int) !=(0:Int))=false from rfl,aJ];have O02:=O1.trans O2 ak;have H2:=H.only0 O02;obtain⟨es,cl,em,esz⟩:=H2.jbm.size;have elen:es.size=P.jobs.length:=by simpa using esz
 refine iC (cZ H2).2.2.1 ⟨es,cl,em,?_⟩;rw[elen];refine aT (λe=>hF (by have:=of_decide_eq_true e;omega) h2 O02) λe=> ?_;have hlt:P.jobs.length<64:=by have:=of_decide_eq_false e;omega
 have rp:=cZ H2;refine aI rp.2.2.2.1 ?_;have ew:ax ((P.last:Int)+1)=((P.last+1:Nat):Int):=by rw[wrap_i64 ah ah];omega
 rw[ew];refine aS H2.own (by simp[jq]) rfl λh3 A3 O3 z3=> ?_;have H3:=H2.set_cell (l:=P.last+1) (st:=P.steals) O3 (by simpa[jq]using A3) ah;have rp3:=cZ H3;refine iC rp3.2.2.1 (aI rp3.2.2.2.1 ?_);dsimp only at H3 rp3 ⊢;have z02:=O02.size
 have fresh: ∀x∈A.bl,¬dx p {P with last:=P.last+1} x:=λx hx hp=>by have:=zP x hp;have:=f2 x hx;omega
 have MA3:cB h3 s A:=MA2.only O3 (λx hx hm=>by simp only[List.mem_singleton]at hx;subst hx;exact fresh x hm (.inl rfl));have idne: ∀j∈P.jobs,j.id≠P.last+1:=λj hj=>by have:=H.ids.2 j hj;omega
 refine ft H3.jbm λh4 M4 O4 z4=> ?_
 have e4:ig (P.jobs.map λj=>((j.id:Int),bh j.A.m)) ((P.last+1:Nat):Int) (bh A.m)=(P.jobs++[(⟨P.last+1,A,du op a b c⟩:Jb)]).map λj=>((j.id:Int),bh j.A.m):=by unfold ig;have e0:(um P.jobs).lookup ((P.last+1:Nat):Int)=none:=lW.2 λj hj e=>idne j hj ah;unfold um at e0;rw[e0];simp
 have M4:bO h4 P.jb .i64 (ig (P.jobs.map λj=>((j.id:Int),bh j.A.m)) ((P.last+1:Nat):Int) (bh A.m)):=M4;rw[e4]at M4;have H4:=H3.add_job O4 (G:=du op a b c) M4 MA3 fresh ah (by show P.last+1<=P.last+1;omega) idne;dsimp only at H4;have rp4:=cZ H4;refine bo rp4.2.1 (aI rp4.2.2.2.1 (bo rp4.2.1 ?_));dsimp only;have hws:=Ok.len
 obtain⟨w,hw,ewi⟩: ∃w:Nat,w<P.ws.length/\Int.tmod ((P.last+1:Nat):Int) (P.ws.length:Int)=(w:Int):=by have h1:=Int.tmod_lt_of_pos ((P.last+1:Nat):Int) (b:=(P.ws.length:Int)) ah;have h2:=Int.tmod_nonneg (P.ws.length:Int) (a:=((P.last+1:Nat):Int)) ah;exact⟨(Int.tmod ((P.last+1:Nat):Int) (P.ws.length:Int)).toNat,ah,ah⟩
 obtain⟨k,hk⟩: ∃k,P.ws[w]? =some k:=⟨_,List.getElem?_eq_getElem hw⟩;have hkm:=List.mem_of_getElem? hk;obtain⟨bb,eb,rb⟩:=Bb H4 hk;dsimp only at eb;rw[ewi,eb];refine⟨ah,?_⟩;rw[aU];refine⟨ah,ah,?_⟩;simp only[aL,Nat.zero_add,Int.toNat_natCast,Nat.mul_one];refine aR rb ?_;rw[aU];simp only[aL,Nat.zero_add];have W4:=H4.wk k hkm;refine aR (n:=some (aw k.d)) (by rw[At.rd W4.own];rfl) (aI rp4.2.2.2.1 ?_);dsimp only;have eu:IntKind.wrap .u64 ((P.last+1:Nat):Int)=((P.last+1:Nat):Int):=cd ah ah;rw[eu];have lim:=oU Ok H.ids.2 hkm;obtain⟨n1,n2,n3⟩:=W4.ne
 have qroom:k.q.length<64:=by
  have h1:=gW (locs P.ws) (P.jobs.map λj=>(j.id:Int)) Ok.one λx hx=>by obtain⟨j,hj,e,-⟩:=Ok.at_ x hx;exact List.mem_map.2 ⟨j,hj,e.symm⟩
  have h2:k.q.length<=(locs P.ws).length:=by
   have p:=(gD Wk.loc P.ws w k {k with q:=[],job:=0} hk).length_eq;have h0:({k with q:=[],job:=0}:Wk).loc=[]:=by unfold Wk.loc;simp
   rw[h0]at p;simp only[List.length_append,List.length_nil]at p;have:k.q.length<=k.loc.length:=by unfold Wk.loc;simp
   unfold locs;omega
  simp only[List.length_map]at h1;omega
 refine Dl W4.dw W4.ds lim.1 λh5 o' f' cs' D5 _ _ W5 O5=>⟨_,_,rfl,?_⟩;have hk':ki h5 ⟨k.w,k.d,k.m,k.mc,cs',o',f',k.T,k.q++[((P.last+1:Nat):Int)],k.job⟩:=⟨W4.own.only O5 (by simp;omega),W5,D5 qroom,W4.ne⟩;have H5:=H4.set_wk (k':=⟨k.w,k.d,k.m,k.mc,cs',o',f',k.T,k.q++[((P.last+1:Nat):Int)],k.job⟩) hk O5 (λb hb=>by simp[Wk.bl]at hb ⊢;omega) hk' rfl;dsimp only at H5;refine aI (cZ H5).2.2.2.1 ?_;dsimp only;have hG:f.op=(du op a b c).op/\f.a0=(du op a b c).a0/\f.a1=(du op a b c).a1/\f.a2=(du op a b c).a2:=⟨eop,ea0,ea1,ea2⟩
 have gN:isN N (du op a b c).a0/\isN N (du op a b c).a1/\isN N (du op a b c).a2/\mL (du op a b c).op:=by
  rcases hop with e|e|e|e|e<;>subst e
  ·exact⟨.inl (show 1<2 by omega),ha,.inl (show 0<2 by omega),.inr (.inr (.inl rfl))⟩
  ·exact⟨ha,hb ah,.inl (show 0<2 by omega),.inl rfl⟩
  ·exact⟨ha,hb ah,.inl (show 0<2 by omega),.inr (.inl rfl)⟩
  ·exact⟨ha,hb ah,.inl (show 0<2 by omega),.inr (.inr (.inl rfl))⟩
  ·exact⟨ha,hb ah,hc rfl,.inr (.inr (.inr rfl))⟩
 obtain⟨g0,g1,g2,g3⟩:=gN;have fok:ie n fo N f:=⟨by rw[eop];exact g3,⟨by rw[ea0];exact g0,by rw[ea1];exact g1,by rw[ea2];exact g2⟩,.inl efn,λe=>ah⟩
 have runs:jo n fo N (du op a b c) A.fs A.told:=by
  rw[ef];refine⟨λy hy=> ?_,λi x y hx hy=> ?_,⟨f,rfl,hG⟩,λfl fr e=> .inl ?_,by rw[etd];exact .inl ah⟩
  ·simp only[List.mem_singleton]at hy;subst hy;exact fok
  ·simp at hy
  ·cases fl with
   |nil=>simp at e;rw[<-e];exact efn
   |cons y fl=>
    have:=congrArg List.length e;simp at this
 have mst:vH n fo N (du op a b c) A:= .inl ⟨edn,ee,by rw[ef];simp,runs⟩;have p8:2^n<=256:=Nat.le_trans (Nat.pow_le_pow_right (by decide) ok.2.2.1) (by decide);have pw:2^(n-jO n N f)<=2^n:=Nat.pow_le_pow_right (by decide) (Nat.sub_le _ _)
 have hmu:fy n N A.fs<=1021:=by rw[ef];simp only[fy,List.map_cons,List.map_nil,List.sum_cons,List.sum_nil,(je efn).1];omega
 have hnb:gK n N A.fs<=2^n-1:=by rw[ef];simp only[gK,List.map_cons,List.map_nil,List.sum_cons,List.sum_nil,(je efn).2];omega
 have perm:(locs (P.ws.set w ⟨k.w,k.d,k.m,k.mc,cs',o',f',k.T,k.q++[((P.last+1:Nat):Int)],k.job⟩)).Perm (((P.last+1:Nat):Int)::locs P.ws):=by
  have p:=gD Wk.loc P.ws w k ⟨k.w,k.d,k.m,k.mc,cs',o',f',k.T,k.q++[((P.last+1:Nat):Int)],k.job⟩ hk;have hl:(⟨k.w,k.d,k.m,k.mc,cs',o',f',k.T,k.q++[((P.last+1:Nat):Int)],k.job⟩:Wk).loc=k.loc++[((P.last+1:Nat):Int)]:=by unfold Wk.loc;simp
  rw[hl,List.append_assoc]at p;exact(List.perm_append_left_iff _).1 p
 have newid:((P.last+1:Nat):Int)∉locs P.ws:=λhm=>by obtain⟨j,hj,e,-⟩:=Ok.at_ _ hm;exact idne j hj ah
 have ql:=fO (λk:Wk=>k.q.length) P.ws w k ⟨k.w,k.d,k.m,k.mc,cs',o',f',k.T,k.q++[((P.last+1:Nat):Int)],k.job⟩ hk;simp only[List.length_append,List.length_singleton]at ql;have ql':qlen (P.ws.set w ⟨k.w,k.d,k.m,k.mc,cs',o',f',k.T,k.q++[((P.last+1:Nat):Int)],k.job⟩)=qlen P.ws+1:=by unfold qlen;omega
 have blk: ∀x,dx p {P with ws:=P.ws.set w ⟨k.w,k.d,k.m,k.mc,cs',o',f',k.T,k.q++[((P.last+1:Nat):Int)],k.job⟩,jobs:=P.jobs++[⟨P.last+1,A,du op a b c⟩],last:=P.last+1} x->dx p P x\/h.size<=x:=λx hx=>by
  rcases hx with e|e|hx|⟨y,hy,hx⟩|⟨y,hy,hx⟩
  ·exact .inl (.inl e)
  ·exact .inl (.inr (.inl e))
  ·exact .inl (.inr (.inr (.inl hx)))
  ·rcases fm hy with e|⟨z,-,hz⟩
   ·subst e;exact .inl (.inr (.inr (.inr (.inl ⟨k,hkm,hx⟩))))
   ·exact .inl (.inr (.inr (.inr (.inl ⟨y,List.mem_of_getElem? hz,hx⟩))))
  ·rcases List.mem_append.1 hy with hy|hy
   ·exact .inl (.inr (.inr (.inr (.inr ⟨y,hy,hx⟩))))
   ·simp only[List.mem_singleton]at hy;subst hy;exact .inr (by have:=f2 x hx;omega)
 have hO: ∀T,(∀b,dx p P b->b∈T)->aM T h h5:=λT hT=>(((O02.mono (T:=T) ak).trans O3 λx hx _=> ?_).trans O4 λx hx _=> ?_).trans O5 λx hx _=> ?_
 ·refine hT hlt h5 _ A (S.only (hO (Eo p P) λx hx=>fR.2 hx) λx hx hm=>D x (fR.1 hx) hm) H5 ⟨λj hj=> ?_,λx hx=> ?_,perm.nodup_iff.2 (List.nodup_cons.2 ⟨newid,Ok.one⟩),λj hj hd=> ?_,λy hy=> ?_,by simpa using hws,ah,⟨Ok.steals.1,?_⟩⟩ (λj hj=> ?_) blk (λx hx hm=> ?_) ak edn ee hmu hnb ql' hO
  ·rcases List.mem_append.1 hj with hj|hj
   ·exact Ok.mst j hj
   ·simp only[List.mem_singleton]at hj;subst hj;exact⟨mst,by show fy n N A.fs<=90000;omega⟩
  ·rcases List.mem_cons.1 (perm.mem_iff.1 hx)with e|hx
   ·exact⟨⟨P.last+1,A,du op a b c⟩,ak,e,edn⟩
   ·obtain⟨j,hj,h⟩:=Ok.at_ x hx;exact⟨j,by simp[hj],h⟩
  ·rcases List.mem_append.1 hj with hj|hj
   ·exact perm.mem_iff.2 (List.mem_cons_of_mem _ (Ok.loc j hj hd))
   ·simp only[List.mem_singleton]at hj;subst hj;exact perm.mem_iff.2 List.mem_cons_self
  ·have hT': ∀y∈P.ws,y.T+y.q.length<=P.last+1:=λy hy=>by have:=Ok.T y hy;omega
   rcases fm hy with e|⟨z,-,hz⟩
   ·subst e;have:=Ok.T k hkm;simp only[List.length_append,List.length_singleton];omega
   ·exact hT' y (List.mem_of_getElem? hz)
  ·have:=Ok.steals;dsimp only;rw[ql'];omega
  ·rcases List.mem_append.1 hj with hj|hj
   ·exact GO j hj
   ·simp only[List.mem_singleton]at hj;subst hj;exact⟨g0,g1,g2⟩
  ·rcases blk x hx with h|h
   ·exact D x h hm
   ·have:=zL x hm;omega
 ·simp only[List.mem_singleton]at hx;subst hx;exact hT _ (.inl rfl)
 ·have hx:x∈[P.jb]:=hx;simp only[List.mem_singleton]at hx;subst hx;exact hT _ (.inr (.inl rfl))
 ·exact hT x (.inr (.inr (.inr (.inl ⟨k,hkm,by simp[Wk.bl]at hx ⊢;omega⟩))))
end
end
section
def Bt(x:Int):Nat:=if x<1 then 1 else if 4<x then 4 else x.toNat
def EJ(x:Int):(if(4:Int)<(if(1:Int)>x then(1:Int)else x)then(4:Int)else(if(1:Int)>x then(1:Int)else x))=(Bt x:Int):=by
 unfold Bt;by_cases h1:(1:Int)>x
 ·rw[if_pos h1,if_neg ah,if_pos ah]
  rfl
 ·rw[if_neg h1];by_cases h2:(4:Int)<x
  ·rw[if_pos h2,if_neg ah,if_pos h2]
   rfl
  ·rw[if_neg h2,if_neg ah,if_neg h2];omega
def Bk(x:Int):1<=Bt x/\Bt x<=4:=by
 unfold Bt;split
 ·omega
 ·split<;>omega
def EC(k:Wk):Prop:=k.q=[]/\k.job=0/\k.T=0
section
variable {h h':aH}{p s:Nat}{P:PS}{K:KK}
set_option maxRecDepth 100000 in
def HL{x:Int}(hK: ∀h' p P,bG h' p s P->P.ws.length=Bt x->P.jobs=[]->(∀k∈P.ws,EC k)->P.last=0->P.steals=0->(∀b,dx p P b->h.size<=b)->aM [] h h'->K (bh p) h'):
  Cl 34 [bh s,al x] h K:=by
 refine F34.spec _ _ h K ?_;refine fi (k:= .i64) λh1 M1 O1 z1=>aV λh2 A2 O2 z2=> ?_;rw[EJ];have hw:=Bk x;unfold F34.wk3;have O02:=O1.trans O2 ak
 have P0:bG h2 h1.size s ⟨none,0,h.size,[],[],0,0⟩:=by refine⟨A2,cj.nil _ _ _,λk hk=>(by cases hk),M1.only O2 ak,λj hj=>(by cases hj),⟨λ_=>0,rfl,rfl,λ_ _=>rfl,λi k hk=>(by simp at hk),λj hj=>(by cases hj)⟩,⟨(show h1.size≠h.size by omega),by simp[aX],by simp[aX]⟩,by simp,λj hj=>(by cases hj)⟩
 have main: ∀(d i:Nat) (h3:aH) (P:PS),i+d=Bt x->bG h3 h1.size s P->P.ws.length=i->P.jobs=[]->(∀k∈P.ws,EC k)->P.last=0->P.steals=0->(∀b,dx h1.size P b->h.size<=b)->aM [] h h3->
   F34.wL3 (d+1) (aw h1.size) (Bt x:Int) (i:Int) h3 K:=by
  intro d
  induction d with
  |zero=>
   intro i h3 P hi H hl hj hf hla hst hB O;rw[F34.sL3];rw[decide_eq_false ah,aJ];exact hK h3 _ P H ah hj hf hla hst hB O
  |succ d ih=>
   intro i h3 P hi H hl hj hf hla hst hB O;have ew:ax ((i:Int)+1)=((i+1:Nat):Int):=by rw[wrap_i64 ah ah];omega
   rw[F34.sL3];rw[decide_eq_true ah,aO,ew];simp only[aL,Nat.zero_add];refine m9 (k:=64) ah ah (aI rfl ?_);refine pj λm c h4 M4 O4 g4 g4'=>aR rfl ?_;rw[show((64:Int)+2)=((66:Nat):Int)from rfl,jy ah]at M4;refine ut (base:=0) (n:=64) M4 ah ah ak ak λdq h5 Q5 O5 g5=>⟨_,_,rfl,?_⟩;have H5:=(H.only0 O4).only0 O5;have M5:=M4.only O5 ak ak;refine bo (cZ H5).2.1 ?_;refine aV λh6 A6 O6 z6=>aV λh7 A7 O7 z7=> ?_;have H7:=(H5.only0 O6).only0 O7;have zz4:=O4.size;have zz5:=O5.size;have l4m:=M4.head.lt;have l4c:=M4.body.lt;have l5:dq<h5.size:=At.lt Q5;refine fT H7.wks A7 rfl rfl ah (by simp[Value.oneCell']) ah λp' c' h8 W8 O8 g8=> ?_;have np:h1.size∉aX P.wp:=H.ne.2.1;have A8:=H7.own.only O8 np;refine aS A8 (by simp[jq]) rfl λh9 A9 O9 z9=> ?_;have hlt:=H.lt;have O57:aM [] h5 h7:=O6.trans O7 ak;have O79:aM (h1.size::aX P.wp) h7 h9:=(O8.mono λb hb _=>List.mem_cons_of_mem _ hb).trans O9 λb hb _=>by simp only[List.mem_singleton]at hb;exact List.mem_cons.2 (.inl hb)
   have O09:aM [] h h9:=(((O.trans O4 ak).trans O5 ak).trans O57 ak).trans O79 λb hb hl=>by
    rcases List.mem_cons.1 hb with e|hb
    ·have:=hB b (.inl e);omega
    ·have:=hB b (.inr (.inr (.inl hb)));omega
   have old: ∀b,dx h1.size P b->b<h3.size:=hlt
   have nS: ∀b,h3.size<=b->b∉h1.size::aX P.wp:=λb hb hm=>by
    rcases List.mem_cons.1 hm with e|hm
    ·have:=old b (.inl e);omega
    ·have:=old b (.inr (.inr (.inl hm)));omega
   obtain⟨k,ek⟩: ∃k:Wk,k=⟨h5.size,dq,m,c,List.replicate 66 0,0,0,0,[],0⟩:=⟨_,rfl⟩
   have hkbl: ∀b∈k.bl,h3.size<=b:=λb hb=>by rw[ek]at hb;simp[Wk.bl]at hb;omega
   have Wk9:ki h9 k:=by
    have W7:ki h7 k:=by rw[ek];have:=M4.ne;refine⟨A6.only O7 ak,⟨(Q5.only O57 ak),M5.only O57 ak ak,by show dq≠m;omega,by show dq≠c;omega,by omega,by omega,by omega,by simp⟩,⟨by simp[List.getD],by simp[List.getD],ak,λi hi=>by simp at hi⟩,⟨by show h5.size≠dq;omega,by show h5.size≠m;omega,by show h5.size≠c;omega⟩⟩
    exact W7.only O79 λb hb hm=>nS b (hkbl b hm) hb
   have kw:k.w=h5.size:=by rw[ek]
   refine ih (i+1) h9 {P with wp:=p',wc:=c',ws:=P.ws++[k]} ah ?_ (by simp[hl]) hj (λy hy=> ?_) hla hst (λb hb=> ?_) O09
   ·obtain⟨τ,t⟩:=H.sep;have g8': ∀b∈aX p',b∈aX P.wp\/h7.size<=b:=g8
    have kbl7: ∀b∈k.bl,b<h7.size:=λb hb=>by rw[ek]at hb;simp[Wk.bl]at hb;omega
    refine⟨?_,?_,λy hy=> ?_,((H7.jbm.only O8 H.ne.2.2).only O9 (by simp;exact λe=>H.ne.1 e.symm)),λj hj'=>(by rw[hj]at hj';cases hj'),⟨λb=>if b∈k.bl then 2*i+1 else if h7.size<=b then 0 else τ b,?_,?_,λb hb=> ?_,λx y hy b hb=> ?_,λj hj'=>(by rw[hj]at hj';cases hj')⟩,⟨H.ne.1,λhm=> ?_,λhm=> ?_⟩,by rw[hj];simp,λj hj'=>(by rw[hj]at hj';cases hj')⟩
    ·have e:(jq s P).set 1 (.slice p' (P.ws.length+1) c')=jq s {P with wp:=p',wc:=c',ws:=P.ws++[k]}:=by simp[jq]
     rw[<-e];exact A9
    ·show cj h9 0 1 p' (P.ws++[k]).length c' ((P.ws++[k]).map λk=>bh k.w)
     have:=W8.only O9 (λb e hm=>by
      simp only[List.mem_singleton]at hm;have hb:b∈aX p':=by rw[e];simp[aX]
      rcases g8' b hb with h|h
      ·rw[hm]at h;exact np h
      ·have:=old h1.size (.inl rfl);omega)
     simpa[bh,kw]using this
    ·rcases List.mem_append.1 hy with hy|hy
     ·refine(H7.wk y hy).only O79 λb hb hm=> ?_;obtain⟨x,hx⟩:=List.mem_iff_getElem?.1 hy;have t1:=t.ws x y hx b hm;rcases List.mem_cons.1 hb with e|hb
      ·subst e;have:=t.p;omega
      ·have:=t.wp b hb;omega
     ·simp only[List.mem_singleton]at hy;subst hy;exact Wk9
    ·show(if h1.size∈k.bl then _ else if h7.size<=h1.size then 0 else τ h1.size)=0;have:=old h1.size (.inl rfl);rw[if_neg λhm=>by have:=hkbl _ hm;omega];split
     ·rfl
     ·exact t.p
    ·show(if P.jb∈k.bl then _ else if h7.size<=P.jb then 0 else τ P.jb)=0;have:=old P.jb (.inr (.inl rfl));rw[if_neg λhm=>by have:=hkbl _ hm;omega];split
     ·rfl
     ·exact t.jb
    ·show(if b∈k.bl then _ else if h7.size<=b then 0 else τ b)=0;rcases g8' b hb with h|h
     ·have:=old b (.inr (.inr (.inl h)));rw[if_neg λhm=>by have:=hkbl _ hm;omega];split
      ·rfl
      ·exact t.wp b h
     ·rw[if_neg λhm=>by have:=kbl7 _ hm;omega,if_pos h]
    ·show(if b∈k.bl then _ else if h7.size<=b then 0 else τ b)=_;have hy:(P.ws++[k])[x]? =some y:=hy;by_cases hx:x<P.ws.length
     ·rw[List.getElem?_append_left hx]at hy;have hb3:=old b (.inr (.inr (.inr (.inl ⟨y,List.mem_of_getElem? hy,hb⟩))));rw[if_neg λhm=>by have:=hkbl _ hm;omega,if_neg ah];exact t.ws x y hy b hb
     ·rw[List.getElem?_append_right ah]at hy
      have hx2:x-P.ws.length=0:=by have:=(List.getElem?_eq_some_iff.1 hy).1;simp at this;omega
      rw[hx2]at hy;simp at hy;subst hy;rw[if_pos hb];omega
    ·rcases g8' _ hm with h|h
     ·exact H.ne.2.1 h
     ·have:=old h1.size (.inl rfl);omega
    ·rcases g8' _ hm with h|h
     ·exact H.ne.2.2 h
     ·have h:h7.size<=P.jb:=h;have:=old P.jb (.inr (.inl rfl));omega
   ·rcases List.mem_append.1 hy with hy|hy
    ·exact hf y hy
    ·simp only[List.mem_singleton]at hy;subst hy;rw[ek];exact⟨rfl,rfl,rfl⟩
   ·have z03:=O.size;rcases hb with e|e|hb|⟨y,hy,hb⟩|⟨y,hy,hb⟩
    ·exact hB b (.inl e)
    ·exact hB b (.inr (.inl e))
    ·rcases g8 b hb with h|h
     ·exact hB b (.inr (.inr (.inl h)))
     ·omega
    ·rcases List.mem_append.1 hy with hy|hy
     ·exact hB b (.inr (.inr (.inr (.inl ⟨y,hy,hb⟩))))
     ·simp only[List.mem_singleton]at hy;subst hy;have:=hkbl b hb;omega
    ·have hy:y∈P.jobs:=hy;rw[hj]at hy;cases hy
 refine⟨_,main (Bt x) 0 h2 _ ah P0 rfl rfl (λk hk=>by cases hk) rfl rfl (λb hb=> ?_) O02⟩;rcases hb with e|e|hb|⟨y,hy,hb⟩|⟨y,hy,hb⟩
 ·omega
 ·have e:b=h.size:=e;omega
 ·simp[aX]at hb
 ·cases hy
 ·cases hy
def vK{n:Nat}{fo:Nat->Nat}{N:ay}(hl:1<=P.ws.length/\P.ws.length<=4)(hj:P.jobs=[])(hf: ∀k∈P.ws,EC k)(h1:P.last=0)(h2:P.steals=0):bQ n fo N P/\dT N P/\locs P.ws=[]/\qlen P.ws=0:=by
 have e1:locs P.ws=[]:=by
  unfold locs;rw[List.flatMap_eq_nil_iff];intro k hk;obtain⟨a,b,-⟩:=hf k hk;unfold Wk.loc;rw[if_pos b,a]
  rfl
 have e2:qlen P.ws=0:=by
  unfold qlen;have:P.ws.map (λk=>k.q.length)=P.ws.map λ_=>0:=List.map_congr_left λk hk=>by rw[(hf k hk).1];rfl
  rw[this];generalize P.ws=l
  induction l with
  |nil=>rfl
  |cons a l ih=>simpa using ih
 refine⟨⟨λj hj'=>(by rw[hj]at hj';cases hj'),λx hx=>(by rw[e1]at hx;cases hx),by rw[e1];simp,λj hj'=>(by rw[hj]at hj';cases hj'),λk hk=> ?_,hl,ah,ah,ah⟩,λj hj'=>(by rw[hj]at hj';cases hj'),e1,e2⟩;obtain⟨a,-,c⟩:=hf k hk;rw[a,c];simp
end
end
section
variable {i j k l m n o p q r s t:Int}{a b c d:Addr}{u v:Nat}{x y:az}{h:aH}{K:KK}
def F58.spec(H:a9 h (.cells #[aq j,aq k,aq l,aq m] 51) λb c=>Cl 29 [au a,ap i] c λa c=> ∃d:Int,∃e:Int,∃f:Int,∃g:Int,∃i:Bool,a=(.tuple #[.agg #[aq d,aq e,aq f,aq g],aD i])/\a9 c (.cells #[aq 0,aq 0,aq 0,aq 0] 51) λa c=>aW c ((aw a).add 0) (aq d) λc=>aW c ((aw a).add 1) (aq e) λc=>aW c ((aw a).add 2) (aq f) λc=>aW c ((aw a).add 3) (aq g) λc=>aK i (aQ .u64 (rd c ((aw a).add 0)) λd=>aQ .u64 (rd c ((aw a).add 1)) λe=>aQ .u64 (rd c ((aw a).add 2)) λf=>aQ .u64 (rd c ((aw a).add 3)) λa=>aQ .u64 (rd c ((aw b).add 0)) λg=>aQ .u64 (rd c ((aw b).add 1)) λi=>aQ .u64 (rd c ((aw b).add 2)) λj=>aQ .u64 (rd c ((aw b).add 3)) λb=>K (aD (d==g&&(e==i&&(f==j&&(a==b&&true))))) c) (K aB c)):Cl 58 [au a,ap i,.agg #[aq j,aq k,aq l,aq m]] h K:=cN Tryz.func58 H
end
section
section
variable {h:aH}{p s n room:Nat}{fo gg:Nat->Nat}{off:Bool}{N:ay}{P:PS}{K:KK}{L:List Nat}
def qD{P P':PS}(a:wv P P'):P'.jobs.length=P.jobs.length:=by have:=congrArg List.length a.2.2;simpa using this
def AI{N N':ay}{P P':PS}(GO:dT N P)(E:Ex N N')(a:wv P P'):dT N' P':=λj hj=>by have h1:(j.id,j.G)∈P'.jobs.map λj=>(j.id,j.G):=List.mem_map.2 ⟨j,hj,rfl⟩;rw[a.2.2]at h1;obtain⟨y,hy,e⟩:=List.mem_map.1 h1;have e2:y.G=j.G:=congrArg Prod.snd e;obtain⟨g1,g2,g3⟩:=GO y hy;rw[e2]at g1 g2 g3;exact⟨E.isN g1,E.isN g2,E.isN g3⟩
structure xy(h:aH)(p s n room:Nat)(fo gg:Nat->Nat)(off:Bool)(N:ay)(P:PS)(L:List Nat):Prop where
 S:cI h s L (XL n room fo gg N off)
 H:bG h p s P
 Ok:bQ n fo N P
 GO:dT N P
 D: ∀b,dx p P b->b∉L
structure AL(p:Nat)(P:PS)(L:List Nat)(h:aH)(P':PS)(L':List Nat)(h':aH):Prop where
 O: ∀T,(∀b,dx p P b->b∈T)->(∀b∈L,b∈T)->aM T h h'
 F:bH L L' h
 B: ∀b,dx p P' b->dx p P b\/h.size<=b
def xy.only0{h':aH}(W:xy h p s n room fo gg off N P L)(O:aM [] h h'):xy h' p s n room fo gg off N P L:=⟨W.S.only0 O,W.H.only0 O,W.Ok,W.GO,W.D⟩
def zo(W:xy h p s n room fo gg off N P L){who draw:Int}
  (hOut:who<0\/(P.ws.length:Int)<=who->K aB h)
  (hK: ∀h' L' N' P' b (w:Nat) (k:Wk),who=(w:Int)->P.ws[w]? =some k->xy h' p s n room fo gg off N' P' L'->qS n fo room N N' P P'->(b=true->locs P.ws≠[])->(phi n N' P'+1<=phi n N P\/(k.job=0/\k.q=[]/\fa P.ws P'.ws))->AL p P L h P' L' h'->K (aD b) h'):
  Cl 81 [bh p,al who,al draw] h K:=
 EY W.S W.H W.Ok W.GO W.D hOut λh' L' N' P' b w k e1 e2 S' H' D' Pk e3 e4 O' F' B'=>hK h' L' N' P' b w k e1 e2 ⟨S',H',Pk.ok,AI W.GO Pk.ex Pk.alike,D'⟩ Pk e3 e4 ⟨O',F',B'⟩
def Dv(Ok:bQ n fo N P){j:Jb}(hj:j∈P.jobs)(hd:j.A.done=false): ∃(w:Nat) (k:Wk),P.ws[w]? =some k/\(k.job≠0\/k.q≠[]):=by
 obtain⟨k,hk,hm⟩:=List.mem_flatMap.1 (Ok.loc j hj hd);obtain⟨w,hw⟩:=List.mem_iff_getElem?.1 hk;refine⟨w,k,hw,?_⟩;unfold Wk.loc at hm;by_cases h0:k.job=0
 ·rw[if_pos h0]at hm;exact .inr λe=>by rw[e]at hm;cases hm
 ·exact .inl h0
end
end
section
structure kB where
 kind:Int
 op:Int
 dst:Int
 a:Int
 b:Int
 c:Int
 mask:Nat
structure fE where
 there:Nat->Bool
 hnd:Nat->Nat
 cal:kB
 pend:Bool
 job:Nat
 err:Int
 num:Nat
 ansd:Bool
structure fV where
 s:Nat
 p:Nat
 r:Nat
 ses:Nat->fE
 ans:Nat
def gx{α:Type}(f:Nat->α)(i:Nat)(x:α):Nat->α:=λk=>if k=i then x else f k
theorem cp{α:Type}{f:Nat->α}{i:Nat}{x:α}:gx f i x i=x:=if_pos rfl
theorem cK{α:Type}{f:Nat->α}{i k:Nat}{x:α}(h:k≠i):gx f i x k=f k:=if_neg h
def fV.put(E:fV)(i:Nat)(x:fE):fV:={E with ses:=gx E.ses i x}
def cC(c:kB):Nat->Value
 |0=>al c.kind
 |1=>al c.op
 |2=>al c.dst
 |3=>al c.a
 |4=>al c.b
 |5=>al c.c
 |_=> .int .u8 (c.mask:Int)
def sC(x:fE)(j:Nat):Value:=
 if j<12 then(if j%2=0 then aD (x.there (j/2))else ap (x.hnd (j/2):Int))else
 if j<19 then cC x.cal (j-12)else
 if j=19 then aD x.pend else if j=20 then al (x.job:Int)else if j=21 then al x.err else
 if j=22 then aq (x.num:Int)else aD x.ansd
def eC(E:fV)(k:Nat):Value:=
 if k=0 then bh E.s else if k=1 then bh E.p else if k=2 then bh E.r else if k=99 then al (E.ans:Int)else
 sC (E.ses ((k-3)/24)) ((k-3)%24)
def dj(h:aH)(e:Nat)(E:fV):Prop:=At h e (co 100 (eC E))
theorem Fe{c:kB}(j:Nat):(cC c j).oneCell'=true:=by unfold cC;split<;>rfl
theorem Fq{x:fE}(j:Nat):(sC x j).oneCell'=true:=by
 unfold sC;split
 ·split<;>rfl
 ·split
  ·exact Fe _
  ·repeat' split
   all_goals rfl
theorem dj.rd{h:aH}{e k:Nat}{E:fV}(H:dj h e E)(hk:k<100):Ev.rd h ⟨e,k,none⟩=some (eC E k):=by rw[At.rd H,cF hk]
theorem vz{E:fV}{i j:Nat}(hi:i<4)(hj:j<24):eC E (3+24*i+j)=sC (E.ses i) j:=by unfold eC;rw[if_neg ah,if_neg ah,if_neg ah,if_neg ah,show(3+24*i+j-3)/24=i by omega,show(3+24*i+j-3)%24=j by omega]
theorem dj.rdS{h:aH}{e i j k:Nat}{E:fV}(H:dj h e E)(hi:i<4)(hj:j<24)(hk:k=3+24*i+j):Ev.rd h ⟨e,k,none⟩=some (sC (E.ses i) j):=by subst hk;rw[H.rd ah,vz hi hj]
theorem ur{x:fE}{r:Nat}(hr:r<6):sC x (2*r)=aD (x.there r):=by unfold sC;rw[if_pos ah,if_pos ah,show 2*r/2=r by omega]
theorem zy{x:fE}{r:Nat}(hr:r<6):sC x (2*r+1)=ap (x.hnd r:Int):=by unfold sC;rw[if_pos ah,if_neg ah,show(2*r+1)/2=r by omega]
theorem FQ{E:fV}{i:Nat}{x:fE}{q:Nat}(h:q<100):eC (E.put i x) q=if 3<=q/\q<99/\(q-3)/24=i then sC x ((q-3)%24)else eC E q:=by
 unfold eC fV.put;by_cases h0:q=0
 ·rw[if_pos h0,if_pos h0,if_neg ah]
 by_cases h1:q=1
 ·rw[if_neg h0,if_neg h0,if_pos h1,if_pos h1,if_neg ah]
 by_cases h2:q=2
 ·rw[if_neg h0,if_neg h0,if_neg h1,if_neg h1,if_pos h2,if_pos h2,if_neg ah]
 by_cases h3:q=99
 ·rw[if_neg h0,if_neg h0,if_neg h1,if_neg h1,if_neg h2,if_neg h2,if_pos h3,if_pos h3,if_neg ah]
 rw[if_neg h0,if_neg h0,if_neg h1,if_neg h1,if_neg h2,if_neg h2,if_neg h3,if_neg h3];by_cases hq:(q-3)/24=i
 ·rw[if_pos ah];show sC (gx E.ses i x ((q-3)/24)) _=_;rw[hq,cp]
 ·rw[if_neg ah];show sC (gx E.ses i x ((q-3)/24)) _=_;rw[cK hq]
theorem dj.setS{h:aH}{e i j k:Nat}{E:fV}{x:fE}{v:Value}{K:aH->Prop}(H:dj h e E)(hi:i<4)(hj:j<24)(hk:k=3+24*i+j)(hv:v.oneCell'=true)
  (hx: ∀q,q<24->sC x q=if q=j then v else sC (E.ses i) q) (hK: ∀h',dj h' e (E.put i x)->aM [e] h h'->h'.size=h.size->K h'):aW h ⟨e,k,none⟩ v K:=by
 subst hk;refine aS H (by rw[bJ];omega) hv λh' A O z=>hK h' ?_ O z;unfold dj;rw[dQ]at A;rw[dR (g':=λq=>if q=3+24*i+j then v else eC E q) λq hq=> ?_]
 ·exact A
 ·rw[FQ hq];by_cases hc:3<=q/\q<99/\(q-3)/24=i
  ·rw[if_pos hc,hx _ ah];by_cases hh:(q-3)%24=j
   ·rw[if_pos hh,if_pos ah]
   ·rw[if_neg hh,if_neg ah,<-vz (E:=E) hi ah]
    congr 1
    omega
  ·rw[if_neg hc,if_neg ah]
theorem dj.setA{h:aH}{e n:Nat}{E:fV}{K:aH->Prop}(H:dj h e E)(hK: ∀h',dj h' e {E with ans:=n}->aM [e] h h'->h'.size=h.size->K h'):aW h ⟨e,99,none⟩ (al (n:Int)) K:=by
 refine aS H (by rw[bJ];omega) rfl λh' A O z=>hK h' ?_ O z;unfold dj;rw[dQ]at A;rw[dR (g':=λq=>if q=99 then al (n:Int)else eC E q) λq hq=> ?_]
 ·exact A
 ·unfold eC;by_cases h3:q=99
  ·rw[if_pos h3];subst h3;rfl
  ·rw[if_neg h3,if_neg h3,if_neg h3]
theorem dj.only{h h':aH}{e:Nat}{E:fV}{S:List Nat}(H:dj h e E)(O:aM S h h')(he:e∉S):dj h' e E:=At.only H O he
theorem dj.only0{h h':aH}{e:Nat}{E:fV}(H:dj h e E)(O:aM [] h h'):dj h' e E:=H.only O ak
theorem wS{x:fE}{b:Bool}: ∀q,q<24->sC {x with pend:=b} q=if q=19 then aD b else sC x q:=λq hq=>by
 unfold sC;by_cases h:q=19
 ·subst h;rfl
 ·rw[if_neg h,if_neg h,if_neg h]
theorem yI{x:fE}{n:Nat}: ∀q,q<24->sC {x with job:=n} q=if q=20 then al (n:Int)else sC x q:=λq hq=>by
 unfold sC;by_cases h:q=20
 ·subst h;rfl
 ·rw[if_neg h,if_neg h,if_neg h]
theorem EE{x:fE}{n:Int}: ∀q,q<24->sC {x with err:=n} q=if q=21 then al n else sC x q:=λq hq=>by
 unfold sC;by_cases h:q=21
 ·subst h;rfl
 ·rw[if_neg h,if_neg h,if_neg h]
theorem Eu{x:fE}{n:Nat}: ∀q,q<24->sC {x with num:=n} q=if q=22 then aq (n:Int)else sC x q:=λq hq=>by
 unfold sC;by_cases h:q=22
 ·subst h;rfl
 ·rw[if_neg h,if_neg h,if_neg h]
theorem Dd{x:fE}{b:Bool}: ∀q,q<24->sC {x with ansd:=b} q=if q=23 then aD b else sC x q:=λq hq=>by
 unfold sC;by_cases h:q=23
 ·subst h;rfl
 ·rw[if_neg h]
  repeat' split
  all_goals first|rfl|omega
theorem EV{x:fE}{c:kB}{j:Nat}{v:Value}(hj:j<7)(hc: ∀q,q<7->cC c q=if q=j then v else cC x.cal q): ∀q,q<24->sC {x with cal:=c} q=if q=12+j then v else sC x q:=λq hq=>by
 unfold sC;by_cases h:q<12
 ·rw[if_pos h,if_pos h,if_neg (show ¬q=12+j by omega)]
 ·rw[if_neg h,if_neg h];by_cases h2:q<19
  ·rw[if_pos h2,if_pos h2,hc _ ah];by_cases h3:q-12=j
   ·rw[if_pos h3,if_pos (show q=12+j by omega)]
   ·rw[if_neg h3,if_neg (show ¬q=12+j by omega)]
  ·rw[if_neg h2,if_neg h2,if_neg (show ¬q=12+j by omega)]
theorem vY{x:fE}{r:Nat}{b:Bool}(hr:r<6): ∀q,q<24->sC {x with there:=gx x.there r b} q=if q=2*r then aD b else sC x q:=λq hq=>by
 by_cases h:q=2*r
 ·subst h;rw[ur hr,if_pos rfl];show aD (gx _ _ _ _)=_;rw[cp]
 ·rw[if_neg h];unfold sC;by_cases h1:q<12
  ·rw[if_pos h1,if_pos h1];by_cases h2:q%2=0
   ·rw[if_pos h2,if_pos h2];show aD (gx _ _ _ _)=_;rw[cK ah]
   ·rw[if_neg h2,if_neg h2]
  ·rw[if_neg h1,if_neg h1]
theorem wu{x:fE}{r n:Nat}(hr:r<6): ∀q,q<24->sC {x with hnd:=gx x.hnd r n} q=if q=2*r+1 then ap (n:Int)else sC x q:=λq hq=>by
 by_cases h:q=2*r+1
 ·subst h;rw[zy hr,if_pos rfl];show ap ((gx _ _ _ _:Nat):Int)=_;rw[cp]
 ·rw[if_neg h];unfold sC;by_cases h1:q<12
  ·rw[if_pos h1,if_pos h1];by_cases h2:q%2=0
   ·rw[if_pos h2,if_pos h2]
   ·rw[if_neg h2,if_neg h2];show ap ((gx _ _ _ _:Nat):Int)=_;rw[cK ah]
  ·rw[if_neg h1,if_neg h1]
theorem gP{α:Type}{f:Nat->α}{i:Nat}{x y:α}:gx (gx f i x) i y=gx f i y:=by
 funext k;by_cases h:k=i
 ·rw[h,cp,cp]
 ·rw[cK h,cK h,cK h]
theorem dU{E:fV}{i:Nat}{x y:fE}:(E.put i x).put i y=E.put i y:=by unfold fV.put;rw[gP]
theorem cH{E:fV}{i:Nat}{x:fE}:(E.put i x).ses i=x:=cp
theorem ov{E:fV}{i:Nat}:E.put i (E.ses i)=E:=by
 unfold fV.put
 have:gx E.ses i (E.ses i)=E.ses:=by
  funext k;unfold gx;by_cases h:k=i
  ·rw[if_pos h,h]
  ·rw[if_neg h]
 rw[this]
section
variable {h:aH}{e i k:Nat}{E:fV}(H:dj h e E)(hi:i<4)
include H hi
theorem dj.kind(hk:k=3+24*i+12):Ev.rd h ⟨e,k,none⟩=some (al (E.ses i).cal.kind):=H.rdS hi (j:=12) ah hk
theorem dj.op(hk:k=3+24*i+13):Ev.rd h ⟨e,k,none⟩=some (al (E.ses i).cal.op):=H.rdS hi (j:=13) ah hk
theorem dj.dst(hk:k=3+24*i+14):Ev.rd h ⟨e,k,none⟩=some (al (E.ses i).cal.dst):=H.rdS hi (j:=14) ah hk
theorem dj.ca(hk:k=3+24*i+15):Ev.rd h ⟨e,k,none⟩=some (al (E.ses i).cal.a):=H.rdS hi (j:=15) ah hk
theorem dj.cb(hk:k=3+24*i+16):Ev.rd h ⟨e,k,none⟩=some (al (E.ses i).cal.b):=H.rdS hi (j:=16) ah hk
theorem dj.cc(hk:k=3+24*i+17):Ev.rd h ⟨e,k,none⟩=some (al (E.ses i).cal.c):=H.rdS hi (j:=17) ah hk
theorem dj.mask(hk:k=3+24*i+18):Ev.rd h ⟨e,k,none⟩=some (.int .u8 ((E.ses i).cal.mask:Int)):=H.rdS hi (j:=18) ah hk
theorem dj.pend(hk:k=3+24*i+19):Ev.rd h ⟨e,k,none⟩=some (aD (E.ses i).pend):=H.rdS hi (j:=19) ah hk
theorem dj.job(hk:k=3+24*i+20):Ev.rd h ⟨e,k,none⟩=some (al ((E.ses i).job:Int)):=H.rdS hi (j:=20) ah hk
theorem dj.err(hk:k=3+24*i+21):Ev.rd h ⟨e,k,none⟩=some (al (E.ses i).err):=H.rdS hi (j:=21) ah hk
theorem dj.num(hk:k=3+24*i+22):Ev.rd h ⟨e,k,none⟩=some (aq ((E.ses i).num:Int)):=H.rdS hi (j:=22) ah hk
theorem dj.ansd(hk:k=3+24*i+23):Ev.rd h ⟨e,k,none⟩=some (aD (E.ses i).ansd):=H.rdS hi (j:=23) ah hk
theorem dj.thr{r:Nat}(hr:r<6)(hk:k=3+24*i+2*r):Ev.rd h ⟨e,k,none⟩=some (aD ((E.ses i).there r)):=by rw[H.rdS hi (j:=2*r) ah hk,ur hr]
theorem dj.hnd{r:Nat}(hr:r<6)(hk:k=3+24*i+(2*r+1)):Ev.rd h ⟨e,k,none⟩=some (ap ((E.ses i).hnd r:Int)):=by rw[H.rdS hi (j:=2*r+1) ah hk,zy hr]
end
theorem dj.s{h:aH}{e:Nat}{E:fV}(H:dj h e E):Ev.rd h (aw e)=some (bh E.s):=H.rd ah
theorem dj.p{h:aH}{e:Nat}{E:fV}(H:dj h e E):Ev.rd h ⟨e,1,none⟩=some (bh E.p):=H.rd ah
theorem dj.r{h:aH}{e:Nat}{E:fV}(H:dj h e E):Ev.rd h ⟨e,2,none⟩=some (bh E.r):=H.rd ah
theorem dj.ans{h:aH}{e:Nat}{E:fV}(H:dj h e E):Ev.rd h ⟨e,99,none⟩=some (al (E.ans:Int)):=H.rd ah
end
section
variable {i j k l m n o p q r s t:Int}{a b c d:Addr}{u v:Nat}{x y:az}{h:aH}{K:KK}
def F18.spec(H:Cl 61 [al i,al j] h λa b=> ∃c:az,∃d:Int,a=(.tuple #[aA c,al d])/\aK (d !=0) (K (.tuple #[aA none,al d]) b) (Cl 34 [aA c,al k] b λa b=>ba (some a) λa=>Cl 68 [aA a] b λb d=>aQ .i64 (some b) λb=>Cl 67 [al b] d λb d=>ba (some b) λb=>a9 d (.cells #[aA c,aA a,aA b,aB,ap 0,aB,ap 0,aB,ap 0,aB,ap 0,aB,ap 0,aB,ap 0,al 0,al 0,al 0,al 0,al 0,al 0,.int .u8 0,aB,al 0,al 0,aq 0,aB,aB,ap 0,aB,ap 0,aB,ap 0,aB,ap 0,aB,ap 0,aB,ap 0,al 0,al 0,al 0,al 0,al 0,al 0,.int .u8 0,aB,al 0,al 0,aq 0,aB,aB,ap 0,aB,ap 0,aB,ap 0,aB,ap 0,aB,ap 0,aB,ap 0,al 0,al 0,al 0,al 0,al 0,al 0,.int .u8 0,aB,al 0,al 0,aq 0,aB,aB,ap 0,aB,ap 0,aB,ap 0,aB,ap 0,aB,ap 0,aB,ap 0,al 0,al 0,al 0,al 0,al 0,al 0,.int .u8 0,aB,al 0,al 0,aq 0,aB,al 0] 132) λa b=>K (.tuple #[au (aw a),al 0]) b)):Cl 18 [al i,al j,al k] h K:=cN Tryz.func18 H
def F23.spec(H:ba (rd h (a.add 0)) λa=>K (aA a) h):Cl 23 [au a] h K:=cN Tryz.func23 H
def F24.spec(H:a9 h (.cells #[al j,al k,al l,al m,al n,al o,.int .u8 p] 41) λb c=>Cl 76 [au a,al i] c λc d=>ba (some c) λc=>aK (Option.isNone c) (K (al 222) d) (bf c λe=>bI (rd d (e.add 19)) λe=>aK e (K (al 220) d) (aQ .i64 (rd d ((aw b).add 0)) λe=>aQ .i64 (rd d ((aw b).add 1)) λf=>aQ .i64 (rd d ((aw b).add 2)) λg=>aQ .i64 (rd d ((aw b).add 3)) λi=>aQ .i64 (rd d ((aw b).add 4)) λj=>aQ .i64 (rd d ((aw b).add 5)) λk=>aQ .u8 (rd d ((aw b).add 6)) λl=>Cl 77 [au a,aA c,.agg #[al e,al f,al g,al i,al j,al k,.int .u8 l]] d λa d=>aQ .i64 (some a) λa=>aK (a !=0) (K (al a) d) (aQ .i64 (rd d ((aw b).add 0)) λa=>aQ .i64 (rd d ((aw b).add 1)) λe=>aQ .i64 (rd d ((aw b).add 2)) λf=>aQ .i64 (rd d ((aw b).add 3)) λg=>aQ .i64 (rd d ((aw b).add 4)) λi=>aQ .i64 (rd d ((aw b).add 5)) λj=>aQ .u8 (rd d ((aw b).add 6)) λb=>bf c λk=>aW d ((k.add 12).add 0) (al a) λa=>aW a ((k.add 12).add 1) (al e) λa=>aW a ((k.add 12).add 2) (al f) λa=>aW a ((k.add 12).add 3) (al g) λa=>aW a ((k.add 12).add 4) (al i) λa=>aW a ((k.add 12).add 5) (al j) λa=>aW a ((k.add 12).add 6) (.int .u8 b) λa=>bf c λb=>aW a ((b.add 19).add 0) aC λa=>bf c λb=>aW a ((b.add 20).add 0) (al 0) λa=>K (al 0) a)))):Cl 24 [au a,al i,.agg #[al j,al k,al l,al m,al n,al o,.int .u8 p]] h K:=cN Tryz.func24 H
def F26.T:bj:=⟨[(4,[0,1,2,23]),(11,[0,1,2])],[]⟩
section
variable (n:Nat)(b:Addr)(c d a:Int)(h:aH)(K:KK)
def F26.wk11:Prop:=Cl 80 [au b] h λa e=>a=aE/\ba (rd e (b.add 1)) λa=>Cl 81 [aA a,al c,al d] e λa b=>bI (some a) λ_=>K aC b
def F26.wL4:Prop:=Lp Tryz.f26 F26.T [1,1,0,1,0] n [(0,(au b)),(1,(al c)),(2,(al d)),(23,(al a))] h K
def F26.sL4:F26.wL4 (n+1) b c d a h K=(aK (a<4) ((0<=a/\a<4/\bI (rd h (((b.add 3).add (a.toNat*24)).add 19)) λe=>aK e (aQ .i64 (rd h ((((b.add 3).add (a.toNat*24)).add 12).add 0)) λe=>aQ .i64 (rd h ((((b.add 3).add (a.toNat*24)).add 12).add 1)) λf=>aQ .i64 (rd h ((((b.add 3).add (a.toNat*24)).add 12).add 2)) λg=>aQ .i64 (rd h ((((b.add 3).add (a.toNat*24)).add 12).add 3)) λi=>aQ .i64 (rd h ((((b.add 3).add (a.toNat*24)).add 12).add 4)) λj=>aQ .i64 (rd h ((((b.add 3).add (a.toNat*24)).add 12).add 5)) λk=>aQ .u8 (rd h ((((b.add 3).add (a.toNat*24)).add 12).add 6)) λl=>Cl 79 [au b,.agg #[al e,al f,al g,al i,al j,al k,.int .u8 l]] h λe f=>lI (some e) λe=>eV Tryz.prog X e [au ((b.add 3).add (a.toNat*24))] f λe f=>bI (some e) λ_=>F26.wL4 n b c d (ax (a+1)) f K) (F26.wL4 n b c d (ax (a+1)) h K))) (F26.wk11 b c d h K)):=by kernel_rfl
def F26.wk4:Prop:=(∃e,F26.wL4 e b c d a h K)
def F26.spec(H:aK (c<0) (K aB h) (Cl 27 [au b] h λa e=>aQ .i64 (some a) λa=>aK (c>=a) (K aB e) (Cl 78 [au b] e λa e=>bI (some a) λa=>aK (!a) (K aB e) (F26.wk4 b c d 0 e K)))):Cl 26 [au b,al c,al d] h K:=cT F26.T Tryz.func26 H
end
def F27.spec(H:ba (rd h (a.add 1)) λa=>Cl 68 [aA a] h λa b=>aQ .i64 (some a) λa=>K (al a) b):Cl 27 [au a] h K:=cN Tryz.func27 H
def F28.T:bj:=⟨[],[(4,[[(0,[]),(1,[]),(2,[]),(3,[]),(4,[]),(5,[]),(6,[]),(7,[]),(8,[]),(9,[]),(10,[]),(11,[]),(12,[]),(13,[]),(14,[]),(15,[])]])]⟩
def F28.spec(H:Cl 76 [au a,al i] h λa b=>ba (some a) λa=>aK (Option.isNone a) (K (.tuple #[ap 0,aB]) b) (Cl 82 [al j] b λb c=>bI (some b) λb=>aK (!b) (K (.tuple #[ap 0,aB]) c) (bf a λb=>0<=j/\j<6/\aQ .u32 (rd c (((b.add 0).add (j.toNat*2)).add 1)) λb=>bf a λa=>0<=j/\j<6/\bI (rd c (((a.add 0).add (j.toNat*2)).add 0)) λa=>K (.tuple #[ap b,aD a]) c))):Cl 28 [au a,al i,al j] h K:=cT F28.T Tryz.func28 H
def F43.spec(H:a9 h (.cells #[al 0,aq 0] 76) λb c=>Cl 76 [au a,al i] c λa c=>ba (some a) λa=>aK (Option.isNone a) (aW c ((aw b).add 0) (al 0) λa=>aW a ((aw b).add 1) (aq 0) λa=>aQ .i64 (rd a ((aw b).add 0)) λc=>aQ .u64 (rd a ((aw b).add 1)) λb=>K (.tuple #[.agg #[al c,aq b],aB]) a) (bf a λd=>bI (rd c (d.add 23)) λd=>aK (!d) (aW c ((aw b).add 0) (al 0) λa=>aW a ((aw b).add 1) (aq 0) λa=>aQ .i64 (rd a ((aw b).add 0)) λc=>aQ .u64 (rd a ((aw b).add 1)) λb=>K (.tuple #[.agg #[al c,aq b],aB]) a) (bf a λa=>aQ .i64 (rd c ((a.add 21).add 0)) λd=>aQ .u64 (rd c ((a.add 21).add 1)) λa=>aW c ((aw b).add 0) (al d) λc=>aW c ((aw b).add 1) (aq a) λa=>aQ .i64 (rd a ((aw b).add 0)) λc=>aQ .u64 (rd a ((aw b).add 1)) λb=>K (.tuple #[.agg #[al c,aq b],aC]) a))):Cl 43 [au a,al i] h K:=cN Tryz.func43 H
def F54.spec(H:aQ .i64 (rd h (a.add 99)) λa=>K (al a) h):Cl 54 [au a] h K:=cN Tryz.func54 H
def F56.spec(H:Cl 76 [au a,al i] h λa b=>ba (some a) λa=>aK (!(Option.isNone a)) (bf a λa=>bI (rd b (a.add 19)) λa=>K (aD a) b) (K aB b)):Cl 56 [au a,al i] h K:=cN Tryz.func56 H
def F76.spec(H:aK (i<0) (K (aA none) h) (aK (i>=4) (K (aA none) h) ((0<=i/\i<4/\K (au ((a.add 3).add (i.toNat*24))) h)))):Cl 76 [au a,al i] h K:=cN Tryz.func76 H
def F77.T:bj:=⟨[(6,[0,1,5,28,29,30]),(11,[0,5])],[(11,[[(0,[]),(1,[]),(2,[]),(3,[]),(4,[]),(5,[]),(6,[]),(7,[0,1,2]),(8,[]),(9,[]),(10,[])]]),(12,[[(0,[]),(1,[]),(2,[]),(3,[]),(4,[]),(5,[]),(6,[]),(7,[0,1,2]),(8,[]),(9,[])]])]⟩
section
variable (n:Nat)(i j:Addr)(l o q r s t u:Int)(a:Addr)(c:az)(b f:Nat)(g d:Int)(h:aH)(K:KK)
def F77.wk11:Prop:=aQ .u8 (rd h (a.add 6)) λb=>ba (rd h (i.add 0)) λc=>Cl 75 [aA c] h λc d=>aQ .i64 (some c) λc=>aF (au (a.add 6))/\aQ .u8 (rd d (a.add 6)) λe=>aG (.int .u8 e) (.int .u8 b)/\aF (al (ax b))/\0<=c/\aQ .u8 (rd d (a.add 6)) λe=>ba (rd d (i.add 0)) λf=>Cl 75 [aA f] d λd f=>aQ .i64 (some d) λd=>aF (au (a.add 6))/\aQ .u8 (rd f (a.add 6)) λg=>aG (.int .u8 g) (.int .u8 e)/\aF (al (ax e))/\aQ .i64 (rd f (a.add 0)) λg=>aK (g==3) (aQ .i64 (rd f (a.add 1)) λg=>Cl 122 [al g] f λf g=>aQ .i64 (some f) λf=>aK (f==0) (K (al 200) g) (aQ .i64 (rd g (a.add 0)) λf=>aK (f==1) (aK ((ax e)>=d) (aK ((ax e)>=d) (K (al 40) g) (aQ .i64 (rd g (a.add 0)) λd=>aK (d==3) (aQ .i64 (rd g (a.add 1)) λd=>aK (d==6) (aK ((Int.fdiv (ax b) (2^(min (c.toNat) (IntKind.bits .i64)))) !=0) (K (al 40) g) (K (al 0) g)) (aQ .i64 (rd g (a.add 1)) λa=>aK (a==7) (aK ((Int.fdiv (ax b) (2^(min (c.toNat) (IntKind.bits .i64)))) !=0) (K (al 40) g) (K (al 0) g)) (K (al 0) g))) (K (al 0) g))) (aQ .i64 (rd g (a.add 0)) λf=>aK (f==3) (aQ .i64 (rd g (a.add 1)) λf=>aK (f==8) (aK ((ax e)>=d) (K (al 40) g) (aQ .i64 (rd g (a.add 0)) λd=>aK (d==3) (aQ .i64 (rd g (a.add 1)) λd=>aK (d==6) (aK ((Int.fdiv (ax b) (2^(min (c.toNat) (IntKind.bits .i64)))) !=0) (K (al 40) g) (K (al 0) g)) (aQ .i64 (rd g (a.add 1)) λa=>aK (a==7) (aK ((Int.fdiv (ax b) (2^(min (c.toNat) (IntKind.bits .i64)))) !=0) (K (al 40) g) (K (al 0) g)) (K (al 0) g))) (K (al 0) g))) (aQ .i64 (rd g (a.add 0)) λd=>aK (d==3) (aQ .i64 (rd g (a.add 1)) λd=>aK (d==6) (aK ((Int.fdiv (ax b) (2^(min (c.toNat) (IntKind.bits .i64)))) !=0) (K (al 40) g) (K (al 0) g)) (aQ .i64 (rd g (a.add 1)) λa=>aK (a==7) (aK ((Int.fdiv (ax b) (2^(min (c.toNat) (IntKind.bits .i64)))) !=0) (K (al 40) g) (K (al 0) g)) (K (al 0) g))) (K (al 0) g))) (aQ .i64 (rd g (a.add 0)) λd=>aK (d==3) (aQ .i64 (rd g (a.add 1)) λd=>aK (d==6) (aK ((Int.fdiv (ax b) (2^(min (c.toNat) (IntKind.bits .i64)))) !=0) (K (al 40) g) (K (al 0) g)) (aQ .i64 (rd g (a.add 1)) λa=>aK (a==7) (aK ((Int.fdiv (ax b) (2^(min (c.toNat) (IntKind.bits .i64)))) !=0) (K (al 40) g) (K (al 0) g)) (K (al 0) g))) (K (al 0) g)))) (aQ .i64 (rd g (a.add 0)) λf=>aK (f==3) (aQ .i64 (rd g (a.add 1)) λf=>aK (f==8) (aK ((ax e)>=d) (K (al 40) g) (aQ .i64 (rd g (a.add 0)) λd=>aK (d==3) (aQ .i64 (rd g (a.add 1)) λd=>aK (d==6) (aK ((Int.fdiv (ax b) (2^(min (c.toNat) (IntKind.bits .i64)))) !=0) (K (al 40) g) (K (al 0) g)) (aQ .i64 (rd g (a.add 1)) λa=>aK (a==7) (aK ((Int.fdiv (ax b) (2^(min (c.toNat) (IntKind.bits .i64)))) !=0) (K (al 40) g) (K (al 0) g)) (K (al 0) g))) (K (al 0) g))) (aQ .i64 (rd g (a.add 0)) λd=>aK (d==3) (aQ .i64 (rd g (a.add 1)) λd=>aK (d==6) (aK ((Int.fdiv (ax b) (2^(min (c.toNat) (IntKind.bits .i64)))) !=0) (K (al 40) g) (K (al 0) g)) (aQ .i64 (rd g (a.add 1)) λa=>aK (a==7) (aK ((Int.fdiv (ax b) (2^(min (c.toNat) (IntKind.bits .i64)))) !=0) (K (al 40) g) (K (al 0) g)) (K (al 0) g))) (K (al 0) g))) (aQ .i64 (rd g (a.add 0)) λd=>aK (d==3) (aQ .i64 (rd g (a.add 1)) λd=>aK (d==6) (aK ((Int.fdiv (ax b) (2^(min (c.toNat) (IntKind.bits .i64)))) !=0) (K (al 40) g) (K (al 0) g)) (aQ .i64 (rd g (a.add 1)) λa=>aK (a==7) (aK ((Int.fdiv (ax b) (2^(min (c.toNat) (IntKind.bits .i64)))) !=0) (K (al 40) g) (K (al 0) g)) (K (al 0) g))) (K (al 0) g))))) (aQ .i64 (rd f (a.add 0)) λg=>aK (g==1) (aK ((ax e)>=d) (aK ((ax e)>=d) (K (al 40) f) (aQ .i64 (rd f (a.add 0)) λd=>aK (d==3) (aQ .i64 (rd f (a.add 1)) λd=>aK (d==6) (aK ((Int.fdiv (ax b) (2^(min (c.toNat) (IntKind.bits .i64)))) !=0) (K (al 40) f) (K (al 0) f)) (aQ .i64 (rd f (a.add 1)) λa=>aK (a==7) (aK ((Int.fdiv (ax b) (2^(min (c.toNat) (IntKind.bits .i64)))) !=0) (K (al 40) f) (K (al 0) f)) (K (al 0) f))) (K (al 0) f))) (aQ .i64 (rd f (a.add 0)) λg=>aK (g==3) (aQ .i64 (rd f (a.add 1)) λg=>aK (g==8) (aK ((ax e)>=d) (K (al 40) f) (aQ .i64 (rd f (a.add 0)) λd=>aK (d==3) (aQ .i64 (rd f (a.add 1)) λd=>aK (d==6) (aK ((Int.fdiv (ax b) (2^(min (c.toNat) (IntKind.bits .i64)))) !=0) (K (al 40) f) (K (al 0) f)) (aQ .i64 (rd f (a.add 1)) λa=>aK (a==7) (aK ((Int.fdiv (ax b) (2^(min (c.toNat) (IntKind.bits .i64)))) !=0) (K (al 40) f) (K (al 0) f)) (K (al 0) f))) (K (al 0) f))) (aQ .i64 (rd f (a.add 0)) λd=>aK (d==3) (aQ .i64 (rd f (a.add 1)) λd=>aK (d==6) (aK ((Int.fdiv (ax b) (2^(min (c.toNat) (IntKind.bits .i64)))) !=0) (K (al 40) f) (K (al 0) f)) (aQ .i64 (rd f (a.add 1)) λa=>aK (a==7) (aK ((Int.fdiv (ax b) (2^(min (c.toNat) (IntKind.bits .i64)))) !=0) (K (al 40) f) (K (al 0) f)) (K (al 0) f))) (K (al 0) f))) (aQ .i64 (rd f (a.add 0)) λd=>aK (d==3) (aQ .i64 (rd f (a.add 1)) λd=>aK (d==6) (aK ((Int.fdiv (ax b) (2^(min (c.toNat) (IntKind.bits .i64)))) !=0) (K (al 40) f) (K (al 0) f)) (aQ .i64 (rd f (a.add 1)) λa=>aK (a==7) (aK ((Int.fdiv (ax b) (2^(min (c.toNat) (IntKind.bits .i64)))) !=0) (K (al 40) f) (K (al 0) f)) (K (al 0) f))) (K (al 0) f)))) (aQ .i64 (rd f (a.add 0)) λg=>aK (g==3) (aQ .i64 (rd f (a.add 1)) λg=>aK (g==8) (aK ((ax e)>=d) (K (al 40) f) (aQ .i64 (rd f (a.add 0)) λd=>aK (d==3) (aQ .i64 (rd f (a.add 1)) λd=>aK (d==6) (aK ((Int.fdiv (ax b) (2^(min (c.toNat) (IntKind.bits .i64)))) !=0) (K (al 40) f) (K (al 0) f)) (aQ .i64 (rd f (a.add 1)) λa=>aK (a==7) (aK ((Int.fdiv (ax b) (2^(min (c.toNat) (IntKind.bits .i64)))) !=0) (K (al 40) f) (K (al 0) f)) (K (al 0) f))) (K (al 0) f))) (aQ .i64 (rd f (a.add 0)) λd=>aK (d==3) (aQ .i64 (rd f (a.add 1)) λd=>aK (d==6) (aK ((Int.fdiv (ax b) (2^(min (c.toNat) (IntKind.bits .i64)))) !=0) (K (al 40) f) (K (al 0) f)) (aQ .i64 (rd f (a.add 1)) λa=>aK (a==7) (aK ((Int.fdiv (ax b) (2^(min (c.toNat) (IntKind.bits .i64)))) !=0) (K (al 40) f) (K (al 0) f)) (K (al 0) f))) (K (al 0) f))) (aQ .i64 (rd f (a.add 0)) λd=>aK (d==3) (aQ .i64 (rd f (a.add 1)) λd=>aK (d==6) (aK ((Int.fdiv (ax b) (2^(min (c.toNat) (IntKind.bits .i64)))) !=0) (K (al 40) f) (K (al 0) f)) (aQ .i64 (rd f (a.add 1)) λa=>aK (a==7) (aK ((Int.fdiv (ax b) (2^(min (c.toNat) (IntKind.bits .i64)))) !=0) (K (al 40) f) (K (al 0) f)) (K (al 0) f))) (K (al 0) f))))
def F77.wL6:Prop:=Lp Tryz.f77 F77.T [1,1,1,0,1,0] n [(0,(au i)),(1,(au j)),(5,(au a)),(28,(.slice c b f)),(29,(al g)),(30,(al d))] h K
def F77.sL6:F77.wL6 (n+1) i j a c b f g d h K=(aK (d<g) (bf c λe=>0<=d/\d<(b:Int)/\aQ .i64 (rd h (e.add (d.toNat*1))) λe=>Cl 82 [al e] h λk l=>bI (some k) λk=>aK (!k) (K (al 221) l) ((0<=e/\e<6/\bI (rd l (((j.add 0).add (e.toNat*2)).add 0)) λe=>aK (!e) (K (al 221) l) (F77.wL6 n i j a c b f g (ax (d+1)) l K)))) (F77.wk11 i a h K)):=by kernel_rfl
def F77.wk6:Prop:=(∃e,F77.wL6 e i j a c b f g d h K)
def F77.spec(H:a9 h (.cells #[al l,al o,al q,al r,al s,al t,.int .u8 u] 41) λa b=>aQ .i64 (rd b ((aw a).add 0)) λc=>aK (c<1) (K (al 222) b) (aQ .i64 (rd b ((aw a).add 0)) λc=>aK (c>8) (K (al 222) b) (aQ .i64 (rd b ((aw a).add 0)) λc=>aQ .i64 (rd b ((aw a).add 1)) λd=>aQ .i64 (rd b ((aw a).add 2)) λe=>aQ .i64 (rd b ((aw a).add 3)) λf=>aQ .i64 (rd b ((aw a).add 4)) λg=>aQ .i64 (rd b ((aw a).add 5)) λk=>aQ .u8 (rd b ((aw a).add 6)) λl=>Cl 120 [.agg #[al c,al d,al e,al f,al g,al k,.int .u8 l]] b λb c=>bI (some b) λb=>aK b (aQ .i64 (rd c ((aw a).add 2)) λb=>Cl 82 [al b] c λb c=>bI (some b) λb=>aK (!b) (K (al 221) c) (aQ .i64 (rd c ((aw a).add 0)) λb=>aQ .i64 (rd c ((aw a).add 1)) λd=>aQ .i64 (rd c ((aw a).add 2)) λe=>aQ .i64 (rd c ((aw a).add 3)) λf=>aQ .i64 (rd c ((aw a).add 4)) λg=>aQ .i64 (rd c ((aw a).add 5)) λk=>aQ .u8 (rd c ((aw a).add 6)) λl=>Cl 121 [.agg #[al b,al d,al e,al f,al g,al k,.int .u8 l]] c λb c=>cv (some b) λb d e=>F77.wk6 i j (aw a) b d e (d:Int) 0 c K)) (aQ .i64 (rd c ((aw a).add 0)) λb=>aQ .i64 (rd c ((aw a).add 1)) λd=>aQ .i64 (rd c ((aw a).add 2)) λe=>aQ .i64 (rd c ((aw a).add 3)) λf=>aQ .i64 (rd c ((aw a).add 4)) λg=>aQ .i64 (rd c ((aw a).add 5)) λk=>aQ .u8 (rd c ((aw a).add 6)) λl=>Cl 121 [.agg #[al b,al d,al e,al f,al g,al k,.int .u8 l]] c λb c=>cv (some b) λb d e=>F77.wk6 i j (aw a) b d e (d:Int) 0 c K)))):Cl 77 [au i,au j,.agg #[al l,al o,al q,al r,al s,al t,.int .u8 u]] h K:=cT F77.T Tryz.func77 H
end
def F78.T:bj:=⟨[(2,[8,9])],[]⟩
section
variable (n:Nat)(c:Addr)(b:List Value)(a:Int)(h:aH)(K:KK)
def F78.wL2:Prop:=Lp Tryz.f78 F78.T [1,0,1,0] n [(8,(.agg (List.toArray b))),(9,(al a))] h K
def F78.sL2:F78.wL2 (n+1) b a h K=(aK (a<4) ((0<=a/\a<4/\bI (b[a.toNat*24+0]?) λc=>aQ .u32 (b[a.toNat*24+1]?) λd=>bI (b[a.toNat*24+2]?) λe=>aQ .u32 (b[a.toNat*24+3]?) λf=>bI (b[a.toNat*24+4]?) λg=>aQ .u32 (b[a.toNat*24+5]?) λi=>bI (b[a.toNat*24+6]?) λj=>aQ .u32 (b[a.toNat*24+7]?) λk=>bI (b[a.toNat*24+8]?) λl=>aQ .u32 (b[a.toNat*24+9]?) λm=>bI (b[a.toNat*24+10]?) λo=>aQ .u32 (b[a.toNat*24+11]?) λp=>aQ .i64 (b[a.toNat*24+12]?) λq=>aQ .i64 (b[a.toNat*24+13]?) λr=>aQ .i64 (b[a.toNat*24+14]?) λs=>aQ .i64 (b[a.toNat*24+15]?) λt=>aQ .i64 (b[a.toNat*24+16]?) λu=>aQ .i64 (b[a.toNat*24+17]?) λv=>aQ .u8 (b[a.toNat*24+18]?) λw=>bI (b[a.toNat*24+19]?) λx=>aQ .i64 (b[a.toNat*24+20]?) λy=>aQ .i64 (b[a.toNat*24+21]?) λz=>aQ .u64 (b[a.toNat*24+22]?) λA=>bI (b[a.toNat*24+23]?) λB=>a9 h (.cells #[aB,ap 0,aB,ap 0,aB,ap 0,aB,ap 0,aB,ap 0,aB,ap 0,al 0,al 0,al 0,al 0,al 0,al 0,.int .u8 0,aB,al 0,al 0,aq 0,aB] 129) λC D=>aW D ((aw C).add 0) (aD c) λc=>aW c ((aw C).add 1) (ap d) λc=>aW c ((aw C).add 2) (aD e) λc=>aW c ((aw C).add 3) (ap f) λc=>aW c ((aw C).add 4) (aD g) λc=>aW c ((aw C).add 5) (ap i) λc=>aW c ((aw C).add 6) (aD j) λc=>aW c ((aw C).add 7) (ap k) λc=>aW c ((aw C).add 8) (aD l) λc=>aW c ((aw C).add 9) (ap m) λc=>aW c ((aw C).add 10) (aD o) λc=>aW c ((aw C).add 11) (ap p) λc=>aW c ((aw C).add 12) (al q) λc=>aW c ((aw C).add 13) (al r) λc=>aW c ((aw C).add 14) (al s) λc=>aW c ((aw C).add 15) (al t) λc=>aW c ((aw C).add 16) (al u) λc=>aW c ((aw C).add 17) (al v) λc=>aW c ((aw C).add 18) (.int .u8 w) λc=>aW c ((aw C).add 19) (aD x) λc=>aW c ((aw C).add 20) (al y) λc=>aW c ((aw C).add 21) (al z) λc=>aW c ((aw C).add 22) (aq A) λc=>aW c ((aw C).add 23) (aD B) λc=>bI (rd c ((aw C).add 19)) λd=>aK d (K aC c) (F78.wL2 n b (ax (a+1)) c K))) (K aB h)):=by kernel_rfl
def F78.wk2:Prop:=(∃c,F78.wL2 c b a h K)
def F78.spec(H:GB h (c.add 3) 96 λa=>F78.wk2 a 0 h K):Cl 78 [au c] h K:=cT F78.T Tryz.func78 H
end
def F79.spec(H:a9 h (.cells #[al i,al j,al k,al l,al m,al n,.int .u8 o] 41) λb c=>aQ .i64 (rd c ((aw b).add 0)) λb=>aK (b==1) (aK (b==1) (K (.func (.func 123) #[au a] #[]) c) (aK (b==4) (aK (b==4) (K (.func (.func 124) #[au a] #[]) c) (aK (b==7) (K (.func (.func 125) #[au a] #[]) c) (aK (b==8) (K (.func (.func 126) #[au a] #[]) c) (K (.func (.func 127) #[au a] #[]) c)))) (aK (b==5) (K (.func (.func 124) #[au a] #[]) c) (aK (b==7) (K (.func (.func 125) #[au a] #[]) c) (aK (b==8) (K (.func (.func 126) #[au a] #[]) c) (K (.func (.func 127) #[au a] #[]) c)))))) (aK (b==2) (aK (b==2) (K (.func (.func 123) #[au a] #[]) c) (aK (b==4) (aK (b==4) (K (.func (.func 124) #[au a] #[]) c) (aK (b==7) (K (.func (.func 125) #[au a] #[]) c) (aK (b==8) (K (.func (.func 126) #[au a] #[]) c) (K (.func (.func 127) #[au a] #[]) c)))) (aK (b==5) (K (.func (.func 124) #[au a] #[]) c) (aK (b==7) (K (.func (.func 125) #[au a] #[]) c) (aK (b==8) (K (.func (.func 126) #[au a] #[]) c) (K (.func (.func 127) #[au a] #[]) c)))))) (aK (b==6) (K (.func (.func 123) #[au a] #[]) c) (aK (b==4) (aK (b==4) (K (.func (.func 124) #[au a] #[]) c) (aK (b==7) (K (.func (.func 125) #[au a] #[]) c) (aK (b==8) (K (.func (.func 126) #[au a] #[]) c) (K (.func (.func 127) #[au a] #[]) c)))) (aK (b==5) (K (.func (.func 124) #[au a] #[]) c) (aK (b==7) (K (.func (.func 125) #[au a] #[]) c) (aK (b==8) (K (.func (.func 126) #[au a] #[]) c) (K (.func (.func 127) #[au a] #[]) c)))))))):Cl 79 [au a,.agg #[al i,al j,al k,al l,al m,al n,.int .u8 o]] h K:=cN Tryz.func79 H
def F80.T:bj:=⟨[],[(0,[[(0,[]),(1,[]),(2,[]),(3,[]),(5,[]),(6,[]),(7,[]),(8,[]),(4,[5,6,7,8]),(9,[]),(10,[])]])]⟩
def F80.spec(H:ba (rd h (a.add 0)) λb=>ba (rd h (a.add 0)) λc=>Cl 45 [aA b] h λb d=>aQ .i64 (some b) λb=>aF (au a)/\aF (au a)/\aF (au (a.add 0))/\ba (rd d (a.add 0)) λe=>aG (aA e) (aA c)/\Cl 70 [aA c] d λc d=>aQ .i64 (some c) λc=>aK (b>=c) (Cl 128 [au a] d λa b=>a=aE/\K aE b) (K aE d)):Cl 80 [au a] h K:=cT F80.T Tryz.func80 H
def F82.spec(H:aK (i>=0) (K (aD (i<6)) h) (K aB h)):Cl 82 [al i] h K:=cN Tryz.func82 H
def F120.spec(H:a9 h (.cells #[al i,al j,al k,al l,al m,al n,.int .u8 o] 41) λa b=>aQ .i64 (rd b ((aw a).add 0)) λc=>aK (c>=1) (aQ .i64 (rd b ((aw a).add 0)) λc=>aK (c<=3) (K aC b) (aQ .i64 (rd b ((aw a).add 0)) λa=>K (aD (a==6)) b)) (aQ .i64 (rd b ((aw a).add 0)) λa=>K (aD (a==6)) b)):Cl 120 [.agg #[al i,al j,al k,al l,al m,al n,.int .u8 o]] h K:=cN Tryz.func120 H
def F121.T:bj:=⟨[],[(7,[[(0,[]),(1,[]),(2,[]),(3,[]),(4,[]),(5,[]),(7,[]),(8,[]),(6,[7,8]),(9,[0,1,2,3,4,5]),(10,[]),(11,[])],[(0,[]),(1,[]),(2,[]),(3,[]),(4,[]),(5,[]),(7,[]),(8,[]),(9,[0,1,2,3,4,5]),(6,[7,8]),(10,[]),(11,[])]])]⟩
def F121.spec(H:a9 h (.cells #[al i,al j,al k,al l,al m,al n,.int .u8 o] 41) λa b=>aQ .i64 (rd b ((aw a).add 0)) λc=>aK (c==4) (aQ .i64 (rd b ((aw a).add 3)) λa=>a9 b (.cells #[al a] 3) λa b=>K (.slice (some (aw a)) 1 1) b) (aK (c==5) (aQ .i64 (rd b ((aw a).add 3)) λc=>aQ .i64 (rd b ((aw a).add 4)) λa=>a9 b (.cells #[al c,al a] 3) λa b=>K (.slice (some (aw a)) 2 2) b) (aK (c==3) ((aQ .i64 (rd b ((aw a).add 3)) (λc=>aQ .i64 (rd b ((aw a).add 4)) λd=>aQ .i64 (rd b ((aw a).add 5)) λe=>aQ .i64 (rd b ((aw a).add 1)) λf=>a9 b (.cells #[al c,al d,al e] 3) λb g=>aF (au ((aw a).add 1))/\aQ .i64 (rd g ((aw a).add 1)) λi=>aG (al i) (al f)/\Cl 122 [al f] g λf g=>aQ .i64 (some f) λf=>aF (au ((aw a).add 3))/\aQ .i64 (rd g ((aw a).add 3)) λi=>aG (al i) (al c)/\aF (au ((aw a).add 4))/\aQ .i64 (rd g ((aw a).add 4)) λc=>aG (al c) (al d)/\aF (au ((aw a).add 5))/\aQ .i64 (rd g ((aw a).add 5)) λa=>aG (al a) (al e)/\0<=f/\f<=3/\K (.slice (if 3=0 then(some (aw b))else Option.map (λa=>Addr.add a (0*1)) (some (aw b))) (f.toNat-0) (3-0)) g)/\aQ .i64 (rd b ((aw a).add 3)) λc=>aQ .i64 (rd b ((aw a).add 4)) λd=>aQ .i64 (rd b ((aw a).add 5)) λe=>aQ .i64 (rd b ((aw a).add 1)) λf=>Cl 122 [al f] b λb g=>aQ .i64 (some b) λb=>aF (au ((aw a).add 3))/\aQ .i64 (rd g ((aw a).add 3)) λi=>aG (al i) (al c)/\aF (au ((aw a).add 4))/\aQ .i64 (rd g ((aw a).add 4)) λi=>aG (al i) (al d)/\aF (au ((aw a).add 5))/\aQ .i64 (rd g ((aw a).add 5)) λi=>aG (al i) (al e)/\a9 g (.cells #[al c,al d,al e] 3) λc d=>aF (au ((aw a).add 1))/\aQ .i64 (rd d ((aw a).add 1)) λa=>aG (al a) (al f)/\0<=b/\b<=3/\K (.slice (if 3=0 then(some (aw c))else Option.map (λa=>Addr.add a (0*1)) (some (aw c))) (b.toNat-0) (3-0)) d)) (K (.slice none 0 0) b)))):Cl 121 [.agg #[al i,al j,al k,al l,al m,al n,.int .u8 o]] h K:=cT F121.T Tryz.func121 H
def F122.spec(H:aK (i==1) (aK (i==1) (K (al 1) h) (aK (i==2) (aK (i==2) (K (al 2) h) (aK (i==5) (K (al 3) h) (K (al 0) h))) (aK (i==3) (aK (i==3) (K (al 2) h) (aK (i==5) (K (al 3) h) (K (al 0) h))) (aK (i==4) (aK (i==4) (K (al 2) h) (aK (i==5) (K (al 3) h) (K (al 0) h))) (aK (i==8) (aK (i==8) (K (al 2) h) (aK (i==5) (K (al 3) h) (K (al 0) h))) (aK (i==9) (aK (i==9) (K (al 2) h) (aK (i==5) (K (al 3) h) (K (al 0) h))) (aK (i==10) (K (al 2) h) (aK (i==5) (K (al 3) h) (K (al 0) h))))))))) (aK (i==6) (aK (i==6) (K (al 1) h) (aK (i==2) (aK (i==2) (K (al 2) h) (aK (i==5) (K (al 3) h) (K (al 0) h))) (aK (i==3) (aK (i==3) (K (al 2) h) (aK (i==5) (K (al 3) h) (K (al 0) h))) (aK (i==4) (aK (i==4) (K (al 2) h) (aK (i==5) (K (al 3) h) (K (al 0) h))) (aK (i==8) (aK (i==8) (K (al 2) h) (aK (i==5) (K (al 3) h) (K (al 0) h))) (aK (i==9) (aK (i==9) (K (al 2) h) (aK (i==5) (K (al 3) h) (K (al 0) h))) (aK (i==10) (K (al 2) h) (aK (i==5) (K (al 3) h) (K (al 0) h))))))))) (aK (i==7) (K (al 1) h) (aK (i==2) (aK (i==2) (K (al 2) h) (aK (i==5) (K (al 3) h) (K (al 0) h))) (aK (i==3) (aK (i==3) (K (al 2) h) (aK (i==5) (K (al 3) h) (K (al 0) h))) (aK (i==4) (aK (i==4) (K (al 2) h) (aK (i==5) (K (al 3) h) (K (al 0) h))) (aK (i==8) (aK (i==8) (K (al 2) h) (aK (i==5) (K (al 3) h) (K (al 0) h))) (aK (i==9) (aK (i==9) (K (al 2) h) (aK (i==5) (K (al 3) h) (K (al 0) h))) (aK (i==10) (K (al 2) h) (aK (i==5) (K (al 3) h) (K (al 0) h))))))))))):Cl 122 [al i] h K:=cN Tryz.func122 H
def F123.T:bj:=⟨[(8,[0,1,5])],[]⟩
section
variable (b a:Addr)(c:Int)(h:aH)(K:KK)
def F123.wk8:Prop:=Cl 168 [au b,au a,.agg #[al c,aq 0]] h λa b=>a=aE/\K aC b
end
def F123.spec(H:aQ .i64 (rd h ((b.add 12).add 0)) λc=>aK (c==1) (Cl 165 [au a,au b] h λc d=>aQ .i64 (some c) λc=>F123.wk8 a b c d K) (aK (c==6) (Cl 166 [au a,au b] h λc d=>c=aE/\F123.wk8 a b 0 d K) (aQ .u8 (rd h ((b.add 12).add 6)) λc=>Cl 167 [au a,au b,ap (IntKind.wrap .u32 (if 1<c then 1 else c))] h λc d=>c=aE/\F123.wk8 a b 0 d K))):Cl 123 [au a,au b] h K:=cT F123.T Tryz.func123 H
def F125.spec(H:Cl 128 [au a] h λc d=>c=aE/\Cl 168 [au a,au b,.agg #[al 0,aq 0]] d λa b=>a=aE/\K aC b):Cl 125 [au a,au b] h K:=cN Tryz.func125 H
def F126.spec(H:Cl 170 [au a] h λc d=>bI (some c) λc=>aK c (K aB d) (Cl 171 [au a] d λc d=>c=aE/\Cl 168 [au a,au b,.agg #[al 0,aq 0]] d λa b=>a=aE/\K aC b)):Cl 126 [au a,au b] h K:=cN Tryz.func126 H
def F127.T:bj:=⟨[(8,[0,1,6])],[(3,[[(0,[]),(1,[]),(2,[]),(3,[]),(4,[]),(5,[]),(6,[]),(7,[]),(8,[]),(9,[]),(10,[]),(11,[]),(12,[]),(13,[])]]),(8,[[(0,[]),(1,[]),(2,[]),(3,[]),(4,[]),(5,[]),(6,[]),(7,[]),(8,[])]])]⟩
section
variable (b a:Addr)(c:Int)(h:aH)(K:KK)
def F127.wk8:Prop:=ba (rd h (b.add 1)) λd=>aQ .i64 (rd h (a.add 20)) λe=>Cl 36 [aA d,al e] h λd e=>bI (some d) λ_=>Cl 168 [au b,au a,.agg #[al c,aq 0]] e λa b=>a=aE/\K aC b
end
def F127.spec(H:aQ .i64 (rd h (b.add 20)) λc=>aK (c==0) (Cl 172 [au a,au b] h λa b=>bI (some a) λa=>K (aD a) b) (ba (rd h (a.add 1)) λc=>aQ .i64 (rd h (b.add 20)) λd=>Cl 38 [aA c,al d] h λc d=> ∃e:Int,∃f:Int,c=(.tuple #[ap e,al f])/\aK (f==61) (K aB d) (aK (f==0) (Cl 167 [au a,au b,ap e] d λc d=>c=aE/\F127.wk8 a b f d K) (F127.wk8 a b f d K)))):Cl 127 [au a,au b] h K:=cT F127.T Tryz.func127 H
def F128.T:bj:=⟨[(2,[0,2,10,11,12]),(6,[0,2]),(8,[0,33,34])],[(6,[[(0,[]),(1,[]),(2,[]),(3,[]),(4,[]),(5,[]),(6,[]),(7,[]),(8,[])]])]⟩
section
variable (n:Nat)(a:Addr)(j:az)(f i:Nat)(c:az)(b g:Nat)(l d o q:Int)(h:aH)(K:KK)
def F128.wL8:Prop:=Lp Tryz.f128 F128.T [1,1,1,1,0] n [(0,(au a)),(33,(al o)),(34,(al q))] h K
def F128.sL8:F128.wL8 (n+1) a o q h K=(aK (q<o) (ba (rd h (a.add 2)) λb=>Cl 176 [aA b,al 0] h λb c=> ∃d:Int,∃e:Bool,b=(.tuple #[ap d,aD e])/\F128.wL8 n a o (ax (q+1)) c K) (K aE h)):=by kernel_rfl
def F128.wk8:Prop:=(∃b,F128.wL8 b a o q h K)
def F128.wk6(a:Addr)(j:az)(f i:Nat)(h:aH)(K:KK):Prop:=ba (rd h (a.add 0)) λb=>ba (rd h (a.add 2)) λc=>Cl 175 [aA b,aA c] h λb c=> ∃d:Int,∃e:Int,b=(.tuple #[al d,al e])/\F128.wk8 a (f:Int) 0 c K
def F128.wL2:Prop:=Lp Tryz.f128 F128.T [1,0,1,0] n [(0,(au a)),(2,(.slice j f i)),(10,(.slice c b g)),(11,(al l)),(12,(al d))] h K
def F128.sL2:F128.wL2 (n+1) a j f i c b g l d h K=(aK (d<l) (bf c λe=>0<=d/\d<(b:Int)/\aQ .u32 (rd h (e.add (d.toNat*1))) λe=>ba (rd h (a.add 2)) λk=>Cl 174 [aA k,al 0,ap e] h λe k=>bI (some e) λ_=>F128.wL2 n a j f i c b g l (ax (d+1)) k K) (F128.wk6 a j f i h K)):=by kernel_rfl
def F128.wk2:Prop:=(∃e,F128.wL2 e a j f i c b g l d h K)
def F128.spec(H:ba (rd h (a.add 1)) λb=>Cl 173 [aA b] h λb c=>cv (some b) λb d e=>F128.wk2 a b d e b d e (d:Int) 0 c K):Cl 128 [au a] h K:=cT F128.T Tryz.func128 H
end
def F165.T:bj:=⟨[],[(2,[[(0,[]),(1,[]),(2,[]),(3,[]),(4,[]),(5,[]),(6,[]),(7,[]),(8,[]),(9,[]),(10,[]),(11,[]),(12,[]),(13,[]),(14,[]),(15,[])]])]⟩
def F165.spec(H:Cl 80 [au a] h λc d=>c=aE/\ba (rd d (a.add 0)) λc=>aQ .u8 (rd d ((b.add 12).add 6)) λe=>Cl 208 [aA c,al (ax e)] d λc d=> ∃e:Int,∃f:Int,c=(.tuple #[ap e,al f])/\aK (f==0) (Cl 167 [au a,au b,ap e] d λa b=>a=aE/\K (al f) b) (K (al f) d)):Cl 165 [au a,au b] h K:=cT F165.T Tryz.func165 H
def F166.T:bj:=⟨[(3,[1])],[(0,[[(0,[]),(1,[]),(2,[]),(3,[]),(4,[]),(5,[]),(6,[]),(7,[]),(8,[]),(9,[]),(10,[0,1,2,3,4,5,6,7,8,9]),(11,[])]]),(2,[[(0,[]),(1,[]),(2,[]),(3,[]),(4,[]),(5,[]),(6,[])]]),(3,[[(0,[]),(1,[]),(2,[]),(3,[]),(4,[]),(5,[]),(6,[]),(7,[]),(8,[]),(9,[]),(10,[])]])]⟩
section
variable (a:Addr)(h:aH)(K:KK)
def F166.wk3:Prop:=aQ .i64 (rd h ((a.add 12).add 2)) λb=>0<=b/\b<6/\aW h (((a.add 0).add (b.toNat*2)).add 0) aB λc=>aW c (((a.add 0).add (b.toNat*2)).add 1) (ap 0) λa=>K aE a
end
def F166.spec(H:aQ .i64 (rd h ((b.add 12).add 2)) λc=>0<=c/\c<6/\bI (rd h (((b.add 0).add (c.toNat*2)).add 0)) λd=>aQ .u32 (rd h (((b.add 0).add (c.toNat*2)).add 1)) λe=>a9 h (.cells #[aB,ap 0] 126) λf g=>aF (au b)/\aF (au b)/\aF (au b)/\aF (au (b.add 12))/\aF (au ((b.add 12).add 2))/\aQ .i64 (rd g ((b.add 12).add 2)) λi=>aG (al i) (al c)/\aF (au b)/\aF (au (b.add 0))/\0<=c/\c<6/\aF (au ((b.add 0).add (c.toNat*2)))/\bI (rd g (((b.add 0).add (c.toNat*2)).add 0)) λi=>aQ .u32 (rd g (((b.add 0).add (c.toNat*2)).add 1)) λc=>aG (.agg #[aD i,ap c]) (.agg #[aD d,ap e])/\aW g ((aw f).add 0) (aD d) λc=>aW c ((aw f).add 1) (ap e) λc=>bI (rd c ((aw f).add 0)) λd=>aK d (ba (rd c (a.add 2)) λa=>aQ .u32 (rd c ((aw f).add 1)) λd=>Cl 209 [aA a,ap d] c λa c=>aQ .i64 (some a) λ_=>F166.wk3 b c K) (F166.wk3 b c K)):Cl 166 [au a,au b] h K:=cT F166.T Tryz.func166 H
def F167.T:bj:=⟨[],[(1,[[(0,[]),(1,[]),(2,[]),(3,[]),(4,[]),(5,[]),(6,[]),(7,[]),(8,[]),(9,[]),(10,[]),(11,[])]])]⟩
def F167.spec(H:Cl 166 [au a,au b] h λc d=>c=aE/\aQ .i64 (rd d ((b.add 12).add 2)) λc=>0<=c/\c<6/\aW d (((b.add 0).add (c.toNat*2)).add 0) aC λd=>aW d (((b.add 0).add (c.toNat*2)).add 1) (ap i) λb=>ba (rd b (a.add 2)) λa=>Cl 210 [aA a,ap i] b λa b=>a=aE/\K aE b):Cl 167 [au a,au b,ap i] h K:=cT F167.T Tryz.func167 H
def F168.spec(H:a9 h (.cells #[al i,aq j] 76) λc d=>aQ .i64 (rd d ((aw c).add 0)) λe=>aQ .u64 (rd d ((aw c).add 1)) λc=>aW d ((b.add 21).add 0) (al e) λd=>aW d ((b.add 21).add 1) (aq c) λc=>aW c ((b.add 23).add 0) aC λc=>aW c ((b.add 19).add 0) aB λb=>aQ .i64 (rd b (a.add 99)) λc=>aW b ((a.add 99).add 0) (al (ax (c+1))) λa=>K aE a):Cl 168 [au a,au b,.agg #[al i,aq j]] h K:=cN Tryz.func168 H
def F170.T:bj:=⟨[(2,[8,9])],[]⟩
section
variable (n:Nat)(c:Addr)(b:List Value)(a:Int)(h:aH)(K:KK)
def F170.wL2:Prop:=Lp Tryz.f170 F170.T [1,0,1,0] n [(8,(.agg (List.toArray b))),(9,(al a))] h K
def F170.sL2:F170.wL2 (n+1) b a h K=(aK (a<4) ((0<=a/\a<4/\bI (b[a.toNat*24+0]?) λc=>aQ .u32 (b[a.toNat*24+1]?) λd=>bI (b[a.toNat*24+2]?) λe=>aQ .u32 (b[a.toNat*24+3]?) λf=>bI (b[a.toNat*24+4]?) λg=>aQ .u32 (b[a.toNat*24+5]?) λi=>bI (b[a.toNat*24+6]?) λj=>aQ .u32 (b[a.toNat*24+7]?) λk=>bI (b[a.toNat*24+8]?) λl=>aQ .u32 (b[a.toNat*24+9]?) λm=>bI (b[a.toNat*24+10]?) λo=>aQ .u32 (b[a.toNat*24+11]?) λp=>aQ .i64 (b[a.toNat*24+12]?) λq=>aQ .i64 (b[a.toNat*24+13]?) λr=>aQ .i64 (b[a.toNat*24+14]?) λs=>aQ .i64 (b[a.toNat*24+15]?) λt=>aQ .i64 (b[a.toNat*24+16]?) λu=>aQ .i64 (b[a.toNat*24+17]?) λv=>aQ .u8 (b[a.toNat*24+18]?) λw=>bI (b[a.toNat*24+19]?) λx=>aQ .i64 (b[a.toNat*24+20]?) λy=>aQ .i64 (b[a.toNat*24+21]?) λz=>aQ .u64 (b[a.toNat*24+22]?) λA=>bI (b[a.toNat*24+23]?) λB=>a9 h (.cells #[aB,ap 0,aB,ap 0,aB,ap 0,aB,ap 0,aB,ap 0,aB,ap 0,al 0,al 0,al 0,al 0,al 0,al 0,.int .u8 0,aB,al 0,al 0,aq 0,aB] 129) λC D=>aW D ((aw C).add 0) (aD c) λc=>aW c ((aw C).add 1) (ap d) λc=>aW c ((aw C).add 2) (aD e) λc=>aW c ((aw C).add 3) (ap f) λc=>aW c ((aw C).add 4) (aD g) λc=>aW c ((aw C).add 5) (ap i) λc=>aW c ((aw C).add 6) (aD j) λc=>aW c ((aw C).add 7) (ap k) λc=>aW c ((aw C).add 8) (aD l) λc=>aW c ((aw C).add 9) (ap m) λc=>aW c ((aw C).add 10) (aD o) λc=>aW c ((aw C).add 11) (ap p) λc=>aW c ((aw C).add 12) (al q) λc=>aW c ((aw C).add 13) (al r) λc=>aW c ((aw C).add 14) (al s) λc=>aW c ((aw C).add 15) (al t) λc=>aW c ((aw C).add 16) (al u) λc=>aW c ((aw C).add 17) (al v) λc=>aW c ((aw C).add 18) (.int .u8 w) λc=>aW c ((aw C).add 19) (aD x) λc=>aW c ((aw C).add 20) (al y) λc=>aW c ((aw C).add 21) (al z) λc=>aW c ((aw C).add 22) (aq A) λc=>aW c ((aw C).add 23) (aD B) λc=>bI (rd c ((aw C).add 19)) λd=>aK d (aQ .i64 (rd c ((aw C).add 20)) λd=>aK (d>0) (K aC c) (F170.wL2 n b (ax (a+1)) c K)) (F170.wL2 n b (ax (a+1)) c K))) (K aB h)):=by kernel_rfl
def F170.wk2:Prop:=(∃c,F170.wL2 c b a h K)
def F170.spec(H:GB h (c.add 3) 96 λa=>F170.wk2 a 0 h K):Cl 170 [au c] h K:=cT F170.T Tryz.func170 H
end
def F171.T:bj:=⟨[],[(0,[[(0,[]),(1,[]),(2,[]),(3,[]),(4,[]),(5,[]),(6,[]),(7,[]),(8,[0,1,2,3]),(9,[])]])]⟩
def F171.spec(H:ba (rd h (a.add 0)) λb=>ba (rd h (a.add 2)) λc=>Cl 213 [aA c] h λc d=>cv (some c) λc e f=>aF (au a)/\aF (au a)/\aF (au (a.add 0))/\ba (rd d (a.add 0)) λa=>aG (aA a) (aA b)/\Cl 212 [aA b,.slice c e f] d λa b=> ∃c:Int,∃d:Int,∃e:Int,a=(.tuple #[al c,al d,al e])/\K aE b):Cl 171 [au a] h K:=cT F171.T Tryz.func171 H
def F172.T:bj:=⟨[(6,[0,1,5,6,18,19,20]),(10,[0,1,5,6])],[(10,[[(0,[]),(1,[]),(2,[]),(3,[]),(4,[]),(5,[]),(6,[]),(7,[]),(8,[]),(9,[]),(10,[]),(11,[]),(12,[]),(13,[]),(14,[]),(15,[]),(16,[]),(17,[]),(18,[]),(19,[]),(20,[])]])]⟩
section
variable (n:Nat)(i b l j:Addr)(d:az)(c f:Nat)(g a:Int)(h:aH)(K:KK)
def F172.wk10:Prop:=ba (rd h (i.add 1)) λa=>aQ .i64 (rd h (l.add 1)) λc=>0<=(0:Int)/\(0:Int)<(3:Int)/\aQ .u32 (rd h (j.add ((0:Int).toNat*1))) λd=>0<=(1:Int)/\(1:Int)<(3:Int)/\aQ .u32 (rd h (j.add ((1:Int).toNat*1))) λe=>0<=(2:Int)/\(2:Int)<(3:Int)/\aQ .u32 (rd h (j.add ((2:Int).toNat*1))) λf=>aQ .u8 (rd h (l.add 6)) λg=>Cl 35 [aA a,.agg #[al c,ap d,ap e,ap f,.int .u8 g]] h λa c=> ∃d:Int,∃e:Int,a=(.tuple #[al d,al e])/\aK (e !=0) (Cl 168 [au i,au b,.agg #[al e,aq 0]] c λa b=>a=aE/\K aC b) (aW c ((b.add 20).add 0) (al d) λa=>K aB a)
def F172.wL6:Prop:=Lp Tryz.f172 F172.T [1,1,1,1,0,1,0] n [(0,(au i)),(1,(au b)),(5,(au l)),(6,(au j)),(18,(.slice d c f)),(19,(al g)),(20,(al a))] h K
def F172.sL6:F172.wL6 (n+1) i b l j d c f g a h K=(aK (a<g) (bf d λe=>0<=a/\a<(c:Int)/\aQ .i64 (rd h (e.add (a.toNat*1))) λe=>0<=e/\e<6/\aQ .u32 (rd h (((b.add 0).add (e.toNat*2)).add 1)) λe=>0<=a/\a<3/\aW h ((j.add (a.toNat*1)).add 0) (ap e) λe=>F172.wL6 n i b l j d c f g (ax (a+1)) e K) (F172.wk10 i b l j h K)):=by kernel_rfl
def F172.wk6:Prop:=(∃e,F172.wL6 e i b l j d c f g a h K)
def F172.spec(H:Cl 214 [au i] h λa c=>bI (some a) λa=>aK a (K aB c) (aQ .i64 (rd c ((b.add 12).add 0)) λa=>aQ .i64 (rd c ((b.add 12).add 1)) λd=>aQ .i64 (rd c ((b.add 12).add 2)) λe=>aQ .i64 (rd c ((b.add 12).add 3)) λf=>aQ .i64 (rd c ((b.add 12).add 4)) λg=>aQ .i64 (rd c ((b.add 12).add 5)) λj=>aQ .u8 (rd c ((b.add 12).add 6)) λk=>a9 c (.cells #[al 0,al 0,al 0,al 0,al 0,al 0,.int .u8 0] 41) λc l=>aW l ((aw c).add 0) (al a) λa=>aW a ((aw c).add 1) (al d) λa=>aW a ((aw c).add 2) (al e) λa=>aW a ((aw c).add 3) (al f) λa=>aW a ((aw c).add 4) (al g) λa=>aW a ((aw c).add 5) (al j) λa=>aW a ((aw c).add 6) (.int .u8 k) λa=>a9 a (.cells #[ap 0,ap 0,ap 0] 115) λa d=>aQ .i64 (rd d ((aw c).add 0)) λe=>aQ .i64 (rd d ((aw c).add 1)) λf=>aQ .i64 (rd d ((aw c).add 2)) λg=>aQ .i64 (rd d ((aw c).add 3)) λj=>aQ .i64 (rd d ((aw c).add 4)) λk=>aQ .i64 (rd d ((aw c).add 5)) λl=>aQ .u8 (rd d ((aw c).add 6)) λm=>Cl 121 [.agg #[al e,al f,al g,al j,al k,al l,.int .u8 m]] d λd e=>cv (some d) λd f g=>F172.wk6 i b (aw c) (aw a) d f g (f:Int) 0 e K)):Cl 172 [au i,au b] h K:=cT F172.T Tryz.func172 H
end
def F214.T:bj:=⟨[(2,[8,9])],[]⟩
section
variable (n:Nat)(c:Addr)(b:List Value)(a:Int)(h:aH)(K:KK)
def F214.wL2:Prop:=Lp Tryz.f214 F214.T [1,0,1,0] n [(8,(.agg (List.toArray b))),(9,(al a))] h K
def F214.sL2:F214.wL2 (n+1) b a h K=(aK (a<4) ((0<=a/\a<4/\bI (b[a.toNat*24+0]?) λc=>aQ .u32 (b[a.toNat*24+1]?) λd=>bI (b[a.toNat*24+2]?) λe=>aQ .u32 (b[a.toNat*24+3]?) λf=>bI (b[a.toNat*24+4]?) λg=>aQ .u32 (b[a.toNat*24+5]?) λi=>bI (b[a.toNat*24+6]?) λj=>aQ .u32 (b[a.toNat*24+7]?) λk=>bI (b[a.toNat*24+8]?) λl=>aQ .u32 (b[a.toNat*24+9]?) λm=>bI (b[a.toNat*24+10]?) λo=>aQ .u32 (b[a.toNat*24+11]?) λp=>aQ .i64 (b[a.toNat*24+12]?) λq=>aQ .i64 (b[a.toNat*24+13]?) λr=>aQ .i64 (b[a.toNat*24+14]?) λs=>aQ .i64 (b[a.toNat*24+15]?) λt=>aQ .i64 (b[a.toNat*24+16]?) λu=>aQ .i64 (b[a.toNat*24+17]?) λv=>aQ .u8 (b[a.toNat*24+18]?) λw=>bI (b[a.toNat*24+19]?) λx=>aQ .i64 (b[a.toNat*24+20]?) λy=>aQ .i64 (b[a.toNat*24+21]?) λz=>aQ .u64 (b[a.toNat*24+22]?) λA=>bI (b[a.toNat*24+23]?) λB=>a9 h (.cells #[aB,ap 0,aB,ap 0,aB,ap 0,aB,ap 0,aB,ap 0,aB,ap 0,al 0,al 0,al 0,al 0,al 0,al 0,.int .u8 0,aB,al 0,al 0,aq 0,aB] 129) λC D=>aW D ((aw C).add 0) (aD c) λc=>aW c ((aw C).add 1) (ap d) λc=>aW c ((aw C).add 2) (aD e) λc=>aW c ((aw C).add 3) (ap f) λc=>aW c ((aw C).add 4) (aD g) λc=>aW c ((aw C).add 5) (ap i) λc=>aW c ((aw C).add 6) (aD j) λc=>aW c ((aw C).add 7) (ap k) λc=>aW c ((aw C).add 8) (aD l) λc=>aW c ((aw C).add 9) (ap m) λc=>aW c ((aw C).add 10) (aD o) λc=>aW c ((aw C).add 11) (ap p) λc=>aW c ((aw C).add 12) (al q) λc=>aW c ((aw C).add 13) (al r) λc=>aW c ((aw C).add 14) (al s) λc=>aW c ((aw C).add 15) (al t) λc=>aW c ((aw C).add 16) (al u) λc=>aW c ((aw C).add 17) (al v) λc=>aW c ((aw C).add 18) (.int .u8 w) λc=>aW c ((aw C).add 19) (aD x) λc=>aW c ((aw C).add 20) (al y) λc=>aW c ((aw C).add 21) (al z) λc=>aW c ((aw C).add 22) (aq A) λc=>aW c ((aw C).add 23) (aD B) λc=>bI (rd c ((aw C).add 19)) λd=>aK d (aQ .i64 (rd c (((aw C).add 12).add 0)) λd=>aK (d==8) (K aC c) (F214.wL2 n b (ax (a+1)) c K)) (F214.wL2 n b (ax (a+1)) c K))) (K aB h)):=by kernel_rfl
def F214.wk2:Prop:=(∃c,F214.wL2 c b a h K)
def F214.spec(H:GB h (c.add 3) 96 λa=>F214.wk2 a 0 h K):Cl 214 [au c] h K:=cT F214.T Tryz.func214 H
end
end
section
def jR(c:kB):Value:= .agg #[al c.kind,al c.op,al c.dst,al c.a,al c.b,al c.c,.int .u8 (c.mask:Int)]
def iQ(x:Int):Prop:=0<=x/\x<6
instance (x:Int):Decidable (iQ x):=by unfold iQ;infer_instance
def vF(k:Int):Prop:=1<=k/\k<=3\/k=6
instance (x:Int):Decidable (vF x):=by unfold vF;infer_instance
def yH{k:Int}(h: ¬(1<=k/\k<=3)):(k==(6:Int))=decide (vF k):=by
 by_cases q:k=6
 ·subst q;rw[decide_eq_true (p:=vF 6) (.inr rfl)];rfl
 ·rw[decide_eq_false (p:=vF k) (λc=>by rcases c with c|c<;>omega)];exact kD q
def fX(c:kB):List Int:=if c.kind=4 then [c.a]else if c.kind=5 then [c.a,c.b]else if c.kind=3 then [c.a,c.b,c.c].take (cL c.op).toNat else []
section
variable {h:aH}{e:Nat}{E:fV}{K:KK}
def jF{i:Int}(hO:(i<0\/4<=i)->K (.pointer none) h)(hI: ∀k:Nat,k<4->i=(k:Int)->K (au ⟨e,3+24*k,none⟩) h):Cl 76 [bh e,al i] h K:=by refine F76.spec ?_;refine aT (λc=>hO (.inl (of_decide_eq_true c))) λc=>aT (λd=>hO (.inr (of_decide_eq_true d))) λd=> ?_;have c:=of_decide_eq_false c;have d:=of_decide_eq_false d;have d: ¬(4:Int)<=i:=d;refine⟨ah,ah,?_⟩;have:=hI i.toNat ah ah;simpa only[aL,Nat.zero_add,Nat.mul_comm 24]using this
def EO{x:Int}(hK:K (aD (decide (iQ x))) h):Cl 82 [al x] h K:=by
 refine F82.spec ?_;refine aT (λc=> ?_) λc=> ?_
 ·have c:(0:Int)<=x:=of_decide_eq_true c;rw[show decide (x<(6:Int))=decide (iQ x) by unfold iQ;simp[c]];exact hK
 ·have c: ¬(0:Int)<=x:=of_decide_eq_false c;rw[decide_eq_false (by unfold iQ;omega)]at hK;exact hK
def xj{c:kB}(hK: ∀h',aM [] h h'->K (aD (decide (vF c.kind))) h'):Cl 120 [jR c] h K:=by
 refine F120.spec ?_;refine aV λh1 A1 O1 z1=> ?_;simp only[aL,Nat.zero_add];have r:Ev.rd h1 (aw h.size)=some (al c.kind):=At.rd A1 0;have hK:=hK h1 O1;refine aI r (aT (λa=>aI r (aT (λb=> ?_) λb=>aI r ?_)) λa=>aI r ?_)
 ·rw[decide_eq_true (.inl ⟨of_decide_eq_true a,of_decide_eq_true b⟩)]at hK;exact hK
 ·have b:=of_decide_eq_false b;rw[yH ah];exact hK
 ·have a: ¬(1:Int)<=c.kind:=of_decide_eq_false a;rw[yH ah];exact hK
def o0{x:Int}(hK:K (al (cL x)) h):Cl 122 [al x] h K:=by
 refine F122.spec ?_;unfold cL at hK;by_cases h1:x=1
 ·subst h1;exact hK
 by_cases h2:x=2
 ·subst h2;exact hK
 by_cases h3:x=3
 ·subst h3;exact hK
 by_cases h4:x=4
 ·subst h4;exact hK
 by_cases h5:x=5
 ·subst h5;exact hK
 by_cases h6:x=6
 ·subst h6;exact hK
 by_cases h7:x=7
 ·subst h7;exact hK
 by_cases h8:x=8
 ·subst h8;exact hK
 by_cases h9:x=9
 ·subst h9;exact hK
 by_cases h10:x=10
 ·subst h10;exact hK
 rw[if_neg ah,if_neg ah,if_neg h5]at hK;simp only[kD h1,kD h2,kD h3,kD h4,kD h5,kD h6,kD h7,kD h8,kD h9,kD h10,aJ];exact hK
def oh(x:Int):0<=cL x/\cL x<=3:=by
 unfold cL
 repeat' split
 all_goals omega
def CR(h h':aH)(p:az)(l:Nat)(xs:List Int):Prop:=l=xs.length/\(xs=[]\/ ∃(b:Nat) (L:List Value),p=some (aw b)/\h.size<=b/\At h' b L/\ ∀(i:Nat) (x:Int),xs[i]? =some x->L[i]? =some (al x))
def sO{c:kB}(hK: ∀h' p l q,aM [] h h'->CR h h' p l (fX c)->K (.slice p l q) h'):Cl 121 [jR c] h K:=by
 refine F121.spec ?_;refine aV λh1 A1 O1 z1=> ?_;simp only[aL,Nat.zero_add];have r: ∀k,Ev.rd h1 ⟨h.size,k,none⟩=([al c.kind,al c.op,al c.dst,al c.a,al c.b,al c.c,.int .u8 (c.mask:Int)]:List Value)[k]? :=λk=>At.rd A1 k;refine aI (n:=c.kind) (by rw[r];rfl) (aT (λa=> ?_) λa=>aT (λb=> ?_) λb=>aT (λd=> ?_) λd=> ?_)
 ·have a:c.kind=4:=by simpa using a
  refine aI (n:=c.a) (by rw[r];rfl) (aV λh2 A2 O2 z2=> ?_);refine hK h2 _ _ _ (O1.trans O2 ak) ?_;have e:fX c=[c.a]:=by unfold fX;rw[if_pos a]
  rw[e]
  exact⟨rfl,.inr ⟨h1.size,_,rfl,ah,A2,λi x hx=>by
   cases i with
   |zero=>simp at hx;subst hx;rfl
   |succ i=>simp at hx⟩⟩
 ·have a: ¬c.kind=4:=by simpa using a
  have b:c.kind=5:=by simpa using b
  refine aI (n:=c.a) (by rw[r];rfl) (aI (n:=c.b) (by rw[r];rfl) (aV λh2 A2 O2 z2=> ?_));refine hK h2 _ _ _ (O1.trans O2 ak) ?_;have e:fX c=[c.a,c.b]:=by unfold fX;rw[if_neg a,if_pos b]
  rw[e]
  exact⟨rfl,.inr ⟨h1.size,_,rfl,ah,A2,λi x hx=>by
   rcases i with _|_|i
   ·simp at hx;subst hx;rfl
   ·simp at hx;subst hx;rfl
   ·simp at hx⟩⟩
 ·have a: ¬c.kind=4:=by simpa using a
  have b: ¬c.kind=5:=by simpa using b
  have d:c.kind=3:=by simpa using d
  have e:fX c=[c.a,c.b,c.c].take (cL c.op).toNat:=by unfold fX;rw[if_neg a,if_neg b,if_pos d]
  have tl:=oh c.op
  have row: ∀(hh:aH) (A:At hh h1.size [al c.a,al c.b,al c.c]),CR h hh (some (aw h1.size)) (cL c.op).toNat (fX c):=λhh A=>by
   rw[e];refine⟨by simp;try omega,.inr ⟨h1.size,_,rfl,ah,A,λi x hx=> ?_⟩⟩;rw[List.getElem?_take]at hx;split at hx
   ·rcases i with _|_|_|i
    ·simp at hx;subst hx;rfl
    ·simp at hx;subst hx;rfl
    ·simp at hx;subst hx;rfl
    ·simp at hx
   ·cases hx
  have fin: ∀(hh:aH) (q:Nat),aM [] h hh->At hh h1.size [al c.a,al c.b,al c.c]->K (.slice (if 3=0 then(some (aw h1.size))else Option.map (λa=>Addr.add a (0*1)) (some (aw h1.size))) (Int.toNat (cL c.op)-0) q) hh:=λhh q O A=>by have:=hK hh _ _ q O (row hh A);simpa using this
  refine⟨?_,?_⟩
  ·refine aI (n:=c.a) (by rw[r];rfl) (aI (n:=c.b) (by rw[r];rfl) (aI (n:=c.c) (by rw[r];rfl) (aI (n:=c.op) (by rw[r];rfl) (aV λh2 A2 O2 z2=> ?_))));have r2: ∀k,Ev.rd h2 ⟨h.size,k,none⟩=([al c.kind,al c.op,al c.dst,al c.a,al c.b,al c.c,.int .u8 (c.mask:Int)]:List Value)[k]? :=λk=>At.rd (A1.only O2 ak) k;refine⟨trivial,aI (n:=c.op) (by rw[r2];rfl) ⟨rfl,o0 (aI rfl ?_)⟩⟩;refine⟨trivial,aI (n:=c.a) (by rw[r2];rfl) ⟨rfl,trivial,aI (n:=c.b) (by rw[r2];rfl) ⟨rfl,trivial,aI (n:=c.c) (by rw[r2];rfl) ⟨rfl,tl.1,tl.2,?_⟩⟩⟩⟩;exact fin h2 _ (O1.trans O2 ak) A2
  ·refine aI (n:=c.a) (by rw[r];rfl) (aI (n:=c.b) (by rw[r];rfl) (aI (n:=c.c) (by rw[r];rfl) (aI (n:=c.op) (by rw[r];rfl) (o0 (aI rfl ?_)))));refine⟨trivial,aI (n:=c.a) (by rw[r];rfl) ⟨rfl,trivial,aI (n:=c.b) (by rw[r];rfl) ⟨rfl,trivial,aI (n:=c.c) (by rw[r];rfl) ⟨rfl,aV λh2 A2 O2 z2=> ?_⟩⟩⟩⟩;have r2: ∀k,Ev.rd h2 ⟨h.size,k,none⟩=([al c.kind,al c.op,al c.dst,al c.a,al c.b,al c.c,.int .u8 (c.mask:Int)]:List Value)[k]? :=λk=>At.rd (A1.only O2 ak) k;refine⟨trivial,aI (n:=c.op) (by rw[r2];rfl) ⟨rfl,tl.1,tl.2,?_⟩⟩;exact fin h2 _ (O1.trans O2 ak) A2
 ·have a: ¬c.kind=4:=by simpa using a
  have b: ¬c.kind=5:=by simpa using b
  have d: ¬c.kind=3:=by simpa using d
  refine hK h1 _ _ _ O1 ?_;have e:fX c=[]:=by unfold fX;rw[if_neg a,if_neg b,if_neg d]
  rw[e];exact⟨rfl,.inl rfl⟩
def nH(H:dj h e E)(hK:K (bh E.s) h):Cl 23 [bh e] h K:=by refine F23.spec ?_;exact aR (by rw[aL];exact H.s) hK
def uO(H:dj h e E)(hK:K (al (E.ans:Int)) h):Cl 54 [bh e] h K:=by refine F54.spec ?_;exact aI (by rw[aL];exact H.ans) hK
def qg(H:dj h e E){i:Int}(hO:(i<0\/4<=i)->K aB h)(hI: ∀k:Nat,k<4->i=(k:Int)->K (aD (E.ses k).pend) h):Cl 56 [bh e,al i] h K:=by refine F56.spec ?_;refine jF (λc=>aR rfl (hO c)) λk hk ek=>aR rfl ?_;show aK true _ _;rw[aO];show bI (Ev.rd h (Addr.add ⟨e,3+24*k,none⟩ 19)) _;exact aY (n:=(E.ses k).pend) (by rw[aL];exact H.pend hk rfl) (hI k hk ek)
def rT(E:fV)(i r:Int):Int×Bool:=if(0<=i/\i<4)/\iQ r then(((E.ses i.toNat).hnd r.toNat:Int),(E.ses i.toNat).there r.toNat)else(0,false)
def zh(H:dj h e E){i r:Int}(hK:K (.tuple #[ap (rT E i r).1,aD (rT E i r).2]) h):Cl 28 [bh e,al i,al r] h K:=by
 refine F28.spec ?_;refine jF (λc=>aR rfl ?_) λk hk ek=>aR rfl ?_
 ·unfold rT at hK;rw[if_neg ah]at hK;exact hK
 ·show aK false _ _;rw[aJ];refine EO (aY rfl ?_);by_cases hr:iQ r
  ·rw[decide_eq_true hr,Bool.not_true,aJ];unfold rT at hK;rw[if_pos ⟨ah,hr⟩]at hK;have e1:i.toNat=k:=ah;have r6:r.toNat<6:=by unfold iQ at hr;omega
   rw[e1]at hK;refine⟨hr.1,hr.2,aI (by simp only[aL];exact H.hnd hk r6 ah) ⟨hr.1,hr.2,aY (by simp only[aL];exact H.thr hk r6 ah) hK⟩⟩
  ·rw[decide_eq_false hr,Bool.not_false,aO];unfold rT at hK;rw[if_neg (λc=>hr c.2)]at hK;exact hK
def tY(H:dj h e E){i:Int}(hO:(i<0\/4<=i)-> ∀h',aM [] h h'->K (.tuple #[.agg #[al 0,aq 0],aB]) h')
  (hI: ∀k:Nat,k<4->i=(k:Int)-> ∀h',aM [] h h'->K (.tuple #[.agg #[al (if(E.ses k).ansd=true then(E.ses k).err else 0),aq (if(E.ses k).ansd=true then((E.ses k).num:Int)else 0)],aD (E.ses k).ansd]) h'):
  Cl 43 [bh e,al i] h K:=by
 refine F43.spec ?_;refine aV λh1 A1 O1 z1=> ?_;simp only[aL,Nat.zero_add]
 have zero:(∀h',aM [] h h'->K (.tuple #[.agg #[al 0,aq 0],aB]) h')->aW h1 (aw h.size) (al (0:Int)) (λh6=>aW h6 ⟨h.size,1,none⟩ (aq (0:Int)) (λh7=>aQ .i64 (Ev.rd h7 (aw h.size)) (λn8=>aQ .u64 (Ev.rd h7 ⟨h.size,1,none⟩) (λn9=>K (.tuple #[(.agg #[(al n8),(aq n9)]),aB]) h7)))):=λg=>by refine aS A1 ak rfl λh2 A2 O2 z2=>aS A2 ak rfl λh3 A3 O3 z3=> ?_;refine aI (n:=0) (by rw[At.rd A3];rfl) (aI (n:=0) (by rw[At.rd A3];rfl) (g h3 ?_));exact(O1.trans O2 (by intro x hx hl;simp at hx;omega)).trans O3 (by intro x hx hl;simp at hx;omega)
 refine jF (λc=>aR rfl ?_) λk hk ek=>aR rfl ?_
 ·exact zero (hO c)
 ·have hI:=hI k hk ek;show aK false _ _;rw[aJ];have H1:=H.only0 O1;refine aY (n:=(E.ses k).ansd) (by rw[aL];exact H1.ansd hk rfl) (aT (λc=> ?_) λc=> ?_)
  ·have c:(E.ses k).ansd=false:=by simpa using c
   rw[c]at hI;exact zero hI
  ·have c:(E.ses k).ansd=true:=by simpa using c
   rw[c,if_pos rfl,if_pos rfl]at hI;refine aI (by simp only[aL];exact H1.err hk ah) (aI (by simp only[aL];exact H1.num hk ah) ?_);refine aS A1 ak rfl λh2 A2 O2 z2=>aS A2 ak rfl λh3 A3 O3 z3=> ?_;refine aI (n:=(E.ses k).err) (by rw[At.rd A3];rfl) (aI (n:=((E.ses k).num:Int)) (by rw[At.rd A3];rfl) (hI h3 ?_));exact(O1.trans O2 (by intro x hx hl;simp at hx;omega)).trans O3 (by intro x hx hl;simp at hx;omega)
end
end
section
def iR(n:Nat)(c:kB):Int:=if c.kind=3/\cL c.op=0 then 200 else if(c.kind=1\/c.kind=3/\c.op=8)/\n<=c.mask then 40 else if c.kind=3/\(c.op=6\/c.op=7)/\c.mask/2^n≠0 then 40 else 0
def wH(c:kB):(fX c).length<=3:=by
 unfold fX;split
 ·simp
 ·split
  ·simp
  ·split
   ·rw[List.length_take];exact Nat.min_le_right _ _
   ·simp
def jW(x:fE)(c:kB):Prop:= ∀r∈fX c,iQ r/\x.there r.toNat=true
open Classical in
noncomputable def refu(n:Nat)(x:fE)(c:kB):Int:=if ¬(1<=c.kind/\c.kind<=8)then 222 else if vF c.kind/\ ¬iQ c.dst then 221 else if ¬jW x c then 221 else iR n c
def rI{a:Addr}{K:Addr->Prop}:bf (some a) K=K a:=rfl
section
variable {h:aH}{e s:Nat}{E:fV}{K:KK}{L:List Nat}{X:SX}
def Hg{m n:Nat}(hn:n<=8)(hm:m<256):(Int.fdiv (ax (m:Int)) (2^(min (Int.toNat (n:Int)) (IntKind.bits .i64))))=((m/2^n:Nat):Int):=by rw[wrap_i64 ah ah,show min (Int.toNat (n:Int)) (IntKind.bits .i64)=n by show min n 64=n;omega,show((2:Int)^n)=((2^n:Nat):Int) by simp,Int.fdiv_eq_ediv_of_nonneg _ (Int.natCast_nonneg _)];simp
def GP{b:Nat}{c:kB}(I:dj h e E)(S:cI h E.s L X)(hm:c.mask<256)(A:At h b [al c.kind,al c.op,al c.dst,al c.a,al c.b,al c.c,.int .u8 (c.mask:Int)])
  (hK:K (al (iR X.n c)) h):F77.wk11 (aw e) (aw b) h K:=by
 unfold F77.wk11;have n8:=S.ok.2.2.1;have r0:rd h (aw b)=some (al c.kind):=At.rd A 0;have r1:rd h ⟨b,1,none⟩=some (al c.op):=At.rd A 1;have r6:rd h ⟨b,6,none⟩=some (.int .u8 (c.mask:Int)):=At.rd A 6;have rs:rd h (aw e)=some (au (aw E.s)):=I.s;simp only[aL,Nat.zero_add];refine aI r6 (aR rs (fD S (aI rfl ⟨trivial,aI r6 ⟨rfl,trivial,ah,aI r6 (aR rs (fD S (aI rfl ⟨trivial,aI r6 ⟨rfl,trivial,aI r0 ?_⟩⟩)))⟩⟩)));rw[Hg n8 hm,show ax (c.mask:Int)=(c.mask:Int)from wrap_i64 ah ah];simp only[r0,r1,bC]
 have em:decide ((c.mask:Int)>=(X.n:Int))=decide (X.n<=c.mask):=by
  by_cases q:X.n<=c.mask
  ·rw[decide_eq_true q,decide_eq_true ah]
  ·rw[decide_eq_false q,decide_eq_false ah]
 have ed:(((c.mask/2^X.n:Nat):Int) !=(0:Int))=decide (c.mask/2^X.n≠0):=by
  by_cases q:c.mask/2^X.n=0
  ·rw[q,decide_eq_false ak];rfl
  ·rw[decide_eq_true q];simp only[bne_iff_ne,ne_eq,Bool.not_eq_true];omega
 rw[em,ed];unfold iR at hK;by_cases k3:c.kind=3
 ·have a1:(c.kind==(3:Int))=true:=by simp[k3]
  have a2:(c.kind==(1:Int))=false:=by simp[k3]
  simp only[a1,a2,aO,aJ];refine o0 (aI rfl ?_);simp only[r0,r1,bC,a1,a2,aO,aJ];by_cases t0:cL c.op=0
  ·have a3:(cL c.op==(0:Int))=true:=by simp[t0]
   rw[a3,aO];rw[if_pos ⟨k3,t0⟩]at hK;exact hK
  ·have a3:(cL c.op==(0:Int))=false:=by simp[t0]
   rw[a3,aJ];rw[if_neg (λq=>t0 q.2)]at hK;simp only[k3,true_and,false_or,show ¬(3:Int)=1 by omega]at hK;by_cases o8:c.op=8
   ·simp only[show(c.op==(8:Int))=true by simp[o8],show(c.op==(6:Int))=false by simp[o8],show(c.op==(7:Int))=false by simp[o8],aO,aJ];refine aT (λq=> ?_) λq=> ?_
    ·rw[if_pos ⟨o8,of_decide_eq_true q⟩]at hK;exact hK
    ·rw[if_neg (λw=>(of_decide_eq_false q) w.2),if_neg ah]at hK;exact hK
   ·rw[if_neg (λw=>o8 w.1)]at hK;simp only[show(c.op==(8:Int))=false by simp[o8],aJ];by_cases o6:c.op=6
    ·simp only[show(c.op==(6:Int))=true by simp[o6],aO];refine aT (λq=> ?_) λq=> ?_
     ·rw[if_pos ⟨.inl o6,of_decide_eq_true q⟩]at hK;exact hK
     ·rw[if_neg (λw=>(of_decide_eq_false q) w.2)]at hK;exact hK
    ·simp only[show(c.op==(6:Int))=false by simp[o6],aJ];by_cases o7:c.op=7
     ·simp only[show(c.op==(7:Int))=true by simp[o7],aO];refine aT (λq=> ?_) λq=> ?_
      ·rw[if_pos ⟨.inr o7,of_decide_eq_true q⟩]at hK;exact hK
      ·rw[if_neg (λw=>(of_decide_eq_false q) w.2)]at hK;exact hK
     ·simp only[show(c.op==(7:Int))=false by simp[o7],aJ];rw[if_neg ah]at hK;exact hK
 ·have a1:(c.kind==(3:Int))=false:=by simp[k3]
  simp only[a1,aJ];rw[if_neg (λq=>k3 q.1)]at hK;simp only[k3,false_and,or_false,if_false]at hK;by_cases k1:c.kind=1
  ·simp only[show(c.kind==(1:Int))=true by simp[k1],aO];refine aT (λq=> ?_) λq=> ?_
   ·rw[q,aO];rw[if_pos ⟨k1,of_decide_eq_true q⟩]at hK;exact hK
   ·rw[if_neg (λw=>(of_decide_eq_false q) w.2)]at hK;exact hK
  ·simp only[show(c.kind==(1:Int))=false by simp[k1],aJ];rw[if_neg (λw=>k1 w.1)]at hK;exact hK
def xh{c:kB}{i:Nat}(hi:i<4)(I:dj h e E)(S:cI h E.s L X)(he:e<h.size)(hm:c.mask<256)(hK: ∀h',aM [] h h'->K (al (refu X.n (E.ses i) c)) h'):
  Cl 77 [bh e,au ⟨e,3+24*i,none⟩,jR c] h K:=by
 refine F77.spec _ _ _ _ _ _ _ _ _ h K ?_;refine aV λh1 A1 O1 z1=> ?_;simp only[aL,Nat.zero_add];have r: ∀k,rd h1 ⟨h.size,k,none⟩=([al c.kind,al c.op,al c.dst,al c.a,al c.b,al c.c,.int .u8 (c.mask:Int)]:List Value)[k]? :=λk=>At.rd A1 k;refine aI (n:=c.kind) (by rw[r];rfl) (aT (λq=> ?_) λq=> ?_)
 ·have q:c.kind<1:=of_decide_eq_true q;have:=hK h1 O1;unfold refu at this;rw[if_pos ah]at this;exact this
 refine aI (n:=c.kind) (by rw[r];rfl) (aT (λp=> ?_) λp=> ?_)
 ·have p:(8:Int)<c.kind:=of_decide_eq_true p;have:=hK h1 O1;unfold refu at this;rw[if_pos ah]at this;exact this
 have q: ¬c.kind<1:=of_decide_eq_false q;have p: ¬(8:Int)<c.kind:=of_decide_eq_false p;have S1:=S.only0 O1;have I1:=I.only0 O1
 have fin:(vF c.kind->iQ c.dst)-> ∀(h2:aH) (pp:az) (l cc:Nat),aM [] h1 h2->CR h h2 pp l (fX c)->F77.wk6 (aw e) ⟨e,3+24*i,none⟩ (aw h.size) pp l cc (Nat.cast l:Int) 0 h2 K:=by
  intro hw h2 pp l cc O2 R;unfold F77.wk6;have I2:=I1.only0 O2;have S2:=S1.only0 O2;have A2:=A1.only O2 ak;have hK2:=hK h2 (O1.trans O2 ak);obtain⟨el,R⟩:=R
  have main: ∀(d k:Nat),d+k=l->(∀j x,j<k->(fX c)[j]? =some x->iQ x/\(E.ses i).there x.toNat=true)->F77.wL6 (d+1) (aw e) ⟨e,3+24*i,none⟩ (aw h.size) pp l cc (Nat.cast l:Int) (Nat.cast k:Int) h2 K:=by
   intro d
   induction d with
   |zero=>
    intro k hk hb;rw[F77.sL6];rw[decide_eq_false ah,aJ];refine GP I2 S2 hm A2 ?_
    have ok:jW (E.ses i) c:=λx hx=>by obtain⟨j,hj⟩:=List.getElem?_of_mem hx;exact hb j x (by have:=(List.getElem?_eq_some_iff.1 hj).1;omega) hj
    unfold refu at hK2;rw[if_neg ah,if_neg (λw=>w.2 (hw w.1)),if_neg (λw=>w ok)]at hK2;exact hK2
   |succ d ih=>
    intro k hk hb;rw[F77.sL6];rw[decide_eq_true ah,aO];have hlen:k<(fX c).length:=ah;obtain⟨x,hx⟩: ∃x,(fX c)[k]? =some x:=⟨_,List.getElem?_eq_getElem hlen⟩;rcases R with R|⟨b,Lc,ep,gb,Ab,g⟩
    ·rw[R]at hlen;simp at hlen
    rw[ep];refine⟨ah,ah,aI (n:=x) (by simp only[aL];rw[At.rd Ab,show 0+Int.toNat (Nat.cast k:Int)*1=k by simp];exact g k x hx) ?_⟩;refine EO (aY rfl ?_)
    have bad: ¬(iQ x/\(E.ses i).there x.toNat=true)->K (al 221) h2:=λw=>by have nok: ¬jW (E.ses i) c:=λok=>w (ok x (List.mem_of_getElem? hx));unfold refu at hK2;rw[if_neg ah,if_neg (λw=>w.2 (hw w.1)),if_pos nok]at hK2;exact hK2
    by_cases hr:iQ x
    ·rw[decide_eq_true hr,Bool.not_true,aJ];refine⟨hr.1,hr.2,aY (by simp only[aL];exact I2.thr hi (r:=x.toNat) (by unfold iQ at hr;omega) ah) ?_⟩;refine aT (λw=>bad λv=>by rw[v.2]at w;cases w) λw=> ?_;rw[show ax ((Nat.cast k:Int)+1)=((k+1:Nat):Int) by rw[wrap_i64 ah (by have:=wH c;omega)];omega];rw[<-ep];refine ih (k+1) ah λj y hj hy=> ?_;by_cases ej:j=k
     ·subst ej;rw[hx]at hy;injection hy with hy;subst hy;exact⟨hr,by simpa using w⟩
     ·exact hb j y ah hy
    ·rw[decide_eq_false hr,Bool.not_false,aO];exact bad λw=>hr w.1
  exact⟨_,main l 0 ah λj x hj=>ah⟩
 refine aI (n:=c.kind) (by rw[r];rfl) (aI (n:=c.op) (by rw[r];rfl) (aI (n:=c.dst) (by rw[r];rfl) (aI (n:=c.a) (by rw[r];rfl) (aI (n:=c.b) (by rw[r];rfl) (aI (n:=c.c) (by rw[r];rfl) (aI (n:=(c.mask:Int)) (by rw[r];rfl) ?_))))));refine xj λh2 O2=>aY rfl ?_;have A2:=A1.only O2 ak;have r2: ∀k,rd h2 ⟨h.size,k,none⟩=([al c.kind,al c.op,al c.dst,al c.a,al c.b,al c.c,.int .u8 (c.mask:Int)]:List Value)[k]? :=λk=>At.rd A2 k
 have rest:(vF c.kind->iQ c.dst)-> ∀hh,aM [] h1 hh->Cl 121 [jR c] hh (λv26 h27=>cv (some v26) (λp28 l29 c30=>F77.wk6 (aw e) ⟨e,3+24*i,none⟩ (aw h.size) p28 l29 c30 (Nat.cast l29:Int) 0 h27 K)):=λhw hh O=>
  sO λh3 pp l cc O3 R=>⟨_,_,_,rfl,fin hw h3 pp l cc (O.trans O3 ak) (by
   obtain⟨el,R⟩:=R;refine⟨el,?_⟩;rcases R with R|⟨b,Lc,ep,gb,Ab,g⟩
   ·exact .inl R
   ·exact .inr ⟨b,Lc,ep,by have:=O1.size;have:=O.size;omega,Ab,g⟩)⟩
 by_cases hwk:vF c.kind
 ·rw[decide_eq_true hwk,aO];refine aI (n:=c.dst) (by rw[r2];rfl) (EO (aY rfl ?_));by_cases hd:iQ c.dst
  ·rw[decide_eq_true hd,Bool.not_true,aJ];refine aI (n:=c.kind) (by rw[r2];rfl) (aI (n:=c.op) (by rw[r2];rfl) (aI (n:=c.dst) (by rw[r2];rfl) (aI (n:=c.a) (by rw[r2];rfl) (aI (n:=c.b) (by rw[r2];rfl) (aI (n:=c.c) (by rw[r2];rfl) (aI (n:=(c.mask:Int)) (by rw[r2];rfl) ?_))))));exact rest (λ_=>hd) h2 O2
  ·rw[decide_eq_false hd,Bool.not_false,aO];have:=hK h2 (O1.trans O2 ak);unfold refu at this;rw[if_neg ah,if_pos ⟨hwk,hd⟩]at this;exact this
 ·rw[decide_eq_false hwk,aJ];refine aI (n:=c.kind) (by rw[r2];rfl) (aI (n:=c.op) (by rw[r2];rfl) (aI (n:=c.dst) (by rw[r2];rfl) (aI (n:=c.a) (by rw[r2];rfl) (aI (n:=c.b) (by rw[r2];rfl) (aI (n:=c.c) (by rw[r2];rfl) (aI (n:=(c.mask:Int)) (by rw[r2];rfl) ?_))))));exact rest (λw=>absurd w hwk) h2 O2
def eU(x:fE)(c:kB):fE:={x with cal:=c,pend:=true,job:=0}
def DK{c:kB}{i:Int}(I:dj h e E)(S:cI h E.s L X)(D:e∉L)(hm:c.mask<256)
  (hO:(i<0\/4<=i)-> ∀h',aM [] h h'->K (al 222) h')
  (hB: ∀k:Nat,k<4->i=(k:Int)->(E.ses k).pend=true-> ∀h',aM [] h h'->K (al 220) h')
  (hR: ∀k:Nat,k<4->i=(k:Int)->(E.ses k).pend=false->refu X.n (E.ses k) c≠0-> ∀h',aM [] h h'->K (al (refu X.n (E.ses k) c)) h')
  (hK: ∀k:Nat,k<4->i=(k:Int)->(E.ses k).pend=false->refu X.n (E.ses k) c=0-> ∀h',dj h' e (E.put k (eU (E.ses k) c))->aM [e] h h'->K (al 0) h'):
  Cl 24 [bh e,al i,jR c] h K:=by
 refine F24.spec ?_;have he:e<h.size:=At.lt I;refine aV λh1 A1 O1 z1=> ?_;simp only[aL,Nat.zero_add];have S1:=S.only0 O1;have I1:=I.only0 O1;refine jF (λq=>aR rfl (hO q h1 O1)) λk hk ek=>aR rfl ?_;have hB:=hB k hk ek;have hR:=hR k hk ek;have hK:=hK k hk ek;show aK false _ _;rw[aJ];have r: ∀j,rd h1 ⟨h.size,j,none⟩=([al c.kind,al c.op,al c.dst,al c.a,al c.b,al c.c,.int .u8 (c.mask:Int)]:List Value)[j]? :=λj=>At.rd A1 j;refine aY (n:=(E.ses k).pend) (by simp only[aL];exact I1.pend hk rfl) (aT (λq=>hB q h1 O1) λq=> ?_);refine aI (n:=c.kind) (by rw[r];rfl) (aI (n:=c.op) (by rw[r];rfl) (aI (n:=c.dst) (by rw[r];rfl) (aI (n:=c.a) (by rw[r];rfl) (aI (n:=c.b) (by rw[r];rfl) (aI (n:=c.c) (by rw[r];rfl) (aI (n:=(c.mask:Int)) (by rw[r];rfl) ?_))))));refine xh hk I1 S1 ah hm λh2 O2=>aI rfl ?_;have O12:=O1.trans O2 ak;refine aT (λw=>hR q (by simpa using w) h2 O12) λw=> ?_;have w:refu X.n (E.ses k) c=0:=by simpa using w
 have A2:=A1.only O2 ak;have I2:=I1.only0 O2;have r2: ∀j,rd h2 ⟨h.size,j,none⟩=([al c.kind,al c.op,al c.dst,al c.a,al c.b,al c.c,.int .u8 (c.mask:Int)]:List Value)[j]? :=λj=>At.rd A2 j;refine aI (n:=c.kind) (by rw[r2];rfl) (aI (n:=c.op) (by rw[r2];rfl) (aI (n:=c.dst) (by rw[r2];rfl) (aI (n:=c.a) (by rw[r2];rfl) (aI (n:=c.b) (by rw[r2];rfl) (aI (n:=c.c) (by rw[r2];rfl) (aI (n:=(c.mask:Int)) (by rw[r2];rfl) ?_))))));obtain⟨x,ex⟩: ∃x,x=E.ses k:=⟨_,rfl⟩;rw[<-ex]at hK w;have p0:E=E.put k x:=by rw[ex,ov]
 rw[p0]at I2
 have wX: ∀{hh:aH} {y:fE} {j:Nat} {v:Value} {c':kB} {KK:aH->Prop},dj hh e (E.put k y)->j<7->v.oneCell'=true->(∀q,q<7->cC c' q=if q=j then v else cC y.cal q)->
   (∀h',dj h' e (E.put k {y with cal:=c'})->aM [e] hh h'->KK h')->aW hh (Addr.add (Addr.add ⟨e,3+24*k,none⟩ 12) j) v KK:=λ{hh y j v c' KK} I hj hv hc g=>by
  rw[aL,aL];refine dj.setS (x:={y with cal:=c'}) I hk (j:=12+j) ah ah hv (λq hq=> ?_) λh' I' O' _=> ?_
  ·rw[cH];exact EV hj hc q hq
  ·rw[dU]at I';exact g h' I' O'
 have T: ∀{a b:aH},aM [e] h2 a->aM [e] a b->aM [e] h2 b:=λp q=>p.trans q λb hb _=>hb;rw[rI];refine wX (j:=0) (c':=⟨c.kind,x.cal.op,x.cal.dst,x.cal.a,x.cal.b,x.cal.c,x.cal.mask⟩) I2 ah rfl (λq hq=>by rcases q with _|_|_|_|_|_|_|q<;>first|rfl|omega) λh3 I3 O3=> ?_;refine wX (j:=1) (c':=⟨c.kind,c.op,x.cal.dst,x.cal.a,x.cal.b,x.cal.c,x.cal.mask⟩) I3 ah rfl (λq hq=>by rcases q with _|_|_|_|_|_|_|q<;>first|rfl|omega) λh4 I4 O4=> ?_;refine wX (j:=2) (c':=⟨c.kind,c.op,c.dst,x.cal.a,x.cal.b,x.cal.c,x.cal.mask⟩) I4 ah rfl (λq hq=>by rcases q with _|_|_|_|_|_|_|q<;>first|rfl|omega) λh5 I5 O5=> ?_;refine wX (j:=3) (c':=⟨c.kind,c.op,c.dst,c.a,x.cal.b,x.cal.c,x.cal.mask⟩) I5 ah rfl (λq hq=>by rcases q with _|_|_|_|_|_|_|q<;>first|rfl|omega) λh6 I6 O6=> ?_;refine wX (j:=4) (c':=⟨c.kind,c.op,c.dst,c.a,c.b,x.cal.c,x.cal.mask⟩) I6 ah rfl (λq hq=>by rcases q with _|_|_|_|_|_|_|q<;>first|rfl|omega) λh7 I7 O7=> ?_;refine wX (j:=5) (c':=⟨c.kind,c.op,c.dst,c.a,c.b,c.c,x.cal.mask⟩) I7 ah rfl (λq hq=>by rcases q with _|_|_|_|_|_|_|q<;>first|rfl|omega) λh8 I8 O8=> ?_;refine wX (j:=6) (c':=c) I8 ah rfl (λq hq=>by rcases q with _|_|_|_|_|_|_|q<;>first|rfl|omega) λh9 I9 O9=> ?_;have O29:=T (T (T (T (T (T O3 O4) O5) O6) O7) O8) O9;rw[rI,aL,aL];refine dj.setS (x:={x with cal:=c,pend:=true}) I9 hk (j:=19) ah ah rfl (λq hq=>by rw[cH];exact wS (x:={x with cal:=c}) q hq) λh10 I10 O10 _=> ?_;rw[dU]at I10;rw[rI,aL,aL];refine dj.setS (x:={x with cal:=c,pend:=true,job:=0}) I10 hk (j:=20) ah ah rfl (λq hq=>by rw[cH];exact yI (x:={x with cal:=c,pend:=true}) (n:=0) q hq) λh11 I11 O11 _=> ?_;rw[dU]at I11;exact hK (by rw[ex];exact q) w h11 I11 ((O12.mono ak).trans (T (T O29 O10) O11) λb hb _=>hb)
end
end
section
variable {i j k l m n o p q r s t:Int}{a b c d:Addr}{u v:Nat}{x y:az}{h:aH}{K:KK}
def F67.spec(H:a9 h (.map #[] 0) λa b=>0<=(if 4<(if 1>i then 1 else i)then 4 else(if 1>i then 1 else i))/\(if 4<(if 1>i then 1 else i)then 4 else(if 1>i then 1 else i))<=(if 4<(if 1>i then 1 else i)then 4 else(if 1>i then 1 else i))/\(24*(if 4<(if 1>i then 1 else i)then 4 else(if 1>i then 1 else i))<=281474976710656)/\(if 4<(if 1>i then 1 else i)then 4 else(if 1>i then 1 else i))<=9223372036854775807/\a9 b (.cells (madeCells #[.slice none 0 0] ((if 4<(if 1>i then 1 else i)then 4 else(if 1>i then 1 else i)).toNat*1)) 56) λb c=>a9 c (.cells #[.map (some a),.slice (some (aw b)) ((if 4<(if 1>i then 1 else i)then 4 else(if 1>i then 1 else i)).toNat) ((if 4<(if 1>i then 1 else i)then 4 else(if 1>i then 1 else i)).toNat)] 207) λa b=>K (au (aw a)) b):Cl 67 [al i] h K:=cN Tryz.func67 H
def F213.T:bj:=⟨[(3,[3,15,16,17]),(7,[3])],[]⟩
section
variable (n:Nat)(l:Addr)(g:az)(f d:Nat)(b:az)(a i:Nat)(j c:Int)(h:aH)(K:KK)
def F213.wk7:Prop:=Cl 260 [.slice g f d] h λa b=>a=aE/\Cl 261 [.slice g f d] b λa b=>cv (some a) λa c d=>Cl 262 [.slice a c d,.func (.func 263) #[] #[]] b λa b=>cv (some a) λa c d=>K (.slice a c d) b
def F213.wL3:Prop:=Lp Tryz.f213 F213.T [1,1,0,1,0] n [(3,(.slice g f d)),(15,(.slice b a i)),(16,(al j)),(17,(al c))] h K
def F213.sL3:F213.wL3 (n+1) g f d b a i j c h K=(aK (c<j) (bf b λe=>0<=c/\c<(a:Int)/\cv (rd h (e.add (c.toNat*1))) λe k _=>fB h 46 1 4 #[ap 0] g f d e k λd e f g=>F213.wL3 n d e f b a i j (ax (c+1)) g K) (F213.wk7 g f d h K)):=by kernel_rfl
def F213.wk3:Prop:=(∃e,F213.wL3 e g f d b a i j c h K)
def F213.spec(H:bK (rd h (l.add 0)) λa=>Cl 259 [.map a] h λa b=>lI (some a) λa=>Cl 258 [a] b λa b=>cv (some a) λa c d=>cv (rd b (l.add 1)) λe f g=>F213.wk3 a c d e f g (f:Int) 0 b K):Cl 213 [au l] h K:=cT F213.T Tryz.func213 H
end
def F209.spec(H:bK (rd h (a.add 0)) λb=>dP h b .u32 .u32 i λb=>aQ .i64 (some (kE (al 0) b)) λb=>aK (b==0) (K (al 61) h) (bK (rd h (a.add 0)) λb=>dP h b .u32 .u32 i λc=>aQ .i64 (some (kE (al 0) c)) λc=>lO h b .u32 .u32 i (al (ax (c-1))) λb=>bK (rd b (a.add 0)) λc=>dP b c .u32 .u32 i λc=>aQ .i64 (some (kE (al 0) c)) λc=>aK (c==0) (bK (rd b (a.add 0)) λa=>xo b a .u32 .u32 i λa=>K (al 0) a) (K (al 0) b))):Cl 209 [au a,ap i] h K:=cN Tryz.func209 H
def F210.spec(H:bK (rd h (a.add 0)) λa=>dP h a .u32 .u32 i λb=>aQ .i64 (some (kE (al 0) b)) λb=>lO h a .u32 .u32 i (al (ax (b+1))) λa=>K aE a):Cl 210 [au a,ap i] h K:=cN Tryz.func210 H
def F258.spec(H:Cl 292 [.slice none 0 0,.func (.func 293) #[] #[au a]] h λa b=>cv (some a) λa c d=>K (.slice a c d) b):Cl 258 [.func (.func 293) #[] #[au a]] h K:=cN Tryz.func258 H
def F259.spec(a:Option Nat)(h:aH)(K:KK)(H:a9 h (.cells #[.map a] 204) λa b=>K (.func (.func 293) #[] #[au (aw a)]) b):Cl 259 [.map a] h K:=cN Tryz.func259 H
def F260.spec(H:Cl 295 [aq (IntKind.wrap .u64 (u:Int))] h λa b=>aQ .i64 (some a) λa=>Cl 294 [.slice x u v,al 0,al (u:Int),al a] b λa b=>a=aE/\K aE b):Cl 260 [.slice x u v] h K:=cN Tryz.func260 H
namespace F261
def T:bj:=⟨[(4,[0,3]),(9,[0,3,4,5]),(14,[0,3])],[(6,[[(0,[]),(1,[]),(2,[]),(3,[]),(4,[]),(5,[]),(6,[]),(7,[]),(8,[]),(9,[])]]),(11,[[(0,[]),(1,[]),(2,[]),(3,[]),(4,[]),(5,[]),(6,[]),(7,[]),(8,[]),(9,[])]])]⟩
noncomputable def body:Code:=(Tryz.f261.body).getD .skip
noncomputable def en(S:bD)(p:List Nat)(κ:XK):Fr->aH->Prop:=E Tryz.prog X T S (sub body p) κ
noncomputable def ln(S:bD)(p:List Nat)(κ:XK)(n:Nat):Fr->aH->Prop:=jw S (E Tryz.prog X T S (sub body p)) (df T (sub body p)) κ n
def fn(K:KK):XK:=fin Tryz.prog Tryz.f261.results.toList K
noncomputable def c0(S:bD)(K:KK):XK:=jS S (df T (sub body [1,1,1])) (en S [1,1,1] (fn K)) (fn K)
noncomputable def c1(S:bD)(K:KK):XK:=cA 0 (c0 S K)
noncomputable def c2(S:bD)(n4:Nat)(K:KK):XK:=gh S (df T (sub body [1,1,0,1,0,0])) (ln S [1,1,0,1,0,0] (c1 S K) n4) (c1 S K)
noncomputable def c3(S:bD)(n4:Nat)(K:KK):XK:=jS S (df T (sub body [1,1,0,1,0,0,1,1])) (en S [1,1,0,1,0,0,1,1] (c2 S n4 K)) (c2 S n4 K)
noncomputable def c4(S:bD)(n4:Nat)(K:KK):XK:=cA 1 (c3 S n4 K)
noncomputable def c5(S:bD)(n4:Nat)(K:KK):XK:=jS S (df T (sub body [1,1,0,1,0,0,1,0,0,1,0,1,1])) (en S [1,1,0,1,0,0,1,0,0,1,0,1,1] (c4 S n4 K)) (c4 S n4 K)
noncomputable def c6(S:bD)(n4:Nat)(K:KK):XK:=cA 2 (c5 S n4 K)
noncomputable def c7(S:bD)(n4:Nat)(n9:Nat)(K:KK):XK:=gh S (df T (sub body [1,1,0,1,0,0,1,0,0,1,0,1,0,1,0,0])) (ln S [1,1,0,1,0,0,1,0,0,1,0,1,0,1,0,0] (c6 S n4 K) n9) (c6 S n4 K)
def f4(c:az)(b d:Nat)(f:Int):Fr:=[(0,(.slice c b d)),(3,(al f))]
def f9(c:az)(b d:Nat)(f:Int)(i:az)(g j:Nat)(l:Int):Fr:=[(0,(.slice c b d)),(3,(al f)),(4,(.slice i g j)),(5,(al l))]
def f14(c:az)(b d:Nat)(f:Int):Fr:=[(0,(.slice c b d)),(3,(al f))]
def J0(k4:(az)->Nat->Nat->Int->aH->Prop)(c:az)(b d:Nat)(h:aH)(K:KK):Prop:=
 aK (decide ((Nat.cast b:Int)<(2:Int))) (K (.slice c b d) h) (k4 c b d (1:Int) h)
def E0(S:bD)(c:az)(b d:Nat)(h:aH)(K:KK):(E Tryz.prog X T S body (fin Tryz.prog Tryz.f261.results.toList K) (dI 0 [(.slice c b d)]) h)=J0 (λc b d f h=>S (en S [1,1,0,1] (c0 S K)) (f4 c b d f) h) c b d h K:=by kernel_rfl
def Jk4(lp4:(az)->Nat->Nat->Int->aH->Prop)(c:az)(b d:Nat)(f:Int)(h:aH)(_K:KK):Prop:=
 lp4 c b d f h
def Ek4(S:bD)(c:az)(b d:Nat)(f:Int)(h:aH)(K:KK):(en S [1,1,0,1] (c0 S K) (f4 c b d f) h)=Jk4 (λc b d f h=> ∃n,S (ln S [1,1,0,1,0,0] (c1 S K) n) (f4 c b d f) h) c b d f h K:=by kernel_rfl
def JL4(k9:(az)->Nat->Nat->Int->(az)->Nat->Nat->Int->aH->Prop)(bk4:(az)->Nat->Nat->Int->aH->Prop)(c:az)(b d:Nat)(f:Int)(h:aH)(K:KK):Prop:=
 aK (decide (f<(Nat.cast b:Int))) (bf c (λa1=>(0<=f/\f<(Nat.cast b:Int)/\aQ .u32 (rd h (a1.add (Int.toNat f*1))) (λn2=>bf c (λa3=>(0<=(ax (f-(1:Int)))/\(ax (f-(1:Int)))<(Nat.cast b:Int)/\aQ .u32 (rd h (a3.add (Int.toNat (ax (f-(1:Int)))*1))) (λn4=>aK (n2==n4) ((0<=f/\f<=(Nat.cast b:Int)/\k9 c b d f (if d=(Int.toNat f)then c else Option.map (λa=>Addr.add a ((Int.toNat f)*1)) c) (b-(Int.toNat f)) (d-(Int.toNat f)) (1:Int) h)) (bk4 c b d (ax (f+(1:Int))) h)))))))) (K (.slice c b d) h)
def EL4(S:bD)(n4:Nat)(c:az)(b d:Nat)(f:Int)(h:aH)(K:KK):(en S [1,1,0,1,0,0] (c2 S n4 K) (f4 c b d f) h)=JL4 (λc b d f i g j l h=>S (en S [1,1,0,1,0,0,1,0,0,1,0,1,0,1] (c5 S n4 K)) (f9 c b d f i g j l) h) (λc b d f h=>S (ln S [1,1,0,1,0,0] (c1 S K) n4) (f4 c b d f) h) c b d f h K:=by kernel_rfl
def Jk9(lp9:(az)->Nat->Nat->Int->(az)->Nat->Nat->Int->aH->Prop)(c:az)(b d:Nat)(f:Int)(i:az)(g j:Nat)(l:Int)(h:aH)(_K:KK):Prop:=
 lp9 c b d f i g j l h
def Ek9(S:bD)(n4:Nat)(c:az)(b d:Nat)(f:Int)(i:az)(g j:Nat)(l:Int)(h:aH)(K:KK):(en S [1,1,0,1,0,0,1,0,0,1,0,1,0,1] (c5 S n4 K) (f9 c b d f i g j l) h)=Jk9 (λc b d f i g j l h=> ∃n,S (ln S [1,1,0,1,0,0,1,0,0,1,0,1,0,1,0,0] (c6 S n4 K) n) (f9 c b d f i g j l) h) c b d f i g j l h K:=by kernel_rfl
def JL9(bk9:(az)->Nat->Nat->Int->(az)->Nat->Nat->Int->aH->Prop)(k14:(az)->Nat->Nat->Int->aH->Prop)(c:az)(b d:Nat)(f:Int)(i:az)(g j:Nat)(l:Int)(h:aH)(_K:KK):Prop:=
 aK (decide (l<(Nat.cast g:Int))) (bf i (λa1=>(0<=l/\l<(Nat.cast g:Int)/\aQ .u32 (rd h (a1.add (Int.toNat l*1))) (λn2=>bf i (λa3=>(0<=(ax (l-(1:Int)))/\(ax (l-(1:Int)))<(Nat.cast g:Int)/\aQ .u32 (rd h (a3.add (Int.toNat (ax (l-(1:Int)))*1))) (λn4=>aK (n2 !=n4) (bf i (λa5=>(0<=l/\l<(Nat.cast g:Int)/\aQ .u32 (rd h (a5.add (Int.toNat l*1))) (λn6=>bf c (λa7=>(0<=f/\f<(Nat.cast b:Int)/\aW h ((a7.add (Int.toNat f*1)).add 0) (ap n6) (λh8=>bk9 c b d (ax (f+(1:Int))) i g j (ax (l+(1:Int))) h8))))))) (bk9 c b d f i g j (ax (l+(1:Int))) h)))))))) (k14 c b d f h)
def EL9(S:bD)(n4:Nat)(n9:Nat)(c:az)(b d:Nat)(f:Int)(i:az)(g j:Nat)(l:Int)(h:aH)(K:KK):(en S [1,1,0,1,0,0,1,0,0,1,0,1,0,1,0,0] (c7 S n4 n9 K) (f9 c b d f i g j l) h)=JL9 (λc b d f i g j l h=>S (ln S [1,1,0,1,0,0,1,0,0,1,0,1,0,1,0,0] (c6 S n4 K) n9) (f9 c b d f i g j l) h) (λc b d f h=>S (en S [1,1,0,1,0,0,1,0,0,1,0,1,1] (c4 S n4 K)) (f14 c b d f) h) c b d f i g j l h K:=by kernel_rfl
def Jk14(c:az)(b d:Nat)(f:Int)(h:aH)(K:KK):Prop:=
 (0<=f/\f<=(Nat.cast b:Int)/\uW h #[(ap 0)] (if d=(Int.toNat f)then c else Option.map (λa=>Addr.add a ((Int.toNat f)*1)) c) (b-(Int.toNat f)) (λh1=>(0<=f/\f<=(Nat.cast d:Int)/\K (.slice (if d=0 then c else Option.map (λa=>Addr.add a (0*1)) c) (Int.toNat f-0) (d-0)) h1)))
def Ek14(S:bD)(n4:Nat)(c:az)(b d:Nat)(f:Int)(h:aH)(K:KK):(en S [1,1,0,1,0,0,1,0,0,1,0,1,1] (c4 S n4 K) (f14 c b d f) h)=Jk14 c b d f h K:=by kernel_rfl
def wk14(_bk4:(az)->Nat->Nat->Int->aH->Prop)(c:az)(b d:Nat)(f:Int)(h:aH)(K:KK):Prop:=
 Jk14 c b d f h K
def ek14(K:KK)(n4:Nat)(bk4:(az)->Nat->Nat->Int->aH->Prop)(hb4: ∀(c:az) (b d:Nat) (f:Int) (h:aH),(ln S0 [1,1,0,1,0,0] (c1 S0 K) n4 (f4 c b d f) h)=bk4 c b d f h)(c:az)(b d:Nat)(f:Int)(h:aH):(en S0 [1,1,0,1,0,0,1,0,0,1,0,1,1] (c4 S0 n4 K) (f14 c b d f) h)=wk14 bk4 c b d f h K:=(Ek14 S0 n4 c b d f h K).trans (rfl)
def wL9(bk4:(az)->Nat->Nat->Int->aH->Prop):Nat->(az)->Nat->Nat->Int->(az)->Nat->Nat->Int->aH->KK->Prop
 |0,_,_,_,_,_,_,_,_,_,_=>False
 |n+1,c,b,d,f,i,g,j,l,h,K=>JL9 (λc b d f i g j l h=>wL9 bk4 n c b d f i g j l h K) (λc b d f h=>wk14 bk4 c b d f h K) c b d f i g j l h K
def eL9(K:KK)(n4:Nat)(bk4:(az)->Nat->Nat->Int->aH->Prop)(hb4: ∀(c:az) (b d:Nat) (f:Int) (h:aH),(ln S0 [1,1,0,1,0,0] (c1 S0 K) n4 (f4 c b d f) h)=bk4 c b d f h): ∀(n:Nat) (c:az) (b d:Nat) (f:Int) (i:az) (g j:Nat) (l:Int) (h:aH),(ln S0 [1,1,0,1,0,0,1,0,0,1,0,1,0,1,0,0] (c6 S0 n4 K) n (f9 c b d f i g j l) h)=wL9 bk4 n c b d f i g j l h K
 |0,_,_,_,_,_,_,_,_,_=>rfl
 |n+1,c,b,d,f,i,g,j,l,h=>(EL9 S0 n4 n c b d f i g j l h K).trans (BE (λq0 q1=>JL9 q0 q1 c b d f i g j l h K) (by funext c b d f i g j l h;exact(λc b d f i g j l h=>eL9 K n4 bk4 hb4 n c b d f i g j l h) c b d f i g j l h) (by funext c b d f h;exact ek14 K n4 bk4 hb4 c b d f h))
def wk9(bk4:(az)->Nat->Nat->Int->aH->Prop)(c:az)(b d:Nat)(f:Int)(i:az)(g j:Nat)(l:Int)(h:aH)(K:KK):Prop:=
 Jk9 (λc b d f i g j l h=> ∃m,wL9 bk4 m c b d f i g j l h K) c b d f i g j l h K
def ek9(K:KK)(n4:Nat)(bk4:(az)->Nat->Nat->Int->aH->Prop)(hb4: ∀(c:az) (b d:Nat) (f:Int) (h:aH),(ln S0 [1,1,0,1,0,0] (c1 S0 K) n4 (f4 c b d f) h)=bk4 c b d f h)(c:az)(b d:Nat)(f:Int)(i:az)(g j:Nat)(l:Int)(h:aH):(en S0 [1,1,0,1,0,0,1,0,0,1,0,1,0,1] (c5 S0 n4 K) (f9 c b d f i g j l) h)=wk9 bk4 c b d f i g j l h K:=(Ek9 S0 n4 c b d f i g j l h K).trans (lP (λq0=>Jk9 q0 c b d f i g j l h K) (by funext c b d f i g j l h;exact cR λm=>eL9 K n4 bk4 hb4 m c b d f i g j l h))
def wL4:Nat->(az)->Nat->Nat->Int->aH->KK->Prop
 |0,_,_,_,_,_,_=>False
 |n+1,c,b,d,f,h,K=>JL4 (λc b d f i g j l h=>wk9 (λc b d f h=>wL4 n c b d f h K) c b d f i g j l h K) (λc b d f h=>wL4 n c b d f h K) c b d f h K
def eL4(K:KK): ∀(n:Nat) (c:az) (b d:Nat) (f:Int) (h:aH),(ln S0 [1,1,0,1,0,0] (c1 S0 K) n (f4 c b d f) h)=wL4 n c b d f h K
 |0,_,_,_,_,_=>rfl
 |n+1,c,b,d,f,h=>(EL4 S0 n c b d f h K).trans (BE (λq0 q1=>JL4 q0 q1 c b d f h K) (by funext c b d f i g j l h;exact ek9 K n (λc b d f h=>wL4 n c b d f h K) (λc b d f h=>eL4 K n c b d f h) c b d f i g j l h) (by funext c b d f h;exact(λc b d f h=>eL4 K n c b d f h) c b d f h))
def wk4(c:az)(b d:Nat)(f:Int)(h:aH)(K:KK):Prop:=
 Jk4 (λc b d f h=> ∃m,wL4 m c b d f h K) c b d f h K
def ek4(K:KK)(c:az)(b d:Nat)(f:Int)(h:aH):(en S0 [1,1,0,1] (c0 S0 K) (f4 c b d f) h)=wk4 c b d f h K:=(Ek4 S0 c b d f h K).trans (lP (λq0=>Jk4 q0 c b d f h K) (by funext c b d f h;exact cR λm=>eL4 K m c b d f h))
def w(c:az)(b d:Nat)(h:aH)(K:KK):Prop:=
 J0 (λc b d f h=>wk4 c b d f h K) c b d h K
def e0(K:KK)(c:az)(b d:Nat)(h:aH):(E Tryz.prog X T S0 body (fin Tryz.prog Tryz.f261.results.toList K) (dI 0 [(.slice c b d)]) h)=w c b d h K:=(E0 S0 c b d h K).trans (lP (λq0=>J0 q0 c b d h K) (by funext c b d f h;exact ek4 K c b d f h))
def hb:Tryz.f261.body=some body:=by kernel_rfl
def ok:cX T Tryz.f261.ntmps body=true:=by kernel_rfl
def spec(c:az)(b d:Nat)(h:aH)(K:KK)(H:w c b d h K):Cl 261 [(.slice c b d)] h K:=
 dk (T:=T) Ed Ei Tryz.func261 hb ok rfl (by rw[e0];exact H)
end F261
def F262.T:bj:=⟨[(5,[0,1,5,6]),(11,[0,5])],[]⟩
section
variable (n:Nat)(b:az)(c d:Nat)(i:Value)(f g:Int)(h:aH)(K:KK)
def F262.wk11:Prop:=(0<=f/\f<=(c:Int)/\uW h #[ap 0] (if d=(f.toNat)then b else Option.map (λa=>Addr.add a ((f.toNat)*1)) b) (c-(f.toNat)) λa=>0<=f/\f<=(d:Int)/\K (.slice (if d=0 then b else Option.map (λa=>Addr.add a (0*1)) b) (f.toNat-0) (d-0)) a)
def F262.wL5:Prop:=Lp Tryz.f262 F262.T [1,1,1,0,1,0] n [(0,(.slice b c d)),(1,i),(5,(al f)),(6,(al g))] h K
def F262.sL5:F262.wL5 (n+1) b c d i f g h K=(aK (g<(c:Int)) (bf b λa=>0<=g/\g<(c:Int)/\aQ .u32 (rd h (a.add (g.toNat*1))) λa=>eV Tryz.prog X i [ap a] h λe j=>bI (some e) λe=>aK (!e) (bf b λe=>0<=f/\f<(c:Int)/\aW j ((e.add (f.toNat*1)).add 0) (ap a) λa=>F262.wL5 n b c d i (ax (f+1)) (ax (g+1)) a K) (F262.wL5 n b c d i f (ax (g+1)) j K)) (F262.wk11 b c d f h K)):=by kernel_rfl
def F262.wk5:Prop:=(∃a,F262.wL5 a b c d i f g h K)
def F262.spec(H:Cl 296 [.slice b c d,.func (.func 263) #[] #[]] h λa e=>aQ .i64 (some a) λa=>aK (a==(-1)) (K (.slice b c d) e) (F262.wk5 b c d (.func (.func 263) #[] #[]) a (ax (a+1)) e K)):Cl 262 [.slice b c d,.func (.func 263) #[] #[]] h K:=cT F262.T Tryz.func262 H
end
def F263.spec(H:K (aD (i<=1)) h):Cl 263 [ap i] h K:=cN Tryz.func263 H
def F296.T:bj:=⟨[(2,[0,1,7,8])],[]⟩
section
variable (n:Nat)(b:az)(a c:Nat)(f:Value)(g d:Int)(h:aH)(K:KK)
def F296.wL2:Prop:=Lp Tryz.f296 F296.T [1,0,1,0] n [(0,(.slice b a c)),(1,f),(7,(al g)),(8,(al d))] h K
def F296.sL2:F296.wL2 (n+1) b a c f g d h K=(aK (d<g) (bf b λe=>0<=d/\d<(a:Int)/\aQ .u32 (rd h (e.add (d.toNat*1))) λe=>eV Tryz.prog X f [ap e] h λe i=>bI (some e) λe=>aK e (K (al d) i) (F296.wL2 n b a c f g (ax (d+1)) i K)) (K (al (-1)) h)):=by kernel_rfl
def F296.wk2:Prop:=(∃e,F296.wL2 e b a c f g d h K)
def F296.spec(H:F296.wk2 b a c (.func (.func 263) #[] #[]) (a:Int) 0 h K):Cl 296 [.slice b a c,.func (.func 263) #[] #[]] h K:=cT F296.T Tryz.func296 H
end
end
section
def cj.onlyC{h h':aH}{lo N:Nat}{p:az}{l c:Nat}{cs:List Value}{S:List Nat}(H:cj h lo N p l c cs)(O:aM S h h')(hS: ∀b∈aX p,(∃c,At h b c)->b∉S):cj h' lo N p l c cs:=by
 obtain⟨e,H⟩:=H;rcases H with H|⟨b,sp,h1,h2,h3,h4,h5⟩
 ·exact⟨e,Or.inl H⟩
 ·exact⟨e,Or.inr ⟨b,sp,h1,h2,h3,h4,h5.only O (hS b (by subst h1;simp[aX]) ⟨_,h5⟩)⟩⟩
def cj.cells{h:aH}{lo N:Nat}{p:az}{l c:Nat}{cs:List Value}(H:cj h lo N p l c cs): ∀b∈aX p,∃c,At h b c:=by
 obtain⟨e,H⟩:=H;rcases H with⟨rfl,_⟩|⟨b,sp,rfl,h2,h3,h4,h5⟩
 ·intro b hb;simp[aX]at hb
 ·intro b' hb;simp[aX]at hb;subst hb;exact⟨_,h5⟩
def LB:Nat:=140737488355328
def fI{x:Int}(h0: -LB<=x)(h1:x<=LB):ax x=x:=wrap_i64 (by unfold LB at h0;omega) (by unfold LB at h1;omega)
end
section
structure Rf(lo:Nat)(h:aH)(r M S W N:Nat)(f:Int->Int)(p:Nat->az)(c:Nat->Nat)(L:Nat->List Int):Prop where
 R:At h r [.map (some M),.slice (some (aw S)) W W]
 T:At h S (co W λk=> .slice (p k) (L k).length (c k))
 Mm: ∃m,bO h M .u32 m/\(∀x,m.lookup x=if f x=0 then none else some (al (f x)))/\m.length<=N
 fr: ∀x,0<=f x/\f x<=N
 fx: ∀x,f x≠0->0<=x/\x<=4294967295
 own: ∀k,k<W->cj h lo 1 (p k) (L k).length (c k) ((L k).map (Value.int .u32))
 len: ∀k,k<W->(L k).length<=N
 ge:lo<=r/\lo<=S/\lo<=M
 rS:r≠S
 sep: ∀k,k<W-> ∀b∈aX (p k),b≠r/\b≠S/\ ∀k',k'<W->k'≠k->b∉aX (p k')
def At.ne_map{h:aH}{b M:Nat}{c:List Value}{k:IntKind}{m:List (Int×Value)}(A:At h b c)(H:bO h M k m):b≠M:=by obtain⟨es,cl,h1,-⟩:=H;obtain⟨e,A⟩:=A;intro e';subst e';rw[kg h1]at A;cases A
section
variable {lo:Nat}{h h':aH}{r M S W N:Nat}{f:Int->Int}{p:Nat->az}{c:Nat->Nat}{L:Nat->List Int}{K:KK}
def Rf.rM(H:Rf lo h r M S W N f p c L):r≠M:=by obtain⟨m,a,-⟩:=H.Mm;exact H.R.ne_map a
def Rf.SM(H:Rf lo h r M S W N f p c L):S≠M:=by obtain⟨m,a,-⟩:=H.Mm;exact H.T.ne_map a
def Rf.pM(H:Rf lo h r M S W N f p c L){k:Nat}(hk:k<W){b:Nat}(hb:b∈aX (p k)):b≠M:=by obtain⟨m,a,-⟩:=H.Mm;obtain⟨c,A⟩:=(H.own k hk).cells b hb;exact A.ne_map a
def Rf.only(H:Rf lo h r M S W N f p c L){X:List Nat}(O:aM X h h')(hr:r∉X)(hS:S∉X)(hM:M∉X)(hp: ∀k,k<W-> ∀b∈aX (p k),b∉X):Rf lo h' r M S W N f p c L where
 R:=H.R.only O hr
 T:=H.T.only O hS
 Mm:=by obtain⟨m,a,b,d⟩:=H.Mm;exact⟨m,a.only O hM,b,d⟩
 fr:=H.fr
 fx:=H.fx
 own:=λk hk=>(H.own k hk).onlyC O λb hb _=>hp k hk b hb
 len:=H.len
 ge:=H.ge
 rS:=H.rS
 sep:=H.sep
def Rf.new(H:Rf lo h r M S W N f p c L)(O:aM [] h h'):Rf lo h' r M S W N f p c L:=H.only O ak ak ak ak
def Rf.lt(H:Rf lo h r M S W N f p c L):r<h.size/\S<h.size/\M<h.size/\ ∀k,k<W-> ∀b∈aX (p k),lo<=b/\b<h.size:=by obtain⟨m,a,-⟩:=H.Mm;exact⟨H.R.lt,H.T.lt,a.lt,λk hk=>(H.own k hk).lt⟩
def Rf.grow(H:Rf lo h r M S W N f p c L){N':Nat}(hN:N<=N'):Rf lo h r M S W N' f p c L:=
 {H with
  Mm:=by obtain⟨m,a,b,d⟩:=H.Mm;exact⟨m,a,b,Nat.le_trans d hN⟩
  fr:=λx=>⟨(H.fr x).1,by have:=(H.fr x).2;omega⟩
  len:=λk hk=>Nat.le_trans (H.len k hk) hN}
def Rf.rd0(H:Rf lo h r M S W N f p c L):rd h (aw r)=some (.map (some M)):=H.R.rd 0
def Rf.rd1(H:Rf lo h r M S W N f p c L):rd h ⟨r,1,none⟩=some (.slice (some (aw S)) W W):=H.R.rd 1
def Rf.rdT(H:Rf lo h r M S W N f p c L){k:Nat}(hk:k<W):rd h ⟨S,k,none⟩=some (.slice (p k) (L k).length (c k)):=by rw[H.T.rd,cF hk]
def qZ(H:Rf lo h r M S W N f p c L){x:Int}{K:Int->Prop}(hK:K (f x)):dP h (some M) .u32 .u32 x λo=>aQ .i64 (some (kE (al (0:Int)) o)) K:=by
 obtain⟨m,a,b,-⟩:=H.Mm;refine dt a (λe=> ?_) λi v e=> ?_
 ·rw[b x]at e
  have:f x=0:=by
   by_cases h0:f x=0
   ·exact h0
   ·rw[if_neg h0]at e;cases e
  rw[this]at hK;show aQ .i64 (some (al 0)) K;rw[bC];exact hK
 ·rw[b x]at e;by_cases h0:f x=0
  ·rw[if_pos h0]at e;cases e
  ·rw[if_neg h0]at e;injection e with e;subst e;show aQ .i64 (some (al (f x))) K;rw[bC];exact hK
def ux(f:Int->Int)(x v:Int):Int->Int:=λy=>if y=x then v else f y
def pL{m:List (Int×Value)}{x:Int}{v:Value}:(ig m x v).length<=m.length+1:=by unfold ig;split<;>simp
def Az{m:List (Int×Value)}{x:Int}:(ll m x).length<=m.length:=by unfold ll;exact List.length_filter_le _ _
def tU(H:Rf lo h r M S W N f p c L)(O:aM [M] h h'){N':Nat}{f':Int->Int}(hN:N<=N')(hm: ∃m,bO h' M .u32 m/\(∀x,m.lookup x=if f' x=0 then none else some (al (f' x)))/\m.length<=N')
  (hfr: ∀x,0<=f' x/\f' x<=N') (hfx: ∀x,f' x≠0->0<=x/\x<=4294967295):Rf lo h' r M S W N' f' p c L where
 R:=H.R.only O (by simpa using H.rM)
 T:=H.T.only O (by simpa using H.SM)
 Mm:=hm
 fr:=hfr
 fx:=hfx
 own:=λk hk=>(H.own k hk).onlyC O λb hb _=>by simpa using H.pM hk hb
 len:=λk hk=>Nat.le_trans (H.len k hk) hN
 ge:=H.ge
 rS:=H.rS
 sep:=H.sep
def FX(H:Rf lo h r M S W N f p c L){x:Int}(hx:0<=x/\x<=4294967295)(hN:N<=LB)(hK: ∀h',Rf lo h' r M S W (N+1) (ux f x (f x+1)) p c L->aM [M] h h'->K aE h'):
  Cl 210 [au (aw r),ap x] h K:=by
 refine F210.spec ?_;have hLB:LB=140737488355328:=rfl;rw[aL,H.rd0,gq];have b:=H.fr x;refine qZ H ?_;obtain⟨m,a,b',d⟩:=H.Mm;refine ft a λh1 M1 O1 z1=> ?_;rw[wrap_i64 ah ah]at M1;refine hK h1 (tU H O1 ah ⟨_,M1,λy=> ?_,Nat.le_trans pL ah⟩ (λy=> ?_) λy=> ?_) O1
 ·rw[bX];unfold ux;by_cases hy:y=x
  ·rw[if_pos hy,if_pos hy,if_neg ah]
  ·rw[if_neg hy,if_neg hy];exact b' y
 ·unfold ux;have:=H.fr y;split<;>omega
 ·unfold ux;by_cases hy:y=x
  ·subst hy;intro _;exact hx
  ·rw[if_neg hy];exact H.fx y
def Gd(H:Rf lo h r M S W N f p c L){x:Int}(hN:N<=LB)(h0:f x=0->K (al 61) h)(hK:f x≠0-> ∀h',Rf lo h' r M S W (N+1) (ux f x (f x-1)) p c L->aM [M] h h'->K (al 0) h'):
  Cl 209 [au (aw r),ap x] h K:=by
 refine F209.spec ?_;have hLB:LB=140737488355328:=rfl;rw[aL,H.rd0,gq];have b:=H.fr x;refine qZ H ?_;refine aT (λe=>h0 (by simpa using e)) λe=> ?_;have e':f x≠0:=by simpa using e
 have hx:=H.fx x e';rw[gq];refine qZ H ?_;obtain⟨m,a,b',d⟩:=H.Mm;refine ft a λh1 M1 O1 z1=> ?_;rw[wrap_i64 ah ah]at M1;have R1:=H.R.only O1 (by simpa using H.rM);rw[show rd h1 ⟨r,0+0,none⟩=some (.map (some M))from R1.rd 0,gq];refine dt M1 (λe=> ?_) λi v e=> ?_
 ·rw[bX,if_pos rfl]at e;cases e
 ·rw[bX,if_pos rfl]at e;injection e with e;subst e;show aQ .i64 (some (al (f x-1))) _;rw[bC]
  have fin: ∀(h2:aH) (m2:List (Int×Value)),bO h2 M .u32 m2->(∀y,m2.lookup y=if ux f x (f x-1) y=0 then none else some (al (ux f x (f x-1) y)))->m2.length<=m.length+1->aM [M] h h2->K (al 0) h2:=by
   intro h2 m2 M2 l2 n2 O2;refine hK e' h2 (tU H O2 ah ⟨_,M2,l2,ah⟩ (λy=> ?_) λy=> ?_) O2
   ·unfold ux;have:=H.fr y;split<;>omega
   ·unfold ux;by_cases hy:y=x
    ·subst hy;intro _;exact hx
    ·rw[if_neg hy];exact H.fx y
  refine aT (λe0=> ?_) λe0=> ?_
  ·have e0':f x-1=0:=by simpa using e0
   rw[gq];refine sd M1 λh2 M2 O2 z2=> ?_;refine fin h2 _ M2 (λy=> ?_) (Nat.le_trans Az pL) (O1.trans O2 ak);rw[mY,bX];unfold ux;by_cases hy:y=x
   ·rw[if_pos hy,if_pos hy,if_pos e0']
   ·rw[if_neg hy,if_neg hy,if_neg hy];exact b' y
  ·have e0':f x-1≠0:=by simpa using e0
   refine fin h1 _ M1 (λy=> ?_) pL O1;rw[bX];unfold ux;by_cases hy:y=x
   ·rw[if_pos hy,if_pos hy,if_neg e0']
   ·rw[if_neg hy,if_neg hy];exact b' y
end
end
section
def wL(x:Int):Int:=if(4:Int)<(if(1:Int)>x then(1:Int)else x)then(4:Int)else(if(1:Int)>x then(1:Int)else x)
def qC(x:Int):1<=wL x/\wL x<=4:=by
 unfold wL
 repeat' split
 all_goals omega
def Bh(n:Nat)(v:Value):List.replicate n v=co n λ_=>v:=by unfold co;rw[List.map_const'];simp
def AK{h:aH}{k:IntKind}{K:Nat->aH->Prop}(hK: ∀h',bO h' h.size k []->aM [] h h'->h'.size=h.size+1->K h.size h'):a9 h (.map #[] 0) K:=
 hK _ (bO.empty (by unfold mp;simp)) (aM.push_map h _ _) ak
def HP{h:aH}{x:Int}{K:KK}(hK: ∀h' r M S,Rf h.size h' r M S (wL x).toNat 0 (λ_=>0) (λ_=>none) (λ_=>0) (λ_=> [])->aM [] h h'->K (au (aw r)) h'):
  Cl 67 [al x] h K:=by
 refine F67.spec ?_;change a9 h (.map #[] 0) λb1 h2=>(0<=wL x/\wL x<=wL x/\((Nat.cast 24:Int)*wL x<=281474976710656)/\wL x<=9223372036854775807/\a9 h2 (.cells (madeCells #[(.slice none 0 0)] (Int.toNat (wL x)*1)) 56) (λb3 h4=>a9 h4 (.cells #[(.map (some b1)),(.slice (some (aw b3)) (Int.toNat (wL x)) (Int.toNat (wL x)))] 207) (λb5 h6=>K (au (aw b5)) h6)));have hw:=qC x;generalize wL x=y at hw hK ⊢;refine AK (k:= .u32) λh1 M1 O1 z1=>⟨ah,ah,ah,ah,?_⟩;refine aV λh2 A2 O2 z2=> ?_;refine aV λh3 A3 O3 z3=> ?_;rw[toList_madeCells_one,Bh,Nat.mul_one]at A2;refine hK h3 _ h.size _ ⟨A3,A2.only O3 ak,⟨[],(M1.only O2 ak).only O3 ak,λx=>by simp[List.lookup],Nat.le_refl _⟩,λx=>ah,λx h=>absurd rfl h,λk hk=>cj.nil _ _ _,λk hk=>Nat.le_refl _,⟨ah,ah,Nat.le_refl _⟩,ah,λk hk b hb=>by simp[aX]at hb⟩ ((O1.trans O2 ak).trans O3 ak)
section
variable {lo:Nat}{h h':aH}{r M S W N:Nat}{f:Int->Int}{p:Nat->az}{c:Nat->Nat}{L:Nat->List Int}{K:KK}
end
end
end Go.Proofs.YtnofenejoebkhaaGreat.Ev
