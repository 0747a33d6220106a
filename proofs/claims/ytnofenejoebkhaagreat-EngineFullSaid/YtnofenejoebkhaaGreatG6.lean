/- PART 6 OF WHAT THE LAW EngineFull STANDS ON: EngA5, EngF5, EngB5, EngC5, EngD5, EngE5, VarF5, PlyH5, FunI5, FunJ5, PlyI5, EngG5, CntP5, CntF5, CntA5, EngH5, EngJ5, LeF5, EngK5, EngL5, EngN5, EngO5, EngP5, EngQ5. Conditions: none but those that each lemma states. -/
import Derived.Test.YtnofenejoebkhaaGreatG5
namespace Go.Proofs.YtnofenejoebkhaaGreat.Ev
open Go
set_option linter.defProp false
section
structure iL where
 kind:Int
 op:Int
 dst:Int
 a:Int
 b:Int
 c:Int
 mask:Nat
structure eW where
 there:Nat->Bool
 hnd:Nat->Nat
 cal:iL
 pend:Bool
 job:Nat
 err:Int
 num:Nat
 ansd:Bool
structure fk where
 s:Nat
 p:Nat
 r:Nat
 ses:Nat->eW
 ans:Nat
def fJ{α:Type}(f:Nat->α)(i:Nat)(x:α):Nat->α:=λk=>if k=i then x else f k
theorem bQ{α:Type}{f:Nat->α}{i:Nat}{x:α}:fJ f i x i=x:=if_pos rfl
theorem bP{α:Type}{f:Nat->α}{i k:Nat}{x:α}(h:k≠i):fJ f i x k=f k:=if_neg h
def fk.put(E:fk)(i:Nat)(x:eW):fk:={E with ses:=fJ E.ses i x}
def cC(c:iL):Nat->Value
 |0=>ac c.kind
 |1=>ac c.op
 |2=>ac c.dst
 |3=>ac c.a
 |4=>ac c.b
 |5=>ac c.c
 |_=> .int .u8 (c.mask:Int)
def sC(x:eW)(j:Nat):Value:=
 if j<12 then(if j%2=0 then aw (x.there (j/2))else ae (x.hnd (j/2):Int))else
 if j<19 then cC x.cal (j-12)else
 if j=19 then aw x.pend else if j=20 then ac (x.job:Int)else if j=21 then ac x.err else
 if j=22 then af (x.num:Int)else aw x.ansd
def eC(E:fk)(k:Nat):Value:=
 if k=0 then aX E.s else if k=1 then aX E.p else if k=2 then aX E.r else if k=99 then ac (E.ans:Int)else
 sC (E.ses ((k-3)/24)) ((k-3)%24)
def cR(h:aA)(e:Nat)(E:fk):Prop:=At h e (bS 100 (eC E))
theorem Aw{c:iL}(j:Nat):(cC c j).oneCell'=true:=by unfold cC;split<;>rfl
theorem Ak{x:eW}(j:Nat):(sC x j).oneCell'=true:=by
 unfold sC;split
 ·split<;>rfl
 ·split
  ·exact Aw _
  ·repeat' split
   all_goals rfl
theorem cR.rd{h:aA}{e k:Nat}{E:fk}(H:cR h e E)(hk:k<100):Ev.rd h ⟨e,k,none⟩=some (eC E k):=by rw[At.rd H,bY hk]
theorem rN{E:fk}{i j:Nat}(hi:i<4)(hj:j<24):eC E (3+24*i+j)=sC (E.ses i) j:=by unfold eC;rw[if_neg Y,if_neg Y,if_neg Y,if_neg Y,show(3+24*i+j-3)/24=i by omega,show(3+24*i+j-3)%24=j by omega]
theorem cR.rdS{h:aA}{e i j k:Nat}{E:fk}(H:cR h e E)(hi:i<4)(hj:j<24)(hk:k=3+24*i+j):Ev.rd h ⟨e,k,none⟩=some (sC (E.ses i) j):=by subst hk;rw[H.rd Y,rN hi hj]
theorem qi{x:eW}{r:Nat}(hr:r<6):sC x (2*r)=aw (x.there r):=by unfold sC;rw[if_pos Y,if_pos Y,show 2*r/2=r by omega]
theorem wB{x:eW}{r:Nat}(hr:r<6):sC x (2*r+1)=ae (x.hnd r:Int):=by unfold sC;rw[if_pos Y,if_neg Y,show(2*r+1)/2=r by omega]
theorem BI{E:fk}{i:Nat}{x:eW}{q:Nat}(h:q<100):eC (E.put i x) q=if 3<=q/\q<99/\(q-3)/24=i then sC x ((q-3)%24)else eC E q:=by
 unfold eC fk.put;by_cases h0:q=0
 ·rw[if_pos h0,if_pos h0,if_neg Y]
 by_cases h1:q=1
 ·rw[if_neg h0,if_neg h0,if_pos h1,if_pos h1,if_neg Y]
 by_cases h2:q=2
 ·rw[if_neg h0,if_neg h0,if_neg h1,if_neg h1,if_pos h2,if_pos h2,if_neg Y]
 by_cases h3:q=99
 ·rw[if_neg h0,if_neg h0,if_neg h1,if_neg h1,if_neg h2,if_neg h2,if_pos h3,if_pos h3,if_neg Y]
 rw[if_neg h0,if_neg h0,if_neg h1,if_neg h1,if_neg h2,if_neg h2,if_neg h3,if_neg h3];by_cases hq:(q-3)/24=i
 ·rw[if_pos Y];show sC (fJ E.ses i x ((q-3)/24)) _=_;rw[hq,bQ]
 ·rw[if_neg Y];show sC (fJ E.ses i x ((q-3)/24)) _=_;rw[bP hq]
theorem cR.setS{h:aA}{e i j k:Nat}{E:fk}{x:eW}{v:Value}{K:aA->Prop}(H:cR h e E)(hi:i<4)(hj:j<24)(hk:k=3+24*i+j)(hv:v.oneCell'=true)
  (hx: ∀q,q<24->sC x q=if q=j then v else sC (E.ses i) q) (hK: ∀h',cR h' e (E.put i x)->aF [e] h h'->h'.size=h.size->K h'):aP h ⟨e,k,none⟩ v K:=by
 subst hk;refine aK H (by rw[bu];omega) hv λh' A O z=>hK h' ?_ O z;unfold cR;rw[dS]at A;rw[dg (g':=λq=>if q=3+24*i+j then v else eC E q) λq hq=> ?_]
 ·exact A
 ·rw[BI hq];by_cases hc:3<=q/\q<99/\(q-3)/24=i
  ·rw[if_pos hc,hx _ Y];by_cases hh:(q-3)%24=j
   ·rw[if_pos hh,if_pos Y]
   ·rw[if_neg hh,if_neg Y,<-rN (E:=E) hi Y]
    congr 1
    omega
  ·rw[if_neg hc,if_neg Y]
theorem cR.setA{h:aA}{e n:Nat}{E:fk}{K:aA->Prop}(H:cR h e E)(hK: ∀h',cR h' e {E with ans:=n}->aF [e] h h'->h'.size=h.size->K h'):aP h ⟨e,99,none⟩ (ac (n:Int)) K:=by
 refine aK H (by rw[bu];omega) rfl λh' A O z=>hK h' ?_ O z;unfold cR;rw[dS]at A;rw[dg (g':=λq=>if q=99 then ac (n:Int)else eC E q) λq hq=> ?_]
 ·exact A
 ·unfold eC;by_cases h3:q=99
  ·rw[if_pos h3];subst h3;rfl
  ·rw[if_neg h3,if_neg h3,if_neg h3]
theorem cR.only{h h':aA}{e:Nat}{E:fk}{S:List Nat}(H:cR h e E)(O:aF S h h')(he:e∉S):cR h' e E:=At.only H O he
theorem cR.only0{h h':aA}{e:Nat}{E:fk}(H:cR h e E)(O:aF [] h h'):cR h' e E:=H.only O Z
theorem tf{x:eW}{b:Bool}: ∀q,q<24->sC {x with pend:=b} q=if q=19 then aw b else sC x q:=λq hq=>by
 unfold sC;by_cases h:q=19
 ·subst h;rfl
 ·rw[if_neg h,if_neg h,if_neg h]
theorem vk{x:eW}{n:Nat}: ∀q,q<24->sC {x with job:=n} q=if q=20 then ac (n:Int)else sC x q:=λq hq=>by
 unfold sC;by_cases h:q=20
 ·subst h;rfl
 ·rw[if_neg h,if_neg h,if_neg h]
theorem AC{x:eW}{n:Int}: ∀q,q<24->sC {x with err:=n} q=if q=21 then ac n else sC x q:=λq hq=>by
 unfold sC;by_cases h:q=21
 ·subst h;rfl
 ·rw[if_neg h,if_neg h,if_neg h]
theorem BF{x:eW}{n:Nat}: ∀q,q<24->sC {x with num:=n} q=if q=22 then af (n:Int)else sC x q:=λq hq=>by
 unfold sC;by_cases h:q=22
 ·subst h;rfl
 ·rw[if_neg h,if_neg h,if_neg h]
theorem yU{x:eW}{b:Bool}: ∀q,q<24->sC {x with ansd:=b} q=if q=23 then aw b else sC x q:=λq hq=>by
 unfold sC;by_cases h:q=23
 ·subst h;rfl
 ·rw[if_neg h]
  repeat' split
  all_goals first|rfl|omega
theorem Ao{x:eW}{c:iL}{j:Nat}{v:Value}(hj:j<7)(hc: ∀q,q<7->cC c q=if q=j then v else cC x.cal q): ∀q,q<24->sC {x with cal:=c} q=if q=12+j then v else sC x q:=λq hq=>by
 unfold sC;by_cases h:q<12
 ·rw[if_pos h,if_pos h,if_neg (show ¬q=12+j by omega)]
 ·rw[if_neg h,if_neg h];by_cases h2:q<19
  ·rw[if_pos h2,if_pos h2,hc _ Y];by_cases h3:q-12=j
   ·rw[if_pos h3,if_pos (show q=12+j by omega)]
   ·rw[if_neg h3,if_neg (show ¬q=12+j by omega)]
  ·rw[if_neg h2,if_neg h2,if_neg (show ¬q=12+j by omega)]
theorem tR{x:eW}{r:Nat}{b:Bool}(hr:r<6): ∀q,q<24->sC {x with there:=fJ x.there r b} q=if q=2*r then aw b else sC x q:=λq hq=>by
 by_cases h:q=2*r
 ·subst h;rw[qi hr,if_pos rfl];show aw (fJ _ _ _ _)=_;rw[bQ]
 ·rw[if_neg h];unfold sC;by_cases h1:q<12
  ·rw[if_pos h1,if_pos h1];by_cases h2:q%2=0
   ·rw[if_pos h2,if_pos h2];show aw (fJ _ _ _ _)=_;rw[bP Y]
   ·rw[if_neg h2,if_neg h2]
  ·rw[if_neg h1,if_neg h1]
theorem tC{x:eW}{r n:Nat}(hr:r<6): ∀q,q<24->sC {x with hnd:=fJ x.hnd r n} q=if q=2*r+1 then ae (n:Int)else sC x q:=λq hq=>by
 by_cases h:q=2*r+1
 ·subst h;rw[wB hr,if_pos rfl];show ae ((fJ _ _ _ _:Nat):Int)=_;rw[bQ]
 ·rw[if_neg h];unfold sC;by_cases h1:q<12
  ·rw[if_pos h1,if_pos h1];by_cases h2:q%2=0
   ·rw[if_pos h2,if_pos h2]
   ·rw[if_neg h2,if_neg h2];show ae ((fJ _ _ _ _:Nat):Int)=_;rw[bP Y]
  ·rw[if_neg h1,if_neg h1]
theorem iq{α:Type}{f:Nat->α}{i:Nat}{x y:α}:fJ (fJ f i x) i y=fJ f i y:=by
 funext k;by_cases h:k=i
 ·rw[h,bQ,bQ]
 ·rw[bP h,bP h,bP h]
theorem du{E:fk}{i:Nat}{x y:eW}:(E.put i x).put i y=E.put i y:=by unfold fk.put;rw[iq]
theorem cg{E:fk}{i:Nat}{x:eW}:(E.put i x).ses i=x:=bQ
theorem mF{E:fk}{i:Nat}:E.put i (E.ses i)=E:=by
 unfold fk.put
 have:fJ E.ses i (E.ses i)=E.ses:=by
  funext k;unfold fJ;by_cases h:k=i
  ·rw[if_pos h,h]
  ·rw[if_neg h]
 rw[this]
section
variable {h:aA}{e i k:Nat}{E:fk}(H:cR h e E)(hi:i<4)
include H hi
theorem cR.kind(hk:k=3+24*i+12):Ev.rd h ⟨e,k,none⟩=some (ac (E.ses i).cal.kind):=H.rdS hi (j:=12) Y hk
theorem cR.op(hk:k=3+24*i+13):Ev.rd h ⟨e,k,none⟩=some (ac (E.ses i).cal.op):=H.rdS hi (j:=13) Y hk
theorem cR.dst(hk:k=3+24*i+14):Ev.rd h ⟨e,k,none⟩=some (ac (E.ses i).cal.dst):=H.rdS hi (j:=14) Y hk
theorem cR.ca(hk:k=3+24*i+15):Ev.rd h ⟨e,k,none⟩=some (ac (E.ses i).cal.a):=H.rdS hi (j:=15) Y hk
theorem cR.cb(hk:k=3+24*i+16):Ev.rd h ⟨e,k,none⟩=some (ac (E.ses i).cal.b):=H.rdS hi (j:=16) Y hk
theorem cR.cc(hk:k=3+24*i+17):Ev.rd h ⟨e,k,none⟩=some (ac (E.ses i).cal.c):=H.rdS hi (j:=17) Y hk
theorem cR.mask(hk:k=3+24*i+18):Ev.rd h ⟨e,k,none⟩=some (.int .u8 ((E.ses i).cal.mask:Int)):=H.rdS hi (j:=18) Y hk
theorem cR.pend(hk:k=3+24*i+19):Ev.rd h ⟨e,k,none⟩=some (aw (E.ses i).pend):=H.rdS hi (j:=19) Y hk
theorem cR.job(hk:k=3+24*i+20):Ev.rd h ⟨e,k,none⟩=some (ac ((E.ses i).job:Int)):=H.rdS hi (j:=20) Y hk
theorem cR.err(hk:k=3+24*i+21):Ev.rd h ⟨e,k,none⟩=some (ac (E.ses i).err):=H.rdS hi (j:=21) Y hk
theorem cR.num(hk:k=3+24*i+22):Ev.rd h ⟨e,k,none⟩=some (af ((E.ses i).num:Int)):=H.rdS hi (j:=22) Y hk
theorem cR.ansd(hk:k=3+24*i+23):Ev.rd h ⟨e,k,none⟩=some (aw (E.ses i).ansd):=H.rdS hi (j:=23) Y hk
theorem cR.thr{r:Nat}(hr:r<6)(hk:k=3+24*i+2*r):Ev.rd h ⟨e,k,none⟩=some (aw ((E.ses i).there r)):=by rw[H.rdS hi (j:=2*r) Y hk,qi hr]
theorem cR.hnd{r:Nat}(hr:r<6)(hk:k=3+24*i+(2*r+1)):Ev.rd h ⟨e,k,none⟩=some (ae ((E.ses i).hnd r:Int)):=by rw[H.rdS hi (j:=2*r+1) Y hk,wB hr]
end
theorem cR.s{h:aA}{e:Nat}{E:fk}(H:cR h e E):Ev.rd h (ah e)=some (aX E.s):=H.rd Y
theorem cR.p{h:aA}{e:Nat}{E:fk}(H:cR h e E):Ev.rd h ⟨e,1,none⟩=some (aX E.p):=H.rd Y
theorem cR.r{h:aA}{e:Nat}{E:fk}(H:cR h e E):Ev.rd h ⟨e,2,none⟩=some (aX E.r):=H.rd Y
theorem cR.ans{h:aA}{e:Nat}{E:fk}(H:cR h e E):Ev.rd h ⟨e,99,none⟩=some (ac (E.ans:Int)):=H.rd Y
end
section
variable {i j k l m n o p q r s t:Int}{a b c d:Addr}{u v:Nat}{x y:ak}{h:aA}{K:KK}
def F18.spec(H:Cl 61 [ac i,ac j] h λa b=> ∃c:ak,∃d:Int,a=(.tuple #[ap c,ac d])/\aC (d !=0) (K (.tuple #[ap none,ac d]) b) (Cl 34 [ap c,ac k] b λa b=>bi (some a) λa=>Cl 68 [ap a] b λb d=>aI .i64 (some b) λb=>Cl 67 [ac b] d λb d=>bi (some b) λb=>aZ d (.cells #[ap c,ap a,ap b,aq,ae 0,aq,ae 0,aq,ae 0,aq,ae 0,aq,ae 0,aq,ae 0,ac 0,ac 0,ac 0,ac 0,ac 0,ac 0,.int .u8 0,aq,ac 0,ac 0,af 0,aq,aq,ae 0,aq,ae 0,aq,ae 0,aq,ae 0,aq,ae 0,aq,ae 0,ac 0,ac 0,ac 0,ac 0,ac 0,ac 0,.int .u8 0,aq,ac 0,ac 0,af 0,aq,aq,ae 0,aq,ae 0,aq,ae 0,aq,ae 0,aq,ae 0,aq,ae 0,ac 0,ac 0,ac 0,ac 0,ac 0,ac 0,.int .u8 0,aq,ac 0,ac 0,af 0,aq,aq,ae 0,aq,ae 0,aq,ae 0,aq,ae 0,aq,ae 0,aq,ae 0,ac 0,ac 0,ac 0,ac 0,ac 0,ac 0,.int .u8 0,aq,ac 0,ac 0,af 0,aq,ac 0] 132) λa b=>K (.tuple #[ag (ah a),ac 0]) b)):Cl 18 [ac i,ac j,ac k] h K:=cN Tryz.func18 H
def F23.spec(H:bi (rd h (a.add 0)) λa=>K (ap a) h):Cl 23 [ag a] h K:=cN Tryz.func23 H
def F24.spec(H:aZ h (.cells #[ac j,ac k,ac l,ac m,ac n,ac o,.int .u8 p] 41) λb c=>Cl 76 [ag a,ac i] c λc d=>bi (some c) λc=>aC (Option.isNone c) (K (ac 222) d) (aN c λe=>bA (rd d (e.add 19)) λe=>aC e (K (ac 220) d) (aI .i64 (rd d ((ah b).add 0)) λe=>aI .i64 (rd d ((ah b).add 1)) λf=>aI .i64 (rd d ((ah b).add 2)) λg=>aI .i64 (rd d ((ah b).add 3)) λi=>aI .i64 (rd d ((ah b).add 4)) λj=>aI .i64 (rd d ((ah b).add 5)) λk=>aI .u8 (rd d ((ah b).add 6)) λl=>Cl 77 [ag a,ap c,.agg #[ac e,ac f,ac g,ac i,ac j,ac k,.int .u8 l]] d λa d=>aI .i64 (some a) λa=>aC (a !=0) (K (ac a) d) (aI .i64 (rd d ((ah b).add 0)) λa=>aI .i64 (rd d ((ah b).add 1)) λe=>aI .i64 (rd d ((ah b).add 2)) λf=>aI .i64 (rd d ((ah b).add 3)) λg=>aI .i64 (rd d ((ah b).add 4)) λi=>aI .i64 (rd d ((ah b).add 5)) λj=>aI .u8 (rd d ((ah b).add 6)) λb=>aN c λk=>aP d ((k.add 12).add 0) (ac a) λa=>aP a ((k.add 12).add 1) (ac e) λa=>aP a ((k.add 12).add 2) (ac f) λa=>aP a ((k.add 12).add 3) (ac g) λa=>aP a ((k.add 12).add 4) (ac i) λa=>aP a ((k.add 12).add 5) (ac j) λa=>aP a ((k.add 12).add 6) (.int .u8 b) λa=>aN c λb=>aP a ((b.add 19).add 0) au λa=>aN c λb=>aP a ((b.add 20).add 0) (ac 0) λa=>K (ac 0) a)))):Cl 24 [ag a,ac i,.agg #[ac j,ac k,ac l,ac m,ac n,ac o,.int .u8 p]] h K:=cN Tryz.func24 H
def F26.T:bf:=⟨[(4,[0,1,2,23]),(11,[0,1,2])],[]⟩
section
variable (n:Nat)(b:Addr)(c d a:Int)(h:aA)(K:KK)
def F26.wk11:Prop:=Cl 80 [ag b] h λa e=>a=ax/\bi (rd e (b.add 1)) λa=>Cl 81 [ap a,ac c,ac d] e λa b=>bA (some a) λ_=>K au b
def F26.wL4:Prop:=Lp Tryz.f26 F26.T [1,1,0,1,0] n [(0,(ag b)),(1,(ac c)),(2,(ac d)),(23,(ac a))] h K
def F26.sL4:F26.wL4 (n+1) b c d a h K=(aC (a<4) ((0<=a/\a<4/\bA (rd h (((b.add 3).add (a.toNat*24)).add 19)) λe=>aC e (aI .i64 (rd h ((((b.add 3).add (a.toNat*24)).add 12).add 0)) λe=>aI .i64 (rd h ((((b.add 3).add (a.toNat*24)).add 12).add 1)) λf=>aI .i64 (rd h ((((b.add 3).add (a.toNat*24)).add 12).add 2)) λg=>aI .i64 (rd h ((((b.add 3).add (a.toNat*24)).add 12).add 3)) λi=>aI .i64 (rd h ((((b.add 3).add (a.toNat*24)).add 12).add 4)) λj=>aI .i64 (rd h ((((b.add 3).add (a.toNat*24)).add 12).add 5)) λk=>aI .u8 (rd h ((((b.add 3).add (a.toNat*24)).add 12).add 6)) λl=>Cl 79 [ag b,.agg #[ac e,ac f,ac g,ac i,ac j,ac k,.int .u8 l]] h λe f=>qW (some e) λe=>gn Tryz.prog X e [ag ((b.add 3).add (a.toNat*24))] f λe f=>bA (some e) λ_=>F26.wL4 n b c d (ai (a+1)) f K) (F26.wL4 n b c d (ai (a+1)) h K))) (F26.wk11 b c d h K)):=by kernel_rfl
def F26.wk4:Prop:=(∃e,F26.wL4 e b c d a h K)
def F26.spec(H:aC (c<0) (K aq h) (Cl 27 [ag b] h λa e=>aI .i64 (some a) λa=>aC (c>=a) (K aq e) (Cl 78 [ag b] e λa e=>bA (some a) λa=>aC (!a) (K aq e) (F26.wk4 b c d 0 e K)))):Cl 26 [ag b,ac c,ac d] h K:=cT F26.T Tryz.func26 H
end
def F27.spec(H:bi (rd h (a.add 1)) λa=>Cl 68 [ap a] h λa b=>aI .i64 (some a) λa=>K (ac a) b):Cl 27 [ag a] h K:=cN Tryz.func27 H
def F28.T:bf:=⟨[],[(4,[[(0,[]),(1,[]),(2,[]),(3,[]),(4,[]),(5,[]),(6,[]),(7,[]),(8,[]),(9,[]),(10,[]),(11,[]),(12,[]),(13,[]),(14,[]),(15,[])]])]⟩
def F28.spec(H:Cl 76 [ag a,ac i] h λa b=>bi (some a) λa=>aC (Option.isNone a) (K (.tuple #[ae 0,aq]) b) (Cl 82 [ac j] b λb c=>bA (some b) λb=>aC (!b) (K (.tuple #[ae 0,aq]) c) (aN a λb=>0<=j/\j<6/\aI .u32 (rd c (((b.add 0).add (j.toNat*2)).add 1)) λb=>aN a λa=>0<=j/\j<6/\bA (rd c (((a.add 0).add (j.toNat*2)).add 0)) λa=>K (.tuple #[ae b,aw a]) c))):Cl 28 [ag a,ac i,ac j] h K:=cT F28.T Tryz.func28 H
def F43.spec(H:aZ h (.cells #[ac 0,af 0] 76) λb c=>Cl 76 [ag a,ac i] c λa c=>bi (some a) λa=>aC (Option.isNone a) (aP c ((ah b).add 0) (ac 0) λa=>aP a ((ah b).add 1) (af 0) λa=>aI .i64 (rd a ((ah b).add 0)) λc=>aI .u64 (rd a ((ah b).add 1)) λb=>K (.tuple #[.agg #[ac c,af b],aq]) a) (aN a λd=>bA (rd c (d.add 23)) λd=>aC (!d) (aP c ((ah b).add 0) (ac 0) λa=>aP a ((ah b).add 1) (af 0) λa=>aI .i64 (rd a ((ah b).add 0)) λc=>aI .u64 (rd a ((ah b).add 1)) λb=>K (.tuple #[.agg #[ac c,af b],aq]) a) (aN a λa=>aI .i64 (rd c ((a.add 21).add 0)) λd=>aI .u64 (rd c ((a.add 21).add 1)) λa=>aP c ((ah b).add 0) (ac d) λc=>aP c ((ah b).add 1) (af a) λa=>aI .i64 (rd a ((ah b).add 0)) λc=>aI .u64 (rd a ((ah b).add 1)) λb=>K (.tuple #[.agg #[ac c,af b],au]) a))):Cl 43 [ag a,ac i] h K:=cN Tryz.func43 H
def F54.spec(H:aI .i64 (rd h (a.add 99)) λa=>K (ac a) h):Cl 54 [ag a] h K:=cN Tryz.func54 H
def F56.spec(H:Cl 76 [ag a,ac i] h λa b=>bi (some a) λa=>aC (!(Option.isNone a)) (aN a λa=>bA (rd b (a.add 19)) λa=>K (aw a) b) (K aq b)):Cl 56 [ag a,ac i] h K:=cN Tryz.func56 H
def F76.spec(H:aC (i<0) (K (ap none) h) (aC (i>=4) (K (ap none) h) ((0<=i/\i<4/\K (ag ((a.add 3).add (i.toNat*24))) h)))):Cl 76 [ag a,ac i] h K:=cN Tryz.func76 H
def F77.T:bf:=⟨[(6,[0,1,5,28,29,30]),(11,[0,5])],[(11,[[(0,[]),(1,[]),(2,[]),(3,[]),(4,[]),(5,[]),(6,[]),(7,[0,1,2]),(8,[]),(9,[]),(10,[])]]),(12,[[(0,[]),(1,[]),(2,[]),(3,[]),(4,[]),(5,[]),(6,[]),(7,[0,1,2]),(8,[]),(9,[])]])]⟩
section
variable (n:Nat)(i j:Addr)(l o q r s t u:Int)(a:Addr)(c:ak)(b f:Nat)(g d:Int)(h:aA)(K:KK)
def F77.wk11:Prop:=aI .u8 (rd h (a.add 6)) λb=>bi (rd h (i.add 0)) λc=>Cl 75 [ap c] h λc d=>aI .i64 (some c) λc=>ay (ag (a.add 6))/\aI .u8 (rd d (a.add 6)) λe=>az (.int .u8 e) (.int .u8 b)/\ay (ac (ai b))/\0<=c/\aI .u8 (rd d (a.add 6)) λe=>bi (rd d (i.add 0)) λf=>Cl 75 [ap f] d λd f=>aI .i64 (some d) λd=>ay (ag (a.add 6))/\aI .u8 (rd f (a.add 6)) λg=>az (.int .u8 g) (.int .u8 e)/\ay (ac (ai e))/\aI .i64 (rd f (a.add 0)) λg=>aC (g==3) (aI .i64 (rd f (a.add 1)) λg=>Cl 122 [ac g] f λf g=>aI .i64 (some f) λf=>aC (f==0) (K (ac 200) g) (aI .i64 (rd g (a.add 0)) λf=>aC (f==1) (aC ((ai e)>=d) (aC ((ai e)>=d) (K (ac 40) g) (aI .i64 (rd g (a.add 0)) λd=>aC (d==3) (aI .i64 (rd g (a.add 1)) λd=>aC (d==6) (aC ((Int.fdiv (ai b) (2^(min (c.toNat) (IntKind.bits .i64)))) !=0) (K (ac 40) g) (K (ac 0) g)) (aI .i64 (rd g (a.add 1)) λa=>aC (a==7) (aC ((Int.fdiv (ai b) (2^(min (c.toNat) (IntKind.bits .i64)))) !=0) (K (ac 40) g) (K (ac 0) g)) (K (ac 0) g))) (K (ac 0) g))) (aI .i64 (rd g (a.add 0)) λf=>aC (f==3) (aI .i64 (rd g (a.add 1)) λf=>aC (f==8) (aC ((ai e)>=d) (K (ac 40) g) (aI .i64 (rd g (a.add 0)) λd=>aC (d==3) (aI .i64 (rd g (a.add 1)) λd=>aC (d==6) (aC ((Int.fdiv (ai b) (2^(min (c.toNat) (IntKind.bits .i64)))) !=0) (K (ac 40) g) (K (ac 0) g)) (aI .i64 (rd g (a.add 1)) λa=>aC (a==7) (aC ((Int.fdiv (ai b) (2^(min (c.toNat) (IntKind.bits .i64)))) !=0) (K (ac 40) g) (K (ac 0) g)) (K (ac 0) g))) (K (ac 0) g))) (aI .i64 (rd g (a.add 0)) λd=>aC (d==3) (aI .i64 (rd g (a.add 1)) λd=>aC (d==6) (aC ((Int.fdiv (ai b) (2^(min (c.toNat) (IntKind.bits .i64)))) !=0) (K (ac 40) g) (K (ac 0) g)) (aI .i64 (rd g (a.add 1)) λa=>aC (a==7) (aC ((Int.fdiv (ai b) (2^(min (c.toNat) (IntKind.bits .i64)))) !=0) (K (ac 40) g) (K (ac 0) g)) (K (ac 0) g))) (K (ac 0) g))) (aI .i64 (rd g (a.add 0)) λd=>aC (d==3) (aI .i64 (rd g (a.add 1)) λd=>aC (d==6) (aC ((Int.fdiv (ai b) (2^(min (c.toNat) (IntKind.bits .i64)))) !=0) (K (ac 40) g) (K (ac 0) g)) (aI .i64 (rd g (a.add 1)) λa=>aC (a==7) (aC ((Int.fdiv (ai b) (2^(min (c.toNat) (IntKind.bits .i64)))) !=0) (K (ac 40) g) (K (ac 0) g)) (K (ac 0) g))) (K (ac 0) g)))) (aI .i64 (rd g (a.add 0)) λf=>aC (f==3) (aI .i64 (rd g (a.add 1)) λf=>aC (f==8) (aC ((ai e)>=d) (K (ac 40) g) (aI .i64 (rd g (a.add 0)) λd=>aC (d==3) (aI .i64 (rd g (a.add 1)) λd=>aC (d==6) (aC ((Int.fdiv (ai b) (2^(min (c.toNat) (IntKind.bits .i64)))) !=0) (K (ac 40) g) (K (ac 0) g)) (aI .i64 (rd g (a.add 1)) λa=>aC (a==7) (aC ((Int.fdiv (ai b) (2^(min (c.toNat) (IntKind.bits .i64)))) !=0) (K (ac 40) g) (K (ac 0) g)) (K (ac 0) g))) (K (ac 0) g))) (aI .i64 (rd g (a.add 0)) λd=>aC (d==3) (aI .i64 (rd g (a.add 1)) λd=>aC (d==6) (aC ((Int.fdiv (ai b) (2^(min (c.toNat) (IntKind.bits .i64)))) !=0) (K (ac 40) g) (K (ac 0) g)) (aI .i64 (rd g (a.add 1)) λa=>aC (a==7) (aC ((Int.fdiv (ai b) (2^(min (c.toNat) (IntKind.bits .i64)))) !=0) (K (ac 40) g) (K (ac 0) g)) (K (ac 0) g))) (K (ac 0) g))) (aI .i64 (rd g (a.add 0)) λd=>aC (d==3) (aI .i64 (rd g (a.add 1)) λd=>aC (d==6) (aC ((Int.fdiv (ai b) (2^(min (c.toNat) (IntKind.bits .i64)))) !=0) (K (ac 40) g) (K (ac 0) g)) (aI .i64 (rd g (a.add 1)) λa=>aC (a==7) (aC ((Int.fdiv (ai b) (2^(min (c.toNat) (IntKind.bits .i64)))) !=0) (K (ac 40) g) (K (ac 0) g)) (K (ac 0) g))) (K (ac 0) g))))) (aI .i64 (rd f (a.add 0)) λg=>aC (g==1) (aC ((ai e)>=d) (aC ((ai e)>=d) (K (ac 40) f) (aI .i64 (rd f (a.add 0)) λd=>aC (d==3) (aI .i64 (rd f (a.add 1)) λd=>aC (d==6) (aC ((Int.fdiv (ai b) (2^(min (c.toNat) (IntKind.bits .i64)))) !=0) (K (ac 40) f) (K (ac 0) f)) (aI .i64 (rd f (a.add 1)) λa=>aC (a==7) (aC ((Int.fdiv (ai b) (2^(min (c.toNat) (IntKind.bits .i64)))) !=0) (K (ac 40) f) (K (ac 0) f)) (K (ac 0) f))) (K (ac 0) f))) (aI .i64 (rd f (a.add 0)) λg=>aC (g==3) (aI .i64 (rd f (a.add 1)) λg=>aC (g==8) (aC ((ai e)>=d) (K (ac 40) f) (aI .i64 (rd f (a.add 0)) λd=>aC (d==3) (aI .i64 (rd f (a.add 1)) λd=>aC (d==6) (aC ((Int.fdiv (ai b) (2^(min (c.toNat) (IntKind.bits .i64)))) !=0) (K (ac 40) f) (K (ac 0) f)) (aI .i64 (rd f (a.add 1)) λa=>aC (a==7) (aC ((Int.fdiv (ai b) (2^(min (c.toNat) (IntKind.bits .i64)))) !=0) (K (ac 40) f) (K (ac 0) f)) (K (ac 0) f))) (K (ac 0) f))) (aI .i64 (rd f (a.add 0)) λd=>aC (d==3) (aI .i64 (rd f (a.add 1)) λd=>aC (d==6) (aC ((Int.fdiv (ai b) (2^(min (c.toNat) (IntKind.bits .i64)))) !=0) (K (ac 40) f) (K (ac 0) f)) (aI .i64 (rd f (a.add 1)) λa=>aC (a==7) (aC ((Int.fdiv (ai b) (2^(min (c.toNat) (IntKind.bits .i64)))) !=0) (K (ac 40) f) (K (ac 0) f)) (K (ac 0) f))) (K (ac 0) f))) (aI .i64 (rd f (a.add 0)) λd=>aC (d==3) (aI .i64 (rd f (a.add 1)) λd=>aC (d==6) (aC ((Int.fdiv (ai b) (2^(min (c.toNat) (IntKind.bits .i64)))) !=0) (K (ac 40) f) (K (ac 0) f)) (aI .i64 (rd f (a.add 1)) λa=>aC (a==7) (aC ((Int.fdiv (ai b) (2^(min (c.toNat) (IntKind.bits .i64)))) !=0) (K (ac 40) f) (K (ac 0) f)) (K (ac 0) f))) (K (ac 0) f)))) (aI .i64 (rd f (a.add 0)) λg=>aC (g==3) (aI .i64 (rd f (a.add 1)) λg=>aC (g==8) (aC ((ai e)>=d) (K (ac 40) f) (aI .i64 (rd f (a.add 0)) λd=>aC (d==3) (aI .i64 (rd f (a.add 1)) λd=>aC (d==6) (aC ((Int.fdiv (ai b) (2^(min (c.toNat) (IntKind.bits .i64)))) !=0) (K (ac 40) f) (K (ac 0) f)) (aI .i64 (rd f (a.add 1)) λa=>aC (a==7) (aC ((Int.fdiv (ai b) (2^(min (c.toNat) (IntKind.bits .i64)))) !=0) (K (ac 40) f) (K (ac 0) f)) (K (ac 0) f))) (K (ac 0) f))) (aI .i64 (rd f (a.add 0)) λd=>aC (d==3) (aI .i64 (rd f (a.add 1)) λd=>aC (d==6) (aC ((Int.fdiv (ai b) (2^(min (c.toNat) (IntKind.bits .i64)))) !=0) (K (ac 40) f) (K (ac 0) f)) (aI .i64 (rd f (a.add 1)) λa=>aC (a==7) (aC ((Int.fdiv (ai b) (2^(min (c.toNat) (IntKind.bits .i64)))) !=0) (K (ac 40) f) (K (ac 0) f)) (K (ac 0) f))) (K (ac 0) f))) (aI .i64 (rd f (a.add 0)) λd=>aC (d==3) (aI .i64 (rd f (a.add 1)) λd=>aC (d==6) (aC ((Int.fdiv (ai b) (2^(min (c.toNat) (IntKind.bits .i64)))) !=0) (K (ac 40) f) (K (ac 0) f)) (aI .i64 (rd f (a.add 1)) λa=>aC (a==7) (aC ((Int.fdiv (ai b) (2^(min (c.toNat) (IntKind.bits .i64)))) !=0) (K (ac 40) f) (K (ac 0) f)) (K (ac 0) f))) (K (ac 0) f))))
def F77.wL6:Prop:=Lp Tryz.f77 F77.T [1,1,1,0,1,0] n [(0,(ag i)),(1,(ag j)),(5,(ag a)),(28,(.slice c b f)),(29,(ac g)),(30,(ac d))] h K
def F77.sL6:F77.wL6 (n+1) i j a c b f g d h K=(aC (d<g) (aN c λe=>0<=d/\d<(b:Int)/\aI .i64 (rd h (e.add (d.toNat*1))) λe=>Cl 82 [ac e] h λk l=>bA (some k) λk=>aC (!k) (K (ac 221) l) ((0<=e/\e<6/\bA (rd l (((j.add 0).add (e.toNat*2)).add 0)) λe=>aC (!e) (K (ac 221) l) (F77.wL6 n i j a c b f g (ai (d+1)) l K)))) (F77.wk11 i a h K)):=by kernel_rfl
def F77.wk6:Prop:=(∃e,F77.wL6 e i j a c b f g d h K)
def F77.spec(H:aZ h (.cells #[ac l,ac o,ac q,ac r,ac s,ac t,.int .u8 u] 41) λa b=>aI .i64 (rd b ((ah a).add 0)) λc=>aC (c<1) (K (ac 222) b) (aI .i64 (rd b ((ah a).add 0)) λc=>aC (c>8) (K (ac 222) b) (aI .i64 (rd b ((ah a).add 0)) λc=>aI .i64 (rd b ((ah a).add 1)) λd=>aI .i64 (rd b ((ah a).add 2)) λe=>aI .i64 (rd b ((ah a).add 3)) λf=>aI .i64 (rd b ((ah a).add 4)) λg=>aI .i64 (rd b ((ah a).add 5)) λk=>aI .u8 (rd b ((ah a).add 6)) λl=>Cl 120 [.agg #[ac c,ac d,ac e,ac f,ac g,ac k,.int .u8 l]] b λb c=>bA (some b) λb=>aC b (aI .i64 (rd c ((ah a).add 2)) λb=>Cl 82 [ac b] c λb c=>bA (some b) λb=>aC (!b) (K (ac 221) c) (aI .i64 (rd c ((ah a).add 0)) λb=>aI .i64 (rd c ((ah a).add 1)) λd=>aI .i64 (rd c ((ah a).add 2)) λe=>aI .i64 (rd c ((ah a).add 3)) λf=>aI .i64 (rd c ((ah a).add 4)) λg=>aI .i64 (rd c ((ah a).add 5)) λk=>aI .u8 (rd c ((ah a).add 6)) λl=>Cl 121 [.agg #[ac b,ac d,ac e,ac f,ac g,ac k,.int .u8 l]] c λb c=>cW (some b) λb d e=>F77.wk6 i j (ah a) b d e (d:Int) 0 c K)) (aI .i64 (rd c ((ah a).add 0)) λb=>aI .i64 (rd c ((ah a).add 1)) λd=>aI .i64 (rd c ((ah a).add 2)) λe=>aI .i64 (rd c ((ah a).add 3)) λf=>aI .i64 (rd c ((ah a).add 4)) λg=>aI .i64 (rd c ((ah a).add 5)) λk=>aI .u8 (rd c ((ah a).add 6)) λl=>Cl 121 [.agg #[ac b,ac d,ac e,ac f,ac g,ac k,.int .u8 l]] c λb c=>cW (some b) λb d e=>F77.wk6 i j (ah a) b d e (d:Int) 0 c K)))):Cl 77 [ag i,ag j,.agg #[ac l,ac o,ac q,ac r,ac s,ac t,.int .u8 u]] h K:=cT F77.T Tryz.func77 H
end
def F78.T:bf:=⟨[(2,[8,9])],[]⟩
section
variable (n:Nat)(c:Addr)(b:List Value)(a:Int)(h:aA)(K:KK)
def F78.wL2:Prop:=Lp Tryz.f78 F78.T [1,0,1,0] n [(8,(.agg (List.toArray b))),(9,(ac a))] h K
def F78.sL2:F78.wL2 (n+1) b a h K=(aC (a<4) ((0<=a/\a<4/\bA (b[a.toNat*24+0]?) λc=>aI .u32 (b[a.toNat*24+1]?) λd=>bA (b[a.toNat*24+2]?) λe=>aI .u32 (b[a.toNat*24+3]?) λf=>bA (b[a.toNat*24+4]?) λg=>aI .u32 (b[a.toNat*24+5]?) λi=>bA (b[a.toNat*24+6]?) λj=>aI .u32 (b[a.toNat*24+7]?) λk=>bA (b[a.toNat*24+8]?) λl=>aI .u32 (b[a.toNat*24+9]?) λm=>bA (b[a.toNat*24+10]?) λo=>aI .u32 (b[a.toNat*24+11]?) λp=>aI .i64 (b[a.toNat*24+12]?) λq=>aI .i64 (b[a.toNat*24+13]?) λr=>aI .i64 (b[a.toNat*24+14]?) λs=>aI .i64 (b[a.toNat*24+15]?) λt=>aI .i64 (b[a.toNat*24+16]?) λu=>aI .i64 (b[a.toNat*24+17]?) λv=>aI .u8 (b[a.toNat*24+18]?) λw=>bA (b[a.toNat*24+19]?) λx=>aI .i64 (b[a.toNat*24+20]?) λy=>aI .i64 (b[a.toNat*24+21]?) λz=>aI .u64 (b[a.toNat*24+22]?) λA=>bA (b[a.toNat*24+23]?) λB=>aZ h (.cells #[aq,ae 0,aq,ae 0,aq,ae 0,aq,ae 0,aq,ae 0,aq,ae 0,ac 0,ac 0,ac 0,ac 0,ac 0,ac 0,.int .u8 0,aq,ac 0,ac 0,af 0,aq] 129) λC D=>aP D ((ah C).add 0) (aw c) λc=>aP c ((ah C).add 1) (ae d) λc=>aP c ((ah C).add 2) (aw e) λc=>aP c ((ah C).add 3) (ae f) λc=>aP c ((ah C).add 4) (aw g) λc=>aP c ((ah C).add 5) (ae i) λc=>aP c ((ah C).add 6) (aw j) λc=>aP c ((ah C).add 7) (ae k) λc=>aP c ((ah C).add 8) (aw l) λc=>aP c ((ah C).add 9) (ae m) λc=>aP c ((ah C).add 10) (aw o) λc=>aP c ((ah C).add 11) (ae p) λc=>aP c ((ah C).add 12) (ac q) λc=>aP c ((ah C).add 13) (ac r) λc=>aP c ((ah C).add 14) (ac s) λc=>aP c ((ah C).add 15) (ac t) λc=>aP c ((ah C).add 16) (ac u) λc=>aP c ((ah C).add 17) (ac v) λc=>aP c ((ah C).add 18) (.int .u8 w) λc=>aP c ((ah C).add 19) (aw x) λc=>aP c ((ah C).add 20) (ac y) λc=>aP c ((ah C).add 21) (ac z) λc=>aP c ((ah C).add 22) (af A) λc=>aP c ((ah C).add 23) (aw B) λc=>bA (rd c ((ah C).add 19)) λd=>aC d (K au c) (F78.wL2 n b (ai (a+1)) c K))) (K aq h)):=by kernel_rfl
def F78.wk2:Prop:=(∃c,F78.wL2 c b a h K)
def F78.spec(H:D4 h (c.add 3) 96 λa=>F78.wk2 a 0 h K):Cl 78 [ag c] h K:=cT F78.T Tryz.func78 H
end
def F79.spec(H:aZ h (.cells #[ac i,ac j,ac k,ac l,ac m,ac n,.int .u8 o] 41) λb c=>aI .i64 (rd c ((ah b).add 0)) λb=>aC (b==1) (aC (b==1) (K (.func (.func 123) #[ag a] #[]) c) (aC (b==4) (aC (b==4) (K (.func (.func 124) #[ag a] #[]) c) (aC (b==7) (K (.func (.func 125) #[ag a] #[]) c) (aC (b==8) (K (.func (.func 126) #[ag a] #[]) c) (K (.func (.func 127) #[ag a] #[]) c)))) (aC (b==5) (K (.func (.func 124) #[ag a] #[]) c) (aC (b==7) (K (.func (.func 125) #[ag a] #[]) c) (aC (b==8) (K (.func (.func 126) #[ag a] #[]) c) (K (.func (.func 127) #[ag a] #[]) c)))))) (aC (b==2) (aC (b==2) (K (.func (.func 123) #[ag a] #[]) c) (aC (b==4) (aC (b==4) (K (.func (.func 124) #[ag a] #[]) c) (aC (b==7) (K (.func (.func 125) #[ag a] #[]) c) (aC (b==8) (K (.func (.func 126) #[ag a] #[]) c) (K (.func (.func 127) #[ag a] #[]) c)))) (aC (b==5) (K (.func (.func 124) #[ag a] #[]) c) (aC (b==7) (K (.func (.func 125) #[ag a] #[]) c) (aC (b==8) (K (.func (.func 126) #[ag a] #[]) c) (K (.func (.func 127) #[ag a] #[]) c)))))) (aC (b==6) (K (.func (.func 123) #[ag a] #[]) c) (aC (b==4) (aC (b==4) (K (.func (.func 124) #[ag a] #[]) c) (aC (b==7) (K (.func (.func 125) #[ag a] #[]) c) (aC (b==8) (K (.func (.func 126) #[ag a] #[]) c) (K (.func (.func 127) #[ag a] #[]) c)))) (aC (b==5) (K (.func (.func 124) #[ag a] #[]) c) (aC (b==7) (K (.func (.func 125) #[ag a] #[]) c) (aC (b==8) (K (.func (.func 126) #[ag a] #[]) c) (K (.func (.func 127) #[ag a] #[]) c)))))))):Cl 79 [ag a,.agg #[ac i,ac j,ac k,ac l,ac m,ac n,.int .u8 o]] h K:=cN Tryz.func79 H
def F80.T:bf:=⟨[],[(0,[[(0,[]),(1,[]),(2,[]),(3,[]),(5,[]),(6,[]),(7,[]),(8,[]),(4,[5,6,7,8]),(9,[]),(10,[])]])]⟩
def F80.spec(H:bi (rd h (a.add 0)) λb=>bi (rd h (a.add 0)) λc=>Cl 45 [ap b] h λb d=>aI .i64 (some b) λb=>ay (ag a)/\ay (ag a)/\ay (ag (a.add 0))/\bi (rd d (a.add 0)) λe=>az (ap e) (ap c)/\Cl 70 [ap c] d λc d=>aI .i64 (some c) λc=>aC (b>=c) (Cl 128 [ag a] d λa b=>a=ax/\K ax b) (K ax d)):Cl 80 [ag a] h K:=cT F80.T Tryz.func80 H
def F82.spec(H:aC (i>=0) (K (aw (i<6)) h) (K aq h)):Cl 82 [ac i] h K:=cN Tryz.func82 H
def F120.spec(H:aZ h (.cells #[ac i,ac j,ac k,ac l,ac m,ac n,.int .u8 o] 41) λa b=>aI .i64 (rd b ((ah a).add 0)) λc=>aC (c>=1) (aI .i64 (rd b ((ah a).add 0)) λc=>aC (c<=3) (K au b) (aI .i64 (rd b ((ah a).add 0)) λa=>K (aw (a==6)) b)) (aI .i64 (rd b ((ah a).add 0)) λa=>K (aw (a==6)) b)):Cl 120 [.agg #[ac i,ac j,ac k,ac l,ac m,ac n,.int .u8 o]] h K:=cN Tryz.func120 H
def F121.T:bf:=⟨[],[(7,[[(0,[]),(1,[]),(2,[]),(3,[]),(4,[]),(5,[]),(7,[]),(8,[]),(6,[7,8]),(9,[0,1,2,3,4,5]),(10,[]),(11,[])],[(0,[]),(1,[]),(2,[]),(3,[]),(4,[]),(5,[]),(7,[]),(8,[]),(9,[0,1,2,3,4,5]),(6,[7,8]),(10,[]),(11,[])]])]⟩
def F121.spec(H:aZ h (.cells #[ac i,ac j,ac k,ac l,ac m,ac n,.int .u8 o] 41) λa b=>aI .i64 (rd b ((ah a).add 0)) λc=>aC (c==4) (aI .i64 (rd b ((ah a).add 3)) λa=>aZ b (.cells #[ac a] 3) λa b=>K (.slice (some (ah a)) 1 1) b) (aC (c==5) (aI .i64 (rd b ((ah a).add 3)) λc=>aI .i64 (rd b ((ah a).add 4)) λa=>aZ b (.cells #[ac c,ac a] 3) λa b=>K (.slice (some (ah a)) 2 2) b) (aC (c==3) ((aI .i64 (rd b ((ah a).add 3)) (λc=>aI .i64 (rd b ((ah a).add 4)) λd=>aI .i64 (rd b ((ah a).add 5)) λe=>aI .i64 (rd b ((ah a).add 1)) λf=>aZ b (.cells #[ac c,ac d,ac e] 3) λb g=>ay (ag ((ah a).add 1))/\aI .i64 (rd g ((ah a).add 1)) λi=>az (ac i) (ac f)/\Cl 122 [ac f] g λf g=>aI .i64 (some f) λf=>ay (ag ((ah a).add 3))/\aI .i64 (rd g ((ah a).add 3)) λi=>az (ac i) (ac c)/\ay (ag ((ah a).add 4))/\aI .i64 (rd g ((ah a).add 4)) λc=>az (ac c) (ac d)/\ay (ag ((ah a).add 5))/\aI .i64 (rd g ((ah a).add 5)) λa=>az (ac a) (ac e)/\0<=f/\f<=3/\K (.slice (if 3=0 then(some (ah b))else Option.map (λa=>Addr.add a (0*1)) (some (ah b))) (f.toNat-0) (3-0)) g)/\aI .i64 (rd b ((ah a).add 3)) λc=>aI .i64 (rd b ((ah a).add 4)) λd=>aI .i64 (rd b ((ah a).add 5)) λe=>aI .i64 (rd b ((ah a).add 1)) λf=>Cl 122 [ac f] b λb g=>aI .i64 (some b) λb=>ay (ag ((ah a).add 3))/\aI .i64 (rd g ((ah a).add 3)) λi=>az (ac i) (ac c)/\ay (ag ((ah a).add 4))/\aI .i64 (rd g ((ah a).add 4)) λi=>az (ac i) (ac d)/\ay (ag ((ah a).add 5))/\aI .i64 (rd g ((ah a).add 5)) λi=>az (ac i) (ac e)/\aZ g (.cells #[ac c,ac d,ac e] 3) λc d=>ay (ag ((ah a).add 1))/\aI .i64 (rd d ((ah a).add 1)) λa=>az (ac a) (ac f)/\0<=b/\b<=3/\K (.slice (if 3=0 then(some (ah c))else Option.map (λa=>Addr.add a (0*1)) (some (ah c))) (b.toNat-0) (3-0)) d)) (K (.slice none 0 0) b)))):Cl 121 [.agg #[ac i,ac j,ac k,ac l,ac m,ac n,.int .u8 o]] h K:=cT F121.T Tryz.func121 H
def F122.spec(H:aC (i==1) (aC (i==1) (K (ac 1) h) (aC (i==2) (aC (i==2) (K (ac 2) h) (aC (i==5) (K (ac 3) h) (K (ac 0) h))) (aC (i==3) (aC (i==3) (K (ac 2) h) (aC (i==5) (K (ac 3) h) (K (ac 0) h))) (aC (i==4) (aC (i==4) (K (ac 2) h) (aC (i==5) (K (ac 3) h) (K (ac 0) h))) (aC (i==8) (aC (i==8) (K (ac 2) h) (aC (i==5) (K (ac 3) h) (K (ac 0) h))) (aC (i==9) (aC (i==9) (K (ac 2) h) (aC (i==5) (K (ac 3) h) (K (ac 0) h))) (aC (i==10) (K (ac 2) h) (aC (i==5) (K (ac 3) h) (K (ac 0) h))))))))) (aC (i==6) (aC (i==6) (K (ac 1) h) (aC (i==2) (aC (i==2) (K (ac 2) h) (aC (i==5) (K (ac 3) h) (K (ac 0) h))) (aC (i==3) (aC (i==3) (K (ac 2) h) (aC (i==5) (K (ac 3) h) (K (ac 0) h))) (aC (i==4) (aC (i==4) (K (ac 2) h) (aC (i==5) (K (ac 3) h) (K (ac 0) h))) (aC (i==8) (aC (i==8) (K (ac 2) h) (aC (i==5) (K (ac 3) h) (K (ac 0) h))) (aC (i==9) (aC (i==9) (K (ac 2) h) (aC (i==5) (K (ac 3) h) (K (ac 0) h))) (aC (i==10) (K (ac 2) h) (aC (i==5) (K (ac 3) h) (K (ac 0) h))))))))) (aC (i==7) (K (ac 1) h) (aC (i==2) (aC (i==2) (K (ac 2) h) (aC (i==5) (K (ac 3) h) (K (ac 0) h))) (aC (i==3) (aC (i==3) (K (ac 2) h) (aC (i==5) (K (ac 3) h) (K (ac 0) h))) (aC (i==4) (aC (i==4) (K (ac 2) h) (aC (i==5) (K (ac 3) h) (K (ac 0) h))) (aC (i==8) (aC (i==8) (K (ac 2) h) (aC (i==5) (K (ac 3) h) (K (ac 0) h))) (aC (i==9) (aC (i==9) (K (ac 2) h) (aC (i==5) (K (ac 3) h) (K (ac 0) h))) (aC (i==10) (K (ac 2) h) (aC (i==5) (K (ac 3) h) (K (ac 0) h))))))))))):Cl 122 [ac i] h K:=cN Tryz.func122 H
def F123.T:bf:=⟨[(8,[0,1,5])],[]⟩
section
variable (b a:Addr)(c:Int)(h:aA)(K:KK)
def F123.wk8:Prop:=Cl 168 [ag b,ag a,.agg #[ac c,af 0]] h λa b=>a=ax/\K au b
end
def F123.spec(H:aI .i64 (rd h ((b.add 12).add 0)) λc=>aC (c==1) (Cl 165 [ag a,ag b] h λc d=>aI .i64 (some c) λc=>F123.wk8 a b c d K) (aC (c==6) (Cl 166 [ag a,ag b] h λc d=>c=ax/\F123.wk8 a b 0 d K) (aI .u8 (rd h ((b.add 12).add 6)) λc=>Cl 167 [ag a,ag b,ae (IntKind.wrap .u32 (if 1<c then 1 else c))] h λc d=>c=ax/\F123.wk8 a b 0 d K))):Cl 123 [ag a,ag b] h K:=cT F123.T Tryz.func123 H
def F127.T:bf:=⟨[(8,[0,1,6])],[(3,[[(0,[]),(1,[]),(2,[]),(3,[]),(4,[]),(5,[]),(6,[]),(7,[]),(8,[]),(9,[]),(10,[]),(11,[]),(12,[]),(13,[])]]),(8,[[(0,[]),(1,[]),(2,[]),(3,[]),(4,[]),(5,[]),(6,[]),(7,[]),(8,[])]])]⟩
section
variable (b a:Addr)(c:Int)(h:aA)(K:KK)
def F127.wk8:Prop:=bi (rd h (b.add 1)) λd=>aI .i64 (rd h (a.add 20)) λe=>Cl 36 [ap d,ac e] h λd e=>bA (some d) λ_=>Cl 168 [ag b,ag a,.agg #[ac c,af 0]] e λa b=>a=ax/\K au b
end
def F127.spec(H:aI .i64 (rd h (b.add 20)) λc=>aC (c==0) (Cl 172 [ag a,ag b] h λa b=>bA (some a) λa=>K (aw a) b) (bi (rd h (a.add 1)) λc=>aI .i64 (rd h (b.add 20)) λd=>Cl 38 [ap c,ac d] h λc d=> ∃e:Int,∃f:Int,c=(.tuple #[ae e,ac f])/\aC (f==61) (K aq d) (aC (f==0) (Cl 167 [ag a,ag b,ae e] d λc d=>c=ax/\F127.wk8 a b f d K) (F127.wk8 a b f d K)))):Cl 127 [ag a,ag b] h K:=cT F127.T Tryz.func127 H
def F128.T:bf:=⟨[(2,[0,2,10,11,12]),(6,[0,2]),(8,[0,33,34])],[(6,[[(0,[]),(1,[]),(2,[]),(3,[]),(4,[]),(5,[]),(6,[]),(7,[]),(8,[])]])]⟩
section
variable (n:Nat)(a:Addr)(j:ak)(f i:Nat)(c:ak)(b g:Nat)(l d o q:Int)(h:aA)(K:KK)
def F128.wL8:Prop:=Lp Tryz.f128 F128.T [1,1,1,1,0] n [(0,(ag a)),(33,(ac o)),(34,(ac q))] h K
def F128.sL8:F128.wL8 (n+1) a o q h K=(aC (q<o) (bi (rd h (a.add 2)) λb=>Cl 176 [ap b,ac 0] h λb c=> ∃d:Int,∃e:Bool,b=(.tuple #[ae d,aw e])/\F128.wL8 n a o (ai (q+1)) c K) (K ax h)):=by kernel_rfl
def F128.wk8:Prop:=(∃b,F128.wL8 b a o q h K)
def F128.wk6(a:Addr)(j:ak)(f i:Nat)(h:aA)(K:KK):Prop:=bi (rd h (a.add 0)) λb=>bi (rd h (a.add 2)) λc=>Cl 175 [ap b,ap c] h λb c=> ∃d:Int,∃e:Int,b=(.tuple #[ac d,ac e])/\F128.wk8 a (f:Int) 0 c K
def F128.wL2:Prop:=Lp Tryz.f128 F128.T [1,0,1,0] n [(0,(ag a)),(2,(.slice j f i)),(10,(.slice c b g)),(11,(ac l)),(12,(ac d))] h K
def F128.sL2:F128.wL2 (n+1) a j f i c b g l d h K=(aC (d<l) (aN c λe=>0<=d/\d<(b:Int)/\aI .u32 (rd h (e.add (d.toNat*1))) λe=>bi (rd h (a.add 2)) λk=>Cl 174 [ap k,ac 0,ae e] h λe k=>bA (some e) λ_=>F128.wL2 n a j f i c b g l (ai (d+1)) k K) (F128.wk6 a j f i h K)):=by kernel_rfl
def F128.wk2:Prop:=(∃e,F128.wL2 e a j f i c b g l d h K)
def F128.spec(H:bi (rd h (a.add 1)) λb=>Cl 173 [ap b] h λb c=>cW (some b) λb d e=>F128.wk2 a b d e b d e (d:Int) 0 c K):Cl 128 [ag a] h K:=cT F128.T Tryz.func128 H
end
def F165.T:bf:=⟨[],[(2,[[(0,[]),(1,[]),(2,[]),(3,[]),(4,[]),(5,[]),(6,[]),(7,[]),(8,[]),(9,[]),(10,[]),(11,[]),(12,[]),(13,[]),(14,[]),(15,[])]])]⟩
def F165.spec(H:Cl 80 [ag a] h λc d=>c=ax/\bi (rd d (a.add 0)) λc=>aI .u8 (rd d ((b.add 12).add 6)) λe=>Cl 208 [ap c,ac (ai e)] d λc d=> ∃e:Int,∃f:Int,c=(.tuple #[ae e,ac f])/\aC (f==0) (Cl 167 [ag a,ag b,ae e] d λa b=>a=ax/\K (ac f) b) (K (ac f) d)):Cl 165 [ag a,ag b] h K:=cT F165.T Tryz.func165 H
def F166.T:bf:=⟨[(3,[1])],[(0,[[(0,[]),(1,[]),(2,[]),(3,[]),(4,[]),(5,[]),(6,[]),(7,[]),(8,[]),(9,[]),(10,[0,1,2,3,4,5,6,7,8,9]),(11,[])]]),(2,[[(0,[]),(1,[]),(2,[]),(3,[]),(4,[]),(5,[]),(6,[])]]),(3,[[(0,[]),(1,[]),(2,[]),(3,[]),(4,[]),(5,[]),(6,[]),(7,[]),(8,[]),(9,[]),(10,[])]])]⟩
section
variable (a:Addr)(h:aA)(K:KK)
def F166.wk3:Prop:=aI .i64 (rd h ((a.add 12).add 2)) λb=>0<=b/\b<6/\aP h (((a.add 0).add (b.toNat*2)).add 0) aq λc=>aP c (((a.add 0).add (b.toNat*2)).add 1) (ae 0) λa=>K ax a
end
def F166.spec(H:aI .i64 (rd h ((b.add 12).add 2)) λc=>0<=c/\c<6/\bA (rd h (((b.add 0).add (c.toNat*2)).add 0)) λd=>aI .u32 (rd h (((b.add 0).add (c.toNat*2)).add 1)) λe=>aZ h (.cells #[aq,ae 0] 126) λf g=>ay (ag b)/\ay (ag b)/\ay (ag b)/\ay (ag (b.add 12))/\ay (ag ((b.add 12).add 2))/\aI .i64 (rd g ((b.add 12).add 2)) λi=>az (ac i) (ac c)/\ay (ag b)/\ay (ag (b.add 0))/\0<=c/\c<6/\ay (ag ((b.add 0).add (c.toNat*2)))/\bA (rd g (((b.add 0).add (c.toNat*2)).add 0)) λi=>aI .u32 (rd g (((b.add 0).add (c.toNat*2)).add 1)) λc=>az (.agg #[aw i,ae c]) (.agg #[aw d,ae e])/\aP g ((ah f).add 0) (aw d) λc=>aP c ((ah f).add 1) (ae e) λc=>bA (rd c ((ah f).add 0)) λd=>aC d (bi (rd c (a.add 2)) λa=>aI .u32 (rd c ((ah f).add 1)) λd=>Cl 209 [ap a,ae d] c λa c=>aI .i64 (some a) λ_=>F166.wk3 b c K) (F166.wk3 b c K)):Cl 166 [ag a,ag b] h K:=cT F166.T Tryz.func166 H
def F167.T:bf:=⟨[],[(1,[[(0,[]),(1,[]),(2,[]),(3,[]),(4,[]),(5,[]),(6,[]),(7,[]),(8,[]),(9,[]),(10,[]),(11,[])]])]⟩
def F167.spec(H:Cl 166 [ag a,ag b] h λc d=>c=ax/\aI .i64 (rd d ((b.add 12).add 2)) λc=>0<=c/\c<6/\aP d (((b.add 0).add (c.toNat*2)).add 0) au λd=>aP d (((b.add 0).add (c.toNat*2)).add 1) (ae i) λb=>bi (rd b (a.add 2)) λa=>Cl 210 [ap a,ae i] b λa b=>a=ax/\K ax b):Cl 167 [ag a,ag b,ae i] h K:=cT F167.T Tryz.func167 H
def F168.spec(H:aZ h (.cells #[ac i,af j] 76) λc d=>aI .i64 (rd d ((ah c).add 0)) λe=>aI .u64 (rd d ((ah c).add 1)) λc=>aP d ((b.add 21).add 0) (ac e) λd=>aP d ((b.add 21).add 1) (af c) λc=>aP c ((b.add 23).add 0) au λc=>aP c ((b.add 19).add 0) aq λb=>aI .i64 (rd b (a.add 99)) λc=>aP b ((a.add 99).add 0) (ac (ai (c+1))) λa=>K ax a):Cl 168 [ag a,ag b,.agg #[ac i,af j]] h K:=cN Tryz.func168 H
def F172.T:bf:=⟨[(6,[0,1,5,6,18,19,20]),(10,[0,1,5,6])],[(10,[[(0,[]),(1,[]),(2,[]),(3,[]),(4,[]),(5,[]),(6,[]),(7,[]),(8,[]),(9,[]),(10,[]),(11,[]),(12,[]),(13,[]),(14,[]),(15,[]),(16,[]),(17,[]),(18,[]),(19,[]),(20,[])]])]⟩
section
variable (n:Nat)(i b l j:Addr)(d:ak)(c f:Nat)(g a:Int)(h:aA)(K:KK)
def F172.wk10:Prop:=bi (rd h (i.add 1)) λa=>aI .i64 (rd h (l.add 1)) λc=>0<=(0:Int)/\(0:Int)<(3:Int)/\aI .u32 (rd h (j.add ((0:Int).toNat*1))) λd=>0<=(1:Int)/\(1:Int)<(3:Int)/\aI .u32 (rd h (j.add ((1:Int).toNat*1))) λe=>0<=(2:Int)/\(2:Int)<(3:Int)/\aI .u32 (rd h (j.add ((2:Int).toNat*1))) λf=>aI .u8 (rd h (l.add 6)) λg=>Cl 35 [ap a,.agg #[ac c,ae d,ae e,ae f,.int .u8 g]] h λa c=> ∃d:Int,∃e:Int,a=(.tuple #[ac d,ac e])/\aC (e !=0) (Cl 168 [ag i,ag b,.agg #[ac e,af 0]] c λa b=>a=ax/\K au b) (aP c ((b.add 20).add 0) (ac d) λa=>K aq a)
def F172.wL6:Prop:=Lp Tryz.f172 F172.T [1,1,1,1,0,1,0] n [(0,(ag i)),(1,(ag b)),(5,(ag l)),(6,(ag j)),(18,(.slice d c f)),(19,(ac g)),(20,(ac a))] h K
def F172.sL6:F172.wL6 (n+1) i b l j d c f g a h K=(aC (a<g) (aN d λe=>0<=a/\a<(c:Int)/\aI .i64 (rd h (e.add (a.toNat*1))) λe=>0<=e/\e<6/\aI .u32 (rd h (((b.add 0).add (e.toNat*2)).add 1)) λe=>0<=a/\a<3/\aP h ((j.add (a.toNat*1)).add 0) (ae e) λe=>F172.wL6 n i b l j d c f g (ai (a+1)) e K) (F172.wk10 i b l j h K)):=by kernel_rfl
def F172.wk6:Prop:=(∃e,F172.wL6 e i b l j d c f g a h K)
def F172.spec(H:Cl 214 [ag i] h λa c=>bA (some a) λa=>aC a (K aq c) (aI .i64 (rd c ((b.add 12).add 0)) λa=>aI .i64 (rd c ((b.add 12).add 1)) λd=>aI .i64 (rd c ((b.add 12).add 2)) λe=>aI .i64 (rd c ((b.add 12).add 3)) λf=>aI .i64 (rd c ((b.add 12).add 4)) λg=>aI .i64 (rd c ((b.add 12).add 5)) λj=>aI .u8 (rd c ((b.add 12).add 6)) λk=>aZ c (.cells #[ac 0,ac 0,ac 0,ac 0,ac 0,ac 0,.int .u8 0] 41) λc l=>aP l ((ah c).add 0) (ac a) λa=>aP a ((ah c).add 1) (ac d) λa=>aP a ((ah c).add 2) (ac e) λa=>aP a ((ah c).add 3) (ac f) λa=>aP a ((ah c).add 4) (ac g) λa=>aP a ((ah c).add 5) (ac j) λa=>aP a ((ah c).add 6) (.int .u8 k) λa=>aZ a (.cells #[ae 0,ae 0,ae 0] 115) λa d=>aI .i64 (rd d ((ah c).add 0)) λe=>aI .i64 (rd d ((ah c).add 1)) λf=>aI .i64 (rd d ((ah c).add 2)) λg=>aI .i64 (rd d ((ah c).add 3)) λj=>aI .i64 (rd d ((ah c).add 4)) λk=>aI .i64 (rd d ((ah c).add 5)) λl=>aI .u8 (rd d ((ah c).add 6)) λm=>Cl 121 [.agg #[ac e,ac f,ac g,ac j,ac k,ac l,.int .u8 m]] d λd e=>cW (some d) λd f g=>F172.wk6 i b (ah c) (ah a) d f g (f:Int) 0 e K)):Cl 172 [ag i,ag b] h K:=cT F172.T Tryz.func172 H
end
def F214.T:bf:=⟨[(2,[8,9])],[]⟩
section
variable (n:Nat)(c:Addr)(b:List Value)(a:Int)(h:aA)(K:KK)
def F214.wL2:Prop:=Lp Tryz.f214 F214.T [1,0,1,0] n [(8,(.agg (List.toArray b))),(9,(ac a))] h K
def F214.sL2:F214.wL2 (n+1) b a h K=(aC (a<4) ((0<=a/\a<4/\bA (b[a.toNat*24+0]?) λc=>aI .u32 (b[a.toNat*24+1]?) λd=>bA (b[a.toNat*24+2]?) λe=>aI .u32 (b[a.toNat*24+3]?) λf=>bA (b[a.toNat*24+4]?) λg=>aI .u32 (b[a.toNat*24+5]?) λi=>bA (b[a.toNat*24+6]?) λj=>aI .u32 (b[a.toNat*24+7]?) λk=>bA (b[a.toNat*24+8]?) λl=>aI .u32 (b[a.toNat*24+9]?) λm=>bA (b[a.toNat*24+10]?) λo=>aI .u32 (b[a.toNat*24+11]?) λp=>aI .i64 (b[a.toNat*24+12]?) λq=>aI .i64 (b[a.toNat*24+13]?) λr=>aI .i64 (b[a.toNat*24+14]?) λs=>aI .i64 (b[a.toNat*24+15]?) λt=>aI .i64 (b[a.toNat*24+16]?) λu=>aI .i64 (b[a.toNat*24+17]?) λv=>aI .u8 (b[a.toNat*24+18]?) λw=>bA (b[a.toNat*24+19]?) λx=>aI .i64 (b[a.toNat*24+20]?) λy=>aI .i64 (b[a.toNat*24+21]?) λz=>aI .u64 (b[a.toNat*24+22]?) λA=>bA (b[a.toNat*24+23]?) λB=>aZ h (.cells #[aq,ae 0,aq,ae 0,aq,ae 0,aq,ae 0,aq,ae 0,aq,ae 0,ac 0,ac 0,ac 0,ac 0,ac 0,ac 0,.int .u8 0,aq,ac 0,ac 0,af 0,aq] 129) λC D=>aP D ((ah C).add 0) (aw c) λc=>aP c ((ah C).add 1) (ae d) λc=>aP c ((ah C).add 2) (aw e) λc=>aP c ((ah C).add 3) (ae f) λc=>aP c ((ah C).add 4) (aw g) λc=>aP c ((ah C).add 5) (ae i) λc=>aP c ((ah C).add 6) (aw j) λc=>aP c ((ah C).add 7) (ae k) λc=>aP c ((ah C).add 8) (aw l) λc=>aP c ((ah C).add 9) (ae m) λc=>aP c ((ah C).add 10) (aw o) λc=>aP c ((ah C).add 11) (ae p) λc=>aP c ((ah C).add 12) (ac q) λc=>aP c ((ah C).add 13) (ac r) λc=>aP c ((ah C).add 14) (ac s) λc=>aP c ((ah C).add 15) (ac t) λc=>aP c ((ah C).add 16) (ac u) λc=>aP c ((ah C).add 17) (ac v) λc=>aP c ((ah C).add 18) (.int .u8 w) λc=>aP c ((ah C).add 19) (aw x) λc=>aP c ((ah C).add 20) (ac y) λc=>aP c ((ah C).add 21) (ac z) λc=>aP c ((ah C).add 22) (af A) λc=>aP c ((ah C).add 23) (aw B) λc=>bA (rd c ((ah C).add 19)) λd=>aC d (aI .i64 (rd c (((ah C).add 12).add 0)) λd=>aC (d==8) (K au c) (F214.wL2 n b (ai (a+1)) c K)) (F214.wL2 n b (ai (a+1)) c K))) (K aq h)):=by kernel_rfl
def F214.wk2:Prop:=(∃c,F214.wL2 c b a h K)
def F214.spec(H:D4 h (c.add 3) 96 λa=>F214.wk2 a 0 h K):Cl 214 [ag c] h K:=cT F214.T Tryz.func214 H
end
end
section
def pF(c:iL):Value:= .agg #[ac c.kind,ac c.op,ac c.dst,ac c.a,ac c.b,ac c.c,.int .u8 (c.mask:Int)]
def iQ(x:Int):Prop:=0<=x/\x<6
instance (x:Int):Decidable (iQ x):=by unfold iQ;infer_instance
def ui(k:Int):Prop:=1<=k/\k<=3\/k=6
instance (x:Int):Decidable (ui x):=by unfold ui;infer_instance
def w7{k:Int}(h: ¬(1<=k/\k<=3)):(k==(6:Int))=decide (ui k):=by
 by_cases q:k=6
 ·subst q;rw[decide_eq_true (p:=ui 6) (.inr rfl)];rfl
 ·rw[decide_eq_false (p:=ui k) (λc=>by rcases c with c|c<;>omega)];exact jh q
def gG(c:iL):List Int:=if c.kind=4 then [c.a]else if c.kind=5 then [c.a,c.b]else if c.kind=3 then [c.a,c.b,c.c].take (cA c.op).toNat else []
section
variable {h:aA}{e:Nat}{E:fk}{K:KK}
def iw{i:Int}(hO:(i<0\/4<=i)->K (.pointer none) h)(hI: ∀k:Nat,k<4->i=(k:Int)->K (ag ⟨e,3+24*k,none⟩) h):Cl 76 [aX e,ac i] h K:=by refine F76.spec ?_;refine aH (λc=>hO (.inl (of_decide_eq_true c))) λc=>aH (λd=>hO (.inr (of_decide_eq_true d))) λd=> ?_;have c:=of_decide_eq_false c;have d:=of_decide_eq_false d;have d: ¬(4:Int)<=i:=d;refine⟨Y,Y,?_⟩;have:=hI i.toNat Y Y;simpa only[aE,Nat.zero_add,Nat.mul_comm 24]using this
def Ah{x:Int}(hK:K (aw (decide (iQ x))) h):Cl 82 [ac x] h K:=by
 refine F82.spec ?_;refine aH (λc=> ?_) λc=> ?_
 ·have c:(0:Int)<=x:=of_decide_eq_true c;rw[show decide (x<(6:Int))=decide (iQ x) by unfold iQ;simp[c]];exact hK
 ·have c: ¬(0:Int)<=x:=of_decide_eq_false c;rw[decide_eq_false (by unfold iQ;omega)]at hK;exact hK
def uG{c:iL}(hK: ∀h',aF [] h h'->K (aw (decide (ui c.kind))) h'):Cl 120 [pF c] h K:=by
 refine F120.spec ?_;refine aM λh1 A1 O1 z1=> ?_;simp only[aE,Nat.zero_add];have r:Ev.rd h1 (ah h.size)=some (ac c.kind):=At.rd A1 0;have hK:=hK h1 O1;refine aB r (aH (λa=>aB r (aH (λb=> ?_) λb=>aB r ?_)) λa=>aB r ?_)
 ·rw[decide_eq_true (.inl ⟨of_decide_eq_true a,of_decide_eq_true b⟩)]at hK;exact hK
 ·have b:=of_decide_eq_false b;rw[w7 Y];exact hK
 ·have a: ¬(1:Int)<=c.kind:=of_decide_eq_false a;rw[w7 Y];exact hK
def mO{x:Int}(hK:K (ac (cA x)) h):Cl 122 [ac x] h K:=by
 refine F122.spec ?_;unfold cA at hK;by_cases h1:x=1
 ·subst h1;exact hK
 by_cases h2:x=2
 ·subst h2;exact hK
 by_cases h3:x=3
 ·subst h3;exact hK
 by_cases h4:x=4
 ·subst h4;exact hK
 by_cases h5:x=5
 ·subst h5;exact hK
 by_cases h6:x=6
 ·subst h6;exact hK
 by_cases h7:x=7
 ·subst h7;exact hK
 by_cases h8:x=8
 ·subst h8;exact hK
 by_cases h9:x=9
 ·subst h9;exact hK
 by_cases h10:x=10
 ·subst h10;exact hK
 rw[if_neg Y,if_neg Y,if_neg h5]at hK;simp only[jh h1,jh h2,jh h3,jh h4,jh h5,jh h6,jh h7,jh h8,jh h9,jh h10,aD];exact hK
def lE(x:Int):0<=cA x/\cA x<=3:=by
 unfold cA
 repeat' split
 all_goals omega
def yH(h h':aA)(p:ak)(l:Nat)(xs:List Int):Prop:=l=xs.length/\(xs=[]\/ ∃(b:Nat) (L:List Value),p=some (ah b)/\h.size<=b/\At h' b L/\ ∀(i:Nat) (x:Int),xs[i]? =some x->L[i]? =some (ac x))
def pP{c:iL}(hK: ∀h' p l q,aF [] h h'->yH h h' p l (gG c)->K (.slice p l q) h'):Cl 121 [pF c] h K:=by
 refine F121.spec ?_;refine aM λh1 A1 O1 z1=> ?_;simp only[aE,Nat.zero_add];have r: ∀k,Ev.rd h1 ⟨h.size,k,none⟩=([ac c.kind,ac c.op,ac c.dst,ac c.a,ac c.b,ac c.c,.int .u8 (c.mask:Int)]:List Value)[k]? :=λk=>At.rd A1 k;refine aB (n:=c.kind) (by rw[r];rfl) (aH (λa=> ?_) λa=>aH (λb=> ?_) λb=>aH (λd=> ?_) λd=> ?_)
 ·have a:c.kind=4:=by simpa using a
  refine aB (n:=c.a) (by rw[r];rfl) (aM λh2 A2 O2 z2=> ?_);refine hK h2 _ _ _ (O1.trans O2 Z) ?_;have e:gG c=[c.a]:=by unfold gG;rw[if_pos a]
  rw[e]
  exact⟨rfl,.inr ⟨h1.size,_,rfl,Y,A2,λi x hx=>by
   cases i with
   |zero=>simp at hx;subst hx;rfl
   |succ i=>simp at hx⟩⟩
 ·have a: ¬c.kind=4:=by simpa using a
  have b:c.kind=5:=by simpa using b
  refine aB (n:=c.a) (by rw[r];rfl) (aB (n:=c.b) (by rw[r];rfl) (aM λh2 A2 O2 z2=> ?_));refine hK h2 _ _ _ (O1.trans O2 Z) ?_;have e:gG c=[c.a,c.b]:=by unfold gG;rw[if_neg a,if_pos b]
  rw[e]
  exact⟨rfl,.inr ⟨h1.size,_,rfl,Y,A2,λi x hx=>by
   rcases i with _|_|i
   ·simp at hx;subst hx;rfl
   ·simp at hx;subst hx;rfl
   ·simp at hx⟩⟩
 ·have a: ¬c.kind=4:=by simpa using a
  have b: ¬c.kind=5:=by simpa using b
  have d:c.kind=3:=by simpa using d
  have e:gG c=[c.a,c.b,c.c].take (cA c.op).toNat:=by unfold gG;rw[if_neg a,if_neg b,if_pos d]
  have tl:=lE c.op
  have row: ∀(hh:aA) (A:At hh h1.size [ac c.a,ac c.b,ac c.c]),yH h hh (some (ah h1.size)) (cA c.op).toNat (gG c):=λhh A=>by
   rw[e];refine⟨by simp;try omega,.inr ⟨h1.size,_,rfl,Y,A,λi x hx=> ?_⟩⟩;rw[List.getElem?_take]at hx;split at hx
   ·rcases i with _|_|_|i
    ·simp at hx;subst hx;rfl
    ·simp at hx;subst hx;rfl
    ·simp at hx;subst hx;rfl
    ·simp at hx
   ·cases hx
  have fin: ∀(hh:aA) (q:Nat),aF [] h hh->At hh h1.size [ac c.a,ac c.b,ac c.c]->K (.slice (if 3=0 then(some (ah h1.size))else Option.map (λa=>Addr.add a (0*1)) (some (ah h1.size))) (Int.toNat (cA c.op)-0) q) hh:=λhh q O A=>by have:=hK hh _ _ q O (row hh A);simpa using this
  refine⟨?_,?_⟩
  ·refine aB (n:=c.a) (by rw[r];rfl) (aB (n:=c.b) (by rw[r];rfl) (aB (n:=c.c) (by rw[r];rfl) (aB (n:=c.op) (by rw[r];rfl) (aM λh2 A2 O2 z2=> ?_))));have r2: ∀k,Ev.rd h2 ⟨h.size,k,none⟩=([ac c.kind,ac c.op,ac c.dst,ac c.a,ac c.b,ac c.c,.int .u8 (c.mask:Int)]:List Value)[k]? :=λk=>At.rd (A1.only O2 Z) k;refine⟨trivial,aB (n:=c.op) (by rw[r2];rfl) ⟨rfl,mO (aB rfl ?_)⟩⟩;refine⟨trivial,aB (n:=c.a) (by rw[r2];rfl) ⟨rfl,trivial,aB (n:=c.b) (by rw[r2];rfl) ⟨rfl,trivial,aB (n:=c.c) (by rw[r2];rfl) ⟨rfl,tl.1,tl.2,?_⟩⟩⟩⟩;exact fin h2 _ (O1.trans O2 Z) A2
  ·refine aB (n:=c.a) (by rw[r];rfl) (aB (n:=c.b) (by rw[r];rfl) (aB (n:=c.c) (by rw[r];rfl) (aB (n:=c.op) (by rw[r];rfl) (mO (aB rfl ?_)))));refine⟨trivial,aB (n:=c.a) (by rw[r];rfl) ⟨rfl,trivial,aB (n:=c.b) (by rw[r];rfl) ⟨rfl,trivial,aB (n:=c.c) (by rw[r];rfl) ⟨rfl,aM λh2 A2 O2 z2=> ?_⟩⟩⟩⟩;have r2: ∀k,Ev.rd h2 ⟨h.size,k,none⟩=([ac c.kind,ac c.op,ac c.dst,ac c.a,ac c.b,ac c.c,.int .u8 (c.mask:Int)]:List Value)[k]? :=λk=>At.rd (A1.only O2 Z) k;refine⟨trivial,aB (n:=c.op) (by rw[r2];rfl) ⟨rfl,tl.1,tl.2,?_⟩⟩;exact fin h2 _ (O1.trans O2 Z) A2
 ·have a: ¬c.kind=4:=by simpa using a
  have b: ¬c.kind=5:=by simpa using b
  have d: ¬c.kind=3:=by simpa using d
  refine hK h1 _ _ _ O1 ?_;have e:gG c=[]:=by unfold gG;rw[if_neg a,if_neg b,if_neg d]
  rw[e];exact⟨rfl,.inl rfl⟩
def o9(H:cR h e E)(hK:K (aX E.s) h):Cl 23 [aX e] h K:=by refine F23.spec ?_;exact aJ (by rw[aE];exact H.s) hK
def sJ(H:cR h e E)(hK:K (ac (E.ans:Int)) h):Cl 54 [aX e] h K:=by refine F54.spec ?_;exact aB (by rw[aE];exact H.ans) hK
def nJ(H:cR h e E){i:Int}(hO:(i<0\/4<=i)->K aq h)(hI: ∀k:Nat,k<4->i=(k:Int)->K (aw (E.ses k).pend) h):Cl 56 [aX e,ac i] h K:=by refine F56.spec ?_;refine iw (λc=>aJ rfl (hO c)) λk hk ek=>aJ rfl ?_;show aC true _ _;rw[aG];show bA (Ev.rd h (Addr.add ⟨e,3+24*k,none⟩ 19)) _;exact aQ (n:=(E.ses k).pend) (by rw[aE];exact H.pend hk rfl) (hI k hk ek)
def oF(E:fk)(i r:Int):Int×Bool:=if(0<=i/\i<4)/\iQ r then(((E.ses i.toNat).hnd r.toNat:Int),(E.ses i.toNat).there r.toNat)else(0,false)
def zS(H:cR h e E){i r:Int}(hK:K (.tuple #[ae (oF E i r).1,aw (oF E i r).2]) h):Cl 28 [aX e,ac i,ac r] h K:=by
 refine F28.spec ?_;refine iw (λc=>aJ rfl ?_) λk hk ek=>aJ rfl ?_
 ·unfold oF at hK;rw[if_neg Y]at hK;exact hK
 ·show aC false _ _;rw[aD];refine Ah (aQ rfl ?_);by_cases hr:iQ r
  ·rw[decide_eq_true hr,Bool.not_true,aD];unfold oF at hK;rw[if_pos ⟨Y,hr⟩]at hK;have e1:i.toNat=k:=Y;have r6:r.toNat<6:=by unfold iQ at hr;omega
   rw[e1]at hK;refine⟨hr.1,hr.2,aB (by simp only[aE];exact H.hnd hk r6 Y) ⟨hr.1,hr.2,aQ (by simp only[aE];exact H.thr hk r6 Y) hK⟩⟩
  ·rw[decide_eq_false hr,Bool.not_false,aG];unfold oF at hK;rw[if_neg (λc=>hr c.2)]at hK;exact hK
def lP(H:cR h e E){i:Int}(hO:(i<0\/4<=i)-> ∀h',aF [] h h'->K (.tuple #[.agg #[ac 0,af 0],aq]) h')
  (hI: ∀k:Nat,k<4->i=(k:Int)-> ∀h',aF [] h h'->K (.tuple #[.agg #[ac (if(E.ses k).ansd=true then(E.ses k).err else 0),af (if(E.ses k).ansd=true then((E.ses k).num:Int)else 0)],aw (E.ses k).ansd]) h'):
  Cl 43 [aX e,ac i] h K:=by
 refine F43.spec ?_;refine aM λh1 A1 O1 z1=> ?_;simp only[aE,Nat.zero_add]
 have zero:(∀h',aF [] h h'->K (.tuple #[.agg #[ac 0,af 0],aq]) h')->aP h1 (ah h.size) (ac (0:Int)) (λh6=>aP h6 ⟨h.size,1,none⟩ (af (0:Int)) (λh7=>aI .i64 (Ev.rd h7 (ah h.size)) (λn8=>aI .u64 (Ev.rd h7 ⟨h.size,1,none⟩) (λn9=>K (.tuple #[(.agg #[(ac n8),(af n9)]),aq]) h7)))):=λg=>by refine aK A1 Z rfl λh2 A2 O2 z2=>aK A2 Z rfl λh3 A3 O3 z3=> ?_;refine aB (n:=0) (by rw[At.rd A3];rfl) (aB (n:=0) (by rw[At.rd A3];rfl) (g h3 ?_));exact(O1.trans O2 (by intro x hx hl;simp at hx;omega)).trans O3 (by intro x hx hl;simp at hx;omega)
 refine iw (λc=>aJ rfl ?_) λk hk ek=>aJ rfl ?_
 ·exact zero (hO c)
 ·have hI:=hI k hk ek;show aC false _ _;rw[aD];have H1:=H.only0 O1;refine aQ (n:=(E.ses k).ansd) (by rw[aE];exact H1.ansd hk rfl) (aH (λc=> ?_) λc=> ?_)
  ·have c:(E.ses k).ansd=false:=by simpa using c
   rw[c]at hI;exact zero hI
  ·have c:(E.ses k).ansd=true:=by simpa using c
   rw[c,if_pos rfl,if_pos rfl]at hI;refine aB (by simp only[aE];exact H1.err hk Y) (aB (by simp only[aE];exact H1.num hk Y) ?_);refine aK A1 Z rfl λh2 A2 O2 z2=>aK A2 Z rfl λh3 A3 O3 z3=> ?_;refine aB (n:=(E.ses k).err) (by rw[At.rd A3];rfl) (aB (n:=((E.ses k).num:Int)) (by rw[At.rd A3];rfl) (hI h3 ?_));exact(O1.trans O2 (by intro x hx hl;simp at hx;omega)).trans O3 (by intro x hx hl;simp at hx;omega)
end
end
section
def jk(n:Nat)(c:iL):Int:=if c.kind=3/\cA c.op=0 then 200 else if(c.kind=1\/c.kind=3/\c.op=8)/\n<=c.mask then 40 else if c.kind=3/\(c.op=6\/c.op=7)/\c.mask/2^n≠0 then 40 else 0
def tr(c:iL):(gG c).length<=3:=by
 unfold gG;split
 ·simp
 ·split
  ·simp
  ·split
   ·rw[List.length_take];exact Nat.min_le_right _ _
   ·simp
def kF(x:eW)(c:iL):Prop:= ∀r∈gG c,iQ r/\x.there r.toNat=true
open Classical in
noncomputable def refu(n:Nat)(x:eW)(c:iL):Int:=if ¬(1<=c.kind/\c.kind<=8)then 222 else if ui c.kind/\ ¬iQ c.dst then 221 else if ¬kF x c then 221 else jk n c
def oH{a:Addr}{K:Addr->Prop}:aN (some a) K=K a:=rfl
section
variable {h:aA}{e s:Nat}{E:fk}{K:KK}{L:List Nat}{X:SX}
def DQ{m n:Nat}(hn:n<=8)(hm:m<256):(Int.fdiv (ai (m:Int)) (2^(min (Int.toNat (n:Int)) (IntKind.bits .i64))))=((m/2^n:Nat):Int):=by rw[wrap_i64 Y Y,show min (Int.toNat (n:Int)) (IntKind.bits .i64)=n by show min n 64=n;omega,show((2:Int)^n)=((2^n:Nat):Int) by simp,Int.fdiv_eq_ediv_of_nonneg _ (Int.natCast_nonneg _)];simp
def CA{b:Nat}{c:iL}(I:cR h e E)(S:cG h E.s L X)(hm:c.mask<256)(A:At h b [ac c.kind,ac c.op,ac c.dst,ac c.a,ac c.b,ac c.c,.int .u8 (c.mask:Int)])
  (hK:K (ac (jk X.n c)) h):F77.wk11 (ah e) (ah b) h K:=by
 unfold F77.wk11;have n8:=S.ok.2.2.1;have r0:rd h (ah b)=some (ac c.kind):=At.rd A 0;have r1:rd h ⟨b,1,none⟩=some (ac c.op):=At.rd A 1;have r6:rd h ⟨b,6,none⟩=some (.int .u8 (c.mask:Int)):=At.rd A 6;have rs:rd h (ah e)=some (ag (ah E.s)):=I.s;simp only[aE,Nat.zero_add];refine aB r6 (aJ rs (gS S (aB rfl ⟨trivial,aB r6 ⟨rfl,trivial,Y,aB r6 (aJ rs (gS S (aB rfl ⟨trivial,aB r6 ⟨rfl,trivial,aB r0 ?_⟩⟩)))⟩⟩)));rw[DQ n8 hm,show ai (c.mask:Int)=(c.mask:Int)from wrap_i64 Y Y];simp only[r0,r1,aU]
 have em:decide ((c.mask:Int)>=(X.n:Int))=decide (X.n<=c.mask):=by
  by_cases q:X.n<=c.mask
  ·rw[decide_eq_true q,decide_eq_true Y]
  ·rw[decide_eq_false q,decide_eq_false Y]
 have ed:(((c.mask/2^X.n:Nat):Int) !=(0:Int))=decide (c.mask/2^X.n≠0):=by
  by_cases q:c.mask/2^X.n=0
  ·rw[q,decide_eq_false Z];rfl
  ·rw[decide_eq_true q];simp only[bne_iff_ne,ne_eq,Bool.not_eq_true];omega
 rw[em,ed];unfold jk at hK;by_cases k3:c.kind=3
 ·have a1:(c.kind==(3:Int))=true:=by simp[k3]
  have a2:(c.kind==(1:Int))=false:=by simp[k3]
  simp only[a1,a2,aG,aD];refine mO (aB rfl ?_);simp only[r0,r1,aU,a1,a2,aG,aD];by_cases t0:cA c.op=0
  ·have a3:(cA c.op==(0:Int))=true:=by simp[t0]
   rw[a3,aG];rw[if_pos ⟨k3,t0⟩]at hK;exact hK
  ·have a3:(cA c.op==(0:Int))=false:=by simp[t0]
   rw[a3,aD];rw[if_neg (λq=>t0 q.2)]at hK;simp only[k3,true_and,false_or,show ¬(3:Int)=1 by omega]at hK;by_cases o8:c.op=8
   ·simp only[show(c.op==(8:Int))=true by simp[o8],show(c.op==(6:Int))=false by simp[o8],show(c.op==(7:Int))=false by simp[o8],aG,aD];refine aH (λq=> ?_) λq=> ?_
    ·rw[if_pos ⟨o8,of_decide_eq_true q⟩]at hK;exact hK
    ·rw[if_neg (λw=>(of_decide_eq_false q) w.2),if_neg Y]at hK;exact hK
   ·rw[if_neg (λw=>o8 w.1)]at hK;simp only[show(c.op==(8:Int))=false by simp[o8],aD];by_cases o6:c.op=6
    ·simp only[show(c.op==(6:Int))=true by simp[o6],aG];refine aH (λq=> ?_) λq=> ?_
     ·rw[if_pos ⟨.inl o6,of_decide_eq_true q⟩]at hK;exact hK
     ·rw[if_neg (λw=>(of_decide_eq_false q) w.2)]at hK;exact hK
    ·simp only[show(c.op==(6:Int))=false by simp[o6],aD];by_cases o7:c.op=7
     ·simp only[show(c.op==(7:Int))=true by simp[o7],aG];refine aH (λq=> ?_) λq=> ?_
      ·rw[if_pos ⟨.inr o7,of_decide_eq_true q⟩]at hK;exact hK
      ·rw[if_neg (λw=>(of_decide_eq_false q) w.2)]at hK;exact hK
     ·simp only[show(c.op==(7:Int))=false by simp[o7],aD];rw[if_neg Y]at hK;exact hK
 ·have a1:(c.kind==(3:Int))=false:=by simp[k3]
  simp only[a1,aD];rw[if_neg (λq=>k3 q.1)]at hK;simp only[k3,false_and,or_false,if_false]at hK;by_cases k1:c.kind=1
  ·simp only[show(c.kind==(1:Int))=true by simp[k1],aG];refine aH (λq=> ?_) λq=> ?_
   ·rw[q,aG];rw[if_pos ⟨k1,of_decide_eq_true q⟩]at hK;exact hK
   ·rw[if_neg (λw=>(of_decide_eq_false q) w.2)]at hK;exact hK
  ·simp only[show(c.kind==(1:Int))=false by simp[k1],aD];rw[if_neg (λw=>k1 w.1)]at hK;exact hK
def uY{c:iL}{i:Nat}(hi:i<4)(I:cR h e E)(S:cG h E.s L X)(he:e<h.size)(hm:c.mask<256)(hK: ∀h',aF [] h h'->K (ac (refu X.n (E.ses i) c)) h'):
  Cl 77 [aX e,ag ⟨e,3+24*i,none⟩,pF c] h K:=by
 refine F77.spec _ _ _ _ _ _ _ _ _ h K ?_;refine aM λh1 A1 O1 z1=> ?_;simp only[aE,Nat.zero_add];have r: ∀k,rd h1 ⟨h.size,k,none⟩=([ac c.kind,ac c.op,ac c.dst,ac c.a,ac c.b,ac c.c,.int .u8 (c.mask:Int)]:List Value)[k]? :=λk=>At.rd A1 k;refine aB (n:=c.kind) (by rw[r];rfl) (aH (λq=> ?_) λq=> ?_)
 ·have q:c.kind<1:=of_decide_eq_true q;have:=hK h1 O1;unfold refu at this;rw[if_pos Y]at this;exact this
 refine aB (n:=c.kind) (by rw[r];rfl) (aH (λp=> ?_) λp=> ?_)
 ·have p:(8:Int)<c.kind:=of_decide_eq_true p;have:=hK h1 O1;unfold refu at this;rw[if_pos Y]at this;exact this
 have q: ¬c.kind<1:=of_decide_eq_false q;have p: ¬(8:Int)<c.kind:=of_decide_eq_false p;have S1:=S.only0 O1;have I1:=I.only0 O1
 have fin:(ui c.kind->iQ c.dst)-> ∀(h2:aA) (pp:ak) (l cc:Nat),aF [] h1 h2->yH h h2 pp l (gG c)->F77.wk6 (ah e) ⟨e,3+24*i,none⟩ (ah h.size) pp l cc (Nat.cast l:Int) 0 h2 K:=by
  intro hw h2 pp l cc O2 R;unfold F77.wk6;have I2:=I1.only0 O2;have S2:=S1.only0 O2;have A2:=A1.only O2 Z;have hK2:=hK h2 (O1.trans O2 Z);obtain⟨el,R⟩:=R
  have main: ∀(d k:Nat),d+k=l->(∀j x,j<k->(gG c)[j]? =some x->iQ x/\(E.ses i).there x.toNat=true)->F77.wL6 (d+1) (ah e) ⟨e,3+24*i,none⟩ (ah h.size) pp l cc (Nat.cast l:Int) (Nat.cast k:Int) h2 K:=by
   intro d
   induction d with
   |zero=>
    intro k hk hb;rw[F77.sL6];rw[decide_eq_false Y,aD];refine CA I2 S2 hm A2 ?_
    have ok:kF (E.ses i) c:=λx hx=>by obtain⟨j,hj⟩:=List.getElem?_of_mem hx;exact hb j x (by have:=(List.getElem?_eq_some_iff.1 hj).1;omega) hj
    unfold refu at hK2;rw[if_neg Y,if_neg (λw=>w.2 (hw w.1)),if_neg (λw=>w ok)]at hK2;exact hK2
   |succ d ih=>
    intro k hk hb;rw[F77.sL6];rw[decide_eq_true Y,aG];have hlen:k<(gG c).length:=Y;obtain⟨x,hx⟩: ∃x,(gG c)[k]? =some x:=⟨_,List.getElem?_eq_getElem hlen⟩;rcases R with R|⟨b,Lc,ep,gb,Ab,g⟩
    ·rw[R]at hlen;simp at hlen
    rw[ep];refine⟨Y,Y,aB (n:=x) (by simp only[aE];rw[At.rd Ab,show 0+Int.toNat (Nat.cast k:Int)*1=k by simp];exact g k x hx) ?_⟩;refine Ah (aQ rfl ?_)
    have bad: ¬(iQ x/\(E.ses i).there x.toNat=true)->K (ac 221) h2:=λw=>by have nok: ¬kF (E.ses i) c:=λok=>w (ok x (List.mem_of_getElem? hx));unfold refu at hK2;rw[if_neg Y,if_neg (λw=>w.2 (hw w.1)),if_pos nok]at hK2;exact hK2
    by_cases hr:iQ x
    ·rw[decide_eq_true hr,Bool.not_true,aD];refine⟨hr.1,hr.2,aQ (by simp only[aE];exact I2.thr hi (r:=x.toNat) (by unfold iQ at hr;omega) Y) ?_⟩;refine aH (λw=>bad λv=>by rw[v.2]at w;cases w) λw=> ?_;rw[show ai ((Nat.cast k:Int)+1)=((k+1:Nat):Int) by rw[wrap_i64 Y (by have:=tr c;omega)];omega];rw[<-ep];refine ih (k+1) Y λj y hj hy=> ?_;by_cases ej:j=k
     ·subst ej;rw[hx]at hy;injection hy with hy;subst hy;exact⟨hr,by simpa using w⟩
     ·exact hb j y Y hy
    ·rw[decide_eq_false hr,Bool.not_false,aG];exact bad λw=>hr w.1
  exact⟨_,main l 0 Y λj x hj=>Y⟩
 refine aB (n:=c.kind) (by rw[r];rfl) (aB (n:=c.op) (by rw[r];rfl) (aB (n:=c.dst) (by rw[r];rfl) (aB (n:=c.a) (by rw[r];rfl) (aB (n:=c.b) (by rw[r];rfl) (aB (n:=c.c) (by rw[r];rfl) (aB (n:=(c.mask:Int)) (by rw[r];rfl) ?_))))));refine uG λh2 O2=>aQ rfl ?_;have A2:=A1.only O2 Z;have r2: ∀k,rd h2 ⟨h.size,k,none⟩=([ac c.kind,ac c.op,ac c.dst,ac c.a,ac c.b,ac c.c,.int .u8 (c.mask:Int)]:List Value)[k]? :=λk=>At.rd A2 k
 have rest:(ui c.kind->iQ c.dst)-> ∀hh,aF [] h1 hh->Cl 121 [pF c] hh (λv26 h27=>cW (some v26) (λp28 l29 c30=>F77.wk6 (ah e) ⟨e,3+24*i,none⟩ (ah h.size) p28 l29 c30 (Nat.cast l29:Int) 0 h27 K)):=λhw hh O=>
  pP λh3 pp l cc O3 R=>⟨_,_,_,rfl,fin hw h3 pp l cc (O.trans O3 Z) (by
   obtain⟨el,R⟩:=R;refine⟨el,?_⟩;rcases R with R|⟨b,Lc,ep,gb,Ab,g⟩
   ·exact .inl R
   ·exact .inr ⟨b,Lc,ep,by have:=O1.size;have:=O.size;omega,Ab,g⟩)⟩
 by_cases hwk:ui c.kind
 ·rw[decide_eq_true hwk,aG];refine aB (n:=c.dst) (by rw[r2];rfl) (Ah (aQ rfl ?_));by_cases hd:iQ c.dst
  ·rw[decide_eq_true hd,Bool.not_true,aD];refine aB (n:=c.kind) (by rw[r2];rfl) (aB (n:=c.op) (by rw[r2];rfl) (aB (n:=c.dst) (by rw[r2];rfl) (aB (n:=c.a) (by rw[r2];rfl) (aB (n:=c.b) (by rw[r2];rfl) (aB (n:=c.c) (by rw[r2];rfl) (aB (n:=(c.mask:Int)) (by rw[r2];rfl) ?_))))));exact rest (λ_=>hd) h2 O2
  ·rw[decide_eq_false hd,Bool.not_false,aG];have:=hK h2 (O1.trans O2 Z);unfold refu at this;rw[if_neg Y,if_pos ⟨hwk,hd⟩]at this;exact this
 ·rw[decide_eq_false hwk,aD];refine aB (n:=c.kind) (by rw[r2];rfl) (aB (n:=c.op) (by rw[r2];rfl) (aB (n:=c.dst) (by rw[r2];rfl) (aB (n:=c.a) (by rw[r2];rfl) (aB (n:=c.b) (by rw[r2];rfl) (aB (n:=c.c) (by rw[r2];rfl) (aB (n:=(c.mask:Int)) (by rw[r2];rfl) ?_))))));exact rest (λw=>absurd w hwk) h2 O2
def mU(x:eW)(c:iL):eW:={x with cal:=c,pend:=true,job:=0}
def xR{c:iL}{i:Int}(I:cR h e E)(S:cG h E.s L X)(D:e∉L)(hm:c.mask<256)
  (hO:(i<0\/4<=i)-> ∀h',aF [] h h'->K (ac 222) h')
  (hB: ∀k:Nat,k<4->i=(k:Int)->(E.ses k).pend=true-> ∀h',aF [] h h'->K (ac 220) h')
  (hR: ∀k:Nat,k<4->i=(k:Int)->(E.ses k).pend=false->refu X.n (E.ses k) c≠0-> ∀h',aF [] h h'->K (ac (refu X.n (E.ses k) c)) h')
  (hK: ∀k:Nat,k<4->i=(k:Int)->(E.ses k).pend=false->refu X.n (E.ses k) c=0-> ∀h',cR h' e (E.put k (mU (E.ses k) c))->aF [e] h h'->K (ac 0) h'):
  Cl 24 [aX e,ac i,pF c] h K:=by
 refine F24.spec ?_;have he:e<h.size:=At.lt I;refine aM λh1 A1 O1 z1=> ?_;simp only[aE,Nat.zero_add];have S1:=S.only0 O1;have I1:=I.only0 O1;refine iw (λq=>aJ rfl (hO q h1 O1)) λk hk ek=>aJ rfl ?_;have hB:=hB k hk ek;have hR:=hR k hk ek;have hK:=hK k hk ek;show aC false _ _;rw[aD];have r: ∀j,rd h1 ⟨h.size,j,none⟩=([ac c.kind,ac c.op,ac c.dst,ac c.a,ac c.b,ac c.c,.int .u8 (c.mask:Int)]:List Value)[j]? :=λj=>At.rd A1 j;refine aQ (n:=(E.ses k).pend) (by simp only[aE];exact I1.pend hk rfl) (aH (λq=>hB q h1 O1) λq=> ?_);refine aB (n:=c.kind) (by rw[r];rfl) (aB (n:=c.op) (by rw[r];rfl) (aB (n:=c.dst) (by rw[r];rfl) (aB (n:=c.a) (by rw[r];rfl) (aB (n:=c.b) (by rw[r];rfl) (aB (n:=c.c) (by rw[r];rfl) (aB (n:=(c.mask:Int)) (by rw[r];rfl) ?_))))));refine uY hk I1 S1 Y hm λh2 O2=>aB rfl ?_;have O12:=O1.trans O2 Z;refine aH (λw=>hR q (by simpa using w) h2 O12) λw=> ?_;have w:refu X.n (E.ses k) c=0:=by simpa using w
 have A2:=A1.only O2 Z;have I2:=I1.only0 O2;have r2: ∀j,rd h2 ⟨h.size,j,none⟩=([ac c.kind,ac c.op,ac c.dst,ac c.a,ac c.b,ac c.c,.int .u8 (c.mask:Int)]:List Value)[j]? :=λj=>At.rd A2 j;refine aB (n:=c.kind) (by rw[r2];rfl) (aB (n:=c.op) (by rw[r2];rfl) (aB (n:=c.dst) (by rw[r2];rfl) (aB (n:=c.a) (by rw[r2];rfl) (aB (n:=c.b) (by rw[r2];rfl) (aB (n:=c.c) (by rw[r2];rfl) (aB (n:=(c.mask:Int)) (by rw[r2];rfl) ?_))))));obtain⟨x,ex⟩: ∃x,x=E.ses k:=⟨_,rfl⟩;rw[<-ex]at hK w;have p0:E=E.put k x:=by rw[ex,mF]
 rw[p0]at I2
 have tz: ∀{hh:aA} {y:eW} {j:Nat} {v:Value} {c':iL} {KK:aA->Prop},cR hh e (E.put k y)->j<7->v.oneCell'=true->(∀q,q<7->cC c' q=if q=j then v else cC y.cal q)->
   (∀h',cR h' e (E.put k {y with cal:=c'})->aF [e] hh h'->KK h')->aP hh (Addr.add (Addr.add ⟨e,3+24*k,none⟩ 12) j) v KK:=λ{hh y j v c' KK} I hj hv hc g=>by
  rw[aE,aE];refine cR.setS (x:={y with cal:=c'}) I hk (j:=12+j) Y Y hv (λq hq=> ?_) λh' I' O' _=> ?_
  ·rw[cg];exact Ao hj hc q hq
  ·rw[du]at I';exact g h' I' O'
 have T: ∀{a b:aA},aF [e] h2 a->aF [e] a b->aF [e] h2 b:=λp q=>p.trans q λb hb _=>hb;rw[oH];refine tz (j:=0) (c':=⟨c.kind,x.cal.op,x.cal.dst,x.cal.a,x.cal.b,x.cal.c,x.cal.mask⟩) I2 Y rfl (λq hq=>by rcases q with _|_|_|_|_|_|_|q<;>first|rfl|omega) λh3 I3 O3=> ?_;refine tz (j:=1) (c':=⟨c.kind,c.op,x.cal.dst,x.cal.a,x.cal.b,x.cal.c,x.cal.mask⟩) I3 Y rfl (λq hq=>by rcases q with _|_|_|_|_|_|_|q<;>first|rfl|omega) λh4 I4 O4=> ?_;refine tz (j:=2) (c':=⟨c.kind,c.op,c.dst,x.cal.a,x.cal.b,x.cal.c,x.cal.mask⟩) I4 Y rfl (λq hq=>by rcases q with _|_|_|_|_|_|_|q<;>first|rfl|omega) λh5 I5 O5=> ?_;refine tz (j:=3) (c':=⟨c.kind,c.op,c.dst,c.a,x.cal.b,x.cal.c,x.cal.mask⟩) I5 Y rfl (λq hq=>by rcases q with _|_|_|_|_|_|_|q<;>first|rfl|omega) λh6 I6 O6=> ?_;refine tz (j:=4) (c':=⟨c.kind,c.op,c.dst,c.a,c.b,x.cal.c,x.cal.mask⟩) I6 Y rfl (λq hq=>by rcases q with _|_|_|_|_|_|_|q<;>first|rfl|omega) λh7 I7 O7=> ?_;refine tz (j:=5) (c':=⟨c.kind,c.op,c.dst,c.a,c.b,c.c,x.cal.mask⟩) I7 Y rfl (λq hq=>by rcases q with _|_|_|_|_|_|_|q<;>first|rfl|omega) λh8 I8 O8=> ?_;refine tz (j:=6) (c':=c) I8 Y rfl (λq hq=>by rcases q with _|_|_|_|_|_|_|q<;>first|rfl|omega) λh9 I9 O9=> ?_;have O29:=T (T (T (T (T (T O3 O4) O5) O6) O7) O8) O9;rw[oH,aE,aE];refine cR.setS (x:={x with cal:=c,pend:=true}) I9 hk (j:=19) Y Y rfl (λq hq=>by rw[cg];exact tf (x:={x with cal:=c}) q hq) λh10 I10 O10 _=> ?_;rw[du]at I10;rw[oH,aE,aE];refine cR.setS (x:={x with cal:=c,pend:=true,job:=0}) I10 hk (j:=20) Y Y rfl (λq hq=>by rw[cg];exact vk (x:={x with cal:=c,pend:=true}) (n:=0) q hq) λh11 I11 O11 _=> ?_;rw[du]at I11;exact hK (by rw[ex];exact q) w h11 I11 ((O12.mono Z).trans (T (T O29 O10) O11) λb hb _=>hb)
end
end
section
def mQ(h:aA)(r N:Nat)(f:Int->Int)(B:List Nat):Prop:=
 ∃lo M S W p c,Rf lo h r M S W N f p c (λ_=> [])/\1<=W/\W<=4/\lo<=h.size/\B=r::M::S::(List.range W).flatMap λk=>aR (p k)
section
variable {h h':aA}{r N:Nat}{f:Int->Int}{B S:List Nat}{K:KK}
def mQ.only(H:mQ h r N f B)(O:aF S h h')(hS: ∀b∈S,b∉B):mQ h' r N f B:=by obtain⟨lo,M,T,W,p,c,H,w1,w4,hl,e⟩:=H;subst e;refine⟨lo,M,T,W,p,c,H.only O (λhm=>hS _ hm Z) (λhm=>hS _ hm Z) (λhm=>hS _ hm Z) (λk hk b hb hm=>hS _ hm ?_),w1,w4,Nat.le_trans hl O.size,rfl⟩;simp only[List.mem_cons,List.mem_flatMap,List.mem_range];exact .inr (.inr (.inr ⟨k,hk,hb⟩))
def mQ.only0(H:mQ h r N f B)(O:aF [] h h'):mQ h' r N f B:=H.only O Z
def mQ.lt(H:mQ h r N f B): ∀b∈B,b<h.size:=λb hb=>by
 obtain⟨lo,M,T,W,p,c,H,w1,w4,hl,e⟩:=H;subst e;obtain⟨h1,h2,h3,h4⟩:=H.lt;simp only[List.mem_cons,List.mem_flatMap,List.mem_range]at hb;rcases hb with e|e|e|⟨k,hk,hb⟩
 ·omega
 ·omega
 ·omega
 ·exact(h4 k hk b hb).2
def AQ{x:Int}(hK: ∀h' r B,mQ h' r 0 (λ_=>0) B->(∀b∈B,h.size<=b)->aF [] h h'->K (aX r) h'):Cl 67 [ac x] h K:=by refine Cz λh' r M T H O=> ?_;have hw:=nQ x;refine hK h' r _ ⟨h.size,M,T,(tH x).toNat,_,_,H,Y,Y,O.size,rfl⟩ (λb hb=> ?_) O;have g:=H.ge;simp[aR]at hb;omega
def yy(H:mQ h r N f B){x:Nat}(hx:x<4294967296)(hN:N<=LB)(hK: ∀h',mQ h' r (N+1) (qY f x (f x+1)) B->aF B h h'->K ax h'):Cl 210 [aX r,ae (x:Int)] h K:=by obtain⟨lo,M,T,W,p,c,H,w1,w4,hl,e⟩:=H;refine AT H Y hN λh' H' O=>hK h' ⟨lo,M,T,W,p,c,H',w1,w4,Nat.le_trans hl O.size,e⟩ (O.mono λb hb _=> ?_);subst e;simp at hb;simp[hb]
def uj(f:Int->Int)(x:Int):Int->Int:=if f x=0 then f else qY f x (f x-1)
def AN(H:mQ h r N f B){x:Int}(hN:N<=LB)(hK: ∀h' n,mQ h' r (N+1) (uj f x) B->aF B h h'->K (ac n) h'):Cl 209 [aX r,ae x] h K:=by
 obtain⟨lo,M,T,W,p,c,H,w1,w4,hl,e⟩:=H;unfold uj at hK;refine CK H hN (λe0=> ?_) λe0 h' H' O=> ?_
 ·rw[if_pos e0]at hK;exact hK h _ ⟨lo,M,T,W,p,c,H.grow Y,w1,w4,hl,e⟩ (aF.refl _ _)
 ·rw[if_neg e0]at hK;refine hK h' _ ⟨lo,M,T,W,p,c,H',w1,w4,Nat.le_trans hl O.size,e⟩ (O.mono λb hb _=> ?_);subst e;simp at hb;simp[hb]
end
def dL(E:fk)(x k:Nat):Nat:=if(E.ses (k/6)).there (k%6)=true/\(E.ses (k/6)).hnd (k%6)=x then 1 else 0
def dU(g:Nat->Nat):Nat->Nat
 |0=>0
 |n+1=>dU g n+g n
def tJ{g g':Nat->Nat}{k:Nat}(h: ∀j,j≠k->g' j=g j): ∀n,k<n->dU g' n+g k=dU g n+g' k:=by
 have low: ∀n,n<=k->dU g' n=dU g n:=by
  intro n
  induction n with
  |zero=>intro _;rfl
  |succ n ih=>intro hn;unfold dU;rw[ih Y,h n Y]
 intro n
 induction n with
 |zero=>intro hk;omega
 |succ n ih=>
  intro hk;unfold dU;by_cases e:n=k
  ·subst e;rw[low n (Nat.le_refl _)];omega
  ·have:=ih Y;rw[h n e];omega
def qy{g:Nat->Nat}{k:Nat}: ∀n,k<n->1<=g k->1<=dU g n:=by
 intro n
 induction n with
 |zero=>intro hk;omega
 |succ n ih=>
  intro hk h1;unfold dU;by_cases e:n=k
  ·subst e;omega
  ·have:=ih Y h1;omega
def jI(E:fk)(x:Nat):Nat:=dU (dL E x) 24
def jq(f:Int->Int)(E:fk):Prop:= ∀x:Nat,f (x:Int)=(jI E x:Int)
def fC(x:eW)(d:Nat):eW:={x with there:=fJ x.there d false,hnd:=fJ x.hnd d 0}
def setS(x:eW)(d v:Nat):eW:={x with there:=fJ x.there d true,hnd:=fJ x.hnd d v}
def tg{E:fk}{i d:Nat}{x:eW}(hd:d<6)(hx: ∀q,q≠d->x.there q=(E.ses i).there q/\x.hnd q=(E.ses i).hnd q)(v:Nat): ∀j,j≠6*i+d->dL (E.put i x) v j=dL E v j:=λj hj=>by
 unfold dL;by_cases e:j/6=i
 ·have:=hx (j%6) Y;rw[e,cg,this.1,this.2]
 ·rw[show(E.put i x).ses (j/6)=E.ses (j/6)from bP e]
def sW{f:Int->Int}{E:fk}{i d:Nat}(C:jq f E)(hi:i<4)(hd:d<6):
  jq (if(E.ses i).there d=true then uj f ((E.ses i).hnd d:Nat)else f) (E.put i (fC (E.ses i) d)):=λv=>by
 have up:=tJ (g:=dL E v) (g':=dL (E.put i (fC (E.ses i) d)) v) (k:=6*i+d) (tg hd (λq hq=>⟨bP hq,bP hq⟩) v) 24 Y
 have e0:dL (E.put i (fC (E.ses i) d)) v (6*i+d)=0:=by unfold dL;rw[show(6*i+d)/6=i by omega,show(6*i+d)%6=d by omega,cg,if_neg];intro c;rw[show(fC (E.ses i) d).there d=false from bQ]at c;cases c.1
 have e1:dL E v (6*i+d)=if(E.ses i).there d=true/\(E.ses i).hnd d=v then 1 else 0:=by unfold dL;rw[show(6*i+d)/6=i by omega,show(6*i+d)%6=d by omega]
 rw[e0,e1]at up;have Cv:=C v;unfold jI at Cv ⊢;by_cases t:(E.ses i).there d=true
 ·rw[if_pos t];have Ch:=C ((E.ses i).hnd d)
  have pos:1<=jI E ((E.ses i).hnd d):=by refine qy (k:=6*i+d) 24 Y ?_;unfold dL;rw[show(6*i+d)/6=i by omega,show(6*i+d)%6=d by omega,if_pos ⟨t,rfl⟩];exact Nat.le_refl _
  unfold uj;rw[if_neg Y];unfold qY;by_cases q:(E.ses i).hnd d=v
  ·rw[if_pos Y,Ch,q];rw[if_pos ⟨t,q⟩]at up;unfold jI;omega
  ·rw[if_neg Y,Cv];rw[if_neg (λw=>q w.2)]at up;omega
 ·rw[if_neg t,Cv];rw[if_neg (λw=>t w.1)]at up;omega
def xT{f:Int->Int}{E:fk}{i d v0:Nat}(C:jq f E)(hi:i<4)(hd:d<6)(ht:(E.ses i).there d=false):
  jq (qY f (v0:Int) (f (v0:Int)+1)) (E.put i (setS (E.ses i) d v0)):=λv=>by
 have up:=tJ (g:=dL E v) (g':=dL (E.put i (setS (E.ses i) d v0)) v) (k:=6*i+d) (tg hd (λq hq=>⟨bP hq,bP hq⟩) v) 24 Y
 have e0:dL (E.put i (setS (E.ses i) d v0)) v (6*i+d)=if v0=v then 1 else 0:=by unfold dL;rw[show(6*i+d)/6=i by omega,show(6*i+d)%6=d by omega,cg,show(setS (E.ses i) d v0).there d=true from bQ,show(setS (E.ses i) d v0).hnd d=v0 from bQ];simp
 have e1:dL E v (6*i+d)=0:=by unfold dL;rw[show(6*i+d)/6=i by omega,show(6*i+d)%6=d by omega,ht];simp
 rw[e0,e1]at up;have Cv:=C v;have C0:=C v0;unfold jI at Cv ⊢;unfold qY;by_cases q:v0=v
 ·subst q;rw[if_pos rfl,C0];rw[if_pos rfl]at up;unfold jI;omega
 ·rw[if_neg Y,Cv];rw[if_neg q]at up;omega
section
variable {h:aA}{e N i:Nat}{E:fk}{K:KK}{f:Int->Int}{B:List Nat}
def dN(x:eW)(er:Int)(n:Nat):eW:={x with err:=er,num:=n,ansd:=true,pend:=false}
def sG(I:cR h e E)(hi:i<4){er:Int}{n:Nat}(ha:E.ans<1000000000)(hK: ∀h',cR h' e {E.put i (dN (E.ses i) er n)with ans:=E.ans+1}->aF [e] h h'->K ax h'):
  Cl 168 [aX e,ag ⟨e,3+24*i,none⟩,.agg #[ac er,af (n:Int)]] h K:=by
 refine F168.spec ?_;refine aM λh1 A1 O1 z1=> ?_;simp only[aE,Nat.zero_add];have I1:=I.only0 O1;refine aB (n:=er) (by rw[At.rd A1];rfl) (aB (n:=(n:Int)) (by rw[At.rd A1];rfl) ?_);obtain⟨x,ex⟩: ∃x,x=E.ses i:=⟨_,rfl⟩;rw[<-ex]at hK;have p0:E=E.put i x:=by rw[ex,mF]
 rw[p0]at I1;have T: ∀{a b:aA},aF [e] h1 a->aF [e] a b->aF [e] h1 b:=λp q=>p.trans q λb hb _=>hb;refine cR.setS (x:={x with err:=er}) I1 hi (j:=21) Y Y rfl (λq hq=>by rw[cg];exact AC q hq) λh2 I2 O2 _=> ?_;rw[du]at I2;refine cR.setS (x:={x with err:=er,num:=n}) I2 hi (j:=22) Y Y rfl (λq hq=>by rw[cg];exact BF (x:={x with err:=er}) q hq) λh3 I3 O3 _=> ?_;rw[du]at I3;refine cR.setS (x:={x with err:=er,num:=n,ansd:=true}) I3 hi (j:=23) Y Y rfl (λq hq=>by rw[cg];exact yU (x:={x with err:=er,num:=n}) q hq) λh4 I4 O4 _=> ?_;rw[du]at I4;refine cR.setS (x:={x with err:=er,num:=n,ansd:=true,pend:=false}) I4 hi (j:=19) Y Y rfl (λq hq=>by rw[cg];exact tf (x:={x with err:=er,num:=n,ansd:=true}) q hq) λh5 I5 O5 _=> ?_;rw[du]at I5;refine aB I5.ans ?_
 rw[show ai (((E.put i {x with err:=er,num:=n,ansd:=true,pend:=false}).ans:Int)+1)=((E.ans+1:Nat):Int) by rw[show(E.put i {x with err:=er,num:=n,ansd:=true,pend:=false}).ans=E.ans from rfl,wrap_i64 Y Y];omega]
 refine cR.setA I5 λh6 I6 O6 _=> ?_;exact hK h6 I6 (((O1.mono Z).trans (T (T (T O2 O3) O4) O5) λb hb _=>hb).trans O6 λb hb _=>hb)
def nI(I:cR h e E)(R:mQ h E.r N f B)(hD:e∉B)(hi:i<4){d:Nat}(hd:d<6)(ed:(E.ses i).cal.dst=(d:Int))(hN:N<=LB)
  (hK: ∀h',cR h' e (E.put i (fC (E.ses i) d))->mQ h' E.r (N+1) (if(E.ses i).there d=true then uj f ((E.ses i).hnd d:Nat)else f) B->aF (e::B) h h'->K ax h'):
  Cl 166 [aX e,ag ⟨e,3+24*i,none⟩] h K:=by
 refine F166.spec ?_;simp only[aE,Nat.zero_add];have dd:Int.toNat (d:Int)=d:=Int.toNat_natCast d;have rd0: ∀{hh:aA} {E':fk},cR hh e E'->(E'.ses i).cal.dst=(d:Int)->rd hh ⟨e,3+24*i+12+2,none⟩=some (ac (d:Int)):=λ{hh E'} II e'=>by rw[II.dst hi Y,e']
 refine aB (rd0 I ed) ⟨Y,Y,?_⟩;rw[dd];refine aQ (I.thr hi hd Y) (aB (I.hnd hi hd Y) (aM λh1 A1 O1 z1=> ?_));have I1:=I.only0 O1;refine⟨trivial,trivial,trivial,trivial,trivial,aB (rd0 I1 ed) ⟨rfl,trivial,trivial,Y,Y,trivial,?_⟩⟩;refine aQ (I1.thr hi hd Y) (aB (I1.hnd hi hd Y) ⟨rfl,?_⟩);refine aK A1 Z rfl λh2 A2 O2 z2=>aK A2 Z rfl λh3 A3 O3 z3=> ?_;have he:=At.lt I;have O03:aF [] h h3:=(O1.trans O2 (by intro x hx hl;simp at hx;omega)).trans O3 (by intro x hx hl;simp at hx;omega);have I3:=I.only0 O03;have R3:=R.only0 O03
 have fin: ∀{hh:aA} {f':Int->Int},cR hh e E->mQ hh E.r (N+1) f' B->f'=(if(E.ses i).there d=true then uj f ((E.ses i).hnd d:Nat)else f)->aF (e::B) h hh->F166.wk3 ⟨e,3+24*i,none⟩ hh K:=λ{hh f'} II RR ef OO=>by
  unfold F166.wk3;simp only[aE,Nat.zero_add];refine aB (rd0 II ed) ⟨Y,Y,?_⟩;rw[dd];obtain⟨x,ex⟩: ∃x,x=E.ses i:=⟨_,rfl⟩;rw[<-ex]at hK ef;have p0:E=E.put i x:=by rw[ex,mF]
  rw[p0]at II;refine cR.setS (x:={x with there:=fJ x.there d false}) II hi (j:=2*d) Y Y rfl (λq hq=>by rw[cg];exact tR hd q hq) λh4 I4 O4 _=> ?_;rw[du]at I4;refine cR.setS (x:=fC x d) I4 hi (j:=2*d+1) Y Y rfl (λq hq=>by rw[cg];exact tC (x:={x with there:=fJ x.there d false}) (n:=0) hd q hq) λh5 I5 O5 _=> ?_;rw[du]at I5;have O45:aF [e] hh h5:=O4.trans O5 λb hb _=>hb;subst ef;exact hK h5 I5 (RR.only O45 λb hb=>by simp at hb;subst hb;exact hD) (OO.trans O45 λb hb _=>by simp at hb;simp[hb])
 refine aQ (n:=(E.ses i).there d) (by rw[At.rd A3];rfl) (aH (λt=> ?_) λt=> ?_)
 ·refine aJ I3.r (aB (n:=((E.ses i).hnd d:Int)) (by rw[At.rd A3];rfl) ?_);refine AN R3 hN λh4 n R4 O4=>aB rfl ?_;exact fin (I3.only O4 hD) R4 (by rw[if_pos t]) ((O03.mono Z).trans O4 λb hb _=>by simp[hb])
 ·have R3':mQ h3 E.r (N+1) f B:=by
   obtain⟨lo,M,T,W,p,c,H,w1,w4,hl,e⟩:=R3;exact⟨lo,M,T,W,p,c,H.grow Y,w1,w4,hl,e⟩
  exact fin I3 R3' (by rw[if_neg (by rw[t];simp)]) (O03.mono Z)
def y0(I:cR h e E)(R:mQ h E.r N f B)(C:jq f E)(hD:e∉B)(hi:i<4){d v:Nat}(hd:d<6)(ed:(E.ses i).cal.dst=(d:Int))(hv:v<4294967296)(hN:N+1<=LB)
  (hK: ∀h' f',cR h' e (E.put i (setS (E.ses i) d v))->mQ h' E.r (N+2) f' B->jq f' (E.put i (setS (E.ses i) d v))->aF (e::B) h h'->K ax h'):
  Cl 167 [aX e,ag ⟨e,3+24*i,none⟩,ae (v:Int)] h K:=by
 refine F167.spec ?_;simp only[aE,Nat.zero_add];refine nI I R hD hi hd ed Y λh1 I1 R1 O1=>⟨rfl,?_⟩;have C1:=sW C hi hd;have dd:Int.toNat (d:Int)=d:=Int.toNat_natCast d;refine aB (n:=(d:Int)) (by rw[I1.dst hi Y,cg];exact congrArg (λz=>some (ac z)) ed) ⟨Y,Y,?_⟩;rw[dd];obtain⟨x,ex⟩: ∃x,x=fC (E.ses i) d:=⟨_,rfl⟩;rw[<-ex]at I1 C1;refine cR.setS (x:={x with there:=fJ x.there d true}) I1 hi (j:=2*d) Y Y rfl (λq hq=>by rw[cg];exact tR hd q hq) λh4 I4 O4 _=> ?_;rw[du]at I4;refine cR.setS (x:=setS x d v) I4 hi (j:=2*d+1) Y Y rfl (λq hq=>by rw[cg];exact tC (x:={x with there:=fJ x.there d true}) (n:=v) hd q hq) λh5 I5 O5 _=> ?_;rw[du]at I5;have O45:aF [e] h1 h5:=O4.trans O5 λb hb _=>hb;have R5:=R1.only O45 λb hb=>by simp at hb;subst hb;exact hD
 refine aJ I5.r ?_;refine yy R5 hv Y λh6 R6 O6=>⟨rfl,?_⟩;have ht:((E.put i x).ses i).there d=false:=by rw[cg,ex];exact bQ
 have C2:=xT (v0:=v) C1 hi hd ht;rw[cg,du]at C2;have exs:setS x d v=setS (E.ses i) d v:=by rw[ex];unfold setS fC;rw[iq,iq]
 rw[exs]at C2 I5;exact hK h6 _ (I5.only O6 hD) R6 C2 ((O1.trans O45 λb hb _=>by simp at hb;simp[hb]).trans O6 λb hb _=>by simp[hb])
end
end
section
def sL(S:eW):List Value:=[sC S 0,sC S 1,sC S 2,sC S 3,sC S 4,sC S 5,sC S 6,sC S 7,sC S 8,sC S 9,sC S 10,sC S 11,sC S 12,sC S 13,sC S 14,sC S 15,sC S 16,sC S 17,sC S 18,sC S 19,sC S 20,sC S 21,sC S 22,sC S 23]
def wi{h:aA}{v:List Value}{x:Int}{S:eW}{G:Nat->aA->Prop}(r: ∀j,j<24->v[Int.toNat x*24+j]? =some (sC S j))(hG: ∀h',At h' h.size (sL S)->aF [] h h'->G h.size h'):
  bA (v[Int.toNat x*24+0]?) (λb1=>aI .u32 (v[Int.toNat x*24+1]?) (λn2=>bA (v[Int.toNat x*24+2]?) (λb3=>aI .u32 (v[Int.toNat x*24+3]?) (λn4=>bA (v[Int.toNat x*24+4]?) (λb5=>aI .u32 (v[Int.toNat x*24+5]?) (λn6=>bA (v[Int.toNat x*24+6]?) (λb7=>aI .u32 (v[Int.toNat x*24+7]?) (λn8=>bA (v[Int.toNat x*24+8]?) (λb9=>aI .u32 (v[Int.toNat x*24+9]?) (λn10=>bA (v[Int.toNat x*24+10]?) (λb11=>aI .u32 (v[Int.toNat x*24+11]?) (λn12=>aI .i64 (v[Int.toNat x*24+12]?) (λn13=>aI .i64 (v[Int.toNat x*24+13]?) (λn14=>aI .i64 (v[Int.toNat x*24+14]?) (λn15=>aI .i64 (v[Int.toNat x*24+15]?) (λn16=>aI .i64 (v[Int.toNat x*24+16]?) (λn17=>aI .i64 (v[Int.toNat x*24+17]?) (λn18=>aI .u8 (v[Int.toNat x*24+18]?) (λn19=>bA (v[Int.toNat x*24+19]?) (λb20=>aI .i64 (v[Int.toNat x*24+20]?) (λn21=>aI .i64 (v[Int.toNat x*24+21]?) (λn22=>aI .u64 (v[Int.toNat x*24+22]?) (λn23=>bA (v[Int.toNat x*24+23]?) (λb24=>aZ h (.cells #[aq,(ae (0:Int)),aq,(ae (0:Int)),aq,(ae (0:Int)),aq,(ae (0:Int)),aq,(ae (0:Int)),aq,(ae (0:Int)),(ac (0:Int)),(ac (0:Int)),(ac (0:Int)),(ac (0:Int)),(ac (0:Int)),(ac (0:Int)),(.int .u8 (0:Int)),aq,(ac (0:Int)),(ac (0:Int)),(af (0:Int)),aq] 129) (λb25 h26=>aP h26 (Addr.add (ah b25) 0) (aw b1) (λh27=>aP h27 (Addr.add (ah b25) 1) (ae n2) (λh28=>aP h28 (Addr.add (ah b25) 2) (aw b3) (λh29=>aP h29 (Addr.add (ah b25) 3) (ae n4) (λh30=>aP h30 (Addr.add (ah b25) 4) (aw b5) (λh31=>aP h31 (Addr.add (ah b25) 5) (ae n6) (λh32=>aP h32 (Addr.add (ah b25) 6) (aw b7) (λh33=>aP h33 (Addr.add (ah b25) 7) (ae n8) (λh34=>aP h34 (Addr.add (ah b25) 8) (aw b9) (λh35=>aP h35 (Addr.add (ah b25) 9) (ae n10) (λh36=>aP h36 (Addr.add (ah b25) 10) (aw b11) (λh37=>aP h37 (Addr.add (ah b25) 11) (ae n12) (λh38=>aP h38 (Addr.add (ah b25) 12) (ac n13) (λh39=>aP h39 (Addr.add (ah b25) 13) (ac n14) (λh40=>aP h40 (Addr.add (ah b25) 14) (ac n15) (λh41=>aP h41 (Addr.add (ah b25) 15) (ac n16) (λh42=>aP h42 (Addr.add (ah b25) 16) (ac n17) (λh43=>aP h43 (Addr.add (ah b25) 17) (ac n18) (λh44=>aP h44 (Addr.add (ah b25) 18) (.int .u8 n19) (λh45=>aP h45 (Addr.add (ah b25) 19) (aw b20) (λh46=>aP h46 (Addr.add (ah b25) 20) (ac n21) (λh47=>aP h47 (Addr.add (ah b25) 21) (ac n22) (λh48=>aP h48 (Addr.add (ah b25) 22) (af n23) (λh49=>aP h49 (Addr.add (ah b25) 23) (aw b24) (λh50=>G b25 h50))))))))))))))))))))))))))))))))))))))))))))))))):=by
 refine aQ (r 0 Y) ?_;refine aB (r 1 Y) ?_;refine aQ (r 2 Y) ?_;refine aB (r 3 Y) ?_;refine aQ (r 4 Y) ?_;refine aB (r 5 Y) ?_;refine aQ (r 6 Y) ?_;refine aB (r 7 Y) ?_;refine aQ (r 8 Y) ?_;refine aB (r 9 Y) ?_;refine aQ (r 10 Y) ?_;refine aB (r 11 Y) ?_;refine aB (r 12 Y) ?_;refine aB (r 13 Y) ?_;refine aB (r 14 Y) ?_;refine aB (r 15 Y) ?_;refine aB (r 16 Y) ?_;refine aB (r 17 Y) ?_;refine aB (r 18 Y) ?_;refine aQ (r 19 Y) ?_;refine aB (r 20 Y) ?_;refine aB (r 21 Y) ?_;refine aB (r 22 Y) ?_;refine aQ (r 23 Y) ?_;refine aM λh1 A1 O1 z1=> ?_;show mt (ah h.size) 0 (sL S) h1 λh'=>G h.size h';refine ip (o:=0) (sL S) 0 _ h1 A1 (by simp[sL]) (λw hw=> ?_) λh2 A2 O2 z2=>hG h2 ?_ (O1.trans O2 (by intro y hy hl;simp at hy;omega))
 ·simp only[sL,List.mem_cons,List.not_mem_nil,or_false]at hw;rcases hw with e|e|e|e|e|e|e|e|e|e|e|e|e|e|e|e|e|e|e|e|e|e|e|e<;>subst e<;>exact Ak _
 ·simpa[sL]using A2
section
variable {h:aA}{e:Nat}{E:fk}{K:KK}
def EQ(I:cR h e E){Q:List Value->Prop}(hQ: ∀v,(∀(k j:Nat),k<4->j<24->v[Int.toNat (k:Int)*24+j]? =some (sC (E.ses k) j))->Q v):D4 h (Addr.add (ah e) 3) 96 Q:=by
 refine⟨bS 96 λq=>eC E (3+q),bu _ _,λj v hj=> ?_,hQ _ λk j hk hj=> ?_⟩
 ·have hl:j<96:=by have:=(List.getElem?_eq_some_iff.1 hj).1;rwa[bu]at this
  rw[bY hl]at hj;injection hj with hj;subst hj;rw[aE,aE,Nat.zero_add];exact I.rd Y
 ·rw[bY Y,show 3+(Int.toNat (k:Int)*24+j)=3+24*k+j by omega,rN hk hj]
def je(E:fk):Prop:= ∃k,k<4/\(E.ses k).pend=true
def xY(E:fk):Prop:= ∃k,k<4/\(E.ses k).pend=true/\(E.ses k).cal.kind=8
def uT{k:Nat}(hk:k<4):ai ((k:Int)+1)=((k+1:Nat):Int):=by rw[wrap_i64 Y Y];omega
def nW(I:cR h e E)(hT:je E-> ∀h',aF [] h h'->K au h')(hF: ¬je E-> ∀h',aF [] h h'->K aq h'):Cl 78 [aX e] h K:=by
 refine F78.spec _ h K ?_;refine EQ I λv r=> ?_
 have main: ∀(d k:Nat) (hh:aA),d+k=4->(∀j,j<k->(E.ses j).pend=false)->aF [] h hh->F78.wL2 (d+1) v (k:Int) hh K:=by
  intro d
  induction d with
  |zero=>
   intro k hh hk hb O;rw[F78.sL2];rw[decide_eq_false Y,aD];refine hF (λ⟨j,hj,hp⟩=> ?_) hh O;rw[hb j Y]at hp;cases hp
  |succ d ih=>
   intro k hh hk hb O;rw[F78.sL2];rw[decide_eq_true Y,aG];refine⟨Y,Y,wi (S:=E.ses k) (λj hj=>r k j Y hj) λh2 A2 O2=> ?_⟩;refine aQ (n:=(E.ses k).pend) (by rw[aE,At.rd A2];rfl) (aH (λp=> ?_) λp=> ?_)
   ·exact hT ⟨k,Y,p⟩ h2 (O.trans O2 Z)
   ·rw[uT Y];refine ih (k+1) h2 Y (λj hj=> ?_) (O.trans O2 Z);by_cases q:j=k
    ·rw[q];exact p
    ·exact hb j Y
 exact⟨_,main 4 0 h Y (λj hj=>Y) (aF.refl _ _)⟩
def xh(I:cR h e E)(hT:xY E-> ∀h',aF [] h h'->K au h')(hF: ¬xY E-> ∀h',aF [] h h'->K aq h'):Cl 214 [aX e] h K:=by
 refine F214.spec _ h K ?_;refine EQ I λv r=> ?_
 have main: ∀(d k:Nat) (hh:aA),d+k=4->(∀j,j<k-> ¬((E.ses j).pend=true/\(E.ses j).cal.kind=8))->aF [] h hh->F214.wL2 (d+1) v (k:Int) hh K:=by
  intro d
  induction d with
  |zero=>
   intro k hh hk hb O;rw[F214.sL2];rw[decide_eq_false Y,aD];exact hF (λ⟨j,hj,hp⟩=>hb j Y hp) hh O
  |succ d ih=>
   intro k hh hk hb O;rw[F214.sL2];rw[decide_eq_true Y,aG];refine⟨Y,Y,wi (S:=E.ses k) (λj hj=>r k j Y hj) λh2 A2 O2=> ?_⟩
   have on: ¬((E.ses k).pend=true/\(E.ses k).cal.kind=8)->F214.wL2 (d+1) v (ai ((k:Int)+1)) h2 K:=λg=>by
    rw[uT Y];refine ih (k+1) h2 Y (λj hj=> ?_) (O.trans O2 Z);by_cases q:j=k
    ·rw[q];exact g
    ·exact hb j Y
   refine aQ (n:=(E.ses k).pend) (by rw[aE,At.rd A2];rfl) (aH (λp=> ?_) λp=> ?_)
   ·refine aB (n:=(E.ses k).cal.kind) (by rw[aE,aE,At.rd A2];rfl) (aH (λq=> ?_) λq=> ?_)
    ·exact hT ⟨k,Y,p,by simpa using q⟩ h2 (O.trans O2 Z)
    ·exact on λw=>by simp[w.2]at q
   ·exact on λw=>by rw[p]at w;cases w.1
 exact⟨_,main 4 0 h Y (λj hj=>Y) (aF.refl _ _)⟩
def mw(s p r:Nat):fk:=⟨s,p,r,λ_=>⟨λ_=>false,λ_=>0,⟨0,0,0,0,0,0,0⟩,false,0,0,0,false⟩,0⟩
def CN(s p r:Nat):jq (λ_=>0) (mw s p r):=λx=>by
 have: ∀n,dU (dL (mw s p r) x) n=0:=by
  intro n
  induction n with
  |zero=>rfl
  |succ n ih=>unfold dU;rw[ih];unfold dL mw;simp
 unfold jI;rw[this]
 rfl
end
end
section
variable {i j k l m n o p q r s t:Int}{a b c d:Addr}{u v:Nat}{x y:ak}{h:aA}{K:KK}
def F70.spec(H:aI .i64 (rd h (a.add 0)) λa=>K (ac a) h):Cl 70 [ag a] h K:=cN Tryz.func70 H
def F186.spec(H:aC (i<0) (K (ac (-1)) h) (aI .i64 (rd h (a.add 0)) λb=>aC (i>=b) (K (ac (-1)) h) ((0<=i/\i<8/\aI .i64 (rd h ((a.add 9).add (i.toNat*1))) λa=>K (ac a) h)))):Cl 186 [ag a,ac i] h K:=cN Tryz.func186 H
def F208.spec(H:Cl 47 [ag a] h λb c=>bi (some b) λb=>Cl 186 [ap b,ac i] c λb c=>aI .i64 (some b) λb=>Cl 161 [ag a,ac b,ae 0,ae 1] c λa b=> ∃c:Int,∃d:Int,a=(.tuple #[ae c,ac d])/\K (.tuple #[ae c,ac d]) b):Cl 208 [ag a,ac i] h K:=cN Tryz.func208 H
namespace F22
def T:bf:=⟨[(5,[0,3,4]),(12,[0,3,4,6,7,8,9])],[]⟩
noncomputable def body:Code:=(Tryz.f22.body).getD .skip
noncomputable def en(S:aS)(p:List Nat)(κ:XK):Fr->aA->Prop:=E Tryz.prog X T S (sub body p) κ
noncomputable def ln(S:aS)(p:List Nat)(κ:XK)(n:Nat):Fr->aA->Prop:=fQ S (E Tryz.prog X T S (sub body p)) (bJ T (sub body p)) κ n
def fn(K:KK):XK:=fin Tryz.prog Tryz.f22.results.toList K
noncomputable def c0(S:aS)(K:KK):XK:=dM S (bJ T (sub body [1,1,1,1])) (en S [1,1,1,1] (fn K)) (fn K)
noncomputable def c1(S:aS)(K:KK):XK:=br 0 (c0 S K)
noncomputable def c2(S:aS)(n5:Nat)(K:KK):XK:=cO S (bJ T (sub body [1,1,1,0,1,0,0])) (ln S [1,1,1,0,1,0,0] (c1 S K) n5) (c1 S K)
noncomputable def c3(S:aS)(n5:Nat)(K:KK):XK:=dM S (bJ T (sub body [1,1,1,0,1,0,0,1,1])) (en S [1,1,1,0,1,0,0,1,1] (c2 S n5 K)) (c2 S n5 K)
noncomputable def c4(S:aS)(n5:Nat)(K:KK):XK:=br 1 (c3 S n5 K)
noncomputable def c5(S:aS)(n5:Nat)(K:KK):XK:=br 2 (c4 S n5 K)
noncomputable def c6(S:aS)(n5:Nat)(n12:Nat)(K:KK):XK:=cO S (bJ T (sub body [1,1,1,0,1,0,0,1,0,0,1,1,1,1,0,0])) (ln S [1,1,1,0,1,0,0,1,0,0,1,1,1,1,0,0] (c5 S n5 K) n12) (c5 S n5 K)
def f5(d:Addr)(b:ak)(a c:Nat)(f:Int):Fr:=[(0,(ag d)),(3,(.slice b a c)),(4,(ac f))]
def f12(d:Addr)(b:ak)(a c:Nat)(f i j l g:Int):Fr:=[(0,(ag d)),(3,(.slice b a c)),(4,(ac f)),(6,(ac i)),(7,(ae j)),(8,(ae l)),(9,(ac g))]
def J0(k5:Addr->(ak)->Nat->Nat->Int->aA->Prop)(d:Addr)(h:aA)(K:KK):Prop:=
 Cl 59 [(ag d)] h (λv1 h2=>cW (some v1) (λp3 l4 c5=>Cl 45 [(ag d)] h2 (λv6 h7=>aI .i64 (some v6) (λn8=>aC ((Nat.cast l4:Int) !=n8) (K aq h7) (Cl 70 [(ag d)] h7 (λv9 h10=>aI .i64 (some v9) (λn11=>aC (decide ((Nat.cast l4:Int)>n11)) (K aq h10) (k5 d p3 l4 c5 (0:Int) h10))))))))
def E0(S:aS)(d:Addr)(h:aA)(K:KK):(E Tryz.prog X T S body (fin Tryz.prog Tryz.f22.results.toList K) (cx 0 [(ag d)]) h)=J0 (λd b a c f h=>S (en S [1,1,1,0,1] (c0 S K)) (f5 d b a c f) h) d h K:=by kernel_rfl
def Jk5(lp5:Addr->(ak)->Nat->Nat->Int->aA->Prop)(d:Addr)(b:ak)(a c:Nat)(f:Int)(h:aA)(_K:KK):Prop:=
 lp5 d b a c f h
def Ek5(S:aS)(d:Addr)(b:ak)(a c:Nat)(f:Int)(h:aA)(K:KK):(en S [1,1,1,0,1] (c0 S K) (f5 d b a c f) h)=Jk5 (λd b a c f h=> ∃n,S (ln S [1,1,1,0,1,0,0] (c1 S K) n) (f5 d b a c f) h) d b a c f h K:=by kernel_rfl
def JL5(k12:Addr->(ak)->Nat->Nat->Int->Int->Int->Int->Int->aA->Prop)(d:Addr)(b:ak)(a c:Nat)(f:Int)(h:aA)(K:KK):Prop:=
 aC (decide (f<(Nat.cast a:Int))) (aN b (λa1=>(0<=f/\f<(Nat.cast a:Int)/\aI .u32 (rd h (a1.add (Int.toNat f*1))) (λn2=>Cl 71 [(ag d),(ae n2)] h (λv3 h4=>aI .i64 (some v3) (λn5=>Cl 72 [(ag d),(ae n2)] h4 (λv6 h7=>aI .u32 (some v6) (λn8=>Cl 73 [(ag d),(ae n2)] h7 (λv9 h10=>aI .u32 (some v9) (λn11=>aC (decide (n2<=(1:Int))) (K aq h10) (aC (decide (f>(0:Int))) (aN b (λa12=>(0<=(ai (f-(1:Int)))/\(ai (f-(1:Int)))<(Nat.cast a:Int)/\aI .u32 (rd h10 (a12.add (Int.toNat (ai (f-(1:Int)))*1))) (λn13=>aC (decide (n13>=n2)) (K aq h10) (Cl 74 [(ag d),(ae n2)] h10 (λv14 h15=>bA (some v14) (λb16=>aC (!b16) (K aq h15) (aC (decide (n5<(0:Int))) (K aq h15) (Cl 75 [(ag d)] h15 (λv17 h18=>aI .i64 (some v17) (λn19=>aC (decide (n5>=n19)) (K aq h18) (aC (n8==n11) (K aq h18) (Cl 74 [(ag d),(ae n8)] h18 (λv20 h21=>bA (some v20) (λb22=>aC (!b22) (K aq h21) (Cl 74 [(ag d),(ae n11)] h21 (λv23 h24=>bA (some v23) (λb25=>aC (!b25) (K aq h24) (Cl 71 [(ag d),(ae n8)] h24 (λv26 h27=>aI .i64 (some v26) (λn28=>aC (decide (n28<=n5)) (K aq h27) (Cl 71 [(ag d),(ae n11)] h27 (λv29 h30=>aI .i64 (some v29) (λn31=>aC (decide (n31<=n5)) (K aq h30) (k12 d b a c f n5 n8 n11 (0:Int) h30))))))))))))))))))))))))) (Cl 74 [(ag d),(ae n2)] h10 (λv32 h33=>bA (some v32) (λb34=>aC (!b34) (K aq h33) (aC (decide (n5<(0:Int))) (K aq h33) (Cl 75 [(ag d)] h33 (λv35 h36=>aI .i64 (some v35) (λn37=>aC (decide (n5>=n37)) (K aq h36) (aC (n8==n11) (K aq h36) (Cl 74 [(ag d),(ae n8)] h36 (λv38 h39=>bA (some v38) (λb40=>aC (!b40) (K aq h39) (Cl 74 [(ag d),(ae n11)] h39 (λv41 h42=>bA (some v41) (λb43=>aC (!b43) (K aq h42) (Cl 71 [(ag d),(ae n8)] h42 (λv44 h45=>aI .i64 (some v44) (λn46=>aC (decide (n46<=n5)) (K aq h45) (Cl 71 [(ag d),(ae n11)] h45 (λv47 h48=>aI .i64 (some v47) (λn49=>aC (decide (n49<=n5)) (K aq h48) (k12 d b a c f n5 n8 n11 (0:Int) h48)))))))))))))))))))))))))))))))) (K au h)
def EL5(S:aS)(n5:Nat)(d:Addr)(b:ak)(a c:Nat)(f:Int)(h:aA)(K:KK):(en S [1,1,1,0,1,0,0] (c2 S n5 K) (f5 d b a c f) h)=JL5 (λd b a c f i j l g h=>S (en S [1,1,1,0,1,0,0,1,0,0,1,1,1,1] (c4 S n5 K)) (f12 d b a c f i j l g) h) d b a c f h K:=by kernel_rfl
def Jk12(lp12:Addr->(ak)->Nat->Nat->Int->Int->Int->Int->Int->aA->Prop)(d:Addr)(b:ak)(a c:Nat)(f i j l g:Int)(h:aA)(_K:KK):Prop:=
 lp12 d b a c f i j l g h
def Ek12(S:aS)(n5:Nat)(d:Addr)(b:ak)(a c:Nat)(f i j l g:Int)(h:aA)(K:KK):(en S [1,1,1,0,1,0,0,1,0,0,1,1,1,1] (c4 S n5 K) (f12 d b a c f i j l g) h)=Jk12 (λd b a c f i j l g h=> ∃n,S (ln S [1,1,1,0,1,0,0,1,0,0,1,1,1,1,0,0] (c5 S n5 K) n) (f12 d b a c f i j l g) h) d b a c f i j l g h K:=by kernel_rfl
def JL12(bk12:Addr->(ak)->Nat->Nat->Int->Int->Int->Int->Int->aA->Prop)(bk5:Addr->(ak)->Nat->Nat->Int->aA->Prop)(d:Addr)(b:ak)(a c:Nat)(f i j l g:Int)(h:aA)(K:KK):Prop:=
 aC (decide (g<f)) (aN b (λa1=>(0<=g/\g<(Nat.cast a:Int)/\aI .u32 (rd h (a1.add (Int.toNat g*1))) (λn2=>Cl 71 [(ag d),(ae n2)] h (λv3 h4=>aI .i64 (some v3) (λn5=>aC (n5==i) (aN b (λa6=>(0<=g/\g<(Nat.cast a:Int)/\aI .u32 (rd h4 (a6.add (Int.toNat g*1))) (λn7=>Cl 72 [(ag d),(ae n7)] h4 (λv8 h9=>aI .u32 (some v8) (λn10=>aC (n10==j) (aN b (λa11=>(0<=g/\g<(Nat.cast a:Int)/\aI .u32 (rd h9 (a11.add (Int.toNat g*1))) (λn12=>Cl 73 [(ag d),(ae n12)] h9 (λv13 h14=>aI .u32 (some v13) (λn15=>aC (n15==l) (K aq h14) (bk12 d b a c f i j l (ai (g+(1:Int))) h14))))))) (bk12 d b a c f i j l (ai (g+(1:Int))) h9))))))) (bk12 d b a c f i j l (ai (g+(1:Int))) h4))))))) (bk5 d b a c (ai (f+(1:Int))) h)
def EL12(S:aS)(n5:Nat)(n12:Nat)(d:Addr)(b:ak)(a c:Nat)(f i j l g:Int)(h:aA)(K:KK):(en S [1,1,1,0,1,0,0,1,0,0,1,1,1,1,0,0] (c6 S n5 n12 K) (f12 d b a c f i j l g) h)=JL12 (λd b a c f i j l g h=>S (ln S [1,1,1,0,1,0,0,1,0,0,1,1,1,1,0,0] (c5 S n5 K) n12) (f12 d b a c f i j l g) h) (λd b a c f h=>S (ln S [1,1,1,0,1,0,0] (c1 S K) n5) (f5 d b a c f) h) d b a c f i j l g h K:=by kernel_rfl
def wL12(bk5:Addr->(ak)->Nat->Nat->Int->aA->Prop):Nat->Addr->(ak)->Nat->Nat->Int->Int->Int->Int->Int->aA->KK->Prop
 |0,_,_,_,_,_,_,_,_,_,_,_=>False
 |n+1,d,b,a,c,f,i,j,l,g,h,K=>JL12 (λd b a c f i j l g h=>wL12 bk5 n d b a c f i j l g h K) bk5 d b a c f i j l g h K
def eL12(K:KK)(n5:Nat)(bk5:Addr->(ak)->Nat->Nat->Int->aA->Prop)(hb5: ∀(d:Addr) (b:ak) (a c:Nat) (f:Int) (h:aA),(ln S0 [1,1,1,0,1,0,0] (c1 S0 K) n5 (f5 d b a c f) h)=bk5 d b a c f h): ∀(n:Nat) (d:Addr) (b:ak) (a c:Nat) (f i j l g:Int) (h:aA),(ln S0 [1,1,1,0,1,0,0,1,0,0,1,1,1,1,0,0] (c5 S0 n5 K) n (f12 d b a c f i j l g) h)=wL12 bk5 n d b a c f i j l g h K
 |0,_,_,_,_,_,_,_,_,_,_=>rfl
 |n+1,d,b,a,c,f,i,j,l,g,h=>(EL12 S0 n5 n d b a c f i j l g h K).trans (mM (λq0 q1=>JL12 q0 q1 d b a c f i j l g h K) (by funext d b a c f i j l g h;exact(λd b a c f i j l g h=>eL12 K n5 bk5 hb5 n d b a c f i j l g h) d b a c f i j l g h) (by funext d b a c f h;exact hb5 d b a c f h))
def wk12(bk5:Addr->(ak)->Nat->Nat->Int->aA->Prop)(d:Addr)(b:ak)(a c:Nat)(f i j l g:Int)(h:aA)(K:KK):Prop:=
 Jk12 (λd b a c f i j l g h=> ∃m,wL12 bk5 m d b a c f i j l g h K) d b a c f i j l g h K
def ek12(K:KK)(n5:Nat)(bk5:Addr->(ak)->Nat->Nat->Int->aA->Prop)(hb5: ∀(d:Addr) (b:ak) (a c:Nat) (f:Int) (h:aA),(ln S0 [1,1,1,0,1,0,0] (c1 S0 K) n5 (f5 d b a c f) h)=bk5 d b a c f h)(d:Addr)(b:ak)(a c:Nat)(f i j l g:Int)(h:aA):(en S0 [1,1,1,0,1,0,0,1,0,0,1,1,1,1] (c4 S0 n5 K) (f12 d b a c f i j l g) h)=wk12 bk5 d b a c f i j l g h K:=(Ek12 S0 n5 d b a c f i j l g h K).trans (fX (λq0=>Jk12 q0 d b a c f i j l g h K) (by funext d b a c f i j l g h;exact bq λm=>eL12 K n5 bk5 hb5 m d b a c f i j l g h))
def wL5:Nat->Addr->(ak)->Nat->Nat->Int->aA->KK->Prop
 |0,_,_,_,_,_,_,_=>False
 |n+1,d,b,a,c,f,h,K=>JL5 (λd b a c f i j l g h=>wk12 (λd b a c f h=>wL5 n d b a c f h K) d b a c f i j l g h K) d b a c f h K
def eL5(K:KK): ∀(n:Nat) (d:Addr) (b:ak) (a c:Nat) (f:Int) (h:aA),(ln S0 [1,1,1,0,1,0,0] (c1 S0 K) n (f5 d b a c f) h)=wL5 n d b a c f h K
 |0,_,_,_,_,_,_=>rfl
 |n+1,d,b,a,c,f,h=>(EL5 S0 n d b a c f h K).trans (fX (λq0=>JL5 q0 d b a c f h K) (by funext d b a c f i j l g h;exact ek12 K n (λd b a c f h=>wL5 n d b a c f h K) (λd b a c f h=>eL5 K n d b a c f h) d b a c f i j l g h))
def wk5(d:Addr)(b:ak)(a c:Nat)(f:Int)(h:aA)(K:KK):Prop:=
 Jk5 (λd b a c f h=> ∃m,wL5 m d b a c f h K) d b a c f h K
def ek5(K:KK)(d:Addr)(b:ak)(a c:Nat)(f:Int)(h:aA):(en S0 [1,1,1,0,1] (c0 S0 K) (f5 d b a c f) h)=wk5 d b a c f h K:=(Ek5 S0 d b a c f h K).trans (fX (λq0=>Jk5 q0 d b a c f h K) (by funext d b a c f h;exact bq λm=>eL5 K m d b a c f h))
def w(d:Addr)(h:aA)(K:KK):Prop:=
 J0 (λd b a c f h=>wk5 d b a c f h K) d h K
def e0(K:KK)(d:Addr)(h:aA):(E Tryz.prog X T S0 body (fin Tryz.prog Tryz.f22.results.toList K) (cx 0 [(ag d)]) h)=w d h K:=(E0 S0 d h K).trans (fX (λq0=>J0 q0 d h K) (by funext d b a c f h;exact ek5 K d b a c f h))
def hb:Tryz.f22.body=some body:=by kernel_rfl
def ok:bZ T Tryz.f22.ntmps body=true:=by kernel_rfl
def spec(d:Addr)(h:aA)(K:KK)(H:w d h K):Cl 22 [(ag d)] h K:=
 cf (T:=T) xK xJ Tryz.func22 hb ok rfl (by rw[e0];exact H)
end F22
def F59.T:bf:=⟨[(3,[3,9,10,11])],[]⟩
section
variable (n:Nat)(l:Addr)(f:ak)(d c:Nat)(i:ak)(g j:Nat)(b a:Int)(h:aA)(K:KK)
def F59.wL3:Prop:=Lp Tryz.f59 F59.T [1,1,0,1,0] n [(3,(.slice f d c)),(9,(.slice i g j)),(10,(ac b)),(11,(ac a))] h K
def F59.sL3:F59.wL3 (n+1) f d c i g j b a h K=(aC (a<b) (aN i λe=>0<=a/\a<(g:Int)/\bA (rd h ((e.add (a.toNat*4)).add 0)) λk=>aI .i64 (rd h ((e.add (a.toNat*4)).add 1)) λl=>aI .u32 (rd h ((e.add (a.toNat*4)).add 2)) λm=>aI .u32 (rd h ((e.add (a.toNat*4)).add 3)) λe=>aZ h (.cells #[aq,ac 0,ae 0,ae 0] 195) λo p=>aP p ((ah o).add 0) (aw k) λk=>aP k ((ah o).add 1) (ac l) λk=>aP k ((ah o).add 2) (ae m) λk=>aP k ((ah o).add 3) (ae e) λe=>bA (rd e ((ah o).add 0)) λk=>aC k (aZ e (.cells #[ae (IntKind.wrap .u32 (ai (a+2)))] 46) λe k=>fA k 46 1 4 #[ae 0] f d c (some (ah e)) 1 λc d e f=>F59.wL3 n c d e i g j b (ai (a+1)) f K) (F59.wL3 n f d c i g j b (ai (a+1)) e K)) (K (.slice f d c) h)):=by kernel_rfl
def F59.wk3:Prop:=(∃e,F59.wL3 e f d c i g j b a h K)
def F59.spec(H:cW (rd h (l.add 2)) λa b c=>F59.wk3 none 0 0 a b c (b:Int) 0 h K):Cl 59 [ag l] h K:=cT F59.T Tryz.func59 H
end
end
section
variable {i j k l m n o p q r s t:Int}{a b c d:Addr}{u v:Nat}{x y:ak}{h:aA}{K:KK}
def F83.T:bf:=⟨[],[(10,[[(0,[]),(1,[]),(2,[]),(3,[]),(4,[]),(5,[]),(7,[]),(6,[7]),(8,[]),(9,[]),(10,[]),(11,[]),(12,[]),(13,[]),(15,[]),(16,[]),(14,[15,16]),(17,[]),(18,[]),(19,[]),(20,[18,19]),(21,[])]])]⟩
def F83.spec(H:aZ h (.cells #[af 0,af 0,af 0,af 0] 51) λb c=>aC (i==0) (aP c ((ah b).add 0) (af 0) λa=>aP a ((ah b).add 1) (af 0) λa=>aP a ((ah b).add 2) (af 0) λa=>aP a ((ah b).add 3) (af 0) λa=>aI .u64 (rd a ((ah b).add 0)) λc=>aI .u64 (rd a ((ah b).add 1)) λd=>aI .u64 (rd a ((ah b).add 2)) λe=>aI .u64 (rd a ((ah b).add 3)) λb=>K (.tuple #[.agg #[af c,af d,af e,af b],au]) a) (aC (i==1) (Cl 86 [.agg #[af 0,af 0,af 0,af 0]] c λa c=> ∃d:Int,∃e:Int,∃f:Int,∃g:Int,a=(.agg #[af d,af e,af f,af g])/\aP c ((ah b).add 0) (af d) λa=>aP a ((ah b).add 1) (af e) λa=>aP a ((ah b).add 2) (af f) λa=>aP a ((ah b).add 3) (af g) λa=>aI .u64 (rd a ((ah b).add 0)) λc=>aI .u64 (rd a ((ah b).add 1)) λd=>aI .u64 (rd a ((ah b).add 2)) λe=>aI .u64 (rd a ((ah b).add 3)) λb=>K (.tuple #[.agg #[af c,af d,af e,af b],au]) a) (Cl 71 [ag a,ae i] c λc d=>aI .i64 (some c) λc=>Cl 74 [ag a,ae i] d λd e=>bA (some d) λd=>aC (!d) (aP e ((ah b).add 0) (af 0) λa=>aP a ((ah b).add 1) (af 0) λa=>aP a ((ah b).add 2) (af 0) λa=>aP a ((ah b).add 3) (af 0) λa=>aI .u64 (rd a ((ah b).add 0)) λc=>aI .u64 (rd a ((ah b).add 1)) λd=>aI .u64 (rd a ((ah b).add 2)) λe=>aI .u64 (rd a ((ah b).add 3)) λb=>K (.tuple #[.agg #[af c,af d,af e,af b],aq]) a) (aC (c<j) (aP e ((ah b).add 0) (af 0) λa=>aP a ((ah b).add 1) (af 0) λa=>aP a ((ah b).add 2) (af 0) λa=>aP a ((ah b).add 3) (af 0) λa=>aI .u64 (rd a ((ah b).add 0)) λc=>aI .u64 (rd a ((ah b).add 1)) λd=>aI .u64 (rd a ((ah b).add 2)) λe=>aI .u64 (rd a ((ah b).add 3)) λb=>K (.tuple #[.agg #[af c,af d,af e,af b],aq]) a) (aC (c>=(u:Int)) (aP e ((ah b).add 0) (af 0) λa=>aP a ((ah b).add 1) (af 0) λa=>aP a ((ah b).add 2) (af 0) λa=>aP a ((ah b).add 3) (af 0) λa=>aI .u64 (rd a ((ah b).add 0)) λc=>aI .u64 (rd a ((ah b).add 1)) λd=>aI .u64 (rd a ((ah b).add 2)) λe=>aI .u64 (rd a ((ah b).add 3)) λb=>K (.tuple #[.agg #[af c,af d,af e,af b],aq]) a) (Cl 72 [ag a,ae i] e λd e=>aI .u32 (some d) λd=>Cl 83 [ag a,ae d,.slice x u v,ac (ai (c+1))] e λd e=> ∃f:Int,∃g:Int,∃j:Int,∃k:Int,∃l:Bool,d=(.tuple #[.agg #[af f,af g,af j,af k],aw l])/\aZ e (.cells #[af 0,af 0,af 0,af 0] 51) λd e=>aP e ((ah d).add 0) (af f) λe=>aP e ((ah d).add 1) (af g) λe=>aP e ((ah d).add 2) (af j) λe=>aP e ((ah d).add 3) (af k) λe=>Cl 73 [ag a,ae i] e λe f=>aI .u32 (some e) λe=>Cl 83 [ag a,ae e,.slice x u v,ac (ai (c+1))] f λe f=> ∃g:Int,∃j:Int,∃k:Int,∃m:Int,∃n:Bool,e=(.tuple #[.agg #[af g,af j,af k,af m],aw n])/\aZ f (.cells #[af 0,af 0,af 0,af 0] 51) λe f=>aP f ((ah e).add 0) (af g) λf=>aP f ((ah e).add 1) (af j) λf=>aP f ((ah e).add 2) (af k) λf=>aP f ((ah e).add 3) (af m) λf=>aN x λg=>0<=c/\c<(u:Int)/\aI .u64 (rd f ((g.add (c.toNat*4)).add 0)) λj=>aI .u64 (rd f ((g.add (c.toNat*4)).add 1)) λk=>aI .u64 (rd f ((g.add (c.toNat*4)).add 2)) λm=>aI .u64 (rd f ((g.add (c.toNat*4)).add 3)) λc=>aI .u64 (rd f ((ah e).add 0)) λg=>aI .u64 (rd f ((ah e).add 1)) λo=>aI .u64 (rd f ((ah e).add 2)) λp=>aI .u64 (rd f ((ah e).add 3)) λe=>aI .u64 (rd f ((ah d).add 0)) λq=>aI .u64 (rd f ((ah d).add 1)) λr=>aI .u64 (rd f ((ah d).add 2)) λs=>aI .u64 (rd f ((ah d).add 3)) λd=>Cl 131 [.agg #[af j,af k,af m,af c],.agg #[af g,af o,af p,af e],.agg #[af q,af r,af s,af d]] f λc d=> ∃e:Int,∃f:Int,∃g:Int,∃j:Int,c=(.agg #[af e,af f,af g,af j])/\ay (aw l)/\aC l (aC n (Cl 72 [ag a,ae i] d λc d=>aI .u32 (some c) λc=>ay (ag a)/\ay (ae i)/\Cl 73 [ag a,ae i] d λa d=>aI .u32 (some a) λa=>aP d ((ah b).add 0) (af e) λd=>aP d ((ah b).add 1) (af f) λd=>aP d ((ah b).add 2) (af g) λd=>aP d ((ah b).add 3) (af j) λd=>ay (aw (c !=a))/\ay (aw (c !=a))/\aI .u64 (rd d ((ah b).add 0)) λe=>aI .u64 (rd d ((ah b).add 1)) λf=>aI .u64 (rd d ((ah b).add 2)) λg=>aI .u64 (rd d ((ah b).add 3)) λb=>K (.tuple #[.agg #[af e,af f,af g,af b],aw (c !=a)]) d) ((ax=undef/\ax=undef/\aP d ((ah b).add 0) (af e) λa=>aP a ((ah b).add 1) (af f) λa=>aP a ((ah b).add 2) (af g) λa=>aP a ((ah b).add 3) (af j) λa=>ax=undef/\ay aq/\aI .u64 (rd a ((ah b).add 0)) λc=>aI .u64 (rd a ((ah b).add 1)) λd=>aI .u64 (rd a ((ah b).add 2)) λe=>aI .u64 (rd a ((ah b).add 3)) λb=>K (.tuple #[.agg #[af c,af d,af e,af b],aq]) a))) ((ax=undef/\ax=undef/\aP d ((ah b).add 0) (af e) λa=>aP a ((ah b).add 1) (af f) λa=>aP a ((ah b).add 2) (af g) λa=>aP a ((ah b).add 3) (af j) λa=>ax=undef/\ay aq/\aI .u64 (rd a ((ah b).add 0)) λc=>aI .u64 (rd a ((ah b).add 1)) λd=>aI .u64 (rd a ((ah b).add 2)) λe=>aI .u64 (rd a ((ah b).add 3)) λb=>K (.tuple #[.agg #[af c,af d,af e,af b],aq]) a)))))))):Cl 83 [ag a,ae i,.slice x u v,ac j] h K:=cT F83.T Tryz.func83 H
def F29.T:bf:=⟨[(4,[0,1,4,6,7,8]),(7,[0,1,4,7])],[]⟩
section
variable (n:Nat)(i:Addr)(l:Int)(a:Addr)(g:ak)(b j:Nat)(f:ak)(d c:Nat)(o:Int)(h:aA)(K:KK)
def F29.wk7:Prop:=Cl 83 [ag i,ae l,.slice f d c,ac 0] h λb c=> ∃d:Int,∃e:Int,∃f:Int,∃g:Int,∃i:Bool,b=(.tuple #[.agg #[af d,af e,af f,af g],aw i])/\aP c (a.add 0) (af d) λb=>aP b (a.add 1) (af e) λb=>aP b (a.add 2) (af f) λb=>aP b (a.add 3) (af g) λb=>aI .u64 (rd b (a.add 0)) λc=>aI .u64 (rd b (a.add 1)) λd=>aI .u64 (rd b (a.add 2)) λe=>aI .u64 (rd b (a.add 3)) λa=>K (.tuple #[.agg #[af c,af d,af e,af a],aw i]) b
def F29.wL4:Prop:=Lp Tryz.f29 F29.T [1,1,1,0,1,0] n [(0,(ag i)),(1,(ae l)),(4,(ag a)),(6,(.slice g b j)),(7,(.slice f d c)),(8,(ac o))] h K
def F29.sL4:F29.wL4 (n+1) i l a g b j f d c o h K=(aC (o<(b:Int)) (aN g λe=>0<=o/\o<(b:Int)/\aI .i64 (rd h (e.add (o.toNat*1))) λe=>Cl 33 [ac e] h λe k=> ∃m:Int,∃p:Int,∃q:Int,∃r:Int,e=(.agg #[af m,af p,af q,af r])/\aZ k (.cells #[af m,af p,af q,af r] 51) λe k=>fA k 51 4 32 #[af 0,af 0,af 0,af 0] f d c (some (ah e)) 1 λc d e f=>F29.wL4 n i l a g b j c d e (ai (o+1)) f K) (F29.wk7 i l a f d c h K)):=by kernel_rfl
def F29.wk4:Prop:=(∃e,F29.wL4 e i l a g b j f d c o h K)
def F29.spec(H:aZ h (.cells #[af 0,af 0,af 0,af 0] 51) λa b=>Cl 47 [ag i] b λb c=>bi (some b) λb=>Cl 48 [ap b] c λb c=>cW (some b) λb d e=>F29.wk4 i l (ah a) b d e none 0 0 0 c K):Cl 29 [ag i,ae l] h K:=cT F29.T Tryz.func29 H
end
end
section
variable {i j k l m n o p q r s t:Int}{a b c d:Addr}{u v:Nat}{x y:ak}{h:aA}{K:KK}
def F131.T:bf:=⟨[],[(1,[[(0,[]),(1,[]),(3,[]),(5,[]),(2,[3,5]),(4,[5]),(6,[]),(7,[]),(8,[])]])]⟩
def F131.spec(H:aZ h (.cells #[af i,af j,af k,af l] 51) λa b=>aZ b (.cells #[af m,af n,af o,af p] 51) λb c=>aZ c (.cells #[af q,af r,af s,af t] 51) λc d=>aZ d (.cells #[af 0,af 0,af 0,af 0] 51) λd e=>aI .u64 (rd e ((ah a).add 0)) λf=>aI .u64 (rd e ((ah a).add 1)) λg=>aI .u64 (rd e ((ah a).add 2)) λi=>aI .u64 (rd e ((ah a).add 3)) λj=>aI .u64 (rd e ((ah b).add 0)) λk=>aI .u64 (rd e ((ah b).add 1)) λl=>aI .u64 (rd e ((ah b).add 2)) λm=>aI .u64 (rd e ((ah b).add 3)) λb=>aI .u64 (rd e ((ah a).add 0)) λn=>aI .u64 (rd e ((ah a).add 1)) λo=>aI .u64 (rd e ((ah a).add 2)) λp=>aI .u64 (rd e ((ah a).add 3)) λq=>aI .u64 (rd e ((ah c).add 0)) λr=>aI .u64 (rd e ((ah c).add 1)) λs=>aI .u64 (rd e ((ah c).add 2)) λt=>aI .u64 (rd e ((ah c).add 3)) λu=>Cl 145 [.agg #[af f,af g,af i,af j],.agg #[af k,af l,af m,af b]] e λb e=> ∃f:Int,∃g:Int,∃i:Int,∃j:Int,b=(.agg #[af f,af g,af i,af j])/\aI .u64 (rd e ((ah a).add 0)) λb=>aI .u64 (rd e ((ah a).add 1)) λk=>aI .u64 (rd e ((ah a).add 2)) λl=>aI .u64 (rd e ((ah a).add 3)) λa=>az (.agg #[af b,af k,af l,af a]) (.agg #[af n,af o,af p,af q])/\aI .u64 (rd e ((ah c).add 0)) λa=>aI .u64 (rd e ((ah c).add 1)) λb=>aI .u64 (rd e ((ah c).add 2)) λk=>aI .u64 (rd e ((ah c).add 3)) λl=>az (.agg #[af a,af b,af k,af l]) (.agg #[af r,af s,af t,af u])/\Cl 86 [.agg #[af n,af o,af p,af q]] e λa b=> ∃e:Int,∃k:Int,∃l:Int,∃m:Int,a=(.agg #[af e,af k,af l,af m])/\aI .u64 (rd b ((ah c).add 0)) λa=>aI .u64 (rd b ((ah c).add 1)) λn=>aI .u64 (rd b ((ah c).add 2)) λo=>aI .u64 (rd b ((ah c).add 3)) λc=>az (.agg #[af a,af n,af o,af c]) (.agg #[af r,af s,af t,af u])/\Cl 145 [.agg #[af e,af k,af l,af m],.agg #[af r,af s,af t,af u]] b λa b=> ∃c:Int,∃e:Int,∃k:Int,∃l:Int,a=(.agg #[af c,af e,af k,af l])/\Cl 146 [.agg #[af f,af g,af i,af j],.agg #[af c,af e,af k,af l]] b λa b=> ∃c:Int,∃e:Int,∃f:Int,∃g:Int,a=(.agg #[af c,af e,af f,af g])/\aP b ((ah d).add 0) (af c) λa=>aP a ((ah d).add 1) (af e) λa=>aP a ((ah d).add 2) (af f) λa=>aP a ((ah d).add 3) (af g) λa=>aI .u64 (rd a ((ah d).add 0)) λb=>aI .u64 (rd a ((ah d).add 1)) λc=>aI .u64 (rd a ((ah d).add 2)) λe=>aI .u64 (rd a ((ah d).add 3)) λd=>K (.agg #[af b,af c,af e,af d]) a):Cl 131 [.agg #[af i,af j,af k,af l],.agg #[af m,af n,af o,af p],.agg #[af q,af r,af s,af t]] h K:=cT F131.T Tryz.func131 H
def F145.T:bf:=⟨[(2,[2,3,4,5])],[(4,[[(0,[]),(1,[]),(2,[]),(3,[]),(4,[]),(5,[]),(6,[]),(7,[]),(8,[]),(9,[])]])]⟩
section
variable (n:Nat)(d f g i j l o q:Int)(c r b:Addr)(a:Int)(h:aA)(K:KK)
def F145.wL2:Prop:=Lp Tryz.f145 F145.T [1,0,1,0] n [(2,(ag c)),(3,(ag r)),(4,(ag b)),(5,(ac a))] h K
def F145.sL2:F145.wL2 (n+1) c r b a h K=(aC (a<4) ((0<=a/\a<4/\aI .u64 (rd h (c.add (a.toNat*1))) λd=>0<=a/\a<4/\aI .u64 (rd h (r.add (a.toNat*1))) λe=>0<=a/\a<4/\aP h ((c.add (a.toNat*1)).add 0) (af (aY .and .u64 d e)) λd=>F145.wL2 n c r b (ai (a+1)) d K)) (aI .u64 (rd h (c.add 0)) λa=>aI .u64 (rd h (c.add 1)) λd=>aI .u64 (rd h (c.add 2)) λe=>aI .u64 (rd h (c.add 3)) λc=>aP h (b.add 0) (af a) λa=>aP a (b.add 1) (af d) λa=>aP a (b.add 2) (af e) λa=>aP a (b.add 3) (af c) λa=>aI .u64 (rd a (b.add 0)) λc=>aI .u64 (rd a (b.add 1)) λd=>aI .u64 (rd a (b.add 2)) λe=>aI .u64 (rd a (b.add 3)) λb=>K (.agg #[af c,af d,af e,af b]) a)):=by kernel_rfl
def F145.wk2:Prop:=(∃d,F145.wL2 d c r b a h K)
def F145.spec(H:aZ h (.cells #[af d,af f,af g,af i] 51) λa b=>aZ b (.cells #[af j,af l,af o,af q] 51) λb c=>aZ c (.cells #[af 0,af 0,af 0,af 0] 51) λc d=>F145.wk2 (ah a) (ah b) (ah c) 0 d K):Cl 145 [.agg #[af d,af f,af g,af i],.agg #[af j,af l,af o,af q]] h K:=cT F145.T Tryz.func145 H
end
def F86.T:bf:=⟨[(2,[1,2,3])],[]⟩
section
variable (n:Nat)(d f g i:Int)(c a:Addr)(b:Int)(h:aA)(K:KK)
def F86.wL2:Prop:=Lp Tryz.f86 F86.T [1,0,1,0] n [(1,(ag c)),(2,(ag a)),(3,(ac b))] h K
def F86.sL2:F86.wL2 (n+1) c a b h K=(aC (b<4) ((0<=b/\b<4/\aI .u64 (rd h (c.add (b.toNat*1))) λd=>0<=b/\b<4/\aP h ((c.add (b.toNat*1)).add 0) (af (aY .xor .u64 (if IntKind.signed .u64 then-1 else IntKind.max .u64) d)) λd=>F86.wL2 n c a (ai (b+1)) d K)) (aI .u64 (rd h (c.add 0)) λb=>aI .u64 (rd h (c.add 1)) λd=>aI .u64 (rd h (c.add 2)) λe=>aI .u64 (rd h (c.add 3)) λc=>aP h (a.add 0) (af b) λb=>aP b (a.add 1) (af d) λb=>aP b (a.add 2) (af e) λb=>aP b (a.add 3) (af c) λb=>aI .u64 (rd b (a.add 0)) λc=>aI .u64 (rd b (a.add 1)) λd=>aI .u64 (rd b (a.add 2)) λe=>aI .u64 (rd b (a.add 3)) λa=>K (.agg #[af c,af d,af e,af a]) b)):=by kernel_rfl
def F86.wk2:Prop:=(∃d,F86.wL2 d c a b h K)
def F86.spec(H:aZ h (.cells #[af d,af f,af g,af i] 51) λa b=>aZ b (.cells #[af 0,af 0,af 0,af 0] 51) λb c=>F86.wk2 (ah a) (ah b) 0 c K):Cl 86 [.agg #[af d,af f,af g,af i]] h K:=cT F86.T Tryz.func86 H
end
end
section
def ml(f g:Nat->Nat)(i j:Nat):Nat:=if j<i then f j&&&g j else f j
def mI(f:Nat->Nat)(i j:Nat):Nat:=if j<i then(eU-1)^^^f j else f j
def yM{f g:Nat->Nat}(hf:gA f)(_hg:gA g)(i:Nat):gA (ml f g i):=λj hj=>by
 unfold ml;split
 ·exact Nat.lt_of_le_of_lt Nat.and_le_left (hf j hj)
 ·exact hf j hj
def zt(f g:Nat->Nat){y:Nat}(hy:y<256):fb (ml f g 4) y=(fb f y&&fb g y):=by unfold fb ml;rw[if_pos Y,Nat.testBit_and]
def yN{k:Nat}(hk:k<64):(eU-1).testBit k=true:=by rw[show eU-1=2^64-1 from rfl,Nat.testBit_two_pow_sub_one];simp[hk]
def zo{f:Nat->Nat}(hf:gA f)(i:Nat):gA (mI f i):=λj hj=>by
 unfold mI;split
 ·have:=hf j hj;rw[show eU=2^64 from rfl]at this ⊢;exact Nat.xor_lt_two_pow (by decide) this
 ·exact hf j hj
def yZ{f:Nat->Nat}(_hf:gA f){y:Nat}(hy:y<256):fb (mI f 4) y= !fb f y:=by unfold fb mI;rw[if_pos Y,Nat.testBit_xor,yN Y];simp
def Am{a b:Nat}(ha:a<eU)(hb:b<eU):aY .xor .u64 (a:Int) (b:Int)=((a^^^b:Nat):Int):=by
 unfold aY;show IntKind.wrap .u64 ((BitVec.ofInt 64 (a:Int)^^^BitVec.ofInt 64 (b:Int)).toNat:Int)=_
 have e: ∀{a:Nat},a<eU->(BitVec.ofInt 64 (a:Int)).toNat=a:=λ{a} h=>by rw[BitVec.toNat_ofInt];unfold eU at h;omega
 rw[BitVec.toNat_xor,e ha,e hb];exact kI (by rw[show eU=2^64 from rfl]at ha hb ⊢;exact Nat.xor_lt_two_pow ha hb)
set_option maxRecDepth 100000 in
def vB{h:aA}{f g:Nat->Nat}{K:KK}(hf:gA f)(hg:gA g)(hK: ∀h' k,gA k->(∀y,y<256->fb k y=(fb f y&&fb g y))->aF [] h h'->K (gp k) h'):Cl 145 [gp f,gp g] h K:=by
 refine F145.spec _ _ _ _ _ _ _ _ h K ?_;refine aM λh1 A1 O1 z1=>aM λh2 A2 O2 z2=>aM λh3 A3 O3 z3=> ?_
 replace A1:At h1 h.size (cr f):=A1
 replace A2:At h2 h1.size (cr g):=A2
 replace A3:At h3 h2.size (cr λ_=>0):=A3
 have B1:=(A1.only O2 Z).only O3 Z;have B2:=A2.only O3 Z;have O13:aF [] h h3:=(O1.trans O2 Z).trans O3 Z;unfold F145.wk2
 have main: ∀(d i:Nat) (h':aA),i+d=4->At h' h.size (cr (ml f g i))->At h' h1.size (cr g)->At h' h2.size (cr λ_=>0)->aF [] h h'->
   F145.wL2 (d+1) (ah h.size) (ah h1.size) (ah h2.size) i h' K:=by
  intro d
  induction d with
  |zero=>
   intro i h' hd A B C O;rw[F145.sL2];rw[show decide ((i:Int)<4)=false by simp;omega,aD];have hi:i=4:=Y;subst hi;exact nG A C Y λh'' O''=>hK h'' _ (yM hf hg 4) (λy hy=>zt f g hy) (O.trans O'' (by intro b hb hlt;simp at hb;omega))
  |succ d ih=>
   intro i h' hd A B C O;rw[F145.sL2];have hi:i<4:=Y;rw[show decide ((i:Int)<4)=true by simp;omega,aG,show ai ((i:Int)+1)=((i+1:Nat):Int) by rw[wrap_i64 Y Y];omega];refine⟨Y,Y,?_⟩;rw[aE,aE,show 0+Int.toNat (i:Int)*1=i by omega,dF A hi,aU];refine⟨Y,Y,?_⟩;rw[dF B hi,aU];refine⟨Y,Y,?_⟩;have e0:ml f g i i=f i:=if_neg Y;rw[aE,Nat.add_zero,e0,En (hf i hi) (hg i hi)];refine gy A hi λh'' A'' O''=>ih (i+1) h'' Y ?_ (B.only O'' (by simp;omega)) (C.only O'' (by simp;omega)) (O.trans O'' (by intro b hb hlt;simp at hb;omega))
   have e:(λj=>if j=i then f i&&&g i else ml f g i j)=ml f g (i+1):=by
    funext j;unfold ml;by_cases hj:j=i
    ·subst hj;rw[if_pos rfl,if_pos Y]
    ·rw[if_neg hj];by_cases hl:j<i
     ·rw[if_pos hl,if_pos Y]
     ·rw[if_neg hl,if_neg Y]
   rw[e]at A'';exact A''
 have e0:ml f g 0=f:=by funext j;unfold ml;rw[if_neg Y]
 exact⟨_,main 4 0 h3 Y (by rw[e0];exact B1) B2 A3 O13⟩
set_option maxRecDepth 100000 in
def zE{h:aA}{f:Nat->Nat}{K:KK}(hf:gA f)(hK: ∀h' k,gA k->(∀y,y<256->fb k y= !fb f y)->aF [] h h'->K (gp k) h'):Cl 86 [gp f] h K:=by
 refine F86.spec _ _ _ _ h K ?_;refine aM λh1 A1 O1 z1=>aM λh2 A2 O2 z2=> ?_
 replace A1:At h1 h.size (cr f):=A1
 replace A2:At h2 h1.size (cr λ_=>0):=A2
 have B1:=A1.only O2 Z;have O12:aF [] h h2:=O1.trans O2 Z;unfold F86.wk2
 have main: ∀(d i:Nat) (h':aA),i+d=4->At h' h.size (cr (mI f i))->At h' h1.size (cr λ_=>0)->aF [] h h'->
   F86.wL2 (d+1) (ah h.size) (ah h1.size) i h' K:=by
  intro d
  induction d with
  |zero=>
   intro i h' hd A C O;rw[F86.sL2];rw[show decide ((i:Int)<4)=false by simp;omega,aD];have hi:i=4:=Y;subst hi;exact nG A C Y λh'' O''=>hK h'' _ (zo hf 4) (λy hy=>yZ hf hy) (O.trans O'' (by intro b hb hlt;simp at hb;omega))
  |succ d ih=>
   intro i h' hd A C O;rw[F86.sL2];have hi:i<4:=Y;rw[show decide ((i:Int)<4)=true by simp;omega,aG,show ai ((i:Int)+1)=((i+1:Nat):Int) by rw[wrap_i64 Y Y];omega];refine⟨Y,Y,?_⟩;rw[aE,show 0+Int.toNat (i:Int)*1=i by omega,dF A hi,aU];refine⟨Y,Y,?_⟩;have e0:mI f i i=f i:=if_neg Y;rw[aE,Nat.add_zero,e0,show(if IntKind.signed .u64 then(-1:Int)else IntKind.max .u64)=((eU-1:Nat):Int)from rfl,Am (by unfold eU;omega) (hf i hi)];refine gy A hi λh'' A'' O''=>ih (i+1) h'' Y ?_ (C.only O'' (by simp;omega)) (O.trans O'' (by intro b hb hlt;simp at hb;omega))
   have e:(λj=>if j=i then(eU-1)^^^f i else mI f i j)=mI f (i+1):=by
    funext j;unfold mI;by_cases hj:j=i
    ·subst hj;rw[if_pos rfl,if_pos Y]
    ·rw[if_neg hj];by_cases hl:j<i
     ·rw[if_pos hl,if_pos Y]
     ·rw[if_neg hl,if_neg Y]
   rw[e]at A'';exact A''
 have e0:mI f 0=f:=by funext j;unfold mI;rw[if_neg Y]
 exact⟨_,main 4 0 h2 Y (by rw[e0];exact B1) A2 O12⟩
set_option maxRecDepth 100000 in
def Au{h:aA}{f g k:Nat->Nat}{K:KK}(hf:gA f)(hg:gA g)(hk:gA k)(hK: ∀h' r,gA r->(∀y,y<256->fb r y=if fb f y then fb g y else fb k y)->aF [] h h'->K (gp r) h'):Cl 131 [gp f,gp g,gp k] h K:=by
 refine F131.spec ?_;refine aM λh1 A1 O1 z1=>aM λh2 A2 O2 z2=>aM λh3 A3 O3 z3=>aM λh4 A4 O4 z4=> ?_
 replace A1:At h1 h.size (cr f):=A1
 replace A2:At h2 h1.size (cr g):=A2
 replace A3:At h3 h2.size (cr k):=A3
 replace A4:At h4 h3.size (cr λ_=>0):=A4
 have B1:=((A1.only O2 Z).only O3 Z).only O4 Z;have B2:=(A2.only O3 Z).only O4 Z;have B3:=A3.only O4 Z;have O14:aF [] h h4:=((O1.trans O2 Z).trans O3 Z).trans O4 Z;refine qX B1 (qX B2 (qX B1 (qX B3 ?_)));refine vB hf hg λh5 u hu eu O5=>⟨_,_,_,_,rfl,?_⟩;refine qX (B1.only O5 Z) ⟨rfl,?_⟩;have C3:=B3.only O5 Z;refine qX C3 ⟨rfl,?_⟩;refine zE hf λh6 v hv ev O6=>⟨_,_,_,_,rfl,?_⟩;refine qX (C3.only O6 Z) ⟨rfl,?_⟩;refine vB hv hk λh7 w hw ew O7=>⟨_,_,_,_,rfl,?_⟩;refine Ec hu hw λh8 r hr er O8=>⟨_,_,_,_,rfl,?_⟩;have O58:aF [] h4 h8:=((O5.trans O6 Z).trans O7 Z).trans O8 Z;refine gd (A4.only O58 Z) λh9 A9 O9=> ?_;refine qX A9 (hK h9 r hr (λy hy=> ?_) ((O14.trans O58 Z).trans O9 (by intro b hb hl;simp at hb;omega)));rw[er y hy,eu y hy,ew y hy,ev y hy];cases fb f y<;>simp
end
section
structure DK(h:aA)(b n:Nat)(f:Nat->Nat)(gs:Nat->Nat->Nat):Prop where
 rd: ∀k i,k<n->i<4->Ev.rd h ⟨b,k*4+i,none⟩=some (af (gs k i:Int))
 ok: ∀k,k<n->gA (gs k)
 fb: ∀k,k<n-> ∀y,y<256->Ev.fb (gs k) y=y.testBit (f k)
def DK.only{h h':aA}{b n:Nat}{f:Nat->Nat}{gs:Nat->Nat->Nat}(H:DK h b n f gs)(O:aF [] h h'):DK h' b n f gs:=
 ⟨λk i hk hi=>yz (H.rd k i hk hi) O Z,H.ok,H.fb⟩
def Cd:gA λ_=>0:=λi _=>by show 0<eU;unfold eU;omega
section
variable {h:aA}{s a:Nat}{L:List Nat}{X:SX}{K:KK}
def pN{a:Nat}:((a:Int)==(0:Int))=decide (a=0):=by
 by_cases h:a=0
 ·subst h;rfl
 ·rw[decide_eq_false h];simp[h]
def qx{a:Nat}:((a:Int)==(1:Int))=decide (a=1):=by
 by_cases h:a=1
 ·subst h;rfl
 ·rw[decide_eq_false h];simp;omega
set_option maxRecDepth 100000 in
def Bj{b vc:Nat}{gs:Nat->Nat->Nat}: ∀(d:Nat) {h:aA} {a deep:Nat} {K:KK},X.n-lvl X.n X.N a<=d->cG h s L X->DK h b X.n X.f gs->isN X.N a->deep<=lvl X.n X.N a->
  (∀h' g,gA g->(∀y,y<256->fb g y=sm X.n X.f X.N a y)->aF [] h h'->K (.tuple #[gp g,au]) h')->
  Cl 83 [ag (ah s),ae (a:Int),.slice (some (ah b)) X.n vc,ac (deep:Int)] h K:=by
 intro d
 have const: ∀{h:aA} {a deep:Nat} {K:KK},a<2->
   (∀h' g,gA g->(∀y,y<256->fb g y=sm X.n X.f X.N a y)->aF [] h h'->K (.tuple #[gp g,au]) h')->
   Cl 83 [ag (ah s),ae (a:Int),.slice (some (ah b)) X.n vc,ac (deep:Int)] h K:=by
  intro h a deep K hlt2 hK;refine F83.spec ?_;refine aM λh1 A1 O1 z1=> ?_
  replace A1:At h1 h.size (cr λ_=>0):=A1
  rw[pN,qx];refine aH (λe=> ?_) λe=> ?_
  ·have e:=of_decide_eq_true e;refine gd (g:=λ_=>0) A1 λh2 A2 O2=>qX A2 (hK h2 (λ_=>0) Cd (λy _=> ?_) (O1.trans O2 (by intro b hb hl;simp at hb;omega)));rw[bH hlt2,e];unfold fb;simp
  ·have e:=of_decide_eq_false e;rw[decide_eq_true (show a=1 by omega),aG];refine zE (f:=λ_=>0) Cd λh2 g hg eg O2=>⟨_,_,_,_,rfl,?_⟩;refine gd (A1.only O2 Z) λh3 A3 O3=>qX A3 (hK h3 g hg (λy hy=> ?_) ((O1.trans O2 Z).trans O3 (by intro b hb hl;simp at hb;have:=O2.size;omega)));rw[bH hlt2,eg y hy,show a=1 by omega];unfold fb;simp
 induction d with
 |zero=>
  intro h a deep K hd H V ha hdp hK;refine const ?_ hK;apply Classical.byContradiction;intro hn;have:=(H.ok.1.at ha Y).1;omega
 |succ d ih=>
  intro h a deep K hd H V ha hdp hK;by_cases h2:a<2
  ·exact const h2 hK
  have ok:=H.ok;obtain⟨h3,h4,h5,-,h6,h7⟩:=ok.1.at ha Y;have hn8:=ok.2.2.1;refine F83.spec ?_;refine aM λh1 A1 O1 z1=> ?_
  replace A1:At h1 h.size (cr λ_=>0):=A1
  rw[pN,qx,decide_eq_false Y,aD,decide_eq_false Y,aD];have H1:=H.only0 O1;refine dj H1 ha (aB rfl (eK H1 ha (aQ rfl ?_)));rw[Bool.not_true,aD,decide_eq_false Y,aD,decide_eq_false Y,aD];have ew:ai ((lvl X.n X.N a:Int)+1)=((lvl X.n X.N a+1:Nat):Int):=by rw[wrap_i64 Y Y];omega
  rw[ew];refine iv H1 ha (aB rfl ?_);refine ih Y H1 (V.only O1) h4 Y λh2 g0 hg0 eg0 O2=>⟨_,_,_,_,_,rfl,?_⟩;have H2:=H1.only0 O2;refine aM λh3' A3 O3 z3=> ?_
  replace A3:At h3' h2.size (cr λ_=>0):=A3
  refine gd A3 λh4' A4 O4=> ?_;have O24:aF [] h2 h4':=O3.trans O4 (by intro b hb hl;simp at hb;omega);have H4:=H2.only0 O24;refine fW H4 ha (aB rfl ?_);have O04:aF [] h h4':=(O1.trans O2 Z).trans O24 Z;refine ih Y H4 (V.only O04) h5 Y λh5' g1 hg1 eg1 O5=>⟨_,_,_,_,_,rfl,?_⟩;refine aM λh6' A6 O6 z6=> ?_
  replace A6:At h6' h5'.size (cr λ_=>0):=A6
  refine gd A6 λh7' A7 O7=> ?_;have O57:aF [] h5' h7':=O6.trans O7 (by intro b hb hl;simp at hb;omega);have O47:aF [] h4' h7':=O5.trans O57 Z;have O07:aF [] h h7':=O04.trans O47 Z;have V7:=V.only O07;have B4:=A4.only O47 Z;rw[aL];refine⟨Y,Y,?_⟩
  have rr: ∀i,i<4->rd h7' (Addr.add (Addr.add (ah b) (Int.toNat (lvl X.n X.N a:Int)*4)) i)=some (af (gs (lvl X.n X.N a) i:Int)):=λi hi=>by rw[aE,aE,Int.toNat_natCast,Nat.zero_add];exact V7.rd _ i h3 hi
  refine aB (rr 0 Y) (aB (rr 1 Y) (aB (rr 2 Y) (aB (rr 3 Y) ?_)));refine qX A7 (qX B4 ?_);obtain⟨-,-,-,hne,-,-⟩:=ok.1.at ha Y;refine Au (V.ok _ h3) hg1 hg0 λh8 r hr er O8=>⟨_,_,_,_,rfl,by trivial,?_⟩;have O08:aF [] h h8:=O07.trans O8 Z
  have fin: ∀y,y<256->fb r y=sm X.n X.f X.N a y:=λy hy=>by rw[er y hy,V.fb _ h3 y hy,eg1 y hy,eg0 y hy,lr ok.1 ha Y]
  have A8:=(A1.only ((O2.trans O24 Z).trans O47 Z) Z).only O8 Z;have H8:=H.only0 O08;rw[aG,aG];refine iv H8 ha (aB rfl ⟨by trivial,by trivial,fW H8 ha (aB rfl ?_)⟩);have hb:((low X.N a:Int) !=(high X.N a:Int))=true:=by simp;omega
  rw[hb];refine gd A8 λh9 A9 O9=>⟨by trivial,by trivial,qX A9 (hK h9 r hr fin (O08.trans O9 (by intro b hb hl;simp at hb;omega)))⟩
def func29(hf: ∀j,j<X.n->X.f j<8)(H:cG h s L X)(ha:isN X.N a)(hK: ∀h' g,gA g->(∀y,y<256->fb g y=sm X.n X.f X.N a y)->aF [] h h'->K (.tuple #[gp g,au]) h'):
  Cl 29 [ag (ah s),ae (a:Int)] h K:=by
 have ok:=H.ok;refine F29.spec _ _ h K ?_;refine aM λh1 A1 O1 z1=> ?_
 replace A1:At h1 h.size (cr λ_=>0):=A1
 have H1:=H.only0 O1;refine nH H1 λc h2 C2 g2 O2=>aJ rfl ?_;refine zz C2 ok.2.2.1 λx h3 V3 g3 O3=>bj rfl ?_;have O13:aF [] h1 h3:=O2.trans O3 Z;unfold F29.wk4;have z13:=O13.size
 have main: ∀(d i:Nat) (h':aA) (p:ak) (cap:Nat) (gs:Nat->Nat->Nat),i+d=X.n->At h' x (C9 X.n X.f)->At h' h.size (cr λ_=>0)->aF [] h h'->h3.size<=h'.size->(∀k,k<i->gA (gs k))->(∀k,k<i-> ∀y,y<256->fb (gs k) y=y.testBit (X.f k))->
   ct h' h3.size 4 p i cap (bS (i*4) λj=>af (gs (j/4) (j%4):Int))->
   F29.wL4 (d+1) (ah s) (a:Int) (ah h.size) (some (ah x)) X.n X.n p i cap (i:Int) h' K:=by
  intro d
  induction d with
  |zero=>
   intro i h' p cap gs hi V A O hz ok1 ok2 W;have e:i=X.n:=Y;subst e;rw[F29.sL4];rw[decide_eq_false Y,aD];unfold F29.wk7;have n1:=ok.2.1
   have hb: ∃b,p=some (ah b):=by obtain⟨b,e,-⟩:=W.rd (j:=0) (by rw[bu];omega);exact⟨b,e⟩
   obtain⟨b,rfl⟩:=hb
   have VV:DK h' b X.n X.f gs:=⟨λk i hk hi=>by obtain⟨b',e,r⟩:=W.rd (j:=k*4+i) (by rw[bu];omega);injection e with e;injection e with e;subst e;rw[r,bY Y,show(k*4+i)/4=k by omega,show(k*4+i)%4=i by omega],ok1,ok2⟩
   have la:0<=lvl X.n X.N a:=Nat.zero_le _;refine Bj (deep:=0) X.n Y (H.only0 O) VV ha Y λh5 g hg eg O5=>⟨_,_,_,_,_,rfl,?_⟩;refine gd (A.only O5 Z) λh6 A6 O6=>qX A6 (hK h6 g hg eg ((O.trans O5 Z).trans O6 (by intro b hb hl;simp at hb;omega)))
  |succ d ih=>
   intro i h' p cap gs hi V A O hz ok1 ok2 W;rw[F29.sL4];rw[decide_eq_true Y,aG,aL];refine⟨Y,Y,?_⟩;have hin:i<X.n:=Y;rw[aE,Int.toNat_natCast,Nat.zero_add,Nat.mul_one]
   have rv:rd h' ⟨x,i,none⟩=some (ac (X.f i:Int)):=by rw[At.rd V];simp[C9,hin]
   refine aB rv (zW λh4 g hg eg O4=>⟨_,_,_,_,rfl,?_⟩);refine aM λh5 A5 O5 z5=> ?_;have O45:aF [] h' h5:=O4.trans O5 Z;have W5:=W.only O45 Z;have z45:=O45.size;refine gv W5 A5 rfl rfl Y (by simp[Value.oneCell']) Y λp' c' h6 W6 O6 g6=> ?_;have ew:ai ((i:Int)+1)=((i+1:Nat):Int):=by rw[wrap_i64 Y Y];omega
   rw[ew];have zO: ∀b∈aR p,h3.size<=b:=λb hb=>(W.lt b hb).1;have xl:x<h3.size:=V3.lt;have hl:h.size<h3.size:=Y;refine ih (i+1) h6 p' c' (λk=>if k=i then g else gs k) Y ((V.only O45 Z).only O6 λhm=>by have:=zO _ hm;omega) ((A.only O45 Z).only O6 λhm=>by have:=zO _ hm;omega) ((O.trans O45 Z).trans O6 λb hb hlt=>by have:=zO b hb;omega) (by have:=O6.size;omega) (λk hk=> ?_) (λk hk y hy=> ?_) ?_
   ·by_cases e:k=i
    ·simp only[e,if_true];exact hg
    ·simp only[if_neg e];exact ok1 k Y
   ·by_cases e:k=i
    ·subst e;simp only[if_true];rw[eg y hy];have:=hf k hin;rw[decide_eq_true (show(0:Int)<=(X.f k:Int)/\(X.f k:Int)<8 by omega),Bool.true_and,Int.toNat_natCast]
    ·simp only[if_neg e];exact ok2 k Y y hy
   ·have e:(bS ((i+1)*4) λj=>af (((λk=>if k=i then g else gs k) (j/4) (j%4):Nat):Int))=(bS (i*4) λj=>af (gs (j/4) (j%4):Int))++[af (g 0:Int),af (g 1:Int),af (g 2:Int),af (g 3:Int)]:=by
     rw[show(i+1)*4=i*4+1+1+1+1 by omega,iH,iH,iH,iH];have e1: ∀c,c<4->(i*4+c)/4=i/\(i*4+c)%4=c:=λc hc=>Y
     have q:(bS (i*4) λj=>af (((λk=>if k=i then g else gs k) (j/4) (j%4):Nat):Int))=bS (i*4) λj=>af (gs (j/4) (j%4):Int):=dg λj hj=>by have:j/4≠i:=Y;simp only[if_neg this]
     rw[q];have f0:=e1 0 Y;have f1:=e1 1 Y;have f2:=e1 2 Y;have f3:=e1 3 Y;rw[Nat.add_zero]at f0;simp only[show i*4+1+1=i*4+2 by omega,show i*4+2+1=i*4+3 by omega,f0.1,f0.2,f1.1,f1.2,f2.1,f2.2,f3.1,f3.2,if_true,List.append_assoc,List.cons_append,List.nil_append]
    rw[e];exact W6
 exact⟨_,main X.n 0 h3 none 0 (λ_ _=>0) Y V3 (A1.only O13 Z) (O1.trans O13 Z) (Nat.le_refl _) (λk hk=>Y) (λk hk=>Y) (ct.nil _ _ _)⟩
def EM(hf: ∀j,j<X.n->X.f j<8)(H:cG h s L X)(ha:isN X.N a){c:Nat->Nat}(hc:gA c)(hcs: ∀y,y<256->sm X.n X.f X.N a y=fb c y)(hK: ∀h',aF [] h h'->K au h'):
  Cl 58 [ag (ah s),ae (a:Int),gp c] h K:=by
 refine F58.spec ?_;refine aM λh1 A1 O1 z1=> ?_
 replace A1:At h1 h.size (cr c):=A1
 refine func29 hf (H.only0 O1) ha λh2 g hg eg O2=>⟨_,_,_,_,_,rfl,?_⟩;refine aM λh3 A3 O3 z3=> ?_
 replace A3:At h3 h2.size (cr λ_=>0):=A3
 refine gd A3 λh4 A4 O4=> ?_;rw[aG];have z12:=O2.size;have B4:=((A1.only O2 Z).only O3 Z).only O4 (by simp;omega);refine qX A4 (qX B4 ?_);rw[(EY hg hc).2 λy hy=>by rw[eg y hy,hcs y hy]];exact hK h4 (((O1.trans O2 Z).trans O3 Z).trans O4 (by intro b hb hl;simp at hb;omega))
end
end
section
def wR(n:Nat)(fo gg:Nat->Nat):Prop:=(∀v,v<n->gg v<n/\fo (gg v)=v)/\ ∀l,l<n->fo l<n/\gg (fo l)=l
def uV(n:Nat):wR n (fill n) (fill n):=by
 refine⟨λv hv=> ?_,λv hv=> ?_⟩<;>
 ·have:fill n v=v:=if_pos hv;rw[this,this];exact⟨hv,rfl⟩
structure EG where
 E:fk
 n:Nat
 room:Nat
 fo:Nat->Nat
 gg:Nat->Nat
 off:Bool
 N:aj
 P:PS
 L:List Nat
 B:List Nat
 M:Nat
 f:Int->Int
structure bV(h:aA)(e:Nat)(G:EG):Prop where
 W:uv h G.E.p G.E.s G.n G.room G.fo G.gg G.off G.N G.P G.L
 R:mQ h G.E.r G.M G.f G.B
 I:cR h e G.E
 C:jq G.f G.E
 de:e∉G.L/\(¬cV G.E.p G.P e)/\e∉G.B
 dB: ∀b∈G.B,b∉G.L/\ ¬cV G.E.p G.P b
 rg: ∀i,i<4-> ∀r,r<6->(G.E.ses i).there r=true->isN G.N ((G.E.ses i).hnd r)
 r0: ∀i,i<4-> ∀r,r<6->(G.E.ses i).there r=false->(G.E.ses i).hnd r=0
 mq: ∀i,i<4->(G.E.ses i).cal.mask<256
 po:wR G.n G.fo G.gg
def gK(e:Nat)(G:EG):List Nat:=e::(G.L++(G.B++zY G.E.p G.P))
structure be(e:Nat)(G:EG)(h:aA)(G':EG)(h':aA):Prop where
 O: ∀T,(∀b∈gK e G,b∈T)->aF T h h'
 B: ∀b∈gK e G',b∈gK e G\/h.size<=b
section
variable {h h' h'':aA}{e:Nat}{G G' G'':EG}{K:KK}
def aW{b:Nat}:b∈gK e G↔b=e\/b∈G.L\/b∈G.B\/cV G.E.p G.P b:=by simp only[gK,List.mem_cons,List.mem_append,eF]
def be.refl:be e G h G h:=⟨λT _=>aF.refl _ _,λb hb=> .inl hb⟩
def be.size(a:be e G h G' h'):h.size<=h'.size:=(a.O (gK e G) λb hb=>hb).size
def be.trans(a:be e G h G' h')(b:be e G' h' G'' h''):be e G h G'' h'':=by
 have hz:=a.size;refine⟨λT hT=>(a.O T hT).trans (b.O (gK e G') λx hx=>hx) λx hx hl=> ?_,λx hx=> ?_⟩
 ·rcases a.B x hx with h|h
  ·exact hT x h
  ·omega
 ·rcases b.B x hx with h|h
  ·exact a.B x h
  ·exact .inr Y
def be.only0(O:aF [] h h'):be e G h G h':=⟨λT _=>O.mono Z,λb hb=> .inl hb⟩
def be.only{h0:aA}(a:be e G h G' h')(O:aF [] h0 h)(hb: ∀b∈gK e G,h0.size<=b):aF [] h0 h':=
 O.trans (a.O (gK e G) λb hb=>hb) λb hb' hl=>by have:=hb b hb';omega
def be.ge{z:Nat}(a:be e G h G' h')(hz:z<=h.size)(hb: ∀b∈gK e G,z<=b): ∀b∈gK e G',z<=b:=λb hb'=>by
 rcases a.B b hb' with h|h
 ·exact hb b h
 ·omega
def be.some{S:List Nat}(O:aF S h h')(hS: ∀b∈S,b∈gK e G)(hb: ∀b∈gK e G',b∈gK e G):be e G h G' h':=⟨λ_ hT=>O.mono λb hb _=>hT b (hS b hb),λb h=> .inl (hb b h)⟩
def bV.only0(W:bV h e G)(O:aF [] h h'):bV h' e G:=⟨W.W.only0 O,W.R.only0 O,W.I.only0 O,W.C,W.de,W.dB,W.rg,W.r0,W.mq,W.po⟩
def bV.lt(W:bV h e G): ∀b∈gK e G,b<h.size:=λb hb=>by
 rcases aW.1 hb with hb|hb|hb|hb
 ·subst hb;exact At.lt W.I
 ·exact W.W.S.lt b hb
 ·exact W.R.lt b hb
 ·exact W.W.H.lt b hb
def uv.only{p s n room:Nat}{fo gg:Nat->Nat}{off:Bool}{N:aj}{P:PS}{L S:List Nat}(W:uv h p s n room fo gg off N P L)(O:aF S h h')(h1: ∀b∈S,b∉L)(h2: ∀b∈S,¬cV p P b):uv h' p s n room fo gg off N P L:=
 ⟨W.S.only O h1,W.H.only O h2,W.Ok,W.GO,W.D⟩
def bF.ext{n:Nat}{fo:Nat->Nat}{N N':aj}{P:PS}(H:bF n fo N P)(GO:dc N P)(ok:ey n N)(E:Ex N N'):bF n fo N' P/\phi n N' P=phi n N P/\psi n N' P+aT N=psi n N P+aT N':=by
 have em: ∀j∈P.jobs,dX n N' j.A.fs=dX n N j.A.fs:=λj hj=>jo E (H.mst j hj).1.frs;have en: ∀j∈P.jobs,fu n N' j.A.fs=fu n N j.A.fs:=λj hj=>kY E (H.mst j hj).1.frs;refine⟨⟨λj hj=>⟨(H.mst j hj).1.ext (GO j hj) ok E,by rw[em j hj];exact(H.mst j hj).2⟩,H.at_,H.one,H.loc,H.T,H.len,H.last,H.steals⟩,?_,?_⟩
 ·unfold phi;rw[List.map_congr_left em]
 ·unfold psi;rw[List.map_congr_left en];omega
def uo{N N':aj}{P:PS}(GO:dc N P)(E:Ex N N'):dc N' P:=λj hj=>⟨E.isN (GO j hj).1,E.isN (GO j hj).2.1,E.isN (GO j hj).2.2⟩
def ud{b n v:Nat}{f g:Nat->Nat}(H:cB h b n f g)(hn:n<=8)(hv:v<n)(hK:K (ac (g v:Int)) h):Cl 186 [ag (ah b),ac (v:Int)] h K:=by refine F186.spec ?_;rw[decide_eq_false Y,aD];simp only[aE,Nat.zero_add];refine aB H.rd0 ?_;rw[decide_eq_false Y,aD];exact⟨Y,Y,aB (by rw[show 9+Int.toNat (v:Int)*1=9+v by omega];exact H.rdl Y) hK⟩
def pZ{s:Nat}{L:List Nat}{X:SX}(H:cG h s L X)(hK:K (ac (X.room:Int)) h):Cl 70 [aX s] h K:=by obtain⟨B,F,e,H⟩:=H;refine F70.spec ?_;exact aB (by rw[aE,At.rd H.m.S];rfl) hK
def zc{s v:Nat}{L:List Nat}{X:SX}(H:cG h s L X)(hv:v<X.n)(hg:X.g v<X.n)
  (hK: ∀h' L' N' r er,gU X.room X.N (X.g v) 0 1 N' r er->cG h' s L' {X with N:=N'}->aF L h h'->cj L L' h->K (.tuple #[ae (r:Int),ac (er:Int)]) h'):
  Cl 208 [aX s,ac (v:Int)] h K:=by
 have ok:=H.ok;refine F208.spec ?_;refine nH H λc h1 Or g1 O1=>aJ rfl ?_;refine ud Or ok.2.2.1 hv (aB rfl ?_);have H1:=H.only0 O1;have e0:lvl X.n X.N 0=X.n:=by unfold lvl;rw[if_pos Y]
 have e1:lvl X.n X.N 1=X.n:=by unfold lvl;rw[if_pos Y]
 refine xw H1 (l:=X.g v) (a:=0) (b:=1) hg (.inl Y) (.inl Y) (by rw[e0];exact hg) (by rw[e1];exact hg) λh2 L2 N2 r er R S2 O2 F2=>⟨_,_,rfl,?_⟩
 exact hK h2 L2 N2 r er R S2 ((O1.mono Z).trans O2 λb hb _=>hb) λb hb=>by
  rcases F2 b hb with q|q
  ·exact .inl q
  ·exact .inr (by have:=O1.size;omega)
def zQ{n room:Nat}{x:Int}(h1:1<=n)(h8:n<=8)(r1:1<=room)(r2:room<=32768)
  (hK: ∀h' e G,bV h' e G->G.E.ses=(mw 0 0 0).ses->G.E.ans=0->G.n=n->G.room=room->G.fo=fill n->G.gg=fill n->G.off=false->G.N=[]->G.P.jobs=[]->G.P.ws.length=vM x->locs G.P.ws=[]->G.P.last=0->G.M=0->(∀b∈gK e G,h.size<=b)->aF [] h h'->K (.tuple #[aX e,ac 0]) h'):
  Cl 18 [ac (n:Int),ac (room:Int),ac x] h K:=by
 refine F18.spec ?_;refine yk (Q:=QL n (fill n) []) h1 h8 r1 r2 λk1 s L S1 O1 g1=>⟨_,_,rfl,?_⟩;have S1:cG k1 s L (XL n room (fill n) (fill n) [] false):=S1;rw[show((0:Int) !=0)=false from rfl,aD];refine DL (s:=s) (x:=x) λk2 p P H2 e1 e2 e3 e4 e5 g2 O2=>aJ rfl ?_;refine nz H2 (aB rfl ?_);refine AQ λk3 r B R3 g3 O3=>aJ rfl ?_;refine aM λk4 A4 O4 z4=> ?_;have wl:=wP x;obtain⟨Ok,GO,lo,ql⟩:=sM (n:=n) (fo:=fill n) (N:=[]) (P:=P) Y e2 e3 e4 e5;have z1:=O1.size;have z2:=O2.size;have z3:=O3.size;have hL:=S1.lt;have hP:=H2.lt;have hB:=R3.lt;have W2:uv k2 p s n room (fill n) (fill n) false [] P L:=⟨S1.only0 O2,H2,Ok,GO,λb hb hm=>by have:=g2 b hb;have:=hL b hm;omega⟩;have W4:=(W2.only0 O3).only0 O4;have R4:=R3.only0 O4;have I4:cR k4 k3.size (mw s p r):=A4;refine hK k4 k3.size ⟨mw s p r,n,room,fill n,fill n,false,[],P,L,B,0,λ_=>0⟩ ⟨W4,R4,I4,CN s p r,⟨λhm=>by have:=hL _ hm;omega,λhm=>by have:=hP _ hm;omega,λhm=>by have:=hB _ hm;omega⟩,λb hb=>⟨λhm=>by have:=hL b hm;have:=g3 b hb;omega,λhm=>by have:=hP b hm;have:=g3 b hb;omega⟩,λi hi r hr ht=>(by cases ht),λi hi r hr ht=>rfl,λi hi=>(by show 0<256;omega),uV n⟩ rfl rfl rfl rfl rfl rfl rfl rfl e2 e1 lo e4 rfl (λb hb=> ?_) (((O1.trans O2 Z).trans O3 Z).trans O4 Z);rcases aW.1 hb with hb|hb|hb|hb
 ·subst hb;omega
 ·exact g1 b hb
 ·have:=g3 b hb;omega
 ·have:=g2 b hb;omega
def hZ(G:EG)(i:Nat)(er:Int)(n:Nat):EG:={G with E:={G.E.put i (dN (G.E.ses i) er n)with ans:=G.E.ans+1}}
def dR{E:fk}{i k:Nat}{x:eW}:(E.put i x).ses k=if k=i then x else E.ses k:=rfl
def my{E E':fk}(hh: ∀k,(E'.ses k).there=(E.ses k).there/\(E'.ses k).hnd=(E.ses k).hnd)(x:Nat):jI E' x=jI E x:=by
 have:dL E' x=dL E x:=by funext k;unfold dL;rw[(hh (k/6)).1,(hh (k/6)).2]
 unfold jI;rw[this]
def iK{i:Nat}(W:bV h e G)(hi:i<4){er:Int}{n:Nat}(ha:G.E.ans<1000000000)(hK: ∀h',bV h' e (hZ G i er n)->be e G h (hZ G i er n) h'->K ax h'):
  Cl 168 [aX e,ag ⟨e,3+24*i,none⟩,.agg #[ac er,af (n:Int)]] h K:=by
 refine sG W.I hi ha λh' I' O'=> ?_
 have hs: ∀k,((hZ G i er n).E.ses k).there=(G.E.ses k).there/\((hZ G i er n).E.ses k).hnd=(G.E.ses k).hnd/\((hZ G i er n).E.ses k).cal=(G.E.ses k).cal:=λk=>by
  show((G.E.put i (dN (G.E.ses i) er n)).ses k).there=_/\((G.E.put i (dN (G.E.ses i) er n)).ses k).hnd=_/\((G.E.put i (dN (G.E.ses i) er n)).ses k).cal=_;rw[dR];by_cases q:k=i
  ·rw[if_pos q,q];exact⟨rfl,rfl,rfl⟩
  ·rw[if_neg q];exact⟨rfl,rfl,rfl⟩
 refine hK h' ⟨W.W.only O' (λb hb=>by simp at hb;subst hb;exact W.de.1) (λb hb=>by simp at hb;subst hb;exact W.de.2.1),W.R.only O' (λb hb=>by simp at hb;subst hb;exact W.de.2.2),I',λx=> ?_,W.de,W.dB,λk hk r hr ht=> ?_,λk hk r hr ht=> ?_,λk hk=> ?_,W.po⟩ (be.some O' (λb hb=>by simp at hb;subst hb;exact aW.2 (.inl rfl)) λb hb=>hb)
 ·rw[my λk=>⟨(hs k).1,(hs k).2.1⟩];exact W.C x
 ·rw[(hs k).2.1];rw[(hs k).1]at ht;exact W.rg k hk r hr ht
 ·rw[(hs k).2.1];rw[(hs k).1]at ht;exact W.r0 k hk r hr ht
 ·rw[(hs k).2.2];exact W.mq k hk
def kS(G:EG)(i d v:Nat)(f':Int->Int):EG:={G with E:=G.E.put i (setS (G.E.ses i) d v),M:=G.M+2,f:=f'}
def rT{i d v:Nat}(W:bV h e G)(hi:i<4)(hd:d<6)(ed:(G.E.ses i).cal.dst=(d:Int))(hv:isN G.N v)(hM:G.M+1<=LB)
  (hK: ∀h' f',bV h' e (kS G i d v f')->be e G h (kS G i d v f') h'->K ax h'):Cl 167 [aX e,ag ⟨e,3+24*i,none⟩,ae (v:Int)] h K:=by
 have lt:=W.W.S.isN_lt hv;refine y0 W.I W.R W.C W.de.2.2 hi hd ed Y hM λh' f' I' R' C' O'=> ?_
 have hS: ∀b∈e::G.B,b∉G.L/\ ¬cV G.E.p G.P b:=λb hb=>by
  rcases List.mem_cons.1 hb with q|q
  ·subst q;exact⟨W.de.1,W.de.2.1⟩
  ·exact W.dB b q
 refine hK h' f' ⟨W.W.only O' (λb hb=>(hS b hb).1) (λb hb=>(hS b hb).2),R',I',C',W.de,W.dB,λk hk r hr ht=> ?_,λk hk r hr ht=> ?_,λk hk=> ?_,W.po⟩ (be.some O' (λb hb=> ?_) λb hb=>hb)
 ·have ht:((G.E.put i (setS (G.E.ses i) d v)).ses k).there r=true:=ht;show isN G.N (((G.E.put i (setS (G.E.ses i) d v)).ses k).hnd r);rw[dR]at ht ⊢;by_cases q:k=i
  ·rw[if_pos q]at ht ⊢;by_cases w:r=d
   ·subst w;rw[show(setS (G.E.ses i) r v).hnd r=v from bQ];exact hv
   ·rw[show(setS (G.E.ses i) d v).hnd r=(G.E.ses i).hnd r from bP w];rw[show(setS (G.E.ses i) d v).there r=(G.E.ses i).there r from bP w]at ht;exact W.rg i hi r hr ht
  ·rw[if_neg q]at ht ⊢;exact W.rg k hk r hr ht
 ·have ht:((G.E.put i (setS (G.E.ses i) d v)).ses k).there r=false:=ht;show((G.E.put i (setS (G.E.ses i) d v)).ses k).hnd r=0;rw[dR]at ht ⊢;by_cases q:k=i
  ·rw[if_pos q]at ht ⊢;by_cases w:r=d
   ·subst w;rw[show(setS (G.E.ses i) r v).there r=true from bQ]at ht;cases ht
   ·rw[show(setS (G.E.ses i) d v).hnd r=(G.E.ses i).hnd r from bP w];rw[show(setS (G.E.ses i) d v).there r=(G.E.ses i).there r from bP w]at ht;exact W.r0 i hi r hr ht
  ·rw[if_neg q]at ht ⊢;exact W.r0 k hk r hr ht
 ·show((G.E.put i (setS (G.E.ses i) d v)).ses k).cal.mask<256;rw[dR];by_cases q:k=i
  ·rw[if_pos q];exact W.mq i hi
  ·rw[if_neg q];exact W.mq k hk
 ·rcases List.mem_cons.1 hb with q|q
  ·subst q;exact aW.2 (.inl rfl)
  ·exact aW.2 (.inr (.inr (.inl q)))
end
end
section
def DZ(p:Nat->Bool)(k:Nat):List Nat:=(List.range k).filter p
def wY(p:Nat->Bool)(k:Nat):DZ p (k+1)=DZ p k++if p k then [k]else []:=by unfold DZ;rw[List.range_succ,List.filter_append];cases h:p k<;>simp[h]
def tN(p:Nat->Bool)(k:Nat):Nat:=(DZ p k).length
def xV(p:Nat->Bool):tN p 0=0:=rfl
def lg(p:Nat->Bool)(k:Nat):tN p (k+1)=tN p k+if p k then 1 else 0:=by unfold tN;rw[wY,List.length_append];cases p k<;>rfl
def fZ{p q:Nat->Bool}: ∀{k:Nat},(∀x,x<k->p x=q x)->tN p k=tN q k
 |0,_=>rfl
 |k+1,h=>by rw[lg,lg,fZ λx hx=>h x Y,h k Y]
def oY(p:Nat->Bool)(a:Nat): ∀b,tN p (a+b)=tN p a+tN (λx=>p (a+x)) b
 |0=>by rw[xV];rfl
 |b+1=>by rw[<-Nat.add_assoc,lg,oY p a b,lg];omega
def hH{n x:Nat}(h:x<2^n):x^^^2^n=2^n+x:=by
 refine Nat.eq_of_testBit_eq λi=> ?_;rw[Nat.testBit_xor,Nat.testBit_two_pow];rcases Nat.lt_trichotomy i n with h1|h1|h1
 ·rw[Nat.testBit_two_pow_add_gt h1,decide_eq_false Y,Bool.xor_false]
 ·subst h1;rw[Nat.testBit_two_pow_add_eq,decide_eq_true rfl,Bool.xor_true]
 ·have e:2^(n+1)<=2^i:=Nat.pow_le_pow_right (by decide) h1;rw[Nat.pow_succ]at e;rw[Nat.testBit_lt_two_pow (show x<2^i by omega),Nat.testBit_lt_two_pow (show 2^n+x<2^i by omega),decide_eq_false Y,Bool.xor_false]
def Dg: ∀(n v:Nat) {p q:Nat->Bool},v<n->(∀x,x<2^n->p (x^^^2^v)=p x)->(∀x,x<2^n->q (x^^^2^v)=q x)->
  2*tN (λx=>if x.testBit v then q x else p x) (2^n)=tN p (2^n)+tN q (2^n)
 |0,v,p,q,hv,_,_=>Y
 |n+1,v,p,q,hv,hp,hq=>by
  have e:2^(n+1)=2^n+2^n:=by rw[Nat.pow_succ];omega
  rw[e,oY,oY,oY];rcases Nat.lt_or_ge v n with h|h
  ·have cm: ∀x,x<2^n->2^n+(x^^^2^v)=(2^n+x)^^^2^v:=λx hx=>by
    have lt:x^^^2^v<2^n:=Nat.xor_lt_two_pow hx (Nat.pow_lt_pow_right (by decide) h);rw[<-hH lt,<-hH hx,Nat.xor_assoc,Nat.xor_assoc,Nat.xor_comm (2^v)]
   have i1:=Dg n v (p:=p) (q:=q) h (λx hx=>hp x Y) λx hx=>hq x Y;have i2:=Dg n v (p:=λx=>p (2^n+x)) (q:=λx=>q (2^n+x)) h (λx hx=>by show p _=p _;rw[cm x hx,hp _ Y]) λx hx=>by show q _=q _;rw[cm x hx,hq _ Y]
   have e2:tN (λx=>if(2^n+x).testBit v then q (2^n+x)else p (2^n+x)) (2^n)=tN (λx=>if x.testBit v then q (2^n+x)else p (2^n+x)) (2^n):=
    fZ λx _=>by rw[Nat.testBit_two_pow_add_gt h]
   rw[e2];omega
  ·have:v=n:=Y;subst this;have p2:tN (λx=>p (2^v+x)) (2^v)=tN p (2^v):=fZ λx hx=>by rw[<-hH hx,hp x Y]
   have q2:tN (λx=>q (2^v+x)) (2^v)=tN q (2^v):=fZ λx hx=>by rw[<-hH hx,hq x Y]
   have l1:tN (λx=>if x.testBit v then q x else p x) (2^v)=tN p (2^v):=fZ λx hx=>by rw[Nat.testBit_lt_two_pow hx];rfl
   have l2:tN (λx=>if(2^v+x).testBit v then q (2^v+x)else p (2^v+x)) (2^v)=tN q (2^v):=fZ λx hx=>by
    rw[Nat.testBit_two_pow_add_eq,Nat.testBit_lt_two_pow hx,<-hH hx,hq x Y]
    rfl
   rw[p2,q2,l1,l2];omega
section
variable {n:Nat}{f:Nat->Nat}{N:aj}
end
end
section
end
section
section
variable {h:aA}{s:Nat}{L:List Nat}{X:SX}
end
end
section
structure oD(G G':EG):Prop where
 E:G'.E=G.E
 n:G'.n=G.n
 room:G'.room=G.room
 fo:G'.fo=G.fo
 gg:G'.gg=G.gg
 off:G'.off=G.off
 P:G'.P=G.P
 f:G'.f=G.f
 ex:Ex G'.N G.N
 cnt:aT G'.N<=aT G.N
 M:G.M<=G'.M/\G'.M<=G.M+1000
 ok:ey G'.n G'.N
 rg: ∀i,i<4-> ∀r,r<6->(G.E.ses i).there r=true->isN G'.N ((G.E.ses i).hnd r)
def oD.refl{h:aA}{e:Nat}{G:EG}(W:bV h e G):oD G G:=⟨rfl,rfl,rfl,rfl,rfl,rfl,rfl,rfl,Ex.refl _,Nat.le_refl _,⟨Nat.le_refl _,Y⟩,W.W.S.ok.1,W.rg⟩
def gT(C:EG->Prop):Prop:= ∀{h:aA} {e:Nat} {G:EG} {K:KK},bV h e G->C G->G.M<=LB/1000->
 (∀h' G',bV h' e G'->oD G G'->be e G h G' h'->K ax h')->Cl 80 [aX e] h K
section
variable {h h':aA}{e:Nat}{G G':EG}{K:KK}
def sX:gT λG=>aT G.N<G.room:=by intro h e G K W hc hM hK;refine F80.spec ?_;have rs:rd h (ah e)=some (ag (ah G.E.s)):=W.I.s;simp only[aE,Nat.zero_add];refine aJ rs (aJ rs (jG W.W.S (aB rfl ⟨trivial,trivial,trivial,aJ rs ⟨rfl,pZ W.W.S (aB rfl ?_)⟩⟩)));have hc:aT (XL G.n G.room G.fo G.gg G.N G.off).N<(XL G.n G.room G.fo G.gg G.N G.off).room:=hc;rw[decide_eq_false Y,aD];exact hK h G W (oD.refl W) be.refl
def oh(G:EG)(N':aj)(L':List Nat):EG:={G with N:=N',L:=L'}
def bV.sto{N':aj}{L':List Nat}(W:bV h e G)(S:cG h' G.E.s L' {XL G.n G.room G.fo G.gg G.N G.off with N:=N'})(E:Ex G.N N')(O:aF G.L h h')(F:cj G.L L' h):
  bV h' e (oh G N' L')/\be e G h (oh G N' L') h':=by
 have ok:=W.W.S.ok.1;have lt:=W.lt
 have DP: ∀b,cV G.E.p G.P b->b∉L':=λb hb hm=>by
  rcases F b hm with q|q
  ·exact W.W.D b hb q
  ·have:=lt b (aW.2 (.inr (.inr (.inr hb))));omega
 refine⟨⟨⟨we S ok E,W.W.H.only O λb hb hp=>W.W.D b hp hb,(W.W.Ok.ext W.W.GO ok E).1,uo W.W.GO E,DP⟩,W.R.only O (λb hb hm=>(W.dB b hm).1 hb),W.I.only O W.de.1,W.C,⟨λhm=> ?_,W.de.2.1,W.de.2.2⟩,λb hb=>⟨λhm=> ?_,(W.dB b hb).2⟩,λi hi r hr ht=>E.isN (W.rg i hi r hr ht),W.r0,W.mq,W.po⟩,⟨λT hT=>O.mono λb hb _=>hT b (aW.2 (.inr (.inl hb))),λb hb=> ?_⟩⟩
 ·rcases F e hm with q|q
  ·exact W.de.1 q
  ·have:=lt e (aW.2 (.inl rfl));omega
 ·rcases F b hm with q|q
  ·exact(W.dB b hb).1 q
  ·have:=lt b (aW.2 (.inr (.inr (.inl hb))));omega
 ·rcases aW.1 hb with q|q|q|q
  ·exact .inl (aW.2 (.inl q))
  ·rcases F b q with q|q
   ·exact .inl (aW.2 (.inr (.inl q)))
   ·exact .inr q
  ·exact .inl (aW.2 (.inr (.inr (.inl q))))
  ·exact .inl (aW.2 (.inr (.inr (.inr q))))
def xc{room:Nat}{N N':aj}{l a b r er:Nat}(R:gU room N l a b N' r er):Ex N N'/\(er=0\/er=60)/\(er=60->room<=aT N/\N'=N):=by
 rcases R with⟨-,-,e,e2⟩|⟨-,i,-,-,e,e2⟩|⟨-,-,h1,-,e,e2⟩|⟨-,-,-,e,q,-,p⟩
 ·subst e2;exact⟨Ex.refl _,.inl e,λh=>Y⟩
 ·subst e2;exact⟨Ex.refl _,.inl e,λh=>Y⟩
 ·subst e2;exact⟨Ex.refl _,.inr e,λ_=>⟨h1,rfl⟩⟩
 ·exact⟨p.ext,.inl e,λh=>Y⟩
end
end
section
def gw(k:Int):Nat:=if k=1\/k=2\/k=6 then 123 else if k=4\/k=5 then 124 else if k=7 then 125 else if k=8 then 126 else 127
def pt(e i:Nat):Value:=ag ⟨e,3+24*i,none⟩
def Cy:bW X 123=some cJ.go:=by kernel_rfl
def DT:bW X 124=some cJ.go:=by kernel_rfl
def Dz:bW X 125=some cJ.go:=by kernel_rfl
def Dx:bW X 126=some cJ.go:=by kernel_rfl
def Cs:bW X 127=some cJ.go:=by kernel_rfl
def xO(k:Int):bW X (gw k)=some cJ.go:=by
 unfold gw
 repeat' split
 ·exact Cy
 ·exact DT
 ·exact Dz
 ·exact Dx
 ·exact Cs
section
variable {h h':aA}{e:Nat}{G G':EG}{K:KK}{C:EG->Prop}
def AW{c:iL}(hK: ∀h',aF [] h h'->K (.func (.func (gw c.kind)) #[aX e] #[]) h'):Cl 79 [aX e,pF c] h K:=by
 refine F79.spec ?_;refine aM λh1 A1 O1 z1=> ?_;simp only[aE,Nat.zero_add];refine aB (n:=c.kind) (by rw[At.rd A1];rfl) ?_;have hK:=hK h1 O1;obtain⟨k,ek⟩: ∃k,k=c.kind:=⟨_,rfl⟩;rw[<-ek]at hK ⊢;unfold gw at hK;by_cases h1:k=1
 ·subst h1;exact hK
 by_cases h2:k=2
 ·subst h2;exact hK
 by_cases h4:k=4
 ·subst h4;exact hK
 by_cases h5:k=5
 ·subst h5;exact hK
 by_cases h6:k=6
 ·subst h6;exact hK
 by_cases h7:k=7
 ·subst h7;exact hK
 by_cases h8:k=8
 ·subst h8;exact hK
 rw[if_neg Y,if_neg Y,if_neg h7,if_neg h8]at hK;simp only[jh h1,jh h2,jh h4,jh h5,jh h6,jh h7,jh h8,aD];exact hK
def fL(W:bV h e G)(hK:K (ac (G.P.ws.length:Int)) h):Cl 27 [aX e] h K:=by refine F27.spec ?_;exact aJ (by rw[aE];exact W.I.p) (nz W.W.H (aB rfl hK))
def vm{who draw:Int}(W:bV h e G)(hOut:(who<0\/(G.P.ws.length:Int)<=who\/ ¬je G.E)-> ∀h',aF [] h h'->K aq h')
  (Inv:Nat->aA->EG->Prop) (h0: ∀h',aF [] h h'->Inv 0 h' G) (hO: ∀{i h1 G1 h2},Inv i h1 G1->aF [] h1 h2->Inv i h2 G1) (hW: ∀{i h1 G1},Inv i h1 G1->bV h1 e G1)
  (hn: ∀{i h1 G1},i<4->Inv i h1 G1->(G1.E.ses i).pend=false->Inv (i+1) h1 G1)
  (hs: ∀{i h1 G1} {Q:KK},i<4->Inv i h1 G1->(G1.E.ses i).pend=true->(∀b h2 G2,Inv (i+1) h2 G2->Q (aw b) h2)->Cl (gw (G1.E.ses i).cal.kind) [aX e,pt e i] h1 Q)
  (hE:0<=who->who<(G.P.ws.length:Int)->je G.E-> ∀h1 G1,Inv 4 h1 G1->F26.wk11 (ah e) who draw h1 K):
  Cl 26 [aX e,ac who,ac draw] h K:=by
 refine F26.spec _ _ _ h K ?_;refine aH (λq=>hOut (.inl (of_decide_eq_true q)) h (aF.refl _ _)) λq=> ?_;have q:=of_decide_eq_false q;refine fL W (aB rfl (aH (λp=>hOut (.inr (.inl (of_decide_eq_true p))) h (aF.refl _ _)) λp=> ?_));have p: ¬(G.P.ws.length:Int)<=who:=of_decide_eq_false p;refine nW W.I (λa h1 O1=>aQ rfl ?_) λa h1 O1=>aQ rfl (hOut (.inr (.inr a)) h1 O1);rw[Bool.not_true,aD];unfold F26.wk4
 have main: ∀(d i:Nat) (hh:aA) (G1:EG),d+i=4->Inv i hh G1->F26.wL4 (d+1) (ah e) who draw (i:Int) hh K:=by
  intro d
  induction d with
  |zero=>
   intro i hh G1 hi I;rw[F26.sL4];rw[decide_eq_false Y,aD];have ei:i=4:=Y;subst ei;exact hE Y Y a hh G1 I
  |succ d ih=>
   intro i hh G1 hi I;rw[F26.sL4];rw[decide_eq_true Y,aG];have hi4:i<4:=Y;have W1:=hW I;simp only[aE];rw[show 0+3+Int.toNat (i:Int)*24=3+24*i by omega]
   have nx: ∀{h2 G2},Inv (i+1) h2 G2->F26.wL4 (d+1) (ah e) who draw (ai ((i:Int)+1)) h2 K:=λ{h2 G2} I2=>by rw[uT hi4];exact ih (i+1) h2 G2 Y I2
   refine⟨Y,Y,aQ (W1.I.pend hi4 rfl) (aH (λpe=> ?_) λpe=>nx (hn hi4 I pe))⟩;refine aB (W1.I.kind hi4 Y) (aB (W1.I.op hi4 Y) (aB (W1.I.dst hi4 Y) (aB (W1.I.ca hi4 Y) (aB (W1.I.cb hi4 Y) (aB (W1.I.cc hi4 Y) (aB (W1.I.mask hi4 Y) ?_))))));refine AW (c:=(G1.E.ses i).cal) λh2 O2=>⟨_,rfl,?_⟩;refine bz (xO _) ?_;exact hs hi4 (hO I O2) pe λb h3 G3 I3=>aQ rfl (nx I3)
 exact⟨_,main 4 0 h1 G Y (h0 h1 O1)⟩
def tK(w:Nat)(G G':EG):Prop:= ∃G1 N' P' L' k,oD G G1/\bF G1.n G1.fo G1.N G1.P/\G'={G1 with N:=N',P:=P',L:=L'}/\nZ G1.n G1.fo G1.room G1.N N' G1.P P'/\G1.P.ws[w]? =some k/\(phi G1.n N' P'+1<=phi G1.n G1.N G1.P\/(k.job=0/\k.q=[]/\dI G1.P.ws P'.ws))
def bV.pool{N':aj}{P':PS}{L':List Nat}(W:bV h e G)(W':uv h' G.E.p G.E.s G.n G.room G.fo G.gg G.off N' P' L')(E:Ex G.N N')(S:wS G.E.p G.P G.L h P' L' h'):
  bV h' e {G with N:=N',P:=P',L:=L'}/\be e G h {G with N:=N',P:=P',L:=L'} h':=by
 have lt:=W.lt;have O':=S.O (zY G.E.p G.P++G.L) (λb hb=>List.mem_append.2 (.inl (eF.2 hb))) λb hb=>List.mem_append.2 (.inr hb)
 have spare: ∀{b},b∉G.L-> ¬cV G.E.p G.P b->b∉zY G.E.p G.P++G.L:=λh1 h2 hm=>by
  rcases List.mem_append.1 hm with q|q
  ·exact h2 (eF.1 q)
  ·exact h1 q
 have nL: ∀{b},b∈gK e G->b∉G.L->b∉L':=λhb hn hm=>by
  rcases S.F _ hm with q|q
  ·exact hn q
  ·have:=lt _ hb;omega
 have nP: ∀{b},b∈gK e G-> ¬cV G.E.p G.P b-> ¬cV G.E.p P' b:=λhb hn hm=>by
  rcases S.B _ hm with q|q
  ·exact hn q
  ·have:=lt _ hb;omega
 have me:e∈gK e G:=aW.2 (.inl rfl);have mB: ∀b∈G.B,b∈gK e G:=λb hb=>aW.2 (.inr (.inr (.inl hb)));refine⟨⟨W',W.R.only O' λb hb hm=>(spare (W.dB b hm).1 (W.dB b hm).2) hb,W.I.only O' (spare W.de.1 W.de.2.1),W.C,⟨nL me W.de.1,nP me W.de.2.1,W.de.2.2⟩,λb hb=>⟨nL (mB b hb) (W.dB b hb).1,nP (mB b hb) (W.dB b hb).2⟩,λi hi r hr ht=>E.isN (W.rg i hi r hr ht),W.r0,W.mq,W.po⟩,⟨λT hT=>S.O T (λb hb=>hT b (aW.2 (.inr (.inr (.inr hb))))) λb hb=>hT b (aW.2 (.inr (.inl hb))),λb hb=> ?_⟩⟩;rcases aW.1 hb with q|q|q|q
 ·exact .inl (aW.2 (.inl q))
 ·rcases S.F b q with q|q
  ·exact .inl (aW.2 (.inr (.inl q)))
  ·exact .inr q
 ·exact .inl (aW.2 (.inr (.inr (.inl q))))
 ·rcases S.B b q with q|q
  ·exact .inl (aW.2 (.inr (.inr (.inr q))))
  ·exact .inr q
def gQ(mr:gT C)(W:bV h e G)(hC:C G)(hM:G.M<=LB/1000){draw:Int}{w:Nat}(hw:w<G.P.ws.length)
  (hK: ∀h' G',bV h' e G'->be e G h G' h'->tK w G G'->K au h'):F26.wk11 (ah e) (w:Int) draw h K:=by
 unfold F26.wk11;refine mr W hC hM λh1 G1 W1 C1 S1=>⟨rfl,?_⟩;simp only[aE,Nat.zero_add];refine aJ W1.I.p ?_;have hl:(G1.P.ws.length:Int)=(G.P.ws.length:Int):=by rw[C1.P]
 refine vZ W1.W (who:=(w:Int)) (λq=>Y) λh2 L2 N2 P2 b w' k ew hk W2 Pk _ hph B2=>aQ rfl ?_;have ew:w'=w:=Y;subst ew;obtain⟨W3,S3⟩:=W1.pool W2 Pk.ex B2;exact hK h2 _ W3 (S1.trans S3) ⟨G1,N2,P2,L2,k,C1,W1.W.Ok,rfl,Pk,hk,hph⟩
def y8(i d:Nat)(G G':EG)(er:Int):Prop:= ∃G1 N2 L2 r er' f',oD G G1/\gU G1.room G1.N (G1.gg (G.E.ses i).cal.mask) 0 1 N2 r er'/\er=(er':Int)/\G'=if er'=0 then kS (oh G1 N2 L2) i d r f' else oh G1 N2 L2
def rh(mr:gT C)(W:bV h e G){i d:Nat}(hi:i<4)(hC:C G)(hM:G.M+2000<=LB/1000)(hv:(G.E.ses i).cal.mask<G.n)(hd:d<6)(ed:(G.E.ses i).cal.dst=(d:Int))
  (hK: ∀h' G' (er:Int),bV h' e G'->be e G h G' h'->y8 i d G G' er->K (ac er) h'):Cl 165 [aX e,pt e i] h K:=by
 have hLB:LB=140737488355328:=rfl;refine F165.spec ?_;refine mr W hC Y λh1 G1 W1 C1 S1=>⟨rfl,?_⟩;simp only[aE,Nat.zero_add];have mq:=W.mq i hi;refine aJ W1.I.s (aB (n:=((G.E.ses i).cal.mask:Int)) (by rw[W1.I.mask hi Y,C1.E]) ?_);rw[wrap_i64 Y Y];have hv1:(G.E.ses i).cal.mask<G1.n:=by rw[C1.n];exact hv
 have pg:=(W1.po.1 _ hv1).1;refine zc W1.W.S hv1 pg λh2 L2 N2 r er R S2 O2 F2=>⟨_,_,rfl,?_⟩;have R:gU G1.room G1.N (G1.gg (G.E.ses i).cal.mask) 0 1 N2 r er:=R;obtain⟨E2,e2,-⟩:=xc R;obtain⟨W2,T2⟩:=W1.sto S2 E2 O2 F2;rcases e2 with q|q
 ·subst q;rw[show(((0:Nat):Int)==0)=true from rfl,aG]
  have hr:isN N2 r:=by
   have e0:lvl G1.n G1.N 0=G1.n:=by unfold lvl;rw[if_pos Y]
   exact(ju (f:=G1.fo) W1.W.S.ok.1 W2.W.S.ok.1 (a:=0) (b:=1) (.inl Y) (.inl Y) (show _<lvl G1.n G1.N 0 by rw[e0];exact pg) R).2.1
  have ed1:((oh G1 N2 L2).E.ses i).cal.dst=(d:Int):=by show(G1.E.ses i).cal.dst=_;rw[C1.E];exact ed
  have hm1:(oh G1 N2 L2).M+1<=LB:=by show G1.M+1<=LB;have:=C1.M.2;omega
  refine rT W2 hi hd ed1 hr hm1 λh3 f3 W3 T3=>⟨rfl,hK h3 _ _ W3 ((S1.trans T2).trans T3) ⟨G1,N2,L2,r,0,f3,C1,R,rfl,by rw[if_pos rfl]⟩⟩
 ·subst q;rw[show(((60:Nat):Int)==0)=false from rfl,aD];exact hK h2 _ _ W2 (S1.trans T2) ⟨G1,N2,L2,r,60,G1.f,C1,R,rfl,by rw[if_neg Y]⟩
end
end
section
variable {i j k l m n o p q r s t:Int}{a b c d:Addr}{u v:Nat}{x y:ak}{h:aA}{K:KK}
namespace F42
def T:bf:=⟨[(2,[0,3]),(5,[0,3,4]),(8,[0])],[]⟩
noncomputable def body:Code:=(Tryz.f42.body).getD .skip
noncomputable def en(S:aS)(p:List Nat)(κ:XK):Fr->aA->Prop:=E Tryz.prog X T S (sub body p) κ
noncomputable def ln(S:aS)(p:List Nat)(κ:XK)(n:Nat):Fr->aA->Prop:=fQ S (E Tryz.prog X T S (sub body p)) (bJ T (sub body p)) κ n
def fn(K:KK):XK:=fin Tryz.prog Tryz.f42.results.toList K
noncomputable def c0(S:aS)(K:KK):XK:=dM S (bJ T (sub body [1,1])) (en S [1,1] (fn K)) (fn K)
noncomputable def c1(S:aS)(K:KK):XK:=br 0 (c0 S K)
noncomputable def c2(S:aS)(n2:Nat)(K:KK):XK:=cO S (bJ T (sub body [1,0,1,0,0])) (ln S [1,0,1,0,0] (c1 S K) n2) (c1 S K)
noncomputable def c3(S:aS)(n2:Nat)(K:KK):XK:=dM S (bJ T (sub body [1,0,1,0,0,1,1])) (en S [1,0,1,0,0,1,1] (c2 S n2 K)) (c2 S n2 K)
noncomputable def c4(S:aS)(n2:Nat)(K:KK):XK:=br 1 (c3 S n2 K)
noncomputable def c5(S:aS)(n2:Nat)(K:KK):XK:=br 2 (c4 S n2 K)
noncomputable def c6(S:aS)(n2:Nat)(n5:Nat)(K:KK):XK:=cO S (bJ T (sub body [1,0,1,0,0,1,0,0,1,0,0])) (ln S [1,0,1,0,0,1,0,0,1,0,0] (c5 S n2 K) n5) (c5 S n2 K)
def f2(a:Addr)(b:Int):Fr:=[(0,(ag a)),(3,(ac b))]
def f5(a:Addr)(b c:Int):Fr:=[(0,(ag a)),(3,(ac b)),(4,(ac c))]
def f8(a:Addr):Fr:=[(0,(ag a))]
def J0(k2:Addr->Int->aA->Prop)(a:Addr)(h:aA)(_K:KK):Prop:=
 k2 a (0:Int) h
def E0(S:aS)(a:Addr)(h:aA)(K:KK):(E Tryz.prog X T S body (fin Tryz.prog Tryz.f42.results.toList K) (cx 0 [(ag a)]) h)=J0 (λa b h=>S (en S [1,0,1] (c0 S K)) (f2 a b) h) a h K:=by kernel_rfl
def Jk2(lp2:Addr->Int->aA->Prop)(a:Addr)(b:Int)(h:aA)(_K:KK):Prop:=
 lp2 a b h
def Ek2(S:aS)(a:Addr)(b:Int)(h:aA)(K:KK):(en S [1,0,1] (c0 S K) (f2 a b) h)=Jk2 (λa b h=> ∃n,S (ln S [1,0,1,0,0] (c1 S K) n) (f2 a b) h) a b h K:=by kernel_rfl
def JL2(k5:Addr->Int->Int->aA->Prop)(k8:Addr->aA->Prop)(a:Addr)(b:Int)(h:aA)(_K:KK):Prop:=
 aC (decide (b<(1048576:Int))) (Cl 99 [(ag a)] h (λv1 h2=>bA (some v1) (λb3=>aC b3 (k5 a b (0:Int) h2) (k8 a h2)))) (k8 a h)
def EL2(S:aS)(n2:Nat)(a:Addr)(b:Int)(h:aA)(K:KK):(en S [1,0,1,0,0] (c2 S n2 K) (f2 a b) h)=JL2 (λa b c h=>S (en S [1,0,1,0,0,1,0,0,1] (c4 S n2 K)) (f5 a b c) h) (λa h=>S (en S [1,1] (fn K)) (f8 a) h) a b h K:=by kernel_rfl
def Jk5(lp5:Addr->Int->Int->aA->Prop)(a:Addr)(b c:Int)(h:aA)(_K:KK):Prop:=
 lp5 a b c h
def Ek5(S:aS)(n2:Nat)(a:Addr)(b c:Int)(h:aA)(K:KK):(en S [1,0,1,0,0,1,0,0,1] (c4 S n2 K) (f5 a b c) h)=Jk5 (λa b c h=> ∃n,S (ln S [1,0,1,0,0,1,0,0,1,0,0] (c5 S n2 K) n) (f5 a b c) h) a b c h K:=by kernel_rfl
def JL5(bk5:Addr->Int->Int->aA->Prop)(bk2:Addr->Int->aA->Prop)(a:Addr)(b c:Int)(h:aA)(_K:KK):Prop:=
 Cl 27 [(ag a)] h (λv1 h2=>aI .i64 (some v1) (λn3=>aC (decide (c<n3)) (Cl 26 [(ag a),(ac c),(ac b)] h2 (λv4 h5=>bA (some v4) (λ_=>bk5 a b (ai (c+(1:Int))) h5))) (bk2 a (ai (b+(1:Int))) h2)))
def EL5(S:aS)(n2:Nat)(n5:Nat)(a:Addr)(b c:Int)(h:aA)(K:KK):(en S [1,0,1,0,0,1,0,0,1,0,0] (c6 S n2 n5 K) (f5 a b c) h)=JL5 (λa b c h=>S (ln S [1,0,1,0,0,1,0,0,1,0,0] (c5 S n2 K) n5) (f5 a b c) h) (λa b h=>S (ln S [1,0,1,0,0] (c1 S K) n2) (f2 a b) h) a b c h K:=by kernel_rfl
def Jk8(a:Addr)(h:aA)(K:KK):Prop:=
 Cl 99 [(ag a)] h (λv1 h2=>bA (some v1) (λb3=>K (aw (!b3)) h2))
def Ek8(S:aS)(a:Addr)(h:aA)(K:KK):(en S [1,1] (fn K) (f8 a) h)=Jk8 a h K:=by kernel_rfl
def wL5(bk2:Addr->Int->aA->Prop):Nat->Addr->Int->Int->aA->KK->Prop
 |0,_,_,_,_,_=>False
 |n+1,a,b,c,h,K=>JL5 (λa b c h=>wL5 bk2 n a b c h K) bk2 a b c h K
def eL5(K:KK)(n2:Nat)(bk2:Addr->Int->aA->Prop)(hb2: ∀(a:Addr) (b:Int) (h:aA),(ln S0 [1,0,1,0,0] (c1 S0 K) n2 (f2 a b) h)=bk2 a b h): ∀(n:Nat) (a:Addr) (b c:Int) (h:aA),(ln S0 [1,0,1,0,0,1,0,0,1,0,0] (c5 S0 n2 K) n (f5 a b c) h)=wL5 bk2 n a b c h K
 |0,_,_,_,_=>rfl
 |n+1,a,b,c,h=>(EL5 S0 n2 n a b c h K).trans (mM (λq0 q1=>JL5 q0 q1 a b c h K) (by funext a b c h;exact(λa b c h=>eL5 K n2 bk2 hb2 n a b c h) a b c h) (by funext a b h;exact hb2 a b h))
def wk5(bk2:Addr->Int->aA->Prop)(a:Addr)(b c:Int)(h:aA)(K:KK):Prop:=
 Jk5 (λa b c h=> ∃m,wL5 bk2 m a b c h K) a b c h K
def ek5(K:KK)(n2:Nat)(bk2:Addr->Int->aA->Prop)(hb2: ∀(a:Addr) (b:Int) (h:aA),(ln S0 [1,0,1,0,0] (c1 S0 K) n2 (f2 a b) h)=bk2 a b h)(a:Addr)(b c:Int)(h:aA):(en S0 [1,0,1,0,0,1,0,0,1] (c4 S0 n2 K) (f5 a b c) h)=wk5 bk2 a b c h K:=(Ek5 S0 n2 a b c h K).trans (fX (λq0=>Jk5 q0 a b c h K) (by funext a b c h;exact bq λm=>eL5 K n2 bk2 hb2 m a b c h))
def wk8(a:Addr)(h:aA)(K:KK):Prop:=
 Jk8 a h K
def ek8(K:KK)(a:Addr)(h:aA):(en S0 [1,1] (fn K) (f8 a) h)=wk8 a h K:=(Ek8 S0 a h K).trans (rfl)
def wL2:Nat->Addr->Int->aA->KK->Prop
 |0,_,_,_,_=>False
 |n+1,a,b,h,K=>JL2 (λa b c h=>wk5 (λa b h=>wL2 n a b h K) a b c h K) (λa h=>wk8 a h K) a b h K
def eL2(K:KK): ∀(n:Nat) (a:Addr) (b:Int) (h:aA),(ln S0 [1,0,1,0,0] (c1 S0 K) n (f2 a b) h)=wL2 n a b h K
 |0,_,_,_=>rfl
 |n+1,a,b,h=>(EL2 S0 n a b h K).trans (mM (λq0 q1=>JL2 q0 q1 a b h K) (by funext a b c h;exact ek5 K n (λa b h=>wL2 n a b h K) (λa b h=>eL2 K n a b h) a b c h) (by funext a h;exact ek8 K a h))
def wk2(a:Addr)(b:Int)(h:aA)(K:KK):Prop:=
 Jk2 (λa b h=> ∃m,wL2 m a b h K) a b h K
def ek2(K:KK)(a:Addr)(b:Int)(h:aA):(en S0 [1,0,1] (c0 S0 K) (f2 a b) h)=wk2 a b h K:=(Ek2 S0 a b h K).trans (fX (λq0=>Jk2 q0 a b h K) (by funext a b h;exact bq λm=>eL2 K m a b h))
def w(a:Addr)(h:aA)(K:KK):Prop:=
 J0 (λa b h=>wk2 a b h K) a h K
def e0(K:KK)(a:Addr)(h:aA):(E Tryz.prog X T S0 body (fin Tryz.prog Tryz.f42.results.toList K) (cx 0 [(ag a)]) h)=w a h K:=(E0 S0 a h K).trans (fX (λq0=>J0 q0 a h K) (by funext a b h;exact ek2 K a b h))
def hb:Tryz.f42.body=some body:=by kernel_rfl
def ok:bZ T Tryz.f42.ntmps body=true:=by kernel_rfl
def spec(a:Addr)(h:aA)(K:KK)(H:w a h K):Cl 42 [(ag a)] h K:=
 cf (T:=T) xK xJ Tryz.func42 hb ok rfl (by rw[e0];exact H)
end F42
def F99.T:bf:=⟨[(2,[0,3])],[]⟩
section
variable (n:Nat)(a:Addr)(b:Int)(h:aA)(K:KK)
def F99.wL2:Prop:=Lp Tryz.f99 F99.T [1,0,1,0] n [(0,(ag a)),(3,(ac b))] h K
def F99.sL2:F99.wL2 (n+1) a b h K=(aC (b<4) (Cl 56 [ag a,ac b] h λc d=>bA (some c) λc=>aC c (K au d) (F99.wL2 n a (ai (b+1)) d K)) (K aq h)):=by kernel_rfl
def F99.wk2:Prop:=(∃c,F99.wL2 c a b h K)
def F99.spec(H:F99.wk2 a 0 h K):Cl 99 [ag a] h K:=cT F99.T Tryz.func99 H
end
def F53.spec(H:aZ h (.cells #[ac j,ac k,ac l,ac m,ac n,ac o,.int .u8 p] 41) λb c=>aZ c (.cells #[ac 0,af 0] 76) λc d=>aI .i64 (rd d ((ah b).add 0)) λe=>aI .i64 (rd d ((ah b).add 1)) λf=>aI .i64 (rd d ((ah b).add 2)) λg=>aI .i64 (rd d ((ah b).add 3)) λj=>aI .i64 (rd d ((ah b).add 4)) λk=>aI .i64 (rd d ((ah b).add 5)) λl=>aI .u8 (rd d ((ah b).add 6)) λb=>Cl 24 [ag a,ac i,.agg #[ac e,ac f,ac g,ac j,ac k,ac l,.int .u8 b]] d λb d=>aI .i64 (some b) λb=>aC (b !=0) (aP d ((ah c).add 0) (ac 0) λa=>aP a ((ah c).add 1) (af 0) λa=>aI .i64 (rd a ((ah c).add 0)) λb=>aI .u64 (rd a ((ah c).add 1)) λc=>K (.tuple #[.agg #[ac b,af c],aq]) a) (Cl 42 [ag a] d λb d=>bA (some b) λb=>aC (!b) (aP d ((ah c).add 0) (ac 0) λa=>aP a ((ah c).add 1) (af 0) λa=>aI .i64 (rd a ((ah c).add 0)) λb=>aI .u64 (rd a ((ah c).add 1)) λc=>K (.tuple #[.agg #[ac b,af c],aq]) a) (Cl 43 [ag a,ac i] d λa b=> ∃d:Int,∃e:Int,∃f:Bool,a=(.tuple #[.agg #[ac d,af e],aw f])/\aP b ((ah c).add 0) (ac d) λa=>aP a ((ah c).add 1) (af e) λa=>aI .i64 (rd a ((ah c).add 0)) λb=>aI .u64 (rd a ((ah c).add 1)) λc=>K (.tuple #[.agg #[ac b,af c],aw f]) a))):Cl 53 [ag a,ac i,.agg #[ac j,ac k,ac l,ac m,ac n,ac o,.int .u8 p]] h K:=cN Tryz.func53 H
def F40.spec(H:Cl 18 [ac 4,ac 16400,ac 2] h λa b=> ∃c:ak,∃d:Int,a=(.tuple #[ap c,ac d])/\Cl 18 [ac 9,ac 100,ac 2] b λa b=> ∃e:ak,∃f:Int,a=(.tuple #[ap e,ac f])/\aC (d !=0) (K aq b) (aC (Option.isNone c) (K aq b) (aC (f !=40) (K aq b) (Cl 27 [ap c] b λa b=>aI .i64 (some a) λa=>aC (a !=2) (K aq b) (Cl 24 [ap c,ac 0,.agg #[ac 1,ac 0,ac 1,ac 0,ac 0,ac 0,.int .u8 2]] b λa b=>aI .i64 (some a) λa=>Cl 24 [ap c,ac 0,.agg #[ac 6,ac 0,ac 0,ac 0,ac 0,ac 0,.int .u8 0]] b λb d=>aI .i64 (some b) λb=>Cl 24 [ap c,ac 1,.agg #[ac 4,ac 0,ac 0,ac 0,ac 0,ac 0,.int .u8 0]] d λd e=>aI .i64 (some d) λd=>aC (a !=0) (K aq e) (aC (b !=220) (K aq e) (aC (d !=221) (K aq e) (Cl 56 [ap c,ac 0] e λa b=>bA (some a) λa=>aC (!a) (K aq b) (Cl 42 [ap c] b λa b=>bA (some a) λa=>aC (!a) (K aq b) (Cl 43 [ap c,ac 0] b λa b=> ∃d:Int,∃e:Int,∃f:Bool,a=(.tuple #[.agg #[ac d,af e],aw f])/\aZ b (.cells #[ac 0,af 0] 76) λa b=>aP b ((ah a).add 0) (ac d) λb=>aP b ((ah a).add 1) (af e) λb=>Cl 28 [ap c,ac 0,ac 1] b λb d=> ∃e:Int,∃g:Bool,b=(.tuple #[ae e,aw g])/\aC f (aI .i64 (rd d ((ah a).add 0)) λa=>aC (a==0) (aC g (Cl 23 [ap c] d λa b=>bi (some a) λa=>Cl 33 [ac 2] b λb d=> ∃f:Int,∃g:Int,∃i:Int,∃j:Int,b=(.agg #[af f,af g,af i,af j])/\Cl 58 [ap a,ae e,.agg #[af f,af g,af i,af j]] d λa b=>bA (some a) λa=>aC a (Cl 54 [ap c] b λa b=>aI .i64 (some a) λa=>K (aw (a==1)) b) (K aq b)) (K aq d)) (K aq d)) (K aq d))))))))))):Cl 40 [] h K:=cN Tryz.func40 H
end
section
def mJ{n:Nat}{c:iL}(h:jk n c=0):(c.kind=3->cA c.op≠0)/\(c.kind=1->c.mask<n)/\(c.kind=3->c.op=8->c.mask<n)/\(c.kind=3->(c.op=6\/c.op=7)->c.mask/2^n=0):=by
 unfold jk at h;split at h
 ·cases h
 ·rename_i a;split at h
  ·cases h
  ·rename_i b;split at h
   ·cases h
   ·rename_i d;refine⟨λk t=>a ⟨k,t⟩,λk=> ?_,λk o=> ?_,λk o=> ?_⟩
    ·exact Nat.lt_of_not_le λq=>b ⟨.inl k,q⟩
    ·exact Nat.lt_of_not_le λq=>b ⟨.inr ⟨k,o⟩,q⟩
    ·exact Classical.byContradiction λq=>d ⟨k,o,q⟩
def eV{n:Nat}{x:eW}{c:iL}(h:refu n x c=0):(1<=c.kind/\c.kind<=8)/\(ui c.kind->iQ c.dst)/\kF x c/\jk n c=0:=by
 unfold refu at h;split at h
 ·cases h
 ·rename_i a;split at h
  ·cases h
  ·rename_i b;split at h
   ·cases h
   ·rename_i d;exact⟨Classical.not_not.1 a,λw=>Classical.byContradiction λq=>b ⟨w,q⟩,Classical.not_not.1 d,h⟩
section
variable {h h':aA}{e:Nat}{G G':EG}{K:KK}{C:EG->Prop}
def yG(G:EG)(i d:Nat)(f':Int->Int):EG:={G with E:=G.E.put i (fC (G.E.ses i) d),M:=G.M+1,f:=f'}
def xB{i d:Nat}(W:bV h e G)(hi:i<4)(hd:d<6)(ed:(G.E.ses i).cal.dst=(d:Int))(hM:G.M<=LB)
  (hK: ∀h' f',bV h' e (yG G i d f')->be e G h (yG G i d f') h'->K ax h'):Cl 166 [aX e,pt e i] h K:=by
 refine nI W.I W.R W.de.2.2 hi hd ed hM λh' I' R' O'=> ?_;have C':=sW W.C hi hd
 have hS: ∀b∈e::G.B,b∉G.L/\ ¬cV G.E.p G.P b:=λb hb=>by
  rcases List.mem_cons.1 hb with q|q
  ·subst q;exact⟨W.de.1,W.de.2.1⟩
  ·exact W.dB b q
 refine hK h' _ ⟨W.W.only O' (λb hb=>(hS b hb).1) (λb hb=>(hS b hb).2),R',I',C',W.de,W.dB,λk hk r hr ht=> ?_,λk hk r hr ht=> ?_,λk hk=> ?_,W.po⟩ (be.some O' (λb hb=> ?_) λb hb=>hb)
 ·have ht:((G.E.put i (fC (G.E.ses i) d)).ses k).there r=true:=ht;show isN G.N (((G.E.put i (fC (G.E.ses i) d)).ses k).hnd r);rw[dR]at ht ⊢;by_cases q:k=i
  ·rw[if_pos q]at ht ⊢;by_cases w:r=d
   ·subst w;rw[show(fC (G.E.ses i) r).there r=false from bQ]at ht;cases ht
   ·rw[show(fC (G.E.ses i) d).hnd r=(G.E.ses i).hnd r from bP w];rw[show(fC (G.E.ses i) d).there r=(G.E.ses i).there r from bP w]at ht;exact W.rg i hi r hr ht
  ·rw[if_neg q]at ht ⊢;exact W.rg k hk r hr ht
 ·have ht:((G.E.put i (fC (G.E.ses i) d)).ses k).there r=false:=ht;show((G.E.put i (fC (G.E.ses i) d)).ses k).hnd r=0;rw[dR]at ht ⊢;by_cases q:k=i
  ·rw[if_pos q]at ht ⊢;by_cases w:r=d
   ·subst w;exact bQ
   ·rw[show(fC (G.E.ses i) d).hnd r=(G.E.ses i).hnd r from bP w];rw[show(fC (G.E.ses i) d).there r=(G.E.ses i).there r from bP w]at ht;exact W.r0 i hi r hr ht
  ·rw[if_neg q]at ht ⊢;exact W.r0 k hk r hr ht
 ·show((G.E.put i (fC (G.E.ses i) d)).ses k).cal.mask<256;rw[dR];by_cases q:k=i
  ·rw[if_pos q];exact W.mq i hi
  ·rw[if_neg q];exact W.mq k hk
 ·rcases List.mem_cons.1 hb with q|q
  ·subst q;exact aW.2 (.inl rfl)
  ·exact aW.2 (.inr (.inr (.inl q)))
def Bb(i:Nat)(G G':EG):Prop:= ∃d:Nat,d<6/\(G.E.ses i).cal.dst=(d:Int)/\
 (((G.E.ses i).cal.kind=1/\ ∃G1 er,y8 i d G G1 er/\G'=hZ G1 i er 0)\/
  ((G.E.ses i).cal.kind=2/\ ∃f',G'=hZ (kS G i d (min 1 (G.E.ses i).cal.mask) f') i 0 0)\/
  ((G.E.ses i).cal.kind=6/\ ∃f',G'=hZ (yG G i d f') i 0 0))
def y8.ans{i d:Nat}{er:Int}(R:y8 i d G G' er):G'.E.ans=G.E.ans:=by
 obtain⟨G1,N2,L2,r,e',f',C1,-,-,e⟩:=R;subst e;have:G1.E.ans=G.E.ans:=by rw[C1.E]
 split
 ·exact this
 ·exact this
def wo(mr:gT C)(W:bV h e G){i:Nat}(hi:i<4)(hC:C G)(hM:G.M+2000<=LB/1000)(ha:G.E.ans<1000000000)(hk:(G.E.ses i).cal.kind=1\/(G.E.ses i).cal.kind=2\/(G.E.ses i).cal.kind=6)(hr:refu G.n (G.E.ses i) (G.E.ses i).cal=0)
  (hK: ∀h' G',bV h' e G'->be e G h G' h'->Bb i G G'->K au h'):Cl 123 [aX e,pt e i] h K:=by
 have hLB:LB=140737488355328:=rfl;obtain⟨-,z2,-,z4⟩:=eV hr;obtain⟨-,z5,-,-⟩:=mJ z4;have hd:=z2 (by unfold ui;omega);obtain⟨d,ed⟩: ∃d:Nat,(G.E.ses i).cal.dst=(d:Int):=⟨(G.E.ses i).cal.dst.toNat,by unfold iQ at hd;omega⟩;have d6:d<6:=by unfold iQ at hd;omega
 refine F123.spec ?_;simp only[aE,Nat.zero_add];refine aB (W.I.kind hi Y) ?_;rcases hk with k|k|k
 ·rw[k,show((1:Int)==1)=true from rfl,aG];refine rh mr W hi hC hM (z5 k) d6 ed λh1 G1 er W1 S1 V=>aB rfl ?_;unfold F123.wk8;refine iK (n:=0) W1 hi (by rw[V.ans];exact ha) λh2 W2 S2=>⟨rfl,?_⟩;exact hK h2 _ W2 (S1.trans S2) ⟨d,d6,ed,.inl ⟨k,G1,er,V,rfl⟩⟩
 ·rw[k,show((2:Int)==1)=false from rfl,aD,show((2:Int)==6)=false from rfl,aD];have mq:=W.mq i hi;refine aB (W.I.mask hi Y) ?_
  have em:(IntKind.wrap .u32 (if(1:Int)<((G.E.ses i).cal.mask:Int)then(1:Int)else((G.E.ses i).cal.mask:Int)))=((min 1 (G.E.ses i).cal.mask:Nat):Int):=by
   by_cases q:1<(G.E.ses i).cal.mask
   ·rw[if_pos Y,show min 1 (G.E.ses i).cal.mask=1 by omega];rfl
   ·rw[if_neg Y,show min 1 (G.E.ses i).cal.mask=(G.E.ses i).cal.mask by omega];exact gi Y
  rw[em];refine rT W hi d6 ed (.inl Y) Y λh1 f1 W1 S1=>⟨rfl,?_⟩;unfold F123.wk8;refine iK (n:=0) W1 hi ha λh2 W2 S2=>⟨rfl,?_⟩;exact hK h2 _ W2 (S1.trans S2) ⟨d,d6,ed,.inr (.inl ⟨k,f1,rfl⟩)⟩
 ·rw[k,show((6:Int)==1)=false from rfl,aD,show((6:Int)==6)=true from rfl,aG];refine xB W hi d6 ed Y λh1 f1 W1 S1=>⟨rfl,?_⟩;unfold F123.wk8;refine iK (n:=0) W1 hi ha λh2 W2 S2=>⟨rfl,?_⟩;exact hK h2 _ W2 (S1.trans S2) ⟨d,d6,ed,.inr (.inr ⟨k,f1,rfl⟩)⟩
def nq(W:bV h e G)(hT:je G.E->K au h)(hF: ¬je G.E->K aq h):Cl 99 [aX e] h K:=by
 refine F99.spec _ h K ?_;unfold F99.wk2
 have main: ∀(d k:Nat),d+k=4->(∀j,j<k->(G.E.ses j).pend=false)->F99.wL2 (d+1) (ah e) (k:Int) h K:=by
  intro d
  induction d with
  |zero=>
   intro k hk hb;rw[F99.sL2];rw[decide_eq_false Y,aD];refine hF λ⟨j,hj,hp⟩=> ?_;rw[hb j Y]at hp;cases hp
  |succ d ih=>
   intro k hk hb;rw[F99.sL2];rw[decide_eq_true Y,aG];refine nJ W.I (λq=>Y) λk' hk' ek=>aQ rfl (aH (λp=> ?_) λp=> ?_)
   ·exact hT ⟨k',hk',p⟩
   ·rw[uT Y];refine ih (k+1) Y λj hj=> ?_;by_cases q:j=k
    ·rw[q,show k=k' by omega];exact p
    ·exact hb j Y
 exact⟨_,main 4 0 Y λj hj=>Y⟩
def rR{m:Nat}(Inv:Nat->aA->EG->Prop)(J:Nat->Nat->aA->EG->Prop)(nw:Nat)(hnw:nw<=4)(h0:Inv m h G)(hm:m<1048576)
  (hW: ∀{m h1 G1},Inv m h1 G1->bV h1 e G1) (hJ: ∀{m w h1 G1},J m w h1 G1->bV h1 e G1/\G1.P.ws.length=nw)
  (hS: ∀{m h1 G1},Inv m h1 G1->je G1.E->J m 0 h1 G1)
  (hP: ∀{m w h1 G1} {Q:KK} {draw:Int},w<nw->J m w h1 G1->(∀b h2 G2,J m (w+1) h2 G2->Q (aw b) h2)->Cl 26 [aX e,ac (w:Int),ac draw] h1 Q)
  (hE: ∀{m h1 G1},J m nw h1 G1-> ∃m',m'<m/\Inv m' h1 G1)
  (hK: ∀m' h1 G1,m'<=m->Inv m' h1 G1-> ¬je G1.E->K au h1):Cl 42 [aX e] h K:=by
 refine F42.spec _ h K ?_;unfold F42.w F42.J0 F42.wk2 F42.Jk2
 have main: ∀(d i m':Nat) (xi:Int) (h1:aA) (G1:EG),xi=(i:Int)->d+i=m+1->m'+i<=m->Inv m' h1 G1->F42.wL2 (d+1) (ah e) xi h1 K:=by
  intro d
  induction d with
  |zero=>intro i m' xi h1 G1 exi hi hm';omega
  |succ d ih=>
   intro i m' xi h1 G1 exi hi hm' I;unfold F42.wL2 F42.JL2;rw[decide_eq_true Y,aG];refine nq (hW I) (λa=>aQ rfl ?_) λa=>aQ rfl ?_
   ·rw[aG];unfold F42.wk5 F42.Jk5
    have inner: ∀(d2 w:Nat) (h2:aA) (G2:EG),d2+w=nw->J m' w h2 G2->F42.wL5 (λx0 x3 h=>F42.wL2 (d+1) x0 x3 h K) (d2+1) (ah e) xi (w:Int) h2 K:=by
     intro d2
     induction d2 with
     |zero=>
      intro w h2 G2 hw I2;unfold F42.wL5 F42.JL5;obtain⟨W2,wl⟩:=hJ I2;refine fL W2 (aB rfl ?_);rw[decide_eq_false Y,aD];have ew:w=nw:=Y;subst ew;obtain⟨m2,lt,I3⟩:=hE I2;exact ih (i+1) m2 _ h2 G2 (by rw[exi,wrap_i64 Y Y];omega) Y Y I3
     |succ d2 ih2=>
      intro w h2 G2 hw I2;unfold F42.wL5 F42.JL5;obtain⟨W2,wl⟩:=hJ I2;refine fL W2 (aB rfl ?_);rw[decide_eq_true Y,aG];refine hP Y I2 λb h3 G3 I3=>aQ rfl ?_;rw[uT Y];exact ih2 (w+1) h3 G3 Y I3
    exact⟨_,inner nw 0 h1 G1 Y (hS I a)⟩
   ·rw[aD];unfold F42.wk8 F42.Jk8;exact nq (hW I) (λq=>absurd q a) λq=>aQ rfl (hK m' h1 G1 Y I a)
 exact⟨_,main (m+1) 0 m 0 h G rfl Y Y h0⟩
end
end
section
def qS(n:Nat)(fo:Nat->Nat)(N:aj)(x x':eW):Prop:= ∃d:Nat,d<6/\x.cal.dst=(d:Int)/\
 ((x.cal.kind=1/\ ∃v,x'=dN (setS x d v) 0 0/\ ∀y,sm n fo N v y=y.testBit x.cal.mask)\/
  (x.cal.kind=2/\x'=dN (setS x d (min 1 x.cal.mask)) 0 0)\/(x.cal.kind=6/\x'=dN (fC x d) 0 0))
def qS.pend{n:Nat}{fo:Nat->Nat}{N:aj}{x x':eW}(R:qS n fo N x x'):x'.pend=false:=by obtain⟨d,-,-,⟨-,v,e,-⟩|⟨-,e⟩|⟨-,e⟩⟩:=R<;>subst e<;>rfl
def qS.to{n:Nat}{fo:Nat->Nat}{N N':aj}{x x':eW}(R:qS n fo N x x')(h: ∀r,r<6->x'.there r=true-> ∀y,sm n fo N' (x'.hnd r) y=sm n fo N (x'.hnd r) y):qS n fo N' x x':=by
 obtain⟨d,d6,ed,⟨k,v,e,s⟩|⟨k,e⟩|⟨k,e⟩⟩:=R
 ·refine⟨d,d6,ed,.inl ⟨k,v,e,λy=> ?_⟩⟩;subst e;have:=h d d6 bQ y;rw[show(dN (setS x d v) 0 0).hnd d=v from bQ]at this;rw[this,s]
 ·exact⟨d,d6,ed,.inr (.inl ⟨k,e⟩)⟩
 ·exact⟨d,d6,ed,.inr (.inr ⟨k,e⟩)⟩
def ug(E:fk)(i:Nat):Nat:=dU (λk=>if(E.ses k).pend=true then 1 else 0) i
structure kH(G0:EG)(i:Nat)(G:EG):Prop where
 s:G.E.s=G0.E.s/\G.E.p=G0.E.p/\G.E.r=G0.E.r
 n:G.n=G0.n
 fo:G.fo=G0.fo
 gg:G.gg=G0.gg
 room:G.room=G0.room
 off:G.off=G0.off
 ws:G.P.ws.length=G0.P.ws.length
 jobs:G.P.jobs=[]
 last:G.P.last=G0.P.last
 cnt:aT G.N<=aT G0.N+i
 M:G0.M<=G.M/\G.M<=G0.M+1002*i+1000
 ans:G.E.ans=G0.E.ans+ug G0.E i
 lo: ∀k,k<i->k<4->((G0.E.ses k).pend=true->qS G0.n G0.fo G.N (G0.E.ses k) (G.E.ses k))/\((G0.E.ses k).pend=false->G.E.ses k=G0.E.ses k)
 hi: ∀k,i<=k->G.E.ses k=G0.E.ses k
 old: ∀k,k<4-> ∀r,r<6->(G0.E.ses k).there r=true->(G.E.ses k).there r=true->(G.E.ses k).hnd r=(G0.E.ses k).hnd r-> ∀y,sm G0.n G0.fo G.N ((G0.E.ses k).hnd r) y=sm G0.n G0.fo G0.N ((G0.E.ses k).hnd r) y
structure zb(G:EG):Prop where
 jobs:G.P.jobs=[]
 kind: ∀i,i<4->(G.E.ses i).pend=true->((G.E.ses i).cal.kind=1\/(G.E.ses i).cal.kind=2\/(G.E.ses i).cal.kind=6)/\refu G.n (G.E.ses i) (G.E.ses i).cal=0
 room:aT G.N+5<G.room
 M:G.M+20000<=LB/1000
 ans:G.E.ans+10<1000000000
def fD{G:EG}{i d v n:Nat}{er:Int}{f':Int->Int}:(hZ (kS G i d v f') i er n).E.ses=fJ G.E.ses i (dN (setS (G.E.ses i) d v) er n):=by show fJ (fJ G.E.ses i _) i (dN (fJ G.E.ses i (setS (G.E.ses i) d v) i) er n)=_;rw[iq,bQ]
def qk{G:EG}{i d n:Nat}{er:Int}{f':Int->Int}:(hZ (yG G i d f') i er n).E.ses=fJ G.E.ses i (dN (fC (G.E.ses i) d) er n):=by show fJ (fJ G.E.ses i _) i (dN (fJ G.E.ses i (fC (G.E.ses i) d) i) er n)=_;rw[iq,bQ]
section
variable {h h':aA}{e i:Nat}{G G0 G':EG}{K:KK}
def kH.refl(hj:G0.P.jobs=[]):kH G0 0 G0:=⟨⟨rfl,rfl,rfl⟩,rfl,rfl,rfl,rfl,rfl,rfl,hj,rfl,Nat.le_refl _,⟨Nat.le_refl _,Y⟩,rfl,λk hk=>Y,λk hk=>rfl,λk hk r hr ht ht' he y=>rfl⟩
def kH.mono(R:kH G0 i G){N':aj}(hs: ∀v,(∃k r,k<4/\r<6/\(G.E.ses k).there r=true/\v=(G.E.ses k).hnd r)-> ∀y,sm G0.n G0.fo N' v y=sm G0.n G0.fo G.N v y):
  (∀k,k<i->k<4->((G0.E.ses k).pend=true->qS G0.n G0.fo N' (G0.E.ses k) (G.E.ses k))/\((G0.E.ses k).pend=false->G.E.ses k=G0.E.ses k))/\
  (∀k,k<4-> ∀r,r<6->(G0.E.ses k).there r=true->(G.E.ses k).there r=true->(G.E.ses k).hnd r=(G0.E.ses k).hnd r-> ∀y,sm G0.n G0.fo N' ((G0.E.ses k).hnd r) y=sm G0.n G0.fo G0.N ((G0.E.ses k).hnd r) y):=
 ⟨λk hk h4=>⟨λp=>((R.lo k hk h4).1 p).to λr hr ht=>hs _ ⟨k,r,h4,hr,ht,rfl⟩,(R.lo k hk h4).2⟩,λk hk r hr ht ht' he y=>by rw[<-he,hs _ ⟨k,r,hk,hr,ht',rfl⟩ y,he];exact R.old k hk r hr ht ht' he y⟩
def kH.lay(Ea:zb G0)(R:kH G0 i G)(W:bV h e G)(W':bV h' e G')(hi:i<4)(hp:(G.E.ses i).pend=true)(L:Bb i G G'):kH G0 (i+1) G':=by
 have ei:=R.hi i (Nat.le_refl _);have pi:(G0.E.ses i).pend=true:=by rw[<-ei];exact hp
 obtain⟨kd,rf⟩:=Ea.kind i hi pi;have nP:ug G0.E (i+1)=ug G0.E i+1:=by unfold ug;show dU _ i+(if _ then 1 else 0)=_;rw[if_pos pi]
 obtain⟨d,d6,ed,L⟩:=L
 have fin: ∀(N':aj) (x':eW),G'.E.ses=fJ G.E.ses i x'->G'.N=N'->(∀v,(∃k r,k<4/\r<6/\(G.E.ses k).there r=true/\(G'.E.ses k).there r=true/\(G'.E.ses k).hnd r=(G.E.ses k).hnd r/\v=(G.E.ses k).hnd r)-> ∀y,sm G0.n G0.fo N' v y=sm G0.n G0.fo G.N v y)->qS G0.n G0.fo N' (G0.E.ses i) x'->
   (G'.E.s=G.E.s/\G'.E.p=G.E.p/\G'.E.r=G.E.r)->G'.n=G.n->G'.fo=G.fo->G'.gg=G.gg->G'.room=G.room->G'.off=G.off->G'.P=G.P->aT N'<=aT G.N+1->(G.M<=G'.M/\G'.M<=G.M+1002)->G'.E.ans=G.E.ans+1->kH G0 (i+1) G':=by
  intro N' x' es eN hs sr e1 e2 e3 e4 e5 e6 e7 e8 e9 e10;have sk: ∀k,G'.E.ses k=if k=i then x' else G.E.ses k:=λk=>by rw[es];rfl
  refine⟨⟨e1.1.trans R.s.1,e1.2.1.trans R.s.2.1,e1.2.2.trans R.s.2.2⟩,e2.trans R.n,e3.trans R.fo,e4.trans R.gg,e5.trans R.room,e6.trans R.off,by rw[e7];exact R.ws,by rw[e7];exact R.jobs,by rw[e7];exact R.last,?_,⟨Nat.le_trans R.M.1 e9.1,by have:=R.M.2;omega⟩,by rw[e10,nP,R.ans];omega,λk hk h4=> ?_,λk hk=> ?_,λk hk r hr ht ht' he y=> ?_⟩
  ·have:=R.cnt;rw[eN];omega
  ·by_cases q:k=i
   ·subst q;rw[sk,if_pos rfl,eN];exact⟨λ_=>sr,λp=>by rw[p]at pi;cases pi⟩
   ·rw[sk,if_neg q,eN];have lk:=R.lo k Y h4;refine⟨λp=>(lk.1 p).to λr hr ht=>hs _ ⟨k,r,h4,hr,ht,?_,?_,rfl⟩,lk.2⟩
    ·rw[sk,if_neg q];exact ht
    ·rw[sk,if_neg q]
  ·rw[sk,if_neg Y];exact R.hi k Y
  ·rw[eN];by_cases q:k=i
   ·subst q;have ht2:(G.E.ses k).there r=true:=by rw[ei];exact ht
    have:=hs _ ⟨k,r,hk,hr,ht2,ht',by rw[he,ei],rfl⟩ y;rw[ei]at this;rw[this];exact R.old k hk r hr ht ht2 (by rw[ei]) y
   ·have ht2:(G.E.ses k).there r=true:=by rw[sk,if_neg q]at ht';exact ht'
    have he2:(G.E.ses k).hnd r=(G0.E.ses k).hnd r:=by rw[sk,if_neg q]at he;exact he
    have:=hs _ ⟨k,r,hk,hr,ht2,ht',by rw[he,he2],rfl⟩ y;rw[he2]at this;rw[this];exact R.old k hk r hr ht ht2 he2 y
 rcases L with⟨k,G1,er,V,e⟩|⟨k,f',e⟩|⟨k,f',e⟩
 ·obtain⟨G2,N2,L2,v,er',f',C1,M,ee,e1⟩:=V;obtain⟨E2,he2,hfull⟩:=xc M
  have er0:er'=0:=by
   rcases he2 with q|q
   ·exact q
   ·exfalso;have h1:=(hfull q).1;have h2:=C1.cnt;have h3:=R.cnt;have h4:=Ea.room;rw[C1.room,R.room]at h1;omega
  subst er0;rw[if_pos rfl]at e1;subst e1 ee e
  have mkn:(G.E.ses i).cal.mask<G2.n:=by have z:=(mJ (eV rf).2.2.2).2.1 (by rw[<-ei];exact k);rw[C1.n,R.n,ei];exact z
  have po:=W.po;rw[<-C1.n,<-C1.fo,<-C1.gg]at po;have pg:=po.1 _ mkn;have e0:lvl G2.n G2.N 0=G2.n:=by unfold lvl;rw[if_pos Y]
  have ok2:ey G2.n N2:=by have:=W'.W.S.ok.1;exact this
  have mn:=ju (f:=G2.fo) C1.ok ok2 (a:=0) (b:=1) (.inl Y) (.inl Y) (show _<lvl G2.n G2.N 0 by rw[e0];exact pg.1) M;have n0:G2.n=G0.n:=C1.n.trans R.n;have f0:G2.fo=G0.fo:=C1.fo.trans R.fo;have hE:G2.E=G.E:=C1.E;have c2:=rP M;have hc:=C1.cnt;have hM:=C1.M
  have es:(hZ (kS (oh G2 N2 L2) i d v f') i ((0:Nat):Int) 0).E.ses=fJ G.E.ses i (dN (setS (G.E.ses i) d v) 0 0):=by rw[<-hE];exact fD
  refine fin N2 _ es rfl (λw ⟨k',r,h4,hr,ht,_,_,ew⟩ y=> ?_) ⟨d,d6,(by rw[<-ei];exact ed),.inl ⟨(by rw[<-ei];exact k),v,(by rw[ei]),λy=> ?_⟩⟩ (by rw[<-hE];exact⟨rfl,rfl,rfl⟩) C1.n C1.fo C1.gg C1.room C1.off C1.P Y ⟨(by show G.M<=G2.M+2;omega),(by show G2.M+2<=_;omega)⟩ (by rw[<-hE];rfl)
  ·have hw:isN G2.N w:=by rw[ew];exact C1.rg k' h4 r hr ht
   rw[<-n0,<-f0,E2.sm C1.ok hw,C1.ex.sm C1.ok hw]
  ·rw[<-n0,<-f0,mn.2.2.2 y,pg.2,bH Y,bH Y,ei];cases y.testBit (G0.E.ses i).cal.mask<;>rfl
 ·subst e;exact fin G.N _ fD rfl (λv _ y=>rfl) ⟨d,d6,(by rw[<-ei];exact ed),.inr (.inl ⟨(by rw[<-ei];exact k),(by rw[ei])⟩)⟩ ⟨rfl,rfl,rfl⟩ rfl rfl rfl rfl rfl rfl Y ⟨(by show G.M<=G.M+2;omega),(by show G.M+2<=_;omega)⟩ rfl
 ·subst e;exact fin G.N _ qk rfl (λv _ y=>rfl) ⟨d,d6,(by rw[<-ei];exact ed),.inr (.inr ⟨(by rw[<-ei];exact k),(by rw[ei])⟩)⟩ ⟨rfl,rfl,rfl⟩ rfl rfl rfl rfl rfl rfl Y ⟨(by show G.M<=G.M+1;omega),(by show G.M+1<=_;omega)⟩ rfl
def fU(h: ∀k,k<4->(G.E.ses k).pend=false): ¬je G.E:=λ⟨k,hk,hp⟩=>by rw[h k hk]at hp;cases hp
def kH.none(R:kH G0 4 G): ∀k,k<4->(G.E.ses k).pend=false:=λk hk=>by
 have:=R.lo k hk hk;cases q:(G0.E.ses k).pend with
 |true=>exact(this.1 q).pend
 |false=>rw[this.2 q];exact q
def kH.end{w:Nat}(R:kH G0 4 G)(W:bV h e G)(P:tK w G G')(h1:G.M+1000<=G0.M+1002*4+1000):kH G0 4 G':=by
 obtain⟨G1,N',P',L',k,C1,-,e,Pk,hk,hph⟩:=P;subst e;have hj:P'.jobs=[]:=List.eq_nil_of_length_eq_zero (by have:=nk Pk.alike;rw[C1.P,R.jobs]at this;simpa using this);have j1:G1.P.jobs=[]:=by rw[C1.P];exact R.jobs
 have hE:G1.E=G.E:=C1.E;have n0:G1.n=G0.n:=C1.n.trans R.n;have f0:G1.fo=G0.fo:=C1.fo.trans R.fo
 have cn:aT N'<=aT G1.N:=by have:=Pk.le2;unfold psi at this;rw[hj,j1]at this;simpa using this
 have hc:=C1.cnt;have rc:=R.cnt;have hM:=C1.M;have rM:=R.M
 have mo:=R.mono (N':=N') λv ⟨k',r,h4,hr,ht,ev⟩ y=>by
  have hv:isN G1.N v:=by rw[ev];exact C1.rg k' h4 r hr ht
  rw[<-n0,<-f0,Pk.ex.sm C1.ok hv,C1.ex.sm C1.ok hv]
 have he:({G1 with N:=N',P:=P',L:=L'}:EG).E=G.E:=hE;exact⟨(by rw[he];exact R.s),n0,f0,C1.gg.trans R.gg,C1.room.trans R.room,C1.off.trans R.off,(by show P'.ws.length=_;rw[Pk.alike.2.1,C1.P];exact R.ws),hj,(by show P'.last=_;rw[Pk.alike.1,C1.P];exact R.last),(by show aT N'<=_;omega),⟨(by show G0.M<=G1.M;omega),(by show G1.M<=_;omega)⟩,(by rw[he];exact R.ans),(by rw[he];exact mo.1),(by rw[he];exact R.hi),(by rw[he];exact mo.2)⟩
end
end
section
section
variable {h h':aA}{e i:Nat}{G G0 G':EG}{K:KK}
def vA{E:fk}: ∀i,(∀k,k<i->(E.ses k).pend=false)->ug E i=0:=by
 intro i
 induction i with
 |zero=>intro _;rfl
 |succ i ih=>
  intro hb;unfold ug dU;have:ug E i=0:=ih λk hk=>hb k Y;unfold ug at this;rw[this,hb i Y]
  rfl
def kH.idle(hj:G0.P.jobs=[])(hn: ¬je G0.E):kH G0 4 G0:=by
 have np: ∀k,k<4->(G0.E.ses k).pend=false:=λk hk=>by
  cases q:(G0.E.ses k).pend with
  |true=>exact absurd ⟨k,hk,q⟩ hn
  |false=>rfl
 exact⟨⟨rfl,rfl,rfl⟩,rfl,rfl,rfl,rfl,rfl,rfl,hj,rfl,Y,⟨Nat.le_refl _,Y⟩,by rw[vA 4 np];rfl,λk hk h4=>⟨λp=>(by rw[np k h4]at p;cases p),λ_=>rfl⟩,λk hk=>rfl,λk hk r hr ht ht' he y=>rfl⟩
def ut{k:Int}(h:k=1\/k=2\/k=6):gw k=123:=if_pos h
def Bu{E:fk}: ∀i,ug E i<=i:=by
 intro i
 induction i with
 |zero=>exact Nat.le_refl _
 |succ i ih=>
  unfold ug dU;unfold ug at ih;split<;>omega
def kH.skip(R:kH G0 i G)(hp:(G.E.ses i).pend=false):kH G0 (i+1) G:=by
 have ei:=R.hi i (Nat.le_refl _);have pi:(G0.E.ses i).pend=false:=by rw[<-ei];exact hp
 refine⟨R.s,R.n,R.fo,R.gg,R.room,R.off,R.ws,R.jobs,R.last,by have:=R.cnt;omega,⟨R.M.1,by have:=R.M.2;omega⟩,?_,λk hk h4=> ?_,λk hk=>R.hi k Y,R.old⟩
 ·rw[R.ans];show _=G0.E.ans+(ug G0.E i+if(G0.E.ses i).pend=true then 1 else 0);rw[pi]
  rfl
 ·by_cases q:k=i
  ·subst q;exact⟨λp=>(by rw[p]at pi;cases pi),λ_=>ei⟩
  ·exact R.lo k Y h4
def ku{who draw:Int}(W:bV h e G)(hN:who<0\/(G.P.ws.length:Int)<=who\/ ¬je G.E)(hK: ∀h',aF [] h h'->K aq h'):Cl 26 [aX e,ac who,ac draw] h K:=by
 refine F26.spec _ _ _ h K ?_;refine aH (λq=>hK h (aF.refl _ _)) λq=> ?_;have q:=of_decide_eq_false q;refine fL W (aB rfl (aH (λp=>hK h (aF.refl _ _)) λp=> ?_));have p: ¬(G.P.ws.length:Int)<=who:=of_decide_eq_false p;have no: ¬je G.E:=by rcases hN with z|z|z<;>first|omega|exact z
 exact nW W.I (λa=>absurd a no) λ_ h1 O1=>aQ rfl (hK h1 O1)
def um(W:bV h e G0)(Ea:zb G0){w:Nat}(hw:w<G0.P.ws.length){draw:Int}(hN: ¬je G0.E-> ∀h',aF [] h h'->K aq h')
  (hY:je G0.E-> ∀h' G',bV h' e G'->be e G0 h G' h'->kH G0 4 G'->K au h'):Cl 26 [aX e,ac (w:Int),ac draw] h K:=by
 have eM:=Ea.M
 refine vm W (λq h1 O1=>hN ?_ h1 O1) (λi h1 G1=>bV h1 e G1/\be e G0 h G1 h1/\kH G0 i G1/\G1.M<=G0.M+1002*i) (λh1 O1=>⟨W.only0 O1,be.only0 O1,kH.refl Ea.jobs,Y⟩)
  (λ{i h1 G1 h2} I O=>⟨I.1.only0 O,I.2.1.trans (be.only0 O),I.2.2⟩) (λI=>I.1) (λ{i h1 G1} hi I hp=>⟨I.1,I.2.1,I.2.2.1.skip hp,by have:=I.2.2.2;omega⟩) (λ{i h1 G1 Q} hi I hp hQ=> ?_) (λ_ _ a h1 G1 I=> ?_)
 ·rcases q with q|q|q
  ·omega
  ·omega
  ·exact q
 ·obtain⟨W1,S1,R1,M1⟩:=I;have ei:=R1.hi i (Nat.le_refl _);obtain⟨kd,rf⟩:=Ea.kind i hi (by rw[<-ei];exact hp);have kd1:(G1.E.ses i).cal.kind=1\/(G1.E.ses i).cal.kind=2\/(G1.E.ses i).cal.kind=6:=by rw[ei];exact kd
  rw[ut kd1];have rc:=R1.cnt;have rm:=Ea.room;have ra:=R1.ans;have na:=Bu (E:=G0.E) i;have ea:=Ea.ans;refine wo sX W1 hi (by show aT G1.N<G1.room;rw[R1.room];omega) Y Y kd1 (by rw[ei,R1.n];exact rf) λh2 G2 W2 S2 L=> ?_;refine hQ true h2 G2 ⟨W2,S1.trans S2,kH.lay Ea R1 W1 W2 hi hp L,?_⟩;obtain⟨d,-,-,⟨-,G3,er,⟨G4,N2,L2,v,er',f',C1,-,-,e1⟩,e2⟩|⟨-,f',e2⟩|⟨-,f',e2⟩⟩:=L
  ·have:=C1.M;have:G3.M<=G4.M+2:=by rw[e1];split<;>(first|exact Nat.le_refl _|exact Nat.le_add_right _ _)
   have:G2.M=G3.M:=by rw[e2];rfl
   omega
  ·have:G2.M=G1.M+2:=by rw[e2];rfl
   omega
  ·have:G2.M=G1.M+1:=by rw[e2];rfl
   omega
 ·obtain⟨W1,S1,R1,M1⟩:=I;have rc:=R1.cnt;have rm:=Ea.room;refine gQ sX W1 (by show aT G1.N<G1.room;rw[R1.room];omega) Y (by rw[R1.ws];exact hw) λh2 G2 W2 S2 P=> ?_;exact hY a h2 G2 W2 (S1.trans S2) (R1.end W1 P Y)
def uW(W:bV h e G0)(Ea:zb G0)(hK: ∀h' G',bV h' e G'->be e G0 h G' h'->kH G0 4 G'->K au h'):Cl 42 [aX e] h K:=by
 have wl:=W.W.Ok.len
 refine rR (m:=1) (λm h1 G1=>bV h1 e G1/\be e G0 h G1 h1/\((m=1/\G1=G0)\/(m=0/\kH G0 4 G1))) (λm w h1 G1=>bV h1 e G1/\be e G0 h G1 h1/\m=1/\((w=0/\G1=G0/\je G0.E)\/(1<=w/\kH G0 4 G1))) G0.P.ws.length wl.2
  ⟨W,be.refl,.inl ⟨rfl,rfl⟩⟩ Y (λI=>I.1) (λ{m w h1 G1} I=>⟨I.1,?_⟩) (λ{m h1 G1} I a=>⟨I.1,I.2.1,?_⟩) (λ{m w h1 G1 Q draw} hw I hQ=> ?_) (λ{m h1 G1} I=> ?_) (λm' h1 G1 _ I a=> ?_)
 ·rcases I.2.2.2 with⟨-,q,-⟩|⟨-,q⟩
  ·rw[q]
  ·exact q.ws
 ·rcases I.2.2 with⟨q1,q2⟩|⟨q1,q2⟩
  ·subst q2;exact⟨q1,.inl ⟨rfl,rfl,a⟩⟩
  ·exact absurd a (fU q2.none)
 ·obtain⟨W1,S1,m1,q⟩:=I;rcases q with⟨q1,q2,q3⟩|⟨q1,q2⟩
  ·subst q2;exact um W1 Ea hw (λa=>absurd q3 a) λa h2 G2 W2 S2 R2=>hQ _ h2 G2 ⟨W2,S1.trans S2,m1,.inr ⟨Y,R2⟩⟩
  ·have no:=fU q2.none;exact ku W1 (.inr (.inr no)) λh2 O2=>hQ _ h2 G1 ⟨W1.only0 O2,S1.trans (be.only0 O2),m1,.inr ⟨Y,q2⟩⟩
 ·obtain⟨W1,S1,m1,q⟩:=I;rcases q with⟨q1,-,-⟩|⟨q1,q2⟩
  ·omega
  ·exact⟨0,Y,W1,S1,.inr ⟨rfl,q2⟩⟩
 ·obtain⟨W1,S1,q⟩:=I;rcases q with⟨q1,q2⟩|⟨q1,q2⟩
  ·subst q2;exact hK h1 G1 W1 S1 (kH.idle Ea.jobs a)
  ·exact hK h1 G1 W1 S1 q2
end
end
section
section
variable {h h':aA}{e i:Nat}{G G0 G':EG}{K:KK}
def dV(G:EG)(k:Nat)(c:iL):EG:={G with E:=G.E.put k (mU (G.E.ses k) c)}
def jF{c:iL}{i:Int}(W:bV h e G)(hm:c.mask<256)
  (hO:(i<0\/4<=i)-> ∀h',aF [] h h'->K (ac 222) h')
  (hB: ∀k:Nat,k<4->i=(k:Int)->(G.E.ses k).pend=true-> ∀h',aF [] h h'->K (ac 220) h')
  (hR: ∀k:Nat,k<4->i=(k:Int)->(G.E.ses k).pend=false->refu G.n (G.E.ses k) c≠0-> ∀h',aF [] h h'->K (ac (refu G.n (G.E.ses k) c)) h')
  (hK: ∀k:Nat,k<4->i=(k:Int)->(G.E.ses k).pend=false->refu G.n (G.E.ses k) c=0-> ∀h',bV h' e (dV G k c)->be e G h (dV G k c) h'->K (ac 0) h'):
  Cl 24 [aX e,ac i,pF c] h K:=by
 refine xR W.I W.W.S W.de.1 hm hO hB hR λk hk ek hp hr h' I' O'=>hK k hk ek hp hr h' ?_ (be.some O' (λb hb=>by simp at hb;subst hb;exact aW.2 (.inl rfl)) λb hb=>hb)
 have hs: ∀q,((dV G k c).E.ses q).there=(G.E.ses q).there/\((dV G k c).E.ses q).hnd=(G.E.ses q).hnd:=λq=>by
  show((G.E.put k (mU (G.E.ses k) c)).ses q).there=_/\((G.E.put k (mU (G.E.ses k) c)).ses q).hnd=_;rw[dR];by_cases z:q=k
  ·rw[if_pos z,z];exact⟨rfl,rfl⟩
  ·rw[if_neg z];exact⟨rfl,rfl⟩
 refine⟨W.W.only O' (λb hb=>by simp at hb;subst hb;exact W.de.1) (λb hb=>by simp at hb;subst hb;exact W.de.2.1),W.R.only O' (λb hb=>by simp at hb;subst hb;exact W.de.2.2),I',λx=> ?_,W.de,W.dB,λq hq r hr ht=> ?_,λq hq r hr ht=> ?_,λq hq=> ?_,W.po⟩
 ·rw[my hs];exact W.C x
 ·rw[(hs q).2];rw[(hs q).1]at ht;exact W.rg q hq r hr ht
 ·rw[(hs q).2];rw[(hs q).1]at ht;exact W.r0 q hq r hr ht
 ·show((G.E.put k (mU (G.E.ses k) c)).ses q).cal.mask<256;rw[dR];by_cases z:q=k
  ·rw[if_pos z];exact hm
  ·rw[if_neg z];exact W.mq q hq
def uM{n:Nat}{room x:Int}(h8:8<n)(hn:n<1000000)(hK:K (.tuple #[.pointer none,ac 40]) h):Cl 18 [ac (n:Int),ac room,ac x] h K:=by refine F18.spec ?_;refine F61.spec ?_;rw[decide_eq_false Y,aD,decide_eq_true Y,aG];exact⟨_,_,rfl,hK⟩
end
end
section
def cu(x:eW)(i:Nat):Nat:=match (gG x.cal)[i]? with|some r=>x.hnd r.toNat|none=>0
def iJ{x:eW}{i:Nat}{r:Int}(h:(gG x.cal)[i]? =some r):cu x i=x.hnd r.toNat:=by unfold cu;rw[h]
def jT{x:eW}{i:Nat}(h:(gG x.cal)[i]? =none):cu x i=0:=by unfold cu;rw[h]
def gE(x:eW)(n:Nat):eW:={x with job:=n}
section
variable {h h':aA}{e i:Nat}{G G0 G':EG}{K:KK}
def yR{b:Nat}{p:ak}{l cc:Nat}{x5:Addr}{hb:aA}(hi:i<4)(W:bV h e G)(A:At h b (bS 3 λ_=>ae (0:Int)))(hb0:b∉gK e G)(R:yH hb h p l (gG (G.E.ses i).cal))(hbb: ∀q L,p=some (ah q)->At h q L->q≠b)(ok:kF (G.E.ses i) (G.E.ses i).cal)
  (hK: ∀h',bV h' e G->At h' b (bS 3 λj=>ae (cu (G.E.ses i) j:Int))->aF [b] h h'->F172.wk10 (ah e) ⟨e,3+24*i,none⟩ x5 (ah b) h' K):
  F172.wk6 (ah e) ⟨e,3+24*i,none⟩ x5 (ah b) p l cc (Nat.cast l:Int) 0 h K:=by
 obtain⟨el,R⟩:=R;have l3:=tr (G.E.ses i).cal;unfold F172.wk6
 have main: ∀(d k:Nat) (hh:aA),d+k=l->bV hh e G->At hh b (bS 3 λj=>ae ((if j<k then cu (G.E.ses i) j else 0:Nat):Int))->aF [b] h hh->F172.wL6 (d+1) (ah e) ⟨e,3+24*i,none⟩ x5 (ah b) p l cc (Nat.cast l:Int) (k:Int) hh K:=by
  intro d
  induction d with
  |zero=>
   intro k hh hk W1 A1 O1;rw[F172.sL6];rw[decide_eq_false Y,aD];refine hK hh W1 ?_ O1;rw[dg (g':=λj=>ae ((if j<k then cu (G.E.ses i) j else 0:Nat):Int)) λj hj=> ?_]
   ·exact A1
   ·by_cases q:j<k
    ·rw[if_pos q]
    ·rw[if_neg q,jT (List.getElem?_eq_none Y)]
  |succ d ih=>
   intro k hh hk W1 A1 O1;rw[F172.sL6];rw[decide_eq_true Y,aG];have hlen:k<(gG (G.E.ses i).cal).length:=Y;obtain⟨x,hx⟩: ∃x,(gG (G.E.ses i).cal)[k]? =some x:=⟨_,List.getElem?_eq_getElem hlen⟩;rcases R with R|⟨q,Lc,ep,gb,Ab,g⟩
   ·rw[R]at hlen;simp at hlen
   have qb:=hbb q Lc ep Ab;have Aq:=Ab.only O1 (by simp;exact qb);obtain⟨rx,tx⟩:=ok x (List.mem_of_getElem? hx);have r6:x.toNat<6:=by unfold iQ at rx;omega
   rw[ep];refine⟨Y,Y,aB (n:=x) (by simp only[aE];rw[At.rd Aq,show 0+Int.toNat (Nat.cast k:Int)*1=k by simp];exact g k x hx) ⟨rx.1,rx.2,?_⟩⟩;refine aB (n:=((G.E.ses i).hnd x.toNat:Int)) (by simp only[aE];exact W1.I.hnd hi r6 Y) ⟨Y,Y,?_⟩;simp only[aE];rw[show 0+Int.toNat (Nat.cast k:Int)*1+0=k by simp];refine aK A1 (by rw[bu];omega) rfl λh2 A2 O2 z2=> ?_;rw[uT Y,<-ep];have W2:bV h2 e G:=⟨W1.W.only O2 (λy hy hm=>by simp at hy;subst hy;exact hb0 (aW.2 (.inr (.inl hm)))) (λy hy hm=>by simp at hy;subst hy;exact hb0 (aW.2 (.inr (.inr (.inr hm))))),W1.R.only O2 (λy hy hm=>by simp at hy;subst hy;exact hb0 (aW.2 (.inr (.inr (.inl hm))))),W1.I.only O2 (λhm=>by simp at hm;exact hb0 (aW.2 (.inl hm.symm))),W1.C,W1.de,W1.dB,W1.rg,W1.r0,W1.mq,W1.po⟩;refine ih (k+1) h2 Y W2 ?_ (O1.trans O2 λy hy _=>hy);rw[dS]at A2;rw[dg (g':=λj=>if j=k then ae ((G.E.ses i).hnd x.toNat:Int)else ae ((if j<k then cu (G.E.ses i) j else 0:Nat):Int)) λj hj=> ?_]
   ·exact A2
   ·by_cases z:j=k
    ·rw[if_pos z,if_pos Y,z,iJ hx]
    ·rw[if_neg z];by_cases z2:j<k
     ·rw[if_pos z2,if_pos Y]
     ·rw[if_neg z2,if_neg Y]
 refine⟨_,main l 0 h Y W ?_ (aF.refl _ _)⟩;rw[dg (g':=λ_=>ae (0:Int)) λj hj=>by rw[if_neg Y];rfl];exact A
def pj(G:EG)(i:Nat)(ws:List Wk)(A:MA):EG:=
 {G with E:=G.E.put i (gE (G.E.ses i) (G.P.last+1)),P:={G.P with ws:=ws,jobs:=G.P.jobs++[⟨G.P.last+1,A,cQ (G.E.ses i).cal.op.toNat (cu (G.E.ses i) 0) (cu (G.E.ses i) 1) (cu (G.E.ses i) 2)⟩],last:=G.P.last+1}}
def vx{n:Nat}(W:bV h e G)(hi:i<4)(I:cR h' e (G.E.put i (gE (G.E.ses i) n)))(O:aF [e] h h'):bV h' e {G with E:=G.E.put i (gE (G.E.ses i) n)}/\be e G h {G with E:=G.E.put i (gE (G.E.ses i) n)} h':=by
 have hs: ∀q,((G.E.put i (gE (G.E.ses i) n)).ses q).there=(G.E.ses q).there/\((G.E.put i (gE (G.E.ses i) n)).ses q).hnd=(G.E.ses q).hnd/\((G.E.put i (gE (G.E.ses i) n)).ses q).cal=(G.E.ses q).cal:=λq=>by
  rw[dR];by_cases z:q=i
  ·rw[if_pos z,z];exact⟨rfl,rfl,rfl⟩
  ·rw[if_neg z];exact⟨rfl,rfl,rfl⟩
 refine⟨⟨W.W.only O (λb hb=>by simp at hb;subst hb;exact W.de.1) (λb hb=>by simp at hb;subst hb;exact W.de.2.1),W.R.only O (λb hb=>by simp at hb;subst hb;exact W.de.2.2),I,λx=> ?_,W.de,W.dB,λk hk r hr ht=> ?_,λk hk r hr ht=> ?_,λk hk=> ?_,W.po⟩,be.some O (λb hb=>by simp at hb;subst hb;exact aW.2 (.inl rfl)) λb hb=>hb⟩
 ·show G.f (x:Int)=(jI (G.E.put i (gE (G.E.ses i) n)) x:Int);rw[my λk=>⟨(hs k).1,(hs k).2.1⟩];exact W.C x
 ·show isN G.N (((G.E.put i (gE (G.E.ses i) n)).ses k).hnd r);have ht:((G.E.put i (gE (G.E.ses i) n)).ses k).there r=true:=ht;rw[(hs k).2.1];rw[(hs k).1]at ht;exact W.rg k hk r hr ht
 ·show((G.E.put i (gE (G.E.ses i) n)).ses k).hnd r=0;have ht:((G.E.put i (gE (G.E.ses i) n)).ses k).there r=false:=ht;rw[(hs k).2.1];rw[(hs k).1]at ht;exact W.r0 k hk r hr ht
 ·show((G.E.put i (gE (G.E.ses i) n)).ses k).cal.mask<256;rw[(hs k).2.2];exact W.mq k hk
def pc(W:bV h e G)(hi:i<4)(ok:kF (G.E.ses i) (G.E.ses i).cal){j:Nat}(hj:j<(gG (G.E.ses i).cal).length):isN G.N (cu (G.E.ses i) j):=by obtain⟨x,hx⟩: ∃x,(gG (G.E.ses i).cal)[j]? =some x:=⟨_,List.getElem?_eq_getElem hj⟩;obtain⟨rx,tx⟩:=ok x (List.mem_of_getElem? hx);rw[iJ hx];exact W.rg i hi _ (by unfold iQ at rx;omega) tx
def rH(W:bV h e G)(hi:i<4)(k3:(G.E.ses i).cal.kind=3){op:Nat}(eo:(G.E.ses i).cal.op=(op:Int))(hop:op=1\/op=2\/op=3\/op=4\/op=5)(ok:kF (G.E.ses i) (G.E.ses i).cal)(hR: ¬xY G.E)(hj:G.P.jobs.length<64)(hl:G.P.last+1<100000000)
  (hK: ∀h' ws A,bV h' e (pj G i ws A)->be e G h (pj G i ws A) h'->ws.length=G.P.ws.length->A.done=false->A.e=0->dX G.n G.N A.fs<=1021->fu G.n G.N A.fs<=2^G.n-1->qlen ws=qlen G.P.ws+1->K aq h'):
  Cl 172 [aX e,pt e i] h K:=by
 refine F172.spec _ _ h K ?_;refine xh W.I (λa=>absurd a hR) λ_ h1 O1=>aQ rfl ?_;rw[aD];have W1:=W.only0 O1;simp only[aE,Nat.zero_add];refine aB (W1.I.kind hi Y) (aB (W1.I.op hi Y) (aB (W1.I.dst hi Y) (aB (W1.I.ca hi Y) (aB (W1.I.cb hi Y) (aB (W1.I.cc hi Y) (aB (W1.I.mask hi Y) ?_))))));obtain⟨c,ec⟩: ∃c,c=(G.E.ses i).cal:=⟨_,rfl⟩;rw[<-ec];refine aM λh2 A2 O2 z2=> ?_;refine aK A2 Z rfl λh3 A3 O3 z3=>aK A3 Z rfl λh4 A4 O4 z4=>aK A4 Z rfl λh5 A5 O5 z5=>aK A5 Z rfl λh6 A6 O6 z6=>aK A6 Z rfl λh7 A7 O7 z7=>aK A7 Z rfl λh8 A8 O8 z8=>aK A8 Z rfl λh9 A9 O9 z9=> ?_;have A9:At h9 h1.size [ac c.kind,ac c.op,ac c.dst,ac c.a,ac c.b,ac c.c,.int .u8 (c.mask:Int)]:=A9;have O29:aF [h1.size] h2 h9:=(((((O3.trans O4 λb hb _=>hb).trans O5 λb hb _=>hb).trans O6 λb hb _=>hb).trans O7 λb hb _=>hb).trans O8 λb hb _=>hb).trans O9 λb hb _=>hb;have O19:aF [] h1 h9:=O2.trans O29 (by intro x hx hl;simp at hx;omega);refine aM λh10 A10 O10 z10=> ?_;have z12:=A9.lt;have A9':=A9.only O10 Z;have r: ∀k,rd h10 ⟨h1.size,k,none⟩=([ac c.kind,ac c.op,ac c.dst,ac c.a,ac c.b,ac c.c,.int .u8 (c.mask:Int)]:List Value)[k]? :=λk=>At.rd A9' k;refine aB (n:=c.kind) (by rw[r];rfl) (aB (n:=c.op) (by rw[r];rfl) (aB (n:=c.dst) (by rw[r];rfl) (aB (n:=c.a) (by rw[r];rfl) (aB (n:=c.b) (by rw[r];rfl) (aB (n:=c.c) (by rw[r];rfl) (aB (n:=(c.mask:Int)) (by rw[r];rfl) ?_))))));refine pP (c:=c) λh11 p l cc O11 R11=>⟨_,_,_,rfl,?_⟩;have W10:=(W1.only0 O19).only0 O10;have W11:=W10.only0 O11;have lt9:=(W1.only0 O19).lt;have A11:At h11 h9.size (bS 3 λ_=>ae (0:Int)):=A10.only O11 Z;rw[ec]at R11;have nb:h9.size∉gK e G:=λhm=>by have:=lt9 _ hm;omega
 refine yR (b:=h9.size) hi W11 A11 nb R11 (λq L ep Aq=> ?_) ok λh12 W12 A12 O12=> ?_
 ·obtain⟨el,R⟩:=R11;rcases R with R|⟨q2,L2,e2,g2,-,-⟩
  ·intro eq;have l0:l=0:=by rw[el,R];rfl
   have hh:(gG (G.E.ses i).cal).length=(cA (G.E.ses i).cal.op).toNat:=by unfold gG;rw[if_neg Y,if_neg Y,if_pos k3,List.length_take];have:=lE (G.E.ses i).cal.op;simp;omega
   rw[R,eo]at hh;rcases hop with z|z|z|z|z<;>subst z<;>cases hh
  ·rw[ep]at e2;injection e2 with e2;injection e2 with e2;omega
 ·unfold F172.wk10;have A9'':At h12 h1.size [ac c.kind,ac c.op,ac c.dst,ac c.a,ac c.b,ac c.c,.int .u8 (c.mask:Int)]:=(A9'.only O11 Z).only O12 (by simp;omega);have rc: ∀k,rd h12 ⟨h1.size,k,none⟩=([ac c.kind,ac c.op,ac c.dst,ac c.a,ac c.b,ac c.c,.int .u8 (c.mask:Int)]:List Value)[k]? :=λk=>At.rd A9'' k;have ra: ∀k,k<3->rd h12 ⟨h9.size,k,none⟩=some (ae (cu (G.E.ses i) k:Int)):=λk hk=>by rw[At.rd A12,bY hk]
  simp only[aE,Nat.zero_add];refine aJ W12.I.p (aB (n:=c.op) (by rw[rc];rfl) ⟨Y,Y,aB (ra 0 Y) ⟨Y,Y,aB (ra 1 Y) ⟨Y,Y,aB (ra 2 Y) (aB (n:=(c.mask:Int)) (by rw[rc];rfl) ?_)⟩⟩⟩)
  have hlen:(gG (G.E.ses i).cal).length=(cA (op:Int)).toNat:=by unfold gG;rw[if_neg Y,if_neg Y,if_pos k3,List.length_take,eo];have:=lE (op:Int);simp;omega
  have ha:=pc W12 hi ok (j:=0) (by rw[hlen];rcases hop with z|z|z|z|z<;>subst z<;>decide);have hb:op≠1->isN G.N (cu (G.E.ses i) 1):=λz=>pc W12 hi ok (by rw[hlen];rcases hop with z|z|z|z|z<;>subst z<;>first|(exfalso;omega)|decide);have hc:op=5->isN G.N (cu (G.E.ses i) 2):=λz=>pc W12 hi ok (by rw[hlen];subst z;decide);rw[ec,eo];have mq:=W.mq i hi;refine vr mq W12.W.S W12.W.H W12.W.Ok W12.W.GO W12.W.D hop ha hb hc hl (λq=>Y) λ_ h13 ws A S13 H13 Ok13 GO13 bk13 D13 wl dn ee mu nb13 ql O13=>⟨_,_,rfl,?_⟩;rw[show((0:Int) !=0)=false from rfl,aD];have W13:uv h13 G.E.p G.E.s G.n G.room G.fo G.gg G.off G.N {G.P with ws:=ws,jobs:=G.P.jobs++[⟨G.P.last+1,A,cQ op (cu (G.E.ses i) 0) (cu (G.E.ses i) 1) (cu (G.E.ses i) 2)⟩],last:=G.P.last+1} G.L:=⟨S13,H13,Ok13,GO13,D13⟩;obtain⟨W14,S14⟩:=W12.pool W13 (Ex.refl _) ⟨λT hT _=>O13 T hT,cj.refl _ _,bk13⟩;refine cR.setS (x:=gE (G.E.ses i) (G.P.last+1)) W14.I hi (j:=20) Y Y rfl (λq hq=>vk (x:=G.E.ses i) q hq) λh15 I15 O15 _=> ?_;obtain⟨W15,S15⟩:=vx W14 hi I15 O15;have eop:(G.E.ses i).cal.op.toNat=op:=by rw[eo];rfl
  have O0:aF [] h h12:=((((O1.trans O19 Z).trans O10 Z).trans O11 Z).trans O12 (by intro x hx hl;simp at hx;have:=O1.size;have:=O19.size;omega));have S0:be e G h G h12:=be.only0 O0;refine hK h15 ws A ?_ ?_ wl dn ee mu nb13 ql
  ·unfold pj;rw[eop];exact W15
  ·unfold pj;rw[eop];exact(S0.trans S14).trans S15
end
end
section
section
variable {h h':aA}{e i:Nat}{G G0 G':EG}{K:KK}
def uQ(G:EG)(id:Nat):EG:={G with P:={G.P with jobs:=G.P.jobs.filter λz=>decide (z.id≠id)}}
def w8{id:Nat}(W:bV h e G){x:Nat}{j:Jb}(hx:G.P.jobs[x]? =some j)(ej:j.id=id)(hd:j.A.done=true)
  (hK: ∀h' b,bV h' e (uQ G id)->be e G h (uQ G id) h'->K (aw b) h'):Cl 36 [aX G.E.p,ac (id:Int)] h K:=by
 have hm:=List.mem_of_getElem? hx;refine wx W.W.H W.W.Ok (λq=> ?_) λh1 j' hj' ej' hd' H1 Ok1 O1=> ?_
 ·exfalso;rcases q with q|⟨j',hj',ej',hd'⟩
  ·exact q j hm (by rw[ej])
  ·have ids:=W.W.H.ids
   have:j'=j:=by
    obtain⟨y,hy⟩:=List.getElem?_of_mem hj';have e1:(G.P.jobs.map (·.id))[y]? =some id:=by rw[List.getElem?_map,hy];exact congrArg some (show j'.id=_ by omega)
    have e2:(G.P.jobs.map (·.id))[x]? =some id:=by rw[List.getElem?_map,hx];exact congrArg some ej
    have:=dO ids.1 e1 e2;subst this;rw[hy]at hx;injection hx
   subst this;rw[hd]at hd';cases hd'
 ·have eid:j'.id=id:=Y;rw[eid]at H1 Ok1
  have sub: ∀b,cV G.E.p {G.P with jobs:=G.P.jobs.filter λz=>decide (z.id≠id)} b->cV G.E.p G.P b:=λb hb=>by
   rcases hb with hb|hb|hb|hb|⟨y,hy,hb⟩
   ·exact .inl hb
   ·exact .inr (.inl hb)
   ·exact .inr (.inr (.inl hb))
   ·exact .inr (.inr (.inr (.inl hb)))
   ·exact .inr (.inr (.inr (.inr ⟨y,(List.mem_filter.1 hy).1,hb⟩)))
  have W1:uv h1 G.E.p G.E.s G.n G.room G.fo G.gg G.off G.N {G.P with jobs:=G.P.jobs.filter λz=>decide (z.id≠id)} G.L:=
   ⟨W.W.S.only O1 (λb hb hm=>by simp at hb;subst hb;exact W.W.D _ (.inr (.inl rfl)) hm),H1,Ok1,λy hy=>W.W.GO y ((List.mem_filter.1 hy).1),λb hb=>W.W.D b (sub b hb)⟩
  obtain⟨W2,S2⟩:=W.pool W1 (Ex.refl _) ⟨λT hT _=>O1.mono λb hb _=>by simp at hb;subst hb;exact hT _ (.inr (.inl rfl)),cj.refl _ _,λb hb=> .inl (sub b hb)⟩;exact hK h1 true W2 S2
def sD(W:bV h e G)(hi:i<4){x:Nat}{j:Jb}(hx:G.P.jobs[x]? =some j)(ej:j.id=(G.E.ses i).job)(h0:(G.E.ses i).job≠0)(hd:j.A.done=false)(hK:K aq h):Cl 127 [aX e,pt e i] h K:=by
 have hm:=List.mem_of_getElem? hx;refine F127.spec ?_;simp only[aE,Nat.zero_add];refine aB (W.I.job hi Y) ?_;rw[jh Y,aD];refine aJ W.I.p (aB (W.I.job hi Y) ?_);refine pz W.W.H (λq=>absurd Y (q j hm)) λy j' hy ej'=>⟨_,_,rfl,?_⟩
 have:j'=j:=by
  have e1:(G.P.jobs.map (·.id))[y]? =some j.id:=by rw[List.getElem?_map,hy];exact congrArg some (show j'.id=_ by omega)
  have e2:(G.P.jobs.map (·.id))[x]? =some j.id:=by rw[List.getElem?_map,hx];rfl
  have:=dO W.W.H.ids.1 e1 e2;subst this;rw[hy]at hx;injection hx
 subst this;rw[if_neg (by rw[hd];simp),show((61:Int)==61)=true from rfl,aG];exact hK
def fI(G:EG)(i d:Nat)(told er:Nat)(f':Int->Int):EG:=hZ (uQ (if er=0 then kS G i d told f' else G) (G.E.ses i).job) i (er:Int) 0
def se(W:bV h e G)(hi:i<4){d x:Nat}{j:Jb}(hx:G.P.jobs[x]? =some j)(ej:j.id=(G.E.ses i).job)(h0:(G.E.ses i).job≠0)(hd:j.A.done=true)(he:j.A.e=0\/j.A.e=60)(hv:j.A.e=0->isN G.N j.A.told)(hd6:d<6)(ed:(G.E.ses i).cal.dst=(d:Int))
  (hM:G.M+1<=LB) (ha:G.E.ans<1000000000) (hK: ∀h' f',bV h' e (fI G i d j.A.told j.A.e f')->be e G h (fI G i d j.A.told j.A.e f') h'->K au h'):Cl 127 [aX e,pt e i] h K:=by
 have hm:=List.mem_of_getElem? hx;refine F127.spec ?_;simp only[aE,Nat.zero_add];refine aB (W.I.job hi Y) ?_;rw[jh Y,aD];refine aJ W.I.p (aB (W.I.job hi Y) ?_);refine pz W.W.H (λq=>absurd Y (q j hm)) λy j' hy ej'=>⟨_,_,rfl,?_⟩
 have:j'=j:=by
  have e1:(G.P.jobs.map (·.id))[y]? =some j.id:=by rw[List.getElem?_map,hy];exact congrArg some (show j'.id=_ by omega)
  have e2:(G.P.jobs.map (·.id))[x]? =some j.id:=by rw[List.getElem?_map,hx];rfl
  have:=dO W.W.H.ids.1 e1 e2;subst this;rw[hy]at hx;injection hx
 subst this;rw[if_pos hd]
 have fin: ∀{hh:aA} {G1:EG} {er:Nat},bV hh e G1->be e G h G1 hh->G1.P=G.P->(G1.E.ses i).job=(G.E.ses i).job->G1.E.ans=G.E.ans->(∀h2,bV h2 e (hZ (uQ G1 (G.E.ses i).job) i (er:Int) 0)->be e G h (hZ (uQ G1 (G.E.ses i).job) i (er:Int) 0) h2->K au h2)->F127.wk8 (ah e) ⟨e,3+24*i,none⟩ (er:Int) hh K:=λ{hh G1 er} W1 S1 eP eJ eA hK=>by unfold F127.wk8;simp only[aE,Nat.zero_add];refine aJ W1.I.p (aB (W1.I.job hi Y) ?_);rw[eJ];refine w8 W1 (x:=x) (j:=j') (by rw[eP];exact hx) ej hd λh2 b W2 S2=>aQ rfl ?_;refine iK (n:=0) W2 hi (by show G1.E.ans<_;rw[eA];exact ha) λh3 W3 S3=>⟨rfl,hK h3 W3 ((S1.trans S2).trans S3)⟩
 unfold fI at hK;rcases he with z|z
 ·rw[z,if_pos ⟨hd,rfl⟩,show(((0:Nat):Int)==61)=false from rfl,aD,show(((0:Nat):Int)==0)=true from rfl,aG];refine rT W hi hd6 ed (hv z) hM λh1 f1 W1 S1=>⟨rfl,?_⟩;rw[z]at hK;refine fin W1 S1 rfl (by show((G.E.put i (setS (G.E.ses i) d j'.A.told)).ses i).job=_;rw[cg];rfl) rfl λh2 W2 S2=> ?_;have:=hK h2 f1;rw[if_pos rfl]at this;exact this W2 S2
 ·rw[z,if_neg Y,show(((60:Nat):Int)==61)=false from rfl,aD,show(((60:Nat):Int)==0)=false from rfl,aD];rw[z]at hK;refine fin W be.refl rfl rfl rfl λh2 W2 S2=> ?_;have:=hK h2 G.f;rw[if_neg Y]at this;exact this W2 S2
end
end
end Go.Proofs.YtnofenejoebkhaaGreat.Ev
