/- PART 6 OF WHAT THE LAW EngineClears STANDS ON: EngJ5, LeF5, EngK5, EngL5, EngN5, EngO5, EngP5, EngQ5, EngR5, EngT5, EngV5, EngW5, EngX5, EngY5, EngZ5, CanA5, LawM5, LawN5, LawO5, LgF5, LawP5, RetF5, RetG5, LhF5, NodL5, NodM5, NodN5, NodO5, SrtA. Conditions: none but those that each lemma states. -/
import Derived.Test.YtnofenejoebkhaaGreatG5
namespace Go.Proofs.YtnofenejoebkhaaGreat.Ev
open Go
section
def stepN(k:Int):Nat:=if k=1∨k=2∨k=6 then 123 else if k=4∨k=5 then 124 else if k=7 then 125 else if k=8 then 126 else 127
def sesP(e i:Nat):Value:= .pointer (some ⟨e,3+24*i,none⟩)
theorem go123:xget X 123=some Ext.go:=by kernel_rfl
theorem go124:xget X 124=some Ext.go:=by kernel_rfl
theorem go125:xget X 125=some Ext.go:=by kernel_rfl
theorem go126:xget X 126=some Ext.go:=by kernel_rfl
theorem go127:xget X 127=some Ext.go:=by kernel_rfl
theorem go_step(k:Int):xget X (stepN k)=some Ext.go:=by
 unfold stepN
 repeat' split
 ·exact go123
 ·exact go124
 ·exact go125
 ·exact go126
 ·exact go127
section
variable {h h':Heap}{e:Nat}{G G':EG}{K:Value→Heap→Prop}{C:Nat→Nat→Prop}
theorem step79{c:Cal}(hK: ∀h',Only [] h h'→K (.func (.func (stepN c.kind)) #[ptrV e] #[]) h'):Cl 79 [ptrV e,calV c] h K:=by
 refine F79.spec _ _ _ _ _ _ _ _ h K ?_
 refine newK_at fun h1 A1 O1 z1=> ?_
 simp only[add_mk,Nat.zero_add]
 refine ldI_of (n:=c.kind) (by rw[At.rd A1];rfl) ?_
 have hK:=hK h1 O1
 obtain⟨k,ek⟩: ∃k,k=c.kind:=⟨_,rfl⟩
 rw[←ek]at hK ⊢
 unfold stepN at hK
 by_cases h1:k=1
 ·subst h1;exact hK
 by_cases h2:k=2
 ·subst h2;exact hK
 by_cases h4:k=4
 ·subst h4;exact hK
 by_cases h5:k=5
 ·subst h5;exact hK
 by_cases h6:k=6
 ·subst h6;exact hK
 by_cases h7:k=7
 ·subst h7;exact hK
 by_cases h8:k=8
 ·subst h8;exact hK
 rw[if_neg (by omega),if_neg (by omega),if_neg h7,if_neg h8]at hK
 simp only[eqz h1,eqz h2,eqz h4,eqz h5,eqz h6,eqz h7,eqz h8,bcase_false]
 exact hK
theorem workers27(W:EWd h e G)(hK:K (.int .i64 (G.P.ws.length:Int)) h):Cl 27 [ptrV e] h K:=by
 refine F27.spec _ h K ?_
 exact ldP_of (by rw[add_mk];exact W.I.p) (workers68 W.W.H (ldI_of rfl hK))
theorem pick26{who draw:Int}(W:EWd h e G)(hOut:(who<0∨(G.P.ws.length:Int)≤who∨ ¬anyP G.E)→ ∀h',Only [] h h'→K (.bool false) h')
  (Inv:Nat→Heap→EG→Prop) (h0: ∀h',Only [] h h'→Inv 0 h' G) (hO: ∀{i h1 G1 h2},Inv i h1 G1→Only [] h1 h2→Inv i h2 G1) (hW: ∀{i h1 G1},Inv i h1 G1→EWd h1 e G1)
  (hn: ∀{i h1 G1},i<4→Inv i h1 G1→(G1.E.ses i).pend=false→Inv (i+1) h1 G1)
  (hs: ∀{i h1 G1} {Q:Value→Heap→Prop},i<4→Inv i h1 G1→(G1.E.ses i).pend=true→(∀b h2 G2,Inv (i+1) h2 G2→Q (.bool b) h2)→Cl (stepN (G1.E.ses i).cal.kind) [ptrV e,sesP e i] h1 Q)
  (hE:0≤who→who<(G.P.ws.length:Int)→anyP G.E→ ∀h1 G1,Inv 4 h1 G1→F26.wk11 ⟨e,0,none⟩ who draw h1 K):
  Cl 26 [ptrV e,.int .i64 who,.int .i64 draw] h K:=by
 refine F26.spec _ _ _ h K ?_
 refine bcase_of (fun q=>hOut (.inl (of_decide_eq_true q)) h (Only.refl _ _)) fun q=> ?_
 have q:=of_decide_eq_false q
 refine workers27 W (ldI_of rfl (bcase_of (fun p=>hOut (.inr (.inl (of_decide_eq_true p))) h (Only.refl _ _)) fun p=> ?_))
 have p: ¬(G.P.ws.length:Int)≤who:=of_decide_eq_false p
 refine pending78 W.I (fun a h1 O1=>ldB_of rfl ?_) fun a h1 O1=>ldB_of rfl (hOut (.inr (.inr a)) h1 O1)
 rw[Bool.not_true,bcase_false]
 unfold F26.wk4
 have main: ∀(d i:Nat) (hh:Heap) (G1:EG),d+i=4→Inv i hh G1→F26.wL4 (d+1) ⟨e,0,none⟩ who draw (i:Int) hh K:=by
  intro d
  induction d with
  |zero=>
   intro i hh G1 hi I
   rw[F26.sL4]
   rw[decide_eq_false (by omega),bcase_false]
   have ei:i=4:=by omega
   subst ei
   exact hE (by omega) (by omega) a hh G1 I
  |succ d ih=>
   intro i hh G1 hi I
   rw[F26.sL4]
   rw[decide_eq_true (by omega),bcase_true]
   have hi4:i<4:=by omega
   have W1:=hW I
   simp only[add_mk]
   rw[show 0+3+Int.toNat (i:Int)*24=3+24*i by omega]
   have nx: ∀{h2 G2},Inv (i+1) h2 G2→F26.wL4 (d+1) ⟨e,0,none⟩ who draw (IntKind.wrap .i64 ((i:Int)+1)) h2 K:=fun {h2 G2} I2=>by
    rw[wr_s hi4]
    exact ih (i+1) h2 G2 (by omega) I2
   refine⟨by omega,by omega,ldB_of (W1.I.pend hi4 rfl) (bcase_of (fun pe=> ?_) fun pe=>nx (hn hi4 I pe))⟩
   refine ldI_of (W1.I.kind hi4 (by omega)) (ldI_of (W1.I.op hi4 (by omega)) (ldI_of (W1.I.dst hi4 (by omega)) (ldI_of (W1.I.ca hi4 (by omega)) (ldI_of (W1.I.cb hi4 (by omega)) (ldI_of (W1.I.cc hi4 (by omega)) (ldI_of (W1.I.mask hi4 (by omega)) ?_))))))
   refine step79 (c:=(G1.E.ses i).cal) fun h2 O2=>⟨_,rfl,?_⟩
   refine dynK_go (go_step _) ?_
   exact hs hi4 (hO I O2) pe fun b h3 G3 I3=>ldB_of rfl (nx I3)
 exact⟨_,main 4 0 h1 G (by omega) (h0 h1 O1)⟩
def PickR(w:Nat)(G G':EG):Prop:= ∃G1 N' P' L' k,Coll G G1∧PoolOk G1.n G1.fo G1.N G1.P∧G'={G1 with N:=N',P:=P',L:=L'}∧Picked G1.n G1.fo G1.room G1.N N' G1.P P'∧G1.P.ws[w]? =some k∧(phi G1.n N' P'+1≤phi G1.n G1.N G1.P∨(k.job=0∧k.q=[]∧WsEq G1.P.ws P'.ws))
theorem EWd.pool{N':List (Option Nd)}{P':PS}{L':List Nat}(W:EWd h e G)(W':Wld h' G.E.p G.E.s G.n G.room G.fo G.gg G.off N' P' L')(E:Ex G.N N')(S:Beside G.E.p G.P G.L h P' L' h'):
  EWd h' e {G with N:=N',P:=P',L:=L'}∧Eside e G h {G with N:=N',P:=P',L:=L'} h':=by
 have lt:=W.lt
 have O':=S.O (pbl G.E.p G.P++G.L) (fun b hb=>List.mem_append.2 (.inl (mem_pbl.2 hb))) fun b hb=>List.mem_append.2 (.inr hb)
 have spare: ∀{b},b∉G.L→ ¬PBl G.E.p G.P b→b∉pbl G.E.p G.P++G.L:=fun h1 h2 hm=>by
  rcases List.mem_append.1 hm with q|q
  ·exact h2 (mem_pbl.1 q)
  ·exact h1 q
 have nL: ∀{b},b∈ebl e G→b∉G.L→b∉L':=fun hb hn hm=>by
  rcases S.F _ hm with q|q
  ·exact hn q
  ·have:=lt _ hb;omega
 have nP: ∀{b},b∈ebl e G→ ¬PBl G.E.p G.P b→ ¬PBl G.E.p P' b:=fun hb hn hm=>by
  rcases S.B _ hm with q|q
  ·exact hn q
  ·have:=lt _ hb;omega
 have me:e∈ebl e G:=mem_ebl.2 (.inl rfl)
 have mB: ∀b∈G.B,b∈ebl e G:=fun b hb=>mem_ebl.2 (.inr (.inr (.inl hb)))
 refine⟨⟨W',W.R.only O' fun b hb hm=>(spare (W.dB b hm).1 (W.dB b hm).2) hb,W.I.only O' (spare W.de.1 W.de.2.1),W.C,⟨nL me W.de.1,nP me W.de.2.1,W.de.2.2⟩,fun b hb=>⟨nL (mB b hb) (W.dB b hb).1,nP (mB b hb) (W.dB b hb).2⟩,fun i hi r hr ht=>E.isN (W.rg i hi r hr ht),W.r0,W.mq,W.po⟩,⟨fun T hT=>S.O T (fun b hb=>hT b (mem_ebl.2 (.inr (.inr (.inr hb))))) fun b hb=>hT b (mem_ebl.2 (.inr (.inl hb))),fun b hb=> ?_⟩⟩
 rcases mem_ebl.1 hb with q|q|q|q
 ·exact .inl (mem_ebl.2 (.inl q))
 ·rcases S.F b q with q|q
  ·exact .inl (mem_ebl.2 (.inr (.inl q)))
  ·exact .inr q
 ·exact .inl (mem_ebl.2 (.inr (.inr (.inl q))))
 ·rcases S.B b q with q|q
  ·exact .inl (mem_ebl.2 (.inr (.inr (.inr q))))
  ·exact .inr q
theorem pick_end(mr:MRspec C)(W:EWd h e G)(hC:C (cntN G.N) G.room)(hM:G.M≤LB/1000){draw:Int}{w:Nat}(hw:w<G.P.ws.length)
  (hK: ∀h' G',EWd h' e G'→Eside e G h G' h'→PickR w G G'→K (.bool true) h'):F26.wk11 ⟨e,0,none⟩ (w:Int) draw h K:=by
 unfold F26.wk11
 refine mr W hC hM fun h1 G1 W1 C1 S1=>⟨rfl,?_⟩
 simp only[add_mk,Nat.zero_add]
 refine ldP_of W1.I.p ?_
 have hl:(G1.P.ws.length:Int)=(G.P.ws.length:Int):=by rw[C1.P]
 refine wld_pick W1.W (who:=(w:Int)) (fun q=>by omega) fun h2 L2 N2 P2 b w' k ew hk W2 Pk _ hph B2=>ldB_of rfl ?_
 have ew:w'=w:=by omega
 subst ew
 obtain⟨W3,S3⟩:=W1.pool W2 Pk.ex B2
 exact hK h2 _ W3 (S1.trans S3) ⟨G1,N2,P2,L2,k,C1,W1.W.Ok,rfl,Pk,hk,hph⟩
def VarR(i d:Nat)(G G':EG)(er:Int):Prop:= ∃G1 N2 L2 r er' f',Coll G G1∧MkRel G1.room G1.N (G1.gg (G.E.ses i).cal.mask) 0 1 N2 r er'∧er=(er':Int)∧G'=if er'=0 then setG (stoG G1 N2 L2) i d r f' else stoG G1 N2 L2
theorem e_variable(mr:MRspec C)(W:EWd h e G){i d:Nat}(hi:i<4)(hC:C (cntN G.N) G.room)(hM:G.M+2000≤LB/1000)(hv:(G.E.ses i).cal.mask<G.n)(hd:d<6)(ed:(G.E.ses i).cal.dst=(d:Int))
  (hK: ∀h' G' (er:Int),EWd h' e G'→Eside e G h G' h'→VarR i d G G' er→K (.int .i64 er) h'):Cl 165 [ptrV e,sesP e i] h K:=by
 have hLB:LB=140737488355328:=rfl
 refine F165.spec _ _ h K ?_
 refine mr W hC (by omega) fun h1 G1 W1 C1 S1=>⟨rfl,?_⟩
 simp only[add_mk,Nat.zero_add]
 have mq:=W.mq i hi
 refine ldP_of W1.I.s (ldI_of (n:=((G.E.ses i).cal.mask:Int)) (by rw[W1.I.mask hi (by omega),C1.E]) ?_)
 rw[wrap_i64 (by omega) (by omega)]
 have hv1:(G.E.ses i).cal.mask<G1.n:=by rw[C1.n];exact hv
 have pg:=(W1.po.1 _ hv1).1
 refine sto_var W1.W.S hv1 pg fun h2 L2 N2 r er R S2 O2 F2=>⟨_,_,rfl,?_⟩
 have R:MkRel G1.room G1.N (G1.gg (G.E.ses i).cal.mask) 0 1 N2 r er:=R
 obtain⟨E2,e2,-⟩:=mk_ex R
 obtain⟨W2,T2⟩:=W1.sto S2 E2 O2 F2
 rcases e2 with q|q
 ·subst q
  rw[show(((0:Nat):Int)==0)=true from rfl,bcase_true]
  have hr:isN N2 r:=by
   have e0:lvl G1.n G1.N 0=G1.n:=by unfold lvl;rw[if_pos (by omega)]
   exact(mk_node (f:=G1.fo) W1.W.S.ok.1 W2.W.S.ok.1 (a:=0) (b:=1) (.inl (by omega)) (.inl (by omega)) (show _<lvl G1.n G1.N 0 by rw[e0];exact pg) R).2.1
  have ed1:((stoG G1 N2 L2).E.ses i).cal.dst=(d:Int):=by show(G1.E.ses i).cal.dst=_;rw[C1.E];exact ed
  have hm1:(stoG G1 N2 L2).M+1≤LB:=by show G1.M+1≤LB;have:=C1.M.2;omega
  refine e_sets W2 hi hd ed1 hr hm1 fun h3 f3 W3 T3=>⟨rfl,hK h3 _ _ W3 ((S1.trans T2).trans T3) ⟨G1,N2,L2,r,0,f3,C1,R,rfl,by rw[if_pos rfl]⟩⟩
 ·subst q
  rw[show(((60:Nat):Int)==0)=false from rfl,bcase_false]
  exact hK h2 _ _ W2 (S1.trans T2) ⟨G1,N2,L2,r,60,G1.f,C1,R,rfl,by rw[if_neg (by omega)]⟩
end
end
section
namespace F42
def T:Hint:=⟨[(2,[0,3]),(5,[0,3,4]),(8,[0])],[]⟩
noncomputable def body:Code:=(Tryz.f42.body).getD .skip
noncomputable def en(S:Stop)(p:List Nat)(κ:XK):Fr→Heap→Prop:=E Tryz.prog X T S (sub body p) κ
noncomputable def ln(S:Stop)(p:List Nat)(κ:XK)(n:Nat):Fr→Heap→Prop:=loopN S (E Tryz.prog X T S (sub body p)) (cutQ T (sub body p)) κ n
def fn(K:KK):XK:=fin Tryz.prog Tryz.f42.results.toList K
noncomputable def c0(S:Stop)(K:KK):XK:=seqN S (cutQ T (sub body [1,1])) (en S [1,1] (fn K)) (fn K)
noncomputable def c1(S:Stop)(K:KK):XK:=blockN 0 (c0 S K)
noncomputable def c2(S:Stop)(n2:Nat)(K:KK):XK:=backN S (cutQ T (sub body [1,0,1,0,0])) (ln S [1,0,1,0,0] (c1 S K) n2) (c1 S K)
noncomputable def c3(S:Stop)(n2:Nat)(K:KK):XK:=seqN S (cutQ T (sub body [1,0,1,0,0,1,1])) (en S [1,0,1,0,0,1,1] (c2 S n2 K)) (c2 S n2 K)
noncomputable def c4(S:Stop)(n2:Nat)(K:KK):XK:=blockN 1 (c3 S n2 K)
noncomputable def c5(S:Stop)(n2:Nat)(K:KK):XK:=blockN 2 (c4 S n2 K)
noncomputable def c6(S:Stop)(n2:Nat)(n5:Nat)(K:KK):XK:=backN S (cutQ T (sub body [1,0,1,0,0,1,0,0,1,0,0])) (ln S [1,0,1,0,0,1,0,0,1,0,0] (c5 S n2 K) n5) (c5 S n2 K)
def f2(a:Addr)(b:Int):Fr:=[(0,(.pointer (some a))),(3,(.int .i64 b))]
def f5(a:Addr)(b c:Int):Fr:=[(0,(.pointer (some a))),(3,(.int .i64 b)),(4,(.int .i64 c))]
def f8(a:Addr):Fr:=[(0,(.pointer (some a)))]
def J0(k2:Addr→Int→Heap→Prop)(a:Addr)(h:Heap)(_K:KK):Prop:=
 k2 a (0:Int) h
theorem E0(S:Stop)(a:Addr)(h:Heap)(K:KK):(E Tryz.prog X T S body (fin Tryz.prog Tryz.f42.results.toList K) (args0 0 [(.pointer (some a))]) h)=J0 (fun a b h=>S (en S [1,0,1] (c0 S K)) (f2 a b) h) a h K:=by kernel_rfl
def Jk2(lp2:Addr→Int→Heap→Prop)(a:Addr)(b:Int)(h:Heap)(_K:KK):Prop:=
 lp2 a b h
theorem Ek2(S:Stop)(a:Addr)(b:Int)(h:Heap)(K:KK):(en S [1,0,1] (c0 S K) (f2 a b) h)=Jk2 (fun a b h=> ∃n,S (ln S [1,0,1,0,0] (c1 S K) n) (f2 a b) h) a b h K:=by kernel_rfl
def JL2(k5:Addr→Int→Int→Heap→Prop)(k8:Addr→Heap→Prop)(a:Addr)(b:Int)(h:Heap)(_K:KK):Prop:=
 bcase (decide (b<(1048576:Int))) (Cl 99 [(.pointer (some a))] h (fun v1 h2=>ldB (some v1) (fun b3=>bcase b3 (k5 a b (0:Int) h2) (k8 a h2)))) (k8 a h)
theorem EL2(S:Stop)(n2:Nat)(a:Addr)(b:Int)(h:Heap)(K:KK):(en S [1,0,1,0,0] (c2 S n2 K) (f2 a b) h)=JL2 (fun a b c h=>S (en S [1,0,1,0,0,1,0,0,1] (c4 S n2 K)) (f5 a b c) h) (fun a h=>S (en S [1,1] (fn K)) (f8 a) h) a b h K:=by kernel_rfl
def Jk5(lp5:Addr→Int→Int→Heap→Prop)(a:Addr)(b c:Int)(h:Heap)(_K:KK):Prop:=
 lp5 a b c h
theorem Ek5(S:Stop)(n2:Nat)(a:Addr)(b c:Int)(h:Heap)(K:KK):(en S [1,0,1,0,0,1,0,0,1] (c4 S n2 K) (f5 a b c) h)=Jk5 (fun a b c h=> ∃n,S (ln S [1,0,1,0,0,1,0,0,1,0,0] (c5 S n2 K) n) (f5 a b c) h) a b c h K:=by kernel_rfl
def JL5(bk5:Addr→Int→Int→Heap→Prop)(bk2:Addr→Int→Heap→Prop)(a:Addr)(b c:Int)(h:Heap)(_K:KK):Prop:=
 Cl 27 [(.pointer (some a))] h (fun v1 h2=>ldI .i64 (some v1) (fun n3=>bcase (decide (c<n3)) (Cl 26 [(.pointer (some a)),(.int .i64 c),(.int .i64 b)] h2 (fun v4 h5=>ldB (some v4) (fun _=>bk5 a b (IntKind.wrap .i64 (c+(1:Int))) h5))) (bk2 a (IntKind.wrap .i64 (b+(1:Int))) h2)))
theorem EL5(S:Stop)(n2:Nat)(n5:Nat)(a:Addr)(b c:Int)(h:Heap)(K:KK):(en S [1,0,1,0,0,1,0,0,1,0,0] (c6 S n2 n5 K) (f5 a b c) h)=JL5 (fun a b c h=>S (ln S [1,0,1,0,0,1,0,0,1,0,0] (c5 S n2 K) n5) (f5 a b c) h) (fun a b h=>S (ln S [1,0,1,0,0] (c1 S K) n2) (f2 a b) h) a b c h K:=by kernel_rfl
def Jk8(a:Addr)(h:Heap)(K:KK):Prop:=
 Cl 99 [(.pointer (some a))] h (fun v1 h2=>ldB (some v1) (fun b3=>K (.bool (!b3)) h2))
theorem Ek8(S:Stop)(a:Addr)(h:Heap)(K:KK):(en S [1,1] (fn K) (f8 a) h)=Jk8 a h K:=by kernel_rfl
def wL5(bk2:Addr→Int→Heap→Prop):Nat→Addr→Int→Int→Heap→KK→Prop
 |0,_,_,_,_,_=>False
 |n+1,a,b,c,h,K=>JL5 (fun a b c h=>wL5 bk2 n a b c h K) bk2 a b c h K
theorem eL5(K:KK)(n2:Nat)(bk2:Addr→Int→Heap→Prop)(hb2: ∀(a:Addr) (b:Int) (h:Heap),(ln S0 [1,0,1,0,0] (c1 S0 K) n2 (f2 a b) h)=bk2 a b h): ∀(n:Nat) (a:Addr) (b c:Int) (h:Heap),(ln S0 [1,0,1,0,0,1,0,0,1,0,0] (c5 S0 n2 K) n (f5 a b c) h)=wL5 bk2 n a b c h K
 |0,_,_,_,_=>rfl
 |n+1,a,b,c,h=>(EL5 S0 n2 n a b c h K).trans (cg2 (fun q0 q1=>JL5 q0 q1 a b c h K) (by funext a b c h;exact(fun a b c h=>eL5 K n2 bk2 hb2 n a b c h) a b c h) (by funext a b h;exact hb2 a b h))
def wk5(bk2:Addr→Int→Heap→Prop)(a:Addr)(b c:Int)(h:Heap)(K:KK):Prop:=
 Jk5 (fun a b c h=> ∃m,wL5 bk2 m a b c h K) a b c h K
theorem ek5(K:KK)(n2:Nat)(bk2:Addr→Int→Heap→Prop)(hb2: ∀(a:Addr) (b:Int) (h:Heap),(ln S0 [1,0,1,0,0] (c1 S0 K) n2 (f2 a b) h)=bk2 a b h)(a:Addr)(b c:Int)(h:Heap):(en S0 [1,0,1,0,0,1,0,0,1] (c4 S0 n2 K) (f5 a b c) h)=wk5 bk2 a b c h K:=(Ek5 S0 n2 a b c h K).trans (cg1 (fun q0=>Jk5 q0 a b c h K) (by funext a b c h;exact ex_congr fun m=>eL5 K n2 bk2 hb2 m a b c h))
def wk8(a:Addr)(h:Heap)(K:KK):Prop:=
 Jk8 a h K
theorem ek8(K:KK)(a:Addr)(h:Heap):(en S0 [1,1] (fn K) (f8 a) h)=wk8 a h K:=(Ek8 S0 a h K).trans (rfl)
def wL2:Nat→Addr→Int→Heap→KK→Prop
 |0,_,_,_,_=>False
 |n+1,a,b,h,K=>JL2 (fun a b c h=>wk5 (fun a b h=>wL2 n a b h K) a b c h K) (fun a h=>wk8 a h K) a b h K
theorem eL2(K:KK): ∀(n:Nat) (a:Addr) (b:Int) (h:Heap),(ln S0 [1,0,1,0,0] (c1 S0 K) n (f2 a b) h)=wL2 n a b h K
 |0,_,_,_=>rfl
 |n+1,a,b,h=>(EL2 S0 n a b h K).trans (cg2 (fun q0 q1=>JL2 q0 q1 a b h K) (by funext a b c h;exact ek5 K n (fun a b h=>wL2 n a b h K) (fun a b h=>eL2 K n a b h) a b c h) (by funext a h;exact ek8 K a h))
def wk2(a:Addr)(b:Int)(h:Heap)(K:KK):Prop:=
 Jk2 (fun a b h=> ∃m,wL2 m a b h K) a b h K
theorem ek2(K:KK)(a:Addr)(b:Int)(h:Heap):(en S0 [1,0,1] (c0 S0 K) (f2 a b) h)=wk2 a b h K:=(Ek2 S0 a b h K).trans (cg1 (fun q0=>Jk2 q0 a b h K) (by funext a b h;exact ex_congr fun m=>eL2 K m a b h))
def w(a:Addr)(h:Heap)(K:KK):Prop:=
 J0 (fun a b h=>wk2 a b h K) a h K
theorem e0(K:KK)(a:Addr)(h:Heap):(E Tryz.prog X T S0 body (fin Tryz.prog Tryz.f42.results.toList K) (args0 0 [(.pointer (some a))]) h)=w a h K:=(E0 S0 a h K).trans (cg1 (fun q0=>J0 q0 a h K) (by funext a b h;exact ek2 K a b h))
theorem hb:Tryz.f42.body=some body:=by kernel_rfl
theorem ok:okCode T Tryz.f42.ntmps body=true:=by kernel_rfl
theorem spec(a:Addr)(h:Heap)(K:KK)(H:w a h K):Cl 42 [(.pointer (some a))] h K:=
 calls_of_E (T:=T) Xok mix Tryz.func42 hb ok rfl (by rw[e0];exact H)
end F42
def F99.T:Hint:=⟨[(2,[0,3])],[]⟩
section
variable (n:Nat)(a:Addr)(b:Int)(h:Heap)(K:KK)
def F99.wL2:Prop:=Lp Tryz.f99 F99.T [1,0,1,0] n [(0,(.pointer (some a))),(3,(.int .i64 b))] h K
theorem F99.sL2:F99.wL2 (n+1) a b h K=(bcase (decide (b<(4:Int))) (Cl 56 [.pointer (some a),.int .i64 b] h fun v1 h2=>ldB (some v1) fun b3=>bcase b3 (K (.bool true) h2) (F99.wL2 n a (IntKind.wrap .i64 (b+(1:Int))) h2 K)) (K (.bool false) h)):=by kernel_rfl
def F99.wk2:Prop:=(∃m,F99.wL2 m a b h K)
theorem F99.spec(H:F99.wk2 a (0:Int) h K):Cl 99 [.pointer (some a)] h K:=cT F99.T Tryz.func99 H
end
theorem F53.spec(j:Addr)(l a b c d f g i:Int)(h:Heap)(K:KK)(H:newK h (.cells #[.int .i64 a,.int .i64 b,.int .i64 c,.int .i64 d,.int .i64 f,.int .i64 g,.int .u8 i] 41) fun b1 h2=>newK h2 (.cells #[.int .i64 0,.int .u64 0] 76) fun b3 h4=>ldI .i64 (rd h4 ((Addr.mk b1 0 none).add 0)) fun n5=>ldI .i64 (rd h4 ((Addr.mk b1 0 none).add 1)) fun n6=>ldI .i64 (rd h4 ((Addr.mk b1 0 none).add 2)) fun n7=>ldI .i64 (rd h4 ((Addr.mk b1 0 none).add 3)) fun n8=>ldI .i64 (rd h4 ((Addr.mk b1 0 none).add 4)) fun n9=>ldI .i64 (rd h4 ((Addr.mk b1 0 none).add 5)) fun n10=>ldI .u8 (rd h4 ((Addr.mk b1 0 none).add 6)) fun n11=>Cl 24 [.pointer (some j),.int .i64 l,.agg #[.int .i64 n5,.int .i64 n6,.int .i64 n7,.int .i64 n8,.int .i64 n9,.int .i64 n10,.int .u8 n11]] h4 fun v12 h13=>ldI .i64 (some v12) fun n14=>bcase (n14 !=(0:Int)) (stK h13 ((Addr.mk b3 0 none).add 0) (.int .i64 0) fun h15=>stK h15 ((Addr.mk b3 0 none).add 1) (.int .u64 0) fun h16=>ldI .i64 (rd h16 ((Addr.mk b3 0 none).add 0)) fun n17=>ldI .u64 (rd h16 ((Addr.mk b3 0 none).add 1)) fun n18=>K (.tuple #[.agg #[.int .i64 n17,.int .u64 n18],.bool false]) h16) (Cl 42 [.pointer (some j)] h13 fun v19 h20=>ldB (some v19) fun b21=>bcase (!b21) (stK h20 ((Addr.mk b3 0 none).add 0) (.int .i64 0) fun h22=>stK h22 ((Addr.mk b3 0 none).add 1) (.int .u64 0) fun h23=>ldI .i64 (rd h23 ((Addr.mk b3 0 none).add 0)) fun n24=>ldI .u64 (rd h23 ((Addr.mk b3 0 none).add 1)) fun n25=>K (.tuple #[.agg #[.int .i64 n24,.int .u64 n25],.bool false]) h23) (Cl 43 [.pointer (some j),.int .i64 l] h20 fun v26 h27=> ∃n28:Int,∃n29:Int,∃b30:Bool,v26=(.tuple #[.agg #[.int .i64 n28,.int .u64 n29],.bool b30])∧stK h27 ((Addr.mk b3 0 none).add 0) (.int .i64 n28) fun h31=>stK h31 ((Addr.mk b3 0 none).add 1) (.int .u64 n29) fun h32=>ldI .i64 (rd h32 ((Addr.mk b3 0 none).add 0)) fun n33=>ldI .u64 (rd h32 ((Addr.mk b3 0 none).add 1)) fun n34=>K (.tuple #[.agg #[.int .i64 n33,.int .u64 n34],.bool b30]) h32))):Cl 53 [.pointer (some j),.int .i64 l,.agg #[.int .i64 a,.int .i64 b,.int .i64 c,.int .i64 d,.int .i64 f,.int .i64 g,.int .u8 i]] h K:=cN Tryz.func53 H
def F55.T:Hint:=⟨[(2,[0,1,2,7]),(7,[0,1,2]),(8,[0,1,2,10])],[]⟩
section
variable (n:Nat)(f:Addr)(g:Int)(b:Option Addr)(a c:Nat)(i d:Int)(h:Heap)(K:KK)
def F55.wL8:Prop:=Lp Tryz.f55 F55.T [1,1,0,1,0] n [(0,(.pointer (some f))),(1,(.int .i64 g)),(2,(.slice b a c)),(10,(.int .i64 d))] h K
theorem F55.sL8:F55.wL8 (n+1) f g b a c d h K=(bcase (decide (d<(Nat.cast a:Int))) (ptrK b fun a1=>0≤d∧d<(Nat.cast a:Int)∧ldI .u8 (rd h (a1.add (Int.toNat d*1))) fun n2=>((3:Int)≠0∧((3:Int)≠0∧((4:Int)≠0∧((12:Int)≠0∧((4:Int)≠0∧((48:Int)≠0∧((4:Int)≠0∧Cl 53 [.pointer (some f),.int .i64 g,.agg #[.int .i64 3,.int .i64 (IntKind.wrap .i64 ((2:Int)+(IntKind.wrap .i64 (Int.tmod n2 (3:Int))))),.int .i64 (IntKind.wrap .i64 (Int.tmod (IntKind.wrap .u8 (Int.tdiv n2 (3:Int))) (4:Int))),.int .i64 (IntKind.wrap .i64 (Int.tmod (IntKind.wrap .u8 (Int.tdiv n2 (12:Int))) (4:Int))),.int .i64 (IntKind.wrap .i64 (Int.tmod (IntKind.wrap .u8 (Int.tdiv n2 (48:Int))) (4:Int))),.int .i64 0,.int .u8 0]] h fun v3 h4=> ∃n5:Int,∃n6:Int,∃b7:Bool,v3=(.tuple #[.agg #[.int .i64 n5,.int .u64 n6],.bool b7])∧newK h4 (.cells #[.int .i64 0,.int .u64 0] 76) fun b8 h9=>stK h9 ((Addr.mk b8 0 none).add 0) (.int .i64 n5) fun h10=>stK h10 ((Addr.mk b8 0 none).add 1) (.int .u64 n6) fun h11=>bcase (!b7) (K (.bool false) h11) (ldI .i64 (rd h11 ((Addr.mk b8 0 none).add 0)) fun n12=>bcase (n12 !=(0:Int)) (K (.bool false) h11) (F55.wL8 n f g b a c (IntKind.wrap .i64 (d+(1:Int))) h11 K)))))))))) (K (.bool true) h)):=by kernel_rfl
def F55.wk8:Prop:=(∃m,F55.wL8 m f g b a c d h K)
def F55.wk7:Prop:=F55.wk8 f g b a c (0:Int) h K
def F55.wL2:Prop:=Lp Tryz.f55 F55.T [1,0,1,0] n [(0,(.pointer (some f))),(1,(.int .i64 g)),(2,(.slice b a c)),(7,(.int .i64 i))] h K
theorem F55.sL2:F55.wL2 (n+1) f g b a c i h K=(bcase (decide (i<(4:Int))) (Cl 53 [.pointer (some f),.int .i64 g,.agg #[.int .i64 1,.int .i64 0,.int .i64 i,.int .i64 0,.int .i64 0,.int .i64 0,.int .u8 (IntKind.wrap .u8 i)]] h fun v1 h2=> ∃n3:Int,∃n4:Int,∃b5:Bool,v1=(.tuple #[.agg #[.int .i64 n3,.int .u64 n4],.bool b5])∧newK h2 (.cells #[.int .i64 0,.int .u64 0] 76) fun b6 h7=>stK h7 ((Addr.mk b6 0 none).add 0) (.int .i64 n3) fun h8=>stK h8 ((Addr.mk b6 0 none).add 1) (.int .u64 n4) fun h9=>bcase (!b5) (K (.bool false) h9) (ldI .i64 (rd h9 ((Addr.mk b6 0 none).add 0)) fun n10=>bcase (n10 !=(0:Int)) (K (.bool false) h9) (F55.wL2 n f g b a c (IntKind.wrap .i64 (i+(1:Int))) h9 K))) (F55.wk7 f g b a c h K)):=by kernel_rfl
def F55.wk2:Prop:=(∃m,F55.wL2 m f g b a c i h K)
theorem F55.spec(H:F55.wk2 f g b a c (0:Int) h K):Cl 55 [.pointer (some f),.int .i64 g,.slice b a c] h K:=cT F55.T Tryz.func55 H
end
theorem F40.spec(h:Heap)(K:KK)(H:Cl 18 [.int .i64 4,.int .i64 16400,.int .i64 2] h fun v1 h2=> ∃p3:Option Addr,∃n4:Int,v1=(.tuple #[.pointer p3,.int .i64 n4])∧Cl 18 [.int .i64 9,.int .i64 100,.int .i64 2] h2 fun v5 h6=> ∃p7:Option Addr,∃n8:Int,v5=(.tuple #[.pointer p7,.int .i64 n8])∧bcase (n4 !=(0:Int)) (K (.bool false) h6) (bcase (Option.isNone p3) (K (.bool false) h6) (bcase (n8 !=(40:Int)) (K (.bool false) h6) (Cl 27 [.pointer p3] h6 fun v9 h10=>ldI .i64 (some v9) fun n11=>bcase (n11 !=(2:Int)) (K (.bool false) h10) (Cl 24 [.pointer p3,.int .i64 0,.agg #[.int .i64 1,.int .i64 0,.int .i64 1,.int .i64 0,.int .i64 0,.int .i64 0,.int .u8 2]] h10 fun v12 h13=>ldI .i64 (some v12) fun n14=>Cl 24 [.pointer p3,.int .i64 0,.agg #[.int .i64 6,.int .i64 0,.int .i64 0,.int .i64 0,.int .i64 0,.int .i64 0,.int .u8 0]] h13 fun v15 h16=>ldI .i64 (some v15) fun n17=>Cl 24 [.pointer p3,.int .i64 1,.agg #[.int .i64 4,.int .i64 0,.int .i64 0,.int .i64 0,.int .i64 0,.int .i64 0,.int .u8 0]] h16 fun v18 h19=>ldI .i64 (some v18) fun n20=>bcase (n14 !=(0:Int)) (K (.bool false) h19) (bcase (n17 !=(220:Int)) (K (.bool false) h19) (bcase (n20 !=(221:Int)) (K (.bool false) h19) (Cl 56 [.pointer p3,.int .i64 0] h19 fun v21 h22=>ldB (some v21) fun b23=>bcase (!b23) (K (.bool false) h22) (Cl 42 [.pointer p3] h22 fun v24 h25=>ldB (some v24) fun b26=>bcase (!b26) (K (.bool false) h25) (Cl 43 [.pointer p3,.int .i64 0] h25 fun v27 h28=> ∃n29:Int,∃n30:Int,∃b31:Bool,v27=(.tuple #[.agg #[.int .i64 n29,.int .u64 n30],.bool b31])∧newK h28 (.cells #[.int .i64 0,.int .u64 0] 76) fun b32 h33=>stK h33 ((Addr.mk b32 0 none).add 0) (.int .i64 n29) fun h34=>stK h34 ((Addr.mk b32 0 none).add 1) (.int .u64 n30) fun h35=>Cl 28 [.pointer p3,.int .i64 0,.int .i64 1] h35 fun v36 h37=> ∃n38:Int,∃b39:Bool,v36=(.tuple #[.int .u32 n38,.bool b39])∧bcase b31 (ldI .i64 (rd h37 ((Addr.mk b32 0 none).add 0)) fun n40=>bcase (n40==(0:Int)) (bcase b39 (Cl 23 [.pointer p3] h37 fun v41 h42=>ldP (some v41) fun p43=>Cl 33 [.int .i64 2] h42 fun v44 h45=> ∃n46:Int,∃n47:Int,∃n48:Int,∃n49:Int,v44=(.agg #[.int .u64 n46,.int .u64 n47,.int .u64 n48,.int .u64 n49])∧Cl 58 [.pointer p43,.int .u32 n38,.agg #[.int .u64 n46,.int .u64 n47,.int .u64 n48,.int .u64 n49]] h45 fun v50 h51=>ldB (some v50) fun b52=>bcase b52 (Cl 54 [.pointer p3] h51 fun v53 h54=>ldI .i64 (some v53) fun n55=>K (.bool (n55==(1:Int))) h54) (K (.bool false) h51)) (K (.bool false) h37)) (K (.bool false) h37)) (K (.bool false) h37))))))))))):Cl 40 [] h K:=cN Tryz.func40 H
end
section
theorem refu2_zero{n:Nat}{c:Cal}(h:refu2 n c=0):(c.kind=3→takesZ c.op≠0)∧(c.kind=1→c.mask<n)∧(c.kind=3→c.op=8→c.mask<n)∧(c.kind=3→(c.op=6∨c.op=7)→c.mask/2^n=0):=by
 unfold refu2 at h
 split at h
 ·cases h
 ·rename_i a
  split at h
  ·cases h
  ·rename_i b
   split at h
   ·cases h
   ·rename_i d
    refine⟨fun k t=>a ⟨k,t⟩,fun k=> ?_,fun k o=> ?_,fun k o=> ?_⟩
    ·exact Nat.lt_of_not_le fun q=>b ⟨.inl k,q⟩
    ·exact Nat.lt_of_not_le fun q=>b ⟨.inr ⟨k,o⟩,q⟩
    ·exact Classical.byContradiction fun q=>d ⟨k,o,q⟩
theorem refu_zero{n:Nat}{x:Ses}{c:Cal}(h:refu n x c=0):(1≤c.kind∧c.kind≤8)∧(wrK c.kind→isR c.dst)∧rdsOk x c∧refu2 n c=0:=by
 unfold refu at h
 split at h
 ·cases h
 ·rename_i a
  split at h
  ·cases h
  ·rename_i b
   split at h
   ·cases h
   ·rename_i d
    exact⟨Classical.not_not.1 a,fun w=>Classical.byContradiction fun q=>b ⟨w,q⟩,Classical.not_not.1 d,h⟩
section
variable {h h':Heap}{e:Nat}{G G':EG}{K:Value→Heap→Prop}{C:Nat→Nat→Prop}
def clrG(G:EG)(i d:Nat)(f':Int→Int):EG:={G with E:=G.E.put i (clrS (G.E.ses i) d),M:=G.M+1,f:=f'}
theorem e_clears{i d:Nat}(W:EWd h e G)(hi:i<4)(hd:d<6)(ed:(G.E.ses i).cal.dst=(d:Int))(hM:G.M≤LB)
  (hK: ∀h' f',EWd h' e (clrG G i d f')→Eside e G h (clrG G i d f') h'→K (.tuple #[]) h'):Cl 166 [ptrV e,sesP e i] h K:=by
 refine clears166 W.I W.R W.de.2.2 hi hd ed hM fun h' I' R' O'=> ?_
 have C':=cnr_clr W.C hi hd
 have hS: ∀b∈e::G.B,b∉G.L∧ ¬PBl G.E.p G.P b:=fun b hb=>by
  rcases List.mem_cons.1 hb with q|q
  ·subst q;exact⟨W.de.1,W.de.2.1⟩
  ·exact W.dB b q
 refine hK h' _ ⟨W.W.only O' (fun b hb=>(hS b hb).1) (fun b hb=>(hS b hb).2),R',I',C',W.de,W.dB,fun k hk r hr ht=> ?_,fun k hk r hr ht=> ?_,fun k hk=> ?_,W.po⟩ (Eside.some O' (fun b hb=> ?_) fun b hb=>hb)
 ·have ht:((G.E.put i (clrS (G.E.ses i) d)).ses k).there r=true:=ht
  show isN G.N (((G.E.put i (clrS (G.E.ses i) d)).ses k).hnd r)
  rw[ses_put]at ht ⊢
  by_cases q:k=i
  ·rw[if_pos q]at ht ⊢
   by_cases w:r=d
   ·subst w
    rw[show(clrS (G.E.ses i) r).there r=false from upN_eq]at ht
    cases ht
   ·rw[show(clrS (G.E.ses i) d).hnd r=(G.E.ses i).hnd r from upN_ne w]
    rw[show(clrS (G.E.ses i) d).there r=(G.E.ses i).there r from upN_ne w]at ht
    exact W.rg i hi r hr ht
  ·rw[if_neg q]at ht ⊢
   exact W.rg k hk r hr ht
 ·have ht:((G.E.put i (clrS (G.E.ses i) d)).ses k).there r=false:=ht
  show((G.E.put i (clrS (G.E.ses i) d)).ses k).hnd r=0
  rw[ses_put]at ht ⊢
  by_cases q:k=i
  ·rw[if_pos q]at ht ⊢
   by_cases w:r=d
   ·subst w
    exact upN_eq
   ·rw[show(clrS (G.E.ses i) d).hnd r=(G.E.ses i).hnd r from upN_ne w]
    rw[show(clrS (G.E.ses i) d).there r=(G.E.ses i).there r from upN_ne w]at ht
    exact W.r0 i hi r hr ht
  ·rw[if_neg q]at ht ⊢
   exact W.r0 k hk r hr ht
 ·show((G.E.put i (clrS (G.E.ses i) d)).ses k).cal.mask<256
  rw[ses_put]
  by_cases q:k=i
  ·rw[if_pos q];exact W.mq i hi
  ·rw[if_neg q];exact W.mq k hk
 ·rcases List.mem_cons.1 hb with q|q
  ·subst q;exact mem_ebl.2 (.inl rfl)
  ·exact mem_ebl.2 (.inr (.inr (.inl q)))
def LayR(i:Nat)(G G':EG):Prop:= ∃d:Nat,d<6∧(G.E.ses i).cal.dst=(d:Int)∧
 (((G.E.ses i).cal.kind=1∧ ∃G1 er,VarR i d G G1 er∧G'=ansG G1 i er 0)∨
  ((G.E.ses i).cal.kind=2∧ ∃f',G'=ansG (setG G i d (min 1 (G.E.ses i).cal.mask) f') i 0 0)∨
  ((G.E.ses i).cal.kind=6∧ ∃f',G'=ansG (clrG G i d f') i 0 0))
theorem VarR.ans{i d:Nat}{er:Int}(R:VarR i d G G' er):G'.E.ans=G.E.ans:=by
 obtain⟨G1,N2,L2,r,e',f',C1,-,-,e⟩:=R
 subst e
 have:G1.E.ans=G.E.ans:=by rw[C1.E]
 split
 ·exact this
 ·exact this
theorem e_lays(mr:MRspec C)(W:EWd h e G){i:Nat}(hi:i<4)(hC:C (cntN G.N) G.room)(hM:G.M+2000≤LB/1000)(ha:G.E.ans<1000000000)(hk:(G.E.ses i).cal.kind=1∨(G.E.ses i).cal.kind=2∨(G.E.ses i).cal.kind=6)(hr:refu G.n (G.E.ses i) (G.E.ses i).cal=0)
  (hK: ∀h' G',EWd h' e G'→Eside e G h G' h'→LayR i G G'→K (.bool true) h'):Cl 123 [ptrV e,sesP e i] h K:=by
 have hLB:LB=140737488355328:=rfl
 obtain⟨-,z2,-,z4⟩:=refu_zero hr
 obtain⟨-,z5,-,-⟩:=refu2_zero z4
 have hd:=z2 (by unfold wrK;omega)
 obtain⟨d,ed⟩: ∃d:Nat,(G.E.ses i).cal.dst=(d:Int):=⟨(G.E.ses i).cal.dst.toNat,by unfold isR at hd;omega⟩
 have d6:d<6:=by unfold isR at hd;omega
 refine F123.spec _ _ h K ?_
 simp only[add_mk,Nat.zero_add]
 refine ldI_of (W.I.kind hi (by omega)) ?_
 rcases hk with k|k|k
 ·rw[k,show((1:Int)==1)=true from rfl,bcase_true]
  refine e_variable mr W hi hC hM (z5 k) d6 ed fun h1 G1 er W1 S1 V=>ldI_of rfl ?_
  unfold F123.wk8
  refine e_answers (n:=0) W1 hi (by rw[V.ans];exact ha) fun h2 W2 S2=>⟨rfl,?_⟩
  exact hK h2 _ W2 (S1.trans S2) ⟨d,d6,ed,.inl ⟨k,G1,er,V,rfl⟩⟩
 ·rw[k,show((2:Int)==1)=false from rfl,bcase_false,show((2:Int)==6)=false from rfl,bcase_false]
  have mq:=W.mq i hi
  refine ldI_of (W.I.mask hi (by omega)) ?_
  have em:(IntKind.wrap .u32 (if(1:Int)<((G.E.ses i).cal.mask:Int)then(1:Int)else((G.E.ses i).cal.mask:Int)))=((min 1 (G.E.ses i).cal.mask:Nat):Int):=by
   by_cases q:1<(G.E.ses i).cal.mask
   ·rw[if_pos (by omega),show min 1 (G.E.ses i).cal.mask=1 by omega];rfl
   ·rw[if_neg (by omega),show min 1 (G.E.ses i).cal.mask=(G.E.ses i).cal.mask by omega]
    exact wrap32 (by omega)
  rw[em]
  refine e_sets W hi d6 ed (.inl (by omega)) (by omega) fun h1 f1 W1 S1=>⟨rfl,?_⟩
  unfold F123.wk8
  refine e_answers (n:=0) W1 hi ha fun h2 W2 S2=>⟨rfl,?_⟩
  exact hK h2 _ W2 (S1.trans S2) ⟨d,d6,ed,.inr (.inl ⟨k,f1,rfl⟩)⟩
 ·rw[k,show((6:Int)==1)=false from rfl,bcase_false,show((6:Int)==6)=true from rfl,bcase_true]
  refine e_clears W hi d6 ed (by omega) fun h1 f1 W1 S1=>⟨rfl,?_⟩
  unfold F123.wk8
  refine e_answers (n:=0) W1 hi ha fun h2 W2 S2=>⟨rfl,?_⟩
  exact hK h2 _ W2 (S1.trans S2) ⟨d,d6,ed,.inr (.inr ⟨k,f1,rfl⟩)⟩
theorem pending99(W:EWd h e G)(hT:anyP G.E→K (.bool true) h)(hF: ¬anyP G.E→K (.bool false) h):Cl 99 [ptrV e] h K:=by
 refine F99.spec _ h K ?_
 unfold F99.wk2
 have main: ∀(d k:Nat),d+k=4→(∀j,j<k→(G.E.ses j).pend=false)→F99.wL2 (d+1) ⟨e,0,none⟩ (k:Int) h K:=by
  intro d
  induction d with
  |zero=>
   intro k hk hb
   rw[F99.sL2]
   rw[decide_eq_false (by omega),bcase_false]
   refine hF fun⟨j,hj,hp⟩=> ?_
   rw[hb j (by omega)]at hp
   cases hp
  |succ d ih=>
   intro k hk hb
   rw[F99.sL2]
   rw[decide_eq_true (by omega),bcase_true]
   refine pending56 W.I (fun q=>by omega) fun k' hk' ek=>ldB_of rfl (bcase_of (fun p=> ?_) fun p=> ?_)
   ·exact hT ⟨k',hk',p⟩
   ·rw[wr_s (by omega)]
    refine ih (k+1) (by omega) fun j hj=> ?_
    by_cases q:j=k
    ·rw[q,show k=k' by omega];exact p
    ·exact hb j (by omega)
 exact⟨_,main 4 0 (by omega) fun j hj=>by omega⟩
theorem fair42{m:Nat}(Inv:Nat→Heap→EG→Prop)(J:Nat→Nat→Heap→EG→Prop)(nw:Nat)(hnw:nw≤4)(h0:Inv m h G)(hm:m<1048576)
  (hW: ∀{m h1 G1},Inv m h1 G1→EWd h1 e G1) (hJ: ∀{m w h1 G1},J m w h1 G1→EWd h1 e G1∧G1.P.ws.length=nw)
  (hS: ∀{m h1 G1},Inv m h1 G1→anyP G1.E→J m 0 h1 G1)
  (hP: ∀{m w h1 G1} {Q:Value→Heap→Prop} {draw:Int},w<nw→J m w h1 G1→(∀b h2 G2,J m (w+1) h2 G2→Q (.bool b) h2)→Cl 26 [ptrV e,.int .i64 (w:Int),.int .i64 draw] h1 Q)
  (hE: ∀{m h1 G1},J m nw h1 G1→ ∃m',m'<m∧Inv m' h1 G1)
  (hK: ∀m' h1 G1,m'≤m→Inv m' h1 G1→ ¬anyP G1.E→K (.bool true) h1):Cl 42 [ptrV e] h K:=by
 refine F42.spec _ h K ?_
 unfold F42.w F42.J0 F42.wk2 F42.Jk2
 have main: ∀(d i m':Nat) (xi:Int) (h1:Heap) (G1:EG),xi=(i:Int)→d+i=m+1→m'+i≤m→Inv m' h1 G1→F42.wL2 (d+1) ⟨e,0,none⟩ xi h1 K:=by
  intro d
  induction d with
  |zero=>intro i m' xi h1 G1 exi hi hm';omega
  |succ d ih=>
   intro i m' xi h1 G1 exi hi hm' I
   unfold F42.wL2 F42.JL2
   rw[decide_eq_true (by omega),bcase_true]
   refine pending99 (hW I) (fun a=>ldB_of rfl ?_) fun a=>ldB_of rfl ?_
   ·rw[bcase_true]
    unfold F42.wk5 F42.Jk5
    have inner: ∀(d2 w:Nat) (h2:Heap) (G2:EG),d2+w=nw→J m' w h2 G2→F42.wL5 (fun x0 x3 h=>F42.wL2 (d+1) x0 x3 h K) (d2+1) ⟨e,0,none⟩ xi (w:Int) h2 K:=by
     intro d2
     induction d2 with
     |zero=>
      intro w h2 G2 hw I2
      unfold F42.wL5 F42.JL5
      obtain⟨W2,wl⟩:=hJ I2
      refine workers27 W2 (ldI_of rfl ?_)
      rw[decide_eq_false (by omega),bcase_false]
      have ew:w=nw:=by omega
      subst ew
      obtain⟨m2,lt,I3⟩:=hE I2
      exact ih (i+1) m2 _ h2 G2 (by rw[exi,wrap_i64 (by omega) (by omega)];omega) (by omega) (by omega) I3
     |succ d2 ih2=>
      intro w h2 G2 hw I2
      unfold F42.wL5 F42.JL5
      obtain⟨W2,wl⟩:=hJ I2
      refine workers27 W2 (ldI_of rfl ?_)
      rw[decide_eq_true (by omega),bcase_true]
      refine hP (by omega) I2 fun b h3 G3 I3=>ldB_of rfl ?_
      rw[wr_s (by omega)]
      exact ih2 (w+1) h3 G3 (by omega) I3
    exact⟨_,inner nw 0 h1 G1 (by omega) (hS I a)⟩
   ·rw[bcase_false]
    unfold F42.wk8 F42.Jk8
    exact pending99 (hW I) (fun q=>absurd q a) fun q=>ldB_of rfl (hK m' h1 G1 (by omega) I a)
 exact⟨_,main (m+1) 0 m 0 h G rfl (by omega) (by omega) h0⟩
end
end
section
def SesR(n:Nat)(fo:Nat→Nat)(N:List (Option Nd))(x x':Ses):Prop:= ∃d:Nat,d<6∧x.cal.dst=(d:Int)∧
 ((x.cal.kind=1∧ ∃v,x'=ansS (setS x d v) 0 0∧ ∀y,sm n fo N v y=y.testBit x.cal.mask)∨
  (x.cal.kind=2∧x'=ansS (setS x d (min 1 x.cal.mask)) 0 0)∨(x.cal.kind=6∧x'=ansS (clrS x d) 0 0))
theorem SesR.pend{n:Nat}{fo:Nat→Nat}{N:List (Option Nd)}{x x':Ses}(R:SesR n fo N x x'):x'.pend=false:=by
 obtain⟨d,-,-,⟨-,v,e,-⟩|⟨-,e⟩|⟨-,e⟩⟩:=R<;>subst e<;>rfl
theorem SesR.to{n:Nat}{fo:Nat→Nat}{N N':List (Option Nd)}{x x':Ses}(R:SesR n fo N x x')(h: ∀r,r<6→x'.there r=true→ ∀y,sm n fo N' (x'.hnd r) y=sm n fo N (x'.hnd r) y):SesR n fo N' x x':=by
 obtain⟨d,d6,ed,⟨k,v,e,s⟩|⟨k,e⟩|⟨k,e⟩⟩:=R
 ·refine⟨d,d6,ed,.inl ⟨k,v,e,fun y=> ?_⟩⟩
  subst e
  have:=h d d6 upN_eq y
  rw[show(ansS (setS x d v) 0 0).hnd d=v from upN_eq]at this
  rw[this,s]
 ·exact⟨d,d6,ed,.inr (.inl ⟨k,e⟩)⟩
 ·exact⟨d,d6,ed,.inr (.inr ⟨k,e⟩)⟩
def nPd(E:Eng)(i:Nat):Nat:=sumN (fun k=>if(E.ses k).pend=true then 1 else 0) i
structure Ran(G0:EG)(i:Nat)(G:EG):Prop where
 s:G.E.s=G0.E.s∧G.E.p=G0.E.p∧G.E.r=G0.E.r
 n:G.n=G0.n
 fo:G.fo=G0.fo
 gg:G.gg=G0.gg
 room:G.room=G0.room
 off:G.off=G0.off
 ws:G.P.ws.length=G0.P.ws.length
 jobs:G.P.jobs=[]
 last:G.P.last=G0.P.last
 cnt:cntN G.N≤cntN G0.N+i
 M:G0.M≤G.M∧G.M≤G0.M+1002*i+1000
 ans:G.E.ans=G0.E.ans+nPd G0.E i
 lo: ∀k,k<i→k<4→((G0.E.ses k).pend=true→SesR G0.n G0.fo G.N (G0.E.ses k) (G.E.ses k))∧((G0.E.ses k).pend=false→G.E.ses k=G0.E.ses k)
 hi: ∀k,i≤k→G.E.ses k=G0.E.ses k
 old: ∀k,k<4→ ∀r,r<6→(G0.E.ses k).there r=true→(G.E.ses k).there r=true→(G.E.ses k).hnd r=(G0.E.ses k).hnd r→ ∀y,sm G0.n G0.fo G.N ((G0.E.ses k).hnd r) y=sm G0.n G0.fo G0.N ((G0.E.ses k).hnd r) y
structure Easy(G:EG):Prop where
 jobs:G.P.jobs=[]
 kind: ∀i,i<4→(G.E.ses i).pend=true→((G.E.ses i).cal.kind=1∨(G.E.ses i).cal.kind=2∨(G.E.ses i).cal.kind=6)∧refu G.n (G.E.ses i) (G.E.ses i).cal=0
 room:cntN G.N+5<G.room
 M:G.M+20000≤LB/1000
 ans:G.E.ans+10<1000000000
theorem set_ans_ses{G:EG}{i d v n:Nat}{er:Int}{f':Int→Int}:(ansG (setG G i d v f') i er n).E.ses=upN G.E.ses i (ansS (setS (G.E.ses i) d v) er n):=by
 show upN (upN G.E.ses i _) i (ansS (upN G.E.ses i (setS (G.E.ses i) d v) i) er n)=_
 rw[upN_upN,upN_eq]
theorem clr_ans_ses{G:EG}{i d n:Nat}{er:Int}{f':Int→Int}:(ansG (clrG G i d f') i er n).E.ses=upN G.E.ses i (ansS (clrS (G.E.ses i) d) er n):=by
 show upN (upN G.E.ses i _) i (ansS (upN G.E.ses i (clrS (G.E.ses i) d) i) er n)=_
 rw[upN_upN,upN_eq]
section
variable {h h':Heap}{e i:Nat}{G G0 G':EG}{K:Value→Heap→Prop}
theorem Ran.refl(hj:G0.P.jobs=[]):Ran G0 0 G0:=⟨⟨rfl,rfl,rfl⟩,rfl,rfl,rfl,rfl,rfl,rfl,hj,rfl,Nat.le_refl _,⟨Nat.le_refl _,by omega⟩,rfl,fun k hk=>by omega,fun k hk=>rfl,fun k hk r hr ht ht' he y=>rfl⟩
theorem Ran.mono(R:Ran G0 i G){N':List (Option Nd)}(hs: ∀v,(∃k r,k<4∧r<6∧(G.E.ses k).there r=true∧v=(G.E.ses k).hnd r)→ ∀y,sm G0.n G0.fo N' v y=sm G0.n G0.fo G.N v y):
  (∀k,k<i→k<4→((G0.E.ses k).pend=true→SesR G0.n G0.fo N' (G0.E.ses k) (G.E.ses k))∧((G0.E.ses k).pend=false→G.E.ses k=G0.E.ses k))∧
  (∀k,k<4→ ∀r,r<6→(G0.E.ses k).there r=true→(G.E.ses k).there r=true→(G.E.ses k).hnd r=(G0.E.ses k).hnd r→ ∀y,sm G0.n G0.fo N' ((G0.E.ses k).hnd r) y=sm G0.n G0.fo G0.N ((G0.E.ses k).hnd r) y):=
 ⟨fun k hk h4=>⟨fun p=>((R.lo k hk h4).1 p).to fun r hr ht=>hs _ ⟨k,r,h4,hr,ht,rfl⟩,(R.lo k hk h4).2⟩,fun k hk r hr ht ht' he y=>by
  rw[←he,hs _ ⟨k,r,hk,hr,ht',rfl⟩ y,he]
  exact R.old k hk r hr ht ht' he y⟩
theorem Ran.lay(Ea:Easy G0)(R:Ran G0 i G)(W:EWd h e G)(W':EWd h' e G')(hi:i<4)(hp:(G.E.ses i).pend=true)(L:LayR i G G'):Ran G0 (i+1) G':=by
 have ei:=R.hi i (Nat.le_refl _)
 have pi:(G0.E.ses i).pend=true:=by rw[←ei];exact hp
 obtain⟨kd,rf⟩:=Ea.kind i hi pi
 have nP:nPd G0.E (i+1)=nPd G0.E i+1:=by unfold nPd;show sumN _ i+(if _ then 1 else 0)=_;rw[if_pos pi]
 obtain⟨d,d6,ed,L⟩:=L
 have fin: ∀(N':List (Option Nd)) (x':Ses),G'.E.ses=upN G.E.ses i x'→G'.N=N'→(∀v,(∃k r,k<4∧r<6∧(G.E.ses k).there r=true∧(G'.E.ses k).there r=true∧(G'.E.ses k).hnd r=(G.E.ses k).hnd r∧v=(G.E.ses k).hnd r)→ ∀y,sm G0.n G0.fo N' v y=sm G0.n G0.fo G.N v y)→SesR G0.n G0.fo N' (G0.E.ses i) x'→
   (G'.E.s=G.E.s∧G'.E.p=G.E.p∧G'.E.r=G.E.r)→G'.n=G.n→G'.fo=G.fo→G'.gg=G.gg→G'.room=G.room→G'.off=G.off→G'.P=G.P→cntN N'≤cntN G.N+1→(G.M≤G'.M∧G'.M≤G.M+1002)→G'.E.ans=G.E.ans+1→Ran G0 (i+1) G':=by
  intro N' x' es eN hs sr e1 e2 e3 e4 e5 e6 e7 e8 e9 e10
  have sk: ∀k,G'.E.ses k=if k=i then x' else G.E.ses k:=fun k=>by rw[es];rfl
  refine⟨⟨e1.1.trans R.s.1,e1.2.1.trans R.s.2.1,e1.2.2.trans R.s.2.2⟩,e2.trans R.n,e3.trans R.fo,e4.trans R.gg,e5.trans R.room,e6.trans R.off,by rw[e7];exact R.ws,by rw[e7];exact R.jobs,by rw[e7];exact R.last,?_,⟨Nat.le_trans R.M.1 e9.1,by have:=R.M.2;omega⟩,by rw[e10,nP,R.ans];omega,fun k hk h4=> ?_,fun k hk=> ?_,fun k hk r hr ht ht' he y=> ?_⟩
  ·have:=R.cnt;rw[eN];omega
  ·by_cases q:k=i
   ·subst q
    rw[sk,if_pos rfl,eN]
    exact⟨fun _=>sr,fun p=>by rw[p]at pi;cases pi⟩
   ·rw[sk,if_neg q,eN]
    have lk:=R.lo k (by omega) h4
    refine⟨fun p=>(lk.1 p).to fun r hr ht=>hs _ ⟨k,r,h4,hr,ht,?_,?_,rfl⟩,lk.2⟩
    ·rw[sk,if_neg q];exact ht
    ·rw[sk,if_neg q]
  ·rw[sk,if_neg (by omega)]
   exact R.hi k (by omega)
  ·rw[eN]
   by_cases q:k=i
   ·subst q
    have ht2:(G.E.ses k).there r=true:=by rw[ei];exact ht
    have:=hs _ ⟨k,r,hk,hr,ht2,ht',by rw[he,ei],rfl⟩ y
    rw[ei]at this
    rw[this]
    exact R.old k hk r hr ht ht2 (by rw[ei]) y
   ·have ht2:(G.E.ses k).there r=true:=by rw[sk,if_neg q]at ht';exact ht'
    have he2:(G.E.ses k).hnd r=(G0.E.ses k).hnd r:=by rw[sk,if_neg q]at he;exact he
    have:=hs _ ⟨k,r,hk,hr,ht2,ht',by rw[he,he2],rfl⟩ y
    rw[he2]at this
    rw[this]
    exact R.old k hk r hr ht ht2 he2 y
 rcases L with⟨k,G1,er,V,e⟩|⟨k,f',e⟩|⟨k,f',e⟩
 ·obtain⟨G2,N2,L2,v,er',f',C1,M,ee,e1⟩:=V
  obtain⟨E2,he2,hfull⟩:=mk_ex M
  have er0:er'=0:=by
   rcases he2 with q|q
   ·exact q
   ·exfalso
    have h1:=(hfull q).1
    have h2:=C1.cnt
    have h3:=R.cnt
    have h4:=Ea.room
    rw[C1.room,R.room]at h1
    omega
  subst er0
  rw[if_pos rfl]at e1
  subst e1 ee e
  have mkn:(G.E.ses i).cal.mask<G2.n:=by
   have z:=(refu2_zero (refu_zero rf).2.2.2).2.1 (by rw[←ei];exact k)
   rw[C1.n,R.n,ei]
   exact z
  have po:=W.po
  rw[←C1.n,←C1.fo,←C1.gg]at po
  have pg:=po.1 _ mkn
  have e0:lvl G2.n G2.N 0=G2.n:=by unfold lvl;rw[if_pos (by omega)]
  have ok2:NOk G2.n N2:=by
   have:=W'.W.S.ok.1
   exact this
  have mn:=mk_node (f:=G2.fo) C1.ok ok2 (a:=0) (b:=1) (.inl (by omega)) (.inl (by omega)) (show _<lvl G2.n G2.N 0 by rw[e0];exact pg.1) M
  have n0:G2.n=G0.n:=C1.n.trans R.n
  have f0:G2.fo=G0.fo:=C1.fo.trans R.fo
  have hE:G2.E=G.E:=C1.E
  have c2:=mk_cnt M
  have hc:=C1.cnt
  have hM:=C1.M
  have es:(ansG (setG (stoG G2 N2 L2) i d v f') i ((0:Nat):Int) 0).E.ses=upN G.E.ses i (ansS (setS (G.E.ses i) d v) 0 0):=by
   rw[←hE]
   exact set_ans_ses
  refine fin N2 _ es rfl (fun w ⟨k',r,h4,hr,ht,_,_,ew⟩ y=> ?_) ⟨d,d6,(by rw[←ei];exact ed),.inl ⟨(by rw[←ei];exact k),v,(by rw[ei]),fun y=> ?_⟩⟩ (by rw[←hE];exact⟨rfl,rfl,rfl⟩) C1.n C1.fo C1.gg C1.room C1.off C1.P (by omega) ⟨(by show G.M≤G2.M+2;omega),(by show G2.M+2≤_;omega)⟩ (by rw[←hE];rfl)
  ·have hw:isN G2.N w:=by rw[ew];exact C1.rg k' h4 r hr ht
   rw[←n0,←f0,E2.sm C1.ok hw,C1.ex.sm C1.ok hw]
  ·rw[←n0,←f0,mn.2.2.2 y,pg.2,sm_const (by omega),sm_const (by omega),ei]
   cases y.testBit (G0.E.ses i).cal.mask<;>rfl
 ·subst e
  exact fin G.N _ set_ans_ses rfl (fun v _ y=>rfl) ⟨d,d6,(by rw[←ei];exact ed),.inr (.inl ⟨(by rw[←ei];exact k),(by rw[ei])⟩)⟩ ⟨rfl,rfl,rfl⟩ rfl rfl rfl rfl rfl rfl (by omega) ⟨(by show G.M≤G.M+2;omega),(by show G.M+2≤_;omega)⟩ rfl
 ·subst e
  exact fin G.N _ clr_ans_ses rfl (fun v _ y=>rfl) ⟨d,d6,(by rw[←ei];exact ed),.inr (.inr ⟨(by rw[←ei];exact k),(by rw[ei])⟩)⟩ ⟨rfl,rfl,rfl⟩ rfl rfl rfl rfl rfl rfl (by omega) ⟨(by show G.M≤G.M+1;omega),(by show G.M+1≤_;omega)⟩ rfl
theorem anyP_not(h: ∀k,k<4→(G.E.ses k).pend=false): ¬anyP G.E:=fun⟨k,hk,hp⟩=>by rw[h k hk]at hp;cases hp
theorem Ran.none(R:Ran G0 4 G): ∀k,k<4→(G.E.ses k).pend=false:=fun k hk=>by
 have:=R.lo k hk hk
 cases q:(G0.E.ses k).pend with
 |true=>exact(this.1 q).pend
 |false=>rw[this.2 q];exact q
theorem Ran.end{w:Nat}(R:Ran G0 4 G)(W:EWd h e G)(P:PickR w G G')(h1:G.M+1000≤G0.M+1002*4+1000):Ran G0 4 G':=by
 obtain⟨G1,N',P',L',k,C1,-,e,Pk,hk,hph⟩:=P
 subst e
 have hj:P'.jobs=[]:=List.eq_nil_of_length_eq_zero (by have:=alike_len Pk.alike;rw[C1.P,R.jobs]at this;simpa using this)
 have j1:G1.P.jobs=[]:=by rw[C1.P];exact R.jobs
 have hE:G1.E=G.E:=C1.E
 have n0:G1.n=G0.n:=C1.n.trans R.n
 have f0:G1.fo=G0.fo:=C1.fo.trans R.fo
 have cn:cntN N'≤cntN G1.N:=by
  have:=Pk.le2
  unfold psi at this
  rw[hj,j1]at this
  simpa using this
 have hc:=C1.cnt
 have rc:=R.cnt
 have hM:=C1.M
 have rM:=R.M
 have mo:=R.mono (N':=N') fun v ⟨k',r,h4,hr,ht,ev⟩ y=>by
  have hv:isN G1.N v:=by rw[ev];exact C1.rg k' h4 r hr ht
  rw[←n0,←f0,Pk.ex.sm C1.ok hv,C1.ex.sm C1.ok hv]
 have he:({G1 with N:=N',P:=P',L:=L'}:EG).E=G.E:=hE
 exact⟨(by rw[he];exact R.s),n0,f0,C1.gg.trans R.gg,C1.room.trans R.room,C1.off.trans R.off,(by show P'.ws.length=_;rw[Pk.alike.2.1,C1.P];exact R.ws),hj,(by show P'.last=_;rw[Pk.alike.1,C1.P];exact R.last),(by show cntN N'≤_;omega),⟨(by show G0.M≤G1.M;omega),(by show G1.M≤_;omega)⟩,(by rw[he];exact R.ans),(by rw[he];exact mo.1),(by rw[he];exact R.hi),(by rw[he];exact mo.2)⟩
end
end
section
section
variable {h h':Heap}{e i:Nat}{G G0 G':EG}{K:Value→Heap→Prop}
theorem nPd_zero{E:Eng}: ∀i,(∀k,k<i→(E.ses k).pend=false)→nPd E i=0:=by
 intro i
 induction i with
 |zero=>intro _;rfl
 |succ i ih=>
  intro hb
  unfold nPd sumN
  have:nPd E i=0:=ih fun k hk=>hb k (by omega)
  unfold nPd at this
  rw[this,hb i (by omega)]
  rfl
theorem Ran.idle(hj:G0.P.jobs=[])(hn: ¬anyP G0.E):Ran G0 4 G0:=by
 have np: ∀k,k<4→(G0.E.ses k).pend=false:=fun k hk=>by
  cases q:(G0.E.ses k).pend with
  |true=>exact absurd ⟨k,hk,q⟩ hn
  |false=>rfl
 exact⟨⟨rfl,rfl,rfl⟩,rfl,rfl,rfl,rfl,rfl,rfl,hj,rfl,by omega,⟨Nat.le_refl _,by omega⟩,by rw[nPd_zero 4 np];rfl,fun k hk h4=>⟨fun p=>(by rw[np k h4]at p;cases p),fun _=>rfl⟩,fun k hk=>rfl,fun k hk r hr ht ht' he y=>rfl⟩
theorem step_easy{k:Int}(h:k=1∨k=2∨k=6):stepN k=123:=if_pos h
theorem nPd_le{E:Eng}: ∀i,nPd E i≤i:=by
 intro i
 induction i with
 |zero=>exact Nat.le_refl _
 |succ i ih=>
  unfold nPd sumN
  unfold nPd at ih
  split<;>omega
theorem Ran.skip(R:Ran G0 i G)(hp:(G.E.ses i).pend=false):Ran G0 (i+1) G:=by
 have ei:=R.hi i (Nat.le_refl _)
 have pi:(G0.E.ses i).pend=false:=by rw[←ei];exact hp
 refine⟨R.s,R.n,R.fo,R.gg,R.room,R.off,R.ws,R.jobs,R.last,by have:=R.cnt;omega,⟨R.M.1,by have:=R.M.2;omega⟩,?_,fun k hk h4=> ?_,fun k hk=>R.hi k (by omega),R.old⟩
 ·rw[R.ans]
  show _=G0.E.ans+(nPd G0.E i+if(G0.E.ses i).pend=true then 1 else 0)
  rw[pi]
  rfl
 ·by_cases q:k=i
  ·subst q
   exact⟨fun p=>(by rw[p]at pi;cases pi),fun _=>ei⟩
  ·exact R.lo k (by omega) h4
theorem pick_none{who draw:Int}(W:EWd h e G)(hN:who<0∨(G.P.ws.length:Int)≤who∨ ¬anyP G.E)(hK: ∀h',Only [] h h'→K (.bool false) h'):Cl 26 [ptrV e,.int .i64 who,.int .i64 draw] h K:=by
 refine F26.spec _ _ _ h K ?_
 refine bcase_of (fun q=>hK h (Only.refl _ _)) fun q=> ?_
 have q:=of_decide_eq_false q
 refine workers27 W (ldI_of rfl (bcase_of (fun p=>hK h (Only.refl _ _)) fun p=> ?_))
 have p: ¬(G.P.ws.length:Int)≤who:=of_decide_eq_false p
 have no: ¬anyP G.E:=by rcases hN with z|z|z<;>first|omega|exact z
 exact pending78 W.I (fun a=>absurd a no) fun _ h1 O1=>ldB_of rfl (hK h1 O1)
theorem easy_pick(W:EWd h e G0)(Ea:Easy G0){w:Nat}(hw:w<G0.P.ws.length){draw:Int}(hN: ¬anyP G0.E→ ∀h',Only [] h h'→K (.bool false) h')
  (hY:anyP G0.E→ ∀h' G',EWd h' e G'→Eside e G0 h G' h'→Ran G0 4 G'→K (.bool true) h'):Cl 26 [ptrV e,.int .i64 (w:Int),.int .i64 draw] h K:=by
 have eM:=Ea.M
 refine pick26 W (fun q h1 O1=>hN ?_ h1 O1) (fun i h1 G1=>EWd h1 e G1∧Eside e G0 h G1 h1∧Ran G0 i G1∧G1.M≤G0.M+1002*i) (fun h1 O1=>⟨W.only0 O1,Eside.only0 O1,Ran.refl Ea.jobs,by omega⟩)
  (fun {i h1 G1 h2} I O=>⟨I.1.only0 O,I.2.1.trans (Eside.only0 O),I.2.2⟩) (fun I=>I.1) (fun {i h1 G1} hi I hp=>⟨I.1,I.2.1,I.2.2.1.skip hp,by have:=I.2.2.2;omega⟩) (fun {i h1 G1 Q} hi I hp hQ=> ?_) (fun _ _ a h1 G1 I=> ?_)
 ·rcases q with q|q|q
  ·omega
  ·omega
  ·exact q
 ·obtain⟨W1,S1,R1,M1⟩:=I
  have ei:=R1.hi i (Nat.le_refl _)
  obtain⟨kd,rf⟩:=Ea.kind i hi (by rw[←ei];exact hp)
  have kd1:(G1.E.ses i).cal.kind=1∨(G1.E.ses i).cal.kind=2∨(G1.E.ses i).cal.kind=6:=by rw[ei];exact kd
  rw[step_easy kd1]
  have rc:=R1.cnt
  have rm:=Ea.room
  have ra:=R1.ans
  have na:=nPd_le (E:=G0.E) i
  have ea:=Ea.ans
  refine e_lays mr_less W1 hi (by show cntN G1.N<G1.room;rw[R1.room];omega) (by omega) (by omega) kd1 (by rw[ei,R1.n];exact rf) fun h2 G2 W2 S2 L=> ?_
  refine hQ true h2 G2 ⟨W2,S1.trans S2,Ran.lay Ea R1 W1 W2 hi hp L,?_⟩
  obtain⟨d,-,-,⟨-,G3,er,⟨G4,N2,L2,v,er',f',C1,-,-,e1⟩,e2⟩|⟨-,f',e2⟩|⟨-,f',e2⟩⟩:=L
  ·have:=C1.M
   have:G3.M≤G4.M+2:=by rw[e1];split<;>(first|exact Nat.le_refl _|exact Nat.le_add_right _ _)
   have:G2.M=G3.M:=by rw[e2];rfl
   omega
  ·have:G2.M=G1.M+2:=by rw[e2];rfl
   omega
  ·have:G2.M=G1.M+1:=by rw[e2];rfl
   omega
 ·obtain⟨W1,S1,R1,M1⟩:=I
  have rc:=R1.cnt
  have rm:=Ea.room
  refine pick_end mr_less W1 (by show cntN G1.N<G1.room;rw[R1.room];omega) (by omega) (by rw[R1.ws];exact hw) fun h2 G2 W2 S2 P=> ?_
  exact hY a h2 G2 W2 (S1.trans S2) (R1.end W1 P (by omega))
theorem easy_fair(W:EWd h e G0)(Ea:Easy G0)(hK: ∀h' G',EWd h' e G'→Eside e G0 h G' h'→Ran G0 4 G'→K (.bool true) h'):Cl 42 [ptrV e] h K:=by
 have wl:=W.W.Ok.len
 refine fair42 (m:=1) (fun m h1 G1=>EWd h1 e G1∧Eside e G0 h G1 h1∧((m=1∧G1=G0)∨(m=0∧Ran G0 4 G1))) (fun m w h1 G1=>EWd h1 e G1∧Eside e G0 h G1 h1∧m=1∧((w=0∧G1=G0∧anyP G0.E)∨(1≤w∧Ran G0 4 G1))) G0.P.ws.length wl.2
  ⟨W,Eside.refl,.inl ⟨rfl,rfl⟩⟩ (by omega) (fun I=>I.1) (fun {m w h1 G1} I=>⟨I.1,?_⟩) (fun {m h1 G1} I a=>⟨I.1,I.2.1,?_⟩) (fun {m w h1 G1 Q draw} hw I hQ=> ?_) (fun {m h1 G1} I=> ?_) (fun m' h1 G1 _ I a=> ?_)
 ·rcases I.2.2.2 with⟨-,q,-⟩|⟨-,q⟩
  ·rw[q]
  ·exact q.ws
 ·rcases I.2.2 with⟨q1,q2⟩|⟨q1,q2⟩
  ·subst q2;exact⟨q1,.inl ⟨rfl,rfl,a⟩⟩
  ·exact absurd a (anyP_not q2.none)
 ·obtain⟨W1,S1,m1,q⟩:=I
  rcases q with⟨q1,q2,q3⟩|⟨q1,q2⟩
  ·subst q2
   exact easy_pick W1 Ea hw (fun a=>absurd q3 a) fun a h2 G2 W2 S2 R2=>hQ _ h2 G2 ⟨W2,S1.trans S2,m1,.inr ⟨by omega,R2⟩⟩
  ·have no:=anyP_not q2.none
   exact pick_none W1 (.inr (.inr no)) fun h2 O2=>hQ _ h2 G1 ⟨W1.only0 O2,S1.trans (Eside.only0 O2),m1,.inr ⟨by omega,q2⟩⟩
 ·obtain⟨W1,S1,m1,q⟩:=I
  rcases q with⟨q1,-,-⟩|⟨q1,q2⟩
  ·omega
  ·exact⟨0,by omega,W1,S1,.inr ⟨rfl,q2⟩⟩
 ·obtain⟨W1,S1,q⟩:=I
  rcases q with⟨q1,q2⟩|⟨q1,q2⟩
  ·subst q2
   exact hK h1 G1 W1 S1 (Ran.idle Ea.jobs a)
  ·exact hK h1 G1 W1 S1 q2
end
end
section
section
variable {h h':Heap}{e i:Nat}{G G0 G':EG}{K:Value→Heap→Prop}
def bgnG(G:EG)(k:Nat)(c:Cal):EG:={G with E:=G.E.put k (bgnS (G.E.ses k) c)}
theorem e_begin{c:Cal}{i:Int}(W:EWd h e G)(hm:c.mask<256)
  (hO:(i<0∨4≤i)→ ∀h',Only [] h h'→K (.int .i64 222) h')
  (hB: ∀k:Nat,k<4→i=(k:Int)→(G.E.ses k).pend=true→ ∀h',Only [] h h'→K (.int .i64 220) h')
  (hR: ∀k:Nat,k<4→i=(k:Int)→(G.E.ses k).pend=false→refu G.n (G.E.ses k) c≠0→ ∀h',Only [] h h'→K (.int .i64 (refu G.n (G.E.ses k) c)) h')
  (hK: ∀k:Nat,k<4→i=(k:Int)→(G.E.ses k).pend=false→refu G.n (G.E.ses k) c=0→ ∀h',EWd h' e (bgnG G k c)→Eside e G h (bgnG G k c) h'→K (.int .i64 0) h'):
  Cl 24 [ptrV e,.int .i64 i,calV c] h K:=by
 refine begin24 W.I W.W.S W.de.1 hm hO hB hR fun k hk ek hp hr h' I' O'=>hK k hk ek hp hr h' ?_ (Eside.some O' (fun b hb=>by simp at hb;subst hb;exact mem_ebl.2 (.inl rfl)) fun b hb=>hb)
 have hs: ∀q,((bgnG G k c).E.ses q).there=(G.E.ses q).there∧((bgnG G k c).E.ses q).hnd=(G.E.ses q).hnd:=fun q=>by
  show((G.E.put k (bgnS (G.E.ses k) c)).ses q).there=_∧((G.E.put k (bgnS (G.E.ses k) c)).ses q).hnd=_
  rw[ses_put]
  by_cases z:q=k
  ·rw[if_pos z,z];exact⟨rfl,rfl⟩
  ·rw[if_neg z];exact⟨rfl,rfl⟩
 refine⟨W.W.only O' (fun b hb=>by simp at hb;subst hb;exact W.de.1) (fun b hb=>by simp at hb;subst hb;exact W.de.2.1),W.R.only O' (fun b hb=>by simp at hb;subst hb;exact W.de.2.2),I',fun x=> ?_,W.de,W.dB,fun q hq r hr ht=> ?_,fun q hq r hr ht=> ?_,fun q hq=> ?_,W.po⟩
 ·rw[ind_same hs];exact W.C x
 ·rw[(hs q).2];rw[(hs q).1]at ht;exact W.rg q hq r hr ht
 ·rw[(hs q).2];rw[(hs q).1]at ht;exact W.r0 q hq r hr ht
 ·show((G.E.put k (bgnS (G.E.ses k) c)).ses q).cal.mask<256
  rw[ses_put]
  by_cases z:q=k
  ·rw[if_pos z];exact hm
  ·rw[if_neg z];exact W.mq q hq
theorem new18_bad{n:Nat}{room x:Int}(h8:8<n)(hn:n<1000000)(hK:K (.tuple #[.pointer none,.int .i64 40]) h):Cl 18 [.int .i64 (n:Int),.int .i64 room,.int .i64 x] h K:=by
 refine F18.spec _ _ _ h K ?_
 refine F61.spec _ _ h _ ?_
 rw[decide_eq_false (by omega),bcase_false,decide_eq_true (by omega),bcase_true]
 exact⟨_,_,rfl,hK⟩
end
end
section
def argH(x:Ses)(i:Nat):Nat:=match (rds x.cal)[i]? with|some r=>x.hnd r.toNat|none=>0
theorem argH_some{x:Ses}{i:Nat}{r:Int}(h:(rds x.cal)[i]? =some r):argH x i=x.hnd r.toNat:=by unfold argH;rw[h]
theorem argH_none{x:Ses}{i:Nat}(h:(rds x.cal)[i]? =none):argH x i=0:=by unfold argH;rw[h]
def jobS(x:Ses)(n:Nat):Ses:={x with job:=n}
section
variable {h h':Heap}{e i:Nat}{G G0 G':EG}{K:Value→Heap→Prop}
theorem args172{b:Nat}{p:Option Addr}{l cc:Nat}{x5:Addr}{hb:Heap}(hi:i<4)(W:EWd h e G)(A:At h b (rowV 3 fun _=> .int .u32 (0:Int)))(hb0:b∉ebl e G)(R:RowI hb h p l (rds (G.E.ses i).cal))(hbb: ∀q L,p=some ⟨q,0,none⟩→At h q L→q≠b)(ok:rdsOk (G.E.ses i) (G.E.ses i).cal)
  (hK: ∀h',EWd h' e G→At h' b (rowV 3 fun j=> .int .u32 (argH (G.E.ses i) j:Int))→Only [b] h h'→F172.wk10 ⟨e,0,none⟩ ⟨e,3+24*i,none⟩ x5 ⟨b,0,none⟩ h' K):
  F172.wk6 ⟨e,0,none⟩ ⟨e,3+24*i,none⟩ x5 ⟨b,0,none⟩ p l cc (Nat.cast l:Int) 0 h K:=by
 obtain⟨el,R⟩:=R
 have l3:=rds_len (G.E.ses i).cal
 unfold F172.wk6
 have main: ∀(d k:Nat) (hh:Heap),d+k=l→EWd hh e G→At hh b (rowV 3 fun j=> .int .u32 ((if j<k then argH (G.E.ses i) j else 0:Nat):Int))→Only [b] h hh→F172.wL6 (d+1) ⟨e,0,none⟩ ⟨e,3+24*i,none⟩ x5 ⟨b,0,none⟩ p l cc (Nat.cast l:Int) (k:Int) hh K:=by
  intro d
  induction d with
  |zero=>
   intro k hh hk W1 A1 O1
   rw[F172.sL6]
   rw[decide_eq_false (by omega),bcase_false]
   refine hK hh W1 ?_ O1
   rw[rowV_ext (g':=fun j=> .int .u32 ((if j<k then argH (G.E.ses i) j else 0:Nat):Int)) fun j hj=> ?_]
   ·exact A1
   ·by_cases q:j<k
    ·rw[if_pos q]
    ·rw[if_neg q,argH_none (List.getElem?_eq_none (by omega))]
  |succ d ih=>
   intro k hh hk W1 A1 O1
   rw[F172.sL6]
   rw[decide_eq_true (by omega),bcase_true]
   have hlen:k<(rds (G.E.ses i).cal).length:=by omega
   obtain⟨x,hx⟩: ∃x,(rds (G.E.ses i).cal)[k]? =some x:=⟨_,List.getElem?_eq_getElem hlen⟩
   rcases R with R|⟨q,Lc,ep,gb,Ab,g⟩
   ·rw[R]at hlen;simp at hlen
   have qb:=hbb q Lc ep Ab
   have Aq:=Ab.only O1 (by simp;exact qb)
   obtain⟨rx,tx⟩:=ok x (List.mem_of_getElem? hx)
   have r6:x.toNat<6:=by unfold isR at rx;omega
   rw[ep]
   refine⟨by omega,by omega,ldI_of (n:=x) (by simp only[add_mk];rw[At.rd Aq,show 0+Int.toNat (Nat.cast k:Int)*1=k by simp];exact g k x hx) ⟨rx.1,rx.2,?_⟩⟩
   refine ldI_of (n:=((G.E.ses i).hnd x.toNat:Int)) (by simp only[add_mk];exact W1.I.hnd hi r6 (by omega)) ⟨by omega,by omega,?_⟩
   simp only[add_mk]
   rw[show 0+Int.toNat (Nat.cast k:Int)*1+0=k by simp]
   refine stK_at A1 (by rw[rowV_len];omega) rfl fun h2 A2 O2 z2=> ?_
   rw[wr_s (by omega),←ep]
   have W2:EWd h2 e G:=⟨W1.W.only O2 (fun y hy hm=>by simp at hy;subst hy;exact hb0 (mem_ebl.2 (.inr (.inl hm)))) (fun y hy hm=>by simp at hy;subst hy;exact hb0 (mem_ebl.2 (.inr (.inr (.inr hm))))),W1.R.only O2 (fun y hy hm=>by simp at hy;subst hy;exact hb0 (mem_ebl.2 (.inr (.inr (.inl hm))))),W1.I.only O2 (fun hm=>by simp at hm;exact hb0 (mem_ebl.2 (.inl hm.symm))),W1.C,W1.de,W1.dB,W1.rg,W1.r0,W1.mq,W1.po⟩
   refine ih (k+1) h2 (by omega) W2 ?_ (O1.trans O2 fun y hy _=>hy)
   rw[rowV_set]at A2
   rw[rowV_ext (g':=fun j=>if j=k then .int .u32 ((G.E.ses i).hnd x.toNat:Int)else .int .u32 ((if j<k then argH (G.E.ses i) j else 0:Nat):Int)) fun j hj=> ?_]
   ·exact A2
   ·by_cases z:j=k
    ·rw[if_pos z,if_pos (by omega),z,argH_some hx]
    ·rw[if_neg z]
     by_cases z2:j<k
     ·rw[if_pos z2,if_pos (by omega)]
     ·rw[if_neg z2,if_neg (by omega)]
 refine⟨_,main l 0 h (by omega) W ?_ (Only.refl _ _)⟩
 rw[rowV_ext (g':=fun _=> .int .u32 (0:Int)) fun j hj=>by rw[if_neg (by omega)];rfl]
 exact A
def subG(G:EG)(i:Nat)(ws:List Wk)(A:MA):EG:=
 {G with E:=G.E.put i (jobS (G.E.ses i) (G.P.last+1)),P:={G.P with ws:=ws,jobs:=G.P.jobs++[⟨G.P.last+1,A,jobG (G.E.ses i).cal.op.toNat (argH (G.E.ses i) 0) (argH (G.E.ses i) 1) (argH (G.E.ses i) 2)⟩],last:=G.P.last+1}}
theorem ewd_jobS{n:Nat}(W:EWd h e G)(hi:i<4)(I:EIs h' e (G.E.put i (jobS (G.E.ses i) n)))(O:Only [e] h h'):EWd h' e {G with E:=G.E.put i (jobS (G.E.ses i) n)}∧Eside e G h {G with E:=G.E.put i (jobS (G.E.ses i) n)} h':=by
 have hs: ∀q,((G.E.put i (jobS (G.E.ses i) n)).ses q).there=(G.E.ses q).there∧((G.E.put i (jobS (G.E.ses i) n)).ses q).hnd=(G.E.ses q).hnd∧((G.E.put i (jobS (G.E.ses i) n)).ses q).cal=(G.E.ses q).cal:=fun q=>by
  rw[ses_put]
  by_cases z:q=i
  ·rw[if_pos z,z];exact⟨rfl,rfl,rfl⟩
  ·rw[if_neg z];exact⟨rfl,rfl,rfl⟩
 refine⟨⟨W.W.only O (fun b hb=>by simp at hb;subst hb;exact W.de.1) (fun b hb=>by simp at hb;subst hb;exact W.de.2.1),W.R.only O (fun b hb=>by simp at hb;subst hb;exact W.de.2.2),I,fun x=> ?_,W.de,W.dB,fun k hk r hr ht=> ?_,fun k hk r hr ht=> ?_,fun k hk=> ?_,W.po⟩,Eside.some O (fun b hb=>by simp at hb;subst hb;exact mem_ebl.2 (.inl rfl)) fun b hb=>hb⟩
 ·show G.f (x:Int)=(cntR (G.E.put i (jobS (G.E.ses i) n)) x:Int)
  rw[ind_same fun k=>⟨(hs k).1,(hs k).2.1⟩];exact W.C x
 ·show isN G.N (((G.E.put i (jobS (G.E.ses i) n)).ses k).hnd r)
  have ht:((G.E.put i (jobS (G.E.ses i) n)).ses k).there r=true:=ht
  rw[(hs k).2.1];rw[(hs k).1]at ht;exact W.rg k hk r hr ht
 ·show((G.E.put i (jobS (G.E.ses i) n)).ses k).hnd r=0
  have ht:((G.E.put i (jobS (G.E.ses i) n)).ses k).there r=false:=ht
  rw[(hs k).2.1];rw[(hs k).1]at ht;exact W.r0 k hk r hr ht
 ·show((G.E.put i (jobS (G.E.ses i) n)).ses k).cal.mask<256
  rw[(hs k).2.2];exact W.mq k hk
theorem arg_isN(W:EWd h e G)(hi:i<4)(ok:rdsOk (G.E.ses i) (G.E.ses i).cal){j:Nat}(hj:j<(rds (G.E.ses i).cal).length):isN G.N (argH (G.E.ses i) j):=by
 obtain⟨x,hx⟩: ∃x,(rds (G.E.ses i).cal)[j]? =some x:=⟨_,List.getElem?_eq_getElem hj⟩
 obtain⟨rx,tx⟩:=ok x (List.mem_of_getElem? hx)
 rw[argH_some hx]
 exact W.rg i hi _ (by unfold isR at rx;omega) tx
theorem submits172(W:EWd h e G)(hi:i<4)(k3:(G.E.ses i).cal.kind=3){op:Nat}(eo:(G.E.ses i).cal.op=(op:Int))(hop:op=1∨op=2∨op=3∨op=4∨op=5)(ok:rdsOk (G.E.ses i) (G.E.ses i).cal)(hR: ¬anyR G.E)(hj:G.P.jobs.length<64)(hl:G.P.last+1<100000000)
  (hK: ∀h' ws A,EWd h' e (subG G i ws A)→Eside e G h (subG G i ws A) h'→ws.length=G.P.ws.length→A.done=false→A.e=0→mus G.n G.N A.fs≤1021→nbs G.n G.N A.fs≤2^G.n-1→qlen ws=qlen G.P.ws+1→K (.bool false) h'):
  Cl 172 [ptrV e,sesP e i] h K:=by
 refine F172.spec _ _ h K ?_
 refine waits214 W.I (fun a=>absurd a hR) fun _ h1 O1=>ldB_of rfl ?_
 rw[bcase_false]
 have W1:=W.only0 O1
 simp only[add_mk,Nat.zero_add]
 refine ldI_of (W1.I.kind hi (by omega)) (ldI_of (W1.I.op hi (by omega)) (ldI_of (W1.I.dst hi (by omega)) (ldI_of (W1.I.ca hi (by omega)) (ldI_of (W1.I.cb hi (by omega)) (ldI_of (W1.I.cc hi (by omega)) (ldI_of (W1.I.mask hi (by omega)) ?_))))))
 obtain⟨c,ec⟩: ∃c,c=(G.E.ses i).cal:=⟨_,rfl⟩
 rw[←ec]
 refine newK_at fun h2 A2 O2 z2=> ?_
 refine stK_at A2 (by simp) rfl fun h3 A3 O3 z3=>stK_at A3 (by simp) rfl fun h4 A4 O4 z4=>stK_at A4 (by simp) rfl fun h5 A5 O5 z5=>stK_at A5 (by simp) rfl fun h6 A6 O6 z6=>stK_at A6 (by simp) rfl fun h7 A7 O7 z7=>stK_at A7 (by simp) rfl fun h8 A8 O8 z8=>stK_at A8 (by simp) rfl fun h9 A9 O9 z9=> ?_
 have A9:At h9 h1.size [.int .i64 c.kind,.int .i64 c.op,.int .i64 c.dst,.int .i64 c.a,.int .i64 c.b,.int .i64 c.c,.int .u8 (c.mask:Int)]:=A9
 have O29:Only [h1.size] h2 h9:=(((((O3.trans O4 fun b hb _=>hb).trans O5 fun b hb _=>hb).trans O6 fun b hb _=>hb).trans O7 fun b hb _=>hb).trans O8 fun b hb _=>hb).trans O9 fun b hb _=>hb
 have O19:Only [] h1 h9:=O2.trans O29 (by intro x hx hl;simp at hx;omega)
 refine newK_at fun h10 A10 O10 z10=> ?_
 have z12:=A9.lt
 have A9':=A9.only O10 (by simp)
 have r: ∀k,rd h10 ⟨h1.size,k,none⟩=([.int .i64 c.kind,.int .i64 c.op,.int .i64 c.dst,.int .i64 c.a,.int .i64 c.b,.int .i64 c.c,.int .u8 (c.mask:Int)]:List Value)[k]? :=fun k=>At.rd A9' k
 refine ldI_of (n:=c.kind) (by rw[r];rfl) (ldI_of (n:=c.op) (by rw[r];rfl) (ldI_of (n:=c.dst) (by rw[r];rfl) (ldI_of (n:=c.a) (by rw[r];rfl) (ldI_of (n:=c.b) (by rw[r];rfl) (ldI_of (n:=c.c) (by rw[r];rfl) (ldI_of (n:=(c.mask:Int)) (by rw[r];rfl) ?_))))))
 refine reads121 (c:=c) fun h11 p l cc O11 R11=>⟨_,_,_,rfl,?_⟩
 have W10:=(W1.only0 O19).only0 O10
 have W11:=W10.only0 O11
 have lt9:=(W1.only0 O19).lt
 have A11:At h11 h9.size (rowV 3 fun _=> .int .u32 (0:Int)):=A10.only O11 (by simp)
 rw[ec]at R11
 have nb:h9.size∉ebl e G:=fun hm=>by have:=lt9 _ hm;omega
 refine args172 (b:=h9.size) hi W11 A11 nb R11 (fun q L ep Aq=> ?_) ok fun h12 W12 A12 O12=> ?_
 ·obtain⟨el,R⟩:=R11
  rcases R with R|⟨q2,L2,e2,g2,-,-⟩
  ·intro eq
   have l0:l=0:=by rw[el,R];rfl
   have hh:(rds (G.E.ses i).cal).length=(takesZ (G.E.ses i).cal.op).toNat:=by
    unfold rds
    rw[if_neg (by omega),if_neg (by omega),if_pos k3,List.length_take]
    have:=takes_le (G.E.ses i).cal.op
    simp
    omega
   rw[R,eo]at hh
   rcases hop with z|z|z|z|z<;>subst z<;>cases hh
  ·rw[ep]at e2
   injection e2 with e2
   injection e2 with e2
   omega
 ·unfold F172.wk10
  have A9'':At h12 h1.size [.int .i64 c.kind,.int .i64 c.op,.int .i64 c.dst,.int .i64 c.a,.int .i64 c.b,.int .i64 c.c,.int .u8 (c.mask:Int)]:=(A9'.only O11 (by simp)).only O12 (by simp;omega)
  have rc: ∀k,rd h12 ⟨h1.size,k,none⟩=([.int .i64 c.kind,.int .i64 c.op,.int .i64 c.dst,.int .i64 c.a,.int .i64 c.b,.int .i64 c.c,.int .u8 (c.mask:Int)]:List Value)[k]? :=fun k=>At.rd A9'' k
  have ra: ∀k,k<3→rd h12 ⟨h9.size,k,none⟩=some (.int .u32 (argH (G.E.ses i) k:Int)):=fun k hk=>by rw[At.rd A12,rowV_get hk]
  simp only[add_mk,Nat.zero_add]
  refine ldP_of W12.I.p (ldI_of (n:=c.op) (by rw[rc];rfl) ⟨by omega,by omega,ldI_of (ra 0 (by omega)) ⟨by omega,by omega,ldI_of (ra 1 (by omega)) ⟨by omega,by omega,ldI_of (ra 2 (by omega)) (ldI_of (n:=(c.mask:Int)) (by rw[rc];rfl) ?_)⟩⟩⟩)
  have hlen:(rds (G.E.ses i).cal).length=(takesZ (op:Int)).toNat:=by
   unfold rds
   rw[if_neg (by omega),if_neg (by omega),if_pos k3,List.length_take,eo]
   have:=takes_le (op:Int)
   simp
   omega
  have ha:=arg_isN W12 hi ok (j:=0) (by rw[hlen];rcases hop with z|z|z|z|z<;>subst z<;>decide)
  have hb:op≠1→isN G.N (argH (G.E.ses i) 1):=fun z=>arg_isN W12 hi ok (by rw[hlen];rcases hop with z|z|z|z|z<;>subst z<;>first|(exfalso;omega)|decide)
  have hc:op=5→isN G.N (argH (G.E.ses i) 2):=fun z=>arg_isN W12 hi ok (by rw[hlen];subst z;decide)
  rw[ec,eo]
  have mq:=W.mq i hi
  refine submit35 mq W12.W.S W12.W.H W12.W.Ok W12.W.GO W12.W.D hop ha hb hc hl (fun q=>by omega) fun _ h13 ws A S13 H13 Ok13 GO13 bk13 D13 wl dn ee mu nb13 ql O13=>⟨_,_,rfl,?_⟩
  rw[show((0:Int) !=0)=false from rfl,bcase_false]
  have W13:Wld h13 G.E.p G.E.s G.n G.room G.fo G.gg G.off G.N {G.P with ws:=ws,jobs:=G.P.jobs++[⟨G.P.last+1,A,jobG op (argH (G.E.ses i) 0) (argH (G.E.ses i) 1) (argH (G.E.ses i) 2)⟩],last:=G.P.last+1} G.L:=⟨S13,H13,Ok13,GO13,D13⟩
  obtain⟨W14,S14⟩:=W12.pool W13 (Ex.refl _) ⟨fun T hT _=>O13 T hT,Fresh.refl _ _,bk13⟩
  refine EIs.setS (x:=jobS (G.E.ses i) (G.P.last+1)) W14.I hi (j:=20) (by omega) (by omega) rfl (fun q hq=>sC_job (x:=G.E.ses i) q hq) fun h15 I15 O15 _=> ?_
  obtain⟨W15,S15⟩:=ewd_jobS W14 hi I15 O15
  have eop:(G.E.ses i).cal.op.toNat=op:=by rw[eo];rfl
  have O0:Only [] h h12:=((((O1.trans O19 (by simp)).trans O10 (by simp)).trans O11 (by simp)).trans O12 (by intro x hx hl;simp at hx;have:=O1.size;have:=O19.size;omega))
  have S0:Eside e G h G h12:=Eside.only0 O0
  refine hK h15 ws A ?_ ?_ wl dn ee mu nb13 ql
  ·unfold subG;rw[eop];exact W15
  ·unfold subG;rw[eop];exact(S0.trans S14).trans S15
end
end
section
section
variable {h h':Heap}{e i:Nat}{G G0 G':EG}{K:Value→Heap→Prop}
def forG(G:EG)(id:Nat):EG:={G with P:={G.P with jobs:=G.P.jobs.filter fun z=>decide (z.id≠id)}}
theorem e_forget{id:Nat}(W:EWd h e G){x:Nat}{j:Jb}(hx:G.P.jobs[x]? =some j)(ej:j.id=id)(hd:j.A.done=true)
  (hK: ∀h' b,EWd h' e (forG G id)→Eside e G h (forG G id) h'→K (.bool b) h'):Cl 36 [ptrV G.E.p,.int .i64 (id:Int)] h K:=by
 have hm:=List.mem_of_getElem? hx
 refine forget36 W.W.H W.W.Ok (fun q=> ?_) fun h1 j' hj' ej' hd' H1 Ok1 O1=> ?_
 ·exfalso
  rcases q with q|⟨j',hj',ej',hd'⟩
  ·exact q j hm (by rw[ej])
  ·have ids:=W.W.H.ids
   have:j'=j:=by
    obtain⟨y,hy⟩:=List.getElem?_of_mem hj'
    have e1:(G.P.jobs.map (·.id))[y]? =some id:=by rw[List.getElem?_map,hy];exact congrArg some (show j'.id=_ by omega)
    have e2:(G.P.jobs.map (·.id))[x]? =some id:=by rw[List.getElem?_map,hx];exact congrArg some ej
    have:=nodup_inj ids.1 e1 e2
    subst this
    rw[hy]at hx
    injection hx
   subst this
   rw[hd]at hd'
   cases hd'
 ·have eid:j'.id=id:=by omega
  rw[eid]at H1 Ok1
  have sub: ∀b,PBl G.E.p {G.P with jobs:=G.P.jobs.filter fun z=>decide (z.id≠id)} b→PBl G.E.p G.P b:=fun b hb=>by
   rcases hb with hb|hb|hb|hb|⟨y,hy,hb⟩
   ·exact .inl hb
   ·exact .inr (.inl hb)
   ·exact .inr (.inr (.inl hb))
   ·exact .inr (.inr (.inr (.inl hb)))
   ·exact .inr (.inr (.inr (.inr ⟨y,(List.mem_filter.1 hy).1,hb⟩)))
  have W1:Wld h1 G.E.p G.E.s G.n G.room G.fo G.gg G.off G.N {G.P with jobs:=G.P.jobs.filter fun z=>decide (z.id≠id)} G.L:=
   ⟨W.W.S.only O1 (fun b hb hm=>by simp at hb;subst hb;exact W.W.D _ (.inr (.inl rfl)) hm),H1,Ok1,fun y hy=>W.W.GO y ((List.mem_filter.1 hy).1),fun b hb=>W.W.D b (sub b hb)⟩
  obtain⟨W2,S2⟩:=W.pool W1 (Ex.refl _) ⟨fun T hT _=>O1.mono fun b hb _=>by simp at hb;subst hb;exact hT _ (.inr (.inl rfl)),Fresh.refl _ _,fun b hb=> .inl (sub b hb)⟩
  exact hK h1 true W2 S2
theorem works_wait(W:EWd h e G)(hi:i<4){x:Nat}{j:Jb}(hx:G.P.jobs[x]? =some j)(ej:j.id=(G.E.ses i).job)(h0:(G.E.ses i).job≠0)(hd:j.A.done=false)(hK:K (.bool false) h):Cl 127 [ptrV e,sesP e i] h K:=by
 have hm:=List.mem_of_getElem? hx
 refine F127.spec _ _ h K ?_
 simp only[add_mk,Nat.zero_add]
 refine ldI_of (W.I.job hi (by omega)) ?_
 rw[eqz (by omega),bcase_false]
 refine ldP_of W.I.p (ldI_of (W.I.job hi (by omega)) ?_)
 refine result38 W.W.H (fun q=>absurd (by omega) (q j hm)) fun y j' hy ej'=>⟨_,_,rfl,?_⟩
 have:j'=j:=by
  have e1:(G.P.jobs.map (·.id))[y]? =some j.id:=by rw[List.getElem?_map,hy];exact congrArg some (show j'.id=_ by omega)
  have e2:(G.P.jobs.map (·.id))[x]? =some j.id:=by rw[List.getElem?_map,hx];rfl
  have:=nodup_inj W.W.H.ids.1 e1 e2
  subst this
  rw[hy]at hx
  injection hx
 subst this
 rw[if_neg (by rw[hd];simp),show((61:Int)==61)=true from rfl,bcase_true]
 exact hK
def endG(G:EG)(i d:Nat)(told er:Nat)(f':Int→Int):EG:=ansG (forG (if er=0 then setG G i d told f' else G) (G.E.ses i).job) i (er:Int) 0
theorem works_done(W:EWd h e G)(hi:i<4){d x:Nat}{j:Jb}(hx:G.P.jobs[x]? =some j)(ej:j.id=(G.E.ses i).job)(h0:(G.E.ses i).job≠0)(hd:j.A.done=true)(he:j.A.e=0∨j.A.e=60)(hv:j.A.e=0→isN G.N j.A.told)(hd6:d<6)(ed:(G.E.ses i).cal.dst=(d:Int))
  (hM:G.M+1≤LB) (ha:G.E.ans<1000000000) (hK: ∀h' f',EWd h' e (endG G i d j.A.told j.A.e f')→Eside e G h (endG G i d j.A.told j.A.e f') h'→K (.bool true) h'):Cl 127 [ptrV e,sesP e i] h K:=by
 have hm:=List.mem_of_getElem? hx
 refine F127.spec _ _ h K ?_
 simp only[add_mk,Nat.zero_add]
 refine ldI_of (W.I.job hi (by omega)) ?_
 rw[eqz (by omega),bcase_false]
 refine ldP_of W.I.p (ldI_of (W.I.job hi (by omega)) ?_)
 refine result38 W.W.H (fun q=>absurd (by omega) (q j hm)) fun y j' hy ej'=>⟨_,_,rfl,?_⟩
 have:j'=j:=by
  have e1:(G.P.jobs.map (·.id))[y]? =some j.id:=by rw[List.getElem?_map,hy];exact congrArg some (show j'.id=_ by omega)
  have e2:(G.P.jobs.map (·.id))[x]? =some j.id:=by rw[List.getElem?_map,hx];rfl
  have:=nodup_inj W.W.H.ids.1 e1 e2
  subst this
  rw[hy]at hx
  injection hx
 subst this
 rw[if_pos hd]
 have fin: ∀{hh:Heap} {G1:EG} {er:Nat},EWd hh e G1→Eside e G h G1 hh→G1.P=G.P→(G1.E.ses i).job=(G.E.ses i).job→G1.E.ans=G.E.ans→(∀h2,EWd h2 e (ansG (forG G1 (G.E.ses i).job) i (er:Int) 0)→Eside e G h (ansG (forG G1 (G.E.ses i).job) i (er:Int) 0) h2→K (.bool true) h2)→F127.wk8 ⟨e,0,none⟩ ⟨e,3+24*i,none⟩ (er:Int) hh K:=fun {hh G1 er} W1 S1 eP eJ eA hK=>by
  unfold F127.wk8
  simp only[add_mk,Nat.zero_add]
  refine ldP_of W1.I.p (ldI_of (W1.I.job hi (by omega)) ?_)
  rw[eJ]
  refine e_forget W1 (x:=x) (j:=j') (by rw[eP];exact hx) ej hd fun h2 b W2 S2=>ldB_of rfl ?_
  refine e_answers (n:=0) W2 hi (by show G1.E.ans<_;rw[eA];exact ha) fun h3 W3 S3=>⟨rfl,hK h3 W3 ((S1.trans S2).trans S3)⟩
 unfold endG at hK
 rcases he with z|z
 ·rw[z,if_pos ⟨hd,rfl⟩,show(((0:Nat):Int)==61)=false from rfl,bcase_false,show(((0:Nat):Int)==0)=true from rfl,bcase_true]
  refine e_sets W hi hd6 ed (hv z) hM fun h1 f1 W1 S1=>⟨rfl,?_⟩
  rw[z]at hK
  refine fin W1 S1 rfl (by show((G.E.put i (setS (G.E.ses i) d j'.A.told)).ses i).job=_;rw[put_ses];rfl) rfl fun h2 W2 S2=> ?_
  have:=hK h2 f1
  rw[if_pos rfl]at this
  exact this W2 S2
 ·rw[z,if_neg (by omega),show(((60:Nat):Int)==61)=false from rfl,bcase_false,show(((60:Nat):Int)==0)=false from rfl,bcase_false]
  rw[z]at hK
  refine fin W Eside.refl rfl rfl rfl fun h2 W2 S2=> ?_
  have:=hK h2 G.f
  rw[if_neg (by omega)]at this
  exact this W2 S2
end
end
section
section
variable {h h':Heap}{e s w:Nat}{G G0 G':EG}{K:Value→Heap→Prop}
theorem solo_pick{draw:Int}(W:EWd h e G)(hs:s<4)(hp:(G.E.ses s).pend=true)(solo: ∀k,k<4→k≠s→(G.E.ses k).pend=false)(hw:w<G.P.ws.length)(R:Heap→EG→Prop)
  (hR: ∀{h1 G1},R h1 G1→EWd h1 e G1∧ ∀k,k<4→s<k→(G1.E.ses k).pend=false) (hO: ∀{h1 G1 h2},R h1 G1→Only [] h1 h2→R h2 G1)
  (hs1: ∀{h1} {Q:Value→Heap→Prop},Only [] h h1→(∀b h2 G2,R h2 G2→Q (.bool b) h2)→Cl (stepN (G.E.ses s).cal.kind) [ptrV e,sesP e s] h1 Q)
  (hE: ∀h1 G1,R h1 G1→F26.wk11 ⟨e,0,none⟩ (w:Int) draw h1 K):Cl 26 [ptrV e,.int .i64 (w:Int),.int .i64 draw] h K:=by
 refine pick26 W (fun q h1 O1=> ?_) (fun i h1 G1=>(i≤s∧G1=G∧Only [] h h1)∨(s<i∧R h1 G1)) (fun h1 O1=> .inl ⟨Nat.zero_le _,rfl,O1⟩) (fun {i h1 G1 h2} I O=> ?_) (fun {i h1 G1} I=> ?_) (fun {i h1 G1} hi I hp'=> ?_) (fun {i h1 G1 Q} hi I hp' hQ=> ?_) (fun _ _ _ h1 G1 I=> ?_)
 ·exfalso
  rcases q with q|q|q
  ·omega
  ·omega
  ·exact q ⟨s,hs,hp⟩
 ·rcases I with⟨a,b,c⟩|⟨a,b⟩
  ·exact .inl ⟨a,b,c.trans O (by simp)⟩
  ·exact .inr ⟨a,hO b O⟩
 ·rcases I with⟨a,b,c⟩|⟨a,b⟩
  ·rw[b];exact W.only0 c
  ·exact(hR b).1
 ·rcases I with⟨a,b,c⟩|⟨a,b⟩
  ·by_cases q:i=s
   ·subst q;rw[b,hp]at hp';cases hp'
   ·exact .inl ⟨by omega,b,c⟩
  ·exact .inr ⟨by omega,b⟩
 ·rcases I with⟨a,b,c⟩|⟨a,b⟩
  ·by_cases q:i=s
   ·subst q
    rw[b]
    exact hs1 c fun b' h2 G2 R2=>hQ b' h2 G2 (.inr ⟨by omega,R2⟩)
   ·rw[b,solo i hi q]at hp';cases hp'
  ·rw[(hR b).2 i hi a]at hp';cases hp'
 ·rcases I with⟨a,b,c⟩|⟨a,b⟩
  ·omega
  ·exact hE h1 G1 b
theorem ex_cnt: ∀{A B:List (Option Nd)},Ex A B→cntN A≤cntN B
 | [],B,_=>Nat.zero_le _
 |none::A,[],h=>ex_cnt (A:=A) (B:=[]) fun i x hx=>by have:=h (i+1) x (by rw[nd_cons];exact hx);simp[nd]at this
 |some x::A,[],h=>by have:=h 0 x (by simp[nd]);simp[nd]at this
 |o::A,p::B,h=>by
  have:=ex_cnt (A:=A) (B:=B) fun i x hx=>by have:=h (i+1) x (by rw[nd_cons];exact hx);rwa[nd_cons]at this
  simp only[cntN,List.countP_cons]at this ⊢
  cases o with
  |none=>simp;omega
  |some x=>
   have h0:=h 0 x (by simp[nd])
   have e:p=some x:=by simpa[nd]using h0
   subst e
   omega
theorem ex_back{A B:List (Option Nd)}(E:Ex A B)(hc:cntN B≤cntN A):Ex B A:=fun i x hx=>by
 apply Classical.byContradiction
 intro hn
 have h0:nd A i=none:=by
  cases h:nd A i with
  |none=>rfl
  |some y=>
   have:=E i y h
   rw[hx]at this
   injection this with this
   subst this
   exact absurd h hn
 have hi:=nd_some.1 hx
 have hl:=(List.getElem?_eq_some_iff.1 hi).1
 have h1:=ex_cnt (A:=A) (B:=B.set i none) fun k y hy=>by
  rw[nd_set hl]
  split
  ·next e=>subst e;rw[h0]at hy;cases hy
  ·exact E k y hy
 have:=cntN_del hi
 omega
structure Keeps(G G':EG):Prop where
 E:G'.E=G.E
 n:G'.n=G.n
 fo:G'.fo=G.fo
 gg:G'.gg=G.gg
 room:G'.room=G.room
 off:G'.off=G.off
 ws:G'.P.ws.length=G.P.ws.length
 last:G'.P.last=G.P.last
 ids:G'.P.jobs.map (fun j=>(j.id,j.G))=G.P.jobs.map fun j=>(j.id,j.G)
 M:G.M≤G'.M∧G'.M≤G.M+1000
 sm: ∀k,k<4→ ∀r,r<6→(G.E.ses k).there r=true→ ∀y,sm G.n G.fo G'.N ((G.E.ses k).hnd r) y=sm G.n G.fo G.N ((G.E.ses k).hnd r) y
 phi:phi G.n G'.N G'.P≤phi G.n G.N G.P
 psi:psi G.n G'.N G'.P≤psi G.n G.N G.P
 bad:(∀j∈G.P.jobs,j.A.e=0)→Ev.psi G.n G.N G.P≤G.room→ ∀j∈G'.P.jobs,j.A.e=0
 sub:G.P.jobs=[]→Ex G'.N G.N
theorem coll_sums{G G1:EG}(C1:Coll G G1)(Ok:PoolOk G1.n G1.fo G1.N G1.P):Ev.phi G.n G1.N G.P=Ev.phi G.n G.N G.P∧Ev.psi G.n G1.N G.P≤Ev.psi G.n G.N G.P:=by
 have fr: ∀j∈G.P.jobs,∀f∈j.A.fs,FrOk G1.n G1.fo G1.N f:=fun j hj=>(Ok.mst j (by rw[C1.P];exact hj)).1.frs
 have em: ∀j∈G.P.jobs,mus G.n G1.N j.A.fs=mus G.n G.N j.A.fs:=fun j hj=>by
  have:=mus_ext (n:=G1.n) (fo:=G1.fo) C1.ex (fr j hj)
  rw[C1.n]at this
  exact this.symm
 have en: ∀j∈G.P.jobs,nbs G.n G1.N j.A.fs=nbs G.n G.N j.A.fs:=fun j hj=>by
  have:=nbs_ext (n:=G1.n) (fo:=G1.fo) C1.ex (fr j hj)
  rw[C1.n]at this
  exact this.symm
 have hc:=C1.cnt
 constructor
 ·unfold Ev.phi
  rw[List.map_congr_left em]
 ·unfold Ev.psi
  rw[List.map_congr_left en]
  omega
theorem PickR.kept(P:PickR w G G'):Keeps G G'∧ ∃k,G.P.ws[w]? =some k∧(Ev.phi G.n G'.N G'.P+1≤Ev.phi G.n G.N G.P∨(k.job=0∧k.q=[]∧WsEq G.P.ws G'.P.ws)):=by
 obtain⟨G1,N',P',L',k,C1,Ok1,e,Pk,hk,hph⟩:=P
 obtain⟨s1,s2⟩:=coll_sums C1 Ok1
 have hn:=C1.n
 have hP:=C1.P
 have hroom:=C1.room
 rw[hP]at Pk hk hph
 rw[hn]at Pk hph
 subst e
 refine⟨⟨C1.E,hn,C1.fo,C1.gg,hroom,C1.off,Pk.alike.2.1,Pk.alike.1,Pk.alike.2.2,C1.M,fun k' h4 r hr ht y=> ?_,?_,?_,fun hb hps=> ?_,fun hj=> ?_⟩,k,hk,?_⟩
 ·have hv:=C1.rg k' h4 r hr ht
  have o1:=C1.ok
  have g1:sm G.n G.fo N' ((G.E.ses k').hnd r) y=sm G.n G.fo G1.N ((G.E.ses k').hnd r) y:=by
   rw[←hn]
   exact Pk.ex.sm o1 hv
  have g2:sm G.n G.fo G.N ((G.E.ses k').hnd r) y=sm G.n G.fo G1.N ((G.E.ses k').hnd r) y:=by
   rw[←hn]
   exact C1.ex.sm o1 hv
  show sm G.n G.fo N' _ y=_
  rw[g1,g2]
 ·have:=Pk.le1;show Ev.phi G.n N' P'≤_;omega
 ·have:=Pk.le2;show Ev.psi G.n N' P'≤_;omega
 ·refine Pk.bad hb ?_
  rw[hroom]
  omega
 ·have l2:=Pk.le2
  have hj':P'.jobs=[]:=List.eq_nil_of_length_eq_zero (by have:=alike_len Pk.alike;rw[hj]at this;simpa using this)
  unfold Ev.psi at l2
  rw[hj,hj']at l2
  exact(ex_back Pk.ex (by simpa using l2)).trans C1.ex
 ·rcases hph with q|q
  ·left;show Ev.phi G.n N' P'+1≤_;omega
  ·exact .inr q
end
end
section
def opF(op:Nat)(x y z:Bool):Bool:=if op=1 then !x else opB op x y z
theorem goal_fun{n:Nat}{fo:Nat→Nat}{N:List (Option Nd)}{op a b c r:Nat}(hop:op=1∨op=2∨op=3∨op=4∨op=5)(R:OpR n fo N (jobG op a b c).op (jobG op a b c).a0 (jobG op a b c).a1 (jobG op a b c).a2 r)(y:Nat):
  sm n fo N r y=opF op (sm n fo N a y) (sm n fo N b y) (sm n fo N c y):=by
 have h:=R.sm y
 unfold jobG at h
 unfold opF
 rcases hop with z|z|z|z|z<;>subst z
 ·rw[h,if_pos rfl]
  show opB 4 (sm n fo N 1 y) (sm n fo N a y) (sm n fo N 0 y)=_
  rw[sm_const (a:=1) (by omega)]
  unfold opB
  cases sm n fo N a y<;>rfl
 ·exact h
 ·exact h
 ·exact h
 ·exact h
def Safe(G:EG):Prop:=cntN G.N+255<G.room
structure Runn(G0:EG)(s op:Nat)(G:EG):Prop where
 st:G.E.s=G0.E.s∧G.E.p=G0.E.p∧G.E.r=G0.E.r
 n:G.n=G0.n
 fo:G.fo=G0.fo
 gg:G.gg=G0.gg
 room:G.room=G0.room
 off:G.off=G0.off
 ws:G.P.ws.length=G0.P.ws.length
 last:G.P.last=G0.P.last+1
 ans:G.E.ans=G0.E.ans
 ses:G.E.ses=upN G0.E.ses s (jobS (G0.E.ses s) (G0.P.last+1))
 M0:G0.M≤G.M
 sm: ∀k,k<4→ ∀r,r<6→(G0.E.ses k).there r=true→ ∀y,sm G0.n G0.fo G.N ((G0.E.ses k).hnd r) y=sm G0.n G0.fo G0.N ((G0.E.ses k).hnd r) y
 job: ∃j,G.P.jobs=[j]∧j.id=G0.P.last+1∧j.G=jobG op (argH (G0.E.ses s) 0) (argH (G0.E.ses s) 1) (argH (G0.E.ses s) 2)
 safe:Safe G0→psi G0.n G.N G.P≤cntN G0.N+255∧ ∀j∈G.P.jobs,j.A.e=0
structure Fini(G0:EG)(s op:Nat)(G:EG):Prop where
 st:G.E.s=G0.E.s∧G.E.p=G0.E.p∧G.E.r=G0.E.r
 n:G.n=G0.n
 fo:G.fo=G0.fo
 gg:G.gg=G0.gg
 room:G.room=G0.room
 off:G.off=G0.off
 ws:G.P.ws.length=G0.P.ws.length
 last:G.P.last=G0.P.last+1
 jobs:G.P.jobs=[]
 ans:G.E.ans=G0.E.ans+1
 M0:G0.M≤G.M
 oth: ∀k,k<4→k≠s→G.E.ses k=G0.E.ses k
 old: ∀k,k<4→ ∀r,r<6→(G0.E.ses k).there r=true→(G.E.ses k).there r=true→(G.E.ses k).hnd r=(G0.E.ses k).hnd r→ ∀y,sm G0.n G0.fo G.N ((G0.E.ses k).hnd r) y=sm G0.n G0.fo G0.N ((G0.E.ses k).hnd r) y
 res:(∃d v:Nat,d<6∧(G0.E.ses s).cal.dst=(d:Int)∧G.E.ses s=ansS (setS (jobS (G0.E.ses s) (G0.P.last+1)) d v) 0 0∧
   ∀y,Ev.sm G0.n G0.fo G.N v y=opF op (Ev.sm G0.n G0.fo G0.N (argH (G0.E.ses s) 0) y) (Ev.sm G0.n G0.fo G0.N (argH (G0.E.ses s) 1) y) (Ev.sm G0.n G0.fo G0.N (argH (G0.E.ses s) 2) y))∨
  (¬Safe G0∧G.E.ses s=ansS (jobS (G0.E.ses s) (G0.P.last+1)) 60 0)
 cnt:Safe G0→cntN G.N≤cntN G0.N+255
section
variable {h h':Heap}{e s w op:Nat}{G G0 G':EG}{K:Value→Heap→Prop}{C:Nat→Nat→Prop}
theorem Runn.sess(R:Runn G0 s op G):G.E.ses s=jobS (G0.E.ses s) (G0.P.last+1):=by rw[R.ses];exact upN_eq
theorem Runn.ne(R:Runn G0 s op G){k:Nat}(hk:k≠s):G.E.ses k=G0.E.ses k:=by rw[R.ses];exact upN_ne hk
theorem Runn.regs(R:Runn G0 s op G)(k:Nat):(G.E.ses k).there=(G0.E.ses k).there∧(G.E.ses k).hnd=(G0.E.ses k).hnd:=by
 by_cases q:k=s
 ·subst q;rw[R.sess];exact⟨rfl,rfl⟩
 ·rw[R.ne q];exact⟨rfl,rfl⟩
theorem one_job{P P':PS}{j:Jb}(hj:P.jobs=[j])(a:P'.jobs.map (fun j=>(j.id,j.G))=P.jobs.map fun j=>(j.id,j.G)): ∃j',P'.jobs=[j']∧j'.id=j.id∧j'.G=j.G:=by
 rw[hj]at a
 match hq:P'.jobs,a with
 | [],a=>simp at a
 | [j'],a=>
  simp at a
  exact⟨j',rfl,a.1,a.2⟩
 |_::_::_,a=>simp at a
theorem Runn.kept(R:Runn G0 s op G)(k:Keeps G G'):Runn G0 s op G':=by
 obtain⟨j,hj,ej,gj⟩:=R.job
 obtain⟨j',hj',ej',gj'⟩:=one_job hj k.ids
 have hn:=R.n
 have hf:=R.fo
 refine⟨by rw[k.E];exact R.st,k.n.trans hn,k.fo.trans hf,k.gg.trans R.gg,k.room.trans R.room,k.off.trans R.off,k.ws.trans R.ws,k.last.trans R.last,by rw[k.E];exact R.ans,by rw[k.E];exact R.ses,Nat.le_trans R.M0 k.M.1,fun q hq r hr ht y=> ?_,⟨j',hj',ej'.trans ej,gj'.trans gj⟩,fun sf=> ?_⟩
 ·have:=k.sm q hq r hr (by rw[(R.regs q).1];exact ht) y
  rw[(R.regs q).2,hn,hf]at this
  rw[this]
  exact R.sm q hq r hr ht y
 ·obtain⟨p1,p2⟩:=R.safe sf
  have p3:=k.psi
  rw[hn]at p3
  refine⟨by omega,k.bad p2 ?_⟩
  unfold Safe at sf
  rw[hn,R.room]
  omega
theorem Fini.kept(hs:s<4)(F:Fini G0 s op G)(k:Keeps G G'):Fini G0 s op G':=by
 have hj':G'.P.jobs=[]:=by
  have:=k.ids
  rw[F.jobs]at this
  simpa using this
 have hn:=F.n
 have hf:=F.fo
 have smr: ∀q,q<4→ ∀r,r<6→(G.E.ses q).there r=true→ ∀y,sm G0.n G0.fo G'.N ((G.E.ses q).hnd r) y=sm G0.n G0.fo G.N ((G.E.ses q).hnd r) y:=fun q hq r hr ht y=>by
  have:=k.sm q hq r hr ht y
  rw[hn,hf]at this
  exact this
 refine⟨by rw[k.E];exact F.st,k.n.trans hn,k.fo.trans hf,k.gg.trans F.gg,k.room.trans F.room,k.off.trans F.off,k.ws.trans F.ws,k.last.trans F.last,hj',by rw[k.E];exact F.ans,Nat.le_trans F.M0 k.M.1,by rw[k.E];exact F.oth,fun q hq r hr ht ht' he y=> ?_,?_,fun sf=> ?_⟩
 ·rw[k.E]at ht' he
  rw[←he,smr q hq r hr ht' y,he]
  exact F.old q hq r hr ht ht' he y
 ·rw[k.E]
  rcases F.res with⟨d,v,d6,ed,ev,fv⟩|z
  ·refine .inl ⟨d,v,d6,ed,ev,fun y=> ?_⟩
   have:=smr s hs d d6 (by rw[ev];exact upN_eq) y
   rw[show(G.E.ses s).hnd d=v by rw[ev];exact upN_eq]at this
   rw[this]
   exact fv y
  ·exact .inr z
 ·have:=F.cnt sf
  have p3:=k.psi
  unfold psi at p3
  rw[hj',F.jobs]at p3
  simp at p3
  omega
end
end
section
structure Beg(G:EG)(s op:Nat):Prop where
 s4:s<4
 pend:(G.E.ses s).pend=true
 solo: ∀k,k<4→k≠s→(G.E.ses k).pend=false
 kind:(G.E.ses s).cal.kind=3
 eop:(G.E.ses s).cal.op=(op:Int)
 join:op=1∨op=2∨op=3∨op=4∨op=5
 refu:refu G.n (G.E.ses s) (G.E.ses s).cal=0
 job:(G.E.ses s).job=0
 jobs:G.P.jobs=[]
 locs:locs G.P.ws=[]
 last:G.P.last+1<100000000
 M:G.M+20000000≤LB/1000
 ans:G.E.ans<1000000000
section
variable {h h':Heap}{e s w op:Nat}{G G0 G':EG}{K:Value→Heap→Prop}{C:Nat→Nat→Prop}
theorem Beg.dst(B:Beg G s op): ∃d:Nat,d<6∧(G.E.ses s).cal.dst=(d:Int):=by
 have:=(refu_zero B.refu).2.1 (by unfold wrK;rw[B.kind];omega)
 exact⟨(G.E.ses s).cal.dst.toNat,by unfold isR at this;omega,by unfold isR at this;omega⟩
theorem Beg.noR(B:Beg G s op): ¬anyR G.E:=fun⟨k,hk,hp,h8⟩=>by
 by_cases q:k=s
 ·subst q;rw[B.kind]at h8;cases h8
 ·rw[B.solo k hk q]at hp;cases hp
theorem runn_sub(B:Beg G0 s op)(W:EWd h e G0){ws:List Wk}{A:MA}(hl:ws.length=G0.P.ws.length)(he:A.e=0)(hm:mus G0.n G0.N A.fs≤1021)(hn:nbs G0.n G0.N A.fs≤2^G0.n-1)(hq:qlen ws=qlen G0.P.ws+1):
  Runn G0 s op (subG G0 s ws A)∧phi G0.n (subG G0 s ws A).N (subG G0 s ws A).P≤1022∧ ∃j,(subG G0 s ws A).P.jobs=[j]∧j.A=A:=by
 have n8:=W.W.S.ok.2.2.1
 have n8:G0.n≤8:=n8
 have p8:2^G0.n≤2^8:=Nat.pow_le_pow_right (by omega) n8
 have eop:(G0.E.ses s).cal.op.toNat=op:=by rw[B.eop];rfl
 have ej:(subG G0 s ws A).P.jobs=[⟨G0.P.last+1,A,jobG op (argH (G0.E.ses s) 0) (argH (G0.E.ses s) 1) (argH (G0.E.ses s) 2)⟩]:=by
  show G0.P.jobs++[_]=_
  rw[B.jobs,eop]
  rfl
 have q0:qlen G0.P.ws=0:=by
  have:=B.locs
  unfold Ev.locs at this
  unfold qlen
  have hz: ∀k∈G0.P.ws,k.q.length=0:=fun k hk=>by
   have:k.loc=[]:=(List.flatMap_eq_nil_iff.1 this) k hk
   unfold Wk.loc at this
   have:=(List.append_eq_nil_iff.1 this).2
   rw[this];rfl
  have gz: ∀l:List Wk,(∀k∈l,k.q.length=0)→(l.map fun k=>k.q.length).sum=0:=fun l=>by
   induction l with
   |nil=>intro _;rfl
   |cons a l ih=>intro hl;rw[List.map_cons,List.sum_cons,hl a (by simp),ih fun k hk=>hl k (by simp[hk])]
  exact gz _ hz
 refine⟨⟨⟨rfl,rfl,rfl⟩,rfl,rfl,rfl,rfl,rfl,hl,rfl,rfl,rfl,Nat.le_refl _,fun k hk r hr ht y=>rfl,⟨_,ej,rfl,rfl⟩,fun sf=>⟨?_,fun j hj=> ?_⟩⟩,?_,⟨_,ej,rfl⟩⟩
 ·unfold psi
  rw[ej]
  show cntN G0.N+(nbs G0.n G0.N A.fs+0)≤_
  omega
 ·rw[ej]at hj
  simp at hj
  subst hj
  exact he
 ·unfold phi
  rw[ej]
  show mus G0.n G0.N A.fs+0+qlen ws≤_
  omega
theorem runn_end(B:Beg G0 s op)(R:Runn G0 s op G)(W:EWd h e G){j:Jb}(hj:G.P.jobs=[j])(hd:j.A.done=true){d:Nat}(d6:d<6)(ed:(G0.E.ses s).cal.dst=(d:Int)){f':Int→Int}:Fini G0 s op (endG G s d j.A.told j.A.e f')∧(j.A.e=0∨j.A.e=60)∧(j.A.e=0→isN G.N j.A.told):=by
 obtain⟨j',hj',ej,gj⟩:=R.job
 have:j'=j:=by rw[hj]at hj';injection hj' with a;exact a.symm
 subst this
 have mst:=(W.W.Ok.mst j' (by rw[hj];simp)).1
 rw[gj]at mst
 have hn:=R.n
 have hf:=R.fo
 have hid:(G.E.ses s).job=G0.P.last+1:=by rw[R.sess];rfl
 have hjf:(forG (if j'.A.e=0 then setG G s d j'.A.told f' else G) (G.E.ses s).job).P.jobs=[]:=by
  have:(if j'.A.e=0 then setG G s d j'.A.told f' else G).P=G.P:=by split<;>rfl
  show List.filter _ (if j'.A.e=0 then setG G s d j'.A.told f' else G).P.jobs=[]
  rw[this,hj,hid]
  simp[ej]
 have base:(endG G s d j'.A.told j'.A.e f').N=G.N∧(endG G s d j'.A.told j'.A.e f').n=G.n∧(endG G s d j'.A.told j'.A.e f').fo=G.fo∧(endG G s d j'.A.told j'.A.e f').gg=G.gg∧(endG G s d j'.A.told j'.A.e f').room=G.room∧(endG G s d j'.A.told j'.A.e f').off=G.off∧(endG G s d j'.A.told j'.A.e f').P.ws=G.P.ws∧(endG G s d j'.A.told j'.A.e f').P.last=G.P.last∧(endG G s d j'.A.told j'.A.e f').E.ans=G.E.ans+1∧G.M≤(endG G s d j'.A.told j'.A.e f').M∧(endG G s d j'.A.told j'.A.e f').E.s=G.E.s∧(endG G s d j'.A.told j'.A.e f').E.p=G.E.p∧(endG G s d j'.A.told j'.A.e f').E.r=G.E.r:=by
  unfold endG
  split
  ·exact⟨rfl,rfl,rfl,rfl,rfl,rfl,rfl,rfl,rfl,Nat.le_add_right _ _,rfl,rfl,rfl⟩
  ·exact⟨rfl,rfl,rfl,rfl,rfl,rfl,rfl,rfl,rfl,Nat.le_refl _,rfl,rfl,rfl⟩
 obtain⟨b1,b2,b3,b4,b5,b6,b7,b8,b9,b10,b11,b12,b13⟩:=base
 have ses:(endG G s d j'.A.told j'.A.e f').E.ses=upN G.E.ses s (ansS (if j'.A.e=0 then setS (G.E.ses s) d j'.A.told else G.E.ses s) (j'.A.e:Int) 0):=by
  unfold endG
  by_cases z:j'.A.e=0
  ·rw[if_pos z,if_pos z]
   show upN (upN G.E.ses s _) s (ansS (upN G.E.ses s (setS (G.E.ses s) d j'.A.told) s) _ 0)=_
   rw[upN_upN,upN_eq]
  ·rw[if_neg z,if_neg z]
   rfl
 have er:j'.A.e=0∨j'.A.e=60:=by
  rcases mst with⟨q,-⟩|⟨-,q,-⟩|⟨-,q,-⟩
  ·rw[q]at hd;cases hd
  ·exact .inl q
  ·exact .inr q
 have opr:j'.A.e=0→OpR G.n G.fo G.N (jobG op (argH (G0.E.ses s) 0) (argH (G0.E.ses s) 1) (argH (G0.E.ses s) 2)).op (jobG op (argH (G0.E.ses s) 0) (argH (G0.E.ses s) 1) (argH (G0.E.ses s) 2)).a0 (jobG op (argH (G0.E.ses s) 0) (argH (G0.E.ses s) 1) (argH (G0.E.ses s) 2)).a1 (jobG op (argH (G0.E.ses s) 0) (argH (G0.E.ses s) 1) (argH (G0.E.ses s) 2)).a2 j'.A.told:=fun z=>by
  rcases mst with⟨q,-⟩|⟨-,-,-,q⟩|⟨-,q,-⟩
  ·rw[q]at hd;cases hd
  ·exact q
  ·rw[z]at q;cases q
 refine⟨⟨⟨b11.trans R.st.1,b12.trans R.st.2.1,b13.trans R.st.2.2⟩,b2.trans hn,b3.trans hf,b4.trans R.gg,b5.trans R.room,b6.trans R.off,by rw[b7];exact R.ws,b8.trans R.last,hjf,by rw[b9,R.ans],Nat.le_trans R.M0 b10,fun k hk hks=> ?_,fun k hk r hr ht ht' he y=> ?_,?_,fun sf=> ?_⟩,er,fun z=>(opr z).is⟩
 ·rw[ses,upN_ne hks];exact R.ne hks
 ·rw[b1];exact R.sm k hk r hr ht y
 ·rcases er with z|z
  ·left
   refine⟨d,j'.A.told,d6,ed,?_,fun y=> ?_⟩
   ·rw[ses,upN_eq,if_pos z,z,R.sess];rfl
   ·rw[b1]
    have g:=goal_fun B.join (opr z) y
    rw[hn,hf]at g
    rw[g]
    have ar: ∀q,Ev.sm G0.n G0.fo G.N (argH (G0.E.ses s) q) y=Ev.sm G0.n G0.fo G0.N (argH (G0.E.ses s) q) y:=fun q=>by
     match hx:(rds (G0.E.ses s).cal)[q]? with
     |none=>rw[argH_none hx,sm_const (by omega),sm_const (by omega)]
     |some x=>
      obtain⟨rx,tx⟩:=(refu_zero B.refu).2.2.1 x (List.mem_of_getElem? hx)
      rw[argH_some hx]
      exact R.sm s B.s4 x.toNat (by unfold isR at rx;omega) tx y
    rw[ar 0,ar 1,ar 2]
  ·right
   refine⟨fun sf=> ?_,?_⟩
   ·have:=(R.safe sf).2 j' (by rw[hj];simp)
    rw[z]at this
    cases this
   ·rw[ses,upN_eq,if_neg (by omega),z,R.sess];rfl
 ·rw[b1]
  have:=(R.safe sf).1
  unfold psi at this
  omega
def Rnd(G0:EG)(s op m w:Nat)(G:EG):Prop:=
 Fini G0 s op G∨(Runn G0 s op G∧(∃j,G.P.jobs=[j]∧j.A.done=true)∧(2≤m∨w=0))∨
 (Runn G0 s op G∧(∃j,G.P.jobs=[j]∧j.A.done=false)∧(phi G0.n G.N G.P+3≤m∨(phi G0.n G.N G.P+2≤m∧ ∃w0 k,w≤w0∧G.P.ws[w0]? =some k∧(k.job≠0∨k.q≠[]))))∨
 (w=0∧m=1100∧G=G0)
theorem Fini.pend(F:Fini G0 s op G)(B:Beg G0 s op): ∀k,k<4→(G.E.ses k).pend=false:=fun k hk=>by
 by_cases q:k=s
 ·subst q
  rcases F.res with⟨d,v,-,-,ev,-⟩|⟨-,ev⟩<;>rw[ev]<;>rfl
 ·rw[F.oth k hk q];exact B.solo k hk q
theorem Runn.solo(R:Runn G0 s op G)(B:Beg G0 s op):(G.E.ses s).pend=true∧ ∀k,k<4→k≠s→(G.E.ses k).pend=false:=
 ⟨by rw[R.sess];exact B.pend,fun k hk q=>by rw[R.ne q];exact B.solo k hk q⟩
theorem fin_cases(j:Jb):j.A.done=true∨j.A.done=false:=by cases j.A.done<;>simp
end
end
section
section
variable {h h':Heap}{e s w op m:Nat}{G G0 G':EG}{K:Value→Heap→Prop}{C:Nat→Nat→Prop}
theorem step3{k:Int}(h:k=3):stepN k=127:=by subst h;rfl
theorem rnd_run(R:Runn G0 s op G)(h2:2≤m)(hp:phi G0.n G.N G.P+3≤m):Rnd G0 s op m w G:=by
 obtain⟨j,hj,-,-⟩:=R.job
 rcases fin_cases j with d|d
 ·exact .inr (.inl ⟨R,⟨j,hj,d⟩,.inl h2⟩)
 ·exact .inr (.inr (.inl ⟨R,⟨j,hj,d⟩,.inl hp⟩))
theorem runn_cnt(R:Runn G0 s op G)(sf:Safe G0):cntN G.N≤cntN G0.N+255:=by
 have:=(R.safe sf).1
 unfold psi at this
 omega
theorem rnd_pick(mr:MRspec C)(B:Beg G0 s op)(hC: ∀c,(Safe G0→c≤cntN G0.N+255)→C c G0.room)(W:EWd h e G)(hw:w<G.P.ws.length)(h1:1≤m)(hM:G.M+10000≤LB/1000)(R:Rnd G0 s op m w G){draw:Int}
  (hK: ∀b h' G',EWd h' e G'→Eside e G h G' h'→G'.P.ws.length=G.P.ws.length→G.M≤G'.M→G'.M≤G.M+2000→Rnd G0 s op m (w+1) G'→K (.bool b) h'):Cl 26 [ptrV e,.int .i64 (w:Int),.int .i64 draw] h K:=by
 have hLB:LB=140737488355328:=rfl
 obtain⟨d,d6,ed⟩:=B.dst
 rcases R with F|⟨R,⟨j,hj,hd⟩,hm⟩|⟨R,⟨j,hj,hd⟩,hm⟩|⟨hw0,hm,eG⟩
 ·exact pick_none W (.inr (.inr (anyP_not (F.pend B)))) fun h1 O1=>hK _ h1 G (W.only0 O1) (Eside.only0 O1) rfl (Nat.le_refl _) (by omega) (.inl F)
 ·--the job is done:its result is taken
  obtain⟨p1,p2⟩:=R.solo B
  have hid:(G.E.ses s).job=G0.P.last+1:=by rw[R.sess];rfl
  obtain⟨j',hj',ej,gj⟩:=R.job
  have:j'=j:=by rw[hj]at hj';injection hj' with a;exact a.symm
  subst this
  have er:=(runn_end B R W hj hd d6 ed (f':=G.f)).2
  refine solo_pick W B.s4 p1 p2 hw (fun h1 G1=>EWd h1 e G1∧Eside e G h G1 h1∧Fini G0 s op G1∧G1.M≤G.M+2∧G.M≤G1.M) (fun I=>⟨I.1,fun k hk _=>I.2.2.1.pend B k hk⟩) (fun I O=>⟨I.1.only0 O,I.2.1.trans (Eside.only0 O),I.2.2⟩) (fun {h1 Q} O1 hQ=> ?_) fun h1 G1 I=> ?_
  ·rw[step3 (by rw[R.sess];exact B.kind)]
   refine works_done (W.only0 O1) B.s4 (x:=0) (j:=j') (by rw[hj];rfl) (by rw[ej,hid]) (by omega) hd er.1 er.2 d6 (by rw[R.sess];exact ed) (by omega) (by rw[R.ans];exact B.ans) fun h2 f2 W2 S2=> ?_
   refine hQ true h2 _ ⟨W2,(Eside.only0 O1).trans S2,(runn_end B R W hj hd d6 ed).1,?_⟩
   unfold endG
   split
   ·exact⟨Nat.le_refl _,Nat.le_add_right _ _⟩
   ·exact⟨Nat.le_add_right _ _,Nat.le_refl _⟩
  ·obtain⟨W1,S1,F1,M1,M2⟩:=I
   refine pick_end mr W1 (by rw[F1.room];exact hC _ F1.cnt) (by omega) (by rw[F1.ws,←R.ws];exact hw) fun h2 G2 W2 S2 P=> ?_
   obtain⟨k,-⟩:=P.kept
   have:=k.M
   exact hK true h2 G2 W2 (S1.trans S2) (by rw[k.ws,F1.ws,R.ws]) (by omega) (by omega) (.inl (F1.kept B.s4 k))
 ·--the job is on its way
  obtain⟨p1,p2⟩:=R.solo B
  have hid:(G.E.ses s).job=G0.P.last+1:=by rw[R.sess];rfl
  obtain⟨j',hj',ej,gj⟩:=R.job
  have:j'=j:=by rw[hj]at hj';injection hj' with a;exact a.symm
  subst this
  refine solo_pick W B.s4 p1 p2 hw (fun h1 G1=>EWd h1 e G1∧Eside e G h G1 h1∧G1=G) (fun I=>⟨I.1,fun k hk q=>by rw[I.2.2];exact p2 k hk (by omega)⟩) (fun I O=>⟨I.1.only0 O,I.2.1.trans (Eside.only0 O),I.2.2⟩) (fun {h1 Q} O1 hQ=> ?_) fun h1 G1 I=> ?_
  ·rw[step3 (by rw[R.sess];exact B.kind)]
   exact works_wait (W.only0 O1) B.s4 (x:=0) (j:=j') (by rw[hj];rfl) (by rw[ej,hid]) (by omega) hd (hQ false h1 G ⟨W.only0 O1,Eside.only0 O1,rfl⟩)
  ·obtain⟨W1,S1,e1⟩:=I
   subst e1
   refine pick_end mr W1 (by rw[R.room];exact hC _ (runn_cnt R)) (by omega) hw fun h2 G2 W2 S2 P=> ?_
   obtain⟨k,kw,hkw,pr⟩:=P.kept
   have kM:=k.M
   have R2:=R.kept k
   have ph:=k.phi
   rw[R.n]at ph pr
   refine hK true h2 G2 W2 (S1.trans S2) k.ws (by omega) (by omega) ?_
   have m2:2≤m:=by rcases hm with q|⟨q,-⟩<;>omega
   obtain⟨j2,hj2,-,-⟩:=R2.job
   rcases fin_cases j2 with d2|d2
   ·exact .inr (.inl ⟨R2,⟨j2,hj2,d2⟩,.inl m2⟩)
   ·refine .inr (.inr (.inl ⟨R2,⟨j2,hj2,d2⟩,?_⟩))
    rcases hm with q|⟨q,w0,k0,hw0,hk0,hb0⟩
    ·exact .inl (by omega)
    ·rcases pr with z|⟨z1,z2,z3⟩
     ·exact .inl (by omega)
     ·right
      refine⟨by omega,?_⟩
      obtain⟨k1,hk1,e1⟩:=z3.2 w0 k0 hk0
      refine⟨w0,k1,?_,hk1,?_⟩
      ·apply Classical.byContradiction
       intro hn
       have:w0=w:=by omega
       subst this
       rw[hkw]at hk0
       injection hk0 with hk0
       subst hk0
       rcases hb0 with a|a
       ·exact a z1
       ·exact a z2
      ·rw[e1.2.1,e1.2.2.1];exact hb0
 ·--the job is handed over
  subst eG hw0 hm
  have p1:=B.pend
  have rf:=refu_zero B.refu
  refine solo_pick W B.s4 p1 B.solo hw (fun h1 G1=>EWd h1 e G1∧Eside e G h G1 h1∧Runn G s op G1∧phi G.n G1.N G1.P≤1022∧G1.M=G.M) (fun I=>⟨I.1,fun k hk q=>(I.2.2.1.solo B).2 k hk (by omega)⟩) (fun I O=>⟨I.1.only0 O,I.2.1.trans (Eside.only0 O),I.2.2⟩) (fun {h1 Q} O1 hQ=> ?_) fun h1 G1 I=> ?_
  ·rw[step3 B.kind]
   refine F127.spec _ _ h1 _ ?_
   have W1:=W.only0 O1
   simp only[add_mk,Nat.zero_add]
   refine ldI_of (W1.I.job B.s4 (by omega)) ?_
   rw[B.job,show(((0:Nat):Int)==0)=true from rfl,bcase_true]
   refine submits172 W1 B.s4 B.kind B.eop B.join rf.2.2.1 B.noR (by rw[B.jobs];decide) B.last fun h2 ws A W2 S2 hl dn ee mu nb ql=>ldB_of rfl ?_
   obtain⟨r1,r2,-⟩:=runn_sub B W hl ee mu nb ql
   exact hQ false h2 _ ⟨W2,(Eside.only0 O1).trans S2,r1,r2,rfl⟩
  ·obtain⟨W1,S1,R1,ph,eM⟩:=I
   refine pick_end mr W1 (by rw[R1.room];exact hC _ (runn_cnt R1)) (by omega) (by rw[R1.ws];exact hw) fun h2 G2 W2 S2 P=> ?_
   obtain⟨k,-⟩:=P.kept
   have kM:=k.M
   have kp:=k.phi
   rw[R1.n]at kp
   exact hK true h2 G2 W2 (S1.trans S2) (by rw[k.ws,R1.ws]) (by omega) (by omega) (rnd_run (R1.kept k) (by omega) (by omega))
set_option maxRecDepth 100000 in
theorem job_fair(mr:MRspec C)(B:Beg G0 s op)(W:EWd h e G0)(hC: ∀c,(Safe G0→c≤cntN G0.N+255)→C c G0.room)(hK: ∀h' G',EWd h' e G'→Eside e G0 h G' h'→G'.M≤G0.M+20000000→Fini G0 s op G'→K (.bool true) h'):Cl 42 [ptrV e] h K:=by
 have hLB:LB=140737488355328:=rfl
 have wl:=W.W.Ok.len
 have bM:=B.M
 refine fair42 (m:=1100)
  (fun m h1 G1=>EWd h1 e G1∧Eside e G0 h G1 h1∧G1.P.ws.length=G0.P.ws.length∧m≤1100∧G1.M≤G0.M+2000*(4*(1100-m))∧
   (Fini G0 s op G1∨(Runn G0 s op G1∧(∃j,G1.P.jobs=[j]∧j.A.done=true)∧1≤m)∨(Runn G0 s op G1∧(∃j,G1.P.jobs=[j]∧j.A.done=false)∧phi G0.n G1.N G1.P+2≤m)∨(m=1100∧G1=G0)))
  (fun m w h1 G1=>EWd h1 e G1∧Eside e G0 h G1 h1∧G1.P.ws.length=G0.P.ws.length∧1≤m∧m≤1100∧G1.M≤G0.M+2000*(4*(1100-m)+w)∧Rnd G0 s op m w G1)
  G0.P.ws.length wl.2 ⟨W,Eside.refl,rfl,Nat.le_refl _,by omega,.inr (.inr (.inr ⟨rfl,rfl⟩))⟩ (by omega) (fun I=>I.1) (fun I=>⟨I.1,I.2.2.1⟩) (fun {m h1 G1} I a=> ?_) (fun {m w h1 G1 Q draw} hw I hQ=> ?_) (fun {m h1 G1} I=> ?_) (fun m' h1 G1 _ I a=> ?_)
 ·obtain⟨W1,S1,l1,m1,M1,I⟩:=I
  have one:1≤m∧Rnd G0 s op m 0 G1:=by
   rcases I with F|⟨R,d,hm⟩|⟨R,⟨j,hj,d⟩,hm⟩|⟨hm,eG⟩
   ·exact absurd a (anyP_not (F.pend B))
   ·exact⟨hm,.inr (.inl ⟨R,d,.inr rfl⟩)⟩
   ·obtain⟨w0,k0,hk0,hb0⟩:=busy_of W1.W.Ok (j:=j) (by rw[hj];simp) d
    exact⟨by omega,.inr (.inr (.inl ⟨R,⟨j,hj,d⟩,.inr ⟨hm,w0,k0,Nat.zero_le _,hk0,hb0⟩⟩))⟩
   ·exact⟨by omega,.inr (.inr (.inr ⟨rfl,hm,eG⟩))⟩
  exact⟨W1,S1,l1,one.1,m1,by omega,one.2⟩
 ·obtain⟨W1,S1,l1,m1,m2,M1,R1⟩:=I
  refine rnd_pick mr B hC W1 (by rw[l1];exact hw) m1 (by omega) R1 fun b h2 G2 W2 S2 l2 a1 a2 R2=> ?_
  exact hQ b h2 G2 ⟨W2,S1.trans S2,l2.trans l1,m1,m2,by omega,R2⟩
 ·obtain⟨W1,S1,l1,m1,m2,M1,R1⟩:=I
  have nw:=wl.1
  have nw4:=wl.2
  rcases R1 with F|⟨R,d,hm⟩|⟨R,d,hm⟩|⟨hw,-,-⟩
  ·exact⟨0,by omega,W1,S1,l1,by omega,by omega,.inl F⟩
  ·exact⟨1,by omega,W1,S1,l1,by omega,by omega,.inr (.inl ⟨R,d,Nat.le_refl _⟩)⟩
  ·refine⟨m-1,by omega,W1,S1,l1,by omega,by omega,.inr (.inr (.inl ⟨R,d,?_⟩))⟩
   rcases hm with q|⟨q,w0,k0,hw0,hk0,-⟩
   ·omega
   ·have:=(List.getElem?_eq_some_iff.1 hk0).1
    omega
  ·omega
 ·obtain⟨W1,S1,l1,m1,M1,I⟩:=I
  rcases I with F|⟨R,-,-⟩|⟨R,-,-⟩|⟨-,eG⟩
  ·exact hK h1 G1 W1 S1 (by omega) F
  ·exact absurd ⟨s,B.s4,(R.solo B).1⟩ a
  ·exact absurd ⟨s,B.s4,(R.solo B).1⟩ a
  ·subst eG
   exact absurd ⟨s,B.s4,B.pend⟩ a
end
end
section
structure Aft(G0:EG)(s:Nat)(x':Ses)(Φ:Nat→Nat→Bool)(add:Nat)(G:EG):Prop where
 st:G.E.s=G0.E.s∧G.E.p=G0.E.p∧G.E.r=G0.E.r
 n:G.n=G0.n
 fo:G.fo=G0.fo
 gg:G.gg=G0.gg
 room:G.room=G0.room
 off:G.off=G0.off
 ws:G.P.ws.length=G0.P.ws.length
 last:G.P.last≤G0.P.last+1
 jobs:G.P.jobs=[]
 ans:G.E.ans=G0.E.ans+1
 M:G.M≤G0.M+20000000
 pend:x'.pend=false
 ses:G.E.ses s=x'
 oth: ∀k,k<4→k≠s→G.E.ses k=G0.E.ses k
 fs: ∀r,r<6→x'.there r=true→ ∀y,sm G0.n G0.fo G.N (x'.hnd r) y=Φ r y
 old: ∀k,k<4→k≠s→ ∀r,r<6→(G0.E.ses k).there r=true→ ∀y,sm G0.n G0.fo G.N ((G0.E.ses k).hnd r) y=sm G0.n G0.fo G0.N ((G0.E.ses k).hnd r) y
 cnt:cntN G.N≤cntN G0.N+add
section
variable {h h':Heap}{e s w op m add:Nat}{G G0 G':EG}{K:Value→Heap→Prop}{C:Nat→Nat→Prop}{x':Ses}{Φ:Nat→Nat→Bool}
theorem Aft.kept(hs:s<4)(A:Aft G0 s x' Φ add G)(k:Keeps G G')(hM:G'.M≤G0.M+20000000):Aft G0 s x' Φ add G':=by
 have hj':G'.P.jobs=[]:=by
  have:=k.ids
  rw[A.jobs]at this
  simpa using this
 have hn:=A.n
 have hf:=A.fo
 have smr: ∀q,q<4→ ∀r,r<6→(G.E.ses q).there r=true→ ∀y,sm G0.n G0.fo G'.N ((G.E.ses q).hnd r) y=sm G0.n G0.fo G.N ((G.E.ses q).hnd r) y:=fun q hq r hr ht y=>by
  have:=k.sm q hq r hr ht y
  rw[hn,hf]at this
  exact this
 refine⟨by rw[k.E];exact A.st,k.n.trans hn,k.fo.trans hf,k.gg.trans A.gg,k.room.trans A.room,k.off.trans A.off,k.ws.trans A.ws,by rw[k.last];exact A.last,hj',by rw[k.E];exact A.ans,hM,A.pend,by rw[k.E];exact A.ses,by rw[k.E];exact A.oth,fun r hr ht y=> ?_,fun q hq hqs r hr ht y=> ?_,?_⟩
 ·have:=smr s hs r hr (by rw[A.ses];exact ht) y
  rw[A.ses]at this
  rw[this]
  exact A.fs r hr ht y
 ·have:=smr q hq r hr (by rw[A.oth q hq hqs];exact ht) y
  rw[A.oth q hq hqs]at this
  rw[this]
  exact A.old q hq hqs r hr ht y
 ·have:=A.cnt
  have p3:=k.psi
  unfold psi at p3
  rw[hj',A.jobs]at p3
  simp at p3
  omega
theorem Aft.none(hp: ∀k,k<4→k≠s→(G0.E.ses k).pend=false)(A:Aft G0 s x' Φ add G): ∀k,k<4→(G.E.ses k).pend=false:=fun k hk=>by
 by_cases q:k=s
 ·subst q;rw[A.ses];exact A.pend
 ·rw[A.oth k hk q];exact hp k hk q
theorem solo_fair(mr:MRspec C)(W:EWd h e G0)(hs:s<4)(hp:(G0.E.ses s).pend=true)(solo: ∀k,k<4→k≠s→(G0.E.ses k).pend=false)(hM:G0.M+20000000≤LB/1000)(R:EG→Prop)
  (step: ∀{h1} {Q:Value→Heap→Prop},Only [] h h1→(∀b h2 G2,EWd h2 e G2→Eside e G0 h G2 h2→R G2→Q (.bool b) h2)→Cl (stepN (G0.E.ses s).cal.kind) [ptrV e,sesP e s] h1 Q)
  (hR: ∀{G1},R G1→(∃x' Φ add,Aft G0 s x' Φ add G1)∧C (cntN G1.N) G1.room∧G1.M≤G0.M+10000)
  (hK: ∀h' G1 G',R G1→Keeps G1 G'→EWd h' e G'→Eside e G0 h G' h'→K (.bool true) h'):Cl 42 [ptrV e] h K:=by
 have wl:=W.W.Ok.len
 refine fair42 (m:=1) (fun m h1 G1=>EWd h1 e G1∧Eside e G0 h G1 h1∧((m=1∧G1=G0∧Only [] h h1)∨(m=0∧ ∃G2,R G2∧Keeps G2 G1))) (fun m w h1 G1=>EWd h1 e G1∧Eside e G0 h G1 h1∧m=1∧((w=0∧G1=G0∧Only [] h h1)∨(1≤w∧ ∃G2,R G2∧Keeps G2 G1))) G0.P.ws.length wl.2
  ⟨W,Eside.refl,.inl ⟨rfl,rfl,Only.refl _ _⟩⟩ (by omega) (fun I=>I.1) (fun {m w h1 G1} I=>⟨I.1,?_⟩) (fun {m h1 G1} I a=>⟨I.1,I.2.1,?_⟩) (fun {m w h1 G1 Q draw} hw I hQ=> ?_) (fun {m h1 G1} I=> ?_) (fun m' h1 G1 _ I a=> ?_)
 ·rcases I.2.2.2 with⟨-,q,-⟩|⟨-,G2,r,k⟩
  ·rw[q]
  ·obtain⟨⟨x',Φ,add,A⟩,-⟩:=hR r
   rw[k.ws,A.ws]
 ·rcases I.2.2 with⟨q1,q2,q3⟩|⟨q1,G2,r,k⟩
  ·exact⟨q1,.inl ⟨rfl,q2,q3⟩⟩
  ·obtain⟨⟨x',Φ,add,A⟩,-⟩:=hR r
   have:=A.none solo
   rw[←k.E]at this
   exact absurd a (anyP_not this)
 ·obtain⟨W1,S1,m1,q⟩:=I
  rcases q with⟨q1,q2,q3⟩|⟨q1,G2,r,k⟩
  ·subst q2
   refine solo_pick W1 hs hp solo hw (fun h2 G2=>EWd h2 e G2∧Eside e G1 h G2 h2∧R G2) (fun I=>⟨I.1,fun k hk _=> ?_⟩) (fun I O=>⟨I.1.only0 O,I.2.1.trans (Eside.only0 O),I.2.2⟩) (fun {h2 Q2} O2 hQ2=> ?_) fun h2 G2 I=> ?_
   ·obtain⟨⟨x',Φ,add,A⟩,-⟩:=hR I.2.2
    exact A.none solo k hk
   ·exact step (q3.trans O2 (by simp)) fun b h3 G3 W3 S3 R3=>hQ2 b h3 G3 ⟨W3,S3,R3⟩
   ·obtain⟨W2,S2,R2⟩:=I
    obtain⟨⟨x',Φ,add,A⟩,c2,m2⟩:=hR R2
    refine pick_end mr W2 c2 (by omega) (by rw[A.ws];exact hw) fun h3 G3 W3 S3 P=> ?_
    obtain⟨k,-⟩:=P.kept
    exact hQ _ h3 G3 ⟨W3,S2.trans S3,m1,.inr ⟨by omega,G2,R2,k⟩⟩
  ·obtain⟨⟨x',Φ,add,A⟩,-⟩:=hR r
   have no:=A.none solo
   rw[←k.E]at no
   exact pick_none W1 (.inr (.inr (anyP_not no))) fun h2 O2=>hQ _ h2 G1 ⟨W1.only0 O2,S1.trans (Eside.only0 O2),m1,.inr ⟨by omega,G2,r,k⟩⟩
 ·obtain⟨W1,S1,m1,q⟩:=I
  rcases q with⟨q1,-,-⟩|⟨q1,q2⟩
  ·omega
  ·exact⟨0,by omega,W1,S1,.inr ⟨rfl,q2⟩⟩
 ·obtain⟨W1,S1,q⟩:=I
  rcases q with⟨q1,q2,-⟩|⟨q1,G2,r,k⟩
  ·subst q2
   exact absurd ⟨s,hs,hp⟩ a
  ·exact hK h1 G2 G1 r k W1 S1
end
end
section
abbrev Fns:=Nat→Nat→Option (Nat→Bool)
def Md(G:EG)(F:Fns):Prop:= ∀k,k<4→ ∀r,r<6→(F k r=none→(G.E.ses k).there r=false)∧ ∀f,F k r=some f→(G.E.ses k).there r=true∧ ∀y,sm G.n G.fo G.N ((G.E.ses k).hnd r) y=f y
def updF(F:Fns)(s d:Nat)(g:Option (Nat→Bool)):Fns:=fun k r=>if k=s∧r=d then g else F k r
structure Qt(h:Heap)(e:Nat)(G:EG)(F:Fns)(t:Nat):Prop where
 W:EWd h e G
 md:Md G F
 jobs:G.P.jobs=[]
 pend: ∀k,k<4→(G.E.ses k).pend=false
 last:G.P.last≤t
 M:G.M≤30000000*t
 ans:G.E.ans≤4*t
 cnt:cntN G.N≤255*t
 t:t<1000
section
variable {h h':Heap}{e s w op d t:Nat}{G G0 G1 G':EG}{K:Value→Heap→Prop}{C:Nat→Nat→Prop}{F:Fns}{c:Cal}
theorem Qt.only0(Q:Qt h e G F t)(O:Only [] h h'):Qt h' e G F t:=⟨Q.W.only0 O,Q.md,Q.jobs,Q.pend,Q.last,Q.M,Q.ans,Q.cnt,Q.t⟩
theorem locs_nil(W:EWd h e G)(hj:G.P.jobs=[]):locs G.P.ws=[]:=by
 match hq:locs G.P.ws with
 | []=>rfl
 |x::l=>
  obtain⟨j,hj',-⟩:=W.W.Ok.at_ x (by rw[hq];simp)
  rw[hj]at hj'
  cases hj'
theorem Md.set(m:Md G F)(hs:s<4){x:Ses}{v er num:Nat}(hd:d<6){g:Nat→Bool}(hn:G'.n=G.n)(hf:G'.fo=G.fo)(hx:x.there=(G.E.ses s).there∧x.hnd=(G.E.ses s).hnd)(es:G'.E.ses s=ansS (setS x d v) er num)(hv: ∀y,sm G.n G.fo G'.N v y=g y)
  (oth: ∀k,k<4→k≠s→(G'.E.ses k).there=(G.E.ses k).there∧(G'.E.ses k).hnd=(G.E.ses k).hnd)
  (old: ∀k,k<4→ ∀r,r<6→(G.E.ses k).there r=true→(G'.E.ses k).there r=true→(G'.E.ses k).hnd r=(G.E.ses k).hnd r→ ∀y,sm G.n G.fo G'.N ((G.E.ses k).hnd r) y=sm G.n G.fo G.N ((G.E.ses k).hnd r) y):Md G' (updF F s d (some g)):=fun k hk r hr=>by
 unfold updF
 rw[hn,hf]
 by_cases q:k=s
 ·subst q
  have tr:(G'.E.ses k).there r=if r=d then true else(G.E.ses k).there r:=by
   rw[es]
   show upN x.there d true r=_
   rw[hx.1]
   rfl
  have hh:(G'.E.ses k).hnd r=if r=d then v else(G.E.ses k).hnd r:=by
   rw[es]
   show upN x.hnd d v r=_
   rw[hx.2]
   rfl
  by_cases z:r=d
  ·rw[if_pos ⟨rfl,z⟩]
   refine⟨fun q=>(by cases q),fun f q=> ?_⟩
   injection q with q
   subst q
   rw[tr,hh,if_pos z,if_pos z]
   exact⟨rfl,hv⟩
  ·rw[if_neg (fun w=>z w.2)]
   rw[if_neg z]at tr hh
   obtain⟨m1,m2⟩:=m k hk r hr
   refine⟨fun q=>by rw[tr];exact m1 q,fun f q=> ?_⟩
   obtain⟨a,b⟩:=m2 f q
   refine⟨by rw[tr];exact a,fun y=> ?_⟩
   rw[hh,old k hk r hr a (by rw[tr];exact a) hh y]
   exact b y
 ·rw[if_neg (fun w=>q w.1)]
  obtain⟨o1,o2⟩:=oth k hk q
  obtain⟨m1,m2⟩:=m k hk r hr
  refine⟨fun z=>by rw[o1];exact m1 z,fun f z=> ?_⟩
  obtain⟨a,b⟩:=m2 f z
  refine⟨by rw[o1];exact a,fun y=> ?_⟩
  rw[o2,old k hk r hr a (by rw[o1];exact a) (by rw[o2]) y]
  exact b y
theorem now53(hs:s<4)(W:EWd h e G)(hp:(G.E.ses s).pend=false)(hm:c.mask<256)(hr:refu G.n (G.E.ses s) c=0)(R:EG→Prop)
  (fair: ∀{h1} {Q:Value→Heap→Prop},EWd h1 e (bgnG G s c)→(∀h2 G2,EWd h2 e G2→Eside e (bgnG G s c) h1 G2 h2→R G2→Q (.bool true) h2)→Cl 42 [ptrV e] h1 Q)
  (hR: ∀{G2},R G2→(G2.E.ses s).ansd=true)
  (hK: ∀h' G2,EWd h' e G2→Eside e G h G2 h'→R G2→K (.tuple #[.agg #[.int .i64 (G2.E.ses s).err,.int .u64 ((G2.E.ses s).num:Int)],.bool true]) h'):
  Cl 53 [ptrV e,.int .i64 (s:Int),calV c] h K:=by
 refine F53.spec _ _ _ _ _ _ _ _ _ h K ?_
 refine newK_at fun h1 A1 O1 z1=>newK_at fun h2 A2 O2 z2=> ?_
 have A1':=A1.only O2 (by simp)
 have r: ∀k,rd h2 ⟨h.size,k,none⟩=([.int .i64 c.kind,.int .i64 c.op,.int .i64 c.dst,.int .i64 c.a,.int .i64 c.b,.int .i64 c.c,.int .u8 (c.mask:Int)]:List Value)[k]? :=fun k=>At.rd A1' k
 simp only[add_mk,Nat.zero_add]
 refine ldI_of (n:=c.kind) (by rw[r];rfl) (ldI_of (n:=c.op) (by rw[r];rfl) (ldI_of (n:=c.dst) (by rw[r];rfl) (ldI_of (n:=c.a) (by rw[r];rfl) (ldI_of (n:=c.b) (by rw[r];rfl) (ldI_of (n:=c.c) (by rw[r];rfl) (ldI_of (n:=(c.mask:Int)) (by rw[r];rfl) ?_))))))
 have O12:=O1.trans O2 (by simp)
 have W2:=W.only0 O12
 have lt:=W.lt
 have z1':=O1.size
 refine e_begin (c:=c) (i:=(s:Int)) W2 hm (fun q=>by omega) (fun k hk ek hp2=> ?_) (fun k hk ek hp2 hr2=> ?_) fun k hk ek hp2 hr2 h3 W3 S3=>ldI_of rfl ?_
 ·have ek:k=s:=by omega
  subst ek;rw[hp]at hp2;cases hp2
 ·have ek:k=s:=by omega
  subst ek;exact absurd hr hr2
 have ek:k=s:=by omega
 subst ek
 rw[show((0:Int) !=0)=false from rfl,bcase_false]
 refine fair W3 fun h4 G2 W4 S4 R4=>ldB_of rfl ?_
 rw[Bool.not_true,bcase_false]
 refine answer43 W4.I (fun q=>by omega) fun k' hk' ek' h5 O5=>⟨_,_,_,rfl,?_⟩
 have ek':k'=k:=by omega
 subst ek'
 have ha:=hR R4
 rw[ha,if_pos rfl,if_pos rfl]
 have S24:Eside e G h2 G2 h4:=S3.trans S4
 have A4:At h4 h1.size [.int .i64 (0:Int),.int .u64 (0:Int)]:=by
  have:=S24.O (ebl e G) (fun b hb=>hb)
  exact At.only A2 this fun hm=>by have:=lt _ hm;omega
 have A5:=A4.only O5 (by simp)
 refine stK_at A5 (by simp) rfl fun h6 A6 O6 z6=>stK_at A6 (by simp) rfl fun h7 A7 O7 z7=> ?_
 refine ldI_of (n:=(G2.E.ses k').err) (by rw[At.rd A7];rfl) (ldI_of (n:=((G2.E.ses k').num:Int)) (by rw[At.rd A7];rfl) ?_)
 have nb:h1.size∉ebl e G2:=fun hm=>by
  rcases S24.B _ hm with q|q
  ·have:=lt _ q;omega
  ·have:=A2.lt;omega
 have O57:Only [h1.size] h5 h7:=O6.trans O7 fun b hb _=>hb
 have W5:=W4.only0 O5
 have W7:EWd h7 e G2:=⟨W5.W.only O57 (fun y hy hm=>by simp at hy;subst hy;exact nb (mem_ebl.2 (.inr (.inl hm)))) (fun y hy hm=>by simp at hy;subst hy;exact nb (mem_ebl.2 (.inr (.inr (.inr hm))))),W5.R.only O57 (fun y hy hm=>by simp at hy;subst hy;exact nb (mem_ebl.2 (.inr (.inr (.inl hm))))),W5.I.only O57 (fun hm=>by simp at hm;exact nb (mem_ebl.2 (.inl hm.symm))),W5.C,W5.de,W5.dB,W5.rg,W5.r0,W5.mq,W5.po⟩
 refine hK h7 G2 W7 ⟨fun T hT=> ?_,fun b hb=> ?_⟩ R4
 ·have o1:Only T h h4:=(O12.mono (by simp)).trans (S24.O T hT) fun b hb _=>hb
  exact(o1.trans (O5.mono (by simp)) fun b hb _=>hb).trans O57 fun b hb hl=>by simp at hb;omega
 ·rcases S24.B b hb with q|q
  ·exact .inl q
  ·exact .inr (by have:=O12.size;omega)
theorem now_var(Q:Qt h e G F t)(hs:s<4)(hd:d<6)(hm:c.mask<G.n)(kd:c.kind=1)(ed:c.dst=(d:Int))(room:255*t+5<G.room)
  (hK: ∀h' G',Qt h' e G' (updF F s d (some fun y=>y.testBit c.mask)) (t+1)→Eside e G h G' h'→(G'.n=G.n∧G'.fo=G.fo∧G'.room=G.room∧G'.gg=G.gg)→t+1<1000→K (.tuple #[.agg #[.int .i64 0,.int .u64 0],.bool true]) h') (ht:t+1<1000):
  Cl 53 [ptrV e,.int .i64 (s:Int),calV c] h K:=by
 have hLB:LB=140737488355328:=rfl
 have n8:G.n≤8:=Q.W.W.S.ok.2.2.1
 have rd0:rds c=[]:=by unfold rds;rw[if_neg (by omega),if_neg (by omega),if_neg (by omega)]
 have rf: ∀x:Ses,refu G.n x c=0:=fun x=>by
  unfold refu refu2
  rw[if_neg (by omega),if_neg (fun w=>w.2 (by rw[ed];unfold isR;omega)),if_neg (fun w=>w fun r hr=>by rw[rd0]at hr;cases hr),if_neg (fun w=>by omega),if_neg (fun w=>by omega),if_neg (fun w=>by omega)]
 have qM:=Q.M
 have qa:=Q.ans
 have qc:=Q.cnt
 have sE: ∀k,(bgnG G s c).E.ses k=if k=s then bgnS (G.E.ses s) c else G.E.ses k:=fun k=>rfl
 have Ea:Easy (bgnG G s c):=by
  refine⟨Q.jobs,fun i hi hp=> ?_,by show cntN G.N+5<G.room;omega,by show G.M+20000≤_;omega,by show G.E.ans+10<_;omega⟩
  rw[sE]at hp ⊢
  by_cases q:i=s
  ·rw[if_pos q]at hp ⊢
   exact⟨.inl kd,rf _⟩
  ·rw[if_neg q,Q.pend i hi]at hp;cases hp
 have np:nPd (bgnG G s c).E 4≤4:=nPd_le 4
 refine now53 hs Q.W (Q.pend s hs) (by omega) (rf _) (fun G2=>Ran (bgnG G s c) 4 G2) (fun {h1 Q1} W1 hQ=>easy_fair W1 Ea hQ) (fun {G2} R=> ?_) fun h2 G2 W2 S2 R=> ?_
 ·obtain⟨d',-,-,⟨-,v,q,-⟩|⟨-,q⟩|⟨-,q⟩⟩:=(R.lo s hs hs).1 (by rw[sE,if_pos rfl];rfl)<;>rw[q]<;>rfl
 ·have L:=(R.lo s hs hs).1 (by rw[sE,if_pos rfl];rfl)
  rw[sE,if_pos rfl]at L
  obtain⟨d',d6',ed',L⟩:=L
  have e1:d'=d:=by have e2:c.dst=(d':Int):=ed';omega
  subst e1
  rcases L with⟨-,v,q,sv⟩|⟨k,-⟩|⟨k,-⟩
  ·have oth: ∀k,k<4→k≠s→G2.E.ses k=G.E.ses k:=fun k hk q=>by
    have:=(R.lo k hk hk).2 (by rw[sE,if_neg q];exact Q.pend k hk)
    rw[sE,if_neg q]at this
    exact this
   have md:=Q.md.set (G':=G2) hs (x:=bgnS (G.E.ses s) c) (v:=v) (er:=0) (num:=0) hd (g:=fun y=>y.testBit c.mask) R.n R.fo ⟨rfl,rfl⟩ q sv (fun k hk z=>by rw[oth k hk z];exact⟨rfl,rfl⟩) (fun k hk r hr ht ht' he y=>by
    have e3:((bgnG G s c).E.ses k).there=(G.E.ses k).there∧((bgnG G s c).E.ses k).hnd=(G.E.ses k).hnd:=by
     rw[sE]
     by_cases z:k=s
     ·rw[if_pos z,z];exact⟨rfl,rfl⟩
     ·rw[if_neg z];exact⟨rfl,rfl⟩
    have:=R.old k hk r hr (by rw[e3.1];exact ht) ht' (by rw[e3.2];exact he) y
    rw[e3.2]at this
    exact this)
   have rc:cntN G2.N≤cntN G.N+4:=R.cnt
   have rM:G2.M≤G.M+1002*4+1000:=R.M.2
   have ra:G2.E.ans=G.E.ans+nPd (bgnG G s c).E 4:=R.ans
   have Q2:Qt h2 e G2 (updF F s d' (some fun y=>y.testBit c.mask)) (t+1):=⟨W2,md,R.jobs,R.none,by have:G2.P.last=G.P.last:=R.last;have:=Q.last;omega,by omega,by omega,by omega,ht⟩
   have:=hK h2 G2 Q2 S2 ⟨R.n,R.fo,R.room,R.gg⟩ ht
   rw[q]
   exact this
  ·exact absurd (show c.kind=2 from k) (by omega)
  ·exact absurd (show c.kind=6 from k) (by omega)
end
end
section
def gF(F:Fns)(s:Nat)(c:Cal)(i:Nat)(y:Nat):Bool:=match (rds c)[i]? with|some r=>(match F s r.toNat with|some f=>f y|none=>false)|none=>false
section
variable {h h':Heap}{e s w op d t:Nat}{G G0 G1 G':EG}{K:Value→Heap→Prop}{C:Nat→Nat→Prop}{F:Fns}{c:Cal}
theorem rds_ok(md:Md G F)(hs:s<4)(hr: ∀r∈rds c,isR r∧ ∃f,F s r.toNat=some f):rdsOk (G.E.ses s) c:=fun r hm=>by
 obtain⟨a,f,b⟩:=hr r hm
 exact⟨a,((md s hs r.toNat (by unfold isR at a;omega)).2 f b).1⟩
theorem arg_fun(md:Md G F)(hs:s<4)(hr: ∀r∈rds c,isR r∧ ∃f,F s r.toNat=some f)(i y:Nat):sm G.n G.fo G.N (argH (bgnS (G.E.ses s) c) i) y=gF F s c i y:=by
 unfold gF argH
 show sm G.n G.fo G.N (match (rds c)[i]? with|some r=>(G.E.ses s).hnd r.toNat|none=>0) y=_
 match hx:(rds c)[i]? with
 |none=>exact sm_const (a:=0) (by omega)
 |some x=>
  obtain⟨a,f,b⟩:=hr x (List.mem_of_getElem? hx)
  show sm G.n G.fo G.N ((G.E.ses s).hnd x.toNat) y=(match F s x.toNat with|some f=>f y|none=>false)
  rw[b]
  exact((md s hs x.toNat (by unfold isR at a;omega)).2 f b).2 y
theorem refu_job(kd:c.kind=3)(eo:c.op=(op:Int))(hop:op=1∨op=2∨op=3∨op=4∨op=5)(ed:c.dst=(d:Int))(hd:d<6){n:Nat}{x:Ses}(ok:rdsOk x c):refu n x c=0:=by
 unfold refu refu2
 rw[if_neg (by omega),if_neg (fun w=>w.2 (by rw[ed];unfold isR;omega)),if_neg (fun w=>w ok),if_neg,if_neg (fun w=>by omega),if_neg (fun w=>by omega)]
 intro w
 have:=w.2
 rw[eo]at this
 rcases hop with z|z|z|z|z<;>subst z<;>cases this
theorem now_job(Q:Qt h e G F t)(hs:s<4)(hd:d<6)(hm:c.mask<256)(kd:c.kind=3)(eo:c.op=(op:Int))(hop:op=1∨op=2∨op=3∨op=4∨op=5)(ed:c.dst=(d:Int))(hr: ∀r∈rds c,isR r∧ ∃f,F s r.toNat=some f)(room:255*t+255<G.room)(ht:t+1<1000)
  (hK: ∀h' G',Qt h' e G' (updF F s d (some fun y=>opF op (gF F s c 0 y) (gF F s c 1 y) (gF F s c 2 y))) (t+1)→Eside e G h G' h'→(G'.n=G.n∧G'.fo=G.fo∧G'.room=G.room∧G'.gg=G.gg)→K (.tuple #[.agg #[.int .i64 0,.int .u64 0],.bool true]) h'):
  Cl 53 [ptrV e,.int .i64 (s:Int),calV c] h K:=by
 have hLB:LB=140737488355328:=rfl
 have qM:=Q.M
 have qa:=Q.ans
 have qc:=Q.cnt
 have ql:=Q.last
 have sE: ∀k,(bgnG G s c).E.ses k=if k=s then bgnS (G.E.ses s) c else G.E.ses k:=fun k=>rfl
 have ss:(bgnG G s c).E.ses s=bgnS (G.E.ses s) c:=by rw[sE,if_pos rfl]
 have ok:=rds_ok Q.md hs hr
 have B:Beg (bgnG G s c) s op:=⟨hs,by rw[ss];rfl,fun k hk q=>by rw[sE,if_neg q];exact Q.pend k hk,by rw[ss];exact kd,by rw[ss];exact eo,hop,by rw[ss];exact refu_job kd eo hop ed hd ok,by rw[ss];rfl,Q.jobs,(by have:=locs_nil Q.W Q.jobs;exact this),by show G.P.last+1<_;omega,by show G.M+_≤_;omega,by show G.E.ans<_;omega⟩
 have sf:Safe (bgnG G s c):=by show cntN G.N+255<G.room;omega
 refine now53 hs Q.W (Q.pend s hs) hm (refu_job kd eo hop ed hd ok) (fun G2=>G2.M≤G.M+20000000∧Fini (bgnG G s c) s op G2) (fun {h1 Q1} W1 hQ=>job_fair mr_less B W1 (fun c0 hc=> ?_) fun h2 G2 W2 S2 m2 F2=>hQ h2 G2 W2 S2 ⟨m2,F2⟩) (fun {G2} R=> ?_) fun h2 G2 W2 S2 R=> ?_
 ·have:=hc sf
  show c0<G.room
  have:c0≤cntN G.N+255:=this
  omega
 ·rcases R.2.res with⟨d',v,-,-,q,-⟩|⟨-,q⟩<;>rw[q]<;>rfl
 ·obtain⟨m2,R⟩:=R
  rcases R.res with⟨d',v,d6',ed',q,sv⟩|⟨q,-⟩
  ·rw[ss]at ed' q sv
   have e1:d'=d:=by have e2:c.dst=(d':Int):=ed';omega
   subst e1
   have oth: ∀k,k<4→k≠s→G2.E.ses k=G.E.ses k:=fun k hk z=>by
    have:=R.oth k hk z
    rw[sE,if_neg z]at this
    exact this
   have md:=Q.md.set (G':=G2) hs (x:=jobS (bgnS (G.E.ses s) c) ((bgnG G s c).P.last+1)) (v:=v) (er:=0) (num:=0) hd (g:=fun y=>opF op (gF F s c 0 y) (gF F s c 1 y) (gF F s c 2 y)) R.n R.fo ⟨rfl,rfl⟩ q (fun y=>by
    have:=sv y
    rw[show(bgnG G s c).n=G.n from rfl,show(bgnG G s c).fo=G.fo from rfl,show(bgnG G s c).N=G.N from rfl,arg_fun Q.md hs hr,arg_fun Q.md hs hr,arg_fun Q.md hs hr]at this
    exact this) (fun k hk z=>by rw[oth k hk z];exact⟨rfl,rfl⟩) (fun k hk r hr2 ht2 ht' he y=>by
    have e3:((bgnG G s c).E.ses k).there=(G.E.ses k).there∧((bgnG G s c).E.ses k).hnd=(G.E.ses k).hnd:=by
     rw[sE]
     by_cases z:k=s
     ·rw[if_pos z,z];exact⟨rfl,rfl⟩
     ·rw[if_neg z];exact⟨rfl,rfl⟩
    have:=R.old k hk r hr2 (by rw[e3.1];exact ht2) ht' (by rw[e3.2];exact he) y
    rw[e3.2]at this
    exact this)
   have rc:cntN G2.N≤cntN G.N+255:=R.cnt sf
   have ra:G2.E.ans=G.E.ans+1:=R.ans
   have rl:G2.P.last=G.P.last+1:=R.last
   have Q2:Qt h2 e G2 (updF F s d' (some fun y=>opF op (gF F s c 0 y) (gF F s c 1 y) (gF F s c 2 y))) (t+1):=⟨W2,md,R.jobs,R.pend B,by omega,by omega,by omega,by omega,ht⟩
   have:=hK h2 G2 Q2 S2 ⟨R.n,R.fo,R.room,R.gg⟩
   rw[q]
   exact this
  ·exact absurd sf q
end
end
section
section
variable {n:Nat}{fo gg:Nat→Nat}{N:List (Option Nd)}
end
end
section
section
variable {h:Heap}{K:Value→Heap→Prop}
theorem fill_8'{n:Nat}(hn:n≤8): ∀j,j<n→fill n j<8:=fun j hj=>by rw[show fill n j=j from if_pos hj];omega
set_option maxRecDepth 100000 in
theorem known40(hK: ∀h',Only [] h h'→K (.bool true) h'):Cl 40 [] h K:=by
 have hLB:LB=140737488355328:=rfl
 refine F40.spec h K ?_
 refine new18 (n:=4) (room:=16400) (by omega) (by omega) (by omega) (by omega) fun h1 e G W1 s1 a1 n1 m1 f1 g1 _ N1 j1 w1 _ _ M1 b1 O1=>⟨_,_,rfl,?_⟩
 refine new18_bad (n:=9) (by omega) (by omega) ⟨_,_,rfl,?_⟩
 rw[show((0:Int) !=0)=false from rfl,bcase_false,show(Option.isNone (some (Addr.mk e 0 none)))=false from rfl,bcase_false,show((40:Int) !=40)=false from rfl,bcase_false]
 refine workers27 W1 (ldI_of rfl ?_)
 rw[w1,show((((wkn 2:Nat):Int)) !=(2:Int))=false from rfl,bcase_false]
 refine e_begin (c:=⟨1,0,1,0,0,0,2⟩) (i:=0) W1 (by show 2<256;omega) (fun q=>by omega) (fun k hk ek hp=> ?_) (fun k hk ek hp hr=> ?_) fun k hk ek hp hr h2 W2 S2=>ldI_of rfl ?_
 ·rw[s1]at hp;cases hp
 ·exfalso
  apply hr
  rw[n1]
  unfold refu refu2
  rw[if_neg (by decide),if_neg (by decide),if_neg,if_neg (by decide),if_neg (by decide),if_neg (by decide)]
  intro q
  exact q fun r hr=>by simp[rds]at hr
 have ek:k=0:=by omega
 subst ek
 refine e_begin (c:=⟨6,0,0,0,0,0,0⟩) (i:=0) W2 (by show 0<256;omega) (fun q=>by omega) (fun k hk ek _ h3 O3=>ldI_of rfl ?_) (fun k hk ek hp2 _=> ?_) fun k hk ek hp2 _=> ?_
 rotate_left
 ·have ek:k=0:=by omega
  subst ek
  rw[show((bgnG G 0 ⟨1,0,1,0,0,0,2⟩).E.ses 0).pend=true from rfl]at hp2
  cases hp2
 ·have ek:k=0:=by omega
  subst ek
  rw[show((bgnG G 0 ⟨1,0,1,0,0,0,2⟩).E.ses 0).pend=true from rfl]at hp2
  cases hp2
 have W3:=W2.only0 O3
 have e1s:((bgnG G 0 ⟨1,0,1,0,0,0,2⟩).E.ses 1)=(eng0 0 0 0).ses 1:=by rw[←s1];rfl
 have nok: ¬rdsOk ((bgnG G 0 ⟨1,0,1,0,0,0,2⟩).E.ses 1) ⟨4,0,0,0,0,0,0⟩:=fun q=>by
  have:=(q 0 (by simp[rds])).2
  rw[e1s]at this
  cases this
 have rv:refu (bgnG G 0 ⟨1,0,1,0,0,0,2⟩).n ((bgnG G 0 ⟨1,0,1,0,0,0,2⟩).E.ses 1) ⟨4,0,0,0,0,0,0⟩=221:=by
  unfold refu
  rw[if_neg (by decide),if_neg (by decide),if_pos nok]
 refine e_begin (c:=⟨4,0,0,0,0,0,0⟩) (i:=1) W3 (by show 0<256;omega) (fun q=>by omega) (fun k hk ek hp2=> ?_) (fun k hk ek _ hr h4 O4=>ldI_of rfl ?_) fun k hk ek _ hr=> ?_
 ·have ek:k=1:=by omega
  subst ek
  rw[e1s]at hp2
  cases hp2
 rotate_left
 ·have ek:k=1:=by omega
  subst ek
  rw[rv]at hr
  cases hr
 have ek:k=1:=by omega
 subst ek
 rw[rv,show((0:Int) !=0)=false from rfl,bcase_false,show((220:Int) !=220)=false from rfl,bcase_false,show((221:Int) !=221)=false from rfl,bcase_false]
 have W4:=W3.only0 O4
 obtain⟨G2,eG2⟩: ∃G2,G2=bgnG G 0 ⟨1,0,1,0,0,0,2⟩:=⟨_,rfl⟩
 rw[←eG2]at W4 S2
 have sG2: ∀k,k≠0→G2.E.ses k=(eng0 0 0 0).ses k:=fun k hk=>by rw[eG2,←s1];exact upN_ne hk
 have sG0:G2.E.ses 0=bgnS ((eng0 0 0 0).ses 0) ⟨1,0,1,0,0,0,2⟩:=by rw[eG2,←s1];rfl
 refine pending56 W4.I (fun q=>by omega) fun k hk ek=>ldB_of rfl ?_
 have ek:k=0:=by omega
 subst ek
 rw[sG0,show(bgnS ((eng0 0 0 0).ses 0) ⟨1,0,1,0,0,0,2⟩).pend=true from rfl,Bool.not_true,bcase_false]
 have Ea:Easy G2:=by
  refine⟨by rw[eG2];exact j1,fun i hi hp=> ?_,by rw[eG2];show cntN G.N+5<G.room;rw[N1,m1];decide,by rw[eG2];show G.M+20000≤_;rw[M1,hLB];decide,by rw[eG2];show G.E.ans+10<_;rw[a1];decide⟩
  by_cases q:i=0
  ·subst q
   rw[sG0,eG2]
   refine⟨.inl rfl,?_⟩
   show refu G.n _ _=0
   rw[n1]
   unfold refu refu2
   rw[if_neg (by decide),if_neg (by decide),if_neg,if_neg (by decide),if_neg (by decide),if_neg (by decide)]
   intro q
   exact q fun r hr=>by simp[rds,bgnS]at hr
  ·rw[sG2 i q]at hp;cases hp
 refine easy_fair W4 Ea fun h5 G5 W5 S5 R5=>ldB_of rfl ?_
 rw[Bool.not_true,bcase_false]
 obtain⟨d,d6,ed,L⟩:=(R5.lo 0 (by omega) (by omega)).1 (by rw[sG0];rfl)
 have z4:G2.n=4:=by rw[eG2];exact n1
 have zf:G2.fo=fill 4:=by rw[eG2];exact f1
 rw[sG0]at ed L
 have d1:d=1:=by have:(1:Int)=(d:Int):=ed;omega
 subst d1
 rcases L with⟨-,v,e5,sv⟩|⟨k,-⟩|⟨k,-⟩
 rotate_left
 ·cases k
 ·cases k
 refine answer43 W5.I (fun q=>by omega) fun k hk ek h6 O6=>⟨_,_,_,rfl,?_⟩
 have ek:k=0:=by omega
 subst ek
 rw[e5]
 have W6:=W5.only0 O6
 refine newK_at fun h7 A7 O7 z7=> ?_
 refine stK_at (i:=0) A7 (by simp) rfl fun h8 A8 O8 z8=> ?_
 refine stK_at (i:=1) A8 (by simp) rfl fun h9 A9 O9 z9=> ?_
 have O79:Only [] h6 h9:=(O7.trans O8 (by intro x hx hl;simp at hx;omega)).trans O9 (by intro x hx hl;simp at hx;omega)
 have W9:=W6.only0 O79
 refine reg28 W9.I ⟨_,_,rfl,?_⟩
 have rV:regV G5.E 0 1=((v:Int),true):=by
  unfold regV
  rw[if_pos ⟨by omega,by unfold isR;omega⟩,show Int.toNat 0=0 from rfl,show Int.toNat 1=1 from rfl,e5]
  rfl
 rw[rV]
 show bcase true _ _
 rw[bcase_true]
 refine ldI_of (n:=0) (by rw[add_mk,At.rd A9];rfl) ?_
 rw[show((0:Int)==0)=true from rfl,bcase_true,bcase_true]
 refine store23 W9.I (ldP_of rfl ?_)
 refine var28 (v:=2) fun h10 g hg eg O10=>⟨_,_,_,_,rfl,?_⟩
 have W10:=W9.only0 O10
 have hv:isN G5.N v:=by
  have:=W5.rg 0 (by omega) 1 (by omega) (by rw[e5];rfl)
  rw[e5]at this
  exact this
 have n5:G5.n=4:=R5.n.trans z4
 have f5:G5.fo=fill 4:=R5.fo.trans zf
 refine is58 (X:=XL G5.n G5.room G5.fo G5.gg G5.N G5.off) (fun j hj=> ?_) W10.W.S hv hg (fun y hy=> ?_) fun h11 O11=>ldB_of rfl ?_
 ·show G5.fo j<8
  rw[f5]
  exact fill_8' (n:=4) (by omega) j (by rw[←n5];exact hj)
 ·show sm G5.n G5.fo G5.N v y=fb g y
  rw[eg y hy,R5.n,R5.fo,sv y]
  rfl
 rw[bcase_true]
 have W11:=W10.only0 O11
 refine answered54 W11.I (ldI_of rfl ?_)
 have ea:G5.E.ans=1:=by
  rw[R5.ans]
  have a2:G2.E.ans=0:=by rw[eG2];exact a1
  rw[a2]
  unfold nPd sumN sumN sumN sumN sumN
  rw[sG0,sG2 1 (by omega),sG2 2 (by omega),sG2 3 (by omega)]
  rfl
 rw[ea]
 have OO:Only [] h h5:=by
  have b2: ∀b∈ebl e G2,h.size≤b:=by
   intro b hb
   rcases S2.B b hb with q|q
   ·exact b1 b q
   ·have:=O1.size;omega
  exact S5.only (((S2.only O1 b1).trans O3 (by simp)).trans O4 (by simp)) b2
 exact hK h11 ((((OO.trans O6 (by simp)).trans O79 (by simp)).trans O10 (by simp)).trans O11 (by simp))
end
end
section
theorem mod_b{x:Int}(h:IntKind.min .u8≤x∧x≤IntKind.max .u8){d:Int}(hd:0<d)(hd2:d<1000): ∃k:Nat,(k:Int)<d∧IntKind.wrap .i64 (Int.tmod x d)=(k:Int):=by
 have ht:=tmod_fit h hd
 rw[wrap_i64 (by omega) (by omega)]
 exact⟨(Int.tmod x d).toNat,by omega,by omega⟩
section
variable {h0 h h':Heap}{e s k:Nat}{G G':EG}{K:Value→Heap→Prop}
end
end
section
def opCal(o:Nat):Cal:=⟨3,((2+o%3:Nat):Int),((o/3%4:Nat):Int),((o/12%4:Nat):Int),((o/48%4:Nat):Int),0,0⟩
def varCal(k:Nat):Cal:=⟨1,0,(k:Int),0,0,0,k⟩
theorem tm{a b:Nat}(hb:0<b):Int.tmod (a:Int) (b:Int)=((a%b:Nat):Int):=by
 rw[Int.tmod_eq_emod_of_nonneg (by omega)];omega
theorem td{a b:Nat}:Int.tdiv (a:Int) (b:Int)=((a/b:Nat):Int):=by
 rw[Int.tdiv_eq_ediv_of_nonneg (by omega)];omega
theorem w64{a:Nat}(h:a<1000000):IntKind.wrap .i64 (a:Int)=(a:Int):=wrap_i64 (by omega) (by omega)
theorem op_cal{o:Nat}(h:o<256):calV (opCal o)= .agg #[.int .i64 (3:Int),.int .i64 (IntKind.wrap .i64 ((2:Int)+(IntKind.wrap .i64 (Int.tmod (o:Int) (3:Int))))),.int .i64 (IntKind.wrap .i64 (Int.tmod (IntKind.wrap .u8 (Int.tdiv (o:Int) (3:Int))) (4:Int))),.int .i64 (IntKind.wrap .i64 (Int.tmod (IntKind.wrap .u8 (Int.tdiv (o:Int) (12:Int))) (4:Int))),.int .i64 (IntKind.wrap .i64 (Int.tmod (IntKind.wrap .u8 (Int.tdiv (o:Int) (48:Int))) (4:Int))),.int .i64 (0:Int),.int .u8 (0:Int)]:=by
 have e1:IntKind.wrap .i64 ((2:Int)+(IntKind.wrap .i64 (Int.tmod (o:Int) (3:Int))))=((2+o%3:Nat):Int):=by
  rw[show(3:Int)=((3:Nat):Int)from rfl,tm (by omega),w64 (by omega),show(2:Int)+((o%3:Nat):Int)=((2+o%3:Nat):Int) by omega,w64 (by omega)]
 have e2: ∀k:Nat,0<k→IntKind.wrap .i64 (Int.tmod (IntKind.wrap .u8 (Int.tdiv (o:Int) (k:Int))) (4:Int))=((o/k%4:Nat):Int):=fun k hk=>by
  have l1:o/k≤o:=Nat.div_le_self _ _
  have l2:o/k%4<4:=Nat.mod_lt _ (by omega)
  rw[td,wrap8 (by omega),show(4:Int)=((4:Nat):Int)from rfl,tm (by omega),w64 (by omega)]
 have e3:=e2 3 (by omega)
 have e4:=e2 12 (by omega)
 have e5:=e2 48 (by omega)
 rw[e1]
 rw[show((3:Nat):Int)=3 from rfl]at e3
 rw[show((12:Nat):Int)=12 from rfl]at e4
 rw[show((48:Nat):Int)=48 from rfl]at e5
 rw[e3,e4,e5]
 rfl
def opFns(F:Fns)(s o:Nat):Fns:=updF F s (o/3%4) (some fun y=>opF (2+o%3) (gF F s (opCal o) 0 y) (gF F s (opCal o) 1 y) (gF F s (opCal o) 2 y))
def varFns(F:Fns)(s k:Nat):Fns:=updF F s k (some fun y=>y.testBit k)
def opsF(F:Fns)(s:Nat):List Nat→Fns
 | []=>F
 |o::l=>opsF (opFns F s o) s l
def has4(F:Fns)(s:Nat):Prop:= ∀r,r<4→ ∃f,F s r=some f
theorem has4.upd{F:Fns}{s d:Nat}{g:Nat→Bool}(H:has4 F s):has4 (updF F s d (some g)) s:=fun r hr=>by
 unfold updF
 by_cases q:s=s∧r=d
 ·rw[if_pos q];exact⟨g,rfl⟩
 ·rw[if_neg q];exact H r hr
theorem op_rds{o:Nat}:rds (opCal o)=[((o/12%4:Nat):Int),((o/48%4:Nat):Int)]:=by
 unfold rds
 rw[if_neg (by show ¬(3:Int)=4;omega),if_neg (by show ¬(3:Int)=5;omega),if_pos (by show(3:Int)=3;rfl)]
 have:takesZ ((2+o%3:Nat):Int)=2:=by
  have:o%3=0∨o%3=1∨o%3=2:=by omega
  rcases this with z|z|z<;>rw[z]<;>rfl
 show List.take (takesZ ((2+o%3:Nat):Int)).toNat _=_
 rw[this]
 rfl
theorem op_reads{F:Fns}{s o:Nat}(H:has4 F s): ∀r∈rds (opCal o),isR r∧ ∃f,F s r.toNat=some f:=fun r hr=>by
 rw[op_rds]at hr
 simp only[List.mem_cons,List.not_mem_nil,or_false]at hr
 rcases hr with z|z<;>subst z
 ·exact⟨by unfold isR;omega,by rw[Int.toNat_natCast];exact H _ (by omega)⟩
 ·exact⟨by unfold isR;omega,by rw[Int.toNat_natCast];exact H _ (by omega)⟩
section
variable {h h':Heap}{e s t:Nat}{G G':EG}{K:Value→Heap→Prop}{F:Fns}
theorem now_op(Q:Qt h e G F t)(hs:s<4){o:Nat}(H:has4 F s)(room:255*t+255<G.room)(ht:t+1<1000)
  (hK: ∀h' G',Qt h' e G' (opFns F s o) (t+1)→Eside e G h G' h'→(G'.n=G.n∧G'.fo=G.fo∧G'.room=G.room∧G'.gg=G.gg)→K (.tuple #[.agg #[.int .i64 0,.int .u64 0],.bool true]) h'):
  Cl 53 [ptrV e,.int .i64 (s:Int),calV (opCal o)] h K:=
 now_job (op:=2+o%3) (d:=o/3%4) Q hs (by omega) (by show 0<256;omega) rfl rfl (by omega) rfl (op_reads H) room ht hK
theorem now_v(Q:Qt h e G F t)(hs:s<4){k:Nat}(hk:k<4)(hn:k<G.n)(room:255*t+255<G.room)(ht:t+1<1000)
  (hK: ∀h' G',Qt h' e G' (varFns F s k) (t+1)→Eside e G h G' h'→(G'.n=G.n∧G'.fo=G.fo∧G'.room=G.room∧G'.gg=G.gg)→K (.tuple #[.agg #[.int .i64 0,.int .u64 0],.bool true]) h'):
  Cl 53 [ptrV e,.int .i64 (s:Int),calV (varCal k)] h K:=
 now_var (d:=k) (c:=varCal k) Q hs (by omega) hn rfl rfl (by omega) (fun h' G' Q' S' k' _=>hK h' G' Q' S' k') ht
theorem cells2{n1 n2:Int}{Q:Nat→Heap→Prop}(hQ: ∀h',At h' h.size [.int .i64 n1,.int .u64 n2]→Only [] h h'→Q h.size h'):
  newK h (.cells #[(.int .i64 (0:Int)),(.int .u64 (0:Int))] 76) (fun b6 h7=>stK h7 (Addr.add (Addr.mk b6 0 none) 0) (.int .i64 n1) (fun h8=>stK h8 (Addr.add (Addr.mk b6 0 none) 1) (.int .u64 n2) (fun h9=>Q b6 h9))):=by
 refine newK_at fun h1 A1 O1 z1=> ?_
 rw[add_mk,add_mk]
 refine stK_at (i:=0) A1 (by simp) rfl fun h2 A2 O2 z2=>stK_at (i:=1) A2 (by simp) rfl fun h3 A3 O3 z3=>hQ h3 A3 ?_
 exact(O1.trans O2 (by intro x hx hl;simp at hx;omega)).trans O3 (by intro x hx hl;simp at hx;omega)
theorem fill55{bp:Option Addr}{xs:List Nat}{bc:Nat}(Q:Qt h e G F t)(hs:s<4)(hn:4≤G.n)(hx: ∀o∈xs,o<256)(hl:xs.length≤100)(room:255*(t+4+xs.length)<G.room)(ht:t+4+xs.length<900)
  (hb: ∀hh,(∀T,(∀q∈ebl e G,q∈T)→Only T h hh)→Ints hh .u8 bp (xs.map fun(o:Nat)=>(o:Int)))
  (hK: ∀h' G',Qt h' e G' (opsF (varFns (varFns (varFns (varFns F s 0) s 1) s 2) s 3) s xs) (t+4+xs.length)→Eside e G h G' h'→(G'.n=G.n∧G'.fo=G.fo∧G'.room=G.room∧G'.gg=G.gg)→K (.bool true) h'):
  Cl 55 [ptrV e,.int .i64 (s:Int),.slice bp xs.length bc] h K:=by
 refine F55.spec _ _ _ _ _ h K ?_
 unfold F55.wk2
 have ops: ∀(d i:Nat) (hh:Heap) (G1:EG) (F1:Fns),d+i=xs.length→Qt hh e G1 F1 (t+4+i)→Eside e G h G1 hh→(G1.n=G.n∧G1.fo=G.fo∧G1.room=G.room∧G1.gg=G.gg)→has4 F1 s→(∀h' G',Qt h' e G' (opsF F1 s (xs.drop i)) (t+4+xs.length)→Eside e G h G' h'→(G'.n=G.n∧G'.fo=G.fo∧G'.room=G.room∧G'.gg=G.gg)→K (.bool true) h')→
   F55.wL8 (d+1) ⟨e,0,none⟩ (s:Int) bp xs.length bc (i:Int) hh K:=by
  intro d
  induction d with
  |zero=>
   intro i hh G1 F1 hi Q1 S1 k1 H1 hK1
   rw[F55.sL8]
   rw[decide_eq_false (by omega),bcase_false]
   have ei:i=xs.length:=by omega
   subst ei
   rw[List.drop_length]at hK1
   exact hK1 hh G1 Q1 S1 k1
  |succ d ih=>
   intro i hh G1 F1 hi Q1 S1 k1 H1 hK1
   rw[F55.sL8]
   rw[decide_eq_true (by omega),bcase_true]
   have hil:i<xs.length:=by omega
   obtain⟨o,ho⟩: ∃o,xs[i]? =some o:=⟨_,List.getElem?_eq_getElem hil⟩
   have o8:=hx o (List.mem_of_getElem? ho)
   obtain⟨a,ea,ra⟩:=hb hh S1.O i (by simpa using hil)
   have ro:(xs.map fun(o:Nat)=>(o:Int)).getD i 0=(o:Int):=by rw[List.getD_eq_getElem?_getD,List.getElem?_map,ho];rfl
   rw[ro]at ra
   rw[ea]
   refine⟨by omega,by omega,ldI_of (n:=(o:Int)) (by rw[show Int.toNat (i:Int)*1=i by omega];exact ra) ⟨by omega,by omega,by omega,by omega,by omega,by omega,by omega,?_⟩⟩
   rw[←op_cal o8]
   refine now_op Q1 hs H1 (by rw[k1.2.2.1];omega) (by omega) fun h2 G2 Q2 S2 k2=>⟨_,_,_,rfl,cells2 fun h3 A3 O3=> ?_⟩
   rw[Bool.not_true,bcase_false]
   refine ldI_of (n:=0) (by rw[add_mk,At.rd A3];rfl) ?_
   rw[show((0:Int) !=0)=false from rfl,bcase_false,show IntKind.wrap .i64 ((i:Int)+1)=((i+1:Nat):Int) by rw[wrap_i64 (by omega) (by omega)];omega,←ea]
   refine ih (i+1) h3 G2 (opFns F1 s o) (by omega) (Q2.only0 O3) ((S1.trans S2).trans (Eside.only0 O3)) ⟨k2.1.trans k1.1,k2.2.1.trans k1.2.1,k2.2.2.1.trans k1.2.2.1,k2.2.2.2.trans k1.2.2.2⟩ H1.upd fun h' G' Q' S' k'=> ?_
   refine hK1 h' G' ?_ S' k'
   have ed:xs.drop i=o::xs.drop (i+1):=by
    rw[List.drop_eq_getElem_cons hil]
    rw[List.getElem?_eq_getElem hil]at ho
    injection ho with ho
    rw[ho]
   rw[ed]
   exact Q'
 have vars: ∀(d k:Nat) (hh:Heap) (G1:EG) (F1:Fns),d+k=4→Qt hh e G1 F1 (t+k)→Eside e G h G1 hh→(G1.n=G.n∧G1.fo=G.fo∧G1.room=G.room∧G1.gg=G.gg)→F1=(match k with|0=>F|1=>varFns F s 0|2=>varFns (varFns F s 0) s 1|3=>varFns (varFns (varFns F s 0) s 1) s 2|_=>varFns (varFns (varFns (varFns F s 0) s 1) s 2) s 3)→
   F55.wL2 (d+1) ⟨e,0,none⟩ (s:Int) bp xs.length bc (k:Int) hh K:=by
  intro d
  induction d with
  |zero=>
   intro k hh G1 F1 hk Q1 S1 k1 e1
   rw[F55.sL2]
   rw[decide_eq_false (by omega),bcase_false]
   have ek:k=4:=by omega
   subst ek
   subst e1
   unfold F55.wk7 F55.wk8
   refine⟨_,ops xs.length 0 hh G1 _ (by omega) Q1 S1 k1 (fun r hr=> ?_) fun h' G' Q' S' k'=>hK h' G' Q' S' k'⟩
   have:r=0∨r=1∨r=2∨r=3:=by omega
   rcases this with z|z|z|z<;>subst z
   ·exact⟨_,by show updF (updF (updF (updF F s 0 _) s 1 _) s 2 _) s 3 _ s 0=_;unfold updF;simp;rfl⟩
   ·exact⟨_,by show updF (updF (updF (updF F s 0 _) s 1 _) s 2 _) s 3 _ s 1=_;unfold updF;simp;rfl⟩
   ·exact⟨_,by show updF (updF (updF (updF F s 0 _) s 1 _) s 2 _) s 3 _ s 2=_;unfold updF;simp;rfl⟩
   ·exact⟨_,by show updF (updF (updF (updF F s 0 _) s 1 _) s 2 _) s 3 _ s 3=_;unfold updF;simp;rfl⟩
  |succ d ih=>
   intro k hh G1 F1 hk Q1 S1 k1 e1
   rw[F55.sL2]
   rw[decide_eq_true (by omega),bcase_true,wrap8 (by omega)]
   refine now_v (k:=k) Q1 hs (by omega) (by rw[k1.1];omega) (by rw[k1.2.2.1];omega) (by omega) fun h2 G2 Q2 S2 k2=>⟨_,_,_,rfl,cells2 fun h3 A3 O3=> ?_⟩
   rw[Bool.not_true,bcase_false]
   refine ldI_of (n:=0) (by rw[add_mk,At.rd A3];rfl) ?_
   rw[show((0:Int) !=0)=false from rfl,bcase_false,wr_s (by omega)]
   refine ih (k+1) h3 G2 _ (by omega) (Q2.only0 O3) ((S1.trans S2).trans (Eside.only0 O3)) ⟨k2.1.trans k1.1,k2.2.1.trans k1.2.1,k2.2.2.1.trans k1.2.2.1,k2.2.2.2.trans k1.2.2.2⟩ ?_
   have:k=0∨k=1∨k=2∨k=3:=by omega
   rcases this with z|z|z|z<;>subst z<;>(subst e1;rfl)
 exact⟨_,vars 4 0 h G F (by omega) Q Eside.refl ⟨rfl,rfl,rfl,rfl⟩ rfl⟩
end
end
section
end
section
theorem toNats{zs:List Int}(hz: ∀z∈zs,IntKind.min .u8≤z∧z≤IntKind.max .u8):zs=(zs.map Int.toNat).map fun(o:Nat)=>(o:Int):=by
 induction zs with
 |nil=>rfl
 |cons z l ih=>
  have h1:=hz z (by simp)
  have h2:=ih fun y hy=>hz y (by simp[hy])
  have:(0:Int)≤z:=h1.1
  rw[List.map_cons,List.map_cons,←h2]
  congr 1
  omega
theorem toNat_lt{zs:List Int}(hz: ∀z∈zs,IntKind.min .u8≤z∧z≤IntKind.max .u8): ∀o∈zs.map Int.toNat,o<256:=fun o ho=>by
 obtain⟨z,hz',e⟩:=List.mem_map.1 ho
 have h1:=hz z hz'
 have h2:z≤255:=h1.2
 omega
theorem opsF_has{s:Nat}: ∀{xs:List Nat} {F:Fns},has4 F s→has4 (opsF F s xs) s:=by
 intro xs
 induction xs with
 |nil=>intro F H;exact H
 |cons o l ih=>intro F H;exact ih H.upd
theorem var_has(F:Fns)(s:Nat):has4 (varFns (varFns (varFns (varFns F s 0) s 1) s 2) s 3) s:=fun r hr=>by
 have:r=0∨r=1∨r=2∨r=3:=by omega
 rcases this with z|z|z|z<;>subst z
 ·exact⟨_,by show updF (updF (updF (updF F s 0 _) s 1 _) s 2 _) s 3 _ s 0=_;unfold updF;simp;rfl⟩
 ·exact⟨_,by show updF (updF (updF (updF F s 0 _) s 1 _) s 2 _) s 3 _ s 1=_;unfold updF;simp;rfl⟩
 ·exact⟨_,by show updF (updF (updF (updF F s 0 _) s 1 _) s 2 _) s 3 _ s 2=_;unfold updF;simp;rfl⟩
 ·exact⟨_,by show updF (updF (updF (updF F s 0 _) s 1 _) s 2 _) s 3 _ s 3=_;unfold updF;simp;rfl⟩
def noF:Fns:=fun _ _=>none
theorem qt_new{h:Heap}{e:Nat}{G:EG}(W:EWd h e G)(s1:G.E.ses=(eng0 0 0 0).ses)(a1:G.E.ans=0)(N1:G.N=[])(j1:G.P.jobs=[])(l1:G.P.last=0)(M1:G.M=0):Qt h e G noF 0:=
 ⟨W,fun k _ r _=>⟨fun _=>by rw[s1];rfl,fun f q=>by cases q⟩,j1,fun k _=>by rw[s1];rfl,by omega,by omega,by omega,by rw[N1];exact Nat.le_refl _,by omega⟩
end
section
def F268.T:Hint:=⟨[(3,[0,1,5,14,15,16]),(12,[0,5])],[]⟩
section
variable (n:Nat)(f:Addr)(i:Option Nat)(j:Int)(c:Option Addr)(b d:Nat)(g a:Int)(h:Heap)(K:KK)
def F268.wk12:Prop:=ldP (rd h (f.add 6)) fun p1=>Cl 113 [.pointer p1] h fun v2 h3=>v2=(.tuple #[])∧ldP (rd h3 (f.add 4)) fun p4=>Cl 200 [.pointer p4] h3 fun v5 h6=>ldI .i64 (some v5) fun n7=>Cl 111 [.pointer (some f),.int .i64 (if n7>(32:Int)then n7 else(32:Int)),.slice none 0 0] h6 fun v8 h9=>v8=(.tuple #[])∧K (.int .i64 j) h9
def F268.wL3:Prop:=Lp Tryz.f268 F268.T [1,1,0,1,0] n [(0,(.pointer (some f))),(1,(.map i)),(5,(.int .i64 j)),(14,(.slice c b d)),(15,(.int .i64 g)),(16,(.int .i64 a))] h K
theorem F268.sL3:F268.wL3 (n+1) f i j c b d g a h K=(bcase (decide (a<g)) (ptrK c fun a1=>0≤a∧a<(Nat.cast b:Int)∧ldB (rd h ((a1.add (Int.toNat a*4)).add 0)) fun b2=>ldI .i64 (rd h ((a1.add (Int.toNat a*4)).add 1)) fun n3=>ldI .u32 (rd h ((a1.add (Int.toNat a*4)).add 2)) fun n4=>ldI .u32 (rd h ((a1.add (Int.toNat a*4)).add 3)) fun n5=>newK h (.cells #[.bool false,.int .i64 0,.int .u32 0,.int .u32 0] 195) fun b6 h7=>stK h7 ((Addr.mk b6 0 none).add 0) (.bool b2) fun h8=>stK h8 ((Addr.mk b6 0 none).add 1) (.int .i64 n3) fun h9=>stK h9 ((Addr.mk b6 0 none).add 2) (.int .u32 n4) fun h10=>stK h10 ((Addr.mk b6 0 none).add 3) (.int .u32 n5) fun h11=>lookK h11 i .u32 .u32 (IntKind.wrap .u32 (IntKind.wrap .i64 (a+(2:Int)))) fun o12=>ldV (some (lkV (.agg #[]) o12)) fun v13=>newK h11 (.cells #[] 218) fun b14 h15=>storeE Tryz.prog 218 (some (Addr.mk b14 0 none)) v13 h15 fun h16=>ldB (rd h16 ((Addr.mk b6 0 none).add 0)) fun b17=>bcase b17 (bcase (!(Option.isSome o12)) (ldS (rd h16 (f.add 2)) fun p18 l19 _=>ptrK p18 fun a21=>0≤a∧a<(Nat.cast l19:Int)∧stK h16 ((a21.add (Int.toNat a*4)).add 0) (.bool false) fun h22=>stK h22 ((a21.add (Int.toNat a*4)).add 1) (.int .i64 0) fun h23=>stK h23 ((a21.add (Int.toNat a*4)).add 2) (.int .u32 0) fun h24=>stK h24 ((a21.add (Int.toNat a*4)).add 3) (.int .u32 0) fun h25=>ldS (rd h25 (f.add 3)) fun p26 l27 c28=>newK h25 (.cells #[.int .u32 (IntKind.wrap .u32 (IntKind.wrap .i64 (a+(2:Int))))] 46) fun b29 h30=>appK h30 46 1 4 #[.int .u32 0] p26 l27 c28 (some (Addr.mk b29 0 none)) 1 fun p31 l32 c33 h34=>stK h34 ((f.add 3).add 0) (.slice p31 l32 c33) fun h35=>F268.wL3 n f i (IntKind.wrap .i64 (j+(1:Int))) c b d g (IntKind.wrap .i64 (a+(1:Int))) h35 K) (F268.wL3 n f i j c b d g (IntKind.wrap .i64 (a+(1:Int))) h16 K)) (F268.wL3 n f i j c b d g (IntKind.wrap .i64 (a+(1:Int))) h16 K)) (F268.wk12 f j h K)):=by kernel_rfl
def F268.wk3:Prop:=(∃m,F268.wL3 m f i j c b d g a h K)
theorem F268.spec(H:ldS (rd h (f.add 2)) fun p1 l2 c3=>F268.wk3 f i (0:Int) p1 l2 c3 (Nat.cast l2:Int) (0:Int) h K):Cl 268 [.pointer (some f),.map i] h K:=cT F268.T Tryz.func268 H
end
def F267.T:Hint:=⟨[(3,[0,1,6,14,15,16]),(9,[0,1,6]),(10,[0,6,9]),(15,[0,6,9,10])],[]⟩
section
variable (n:Nat)(f:Addr)(j:Option Addr)(g i:Nat)(l:Option Nat)(d:Option Addr)(b c:Nat)(q:Option Addr)(o s:Nat)(t r:Int)(h:Heap)(K:KK)
def F267.wk15(bk10:Addr→(Option Nat)→(Option Addr)→Nat→Nat→Heap→Prop)(f:Addr)(l:Option Nat)(d:Option Addr)(b c:Nat)(u:Int)(h:Heap)(K:KK):Prop:=updK h l .u32 .u32 u (.agg #[]) fun h1=>Cl 72 [.pointer (some f),.int .u32 u] h1 fun v2 h3=>ldI .u32 (some v2) fun n4=>Cl 73 [.pointer (some f),.int .u32 u] h3 fun v5 h6=>ldI .u32 (some v5) fun n7=>newK h6 (.cells #[.int .u32 n4,.int .u32 n7] 46) fun b8 h9=>appK h9 46 1 4 #[.int .u32 0] d b c (some (Addr.mk b8 0 none)) 2 fun p10 l11 c12 h13=>bk10 f l p10 l11 c12 h13
def F267.wL10:Prop:=Lp Tryz.f267 F267.T [1,1,1,1,0,0] n [(0,(.pointer (some f))),(6,(.map l)),(9,(.slice d b c))] h K
theorem F267.sL10:F267.wL10 (n+1) f l d b c h K=(bcase (decide ((Nat.cast b:Int)>(0:Int))) (ptrK d fun a1=>0≤(IntKind.wrap .i64 ((Nat.cast b:Int)-(1:Int)))∧(IntKind.wrap .i64 ((Nat.cast b:Int)-(1:Int)))<(Nat.cast b:Int)∧ldI .u32 (rd h (a1.add (Int.toNat (IntKind.wrap .i64 ((Nat.cast b:Int)-(1:Int)))*1))) fun n2=>0≤(IntKind.wrap .i64 ((Nat.cast b:Int)-(1:Int)))∧(IntKind.wrap .i64 ((Nat.cast b:Int)-(1:Int)))≤(Nat.cast c:Int)∧lookK h l .u32 .u32 n2 fun o3=>ldV (some (lkV (.agg #[]) o3)) fun v4=>newK h (.cells #[] 218) fun b5 h6=>storeE Tryz.prog 218 (some (Addr.mk b5 0 none)) v4 h6 fun h7=>bcase (Option.isSome o3) (F267.wL10 n f l (if c=0 then d else Option.map (fun a=>Addr.add a (0*1)) d) (Int.toNat (IntKind.wrap .i64 ((Nat.cast b:Int)-(1:Int)))-0) (c-0) h7 K) (bcase (decide (n2≤(1:Int))) (F267.wL10 n f l (if c=0 then d else Option.map (fun a=>Addr.add a (0*1)) d) (Int.toNat (IntKind.wrap .i64 ((Nat.cast b:Int)-(1:Int)))-0) (c-0) h7 K) (F267.wk15 (fun f l d b c h=>F267.wL10 n f l d b c h K) f l (if c=0 then d else Option.map (fun a=>Addr.add a (0*1)) d) (Int.toNat (IntKind.wrap .i64 ((Nat.cast b:Int)-(1:Int)))-0) (c-0) n2 h7 K))) (K (.tuple #[.map l,.int .i64 0]) h)):=by kernel_rfl
def F267.wk10:Prop:=(∃m,F267.wL10 m f l d b c h K)
def F267.wk9:Prop:=Cl 299 [.slice j g i] h fun v1 h2=>ldS (some v1) fun p3 l4 c5=>F267.wk10 f l p3 l4 c5 h2 K
def F267.wL3:Prop:=Lp Tryz.f267 F267.T [1,1,0,1,0] n [(0,(.pointer (some f))),(1,(.slice j g i)),(6,(.map l)),(14,(.slice q o s)),(15,(.int .i64 t)),(16,(.int .i64 r))] h K
theorem F267.sL3:F267.wL3 (n+1) f j g i l q o s t r h K=(bcase (decide (r<t)) (ptrK q fun a1=>0≤r∧r<(Nat.cast o:Int)∧ldI .u32 (rd h (a1.add (Int.toNat r*1))) fun n2=>Cl 74 [.pointer (some f),.int .u32 n2] h fun v3 h4=>ldB (some v3) fun b5=>bcase (!b5) False (F267.wL3 n f j g i l q o s t (IntKind.wrap .i64 (r+(1:Int))) h4 K)) (F267.wk9 f j g i l h K)):=by kernel_rfl
def F267.wk3:Prop:=(∃m,F267.wL3 m f j g i l q o s t r h K)
theorem F267.spec(H:newK h (.map #[] 0) fun b1 h2=>F267.wk3 f j g i (some b1) j g i (Nat.cast g:Int) (0:Int) h2 K):Cl 267 [.pointer (some f),.slice j g i] h K:=cT F267.T Tryz.func267 H
end
theorem F218.spec(d:Addr)(c:Option Addr)(b a:Nat)(h:Heap)(K:KK)(H:Cl 267 [.pointer (some d),.slice c b a] h fun v1 h2=> ∃r3:Option Nat,∃n4:Int,v1=(.tuple #[.map r3,.int .i64 n4])∧bcase (n4 !=(0:Int)) (K (.tuple #[.int .i64 0,.int .i64 n4]) h2) (Cl 268 [.pointer (some d),.map r3] h2 fun v5 h6=>ldI .i64 (some v5) fun n7=>K (.tuple #[.int .i64 n7,.int .i64 0]) h6)):Cl 218 [.pointer (some d),.slice c b a] h K:=cN Tryz.func218 H
theorem F175.spec(a b:Addr)(h:Heap)(K:KK)(H:Cl 213 [.pointer (some b)] h fun v1 h2=>ldS (some v1) fun p3 l4 c5=>Cl 218 [.pointer (some a),.slice p3 l4 c5] h2 fun v6 h7=> ∃n8:Int,∃n9:Int,v6=(.tuple #[.int .i64 n8,.int .i64 n9])∧K (.tuple #[.int .i64 n8,.int .i64 n9]) h7):Cl 175 [.pointer (some a),.pointer (some b)] h K:=cN Tryz.func175 H
def F60.T:Hint:=⟨[(4,[0,1,2,7]),(8,[0,1,2])],[]⟩
section
variable (n:Nat)(f:Addr)(d:Int)(b:Option Addr)(a c:Nat)(g:Int)(h:Heap)(K:KK)
def F60.wk8:Prop:=newK h (.cells #[.int .u32 d] 46) fun b1 h2=>appK h2 46 1 4 #[.int .u32 0] b a c (some (Addr.mk b1 0 none)) 1 fun p3 l4 c5 h6=>Cl 23 [.pointer (some f)] h6 fun v7 h8=>ldP (some v7) fun p9=>Cl 72 [.pointer p9,.int .u32 d] h8 fun v10 h11=>ldI .u32 (some v10) fun n12=>Cl 60 [.pointer (some f),.int .u32 n12,.slice p3 l4 c5] h11 fun v13 h14=>ldS (some v13) fun p15 l16 c17=>Cl 23 [.pointer (some f)] h14 fun v18 h19=>ldP (some v18) fun p20=>Cl 73 [.pointer p20,.int .u32 d] h19 fun v21 h22=>ldI .u32 (some v21) fun n23=>Cl 60 [.pointer (some f),.int .u32 n23,.slice p15 l16 c17] h22 fun v24 h25=>ldS (some v24) fun p26 l27 c28=>K (.slice p26 l27 c28) h25
def F60.wL4:Prop:=Lp Tryz.f60 F60.T [1,1,0,1,0] n [(0,(.pointer (some f))),(1,(.int .u32 d)),(2,(.slice b a c)),(7,(.int .i64 g))] h K
theorem F60.sL4:F60.wL4 (n+1) f d b a c g h K=(bcase (decide (g<(Nat.cast a:Int))) (ptrK b fun a1=>0≤g∧g<(Nat.cast a:Int)∧ldI .u32 (rd h (a1.add (Int.toNat g*1))) fun n2=>bcase (n2==d) (K (.slice b a c) h) (F60.wL4 n f d b a c (IntKind.wrap .i64 (g+(1:Int))) h K)) (F60.wk8 f d b a c h K)):=by kernel_rfl
def F60.wk4:Prop:=(∃m,F60.wL4 m f d b a c g h K)
theorem F60.spec(H:bcase (decide (d≤(1:Int))) (K (.slice b a c) h) (F60.wk4 f d b a c (0:Int) h K)):Cl 60 [.pointer (some f),.int .u32 d,.slice b a c] h K:=cT F60.T Tryz.func60 H
end
def F113.T:Hint:=⟨[(1,[0,8,9])],[]⟩
section
variable (n:Nat)(a:Addr)(c b:Int)(h:Heap)(K:KK)
def F113.wL1:Prop:=Lp Tryz.f113 F113.T [1,0] n [(0,(.pointer (some a))),(8,(.int .i64 c)),(9,(.int .i64 b))] h K
theorem F113.sL1:F113.wL1 (n+1) a c b h K=(bcase (decide (b<c)) (ldI .i64 (rd h (a.add 1)) fun n1=>ldP (rd h (a.add 0)) fun p2=>Cl 162 [.pointer p2,.int .i64 (IntKind.wrap .i64 (n1+(IntKind.wrap .i64 ((3:Int)*b))))] h fun v3 h4=>ldI .u64 (some v3) fun n5=>bcase ((bitsI .and .u64 n5 (1:Int))==(0:Int)) (bcase (n5 !=(0:Int)) (ldP (rd h4 (a.add 0)) fun p6=>Cl 163 [.pointer p6,.int .i64 (IntKind.wrap .i64 (n1+(IntKind.wrap .i64 ((3:Int)*b)))),.int .u64 n5,.int .u64 (IntKind.wrap .u64 ((bitsI .andNot .u64 n5 (2:Int))+(4:Int)))] h4 fun v7 h8=>ldB (some v7) fun _=>F113.wL1 n a c (IntKind.wrap .i64 (b+(1:Int))) h8 K) (F113.wL1 n a c (IntKind.wrap .i64 (b+(1:Int))) h4 K)) (F113.wL1 n a c (IntKind.wrap .i64 (b+(1:Int))) h4 K)) (K (.tuple #[]) h)):=by kernel_rfl
def F113.wk1:Prop:=(∃m,F113.wL1 m a c b h K)
theorem F113.spec(H:ldI .i64 (rd h (a.add 2)) fun n1=>F113.wk1 a n1 (0:Int) h K):Cl 113 [.pointer (some a)] h K:=cT F113.T Tryz.func113 H
end
theorem F299.spec(a:Option Addr)(b c:Nat)(h:Heap)(K:KK)(H:bcase (Option.isNone a) (K (.slice none 0 0) h) (newK h (.cells #[] 46) fun b1 h2=>appK h2 46 1 4 #[.int .u32 0] (some (Addr.mk b1 0 none)) 0 0 a b fun p3 l4 c5 h6=>K (.slice p3 l4 c5) h6)):Cl 299 [.slice a b c] h K:=cN Tryz.func299 H
end
section
theorem F215.spec(x0c0:Addr)(h:Heap)(K:KK)(H:Cl 264 [.func (.func 266) #[] #[.pointer (some x0c0)]] h fun v1 h2=>ldS (some v1) fun p3 l4 c5=>Cl 265 [.slice p3 l4 c5] h2 fun v6 h7=>v6=(.tuple #[])∧K (.slice p3 l4 c5) h7):Cl 215 [.func (.func 266) #[] #[.pointer (some x0c0)]] h K:=cN Tryz.func215 H
theorem F216.spec(a:Option Nat)(h:Heap)(K:KK)(H:newK h (.cells #[.map a] 154) fun b1 h2=>K (.func (.func 266) #[] #[.pointer (some (Addr.mk b1 0 none))]) h2):Cl 216 [.map a] h K:=cN Tryz.func216 H
theorem F264.spec(x0c0:Addr)(h:Heap)(K:KK)(H:Cl 297 [.slice none 0 0,.func (.func 266) #[] #[.pointer (some x0c0)]] h fun v1 h2=>ldS (some v1) fun p3 l4 c5=>K (.slice p3 l4 c5) h2):Cl 264 [.func (.func 266) #[] #[.pointer (some x0c0)]] h K:=cN Tryz.func264 H
end
section
def F13.T:Hint:=⟨[(10,[5,7,8]),(17,[5,7])],[]⟩
section
variable (n:Nat)(g:Option Addr)(d f:Nat)(i:Int)(a:Option Addr)(c b:Int)(h:Heap)(K:KK)
def F13.wk17:Prop:=Cl 28 [.pointer a,.int .i64 1,.int .i64 c] h fun v1 h2=> ∃n3:Int,∃b4:Bool,v1=(.tuple #[.int .u32 n3,.bool b4])∧Cl 53 [.pointer a,.int .i64 3,.agg #[.int .i64 7,.int .i64 0,.int .i64 0,.int .i64 0,.int .i64 0,.int .i64 0,.int .u8 0]] h2 fun v5 h6=> ∃n7:Int,∃n8:Int,∃b9:Bool,v5=(.tuple #[.agg #[.int .i64 n7,.int .u64 n8],.bool b9])∧newK h6 (.cells #[.int .i64 0,.int .u64 0] 76) fun b10 h11=>stK h11 ((Addr.mk b10 0 none).add 0) (.int .i64 n7) fun h12=>stK h12 ((Addr.mk b10 0 none).add 1) (.int .u64 n8) fun h13=>bcase (!b4) (K (.bool false) h13) (bcase (!b9) (K (.bool false) h13) (ldI .i64 (rd h13 ((Addr.mk b10 0 none).add 0)) fun n14=>bcase (n14 !=(0:Int)) (K (.bool false) h13) (Cl 23 [.pointer a] h13 fun v15 h16=>ldP (some v15) fun p17=>Cl 59 [.pointer p17] h16 fun v18 h19=>ldS (some v18) fun _ l21 _=>Cl 60 [.pointer a,.int .u32 n3,.slice none 0 0] h19 fun v23 h24=>ldS (some v23) fun _ l26 _=>bcase ((Nat.cast l21:Int)==(Nat.cast l26:Int)) (Cl 23 [.pointer a] h24 fun v28 h29=>ldP (some v28) fun p30=>Cl 22 [.pointer p30] h29 fun v31 h32=>ldB (some v31) fun b33=>K (.bool b33) h32) (K (.bool false) h24))))
def F13.wL10:Prop:=Lp Tryz.f13 F13.T [1,1,1,1,1,1,0,1,0] n [(5,(.pointer a)),(7,(.int .i64 c)),(8,(.int .i64 b))] h K
theorem F13.sL10:F13.wL10 (n+1) a c b h K=(bcase (decide (b<(4:Int))) (bcase (b==c) (F13.wL10 n a c (IntKind.wrap .i64 (b+(1:Int))) h K) (Cl 53 [.pointer a,.int .i64 1,.agg #[.int .i64 6,.int .i64 0,.int .i64 b,.int .i64 0,.int .i64 0,.int .i64 0,.int .u8 0]] h fun v1 h2=> ∃n3:Int,∃n4:Int,∃b5:Bool,v1=(.tuple #[.agg #[.int .i64 n3,.int .u64 n4],.bool b5])∧newK h2 (.cells #[.int .i64 0,.int .u64 0] 76) fun b6 h7=>stK h7 ((Addr.mk b6 0 none).add 0) (.int .i64 n3) fun h8=>stK h8 ((Addr.mk b6 0 none).add 1) (.int .u64 n4) fun h9=>Cl 28 [.pointer a,.int .i64 1,.int .i64 b] h9 fun v10 h11=> ∃n12:Int,∃b13:Bool,v10=(.tuple #[.int .u32 n12,.bool b13])∧bcase (!b5) (K (.bool false) h11) (ldI .i64 (rd h11 ((Addr.mk b6 0 none).add 0)) fun n14=>bcase (n14 !=(0:Int)) (K (.bool false) h11) (bcase b13 (K (.bool false) h11) (Cl 24 [.pointer a,.int .i64 1,.agg #[.int .i64 4,.int .i64 0,.int .i64 0,.int .i64 b,.int .i64 0,.int .i64 0,.int .u8 0]] h11 fun v15 h16=>ldI .i64 (some v15) fun n17=>bcase (n17 !=(221:Int)) (K (.bool false) h16) (F13.wL10 n a c (IntKind.wrap .i64 (b+(1:Int))) h16 K)))))) (F13.wk17 a c h K)):=by kernel_rfl
def F13.wk10:Prop:=(∃m,F13.wL10 m a c b h K)
theorem F13.spec(H:Cl 40 [] h fun v1 h2=>ldB (some v1) fun b3=>bcase (!b3) (K (.bool false) h2) (bcase (decide ((Nat.cast d:Int)>(10:Int))) (K (.bool true) h2) (Cl 18 [.int .i64 8,.int .i64 16384,.int .i64 2] h2 fun v4 h5=> ∃p6:Option Addr,∃n7:Int,v4=(.tuple #[.pointer p6,.int .i64 n7])∧bcase (n7 !=(0:Int)) (K (.bool false) h5) (Cl 55 [.pointer p6,.int .i64 1,.slice g d f] h5 fun v8 h9=>ldB (some v8) fun b10=>bcase (!b10) (K (.bool false) h9) (((4:Int)≠0∧F13.wk10 p6 (IntKind.wrap .i64 (Int.tmod i (4:Int))) (0:Int) h9 K)))))):Cl 13 [.slice g d f,.int .u8 i] h K:=cT F13.T Tryz.func13 H
end
end
section
section
variable {h:Heap}{c m mc base n:Nat}{cs:List Int}{ops fails:Int}{K:Value→Heap→Prop}
theorem clear113(W:CW h c m mc base n cs ops fails)(hb:base<100000)(hv: ∀l,l<n→0≤cs.getD (base+3*l) 0∧cs.getD (base+3*l) 0<18446744073709551616∧cs.getD (base+3*l) 0%2=0)
  (hK: ∀h' ops' fails' cs',(∀l,l<n→0≤cs'.getD (base+3*l) 0∧cs'.getD (base+3*l) 0<18446744073709551616∧cs'.getD (base+3*l) 0%4=0)→CW h' c m mc base n cs' ops' fails'→Only [m,mc] h h'→K (.tuple #[]) h'):
  Cl 113 [.pointer (some ⟨c,0,none⟩)] h K:=by
 apply F113.spec
 simp only[add_mk,Nat.zero_add]
 refine ldI_of (n:=(n:Int)) (by rw[At.rd W.cac];rfl) ?_
 unfold F113.wk1
 have hn2:=W.hn2
 have: ∀(g i:Nat) (h1:Heap) (cs1:List Int) (ops1 fails1:Int),n-i<g→i≤n→(∀l,l<i→0≤cs1.getD (base+3*l) 0∧cs1.getD (base+3*l) 0<18446744073709551616∧cs1.getD (base+3*l) 0%4=0)→
   (∀l,i≤l→l<n→cs1.getD (base+3*l) 0=cs.getD (base+3*l) 0)→CW h1 c m mc base n cs1 ops1 fails1→Only [m,mc] h h1→F113.wL1 g ⟨c,0,none⟩ (n:Int) (i:Int) h1 K:=by
  intro g
  induction g with
  |zero=>intro i h1 cs1 ops1 fails1 hg;omega
  |succ g ih=>
   intro i h1 cs1 ops1 fails1 hg hi z1 z2 W1 O1
   rw[F113.sL1]
   by_cases hlt:i<n
   ·rw[decide_eq_true (by omega),bcase_true]
    simp only[add_mk,Nat.zero_add]
    have hc:=W1.hc
    have ei:IntKind.wrap .i64 ((i:Int)+1)=((i+1:Nat):Int):=by rw[wrap_i64 (by omega) (by omega)];simp
    have ea:IntKind.wrap .i64 ((base:Int)+IntKind.wrap .i64 (3*(i:Int)))=((base+3*i:Nat):Int):=by
     rw[wrap_i64 (n:=3*(i:Int)) (by omega) (by omega),wrap_i64 (by omega) (by omega)]
     simp
    refine ldI_of (n:=(base:Int)) (by rw[At.rd W1.cac];rfl) (ldP_of (by rw[At.rd W1.cac];rfl) ?_)
    rw[ea,ei]
    refine load_in W1.mem (by omega) (by omega) fun h2 M2 O2=>ldI_of rfl ?_
    rw[Int.toNat_natCast,z2 i (Nat.le_refl _) hlt]
    obtain⟨v0,v1,v2⟩:=hv i hlt
    have hz2:=z2 i (Nat.le_refl _) hlt
    generalize cs.getD (base+3*i) 0=V at*
    have O12:=O1.trans O2 fun b hb _=>hb
    have W2:CW h2 c m mc base n cs1 _ fails1:=⟨W1.cac.only O2 (by simp[W1.d4,W1.d5]),M2,W1.d4,W1.d5,W1.hn,W1.hn2,W1.hc,W1.hl⟩
    rw[and_one v0 (by omega),show(V%2==0)=true by simpa using v2,bcase_true]
    refine bcase_of (fun e=> ?_) fun e=> ?_
    ·refine ldP_of (by rw[At.rd W2.cac];rfl) (cas_in M2 (by omega) (by omega) (fun e' h3 M3 O3=>ldB_of rfl ?_) fun e'=> ?_)
     ·rw[Int.toNat_natCast,andnot_two v0 (by omega),wrap_u64']at M3
      have W3:CW h3 c m mc base n (cs1.set (base+3*i) ((4*(V/4)+V%2+4)%18446744073709551616)) _ fails1:=⟨W2.cac.only O3 (by simp[W1.d4,W1.d5]),M3,W1.d4,W1.d5,W1.hn,W1.hn2,by simpa using W1.hc,by simpa using W1.hl⟩
      refine ih (i+1) h3 _ _ _ (by omega) (by omega) (fun l hl=> ?_) (fun l hl hln=> ?_) W3 (O12.trans O3 fun b hb _=>hb)
      ·rw[getD_set (by omega)]
       by_cases h':l=i
       ·subst h'
        rw[if_pos rfl]
        omega
       ·rw[if_neg (by omega)]
        exact z1 l (by omega)
      ·rw[getD_set (by omega),if_neg (by omega)]
       exact z2 l (by omega) hln
     ·rw[Int.toNat_natCast]at e'
      exact absurd hz2 e'
    ·refine ih (i+1) h2 cs1 _ fails1 (by omega) (by omega) (fun l hl=> ?_) (fun l hl hln=>z2 l (by omega) hln) W2 O12
     by_cases h':l=i
     ·subst h'
      have:V=0:=by simpa using e
      rw[hz2,this]
      decide
     ·exact z1 l (by omega)
   ·rw[decide_eq_false (by omega),bcase_false]
    obtain rfl:i=n:=by omega
    exact hK h1 ops1 fails1 cs1 z1 W1 O1
 exact⟨n+1,this (n+1) 0 h cs ops fails (by omega) (by omega) (by omega) (fun _ _ _=>rfl) W (Only.refl _ _)⟩
end
def retN(keep:Nat→Bool)(N:List (Option Nd)):List (Option Nd):=N.mapIdx fun i o=>if keep (i+2)then o else none
def retK(keep:Nat→Bool)(i:Nat)(a:Nat):Bool:=decide (i+2≤a)||keep a
theorem ret_len{keep:Nat→Bool}{N:List (Option Nd)}:(retN keep N).length=N.length:=by simp[retN]
theorem nd_ret{keep:Nat→Bool}{N:List (Option Nd)}(i:Nat):nd (retN keep N) i=if keep (i+2)then nd N i else none:=by
 unfold nd retN
 rw[List.getElem?_mapIdx]
 cases h:N[i]? with
 |none=>simp
 |some o=>
  simp only[Option.map_some,Option.join_some]
theorem ret_get{keep:Nat→Bool}{N:List (Option Nd)}{i:Nat}{o:Option Nd}(h:N[i]? =some o):(retN keep N)[i]? =some (if keep (i+2)then o else none):=by
 unfold retN
 rw[List.getElem?_mapIdx,h]
 rfl
theorem ret_zero{keep:Nat→Bool}{N:List (Option Nd)}:retN (retK keep 0) N=N:=by
 apply List.ext_getElem?
 intro i
 cases h:N[i]? with
 |none=>rw[List.getElem?_eq_none];rw[ret_len];exact List.getElem?_eq_none_iff.1 h
 |some o=>
  rw[ret_get h]
  unfold retK
  rw[show decide (0+2≤i+2)=true by simp]
  rfl
theorem ret_all{keep:Nat→Bool}{N:List (Option Nd)}:retN (retK keep N.length) N=retN keep N:=by
 apply List.ext_getElem?
 intro i
 cases h:N[i]? with
 |none=>rw[List.getElem?_eq_none,List.getElem?_eq_none]<;>rw[ret_len]<;>exact List.getElem?_eq_none_iff.1 h
 |some o=>
  have hl:=(List.getElem?_eq_some_iff.1 h).1
  rw[ret_get h,ret_get h]
  unfold retK
  rw[show decide (N.length+2≤i+2)=false by simp;omega]
  rfl
theorem ret_succ{keep:Nat→Bool}{N:List (Option Nd)}{i:Nat}{o:Option Nd}(h:N[i]? =some o):retN (retK keep (i+1)) N=(retN (retK keep i) N).set i (if keep (i+2)then o else none):=by
 have hl:=(List.getElem?_eq_some_iff.1 h).1
 apply List.ext_getElem?
 intro k
 rw[List.getElem?_set]
 by_cases hk:i=k
 ·subst hk
  rw[if_pos rfl,if_pos (by rw[ret_len];exact hl),ret_get h]
  unfold retK
  rw[show decide (i+1+2≤i+2)=false by simp]
  rfl
 ·rw[if_neg hk]
  cases h2:N[k]? with
  |none=>rw[List.getElem?_eq_none,List.getElem?_eq_none]<;>rw[ret_len]<;>exact List.getElem?_eq_none_iff.1 h2
  |some o2=>
   rw[ret_get h2,ret_get h2]
   unfold retK
   rw[show decide (i+1+2≤k+2)=decide (i+2≤k+2) by
    by_cases z:i+1≤k
    ·rw[decide_eq_true (by omega),decide_eq_true (by omega)]
    ·rw[decide_eq_false (by omega),decide_eq_false (by omega)]]
theorem ret_at{keep:Nat→Bool}{N:List (Option Nd)}{i:Nat}{o:Option Nd}(h:N[i]? =some o):(retN (retK keep i) N)[i]? =some o:=by
 rw[ret_get h]
 unfold retK
 rw[show decide (i+2≤i+2)=true by simp]
 rfl
theorem retN_ok{n:Nat}{keep:Nat→Bool}{N:List (Option Nd)}(H:NOk n N)(hk: ∀i x,nd N i=some x→keep (i+2)=true→(x.2.1<2∨keep x.2.1=true)∧(x.2.2<2∨keep x.2.2=true)):NOk n (retN keep N)∧(∀a,isN (retN keep N) a↔(a<2∨isN N a∧keep a=true))∧Ex (retN keep N) N:=by
 have ex:Ex (retN keep N) N:=fun i x hx=>by
  rw[nd_ret]at hx
  split at hx
  ·exact hx
  ·cases hx
 have is: ∀a,isN (retN keep N) a↔(a<2∨isN N a∧keep a=true):=fun a=>by
  constructor
  ·intro ha
   rcases ha with q|⟨x,hx⟩
   ·exact .inl q
   ·rw[nd_ret]at hx
    by_cases a2:a<2
    ·exact .inl a2
    ·split at hx
     ·rename_i hk'
      rw[show a-2+2=a by omega]at hk'
      exact .inr ⟨.inr ⟨x,hx⟩,hk'⟩
     ·cases hx
  ·intro ha
   rcases ha with q|⟨q|⟨x,hx⟩,r⟩
   ·exact .inl q
   ·exact .inl q
   ·by_cases a2:a<2
    ·exact .inl a2
    ·right
     refine⟨x,?_⟩
     rw[nd_ret,show a-2+2=a by omega,if_pos r]
     exact hx
 refine⟨⟨fun i x hx=> ?_,fun i j x hi hj=>H.once i j x (ex i x hi) (ex j x hj)⟩,is,ex⟩
 have h0:=ex i x hx
 have hki:keep (i+2)=true:=by
  rw[nd_ret]at hx
  split at hx
  ·rename_i q;exact q
  ·cases hx
 obtain⟨a,b,c,d,e,f⟩:=H.node i x h0
 obtain⟨k1,k2⟩:=hk i x h0 hki
 have i1:isN (retN keep N) x.2.1:=(is _).2 (by rcases k1 with q|q;exact .inl q;exact .inr ⟨b,q⟩)
 have i2:isN (retN keep N) x.2.2:=(is _).2 (by rcases k2 with q|q;exact .inl q;exact .inr ⟨c,q⟩)
 have l1:=ex.lvl (n:=n) i1
 have l2:=ex.lvl (n:=n) i2
 exact⟨a,i1,i2,d,by rw[←l1];exact e,by rw[←l2];exact f⟩
end
section
def KpM(mo:List (Int×Value))(keep:Nat→Bool):Prop:= ∀k:Nat,(keep k=true→mo.lookup (k:Int)=some (.agg #[]))∧(keep k=false→mo.lookup (k:Int)=none)
theorem set_self{α:Type}{l:List α}{i:Nat}{o:α}(h:l[i]? =some o):l.set i o=l:=by
 apply List.ext_getElem?
 intro k
 rw[List.getElem?_set]
 split
 ·rename_i e
  subst e
  rw[if_pos (List.getElem?_eq_some_iff.1 h).1,h]
 ·rfl
theorem cntN_none{x:Nd}: ∀{N:List (Option Nd)} {i:Nat},N[i]? =some (some x)→cntN (N.set i none)+1=cntN N
 | [],i,h=>by simp at h
 |o::N,0,h=>by
  simp at h
  subst h
  simp[cntN]
 |o::N,i+1,h=>by
  have:=cntN_none (N:=N) (i:=i) (by simpa using h)
  simp only[cntN,List.set_cons_succ,List.countP_cons]at this ⊢
  omega
section
variable {h:Heap}{s n room:Nat}{B:SB}{f g:Nat→Nat}{N:List (Option Nd)}{F:List Nat}{Q:Int→Int→Prop}{off:Bool}{K:Value→Heap→Prop}
theorem SB.growf{s:Nat}{fp':Option Addr}{fc':Nat}(H:(B.bm s).Nodup)(hlt: ∀b∈B.bm s,b<h.size)(hp: ∀b∈OwnB fp',b∈OwnB B.fp∨h.size≤b):
  (SB.bm {B with fp:=fp',fc:=fc'} s).Nodup∧ ∀b∈SB.bm {B with fp:=fp',fc:=fc'} s,b∈B.bm s∨h.size≤b:=by
 refine⟨?_,fun b hb=> ?_⟩
 ·unfold SB.bm at H ⊢
  simp only at H ⊢
  rw[List.nodup_append]at H ⊢
  refine⟨H.1,own_nodup fp',fun a ha b hb e=> ?_⟩
  rcases hp b hb with h1|h1
  ·exact H.2.2 a ha b h1 e
  ·have:=hlt a (by unfold SB.bm;exact List.mem_append.2 (.inl ha))
   omega
 ·simp only[SB.bm,List.mem_append]at hb ⊢
  rcases hb with(hb|hb)|hb
  ·exact .inl (.inl (.inl hb))
  ·exact .inl (.inl (.inr hb))
  ·rcases hp b hb with h1|h1
   ·exact .inl (.inr h1)
   ·exact .inr h1
theorem node_none{M:List (Option Nd)}{i:Nat}{x:Nd}{F1:List Nat}{b0:Nat}{KK:Heap→Prop}(H:StM h s n room B f g M F1 Q off)(hi:M[i]? =some (some x))(eb:B.p=some ⟨b0,0,none⟩)(hlt:F1.length<M.length)(hs:s<h.size)
  (hK: ∀fp' fc' h',StM h' s n room {B with fp:=fp',fc:=fc'} f g (M.set i none) (F1++[i+2]) Q off→Only (s::OwnB B.p++OwnB B.fp) h h'→(∀b∈OwnB fp',b∈OwnB B.fp∨h.size≤b)→KK h'):
  stK h ⟨b0,i*4,none⟩ (.bool false) (fun h22=>stK h22 ⟨b0,i*4+1,none⟩ (.int .i64 0) (fun h23=>stK h23 ⟨b0,i*4+2,none⟩ (.int .u32 0) (fun h24=>stK h24 ⟨b0,i*4+3,none⟩ (.int .u32 0) (fun h25=>ldS (rd h25 ⟨s,3,none⟩) (fun p26 l27 c28=>newK h25 (.cells #[(.int .u32 ((i+2:Nat):Int))] 46) (fun b29 h30=>appK h30 46 1 4 #[(.int .u32 (0:Int))] p26 l27 c28 (some (Addr.mk b29 0 none)) 1 (fun p31 l32 c33 h34=>stK h34 ⟨s,3,none⟩ (.slice p31 l32 c33) (fun h35=>KK h35)))))))):=by
 have hil:=(List.getElem?_eq_some_iff.1 hi).1
 have W:=H.own
 rw[eb]at W
 have nl:(nrow M).length=M.length*4:=nrow_len M
 have hln:=H.len
 refine Own.set (j:=i*4+0) W (by omega) rfl fun h2 W2 O2=>Own.set W2 (by simp;omega) rfl fun h3 W3 O3=>Own.set W3 (by simp;omega) rfl fun h4 W4 O4=>Own.set W4 (by simp;omega) rfl fun h5 W5 O5=> ?_
 rw[nrow_set4 M i none _ _ _ _ hil rfl]at W5
 have O25:Only [b0] h h5:=((O2.trans O3 (by simp)).trans O4 (by simp)).trans O5 (by simp)
 have hsep:=H.sep
 have nb: ∀y∈[s,B.ob,B.cac,B.cm,B.cmc]++OwnB B.fp,y∉[b0]:=fun y hy hm=>by
  simp only[List.mem_singleton]at hm
  subst hm
  unfold SB.bm at hsep
  simp only[List.nodup_append,List.mem_append,ne_eq]at hsep
  obtain⟨⟨_,_,g2⟩,_,g4⟩:=hsep
  have hmp:y∈OwnB B.p:=by rw[eb];simp[OwnB]
  rcases List.mem_append.1 hy with h|h
  ·exact g2 y h y hmp rfl
  ·exact g4 y (.inr hmp) y h rfl
 have nf: ∀y∈[s,B.ob,B.cac,B.cm,B.cmc]++OwnB B.p,y∉OwnB B.fp:=fun y hy hm=>by
  unfold SB.bm at hsep
  simp only[List.nodup_append,List.mem_append,ne_eq]at hsep
  obtain⟨⟨_,_,g2⟩,_,g4⟩:=hsep
  exact g4 y (by simpa only[List.mem_append]using hy) y hm rfl
 have ns: ∀y∈[B.ob,B.cac,B.cm,B.cmc]++OwnB B.p++OwnB B.fp,y∉[s]:=fun y hy hm=>by
  simp only[List.mem_singleton]at hm
  subst hm
  unfold SB.bm at hsep
  simp only[List.cons_append,List.nodup_cons,List.nil_append]at hsep
  exact hsep.1 (by simpa[or_assoc]using hy)
 have S5:=H.S.only O25 (nb _ (by simp))
 have z5:=O25.size
 refine ldS_of (p:=B.fp) (l:=F1.length) (c:=B.fc) (by rw[At.rd S5];rfl) ?_
 have fr5:=H.fre.only O25 fun y hy=>nb _ (List.mem_append.2 (.inr hy))
 refine newK_at fun h6 A6 O6 z6=> ?_
 refine win_app (fr5.only O6 (by simp)) A6 (by omega) rfl (by omega) fun fp' fc' h7 W7 O7 hb7=> ?_
 have lp: ∀b∈OwnB B.fp,b<h.size:=fun b hb=>(H.fre.lt b hb).2
 have S7:=(S5.only O6 (by simp)).only O7 (fun hm=>nf s (by simp) hm)
 refine stK_at S7 (by simp[scell]) rfl fun h8 A8 O8 z8=> ?_
 have O58:Only (s::OwnB B.fp) h5 h8:=((O6.mono (by simp)).trans O7 (by intro b hb _;simp[hb])).trans O8 (by intro b hb _;simp at hb;simp[hb])
 have nn: ∀y∈[B.ob,B.cac,B.cm,B.cmc]++OwnB B.p,y∉s::OwnB B.fp:=fun y hy hm=>by
  rcases List.mem_cons.1 hm with e|e
  ·exact ns y (List.mem_append.2 (.inl hy)) (by simp[e])
  ·exact nf y (by rcases List.mem_append.1 hy with q|q;exact List.mem_append.2 (.inl (List.mem_cons_of_mem _ q));exact List.mem_append.2 (.inr q)) e
 have hbf: ∀b∈OwnB fp',b∈OwnB B.fp∨h.size≤b:=fun b hb=>by
  rcases hb7 b hb with q|q
  ·exact .inl q
  ·exact .inr (by omega)
 have es:s∉OwnB fp':=fun hm=>by
  rcases hbf s hm with q|q
  ·exact nf s (by simp) q
  ·omega
 have el:(M.set i none).length=M.length:=by simp
 have g1:=SB.growf (fc':=fc') hsep H.lt hbf
 refine hK fp' fc' h8 ⟨?_,(H.O.only O25 (nb _ (by simp))).only O58 (nn _ (by simp)),?_,?_,(H.cac.only O25 (nb _ (by simp)) (nb _ (by simp)) (nb _ (by simp))).only O58 (nn _ (by simp)) (nn _ (by simp)) (nn _ (by simp)),H.n8,by rw[el];exact⟨hln.1,hln.2.1,by simp;omega⟩,g1.1⟩ ((O25.mono (by intro b hb _;simp at hb;subst hb;rw[eb];simp[OwnB])).trans O58 (by intro b hb _;rcases List.mem_cons.1 hb with q|q;simp[q];exact List.mem_append.2 (.inr q))) hbf
 ·rw[el,List.length_append]
  exact A8
 ·rw[el]
  show Own h8 0 4 B.p M.length B.c _
  rw[eb]
  exact W5.only O58 fun b hb=>by
   injection hb with hb
   injection hb with hb
   subst hb
   exact nn b0 (by rw[eb];simp[OwnB])
 ·have:frow (F1++[i+2])=frow F1++[.int .u32 ((i+2:Nat):Int)]:=by simp[frow]
  rw[this,List.length_append]
  exact W7.only O8 fun b hb hm=>es (by simp at hm;subst hm;exact hb)
end
end
section
section
variable {h:Heap}{s n room:Nat}{B:SB}{f g:Nat→Nat}{N:List (Option Nd)}{F:List Nat}{Q Q':Int→Int→Prop}{off:Bool}{K:Value→Heap→Prop}{mb:Nat}{mo:List (Int×Value)}{keep:Nat→Bool}
theorem retK_at{i:Nat}(k:keep (i+2)=true){o:Option Nd}(hi:N[i]? =some o):retN (retK keep (i+1)) N=retN (retK keep i) N:=by
 rw[ret_succ hi,if_pos k,set_self (ret_at hi)]
theorem retK_no{i:Nat}(hi:N[i]? =some none):retN (retK keep (i+1)) N=retN (retK keep i) N:=by
 rw[ret_succ hi,show(if keep (i+2)=true then none else none:Option Nd)=none by split<;>rfl,set_self (ret_at hi)]
theorem retK_go{i:Nat}(k:keep (i+2)=false){o:Option Nd}(hi:N[i]? =some o):retN (retK keep (i+1)) N=(retN (retK keep i) N).set i none:=by
 rw[ret_succ hi,k]
 rfl
structure Rt(h0 h:Heap)(s n room:Nat)(B:SB)(f g:Nat→Nat)(N:List (Option Nd))(Q:Int→Int→Prop)(off:Bool)(mb:Nat)(mo:List (Int×Value))(keep:Nat→Bool)(i:Nat)(fp:Option Addr)(fc:Nat)(F:List Nat):Prop where
 m:StM h s n room {B with fp:=fp,fc:=fc} f g (retN (retK keep i) N) F Q off
 M:MapM h mb .u32 mo
 cnt:N.length=cntN (retN (retK keep i) N)+F.length
 fre:F.Nodup∧ ∀a∈F,2≤a∧a-2<N.length∧nd (retN (retK keep i) N) (a-2)=none
 O:Only (B.bm s) h0 h
 fr: ∀b∈OwnB fp,b∈OwnB B.fp∨h0.size≤b
set_option maxRecDepth 100000 in
theorem retain_loop{h0:Heap}(sep0:(B.bm s).Nodup)(Hk:KpM mo keep)(dm:mb∉B.bm s)(lm:mb<h0.size)(lb: ∀b∈B.bm s,b<h0.size)(hn:N.length≤room∧room≤32768)
  (hK: ∀h' fp fc F gone,Rt h0 h' s n room B f g N Q off mb mo keep N.length fp fc F→F268.wk12 ⟨s,0,none⟩ gone h' K):
  ∀(d i:Nat) (h':Heap) (fp:Option Addr) (fc:Nat) (F:List Nat) (gone:Int),i+d=N.length→Rt h0 h' s n room B f g N Q off mb mo keep i fp fc F→
   F268.wL3 (d+1) ⟨s,0,none⟩ (some mb) gone B.p N.length B.c (N.length:Int) (i:Int) h' K:=by
 intro d
 induction d with
 |zero=>
  intro i h' fp fc F gone hd R
  rw[F268.sL3]
  rw[decide_eq_false (by omega),bcase_false]
  obtain rfl:i=N.length:=by omega
  exact hK h' fp fc F gone R
 |succ d ih=>
  intro i h' fp fc F gone hd R
  have hi:i<N.length:=by omega
  obtain⟨o,ho⟩: ∃o,N[i]? =some o:=⟨_,List.getElem?_eq_getElem hi⟩
  have hm:=ret_at (keep:=keep) ho
  obtain⟨b,eb,rr⟩:=R.m.cells hm
  have eb:B.p=some ⟨b,0,none⟩:=eb
  have z0:=R.O.size
  have hw:IntKind.wrap .u32 (IntKind.wrap .i64 ((i:Int)+2))=((i+2:Nat):Int):=by
   rw[wrap_i64 (by omega) (by omega),show(i:Int)+2=((i+2:Nat):Int) by omega]
   exact wrap32 (by omega)
  have hs1:s<h'.size:=R.m.S.lt
  have stay: ∀k6,Only [] h' k6→retN (retK keep (i+1)) N=retN (retK keep i) N→F268.wL3 (d+1) ⟨s,0,none⟩ (some mb) gone B.p N.length B.c (N.length:Int) (IntKind.wrap .i64 ((i:Int)+1)) k6 K:=fun k6 P e=>by
   rw[show IntKind.wrap .i64 ((i:Int)+1)=((i+1:Nat):Int) by rw[wrap_i64 (by omega) (by omega)];omega]
   refine ih (i+1) k6 fp fc F gone (by omega) ⟨?_,R.M.only P (by simp),by rw[e];exact R.cnt,by rw[e];exact R.fre,R.O.trans P (by simp),R.fr⟩
   rw[e]
   exact R.m.only P (by simp)
  rw[F268.sL3]
  rw[decide_eq_true (by omega),bcase_true,eb,ptrK_some]
  refine⟨by omega,by omega,?_⟩
  rw[←eb]
  simp only[add_mk,Nat.zero_add]
  rw[show Int.toNat (i:Int)*4=i*4 by omega,hw]
  obtain⟨tv,lv,av,bv,ec⟩: ∃tv lv av bv,ncell o=[.bool tv,.int .i64 lv,.int .u32 av,.int .u32 bv]:=by
   cases o with
   |none=>exact⟨_,_,_,_,rfl⟩
   |some x=>exact⟨_,_,_,_,rfl⟩
  rw[ec]at rr
  refine ldB_of (by rw[←Nat.add_zero (i*4),rr 0 (by omega)];rfl) (ldI_of (by rw[rr 1 (by omega)];rfl) (ldI_of (by rw[rr 2 (by omega)];rfl) (ldI_of (by rw[rr 3 (by omega)];rfl) ?_)))
  refine newK_at fun k1 B1 P1 y1=> ?_
  refine stK_at B1 (by simp) rfl fun k2 B2 P2 y2=>stK_at B2 (by simp) rfl fun k3 B3 P3 y3=>stK_at B3 (by simp) rfl fun k4 B4 P4 y4=>stK_at B4 (by simp) rfl fun k5 B5 P5 y5=> ?_
  replace B5:At k5 h'.size [.bool tv,.int .i64 lv,.int .u32 av,.int .u32 bv]:=B5
  have P15:Only [] h' k5:=(((P1.trans P2 (by intro b hb hl;simp at hb;omega)).trans P3 (by intro b hb hl;simp at hb;omega)).trans P4 (by intro b hb hl;simp at hb;omega)).trans P5 (by intro b hb hl;simp at hb;omega)
  have tail: ∀(o12:Option (Nat×Value)),(o12.isSome=keep (i+2))→(lkV (.agg #[]) o12= .agg #[])→ ∀KK:Heap→Prop,(∀k6,Only [] h' k6→k5.size≤k6.size→bcase tv (bcase (!(keep (i+2))) (KK k6) (F268.wL3 (d+1) ⟨s,0,none⟩ (some mb) gone B.p N.length B.c (N.length:Int) (IntKind.wrap .i64 ((i:Int)+1)) k6 K)) (F268.wL3 (d+1) ⟨s,0,none⟩ (some mb) gone B.p N.length B.c (N.length:Int) (IntKind.wrap .i64 ((i:Int)+1)) k6 K))→
    ldV (some (lkV (.agg #[]) o12)) (fun v13=>newK k5 (.cells #[] 218) (fun b14 h15=>storeE Tryz.prog 218 (some (Addr.mk b14 0 none)) v13 h15 (fun h16=>ldB (rd h16 ⟨h'.size,0,none⟩) (fun b17=>bcase b17 (bcase (!(Option.isSome o12)) (KK h16) (F268.wL3 (d+1) ⟨s,0,none⟩ (some mb) gone B.p N.length B.c (N.length:Int) (IntKind.wrap .i64 ((i:Int)+1)) h16 K)) (F268.wL3 (d+1) ⟨s,0,none⟩ (some mb) gone B.p N.length B.c (N.length:Int) (IntKind.wrap .i64 ((i:Int)+1)) h16 K))))):=by
   intro o12 e1 e2 KK hk
   rw[e2]
   refine⟨_,rfl,?_⟩
   refine newK_at fun k6 B6 P6 y6=> ?_
   refine store116 ?_
   have C6:=B5.only P6 (by simp)
   have P16:Only [] h' k6:=P15.trans P6 (by simp)
   refine ldB_of (by rw[At.rd C6 0];rfl) ?_
   rw[e1]
   exact hk k6 P16 (by omega)
  have body: ∀k6,Only [] h' k6→k5.size≤k6.size→bcase tv (bcase (!(keep (i+2))) (ldS (rd k6 ⟨s,2,none⟩) (fun p18 l19 _=>ptrK p18 (fun a21=>(0≤(i:Int)∧(i:Int)<(Nat.cast l19:Int)∧stK k6 (Addr.add (Addr.add a21 (i*4)) 0) (.bool false) (fun h22=>stK h22 (Addr.add (Addr.add a21 (i*4)) 1) (.int .i64 (0:Int)) (fun h23=>stK h23 (Addr.add (Addr.add a21 (i*4)) 2) (.int .u32 (0:Int)) (fun h24=>stK h24 (Addr.add (Addr.add a21 (i*4)) 3) (.int .u32 (0:Int)) (fun h25=>ldS (rd h25 ⟨s,3,none⟩) (fun p26 l27 c28=>newK h25 (.cells #[(.int .u32 ((i+2:Nat):Int))] 46) (fun b29 h30=>appK h30 46 1 4 #[(.int .u32 (0:Int))] p26 l27 c28 (some (Addr.mk b29 0 none)) 1 (fun p31 l32 c33 h34=>stK h34 ⟨s,3,none⟩ (.slice p31 l32 c33) (fun h35=>F268.wL3 (d+1) ⟨s,0,none⟩ (some mb) (IntKind.wrap .i64 (gone+(1:Int))) B.p N.length B.c (N.length:Int) (IntKind.wrap .i64 ((i:Int)+(1:Int))) h35 K)))))))))))) (F268.wL3 (d+1) ⟨s,0,none⟩ (some mb) gone B.p N.length B.c (N.length:Int) (IntKind.wrap .i64 ((i:Int)+1)) k6 K)) (F268.wL3 (d+1) ⟨s,0,none⟩ (some mb) gone B.p N.length B.c (N.length:Int) (IntKind.wrap .i64 ((i:Int)+1)) k6 K):=by
   intro k6 P16 y6
   cases o with
   |none=>
    simp only[ncell,List.cons.injEq,Value.bool.injEq]at ec
    rw[←ec.1,bcase_false]
    exact stay k6 P16 (retK_no ho)
   |some x=>
    simp only[ncell,List.cons.injEq,Value.bool.injEq,Value.int.injEq,true_and,and_true]at ec
    rw[←ec.1,bcase_true]
    cases hkp:keep (i+2)with
    |true=>rw[Bool.not_true,bcase_false];exact stay k6 P16 (retK_at hkp ho)
    |false=>
     rw[Bool.not_false,bcase_true]
     have m6:=R.m.only P16 (by simp)
     have el:(retN (retK keep i) N).length=N.length:=ret_len
     refine ldS_of (p:=B.p) (l:=N.length) (c:=B.c) (by rw[At.rd m6.S,el];rfl) ?_
     rw[eb,ptrK_some]
     refine⟨by omega,by omega,?_⟩
     simp only[add_mk,Nat.zero_add,Nat.add_zero]
     have c1:F.length<N.length:=by
      have:0<cntN (retN (retK keep i) N):=List.countP_pos_iff.2 ⟨some x,List.mem_of_getElem? hm,rfl⟩
      have:=R.cnt
      omega
     refine node_none (B:={B with fp:=fp,fc:=fc}) m6 hm eb (by rw[el];exact c1) (by have:=P16.size;omega) fun fp' fc' h7 H7 O7 hf7=> ?_
     rw[show IntKind.wrap .i64 ((i:Int)+1)=((i+1:Nat):Int) by rw[wrap_i64 (by omega) (by omega)];omega,←eb]
     have e:=retK_go hkp ho
     have z6:=P16.size
     have ni:i+2∉F:=fun hm2=>by
      have:=(R.fre.2 _ hm2).2.2
      rw[show i+2-2=i by omega]at this
      rw[nd_some.2 hm]at this
      cases this
     have sub: ∀b∈s::OwnB B.p++OwnB fp,b<h0.size→b∈B.bm s:=fun b hb hl=>by
      simp only[SB.bm,List.mem_append,List.mem_cons]at hb ⊢
      rcases hb with(q|q)|q
      ·exact .inl (.inl (.inl q))
      ·exact .inl (.inr q)
      ·rcases R.fr b q with r|r
       ·exact .inr r
       ·omega
     have nm:mb∉s::OwnB B.p++OwnB fp:=fun hm2=>dm (sub mb hm2 lm)
     refine ih (i+1) h7 fp' fc' _ _ (by omega) ⟨by rw[e];exact H7,(R.M.only P16 (by simp)).only O7 nm,?_,?_,(R.O.trans P16 (by simp)).trans O7 sub,fun b hb=> ?_⟩
     ·rw[e]
      have:=cntN_none hm
      have:=R.cnt
      simp
      omega
     ·rw[e]
      refine⟨List.nodup_append.2 ⟨R.fre.1,by simp,fun a ha c hc e2=> ?_⟩,fun a ha=> ?_⟩
      ·simp at hc
       subst hc e2
       exact ni ha
      ·rw[nd_set (by rw[el];exact hi)]
       rcases List.mem_append.1 ha with q|q
       ·obtain⟨q1,q2,q3⟩:=R.fre.2 a q
        refine⟨q1,q2,?_⟩
        split
        ·rfl
        ·exact q3
       ·simp at q
        subst q
        exact⟨by omega,by omega,by rw[if_pos (by omega)]⟩
     ·rcases hf7 b hb with q|q
      ·exact R.fr b q
      ·exact .inr (by omega)
  refine look_map (m:=mo) (R.M.only P15 (by simp)) (fun hn=> ?_) fun j v hv=> ?_
  ·have k0:keep (i+2)=false:=by
    cases hk:keep (i+2)with
    |false=>rfl
    |true=>
     rw[(Hk (i+2)).1 hk]at hn
     cases hn
   exact tail none (by rw[k0];rfl) rfl _ body
  ·have k1:keep (i+2)=true:=by
    cases hk:keep (i+2)with
    |true=>rfl
    |false=>
     rw[(Hk (i+2)).2 hk]at hv
     cases hv
   rw[(Hk (i+2)).1 k1]at hv
   injection hv with hv
   subst hv
   exact tail (some (j,.agg #[])) (by rw[k1];rfl) rfl _ body
end
end
section
section
variable {h:Heap}{s n room:Nat}{B:SB}{f g:Nat→Nat}{N:List (Option Nd)}{F:List Nat}{Q Q':Int→Int→Prop}{off:Bool}{K:Value→Heap→Prop}{mb:Nat}{mo:List (Int×Value)}{keep:Nat→Bool}
set_option maxRecDepth 100000 in
theorem retain268(Q':Int→Int→Prop)(H:StIs h s n room B f g N F Q off)(M0:MapM h mb .u32 mo)(Hk:KpM mo keep)(dm:mb∉B.bm s++B.bt)
  (hk: ∀i x,nd N i=some x→keep (i+2)=true→(x.2.1<2∨keep x.2.1=true)∧(x.2.2<2∨keep x.2.2=true))
  (hK: ∀h' B' F' gone,StIs h' s n room B' f g (retN keep N) F' Q' off→Only (B.bm s++B.bt) h h'→(∀y∈B'.bm s++B'.bt,y∈B.bm s++B.bt∨h.size≤y)→K (.int .i64 gone) h'):
  Cl 268 [.pointer (some ⟨s,0,none⟩),.map (some mb)] h K:=by
 have hlen:=H.m.len
 have hn8:=H.m.n8
 apply F268.spec
 simp only[add_mk,Nat.zero_add]
 refine ldS_of (p:=B.p) (l:=N.length) (c:=B.c) (by rw[At.rd H.m.S];rfl) ?_
 unfold F268.wk3
 have dm1:mb∉B.bm s:=fun hm=>dm (List.mem_append.2 (.inl hm))
 have R0:Rt h h s n room B f g N Q off mb mo keep 0 B.fp B.fc F:=⟨by rw[ret_zero];exact H.m,M0,by rw[ret_zero];exact H.cnt,by rw[ret_zero];exact H.fre,Only.refl _ _,fun b hb=> .inl hb⟩
 refine⟨_,retain_loop H.m.sep Hk dm1 M0.lt H.m.lt ⟨hlen.1,hlen.2.1⟩ (fun h1 fp fc F1 gone R=> ?_) N.length 0 h B.fp B.fc F 0 (by omega) R0⟩
 obtain⟨m1,-,cnt1,fre1,O1,fr1⟩:=R
 rw[ret_all]at m1 cnt1 fre1
 have el:(retN keep N).length=N.length:=ret_len
 obtain⟨ok1,is1,ex1⟩:=retN_ok H.ok hk
 have tsep: ∀b∈B.bt,b∉B.bm s:=H.t.sep
 have T1:=H.t.only O1 fun b hb hm=>tsep b hm hb
 unfold F268.wk12
 simp only[add_mk,Nat.zero_add]
 refine ldP_of (by rw[At.rd m1.S];rfl) ?_
 obtain⟨cs,ops,fails,W1,S1⟩:=m1.cac
 have W1:CW h1 B.cac B.cm B.cmc 0 256 cs ops fails:=W1
 refine clear113 W1 (by omega) (fun l hl=> ?_) fun h2 ops2 fails2 cs2 z2 W2 O2=>⟨rfl,?_⟩
 ·rw[Nat.zero_add]
  have:=S1 l hl
  exact⟨this.1,this.2.1,this.2.2.1⟩
 have sep1:=m1.sep
 have nm: ∀y∈[s,B.ob,B.cac]++OwnB B.p++OwnB fp,y∉[B.cm,B.cmc]:=fun y hy hm=>by
  have sep1:([s,B.ob,B.cac,B.cm,B.cmc]++OwnB B.p++OwnB fp).Nodup:=sep1
  simp only[List.cons_append,List.nil_append,List.nodup_cons,List.mem_cons,List.mem_append,not_or]at sep1
  obtain⟨⟨a1,a2,a3,a4,a5,a6⟩,⟨b1,b2,b3,b4,b5⟩,⟨c1,c2,c3,c4⟩,⟨d1,d2,d3⟩,⟨e1,e2⟩,-⟩:=sep1
  simp only[List.mem_cons,List.not_mem_nil,or_false]at hm
  simp only[List.cons_append,List.nil_append,List.mem_cons,List.mem_append]at hy
  rcases hy with q|q|q|q|q<;>rcases hm with r|r<;>subst r
  ·exact a3 q.symm
  ·exact a4 q.symm
  ·exact b2 q.symm
  ·exact b3 q.symm
  ·exact c1 q.symm
  ·exact c2 q.symm
  ·exact d2 q
  ·exact e1 q
  ·exact d3 q
  ·exact e2 q
 have nt: ∀y∈B.bt,y∉[B.cm,B.cmc]:=fun y hy hm=>tsep y hy (by simp at hm;rcases hm with q|q<;>subst q<;>simp[SB.bm])
 have S2:=m1.S.only O2 (nm _ (by simp))
 have S2':At h2 s (gcell room {B with fp:=fp,fc:=fc} (retN keep N).length F1.length off (.pointer (some ⟨B.tb,0,none⟩)) (.map (some B.sb))):=S2
 have T2:=T1.only O2 fun b hb hm=>nt b hm hb
 refine ldP_of (by rw[At.rd S2];rfl) ?_
 obtain⟨T,tcs,mm,tops,tfails,t1,t2,t3,L,t5,t6,t7⟩:=T2.tab
 refine slots_spec t1 (ldI_of rfl ?_)
 have T32:32≤T:=by
  obtain⟨k,e⟩:=t5
  have:=Nat.two_pow_pos k
  omega
 rw[show(if(T:Int)>32 then(T:Int)else 32)=(T:Int) by split<;>omega]
 have cle:cntN (retN keep N)≤cntN N:=by
  have:=H.cnt
  have h1: ∀(N:List (Option Nd)) (k:Nat→Bool),cntN (N.mapIdx fun i o=>if k i then o else none)≤cntN N:=by
   intro N
   induction N with
   |nil=>intro k;simp[cntN]
   |cons o N ih=>
    intro k
    have:=ih fun i=>k (i+1)
    simp only[cntN,List.mapIdx_cons,List.countP_cons]at this ⊢
    split
    ·omega
    ·simp;omega
  exact h1 N fun i=>keep (i+2)
 have R2:StR h2 s n room {B with fp:=fp,fc:=fc} f g (retN keep N) F1 Q':=
  ⟨m1.O.only O2 (nm _ (by simp)),m1.own.only O2 fun b hb=>nm _ (by rw[show B.p=_ from hb];simp[OwnB]),m1.fre.only O2 fun b hb=>nm _ (List.mem_append.2 (.inr hb)),⟨cs2,ops2,fails2,W2,fun l hl=>by
   have:=z2 l hl
   rw[Nat.zero_add]at this
   exact⟨this.1,this.2.1,by omega,fun e=>by omega⟩⟩,m1.n8,m1.len,m1.sep⟩
 refine grows33 (bl:=[]) S2' R2 (fun i hi=>by simp at hi) (fun a e=>by cases e) (by simp) (fun i x hx=> ?_) (fun i j x hi hj=> ?_) t5 (by rw[era_nil];omega) t7 fun tb m mc sb h3 m3 T3 _ g1 g2 g3 g4 O3=>⟨rfl,?_⟩
 ·rw[era_nil]at hx
  exact ok1.ndok hn8.2 (by rw[el];omega) hx
 ·rw[era_nil]at hi hj
  exact ok1.once i j x hi hj
 rw[era_nil]at T3
 have z1:=O1.size
 have z2':=O2.size
 have z3:=O3.size
 refine hK h3 _ F1 gone ⟨m3,T3,ok1,by rw[el];exact cnt1,fre1.1,fun a ha=>by rw[el];exact fre1.2 a ha⟩ (((O1.mono fun b hb _=>List.mem_append.2 (.inl hb)).trans O2 fun b hb _=>List.mem_append.2 (.inl (by simp at hb;rcases hb with q|q<;>subst q<;>simp[SB.bm]))).trans O3 fun b hb _=>List.mem_append.2 (.inl (by simp at hb;subst hb;simp[SB.bm]))) fun y hy=> ?_
 have new: ∀y,y∈SB.bt (SB.tabs {B with fp:=fp,fc:=fc} tb m mc sb)→h.size≤y:=fun y hy=>by
  simp[SB.bt,SB.tabs]at hy
  omega
 rcases List.mem_append.1 hy with q|q
 ·have q:y∈[s,B.ob,B.cac,B.cm,B.cmc]++OwnB B.p++OwnB fp:=q
  simp only[SB.bm,List.mem_append]at q ⊢
  rcases q with(q|q)|q
  ·exact .inl (.inl (.inl (.inl q)))
  ·exact .inl (.inl (.inl (.inr q)))
  ·rcases fr1 y q with r|r
   ·exact .inl (.inl (.inr r))
   ·exact .inr r
 ·exact .inr (new y q)
end
theorem sto_retain{h:Heap}{s:Nat}{L:List Nat}{X:SX}{mb:Nat}{mo:List (Int×Value)}{keep:Nat→Bool}{K:Value→Heap→Prop}(Q':Int→Int→Prop)(H:Sto h s L X)(M0:MapM h mb .u32 mo)(Hk:KpM mo keep)(dm:mb∉L)
  (hk: ∀i x,nd X.N i=some x→keep (i+2)=true→(x.2.1<2∨keep x.2.1=true)∧(x.2.2<2∨keep x.2.2=true))
  (hK: ∀h' L' gone,Sto h' s L' {X with N:=retN keep X.N,Q:=Q'}→Only L h h'→Fresh L L' h→K (.int .i64 gone) h'):
  Cl 268 [.pointer (some ⟨s,0,none⟩),.map (some mb)] h K:=by
 obtain⟨B,F,e,H⟩:=H
 subst e
 exact retain268 Q' H M0 Hk dm hk fun h' B' F' gone S O fr=>hK h' _ gone ⟨B',F',rfl,S⟩ O fr
end
section
def swp(g:Nat→Int)(i j:Nat):Nat→Int:=fun k=>if k=j then g i else if k=i then g j else g k
inductive Swp (a b:Nat):(Nat→Int)→(Nat→Int)→Prop
 |refl (g:Nat→Int):Swp a b g g
 |step {g g':Nat→Int} {i j:Nat}:a≤i→i<b→a≤j→j<b→Swp a b (swp g i j) g'→Swp a b g g'
theorem Swp.trans{a b:Nat}{f g k:Nat→Int}(H:Swp a b f g)(G:Swp a b g k):Swp a b f k:=by
 induction H with
 |refl _=>exact G
 |step h1 h2 h3 h4 _ ih=>exact .step h1 h2 h3 h4 (ih G)
theorem Swp.one{a b i j:Nat}(g:Nat→Int)(h1:a≤i)(h2:i<b)(h3:a≤j)(h4:j<b):Swp a b g (swp g i j):= .step h1 h2 h3 h4 (.refl _)
theorem Swp.perm{a b n:Nat}{f g:Nat→Int}(H:Swp a b f g)(hb:b≤n):((List.range n).map g).Perm ((List.range n).map f):=by
 induction H with
 |refl g=>exact List.Perm.refl _
 | @step g g' i j h1 h2 h3 h4 _ ih=>
  refine ih.trans ?_
  have e:(List.range n).map (swp g i j)=((List.range n).map fun k=>if k=j then i else if k=i then j else k).map g:=by
   rw[List.map_map]
   apply List.map_congr_left
   intro k _
   simp only[Function.comp,swp]
   split
   ·rfl
   ·split<;>rfl
  rw[e]
  refine List.Perm.map g ?_
  refine(List.perm_ext_iff_of_nodup ?_ List.nodup_range).2 fun k=> ?_
  ·refine List.Pairwise.map _ (fun x y (hxy:x≠y)=> ?_) List.nodup_range
   (repeat' split)<;>omega
  ·rw[List.mem_map]
   constructor
   ·rintro ⟨x,hx,rfl⟩
    rw[List.mem_range]at hx ⊢
    split
    ·omega
    ·split<;>omega
   ·intro hk
    rw[List.mem_range]at hk
    by_cases h:k=j
    ·exact⟨i,by rw[List.mem_range];omega,by by_cases h':i=j<;>simp[h,h']⟩
    ·by_cases h':k=i
     ·exact⟨j,by rw[List.mem_range];omega,by simp[h']⟩
     ·exact⟨k,by rw[List.mem_range];omega,by simp[h,h']⟩
def Srt(a b:Nat)(g:Nat→Int):Prop:= ∀p q,a≤p→p<q→q<b→g p≤g q
theorem Srt.single{a b:Nat}(g:Nat→Int)(h:b≤a+1):Srt a b g:=fun p q _ _ _=>by omega
def Ins(a i j:Nat)(g:Nat→Int):Prop:= ∀p q,a≤p→p<q→q≤i→q≠j→g p≤g q
theorem Ins.start{a i:Nat}{g:Nat→Int}(H:Srt a i g):Ins a i i g:=fun p q h1 h2 h3 h4=>H p q h1 h2 (by omega)
theorem Ins.stop{a i j:Nat}{g:Nat→Int}(H:Ins a i j g)(h:j≤a∨g (j-1)≤g j):Srt a (i+1) g:=fun p q h1 h2 h3=>by
 by_cases hq:q=j
 ·subst hq
  rcases h with h|h
  ·omega
  ·by_cases hp:p=q-1
   ·subst hp;exact h
   ·exact Int.le_trans (H p (q-1) h1 (by omega) (by omega) (by omega)) h
 ·exact H p q h1 h2 (by omega) hq
theorem swp_i(g:Nat→Int)(i j:Nat):swp g i j i=g j:=by
 unfold swp
 by_cases h:i=j
 ·rw[if_pos h,h]
 ·rw[if_neg h,if_pos rfl]
theorem swp_j(g:Nat→Int)(i j:Nat):swp g i j j=g i:=if_pos rfl
theorem swp_o(g:Nat→Int){i j k:Nat}(hi:k≠i)(hj:k≠j):swp g i j k=g k:=by
 unfold swp
 rw[if_neg hj,if_neg hi]
theorem Ins.step{a i j:Nat}{g:Nat→Int}(H:Ins a i j g)(hj:a<j)(hji:j≤i)(hl:g j<g (j-1)):Ins a i (j-1) (swp g j (j-1)):=fun p q h1 h2 h3 h4=>by
 by_cases hq:q=j
 ·subst hq
  rw[swp_i]
  by_cases hp:p=q-1
  ·subst hp
   rw[swp_j]
   omega
  ·rw[swp_o g (by omega) hp]
   exact H p (q-1) h1 (by omega) (by omega) (by omega)
 ·rw[swp_o g hq h4]
  by_cases hp:p=j
  ·subst hp
   rw[swp_i]
   exact H (p-1) q (by omega) (by omega) h3 hq
  ·by_cases hp':p=j-1
   ·subst hp'
    rw[swp_j]
    exact H j q (by omega) (by omega) h3 hq
   ·rw[swp_o g hp hp']
    exact H p q h1 h2 h3 hq
def Arr(q:IntKind)(h:Heap)(b n:Nat)(g:Nat→Int)(sp:List Value):Prop:=At h b (rowV n (fun k=> .int q (g k))++sp)
theorem Arr.rd{q:IntKind}{h:Heap}{b n:Nat}{g:Nat→Int}{sp:List Value}(A:Arr q h b n g sp){k:Nat}(hk:k<n):Ev.rd h ⟨b,k,none⟩=some (.int q (g k)):=by
 rw[At.rd A,List.getElem?_append_left (by rw[rowV_len];exact hk),rowV_get hk]
theorem Arr.st{q:IntKind}{h:Heap}{b n:Nat}{g:Nat→Int}{sp:List Value}(A:Arr q h b n g sp){k:Nat}(hk:k<n){v:Int}{K:Heap→Prop}
  (hK: ∀h',Arr q h' b n (fun j=>if j=k then v else g j) sp→Only [b] h h'→K h'):stK h ⟨b,k,none⟩ (.int q v) K:=
 stK_at A (by simp[rowV_len];omega) rfl fun h' A' O' _=>hK h' (by
  have e:(rowV n (fun j=>Value.int q (g j))++sp).set k (.int q v)=rowV n (fun j=>Value.int q (if j=k then v else g j))++sp:=by
   rw[List.set_append_left _ _ (by rw[rowV_len];exact hk),rowV_set]
   congr 1
   apply rowV_ext
   intro j _
   split<;>rfl
  rw[e]at A'
  exact A') O'
theorem Arr.ld{q:IntKind}{h:Heap}{b n:Nat}{g:Nat→Int}{sp:List Value}(A:Arr q h b n g sp){x:Int}{k:Nat}(hx:x=k)(hk:k<n){Q:Int→Prop}(hQ:Q (g k)):
  ptrK (some ⟨b,0,none⟩) fun a=>(0≤x∧x<(n:Int)∧ldI q (Ev.rd h (Addr.add a (Int.toNat x*1))) Q):=by
 subst hx
 rw[ptrK_some]
 refine⟨by omega,by omega,?_⟩
 rw[add_mk,show 0+Int.toNat (k:Int)*1=k by omega,A.rd hk,ldI_some]
 exact hQ
theorem Arr.sto{q:IntKind}{h:Heap}{b n:Nat}{g:Nat→Int}{sp:List Value}(A:Arr q h b n g sp){x:Int}{k:Nat}(hx:x=k)(hk:k<n){v:Int}{K:Heap→Prop}
  (hK: ∀h',Arr q h' b n (fun j=>if j=k then v else g j) sp→Only [b] h h'→K h'):
  ptrK (some ⟨b,0,none⟩) fun a=>(0≤x∧x<(n:Int)∧stK h (Addr.add (Addr.add a (Int.toNat x*1)) 0) (.int q v) K):=by
 subst hx
 rw[ptrK_some]
 refine⟨by omega,by omega,?_⟩
 rw[add_mk,add_mk,show 0+Int.toNat (k:Int)*1+0=k by omega]
 exact A.st hk hK
end
end Go.Proofs.YtnofenejoebkhaaGreat.Ev
