/- PART 5 OF WHAT THE LAW WholeCache STANDS ON: PolB5, PolC5, PolD5, PolE5, PolG5, PolH5, PolI5, LpF5, PolJ5, EngA5, EngF5, EngB5, EngC5, RefF5, IterE5, RefC5, RefD5, EngD5, EngE5, VarF5, PlyH5, FunI5, FunJ5, PlyI5, EngG5. Conditions: none but those that each lemma states. -/
import Derived.Test.YtnofenejoebkhaaGreatG4
namespace Go.Proofs.YtnofenejoebkhaaGreat.Ev
open Go
section
theorem eqE_ptr{P:Program}{h:Heap}{t e:TypeId}{j:TypeInfo}{a b:Addr}{K:Bool→Prop}(ht:P.underlying t=some (.pointer e))(hi:P.info? e=some j)(hz:Nat.beq j.size 0=false)
  (h1:a=b→K true) (h2:a≠b→(∃c u,h[a.block]? =some (.cells c u))∧(∃c u,h[b.block]? =some (.cells c u))∧K false):eqE P h t (.pointer (some a)) (.pointer (some b)) K:=by
 unfold eqE
 rw[ht]
 dsimp only
 rw[hi]
 dsimp only
 rw[hz]
 exact⟨h1,h2⟩
theorem u164:Tryz.prog.underlying 164=some (.pointer 166):=by kernel_rfl
theorem i166:(Tryz.prog.info? 166).map (fun i=>Nat.beq i.size 0)=some false:=by kernel_rfl
theorem At.cells{h:Heap}{b:Nat}{c:List Value}(A:At h b c): ∃c u,h[b]? =some (.cells c u):=by
 obtain⟨e,he⟩:=A
 exact⟨_,_,he⟩
section
variable {h:Heap}{p s:Nat}{P:PS}{k:Wk}{K:Value→Heap→Prop}
theorem takes129(W:WkIs h k)(hT:k.T+k.q.length<1000000000)(hx: ∀x∈k.q,0≤x∧x<1000000000)
  (hE:k.q=[]→ ∀h' k',WkIs h' k'→k'.bl=k.bl→k'.q=[]→k'.job=k.job→k'.T=k.T→Only k.bl h h'→K (.bool false) h')
  (hQ: ∀x q',k.q=q'++[x]→ ∀h' k',WkIs h' k'→k'.bl=k.bl→k'.q=q'→k'.job=x→k'.T+k'.q.length≤k.T+k.q.length→Only k.bl h h'→K (.bool true) h'):
  Cl 129 [ptrV k.w] h K:=by
 refine F129.spec _ h K ?_
 simp only[add_mk,Nat.zero_add,Nat.add_zero]
 refine ldP_of (n:=some ⟨k.d,0,none⟩) (by rw[At.rd W.own];rfl) ?_
 obtain⟨n1,n2,n3⟩:=W.ne
 refine poprun W.dw W.ds hT (fun e h1 o f cs D1 _ W1 O1=>⟨_,_,rfl,?_⟩) fun x q' T' e le h1 o f cs D1 _ W1 O1=>⟨_,_,rfl,?_⟩
 ·rw[bcase_false]
  exact hE e h1 ⟨k.w,k.d,k.m,k.mc,cs,o,f,k.T,[],k.job⟩ ⟨W.own.only O1 (by simp;omega),W1,D1,W.ne⟩ rfl rfl rfl rfl (O1.mono fun b hb _=>by simp[Wk.bl]at hb ⊢;omega)
 ·rw[bcase_true]
  have hx1:=hx x (by rw[e];simp)
  refine stK_at (W.own.only O1 (by simp;omega)) (by simp) rfl fun h2 A2 O2 z2=> ?_
  have lt:=W1.lt
  rw[wrap_i64 (n:=x) (by omega) (by omega)]at A2
  exact hQ x q' e h2 ⟨k.w,k.d,k.m,k.mc,cs,o,f,T',q',x⟩ ⟨A2,W1.only O2 (by simp;omega) (by simp;omega) (by simp;omega),D1,W.ne⟩ rfl rfl rfl le ((O1.mono fun b hb _=>by simp[Wk.bl]at hb ⊢;omega).trans O2 fun b hb _=>by simp[Wk.bl]at hb ⊢;omega)
end
def WkEq(k k':Wk):Prop:=k'.bl=k.bl∧k'.q=k.q∧k'.job=k.job∧k'.T=k.T
def WsEq(a b:List Wk):Prop:=b.length=a.length∧ ∀(i:Nat) (k:Wk),a[i]? =some k→ ∃k':Wk,b[i]? =some k'∧WkEq k k'
theorem WsEq.refl(a:List Wk):WsEq a a:=⟨rfl,fun i k h=>⟨k,h,rfl,rfl,rfl,rfl⟩⟩
theorem WsEq.set{a b:List Wk}(H:WsEq a b){i:Nat}{k k':Wk}(hi:b[i]? =some k)(e:WkEq k k'):WsEq a (b.set i k'):=by
 refine⟨by rw[List.length_set];exact H.1,fun j x hx=> ?_⟩
 obtain⟨y,hy,e1,e2,e3,e4⟩:=H.2 j x hx
 rw[List.getElem?_set]
 by_cases hij:i=j
 ·subst hij
  rw[hi]at hy
  injection hy with hy
  subst hy
  rw[if_pos rfl,if_pos (List.getElem?_eq_some_iff.1 hi).1]
  exact⟨k',rfl,e.1.trans e1,e.2.1.trans e2,e.2.2.1.trans e3,e.2.2.2.trans e4⟩
 ·rw[if_neg hij]
  exact⟨y,hy,e1,e2,e3,e4⟩
section
variable {h:Heap}{p s:Nat}{P:PS}{K:Value→Heap→Prop}
theorem WkEq.w{k k':Wk}(e:WkEq k k'):k'.w=k.w:=by
 have:=e.1
 simp only[Wk.bl,List.cons.injEq]at this
 exact this.1
theorem pool_rd(H:PoolIs h p s P):rd h ⟨p,0,none⟩=some (ptrV s)∧rd h ⟨p,1,none⟩=some (.slice P.wp P.ws.length P.wc)∧rd h ⟨p,2,none⟩=some (.map (some P.jb))∧rd h ⟨p,3,none⟩=some (.int .i64 (P.last:Int))∧rd h ⟨p,4,none⟩=some (.int .i64 P.steals):=
 ⟨by rw[At.rd H.own];rfl,by rw[At.rd H.own];rfl,by rw[At.rd H.own];rfl,by rw[At.rd H.own];rfl,by rw[At.rd H.own];rfl⟩
theorem ws_rd(H:PoolIs h p s P){i:Nat}{k:Wk}(hi:P.ws[i]? =some k): ∃b,P.wp=some ⟨b,0,none⟩∧rd h ⟨b,i,none⟩=some (ptrV k.w):=by
 have hil:=(List.getElem?_eq_some_iff.1 hi).1
 obtain⟨b,e,r⟩:=H.wks.rd (j:=i) (by simpa using hil)
 refine⟨b,e,?_⟩
 rw[r,List.getElem?_map,hi]
 rfl
theorem PoolIs.set_cell{h':Heap}{l:Nat}{st:Int}(H:PoolIs h p s P)(O:Only [p] h h')(A:At h' p (cellP s {P with last:=l,steals:=st}))(hl:P.last≤l):PoolIs h' p s {P with last:=l,steals:=st}:=by
 obtain⟨τ,t⟩:=H.sep
 have np: ∀b,b∈[p]→τ b=0:=fun b hb=>by simp only[List.mem_singleton]at hb;subst hb;exact t.p
 refine⟨A,H.wks.only O fun b e hm=> ?_,fun k hk=>(H.wk k hk).only O fun b hb hm=> ?_,H.jbm.only O fun hm=> ?_,fun j hj=>(H.ma j hj).only O fun b hb hm=> ?_,⟨τ,t.p,t.jb,t.wp,t.ws,t.jobs⟩,H.ne,H.ids.1,fun j hj=> ?_⟩
 ·simp only[List.mem_singleton]at hm
  subst hm
  exact H.ne.2.1 (by rw[e];simp[OwnB])
 ·obtain⟨x,hx⟩:=List.mem_iff_getElem?.1 hk
  have:=t.ws x k hx b hm
  have:=np b hb
  omega
 ·simp only[List.mem_singleton]at hm
  exact H.ne.1 hm.symm
 ·have:=t.jobs j hj b hm
  have:=np b hb
  omega
 ·have:=H.ids.2 j hj
  show 1≤j.id∧j.id≤l
  omega
set_option maxRecDepth 100000 in
theorem steals130(H:PoolIs h p s P){i0:Nat}{kw:Wk}(h0:P.ws[i0]? =some kw){draw:Int}(hn:P.ws.length≤1000)(hT: ∀k∈P.ws,k.T+k.q.length<1000000000)(hx: ∀k∈P.ws,∀x∈k.q,0≤x∧x<1000000000)(hst:0≤P.steals∧P.steals<1000000000)
  (hN: ∀h' ws,PoolIs h' p s {P with ws:=ws}→WsEq P.ws ws→(∀b,PBl p {P with ws:=ws} b→PBl p P b)→(∀S,(∀b,PBl p P b→b∈S)→Only S h h')→K (.bool false) h')
  (hS: ∀h' ws i1 k1 x q1 kw' k1' ws',WsEq P.ws ws→i1≠i0→ws[i1]? =some k1→k1.q=x::q1→ws[i0]? =some kw'→k1'.bl=k1.bl→k1'.q=q1→k1'.job=k1.job→k1'.T=k1.T+1→ws'=(ws.set i1 k1').set i0 {kw' with job:=x}→PoolIs h' p s {P with ws:=ws',steals:=P.steals+1}→(∀b,PBl p {P with ws:=ws',steals:=P.steals+1} b→PBl p P b)→(∀S,(∀b,PBl p P b→b∈S)→Only S h h')→K (.bool true) h'):
  Cl 130 [ptrV p,ptrV kw.w,.int .i64 draw] h K:=by
 refine F130.spec _ _ _ h K ?_
 simp only[add_mk,Nat.zero_add,Nat.add_zero]
 refine ldS_of (pool_rd H).2.1 ?_
 unfold F130.wk3
 have hlen:i0<P.ws.length:=(List.getElem?_eq_some_iff.1 h0).1
 have main: ∀(d i:Nat) (h1:Heap) (ws:List Wk),i+d=P.ws.length→PoolIs h1 p s {P with ws:=ws}→WsEq P.ws ws→(∀b,PBl p {P with ws:=ws} b→PBl p P b)→(∀S,(∀b,PBl p P b→b∈S)→Only S h h1)→
   F130.wL3 (d+1) ⟨p,0,none⟩ ⟨kw.w,0,none⟩ draw (P.ws.length:Int) (P.ws.length:Int) (i:Int) h1 K:=by
  intro d
  induction d with
  |zero=>
   intro i h1 ws hi H1 E1 B1 O1
   rw[F130.sL3]
   rw[decide_eq_false (by omega),bcase_false]
   exact hN h1 ws H1 E1 B1 O1
  |succ d ih=>
   intro i h1 ws hi H1 E1 B1 O1
   have el:ws.length=P.ws.length:=E1.1
   have ew:IntKind.wrap .i64 ((i:Int)+1)=((i+1:Nat):Int):=by rw[wrap_i64 (by omega) (by omega)];omega
   rw[F130.sL3]
   rw[decide_eq_true (by omega),bcase_true,ew]
   simp only[add_mk,Nat.zero_add,Nat.add_zero]
   obtain⟨x,hxl,ex⟩: ∃x:Nat,x<P.ws.length∧(Int.tmod (IntKind.wrap .i64 ((Int.tmod (IntKind.wrap .i64 ((Int.tmod draw (P.ws.length:Int))+(i:Int))) (P.ws.length:Int))+(P.ws.length:Int))) (P.ws.length:Int))=(x:Int):=by
    obtain⟨n,hnn⟩: ∃n:Int,n=(P.ws.length:Int):=⟨_,rfl⟩
    rw[←hnn]
    have npos:0<n:=by omega
    have b1:=Int.tmod_lt_of_pos draw npos
    have b2: -n<draw.tmod n:=by have:=Int.lt_tmod_of_pos draw npos;omega
    rw[wrap_i64 (n:=draw.tmod n+(i:Int)) (by omega) (by omega)]
    have c1:=Int.tmod_lt_of_pos (draw.tmod n+(i:Int)) npos
    have c2: -n<(draw.tmod n+(i:Int)).tmod n:=by have:=Int.lt_tmod_of_pos (draw.tmod n+(i:Int)) npos;omega
    rw[wrap_i64 (n:=(draw.tmod n+(i:Int)).tmod n+n) (by omega) (by omega)]
    have d1:=Int.tmod_lt_of_pos ((draw.tmod n+(i:Int)).tmod n+n) npos
    have d2:=Int.tmod_nonneg n (a:=(draw.tmod n+(i:Int)).tmod n+n) (by omega)
    exact⟨(((draw.tmod n+(i:Int)).tmod n+n).tmod n).toNat,by omega,by omega⟩
   obtain⟨k1,hk1⟩: ∃k1,ws[x]? =some k1:=⟨_,List.getElem?_eq_getElem (by omega)⟩
   obtain⟨b,eb,rb⟩:=ws_rd H1 hk1
   rw[ex]
   refine ldS_of (pool_rd H1).2.1 ⟨by omega,by omega,by omega,?_⟩
   dsimp only at eb ⊢
   rw[eb,ptrK_some,el]
   refine⟨by omega,by omega,?_⟩
   simp only[add_mk,Nat.zero_add,Nat.add_zero,Int.toNat_natCast,Nat.mul_one]
   refine ldP_of rb ?_
   obtain⟨kw',hkw,e0⟩:=E1.2 i0 kw h0
   have ekw:=e0.w
   obtain⟨j,hj⟩: ∃j,Tryz.prog.info? 166=some j:=by
    cases hh:Tryz.prog.info? 166 with
    |none=>have:=i166;rw[hh]at this;cases this
    |some j=>exact⟨j,rfl⟩
   have hjz:Nat.beq j.size 0=false:=by have:=i166;rw[hj]at this;simpa using this
   have W1:=H1.wk k1 (List.mem_of_getElem? hk1)
   have Ww:=H1.wk kw' (List.mem_of_getElem? hkw)
   refine eqE_ptr u164 hj hjz (fun e=> ?_) fun e=>⟨W1.own.cells,by rw[←ekw];exact Ww.own.cells,?_⟩
   ·rw[bcase_true]
    exact ih (i+1) h1 ws (by omega) H1 E1 B1 O1
   ·rw[bcase_false]
    have hne:x≠i0:=fun e'=>by
     subst e'
     rw[hk1]at hkw
     injection hkw with hkw
     subst hkw
     exact e (by rw[ekw])
    rw[ptrK_some]
    simp only[add_mk,Nat.zero_add,Nat.add_zero]
    refine ldP_of (n:=some ⟨k1.d,0,none⟩) (by rw[At.rd W1.own];rfl) ?_
    obtain⟨k0,hk0⟩: ∃k0,P.ws[x]? =some k0:=⟨_,List.getElem?_eq_getElem (by omega)⟩
    obtain⟨k1a,hk1a,q1,q2,q3,q4⟩:=E1.2 x k0 hk0
    rw[hk1]at hk1a
    injection hk1a with hk1a
    subst hk1a
    have hk0m:=List.mem_of_getElem? hk0
    have hT1:k1.T+k1.q.length<1000000000:=by rw[q2,q4];exact hT k0 hk0m
    obtain⟨n1,n2,n3⟩:=W1.ne
    have hp: ∀h2 S,(∀b,PBl p P b→b∈S)→Only [k1.m,k1.mc] h1 h2→Only S h h2:=fun h2 S hS O2=>(O1 S hS).trans O2 fun b hb _=>hS b (B1 b (.inr (.inr (.inr (.inl ⟨k1,List.mem_of_getElem? hk1,by simp[Wk.bl]at hb ⊢;omega⟩)))))
    refine stealrun W1.dw W1.ds hT1 (fun eq h2 o f W2 O2=>⟨_,_,rfl,?_⟩) fun y q' eq h2 o f cs D2 _ W2 O2=>⟨_,_,rfl,?_⟩
    ·rw[bcase_false]
     have Wn:WkIs h2 ⟨k1.w,k1.d,k1.m,k1.mc,k1.cs,o,f,k1.T,k1.q,k1.job⟩:=⟨W1.own.only O2 (by simp;omega),W2,W1.ds,W1.ne⟩
     have H2:=H1.set_wk (k':=⟨k1.w,k1.d,k1.m,k1.mc,k1.cs,o,f,k1.T,k1.q,k1.job⟩) hk1 O2 (fun b hb=>by simp[Wk.bl]at hb ⊢;omega) Wn rfl
     exact ih (i+1) h2 _ (by omega) H2 (E1.set hk1 ⟨rfl,rfl,rfl,rfl⟩) (fun b hb=>B1 b (pbl_set_wk (P:={P with ws:=ws}) hk1 (by rfl) hb)) fun S hS=>hp h2 S hS O2
    ·rw[bcase_true]
     have Wn:WkIs h2 ⟨k1.w,k1.d,k1.m,k1.mc,cs,o,f,k1.T+1,q',k1.job⟩:=⟨W1.own.only O2 (by simp;omega),W2,D2,W1.ne⟩
     have H2:=H1.set_wk (k':=⟨k1.w,k1.d,k1.m,k1.mc,cs,o,f,k1.T+1,q',k1.job⟩) hk1 O2 (fun b hb=>by simp[Wk.bl]at hb ⊢;omega) Wn rfl
     have hkw2:(ws.set x ⟨k1.w,k1.d,k1.m,k1.mc,cs,o,f,k1.T+1,q',k1.job⟩)[i0]? =some kw':=by rw[List.getElem?_set,if_neg hne];exact hkw
     have Ww2:=H2.wk kw' (List.mem_of_getElem? hkw2)
     have hy:0≤y∧y<1000000000:=hx k0 hk0m y (by rw[←q2,eq];simp)
     rw[wrap_i64 (n:=y) (by omega) (by omega),←ekw]
     refine stK_at Ww2.own (by simp) rfl fun h3 A3 O3 z3=> ?_
     obtain⟨m1,m2,m3⟩:=Ww2.ne
     have H3:=H2.set_wk (k':={kw' with job:=y}) hkw2 O3 (fun b hb=>by simp[Wk.bl]at hb ⊢;omega) ⟨A3,Ww2.dw.only O3 (by simp;omega) (by simp;omega) (by simp;omega),Ww2.ds,Ww2.ne⟩ rfl
     dsimp only at H3
     refine ldI_of (pool_rd H3).2.2.2.2 ?_
     dsimp only
     rw[wrap_i64 (n:=P.steals+1) (by omega) (by omega)]
     refine stK_at H3.own (by simp[cellP]) rfl fun h4 A4 O4 z4=> ?_
     have H4:=H3.set_cell (l:=P.last) (st:=P.steals+1) O4 (by simpa[cellP]using A4) (Nat.le_refl _)
     dsimp only at H4
     have hB: ∀b,PBl p {P with ws:=(ws.set x ⟨k1.w,k1.d,k1.m,k1.mc,cs,o,f,k1.T+1,q',k1.job⟩).set i0 {kw' with job:=y},steals:=P.steals+1} b→PBl p P b:=fun b hb=>
      B1 b (pbl_set_wk (P:={P with ws:=ws}) (k':=⟨k1.w,k1.d,k1.m,k1.mc,cs,o,f,k1.T+1,q',k1.job⟩) hk1 (by rfl) (pbl_set_wk (P:={P with ws:=ws.set x ⟨k1.w,k1.d,k1.m,k1.mc,cs,o,f,k1.T+1,q',k1.job⟩}) (k':={kw' with job:=y}) hkw2 (by rfl) hb))
     refine hS h4 ws x k1 y q' kw' ⟨k1.w,k1.d,k1.m,k1.mc,cs,o,f,k1.T+1,q',k1.job⟩ _ E1 hne hk1 eq hkw rfl rfl rfl rfl rfl H4 hB fun S hS'=> ?_
     refine((hp h2 S hS' O2).trans O3 fun b hb _=> ?_).trans O4 fun b hb _=> ?_
     ·simp only[List.mem_singleton]at hb
      subst hb
      exact hS' _ (B1 _ (.inr (.inr (.inr (.inl ⟨kw',List.mem_of_getElem? hkw,by simp[Wk.bl]⟩)))))
     ·simp only[List.mem_singleton]at hb
      subst hb
      exact hS' _ (.inl rfl)
 exact⟨_,main P.ws.length 0 h P.ws (by omega) H (WsEq.refl _) (fun b hb=>hb) fun S hS=>Only.refl _ _⟩
end
end
section
theorem sum_set{α:Type}(f:α→Nat): ∀(l:List α) (i:Nat) (a a':α),l[i]? =some a→((l.set i a').map f).sum+f a=(l.map f).sum+f a'
 | [],i,a,a',h=>by simp at h
 |x::l,0,a,a',h=>by simp at h;subst h;simp;omega
 |x::l,i+1,a,a',h=>by
  have ih:=sum_set f l i a a' (by simpa using h)
  simp only[List.set_cons_succ,List.map_cons,List.sum_cons]
  omega
theorem nodup_inj{α:Type}{l:List α}(h:l.Nodup){x y:Nat}{a:α}(hx:l[x]? =some a)(hy:l[y]? =some a):x=y:=by
 obtain⟨l1,e1⟩:=List.getElem?_eq_some_iff.1 hx
 obtain⟨l2,e2⟩:=List.getElem?_eq_some_iff.1 hy
 apply Classical.byContradiction
 intro hne
 rcases Nat.lt_or_ge x y with h'|h'
 ·exact(List.pairwise_iff_getElem.1 h) x y l1 l2 h' (e1.trans e2.symm)
 ·exact(List.pairwise_iff_getElem.1 h) y x l2 l1 (by omega) (e2.trans e1.symm)
theorem flat_set{α β:Type}(f:α→List β): ∀(l:List α) (i:Nat) (a a':α),l[i]? =some a→(f a++(l.set i a').flatMap f).Perm (f a'++l.flatMap f)
 | [],i,a,a',h=>by simp at h
 |x::l,0,a,a',h=>by
  simp at h
  subst h
  simp only[List.set_cons_zero,List.flatMap_cons]
  exact List.perm_append_comm_assoc _ _ _
 |x::l,i+1,a,a',h=>by
  have ih:=flat_set f l i a a' (by simpa using h)
  simp only[List.set_cons_succ,List.flatMap_cons]
  exact(List.perm_append_comm_assoc _ _ _).trans ((ih.append_left _).trans (List.perm_append_comm_assoc _ _ _))
theorem mem_set{α:Type}{l:List α}{i:Nat}{a x:α}(h:x∈l.set i a):x=a∨ ∃j,j≠i∧l[j]? =some x:=by
 obtain⟨j,hj⟩:=List.mem_iff_getElem?.1 h
 rw[List.getElem?_set]at hj
 by_cases hij:i=j
 ·rw[if_pos hij]at hj
  split at hj
  ·injection hj with hj;exact .inl hj.symm
  ·cases hj
 ·rw[if_neg hij]at hj
  exact .inr ⟨j,fun e=>hij e.symm,hj⟩
def Wk.loc(k:Wk):List Int:=(if k.job=0 then []else [k.job])++k.q
def locs(ws:List Wk):List Int:=ws.flatMap Wk.loc
def qlen(ws:List Wk):Nat:=(ws.map fun k=>k.q.length).sum
structure PoolOk(n:Nat)(fo:Nat→Nat)(N:List (Option Nd))(P:PS):Prop where
 mst: ∀j∈P.jobs,MSt n fo N j.G j.A∧mus n N j.A.fs≤90000
 at_: ∀x∈locs P.ws,∃j∈P.jobs,x=(j.id:Int)∧j.A.done=false
 one:(locs P.ws).Nodup
 loc: ∀j∈P.jobs,j.A.done=false→(j.id:Int)∈locs P.ws
 T: ∀k∈P.ws,k.T+k.q.length≤P.last
 len:1≤P.ws.length∧P.ws.length≤4
 last:P.last<100000000
 steals:0≤P.steals∧P.steals+(qlen P.ws:Int)≤(P.last:Int)
def phi(n:Nat)(N:List (Option Nd))(P:PS):Nat:=(P.jobs.map fun j=>mus n N j.A.fs).sum+qlen P.ws
def psi(n:Nat)(N:List (Option Nd))(P:PS):Nat:=cntN N+(P.jobs.map fun j=>nbs n N j.A.fs).sum
theorem WkEq.loc{k k':Wk}(e:WkEq k k'):k'.loc=k.loc:=by unfold Wk.loc;rw[e.2.1,e.2.2.1]
theorem WsEq.map{β:Type}{a b:List Wk}(H:WsEq a b)(f:Wk→β)(hf: ∀k k',WkEq k k'→f k'=f k):b.map f=a.map f:=by
 apply List.ext_getElem?
 intro i
 rw[List.getElem?_map,List.getElem?_map]
 cases h:a[i]? with
 |none=>
  rw[List.getElem?_eq_none (by have:=H.1;have:=List.getElem?_eq_none_iff.1 h;omega)]
 |some k=>
  obtain⟨k',h',e⟩:=H.2 i k h
  rw[h']
  simp[hf k k' e]
theorem WsEq.locs{a b:List Wk}(H:WsEq a b):locs b=locs a:=by
 unfold Ev.locs
 rw[List.flatMap_def,List.flatMap_def,H.map Wk.loc fun k k' e=>e.loc]
theorem WsEq.qlen{a b:List Wk}(H:WsEq a b):qlen b=qlen a:=by
 unfold Ev.qlen
 rw[H.map (fun k=>k.q.length) fun k k' e=>by rw[e.2.1]]
theorem WsEq.mem{a b:List Wk}(H:WsEq a b){k':Wk}(h:k'∈b): ∃k∈a,WkEq k k':=by
 obtain⟨i,hi⟩:=List.mem_iff_getElem?.1 h
 have hl:=(List.getElem?_eq_some_iff.1 hi).1
 have h1:a[i]? =some (a[i]'(by have:=H.1;omega)):=List.getElem?_eq_getElem _
 obtain⟨x,hx,e⟩:=H.2 i _ h1
 rw[hi]at hx
 injection hx with hx
 subst hx
 exact⟨_,List.getElem_mem _,e⟩
section
variable {n:Nat}{fo:Nat→Nat}{N N':List (Option Nd)}{P:PS}
theorem PoolOk.eq(H:PoolOk n fo N P){ws:List Wk}(E:WsEq P.ws ws):PoolOk n fo N {P with ws:=ws}∧phi n N {P with ws:=ws}=phi n N P∧psi n N {P with ws:=ws}=psi n N P:=by
 refine⟨⟨H.mst,?_,?_,?_,fun k hk=> ?_,by show 1≤ws.length∧ws.length≤4;rw[E.1];exact H.len,H.last,?_⟩,?_,rfl⟩
 ·show ∀x∈locs ws,_
  rw[E.locs];exact H.at_
 ·show(locs ws).Nodup
  rw[E.locs];exact H.one
 ·show ∀j∈P.jobs,_→_∈locs ws
  rw[E.locs];exact H.loc
 ·obtain⟨k0,h0,e⟩:=E.mem hk
  have:=H.T k0 h0
  rw[e.2.1,e.2.2.2]
  exact this
 ·show 0≤P.steals∧P.steals+(qlen ws:Int)≤_
  rw[E.qlen];exact H.steals
 ·unfold phi
  show _+qlen ws=_
  rw[E.qlen]
theorem MSt.frs{G:Goal}{A:MA}(M:MSt n fo N G A): ∀f∈A.fs,FrOk n fo N f:=fun f hf=>by
 rcases M with⟨-,-,-,R⟩|⟨-,-,h,-⟩|⟨-,-,h⟩
 ·exact R.frs f hf
 ·rw[h]at hf;cases hf
 ·rw[h]at hf;cases hf
theorem OpR.goal{G:Goal}{r:Nat}(hG:isN N G.a0∧isN N G.a1∧isN N G.a2)(ok:NOk n N)(E:Ex N N')(R:OpR n fo N G.op G.a0 G.a1 G.a2 r):OpR n fo N' G.op G.a0 G.a1 G.a2 r:=R.ext ok E hG.1 hG.2.1 hG.2.2
theorem MSt.ext{G:Goal}{A:MA}(hG:isN N G.a0∧isN N G.a1∧isN N G.a2)(ok:NOk n N)(E:Ex N N')(M:MSt n fo N G A):MSt n fo N' G A:=by
 rcases M with⟨h1,h2,h3,R⟩|⟨h1,h2,h3,R⟩|h
 ·exact .inl ⟨h1,h2,h3,R.ext ok E⟩
 ·exact .inr (.inl ⟨h1,h2,h3,R.goal hG ok E⟩)
 ·exact .inr (.inr h)
end
def GoalsOk(N:List (Option Nd))(P:PS):Prop:= ∀j∈P.jobs,isN N j.G.a0∧isN N j.G.a1∧isN N j.G.a2
section
variable {n:Nat}{fo:Nat→Nat}{N N':List (Option Nd)}{P:PS}
theorem PoolOk.step(H:PoolOk n fo N P)(GO:GoalsOk N P)(ok:NOk n N)(E:Ex N N'){i w:Nat}{j:Jb}{k:Wk}{A':MA}(ids:(P.jobs.map (·.id)).Nodup)(pos:1≤j.id)(hi:P.jobs[i]? =some j)(hw:P.ws[w]? =some k)(hj:k.job=(j.id:Int))(M:MSt n fo N' j.G A')
  (hm:mus n N' A'.fs+1≤mus n N j.A.fs) (hc:cntN N'+nbs n N' A'.fs≤cntN N+nbs n N j.A.fs):
  PoolOk n fo N' {P with jobs:=P.jobs.set i {j with A:=A'},ws:=if A'.done=true then P.ws.set w {k with job:=0}else P.ws}∧
  phi n N' {P with jobs:=P.jobs.set i {j with A:=A'},ws:=if A'.done=true then P.ws.set w {k with job:=0}else P.ws}+1≤phi n N P∧
  psi n N' {P with jobs:=P.jobs.set i {j with A:=A'},ws:=if A'.done=true then P.ws.set w {k with job:=0}else P.ws}≤psi n N P:=by
 have hjm:=List.mem_of_getElem? hi
 have hil:=(List.getElem?_eq_some_iff.1 hi).1
 have hkm:=List.mem_of_getElem? hw
 have hwl:=(List.getElem?_eq_some_iff.1 hw).1
 have uniq: ∀y∈P.jobs,y.id=j.id→y=j:=fun y hy e=>by
  obtain⟨x,hx⟩:=List.mem_iff_getElem?.1 hy
  have h1:(P.jobs.map (·.id))[x]? =some j.id:=by rw[List.getElem?_map,hx];simp[e]
  have h2:(P.jobs.map (·.id))[i]? =some j.id:=by rw[List.getElem?_map,hi];rfl
  have:=nodup_inj ids h1 h2
  subst this
  rw[hi]at hx
  injection hx with hx
  exact hx.symm
 have hk0:k.job≠0:=by omega
 have kl:k.loc=k.job::k.q:=by unfold Wk.loc;rw[if_neg hk0];rfl
 have rest: ∀y∈P.jobs.set i {j with A:=A'},y={j with A:=A'}∨(y∈P.jobs∧y.id≠j.id):=fun y hy=>by
  rcases mem_set hy with h|⟨x,hx,h⟩
  ·exact .inl h
  ·refine .inr ⟨List.mem_of_getElem? h,fun e=>hx ?_⟩
   have:=uniq y (List.mem_of_getElem? h) e
   subst this
   exact nodup_inj ids (x:=x) (y:=i) (a:=y.id) (by rw[List.getElem?_map,h];rfl) (by rw[List.getElem?_map,hi];rfl)
 have same: ∀y∈P.jobs,mus n N' y.A.fs=mus n N y.A.fs∧nbs n N' y.A.fs=nbs n N y.A.fs:=fun y hy=>⟨mus_ext (fo:=fo) E (H.mst y hy).1.frs,nbs_ext (fo:=fo) E (H.mst y hy).1.frs⟩
 have mst': ∀y∈P.jobs.set i {j with A:=A'},MSt n fo N' y.G y.A∧mus n N' y.A.fs≤90000:=fun y hy=>by
  rcases rest y hy with h|⟨h,-⟩
  ·subst h
   have:=(H.mst j hjm).2
   exact⟨M,by show mus n N' A'.fs≤90000;omega⟩
  ·exact⟨(H.mst y h).1.ext (GO y h) ok E,by rw[(same y h).1];exact(H.mst y h).2⟩
 have up: ∀y∈P.jobs,y.id≠j.id→y∈P.jobs.set i {j with A:=A'}:=fun y hy hne=>by
  obtain⟨x,hx⟩:=List.mem_iff_getElem?.1 hy
  refine List.mem_iff_getElem?.2 ⟨x,?_⟩
  rw[List.getElem?_set,if_neg fun e=> ?_]
  ·exact hx
  ·subst e
   rw[hi]at hx
   injection hx with hx
   subst hx
   exact hne rfl
 have upj:{j with A:=A'}∈P.jobs.set i {j with A:=A'}:=List.mem_iff_getElem?.2 ⟨i,by rw[List.getElem?_set,if_pos rfl,if_pos hil]⟩
 have smu:=sum_set (fun y:Jb=>mus n N' y.A.fs) P.jobs i j {j with A:=A'} hi
 have snb:=sum_set (fun y:Jb=>nbs n N' y.A.fs) P.jobs i j {j with A:=A'} hi
 have e1:P.jobs.map (fun y:Jb=>mus n N' y.A.fs)=P.jobs.map fun y=>mus n N y.A.fs:=List.map_congr_left fun y hy=>(same y hy).1
 have e2:P.jobs.map (fun y:Jb=>nbs n N' y.A.fs)=P.jobs.map fun y=>nbs n N y.A.fs:=List.map_congr_left fun y hy=>(same y hy).2
 rw[e1]at smu
 rw[e2]at snb
 have s1:=(same j hjm).1
 have s2:=(same j hjm).2
 dsimp only at smu snb
 have psi':psi n N' {P with jobs:=P.jobs.set i {j with A:=A'},ws:=if A'.done=true then P.ws.set w {k with job:=0}else P.ws}≤psi n N P:=by
  unfold psi
  dsimp only
  omega
 by_cases hd:A'.done=true
 ·simp only[if_pos hd]at psi' ⊢
  have perm:=flat_set Wk.loc P.ws w k {k with job:=0} hw
  have k0:({k with job:=0}:Wk).loc=k.q:=by unfold Wk.loc;simp
  rw[kl,k0]at perm
  have perm:(k.job::locs (P.ws.set w {k with job:=0})).Perm (locs P.ws):=by
   have p2:(k.q++(k.job::locs (P.ws.set w {k with job:=0}))).Perm (k.q++locs P.ws):=by
    refine List.Perm.trans ?_ perm
    exact List.perm_middle
   exact(List.perm_append_left_iff _).1 p2
  have nd:=perm.nodup_iff.2 H.one
  have nd1:=(List.nodup_cons.1 nd)
  have ql:=sum_set (fun k:Wk=>k.q.length) P.ws w k {k with job:=0} hw
  dsimp only at ql
  refine⟨⟨mst',fun x hx=> ?_,nd1.2,fun y hy hdn=> ?_,fun x hx=> ?_,by show 1≤(P.ws.set w _).length∧(P.ws.set w _).length≤4;rw[List.length_set];exact H.len,H.last,?_⟩,?_,psi'⟩
  ·obtain⟨y,hy,e,hdn⟩:=H.at_ x (perm.mem_iff.1 (List.mem_cons_of_mem _ hx))
   refine⟨y,up y hy fun e'=> ?_,e,hdn⟩
   have:x=k.job:=by rw[e,e',hj]
   subst this
   exact nd1.1 hx
  ·rcases rest y hy with h|⟨h,hne⟩
   ·subst h
    rw[hd]at hdn
    cases hdn
   ·have:=perm.mem_iff.2 (H.loc y h hdn)
    rcases List.mem_cons.1 this with e|e
    ·exfalso
     rw[hj]at e
     exact hne (by omega)
    ·exact e
  ·rcases mem_set hx with h|⟨z,-,h⟩
   ·subst h
    exact H.T k hkm
   ·exact H.T x (List.mem_of_getElem? h)
  ·have:=H.steals
   unfold qlen at this ⊢
   dsimp only
   omega
  ·unfold phi qlen
   dsimp only
   omega
 ·simp only[if_neg hd]at psi' ⊢
  have hd:A'.done=false:=by cases h:A'.done<;>simp_all
  refine⟨⟨mst',fun x hx=> ?_,H.one,fun y hy hdn=> ?_,H.T,H.len,H.last,H.steals⟩,?_,psi'⟩
  ·obtain⟨y,hy,e,hdn⟩:=H.at_ x hx
   by_cases hne:y.id=j.id
   ·exact⟨_,upj,by show x=(j.id:Int);rw[e,hne],hd⟩
   ·exact⟨y,up y hy hne,e,hdn⟩
  ·rcases rest y hy with h|⟨h,hne⟩
   ·subst h
    refine List.mem_flatMap.2 ⟨k,hkm,?_⟩
    rw[kl,hj]
    exact List.mem_cons_self
   ·exact H.loc y h hdn
  ·unfold phi
   dsimp only
   omega
end
end
section
section
variable {n:Nat}{fo:Nat→Nat}{N N':List (Option Nd)}{P:PS}
theorem PoolOk.perm(H:PoolOk n fo N P){ws:List Wk}{st:Int}(hl:ws.length=P.ws.length)(hp:(locs ws).Perm (locs P.ws))(hT: ∀k∈ws,k.T+k.q.length≤P.last)(hst:0≤st∧st+(qlen ws:Int)≤(P.last:Int)):PoolOk n fo N {P with ws:=ws,steals:=st}:=
 ⟨H.mst,fun x hx=>H.at_ x (hp.mem_iff.1 hx),hp.nodup_iff.2 H.one,fun j hj hd=>hp.mem_iff.2 (H.loc j hj hd),hT,by show 1≤ws.length∧ws.length≤4;rw[hl];exact H.len,H.last,hst⟩
theorem locs_set{ws:List Wk}{w:Nat}{k k':Wk}(hw:ws[w]? =some k)(e:k'.loc.Perm k.loc):(locs (ws.set w k')).Perm (locs ws):=by
 have p:=flat_set Wk.loc ws w k k' hw
 exact(List.perm_append_left_iff k.loc).1 (p.trans (e.append_right _))
theorem loc_free{k:Wk}(h:k.job=0):k.loc=k.q:=by unfold Wk.loc;rw[if_pos h];rfl
theorem loc_busy{k:Wk}(h:k.job≠0):k.loc=k.job::k.q:=by unfold Wk.loc;rw[if_neg h];rfl
theorem PoolOk.take(H:PoolOk n fo N P){w:Nat}{k k':Wk}{x:Int}{q':List Int}(hw:P.ws[w]? =some k)(h0:k.job=0)(hq:k.q=q'++[x])(hx:x≠0)(e1:k'.q=q')(e2:k'.job=x)(hT:k'.T+k'.q.length≤k.T+k.q.length):
  PoolOk n fo N {P with ws:=P.ws.set w k'}∧phi n N {P with ws:=P.ws.set w k'}+1=phi n N P:=by
 have hk:=List.mem_of_getElem? hw
 have ql:=sum_set (fun k:Wk=>k.q.length) P.ws w k k' hw
 have l1:k.q.length=k'.q.length+1:=by rw[hq,e1];simp
 have lk:k'.loc.Perm k.loc:=by
  rw[loc_free h0,loc_busy (by rw[e2];exact hx),e1,e2,hq]
  exact List.perm_append_comm (l₁:=[x])
 refine⟨H.perm (st:=P.steals) (by simp) (locs_set hw lk) (fun y hy=> ?_) ?_,?_⟩
 ·rcases mem_set hy with h|⟨z,-,h⟩
  ·subst h
   have:=H.T k hk
   omega
  ·exact H.T y (List.mem_of_getElem? h)
 ·have:=H.steals
  unfold qlen at this ⊢
  omega
 ·unfold phi qlen
  dsimp only
  omega
theorem PoolOk.steal(H:PoolOk n fo N P){i0 i1:Nat}{k1 k1' kw:Wk}{x:Int}{q1:List Int}(hne:i1≠i0)(h1:P.ws[i1]? =some k1)(hw:P.ws[i0]? =some kw)(h0:kw.job=0)(hq:k1.q=x::q1)(hx:x≠0)(e1:k1'.q=q1)(e2:k1'.job=k1.job)(e3:k1'.T=k1.T+1):
  PoolOk n fo N {P with ws:=(P.ws.set i1 k1').set i0 {kw with job:=x},steals:=P.steals+1}∧phi n N {P with ws:=(P.ws.set i1 k1').set i0 {kw with job:=x},steals:=P.steals+1}+1=phi n N P:=by
 have hw2:(P.ws.set i1 k1')[i0]? =some kw:=by rw[List.getElem?_set,if_neg hne];exact hw
 have q1':=sum_set (fun k:Wk=>k.q.length) P.ws i1 k1 k1' h1
 have q2':=sum_set (fun k:Wk=>k.q.length) (P.ws.set i1 k1') i0 kw {kw with job:=x} hw2
 dsimp only at q1' q2'
 have l1:k1.q.length=k1'.q.length+1:=by rw[hq,e1];simp
 have p1:=flat_set Wk.loc P.ws i1 k1 k1' h1
 have p2:=flat_set Wk.loc (P.ws.set i1 k1') i0 kw {kw with job:=x} hw2
 have lw:({kw with job:=x}:Wk).loc=x::kw.q:=loc_busy hx
 have lk:k1.loc.Perm (x::k1'.loc):=by
  unfold Wk.loc
  rw[e2,e1,hq]
  exact List.perm_middle
 rw[loc_free h0,lw]at p2
 have p2:(locs ((P.ws.set i1 k1').set i0 {kw with job:=x})).Perm (x::locs (P.ws.set i1 k1')):=by
  have:(kw.q++locs ((P.ws.set i1 k1').set i0 {kw with job:=x})).Perm (kw.q++x::locs (P.ws.set i1 k1')):=p2.trans List.perm_middle.symm
  exact(List.perm_append_left_iff _).1 this
 have p1:(x::locs (P.ws.set i1 k1')).Perm (locs P.ws):=by
  have:(k1'.loc++x::locs (P.ws.set i1 k1')).Perm (k1'.loc++locs P.ws):=by
   refine List.Perm.trans (List.perm_middle.trans ?_) p1
   exact(lk.symm.append_right _)
  exact(List.perm_append_left_iff _).1 this
 refine⟨H.perm (by simp) (p2.trans p1) (fun y hy=> ?_) ?_,?_⟩
 ·rcases mem_set hy with h|⟨z,-,h⟩
  ·subst h
   exact H.T kw (List.mem_of_getElem? hw)
  ·rcases mem_set (List.mem_of_getElem? h)with h|⟨z,-,h⟩
   ·subst h
    have:=H.T k1 (List.mem_of_getElem? h1)
    omega
   ·exact H.T y (List.mem_of_getElem? h)
 ·have:=H.steals
  unfold qlen at this ⊢
  omega
 ·unfold phi qlen
  dsimp only
  omega
end
def Alike(P P':PS):Prop:=P'.last=P.last∧P'.ws.length=P.ws.length∧P'.jobs.map (fun j=>(j.id,j.G))=P.jobs.map fun j=>(j.id,j.G)
structure Picked(n:Nat)(fo:Nat→Nat)(room:Nat)(N N':List (Option Nd))(P P':PS):Prop where
 ok:PoolOk n fo N' P'
 ex:Ex N N'
 alike:Alike P P'
 le1:phi n N' P'≤phi n N P
 le2:psi n N' P'≤psi n N P
 bad:(∀j∈P.jobs,j.A.e=0)→psi n N P≤room→ ∀j∈P'.jobs,j.A.e=0
 fin: ∀(i:Nat) (j:Jb),P.jobs[i]? =some j→j.A.done=true→P'.jobs[i]? =some j
theorem jobs_look{P:PS}{i:Nat}{j:Jb}(ids:(P.jobs.map (·.id)).Nodup)(hi:P.jobs[i]? =some j):(P.jobs.map fun j=>((j.id:Int),ptrV j.A.m)).lookup (j.id:Int)=some (ptrV j.A.m):=by
 generalize P.jobs=l at ids hi
 induction l generalizing i with
 |nil=>simp at hi
 |cons y l ih=>
  simp only[List.map_cons,List.nodup_cons]at ids
  cases i with
  |zero=>
   simp at hi
   subst hi
   simp[List.lookup]
  |succ i=>
   have hi:l[i]? =some j:=by simpa using hi
   have hne:y.id≠j.id:=fun e=>ids.1 (by rw[e];exact List.mem_map.2 ⟨j,List.mem_of_getElem? hi,rfl⟩)
   simp only[List.map_cons,List.lookup]
   rw[show((j.id:Int)==(y.id:Int))=false by simp;omega]
   exact ih ids.2 hi
section
variable {h:Heap}{p s n room:Nat}{fo gg:Nat→Nat}{off:Bool}{N:List (Option Nd)}{P:PS}{K:Value→Heap→Prop}{L:List Nat}
theorem pick_step(S:Sto h s L (XL n room fo gg N off))(H:PoolIs h p s P)(Ok:PoolOk n fo N P)(GO:GoalsOk N P)(D: ∀b,PBl p P b→b∉L){w i:Nat}{k:Wk}{j:Jb}(hw:P.ws[w]? =some k)(hi:P.jobs[i]? =some j)(hj:k.job=(j.id:Int))(hd:j.A.done=false)
  (hK: ∀h' L' N' P',Sto h' s L' (XL n room fo gg N' off)→PoolIs h' p s P'→(∀b,PBl p P' b→b∉L')→Picked n fo room N N' P P'→phi n N' P'+1≤phi n N P→(∀T,(∀b,PBl p P b→b∈T)→(∀b∈L,b∈T)→Only T h h')→Fresh L L' h→(∀b,PBl p P' b→PBl p P b∨h.size≤b)→K (.bool true) h'):
  lookK h (some P.jb) .i64 .i64 k.job fun o20=>ldP (some (lkV (.pointer none) o20)) fun p21=>Cl 114 [.pointer p21] h fun v24 h25=>ldB (some v24) fun b26=>bcase b26 (ptrK (some ⟨k.w,0,none⟩) fun a27=>stK h25 (Addr.add (Addr.add a27 1) 0) (.int .i64 (0:Int)) fun h28=>K (.bool true) h28) (K (.bool true) h25):=by
 have hjm:=List.mem_of_getElem? hi
 have ids:=H.ids
 have lk:=jobs_look (P:=P) ids.1 hi
 refine look_map H.jbm (fun e=> ?_) fun x v e=> ?_
 ·rw[hj,lk]at e
  cases e
 rw[hj,lk]at e
 injection e with e
 subst e
 refine ldP_of rfl ?_
 have DA: ∀b∈j.A.bl,b∉L:=fun b hb=>D b (.inr (.inr (.inr (.inr ⟨j,hjm,hb⟩))))
 have ok:=S.ok
 dsimp only[XL]at ok
 have zP:=H.lt
 have zL:=S.lt
 refine step114 S (H.ma j hjm) DA (Ok.mst j hjm).2 (Ok.mst j hjm).1 hd fun h1 L1 N1 A1 em S1 M1 D1 E1 R1 m1 c1 f1 O1 g1 s1=>ldB_of rfl ?_
 have H1:PoolIs h1 p s {P with jobs:=P.jobs.set i {j with A:=A1}}:=H.set_ma hi O1 (fun b hb hp=>by
  rcases List.mem_append.1 hb with hL|hA
  ·exact absurd hL (D b hp)
  ·exact hA) M1 em s1
 have st:=Ok.step GO ok.1 E1 ids.1 (ids.2 j hjm).1 hi hw hj R1 m1 c1
 have alike:(P.jobs.set i {j with A:=A1}).map (fun j=>(j.id,j.G))=P.jobs.map fun j=>(j.id,j.G):=by
  rw[List.map_set]
  apply List.ext_getElem?
  intro x
  rw[List.getElem?_set]
  by_cases hix:i=x
  ·subst hix
   rw[if_pos rfl,if_pos (by simpa using (List.getElem?_eq_some_iff.1 hi).1),List.getElem?_map,hi]
   rfl
  ·rw[if_neg hix]
 have bad:(∀j∈P.jobs,j.A.e=0)→psi n N P≤room→ ∀y∈P.jobs.set i {j with A:=A1},y.A.e=0:=fun h1 h2 y hy=>by
  rcases mem_set hy with e|⟨x,-,hx⟩
  ·subst e
   show A1.e=0
   rcases R1 with⟨-,h,-⟩|⟨-,h,-⟩|⟨-,h,-⟩
   ·exact h
   ·exact h
   ·exfalso
    have:=f1 h
    have sm:=sum_set (fun y:Jb=>nbs n N y.A.fs) P.jobs i j {j with A:=⟨0,none,0,[],0,false,0⟩} hi
    dsimp only at sm
    unfold psi at h2
    have:nbs n N ([]:List Fk)=0:=rfl
    omega
  ·exact h1 y (List.mem_of_getElem? hx)
 have fin: ∀(x:Nat) (y:Jb),P.jobs[x]? =some y→y.A.done=true→(P.jobs.set i {j with A:=A1})[x]? =some y:=fun x y hx hy=>by
  rw[List.getElem?_set]
  by_cases hix:i=x
  ·subst hix
   rw[hi]at hx
   injection hx with hx
   subst hx
   rw[hd]at hy
   cases hy
  ·rw[if_neg hix]
   exact hx
 have blk: ∀b,PBl p {P with jobs:=P.jobs.set i {j with A:=A1}} b→PBl p P b∨h.size≤b:=fun b hb=>by
  rcases hb with e|e|hb|hb|⟨y,hy,hb⟩
  ·exact .inl (.inl e)
  ·exact .inl (.inr (.inl e))
  ·exact .inl (.inr (.inr (.inl hb)))
  ·exact .inl (.inr (.inr (.inr (.inl hb))))
  ·rcases mem_set hy with e|⟨x,-,hx⟩
   ·subst e
    exact(s1 b hb).imp (fun hb=> .inr (.inr (.inr (.inr ⟨j,hjm,hb⟩)))) id
   ·exact .inl (.inr (.inr (.inr (.inr ⟨y,List.mem_of_getElem? hx,hb⟩))))
 have dis: ∀b,PBl p {P with jobs:=P.jobs.set i {j with A:=A1}} b→b∉L1:=fun b hb hm=>by
  have old:PBl p P b→False:=fun hp=>by
   rcases g1 b hm with h|h
   ·exact D b hp h
   ·have:=zP b hp;omega
  rcases hb with e|e|hb|hb|⟨y,hy,hb⟩
  ·exact old (.inl e)
  ·exact old (.inr (.inl e))
  ·exact old (.inr (.inr (.inl hb)))
  ·exact old (.inr (.inr (.inr (.inl hb))))
  ·rcases mem_set hy with e|⟨x,-,hx⟩
   ·subst e
    exact D1 b hb hm
   ·exact old (.inr (.inr (.inr (.inr ⟨y,List.mem_of_getElem? hx,hb⟩))))
 have hO: ∀T,(∀b,PBl p P b→b∈T)→(∀b∈L,b∈T)→Only T h h1:=fun T hT hL=>O1.mono fun b hb _=>by
  rcases List.mem_append.1 hb with h|h
  ·exact hL b h
  ·exact hT b (.inr (.inr (.inr (.inr ⟨j,hjm,h⟩))))
 refine bcase_of (fun e=> ?_) fun e=> ?_
 ·simp only[if_pos e]at st
  have W1:=H1.wk k (List.mem_of_getElem? hw)
  rw[ptrK_some]
  simp only[add_mk,Nat.zero_add,Nat.add_zero]
  refine stK_at W1.own (by simp) rfl fun h2 A2 O2 z2=> ?_
  obtain⟨n1,n2,n3⟩:=W1.ne
  have H2:=H1.set_wk (k':={k with job:=0}) hw O2 (fun b hb=>by simp[Wk.bl]at hb ⊢;omega) ⟨A2,W1.dw.only O2 (by simp;omega) (by simp;omega) (by simp;omega),W1.ds,W1.ne⟩ rfl
  dsimp only at H2
  have b2: ∀b,PBl p {P with jobs:=P.jobs.set i {j with A:=A1},ws:=P.ws.set w {k with job:=0}} b→PBl p {P with jobs:=P.jobs.set i {j with A:=A1}} b:=fun b hb=>pbl_set_wk (P:={P with jobs:=P.jobs.set i {j with A:=A1}}) (k':={k with job:=0}) hw rfl hb
  have hkL:k.w∉L1:=dis k.w (.inr (.inr (.inr (.inl ⟨k,List.mem_of_getElem? hw,by simp[Wk.bl]⟩))))
  refine hK h2 L1 N1 _ (S1.only O2 fun b hb hm=>by simp only[List.mem_singleton]at hb;subst hb;exact hkL hm) H2 (fun b hb=>dis b (b2 b hb)) ⟨st.1,E1,⟨rfl,by simp,alike⟩,by have:=st.2.1;omega,st.2.2,bad,fin⟩ st.2.1 (fun T hT hL=>(hO T hT hL).trans O2 fun b hb _=> ?_) g1 fun b hb=>blk b (b2 b hb)
  simp only[List.mem_singleton]at hb
  subst hb
  exact hT _ (.inr (.inr (.inr (.inl ⟨k,List.mem_of_getElem? hw,by simp[Wk.bl]⟩))))
 ·have e': ¬A1.done=true:=by rw[e];simp
  simp only[if_neg e']at st
  exact hK h1 L1 N1 _ S1 H1 dis ⟨st.1,E1,⟨rfl,rfl,alike⟩,by have:=st.2.1;omega,st.2.2,bad,fin⟩ st.2.1 hO g1 blk
end
end
section
section
variable {h:Heap}{p s n room:Nat}{fo gg:Nat→Nat}{off:Bool}{N:List (Option Nd)}{P:PS}{K:Value→Heap→Prop}{L:List Nat}
theorem ldM_ofP{x:Option Value}{K:Option Nat→Prop}{n:Option Nat}(hx:x=some (.map n))(hK:K n):ldM x K:=⟨n,hx,hK⟩
theorem WsEq.trans{a b c:List Wk}(H:WsEq a b)(G:WsEq b c):WsEq a c:=by
 refine⟨G.1.trans H.1,fun i k hk=> ?_⟩
 obtain⟨k',h',e⟩:=H.2 i k hk
 obtain⟨k'',h'',e'⟩:=G.2 i k' h'
 exact⟨k'',h'',e'.1.trans e.1,e'.2.1.trans e.2.1,e'.2.2.1.trans e.2.2.1,e'.2.2.2.trans e.2.2.2⟩
def pbl(p:Nat)(P:PS):List Nat:=p::P.jb::(OwnB P.wp++(P.ws.flatMap Wk.bl++P.jobs.flatMap fun j=>j.A.bl))
theorem mem_pbl{b:Nat}:b∈pbl p P↔PBl p P b:=by
 unfold pbl PBl
 simp only[List.mem_cons,List.mem_append,List.mem_flatMap]
theorem loc_mem{ws:List Wk}{w:Nat}{k:Wk}(hw:ws[w]? =some k){x:Int}(h:x∈k.loc):x∈locs ws:=List.mem_flatMap.2 ⟨k,List.mem_of_getElem? hw,h⟩
theorem own_lt(Ok:PoolOk n fo N P)(ids: ∀j∈P.jobs,1≤j.id∧j.id≤P.last){k:Wk}(hk:k∈P.ws):k.T+k.q.length<1000000000∧ ∀x∈k.q,1≤x∧x<1000000000:=by
 have h1:=Ok.T k hk
 have h2:=Ok.last
 refine⟨by omega,fun x hx=> ?_⟩
 obtain⟨j,hj,e,-⟩:=Ok.at_ x (List.mem_flatMap.2 ⟨k,hk,by unfold Wk.loc;simp[hx]⟩)
 have:=ids j hj
 omega
set_option maxRecDepth 100000 in
theorem pick81(S:Sto h s L (XL n room fo gg N off))(H:PoolIs h p s P)(Ok:PoolOk n fo N P)(GO:GoalsOk N P)(D: ∀b,PBl p P b→b∉L){who draw:Int}
  (hOut:who<0∨(P.ws.length:Int)≤who→K (.bool false) h)
  (hK: ∀h' L' N' P' b (w:Nat) (k:Wk),who=(w:Int)→P.ws[w]? =some k→Sto h' s L' (XL n room fo gg N' off)→PoolIs h' p s P'→(∀b,PBl p P' b→b∉L')→Picked n fo room N N' P P'→(b=true→locs P.ws≠[])→(phi n N' P'+1≤phi n N P∨(k.job=0∧k.q=[]∧WsEq P.ws P'.ws))→(∀T,(∀b,PBl p P b→b∈T)→(∀b∈L,b∈T)→Only T h h')→Fresh L L' h→(∀b,PBl p P' b→PBl p P b∨h.size≤b)→K (.bool b) h'):
  Cl 81 [ptrV p,.int .i64 who,.int .i64 draw] h K:=by
 refine F81.spec _ _ _ h K ?_
 refine bcase_of (fun e=>hOut (.inl (of_decide_eq_true e))) fun e=> ?_
 have w0:=of_decide_eq_false e
 simp only[add_mk,Nat.zero_add,Nat.add_zero]
 have rp:=pool_rd H
 refine ldS_of rp.2.1 (bcase_of (fun e=>hOut (.inr (of_decide_eq_true e))) fun e=> ?_)
 have w1:=of_decide_eq_false e
 obtain⟨w,ew⟩: ∃w:Nat,who=(w:Int):=⟨who.toNat,by omega⟩
 subst ew
 have hwl:w<P.ws.length:=by omega
 obtain⟨k,hw⟩: ∃k,P.ws[w]? =some k:=⟨_,List.getElem?_eq_getElem hwl⟩
 have hk:=List.mem_of_getElem? hw
 obtain⟨b,eb,rb⟩:=ws_rd H hw
 refine ldS_of rp.2.1 ?_
 rw[eb,ptrK_some]
 refine⟨by omega,by omega,?_⟩
 simp only[add_mk,Nat.zero_add,Nat.add_zero,Int.toNat_natCast,Nat.mul_one]
 refine ldP_of rb ?_
 rw[ptrK_some]
 simp only[add_mk,Nat.zero_add,Nat.add_zero]
 have W:=H.wk k hk
 have rj:rd h ⟨k.w,1,none⟩=some (.int .i64 k.job):=by rw[At.rd W.own];rfl
 have lim:=own_lt Ok H.ids.2 hk
 have zP:=H.lt
 refine ldI_of rj (bcase_of (fun e=> ?_) fun e=> ?_)
 ·have j0:k.job=0:=by simpa using e
  refine takes129 W lim.1 (fun x hx=>by have:=lim.2 x hx;omega) (fun eq h1 k' W' bl' q' jb' T' O1=>ldB_of rfl ?_) fun x q' eq h1 k' W' bl' e1 e2 hT O1=>ldB_of rfl ?_
  ·rw[Bool.not_false,bcase_true]
   have ke:WkEq k k':=⟨bl',by rw[q',eq],jb',T'⟩
   have E1:=(WsEq.refl P.ws).set hw ke
   have H1:=H.set_wk hw O1 (fun b hb=>hb) W' bl'
   obtain⟨Ok1,p1,p2⟩:=Ok.eq E1
   have hw1:(P.ws.set w k')[w]? =some k':=by rw[List.getElem?_set,if_pos rfl,if_pos hwl]
   have bd: ∀b,PBl p {P with ws:=P.ws.set w k'} b→PBl p P b:=fun b hb=>pbl_set_wk hw bl' hb
   have ekw:k'.w=k.w:=ke.w
   have O1': ∀T,(∀b,PBl p P b→b∈T)→Only T h h1:=fun T hT=>O1.mono fun b hb _=>hT b (.inr (.inr (.inr (.inl ⟨k,hk,hb⟩))))
   have S1:=S.only O1 fun b hb hm=>D b (.inr (.inr (.inr (.inl ⟨k,hk,hb⟩)))) hm
   rw[←ekw]
   refine steals130 H1 hw1 (draw:=draw) (by have:=Ok1.len;omega) (fun y hy=>(own_lt Ok1 H1.ids.2 hy).1) (fun y hy x hx=>by have:=(own_lt Ok1 H1.ids.2 hy).2 x hx;omega) ⟨Ok1.steals.1,by have:=Ok1.steals;have:=Ok1.last;omega⟩ (fun h2 ws H2 E2 B2 O2=>ldB_of rfl ?_) fun h2 ws i1 k1 x q1 kw' k1' ws' E2 hne hk1 eq1 hkw bl1 f1 f2 f3 ews H2 B2 O2=>ldB_of rfl ?_
   ·dsimp only at H2 E2 B2
    obtain⟨Ok2,p3,p4⟩:=Ok1.eq (ws:=ws) E2
    dsimp only at Ok2 p3 p4
    have O2': ∀T,(∀b,PBl p P b→b∈T)→Only T h h2:=fun T hT=>(O1' T hT).trans (O2 T fun b hb=>hT b (bd b hb)) fun b hb _=>hb
    have S2:=S.only (O2' (pbl p P) fun b hb=>mem_pbl.2 hb) fun b hb hm=>D b (mem_pbl.1 hb) hm
    refine hK h2 L N {P with ws:=ws} false w k rfl hw S2 H2 (fun b hb=>D b (bd b (B2 b hb))) ⟨Ok2,Ex.refl _,⟨rfl,by show ws.length=_;rw[E2.1];simp,rfl⟩,by omega,by omega,fun h _=>h,fun i j h _=>h⟩ (fun h=>by cases h) (.inr ⟨j0,eq,E1.trans E2⟩) (fun T hT hL=>O2' T hT) (Fresh.refl _ _) fun b hb=> .inl (bd b (B2 b hb))
   ·dsimp only at H2 E2 B2
    obtain⟨Ok2,p3,p4⟩:=Ok1.eq (ws:=ws) E2
    dsimp only at Ok2 p3 p4
    obtain⟨ka,hka,ea⟩:=E2.2 w k' hw1
    rw[hkw]at hka
    injection hka with hka
    subst hka
    have hx:=(own_lt Ok2 H.ids.2 (List.mem_of_getElem? hk1)).2 x (by rw[eq1];simp)
    obtain⟨Ok3,p5⟩:=Ok2.steal (P:={P with ws:=ws}) hne hk1 hkw (by rw[ea.2.2.1,jb',j0]) eq1 (by omega) f1 f2 f3
    dsimp only at Ok3 p5
    rw[←ews]at Ok3 p5
    have O2': ∀T,(∀b,PBl p P b→b∈T)→Only T h h2:=fun T hT=>(O1' T hT).trans (O2 T fun b hb=>hT b (bd b hb)) fun b hb _=>hb
    have S2:=S.only (O2' (pbl p P) fun b hb=>mem_pbl.2 hb) fun b hb hm=>D b (mem_pbl.1 hb) hm
    have hlen:ws'.length=P.ws.length:=by rw[ews,List.length_set,List.length_set,E2.1];simp
    refine hK h2 L N {P with ws:=ws',steals:=P.steals+1} true w k rfl hw S2 H2 (fun b hb=>D b (bd b (B2 b hb))) ⟨Ok3,Ex.refl _,⟨rfl,hlen,rfl⟩,by omega,Nat.le_refl _,fun h _=>h,fun i j h _=>h⟩ (fun _ hl=> ?_) (.inl (by omega)) (fun T hT hL=>O2' T hT) (Fresh.refl _ _) fun b hb=> .inl (bd b (B2 b hb))
    have:=loc_mem hk1 (x:=x) (by unfold Wk.loc;rw[eq1];simp)
    rw[E2.locs,E1.locs,hl]at this
    cases this
  ·rw[Bool.not_true,bcase_false]
   have H1:=H.set_wk hw O1 (fun b hb=>hb) W' bl'
   have hx:=lim.2 x (by rw[eq];simp)
   obtain⟨Ok1,p1⟩:=Ok.take hw j0 eq (by omega) e1 e2 hT
   have hw1:(P.ws.set w k')[w]? =some k':=by rw[List.getElem?_set,if_pos rfl,if_pos hwl]
   have bd: ∀b,PBl p {P with ws:=P.ws.set w k'} b→PBl p P b:=fun b hb=>pbl_set_wk hw bl' hb
   have ekw:k'.w=k.w:=by
    simp only[Wk.bl,List.cons.injEq]at bl'
    exact bl'.1
   have O1': ∀T,(∀b,PBl p P b→b∈T)→Only T h h1:=fun T hT=>O1.mono fun b hb _=>hT b (.inr (.inr (.inr (.inl ⟨k,hk,hb⟩))))
   have S1:=S.only O1 fun b hb hm=>D b (.inr (.inr (.inr (.inl ⟨k,hk,hb⟩)))) hm
   obtain⟨j,hj,ex,hd⟩:=Ok.at_ x (loc_mem hw (by rw[loc_free j0,eq];simp))
   obtain⟨i,hi⟩:=List.mem_iff_getElem?.1 hj
   have W1':At h1 k'.w [ptrV k'.d,.int .i64 k'.job]:=W'.own
   refine ldM_ofP (pool_rd H1).2.2.1 ?_
   rw[ptrK_some]
   simp only[add_mk,Nat.zero_add,Nat.add_zero]
   refine ldI_of (n:=k'.job) (by rw[←ekw,At.rd W1'];rfl) ?_
   rw[←ekw]
   refine pick_step S1 H1 Ok1 GO (fun b hb=>D b (bd b hb)) hw1 hi (by rw[e2,ex]) hd fun h2 L2 N2 P2 S2 H2 D2 Pk hs O2 g2 b2=> ?_
   have hal:Alike P P2:=⟨Pk.alike.1,by rw[Pk.alike.2.1];simp,Pk.alike.2.2⟩
   have l1:=Pk.le1
   refine hK h2 L2 N2 P2 true w k rfl hw S2 H2 D2 ⟨Pk.ok,Pk.ex,hal,by omega,Pk.le2,Pk.bad,Pk.fin⟩ (fun _ hl=> ?_) (.inl (by omega)) (fun T hT hL=>(O1' T hT).trans (O2 T (fun b hb=>hT b (bd b hb)) hL) fun b hb _=>hb) ?_ fun b hb=> ?_
   ·have:=loc_mem hw (x:=x) (by rw[loc_free j0,eq];simp)
    rw[hl]at this
    cases this
   ·intro b hb
    rcases g2 b hb with h|h
    ·exact .inl h
    ·exact .inr (by have:=O1.size;omega)
   ·rcases b2 b hb with h|h
    ·exact .inl (bd b h)
    ·exact .inr (by have:=O1.size;omega)
 ·have j0:k.job≠0:=by simpa using e
  obtain⟨j,hj,ex,hd⟩:=Ok.at_ k.job (loc_mem hw (by rw[loc_busy j0];simp))
  obtain⟨i,hi⟩:=List.mem_iff_getElem?.1 hj
  refine ldM_ofP rp.2.2.1 ?_
  rw[ptrK_some]
  simp only[add_mk,Nat.zero_add,Nat.add_zero]
  refine ldI_of rj ?_
  refine pick_step S H Ok GO D hw hi ex hd fun h2 L2 N2 P2 S2 H2 D2 Pk hs O2 g2 b2=> ?_
  refine hK h2 L2 N2 P2 true w k rfl hw S2 H2 D2 Pk (fun _ hl=> ?_) (.inl hs) O2 g2 b2
  have:=loc_mem hw (x:=k.job) (by rw[loc_busy j0];simp)
  rw[hl]at this
  cases this
end
end
section
section
variable {h:Heap}{p s n:Nat}{fo:Nat→Nat}{N:List (Option Nd)}{P:PS}{K:Value→Heap→Prop}
theorem workers68(H:PoolIs h p s P)(hK:K (.int .i64 (P.ws.length:Int)) h):Cl 68 [ptrV p] h K:=by
 refine F68.spec _ h K ?_
 simp only[add_mk,Nat.zero_add]
 exact ldS_of (pool_rd H).2.1 hK
end
end
section
theorem nodup_sub_len: ∀(l m:List Int),l.Nodup→(∀x∈l,x∈m)→l.length≤m.length
 | [],m,_,_=>Nat.zero_le _
 |x::l,m,h,hs=>by
  obtain⟨h1,h2⟩:=List.nodup_cons.1 h
  have hx:=hs x List.mem_cons_self
  have ih:=nodup_sub_len l (m.erase x) h2 fun y hy=>(List.mem_erase_of_ne fun e=>by subst e;exact h1 hy).2 (hs y (List.mem_cons_of_mem _ hy))
  rw[List.length_erase_of_mem hx]at ih
  have:=List.length_pos_of_mem hx
  simp only[List.length_cons]
  omega
section
variable {h h':Heap}{p s n room:Nat}{fo gg:Nat→Nat}{off:Bool}{N:List (Option Nd)}{P:PS}{K:Value→Heap→Prop}{L:List Nat}
end
end
section
def wkn(x:Int):Nat:=if x<1 then 1 else if 4<x then 4 else x.toNat
theorem wkn_eq(x:Int):(if(4:Int)<(if(1:Int)>x then(1:Int)else x)then(4:Int)else(if(1:Int)>x then(1:Int)else x))=(wkn x:Int):=by
 unfold wkn
 by_cases h1:(1:Int)>x
 ·rw[if_pos h1,if_neg (by omega),if_pos (by omega)]
  rfl
 ·rw[if_neg h1]
  by_cases h2:(4:Int)<x
  ·rw[if_pos h2,if_neg (by omega),if_pos h2]
   rfl
  ·rw[if_neg h2,if_neg (by omega),if_neg h2]
   omega
theorem wkn_le(x:Int):1≤wkn x∧wkn x≤4:=by
 unfold wkn
 split
 ·omega
 ·split<;>omega
def Free(k:Wk):Prop:=k.q=[]∧k.job=0∧k.T=0
section
variable {h h':Heap}{p s:Nat}{P:PS}{K:Value→Heap→Prop}
set_option maxRecDepth 100000 in
theorem new34{x:Int}(hK: ∀h' p P,PoolIs h' p s P→P.ws.length=wkn x→P.jobs=[]→(∀k∈P.ws,Free k)→P.last=0→P.steals=0→(∀b,PBl p P b→h.size≤b)→Only [] h h'→K (ptrV p) h'):
  Cl 34 [ptrV s,.int .i64 x] h K:=by
 refine F34.spec _ _ h K ?_
 refine newK_map4 (k:= .i64) fun h1 M1 O1 z1=>newK_at fun h2 A2 O2 z2=> ?_
 rw[wkn_eq]
 have hw:=wkn_le x
 unfold F34.wk3
 have O02:=O1.trans O2 (by simp)
 have P0:PoolIs h2 h1.size s ⟨none,0,h.size,[],[],0,0⟩:=by
  refine⟨A2,Own.nil _ _ _,fun k hk=>(by cases hk),M1.only O2 (by simp),fun j hj=>(by cases hj),⟨fun _=>0,rfl,rfl,fun _ _=>rfl,fun i k hk=>(by simp at hk),fun j hj=>(by cases hj)⟩,⟨(show h1.size≠h.size by omega),by simp[OwnB],by simp[OwnB]⟩,by simp,fun j hj=>(by cases hj)⟩
 have main: ∀(d i:Nat) (h3:Heap) (P:PS),i+d=wkn x→PoolIs h3 h1.size s P→P.ws.length=i→P.jobs=[]→(∀k∈P.ws,Free k)→P.last=0→P.steals=0→(∀b,PBl h1.size P b→h.size≤b)→Only [] h h3→
   F34.wL3 (d+1) ⟨h1.size,0,none⟩ (wkn x:Int) (i:Int) h3 K:=by
  intro d
  induction d with
  |zero=>
   intro i h3 P hi H hl hj hf hla hst hB O
   rw[F34.sL3]
   rw[decide_eq_false (by omega),bcase_false]
   exact hK h3 _ P H (by omega) hj hf hla hst hB O
  |succ d ih=>
   intro i h3 P hi H hl hj hf hla hst hB O
   have ew:IntKind.wrap .i64 ((i:Int)+1)=((i+1:Nat):Int):=by rw[wrap_i64 (by omega) (by omega)];omega
   rw[F34.sL3]
   rw[decide_eq_true (by omega),bcase_true,ew]
   simp only[add_mk,Nat.zero_add]
   refine cellsD_spec (k:=64) (by omega) (by omega) (ldI_of rfl ?_)
   refine new_spec fun m c h4 M4 O4 g4 g4'=>ldP_of rfl ?_
   rw[show((64:Int)+2)=((66:Nat):Int)from rfl,cellsFor_of (by omega)]at M4
   refine deqnew_spec (base:=0) (n:=64) M4 (by omega) (by omega) (by simp) (by simp) fun dq h5 Q5 O5 g5=>⟨_,_,rfl,?_⟩
   have H5:=(H.only0 O4).only0 O5
   have M5:=M4.only O5 (by simp) (by simp)
   refine ldS_of (pool_rd H5).2.1 ?_
   refine newK_at fun h6 A6 O6 z6=>newK_at fun h7 A7 O7 z7=> ?_
   have H7:=(H5.only0 O6).only0 O7
   have zz4:=O4.size
   have zz5:=O5.size
   have l4m:=M4.head.lt
   have l4c:=M4.body.lt
   have l5:dq<h5.size:=At.lt Q5
   refine own_app H7.wks A7 rfl rfl (by omega) (by simp[Value.oneCell']) (by omega) fun p' c' h8 W8 O8 g8=> ?_
   have np:h1.size∉OwnB P.wp:=H.ne.2.1
   have A8:=H7.own.only O8 np
   refine stK_at A8 (by simp[cellP]) rfl fun h9 A9 O9 z9=> ?_
   have hlt:=H.lt
   have O57:Only [] h5 h7:=O6.trans O7 (by simp)
   have O79:Only (h1.size::OwnB P.wp) h7 h9:=(O8.mono fun b hb _=>List.mem_cons_of_mem _ hb).trans O9 fun b hb _=>by simp only[List.mem_singleton]at hb;exact List.mem_cons.2 (.inl hb)
   have O09:Only [] h h9:=(((O.trans O4 (by simp)).trans O5 (by simp)).trans O57 (by simp)).trans O79 fun b hb hl=>by
    rcases List.mem_cons.1 hb with e|hb
    ·have:=hB b (.inl e);omega
    ·have:=hB b (.inr (.inr (.inl hb)));omega
   have old: ∀b,PBl h1.size P b→b<h3.size:=hlt
   have nS: ∀b,h3.size≤b→b∉h1.size::OwnB P.wp:=fun b hb hm=>by
    rcases List.mem_cons.1 hm with e|hm
    ·have:=old b (.inl e);omega
    ·have:=old b (.inr (.inr (.inl hm)));omega
   obtain⟨k,ek⟩: ∃k:Wk,k=⟨h5.size,dq,m,c,List.replicate 66 0,0,0,0,[],0⟩:=⟨_,rfl⟩
   have hkbl: ∀b∈k.bl,h3.size≤b:=fun b hb=>by
    rw[ek]at hb
    simp[Wk.bl]at hb
    omega
   have Wk9:WkIs h9 k:=by
    have W7:WkIs h7 k:=by
     rw[ek]
     have:=M4.ne
     refine⟨A6.only O7 (by simp),⟨(Q5.only O57 (by simp)),M5.only O57 (by simp) (by simp),by show dq≠m;omega,by show dq≠c;omega,by omega,by omega,by omega,by simp⟩,⟨by simp[List.getD],by simp[List.getD],by simp,fun i hi=>by simp at hi⟩,⟨by show h5.size≠dq;omega,by show h5.size≠m;omega,by show h5.size≠c;omega⟩⟩
    exact W7.only O79 fun b hb hm=>nS b (hkbl b hm) hb
   have kw:k.w=h5.size:=by rw[ek]
   refine ih (i+1) h9 {P with wp:=p',wc:=c',ws:=P.ws++[k]} (by omega) ?_ (by simp[hl]) hj (fun y hy=> ?_) hla hst (fun b hb=> ?_) O09
   ·obtain⟨τ,t⟩:=H.sep
    have g8': ∀b∈OwnB p',b∈OwnB P.wp∨h7.size≤b:=g8
    have kbl7: ∀b∈k.bl,b<h7.size:=fun b hb=>by
     rw[ek]at hb
     simp[Wk.bl]at hb
     omega
    refine⟨?_,?_,fun y hy=> ?_,((H7.jbm.only O8 H.ne.2.2).only O9 (by simp;exact fun e=>H.ne.1 e.symm)),fun j hj'=>(by rw[hj]at hj';cases hj'),⟨fun b=>if b∈k.bl then 2*i+1 else if h7.size≤b then 0 else τ b,?_,?_,fun b hb=> ?_,fun x y hy b hb=> ?_,fun j hj'=>(by rw[hj]at hj';cases hj')⟩,⟨H.ne.1,fun hm=> ?_,fun hm=> ?_⟩,by rw[hj];simp,fun j hj'=>(by rw[hj]at hj';cases hj')⟩
    ·have e:(cellP s P).set 1 (.slice p' (P.ws.length+1) c')=cellP s {P with wp:=p',wc:=c',ws:=P.ws++[k]}:=by simp[cellP]
     rw[←e]
     exact A9
    ·show Own h9 0 1 p' (P.ws++[k]).length c' ((P.ws++[k]).map fun k=>ptrV k.w)
     have:=W8.only O9 (fun b e hm=>by
      simp only[List.mem_singleton]at hm
      have hb:b∈OwnB p':=by rw[e];simp[OwnB]
      rcases g8' b hb with h|h
      ·rw[hm]at h;exact np h
      ·have:=old h1.size (.inl rfl);omega)
     simpa[ptrV,kw]using this
    ·rcases List.mem_append.1 hy with hy|hy
     ·refine(H7.wk y hy).only O79 fun b hb hm=> ?_
      obtain⟨x,hx⟩:=List.mem_iff_getElem?.1 hy
      have t1:=t.ws x y hx b hm
      rcases List.mem_cons.1 hb with e|hb
      ·subst e;have:=t.p;omega
      ·have:=t.wp b hb;omega
     ·simp only[List.mem_singleton]at hy
      subst hy
      exact Wk9
    ·show(if h1.size∈k.bl then _ else if h7.size≤h1.size then 0 else τ h1.size)=0
     have:=old h1.size (.inl rfl)
     rw[if_neg fun hm=>by have:=hkbl _ hm;omega]
     split
     ·rfl
     ·exact t.p
    ·show(if P.jb∈k.bl then _ else if h7.size≤P.jb then 0 else τ P.jb)=0
     have:=old P.jb (.inr (.inl rfl))
     rw[if_neg fun hm=>by have:=hkbl _ hm;omega]
     split
     ·rfl
     ·exact t.jb
    ·show(if b∈k.bl then _ else if h7.size≤b then 0 else τ b)=0
     rcases g8' b hb with h|h
     ·have:=old b (.inr (.inr (.inl h)))
      rw[if_neg fun hm=>by have:=hkbl _ hm;omega]
      split
      ·rfl
      ·exact t.wp b h
     ·rw[if_neg fun hm=>by have:=kbl7 _ hm;omega,if_pos h]
    ·show(if b∈k.bl then _ else if h7.size≤b then 0 else τ b)=_
     have hy:(P.ws++[k])[x]? =some y:=hy
     by_cases hx:x<P.ws.length
     ·rw[List.getElem?_append_left hx]at hy
      have hb3:=old b (.inr (.inr (.inr (.inl ⟨y,List.mem_of_getElem? hy,hb⟩))))
      rw[if_neg fun hm=>by have:=hkbl _ hm;omega,if_neg (by omega)]
      exact t.ws x y hy b hb
     ·rw[List.getElem?_append_right (by omega)]at hy
      have hx2:x-P.ws.length=0:=by
       have:=(List.getElem?_eq_some_iff.1 hy).1
       simp at this
       omega
      rw[hx2]at hy
      simp at hy
      subst hy
      rw[if_pos hb]
      omega
    ·rcases g8' _ hm with h|h
     ·exact H.ne.2.1 h
     ·have:=old h1.size (.inl rfl);omega
    ·rcases g8' _ hm with h|h
     ·exact H.ne.2.2 h
     ·have h:h7.size≤P.jb:=h
      have:=old P.jb (.inr (.inl rfl));omega
   ·rcases List.mem_append.1 hy with hy|hy
    ·exact hf y hy
    ·simp only[List.mem_singleton]at hy
     subst hy
     rw[ek]
     exact⟨rfl,rfl,rfl⟩
   ·have z03:=O.size
    rcases hb with e|e|hb|⟨y,hy,hb⟩|⟨y,hy,hb⟩
    ·exact hB b (.inl e)
    ·exact hB b (.inr (.inl e))
    ·rcases g8 b hb with h|h
     ·exact hB b (.inr (.inr (.inl h)))
     ·omega
    ·rcases List.mem_append.1 hy with hy|hy
     ·exact hB b (.inr (.inr (.inr (.inl ⟨y,hy,hb⟩))))
     ·simp only[List.mem_singleton]at hy
      subst hy
      have:=hkbl b hb
      omega
    ·have hy:y∈P.jobs:=hy
     rw[hj]at hy
     cases hy
 refine⟨_,main (wkn x) 0 h2 _ (by omega) P0 rfl rfl (fun k hk=>by cases hk) rfl rfl (fun b hb=> ?_) O02⟩
 rcases hb with e|e|hb|⟨y,hy,hb⟩|⟨y,hy,hb⟩
 ·omega
 ·have e:b=h.size:=e
  omega
 ·simp[OwnB]at hb
 ·cases hy
 ·cases hy
theorem pool_fresh{n:Nat}{fo:Nat→Nat}{N:List (Option Nd)}(hl:1≤P.ws.length∧P.ws.length≤4)(hj:P.jobs=[])(hf: ∀k∈P.ws,Free k)(h1:P.last=0)(h2:P.steals=0):PoolOk n fo N P∧GoalsOk N P∧locs P.ws=[]∧qlen P.ws=0:=by
 have e1:locs P.ws=[]:=by
  unfold locs
  rw[List.flatMap_eq_nil_iff]
  intro k hk
  obtain⟨a,b,-⟩:=hf k hk
  unfold Wk.loc
  rw[if_pos b,a]
  rfl
 have e2:qlen P.ws=0:=by
  unfold qlen
  have:P.ws.map (fun k=>k.q.length)=P.ws.map fun _=>0:=List.map_congr_left fun k hk=>by rw[(hf k hk).1];rfl
  rw[this]
  generalize P.ws=l
  induction l with
  |nil=>rfl
  |cons a l ih=>simpa using ih
 refine⟨⟨fun j hj'=>(by rw[hj]at hj';cases hj'),fun x hx=>(by rw[e1]at hx;cases hx),by rw[e1];simp,fun j hj'=>(by rw[hj]at hj';cases hj'),fun k hk=> ?_,hl,by omega,by omega,by omega⟩,fun j hj'=>(by rw[hj]at hj';cases hj'),e1,e2⟩
 obtain⟨a,-,c⟩:=hf k hk
 rw[a,c]
 simp
end
end
section
def F6.T:Hint:=⟨[(9,[1,6,8,9,10]),(14,[1,6,8,9]),(19,[1,6,8,9,13,14]),(25,[1,6,8,9,13,14]),(28,[6,8,9,13])],[]⟩
section
variable (bk19:Int→(Option Addr)→Nat→Nat→(Option Addr)→Int→Int→Int→Heap→Prop)(n:Nat)(o j:Int)(b:Option Addr)(a c:Nat)(g:Option Addr)(d l i f:Int)(h:Heap)(K:KK)
def F6.wk25:Prop:=Cl 38 [.pointer g,.int .i64 f] h fun v1 h2=> ∃n3:Int,∃n4:Int,v1=(.tuple #[.int .u32 n3,.int .i64 n4])∧bcase (n4 !=(61:Int)) (K (.bool false) h2) (Cl 39 [.pointer g,.int .i64 f] h2 fun v5 h6=>ldB (some v5) fun b7=>bcase b7 (K (.bool false) h6) (bk19 j b a c g d i (IntKind.wrap .i64 (f+(1:Int))) h6))
def F6.wk28(b:Option Addr)(a c:Nat)(g:Option Addr)(d i:Int)(h:Heap)(K:KK):Prop:=ptrK b fun a1=>0≤(0:Int)∧(0:Int)<(Nat.cast a:Int)∧ldI .u32 (rd h (a1.add (Int.toNat (0:Int)*1))) fun n2=>Cl 35 [.pointer g,.agg #[.int .i64 1,.int .u32 n2,.int .u32 0,.int .u32 0,.int .u8 0]] h fun v3 h4=> ∃n5:Int,∃n6:Int,v3=(.tuple #[.int .i64 n5,.int .i64 n6])∧bcase ((n6==(0:Int))==(decide ((IntKind.wrap .i64 (d-i))<(64:Int)))) (bcase (n6 !=(0:Int)) (K (.bool true) h4) (K (.bool (n5==(IntKind.wrap .i64 (d+(1:Int))))) h4)) (K (.bool false) h4)
def F6.wL19:Prop:=Lp Tryz.f6 F6.T [1,1,1,1,1,1,1,1,1,1,0,1,0] n [(1,(.int .u8 j)),(6,(.slice b a c)),(8,(.pointer g)),(9,(.int .i64 d)),(13,(.int .i64 i)),(14,(.int .i64 f))] h K
theorem F6.sL19:F6.wL19 (n+1) j b a c g d i f h K=(((70:Int)≠0∧bcase (decide (f≤(IntKind.wrap .i64 (Int.tmod j (70:Int))))) (Cl 36 [.pointer g,.int .i64 f] h fun v1 h2=>ldB (some v1) fun b3=>bcase (!(b3==(decide (f≤d)))) (K (.bool false) h2) (bcase (decide (f≤d)) (F6.wk25 (fun j b a c g d i f h=>F6.wL19 n j b a c g d i f h K) j b a c g d (IntKind.wrap .i64 (i+(1:Int))) f h2 K) (F6.wk25 (fun j b a c g d i f h=>F6.wL19 n j b a c g d i f h K) j b a c g d i f h2 K))) (F6.wk28 b a c g d i h K))):=by kernel_rfl
def F6.wk19:Prop:=(∃m,F6.wL19 m j b a c g d i f h K)
def F6.wk14:Prop:=bcase (decide ((if(64:Int)<d then(64:Int)else d)>(0:Int))) (Cl 36 [.pointer g,.int .i64 1] h fun v1 h2=>ldB (some v1) fun b3=>bcase b3 (K (.bool false) h2) (Cl 37 [.pointer g,.int .i64 (if(if(64:Int)<d then(64:Int)else d)>(1:Int)then(if(64:Int)<d then(64:Int)else d)else(1:Int)),.int .u8 1] h2 fun v4 h5=>ldB (some v4) fun b6=>bcase (!b6) (K (.bool false) h5) (F6.wk19 j b a c g (if(64:Int)<d then(64:Int)else d) (0:Int) (1:Int) h5 K))) (Cl 37 [.pointer g,.int .i64 (if(if(64:Int)<d then(64:Int)else d)>(1:Int)then(if(64:Int)<d then(64:Int)else d)else(1:Int)),.int .u8 1] h fun v7 h8=>ldB (some v7) fun b9=>bcase (!b9) (K (.bool false) h8) (F6.wk19 j b a c g (if(64:Int)<d then(64:Int)else d) (0:Int) (1:Int) h8 K))
def F6.wL9:Prop:=Lp Tryz.f6 F6.T [1,1,1,1,1,1,0,1,0] n [(1,(.int .u8 j)),(6,(.slice b a c)),(8,(.pointer g)),(9,(.int .i64 d)),(10,(.int .i64 l))] h K
theorem F6.sL9:F6.wL9 (n+1) j b a c g d l h K=(bcase (decide (l≤d)) (ptrK b fun a1=>0≤(0:Int)∧(0:Int)<(Nat.cast a:Int)∧ldI .u32 (rd h (a1.add (Int.toNat (0:Int)*1))) fun n2=>Cl 35 [.pointer g,.agg #[.int .i64 1,.int .u32 n2,.int .u32 0,.int .u32 0,.int .u8 0]] h fun v3 h4=> ∃n5:Int,∃n6:Int,v3=(.tuple #[.int .i64 n5,.int .i64 n6])∧bcase (!((n6==(0:Int))==(decide (l≤(64:Int))))) (K (.bool false) h4) (bcase (n6 !=(0:Int)) (bcase (n6 !=(60:Int)) (K (.bool false) h4) (bcase (n5 !=(0:Int)) (K (.bool false) h4) (bcase (n6==(0:Int)) (bcase (n5 !=l) (K (.bool false) h4) (F6.wL9 n j b a c g d (IntKind.wrap .i64 (l+(1:Int))) h4 K)) (F6.wL9 n j b a c g d (IntKind.wrap .i64 (l+(1:Int))) h4 K)))) (bcase (n6==(0:Int)) (bcase (n5 !=l) (K (.bool false) h4) (F6.wL9 n j b a c g d (IntKind.wrap .i64 (l+(1:Int))) h4 K)) (F6.wL9 n j b a c g d (IntKind.wrap .i64 (l+(1:Int))) h4 K)))) (F6.wk14 j b a c g d h K)):=by kernel_rfl
def F6.wk9:Prop:=(∃m,F6.wL9 m j b a c g d l h K)
theorem F6.spec(H:Cl 31 [] h fun v1 h2=>ldB (some v1) fun b3=>bcase (!b3) (K (.bool false) h2) (Cl 33 [.int .i64 1] h2 fun v4 h5=> ∃n6:Int,∃n7:Int,∃n8:Int,∃n9:Int,v4=(.agg #[.int .u64 n6,.int .u64 n7,.int .u64 n8,.int .u64 n9])∧newK h5 (.cells #[.int .u64 n6,.int .u64 n7,.int .u64 n8,.int .u64 n9] 51) fun b10 h11=>Cl 32 [.int .i64 3,.int .i64 200,.slice (some (Addr.mk b10 0 none)) 1 1] h11 fun v12 h13=> ∃p14:Option Addr,∃p15:Option Addr,∃l16:Nat,∃c17:Nat,∃b18:Bool,v12=(.tuple #[.pointer p14,.slice p15 l16 c17,.bool b18])∧bcase (!b18) (K (.bool false) h13) (Cl 34 [.pointer p14,.int .i64 2] h13 fun v19 h20=>ldP (some v19) fun p21=>((80:Int)≠0∧F6.wk9 j p15 l16 c17 p21 (IntKind.wrap .i64 (Int.tmod o (80:Int))) (1:Int) h20 K)))):Cl 6 [.int .u8 o,.int .u8 j] h K:=cT F6.T Tryz.func6 H
end
end
section
section
variable {h:Heap}{p s n room:Nat}{fo gg:Nat→Nat}{off:Bool}{N:List (Option Nd)}{P:PS}{K:Value→Heap→Prop}{L:List Nat}
theorem alike_len{P P':PS}(a:Alike P P'):P'.jobs.length=P.jobs.length:=by
 have:=congrArg List.length a.2.2
 simpa using this
theorem goals_ex{N N':List (Option Nd)}{P P':PS}(GO:GoalsOk N P)(E:Ex N N')(a:Alike P P'):GoalsOk N' P':=fun j hj=>by
 have h1:(j.id,j.G)∈P'.jobs.map fun j=>(j.id,j.G):=List.mem_map.2 ⟨j,hj,rfl⟩
 rw[a.2.2]at h1
 obtain⟨y,hy,e⟩:=List.mem_map.1 h1
 have e2:y.G=j.G:=congrArg Prod.snd e
 obtain⟨g1,g2,g3⟩:=GO y hy
 rw[e2]at g1 g2 g3
 exact⟨E.isN g1,E.isN g2,E.isN g3⟩
structure Wld(h:Heap)(p s n room:Nat)(fo gg:Nat→Nat)(off:Bool)(N:List (Option Nd))(P:PS)(L:List Nat):Prop where
 S:Sto h s L (XL n room fo gg N off)
 H:PoolIs h p s P
 Ok:PoolOk n fo N P
 GO:GoalsOk N P
 D: ∀b,PBl p P b→b∉L
structure Beside(p:Nat)(P:PS)(L:List Nat)(h:Heap)(P':PS)(L':List Nat)(h':Heap):Prop where
 O: ∀T,(∀b,PBl p P b→b∈T)→(∀b∈L,b∈T)→Only T h h'
 F:Fresh L L' h
 B: ∀b,PBl p P' b→PBl p P b∨h.size≤b
theorem Wld.only0{h':Heap}(W:Wld h p s n room fo gg off N P L)(O:Only [] h h'):Wld h' p s n room fo gg off N P L:=⟨W.S.only0 O,W.H.only0 O,W.Ok,W.GO,W.D⟩
theorem wld_pick(W:Wld h p s n room fo gg off N P L){who draw:Int}
  (hOut:who<0∨(P.ws.length:Int)≤who→K (.bool false) h)
  (hK: ∀h' L' N' P' b (w:Nat) (k:Wk),who=(w:Int)→P.ws[w]? =some k→Wld h' p s n room fo gg off N' P' L'→Picked n fo room N N' P P'→(b=true→locs P.ws≠[])→(phi n N' P'+1≤phi n N P∨(k.job=0∧k.q=[]∧WsEq P.ws P'.ws))→Beside p P L h P' L' h'→K (.bool b) h'):
  Cl 81 [ptrV p,.int .i64 who,.int .i64 draw] h K:=
 pick81 W.S W.H W.Ok W.GO W.D hOut fun h' L' N' P' b w k e1 e2 S' H' D' Pk e3 e4 O' F' B'=>hK h' L' N' P' b w k e1 e2 ⟨S',H',Pk.ok,goals_ex W.GO Pk.ex Pk.alike,D'⟩ Pk e3 e4 ⟨O',F',B'⟩
end
end
section
structure Cal where
 kind:Int
 op:Int
 dst:Int
 a:Int
 b:Int
 c:Int
 mask:Nat
structure Ses where
 there:Nat→Bool
 hnd:Nat→Nat
 cal:Cal
 pend:Bool
 job:Nat
 err:Int
 num:Nat
 ansd:Bool
structure Eng where
 s:Nat
 p:Nat
 r:Nat
 ses:Nat→Ses
 ans:Nat
def upN{α:Type}(f:Nat→α)(i:Nat)(x:α):Nat→α:=fun k=>if k=i then x else f k
theorem upN_eq{α:Type}{f:Nat→α}{i:Nat}{x:α}:upN f i x i=x:=if_pos rfl
theorem upN_ne{α:Type}{f:Nat→α}{i k:Nat}{x:α}(h:k≠i):upN f i x k=f k:=if_neg h
def Eng.put(E:Eng)(i:Nat)(x:Ses):Eng:={E with ses:=upN E.ses i x}
def cC(c:Cal):Nat→Value
 |0=> .int .i64 c.kind
 |1=> .int .i64 c.op
 |2=> .int .i64 c.dst
 |3=> .int .i64 c.a
 |4=> .int .i64 c.b
 |5=> .int .i64 c.c
 |_=> .int .u8 (c.mask:Int)
def sC(x:Ses)(j:Nat):Value:=
 if j<12 then(if j%2=0 then .bool (x.there (j/2))else .int .u32 (x.hnd (j/2):Int))else
 if j<19 then cC x.cal (j-12)else
 if j=19 then .bool x.pend else if j=20 then .int .i64 (x.job:Int)else if j=21 then .int .i64 x.err else
 if j=22 then .int .u64 (x.num:Int)else .bool x.ansd
def eC(E:Eng)(k:Nat):Value:=
 if k=0 then ptrV E.s else if k=1 then ptrV E.p else if k=2 then ptrV E.r else if k=99 then .int .i64 (E.ans:Int)else
 sC (E.ses ((k-3)/24)) ((k-3)%24)
def EIs(h:Heap)(e:Nat)(E:Eng):Prop:=At h e (rowV 100 (eC E))
theorem cC_one{c:Cal}(j:Nat):(cC c j).oneCell'=true:=by
 unfold cC;split<;>rfl
theorem sC_one{x:Ses}(j:Nat):(sC x j).oneCell'=true:=by
 unfold sC
 split
 ·split<;>rfl
 ·split
  ·exact cC_one _
  ·repeat' split
   all_goals rfl
theorem EIs.rd{h:Heap}{e k:Nat}{E:Eng}(H:EIs h e E)(hk:k<100):Ev.rd h ⟨e,k,none⟩=some (eC E k):=by
 rw[At.rd H,rowV_get hk]
theorem eC_ses{E:Eng}{i j:Nat}(hi:i<4)(hj:j<24):eC E (3+24*i+j)=sC (E.ses i) j:=by
 unfold eC
 rw[if_neg (by omega),if_neg (by omega),if_neg (by omega),if_neg (by omega),show(3+24*i+j-3)/24=i by omega,show(3+24*i+j-3)%24=j by omega]
theorem EIs.rdS{h:Heap}{e i j k:Nat}{E:Eng}(H:EIs h e E)(hi:i<4)(hj:j<24)(hk:k=3+24*i+j):Ev.rd h ⟨e,k,none⟩=some (sC (E.ses i) j):=by
 subst hk
 rw[H.rd (by omega),eC_ses hi hj]
theorem sC_there{x:Ses}{r:Nat}(hr:r<6):sC x (2*r)= .bool (x.there r):=by
 unfold sC
 rw[if_pos (by omega),if_pos (by omega),show 2*r/2=r by omega]
theorem sC_hnd{x:Ses}{r:Nat}(hr:r<6):sC x (2*r+1)= .int .u32 (x.hnd r:Int):=by
 unfold sC
 rw[if_pos (by omega),if_neg (by omega),show(2*r+1)/2=r by omega]
theorem eC_put{E:Eng}{i:Nat}{x:Ses}{q:Nat}(h:q<100):eC (E.put i x) q=if 3≤q∧q<99∧(q-3)/24=i then sC x ((q-3)%24)else eC E q:=by
 unfold eC Eng.put
 by_cases h0:q=0
 ·rw[if_pos h0,if_pos h0,if_neg (by omega)]
 by_cases h1:q=1
 ·rw[if_neg h0,if_neg h0,if_pos h1,if_pos h1,if_neg (by omega)]
 by_cases h2:q=2
 ·rw[if_neg h0,if_neg h0,if_neg h1,if_neg h1,if_pos h2,if_pos h2,if_neg (by omega)]
 by_cases h3:q=99
 ·rw[if_neg h0,if_neg h0,if_neg h1,if_neg h1,if_neg h2,if_neg h2,if_pos h3,if_pos h3,if_neg (by omega)]
 rw[if_neg h0,if_neg h0,if_neg h1,if_neg h1,if_neg h2,if_neg h2,if_neg h3,if_neg h3]
 by_cases hq:(q-3)/24=i
 ·rw[if_pos (by omega)]
  show sC (upN E.ses i x ((q-3)/24)) _=_
  rw[hq,upN_eq]
 ·rw[if_neg (by omega)]
  show sC (upN E.ses i x ((q-3)/24)) _=_
  rw[upN_ne hq]
theorem EIs.setS{h:Heap}{e i j k:Nat}{E:Eng}{x:Ses}{v:Value}{K:Heap→Prop}(H:EIs h e E)(hi:i<4)(hj:j<24)(hk:k=3+24*i+j)(hv:v.oneCell'=true)
  (hx: ∀q,q<24→sC x q=if q=j then v else sC (E.ses i) q) (hK: ∀h',EIs h' e (E.put i x)→Only [e] h h'→h'.size=h.size→K h'):stK h ⟨e,k,none⟩ v K:=by
 subst hk
 refine stK_at H (by rw[rowV_len];omega) hv fun h' A O z=>hK h' ?_ O z
 unfold EIs
 rw[rowV_set]at A
 rw[rowV_ext (g':=fun q=>if q=3+24*i+j then v else eC E q) fun q hq=> ?_]
 ·exact A
 ·rw[eC_put hq]
  by_cases hc:3≤q∧q<99∧(q-3)/24=i
  ·rw[if_pos hc,hx _ (by omega)]
   by_cases hh:(q-3)%24=j
   ·rw[if_pos hh,if_pos (by omega)]
   ·rw[if_neg hh,if_neg (by omega),←eC_ses (E:=E) hi (by omega)]
    congr 1
    omega
  ·rw[if_neg hc,if_neg (by omega)]
theorem EIs.setA{h:Heap}{e n:Nat}{E:Eng}{K:Heap→Prop}(H:EIs h e E)(hK: ∀h',EIs h' e {E with ans:=n}→Only [e] h h'→h'.size=h.size→K h'):stK h ⟨e,99,none⟩ (.int .i64 (n:Int)) K:=by
 refine stK_at H (by rw[rowV_len];omega) rfl fun h' A O z=>hK h' ?_ O z
 unfold EIs
 rw[rowV_set]at A
 rw[rowV_ext (g':=fun q=>if q=99 then .int .i64 (n:Int)else eC E q) fun q hq=> ?_]
 ·exact A
 ·unfold eC
  by_cases h3:q=99
  ·rw[if_pos h3];subst h3;rfl
  ·rw[if_neg h3,if_neg h3,if_neg h3]
theorem EIs.only{h h':Heap}{e:Nat}{E:Eng}{S:List Nat}(H:EIs h e E)(O:Only S h h')(he:e∉S):EIs h' e E:=At.only H O he
theorem EIs.only0{h h':Heap}{e:Nat}{E:Eng}(H:EIs h e E)(O:Only [] h h'):EIs h' e E:=H.only O (by simp)
theorem sC_pend{x:Ses}{b:Bool}: ∀q,q<24→sC {x with pend:=b} q=if q=19 then .bool b else sC x q:=fun q hq=>by
 unfold sC
 by_cases h:q=19
 ·subst h;rfl
 ·rw[if_neg h,if_neg h,if_neg h]
theorem sC_job{x:Ses}{n:Nat}: ∀q,q<24→sC {x with job:=n} q=if q=20 then .int .i64 (n:Int)else sC x q:=fun q hq=>by
 unfold sC
 by_cases h:q=20
 ·subst h;rfl
 ·rw[if_neg h,if_neg h,if_neg h]
theorem sC_err{x:Ses}{n:Int}: ∀q,q<24→sC {x with err:=n} q=if q=21 then .int .i64 n else sC x q:=fun q hq=>by
 unfold sC
 by_cases h:q=21
 ·subst h;rfl
 ·rw[if_neg h,if_neg h,if_neg h]
theorem sC_num{x:Ses}{n:Nat}: ∀q,q<24→sC {x with num:=n} q=if q=22 then .int .u64 (n:Int)else sC x q:=fun q hq=>by
 unfold sC
 by_cases h:q=22
 ·subst h;rfl
 ·rw[if_neg h,if_neg h,if_neg h]
theorem sC_ansd{x:Ses}{b:Bool}: ∀q,q<24→sC {x with ansd:=b} q=if q=23 then .bool b else sC x q:=fun q hq=>by
 unfold sC
 by_cases h:q=23
 ·subst h;rfl
 ·rw[if_neg h]
  repeat' split
  all_goals first|rfl|omega
theorem sC_cal{x:Ses}{c:Cal}{j:Nat}{v:Value}(hj:j<7)(hc: ∀q,q<7→cC c q=if q=j then v else cC x.cal q): ∀q,q<24→sC {x with cal:=c} q=if q=12+j then v else sC x q:=fun q hq=>by
 unfold sC
 by_cases h:q<12
 ·rw[if_pos h,if_pos h,if_neg (show ¬q=12+j by omega)]
 ·rw[if_neg h,if_neg h]
  by_cases h2:q<19
  ·rw[if_pos h2,if_pos h2,hc _ (by omega)]
   by_cases h3:q-12=j
   ·rw[if_pos h3,if_pos (show q=12+j by omega)]
   ·rw[if_neg h3,if_neg (show ¬q=12+j by omega)]
  ·rw[if_neg h2,if_neg h2,if_neg (show ¬q=12+j by omega)]
theorem sC_sett{x:Ses}{r:Nat}{b:Bool}(hr:r<6): ∀q,q<24→sC {x with there:=upN x.there r b} q=if q=2*r then .bool b else sC x q:=fun q hq=>by
 by_cases h:q=2*r
 ·subst h;rw[sC_there hr,if_pos rfl];show Value.bool (upN _ _ _ _)=_;rw[upN_eq]
 ·rw[if_neg h]
  unfold sC
  by_cases h1:q<12
  ·rw[if_pos h1,if_pos h1]
   by_cases h2:q%2=0
   ·rw[if_pos h2,if_pos h2];show Value.bool (upN _ _ _ _)=_;rw[upN_ne (by omega)]
   ·rw[if_neg h2,if_neg h2]
  ·rw[if_neg h1,if_neg h1]
theorem sC_seth{x:Ses}{r n:Nat}(hr:r<6): ∀q,q<24→sC {x with hnd:=upN x.hnd r n} q=if q=2*r+1 then .int .u32 (n:Int)else sC x q:=fun q hq=>by
 by_cases h:q=2*r+1
 ·subst h;rw[sC_hnd hr,if_pos rfl];show Value.int .u32 ((upN _ _ _ _:Nat):Int)=_;rw[upN_eq]
 ·rw[if_neg h]
  unfold sC
  by_cases h1:q<12
  ·rw[if_pos h1,if_pos h1]
   by_cases h2:q%2=0
   ·rw[if_pos h2,if_pos h2]
   ·rw[if_neg h2,if_neg h2];show Value.int .u32 ((upN _ _ _ _:Nat):Int)=_;rw[upN_ne (by omega)]
  ·rw[if_neg h1,if_neg h1]
theorem upN_upN{α:Type}{f:Nat→α}{i:Nat}{x y:α}:upN (upN f i x) i y=upN f i y:=by
 funext k
 by_cases h:k=i
 ·rw[h,upN_eq,upN_eq]
 ·rw[upN_ne h,upN_ne h,upN_ne h]
theorem put_put{E:Eng}{i:Nat}{x y:Ses}:(E.put i x).put i y=E.put i y:=by
 unfold Eng.put
 rw[upN_upN]
theorem put_ses{E:Eng}{i:Nat}{x:Ses}:(E.put i x).ses i=x:=upN_eq
theorem put_self{E:Eng}{i:Nat}:E.put i (E.ses i)=E:=by
 unfold Eng.put
 have:upN E.ses i (E.ses i)=E.ses:=by
  funext k
  unfold upN
  by_cases h:k=i
  ·rw[if_pos h,h]
  ·rw[if_neg h]
 rw[this]
section
variable {h:Heap}{e i k:Nat}{E:Eng}(H:EIs h e E)(hi:i<4)
include H hi
theorem EIs.kind(hk:k=3+24*i+12):Ev.rd h ⟨e,k,none⟩=some (.int .i64 (E.ses i).cal.kind):=H.rdS hi (j:=12) (by omega) hk
theorem EIs.op(hk:k=3+24*i+13):Ev.rd h ⟨e,k,none⟩=some (.int .i64 (E.ses i).cal.op):=H.rdS hi (j:=13) (by omega) hk
theorem EIs.dst(hk:k=3+24*i+14):Ev.rd h ⟨e,k,none⟩=some (.int .i64 (E.ses i).cal.dst):=H.rdS hi (j:=14) (by omega) hk
theorem EIs.ca(hk:k=3+24*i+15):Ev.rd h ⟨e,k,none⟩=some (.int .i64 (E.ses i).cal.a):=H.rdS hi (j:=15) (by omega) hk
theorem EIs.cb(hk:k=3+24*i+16):Ev.rd h ⟨e,k,none⟩=some (.int .i64 (E.ses i).cal.b):=H.rdS hi (j:=16) (by omega) hk
theorem EIs.cc(hk:k=3+24*i+17):Ev.rd h ⟨e,k,none⟩=some (.int .i64 (E.ses i).cal.c):=H.rdS hi (j:=17) (by omega) hk
theorem EIs.mask(hk:k=3+24*i+18):Ev.rd h ⟨e,k,none⟩=some (.int .u8 ((E.ses i).cal.mask:Int)):=H.rdS hi (j:=18) (by omega) hk
theorem EIs.pend(hk:k=3+24*i+19):Ev.rd h ⟨e,k,none⟩=some (.bool (E.ses i).pend):=H.rdS hi (j:=19) (by omega) hk
theorem EIs.err(hk:k=3+24*i+21):Ev.rd h ⟨e,k,none⟩=some (.int .i64 (E.ses i).err):=H.rdS hi (j:=21) (by omega) hk
theorem EIs.num(hk:k=3+24*i+22):Ev.rd h ⟨e,k,none⟩=some (.int .u64 ((E.ses i).num:Int)):=H.rdS hi (j:=22) (by omega) hk
theorem EIs.ansd(hk:k=3+24*i+23):Ev.rd h ⟨e,k,none⟩=some (.bool (E.ses i).ansd):=H.rdS hi (j:=23) (by omega) hk
theorem EIs.thr{r:Nat}(hr:r<6)(hk:k=3+24*i+2*r):Ev.rd h ⟨e,k,none⟩=some (.bool ((E.ses i).there r)):=by rw[H.rdS hi (j:=2*r) (by omega) hk,sC_there hr]
theorem EIs.hnd{r:Nat}(hr:r<6)(hk:k=3+24*i+(2*r+1)):Ev.rd h ⟨e,k,none⟩=some (.int .u32 ((E.ses i).hnd r:Int)):=by rw[H.rdS hi (j:=2*r+1) (by omega) hk,sC_hnd hr]
end
theorem EIs.s{h:Heap}{e:Nat}{E:Eng}(H:EIs h e E):Ev.rd h ⟨e,0,none⟩=some (ptrV E.s):=H.rd (by omega)
theorem EIs.p{h:Heap}{e:Nat}{E:Eng}(H:EIs h e E):Ev.rd h ⟨e,1,none⟩=some (ptrV E.p):=H.rd (by omega)
theorem EIs.r{h:Heap}{e:Nat}{E:Eng}(H:EIs h e E):Ev.rd h ⟨e,2,none⟩=some (ptrV E.r):=H.rd (by omega)
theorem EIs.ans{h:Heap}{e:Nat}{E:Eng}(H:EIs h e E):Ev.rd h ⟨e,99,none⟩=some (.int .i64 (E.ans:Int)):=H.rd (by omega)
end
section
theorem F18.spec(a b c:Int)(h:Heap)(K:KK)(H:Cl 61 [.int .i64 a,.int .i64 b] h fun v1 h2=> ∃p3:Option Addr,∃n4:Int,v1=(.tuple #[.pointer p3,.int .i64 n4])∧bcase (n4 !=(0:Int)) (K (.tuple #[.pointer none,.int .i64 n4]) h2) (Cl 34 [.pointer p3,.int .i64 c] h2 fun v5 h6=>ldP (some v5) fun p7=>Cl 68 [.pointer p7] h6 fun v8 h9=>ldI .i64 (some v8) fun n10=>Cl 67 [.int .i64 n10] h9 fun v11 h12=>ldP (some v11) fun p13=>newK h12 (.cells #[.pointer p3,.pointer p7,.pointer p13,.bool false,.int .u32 0,.bool false,.int .u32 0,.bool false,.int .u32 0,.bool false,.int .u32 0,.bool false,.int .u32 0,.bool false,.int .u32 0,.int .i64 0,.int .i64 0,.int .i64 0,.int .i64 0,.int .i64 0,.int .i64 0,.int .u8 0,.bool false,.int .i64 0,.int .i64 0,.int .u64 0,.bool false,.bool false,.int .u32 0,.bool false,.int .u32 0,.bool false,.int .u32 0,.bool false,.int .u32 0,.bool false,.int .u32 0,.bool false,.int .u32 0,.int .i64 0,.int .i64 0,.int .i64 0,.int .i64 0,.int .i64 0,.int .i64 0,.int .u8 0,.bool false,.int .i64 0,.int .i64 0,.int .u64 0,.bool false,.bool false,.int .u32 0,.bool false,.int .u32 0,.bool false,.int .u32 0,.bool false,.int .u32 0,.bool false,.int .u32 0,.bool false,.int .u32 0,.int .i64 0,.int .i64 0,.int .i64 0,.int .i64 0,.int .i64 0,.int .i64 0,.int .u8 0,.bool false,.int .i64 0,.int .i64 0,.int .u64 0,.bool false,.bool false,.int .u32 0,.bool false,.int .u32 0,.bool false,.int .u32 0,.bool false,.int .u32 0,.bool false,.int .u32 0,.bool false,.int .u32 0,.int .i64 0,.int .i64 0,.int .i64 0,.int .i64 0,.int .i64 0,.int .i64 0,.int .u8 0,.bool false,.int .i64 0,.int .i64 0,.int .u64 0,.bool false,.int .i64 0] 132) fun b14 h15=>K (.tuple #[.pointer (some (Addr.mk b14 0 none)),.int .i64 0]) h15)):Cl 18 [.int .i64 a,.int .i64 b,.int .i64 c] h K:=cN Tryz.func18 H
theorem F24.spec(j:Addr)(l a b c d f g i:Int)(h:Heap)(K:KK)(H:newK h (.cells #[.int .i64 a,.int .i64 b,.int .i64 c,.int .i64 d,.int .i64 f,.int .i64 g,.int .u8 i] 41) fun b1 h2=>Cl 76 [.pointer (some j),.int .i64 l] h2 fun v3 h4=>ldP (some v3) fun p5=>bcase (Option.isNone p5) (K (.int .i64 222) h4) (ptrK p5 fun a6=>ldB (rd h4 (a6.add 19)) fun b7=>bcase b7 (K (.int .i64 220) h4) (ldI .i64 (rd h4 ((Addr.mk b1 0 none).add 0)) fun n8=>ldI .i64 (rd h4 ((Addr.mk b1 0 none).add 1)) fun n9=>ldI .i64 (rd h4 ((Addr.mk b1 0 none).add 2)) fun n10=>ldI .i64 (rd h4 ((Addr.mk b1 0 none).add 3)) fun n11=>ldI .i64 (rd h4 ((Addr.mk b1 0 none).add 4)) fun n12=>ldI .i64 (rd h4 ((Addr.mk b1 0 none).add 5)) fun n13=>ldI .u8 (rd h4 ((Addr.mk b1 0 none).add 6)) fun n14=>Cl 77 [.pointer (some j),.pointer p5,.agg #[.int .i64 n8,.int .i64 n9,.int .i64 n10,.int .i64 n11,.int .i64 n12,.int .i64 n13,.int .u8 n14]] h4 fun v15 h16=>ldI .i64 (some v15) fun n17=>bcase (n17 !=(0:Int)) (K (.int .i64 n17) h16) (ldI .i64 (rd h16 ((Addr.mk b1 0 none).add 0)) fun n18=>ldI .i64 (rd h16 ((Addr.mk b1 0 none).add 1)) fun n19=>ldI .i64 (rd h16 ((Addr.mk b1 0 none).add 2)) fun n20=>ldI .i64 (rd h16 ((Addr.mk b1 0 none).add 3)) fun n21=>ldI .i64 (rd h16 ((Addr.mk b1 0 none).add 4)) fun n22=>ldI .i64 (rd h16 ((Addr.mk b1 0 none).add 5)) fun n23=>ldI .u8 (rd h16 ((Addr.mk b1 0 none).add 6)) fun n24=>ptrK p5 fun a25=>stK h16 ((a25.add 12).add 0) (.int .i64 n18) fun h26=>stK h26 ((a25.add 12).add 1) (.int .i64 n19) fun h27=>stK h27 ((a25.add 12).add 2) (.int .i64 n20) fun h28=>stK h28 ((a25.add 12).add 3) (.int .i64 n21) fun h29=>stK h29 ((a25.add 12).add 4) (.int .i64 n22) fun h30=>stK h30 ((a25.add 12).add 5) (.int .i64 n23) fun h31=>stK h31 ((a25.add 12).add 6) (.int .u8 n24) fun h32=>ptrK p5 fun a33=>stK h32 ((a33.add 19).add 0) (.bool true) fun h34=>ptrK p5 fun a35=>stK h34 ((a35.add 20).add 0) (.int .i64 0) fun h36=>K (.int .i64 0) h36)))):Cl 24 [.pointer (some j),.int .i64 l,.agg #[.int .i64 a,.int .i64 b,.int .i64 c,.int .i64 d,.int .i64 f,.int .i64 g,.int .u8 i]] h K:=cN Tryz.func24 H
def F26.T:Hint:=⟨[(4,[0,1,2,23]),(11,[0,1,2])],[]⟩
section
variable (n:Nat)(b:Addr)(c d a:Int)(h:Heap)(K:KK)
def F26.wk11:Prop:=Cl 80 [.pointer (some b)] h fun v1 h2=>v1=(.tuple #[])∧ldP (rd h2 (b.add 1)) fun p3=>Cl 81 [.pointer p3,.int .i64 c,.int .i64 d] h2 fun v4 h5=>ldB (some v4) fun _=>K (.bool true) h5
def F26.wL4:Prop:=Lp Tryz.f26 F26.T [1,1,0,1,0] n [(0,(.pointer (some b))),(1,(.int .i64 c)),(2,(.int .i64 d)),(23,(.int .i64 a))] h K
theorem F26.sL4:F26.wL4 (n+1) b c d a h K=(bcase (decide (a<(4:Int))) ((0≤a∧a<(Nat.cast 4:Int)∧ldB (rd h (((b.add 3).add (Int.toNat a*24)).add 19)) fun b1=>bcase b1 (ldI .i64 (rd h ((((b.add 3).add (Int.toNat a*24)).add 12).add 0)) fun n2=>ldI .i64 (rd h ((((b.add 3).add (Int.toNat a*24)).add 12).add 1)) fun n3=>ldI .i64 (rd h ((((b.add 3).add (Int.toNat a*24)).add 12).add 2)) fun n4=>ldI .i64 (rd h ((((b.add 3).add (Int.toNat a*24)).add 12).add 3)) fun n5=>ldI .i64 (rd h ((((b.add 3).add (Int.toNat a*24)).add 12).add 4)) fun n6=>ldI .i64 (rd h ((((b.add 3).add (Int.toNat a*24)).add 12).add 5)) fun n7=>ldI .u8 (rd h ((((b.add 3).add (Int.toNat a*24)).add 12).add 6)) fun n8=>Cl 79 [.pointer (some b),.agg #[.int .i64 n2,.int .i64 n3,.int .i64 n4,.int .i64 n5,.int .i64 n6,.int .i64 n7,.int .u8 n8]] h fun v9 h10=>ldV (some v9) fun v11=>dynK Tryz.prog X v11 [.pointer (some ((b.add 3).add (Int.toNat a*24)))] h10 fun v12 h13=>ldB (some v12) fun _=>F26.wL4 n b c d (IntKind.wrap .i64 (a+(1:Int))) h13 K) (F26.wL4 n b c d (IntKind.wrap .i64 (a+(1:Int))) h K))) (F26.wk11 b c d h K)):=by kernel_rfl
def F26.wk4:Prop:=(∃m,F26.wL4 m b c d a h K)
theorem F26.spec(H:bcase (decide (c<(0:Int))) (K (.bool false) h) (Cl 27 [.pointer (some b)] h fun v1 h2=>ldI .i64 (some v1) fun n3=>bcase (decide (c≥n3)) (K (.bool false) h2) (Cl 78 [.pointer (some b)] h2 fun v4 h5=>ldB (some v4) fun b6=>bcase (!b6) (K (.bool false) h5) (F26.wk4 b c d (0:Int) h5 K)))):Cl 26 [.pointer (some b),.int .i64 c,.int .i64 d] h K:=cT F26.T Tryz.func26 H
end
theorem F27.spec(a:Addr)(h:Heap)(K:KK)(H:ldP (rd h (a.add 1)) fun p1=>Cl 68 [.pointer p1] h fun v2 h3=>ldI .i64 (some v2) fun n4=>K (.int .i64 n4) h3):Cl 27 [.pointer (some a)] h K:=cN Tryz.func27 H
theorem F43.spec(a:Addr)(b:Int)(h:Heap)(K:KK)(H:newK h (.cells #[.int .i64 0,.int .u64 0] 76) fun b1 h2=>Cl 76 [.pointer (some a),.int .i64 b] h2 fun v3 h4=>ldP (some v3) fun p5=>bcase (Option.isNone p5) (stK h4 ((Addr.mk b1 0 none).add 0) (.int .i64 0) fun h6=>stK h6 ((Addr.mk b1 0 none).add 1) (.int .u64 0) fun h7=>ldI .i64 (rd h7 ((Addr.mk b1 0 none).add 0)) fun n8=>ldI .u64 (rd h7 ((Addr.mk b1 0 none).add 1)) fun n9=>K (.tuple #[.agg #[.int .i64 n8,.int .u64 n9],.bool false]) h7) (ptrK p5 fun a10=>ldB (rd h4 (a10.add 23)) fun b11=>bcase (!b11) (stK h4 ((Addr.mk b1 0 none).add 0) (.int .i64 0) fun h12=>stK h12 ((Addr.mk b1 0 none).add 1) (.int .u64 0) fun h13=>ldI .i64 (rd h13 ((Addr.mk b1 0 none).add 0)) fun n14=>ldI .u64 (rd h13 ((Addr.mk b1 0 none).add 1)) fun n15=>K (.tuple #[.agg #[.int .i64 n14,.int .u64 n15],.bool false]) h13) (ptrK p5 fun a16=>ldI .i64 (rd h4 ((a16.add 21).add 0)) fun n17=>ldI .u64 (rd h4 ((a16.add 21).add 1)) fun n18=>stK h4 ((Addr.mk b1 0 none).add 0) (.int .i64 n17) fun h19=>stK h19 ((Addr.mk b1 0 none).add 1) (.int .u64 n18) fun h20=>ldI .i64 (rd h20 ((Addr.mk b1 0 none).add 0)) fun n21=>ldI .u64 (rd h20 ((Addr.mk b1 0 none).add 1)) fun n22=>K (.tuple #[.agg #[.int .i64 n21,.int .u64 n22],.bool true]) h20))):Cl 43 [.pointer (some a),.int .i64 b] h K:=cN Tryz.func43 H
theorem F56.spec(a:Addr)(b:Int)(h:Heap)(K:KK)(H:Cl 76 [.pointer (some a),.int .i64 b] h fun v1 h2=>ldP (some v1) fun p3=>bcase (!(Option.isNone p3)) (ptrK p3 fun a4=>ldB (rd h2 (a4.add 19)) fun b5=>K (.bool b5) h2) (K (.bool false) h2)):Cl 56 [.pointer (some a),.int .i64 b] h K:=cN Tryz.func56 H
theorem F76.spec(b:Addr)(a:Int)(h:Heap)(K:KK)(H:bcase (decide (a<(0:Int))) (K (.pointer none) h) (bcase (decide (a≥(4:Int))) (K (.pointer none) h) ((0≤a∧a<(Nat.cast 4:Int)∧K (.pointer (some ((b.add 3).add (Int.toNat a*24)))) h)))):Cl 76 [.pointer (some b),.int .i64 a] h K:=cN Tryz.func76 H
def F77.T:Hint:=⟨[(6,[0,1,5,28,29,30]),(11,[0,5])],[(11,[[(0,[]),(1,[]),(2,[]),(3,[]),(4,[]),(5,[]),(6,[]),(7,[0,1,2]),(8,[]),(9,[]),(10,[])]]),(12,[[(0,[]),(1,[]),(2,[]),(3,[]),(4,[]),(5,[]),(6,[]),(7,[0,1,2]),(8,[]),(9,[])]])]⟩
section
variable (n:Nat)(i j:Addr)(l o q r s t u:Int)(a:Addr)(c:Option Addr)(b f:Nat)(g d:Int)(h:Heap)(K:KK)
def F77.wk11:Prop:=ldI .u8 (rd h (a.add 6)) fun n1=>ldP (rd h (i.add 0)) fun p2=>Cl 75 [.pointer p2] h fun v3 h4=>ldI .i64 (some v3) fun n5=>((.pointer (some (a.add 6)))=((.pointer (some (a.add 6))):Value)∧ldI .u8 (rd h4 (a.add 6)) fun n6=>((.int .u8 n6)=((.int .u8 n1):Value)∧((.int .i64 (IntKind.wrap .i64 n1))=((.int .i64 (IntKind.wrap .i64 n1)):Value)∧(0≤n5∧ldI .u8 (rd h4 (a.add 6)) fun n7=>ldP (rd h4 (i.add 0)) fun p8=>Cl 75 [.pointer p8] h4 fun v9 h10=>ldI .i64 (some v9) fun n11=>((.pointer (some (a.add 6)))=((.pointer (some (a.add 6))):Value)∧ldI .u8 (rd h10 (a.add 6)) fun n12=>((.int .u8 n12)=((.int .u8 n7):Value)∧((.int .i64 (IntKind.wrap .i64 n7))=((.int .i64 (IntKind.wrap .i64 n7)):Value)∧ldI .i64 (rd h10 (a.add 0)) fun n13=>bcase (n13==(3:Int)) (ldI .i64 (rd h10 (a.add 1)) fun n14=>Cl 122 [.int .i64 n14] h10 fun v15 h16=>ldI .i64 (some v15) fun n17=>bcase (n17==(0:Int)) (K (.int .i64 200) h16) (ldI .i64 (rd h16 (a.add 0)) fun n18=>bcase (n18==(1:Int)) (bcase (decide ((IntKind.wrap .i64 n7)≥n11)) (bcase (decide ((IntKind.wrap .i64 n7)≥n11)) (K (.int .i64 40) h16) (ldI .i64 (rd h16 (a.add 0)) fun n19=>bcase (n19==(3:Int)) (ldI .i64 (rd h16 (a.add 1)) fun n20=>bcase (n20==(6:Int)) (bcase ((Int.fdiv (IntKind.wrap .i64 n1) (2^(min (Int.toNat n5) (IntKind.bits .i64)))) !=(0:Int)) (K (.int .i64 40) h16) (K (.int .i64 0) h16)) (ldI .i64 (rd h16 (a.add 1)) fun n21=>bcase (n21==(7:Int)) (bcase ((Int.fdiv (IntKind.wrap .i64 n1) (2^(min (Int.toNat n5) (IntKind.bits .i64)))) !=(0:Int)) (K (.int .i64 40) h16) (K (.int .i64 0) h16)) (K (.int .i64 0) h16))) (K (.int .i64 0) h16))) (ldI .i64 (rd h16 (a.add 0)) fun n22=>bcase (n22==(3:Int)) (ldI .i64 (rd h16 (a.add 1)) fun n23=>bcase (n23==(8:Int)) (bcase (decide ((IntKind.wrap .i64 n7)≥n11)) (K (.int .i64 40) h16) (ldI .i64 (rd h16 (a.add 0)) fun n24=>bcase (n24==(3:Int)) (ldI .i64 (rd h16 (a.add 1)) fun n25=>bcase (n25==(6:Int)) (bcase ((Int.fdiv (IntKind.wrap .i64 n1) (2^(min (Int.toNat n5) (IntKind.bits .i64)))) !=(0:Int)) (K (.int .i64 40) h16) (K (.int .i64 0) h16)) (ldI .i64 (rd h16 (a.add 1)) fun n26=>bcase (n26==(7:Int)) (bcase ((Int.fdiv (IntKind.wrap .i64 n1) (2^(min (Int.toNat n5) (IntKind.bits .i64)))) !=(0:Int)) (K (.int .i64 40) h16) (K (.int .i64 0) h16)) (K (.int .i64 0) h16))) (K (.int .i64 0) h16))) (ldI .i64 (rd h16 (a.add 0)) fun n27=>bcase (n27==(3:Int)) (ldI .i64 (rd h16 (a.add 1)) fun n28=>bcase (n28==(6:Int)) (bcase ((Int.fdiv (IntKind.wrap .i64 n1) (2^(min (Int.toNat n5) (IntKind.bits .i64)))) !=(0:Int)) (K (.int .i64 40) h16) (K (.int .i64 0) h16)) (ldI .i64 (rd h16 (a.add 1)) fun n29=>bcase (n29==(7:Int)) (bcase ((Int.fdiv (IntKind.wrap .i64 n1) (2^(min (Int.toNat n5) (IntKind.bits .i64)))) !=(0:Int)) (K (.int .i64 40) h16) (K (.int .i64 0) h16)) (K (.int .i64 0) h16))) (K (.int .i64 0) h16))) (ldI .i64 (rd h16 (a.add 0)) fun n30=>bcase (n30==(3:Int)) (ldI .i64 (rd h16 (a.add 1)) fun n31=>bcase (n31==(6:Int)) (bcase ((Int.fdiv (IntKind.wrap .i64 n1) (2^(min (Int.toNat n5) (IntKind.bits .i64)))) !=(0:Int)) (K (.int .i64 40) h16) (K (.int .i64 0) h16)) (ldI .i64 (rd h16 (a.add 1)) fun n32=>bcase (n32==(7:Int)) (bcase ((Int.fdiv (IntKind.wrap .i64 n1) (2^(min (Int.toNat n5) (IntKind.bits .i64)))) !=(0:Int)) (K (.int .i64 40) h16) (K (.int .i64 0) h16)) (K (.int .i64 0) h16))) (K (.int .i64 0) h16)))) (ldI .i64 (rd h16 (a.add 0)) fun n33=>bcase (n33==(3:Int)) (ldI .i64 (rd h16 (a.add 1)) fun n34=>bcase (n34==(8:Int)) (bcase (decide ((IntKind.wrap .i64 n7)≥n11)) (K (.int .i64 40) h16) (ldI .i64 (rd h16 (a.add 0)) fun n35=>bcase (n35==(3:Int)) (ldI .i64 (rd h16 (a.add 1)) fun n36=>bcase (n36==(6:Int)) (bcase ((Int.fdiv (IntKind.wrap .i64 n1) (2^(min (Int.toNat n5) (IntKind.bits .i64)))) !=(0:Int)) (K (.int .i64 40) h16) (K (.int .i64 0) h16)) (ldI .i64 (rd h16 (a.add 1)) fun n37=>bcase (n37==(7:Int)) (bcase ((Int.fdiv (IntKind.wrap .i64 n1) (2^(min (Int.toNat n5) (IntKind.bits .i64)))) !=(0:Int)) (K (.int .i64 40) h16) (K (.int .i64 0) h16)) (K (.int .i64 0) h16))) (K (.int .i64 0) h16))) (ldI .i64 (rd h16 (a.add 0)) fun n38=>bcase (n38==(3:Int)) (ldI .i64 (rd h16 (a.add 1)) fun n39=>bcase (n39==(6:Int)) (bcase ((Int.fdiv (IntKind.wrap .i64 n1) (2^(min (Int.toNat n5) (IntKind.bits .i64)))) !=(0:Int)) (K (.int .i64 40) h16) (K (.int .i64 0) h16)) (ldI .i64 (rd h16 (a.add 1)) fun n40=>bcase (n40==(7:Int)) (bcase ((Int.fdiv (IntKind.wrap .i64 n1) (2^(min (Int.toNat n5) (IntKind.bits .i64)))) !=(0:Int)) (K (.int .i64 40) h16) (K (.int .i64 0) h16)) (K (.int .i64 0) h16))) (K (.int .i64 0) h16))) (ldI .i64 (rd h16 (a.add 0)) fun n41=>bcase (n41==(3:Int)) (ldI .i64 (rd h16 (a.add 1)) fun n42=>bcase (n42==(6:Int)) (bcase ((Int.fdiv (IntKind.wrap .i64 n1) (2^(min (Int.toNat n5) (IntKind.bits .i64)))) !=(0:Int)) (K (.int .i64 40) h16) (K (.int .i64 0) h16)) (ldI .i64 (rd h16 (a.add 1)) fun n43=>bcase (n43==(7:Int)) (bcase ((Int.fdiv (IntKind.wrap .i64 n1) (2^(min (Int.toNat n5) (IntKind.bits .i64)))) !=(0:Int)) (K (.int .i64 40) h16) (K (.int .i64 0) h16)) (K (.int .i64 0) h16))) (K (.int .i64 0) h16))))) (ldI .i64 (rd h10 (a.add 0)) fun n44=>bcase (n44==(1:Int)) (bcase (decide ((IntKind.wrap .i64 n7)≥n11)) (bcase (decide ((IntKind.wrap .i64 n7)≥n11)) (K (.int .i64 40) h10) (ldI .i64 (rd h10 (a.add 0)) fun n45=>bcase (n45==(3:Int)) (ldI .i64 (rd h10 (a.add 1)) fun n46=>bcase (n46==(6:Int)) (bcase ((Int.fdiv (IntKind.wrap .i64 n1) (2^(min (Int.toNat n5) (IntKind.bits .i64)))) !=(0:Int)) (K (.int .i64 40) h10) (K (.int .i64 0) h10)) (ldI .i64 (rd h10 (a.add 1)) fun n47=>bcase (n47==(7:Int)) (bcase ((Int.fdiv (IntKind.wrap .i64 n1) (2^(min (Int.toNat n5) (IntKind.bits .i64)))) !=(0:Int)) (K (.int .i64 40) h10) (K (.int .i64 0) h10)) (K (.int .i64 0) h10))) (K (.int .i64 0) h10))) (ldI .i64 (rd h10 (a.add 0)) fun n48=>bcase (n48==(3:Int)) (ldI .i64 (rd h10 (a.add 1)) fun n49=>bcase (n49==(8:Int)) (bcase (decide ((IntKind.wrap .i64 n7)≥n11)) (K (.int .i64 40) h10) (ldI .i64 (rd h10 (a.add 0)) fun n50=>bcase (n50==(3:Int)) (ldI .i64 (rd h10 (a.add 1)) fun n51=>bcase (n51==(6:Int)) (bcase ((Int.fdiv (IntKind.wrap .i64 n1) (2^(min (Int.toNat n5) (IntKind.bits .i64)))) !=(0:Int)) (K (.int .i64 40) h10) (K (.int .i64 0) h10)) (ldI .i64 (rd h10 (a.add 1)) fun n52=>bcase (n52==(7:Int)) (bcase ((Int.fdiv (IntKind.wrap .i64 n1) (2^(min (Int.toNat n5) (IntKind.bits .i64)))) !=(0:Int)) (K (.int .i64 40) h10) (K (.int .i64 0) h10)) (K (.int .i64 0) h10))) (K (.int .i64 0) h10))) (ldI .i64 (rd h10 (a.add 0)) fun n53=>bcase (n53==(3:Int)) (ldI .i64 (rd h10 (a.add 1)) fun n54=>bcase (n54==(6:Int)) (bcase ((Int.fdiv (IntKind.wrap .i64 n1) (2^(min (Int.toNat n5) (IntKind.bits .i64)))) !=(0:Int)) (K (.int .i64 40) h10) (K (.int .i64 0) h10)) (ldI .i64 (rd h10 (a.add 1)) fun n55=>bcase (n55==(7:Int)) (bcase ((Int.fdiv (IntKind.wrap .i64 n1) (2^(min (Int.toNat n5) (IntKind.bits .i64)))) !=(0:Int)) (K (.int .i64 40) h10) (K (.int .i64 0) h10)) (K (.int .i64 0) h10))) (K (.int .i64 0) h10))) (ldI .i64 (rd h10 (a.add 0)) fun n56=>bcase (n56==(3:Int)) (ldI .i64 (rd h10 (a.add 1)) fun n57=>bcase (n57==(6:Int)) (bcase ((Int.fdiv (IntKind.wrap .i64 n1) (2^(min (Int.toNat n5) (IntKind.bits .i64)))) !=(0:Int)) (K (.int .i64 40) h10) (K (.int .i64 0) h10)) (ldI .i64 (rd h10 (a.add 1)) fun n58=>bcase (n58==(7:Int)) (bcase ((Int.fdiv (IntKind.wrap .i64 n1) (2^(min (Int.toNat n5) (IntKind.bits .i64)))) !=(0:Int)) (K (.int .i64 40) h10) (K (.int .i64 0) h10)) (K (.int .i64 0) h10))) (K (.int .i64 0) h10)))) (ldI .i64 (rd h10 (a.add 0)) fun n59=>bcase (n59==(3:Int)) (ldI .i64 (rd h10 (a.add 1)) fun n60=>bcase (n60==(8:Int)) (bcase (decide ((IntKind.wrap .i64 n7)≥n11)) (K (.int .i64 40) h10) (ldI .i64 (rd h10 (a.add 0)) fun n61=>bcase (n61==(3:Int)) (ldI .i64 (rd h10 (a.add 1)) fun n62=>bcase (n62==(6:Int)) (bcase ((Int.fdiv (IntKind.wrap .i64 n1) (2^(min (Int.toNat n5) (IntKind.bits .i64)))) !=(0:Int)) (K (.int .i64 40) h10) (K (.int .i64 0) h10)) (ldI .i64 (rd h10 (a.add 1)) fun n63=>bcase (n63==(7:Int)) (bcase ((Int.fdiv (IntKind.wrap .i64 n1) (2^(min (Int.toNat n5) (IntKind.bits .i64)))) !=(0:Int)) (K (.int .i64 40) h10) (K (.int .i64 0) h10)) (K (.int .i64 0) h10))) (K (.int .i64 0) h10))) (ldI .i64 (rd h10 (a.add 0)) fun n64=>bcase (n64==(3:Int)) (ldI .i64 (rd h10 (a.add 1)) fun n65=>bcase (n65==(6:Int)) (bcase ((Int.fdiv (IntKind.wrap .i64 n1) (2^(min (Int.toNat n5) (IntKind.bits .i64)))) !=(0:Int)) (K (.int .i64 40) h10) (K (.int .i64 0) h10)) (ldI .i64 (rd h10 (a.add 1)) fun n66=>bcase (n66==(7:Int)) (bcase ((Int.fdiv (IntKind.wrap .i64 n1) (2^(min (Int.toNat n5) (IntKind.bits .i64)))) !=(0:Int)) (K (.int .i64 40) h10) (K (.int .i64 0) h10)) (K (.int .i64 0) h10))) (K (.int .i64 0) h10))) (ldI .i64 (rd h10 (a.add 0)) fun n67=>bcase (n67==(3:Int)) (ldI .i64 (rd h10 (a.add 1)) fun n68=>bcase (n68==(6:Int)) (bcase ((Int.fdiv (IntKind.wrap .i64 n1) (2^(min (Int.toNat n5) (IntKind.bits .i64)))) !=(0:Int)) (K (.int .i64 40) h10) (K (.int .i64 0) h10)) (ldI .i64 (rd h10 (a.add 1)) fun n69=>bcase (n69==(7:Int)) (bcase ((Int.fdiv (IntKind.wrap .i64 n1) (2^(min (Int.toNat n5) (IntKind.bits .i64)))) !=(0:Int)) (K (.int .i64 40) h10) (K (.int .i64 0) h10)) (K (.int .i64 0) h10))) (K (.int .i64 0) h10)))))))))))
def F77.wL6:Prop:=Lp Tryz.f77 F77.T [1,1,1,0,1,0] n [(0,(.pointer (some i))),(1,(.pointer (some j))),(5,(.pointer (some a))),(28,(.slice c b f)),(29,(.int .i64 g)),(30,(.int .i64 d))] h K
theorem F77.sL6:F77.wL6 (n+1) i j a c b f g d h K=(bcase (decide (d<g)) (ptrK c fun a1=>0≤d∧d<(Nat.cast b:Int)∧ldI .i64 (rd h (a1.add (Int.toNat d*1))) fun n2=>Cl 82 [.int .i64 n2] h fun v3 h4=>ldB (some v3) fun b5=>bcase (!b5) (K (.int .i64 221) h4) ((0≤n2∧n2<(Nat.cast 6:Int)∧ldB (rd h4 (((j.add 0).add (Int.toNat n2*2)).add 0)) fun b6=>bcase (!b6) (K (.int .i64 221) h4) (F77.wL6 n i j a c b f g (IntKind.wrap .i64 (d+(1:Int))) h4 K)))) (F77.wk11 i a h K)):=by kernel_rfl
def F77.wk6:Prop:=(∃m,F77.wL6 m i j a c b f g d h K)
theorem F77.spec(H:newK h (.cells #[.int .i64 l,.int .i64 o,.int .i64 q,.int .i64 r,.int .i64 s,.int .i64 t,.int .u8 u] 41) fun b1 h2=>ldI .i64 (rd h2 ((Addr.mk b1 0 none).add 0)) fun n3=>bcase (decide (n3<(1:Int))) (K (.int .i64 222) h2) (ldI .i64 (rd h2 ((Addr.mk b1 0 none).add 0)) fun n4=>bcase (decide (n4>(8:Int))) (K (.int .i64 222) h2) (ldI .i64 (rd h2 ((Addr.mk b1 0 none).add 0)) fun n5=>ldI .i64 (rd h2 ((Addr.mk b1 0 none).add 1)) fun n6=>ldI .i64 (rd h2 ((Addr.mk b1 0 none).add 2)) fun n7=>ldI .i64 (rd h2 ((Addr.mk b1 0 none).add 3)) fun n8=>ldI .i64 (rd h2 ((Addr.mk b1 0 none).add 4)) fun n9=>ldI .i64 (rd h2 ((Addr.mk b1 0 none).add 5)) fun n10=>ldI .u8 (rd h2 ((Addr.mk b1 0 none).add 6)) fun n11=>Cl 120 [.agg #[.int .i64 n5,.int .i64 n6,.int .i64 n7,.int .i64 n8,.int .i64 n9,.int .i64 n10,.int .u8 n11]] h2 fun v12 h13=>ldB (some v12) fun b14=>bcase b14 (ldI .i64 (rd h13 ((Addr.mk b1 0 none).add 2)) fun n15=>Cl 82 [.int .i64 n15] h13 fun v16 h17=>ldB (some v16) fun b18=>bcase (!b18) (K (.int .i64 221) h17) (ldI .i64 (rd h17 ((Addr.mk b1 0 none).add 0)) fun n19=>ldI .i64 (rd h17 ((Addr.mk b1 0 none).add 1)) fun n20=>ldI .i64 (rd h17 ((Addr.mk b1 0 none).add 2)) fun n21=>ldI .i64 (rd h17 ((Addr.mk b1 0 none).add 3)) fun n22=>ldI .i64 (rd h17 ((Addr.mk b1 0 none).add 4)) fun n23=>ldI .i64 (rd h17 ((Addr.mk b1 0 none).add 5)) fun n24=>ldI .u8 (rd h17 ((Addr.mk b1 0 none).add 6)) fun n25=>Cl 121 [.agg #[.int .i64 n19,.int .i64 n20,.int .i64 n21,.int .i64 n22,.int .i64 n23,.int .i64 n24,.int .u8 n25]] h17 fun v26 h27=>ldS (some v26) fun p28 l29 c30=>F77.wk6 i j (Addr.mk b1 0 none) p28 l29 c30 (Nat.cast l29:Int) (0:Int) h27 K)) (ldI .i64 (rd h13 ((Addr.mk b1 0 none).add 0)) fun n31=>ldI .i64 (rd h13 ((Addr.mk b1 0 none).add 1)) fun n32=>ldI .i64 (rd h13 ((Addr.mk b1 0 none).add 2)) fun n33=>ldI .i64 (rd h13 ((Addr.mk b1 0 none).add 3)) fun n34=>ldI .i64 (rd h13 ((Addr.mk b1 0 none).add 4)) fun n35=>ldI .i64 (rd h13 ((Addr.mk b1 0 none).add 5)) fun n36=>ldI .u8 (rd h13 ((Addr.mk b1 0 none).add 6)) fun n37=>Cl 121 [.agg #[.int .i64 n31,.int .i64 n32,.int .i64 n33,.int .i64 n34,.int .i64 n35,.int .i64 n36,.int .u8 n37]] h13 fun v38 h39=>ldS (some v38) fun p40 l41 c42=>F77.wk6 i j (Addr.mk b1 0 none) p40 l41 c42 (Nat.cast l41:Int) (0:Int) h39 K)))):Cl 77 [.pointer (some i),.pointer (some j),.agg #[.int .i64 l,.int .i64 o,.int .i64 q,.int .i64 r,.int .i64 s,.int .i64 t,.int .u8 u]] h K:=cT F77.T Tryz.func77 H
end
def F78.T:Hint:=⟨[(2,[8,9])],[]⟩
section
variable (n:Nat)(c:Addr)(b:List Value)(a:Int)(h:Heap)(K:KK)
def F78.wL2:Prop:=Lp Tryz.f78 F78.T [1,0,1,0] n [(8,(.agg (List.toArray b))),(9,(.int .i64 a))] h K
theorem F78.sL2:F78.wL2 (n+1) b a h K=(bcase (decide (a<(4:Int))) ((0≤a∧a<(Nat.cast 4:Int)∧ldB (b[Int.toNat a*24+0]?) fun b1=>ldI .u32 (b[Int.toNat a*24+1]?) fun n2=>ldB (b[Int.toNat a*24+2]?) fun b3=>ldI .u32 (b[Int.toNat a*24+3]?) fun n4=>ldB (b[Int.toNat a*24+4]?) fun b5=>ldI .u32 (b[Int.toNat a*24+5]?) fun n6=>ldB (b[Int.toNat a*24+6]?) fun b7=>ldI .u32 (b[Int.toNat a*24+7]?) fun n8=>ldB (b[Int.toNat a*24+8]?) fun b9=>ldI .u32 (b[Int.toNat a*24+9]?) fun n10=>ldB (b[Int.toNat a*24+10]?) fun b11=>ldI .u32 (b[Int.toNat a*24+11]?) fun n12=>ldI .i64 (b[Int.toNat a*24+12]?) fun n13=>ldI .i64 (b[Int.toNat a*24+13]?) fun n14=>ldI .i64 (b[Int.toNat a*24+14]?) fun n15=>ldI .i64 (b[Int.toNat a*24+15]?) fun n16=>ldI .i64 (b[Int.toNat a*24+16]?) fun n17=>ldI .i64 (b[Int.toNat a*24+17]?) fun n18=>ldI .u8 (b[Int.toNat a*24+18]?) fun n19=>ldB (b[Int.toNat a*24+19]?) fun b20=>ldI .i64 (b[Int.toNat a*24+20]?) fun n21=>ldI .i64 (b[Int.toNat a*24+21]?) fun n22=>ldI .u64 (b[Int.toNat a*24+22]?) fun n23=>ldB (b[Int.toNat a*24+23]?) fun b24=>newK h (.cells #[.bool false,.int .u32 0,.bool false,.int .u32 0,.bool false,.int .u32 0,.bool false,.int .u32 0,.bool false,.int .u32 0,.bool false,.int .u32 0,.int .i64 0,.int .i64 0,.int .i64 0,.int .i64 0,.int .i64 0,.int .i64 0,.int .u8 0,.bool false,.int .i64 0,.int .i64 0,.int .u64 0,.bool false] 129) fun b25 h26=>stK h26 ((Addr.mk b25 0 none).add 0) (.bool b1) fun h27=>stK h27 ((Addr.mk b25 0 none).add 1) (.int .u32 n2) fun h28=>stK h28 ((Addr.mk b25 0 none).add 2) (.bool b3) fun h29=>stK h29 ((Addr.mk b25 0 none).add 3) (.int .u32 n4) fun h30=>stK h30 ((Addr.mk b25 0 none).add 4) (.bool b5) fun h31=>stK h31 ((Addr.mk b25 0 none).add 5) (.int .u32 n6) fun h32=>stK h32 ((Addr.mk b25 0 none).add 6) (.bool b7) fun h33=>stK h33 ((Addr.mk b25 0 none).add 7) (.int .u32 n8) fun h34=>stK h34 ((Addr.mk b25 0 none).add 8) (.bool b9) fun h35=>stK h35 ((Addr.mk b25 0 none).add 9) (.int .u32 n10) fun h36=>stK h36 ((Addr.mk b25 0 none).add 10) (.bool b11) fun h37=>stK h37 ((Addr.mk b25 0 none).add 11) (.int .u32 n12) fun h38=>stK h38 ((Addr.mk b25 0 none).add 12) (.int .i64 n13) fun h39=>stK h39 ((Addr.mk b25 0 none).add 13) (.int .i64 n14) fun h40=>stK h40 ((Addr.mk b25 0 none).add 14) (.int .i64 n15) fun h41=>stK h41 ((Addr.mk b25 0 none).add 15) (.int .i64 n16) fun h42=>stK h42 ((Addr.mk b25 0 none).add 16) (.int .i64 n17) fun h43=>stK h43 ((Addr.mk b25 0 none).add 17) (.int .i64 n18) fun h44=>stK h44 ((Addr.mk b25 0 none).add 18) (.int .u8 n19) fun h45=>stK h45 ((Addr.mk b25 0 none).add 19) (.bool b20) fun h46=>stK h46 ((Addr.mk b25 0 none).add 20) (.int .i64 n21) fun h47=>stK h47 ((Addr.mk b25 0 none).add 21) (.int .i64 n22) fun h48=>stK h48 ((Addr.mk b25 0 none).add 22) (.int .u64 n23) fun h49=>stK h49 ((Addr.mk b25 0 none).add 23) (.bool b24) fun h50=>ldB (rd h50 ((Addr.mk b25 0 none).add 19)) fun b51=>bcase b51 (K (.bool true) h50) (F78.wL2 n b (IntKind.wrap .i64 (a+(1:Int))) h50 K))) (K (.bool false) h)):=by kernel_rfl
def F78.wk2:Prop:=(∃m,F78.wL2 m b a h K)
theorem F78.spec(H:ldG h (c.add 3) 96 fun v1=>F78.wk2 v1 (0:Int) h K):Cl 78 [.pointer (some c)] h K:=cT F78.T Tryz.func78 H
end
theorem F79.spec(a:Addr)(b c d f g i j:Int)(h:Heap)(K:KK)(H:newK h (.cells #[.int .i64 b,.int .i64 c,.int .i64 d,.int .i64 f,.int .i64 g,.int .i64 i,.int .u8 j] 41) fun b1 h2=>ldI .i64 (rd h2 ((Addr.mk b1 0 none).add 0)) fun n3=>bcase (n3==(1:Int)) (bcase (n3==(1:Int)) (K (.func (.func 123) #[.pointer (some a)] #[]) h2) (bcase (n3==(4:Int)) (bcase (n3==(4:Int)) (K (.func (.func 124) #[.pointer (some a)] #[]) h2) (bcase (n3==(7:Int)) (K (.func (.func 125) #[.pointer (some a)] #[]) h2) (bcase (n3==(8:Int)) (K (.func (.func 126) #[.pointer (some a)] #[]) h2) (K (.func (.func 127) #[.pointer (some a)] #[]) h2)))) (bcase (n3==(5:Int)) (K (.func (.func 124) #[.pointer (some a)] #[]) h2) (bcase (n3==(7:Int)) (K (.func (.func 125) #[.pointer (some a)] #[]) h2) (bcase (n3==(8:Int)) (K (.func (.func 126) #[.pointer (some a)] #[]) h2) (K (.func (.func 127) #[.pointer (some a)] #[]) h2)))))) (bcase (n3==(2:Int)) (bcase (n3==(2:Int)) (K (.func (.func 123) #[.pointer (some a)] #[]) h2) (bcase (n3==(4:Int)) (bcase (n3==(4:Int)) (K (.func (.func 124) #[.pointer (some a)] #[]) h2) (bcase (n3==(7:Int)) (K (.func (.func 125) #[.pointer (some a)] #[]) h2) (bcase (n3==(8:Int)) (K (.func (.func 126) #[.pointer (some a)] #[]) h2) (K (.func (.func 127) #[.pointer (some a)] #[]) h2)))) (bcase (n3==(5:Int)) (K (.func (.func 124) #[.pointer (some a)] #[]) h2) (bcase (n3==(7:Int)) (K (.func (.func 125) #[.pointer (some a)] #[]) h2) (bcase (n3==(8:Int)) (K (.func (.func 126) #[.pointer (some a)] #[]) h2) (K (.func (.func 127) #[.pointer (some a)] #[]) h2)))))) (bcase (n3==(6:Int)) (K (.func (.func 123) #[.pointer (some a)] #[]) h2) (bcase (n3==(4:Int)) (bcase (n3==(4:Int)) (K (.func (.func 124) #[.pointer (some a)] #[]) h2) (bcase (n3==(7:Int)) (K (.func (.func 125) #[.pointer (some a)] #[]) h2) (bcase (n3==(8:Int)) (K (.func (.func 126) #[.pointer (some a)] #[]) h2) (K (.func (.func 127) #[.pointer (some a)] #[]) h2)))) (bcase (n3==(5:Int)) (K (.func (.func 124) #[.pointer (some a)] #[]) h2) (bcase (n3==(7:Int)) (K (.func (.func 125) #[.pointer (some a)] #[]) h2) (bcase (n3==(8:Int)) (K (.func (.func 126) #[.pointer (some a)] #[]) h2) (K (.func (.func 127) #[.pointer (some a)] #[]) h2)))))))):Cl 79 [.pointer (some a),.agg #[.int .i64 b,.int .i64 c,.int .i64 d,.int .i64 f,.int .i64 g,.int .i64 i,.int .u8 j]] h K:=cN Tryz.func79 H
def F80.T:Hint:=⟨[],[(0,[[(0,[]),(1,[]),(2,[]),(3,[]),(5,[]),(6,[]),(7,[]),(8,[]),(4,[5,6,7,8]),(9,[]),(10,[])]])]⟩
theorem F80.spec(a:Addr)(h:Heap)(K:KK)(H:ldP (rd h (a.add 0)) fun p1=>ldP (rd h (a.add 0)) fun p2=>Cl 45 [.pointer p1] h fun v3 h4=>ldI .i64 (some v3) fun n5=>((.pointer (some a))=((.pointer (some a)):Value)∧((.pointer (some a))=((.pointer (some a)):Value)∧((.pointer (some (a.add 0)))=((.pointer (some (a.add 0))):Value)∧ldP (rd h4 (a.add 0)) fun p6=>((.pointer p6)=((.pointer p2):Value)∧Cl 70 [.pointer p2] h4 fun v7 h8=>ldI .i64 (some v7) fun n9=>bcase (decide (n5≥n9)) (Cl 128 [.pointer (some a)] h8 fun v10 h11=>v10=(.tuple #[])∧K (.tuple #[]) h11) (K (.tuple #[]) h8)))))):Cl 80 [.pointer (some a)] h K:=cT F80.T Tryz.func80 H
theorem F82.spec(a:Int)(h:Heap)(K:KK)(H:bcase (decide (a≥(0:Int))) (K (.bool (decide (a<(6:Int)))) h) (K (.bool false) h)):Cl 82 [.int .i64 a] h K:=cN Tryz.func82 H
theorem F120.spec(a b c d f g i:Int)(h:Heap)(K:KK)(H:newK h (.cells #[.int .i64 a,.int .i64 b,.int .i64 c,.int .i64 d,.int .i64 f,.int .i64 g,.int .u8 i] 41) fun b1 h2=>ldI .i64 (rd h2 ((Addr.mk b1 0 none).add 0)) fun n3=>bcase (decide (n3≥(1:Int))) (ldI .i64 (rd h2 ((Addr.mk b1 0 none).add 0)) fun n4=>bcase (decide (n4≤(3:Int))) (K (.bool true) h2) (ldI .i64 (rd h2 ((Addr.mk b1 0 none).add 0)) fun n5=>K (.bool (n5==(6:Int))) h2)) (ldI .i64 (rd h2 ((Addr.mk b1 0 none).add 0)) fun n6=>K (.bool (n6==(6:Int))) h2)):Cl 120 [.agg #[.int .i64 a,.int .i64 b,.int .i64 c,.int .i64 d,.int .i64 f,.int .i64 g,.int .u8 i]] h K:=cN Tryz.func120 H
def F121.T:Hint:=⟨[],[(7,[[(0,[]),(1,[]),(2,[]),(3,[]),(4,[]),(5,[]),(7,[]),(8,[]),(6,[7,8]),(9,[0,1,2,3,4,5]),(10,[]),(11,[])],[(0,[]),(1,[]),(2,[]),(3,[]),(4,[]),(5,[]),(7,[]),(8,[]),(9,[0,1,2,3,4,5]),(6,[7,8]),(10,[]),(11,[])]])]⟩
theorem F121.spec(b c d f g i j:Int)(h:Heap)(K:KK)(H:newK h (.cells #[.int .i64 b,.int .i64 c,.int .i64 d,.int .i64 f,.int .i64 g,.int .i64 i,.int .u8 j] 41) fun b1 h2=>ldI .i64 (rd h2 ((Addr.mk b1 0 none).add 0)) fun n3=>bcase (n3==(4:Int)) (ldI .i64 (rd h2 ((Addr.mk b1 0 none).add 3)) fun n4=>newK h2 (.cells #[.int .i64 n4] 3) fun b5 h6=>K (.slice (some (Addr.mk b5 0 none)) 1 1) h6) (bcase (n3==(5:Int)) (ldI .i64 (rd h2 ((Addr.mk b1 0 none).add 3)) fun n7=>ldI .i64 (rd h2 ((Addr.mk b1 0 none).add 4)) fun n8=>newK h2 (.cells #[.int .i64 n7,.int .i64 n8] 3) fun b9 h10=>K (.slice (some (Addr.mk b9 0 none)) 2 2) h10) (bcase (n3==(3:Int)) ((ldI .i64 (rd h2 ((Addr.mk b1 0 none).add 3)) (fun n11=>ldI .i64 (rd h2 ((Addr.mk b1 0 none).add 4)) fun n12=>ldI .i64 (rd h2 ((Addr.mk b1 0 none).add 5)) fun n13=>ldI .i64 (rd h2 ((Addr.mk b1 0 none).add 1)) fun n14=>newK h2 (.cells #[.int .i64 n11,.int .i64 n12,.int .i64 n13] 3) fun b15 h16=>((.pointer (some ((Addr.mk b1 0 none).add 1)))=((.pointer (some ((Addr.mk b1 0 none).add 1))):Value)∧ldI .i64 (rd h16 ((Addr.mk b1 0 none).add 1)) fun n17=>((.int .i64 n17)=((.int .i64 n14):Value)∧Cl 122 [.int .i64 n14] h16 fun v18 h19=>ldI .i64 (some v18) fun n20=>((.pointer (some ((Addr.mk b1 0 none).add 3)))=((.pointer (some ((Addr.mk b1 0 none).add 3))):Value)∧ldI .i64 (rd h19 ((Addr.mk b1 0 none).add 3)) fun n21=>((.int .i64 n21)=((.int .i64 n11):Value)∧((.pointer (some ((Addr.mk b1 0 none).add 4)))=((.pointer (some ((Addr.mk b1 0 none).add 4))):Value)∧ldI .i64 (rd h19 ((Addr.mk b1 0 none).add 4)) fun n22=>((.int .i64 n22)=((.int .i64 n12):Value)∧((.pointer (some ((Addr.mk b1 0 none).add 5)))=((.pointer (some ((Addr.mk b1 0 none).add 5))):Value)∧ldI .i64 (rd h19 ((Addr.mk b1 0 none).add 5)) fun n23=>((.int .i64 n23)=((.int .i64 n13):Value)∧(0≤n20∧n20≤(Nat.cast 3:Int)∧K (.slice (if 3=0 then(some (Addr.mk b15 0 none))else Option.map (fun a=>Addr.add a (0*1)) (some (Addr.mk b15 0 none))) (Int.toNat n20-0) (3-0)) h19))))))))))∧ldI .i64 (rd h2 ((Addr.mk b1 0 none).add 3)) fun n24=>ldI .i64 (rd h2 ((Addr.mk b1 0 none).add 4)) fun n25=>ldI .i64 (rd h2 ((Addr.mk b1 0 none).add 5)) fun n26=>ldI .i64 (rd h2 ((Addr.mk b1 0 none).add 1)) fun n27=>Cl 122 [.int .i64 n27] h2 fun v28 h29=>ldI .i64 (some v28) fun n30=>((.pointer (some ((Addr.mk b1 0 none).add 3)))=((.pointer (some ((Addr.mk b1 0 none).add 3))):Value)∧ldI .i64 (rd h29 ((Addr.mk b1 0 none).add 3)) fun n31=>((.int .i64 n31)=((.int .i64 n24):Value)∧((.pointer (some ((Addr.mk b1 0 none).add 4)))=((.pointer (some ((Addr.mk b1 0 none).add 4))):Value)∧ldI .i64 (rd h29 ((Addr.mk b1 0 none).add 4)) fun n32=>((.int .i64 n32)=((.int .i64 n25):Value)∧((.pointer (some ((Addr.mk b1 0 none).add 5)))=((.pointer (some ((Addr.mk b1 0 none).add 5))):Value)∧ldI .i64 (rd h29 ((Addr.mk b1 0 none).add 5)) fun n33=>((.int .i64 n33)=((.int .i64 n26):Value)∧newK h29 (.cells #[.int .i64 n24,.int .i64 n25,.int .i64 n26] 3) fun b34 h35=>((.pointer (some ((Addr.mk b1 0 none).add 1)))=((.pointer (some ((Addr.mk b1 0 none).add 1))):Value)∧ldI .i64 (rd h35 ((Addr.mk b1 0 none).add 1)) fun n36=>((.int .i64 n36)=((.int .i64 n27):Value)∧(0≤n30∧n30≤(Nat.cast 3:Int)∧K (.slice (if 3=0 then(some (Addr.mk b34 0 none))else Option.map (fun a=>Addr.add a (0*1)) (some (Addr.mk b34 0 none))) (Int.toNat n30-0) (3-0)) h35))))))))))) (K (.slice none 0 0) h2)))):Cl 121 [.agg #[.int .i64 b,.int .i64 c,.int .i64 d,.int .i64 f,.int .i64 g,.int .i64 i,.int .u8 j]] h K:=cT F121.T Tryz.func121 H
theorem F122.spec(a:Int)(h:Heap)(K:KK)(H:bcase (a==(1:Int)) (bcase (a==(1:Int)) (K (.int .i64 1) h) (bcase (a==(2:Int)) (bcase (a==(2:Int)) (K (.int .i64 2) h) (bcase (a==(5:Int)) (K (.int .i64 3) h) (K (.int .i64 0) h))) (bcase (a==(3:Int)) (bcase (a==(3:Int)) (K (.int .i64 2) h) (bcase (a==(5:Int)) (K (.int .i64 3) h) (K (.int .i64 0) h))) (bcase (a==(4:Int)) (bcase (a==(4:Int)) (K (.int .i64 2) h) (bcase (a==(5:Int)) (K (.int .i64 3) h) (K (.int .i64 0) h))) (bcase (a==(8:Int)) (bcase (a==(8:Int)) (K (.int .i64 2) h) (bcase (a==(5:Int)) (K (.int .i64 3) h) (K (.int .i64 0) h))) (bcase (a==(9:Int)) (bcase (a==(9:Int)) (K (.int .i64 2) h) (bcase (a==(5:Int)) (K (.int .i64 3) h) (K (.int .i64 0) h))) (bcase (a==(10:Int)) (K (.int .i64 2) h) (bcase (a==(5:Int)) (K (.int .i64 3) h) (K (.int .i64 0) h))))))))) (bcase (a==(6:Int)) (bcase (a==(6:Int)) (K (.int .i64 1) h) (bcase (a==(2:Int)) (bcase (a==(2:Int)) (K (.int .i64 2) h) (bcase (a==(5:Int)) (K (.int .i64 3) h) (K (.int .i64 0) h))) (bcase (a==(3:Int)) (bcase (a==(3:Int)) (K (.int .i64 2) h) (bcase (a==(5:Int)) (K (.int .i64 3) h) (K (.int .i64 0) h))) (bcase (a==(4:Int)) (bcase (a==(4:Int)) (K (.int .i64 2) h) (bcase (a==(5:Int)) (K (.int .i64 3) h) (K (.int .i64 0) h))) (bcase (a==(8:Int)) (bcase (a==(8:Int)) (K (.int .i64 2) h) (bcase (a==(5:Int)) (K (.int .i64 3) h) (K (.int .i64 0) h))) (bcase (a==(9:Int)) (bcase (a==(9:Int)) (K (.int .i64 2) h) (bcase (a==(5:Int)) (K (.int .i64 3) h) (K (.int .i64 0) h))) (bcase (a==(10:Int)) (K (.int .i64 2) h) (bcase (a==(5:Int)) (K (.int .i64 3) h) (K (.int .i64 0) h))))))))) (bcase (a==(7:Int)) (K (.int .i64 1) h) (bcase (a==(2:Int)) (bcase (a==(2:Int)) (K (.int .i64 2) h) (bcase (a==(5:Int)) (K (.int .i64 3) h) (K (.int .i64 0) h))) (bcase (a==(3:Int)) (bcase (a==(3:Int)) (K (.int .i64 2) h) (bcase (a==(5:Int)) (K (.int .i64 3) h) (K (.int .i64 0) h))) (bcase (a==(4:Int)) (bcase (a==(4:Int)) (K (.int .i64 2) h) (bcase (a==(5:Int)) (K (.int .i64 3) h) (K (.int .i64 0) h))) (bcase (a==(8:Int)) (bcase (a==(8:Int)) (K (.int .i64 2) h) (bcase (a==(5:Int)) (K (.int .i64 3) h) (K (.int .i64 0) h))) (bcase (a==(9:Int)) (bcase (a==(9:Int)) (K (.int .i64 2) h) (bcase (a==(5:Int)) (K (.int .i64 3) h) (K (.int .i64 0) h))) (bcase (a==(10:Int)) (K (.int .i64 2) h) (bcase (a==(5:Int)) (K (.int .i64 3) h) (K (.int .i64 0) h))))))))))):Cl 122 [.int .i64 a] h K:=cN Tryz.func122 H
def F123.T:Hint:=⟨[(8,[0,1,5])],[]⟩
section
variable (b a:Addr)(c:Int)(h:Heap)(K:KK)
def F123.wk8:Prop:=Cl 168 [.pointer (some b),.pointer (some a),.agg #[.int .i64 c,.int .u64 0]] h fun v1 h2=>v1=(.tuple #[])∧K (.bool true) h2
theorem F123.spec(b a:Addr)(h:Heap)(K:KK)(H:ldI .i64 (rd h ((a.add 12).add 0)) fun n1=>bcase (n1==(1:Int)) (Cl 165 [.pointer (some b),.pointer (some a)] h fun v2 h3=>ldI .i64 (some v2) fun n4=>F123.wk8 b a n4 h3 K) (bcase (n1==(6:Int)) (Cl 166 [.pointer (some b),.pointer (some a)] h fun v5 h6=>v5=(.tuple #[])∧F123.wk8 b a (0:Int) h6 K) (ldI .u8 (rd h ((a.add 12).add 6)) fun n7=>Cl 167 [.pointer (some b),.pointer (some a),.int .u32 (IntKind.wrap .u32 (if(1:Int)<n7 then(1:Int)else n7))] h fun v8 h9=>v8=(.tuple #[])∧F123.wk8 b a (0:Int) h9 K))):Cl 123 [.pointer (some b),.pointer (some a)] h K:=cT F123.T Tryz.func123 H
end
theorem F124.spec(a b:Addr)(h:Heap)(K:KK)(H:Cl 169 [.pointer (some a),.pointer (some b)] h fun v1 h2=>ldI .u64 (some v1) fun n3=>Cl 168 [.pointer (some a),.pointer (some b),.agg #[.int .i64 0,.int .u64 n3]] h2 fun v4 h5=>v4=(.tuple #[])∧K (.bool true) h5):Cl 124 [.pointer (some a),.pointer (some b)] h K:=cN Tryz.func124 H
def F165.T:Hint:=⟨[],[(2,[[(0,[]),(1,[]),(2,[]),(3,[]),(4,[]),(5,[]),(6,[]),(7,[]),(8,[]),(9,[]),(10,[]),(11,[]),(12,[]),(13,[]),(14,[]),(15,[])]])]⟩
theorem F165.spec(a b:Addr)(h:Heap)(K:KK)(H:Cl 80 [.pointer (some a)] h fun v1 h2=>v1=(.tuple #[])∧ldP (rd h2 (a.add 0)) fun p3=>ldI .u8 (rd h2 ((b.add 12).add 6)) fun n4=>Cl 208 [.pointer p3,.int .i64 (IntKind.wrap .i64 n4)] h2 fun v5 h6=> ∃n7:Int,∃n8:Int,v5=(.tuple #[.int .u32 n7,.int .i64 n8])∧bcase (n8==(0:Int)) (Cl 167 [.pointer (some a),.pointer (some b),.int .u32 n7] h6 fun v9 h10=>v9=(.tuple #[])∧K (.int .i64 n8) h10) (K (.int .i64 n8) h6)):Cl 165 [.pointer (some a),.pointer (some b)] h K:=cT F165.T Tryz.func165 H
def F166.T:Hint:=⟨[(3,[1])],[(0,[[(0,[]),(1,[]),(2,[]),(3,[]),(4,[]),(5,[]),(6,[]),(7,[]),(8,[]),(9,[]),(10,[0,1,2,3,4,5,6,7,8,9]),(11,[])]]),(2,[[(0,[]),(1,[]),(2,[]),(3,[]),(4,[]),(5,[]),(6,[])]]),(3,[[(0,[]),(1,[]),(2,[]),(3,[]),(4,[]),(5,[]),(6,[]),(7,[]),(8,[]),(9,[]),(10,[])]])]⟩
section
variable (a:Addr)(h:Heap)(K:KK)
def F166.wk3:Prop:=ldI .i64 (rd h ((a.add 12).add 2)) fun n1=>0≤n1∧n1<(Nat.cast 6:Int)∧stK h (((a.add 0).add (Int.toNat n1*2)).add 0) (.bool false) fun h2=>stK h2 (((a.add 0).add (Int.toNat n1*2)).add 1) (.int .u32 0) fun h3=>K (.tuple #[]) h3
theorem F166.spec(b a:Addr)(h:Heap)(K:KK)(H:ldI .i64 (rd h ((a.add 12).add 2)) fun n1=>0≤n1∧n1<(Nat.cast 6:Int)∧ldB (rd h (((a.add 0).add (Int.toNat n1*2)).add 0)) fun b2=>ldI .u32 (rd h (((a.add 0).add (Int.toNat n1*2)).add 1)) fun n3=>newK h (.cells #[.bool false,.int .u32 0] 126) fun b4 h5=>((.pointer (some a))=((.pointer (some a)):Value)∧((.pointer (some a))=((.pointer (some a)):Value)∧((.pointer (some a))=((.pointer (some a)):Value)∧((.pointer (some (a.add 12)))=((.pointer (some (a.add 12))):Value)∧((.pointer (some ((a.add 12).add 2)))=((.pointer (some ((a.add 12).add 2))):Value)∧ldI .i64 (rd h5 ((a.add 12).add 2)) fun n6=>((.int .i64 n6)=((.int .i64 n1):Value)∧((.pointer (some a))=((.pointer (some a)):Value)∧((.pointer (some (a.add 0)))=((.pointer (some (a.add 0))):Value)∧(0≤n1∧n1<(Nat.cast 6:Int)∧((.pointer (some ((a.add 0).add (Int.toNat n1*2))))=((.pointer (some ((a.add 0).add (Int.toNat n1*2)))):Value)∧ldB (rd h5 (((a.add 0).add (Int.toNat n1*2)).add 0)) fun b7=>ldI .u32 (rd h5 (((a.add 0).add (Int.toNat n1*2)).add 1)) fun n8=>((.agg #[.bool b7,.int .u32 n8])=((.agg #[.bool b2,.int .u32 n3]):Value)∧stK h5 ((Addr.mk b4 0 none).add 0) (.bool b2) fun h9=>stK h9 ((Addr.mk b4 0 none).add 1) (.int .u32 n3) fun h10=>ldB (rd h10 ((Addr.mk b4 0 none).add 0)) fun b11=>bcase b11 (ldP (rd h10 (b.add 2)) fun p12=>ldI .u32 (rd h10 ((Addr.mk b4 0 none).add 1)) fun n13=>Cl 209 [.pointer p12,.int .u32 n13] h10 fun v14 h15=>ldI .i64 (some v14) fun _=>F166.wk3 a h15 K) (F166.wk3 a h10 K))))))))))))):Cl 166 [.pointer (some b),.pointer (some a)] h K:=cT F166.T Tryz.func166 H
end
def F167.T:Hint:=⟨[],[(1,[[(0,[]),(1,[]),(2,[]),(3,[]),(4,[]),(5,[]),(6,[]),(7,[]),(8,[]),(9,[]),(10,[]),(11,[])]])]⟩
theorem F167.spec(b a:Addr)(c:Int)(h:Heap)(K:KK)(H:Cl 166 [.pointer (some b),.pointer (some a)] h fun v1 h2=>v1=(.tuple #[])∧ldI .i64 (rd h2 ((a.add 12).add 2)) fun n3=>0≤n3∧n3<(Nat.cast 6:Int)∧stK h2 (((a.add 0).add (Int.toNat n3*2)).add 0) (.bool true) fun h4=>stK h4 (((a.add 0).add (Int.toNat n3*2)).add 1) (.int .u32 c) fun h5=>ldP (rd h5 (b.add 2)) fun p6=>Cl 210 [.pointer p6,.int .u32 c] h5 fun v7 h8=>v7=(.tuple #[])∧K (.tuple #[]) h8):Cl 167 [.pointer (some b),.pointer (some a),.int .u32 c] h K:=cT F167.T Tryz.func167 H
theorem F168.spec(d c:Addr)(a b:Int)(h:Heap)(K:KK)(H:newK h (.cells #[.int .i64 a,.int .u64 b] 76) fun b1 h2=>ldI .i64 (rd h2 ((Addr.mk b1 0 none).add 0)) fun n3=>ldI .u64 (rd h2 ((Addr.mk b1 0 none).add 1)) fun n4=>stK h2 ((c.add 21).add 0) (.int .i64 n3) fun h5=>stK h5 ((c.add 21).add 1) (.int .u64 n4) fun h6=>stK h6 ((c.add 23).add 0) (.bool true) fun h7=>stK h7 ((c.add 19).add 0) (.bool false) fun h8=>ldI .i64 (rd h8 (d.add 99)) fun n9=>stK h8 ((d.add 99).add 0) (.int .i64 (IntKind.wrap .i64 (n9+(1:Int)))) fun h10=>K (.tuple #[]) h10):Cl 168 [.pointer (some d),.pointer (some c),.agg #[.int .i64 a,.int .u64 b]] h K:=cN Tryz.func168 H
def F169.T:Hint:=⟨[],[(1,[[(0,[]),(1,[]),(2,[]),(3,[]),(4,[]),(5,[]),(6,[]),(7,[]),(8,[]),(9,[]),(10,[]),(11,[])]]),(5,[[(0,[]),(1,[]),(2,[]),(3,[]),(4,[]),(5,[]),(6,[]),(7,[]),(8,[]),(9,[]),(10,[]),(11,[]),(12,[])]])]⟩
theorem F169.spec(b a:Addr)(h:Heap)(K:KK)(H:ldI .i64 (rd h ((a.add 12).add 3)) fun n1=>0≤n1∧n1<(Nat.cast 6:Int)∧ldI .u32 (rd h (((a.add 0).add (Int.toNat n1*2)).add 1)) fun n2=>ldI .i64 (rd h ((a.add 12).add 0)) fun n3=>bcase (n3==(4:Int)) (ldP (rd h (b.add 0)) fun p4=>Cl 211 [.pointer p4,.int .u32 n2] h fun v5 h6=> ∃n7:Int,∃n8:Int,v5=(.tuple #[.int .u64 n7,.int .i64 n8])∧K (.int .u64 n7) h6) (ldI .i64 (rd h ((a.add 12).add 4)) fun n9=>0≤n9∧n9<(Nat.cast 6:Int)∧ldI .u32 (rd h (((a.add 0).add (Int.toNat n9*2)).add 1)) fun n10=>bcase (n2==n10) (K (.int .u64 1) h) (K (.int .u64 0) h))):Cl 169 [.pointer (some b),.pointer (some a)] h K:=cT F169.T Tryz.func169 H
end
section
def calV(c:Cal):Value:= .agg #[.int .i64 c.kind,.int .i64 c.op,.int .i64 c.dst,.int .i64 c.a,.int .i64 c.b,.int .i64 c.c,.int .u8 (c.mask:Int)]
def isR(x:Int):Prop:=0≤x∧x<6
instance (x:Int):Decidable (isR x):=by unfold isR;infer_instance
def wrK(k:Int):Prop:=1≤k∧k≤3∨k=6
instance (x:Int):Decidable (wrK x):=by unfold wrK;infer_instance
theorem wr_not{k:Int}(h: ¬(1≤k∧k≤3)):(k==(6:Int))=decide (wrK k):=by
 by_cases q:k=6
 ·subst q;rw[decide_eq_true (p:=wrK 6) (.inr rfl)];rfl
 ·rw[decide_eq_false (p:=wrK k) (fun c=>by rcases c with c|c<;>omega)];exact eqz q
def rds(c:Cal):List Int:=if c.kind=4 then [c.a]else if c.kind=5 then [c.a,c.b]else if c.kind=3 then [c.a,c.b,c.c].take (takesZ c.op).toNat else []
section
variable {h:Heap}{e:Nat}{E:Eng}{K:Value→Heap→Prop}
theorem session76{i:Int}(hO:(i<0∨4≤i)→K (.pointer none) h)(hI: ∀k:Nat,k<4→i=(k:Int)→K (.pointer (some ⟨e,3+24*k,none⟩)) h):Cl 76 [ptrV e,.int .i64 i] h K:=by
 refine F76.spec _ _ h K ?_
 refine bcase_of (fun c=>hO (.inl (of_decide_eq_true c))) fun c=>bcase_of (fun d=>hO (.inr (of_decide_eq_true d))) fun d=> ?_
 have c:=of_decide_eq_false c
 have d:=of_decide_eq_false d
 have d: ¬(4:Int)≤i:=d
 refine⟨by omega,by omega,?_⟩
 have:=hI i.toNat (by omega) (by omega)
 simpa only[add_mk,Nat.zero_add,Nat.mul_comm 24]using this
theorem is82{x:Int}(hK:K (.bool (decide (isR x))) h):Cl 82 [.int .i64 x] h K:=by
 refine F82.spec _ h K ?_
 refine bcase_of (fun c=> ?_) fun c=> ?_
 ·have c:(0:Int)≤x:=of_decide_eq_true c
  rw[show decide (x<(6:Int))=decide (isR x) by unfold isR;simp[c]]
  exact hK
 ·have c: ¬(0:Int)≤x:=of_decide_eq_false c
  rw[decide_eq_false (by unfold isR;omega)]at hK
  exact hK
theorem writes120{c:Cal}(hK: ∀h',Only [] h h'→K (.bool (decide (wrK c.kind))) h'):Cl 120 [calV c] h K:=by
 refine F120.spec _ _ _ _ _ _ _ h K ?_
 refine newK_at fun h1 A1 O1 z1=> ?_
 simp only[add_mk,Nat.zero_add]
 have r:Ev.rd h1 ⟨h.size,0,none⟩=some (.int .i64 c.kind):=At.rd A1 0
 have hK:=hK h1 O1
 refine ldI_of r (bcase_of (fun a=>ldI_of r (bcase_of (fun b=> ?_) fun b=>ldI_of r ?_)) fun a=>ldI_of r ?_)
 ·rw[decide_eq_true (.inl ⟨of_decide_eq_true a,of_decide_eq_true b⟩)]at hK
  exact hK
 ·have b:=of_decide_eq_false b
  rw[wr_not (by omega)]
  exact hK
 ·have a: ¬(1:Int)≤c.kind:=of_decide_eq_false a
  rw[wr_not (by omega)]
  exact hK
theorem takes122{x:Int}(hK:K (.int .i64 (takesZ x)) h):Cl 122 [.int .i64 x] h K:=by
 refine F122.spec _ h K ?_
 unfold takesZ at hK
 by_cases h1:x=1
 ·subst h1;exact hK
 by_cases h2:x=2
 ·subst h2;exact hK
 by_cases h3:x=3
 ·subst h3;exact hK
 by_cases h4:x=4
 ·subst h4;exact hK
 by_cases h5:x=5
 ·subst h5;exact hK
 by_cases h6:x=6
 ·subst h6;exact hK
 by_cases h7:x=7
 ·subst h7;exact hK
 by_cases h8:x=8
 ·subst h8;exact hK
 by_cases h9:x=9
 ·subst h9;exact hK
 by_cases h10:x=10
 ·subst h10;exact hK
 rw[if_neg (by omega),if_neg (by omega),if_neg h5]at hK
 simp only[eqz h1,eqz h2,eqz h3,eqz h4,eqz h5,eqz h6,eqz h7,eqz h8,eqz h9,eqz h10,bcase_false]
 exact hK
theorem takes_le(x:Int):0≤takesZ x∧takesZ x≤3:=by
 unfold takesZ
 repeat' split
 all_goals omega
def RowI(h h':Heap)(p:Option Addr)(l:Nat)(xs:List Int):Prop:=l=xs.length∧(xs=[]∨ ∃(b:Nat) (L:List Value),p=some ⟨b,0,none⟩∧h.size≤b∧At h' b L∧ ∀(i:Nat) (x:Int),xs[i]? =some x→L[i]? =some (Value.int .i64 x))
theorem reads121{c:Cal}(hK: ∀h' p l q,Only [] h h'→RowI h h' p l (rds c)→K (.slice p l q) h'):Cl 121 [calV c] h K:=by
 refine F121.spec _ _ _ _ _ _ _ h K ?_
 refine newK_at fun h1 A1 O1 z1=> ?_
 simp only[add_mk,Nat.zero_add]
 have r: ∀k,Ev.rd h1 ⟨h.size,k,none⟩=([.int .i64 c.kind,.int .i64 c.op,.int .i64 c.dst,.int .i64 c.a,.int .i64 c.b,.int .i64 c.c,.int .u8 (c.mask:Int)]:List Value)[k]? :=fun k=>At.rd A1 k
 refine ldI_of (n:=c.kind) (by rw[r];rfl) (bcase_of (fun a=> ?_) fun a=>bcase_of (fun b=> ?_) fun b=>bcase_of (fun d=> ?_) fun d=> ?_)
 ·have a:c.kind=4:=by simpa using a
  refine ldI_of (n:=c.a) (by rw[r];rfl) (newK_at fun h2 A2 O2 z2=> ?_)
  refine hK h2 _ _ _ (O1.trans O2 (by simp)) ?_
  have e:rds c=[c.a]:=by unfold rds;rw[if_pos a]
  rw[e]
  exact⟨rfl,.inr ⟨h1.size,_,rfl,by omega,A2,fun i x hx=>by
   cases i with
   |zero=>simp at hx;subst hx;rfl
   |succ i=>simp at hx⟩⟩
 ·have a: ¬c.kind=4:=by simpa using a
  have b:c.kind=5:=by simpa using b
  refine ldI_of (n:=c.a) (by rw[r];rfl) (ldI_of (n:=c.b) (by rw[r];rfl) (newK_at fun h2 A2 O2 z2=> ?_))
  refine hK h2 _ _ _ (O1.trans O2 (by simp)) ?_
  have e:rds c=[c.a,c.b]:=by unfold rds;rw[if_neg a,if_pos b]
  rw[e]
  exact⟨rfl,.inr ⟨h1.size,_,rfl,by omega,A2,fun i x hx=>by
   rcases i with _|_|i
   ·simp at hx;subst hx;rfl
   ·simp at hx;subst hx;rfl
   ·simp at hx⟩⟩
 ·have a: ¬c.kind=4:=by simpa using a
  have b: ¬c.kind=5:=by simpa using b
  have d:c.kind=3:=by simpa using d
  have e:rds c=[c.a,c.b,c.c].take (takesZ c.op).toNat:=by unfold rds;rw[if_neg a,if_neg b,if_pos d]
  have tl:=takes_le c.op
  have row: ∀(hh:Heap) (A:At hh h1.size [.int .i64 c.a,.int .i64 c.b,.int .i64 c.c]),RowI h hh (some ⟨h1.size,0,none⟩) (takesZ c.op).toNat (rds c):=fun hh A=>by
   rw[e]
   refine⟨by simp;try omega,.inr ⟨h1.size,_,rfl,by omega,A,fun i x hx=> ?_⟩⟩
   rw[List.getElem?_take]at hx
   split at hx
   ·rcases i with _|_|_|i
    ·simp at hx;subst hx;rfl
    ·simp at hx;subst hx;rfl
    ·simp at hx;subst hx;rfl
    ·simp at hx
   ·cases hx
  have fin: ∀(hh:Heap) (q:Nat),Only [] h hh→At hh h1.size [.int .i64 c.a,.int .i64 c.b,.int .i64 c.c]→K (.slice (if 3=0 then(some (Addr.mk h1.size 0 none))else Option.map (fun a=>Addr.add a (0*1)) (some (Addr.mk h1.size 0 none))) (Int.toNat (takesZ c.op)-0) q) hh:=fun hh q O A=>by
   have:=hK hh _ _ q O (row hh A)
   simpa using this
  refine⟨?_,?_⟩
  ·refine ldI_of (n:=c.a) (by rw[r];rfl) (ldI_of (n:=c.b) (by rw[r];rfl) (ldI_of (n:=c.c) (by rw[r];rfl) (ldI_of (n:=c.op) (by rw[r];rfl) (newK_at fun h2 A2 O2 z2=> ?_))))
   have r2: ∀k,Ev.rd h2 ⟨h.size,k,none⟩=([.int .i64 c.kind,.int .i64 c.op,.int .i64 c.dst,.int .i64 c.a,.int .i64 c.b,.int .i64 c.c,.int .u8 (c.mask:Int)]:List Value)[k]? :=fun k=>At.rd (A1.only O2 (by simp)) k
   refine⟨trivial,ldI_of (n:=c.op) (by rw[r2];rfl) ⟨rfl,takes122 (ldI_of rfl ?_)⟩⟩
   refine⟨trivial,ldI_of (n:=c.a) (by rw[r2];rfl) ⟨rfl,trivial,ldI_of (n:=c.b) (by rw[r2];rfl) ⟨rfl,trivial,ldI_of (n:=c.c) (by rw[r2];rfl) ⟨rfl,tl.1,tl.2,?_⟩⟩⟩⟩
   exact fin h2 _ (O1.trans O2 (by simp)) A2
  ·refine ldI_of (n:=c.a) (by rw[r];rfl) (ldI_of (n:=c.b) (by rw[r];rfl) (ldI_of (n:=c.c) (by rw[r];rfl) (ldI_of (n:=c.op) (by rw[r];rfl) (takes122 (ldI_of rfl ?_)))))
   refine⟨trivial,ldI_of (n:=c.a) (by rw[r];rfl) ⟨rfl,trivial,ldI_of (n:=c.b) (by rw[r];rfl) ⟨rfl,trivial,ldI_of (n:=c.c) (by rw[r];rfl) ⟨rfl,newK_at fun h2 A2 O2 z2=> ?_⟩⟩⟩⟩
   have r2: ∀k,Ev.rd h2 ⟨h.size,k,none⟩=([.int .i64 c.kind,.int .i64 c.op,.int .i64 c.dst,.int .i64 c.a,.int .i64 c.b,.int .i64 c.c,.int .u8 (c.mask:Int)]:List Value)[k]? :=fun k=>At.rd (A1.only O2 (by simp)) k
   refine⟨trivial,ldI_of (n:=c.op) (by rw[r2];rfl) ⟨rfl,tl.1,tl.2,?_⟩⟩
   exact fin h2 _ (O1.trans O2 (by simp)) A2
 ·have a: ¬c.kind=4:=by simpa using a
  have b: ¬c.kind=5:=by simpa using b
  have d: ¬c.kind=3:=by simpa using d
  refine hK h1 _ _ _ O1 ?_
  have e:rds c=[]:=by unfold rds;rw[if_neg a,if_neg b,if_neg d]
  rw[e]
  exact⟨rfl,.inl rfl⟩
theorem pending56(H:EIs h e E){i:Int}(hO:(i<0∨4≤i)→K (.bool false) h)(hI: ∀k:Nat,k<4→i=(k:Int)→K (.bool (E.ses k).pend) h):Cl 56 [ptrV e,.int .i64 i] h K:=by
 refine F56.spec _ _ h K ?_
 refine session76 (fun c=>ldP_of rfl (hO c)) fun k hk ek=>ldP_of rfl ?_
 show bcase true _ _
 rw[bcase_true]
 show ldB (Ev.rd h (Addr.add ⟨e,3+24*k,none⟩ 19)) _
 exact ldB_of (n:=(E.ses k).pend) (by rw[add_mk];exact H.pend hk rfl) (hI k hk ek)
theorem answer43(H:EIs h e E){i:Int}(hO:(i<0∨4≤i)→ ∀h',Only [] h h'→K (.tuple #[.agg #[.int .i64 0,.int .u64 0],.bool false]) h')
  (hI: ∀k:Nat,k<4→i=(k:Int)→ ∀h',Only [] h h'→K (.tuple #[.agg #[.int .i64 (if(E.ses k).ansd=true then(E.ses k).err else 0),.int .u64 (if(E.ses k).ansd=true then((E.ses k).num:Int)else 0)],.bool (E.ses k).ansd]) h'):
  Cl 43 [ptrV e,.int .i64 i] h K:=by
 refine F43.spec _ _ h K ?_
 refine newK_at fun h1 A1 O1 z1=> ?_
 simp only[add_mk,Nat.zero_add]
 have zero:(∀h',Only [] h h'→K (.tuple #[.agg #[.int .i64 0,.int .u64 0],.bool false]) h')→stK h1 ⟨h.size,0,none⟩ (.int .i64 (0:Int)) (fun h6=>stK h6 ⟨h.size,1,none⟩ (.int .u64 (0:Int)) (fun h7=>ldI .i64 (Ev.rd h7 ⟨h.size,0,none⟩) (fun n8=>ldI .u64 (Ev.rd h7 ⟨h.size,1,none⟩) (fun n9=>K (.tuple #[(.agg #[(.int .i64 n8),(.int .u64 n9)]),(.bool false)]) h7)))):=fun g=>by
  refine stK_at A1 (by simp) rfl fun h2 A2 O2 z2=>stK_at A2 (by simp) rfl fun h3 A3 O3 z3=> ?_
  refine ldI_of (n:=0) (by rw[At.rd A3];rfl) (ldI_of (n:=0) (by rw[At.rd A3];rfl) (g h3 ?_))
  exact(O1.trans O2 (by intro x hx hl;simp at hx;omega)).trans O3 (by intro x hx hl;simp at hx;omega)
 refine session76 (fun c=>ldP_of rfl ?_) fun k hk ek=>ldP_of rfl ?_
 ·exact zero (hO c)
 ·have hI:=hI k hk ek
  show bcase false _ _
  rw[bcase_false]
  have H1:=H.only0 O1
  refine ldB_of (n:=(E.ses k).ansd) (by rw[add_mk];exact H1.ansd hk rfl) (bcase_of (fun c=> ?_) fun c=> ?_)
  ·have c:(E.ses k).ansd=false:=by simpa using c
   rw[c]at hI
   exact zero hI
  ·have c:(E.ses k).ansd=true:=by simpa using c
   rw[c,if_pos rfl,if_pos rfl]at hI
   refine ldI_of (by simp only[add_mk];exact H1.err hk (by omega)) (ldI_of (by simp only[add_mk];exact H1.num hk (by omega)) ?_)
   refine stK_at A1 (by simp) rfl fun h2 A2 O2 z2=>stK_at A2 (by simp) rfl fun h3 A3 O3 z3=> ?_
   refine ldI_of (n:=(E.ses k).err) (by rw[At.rd A3];rfl) (ldI_of (n:=((E.ses k).num:Int)) (by rw[At.rd A3];rfl) (hI h3 ?_))
   exact(O1.trans O2 (by intro x hx hl;simp at hx;omega)).trans O3 (by intro x hx hl;simp at hx;omega)
end
end
section
def refu2(n:Nat)(c:Cal):Int:=if c.kind=3∧takesZ c.op=0 then 200 else if(c.kind=1∨c.kind=3∧c.op=8)∧n≤c.mask then 40 else if c.kind=3∧(c.op=6∨c.op=7)∧c.mask/2^n≠0 then 40 else 0
theorem rds_len(c:Cal):(rds c).length≤3:=by
 unfold rds
 split
 ·simp
 ·split
  ·simp
  ·split
   ·rw[List.length_take]
    exact Nat.min_le_right _ _
   ·simp
def rdsOk(x:Ses)(c:Cal):Prop:= ∀r∈rds c,isR r∧x.there r.toNat=true
open Classical in
noncomputable def refu(n:Nat)(x:Ses)(c:Cal):Int:=if ¬(1≤c.kind∧c.kind≤8)then 222 else if wrK c.kind∧ ¬isR c.dst then 221 else if ¬rdsOk x c then 221 else refu2 n c
theorem pk_some{a:Addr}{K:Addr→Prop}:ptrK (some a) K=K a:=rfl
section
variable {h:Heap}{e s:Nat}{E:Eng}{K:Value→Heap→Prop}{L:List Nat}{X:SX}
theorem fdivp{m n:Nat}(hn:n≤8)(hm:m<256):(Int.fdiv (IntKind.wrap .i64 (m:Int)) (2^(min (Int.toNat (n:Int)) (IntKind.bits .i64))))=((m/2^n:Nat):Int):=by
 rw[wrap_i64 (by omega) (by omega),show min (Int.toNat (n:Int)) (IntKind.bits .i64)=n by show min n 64=n;omega,show((2:Int)^n)=((2^n:Nat):Int) by simp,Int.fdiv_eq_ediv_of_nonneg _ (Int.natCast_nonneg _)]
 simp
theorem ref11{b:Nat}{c:Cal}(I:EIs h e E)(S:Sto h E.s L X)(hm:c.mask<256)(A:At h b [.int .i64 c.kind,.int .i64 c.op,.int .i64 c.dst,.int .i64 c.a,.int .i64 c.b,.int .i64 c.c,.int .u8 (c.mask:Int)])
  (hK:K (.int .i64 (refu2 X.n c)) h):F77.wk11 ⟨e,0,none⟩ ⟨b,0,none⟩ h K:=by
 unfold F77.wk11
 have n8:=S.ok.2.2.1
 have r0:rd h ⟨b,0,none⟩=some (.int .i64 c.kind):=At.rd A 0
 have r1:rd h ⟨b,1,none⟩=some (.int .i64 c.op):=At.rd A 1
 have r6:rd h ⟨b,6,none⟩=some (.int .u8 (c.mask:Int)):=At.rd A 6
 have rs:rd h ⟨e,0,none⟩=some (.pointer (some ⟨E.s,0,none⟩)):=I.s
 simp only[add_mk,Nat.zero_add]
 refine ldI_of r6 (ldP_of rs (sto_vars S (ldI_of rfl ⟨trivial,ldI_of r6 ⟨rfl,trivial,by omega,ldI_of r6 (ldP_of rs (sto_vars S (ldI_of rfl ⟨trivial,ldI_of r6 ⟨rfl,trivial,ldI_of r0 ?_⟩⟩)))⟩⟩)))
 rw[fdivp n8 hm,show IntKind.wrap .i64 (c.mask:Int)=(c.mask:Int)from wrap_i64 (by omega) (by omega)]
 simp only[r0,r1,ldI_some]
 have em:decide ((c.mask:Int)≥(X.n:Int))=decide (X.n≤c.mask):=by
  by_cases q:X.n≤c.mask
  ·rw[decide_eq_true q,decide_eq_true (by omega)]
  ·rw[decide_eq_false q,decide_eq_false (by omega)]
 have ed:(((c.mask/2^X.n:Nat):Int) !=(0:Int))=decide (c.mask/2^X.n≠0):=by
  by_cases q:c.mask/2^X.n=0
  ·rw[q,decide_eq_false (by simp)];rfl
  ·rw[decide_eq_true q]
   simp only[bne_iff_ne,ne_eq,Bool.not_eq_true]
   omega
 rw[em,ed]
 unfold refu2 at hK
 by_cases k3:c.kind=3
 ·have a1:(c.kind==(3:Int))=true:=by simp[k3]
  have a2:(c.kind==(1:Int))=false:=by simp[k3]
  simp only[a1,a2,bcase_true,bcase_false]
  refine takes122 (ldI_of rfl ?_)
  simp only[r0,r1,ldI_some,a1,a2,bcase_true,bcase_false]
  by_cases t0:takesZ c.op=0
  ·have a3:(takesZ c.op==(0:Int))=true:=by simp[t0]
   rw[a3,bcase_true]
   rw[if_pos ⟨k3,t0⟩]at hK
   exact hK
  ·have a3:(takesZ c.op==(0:Int))=false:=by simp[t0]
   rw[a3,bcase_false]
   rw[if_neg (fun q=>t0 q.2)]at hK
   simp only[k3,true_and,false_or,show ¬(3:Int)=1 by omega]at hK
   by_cases o8:c.op=8
   ·simp only[show(c.op==(8:Int))=true by simp[o8],show(c.op==(6:Int))=false by simp[o8],show(c.op==(7:Int))=false by simp[o8],bcase_true,bcase_false]
    refine bcase_of (fun q=> ?_) fun q=> ?_
    ·rw[if_pos ⟨o8,of_decide_eq_true q⟩]at hK
     exact hK
    ·rw[if_neg (fun w=>(of_decide_eq_false q) w.2),if_neg (by omega)]at hK
     exact hK
   ·rw[if_neg (fun w=>o8 w.1)]at hK
    simp only[show(c.op==(8:Int))=false by simp[o8],bcase_false]
    by_cases o6:c.op=6
    ·simp only[show(c.op==(6:Int))=true by simp[o6],bcase_true]
     refine bcase_of (fun q=> ?_) fun q=> ?_
     ·rw[if_pos ⟨.inl o6,of_decide_eq_true q⟩]at hK
      exact hK
     ·rw[if_neg (fun w=>(of_decide_eq_false q) w.2)]at hK
      exact hK
    ·simp only[show(c.op==(6:Int))=false by simp[o6],bcase_false]
     by_cases o7:c.op=7
     ·simp only[show(c.op==(7:Int))=true by simp[o7],bcase_true]
      refine bcase_of (fun q=> ?_) fun q=> ?_
      ·rw[if_pos ⟨.inr o7,of_decide_eq_true q⟩]at hK
       exact hK
      ·rw[if_neg (fun w=>(of_decide_eq_false q) w.2)]at hK
       exact hK
     ·simp only[show(c.op==(7:Int))=false by simp[o7],bcase_false]
      rw[if_neg (by omega)]at hK
      exact hK
 ·have a1:(c.kind==(3:Int))=false:=by simp[k3]
  simp only[a1,bcase_false]
  rw[if_neg (fun q=>k3 q.1)]at hK
  simp only[k3,false_and,or_false,if_false]at hK
  by_cases k1:c.kind=1
  ·simp only[show(c.kind==(1:Int))=true by simp[k1],bcase_true]
   refine bcase_of (fun q=> ?_) fun q=> ?_
   ·rw[q,bcase_true]
    rw[if_pos ⟨k1,of_decide_eq_true q⟩]at hK
    exact hK
   ·rw[if_neg (fun w=>(of_decide_eq_false q) w.2)]at hK
    exact hK
  ·simp only[show(c.kind==(1:Int))=false by simp[k1],bcase_false]
   rw[if_neg (fun w=>k1 w.1)]at hK
   exact hK
theorem refuses77{c:Cal}{i:Nat}(hi:i<4)(I:EIs h e E)(S:Sto h E.s L X)(he:e<h.size)(hm:c.mask<256)(hK: ∀h',Only [] h h'→K (.int .i64 (refu X.n (E.ses i) c)) h'):
  Cl 77 [ptrV e,.pointer (some ⟨e,3+24*i,none⟩),calV c] h K:=by
 refine F77.spec _ _ _ _ _ _ _ _ _ h K ?_
 refine newK_at fun h1 A1 O1 z1=> ?_
 simp only[add_mk,Nat.zero_add]
 have r: ∀k,rd h1 ⟨h.size,k,none⟩=([.int .i64 c.kind,.int .i64 c.op,.int .i64 c.dst,.int .i64 c.a,.int .i64 c.b,.int .i64 c.c,.int .u8 (c.mask:Int)]:List Value)[k]? :=fun k=>At.rd A1 k
 refine ldI_of (n:=c.kind) (by rw[r];rfl) (bcase_of (fun q=> ?_) fun q=> ?_)
 ·have q:c.kind<1:=of_decide_eq_true q
  have:=hK h1 O1
  unfold refu at this
  rw[if_pos (by omega)]at this
  exact this
 refine ldI_of (n:=c.kind) (by rw[r];rfl) (bcase_of (fun p=> ?_) fun p=> ?_)
 ·have p:(8:Int)<c.kind:=of_decide_eq_true p
  have:=hK h1 O1
  unfold refu at this
  rw[if_pos (by omega)]at this
  exact this
 have q: ¬c.kind<1:=of_decide_eq_false q
 have p: ¬(8:Int)<c.kind:=of_decide_eq_false p
 have S1:=S.only0 O1
 have I1:=I.only0 O1
 have fin:(wrK c.kind→isR c.dst)→ ∀(h2:Heap) (pp:Option Addr) (l cc:Nat),Only [] h1 h2→RowI h h2 pp l (rds c)→F77.wk6 ⟨e,0,none⟩ ⟨e,3+24*i,none⟩ ⟨h.size,0,none⟩ pp l cc (Nat.cast l:Int) 0 h2 K:=by
  intro hw h2 pp l cc O2 R
  unfold F77.wk6
  have I2:=I1.only0 O2
  have S2:=S1.only0 O2
  have A2:=A1.only O2 (by simp)
  have hK2:=hK h2 (O1.trans O2 (by simp))
  obtain⟨el,R⟩:=R
  have main: ∀(d k:Nat),d+k=l→(∀j x,j<k→(rds c)[j]? =some x→isR x∧(E.ses i).there x.toNat=true)→F77.wL6 (d+1) ⟨e,0,none⟩ ⟨e,3+24*i,none⟩ ⟨h.size,0,none⟩ pp l cc (Nat.cast l:Int) (Nat.cast k:Int) h2 K:=by
   intro d
   induction d with
   |zero=>
    intro k hk hb
    rw[F77.sL6]
    rw[decide_eq_false (by omega),bcase_false]
    refine ref11 I2 S2 hm A2 ?_
    have ok:rdsOk (E.ses i) c:=fun x hx=>by
     obtain⟨j,hj⟩:=List.getElem?_of_mem hx
     exact hb j x (by have:=(List.getElem?_eq_some_iff.1 hj).1;omega) hj
    unfold refu at hK2
    rw[if_neg (by omega),if_neg (fun w=>w.2 (hw w.1)),if_neg (fun w=>w ok)]at hK2
    exact hK2
   |succ d ih=>
    intro k hk hb
    rw[F77.sL6]
    rw[decide_eq_true (by omega),bcase_true]
    have hlen:k<(rds c).length:=by omega
    obtain⟨x,hx⟩: ∃x,(rds c)[k]? =some x:=⟨_,List.getElem?_eq_getElem hlen⟩
    rcases R with R|⟨b,Lc,ep,gb,Ab,g⟩
    ·rw[R]at hlen;simp at hlen
    rw[ep]
    refine⟨by omega,by omega,ldI_of (n:=x) (by simp only[add_mk];rw[At.rd Ab,show 0+Int.toNat (Nat.cast k:Int)*1=k by simp];exact g k x hx) ?_⟩
    refine is82 (ldB_of rfl ?_)
    have bad: ¬(isR x∧(E.ses i).there x.toNat=true)→K (.int .i64 221) h2:=fun w=>by
     have nok: ¬rdsOk (E.ses i) c:=fun ok=>w (ok x (List.mem_of_getElem? hx))
     unfold refu at hK2
     rw[if_neg (by omega),if_neg (fun w=>w.2 (hw w.1)),if_pos nok]at hK2
     exact hK2
    by_cases hr:isR x
    ·rw[decide_eq_true hr,Bool.not_true,bcase_false]
     refine⟨hr.1,hr.2,ldB_of (by simp only[add_mk];exact I2.thr hi (r:=x.toNat) (by unfold isR at hr;omega) (by omega)) ?_⟩
     refine bcase_of (fun w=>bad fun v=>by rw[v.2]at w;cases w) fun w=> ?_
     rw[show IntKind.wrap .i64 ((Nat.cast k:Int)+1)=((k+1:Nat):Int) by rw[wrap_i64 (by omega) (by have:=rds_len c;omega)];omega]
     rw[←ep]
     refine ih (k+1) (by omega) fun j y hj hy=> ?_
     by_cases ej:j=k
     ·subst ej
      rw[hx]at hy
      injection hy with hy
      subst hy
      exact⟨hr,by simpa using w⟩
     ·exact hb j y (by omega) hy
    ·rw[decide_eq_false hr,Bool.not_false,bcase_true]
     exact bad fun w=>hr w.1
  exact⟨_,main l 0 (by omega) fun j x hj=>by omega⟩
 refine ldI_of (n:=c.kind) (by rw[r];rfl) (ldI_of (n:=c.op) (by rw[r];rfl) (ldI_of (n:=c.dst) (by rw[r];rfl) (ldI_of (n:=c.a) (by rw[r];rfl) (ldI_of (n:=c.b) (by rw[r];rfl) (ldI_of (n:=c.c) (by rw[r];rfl) (ldI_of (n:=(c.mask:Int)) (by rw[r];rfl) ?_))))))
 refine writes120 fun h2 O2=>ldB_of rfl ?_
 have A2:=A1.only O2 (by simp)
 have r2: ∀k,rd h2 ⟨h.size,k,none⟩=([.int .i64 c.kind,.int .i64 c.op,.int .i64 c.dst,.int .i64 c.a,.int .i64 c.b,.int .i64 c.c,.int .u8 (c.mask:Int)]:List Value)[k]? :=fun k=>At.rd A2 k
 have rest:(wrK c.kind→isR c.dst)→ ∀hh,Only [] h1 hh→Cl 121 [calV c] hh (fun v26 h27=>ldS (some v26) (fun p28 l29 c30=>F77.wk6 ⟨e,0,none⟩ ⟨e,3+24*i,none⟩ ⟨h.size,0,none⟩ p28 l29 c30 (Nat.cast l29:Int) 0 h27 K)):=fun hw hh O=>
  reads121 fun h3 pp l cc O3 R=>⟨_,_,_,rfl,fin hw h3 pp l cc (O.trans O3 (by simp)) (by
   obtain⟨el,R⟩:=R
   refine⟨el,?_⟩
   rcases R with R|⟨b,Lc,ep,gb,Ab,g⟩
   ·exact .inl R
   ·exact .inr ⟨b,Lc,ep,by have:=O1.size;have:=O.size;omega,Ab,g⟩)⟩
 by_cases hwk:wrK c.kind
 ·rw[decide_eq_true hwk,bcase_true]
  refine ldI_of (n:=c.dst) (by rw[r2];rfl) (is82 (ldB_of rfl ?_))
  by_cases hd:isR c.dst
  ·rw[decide_eq_true hd,Bool.not_true,bcase_false]
   refine ldI_of (n:=c.kind) (by rw[r2];rfl) (ldI_of (n:=c.op) (by rw[r2];rfl) (ldI_of (n:=c.dst) (by rw[r2];rfl) (ldI_of (n:=c.a) (by rw[r2];rfl) (ldI_of (n:=c.b) (by rw[r2];rfl) (ldI_of (n:=c.c) (by rw[r2];rfl) (ldI_of (n:=(c.mask:Int)) (by rw[r2];rfl) ?_))))))
   exact rest (fun _=>hd) h2 O2
  ·rw[decide_eq_false hd,Bool.not_false,bcase_true]
   have:=hK h2 (O1.trans O2 (by simp))
   unfold refu at this
   rw[if_neg (by omega),if_pos ⟨hwk,hd⟩]at this
   exact this
 ·rw[decide_eq_false hwk,bcase_false]
  refine ldI_of (n:=c.kind) (by rw[r2];rfl) (ldI_of (n:=c.op) (by rw[r2];rfl) (ldI_of (n:=c.dst) (by rw[r2];rfl) (ldI_of (n:=c.a) (by rw[r2];rfl) (ldI_of (n:=c.b) (by rw[r2];rfl) (ldI_of (n:=c.c) (by rw[r2];rfl) (ldI_of (n:=(c.mask:Int)) (by rw[r2];rfl) ?_))))))
  exact rest (fun w=>absurd w hwk) h2 O2
def bgnS(x:Ses)(c:Cal):Ses:={x with cal:=c,pend:=true,job:=0}
theorem begin24{c:Cal}{i:Int}(I:EIs h e E)(S:Sto h E.s L X)(D:e∉L)(hm:c.mask<256)
  (hO:(i<0∨4≤i)→ ∀h',Only [] h h'→K (.int .i64 222) h')
  (hB: ∀k:Nat,k<4→i=(k:Int)→(E.ses k).pend=true→ ∀h',Only [] h h'→K (.int .i64 220) h')
  (hR: ∀k:Nat,k<4→i=(k:Int)→(E.ses k).pend=false→refu X.n (E.ses k) c≠0→ ∀h',Only [] h h'→K (.int .i64 (refu X.n (E.ses k) c)) h')
  (hK: ∀k:Nat,k<4→i=(k:Int)→(E.ses k).pend=false→refu X.n (E.ses k) c=0→ ∀h',EIs h' e (E.put k (bgnS (E.ses k) c))→Only [e] h h'→K (.int .i64 0) h'):
  Cl 24 [ptrV e,.int .i64 i,calV c] h K:=by
 refine F24.spec _ _ _ _ _ _ _ _ _ h K ?_
 have he:e<h.size:=At.lt I
 refine newK_at fun h1 A1 O1 z1=> ?_
 simp only[add_mk,Nat.zero_add]
 have S1:=S.only0 O1
 have I1:=I.only0 O1
 refine session76 (fun q=>ldP_of rfl (hO q h1 O1)) fun k hk ek=>ldP_of rfl ?_
 have hB:=hB k hk ek
 have hR:=hR k hk ek
 have hK:=hK k hk ek
 show bcase false _ _
 rw[bcase_false]
 have r: ∀j,rd h1 ⟨h.size,j,none⟩=([.int .i64 c.kind,.int .i64 c.op,.int .i64 c.dst,.int .i64 c.a,.int .i64 c.b,.int .i64 c.c,.int .u8 (c.mask:Int)]:List Value)[j]? :=fun j=>At.rd A1 j
 refine ldB_of (n:=(E.ses k).pend) (by simp only[add_mk];exact I1.pend hk rfl) (bcase_of (fun q=>hB q h1 O1) fun q=> ?_)
 refine ldI_of (n:=c.kind) (by rw[r];rfl) (ldI_of (n:=c.op) (by rw[r];rfl) (ldI_of (n:=c.dst) (by rw[r];rfl) (ldI_of (n:=c.a) (by rw[r];rfl) (ldI_of (n:=c.b) (by rw[r];rfl) (ldI_of (n:=c.c) (by rw[r];rfl) (ldI_of (n:=(c.mask:Int)) (by rw[r];rfl) ?_))))))
 refine refuses77 hk I1 S1 (by omega) hm fun h2 O2=>ldI_of rfl ?_
 have O12:=O1.trans O2 (by simp)
 refine bcase_of (fun w=>hR q (by simpa using w) h2 O12) fun w=> ?_
 have w:refu X.n (E.ses k) c=0:=by simpa using w
 have A2:=A1.only O2 (by simp)
 have I2:=I1.only0 O2
 have r2: ∀j,rd h2 ⟨h.size,j,none⟩=([.int .i64 c.kind,.int .i64 c.op,.int .i64 c.dst,.int .i64 c.a,.int .i64 c.b,.int .i64 c.c,.int .u8 (c.mask:Int)]:List Value)[j]? :=fun j=>At.rd A2 j
 refine ldI_of (n:=c.kind) (by rw[r2];rfl) (ldI_of (n:=c.op) (by rw[r2];rfl) (ldI_of (n:=c.dst) (by rw[r2];rfl) (ldI_of (n:=c.a) (by rw[r2];rfl) (ldI_of (n:=c.b) (by rw[r2];rfl) (ldI_of (n:=c.c) (by rw[r2];rfl) (ldI_of (n:=(c.mask:Int)) (by rw[r2];rfl) ?_))))))
 obtain⟨x,ex⟩: ∃x,x=E.ses k:=⟨_,rfl⟩
 rw[←ex]at hK w
 have p0:E=E.put k x:=by rw[ex,put_self]
 rw[p0]at I2
 have stp: ∀{hh:Heap} {y:Ses} {j:Nat} {v:Value} {c':Cal} {KK:Heap→Prop},EIs hh e (E.put k y)→j<7→v.oneCell'=true→(∀q,q<7→cC c' q=if q=j then v else cC y.cal q)→
   (∀h',EIs h' e (E.put k {y with cal:=c'})→Only [e] hh h'→KK h')→stK hh (Addr.add (Addr.add ⟨e,3+24*k,none⟩ 12) j) v KK:=fun {hh y j v c' KK} I hj hv hc g=>by
  rw[add_mk,add_mk]
  refine EIs.setS (x:={y with cal:=c'}) I hk (j:=12+j) (by omega) (by omega) hv (fun q hq=> ?_) fun h' I' O' _=> ?_
  ·rw[put_ses]
   exact sC_cal hj hc q hq
  ·rw[put_put]at I'
   exact g h' I' O'
 have T: ∀{a b:Heap},Only [e] h2 a→Only [e] a b→Only [e] h2 b:=fun p q=>p.trans q fun b hb _=>hb
 rw[pk_some]
 refine stp (j:=0) (c':=⟨c.kind,x.cal.op,x.cal.dst,x.cal.a,x.cal.b,x.cal.c,x.cal.mask⟩) I2 (by omega) rfl (fun q hq=>by rcases q with _|_|_|_|_|_|_|q<;>first|rfl|omega) fun h3 I3 O3=> ?_
 refine stp (j:=1) (c':=⟨c.kind,c.op,x.cal.dst,x.cal.a,x.cal.b,x.cal.c,x.cal.mask⟩) I3 (by omega) rfl (fun q hq=>by rcases q with _|_|_|_|_|_|_|q<;>first|rfl|omega) fun h4 I4 O4=> ?_
 refine stp (j:=2) (c':=⟨c.kind,c.op,c.dst,x.cal.a,x.cal.b,x.cal.c,x.cal.mask⟩) I4 (by omega) rfl (fun q hq=>by rcases q with _|_|_|_|_|_|_|q<;>first|rfl|omega) fun h5 I5 O5=> ?_
 refine stp (j:=3) (c':=⟨c.kind,c.op,c.dst,c.a,x.cal.b,x.cal.c,x.cal.mask⟩) I5 (by omega) rfl (fun q hq=>by rcases q with _|_|_|_|_|_|_|q<;>first|rfl|omega) fun h6 I6 O6=> ?_
 refine stp (j:=4) (c':=⟨c.kind,c.op,c.dst,c.a,c.b,x.cal.c,x.cal.mask⟩) I6 (by omega) rfl (fun q hq=>by rcases q with _|_|_|_|_|_|_|q<;>first|rfl|omega) fun h7 I7 O7=> ?_
 refine stp (j:=5) (c':=⟨c.kind,c.op,c.dst,c.a,c.b,c.c,x.cal.mask⟩) I7 (by omega) rfl (fun q hq=>by rcases q with _|_|_|_|_|_|_|q<;>first|rfl|omega) fun h8 I8 O8=> ?_
 refine stp (j:=6) (c':=c) I8 (by omega) rfl (fun q hq=>by rcases q with _|_|_|_|_|_|_|q<;>first|rfl|omega) fun h9 I9 O9=> ?_
 have O29:=T (T (T (T (T (T O3 O4) O5) O6) O7) O8) O9
 rw[pk_some,add_mk,add_mk]
 refine EIs.setS (x:={x with cal:=c,pend:=true}) I9 hk (j:=19) (by omega) (by omega) rfl (fun q hq=>by rw[put_ses];exact sC_pend (x:={x with cal:=c}) q hq) fun h10 I10 O10 _=> ?_
 rw[put_put]at I10
 rw[pk_some,add_mk,add_mk]
 refine EIs.setS (x:={x with cal:=c,pend:=true,job:=0}) I10 hk (j:=20) (by omega) (by omega) rfl (fun q hq=>by rw[put_ses];exact sC_job (x:={x with cal:=c,pend:=true}) (n:=0) q hq) fun h11 I11 O11 _=> ?_
 rw[put_put]at I11
 exact hK (by rw[ex];exact q) w h11 I11 ((O12.mono (by simp)).trans (T (T O29 O10) O11) fun b hb _=>hb)
end
end
section
theorem F67.spec(a:Int)(h:Heap)(K:KK)(H:newK h (.map #[] 0) fun b1 h2=>0≤(if(4:Int)<(if(1:Int)>a then(1:Int)else a)then(4:Int)else(if(1:Int)>a then(1:Int)else a))∧(if(4:Int)<(if(1:Int)>a then(1:Int)else a)then(4:Int)else(if(1:Int)>a then(1:Int)else a))≤(if(4:Int)<(if(1:Int)>a then(1:Int)else a)then(4:Int)else(if(1:Int)>a then(1:Int)else a))∧((Nat.cast 24:Int)*(if(4:Int)<(if(1:Int)>a then(1:Int)else a)then(4:Int)else(if(1:Int)>a then(1:Int)else a))≤281474976710656)∧(if(4:Int)<(if(1:Int)>a then(1:Int)else a)then(4:Int)else(if(1:Int)>a then(1:Int)else a))≤9223372036854775807∧newK h2 (.cells (madeCells #[.slice none 0 0] (Int.toNat (if(4:Int)<(if(1:Int)>a then(1:Int)else a)then(4:Int)else(if(1:Int)>a then(1:Int)else a))*1)) 56) fun b3 h4=>newK h4 (.cells #[.map (some b1),.slice (some (Addr.mk b3 0 none)) (Int.toNat (if(4:Int)<(if(1:Int)>a then(1:Int)else a)then(4:Int)else(if(1:Int)>a then(1:Int)else a))) (Int.toNat (if(4:Int)<(if(1:Int)>a then(1:Int)else a)then(4:Int)else(if(1:Int)>a then(1:Int)else a)))] 207) fun b5 h6=>K (.pointer (some (Addr.mk b5 0 none))) h6):Cl 67 [.int .i64 a] h K:=cN Tryz.func67 H
theorem F209.spec(b:Addr)(a:Int)(h:Heap)(K:KK)(H:ldM (rd h (b.add 0)) fun r1=>lookK h r1 .u32 .u32 a fun o2=>ldI .i64 (some (lkV (.int .i64 0) o2)) fun n3=>bcase (n3==(0:Int)) (K (.int .i64 61) h) (ldM (rd h (b.add 0)) fun r4=>lookK h r4 .u32 .u32 a fun o5=>ldI .i64 (some (lkV (.int .i64 0) o5)) fun n6=>updK h r4 .u32 .u32 a (.int .i64 (IntKind.wrap .i64 (n6-(1:Int)))) fun h7=>ldM (rd h7 (b.add 0)) fun r8=>lookK h7 r8 .u32 .u32 a fun o9=>ldI .i64 (some (lkV (.int .i64 0) o9)) fun n10=>bcase (n10==(0:Int)) (ldM (rd h7 (b.add 0)) fun r11=>delK h7 r11 .u32 .u32 a fun h12=>K (.int .i64 0) h12) (K (.int .i64 0) h7))):Cl 209 [.pointer (some b),.int .u32 a] h K:=cN Tryz.func209 H
theorem F210.spec(b:Addr)(a:Int)(h:Heap)(K:KK)(H:ldM (rd h (b.add 0)) fun r1=>lookK h r1 .u32 .u32 a fun o2=>ldI .i64 (some (lkV (.int .i64 0) o2)) fun n3=>updK h r1 .u32 .u32 a (.int .i64 (IntKind.wrap .i64 (n3+(1:Int)))) fun h4=>K (.tuple #[]) h4):Cl 210 [.pointer (some b),.int .u32 a] h K:=cN Tryz.func210 H
end
section
theorem Own.onlyC{h h':Heap}{lo N:Nat}{p:Option Addr}{l c:Nat}{cs:List Value}{S:List Nat}(H:Own h lo N p l c cs)(O:Only S h h')(hS: ∀b∈OwnB p,(∃c,At h b c)→b∉S):Own h' lo N p l c cs:=by
 obtain⟨e,H⟩:=H
 rcases H with H|⟨b,sp,h1,h2,h3,h4,h5⟩
 ·exact⟨e,Or.inl H⟩
 ·exact⟨e,Or.inr ⟨b,sp,h1,h2,h3,h4,h5.only O (hS b (by subst h1;simp[OwnB]) ⟨_,h5⟩)⟩⟩
theorem Own.cells{h:Heap}{lo N:Nat}{p:Option Addr}{l c:Nat}{cs:List Value}(H:Own h lo N p l c cs): ∀b∈OwnB p,∃c,At h b c:=by
 obtain⟨e,H⟩:=H
 rcases H with⟨rfl,_⟩|⟨b,sp,rfl,h2,h3,h4,h5⟩
 ·intro b hb;simp[OwnB]at hb
 ·intro b' hb
  simp[OwnB]at hb
  subst hb
  exact⟨_,h5⟩
def LB:Nat:=140737488355328
end
section
structure Rf(lo:Nat)(h:Heap)(r M S W N:Nat)(f:Int→Int)(p:Nat→Option Addr)(c:Nat→Nat)(L:Nat→List Int):Prop where
 R:At h r [.map (some M),.slice (some ⟨S,0,none⟩) W W]
 T:At h S (rowV W fun k=> .slice (p k) (L k).length (c k))
 Mm: ∃m,MapM h M .u32 m∧(∀x,m.lookup x=if f x=0 then none else some (.int .i64 (f x)))∧m.length≤N
 fr: ∀x,0≤f x∧f x≤N
 fx: ∀x,f x≠0→0≤x∧x≤4294967295
 own: ∀k,k<W→Own h lo 1 (p k) (L k).length (c k) ((L k).map (Value.int .u32))
 len: ∀k,k<W→(L k).length≤N
 ge:lo≤r∧lo≤S∧lo≤M
 rS:r≠S
 sep: ∀k,k<W→ ∀b∈OwnB (p k),b≠r∧b≠S∧ ∀k',k'<W→k'≠k→b∉OwnB (p k')
theorem At.ne_map{h:Heap}{b M:Nat}{c:List Value}{k:IntKind}{m:List (Int×Value)}(A:At h b c)(H:MapM h M k m):b≠M:=by
 obtain⟨es,cl,h1,-⟩:=H
 obtain⟨e,A⟩:=A
 intro e'
 subst e'
 rw[mp_obj h1]at A
 cases A
section
variable {lo:Nat}{h h':Heap}{r M S W N:Nat}{f:Int→Int}{p:Nat→Option Addr}{c:Nat→Nat}{L:Nat→List Int}{K:Value→Heap→Prop}
theorem Rf.rM(H:Rf lo h r M S W N f p c L):r≠M:=by obtain⟨m,a,-⟩:=H.Mm;exact H.R.ne_map a
theorem Rf.SM(H:Rf lo h r M S W N f p c L):S≠M:=by obtain⟨m,a,-⟩:=H.Mm;exact H.T.ne_map a
theorem Rf.pM(H:Rf lo h r M S W N f p c L){k:Nat}(hk:k<W){b:Nat}(hb:b∈OwnB (p k)):b≠M:=by
 obtain⟨m,a,-⟩:=H.Mm
 obtain⟨c,A⟩:=(H.own k hk).cells b hb
 exact A.ne_map a
theorem Rf.only(H:Rf lo h r M S W N f p c L){X:List Nat}(O:Only X h h')(hr:r∉X)(hS:S∉X)(hM:M∉X)(hp: ∀k,k<W→ ∀b∈OwnB (p k),b∉X):Rf lo h' r M S W N f p c L where
 R:=H.R.only O hr
 T:=H.T.only O hS
 Mm:=by obtain⟨m,a,b,d⟩:=H.Mm;exact⟨m,a.only O hM,b,d⟩
 fr:=H.fr
 fx:=H.fx
 own:=fun k hk=>(H.own k hk).onlyC O fun b hb _=>hp k hk b hb
 len:=H.len
 ge:=H.ge
 rS:=H.rS
 sep:=H.sep
theorem Rf.lt(H:Rf lo h r M S W N f p c L):r<h.size∧S<h.size∧M<h.size∧ ∀k,k<W→ ∀b∈OwnB (p k),lo≤b∧b<h.size:=by
 obtain⟨m,a,-⟩:=H.Mm
 exact⟨H.R.lt,H.T.lt,a.lt,fun k hk=>(H.own k hk).lt⟩
theorem Rf.grow(H:Rf lo h r M S W N f p c L){N':Nat}(hN:N≤N'):Rf lo h r M S W N' f p c L:=
 {H with
  Mm:=by obtain⟨m,a,b,d⟩:=H.Mm;exact⟨m,a,b,Nat.le_trans d hN⟩
  fr:=fun x=>⟨(H.fr x).1,by have:=(H.fr x).2;omega⟩
  len:=fun k hk=>Nat.le_trans (H.len k hk) hN}
theorem Rf.rd0(H:Rf lo h r M S W N f p c L):rd h ⟨r,0,none⟩=some (.map (some M)):=H.R.rd 0
theorem look_rf(H:Rf lo h r M S W N f p c L){x:Int}{K:Int→Prop}(hK:K (f x)):lookK h (some M) .u32 .u32 x fun o=>ldI .i64 (some (lkV (.int .i64 (0:Int)) o)) K:=by
 obtain⟨m,a,b,-⟩:=H.Mm
 refine look_map a (fun e=> ?_) fun i v e=> ?_
 ·rw[b x]at e
  have:f x=0:=by
   by_cases h0:f x=0
   ·exact h0
   ·rw[if_neg h0]at e;cases e
  rw[this]at hK
  show ldI .i64 (some (.int .i64 0)) K
  rw[ldI_some]
  exact hK
 ·rw[b x]at e
  by_cases h0:f x=0
  ·rw[if_pos h0]at e;cases e
  ·rw[if_neg h0]at e
   injection e with e
   subst e
   show ldI .i64 (some (.int .i64 (f x))) K
   rw[ldI_some]
   exact hK
def fup(f:Int→Int)(x v:Int):Int→Int:=fun y=>if y=x then v else f y
theorem mset_len{m:List (Int×Value)}{x:Int}{v:Value}:(mset m x v).length≤m.length+1:=by
 unfold mset
 split<;>simp
theorem mdel_len{m:List (Int×Value)}{x:Int}:(mdel m x).length≤m.length:=by
 unfold mdel
 exact List.length_filter_le _ _
theorem map_only(H:Rf lo h r M S W N f p c L)(O:Only [M] h h'){N':Nat}{f':Int→Int}(hN:N≤N')(hm: ∃m,MapM h' M .u32 m∧(∀x,m.lookup x=if f' x=0 then none else some (.int .i64 (f' x)))∧m.length≤N')
  (hfr: ∀x,0≤f' x∧f' x≤N') (hfx: ∀x,f' x≠0→0≤x∧x≤4294967295):Rf lo h' r M S W N' f' p c L where
 R:=H.R.only O (by simpa using H.rM)
 T:=H.T.only O (by simpa using H.SM)
 Mm:=hm
 fr:=hfr
 fx:=hfx
 own:=fun k hk=>(H.own k hk).onlyC O fun b hb _=>by simpa using H.pM hk hb
 len:=fun k hk=>Nat.le_trans (H.len k hk) hN
 ge:=H.ge
 rS:=H.rS
 sep:=H.sep
theorem prot33(H:Rf lo h r M S W N f p c L){x:Int}(hx:0≤x∧x≤4294967295)(hN:N≤LB)(hK: ∀h',Rf lo h' r M S W (N+1) (fup f x (f x+1)) p c L→Only [M] h h'→K (.tuple #[]) h'):
  Cl 210 [.pointer (some ⟨r,0,none⟩),.int .u32 x] h K:=by
 refine F210.spec _ _ h K ?_
 have hLB:LB=140737488355328:=rfl
 rw[add_mk,H.rd0,ldM_some]
 have b:=H.fr x
 refine look_rf H ?_
 obtain⟨m,a,b',d⟩:=H.Mm
 refine upd_map a fun h1 M1 O1 z1=> ?_
 rw[wrap_i64 (by omega) (by omega)]at M1
 refine hK h1 (map_only H O1 (by omega) ⟨_,M1,fun y=> ?_,Nat.le_trans mset_len (by omega)⟩ (fun y=> ?_) fun y=> ?_) O1
 ·rw[lookup_mset]
  unfold fup
  by_cases hy:y=x
  ·rw[if_pos hy,if_pos hy,if_neg (by omega)]
  ·rw[if_neg hy,if_neg hy]
   exact b' y
 ·unfold fup
  have:=H.fr y
  split<;>omega
 ·unfold fup
  by_cases hy:y=x
  ·subst hy;intro _;exact hx
  ·rw[if_neg hy];exact H.fx y
theorem unp36(H:Rf lo h r M S W N f p c L){x:Int}(hN:N≤LB)(h0:f x=0→K (.int .i64 61) h)(hK:f x≠0→ ∀h',Rf lo h' r M S W (N+1) (fup f x (f x-1)) p c L→Only [M] h h'→K (.int .i64 0) h'):
  Cl 209 [.pointer (some ⟨r,0,none⟩),.int .u32 x] h K:=by
 refine F209.spec _ _ h K ?_
 have hLB:LB=140737488355328:=rfl
 rw[add_mk,H.rd0,ldM_some]
 have b:=H.fr x
 refine look_rf H ?_
 refine bcase_of (fun e=>h0 (by simpa using e)) fun e=> ?_
 have e':f x≠0:=by simpa using e
 have hx:=H.fx x e'
 rw[ldM_some]
 refine look_rf H ?_
 obtain⟨m,a,b',d⟩:=H.Mm
 refine upd_map a fun h1 M1 O1 z1=> ?_
 rw[wrap_i64 (by omega) (by omega)]at M1
 have R1:=H.R.only O1 (by simpa using H.rM)
 rw[show rd h1 ⟨r,0+0,none⟩=some (.map (some M))from R1.rd 0,ldM_some]
 refine look_map M1 (fun e=> ?_) fun i v e=> ?_
 ·rw[lookup_mset,if_pos rfl]at e;cases e
 ·rw[lookup_mset,if_pos rfl]at e
  injection e with e
  subst e
  show ldI .i64 (some (.int .i64 (f x-1))) _
  rw[ldI_some]
  have fin: ∀(h2:Heap) (m2:List (Int×Value)),MapM h2 M .u32 m2→(∀y,m2.lookup y=if fup f x (f x-1) y=0 then none else some (.int .i64 (fup f x (f x-1) y)))→m2.length≤m.length+1→Only [M] h h2→K (.int .i64 0) h2:=by
   intro h2 m2 M2 l2 n2 O2
   refine hK e' h2 (map_only H O2 (by omega) ⟨_,M2,l2,by omega⟩ (fun y=> ?_) fun y=> ?_) O2
   ·unfold fup
    have:=H.fr y
    split<;>omega
   ·unfold fup
    by_cases hy:y=x
    ·subst hy;intro _;exact hx
    ·rw[if_neg hy];exact H.fx y
  refine bcase_of (fun e0=> ?_) fun e0=> ?_
  ·have e0':f x-1=0:=by simpa using e0
   rw[ldM_some]
   refine del_map M1 fun h2 M2 O2 z2=> ?_
   refine fin h2 _ M2 (fun y=> ?_) (Nat.le_trans mdel_len mset_len) (O1.trans O2 (by simp))
   rw[lookup_mdel,lookup_mset]
   unfold fup
   by_cases hy:y=x
   ·rw[if_pos hy,if_pos hy,if_pos e0']
   ·rw[if_neg hy,if_neg hy,if_neg hy]
    exact b' y
  ·have e0':f x-1≠0:=by simpa using e0
   refine fin h1 _ M1 (fun y=> ?_) mset_len O1
   rw[lookup_mset]
   unfold fup
   by_cases hy:y=x
   ·rw[if_pos hy,if_pos hy,if_neg e0']
   ·rw[if_neg hy,if_neg hy]
    exact b' y
end
end
section
def wkI(x:Int):Int:=if(4:Int)<(if(1:Int)>x then(1:Int)else x)then(4:Int)else(if(1:Int)>x then(1:Int)else x)
theorem wkI_range(x:Int):1≤wkI x∧wkI x≤4:=by
 unfold wkI
 repeat' split
 all_goals omega
theorem rep_rowV(n:Nat)(v:Value):List.replicate n v=rowV n fun _=>v:=by
 unfold rowV
 rw[List.map_const']
 simp
theorem newK_map{h:Heap}{k:IntKind}{K:Nat→Heap→Prop}(hK: ∀h',MapM h' h.size k []→Only [] h h'→h'.size=h.size+1→K h.size h'):newK h (.map #[] 0) K:=
 hK _ (MapM.empty (by unfold mp;simp)) (Only.push_map h _ _) (by simp)
theorem new28{h:Heap}{x:Int}{K:Value→Heap→Prop}(hK: ∀h' r M S,Rf h.size h' r M S (wkI x).toNat 0 (fun _=>0) (fun _=>none) (fun _=>0) (fun _=> [])→Only [] h h'→K (.pointer (some ⟨r,0,none⟩)) h'):
  Cl 67 [.int .i64 x] h K:=by
 refine F67.spec _ h K ?_
 change newK h (.map #[] 0) fun b1 h2=>(0≤wkI x∧wkI x≤wkI x∧((Nat.cast 24:Int)*wkI x≤281474976710656)∧wkI x≤9223372036854775807∧newK h2 (.cells (madeCells #[(.slice none 0 0)] (Int.toNat (wkI x)*1)) 56) (fun b3 h4=>newK h4 (.cells #[(.map (some b1)),(.slice (some (Addr.mk b3 0 none)) (Int.toNat (wkI x)) (Int.toNat (wkI x)))] 207) (fun b5 h6=>K (.pointer (some (Addr.mk b5 0 none))) h6)))
 have hw:=wkI_range x
 generalize wkI x=y at hw hK ⊢
 refine newK_map (k:= .u32) fun h1 M1 O1 z1=>⟨by omega,by omega,by omega,by omega,?_⟩
 refine newK_at fun h2 A2 O2 z2=> ?_
 refine newK_at fun h3 A3 O3 z3=> ?_
 rw[toList_madeCells_one,rep_rowV,Nat.mul_one]at A2
 refine hK h3 _ h.size _ ⟨A3,A2.only O3 (by simp),⟨[],(M1.only O2 (by simp)).only O3 (by simp),fun x=>by simp[List.lookup],Nat.le_refl _⟩,fun x=>by omega,fun x h=>absurd rfl h,fun k hk=>Own.nil _ _ _,fun k hk=>Nat.le_refl _,⟨by omega,by omega,Nat.le_refl _⟩,by omega,fun k hk b hb=>by simp[OwnB]at hb⟩ ((O1.trans O2 (by simp)).trans O3 (by simp))
section
variable {lo:Nat}{h h':Heap}{r M S W N:Nat}{f:Int→Int}{p:Nat→Option Addr}{c:Nat→Nat}{L:Nat→List Int}{K:Value→Heap→Prop}
end
end
section
def RfB(h:Heap)(r N:Nat)(f:Int→Int)(B:List Nat):Prop:=
 ∃lo M S W p c,Rf lo h r M S W N f p c (fun _=> [])∧1≤W∧W≤4∧lo≤h.size∧B=r::M::S::(List.range W).flatMap fun k=>OwnB (p k)
section
variable {h h':Heap}{r N:Nat}{f:Int→Int}{B S:List Nat}{K:Value→Heap→Prop}
theorem RfB.only(H:RfB h r N f B)(O:Only S h h')(hS: ∀b∈S,b∉B):RfB h' r N f B:=by
 obtain⟨lo,M,T,W,p,c,H,w1,w4,hl,e⟩:=H
 subst e
 refine⟨lo,M,T,W,p,c,H.only O (fun hm=>hS _ hm (by simp)) (fun hm=>hS _ hm (by simp)) (fun hm=>hS _ hm (by simp)) (fun k hk b hb hm=>hS _ hm ?_),w1,w4,Nat.le_trans hl O.size,rfl⟩
 simp only[List.mem_cons,List.mem_flatMap,List.mem_range]
 exact .inr (.inr (.inr ⟨k,hk,hb⟩))
theorem RfB.only0(H:RfB h r N f B)(O:Only [] h h'):RfB h' r N f B:=H.only O (by simp)
theorem RfB.lt(H:RfB h r N f B): ∀b∈B,b<h.size:=fun b hb=>by
 obtain⟨lo,M,T,W,p,c,H,w1,w4,hl,e⟩:=H
 subst e
 obtain⟨h1,h2,h3,h4⟩:=H.lt
 simp only[List.mem_cons,List.mem_flatMap,List.mem_range]at hb
 rcases hb with e|e|e|⟨k,hk,hb⟩
 ·omega
 ·omega
 ·omega
 ·exact(h4 k hk b hb).2
theorem rf_new{x:Int}(hK: ∀h' r B,RfB h' r 0 (fun _=>0) B→(∀b∈B,h.size≤b)→Only [] h h'→K (ptrV r) h'):Cl 67 [.int .i64 x] h K:=by
 refine new28 fun h' r M T H O=> ?_
 have hw:=wkI_range x
 refine hK h' r _ ⟨h.size,M,T,(wkI x).toNat,_,_,H,by omega,by omega,O.size,rfl⟩ (fun b hb=> ?_) O
 have g:=H.ge
 simp[OwnB]at hb
 omega
theorem rf_prot(H:RfB h r N f B){x:Nat}(hx:x<4294967296)(hN:N≤LB)(hK: ∀h',RfB h' r (N+1) (fup f x (f x+1)) B→Only B h h'→K (.tuple #[]) h'):Cl 210 [ptrV r,.int .u32 (x:Int)] h K:=by
 obtain⟨lo,M,T,W,p,c,H,w1,w4,hl,e⟩:=H
 refine prot33 H (by omega) hN fun h' H' O=>hK h' ⟨lo,M,T,W,p,c,H',w1,w4,Nat.le_trans hl O.size,e⟩ (O.mono fun b hb _=> ?_)
 subst e
 simp at hb
 simp[hb]
def unpF(f:Int→Int)(x:Int):Int→Int:=if f x=0 then f else fup f x (f x-1)
theorem rf_unp(H:RfB h r N f B){x:Int}(hN:N≤LB)(hK: ∀h' n,RfB h' r (N+1) (unpF f x) B→Only B h h'→K (.int .i64 n) h'):Cl 209 [ptrV r,.int .u32 x] h K:=by
 obtain⟨lo,M,T,W,p,c,H,w1,w4,hl,e⟩:=H
 unfold unpF at hK
 refine unp36 H hN (fun e0=> ?_) fun e0 h' H' O=> ?_
 ·rw[if_pos e0]at hK
  exact hK h _ ⟨lo,M,T,W,p,c,H.grow (by omega),w1,w4,hl,e⟩ (Only.refl _ _)
 ·rw[if_neg e0]at hK
  refine hK h' _ ⟨lo,M,T,W,p,c,H',w1,w4,Nat.le_trans hl O.size,e⟩ (O.mono fun b hb _=> ?_)
  subst e
  simp at hb
  simp[hb]
end
def indR(E:Eng)(x k:Nat):Nat:=if(E.ses (k/6)).there (k%6)=true∧(E.ses (k/6)).hnd (k%6)=x then 1 else 0
def sumN(g:Nat→Nat):Nat→Nat
 |0=>0
 |n+1=>sumN g n+g n
theorem sumN_up{g g':Nat→Nat}{k:Nat}(h: ∀j,j≠k→g' j=g j): ∀n,k<n→sumN g' n+g k=sumN g n+g' k:=by
 have low: ∀n,n≤k→sumN g' n=sumN g n:=by
  intro n
  induction n with
  |zero=>intro _;rfl
  |succ n ih=>intro hn;unfold sumN;rw[ih (by omega),h n (by omega)]
 intro n
 induction n with
 |zero=>intro hk;omega
 |succ n ih=>
  intro hk
  unfold sumN
  by_cases e:n=k
  ·subst e;rw[low n (Nat.le_refl _)];omega
  ·have:=ih (by omega)
   rw[h n e]
   omega
theorem sumN_pos{g:Nat→Nat}{k:Nat}: ∀n,k<n→1≤g k→1≤sumN g n:=by
 intro n
 induction n with
 |zero=>intro hk;omega
 |succ n ih=>
  intro hk h1
  unfold sumN
  by_cases e:n=k
  ·subst e;omega
  ·have:=ih (by omega) h1;omega
def cntR(E:Eng)(x:Nat):Nat:=sumN (indR E x) 24
def CntOk(f:Int→Int)(E:Eng):Prop:= ∀x:Nat,f (x:Int)=(cntR E x:Int)
def clrS(x:Ses)(d:Nat):Ses:={x with there:=upN x.there d false,hnd:=upN x.hnd d 0}
def setS(x:Ses)(d v:Nat):Ses:={x with there:=upN x.there d true,hnd:=upN x.hnd d v}
theorem ind_put{E:Eng}{i d:Nat}{x:Ses}(hd:d<6)(hx: ∀q,q≠d→x.there q=(E.ses i).there q∧x.hnd q=(E.ses i).hnd q)(v:Nat): ∀j,j≠6*i+d→indR (E.put i x) v j=indR E v j:=fun j hj=>by
 unfold indR
 by_cases e:j/6=i
 ·have:=hx (j%6) (by omega)
  rw[e,put_ses,this.1,this.2]
 ·rw[show(E.put i x).ses (j/6)=E.ses (j/6)from upN_ne e]
theorem cnr_clr{f:Int→Int}{E:Eng}{i d:Nat}(C:CntOk f E)(hi:i<4)(hd:d<6):
  CntOk (if(E.ses i).there d=true then unpF f ((E.ses i).hnd d:Nat)else f) (E.put i (clrS (E.ses i) d)):=fun v=>by
 have up:=sumN_up (g:=indR E v) (g':=indR (E.put i (clrS (E.ses i) d)) v) (k:=6*i+d) (ind_put hd (fun q hq=>⟨upN_ne hq,upN_ne hq⟩) v) 24 (by omega)
 have e0:indR (E.put i (clrS (E.ses i) d)) v (6*i+d)=0:=by
  unfold indR
  rw[show(6*i+d)/6=i by omega,show(6*i+d)%6=d by omega,put_ses,if_neg]
  intro c
  rw[show(clrS (E.ses i) d).there d=false from upN_eq]at c
  cases c.1
 have e1:indR E v (6*i+d)=if(E.ses i).there d=true∧(E.ses i).hnd d=v then 1 else 0:=by
  unfold indR
  rw[show(6*i+d)/6=i by omega,show(6*i+d)%6=d by omega]
 rw[e0,e1]at up
 have Cv:=C v
 unfold cntR at Cv ⊢
 by_cases t:(E.ses i).there d=true
 ·rw[if_pos t]
  have Ch:=C ((E.ses i).hnd d)
  have pos:1≤cntR E ((E.ses i).hnd d):=by
   refine sumN_pos (k:=6*i+d) 24 (by omega) ?_
   unfold indR
   rw[show(6*i+d)/6=i by omega,show(6*i+d)%6=d by omega,if_pos ⟨t,rfl⟩]
   exact Nat.le_refl _
  unfold unpF
  rw[if_neg (by omega)]
  unfold fup
  by_cases q:(E.ses i).hnd d=v
  ·rw[if_pos (by omega),Ch,q]
   rw[if_pos ⟨t,q⟩]at up
   unfold cntR
   omega
  ·rw[if_neg (by omega),Cv]
   rw[if_neg (fun w=>q w.2)]at up
   omega
 ·rw[if_neg t,Cv]
  rw[if_neg (fun w=>t w.1)]at up
  omega
theorem cnr_set{f:Int→Int}{E:Eng}{i d v0:Nat}(C:CntOk f E)(hi:i<4)(hd:d<6)(ht:(E.ses i).there d=false):
  CntOk (fup f (v0:Int) (f (v0:Int)+1)) (E.put i (setS (E.ses i) d v0)):=fun v=>by
 have up:=sumN_up (g:=indR E v) (g':=indR (E.put i (setS (E.ses i) d v0)) v) (k:=6*i+d) (ind_put hd (fun q hq=>⟨upN_ne hq,upN_ne hq⟩) v) 24 (by omega)
 have e0:indR (E.put i (setS (E.ses i) d v0)) v (6*i+d)=if v0=v then 1 else 0:=by
  unfold indR
  rw[show(6*i+d)/6=i by omega,show(6*i+d)%6=d by omega,put_ses,show(setS (E.ses i) d v0).there d=true from upN_eq,show(setS (E.ses i) d v0).hnd d=v0 from upN_eq]
  simp
 have e1:indR E v (6*i+d)=0:=by
  unfold indR
  rw[show(6*i+d)/6=i by omega,show(6*i+d)%6=d by omega,ht]
  simp
 rw[e0,e1]at up
 have Cv:=C v
 have C0:=C v0
 unfold cntR at Cv ⊢
 unfold fup
 by_cases q:v0=v
 ·subst q
  rw[if_pos rfl,C0]
  rw[if_pos rfl]at up
  unfold cntR
  omega
 ·rw[if_neg (by omega),Cv]
  rw[if_neg q]at up
  omega
section
variable {h:Heap}{e N i:Nat}{E:Eng}{K:Value→Heap→Prop}{f:Int→Int}{B:List Nat}
def ansS(x:Ses)(er:Int)(n:Nat):Ses:={x with err:=er,num:=n,ansd:=true,pend:=false}
theorem answers168(I:EIs h e E)(hi:i<4){er:Int}{n:Nat}(ha:E.ans<1000000000)(hK: ∀h',EIs h' e {E.put i (ansS (E.ses i) er n)with ans:=E.ans+1}→Only [e] h h'→K (.tuple #[]) h'):
  Cl 168 [ptrV e,.pointer (some ⟨e,3+24*i,none⟩),.agg #[.int .i64 er,.int .u64 (n:Int)]] h K:=by
 refine F168.spec _ _ _ _ h K ?_
 refine newK_at fun h1 A1 O1 z1=> ?_
 simp only[add_mk,Nat.zero_add]
 have I1:=I.only0 O1
 refine ldI_of (n:=er) (by rw[At.rd A1];rfl) (ldI_of (n:=(n:Int)) (by rw[At.rd A1];rfl) ?_)
 obtain⟨x,ex⟩: ∃x,x=E.ses i:=⟨_,rfl⟩
 rw[←ex]at hK
 have p0:E=E.put i x:=by rw[ex,put_self]
 rw[p0]at I1
 have T: ∀{a b:Heap},Only [e] h1 a→Only [e] a b→Only [e] h1 b:=fun p q=>p.trans q fun b hb _=>hb
 refine EIs.setS (x:={x with err:=er}) I1 hi (j:=21) (by omega) (by omega) rfl (fun q hq=>by rw[put_ses];exact sC_err q hq) fun h2 I2 O2 _=> ?_
 rw[put_put]at I2
 refine EIs.setS (x:={x with err:=er,num:=n}) I2 hi (j:=22) (by omega) (by omega) rfl (fun q hq=>by rw[put_ses];exact sC_num (x:={x with err:=er}) q hq) fun h3 I3 O3 _=> ?_
 rw[put_put]at I3
 refine EIs.setS (x:={x with err:=er,num:=n,ansd:=true}) I3 hi (j:=23) (by omega) (by omega) rfl (fun q hq=>by rw[put_ses];exact sC_ansd (x:={x with err:=er,num:=n}) q hq) fun h4 I4 O4 _=> ?_
 rw[put_put]at I4
 refine EIs.setS (x:={x with err:=er,num:=n,ansd:=true,pend:=false}) I4 hi (j:=19) (by omega) (by omega) rfl (fun q hq=>by rw[put_ses];exact sC_pend (x:={x with err:=er,num:=n,ansd:=true}) q hq) fun h5 I5 O5 _=> ?_
 rw[put_put]at I5
 refine ldI_of I5.ans ?_
 rw[show IntKind.wrap .i64 (((E.put i {x with err:=er,num:=n,ansd:=true,pend:=false}).ans:Int)+1)=((E.ans+1:Nat):Int) by
  rw[show(E.put i {x with err:=er,num:=n,ansd:=true,pend:=false}).ans=E.ans from rfl,wrap_i64 (by omega) (by omega)];omega]
 refine EIs.setA I5 fun h6 I6 O6 _=> ?_
 exact hK h6 I6 (((O1.mono (by simp)).trans (T (T (T O2 O3) O4) O5) fun b hb _=>hb).trans O6 fun b hb _=>hb)
theorem clears166(I:EIs h e E)(R:RfB h E.r N f B)(hD:e∉B)(hi:i<4){d:Nat}(hd:d<6)(ed:(E.ses i).cal.dst=(d:Int))(hN:N≤LB)
  (hK: ∀h',EIs h' e (E.put i (clrS (E.ses i) d))→RfB h' E.r (N+1) (if(E.ses i).there d=true then unpF f ((E.ses i).hnd d:Nat)else f) B→Only (e::B) h h'→K (.tuple #[]) h'):
  Cl 166 [ptrV e,.pointer (some ⟨e,3+24*i,none⟩)] h K:=by
 refine F166.spec _ _ h K ?_
 simp only[add_mk,Nat.zero_add]
 have dd:Int.toNat (d:Int)=d:=Int.toNat_natCast d
 have rd0: ∀{hh:Heap} {E':Eng},EIs hh e E'→(E'.ses i).cal.dst=(d:Int)→rd hh ⟨e,3+24*i+12+2,none⟩=some (.int .i64 (d:Int)):=fun {hh E'} II e'=>by rw[II.dst hi (by omega),e']
 refine ldI_of (rd0 I ed) ⟨by omega,by omega,?_⟩
 rw[dd]
 refine ldB_of (I.thr hi hd (by omega)) (ldI_of (I.hnd hi hd (by omega)) (newK_at fun h1 A1 O1 z1=> ?_))
 have I1:=I.only0 O1
 refine⟨trivial,trivial,trivial,trivial,trivial,ldI_of (rd0 I1 ed) ⟨rfl,trivial,trivial,by omega,by omega,trivial,?_⟩⟩
 refine ldB_of (I1.thr hi hd (by omega)) (ldI_of (I1.hnd hi hd (by omega)) ⟨rfl,?_⟩)
 refine stK_at A1 (by simp) rfl fun h2 A2 O2 z2=>stK_at A2 (by simp) rfl fun h3 A3 O3 z3=> ?_
 have he:=At.lt I
 have O03:Only [] h h3:=(O1.trans O2 (by intro x hx hl;simp at hx;omega)).trans O3 (by intro x hx hl;simp at hx;omega)
 have I3:=I.only0 O03
 have R3:=R.only0 O03
 have fin: ∀{hh:Heap} {f':Int→Int},EIs hh e E→RfB hh E.r (N+1) f' B→f'=(if(E.ses i).there d=true then unpF f ((E.ses i).hnd d:Nat)else f)→Only (e::B) h hh→F166.wk3 ⟨e,3+24*i,none⟩ hh K:=fun {hh f'} II RR ef OO=>by
  unfold F166.wk3
  simp only[add_mk,Nat.zero_add]
  refine ldI_of (rd0 II ed) ⟨by omega,by omega,?_⟩
  rw[dd]
  obtain⟨x,ex⟩: ∃x,x=E.ses i:=⟨_,rfl⟩
  rw[←ex]at hK ef
  have p0:E=E.put i x:=by rw[ex,put_self]
  rw[p0]at II
  refine EIs.setS (x:={x with there:=upN x.there d false}) II hi (j:=2*d) (by omega) (by omega) rfl (fun q hq=>by rw[put_ses];exact sC_sett hd q hq) fun h4 I4 O4 _=> ?_
  rw[put_put]at I4
  refine EIs.setS (x:=clrS x d) I4 hi (j:=2*d+1) (by omega) (by omega) rfl (fun q hq=>by rw[put_ses];exact sC_seth (x:={x with there:=upN x.there d false}) (n:=0) hd q hq) fun h5 I5 O5 _=> ?_
  rw[put_put]at I5
  have O45:Only [e] hh h5:=O4.trans O5 fun b hb _=>hb
  subst ef
  exact hK h5 I5 (RR.only O45 fun b hb=>by simp at hb;subst hb;exact hD) (OO.trans O45 fun b hb _=>by simp at hb;simp[hb])
 refine ldB_of (n:=(E.ses i).there d) (by rw[At.rd A3];rfl) (bcase_of (fun t=> ?_) fun t=> ?_)
 ·refine ldP_of I3.r (ldI_of (n:=((E.ses i).hnd d:Int)) (by rw[At.rd A3];rfl) ?_)
  refine rf_unp R3 hN fun h4 n R4 O4=>ldI_of rfl ?_
  exact fin (I3.only O4 hD) R4 (by rw[if_pos t]) ((O03.mono (by simp)).trans O4 fun b hb _=>by simp[hb])
 ·have R3':RfB h3 E.r (N+1) f B:=by
   obtain⟨lo,M,T,W,p,c,H,w1,w4,hl,e⟩:=R3
   exact⟨lo,M,T,W,p,c,H.grow (by omega),w1,w4,hl,e⟩
  exact fin I3 R3' (by rw[if_neg (by rw[t];simp)]) (O03.mono (by simp))
theorem sets167(I:EIs h e E)(R:RfB h E.r N f B)(C:CntOk f E)(hD:e∉B)(hi:i<4){d v:Nat}(hd:d<6)(ed:(E.ses i).cal.dst=(d:Int))(hv:v<4294967296)(hN:N+1≤LB)
  (hK: ∀h' f',EIs h' e (E.put i (setS (E.ses i) d v))→RfB h' E.r (N+2) f' B→CntOk f' (E.put i (setS (E.ses i) d v))→Only (e::B) h h'→K (.tuple #[]) h'):
  Cl 167 [ptrV e,.pointer (some ⟨e,3+24*i,none⟩),.int .u32 (v:Int)] h K:=by
 refine F167.spec _ _ _ h K ?_
 simp only[add_mk,Nat.zero_add]
 refine clears166 I R hD hi hd ed (by omega) fun h1 I1 R1 O1=>⟨rfl,?_⟩
 have C1:=cnr_clr C hi hd
 have dd:Int.toNat (d:Int)=d:=Int.toNat_natCast d
 refine ldI_of (n:=(d:Int)) (by rw[I1.dst hi (by omega),put_ses];exact congrArg (fun z=>some (Value.int .i64 z)) ed) ⟨by omega,by omega,?_⟩
 rw[dd]
 obtain⟨x,ex⟩: ∃x,x=clrS (E.ses i) d:=⟨_,rfl⟩
 rw[←ex]at I1 C1
 refine EIs.setS (x:={x with there:=upN x.there d true}) I1 hi (j:=2*d) (by omega) (by omega) rfl (fun q hq=>by rw[put_ses];exact sC_sett hd q hq) fun h4 I4 O4 _=> ?_
 rw[put_put]at I4
 refine EIs.setS (x:=setS x d v) I4 hi (j:=2*d+1) (by omega) (by omega) rfl (fun q hq=>by rw[put_ses];exact sC_seth (x:={x with there:=upN x.there d true}) (n:=v) hd q hq) fun h5 I5 O5 _=> ?_
 rw[put_put]at I5
 have O45:Only [e] h1 h5:=O4.trans O5 fun b hb _=>hb
 have R5:=R1.only O45 fun b hb=>by simp at hb;subst hb;exact hD
 refine ldP_of I5.r ?_
 refine rf_prot R5 hv (by omega) fun h6 R6 O6=>⟨rfl,?_⟩
 have ht:((E.put i x).ses i).there d=false:=by rw[put_ses,ex];exact upN_eq
 have C2:=cnr_set (v0:=v) C1 hi hd ht
 rw[put_ses,put_put]at C2
 have exs:setS x d v=setS (E.ses i) d v:=by rw[ex];unfold setS clrS;rw[upN_upN,upN_upN]
 rw[exs]at C2 I5
 exact hK h6 _ (I5.only O6 hD) R6 C2 ((O1.trans O45 fun b hb _=>by simp at hb;simp[hb]).trans O6 fun b hb _=>by simp[hb])
end
end
section
def sL(S:Ses):List Value:=[sC S 0,sC S 1,sC S 2,sC S 3,sC S 4,sC S 5,sC S 6,sC S 7,sC S 8,sC S 9,sC S 10,sC S 11,sC S 12,sC S 13,sC S 14,sC S 15,sC S 16,sC S 17,sC S 18,sC S 19,sC S 20,sC S 21,sC S 22,sC S 23]
theorem copy24{h:Heap}{v:List Value}{x:Int}{S:Ses}{G:Nat→Heap→Prop}(r: ∀j,j<24→v[Int.toNat x*24+j]? =some (sC S j))(hG: ∀h',At h' h.size (sL S)→Only [] h h'→G h.size h'):
  ldB (v[Int.toNat x*24+0]?) (fun b1=>ldI .u32 (v[Int.toNat x*24+1]?) (fun n2=>ldB (v[Int.toNat x*24+2]?) (fun b3=>ldI .u32 (v[Int.toNat x*24+3]?) (fun n4=>ldB (v[Int.toNat x*24+4]?) (fun b5=>ldI .u32 (v[Int.toNat x*24+5]?) (fun n6=>ldB (v[Int.toNat x*24+6]?) (fun b7=>ldI .u32 (v[Int.toNat x*24+7]?) (fun n8=>ldB (v[Int.toNat x*24+8]?) (fun b9=>ldI .u32 (v[Int.toNat x*24+9]?) (fun n10=>ldB (v[Int.toNat x*24+10]?) (fun b11=>ldI .u32 (v[Int.toNat x*24+11]?) (fun n12=>ldI .i64 (v[Int.toNat x*24+12]?) (fun n13=>ldI .i64 (v[Int.toNat x*24+13]?) (fun n14=>ldI .i64 (v[Int.toNat x*24+14]?) (fun n15=>ldI .i64 (v[Int.toNat x*24+15]?) (fun n16=>ldI .i64 (v[Int.toNat x*24+16]?) (fun n17=>ldI .i64 (v[Int.toNat x*24+17]?) (fun n18=>ldI .u8 (v[Int.toNat x*24+18]?) (fun n19=>ldB (v[Int.toNat x*24+19]?) (fun b20=>ldI .i64 (v[Int.toNat x*24+20]?) (fun n21=>ldI .i64 (v[Int.toNat x*24+21]?) (fun n22=>ldI .u64 (v[Int.toNat x*24+22]?) (fun n23=>ldB (v[Int.toNat x*24+23]?) (fun b24=>newK h (.cells #[(.bool false),(.int .u32 (0:Int)),(.bool false),(.int .u32 (0:Int)),(.bool false),(.int .u32 (0:Int)),(.bool false),(.int .u32 (0:Int)),(.bool false),(.int .u32 (0:Int)),(.bool false),(.int .u32 (0:Int)),(.int .i64 (0:Int)),(.int .i64 (0:Int)),(.int .i64 (0:Int)),(.int .i64 (0:Int)),(.int .i64 (0:Int)),(.int .i64 (0:Int)),(.int .u8 (0:Int)),(.bool false),(.int .i64 (0:Int)),(.int .i64 (0:Int)),(.int .u64 (0:Int)),(.bool false)] 129) (fun b25 h26=>stK h26 (Addr.add (Addr.mk b25 0 none) 0) (.bool b1) (fun h27=>stK h27 (Addr.add (Addr.mk b25 0 none) 1) (.int .u32 n2) (fun h28=>stK h28 (Addr.add (Addr.mk b25 0 none) 2) (.bool b3) (fun h29=>stK h29 (Addr.add (Addr.mk b25 0 none) 3) (.int .u32 n4) (fun h30=>stK h30 (Addr.add (Addr.mk b25 0 none) 4) (.bool b5) (fun h31=>stK h31 (Addr.add (Addr.mk b25 0 none) 5) (.int .u32 n6) (fun h32=>stK h32 (Addr.add (Addr.mk b25 0 none) 6) (.bool b7) (fun h33=>stK h33 (Addr.add (Addr.mk b25 0 none) 7) (.int .u32 n8) (fun h34=>stK h34 (Addr.add (Addr.mk b25 0 none) 8) (.bool b9) (fun h35=>stK h35 (Addr.add (Addr.mk b25 0 none) 9) (.int .u32 n10) (fun h36=>stK h36 (Addr.add (Addr.mk b25 0 none) 10) (.bool b11) (fun h37=>stK h37 (Addr.add (Addr.mk b25 0 none) 11) (.int .u32 n12) (fun h38=>stK h38 (Addr.add (Addr.mk b25 0 none) 12) (.int .i64 n13) (fun h39=>stK h39 (Addr.add (Addr.mk b25 0 none) 13) (.int .i64 n14) (fun h40=>stK h40 (Addr.add (Addr.mk b25 0 none) 14) (.int .i64 n15) (fun h41=>stK h41 (Addr.add (Addr.mk b25 0 none) 15) (.int .i64 n16) (fun h42=>stK h42 (Addr.add (Addr.mk b25 0 none) 16) (.int .i64 n17) (fun h43=>stK h43 (Addr.add (Addr.mk b25 0 none) 17) (.int .i64 n18) (fun h44=>stK h44 (Addr.add (Addr.mk b25 0 none) 18) (.int .u8 n19) (fun h45=>stK h45 (Addr.add (Addr.mk b25 0 none) 19) (.bool b20) (fun h46=>stK h46 (Addr.add (Addr.mk b25 0 none) 20) (.int .i64 n21) (fun h47=>stK h47 (Addr.add (Addr.mk b25 0 none) 21) (.int .i64 n22) (fun h48=>stK h48 (Addr.add (Addr.mk b25 0 none) 22) (.int .u64 n23) (fun h49=>stK h49 (Addr.add (Addr.mk b25 0 none) 23) (.bool b24) (fun h50=>G b25 h50))))))))))))))))))))))))))))))))))))))))))))))))):=by
 refine ldB_of (r 0 (by omega)) ?_
 refine ldI_of (r 1 (by omega)) ?_
 refine ldB_of (r 2 (by omega)) ?_
 refine ldI_of (r 3 (by omega)) ?_
 refine ldB_of (r 4 (by omega)) ?_
 refine ldI_of (r 5 (by omega)) ?_
 refine ldB_of (r 6 (by omega)) ?_
 refine ldI_of (r 7 (by omega)) ?_
 refine ldB_of (r 8 (by omega)) ?_
 refine ldI_of (r 9 (by omega)) ?_
 refine ldB_of (r 10 (by omega)) ?_
 refine ldI_of (r 11 (by omega)) ?_
 refine ldI_of (r 12 (by omega)) ?_
 refine ldI_of (r 13 (by omega)) ?_
 refine ldI_of (r 14 (by omega)) ?_
 refine ldI_of (r 15 (by omega)) ?_
 refine ldI_of (r 16 (by omega)) ?_
 refine ldI_of (r 17 (by omega)) ?_
 refine ldI_of (r 18 (by omega)) ?_
 refine ldB_of (r 19 (by omega)) ?_
 refine ldI_of (r 20 (by omega)) ?_
 refine ldI_of (r 21 (by omega)) ?_
 refine ldI_of (r 22 (by omega)) ?_
 refine ldB_of (r 23 (by omega)) ?_
 refine newK_at fun h1 A1 O1 z1=> ?_
 show stL ⟨h.size,0,none⟩ 0 (sL S) h1 fun h'=>G h.size h'
 refine stL_own (o:=0) (sL S) 0 _ h1 A1 (by simp[sL]) (fun w hw=> ?_) fun h2 A2 O2 z2=>hG h2 ?_ (O1.trans O2 (by intro y hy hl;simp at hy;omega))
 ·simp only[sL,List.mem_cons,List.not_mem_nil,or_false]at hw
  rcases hw with e|e|e|e|e|e|e|e|e|e|e|e|e|e|e|e|e|e|e|e|e|e|e|e<;>subst e<;>exact sC_one _
 ·simpa[sL]using A2
section
variable {h:Heap}{e:Nat}{E:Eng}{K:Value→Heap→Prop}
theorem big(I:EIs h e E){Q:List Value→Prop}(hQ: ∀v,(∀(k j:Nat),k<4→j<24→v[Int.toNat (k:Int)*24+j]? =some (sC (E.ses k) j))→Q v):ldG h (Addr.add ⟨e,0,none⟩ 3) 96 Q:=by
 refine⟨rowV 96 fun q=>eC E (3+q),rowV_len _ _,fun j v hj=> ?_,hQ _ fun k j hk hj=> ?_⟩
 ·have hl:j<96:=by have:=(List.getElem?_eq_some_iff.1 hj).1;rwa[rowV_len]at this
  rw[rowV_get hl]at hj
  injection hj with hj
  subst hj
  rw[add_mk,add_mk,Nat.zero_add]
  exact I.rd (by omega)
 ·rw[rowV_get (by omega),show 3+(Int.toNat (k:Int)*24+j)=3+24*k+j by omega,eC_ses hk hj]
def anyP(E:Eng):Prop:= ∃k,k<4∧(E.ses k).pend=true
theorem wr_s{k:Nat}(hk:k<4):IntKind.wrap .i64 ((k:Int)+1)=((k+1:Nat):Int):=by rw[wrap_i64 (by omega) (by omega)];omega
theorem pending78(I:EIs h e E)(hT:anyP E→ ∀h',Only [] h h'→K (.bool true) h')(hF: ¬anyP E→ ∀h',Only [] h h'→K (.bool false) h'):Cl 78 [ptrV e] h K:=by
 refine F78.spec _ h K ?_
 refine big I fun v r=> ?_
 have main: ∀(d k:Nat) (hh:Heap),d+k=4→(∀j,j<k→(E.ses j).pend=false)→Only [] h hh→F78.wL2 (d+1) v (k:Int) hh K:=by
  intro d
  induction d with
  |zero=>
   intro k hh hk hb O
   rw[F78.sL2]
   rw[decide_eq_false (by omega),bcase_false]
   refine hF (fun⟨j,hj,hp⟩=> ?_) hh O
   rw[hb j (by omega)]at hp
   cases hp
  |succ d ih=>
   intro k hh hk hb O
   rw[F78.sL2]
   rw[decide_eq_true (by omega),bcase_true]
   refine⟨by omega,by omega,copy24 (S:=E.ses k) (fun j hj=>r k j (by omega) hj) fun h2 A2 O2=> ?_⟩
   refine ldB_of (n:=(E.ses k).pend) (by rw[add_mk,At.rd A2];rfl) (bcase_of (fun p=> ?_) fun p=> ?_)
   ·exact hT ⟨k,by omega,p⟩ h2 (O.trans O2 (by simp))
   ·rw[wr_s (by omega)]
    refine ih (k+1) h2 (by omega) (fun j hj=> ?_) (O.trans O2 (by simp))
    by_cases q:j=k
    ·rw[q];exact p
    ·exact hb j (by omega)
 exact⟨_,main 4 0 h (by omega) (fun j hj=>by omega) (Only.refl _ _)⟩
def eng0(s p r:Nat):Eng:=⟨s,p,r,fun _=>⟨fun _=>false,fun _=>0,⟨0,0,0,0,0,0,0⟩,false,0,0,0,false⟩,0⟩
theorem cnr_0(s p r:Nat):CntOk (fun _=>0) (eng0 s p r):=fun x=>by
 have: ∀n,sumN (indR (eng0 s p r) x) n=0:=by
  intro n
  induction n with
  |zero=>rfl
  |succ n ih=>unfold sumN;rw[ih];unfold indR eng0;simp
 unfold cntR
 rw[this]
 rfl
end
end
section
theorem F70.spec(a:Addr)(h:Heap)(K:KK)(H:ldI .i64 (rd h (a.add 0)) fun n1=>K (.int .i64 n1) h):Cl 70 [.pointer (some a)] h K:=cN Tryz.func70 H
theorem F186.spec(b:Addr)(a:Int)(h:Heap)(K:KK)(H:bcase (decide (a<(0:Int))) (K (.int .i64 (-1)) h) (ldI .i64 (rd h (b.add 0)) fun n1=>bcase (decide (a≥n1)) (K (.int .i64 (-1)) h) ((0≤a∧a<(Nat.cast 8:Int)∧ldI .i64 (rd h ((b.add 9).add (Int.toNat a*1))) fun n2=>K (.int .i64 n2) h)))):Cl 186 [.pointer (some b),.int .i64 a] h K:=cN Tryz.func186 H
theorem F208.spec(a:Addr)(b:Int)(h:Heap)(K:KK)(H:Cl 47 [.pointer (some a)] h fun v1 h2=>ldP (some v1) fun p3=>Cl 186 [.pointer p3,.int .i64 b] h2 fun v4 h5=>ldI .i64 (some v4) fun n6=>Cl 161 [.pointer (some a),.int .i64 n6,.int .u32 0,.int .u32 1] h5 fun v7 h8=> ∃n9:Int,∃n10:Int,v7=(.tuple #[.int .u32 n9,.int .i64 n10])∧K (.tuple #[.int .u32 n9,.int .i64 n10]) h8):Cl 208 [.pointer (some a),.int .i64 b] h K:=cN Tryz.func208 H
namespace F22
def T:Hint:=⟨[(5,[0,3,4]),(12,[0,3,4,6,7,8,9])],[]⟩
noncomputable def body:Code:=(Tryz.f22.body).getD .skip
noncomputable def en(S:Stop)(p:List Nat)(κ:XK):Fr→Heap→Prop:=E Tryz.prog X T S (sub body p) κ
noncomputable def ln(S:Stop)(p:List Nat)(κ:XK)(n:Nat):Fr→Heap→Prop:=loopN S (E Tryz.prog X T S (sub body p)) (cutQ T (sub body p)) κ n
def fn(K:KK):XK:=fin Tryz.prog Tryz.f22.results.toList K
noncomputable def c0(S:Stop)(K:KK):XK:=seqN S (cutQ T (sub body [1,1,1,1])) (en S [1,1,1,1] (fn K)) (fn K)
noncomputable def c1(S:Stop)(K:KK):XK:=blockN 0 (c0 S K)
noncomputable def c2(S:Stop)(n5:Nat)(K:KK):XK:=backN S (cutQ T (sub body [1,1,1,0,1,0,0])) (ln S [1,1,1,0,1,0,0] (c1 S K) n5) (c1 S K)
noncomputable def c3(S:Stop)(n5:Nat)(K:KK):XK:=seqN S (cutQ T (sub body [1,1,1,0,1,0,0,1,1])) (en S [1,1,1,0,1,0,0,1,1] (c2 S n5 K)) (c2 S n5 K)
noncomputable def c4(S:Stop)(n5:Nat)(K:KK):XK:=blockN 1 (c3 S n5 K)
noncomputable def c5(S:Stop)(n5:Nat)(K:KK):XK:=blockN 2 (c4 S n5 K)
noncomputable def c6(S:Stop)(n5:Nat)(n12:Nat)(K:KK):XK:=backN S (cutQ T (sub body [1,1,1,0,1,0,0,1,0,0,1,1,1,1,0,0])) (ln S [1,1,1,0,1,0,0,1,0,0,1,1,1,1,0,0] (c5 S n5 K) n12) (c5 S n5 K)
def f5(d:Addr)(b:Option Addr)(a c:Nat)(f:Int):Fr:=[(0,(.pointer (some d))),(3,(.slice b a c)),(4,(.int .i64 f))]
def f12(d:Addr)(b:Option Addr)(a c:Nat)(f i j l g:Int):Fr:=[(0,(.pointer (some d))),(3,(.slice b a c)),(4,(.int .i64 f)),(6,(.int .i64 i)),(7,(.int .u32 j)),(8,(.int .u32 l)),(9,(.int .i64 g))]
def J0(k5:Addr→(Option Addr)→Nat→Nat→Int→Heap→Prop)(d:Addr)(h:Heap)(K:KK):Prop:=
 Cl 59 [(.pointer (some d))] h (fun v1 h2=>ldS (some v1) (fun p3 l4 c5=>Cl 45 [(.pointer (some d))] h2 (fun v6 h7=>ldI .i64 (some v6) (fun n8=>bcase ((Nat.cast l4:Int) !=n8) (K (.bool false) h7) (Cl 70 [(.pointer (some d))] h7 (fun v9 h10=>ldI .i64 (some v9) (fun n11=>bcase (decide ((Nat.cast l4:Int)>n11)) (K (.bool false) h10) (k5 d p3 l4 c5 (0:Int) h10))))))))
theorem E0(S:Stop)(d:Addr)(h:Heap)(K:KK):(E Tryz.prog X T S body (fin Tryz.prog Tryz.f22.results.toList K) (args0 0 [(.pointer (some d))]) h)=J0 (fun d b a c f h=>S (en S [1,1,1,0,1] (c0 S K)) (f5 d b a c f) h) d h K:=by kernel_rfl
def Jk5(lp5:Addr→(Option Addr)→Nat→Nat→Int→Heap→Prop)(d:Addr)(b:Option Addr)(a c:Nat)(f:Int)(h:Heap)(_K:KK):Prop:=
 lp5 d b a c f h
theorem Ek5(S:Stop)(d:Addr)(b:Option Addr)(a c:Nat)(f:Int)(h:Heap)(K:KK):(en S [1,1,1,0,1] (c0 S K) (f5 d b a c f) h)=Jk5 (fun d b a c f h=> ∃n,S (ln S [1,1,1,0,1,0,0] (c1 S K) n) (f5 d b a c f) h) d b a c f h K:=by kernel_rfl
def JL5(k12:Addr→(Option Addr)→Nat→Nat→Int→Int→Int→Int→Int→Heap→Prop)(d:Addr)(b:Option Addr)(a c:Nat)(f:Int)(h:Heap)(K:KK):Prop:=
 bcase (decide (f<(Nat.cast a:Int))) (ptrK b (fun a1=>(0≤f∧f<(Nat.cast a:Int)∧ldI .u32 (rd h (a1.add (Int.toNat f*1))) (fun n2=>Cl 71 [(.pointer (some d)),(.int .u32 n2)] h (fun v3 h4=>ldI .i64 (some v3) (fun n5=>Cl 72 [(.pointer (some d)),(.int .u32 n2)] h4 (fun v6 h7=>ldI .u32 (some v6) (fun n8=>Cl 73 [(.pointer (some d)),(.int .u32 n2)] h7 (fun v9 h10=>ldI .u32 (some v9) (fun n11=>bcase (decide (n2≤(1:Int))) (K (.bool false) h10) (bcase (decide (f>(0:Int))) (ptrK b (fun a12=>(0≤(IntKind.wrap .i64 (f-(1:Int)))∧(IntKind.wrap .i64 (f-(1:Int)))<(Nat.cast a:Int)∧ldI .u32 (rd h10 (a12.add (Int.toNat (IntKind.wrap .i64 (f-(1:Int)))*1))) (fun n13=>bcase (decide (n13≥n2)) (K (.bool false) h10) (Cl 74 [(.pointer (some d)),(.int .u32 n2)] h10 (fun v14 h15=>ldB (some v14) (fun b16=>bcase (!b16) (K (.bool false) h15) (bcase (decide (n5<(0:Int))) (K (.bool false) h15) (Cl 75 [(.pointer (some d))] h15 (fun v17 h18=>ldI .i64 (some v17) (fun n19=>bcase (decide (n5≥n19)) (K (.bool false) h18) (bcase (n8==n11) (K (.bool false) h18) (Cl 74 [(.pointer (some d)),(.int .u32 n8)] h18 (fun v20 h21=>ldB (some v20) (fun b22=>bcase (!b22) (K (.bool false) h21) (Cl 74 [(.pointer (some d)),(.int .u32 n11)] h21 (fun v23 h24=>ldB (some v23) (fun b25=>bcase (!b25) (K (.bool false) h24) (Cl 71 [(.pointer (some d)),(.int .u32 n8)] h24 (fun v26 h27=>ldI .i64 (some v26) (fun n28=>bcase (decide (n28≤n5)) (K (.bool false) h27) (Cl 71 [(.pointer (some d)),(.int .u32 n11)] h27 (fun v29 h30=>ldI .i64 (some v29) (fun n31=>bcase (decide (n31≤n5)) (K (.bool false) h30) (k12 d b a c f n5 n8 n11 (0:Int) h30))))))))))))))))))))))))) (Cl 74 [(.pointer (some d)),(.int .u32 n2)] h10 (fun v32 h33=>ldB (some v32) (fun b34=>bcase (!b34) (K (.bool false) h33) (bcase (decide (n5<(0:Int))) (K (.bool false) h33) (Cl 75 [(.pointer (some d))] h33 (fun v35 h36=>ldI .i64 (some v35) (fun n37=>bcase (decide (n5≥n37)) (K (.bool false) h36) (bcase (n8==n11) (K (.bool false) h36) (Cl 74 [(.pointer (some d)),(.int .u32 n8)] h36 (fun v38 h39=>ldB (some v38) (fun b40=>bcase (!b40) (K (.bool false) h39) (Cl 74 [(.pointer (some d)),(.int .u32 n11)] h39 (fun v41 h42=>ldB (some v41) (fun b43=>bcase (!b43) (K (.bool false) h42) (Cl 71 [(.pointer (some d)),(.int .u32 n8)] h42 (fun v44 h45=>ldI .i64 (some v44) (fun n46=>bcase (decide (n46≤n5)) (K (.bool false) h45) (Cl 71 [(.pointer (some d)),(.int .u32 n11)] h45 (fun v47 h48=>ldI .i64 (some v47) (fun n49=>bcase (decide (n49≤n5)) (K (.bool false) h48) (k12 d b a c f n5 n8 n11 (0:Int) h48)))))))))))))))))))))))))))))))) (K (.bool true) h)
theorem EL5(S:Stop)(n5:Nat)(d:Addr)(b:Option Addr)(a c:Nat)(f:Int)(h:Heap)(K:KK):(en S [1,1,1,0,1,0,0] (c2 S n5 K) (f5 d b a c f) h)=JL5 (fun d b a c f i j l g h=>S (en S [1,1,1,0,1,0,0,1,0,0,1,1,1,1] (c4 S n5 K)) (f12 d b a c f i j l g) h) d b a c f h K:=by kernel_rfl
def Jk12(lp12:Addr→(Option Addr)→Nat→Nat→Int→Int→Int→Int→Int→Heap→Prop)(d:Addr)(b:Option Addr)(a c:Nat)(f i j l g:Int)(h:Heap)(_K:KK):Prop:=
 lp12 d b a c f i j l g h
theorem Ek12(S:Stop)(n5:Nat)(d:Addr)(b:Option Addr)(a c:Nat)(f i j l g:Int)(h:Heap)(K:KK):(en S [1,1,1,0,1,0,0,1,0,0,1,1,1,1] (c4 S n5 K) (f12 d b a c f i j l g) h)=Jk12 (fun d b a c f i j l g h=> ∃n,S (ln S [1,1,1,0,1,0,0,1,0,0,1,1,1,1,0,0] (c5 S n5 K) n) (f12 d b a c f i j l g) h) d b a c f i j l g h K:=by kernel_rfl
def JL12(bk12:Addr→(Option Addr)→Nat→Nat→Int→Int→Int→Int→Int→Heap→Prop)(bk5:Addr→(Option Addr)→Nat→Nat→Int→Heap→Prop)(d:Addr)(b:Option Addr)(a c:Nat)(f i j l g:Int)(h:Heap)(K:KK):Prop:=
 bcase (decide (g<f)) (ptrK b (fun a1=>(0≤g∧g<(Nat.cast a:Int)∧ldI .u32 (rd h (a1.add (Int.toNat g*1))) (fun n2=>Cl 71 [(.pointer (some d)),(.int .u32 n2)] h (fun v3 h4=>ldI .i64 (some v3) (fun n5=>bcase (n5==i) (ptrK b (fun a6=>(0≤g∧g<(Nat.cast a:Int)∧ldI .u32 (rd h4 (a6.add (Int.toNat g*1))) (fun n7=>Cl 72 [(.pointer (some d)),(.int .u32 n7)] h4 (fun v8 h9=>ldI .u32 (some v8) (fun n10=>bcase (n10==j) (ptrK b (fun a11=>(0≤g∧g<(Nat.cast a:Int)∧ldI .u32 (rd h9 (a11.add (Int.toNat g*1))) (fun n12=>Cl 73 [(.pointer (some d)),(.int .u32 n12)] h9 (fun v13 h14=>ldI .u32 (some v13) (fun n15=>bcase (n15==l) (K (.bool false) h14) (bk12 d b a c f i j l (IntKind.wrap .i64 (g+(1:Int))) h14))))))) (bk12 d b a c f i j l (IntKind.wrap .i64 (g+(1:Int))) h9))))))) (bk12 d b a c f i j l (IntKind.wrap .i64 (g+(1:Int))) h4))))))) (bk5 d b a c (IntKind.wrap .i64 (f+(1:Int))) h)
theorem EL12(S:Stop)(n5:Nat)(n12:Nat)(d:Addr)(b:Option Addr)(a c:Nat)(f i j l g:Int)(h:Heap)(K:KK):(en S [1,1,1,0,1,0,0,1,0,0,1,1,1,1,0,0] (c6 S n5 n12 K) (f12 d b a c f i j l g) h)=JL12 (fun d b a c f i j l g h=>S (ln S [1,1,1,0,1,0,0,1,0,0,1,1,1,1,0,0] (c5 S n5 K) n12) (f12 d b a c f i j l g) h) (fun d b a c f h=>S (ln S [1,1,1,0,1,0,0] (c1 S K) n5) (f5 d b a c f) h) d b a c f i j l g h K:=by kernel_rfl
def wL12(bk5:Addr→(Option Addr)→Nat→Nat→Int→Heap→Prop):Nat→Addr→(Option Addr)→Nat→Nat→Int→Int→Int→Int→Int→Heap→KK→Prop
 |0,_,_,_,_,_,_,_,_,_,_,_=>False
 |n+1,d,b,a,c,f,i,j,l,g,h,K=>JL12 (fun d b a c f i j l g h=>wL12 bk5 n d b a c f i j l g h K) bk5 d b a c f i j l g h K
theorem eL12(K:KK)(n5:Nat)(bk5:Addr→(Option Addr)→Nat→Nat→Int→Heap→Prop)(hb5: ∀(d:Addr) (b:Option Addr) (a c:Nat) (f:Int) (h:Heap),(ln S0 [1,1,1,0,1,0,0] (c1 S0 K) n5 (f5 d b a c f) h)=bk5 d b a c f h): ∀(n:Nat) (d:Addr) (b:Option Addr) (a c:Nat) (f i j l g:Int) (h:Heap),(ln S0 [1,1,1,0,1,0,0,1,0,0,1,1,1,1,0,0] (c5 S0 n5 K) n (f12 d b a c f i j l g) h)=wL12 bk5 n d b a c f i j l g h K
 |0,_,_,_,_,_,_,_,_,_,_=>rfl
 |n+1,d,b,a,c,f,i,j,l,g,h=>(EL12 S0 n5 n d b a c f i j l g h K).trans (cg2 (fun q0 q1=>JL12 q0 q1 d b a c f i j l g h K) (by funext d b a c f i j l g h;exact(fun d b a c f i j l g h=>eL12 K n5 bk5 hb5 n d b a c f i j l g h) d b a c f i j l g h) (by funext d b a c f h;exact hb5 d b a c f h))
def wk12(bk5:Addr→(Option Addr)→Nat→Nat→Int→Heap→Prop)(d:Addr)(b:Option Addr)(a c:Nat)(f i j l g:Int)(h:Heap)(K:KK):Prop:=
 Jk12 (fun d b a c f i j l g h=> ∃m,wL12 bk5 m d b a c f i j l g h K) d b a c f i j l g h K
theorem ek12(K:KK)(n5:Nat)(bk5:Addr→(Option Addr)→Nat→Nat→Int→Heap→Prop)(hb5: ∀(d:Addr) (b:Option Addr) (a c:Nat) (f:Int) (h:Heap),(ln S0 [1,1,1,0,1,0,0] (c1 S0 K) n5 (f5 d b a c f) h)=bk5 d b a c f h)(d:Addr)(b:Option Addr)(a c:Nat)(f i j l g:Int)(h:Heap):(en S0 [1,1,1,0,1,0,0,1,0,0,1,1,1,1] (c4 S0 n5 K) (f12 d b a c f i j l g) h)=wk12 bk5 d b a c f i j l g h K:=(Ek12 S0 n5 d b a c f i j l g h K).trans (cg1 (fun q0=>Jk12 q0 d b a c f i j l g h K) (by funext d b a c f i j l g h;exact ex_congr fun m=>eL12 K n5 bk5 hb5 m d b a c f i j l g h))
def wL5:Nat→Addr→(Option Addr)→Nat→Nat→Int→Heap→KK→Prop
 |0,_,_,_,_,_,_,_=>False
 |n+1,d,b,a,c,f,h,K=>JL5 (fun d b a c f i j l g h=>wk12 (fun d b a c f h=>wL5 n d b a c f h K) d b a c f i j l g h K) d b a c f h K
theorem eL5(K:KK): ∀(n:Nat) (d:Addr) (b:Option Addr) (a c:Nat) (f:Int) (h:Heap),(ln S0 [1,1,1,0,1,0,0] (c1 S0 K) n (f5 d b a c f) h)=wL5 n d b a c f h K
 |0,_,_,_,_,_,_=>rfl
 |n+1,d,b,a,c,f,h=>(EL5 S0 n d b a c f h K).trans (cg1 (fun q0=>JL5 q0 d b a c f h K) (by funext d b a c f i j l g h;exact ek12 K n (fun d b a c f h=>wL5 n d b a c f h K) (fun d b a c f h=>eL5 K n d b a c f h) d b a c f i j l g h))
def wk5(d:Addr)(b:Option Addr)(a c:Nat)(f:Int)(h:Heap)(K:KK):Prop:=
 Jk5 (fun d b a c f h=> ∃m,wL5 m d b a c f h K) d b a c f h K
theorem ek5(K:KK)(d:Addr)(b:Option Addr)(a c:Nat)(f:Int)(h:Heap):(en S0 [1,1,1,0,1] (c0 S0 K) (f5 d b a c f) h)=wk5 d b a c f h K:=(Ek5 S0 d b a c f h K).trans (cg1 (fun q0=>Jk5 q0 d b a c f h K) (by funext d b a c f h;exact ex_congr fun m=>eL5 K m d b a c f h))
def w(d:Addr)(h:Heap)(K:KK):Prop:=
 J0 (fun d b a c f h=>wk5 d b a c f h K) d h K
theorem e0(K:KK)(d:Addr)(h:Heap):(E Tryz.prog X T S0 body (fin Tryz.prog Tryz.f22.results.toList K) (args0 0 [(.pointer (some d))]) h)=w d h K:=(E0 S0 d h K).trans (cg1 (fun q0=>J0 q0 d h K) (by funext d b a c f h;exact ek5 K d b a c f h))
theorem hb:Tryz.f22.body=some body:=by kernel_rfl
theorem ok:okCode T Tryz.f22.ntmps body=true:=by kernel_rfl
theorem spec(d:Addr)(h:Heap)(K:KK)(H:w d h K):Cl 22 [(.pointer (some d))] h K:=
 calls_of_E (T:=T) Xok mix Tryz.func22 hb ok rfl (by rw[e0];exact H)
end F22
def F59.T:Hint:=⟨[(3,[3,9,10,11])],[]⟩
section
variable (n:Nat)(l:Addr)(f:Option Addr)(d c:Nat)(i:Option Addr)(g j:Nat)(b a:Int)(h:Heap)(K:KK)
def F59.wL3:Prop:=Lp Tryz.f59 F59.T [1,1,0,1,0] n [(3,(.slice f d c)),(9,(.slice i g j)),(10,(.int .i64 b)),(11,(.int .i64 a))] h K
theorem F59.sL3:F59.wL3 (n+1) f d c i g j b a h K=(bcase (decide (a<b)) (ptrK i fun a1=>0≤a∧a<(Nat.cast g:Int)∧ldB (rd h ((a1.add (Int.toNat a*4)).add 0)) fun b2=>ldI .i64 (rd h ((a1.add (Int.toNat a*4)).add 1)) fun n3=>ldI .u32 (rd h ((a1.add (Int.toNat a*4)).add 2)) fun n4=>ldI .u32 (rd h ((a1.add (Int.toNat a*4)).add 3)) fun n5=>newK h (.cells #[.bool false,.int .i64 0,.int .u32 0,.int .u32 0] 195) fun b6 h7=>stK h7 ((Addr.mk b6 0 none).add 0) (.bool b2) fun h8=>stK h8 ((Addr.mk b6 0 none).add 1) (.int .i64 n3) fun h9=>stK h9 ((Addr.mk b6 0 none).add 2) (.int .u32 n4) fun h10=>stK h10 ((Addr.mk b6 0 none).add 3) (.int .u32 n5) fun h11=>ldB (rd h11 ((Addr.mk b6 0 none).add 0)) fun b12=>bcase b12 (newK h11 (.cells #[.int .u32 (IntKind.wrap .u32 (IntKind.wrap .i64 (a+(2:Int))))] 46) fun b13 h14=>appK h14 46 1 4 #[.int .u32 0] f d c (some (Addr.mk b13 0 none)) 1 fun p15 l16 c17 h18=>F59.wL3 n p15 l16 c17 i g j b (IntKind.wrap .i64 (a+(1:Int))) h18 K) (F59.wL3 n f d c i g j b (IntKind.wrap .i64 (a+(1:Int))) h11 K)) (K (.slice f d c) h)):=by kernel_rfl
def F59.wk3:Prop:=(∃m,F59.wL3 m f d c i g j b a h K)
theorem F59.spec(H:ldS (rd h (l.add 2)) fun p1 l2 c3=>F59.wk3 none 0 0 p1 l2 c3 (Nat.cast l2:Int) (0:Int) h K):Cl 59 [.pointer (some l)] h K:=cT F59.T Tryz.func59 H
end
end
section
end
section
end
section
end
section
section
variable {h:Heap}{s a:Nat}{L:List Nat}{X:SX}{K:Value→Heap→Prop}
end
end
section
def PermOk(n:Nat)(fo gg:Nat→Nat):Prop:=(∀v,v<n→gg v<n∧fo (gg v)=v)∧ ∀l,l<n→fo l<n∧gg (fo l)=l
theorem perm_fill(n:Nat):PermOk n (fill n) (fill n):=by
 refine⟨fun v hv=> ?_,fun v hv=> ?_⟩<;>
 ·have:fill n v=v:=if_pos hv
  rw[this,this]
  exact⟨hv,rfl⟩
structure EG where
 E:Eng
 n:Nat
 room:Nat
 fo:Nat→Nat
 gg:Nat→Nat
 off:Bool
 N:List (Option Nd)
 P:PS
 L:List Nat
 B:List Nat
 M:Nat
 f:Int→Int
structure EWd(h:Heap)(e:Nat)(G:EG):Prop where
 W:Wld h G.E.p G.E.s G.n G.room G.fo G.gg G.off G.N G.P G.L
 R:RfB h G.E.r G.M G.f G.B
 I:EIs h e G.E
 C:CntOk G.f G.E
 de:e∉G.L∧(¬PBl G.E.p G.P e)∧e∉G.B
 dB: ∀b∈G.B,b∉G.L∧ ¬PBl G.E.p G.P b
 rg: ∀i,i<4→ ∀r,r<6→(G.E.ses i).there r=true→isN G.N ((G.E.ses i).hnd r)
 r0: ∀i,i<4→ ∀r,r<6→(G.E.ses i).there r=false→(G.E.ses i).hnd r=0
 mq: ∀i,i<4→(G.E.ses i).cal.mask<256
 po:PermOk G.n G.fo G.gg
def ebl(e:Nat)(G:EG):List Nat:=e::(G.L++(G.B++pbl G.E.p G.P))
structure Eside(e:Nat)(G:EG)(h:Heap)(G':EG)(h':Heap):Prop where
 O: ∀T,(∀b∈ebl e G,b∈T)→Only T h h'
 B: ∀b∈ebl e G',b∈ebl e G∨h.size≤b
section
variable {h h' h'':Heap}{e:Nat}{G G' G'':EG}{K:Value→Heap→Prop}
theorem mem_ebl{b:Nat}:b∈ebl e G↔b=e∨b∈G.L∨b∈G.B∨PBl G.E.p G.P b:=by
 simp only[ebl,List.mem_cons,List.mem_append,mem_pbl]
theorem Eside.refl:Eside e G h G h:=⟨fun T _=>Only.refl _ _,fun b hb=> .inl hb⟩
theorem Eside.size(a:Eside e G h G' h'):h.size≤h'.size:=(a.O (ebl e G) fun b hb=>hb).size
theorem Eside.trans(a:Eside e G h G' h')(b:Eside e G' h' G'' h''):Eside e G h G'' h'':=by
 have hz:=a.size
 refine⟨fun T hT=>(a.O T hT).trans (b.O (ebl e G') fun x hx=>hx) fun x hx hl=> ?_,fun x hx=> ?_⟩
 ·rcases a.B x hx with h|h
  ·exact hT x h
  ·omega
 ·rcases b.B x hx with h|h
  ·exact a.B x h
  ·exact .inr (by omega)
theorem Eside.only0(O:Only [] h h'):Eside e G h G h':=⟨fun T _=>O.mono (by simp),fun b hb=> .inl hb⟩
theorem Eside.only{h0:Heap}(a:Eside e G h G' h')(O:Only [] h0 h)(hb: ∀b∈ebl e G,h0.size≤b):Only [] h0 h':=
 O.trans (a.O (ebl e G) fun b hb=>hb) fun b hb' hl=>by have:=hb b hb';omega
theorem Eside.ge{z:Nat}(a:Eside e G h G' h')(hz:z≤h.size)(hb: ∀b∈ebl e G,z≤b): ∀b∈ebl e G',z≤b:=fun b hb'=>by
 rcases a.B b hb' with h|h
 ·exact hb b h
 ·omega
theorem Eside.some{S:List Nat}(O:Only S h h')(hS: ∀b∈S,b∈ebl e G)(hb: ∀b∈ebl e G',b∈ebl e G):Eside e G h G' h':=⟨fun _ hT=>O.mono fun b hb _=>hT b (hS b hb),fun b h=> .inl (hb b h)⟩
theorem EWd.only0(W:EWd h e G)(O:Only [] h h'):EWd h' e G:=⟨W.W.only0 O,W.R.only0 O,W.I.only0 O,W.C,W.de,W.dB,W.rg,W.r0,W.mq,W.po⟩
theorem EWd.lt(W:EWd h e G): ∀b∈ebl e G,b<h.size:=fun b hb=>by
 rcases mem_ebl.1 hb with hb|hb|hb|hb
 ·subst hb;exact At.lt W.I
 ·exact W.W.S.lt b hb
 ·exact W.R.lt b hb
 ·exact W.W.H.lt b hb
theorem Wld.only{p s n room:Nat}{fo gg:Nat→Nat}{off:Bool}{N:List (Option Nd)}{P:PS}{L S:List Nat}(W:Wld h p s n room fo gg off N P L)(O:Only S h h')(h1: ∀b∈S,b∉L)(h2: ∀b∈S,¬PBl p P b):Wld h' p s n room fo gg off N P L:=
 ⟨W.S.only O h1,W.H.only O h2,W.Ok,W.GO,W.D⟩
theorem PoolOk.ext{n:Nat}{fo:Nat→Nat}{N N':List (Option Nd)}{P:PS}(H:PoolOk n fo N P)(GO:GoalsOk N P)(ok:NOk n N)(E:Ex N N'):PoolOk n fo N' P∧phi n N' P=phi n N P∧psi n N' P+cntN N=psi n N P+cntN N':=by
 have em: ∀j∈P.jobs,mus n N' j.A.fs=mus n N j.A.fs:=fun j hj=>mus_ext E (H.mst j hj).1.frs
 have en: ∀j∈P.jobs,nbs n N' j.A.fs=nbs n N j.A.fs:=fun j hj=>nbs_ext E (H.mst j hj).1.frs
 refine⟨⟨fun j hj=>⟨(H.mst j hj).1.ext (GO j hj) ok E,by rw[em j hj];exact(H.mst j hj).2⟩,H.at_,H.one,H.loc,H.T,H.len,H.last,H.steals⟩,?_,?_⟩
 ·unfold phi
  rw[List.map_congr_left em]
 ·unfold psi
  rw[List.map_congr_left en]
  omega
theorem goals_ext{N N':List (Option Nd)}{P:PS}(GO:GoalsOk N P)(E:Ex N N'):GoalsOk N' P:=fun j hj=>⟨E.isN (GO j hj).1,E.isN (GO j hj).2.1,E.isN (GO j hj).2.2⟩
theorem ord_level{b n v:Nat}{f g:Nat→Nat}(H:OrdIs h b n f g)(hn:n≤8)(hv:v<n)(hK:K (.int .i64 (g v:Int)) h):Cl 186 [.pointer (some ⟨b,0,none⟩),.int .i64 (v:Int)] h K:=by
 refine F186.spec _ _ h K ?_
 rw[decide_eq_false (by omega),bcase_false]
 simp only[add_mk,Nat.zero_add]
 refine ldI_of H.rd0 ?_
 rw[decide_eq_false (by omega),bcase_false]
 exact⟨by omega,by omega,ldI_of (by rw[show 9+Int.toNat (v:Int)*1=9+v by omega];exact H.rdl (by omega)) hK⟩
theorem sto_room{s:Nat}{L:List Nat}{X:SX}(H:Sto h s L X)(hK:K (.int .i64 (X.room:Int)) h):Cl 70 [ptrV s] h K:=by
 obtain⟨B,F,e,H⟩:=H
 refine F70.spec _ h K ?_
 exact ldI_of (by rw[add_mk,At.rd H.m.S];rfl) hK
theorem sto_var{s v:Nat}{L:List Nat}{X:SX}(H:Sto h s L X)(hv:v<X.n)(hg:X.g v<X.n)
  (hK: ∀h' L' N' r er,MkRel X.room X.N (X.g v) 0 1 N' r er→Sto h' s L' {X with N:=N'}→Only L h h'→Fresh L L' h→K (.tuple #[.int .u32 (r:Int),.int .i64 (er:Int)]) h'):
  Cl 208 [ptrV s,.int .i64 (v:Int)] h K:=by
 have ok:=H.ok
 refine F208.spec _ _ h K ?_
 refine sto_order H fun c h1 Or g1 O1=>ldP_of rfl ?_
 refine ord_level Or ok.2.2.1 hv (ldI_of rfl ?_)
 have H1:=H.only0 O1
 have e0:lvl X.n X.N 0=X.n:=by unfold lvl;rw[if_pos (by omega)]
 have e1:lvl X.n X.N 1=X.n:=by unfold lvl;rw[if_pos (by omega)]
 refine sto_mk H1 (l:=X.g v) (a:=0) (b:=1) hg (.inl (by omega)) (.inl (by omega)) (by rw[e0];exact hg) (by rw[e1];exact hg) fun h2 L2 N2 r er R S2 O2 F2=>⟨_,_,rfl,?_⟩
 exact hK h2 L2 N2 r er R S2 ((O1.mono (by simp)).trans O2 fun b hb _=>hb) fun b hb=>by
  rcases F2 b hb with q|q
  ·exact .inl q
  ·exact .inr (by have:=O1.size;omega)
theorem new18{n room:Nat}{x:Int}(h1:1≤n)(h8:n≤8)(r1:1≤room)(r2:room≤32768)
  (hK: ∀h' e G,EWd h' e G→G.E.ses=(eng0 0 0 0).ses→G.E.ans=0→G.n=n→G.room=room→G.fo=fill n→G.gg=fill n→G.off=false→G.N=[]→G.P.jobs=[]→G.P.ws.length=wkn x→locs G.P.ws=[]→G.P.last=0→G.M=0→(∀b∈ebl e G,h.size≤b)→Only [] h h'→K (.tuple #[ptrV e,.int .i64 0]) h'):
  Cl 18 [.int .i64 (n:Int),.int .i64 (room:Int),.int .i64 x] h K:=by
 refine F18.spec _ _ _ h K ?_
 refine sto_new (Q:=QL n (fill n) []) h1 h8 r1 r2 fun k1 s L S1 O1 g1=>⟨_,_,rfl,?_⟩
 have S1:Sto k1 s L (XL n room (fill n) (fill n) [] false):=S1
 rw[show((0:Int) !=0)=false from rfl,bcase_false]
 refine new34 (s:=s) (x:=x) fun k2 p P H2 e1 e2 e3 e4 e5 g2 O2=>ldP_of rfl ?_
 refine workers68 H2 (ldI_of rfl ?_)
 refine rf_new fun k3 r B R3 g3 O3=>ldP_of rfl ?_
 refine newK_at fun k4 A4 O4 z4=> ?_
 have wl:=wkn_le x
 obtain⟨Ok,GO,lo,ql⟩:=pool_fresh (n:=n) (fo:=fill n) (N:=[]) (P:=P) (by omega) e2 e3 e4 e5
 have z1:=O1.size
 have z2:=O2.size
 have z3:=O3.size
 have hL:=S1.lt
 have hP:=H2.lt
 have hB:=R3.lt
 have W2:Wld k2 p s n room (fill n) (fill n) false [] P L:=⟨S1.only0 O2,H2,Ok,GO,fun b hb hm=>by have:=g2 b hb;have:=hL b hm;omega⟩
 have W4:=(W2.only0 O3).only0 O4
 have R4:=R3.only0 O4
 have I4:EIs k4 k3.size (eng0 s p r):=A4
 refine hK k4 k3.size ⟨eng0 s p r,n,room,fill n,fill n,false,[],P,L,B,0,fun _=>0⟩ ⟨W4,R4,I4,cnr_0 s p r,⟨fun hm=>by have:=hL _ hm;omega,fun hm=>by have:=hP _ hm;omega,fun hm=>by have:=hB _ hm;omega⟩,fun b hb=>⟨fun hm=>by have:=hL b hm;have:=g3 b hb;omega,fun hm=>by have:=hP b hm;have:=g3 b hb;omega⟩,fun i hi r hr ht=>(by cases ht),fun i hi r hr ht=>rfl,fun i hi=>(by show 0<256;omega),perm_fill n⟩ rfl rfl rfl rfl rfl rfl rfl rfl e2 e1 lo e4 rfl (fun b hb=> ?_) (((O1.trans O2 (by simp)).trans O3 (by simp)).trans O4 (by simp))
 rcases mem_ebl.1 hb with hb|hb|hb|hb
 ·subst hb;omega
 ·exact g1 b hb
 ·have:=g3 b hb;omega
 ·have:=g2 b hb;omega
def ansG(G:EG)(i:Nat)(er:Int)(n:Nat):EG:={G with E:={G.E.put i (ansS (G.E.ses i) er n)with ans:=G.E.ans+1}}
theorem ses_put{E:Eng}{i k:Nat}{x:Ses}:(E.put i x).ses k=if k=i then x else E.ses k:=rfl
theorem ind_same{E E':Eng}(hh: ∀k,(E'.ses k).there=(E.ses k).there∧(E'.ses k).hnd=(E.ses k).hnd)(x:Nat):cntR E' x=cntR E x:=by
 have:indR E' x=indR E x:=by
  funext k
  unfold indR
  rw[(hh (k/6)).1,(hh (k/6)).2]
 unfold cntR
 rw[this]
theorem e_answers{i:Nat}(W:EWd h e G)(hi:i<4){er:Int}{n:Nat}(ha:G.E.ans<1000000000)(hK: ∀h',EWd h' e (ansG G i er n)→Eside e G h (ansG G i er n) h'→K (.tuple #[]) h'):
  Cl 168 [ptrV e,.pointer (some ⟨e,3+24*i,none⟩),.agg #[.int .i64 er,.int .u64 (n:Int)]] h K:=by
 refine answers168 W.I hi ha fun h' I' O'=> ?_
 have hs: ∀k,((ansG G i er n).E.ses k).there=(G.E.ses k).there∧((ansG G i er n).E.ses k).hnd=(G.E.ses k).hnd∧((ansG G i er n).E.ses k).cal=(G.E.ses k).cal:=fun k=>by
  show((G.E.put i (ansS (G.E.ses i) er n)).ses k).there=_∧((G.E.put i (ansS (G.E.ses i) er n)).ses k).hnd=_∧((G.E.put i (ansS (G.E.ses i) er n)).ses k).cal=_
  rw[ses_put]
  by_cases q:k=i
  ·rw[if_pos q,q];exact⟨rfl,rfl,rfl⟩
  ·rw[if_neg q];exact⟨rfl,rfl,rfl⟩
 refine hK h' ⟨W.W.only O' (fun b hb=>by simp at hb;subst hb;exact W.de.1) (fun b hb=>by simp at hb;subst hb;exact W.de.2.1),W.R.only O' (fun b hb=>by simp at hb;subst hb;exact W.de.2.2),I',fun x=> ?_,W.de,W.dB,fun k hk r hr ht=> ?_,fun k hk r hr ht=> ?_,fun k hk=> ?_,W.po⟩ (Eside.some O' (fun b hb=>by simp at hb;subst hb;exact mem_ebl.2 (.inl rfl)) fun b hb=>hb)
 ·rw[ind_same fun k=>⟨(hs k).1,(hs k).2.1⟩];exact W.C x
 ·rw[(hs k).2.1];rw[(hs k).1]at ht;exact W.rg k hk r hr ht
 ·rw[(hs k).2.1];rw[(hs k).1]at ht;exact W.r0 k hk r hr ht
 ·rw[(hs k).2.2];exact W.mq k hk
def setG(G:EG)(i d v:Nat)(f':Int→Int):EG:={G with E:=G.E.put i (setS (G.E.ses i) d v),M:=G.M+2,f:=f'}
theorem e_sets{i d v:Nat}(W:EWd h e G)(hi:i<4)(hd:d<6)(ed:(G.E.ses i).cal.dst=(d:Int))(hv:isN G.N v)(hM:G.M+1≤LB)
  (hK: ∀h' f',EWd h' e (setG G i d v f')→Eside e G h (setG G i d v f') h'→K (.tuple #[]) h'):Cl 167 [ptrV e,.pointer (some ⟨e,3+24*i,none⟩),.int .u32 (v:Int)] h K:=by
 have lt:=W.W.S.isN_lt hv
 refine sets167 W.I W.R W.C W.de.2.2 hi hd ed (by omega) hM fun h' f' I' R' C' O'=> ?_
 have hS: ∀b∈e::G.B,b∉G.L∧ ¬PBl G.E.p G.P b:=fun b hb=>by
  rcases List.mem_cons.1 hb with q|q
  ·subst q;exact⟨W.de.1,W.de.2.1⟩
  ·exact W.dB b q
 refine hK h' f' ⟨W.W.only O' (fun b hb=>(hS b hb).1) (fun b hb=>(hS b hb).2),R',I',C',W.de,W.dB,fun k hk r hr ht=> ?_,fun k hk r hr ht=> ?_,fun k hk=> ?_,W.po⟩ (Eside.some O' (fun b hb=> ?_) fun b hb=>hb)
 ·have ht:((G.E.put i (setS (G.E.ses i) d v)).ses k).there r=true:=ht
  show isN G.N (((G.E.put i (setS (G.E.ses i) d v)).ses k).hnd r)
  rw[ses_put]at ht ⊢
  by_cases q:k=i
  ·rw[if_pos q]at ht ⊢
   by_cases w:r=d
   ·subst w
    rw[show(setS (G.E.ses i) r v).hnd r=v from upN_eq]
    exact hv
   ·rw[show(setS (G.E.ses i) d v).hnd r=(G.E.ses i).hnd r from upN_ne w]
    rw[show(setS (G.E.ses i) d v).there r=(G.E.ses i).there r from upN_ne w]at ht
    exact W.rg i hi r hr ht
  ·rw[if_neg q]at ht ⊢
   exact W.rg k hk r hr ht
 ·have ht:((G.E.put i (setS (G.E.ses i) d v)).ses k).there r=false:=ht
  show((G.E.put i (setS (G.E.ses i) d v)).ses k).hnd r=0
  rw[ses_put]at ht ⊢
  by_cases q:k=i
  ·rw[if_pos q]at ht ⊢
   by_cases w:r=d
   ·subst w
    rw[show(setS (G.E.ses i) r v).there r=true from upN_eq]at ht
    cases ht
   ·rw[show(setS (G.E.ses i) d v).hnd r=(G.E.ses i).hnd r from upN_ne w]
    rw[show(setS (G.E.ses i) d v).there r=(G.E.ses i).there r from upN_ne w]at ht
    exact W.r0 i hi r hr ht
  ·rw[if_neg q]at ht ⊢
   exact W.r0 k hk r hr ht
 ·show((G.E.put i (setS (G.E.ses i) d v)).ses k).cal.mask<256
  rw[ses_put]
  by_cases q:k=i
  ·rw[if_pos q];exact W.mq i hi
  ·rw[if_neg q];exact W.mq k hk
 ·rcases List.mem_cons.1 hb with q|q
  ·subst q;exact mem_ebl.2 (.inl rfl)
  ·exact mem_ebl.2 (.inr (.inr (.inl q)))
end
end
end Go.Proofs.YtnofenejoebkhaaGreat.Ev
