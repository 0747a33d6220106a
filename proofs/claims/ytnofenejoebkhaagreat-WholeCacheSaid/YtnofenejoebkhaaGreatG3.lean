/- PART 3 OF WHAT THE LAW WholeCache STANDS ON: NodG5, NodH5, NodI5, NodJ5, NodK5, StoA5, SemA5, RunP5, RecF5, StoB5, StoC5, LogF5, PlyF5, FunE5, FunG5, FunH5, MakA5, PlyG5, MakB5, LogA5. Conditions: none but those that each lemma states. -/
import Derived.Test.YtnofenejoebkhaaGreatG2
namespace Go.Proofs.YtnofenejoebkhaaGreat.Ev
open Go
section
section
variable {h:Heap}{s n room:Nat}{B:SB}{f g:Nat→Nat}{N:List (Option Nd)}{F:List Nat}{Q:Int→Int→Prop}{off:Bool}{K:Value→Heap→Prop}
theorem has74(H:StM h s n room B f g N F Q off)(Tm:TabM h s B N){k:Nat}(hk:k≠0)
  (hY: ∀h' i x,nd N i=some x→kf x=k→Only [B.m,B.mc] h h'→TabM h' s B N→K (.tuple #[.int .u32 ((i+2:Nat):Int),.bool true]) h')
  (hN: ∀h',NoKey N k→Only [B.m,B.mc] h h'→TabM h' s B N→K (.tuple #[.int .u32 0,.bool false]) h'):
  Cl 199 [.pointer (some ⟨s,0,none⟩),.int .u64 (k:Int)] h K:=by
 obtain⟨T,cs,mm,ops,fails,t1,t2,t3,L,⟨q,t5⟩,t6,t7⟩:=Tm.tab
 have hT:1≤T:=by have:=Nat.two_pow_pos q;omega
 have nn:=Tm.nd
 simp only[SB.bt,List.nodup_cons,List.mem_cons,List.not_mem_nil,or_false,not_or,List.nodup_nil,and_true,not_false_eq_true]at nn
 obtain⟨s1,s2,s3⟩:=nn
 have sp:s∉B.bt:=fun hm=>Tm.sep s hm (by simp[SB.bm])
 simp only[SB.bt,List.mem_cons,List.not_mem_nil,or_false,not_or]at sp
 refine F199.spec _ _ h K ?_
 simp only[add_mk,Nat.zero_add]
 refine ldP_of (by rw[At.rd H.S];rfl) (slots_spec t1 (ldI_of rfl ?_))
 unfold F199.wk3
 have mk: ∀h' ops',MemIs h' B.m B.mc cs ops' fails→Only [B.m,B.mc] h h'→TabM h' s B N:=fun h' ops' M O=> 
  ⟨⟨T,cs,mm,ops',fails,t1.only O (by simp;omega),M,t3.only O (by simp;omega),L,⟨q,t5⟩,t6,t7⟩,Tm.nd,Tm.sep⟩
 have S': ∀{h'},Only [B.m,B.mc] h h'→At h' s (scell room B N.length F.length off):=fun O=>H.S.only O (by simp;omega)
 have main: ∀(d i:Nat) (h':Heap) (ops':Int),i+d=T→Seen 0 T cs (k:Int) i→MemIs h' B.m B.mc cs ops' fails→Only [B.m,B.mc] h h'→F199.wL3 (d+1) ⟨s,0,none⟩ (k:Int) (T:Int) (T:Int) (i:Int) h' K:=by
  intro d
  induction d with
  |zero=>
   intro i h' ops' hd S M O
   rw[F199.sL3]
   rw[decide_eq_false (by omega),bcase_false]
   refine hN h' (fun i0 x hx e=> ?_) O (mk h' ops' M O)
   obtain⟨j,hj,ej⟩:=L.all i0 x hx
   obtain⟨d',hd',ed⟩:=path_surj (key:=(k:Int)) hj
   have:=(S d' (by omega)).2
   rw[ed,ej,e]at this
   exact this rfl
  |succ d ih=>
   intro i h' ops' hd S M O
   rw[F199.sL3]
   rw[decide_eq_true (by omega),bcase_true]
   refine home_spec (by omega) (by omega) (ldI_of rfl ⟨by omega,?_⟩)
   simp only[add_mk,Nat.zero_add]
   refine ldP_of (by rw[At.rd (S' O)];rfl) ?_
   have hh:=home_lt (k:Int) (n:=T) (by omega)
   have ep:Int.tmod (IntKind.wrap .i64 ((home (k:Int) T:Int)+(i:Int))) (T:Int)=((path T (k:Int) i:Nat):Int):=by
    unfold path
    generalize home (k:Int) T=y at hh
    rw[wrap_i64 (by omega) (by omega),show(y:Int)+(i:Int)=((y+i:Nat):Int) by omega,Int.tmod_eq_emod_of_nonneg (by omega)]
    rfl
   rw[ep]
   have hp:path T (k:Int) i<T:=path_lt (by omega)
   refine at_spec (t1.only O (by simp;omega)) M (by omega) (by omega) (by have:=L.len;omega) hp fun h2 M2 O2=>ldI_of rfl ?_
   have O':Only [B.m,B.mc] h h2:=O.trans O2 (by intro b hb _;exact hb)
   refine bcase_of (fun hb=> ?_) fun hb=> ?_
   ·have hb:cell 0 cs (path T (k:Int) i)=(k:Int):=by simpa using hb
    refine⟨_,by rw[At.rd (S' O')];rfl,?_⟩
    rcases L.cells _ hp with h0|⟨i0,x,c1,c2,c3⟩
    ·omega
    refine look_map (m:=mm) (t3.only O' (by simp;omega)) (fun hn=>by rw[hn]at c3;cases c3) fun j v hv=> ?_
    rw[c3]at hv
    injection hv with hv
    subst hv
    exact ldI_of rfl (hY h2 i0 x c1 (by omega) O' (mk h2 _ M2 O'))
   ·have hb:cell 0 cs (path T (k:Int) i)≠(k:Int):=by simpa using hb
    refine bcase_of (fun hz=> ?_) fun hz=> ?_
    ·have hz:cell 0 cs (path T (k:Int) i)=0:=by simpa using hz
     refine hN h2 (fun i0 x hx e=> ?_) O' (mk h2 _ M2 O')
     obtain⟨j,hj,ej⟩:=L.all i0 x hx
     exact L.inv.absent (by omega) (by omega) S hz j hj (by rw[ej,e])
    ·have hz:cell 0 cs (path T (k:Int) i)≠0:=by simpa using hz
     rw[show IntKind.wrap .i64 ((i:Int)+1)=((i+1:Nat):Int) by rw[wrap_i64 (by omega) (by omega)];omega]
     refine ih (i+1) h2 _ (by omega) (fun j hj=> ?_) M2 O'
     by_cases e:j=i
     ·subst e;exact⟨hz,hb⟩
     ·exact S j (by omega)
 exact⟨_,main T 0 h ops (by omega) (fun j hj=>by omega) t2 (Only.refl _ _)⟩
end
end
section
theorem mid_nodup{A P P' C:List Nat}(H:(A++P++C).Nodup)(hp:P'.Nodup)(hx: ∀x∈P',x∉A∧x∉C):(A++P'++C).Nodup:=by
 simp only[List.nodup_append,List.mem_append,ne_eq]at H ⊢
 obtain⟨⟨h1,-,-⟩,h3,h4⟩:=H
 exact⟨⟨h1,hp,fun a ha b hb e=>(hx b hb).1 (e▸ha)⟩,h3,fun a ha b hb e=>ha.elim (fun h=>h4 a (.inl h) b hb e) fun h=>(hx a h).2 (e▸hb)⟩
theorem own_nodup(p:Option Addr):(OwnB p).Nodup:=by cases p<;>simp[OwnB]
theorem SB.grow{B:SB}{s:Nat}{h:Heap}{p':Option Addr}{c':Nat}(H:(B.bm s).Nodup)(hlt: ∀b∈B.bm s,b<h.size)(hp: ∀b∈OwnB p',b∈OwnB B.p∨h.size≤b):
  (SB.bm {B with p:=p',c:=c'} s).Nodup∧ ∀b∈SB.bm {B with p:=p',c:=c'} s,b∈B.bm s∨h.size≤b:=by
 refine⟨mid_nodup H (own_nodup p') fun x hx=> ?_,fun b hb=> ?_⟩
 ·rcases hp x hx with h1|h1
  ·unfold SB.bm at H
   simp only[List.nodup_append,List.mem_append,ne_eq]at H
   obtain⟨⟨_,_,h2⟩,_,h4⟩:=H
   exact⟨fun hA=>h2 x hA x h1 rfl,fun hC=>h4 x (.inr h1) x hC rfl⟩
  ·refine⟨fun hA=> ?_,fun hC=> ?_⟩
   ·have:=hlt x (by simp only[SB.bm,List.mem_append];exact .inl (.inl hA))
    omega
   ·have:=hlt x (by simp only[SB.bm,List.mem_append];exact .inr hC)
    omega
 ·simp only[SB.bm,List.mem_append]at hb ⊢
  rcases hb with(hb|hb)|hb
  ·exact .inl (.inl (.inl hb))
  ·rcases hp b hb with h1|h1
   ·exact .inl (.inl (.inr h1))
   ·exact .inr h1
  ·exact .inl (.inr hb)
theorem keep_ptr(p:Option Addr)(c:Nat):(if c=0 then p else Option.map (fun a=>Addr.add a (0*1)) p)=p:=by
 split
 ·rfl
 ·cases p with
  |none=>rfl
  |some a=>simp[add_zero]
def HRel(N:List (Option Nd))(F:List Nat)(N':List (Option Nd))(F':List Nat)(a:Nat):Prop:=(F=[]∧N'=N++[none]∧F'=[]∧a=N.length+2)∨(F=F'++[a]∧N'=N)
section
variable {h:Heap}{s n room:Nat}{B:SB}{f g:Nat→Nat}{N M:List (Option Nd)}{F:List Nat}{Q:Int→Int→Prop}{off:Bool}{K:Value→Heap→Prop}
set_option maxRecDepth 100000 in
theorem handle77(H:StM h s n room B f g N F Q off)(hroom:F=[]→N.length<room)
  (hK: ∀h' p' c' N' F' a,HRel N F N' F' a→StM h' s n room {B with p:=p',c:=c'} f g N' F' Q off→Only (s::OwnB B.p) h h'→(∀b∈OwnB p',b∈OwnB B.p∨h.size≤b)→K (.int .u32 (a:Int)) h'):
  Cl 201 [.pointer (some ⟨s,0,none⟩)] h K:=by
 have hl:=H.len
 have hsz:s<h.size:=H.S.lt
 have hsep:=H.sep
 have hlt:=H.lt
 have hin:s∉OwnB B.p∧s∉OwnB B.fp∧s∉[B.ob,B.cac,B.cm,B.cmc]:=by
  unfold SB.bm at hsep
  simp only[List.cons_append,List.nodup_cons,List.mem_cons,List.mem_append,not_or,List.nil_append]at hsep
  simp only[List.mem_cons,List.not_mem_nil,or_false,not_or]
  exact⟨hsep.1.2.2.2.2.1,hsep.1.2.2.2.2.2,hsep.1.1,hsep.1.2.1,hsep.1.2.2.1,hsep.1.2.2.2.1⟩
 refine F201.spec _ h K ?_
 simp only[add_mk,Nat.zero_add]
 have rf:rd h ⟨s,3,none⟩=some (.slice B.fp F.length B.fc):=by rw[At.rd H.S];rfl
 refine ldS_of rf ?_
 rcases List.eq_nil_or_concat F with e|⟨F',a,e⟩
 ·subst e
  rw[decide_eq_false (by simp),bcase_false]
  have hr:=hroom rfl
  refine ldS_of (by rw[At.rd H.S];rfl) ?_
  refine newK_at fun h1 A1 O1 z1=> ?_
  have As:=H.S.only O1 (by simp)
  have Ws:=H.own.only O1 (by simp)
  refine own_app (new:=ncell none) Ws A1 rfl rfl (by omega) (by simp[ncell,Value.oneCell']) (by omega) fun p' c' h2 W2 O2 hb2=> ?_
  have As2:=As.only O2 hin.1
  have hs':s∉OwnB p':=fun hm=>by
   rcases hb2 s hm with h|h
   ·exact hin.1 h
   ·omega
  refine stK_at As2 (by simp[scell]) rfl fun h3 A3 O3 _=> ?_
  replace A3:At h3 s (scell room {B with p:=p',c:=c'} (N.length+1) 0 off):=A3
  refine ldS_of (by rw[At.rd A3];rfl) ?_
  rw[show IntKind.wrap .u32 (IntKind.wrap .i64 (IntKind.wrap .i64 (((N.length+1:Nat):Int)-1)+2))=((N.length+2:Nat):Int) by
   have w1:IntKind.wrap .i64 (((N.length+1:Nat):Int)-1)=((N.length+1:Nat):Int)-1:=wrap_i64 (by omega) (by omega)
   rw[w1,wrap_i64 (by omega) (by omega),show((N.length+1:Nat):Int)-1+2=((N.length+2:Nat):Int) by omega]
   exact wrap32 (by omega)]
  have OO:Only (s::OwnB B.p) h h3:=(((Only.refl (s::OwnB B.p) h).trans O1 (by simp)).trans O2 (by intro b hb _;simp[hb])).trans O3 (by intro b hb _;simp at hb;simp[hb])
  have hb3: ∀b∈OwnB p',b∈OwnB B.p∨h.size≤b:=fun b hb=>by
   rcases hb2 b hb with h|h
   ·exact .inl h
   ·exact .inr (by omega)
  obtain⟨g1,g2⟩:=SB.grow (c':=c') hsep hlt hb3
  have dis: ∀b,b∈[B.ob,B.cac,B.cm,B.cmc]++OwnB B.fp→b∉s::OwnB B.p:=fun b hb hm=>by
   unfold SB.bm at hsep
   simp only[List.nodup_append,List.mem_append,ne_eq]at hsep
   obtain⟨⟨h1,_,h2⟩,_,h4⟩:=hsep
   rcases List.mem_append.1 hb with hb|hb
   ·rcases List.mem_cons.1 hm with e|hm
    ·exact hin.2.2 (e▸hb)
    ·exact h2 b (by simp only[List.mem_cons]at hb ⊢;exact .inr hb) b hm rfl
   ·rcases List.mem_cons.1 hm with e|hm
    ·exact hin.2.1 (e▸hb)
    ·exact h4 b (.inr hm) b hb rfl
  refine hK h3 p' c' (N++[none]) [] _ (.inl ⟨rfl,rfl,rfl,rfl⟩) ⟨by rw[List.length_append];exact A3,H.O.only OO (dis _ (by simp)),?_,H.fre.only OO fun b hb=>dis _ (by simp[hb]),H.cac.only OO (dis _ (by simp)) (dis _ (by simp)) (dis _ (by simp)),H.n8,by rw[List.length_append];exact⟨hr,hl.2.1,by simp⟩,g1⟩ OO hb3
  rw[nrow_app,List.length_append]
  exact W2.only O3 fun b hb hm=>hs' (by simp at hm;subst hm;rw[hb];simp[OwnB])
 ·rw[List.concat_eq_append]at e
  subst e
  rw[List.length_append]at rf
  rw[List.length_append,decide_eq_true (by simp),bcase_true]
  refine ldS_of rf ?_
  have fr:=H.fre
  have hfl:(frow (F'++[a])).length=F'.length+1:=by simp[frow]
  obtain⟨ad,e1,e2⟩:=fr.rd (j:=F'.length) (by omega)
  rw[e1,ptrK_some]
  have w1:IntKind.wrap .i64 (((F'.length+[a].length:Nat):Int)-1)=(F'.length:Int):=by
   have hcap:=fr.cap
   have hF:F'.length<9223372036854775807:=by
    have:=hl.2.2
    rw[List.length_append]at this
    omega
   rw[wrap_i64 (by rw[List.length_singleton];omega) (by rw[List.length_singleton];omega)]
   simp
  rw[w1]
  refine⟨by omega,by rw[List.length_singleton];omega,?_⟩
  rw[Nat.mul_one,Int.toNat_natCast,e2]
  refine ldI_of (by simp[frow];rfl) ?_
  refine ldS_of rf ⟨by omega,?_,?_⟩
  ·have:=fr.cap
   simp at this
   omega
  ·rw[e1,keep_ptr,Nat.sub_zero,Nat.sub_zero]
   refine stK_at H.S (by simp[scell]) rfl fun h3 A3 O3 _=> ?_
   have dis: ∀b,b∈[B.ob,B.cac,B.cm,B.cmc]++OwnB B.p++OwnB B.fp→b∉[s]:=fun b hb hm=>by
    simp only[List.mem_singleton]at hm
    subst hm
    rcases List.mem_append.1 hb with hb|hb
    ·rcases List.mem_append.1 hb with hb|hb
     ·exact hin.2.2 hb
     ·exact hin.1 hb
    ·exact hin.2.1 hb
   refine hK h3 B.p B.c N F' a (.inr ⟨rfl,rfl⟩) ⟨?_,H.O.only O3 (dis _ (by simp)),H.own.only O3 fun b hb=>dis _ (by simp[hb,OwnB]),?_,H.cac.only O3 (dis _ (by simp)) (dis _ (by simp)) (dis _ (by simp)),H.n8,⟨hl.1,hl.2.1,by have:=hl.2.2;rw[List.length_append]at this;omega⟩,hsep⟩ (O3.mono (by simp)) fun b hb=> .inl hb
   ·rw[←e1]at A3
    exact A3
   ·have pp:=fr
    rw[show frow (F'++[a])=frow F'++[.int .u32 (a:Int)] by simp[frow],List.length_append]at pp
    have pq:=pp.pop
    rw[keep_ptr]at pq
    exact pq.only O3 fun b hb=>dis _ (by simp[hb])
end
end
section
theorem info116:(Tryz.prog.info? 218).map (·.size)=some 0:=by kernel_rfl
theorem store116{a:Addr}{h:Heap}{K:Heap→Prop}(hK:K h):storeE Tryz.prog 218 (some a) (.agg #[]) h K:=by
 unfold storeE
 have e:=info116
 cases hi:Tryz.prog.info? 218 with
 |none=>rw[hi]at e;cases e
 |some ti=>
  rw[hi]at e
  have e:ti.size=0:=by simpa using e
  have e2:Nat.beq (Value.agg #[]).cells.size ti.size=true:=by rw[e];rfl
  dsimp only
  rw[e2]
  exact hK
theorem newK_map4{h:Heap}{k:IntKind}{K:Nat→Heap→Prop}(hK: ∀h',MapM h' h.size k []→Only [] h h'→h'.size=h.size+1→K h.size h'):newK h (.map #[] 0) K:=
 hK _ (MapM.empty (by unfold mp;simp)) (Only.push_map h _ _) (by simp)
theorem Ints.only'{S:List Nat}{h h':Heap}{k:IntKind}{p:Option Addr}{zs:List Int}(H:Ints h k p zs)(O:Only S h h')(hS: ∀a,p=some a→a.block∉S):Ints h' k p zs:=by
 intro i hi
 obtain⟨a,e,hr⟩:=H i hi
 refine⟨a,e,?_⟩
 rw[←hr]
 have hab:(a.add i).block=a.block:=by
  unfold Addr.add
  split<;>rfl
 have hb:(a.add i).block<h.size:=by
  apply Classical.byContradiction
  intro hn
  have:h[(a.add i).block]? =none:=Array.getElem?_eq_none (by omega)
  simp[rd,this]at hr
 unfold rd
 rw[O.same _ hb (by rw[hab];exact hS a e)]
def era(bl:List Nat)(N:List (Option Nd)):List (Option Nd):=N.mapIdx fun i o=>if i+2∈bl then none else o
theorem era_get{bl:List Nat}{N:List (Option Nd)}{i:Nat}{o:Option Nd}(h:N[i]? =some o):(era bl N)[i]? =some (if i+2∈bl then none else o):=by
 unfold era
 rw[List.getElem?_mapIdx,h]
 rfl
theorem era_len{bl:List Nat}{N:List (Option Nd)}:(era bl N).length=N.length:=by simp[era]
theorem era_nil(N:List (Option Nd)):era [] N=N:=by
 apply List.ext_getElem?
 intro i
 unfold era
 rw[List.getElem?_mapIdx]
 cases N[i]? <;>simp
theorem take_succ'{E:List (Option Nd)}{i:Nat}{x:Option Nd}(h:E[i]? =some x):E.take (i+1)=E.take i++[x]:=by
 rw[List.take_add_one,h]
 rfl
theorem nd_take{E:List (Option Nd)}{i k:Nat}{x:Nd}(h:nd (E.take i) k=some x):nd E k=some x∧k<i:=by
 have hl:=nd_lt h
 rw[List.length_take]at hl
 have:=nd_some.1 h
 rw[List.getElem?_take_of_lt (by omega)]at this
 exact⟨nd_some.2 this,by omega⟩
def SB.tabs(B:SB)(tb m mc sb:Nat):SB:={B with tb:=tb,m:=m,mc:=mc,sb:=sb}
def OutM(mo:List (Int×Value))(bl:List Nat):Prop:= ∀k:Nat,(k∈bl→mo.lookup (k:Int)=some (.agg #[]))∧(k∉bl→mo.lookup (k:Int)=none)
structure StR(h:Heap)(s n room:Nat)(B:SB)(f g:Nat→Nat)(N:List (Option Nd))(F:List Nat)(Q:Int→Int→Prop):Prop where
 O:OrdIs h B.ob n f g
 own:Own h 0 4 B.p N.length B.c (nrow N)
 fre:Win h 0 B.fp F.length B.fc (frow F)
 cac:CacOk h B Q
 n8:1≤n∧n≤8
 len:N.length≤room∧room≤32768∧F.length≤N.length
 sep:(B.bm s).Nodup
theorem StM.r{h:Heap}{s n room:Nat}{B:SB}{f g:Nat→Nat}{N:List (Option Nd)}{F:List Nat}{Q:Int→Int→Prop}{off:Bool}(H:StM h s n room B f g N F Q off):StR h s n room B f g N F Q:=⟨H.O,H.own,H.fre,H.cac,H.n8,H.len,H.sep⟩
def gcell(room:Nat)(B:SB)(l fl:Nat)(off:Bool)(v4 v5:Value):List Value:=[.int .i64 (room:Int),.pointer (some ⟨B.ob,0,none⟩),.slice B.p l B.c,.slice B.fp fl B.fc,v4,v5,.pointer (some ⟨B.cac,0,none⟩),.bool off]
theorem StR.lt{h:Heap}{s n room:Nat}{B:SB}{f g:Nat→Nat}{N:List (Option Nd)}{F:List Nat}{Q:Int→Int→Prop}(H:StR h s n room B f g N F Q)(hs:s<h.size): ∀b∈B.bm s,b<h.size:=fun b hb=>by
 obtain⟨cs,o,f,c1,-⟩:=H.cac
 have:=c1.lt
 have:=At.lt H.O
 simp only[SB.bm,List.mem_append,List.mem_cons,List.not_mem_nil,or_false]at hb
 rcases hb with(hb|hb)|hb
 ·omega
 ·exact(H.own.lt b hb).2
 ·exact(H.fre.lt b hb).2
set_option maxRecDepth 100000 in
theorem grows33{h:Heap}{s n room:Nat}{B:SB}{f g:Nat→Nat}{N:List (Option Nd)}{F:List Nat}{Q:Int→Int→Prop}{off:Bool}{K:Value→Heap→Prop}{T bc:Nat}{bp:Option Addr}{bl:List Nat}{v4 v5:Value}(HS:At h s (gcell room B N.length F.length off v4 v5))(H:StR h s n room B f g N F Q)
  (hbl:Ints h .u32 bp (bl.map fun(k:Nat)=>(k:Int))) (hbs: ∀a,bp=some a→a.block≠s) (hbb:bl.length≤32768)
  (hok: ∀i x,nd (era bl N) i=some x→NdOk x) (honce: ∀i j x,nd (era bl N) i=some x→nd (era bl N) j=some x→i=j) (hT1: ∃k,T=32*2^k) (hT:2*cntN (era bl N)≤T) (hT2:T≤262144)
  (hK: ∀tb m mc sb h',StM h' s n room (B.tabs tb m mc sb) f g N F Q off→TabM h' s (B.tabs tb m mc sb) (era bl N)→(∃cs mm ops fails,TabIs h' tb m 0 T∧MemIs h' m mc cs ops fails∧MapM h' sb .i64 mm∧Laid T cs mm (era bl N))→h.size≤tb→h.size≤m→h.size≤mc→h.size≤sb→Only [s] h h'→K (.tuple #[]) h'):
  Cl 111 [.pointer (some ⟨s,0,none⟩),.int .i64 (T:Int),.slice bp bl.length bc] h K:=by
 have hT0:1≤T:=by
  obtain⟨k,e⟩:=hT1
  have:=Nat.two_pow_pos k
  omega
 have hsep:=H.sep
 have hlen:=H.len
 have hin:s∉OwnB B.p∧s∉OwnB B.fp∧s∉[B.ob,B.cac,B.cm,B.cmc]:=by
  unfold SB.bm at hsep
  simp only[List.cons_append,List.nodup_cons,List.mem_cons,List.mem_append,not_or,List.nil_append]at hsep
  simp only[List.mem_cons,List.not_mem_nil,or_false,not_or]
  exact⟨hsep.1.2.2.2.2.1,hsep.1.2.2.2.2.2,hsep.1.1,hsep.1.2.1,hsep.1.2.2.1,hsep.1.2.2.2.1⟩
 have dis: ∀b,b∈[B.ob,B.cac,B.cm,B.cmc]++OwnB B.p++OwnB B.fp→b∉[s]:=fun b hb hm=>by
  simp only[List.mem_singleton]at hm
  subst hm
  rcases List.mem_append.1 hb with hb|hb
  ·rcases List.mem_append.1 hb with hb|hb
   ·exact hin.2.2 hb
   ·exact hin.1 hb
  ·exact hin.2.1 hb
 have W:=H.own
 have hs:=hin.1
 refine F111.spec _ _ _ _ _ h K ?_
 simp only[add_mk,Nat.zero_add]
 have hsz:=HS.lt
 refine new_spec fun m mc h1 M1 O1 g1 g2=>ldP_of rfl ?_
 rw[cellsFor_of hT2]at M1
 have lm:m<h1.size:=M1.head.lt
 have lmc:mc<h1.size:=M1.body.lt
 have hmn:=M1.ne
 refine tabnew_spec (base:=0) M1 hT0 (by simp) (by simp;omega) fun tb h2' T2 O2 g3=>⟨_,_,rfl,?_⟩
 have lt:tb<h2'.size:=At.lt T2
 have A2:=(HS.only O1 (by simp)).only O2 (by simp)
 have M2:=M1.only O2 (by simp) (by simp)
 refine stK_at A2 (by simp[gcell]) rfl fun h3 A3 O3 z3=> ?_
 have T3:=T2.only O3 (by simp;omega)
 have M3:=M2.only O3 (by simp;omega) (by simp;omega)
 refine newK_map4 (k:= .i64) fun h4 Mp4 O4 z4=> ?_
 have A4:=A3.only O4 (by simp)
 refine stK_at A4 (by simp[gcell]) rfl fun h5 A5 O5 z5=> ?_
 have Mp5:=Mp4.only O5 (by simp;omega)
 refine newK_map4 (k:= .u32) fun h6 Mq6 O6 z6=> ?_
 have O16:Only [s] h h6:=((((((Only.refl [s] h).trans O1 (by simp)).trans O2 (by simp)).trans O3 (by intro b hb _;exact hb)).trans O4 (by simp)).trans O5 (by intro b hb _;exact hb)).trans O6 (by simp)
 replace A5:At h5 s (scell room (B.tabs tb m mc h3.size) N.length F.length off):=A5
 have A6:=A5.only O6 (by simp)
 have hp: ∀b,B.p=some ⟨b,0,none⟩→b<h.size:=fun b e=>(W.lt b (by rw[e];simp[OwnB])).2
 have hps: ∀b,B.p=some ⟨b,0,none⟩→b≠s:=fun b e e2=>hs (by rw[e,e2];simp[OwnB])
 have main: ∀(d i:Nat) (h':Heap) (cs:List Int) (mm mo:List (Int×Value)) (ops fails:Int),i+d=N.length→At h' s (scell room (B.tabs tb m mc h3.size) N.length F.length off)→TabIs h' tb m 0 T→MemIs h' m mc cs ops fails→MapM h' h3.size .i64 mm→Laid T cs mm ((era bl N).take i)→
   MapM h' h5.size .u32 mo→OutM mo bl→Only [s] h h'→F111.wL9 (d+1) ⟨s,0,none⟩ (some h5.size) B.p N.length B.c (N.length:Int) (i:Int) h' K:=by
  intro d
  induction d with
  |zero=>
   intro i h' cs mm mo ops fails hd A T' M Mp L Mq Om O
   rw[F111.sL9]
   rw[decide_eq_false (by omega),bcase_false]
   rw[List.take_of_length_le (by rw[era_len];omega)]at L
   refine hK tb m mc h3.size h' ⟨A,H.O.only O (dis _ (by simp)),H.own.only O fun b hb=>dis _ (by simp[hb,OwnB]),H.fre.only O fun b hb=>dis _ (by simp[hb]),H.cac.only O (dis _ (by simp)) (dis _ (by simp)) (dis _ (by simp)),H.n8,H.len,H.sep⟩
    ⟨⟨T,cs,mm,ops,fails,T',M,Mp,L,hT1,hT,hT2⟩,?_,?_⟩ ⟨cs,mm,ops,fails,T',M,Mp,L⟩ (by omega) g1 g2 (by omega) O
   ·simp[SB.bt,SB.tabs]
    omega
   ·intro b hb hm
    have:=H.lt HS.lt b hm
    simp[SB.bt,SB.tabs]at hb
    omega
  |succ d ih=>
   intro i h' cs mm mo ops fails hd A T' M Mp L Mq Om O
   have hi:i<N.length:=by omega
   obtain⟨o,ho⟩: ∃o,N[i]? =some o:=⟨_,List.getElem?_eq_getElem hi⟩
   have he:=era_get (bl:=bl) ho
   have W':Own h' 0 4 B.p N.length B.c (nrow N):=W.only O fun b hb=>dis _ (by simp[hb,OwnB])
   obtain⟨b,eb,rr⟩: ∃b,B.p=some ⟨b,0,none⟩∧ ∀k,k<4→rd h' ⟨b,i*4+k,none⟩=(ncell o)[k]? :=by
    obtain⟨b,eb,r0⟩:=W'.rd (j:=i*4+0) (by rw[nrow_len];omega)
    refine⟨b,eb,fun k hk=> ?_⟩
    obtain⟨b',e1',e2'⟩:=W'.rd (j:=i*4+k) (by rw[nrow_len];omega)
    rw[eb]at e1'
    injection e1' with e1'
    injection e1' with e1'
    subst e1'
    rw[e2',nrow_get N i o k ho hk]
   have hb:=hp b eb
   have hbs:=hps b eb
   have hw:IntKind.wrap .u32 (IntKind.wrap .i64 ((i:Int)+2))=((i+2:Nat):Int):=by
    rw[wrap_i64 (by omega) (by omega),show(i:Int)+2=((i+2:Nat):Int) by omega]
    exact wrap32 (by omega)
   have nx: ∀(k7:Heap) (cs':List Int) (mm':List (Int×Value)) (ops' fails':Int),At k7 s (scell room (B.tabs tb m mc h3.size) N.length F.length off)→TabIs k7 tb m 0 T→MemIs k7 m mc cs' ops' fails'→MapM k7 h3.size .i64 mm'→Laid T cs' mm' ((era bl N).take (i+1))→MapM k7 h5.size .u32 mo→Only [s] h k7→
     F111.wL9 (d+1) ⟨s,0,none⟩ (some h5.size) B.p N.length B.c (N.length:Int) (IntKind.wrap .i64 ((i:Int)+1)) k7 K:=fun k7 cs' mm' ops' fails' A8 T8 M8 Mp8 L8 Mq8 O8=>by
    rw[show IntKind.wrap .i64 ((i:Int)+1)=((i+1:Nat):Int) by rw[wrap_i64 (by omega) (by omega)];omega]
    exact ih (i+1) k7 cs' mm' mo ops' fails' (by omega) A8 T8 M8 Mp8 L8 Mq8 Om O8
   have skip:(if i+2∈bl then none else o)=none→ ∀k6,Only [] h' k6→F111.wL9 (d+1) ⟨s,0,none⟩ (some h5.size) B.p N.length B.c (N.length:Int) (IntKind.wrap .i64 ((i:Int)+1)) k6 K:=fun e k6 P16=>by
    rw[e]at he
    refine nx k6 cs mm ops fails (A.only P16 (by simp)) (T'.only P16 (by simp)) (M.only P16 (by simp) (by simp)) (Mp.only P16 (by simp)) ?_ (Mq.only P16 (by simp)) (O.trans P16 (by simp))
    refine L.congr (fun k=> ?_) (by rw[take_succ' he,cnt_app];rfl)
    rw[take_succ' he,nd_app]
    split
    ·next hh=>rw[nd_out (by omega)]
    ·rfl
   rw[F111.sL9]
   rw[decide_eq_true (by omega),bcase_true,eb,ptrK_some]
   refine⟨by omega,by omega,?_⟩
   rw[←eb]
   simp only[add_mk,Nat.zero_add]
   rw[show Int.toNat (i:Int)*4=i*4 by omega,hw]
   obtain⟨tv,lv,av,bv,ec⟩: ∃tv lv av bv,ncell o=[.bool tv,.int .i64 lv,.int .u32 av,.int .u32 bv]:=by
    cases o with
    |none=>exact⟨_,_,_,_,rfl⟩
    |some x=>exact⟨_,_,_,_,rfl⟩
   rw[ec]at rr
   refine ldB_of (by rw[rr 0 (by omega)];rfl) (ldI_of (by rw[rr 1 (by omega)];rfl) (ldI_of (by rw[rr 2 (by omega)];rfl) (ldI_of (by rw[rr 3 (by omega)];rfl) ?_)))
   refine newK_at fun k1 B1 P1 y1=> ?_
   refine stK_at B1 (by simp) rfl fun k2 B2 P2 y2=>stK_at B2 (by simp) rfl fun k3 B3 P3 y3=>stK_at B3 (by simp) rfl fun k4 B4 P4 y4=>stK_at B4 (by simp) rfl fun k5 B5 P5 y5=> ?_
   replace B5:At k5 h'.size [.bool tv,.int .i64 lv,.int .u32 av,.int .u32 bv]:=B5
   have P15:Only [] h' k5:=(((P1.trans P2 (by intro b hb hl;simp at hb;omega)).trans P3 (by intro b hb hl;simp at hb;omega)).trans P4 (by intro b hb hl;simp at hb;omega)).trans P5 (by intro b hb hl;simp at hb;omega)
   have tail: ∀(o12:Option (Nat×Value)),(o12.isSome=decide (i+2∈bl))→(lkV (.agg #[]) o12= .agg #[])→ldV (some (lkV (.agg #[]) o12)) (fun v13=>newK k5 (.cells #[] 218) (fun b14 h15=>storeE Tryz.prog 218 (some (Addr.mk b14 0 none)) v13 h15 (fun h16=>ldB (rd h16 ⟨h'.size,0,none⟩) (fun b17=>bcase b17 (bcase (!(Option.isSome o12)) (ldB (rd h16 ⟨h'.size,0,none⟩) (fun b18=>ldI .i64 (rd h16 ⟨h'.size,1,none⟩) (fun n19=>ldI .u32 (rd h16 ⟨h'.size,2,none⟩) (fun n20=>ldI .u32 (rd h16 ⟨h'.size,3,none⟩) (fun n21=>Cl 160 [(.pointer (some ⟨s,0,none⟩)),(.int .u32 ((i+2:Nat):Int)),(.agg #[(.bool b18),(.int .i64 n19),(.int .u32 n20),(.int .u32 n21)])] h16 (fun v22 h23=>(v22=(.tuple #[])∧F111.wL9 (d+1) ⟨s,0,none⟩ (some h5.size) B.p N.length B.c (N.length:Int) (IntKind.wrap .i64 ((i:Int)+1)) h23 K))))))) (F111.wL9 (d+1) ⟨s,0,none⟩ (some h5.size) B.p N.length B.c (N.length:Int) (IntKind.wrap .i64 ((i:Int)+1)) h16 K)) (F111.wL9 (d+1) ⟨s,0,none⟩ (some h5.size) B.p N.length B.c (N.length:Int) (IntKind.wrap .i64 ((i:Int)+1)) h16 K))))):=by
    intro o12 e1 e2
    rw[e2]
    refine⟨_,rfl,?_⟩
    refine newK_at fun k6 B6 P6 y6=> ?_
    refine store116 ?_
    have C6:=B5.only P6 (by simp)
    have P16:Only [] h' k6:=P15.trans P6 (by simp)
    have rc: ∀k,rd k6 ⟨h'.size,k,none⟩=([.bool tv,.int .i64 lv,.int .u32 av,.int .u32 bv]:List Value)[k]? :=fun k=>At.rd C6 k
    refine ldB_of (by rw[rc 0];rfl) ?_
    rw[e1]
    cases o with
    |none=>
     simp only[ncell,List.cons.injEq,Value.bool.injEq]at ec
     rw[←ec.1,bcase_false]
     exact skip (by split<;>rfl) k6 P16
    |some x=>
     simp only[ncell,List.cons.injEq,Value.bool.injEq,Value.int.injEq,true_and,and_true]at ec
     obtain⟨c1,c2,c3,c4⟩:=ec
     rw[←c1,bcase_true]
     by_cases hm:i+2∈bl
     ·rw[decide_eq_true hm,Bool.not_true,bcase_false]
      exact skip (if_pos hm) k6 P16
     ·rw[decide_eq_false hm,Bool.not_false,bcase_true]
      refine ldB_of (by rw[rc 0];rfl) (ldI_of (by rw[rc 1];rfl) (ldI_of (by rw[rc 2];rfl) (ldI_of (by rw[rc 3];rfl) ?_)))
      rw[←c1,←c2,←c3,←c4]
      rw[if_neg hm]at he
      have hE:nd (era bl N) i=some x:=nd_some.2 he
      have hnew:NoKey ((era bl N).take i) (kf x):=fun k y hy e=>by
       obtain⟨q1,q2⟩:=nd_take hy
       have:=kf_inj (hok k y q1) (hok i x hE) e
       subst this
       have:=honce _ _ _ q1 hE
       omega
      have A7:=A.only P16 (by simp)
      have hc1:cntN ((era bl N).take (i+1))=cntN ((era bl N).take i)+1:=by rw[take_succ' he,cnt_app];rfl
      have hc2:cntN ((era bl N).take (i+1))≤cntN (era bl N):=(List.take_sublist _ _).countP_le
      refine lays54 A7 (t:=tb) (m:=m) (mc:=mc) (sb:=h3.size) (T:=T) (N':=(era bl N).take (i+1)) rfl rfl (by simp;omega)
       (T'.only P16 (by simp)) (M.only P16 (by simp) (by simp)) (Mp.only P16 (by simp)) (by omega) (by simp;omega) (by omega) (by omega) (by have:=(At.lt (T'.only P16 (by simp)));omega) (by have:=((M.only P16 (by simp) (by simp)).head).lt;omega) (by have:=((M.only P16 (by simp) (by simp)).body).lt;omega)
       L (hok i x hE) hnew (by omega) (nd_out (by rw[List.length_take];omega)) (fun k=> ?_) hc1 fun k7 cs' mm' ops' fails' A8 T8 M8 Mp8 L8 O8=>⟨rfl,?_⟩
      ·rw[take_succ' he,nd_app,List.length_take,era_len,Nat.min_eq_left (by omega)]
      ·have lq:h5.size<k6.size:=(Mq.only P16 (by simp)).lt
       exact nx k7 cs' mm' ops' fails' A8 T8 M8 Mp8 L8 ((Mq.only P16 (by simp)).only O8 (by simp;omega)) ((O.trans P16 (by simp)).trans O8 (by intro b hb hl;simp at hb ⊢;omega))
   refine look_map (m:=mo) (Mq.only P15 (by simp)) (fun hn=> ?_) fun j v hv=> ?_
   ·have:i+2∉bl:=fun hm=>by
     rw[(Om (i+2)).1 hm]at hn
     cases hn
    exact tail none (by rw[decide_eq_false this];rfl) rfl
   ·have:i+2∈bl:=Classical.byContradiction fun hm=>by
     rw[(Om (i+2)).2 hm]at hv
     cases hv
    rw[(Om (i+2)).1 this]at hv
    injection hv with hv
    subst hv
    exact tail (some (j,.agg #[])) (by rw[decide_eq_true this];rfl) rfl
 have second: ∀(h':Heap) (mo:List (Int×Value)),At h' s (scell room (B.tabs tb m mc h3.size) N.length F.length off)→TabIs h' tb m 0 T→MemIs h' m mc (List.replicate T 0) 0 0→MapM h' h3.size .i64 []→
   MapM h' h5.size .u32 mo→OutM mo bl→Only [s] h h'→F111.wk8 ⟨s,0,none⟩ (some h5.size) h' K:=by
  intro h' mo A T' M Mp Mq Om O
  unfold F111.wk8
  simp only[add_mk,Nat.zero_add]
  refine ldS_of (by rw[At.rd A];rfl) ?_
  unfold F111.wk9
  refine⟨_,main N.length 0 h' (List.replicate T 0) [] mo 0 0 (by omega) A T' M Mp ?_ Mq Om O⟩
  have cz: ∀j,cell 0 (List.replicate T (0:Int)) j=0:=fun j=>by
   unfold cell
   rw[List.getD_eq_getElem?_getD,List.getElem?_replicate]
   split<;>rfl
  refine⟨by simp,TInv.empty fun i _=>cz i,fun j _=> .inl (cz j),by simp[nd],?_,by simp[nd]⟩
  rw[cnt_zero T fun i _=>cz i]
  rfl
 unfold F111.wk4
 have first: ∀(d i:Nat) (h':Heap) (mo:List (Int×Value)),i+d=bl.length→At h' s (scell room (B.tabs tb m mc h3.size) N.length F.length off)→TabIs h' tb m 0 T→MemIs h' m mc (List.replicate T 0) 0 0→MapM h' h3.size .i64 []→
   MapM h' h5.size .u32 mo→OutM mo (bl.take i)→Only [s] h h'→F111.wL4 (d+1) ⟨s,0,none⟩ (some h5.size) bp bl.length bc (bl.length:Int) (i:Int) h' K:=by
  intro d
  induction d with
  |zero=>
   intro i h' mo hd A T' M Mp Mq Om O
   rw[F111.sL4]
   rw[decide_eq_false (by omega),bcase_false]
   rw[List.take_of_length_le (by omega)]at Om
   exact second h' mo A T' M Mp Mq Om O
  |succ d ih=>
   intro i h' mo hd A T' M Mp Mq Om O
   have hi:i<bl.length:=by omega
   obtain⟨a,ea,er⟩:=(hbl.only' O fun a e hm=>hbs a e (by simpa using hm)) i (by simpa using hi)
   have e3:(bl.map fun(k:Nat)=>(k:Int)).getD i 0=(bl[i]:Int):=by simp[List.getD,hi]
   rw[e3]at er
   rw[F111.sL4]
   rw[decide_eq_true (by omega),bcase_true,ea,ptrK_some]
   refine⟨by omega,by omega,?_⟩
   rw[←ea,Nat.mul_one,Int.toNat_natCast,er]
   refine ldI_of rfl ?_
   refine upd_map Mq fun k3 Mq3 P3 y3=> ?_
   rw[show IntKind.wrap .i64 ((i:Int)+1)=((i+1:Nat):Int) by
    rw[wrap_i64 (by omega) (by omega)];omega]
   have lq:=Mq.lt
   refine ih (i+1) k3 _ (by omega) (A.only P3 (by simp;omega)) (T'.only P3 (by simp;omega)) (M.only P3 (by simp;omega) (by simp;omega)) (Mp.only P3 (by simp;omega)) Mq3 (fun k=> ?_) (O.trans P3 (by intro b hb hl;simp at hb;omega))
   rw[lookup_mset,List.take_add_one,List.getElem?_eq_getElem hi]
   simp only[Option.toList_some,List.mem_append,List.mem_singleton]
   refine⟨fun hk=> ?_,fun hk=> ?_⟩
   ·by_cases e:k=bl[i]
    ·rw[if_pos (by omega)]
    ·rw[if_neg (by omega)]
     exact(Om k).1 (hk.resolve_right e)
   ·rw[if_neg (fun e=>hk (.inr (by omega)))]
    exact(Om k).2 fun hm=>hk (.inl hm)
 have Z6:OutM [] (bl.take 0):=fun k=>⟨fun hm=>by simp at hm,fun _=>rfl⟩
 exact⟨_,first bl.length 0 h6 [] (by omega) A6 ((T3.only O4 (by simp)).only O5 (by simp;omega)|>.only O6 (by simp)) (((M3.only O4 (by simp) (by simp)).only O5 (by simp;omega) (by simp;omega)).only O6 (by simp) (by simp)) (Mp5.only O6 (by simp)) Mq6 Z6 O16⟩
end
section
structure StIs(h:Heap)(s n room:Nat)(B:SB)(f g:Nat→Nat)(N:List (Option Nd))(F:List Nat)(Q:Int→Int→Prop)(off:Bool):Prop where
 m:StM h s n room B f g N F Q off
 t:TabM h s B N
 ok:NOk n N
 cnt:N.length=cntN N+F.length
 fre:F.Nodup∧ ∀a∈F,2≤a∧a-2<N.length∧nd N (a-2)=none
theorem NOk.ndok{n:Nat}{N:List (Option Nd)}(H:NOk n N)(hn:n≤8)(hl:N.length≤32768){i:Nat}{x:Nd}(hx:nd N i=some x):NdOk x:=by
 obtain⟨a,b,c,d,-⟩:=H.node i x hx
 have lt: ∀{y},isN N y→y<2^28:=fun {y} h=>by
  rcases h with h|⟨z,h⟩
  ·omega
  ·have:=nd_lt h
   omega
 exact⟨by omega,lt b,lt c,d⟩
structure Plus(N N':List (Option Nd))(q:Nat)(x:Nd):Prop where
 was:nd N q=none
 get: ∀k,nd N' k=if k=q then some x else nd N k
 cnt:cntN N'=cntN N+1
 len:N.length≤N'.length∧N'.length≤N.length+1
theorem Plus.isN{N N':List (Option Nd)}{q:Nat}{x:Nd}(P:Plus N N' q x){a:Nat}(h:isN N a):isN N' a:=by
 rcases h with h|⟨y,h⟩
 ·exact .inl h
 ·refine .inr ?_
  rw[P.get]
  split
  ·exact⟨_,rfl⟩
  ·exact⟨y,h⟩
theorem Plus.old{N N':List (Option Nd)}{q:Nat}{x:Nd}(P:Plus N N' q x){i:Nat}{y:Nd}(h:nd N i=some y):nd N' i=some y:=by
 rw[P.get,if_neg]
 ·exact h
 ·intro e
  subst e
  rw[P.was]at h
  cases h
theorem Plus.lvl{N N':List (Option Nd)}{q n:Nat}{x:Nd}(P:Plus N N' q x){a:Nat}(h:Ev.isN N a):lvl n N' a=lvl n N a:=by
 unfold Ev.lvl
 rcases h with h|⟨y,h⟩
 ·rw[if_pos h,if_pos h]
 ·rw[P.old h,h]
theorem Plus.ok{n:Nat}{N N':List (Option Nd)}{q:Nat}{x:Nd}(P:Plus N N' q x)(H:NOk n N)(h1:x.1<n)(h2:Ev.isN N x.2.1)(h3:Ev.isN N x.2.2)(h4:x.2.1≠x.2.2)(h5:x.1<Ev.lvl n N x.2.1)(h6:x.1<Ev.lvl n N x.2.2)(h7: ∀i,nd N i≠some x):NOk n N':=by
 refine⟨fun i y hy=> ?_,fun i j y hi hj=> ?_⟩
 ·rw[P.get]at hy
  split at hy
  ·injection hy with hy
   subst hy
   exact⟨h1,P.isN h2,P.isN h3,h4,by rw[P.lvl h2];exact h5,by rw[P.lvl h3];exact h6⟩
  ·obtain⟨a,b,c,d,e,f⟩:=H.node i y hy
   exact⟨a,P.isN b,P.isN c,d,by rw[P.lvl b];exact e,by rw[P.lvl c];exact f⟩
 ·rw[P.get]at hi hj
  split at hi
  ·injection hi with hi
   subst hi
   split at hj
   ·omega
   ·exact absurd hj (h7 j)
  ·split at hj
   ·injection hj with hj
    subst hj
    exact absurd hi (h7 i)
   ·exact H.once i j y hi hj
def MkRel(room:Nat)(N:List (Option Nd))(l a b:Nat)(N':List (Option Nd))(r e:Nat):Prop:=
 (a=b∧r=a∧e=0∧N'=N)∨(a≠b∧ ∃i,nd N i=some (l,a,b)∧r=i+2∧e=0∧N'=N)∨
 (a≠b∧(∀i,nd N i≠some (l,a,b))∧room≤cntN N∧r=0∧e=60∧N'=N)∨
 (a≠b∧(∀i,nd N i≠some (l,a,b))∧cntN N<room∧e=0∧ ∃q,r=q+2∧Plus N N' q (l,a,b))
section
variable {h:Heap}{s n room:Nat}{B:SB}{f g:Nat→Nat}{N:List (Option Nd)}{F:List Nat}{Q:Int→Int→Prop}{off:Bool}{K:Value→Heap→Prop}
theorem StIs.only{L:List Nat}{h':Heap}(H:StIs h s n room B f g N F Q off)(O:Only L h h')(h1: ∀b∈L,b∉B.bm s∧b∉B.bt):StIs h' s n room B f g N F Q off:=
 ⟨H.m.only O fun b hb=>(h1 b hb).1,H.t.only O fun b hb=>(h1 b hb).2,H.ok,H.cnt,H.fre⟩
set_option maxRecDepth 100000 in
theorem mk_tail(H:StM h s n room B f g N F Q off)(Tm:TabM h s B N)(ok:NOk n N)(hc:N.length=cntN N+F.length)(hfre:F.Nodup∧ ∀a∈F,2≤a∧a-2<N.length∧nd N (a-2)=none){l a b:Nat}(hl:l<n)(ha:isN N a)(hb:isN N b)
  (la:l<lvl n N a) (lb:l<lvl n N b) (hne:a≠b) (hnew: ∀i,nd N i≠some (l,a,b)) (hr:cntN N<room) (hT: ∃T cs mm ops fails,TabIs h B.tb B.m 0 T∧MemIs h B.m B.mc cs ops fails∧MapM h B.sb .i64 mm∧Laid T cs mm N∧(∃k,T=32*2^k)∧2*(cntN N+1)≤T∧T≤262144)
  (hK: ∀h' B' N' F' q,Plus N N' q (l,a,b)→StIs h' s n room B' f g N' F' Q off→Only (B.bm s++B.bt) h h'→(∀y∈B'.bm s++B'.bt,y∈B.bm s++B.bt∨h.size≤y)→K (.tuple #[.int .u32 ((q+2:Nat):Int),.int .i64 0]) h'):
  F161.wk17 ⟨s,0,none⟩ (l:Int) (a:Int) (b:Int) h K:=by
 have hn8:=H.n8
 have hlen:=H.len
 unfold F161.wk17
 refine handle77 H (fun e=>by subst e;simp at hc;omega) fun h1 p' c' N1 F1 a1 R H1 O1 hp=>ldI_of rfl ?_
 have hsub: ∀b∈s::OwnB B.p,b∈B.bm s:=fun b hb=>by
  rcases List.mem_cons.1 hb with e|hb
  ·subst e;simp[SB.bm]
  ·simp only[SB.bm,List.mem_append]
   exact .inl (.inr hb)
 have Tm1:TabM h1 s {B with p:=p',c:=c'} N:=by
  have:=Tm.only O1 (fun b hb hm=>Tm.sep b hm (hsub b hb))
  refine⟨this.tab,this.nd,fun b hb hm=> ?_⟩
  rcases(SB.grow (c':=c') H.sep H.lt hp).2 b hm with h2|h2
  ·exact Tm.sep b hb h2
  ·have:=Tm.lt b hb
   omega
 have hT1: ∃T cs mm ops fails,TabIs h1 B.tb B.m 0 T∧MemIs h1 B.m B.mc cs ops fails∧MapM h1 B.sb .i64 mm∧Laid T cs mm N∧(∃k,T=32*2^k)∧2*(cntN N+1)≤T∧T≤262144:=by
  obtain⟨T,cs,mm,o,f',t1,t2,t3,t4⟩:=hT
  have d: ∀b,b∈B.bt→b∉s::OwnB B.p:=fun b hb hl=>Tm.sep b hb (hsub b hl)
  exact⟨T,cs,mm,o,f',t1.only O1 (d _ (by simp[SB.bt])),t2.only O1 (d _ (by simp[SB.bt])) (d _ (by simp[SB.bt])),t3.only O1 (d _ (by simp[SB.bt])),t4⟩
 obtain⟨q,eq,hq,hN1,hc1,hq0,hlen1,hF1⟩: ∃q,a1=q+2∧N1[q]? =some none∧(∀k,nd N1 k=nd N k)∧cntN N1=cntN N∧nd N q=none∧(N.length≤N1.length∧N1.length≤N.length+1)∧(N1.length=cntN N+F1.length+1∧F1.Nodup∧a1∉F1∧ ∀a∈F1,2≤a∧a-2<N1.length∧nd N (a-2)=none):=by
  rcases R with⟨e1,e2,e3,e4⟩|⟨e1,e2⟩
  ·subst e1 e2 e3
   refine⟨N.length,e4,by simp,fun k=> ?_,by rw[cnt_app];rfl,nd_out (Nat.le_refl _),by simp,by simp at hc;simp;omega,by simp,by simp,by simp⟩
   rw[nd_app]
   split
   ·next e=>rw[nd_out (by omega)]
   ·rfl
  ·subst e1 e2
   obtain⟨g1,g2⟩:=hfre
   obtain⟨f1,f2,f3⟩:=g2 a1 (by simp)
   refine⟨a1-2,by omega,?_,fun _=>rfl,rfl,f3,by omega,by simp at hc;omega,(List.nodup_append.1 g1).1,fun hm=>(List.nodup_append.1 g1).2.2 a1 hm a1 (by simp) rfl,fun a ha=>g2 a (by simp[ha])⟩
   obtain⟨o,ho⟩: ∃o,N1[a1-2]? =some o:=⟨_,List.getElem?_eq_getElem f2⟩
   unfold nd at f3
   rw[ho]at f3 ⊢
   simp at f3
   rw[f3]
 subst eq
 have hql:q<N1.length:=(List.getElem?_eq_some_iff.1 hq).1
 have hl1:=H1.len
 have wq:IntKind.wrap .u32 (((q+2:Nat):Int)-2)=((q:Nat):Int):=by
  have:=wrap_sub2 (a:=q+2) (by omega) (by omega)
  rw[this]
  simp
 simp only[add_mk,Nat.zero_add]
 have rs1:rd h1 ⟨s,2,none⟩=some (.slice p' N1.length c'):=by rw[At.rd H1.S];rfl
 obtain⟨b0,e1,-⟩:=H1.cells hq
 have e1:p'=some ⟨b0,0,none⟩:=e1
 refine ldS_of rs1 ?_
 rw[e1,ptrK_some,wq]
 refine⟨by omega,by omega,?_⟩
 rw[add_mk,show 0+Int.toNat (q:Int)*4=q*4 by omega]
 simp only[add_mk]
 have W1:=H1.own
 rw[show SB.p {B with p:=p',c:=c'}=some ⟨b0,0,none⟩from e1]at W1
 have nl:(nrow N1).length=N1.length*4:=nrow_len N1
 refine Own.set W1 (by omega) rfl fun h2 W2 O2=>Own.set W2 (by simp;omega) rfl fun h3 W3 O3=>Own.set W3 (by simp;omega) rfl fun h4 W4 O4=>Own.set W4 (by simp;omega) rfl fun h5 W5 O5=> ?_
 rw[nrow_set4 N1 q (some (l,a,b)) _ _ _ _ hql rfl]at W5
 have O25:Only [b0] h1 h5:=((O2.trans O3 (by simp)).trans O4 (by simp)).trans O5 (by simp)
 have hsep1:=H1.sep
 have nb: ∀y∈[s,B.ob,B.cac,B.cm,B.cmc]++OwnB B.fp,y∉[b0]:=fun y hy hm=>by
  simp only[List.mem_singleton]at hm
  subst hm
  unfold SB.bm at hsep1
  simp only[List.nodup_append,List.mem_append,ne_eq]at hsep1
  obtain⟨⟨_,_,g2⟩,_,g4⟩:=hsep1
  have hmp:y∈OwnB p':=by rw[e1];simp[OwnB]
  rcases List.mem_append.1 hy with h|h
  ·exact g2 y h y hmp rfl
  ·exact g4 y (.inr hmp) y h rfl
 have H5:StM h5 s n room {B with p:=p',c:=c'} f g (N1.set q (some (l,a,b))) F1 Q off:=by
  have el:(N1.set q (some (l,a,b))).length=N1.length:=by simp
  refine⟨by rw[el];exact H1.S.only O25 (nb _ (by simp)),H1.O.only O25 (nb _ (by simp)),by rw[el,show SB.p {B with p:=p',c:=c'}=some ⟨b0,0,none⟩from e1];exact W5,H1.fre.only O25 fun y hy=>nb _ (by simp only[List.mem_append];exact .inr hy),H1.cac.only O25 (nb _ (by simp)) (nb _ (by simp)) (nb _ (by simp)),H1.n8,by rw[el];exact H1.len,H1.sep⟩
 have Tm5:TabM h5 s {B with p:=p',c:=c'} N:=Tm1.only O25 fun y hy hm=>by
  simp only[List.mem_singleton]at hy
  subst hy
  exact Tm1.sep y hm (by simp only[SB.bm,List.mem_append];exact .inl (.inr (by rw[e1];simp[OwnB])))
 have P:Plus N (N1.set q (some (l,a,b))) q (l,a,b):=by
  refine⟨hq0,fun k=> ?_,?_,by simp;omega⟩
  ·rw[nd_set hql,hN1]
  ·rw[cntN_set hq,hc1]
 have rs5:rd h5 ⟨s,2,none⟩=some (.slice p' N1.length c'):=by
  have:=H5.S
  rw[show(N1.set q (some (l,a,b))).length=N1.length by simp]at this
  rw[At.rd this]
  rfl
 refine ldS_of rs5 ?_
 rw[e1,ptrK_some]
 refine⟨by omega,by omega,?_⟩
 rw[add_mk,show 0+Int.toNat (q:Int)*4=q*4 by omega]
 simp only[add_mk]
 obtain⟨b5,e5,r5⟩:=H5.cells (i:=q) (o:=some (l,a,b)) (by rw[List.getElem?_set_self hql])
 have:b5=b0:=by
  have e5:p'=some ⟨b5,0,none⟩:=e5
  rw[e1]at e5
  injection e5 with e5
  injection e5 with e5
  exact e5.symm
 subst this
 refine ldB_of (by rw[r5 0 (by omega)];rfl) (ldI_of (by rw[r5 1 (by omega)];rfl) (ldI_of (by rw[r5 2 (by omega)];rfl) (ldI_of (by rw[r5 3 (by omega)];rfl) ?_)))
 have hx:NdOk (l,a,b):=by
  have ha':=isN_lt H ha
  have hb':=isN_lt H hb
  exact⟨by show l<256;omega,by show a<2^28;omega,by show b<2^28;omega,hne⟩
 obtain⟨T,cs,mm,ops,fails,t1,t2,t3,L,t5,t6,t7⟩: ∃T cs mm ops fails,TabIs h5 B.tb B.m 0 T∧MemIs h5 B.m B.mc cs ops fails∧MapM h5 B.sb .i64 mm∧Laid T cs mm N∧(∃k,T=32*2^k)∧2*(cntN N+1)≤T∧T≤262144:=by
  obtain⟨T,cs,mm,o,f',t1,t2,t3,t4⟩:=hT1
  have d: ∀y,y∈B.bt→y∉[b5]:=fun y hy hm=>by
   simp only[List.mem_singleton]at hm
   subst hm
   exact Tm1.sep y hy (by simp only[SB.bm,List.mem_append];exact .inl (.inr (by rw[e1];simp[OwnB])))
  exact⟨T,cs,mm,o,f',t1.only O25 (d _ (by simp[SB.bt])),t2.only O25 (d _ (by simp[SB.bt])) (d _ (by simp[SB.bt])),t3.only O25 (d _ (by simp[SB.bt])),t4⟩
 have nn:=Tm.nd
 simp only[SB.bt,List.nodup_cons,List.mem_cons,List.not_mem_nil,or_false,not_or,List.nodup_nil,and_true,not_false_eq_true]at nn
 have sp:s∉B.bt:=fun hm=>Tm.sep s hm (by simp[SB.bm])
 simp only[SB.bt,List.mem_cons,List.not_mem_nil,or_false,not_or]at sp
 have bl:=Tm5.lt
 have S5:=H5.S
 rw[show(N1.set q (some (l,a,b))).length=N1.length by simp]at S5
 refine lays54 S5 (t:=B.tb) (m:=B.m) (mc:=B.mc) (sb:=B.sb) (T:=T) rfl rfl (by simp;omega) t1 t2 t3 (by omega) (by simp;omega) (by omega) (by omega) (bl _ (by simp[SB.bt])) (bl _ (by simp[SB.bt])) (bl _ (by simp[SB.bt]))
  L hx (fun i y hy e=> ?_) (by omega) hq0 P.get P.cnt fun h6 cs' mm' ops' fails' A6 T6 M6 Mp6 L6 O6=>⟨rfl,?_⟩
 ·have:=kf_inj (ok.ndok hn8.2 (by omega) hy) hx e
  subst this
  exact hnew i hy
 have Hm6:=H5.only O6 fun y hy hm=>Tm5.sep y (by simp[SB.bt]at hy ⊢;omega) hm
 refine hK h6 {B with p:=p',c:=c'} _ F1 q P ⟨Hm6,⟨⟨T,cs',mm',ops',fails',T6,M6,Mp6,L6,t5,by rw[P.cnt];exact t6,t7⟩,Tm1.nd,Tm1.sep⟩,P.ok ok hl ha hb hne la lb hnew,by simp only[List.length_set];rw[P.cnt];omega,hF1.2.1,fun y hy=> ?_⟩ ?_ fun y hy=> ?_
 ·obtain⟨z1,z2,z3⟩:=hF1.2.2.2 y hy
  refine⟨z1,by simp only[List.length_set];exact z2,?_⟩
  rw[P.get,if_neg]
  ·exact z3
  ·intro e
   apply hF1.2.2.1
   rw[show q+2=y by omega]
   exact hy
 ·refine((Only.mono O1 fun y hy _=> ?_).trans O25 fun y hy hlt=> ?_).trans O6 fun y hy _=> ?_
  ·simp only[List.mem_append]
   exact .inl (hsub y hy)
  ·simp only[List.mem_singleton]at hy
   subst hy
   rcases hp y (by rw[e1];simp[OwnB])with h7|h7
   ·simp only[List.mem_append]
    exact .inl (hsub y (by simp[h7]))
   ·omega
  ·simp only[List.mem_append,SB.bt]
   simp at hy ⊢
   omega
 ·rcases List.mem_append.1 hy with hy|hy
  ·rcases(SB.grow (c':=c') H.sep H.lt hp).2 y hy with h7|h7
   ·exact .inl (List.mem_append.2 (.inl h7))
   ·exact .inr h7
  ·exact .inl (List.mem_append.2 (.inr hy))
end
end
section
section
variable {h:Heap}{s n room:Nat}{B:SB}{f g:Nat→Nat}{N:List (Option Nd)}{F:List Nat}{Q:Int→Int→Prop}{off:Bool}{K:Value→Heap→Prop}
set_option maxRecDepth 100000 in
theorem mk56(H:StIs h s n room B f g N F Q off){l a b:Nat}(hl:l<n)(ha:isN N a)(hb:isN N b)(la:l<lvl n N a)(lb:l<lvl n N b)
  (hK: ∀h' B' N' F' r e,MkRel room N l a b N' r e→StIs h' s n room B' f g N' F' Q off→Only (B.bm s++B.bt) h h'→(∀y∈B'.bm s++B'.bt,y∈B.bm s++B.bt∨h.size≤y)→K (.tuple #[.int .u32 (r:Int),.int .i64 (e:Int)]) h'):
  Cl 161 [.pointer (some ⟨s,0,none⟩),.int .i64 (l:Int),.int .u32 (a:Int),.int .u32 (b:Int)] h K:=by
 have hn8:=H.m.n8
 have hlen:=H.m.len
 have ha':=isN_lt H.m ha
 have hb':=isN_lt H.m hb
 refine F161.spec _ _ _ _ h K ?_
 rw[decide_eq_false (by omega),bcase_false]
 refine vars58 H.m (ldI_of rfl ?_)
 rw[decide_eq_false (by omega),bcase_false]
 refine is21 H.m (by omega) (fun _=>ldB_of rfl ?_) fun e=>absurd ha e
 rw[Bool.not_true,bcase_false]
 refine is21 H.m (by omega) (fun _=>ldB_of rfl ?_) fun e=>absurd hb e
 rw[Bool.not_true,bcase_false]
 refine level46 H.m ha (ldI_of rfl ?_)
 rw[decide_eq_false (by omega),bcase_false]
 refine level46 H.m hb (ldI_of rfl ?_)
 rw[decide_eq_false (by omega),bcase_false]
 refine bcase_of (fun he=> ?_) fun he=> ?_
 ·have he:a=b:=by
   have:(a:Int)=b:=by simpa using he
   omega
  exact hK h B N F a 0 (.inl ⟨he,rfl,rfl,rfl⟩) H (Only.refl _ _) fun y hy=> .inl hy
 have hne:a≠b:=fun e=>by
  subst e
  simp at he
 unfold F161.wk9
 have hx:NdOk (l,a,b):=⟨by show l<256;omega,by show a<2^28;omega,by show b<2^28;omega,hne⟩
 refine key73 hx.1 hx.2.1 hx.2.2.1 (ldI_of rfl ?_)
 have hmb: ∀y∈[B.m,B.mc],y∈B.bm s++B.bt:=fun y hy=>by
  simp only[List.mem_append,SB.bt]
  simp at hy ⊢
  omega
 have hk0:nkey l a b≠0:=by
  have:=kf_ne hx
  unfold kf at this
  exact this
 refine has74 (k:=nkey l a b) H.m H.t hk0 (fun h1 i x hx1 hx2 O1 T1=>⟨_,_,rfl,?_⟩) fun h1 hnk O1 T1=>⟨_,_,rfl,?_⟩
 ·rw[bcase_true]
  have:=kf_inj (H.ok.ndok hn8.2 (by omega) hx1) hx hx2
  subst this
  refine hK h1 B N F (i+2) 0 (.inr (.inl ⟨hne,i,hx1,rfl,rfl,rfl⟩)) ⟨H.m.only O1 fun y hy hm=>H.t.sep y (by simp[SB.bt]at hy ⊢;omega) hm,T1,H.ok,H.cnt,H.fre⟩ (O1.mono fun y hy _=>hmb y hy) fun y hy=> .inl hy
 ·have H1:StM h1 s n room B f g N F Q off:=H.m.only O1 fun y hy hm=>H.t.sep y (by simp[SB.bt]at hy ⊢;omega) hm
  have OO:Only (B.bm s++B.bt) h h1:=O1.mono fun y hy _=>hmb y hy
  have hnew: ∀i,nd N i≠some (l,a,b):=fun i hi=>hnk i _ hi rfl
  have hcl:=cntN_le N
  rw[bcase_false]
  simp only[add_mk,Nat.zero_add,Nat.add_zero]
  have r0:rd h1 ⟨s,0,none⟩=some (.int .i64 (room:Int)):=by rw[At.rd H1.S];rfl
  have r4:rd h1 ⟨s,4,none⟩=some (.pointer (some ⟨B.tb,0,none⟩)):=by rw[At.rd H1.S];rfl
  refine ldI_of r0 (len75 H1 H.cnt (ldI_of rfl ⟨trivial,trivial,trivial,ldI_of r0 ⟨rfl,?_⟩⟩))
  refine bcase_of (fun hf=> ?_) fun hf=> ?_
  ·have hf:=of_decide_eq_true hf
   exact hK h1 B N F 0 60 (.inr (.inr (.inl ⟨hne,hnew,by omega,rfl,rfl,rfl⟩))) ⟨H1,T1,H.ok,H.cnt,H.fre⟩ OO fun y hy=> .inl hy
  have hf:=of_decide_eq_false hf
  have hr:cntN N<room:=by omega
  have fin: ∀h' B' N' F' q,Plus N N' q (l,a,b)→StIs h' s n room B' f g N' F' Q off→Only (B.bm s++B.bt) h h'→(∀y∈B'.bm s++B'.bt,y∈B.bm s++B.bt∨h.size≤y)→K (.tuple #[.int .u32 ((q+2:Nat):Int),.int .i64 0]) h':=fun h' B' N' F' q P S O fr=>
   hK h' B' N' F' (q+2) 0 (.inr (.inr (.inr ⟨hne,hnew,hr,rfl,q,rfl,P⟩))) S O fr
  obtain⟨T,cs,mm,o,f',t1,t2,t3,L,t5,t6,t7⟩:=id T1.tab
  refine ldP_of r4 (len75 H1 H.cnt (ldI_of rfl ⟨trivial,trivial,trivial,ldP_of r4 ⟨rfl,slots_spec t1 (ldI_of rfl ⟨by trivial,by trivial,?_⟩)⟩⟩))
  have w1:IntKind.wrap .i64 ((cntN N:Int)+1)=((cntN N+1:Nat):Int):=by rw[wrap_i64 (by omega) (by omega)];omega
  have w2:IntKind.wrap .i64 (2*((cntN N+1:Nat):Int))=((2*(cntN N+1):Nat):Int):=by rw[wrap_i64 (by omega) (by omega)];omega
  rw[w1,w2]
  refine bcase_of (fun hg=> ?_) fun hg=> ?_
  ·have hg:=of_decide_eq_true hg
   have w3:IntKind.wrap .i64 (2*(T:Int))=((2*T:Nat):Int):=by rw[wrap_i64 (by omega) (by omega)];omega
   refine ldP_of r4 (slots_spec t1 (ldI_of rfl ?_))
   rw[w3]
   have hsz:s<h1.size:=H1.S.lt
   refine grows33 (bl:=[]) H1.S H1.r (fun i hi=>absurd hi (by simp)) (fun a e=>by cases e) (by simp) (by rw[era_nil];exact fun i x hx=>H.ok.ndok hn8.2 (by omega) hx) (by rw[era_nil];exact H.ok.once) (by obtain⟨k,e⟩:=t5;exact⟨k+1,by rw[e,Nat.pow_succ];omega⟩) (by rw[era_nil];omega) (by omega)
    fun tb m mc sb h2 H2 T2 TX g1 g2 g3 g4 O2=>⟨rfl,?_⟩
   rw[era_nil]at T2 TX
   have hsm:s∈B.bm s:=by simp[SB.bm]
   refine mk_tail H2 T2 H.ok H.cnt H.fre hl ha hb la lb hne hnew hr ?_ fun h3 B3 N3 F3 q P S3 O3 fr=>fin h3 B3 N3 F3 q P S3 ?_ fun y hy=> ?_
   ·obtain⟨cs',mm',o',f'',u1,u2,u3,u4⟩:=TX
    obtain⟨k,e⟩:=t5
    exact⟨2*T,cs',mm',o',f'',u1,u2,u3,u4,⟨k+1,by rw[e,Nat.pow_succ];omega⟩,by have:=Nat.two_pow_pos k;omega,by omega⟩
   ·refine(OO.trans O2 fun y hy _=> ?_).trans O3 fun y hy hlt=> ?_
    ·simp only[List.mem_singleton]at hy
     subst hy
     exact List.mem_append.2 (.inl hsm)
    ·rcases List.mem_append.1 hy with hy|hy
     ·exact List.mem_append.2 (.inl hy)
     ·have:=OO.size
      simp[SB.bt,SB.tabs]at hy
      omega
   ·rcases fr y hy with hy|hy
    ·rcases List.mem_append.1 hy with hy|hy
     ·exact .inl (List.mem_append.2 (.inl hy))
     ·have:=OO.size
      simp[SB.bt,SB.tabs]at hy
      exact .inr (by omega)
    ·have:=OO.size
     have:=O2.size
     exact .inr (by omega)
  ·have hg:=of_decide_eq_false hg
   refine mk_tail H1 T1 H.ok H.cnt H.fre hl ha hb la lb hne hnew hr ⟨T,cs,mm,o,f',t1,t2,t3,L,t5,by omega,t7⟩ fun h3 B3 N3 F3 q P S3 O3 fr=>fin h3 B3 N3 F3 q P S3 (OO.trans O3 fun y hy _=>hy) fun y hy=> ?_
   rcases fr y hy with hy|hy
   ·exact .inl hy
   ·have:=OO.size
    exact .inr (by omega)
end
end
section
structure SX where
 n:Nat
 room:Nat
 f:Nat→Nat
 g:Nat→Nat
 N:List (Option Nd)
 Q:Int→Int→Prop
 off:Bool
def Sto(h:Heap)(s:Nat)(L:List Nat)(X:SX):Prop:= ∃B F,L=B.bm s++B.bt∧StIs h s X.n X.room B X.f X.g X.N F X.Q X.off
def Fresh(L L':List Nat)(h:Heap):Prop:= ∀b∈L',b∈L∨h.size≤b
theorem Fresh.refl(L:List Nat)(h:Heap):Fresh L L h:=fun _ hb=> .inl hb
theorem Fresh.trans{L L' L'':List Nat}{h h':Heap}(a:Fresh L L' h)(b:Fresh L' L'' h')(hz:h.size≤h'.size):Fresh L L'' h:=fun x hx=>by
 rcases b x hx with h1|h1
 ·exact a x h1
 ·exact .inr (by omega)
theorem Only.app{L L':List Nat}{h h' h'':Heap}(a:Only L h h')(b:Only L' h' h'')(f:Fresh L L' h):Only L h h'':=a.trans b fun x hx hl=>by
 rcases f x hx with h1|h1
 ·exact h1
 ·omega
section
variable {h h':Heap}{s:Nat}{L S:List Nat}{X:SX}{K:Value→Heap→Prop}
theorem Sto.only(H:Sto h s L X)(O:Only S h h')(hS: ∀b∈S,b∉L):Sto h' s L X:=by
 obtain⟨B,F,e,H⟩:=H
 subst e
 exact⟨B,F,rfl,H.only O fun b hb=>⟨fun hm=>hS b hb (List.mem_append.2 (.inl hm)),fun hm=>hS b hb (List.mem_append.2 (.inr hm))⟩⟩
theorem Sto.only0(H:Sto h s L X)(O:Only [] h h'):Sto h' s L X:=H.only O (by simp)
theorem Sto.lt(H:Sto h s L X): ∀b∈L,b<h.size:=fun b hb=>by
 obtain⟨B,F,e,H⟩:=H
 subst e
 rcases List.mem_append.1 hb with h1|h1
 ·exact H.m.lt b h1
 ·exact H.t.lt b h1
theorem Sto.ok(H:Sto h s L X):NOk X.n X.N∧1≤X.n∧X.n≤8∧X.N.length≤X.room∧X.room≤32768∧cntN X.N≤X.N.length:=by
 obtain⟨B,F,e,H⟩:=H
 exact⟨H.ok,H.m.n8.1,H.m.n8.2,H.m.len.1,H.m.len.2.1,cntN_le _⟩
theorem Sto.isN_lt(H:Sto h s L X){a:Nat}(ha:isN X.N a):a<32770:=by
 obtain⟨B,F,e,H⟩:=H
 have:=Ev.isN_lt H.m ha
 have:=H.m.len
 omega
theorem sto_vars(H:Sto h s L X)(hK:K (.int .i64 (X.n:Int)) h):Cl 75 [.pointer (some ⟨s,0,none⟩)] h K:=by
 obtain⟨B,F,e,H⟩:=H
 exact vars58 H.m hK
theorem sto_is(H:Sto h s L X){a:Nat}(ha:a<4294967296)(h1:isN X.N a→K (.bool true) h)(h0: ¬isN X.N a→K (.bool false) h):Cl 74 [.pointer (some ⟨s,0,none⟩),.int .u32 (a:Int)] h K:=by
 obtain⟨B,F,e,H⟩:=H
 exact is21 H.m ha h1 h0
theorem sto_is1(H:Sto h s L X){a:Nat}(ha:isN X.N a)(h1:K (.bool true) h):Cl 74 [.pointer (some ⟨s,0,none⟩),.int .u32 (a:Int)] h K:=
 sto_is H (by have:=H.isN_lt ha;omega) (fun _=>h1) fun e=>absurd ha e
theorem sto_level(H:Sto h s L X){a:Nat}(ha:isN X.N a)(hK:K (.int .i64 (lvl X.n X.N a:Int)) h):Cl 71 [.pointer (some ⟨s,0,none⟩),.int .u32 (a:Int)] h K:=by
 obtain⟨B,F,e,H⟩:=H
 exact level46 H.m ha hK
theorem sto_low(H:Sto h s L X){a:Nat}(ha:isN X.N a)(hK:K (.int .u32 (low X.N a:Int)) h):Cl 72 [.pointer (some ⟨s,0,none⟩),.int .u32 (a:Int)] h K:=by
 obtain⟨B,F,e,H⟩:=H
 exact low68 H.m ha hK
theorem sto_high(H:Sto h s L X){a:Nat}(ha:isN X.N a)(hK:K (.int .u32 (high X.N a:Int)) h):Cl 73 [.pointer (some ⟨s,0,none⟩),.int .u32 (a:Int)] h K:=by
 obtain⟨B,F,e,H⟩:=H
 exact high69 H.m ha hK
theorem sto_len(H:Sto h s L X)(hK:K (.int .i64 (cntN X.N:Int)) h):Cl 45 [.pointer (some ⟨s,0,none⟩)] h K:=by
 obtain⟨B,F,e,H⟩:=H
 exact len75 H.m H.cnt hK
theorem sto_mk(H:Sto h s L X){l a b:Nat}(hl:l<X.n)(ha:isN X.N a)(hb:isN X.N b)(la:l<lvl X.n X.N a)(lb:l<lvl X.n X.N b)
  (hK: ∀h' L' N' r e,MkRel X.room X.N l a b N' r e→Sto h' s L' {X with N:=N'}→Only L h h'→Fresh L L' h→K (.tuple #[.int .u32 (r:Int),.int .i64 (e:Int)]) h'):
  Cl 161 [.pointer (some ⟨s,0,none⟩),.int .i64 (l:Int),.int .u32 (a:Int),.int .u32 (b:Int)] h K:=by
 obtain⟨B,F,e,H⟩:=H
 subst e
 exact mk56 H hl ha hb la lb fun h' B' N' F' r e R S O fr=>hK h' _ N' r e R ⟨B',F',rfl,S⟩ O fr
theorem ord_copy{b n:Nat}{f g:Nat→Nat}(H:OrdIs h b n f g)(hK: ∀c h',OrdIs h' c n f g→h.size≤c→Only [] h h'→K (.pointer (some ⟨c,0,none⟩)) h'):
  Cl 104 [.pointer (some ⟨b,0,none⟩)] h K:=by
 refine F104.spec _ h K ?_
 have r: ∀k,rd h ⟨b,k,none⟩=(Value.int .i64 (n:Int)::(L8 f++L8 g))[k]? :=fun k=>At.rd H k
 refine ldI_of (by rw[add_mk,r];rfl) (ldI_of (by rw[add_mk,r];rfl) (ldI_of (by rw[add_mk,r];rfl) (ldI_of (by rw[add_mk,r];rfl) (ldI_of (by rw[add_mk,r];rfl) (ldI_of (by rw[add_mk,r];rfl) (ldI_of (by rw[add_mk,r];rfl) (ldI_of (by rw[add_mk,r];rfl) (ldI_of (by rw[add_mk,r];rfl) (ldI_of (by rw[add_mk,r];rfl) (ldI_of (by rw[add_mk,r];rfl) (ldI_of (by rw[add_mk,r];rfl) (ldI_of (by rw[add_mk,r];rfl) (ldI_of (by rw[add_mk,r];rfl) (ldI_of (by rw[add_mk,r];rfl) (ldI_of (by rw[add_mk,r];rfl) (ldI_of (by rw[add_mk,r];rfl) ?_))))))))))))))))
 refine newK_at fun h0 A0 O0 z0=> ?_
 show stL ⟨h.size,0,none⟩ 0 (Value.int .i64 (n:Int)::(L8 f++L8 g)) h0 fun h'=>K (.pointer (some ⟨h.size,0,none⟩)) h'
 refine stL_own (o:=0) _ 0 _ h0 A0 (by simp[L8]) (fun v hv=> ?_) fun h' A' O' z=>hK h.size h' ?_ (Nat.le_refl _) (O0.trans O' (by intro x hx hlt;simp at hx;omega))
 ·simp only[List.mem_cons,List.mem_append,L8,List.mem_map]at hv
  rcases hv with e|⟨i,_,e⟩|⟨i,_,e⟩<;>subst e<;>rfl
 ·simp[L8_len]at A'
  exact A'
end
end
section
def sem(f:Nat→Nat)(N:List (Option Nd)):Nat→Nat→Nat→Bool
 |0,a,_=>a==1
 |d+1,a,x=>if a<2 then a==1 else if x.testBit (f (lvl 0 N a))then sem f N d (high N a) x else sem f N d (low N a) x
def sm(n:Nat)(f:Nat→Nat)(N:List (Option Nd))(a x:Nat):Bool:=sem f N n a x
theorem lvl_any{n m:Nat}{N:List (Option Nd)}{a:Nat}(h:2≤a):lvl n N a=lvl m N a:=by
 unfold lvl
 rw[if_neg (by omega),if_neg (by omega)]
section
variable {n:Nat}{f:Nat→Nat}{N N':List (Option Nd)}{a b x:Nat}
theorem NOk.at(H:NOk n N)(ha:isN N a)(h2:2≤a):lvl n N a<n∧isN N (low N a)∧isN N (high N a)∧low N a≠high N a∧lvl n N a<lvl n N (low N a)∧lvl n N a<lvl n N (high N a):=by
 rcases ha with h|⟨x,h⟩
 ·omega
 ·have:=H.node _ x h
  have e1:lvl n N a=x.1:=by unfold lvl;rw[if_neg (by omega),h]
  have e2:low N a=x.2.1:=by unfold low;rw[if_neg (by omega),h]
  have e3:high N a=x.2.2:=by unfold high;rw[if_neg (by omega),h]
  rw[e1,e2,e3]
  exact this
theorem lvl_le(H:NOk n N)(ha:isN N a):lvl n N a≤n:=by
 by_cases h2:a<2
 ·unfold lvl
  rw[if_pos h2]
  exact Nat.le_refl _
 ·have:=(H.at ha (by omega)).1
  omega
theorem sem_fuel(H:NOk n N): ∀(d e:Nat) {a:Nat},isN N a→n-lvl n N a≤d→n-lvl n N a≤e→sem f N d a x=sem f N e a x:=by
 intro d
 induction d with
 |zero=>
  intro e a ha hd he
  have h2:a<2:=by
   apply Classical.byContradiction
   intro hn
   have:=(H.at ha (by omega)).1
   omega
  cases e with
  |zero=>rfl
  |succ e=>unfold sem;rw[if_pos h2]
 |succ d ih=>
  intro e a ha hd he
  cases e with
  |zero=>
   have h2:a<2:=by
    apply Classical.byContradiction
    intro hn
    have:=(H.at ha (by omega)).1
    omega
   unfold sem
   rw[if_pos h2]
  |succ e=>
   unfold sem
   by_cases h2:a<2
   ·rw[if_pos h2,if_pos h2]
   ·rw[if_neg h2,if_neg h2]
    obtain⟨h3,h4,h5,-,h6,h7⟩:=H.at ha (by omega)
    split
    ·exact ih e h5 (by omega) (by omega)
    ·exact ih e h4 (by omega) (by omega)
theorem sm_const(h:a<2):sm n f N a x=(a==1):=by
 unfold sm
 cases n with
 |zero=>rfl
 |succ n=>unfold sem;rw[if_pos h]
theorem sm_node(H:NOk n N)(ha:isN N a)(h2:2≤a):sm n f N a x=if x.testBit (f (lvl n N a))then sm n f N (high N a) x else sm n f N (low N a) x:=by
 obtain⟨h3,h4,h5,-,h6,h7⟩:=H.at ha h2
 unfold sm
 cases n with
 |zero=>omega
 |succ n=>
  conv=>lhs;unfold sem
  rw[if_neg (by omega),lvl_any (n:=0) (m:=n+1) h2,sem_fuel H n (n+1) h4 (by omega) (by omega),sem_fuel H n (n+1) h5 (by omega) (by omega)]
def Ex(N N':List (Option Nd)):Prop:= ∀i x,nd N i=some x→nd N' i=some x
theorem Ex.refl(N:List (Option Nd)):Ex N N:=fun _ _ h=>h
theorem Ex.trans{N'':List (Option Nd)}(h:Ex N N')(g:Ex N' N''):Ex N N'':=fun i x e=>g i x (h i x e)
theorem Plus.ext{q:Nat}{x:Nd}(P:Plus N N' q x):Ex N N':=fun _ _ h=>P.old h
theorem Ex.isN(E:Ex N N')(h:Ev.isN N a):Ev.isN N' a:=h.imp id fun⟨x,h⟩=>⟨x,E _ x h⟩
theorem Ex.lvl(E:Ex N N')(h:Ev.isN N a):lvl n N' a=lvl n N a:=by
 unfold Ev.lvl
 rcases h with h|⟨x,h⟩
 ·rw[if_pos h,if_pos h]
 ·rw[E _ x h,h]
theorem Ex.low(E:Ex N N')(h:Ev.isN N a):low N' a=low N a:=by
 unfold Ev.low
 rcases h with h|⟨x,h⟩
 ·rw[if_pos h,if_pos h]
 ·rw[E _ x h,h]
theorem Ex.high(E:Ex N N')(h:Ev.isN N a):high N' a=high N a:=by
 unfold Ev.high
 rcases h with h|⟨x,h⟩
 ·rw[if_pos h,if_pos h]
 ·rw[E _ x h,h]
theorem Ex.sem(H:NOk n N)(E:Ex N N'): ∀(d:Nat) {a:Nat},Ev.isN N a→Ev.sem f N' d a x=Ev.sem f N d a x:=by
 intro d
 induction d with
 |zero=>intro a _;rfl
 |succ d ih=>
  intro a ha
  unfold Ev.sem
  by_cases h2:a<2
  ·rw[if_pos h2,if_pos h2]
  ·obtain⟨h3,h4,h5,-,h6,h7⟩:=H.at ha (by omega)
   rw[if_neg h2,if_neg h2,E.lvl ha,E.low ha,E.high ha,ih h4,ih h5]
theorem Ex.sm(H:NOk n N)(E:Ex N N')(ha:Ev.isN N a):sm n f N' a x=sm n f N a x:=E.sem H n ha
theorem mk_node{room l r:Nat}(H:NOk n N)(H':NOk n N')(ha:isN N a)(hb:isN N b)(la:l<lvl n N a)(R:MkRel room N l a b N' r 0):
  Ex N N'∧isN N' r∧l≤lvl n N' r∧ ∀x,sm n f N' r x=if x.testBit (f l)then sm n f N b x else sm n f N a x:=by
 rcases R with⟨h1,h2,-,h4⟩|⟨h1,i,h2,h3,-,h4⟩|⟨-,-,-,-,h,-⟩|⟨h1,-,-,-,q,h3,P⟩
 ·subst h1 h2 h4
  exact⟨Ex.refl _,ha,by omega,fun x=>by simp⟩
 ·subst h3 h4
  have hr:isN N' (i+2):= .inr ⟨_,h2⟩
  have e1:lvl n N' (i+2)=l:=by unfold lvl;rw[if_neg (by omega),show i+2-2=i by omega,h2]
  have e2:low N' (i+2)=a:=by unfold low;rw[if_neg (by omega),show i+2-2=i by omega,h2]
  have e3:high N' (i+2)=b:=by unfold high;rw[if_neg (by omega),show i+2-2=i by omega,h2]
  refine⟨Ex.refl _,hr,by omega,fun x=> ?_⟩
  rw[sm_node H hr (by omega),e1,e2,e3]
 ·omega
 ·subst h3
  have E:=P.ext
  have hn:nd N' q=some (l,a,b):=by rw[P.get,if_pos rfl]
  have hr:isN N' (q+2):= .inr ⟨_,hn⟩
  have e1:lvl n N' (q+2)=l:=by unfold lvl;rw[if_neg (by omega),show q+2-2=q by omega,hn]
  have e2:low N' (q+2)=a:=by unfold low;rw[if_neg (by omega),show q+2-2=q by omega,hn]
  have e3:high N' (q+2)=b:=by unfold high;rw[if_neg (by omega),show q+2-2=q by omega,hn]
  refine⟨E,hr,by omega,fun x=> ?_⟩
  rw[sm_node H' hr (by omega),e1,e2,e3,E.sm H ha,E.sm H hb]
end
def clN(p:Nat→Bool)(N:List (Option Nd)):Nat:=N.countP fun o=>match o with|some x=>p x.1|none=>false
theorem cl_split(p:Nat→Bool): ∀N:List (Option Nd),cntN N=clN p N+clN (fun l=> !p l) N
 | []=>rfl
 |o::N=>by
  have ih:=cl_split p N
  unfold cntN clN at ih ⊢
  rw[List.countP_cons,List.countP_cons,List.countP_cons,ih]
  cases o with
  |none=>simp
  |some x=>cases h:p x.1<;>simp[h]<;>omega
theorem nd_cons{o:Option Nd}{N:List (Option Nd)}{i:Nat}:nd (o::N) (i+1)=nd N i:=by simp[nd]
theorem nd_zero{o:Option Nd}{N:List (Option Nd)}:nd (o::N) 0=o:=by simp[nd]
theorem cl_le_one{p:Nat→Bool}: ∀(N:List (Option Nd)) (y:Nd),(∀i j,nd N i=some y→nd N j=some y→i=j)→N.countP (fun o=>decide (o=some y))≤1
 | [],y,_=>by simp
 |o::N,y,h=>by
  rw[List.countP_cons]
  have ih:=cl_le_one (p:=p) N y fun i j hi hj=>by
   have:=h (i+1) (j+1) (by rw[nd_cons];exact hi) (by rw[nd_cons];exact hj)
   omega
  by_cases e:o=some y
  ·subst e
   have h0:N.countP (fun o=>decide (o=some y))=0:=by
    rw[List.countP_eq_zero]
    intro x hx hh
    have hh:x=some y:=of_decide_eq_true hh
    subst hh
    obtain⟨k,hk⟩:=List.mem_iff_getElem?.1 hx
    have:=h 0 (k+1) nd_zero (by rw[nd_cons];exact nd_some.2 hk)
    omega
   rw[h0]
   simp
  ·simp[e]
   exact ih
theorem cl_last{n:Nat}{N:List (Option Nd)}(H:NOk n N)(p:Nat→Bool)(hp: ∀l,l<n→p l=true→l+1=n):clN p N≤2:=by
 have h1:clN p N≤N.countP (fun o=>decide (o=some (n-1,0,1))||decide (o=some (n-1,1,0))):=by
  unfold clN
  apply List.countP_mono_left
  intro o ho h
  cases o with
  |none=>simp at h
  |some x=>
   obtain⟨i,hi⟩:=List.mem_iff_getElem?.1 ho
   obtain⟨g1,g2,g3,g4,g5,g6⟩:=H.node i x (nd_some.2 hi)
   have e:=hp x.1 g1 h
   have lt2: ∀y,isN N y→x.1<lvl n N y→y<2:=fun y hy hl=>by
    apply Classical.byContradiction
    intro hn
    have:=(H.at hy (by omega)).1
    omega
   have a1:=lt2 _ g2 g5
   have a2:=lt2 _ g3 g6
   obtain⟨x1,x2,x3⟩:=x
   dsimp only at*
   have:(x2=0∧x3=1)∨(x2=1∧x3=0):=by omega
   rcases this with⟨rfl,rfl⟩|⟨rfl,rfl⟩
   ·simp;omega
   ·simp;omega
 have h2:N.countP (fun o=>decide (o=some (n-1,0,1))||decide (o=some (n-1,1,0)))≤N.countP (fun o=>decide (o=some (n-1,0,1)))+N.countP (fun o=>decide (o=some (n-1,1,0))):=by
  generalize N=M
  induction M with
  |nil=>simp
  |cons o M ih=>
   rw[List.countP_cons,List.countP_cons,List.countP_cons]
   cases h:decide (o=some (n-1,0,1))<;>cases h':decide (o=some (n-1,1,0))<;>simp<;>omega
 have h3:=cl_le_one (p:=p) N (n-1,0,1) fun i j=>H.once i j _
 have h4:=cl_le_one (p:=p) N (n-1,1,0) fun i j=>H.once i j _
 exact Nat.le_trans h1 (Nat.le_trans h2 (Nat.add_le_add h3 h4))
theorem countP_get{p:Option Nd→Bool}(hp:p none=false): ∀(N N':List (Option Nd)) (q:Nat) (x:Nd),nd N q=none→(∀k,nd N' k=if k=q then some x else nd N k)→N.length≤N'.length→N'.length≤N.length+1→N'.countP p=N.countP p+if p (some x)then 1 else 0
 | [],N',q,x,_,h,h1,h2=>by
  match N',h2 with
  | [],_=>
   have:=h q
   simp[nd]at this
  | [o],_=>
   have h0:=h 0
   by_cases e:q=0
   ·subst e
    rw[if_pos rfl,nd_zero]at h0
    subst h0
    simp[List.countP_cons]
   ·have:=h q
    rw[if_pos rfl]at this
    have:=nd_lt this
    simp at this
    omega
 |o::N,[],q,x,_,h,h1,_=>by simp at h1
 |o::N,o'::N',0,x,hq,h,h1,h2=>by
  have h0:=h 0
  rw[if_pos rfl,nd_zero]at h0
  rw[nd_zero]at hq
  subst h0 hq
  have e: ∀(A B:List (Option Nd)),(∀k,nd A k=nd B k)→B.length≤A.length→A.countP p=B.countP p:=by
   intro A
   induction A with
   |nil=>
    intro B _ hl
    have:=List.eq_nil_of_length_eq_zero (Nat.le_zero.1 hl)
    rw[this]
   |cons a A ih=>
    intro B hk hl
    cases B with
    |nil=>
     have: ∀y∈a::A,p y=false:=fun y hy=>by
      obtain⟨k,hk'⟩:=List.mem_iff_getElem?.1 hy
      have:=hk k
      unfold nd at this
      rw[hk']at this
      simp at this
      rw[this]
      exact hp
     rw[List.countP_eq_zero.2 fun y hy=>by rw[this y hy];simp]
     rfl
    |cons b B=>
     have e0:=hk 0
     rw[nd_zero,nd_zero]at e0
     subst e0
     rw[List.countP_cons,List.countP_cons,ih B (fun k=>by have:=hk (k+1);rw[nd_cons,nd_cons]at this;exact this) (by simpa using hl)]
  have:=e N' N (fun k=>by have:=h (k+1);rw[nd_cons,nd_cons,if_neg (by omega)]at this;exact this) (by simpa using h1)
  rw[List.countP_cons,List.countP_cons,this,hp]
  simp
 |o::N,o'::N',q+1,x,hq,h,h1,h2=>by
  have ih:=countP_get hp N N' q x (by rw[nd_cons]at hq;exact hq) (fun k=>by
   have:=h (k+1)
   rw[nd_cons,nd_cons]at this
   rw[this]
   by_cases e:k=q
   ·rw[if_pos e,if_pos (by omega)]
   ·rw[if_neg e,if_neg (by omega)]) (by simpa using h1) (by simpa using h2)
  have h0:=h 0
  rw[if_neg (by omega),nd_zero,nd_zero]at h0
  subst h0
  rw[List.countP_cons,List.countP_cons,ih]
  omega
theorem Plus.cl{N N':List (Option Nd)}{q:Nat}{x:Nd}(P:Plus N N' q x)(p:Nat→Bool):clN p N'=clN p N+if p x.1 then 1 else 0:=
 countP_get rfl N N' q x P.was P.get P.len.1 P.len.2
end
section
def gf(n m:Nat)(leaf:Nat→Nat→Bool)(c:Nat→Nat→Bool→Bool→Bool)(N:List (Option Nd)):Nat→Nat→Nat→Bool
 |0,a,x=>leaf a x
 |d+1,a,x=>if m≤lvl n N a then leaf a x else c (lvl n N a) x (gf n m leaf c N d (low N a) x) (gf n m leaf c N d (high N a) x)
section
variable {n m:Nat}{leaf leaf':Nat→Nat→Bool}{c:Nat→Nat→Bool→Bool→Bool}{N N':List (Option Nd)}{a x:Nat}
theorem gf_fuel(H:NOk n N)(hm:m≤n): ∀(d e:Nat) {a:Nat},isN N a→n-lvl n N a≤d→n-lvl n N a≤e→gf n m leaf c N d a x=gf n m leaf c N e a x:=by
 intro d
 induction d with
 |zero=>
  intro e a ha hd he
  cases e with
  |zero=>rfl
  |succ e=>unfold gf;rw[if_pos (by omega)]
 |succ d ih=>
  intro e a ha hd he
  cases e with
  |zero=>unfold gf;rw[if_pos (by omega)]
  |succ e=>
   unfold gf
   by_cases h2:m≤lvl n N a
   ·rw[if_pos h2,if_pos h2]
   ·have a2:2≤a:=by
     apply Classical.byContradiction
     intro hn
     have:lvl n N a=n:=by unfold lvl;rw[if_pos (by omega)]
     omega
    obtain⟨h3,h4,h5,-,h6,h7⟩:=H.at ha a2
    rw[if_neg h2,if_neg h2,ih e h4 (by omega) (by omega),ih e h5 (by omega) (by omega)]
theorem gf_ext(H:NOk n N)(E:Ex N N')(hm:m≤n)(hl: ∀b,isN N b→leaf' b x=leaf b x): ∀(d:Nat) {a:Nat},isN N a→gf n m leaf' c N' d a x=gf n m leaf c N d a x:=by
 intro d
 induction d with
 |zero=>intro a ha;exact hl a ha
 |succ d ih=>
  intro a ha
  unfold gf
  rw[E.lvl ha]
  by_cases h2:m≤lvl n N a
  ·rw[if_pos h2,if_pos h2];exact hl a ha
  ·have a2:2≤a:=by
    apply Classical.byContradiction
    intro hn
    have:lvl n N a=n:=by unfold lvl;rw[if_pos (by omega)]
    omega
   obtain⟨h3,h4,h5,-,h6,h7⟩:=H.at ha a2
   rw[if_neg h2,if_neg h2,E.low ha,E.high ha,ih h4,ih h5]
end
def qgC(fo:Nat→Nat)(op mask:Nat)(l x:Nat)(p q:Bool):Bool:=if mask.testBit (fo l)then(if op=7 then p&&q else p||q)else if x.testBit (fo l)then q else p
def qgF(n:Nat)(fo:Nat→Nat)(op mask:Nat)(N:List (Option Nd))(a x:Nat):Bool:=gf n n (fun a _=>a==1) (qgC fo op mask) N n a x
def cmL(n:Nat)(fo:Nat→Nat)(at_ g:Nat)(N:List (Option Nd))(a x:Nat):Bool:=if lvl n N a=at_ then(if sm n fo N g x then sm n fo N (high N a) x else sm n fo N (low N a) x)else sm n fo N a x
def cmC(fo:Nat→Nat)(l x:Nat)(p q:Bool):Bool:=if x.testBit (fo l)then q else p
def cmF(n:Nat)(fo:Nat→Nat)(at_ g:Nat)(N:List (Option Nd))(a x:Nat):Bool:=gf n at_ (cmL n fo at_ g N) (cmC fo) N n a x
def tnC(fo:Nat→Nat)(l x:Nat)(p q:Bool):Bool:=if x.testBit (fo l^^^1)then q else p
def tnF(n:Nat)(fo:Nat→Nat)(N:List (Option Nd))(a x:Nat):Bool:=gf n n (fun a _=>a==1) (tnC fo) N n a x
section
variable {n:Nat}{fo:Nat→Nat}{N N':List (Option Nd)}{a x:Nat}
theorem gf_leaf{m:Nat}{leaf:Nat→Nat→Bool}{c:Nat→Nat→Bool→Bool→Bool}(H:NOk n N)(hm:m≤n)(ha:isN N a)(h:m≤lvl n N a):gf n m leaf c N n a x=leaf a x:=by
 rw[gf_fuel H hm n (n+1) ha (by omega) (by omega)]
 unfold gf
 rw[if_pos h]
theorem gf_node{m:Nat}{leaf:Nat→Nat→Bool}{c:Nat→Nat→Bool→Bool→Bool}(H:NOk n N)(hm:m≤n)(ha:isN N a)(h:lvl n N a<m):gf n m leaf c N n a x=c (lvl n N a) x (gf n m leaf c N n (low N a) x) (gf n m leaf c N n (high N a) x):=by
 rw[gf_fuel H hm n (n+1) ha (by omega) (by omega)]
 conv=>lhs;unfold gf
 rw[if_neg (by omega)]
theorem qgF_ext{op mask:Nat}(H:NOk n N)(E:Ex N N')(ha:isN N a):qgF n fo op mask N' a x=qgF n fo op mask N a x:=gf_ext H E (Nat.le_refl _) (fun b hb=>rfl) n ha
theorem tnF_ext(H:NOk n N)(E:Ex N N')(ha:isN N a):tnF n fo N' a x=tnF n fo N a x:=gf_ext H E (Nat.le_refl _) (fun b hb=>rfl) n ha
theorem cmF_ext{at_ g:Nat}(H:NOk n N)(E:Ex N N')(hat:at_<n)(ha:isN N a)(hg:isN N g):cmF n fo at_ g N' a x=cmF n fo at_ g N a x:=by
 refine gf_ext H E (Nat.le_of_lt hat) (fun b hb=> ?_) n ha
 unfold cmL
 rw[E.lvl hb,E.sm H hb,E.sm H hg]
 by_cases q:lvl n N b=at_
 ·have b2:2≤b:=by
   apply Classical.byContradiction
   intro hn
   have:lvl n N b=n:=by unfold lvl;rw[if_pos (by omega)]
   omega
  obtain⟨h3,h4,h5,-⟩:=H.at hb b2
  rw[if_pos q,if_pos q,E.low hb,E.high hb,E.sm H h4,E.sm H h5]
 ·rw[if_neg q,if_neg q]
structure QR(n:Nat)(fo:Nat→Nat)(N:List (Option Nd))(op mask a r:Nat):Prop where
 is:isN N r
 lv:lvl n N a≤lvl n N r
 sm: ∀x,sm n fo N r x=qgF n fo op mask N a x
theorem QR.ext{op mask r:Nat}(R:QR n fo N op mask a r)(H:NOk n N)(E:Ex N N')(ha:isN N a):QR n fo N' op mask a r:=
 ⟨E.isN R.is,by rw[E.lvl ha,E.lvl R.is];exact R.lv,fun x=>by rw[E.sm H R.is,R.sm,qgF_ext H E ha]⟩
structure CR(n:Nat)(fo:Nat→Nat)(N:List (Option Nd))(at_ g a r:Nat):Prop where
 is:isN N r
 sm: ∀x,sm n fo N r x=cmF n fo at_ g N a x
theorem CR.ext{at_ g r:Nat}(R:CR n fo N at_ g a r)(H:NOk n N)(E:Ex N N')(hat:at_<n)(ha:isN N a)(hg:isN N g):CR n fo N' at_ g a r:=
 ⟨E.isN R.is,fun x=>by rw[E.sm H R.is,R.sm,cmF_ext H E hat ha hg]⟩
structure TR(n:Nat)(fo:Nat→Nat)(N:List (Option Nd))(a r:Nat):Prop where
 is:isN N r
 sm: ∀x,sm n fo N r x=tnF n fo N a x
theorem TR.ext{r:Nat}(R:TR n fo N a r)(H:NOk n N)(E:Ex N N')(ha:isN N a):TR n fo N' a r:=
 ⟨E.isN R.is,fun x=>by rw[E.sm H R.is,R.sm,tnF_ext H E ha]⟩
end
end
section
def F182.T:Hint:=⟨[(5,[14,15]),(6,[14])],[(3,[[(0,[]),(1,[]),(2,[]),(3,[]),(4,[]),(5,[]),(6,[]),(7,[]),(8,[]),(9,[0,1,2,3]),(10,[]),(11,[])]])]⟩
section
variable (n:Nat)(c:Addr)(d f g i j:Int)(a:Option Addr)(b:Value)(h:Heap)(K:KK)
def F182.wk6:Prop:=Cl 230 [.pointer a] h fun v1 h2=> ∃n3:Int,∃b4:Bool,v1=(.tuple #[.int .u64 n3,.bool b4])∧K (.tuple #[.int .u32 (IntKind.wrap .u32 n3),.bool b4]) h2
def F182.wL5:Prop:=Lp Tryz.f182 F182.T [1,1,1,0,1,0] n [(14,(.pointer a)),(15,b)] h K
theorem F182.sL5:F182.wL5 (n+1) a b h K=(dynK Tryz.prog X b [] h fun v1 h2=>ldB (some v1) fun b3=>bcase (!b3) (F182.wL5 n a b h2 K) (F182.wk6 a h2 K)):=by kernel_rfl
def F182.wk5:Prop:=(∃m,F182.wL5 m a b h K)
theorem F182.spec(H:ldB (rd h (c.add 7)) fun b1=>bcase b1 (K (.tuple #[.int .u32 0,.bool false]) h) (ldP (rd h (c.add 6)) fun p2=>Cl 228 [.int .u8 d,.int .u8 f,.int .u32 g,.int .u32 i,.int .u32 j] h fun v3 h4=>ldI .u64 (some v3) fun n5=>((.pointer (some c))=((.pointer (some c)):Value)∧((.pointer (some c))=((.pointer (some c)):Value)∧((.pointer (some (c.add 6)))=((.pointer (some (c.add 6))):Value)∧ldP (rd h4 (c.add 6)) fun p6=>((.pointer p6)=((.pointer p2):Value)∧Cl 227 [.pointer p2,.int .u64 n5] h4 fun v7 h8=>ldP (some v7) fun p9=>F182.wk5 p9 (.func (.func 229) #[.pointer p9] #[]) h8 K)))))):Cl 182 [.pointer (some c),.int .u8 d,.int .u8 f,.int .u32 g,.int .u32 i,.int .u32 j] h K:=cT F182.T Tryz.func182 H
end
def F207.T:Hint:=⟨[(3,[15])],[(1,[[(0,[]),(1,[]),(2,[]),(3,[]),(4,[]),(5,[]),(6,[]),(7,[]),(8,[]),(10,[]),(11,[]),(9,[0,1,2,3,10,11]),(12,[]),(13,[])]])]⟩
section
variable (n:Nat)(b:Addr)(d f g i j c:Int)(a:Value)(h:Heap)(K:KK)
def F207.wL3:Prop:=Lp Tryz.f207 F207.T [1,1,1,0] n [(15,a)] h K
theorem F207.sL3:F207.wL3 (n+1) a h K=(dynK Tryz.prog X a [] h fun v1 h2=>ldB (some v1) fun b3=>bcase (!b3) (F207.wL3 n a h2 K) (K (.tuple #[]) h2)):=by kernel_rfl
def F207.wk3:Prop:=(∃m,F207.wL3 m a h K)
theorem F207.spec(H:ldB (rd h (b.add 7)) fun b1=>bcase b1 (K (.tuple #[]) h) (ldP (rd h (b.add 6)) fun p2=>Cl 228 [.int .u8 d,.int .u8 f,.int .u32 g,.int .u32 i,.int .u32 j] h fun v3 h4=>ldI .u64 (some v3) fun n5=>((.pointer (some b))=((.pointer (some b)):Value)∧((.pointer (some b))=((.pointer (some b)):Value)∧((.pointer (some (b.add 6)))=((.pointer (some (b.add 6))):Value)∧ldP (rd h4 (b.add 6)) fun p6=>((.pointer p6)=((.pointer p2):Value)∧((.int .u32 c)=((.int .u32 c):Value)∧((.int .u64 (IntKind.wrap .u64 c))=((.int .u64 (IntKind.wrap .u64 c)):Value)∧Cl 252 [.pointer p2,.int .u64 n5,.int .u64 (IntKind.wrap .u64 c)] h4 fun v7 h8=>ldP (some v7) fun p9=>F207.wk3 (.func (.func 229) #[.pointer p9] #[]) h8 K)))))))):Cl 207 [.pointer (some b),.int .u8 d,.int .u8 f,.int .u32 g,.int .u32 i,.int .u32 j,.int .u32 c] h K:=cT F207.T Tryz.func207 H
end
theorem F228.spec(a b c d f:Int)(h:Heap)(K:KK)(H:(0≤(56:Int)∧(0≤(48:Int)∧(0≤(32:Int)∧(0≤(16:Int)∧K (.int .u64 (bitsI .or .u64 (bitsI .or .u64 (bitsI .or .u64 (bitsI .or .u64 (IntKind.wrap .u64 ((IntKind.wrap .u64 a)*2^(min (Int.toNat (56:Int)) (IntKind.bits .u64)))) (IntKind.wrap .u64 ((IntKind.wrap .u64 b)*2^(min (Int.toNat (48:Int)) (IntKind.bits .u64))))) (IntKind.wrap .u64 ((IntKind.wrap .u64 c)*2^(min (Int.toNat (32:Int)) (IntKind.bits .u64))))) (IntKind.wrap .u64 ((IntKind.wrap .u64 d)*2^(min (Int.toNat (16:Int)) (IntKind.bits .u64))))) (IntKind.wrap .u64 f))) h))))):Cl 228 [.int .u8 a,.int .u8 b,.int .u32 c,.int .u32 d,.int .u32 f] h K:=cN Tryz.func228 H
end
section
set_option maxRecDepth 100000 in
theorem sto_new{h:Heap}{n room:Nat}{Q:Int→Int→Prop}{K:Value→Heap→Prop}(h1:1≤n)(h8:n≤8)(r1:1≤room)(r2:room≤32768)
  (hK: ∀h' s L,Sto h' s L ⟨n,room,fill n,fill n,[],Q,false⟩→Only [] h h'→(∀b∈L,h.size≤b)→K (.tuple #[.pointer (some ⟨s,0,none⟩),.int .i64 0]) h'):
  Cl 61 [.int .i64 (n:Int),.int .i64 (room:Int)] h K:=by
 refine F61.spec _ _ h K ?_
 rw[decide_eq_false (by omega),bcase_false,decide_eq_false (by omega),bcase_false,decide_eq_false (by omega),bcase_false,decide_eq_false (by omega),bcase_false]
 unfold F61.wk5
 simp only[add_mk,Nat.zero_add]
 refine ord_new h1 h8 fun ob k1 Or g1 O1=>ldP_of rfl ?_
 have lo:ob<k1.size:=At.lt Or
 refine newK_at fun k2 A2 O2 z2=> ?_
 refine cells_spec (k:=256) (by omega) (by omega) (ldI_of rfl ?_)
 rw[show(3*256:Int)=((768:Nat):Int)from rfl]
 refine new_spec fun cm cmc k3 M3 O3 g2 g3=>ldP_of rfl ?_
 rw[cellsFor_of (by omega)]at M3
 have l1:=M3.head.lt
 have l2:=M3.body.lt
 refine cacnew_spec (base:=0) (n:=256) M3 (by omega) (by omega) (by simp) (by simp) fun cac k4 C4 O4 g4=>⟨_,_,rfl,?_⟩
 have l3:=At.lt C4
 have A4:=(A2.only O3 (by simp)).only O4 (by simp)
 refine stK_at A4 (by simp) rfl fun k5 A5 O5 z5=> ?_
 have hB: ∃B:SB,B=⟨ob,0,0,0,0,cac,cm,cmc,none,0,none,0⟩:=⟨_,rfl⟩
 obtain⟨B,eB⟩:=hB
 have H5:StR k5 k1.size n room B (fill n) (fill n) [] [] Q:=by
  subst eB
  refine⟨(((Or.only O2 (by simp)).only O3 (by simp)).only O4 (by simp)).only O5 (by simp;omega),Own.nil _ _ _,Win.nil _ _,⟨List.replicate 768 0,0,0,⟨C4.only O5 (by simp;omega),(M3.only O4 (by simp) (by simp)).only O5 (by simp;omega) (by simp;omega),by have:=M3.head.lt;show cac≠cm;omega,by show cac≠cmc;omega,by omega,by omega,by simp,by simp⟩,?_⟩,⟨h1,h8⟩,⟨by simp,r2,by simp⟩,?_⟩
  ·intro l hl
   have: ∀j,(List.replicate 768 (0:Int)).getD j 0=0:=fun j=>by
    rw[List.getD_eq_getElem?_getD,List.getElem?_replicate]
    split<;>rfl
   rw[this]
   exact⟨by omega,by omega,by omega,fun e=>by omega⟩
  ·have:=M3.ne
   simp[SB.bm,OwnB]
   omega
 have:=grows33 (T:=32) (bp:=none) (bc:=0) (bl:=[]) (K:=fun v h'=>(v=(.tuple #[])∧K (.tuple #[(.pointer (some (Addr.mk k1.size 0 none))),(.int .i64 (0:Int))]) h')) (show At k5 k1.size (gcell room B 0 0 false (.pointer none) (.map none)) by subst eB;exact A5) H5 (fun i hi=>absurd hi (by simp)) (fun a e=>by cases e) (by simp) (by rw[era_nil];simp[nd]) (by rw[era_nil];simp[nd]) ⟨0,rfl⟩ (by rw[era_nil];simp[cntN]) (by omega) fun tb m mc sb k6 H6 T6 _ p1 p2 p3 p4 O6=>⟨rfl,?_⟩
 ·exact this
 rw[era_nil]at T6
 have OO:Only [] h k6:=((((((O1.trans O2 (by simp)).trans O3 (by simp)).trans O4 (by simp)).trans O5 (by intro b hb hl;simp at hb;have:=O1.size;omega)).trans O6 (by intro b hb hl;simp at hb;have:=O1.size;omega)))
 have z1:=O1.size
 have z3:=O3.size
 have z4:=O4.size
 refine hK k6 k1.size _ ⟨_,[],rfl,H6,T6,⟨by simp[nd],by simp[nd]⟩,by simp[cntN],by simp⟩ OO fun b hb=> ?_
 subst eB
 simp[SB.bm,SB.bt,SB.tabs,OwnB]at hb
 omega
section
variable {h h':Heap}{s:Nat}{L S:List Nat}{X:SX}{K:Value→Heap→Prop}
theorem sto_order(H:Sto h s L X)(hK: ∀c h',OrdIs h' c X.n X.f X.g→h.size≤c→Only [] h h'→K (.pointer (some ⟨c,0,none⟩)) h'):Cl 47 [.pointer (some ⟨s,0,none⟩)] h K:=by
 obtain⟨B,F,e,H⟩:=H
 refine F47.spec _ h K ?_
 simp only[add_mk,Nat.zero_add]
 refine ldP_of (by rw[At.rd H.m.S];rfl) ?_
 exact ord_copy H.m.O fun c h' a b d=>ldP_of rfl (hK c h' a b d)
end
end
section
def wkey(op mask a b c:Nat):Nat:=op*2^56+(mask*2^48+(a*2^32+(b*2^16+c)))
theorem wkey_inj{op mask a b c op' mask' a' b' c':Nat}(h2:mask<2^8)(h3:a<2^16)(h4:b<2^16)(h5:c<2^16)(g2:mask'<2^8)(g3:a'<2^16)(g4:b'<2^16)(g5:c'<2^16)(e:wkey op mask a b c=wkey op' mask' a' b' c'):
  op=op'∧mask=mask'∧a=a'∧b=b'∧c=c':=by
 unfold wkey at e
 omega
theorem word107{h:Heap}{op mask a b c:Nat}{K:Value→Heap→Prop}(h1:op<2^8)(h2:mask<2^8)(h3:a<2^16)(h4:b<2^16)(h5:c<2^16)(hK:K (.int .u64 ((wkey op mask a b c:Nat):Int)) h):
  Cl 228 [.int .u8 (op:Int),.int .u8 (mask:Int),.int .u32 (a:Int),.int .u32 (b:Int),.int .u32 (c:Int)] h K:=by
 refine F228.spec _ _ _ _ _ h K ?_
 have U: ∀{x:Nat},x<2^64→IntKind.wrap .u64 (x:Int)=(x:Int):=fun h=>wrapU (by unfold U64;omega)
 have e1:IntKind.wrap .u64 ((IntKind.wrap .u64 (op:Int))*2^(min (Int.toNat (56:Int)) (IntKind.bits .u64)))=((op<<<56:Nat):Int):=by
  rw[U (by omega),show min (Int.toNat (56:Int)) (IntKind.bits .u64)=56 by rfl,show(op:Int)*2^56=((op*2^56:Nat):Int) by omega,U (by omega),Nat.shiftLeft_eq]
 have e2:IntKind.wrap .u64 ((IntKind.wrap .u64 (mask:Int))*2^(min (Int.toNat (48:Int)) (IntKind.bits .u64)))=((mask<<<48:Nat):Int):=by
  rw[U (by omega),show min (Int.toNat (48:Int)) (IntKind.bits .u64)=48 by rfl,show(mask:Int)*2^48=((mask*2^48:Nat):Int) by omega,U (by omega),Nat.shiftLeft_eq]
 have e3:IntKind.wrap .u64 ((IntKind.wrap .u64 (a:Int))*2^(min (Int.toNat (32:Int)) (IntKind.bits .u64)))=((a<<<32:Nat):Int):=by
  rw[U (by omega),show min (Int.toNat (32:Int)) (IntKind.bits .u64)=32 by rfl,show(a:Int)*2^32=((a*2^32:Nat):Int) by omega,U (by omega),Nat.shiftLeft_eq]
 have e4:IntKind.wrap .u64 ((IntKind.wrap .u64 (b:Int))*2^(min (Int.toNat (16:Int)) (IntKind.bits .u64)))=((b<<<16:Nat):Int):=by
  rw[U (by omega),show min (Int.toNat (16:Int)) (IntKind.bits .u64)=16 by rfl,show(b:Int)*2^16=((b*2^16:Nat):Int) by omega,U (by omega),Nat.shiftLeft_eq]
 refine⟨by omega,by omega,by omega,by omega,?_⟩
 rw[e1,e2,e3,e4,U (by omega)]
 have s1:op<<<56<U64:=by rw[Nat.shiftLeft_eq];unfold U64;omega
 have s2:mask<<<48<U64:=by rw[Nat.shiftLeft_eq];unfold U64;omega
 have s3:a<<<32<U64:=by rw[Nat.shiftLeft_eq];unfold U64;omega
 have s4:b<<<16<U64:=by rw[Nat.shiftLeft_eq];unfold U64;omega
 have s5:c<U64:=by unfold U64;omega
 rw[bor s1 s2,bor (or_lt s1 s2) s3,bor (or_lt (or_lt s1 s2) s3) s4,bor (or_lt (or_lt (or_lt s1 s2) s3) s4) s5,Nat.or_assoc,Nat.or_assoc,Nat.or_assoc,←Nat.shiftLeft_add_eq_or_of_lt h5,
  ←Nat.shiftLeft_add_eq_or_of_lt (b:=b<<<16+c) (by rw[Nat.shiftLeft_eq];omega),←Nat.shiftLeft_add_eq_or_of_lt (b:=a<<<32+(b<<<16+c)) (by rw[Nat.shiftLeft_eq,Nat.shiftLeft_eq];omega),
  ←Nat.shiftLeft_add_eq_or_of_lt (b:=mask<<<48+(a<<<32+(b<<<16+c))) (by rw[Nat.shiftLeft_eq,Nat.shiftLeft_eq,Nat.shiftLeft_eq];omega)]
 rw[Nat.shiftLeft_eq,Nat.shiftLeft_eq,Nat.shiftLeft_eq,Nat.shiftLeft_eq]
 exact hK
theorem CSound.get{Q:Int→Int→Prop}{cs:List Int}{key v:Int}(S:CSound Q cs)(G:GetRel (lineOf 0 256 key) key cs v true):Q key v:=by
 rcases G with⟨-,h1,h2,h3⟩|⟨h,-⟩
 ·have hl:=home_lt key (n:=256) (by omega)
  obtain⟨a,b,c,d⟩:=S (home key 256) hl
  unfold lineOf at h1 h2 h3
  rw[Nat.zero_add]at h1 h2 h3
  rw[and_three a b]at h1
  rw[←h2,h3]
  exact d h1
 ·cases h
theorem CSound.put{Q:Int→Int→Prop}{cs cs':List Int}{key v:Int}(S:CSound Q cs)(G:PutRel (lineOf 0 256 key) key v cs cs')(hq:Q key v):CSound Q cs':=by
 obtain⟨h1,h2,h3⟩:=G
 have hl:=home_lt key (n:=256) (by omega)
 unfold lineOf at h2 h3
 generalize home key 256=y at hl h2 h3
 rw[Nat.zero_add]at h2 h3
 rcases h3 with⟨h4,h5,h6,h7⟩|⟨-,h4⟩
 ·intro l hl'
  by_cases e:l=y
  ·subst e
   obtain⟨a,b,c,d⟩:=S l hl'
   rw[or_two a b]at h5
   rw[h5,h6,h7]
   have w:=wrap_u64' (4*(cs.getD (3*l) 0/4)+2+cs.getD (3*l) 0%2+4)
   rw[w]
   refine⟨by omega,by omega,by omega,fun _=>hq⟩
  ·rw[h2 (3*l) (by omega) (by omega) (by omega),h2 (3*l+1) (by omega) (by omega) (by omega),h2 (3*l+2) (by omega) (by omega) (by omega)]
   exact S l hl'
 ·subst h4
  exact S
theorem go229:xget X 229=some Ext.go:=by kernel_rfl
section
variable {h:Heap}{s:Nat}{L S:List Nat}{X:SX}{K:Value→Heap→Prop}
theorem recall_loop{c m mc f:Nat}{cs:List Int}{ops fails:Int}{key:Int}(W:CW h c m mc 0 256 cs ops fails)(H:ActIs h f m (getA 0 256 key))(d1:f≠c)(d2:f≠m)(d3:f≠mc)
  (hK: ∀h' ops' fails' v ok,GetRel (lineOf 0 256 key) key cs v ok→CW h' c m mc 0 256 cs ops' fails'→Only [f,m,mc] h h'→K (.tuple #[.int .u32 (IntKind.wrap .u32 v),.bool ok]) h'):
  F182.wk5 (some ⟨f,0,none⟩) (.func (.func 229) #[.pointer (some ⟨f,0,none⟩)] #[]) h K:=by
 unfold F182.wk5
 have main: ∀(d:Nat) (A:Ac) (h1:Heap) (ops1 fails1:Int),9-A.ph≤d→A.ph≤8→GInv cs A→A.pos=lineOf 0 256 key→A.key=key→ActIs h1 f m A→CW h1 c m mc 0 256 cs ops1 fails1→Only [f,m,mc] h h1→
   F182.wL5 (d+1) (some ⟨f,0,none⟩) (.func (.func 229) #[.pointer (some ⟨f,0,none⟩)] #[]) h1 K:=by
  intro d
  induction d with
  |zero=>intro A h1 ops1 fails1 hg hp;omega
  |succ d ih=>
   intro A h1 ops1 fails1 hg hph G hp hk H1 W1 O1
   rw[F182.sL5]
   refine dynK_go go229 ?_
   refine stepA_cw W1 H1 (by rw[hp];exact W1.pos key) hph d1 d2 d3 fun h2 ops2 fails2 H2 W2 O2=>ldB_of rfl ?_
   obtain⟨s1,s2,s3,s4⟩:=G.step
   rw[s1]at W2
   have O12:=O1.trans O2 fun b hb _=>hb
   rcases s4 with⟨e,r⟩|⟨G',e⟩
   ·rw[e,Bool.not_true,bcase_false]
    unfold F182.wk6
    refine got_spec H2 ⟨_,_,rfl,?_⟩
    rw[hp,hk]at r
    exact hK h2 ops2 fails2 _ _ r W2 O12
   ·rw[G'.1,Bool.not_false,bcase_true]
    have hp8:(stepA cs A).1.ph≤8:=by
     rcases G'.2.2 with e'|⟨e',_⟩|⟨e',_⟩|⟨e',_⟩<;>omega
    exact ih _ h2 ops2 fails2 (by omega) hp8 G' (s2.trans hp) (s3.trans hk) H2 W2 O12
 exact⟨_,main 5 (getA 0 256 key) h ops fails (by show 9-5≤5;omega) (by show 5≤8;omega) ⟨rfl,rfl,Or.inl rfl⟩ rfl rfl H W (Only.refl _ _)⟩
theorem note_loop{c m mc f:Nat}{cs:List Int}{ops fails:Int}{key val:Int}(W:CW h c m mc 0 256 cs ops fails)(H:ActIs h f m (putA 0 256 key val))(d1:f≠c)(d2:f≠m)(d3:f≠mc)
  (hK: ∀h' ops' fails' cs',PutRel (lineOf 0 256 key) key val cs cs'→CW h' c m mc 0 256 cs' ops' fails'→Only [f,m,mc] h h'→K (.tuple #[]) h'):
  F207.wk3 (.func (.func 229) #[.pointer (some ⟨f,0,none⟩)] #[]) h K:=by
 unfold F207.wk3
 have main: ∀(d:Nat) (A:Ac) (cs1:List Int) (h1:Heap) (ops1 fails1:Int),5-A.ph≤d→A.ph≤4→PInvA cs cs1 A→A.pos=lineOf 0 256 key→A.key=key→A.val=val→ActIs h1 f m A→CW h1 c m mc 0 256 cs1 ops1 fails1→Only [f,m,mc] h h1→
   F207.wL3 (d+1) (.func (.func 229) #[.pointer (some ⟨f,0,none⟩)] #[]) h1 K:=by
  intro d
  induction d with
  |zero=>intro A cs1 h1 ops1 fails1 hg hp;omega
  |succ d ih=>
   intro A cs1 h1 ops1 fails1 hg hph G hp hk hv H1 W1 O1
   rw[F207.sL3]
   refine dynK_go go229 ?_
   refine stepA_cw W1 H1 (by rw[hp];exact W1.pos key) (by omega) d1 d2 d3 fun h2 ops2 fails2 H2 W2 O2=>ldB_of rfl ?_
   obtain⟨s2,s3,s3',s4⟩:=G.step (by rw[hp];exact W.pos key)
   have O12:=O1.trans O2 fun b hb _=>hb
   rcases s4 with⟨e,eo,r⟩|⟨G',e⟩
   ·rw[e,Bool.not_true,bcase_false]
    rw[hp,hk,hv]at r
    exact hK h2 ops2 fails2 _ r W2 O12
   ·rw[G'.1,Bool.not_false,bcase_true]
    have hp4:(stepA cs1 A).1.ph≤4:=by
     rcases G'.2.2 with⟨e',_⟩|⟨_,_,⟨e',_⟩|⟨e',_⟩|⟨e',_⟩|⟨e',_⟩⟩<;>omega
    exact ih _ _ h2 ops2 fails2 (by omega) hp4 G' (s2.trans hp) (s3.trans hk) (s3'.trans hv) H2 W2 O12
 exact⟨_,main 5 (putA 0 256 key val) cs h ops fails (by show 5-0≤5;omega) (Nat.zero_le _) ⟨rfl,rfl,Or.inl ⟨rfl,rfl⟩⟩ rfl rfl rfl H W (Only.refl _ _)⟩
theorem cac_only{B:SB}{F:List Nat}{h':Heap}(H:StIs h s X.n X.room B X.f X.g X.N F X.Q X.off)(O:Only [B.cm,B.cmc] h h')(C:CacOk h' B X.Q):StIs h' s X.n X.room B X.f X.g X.N F X.Q X.off:=by
 have sp:=H.m.sep
 have ts:=H.t.sep
 have n1: ∀b,b∈[s,B.ob]++OwnB B.p++OwnB B.fp→b∉[B.cm,B.cmc]:=fun b hb hm=>by
  unfold SB.bm at sp
  simp only[List.nodup_append,List.mem_append,ne_eq,List.nodup_cons,List.mem_cons,List.not_mem_nil,or_false,not_or]at sp
  obtain⟨⟨g1,_,g2⟩,_,g4⟩:=sp
  have hc:b=s∨b=B.ob∨b=B.cac∨b=B.cm∨b=B.cmc:=by simp at hm;omega
  simp only[List.mem_append,List.mem_cons,List.not_mem_nil,or_false]at hb hm
  rcases hb with(hb|hb)|hb
  ·omega
  ·exact g2 b hc b hb rfl
  ·exact g4 b (.inl hc) b hb rfl
 refine⟨⟨H.m.S.only O (n1 _ (by simp)),H.m.O.only O (n1 _ (by simp)),H.m.own.only O fun b hb=>n1 _ (by simp[hb,OwnB]),H.m.fre.only O fun b hb=>n1 _ (by simp[hb]),C,H.m.n8,H.m.len,H.m.sep⟩,H.t.only O fun b hb hm=>ts b hm (by simp[SB.bm]at hb ⊢;omega),H.ok,H.cnt,H.fre⟩
theorem sto_recall(H:Sto h s L X){op mask a b c:Nat}(h1:op<2^8)(h2:mask<2^8)(h3:a<2^16)(h4:b<2^16)(h5:c<2^16)
  (hN: ∀h',Sto h' s L X→Only L h h'→K (.tuple #[.int .u32 0,.bool false]) h') (hY: ∀h' v,X.Q (wkey op mask a b c:Nat) v→Sto h' s L X→Only L h h'→K (.tuple #[.int .u32 (IntKind.wrap .u32 v),.bool true]) h'):
  Cl 182 [.pointer (some ⟨s,0,none⟩),.int .u8 (op:Int),.int .u8 (mask:Int),.int .u32 (a:Int),.int .u32 (b:Int),.int .u32 (c:Int)] h K:=by
 have H0:=H
 obtain⟨B,F,e,H⟩:=H
 obtain⟨cs,o,f',W,S⟩:=H.m.cac
 refine F182.spec _ _ _ _ _ _ h K ?_
 simp only[add_mk,Nat.zero_add]
 refine ldB_of (n:=X.off) (by rw[At.rd H.m.S];rfl) (bcase_of (fun _=>hN h H0 (Only.refl _ _)) fun _=> ?_)
 have rc:rd h ⟨s,6,none⟩=some (.pointer (some ⟨B.cac,0,none⟩)):=by rw[At.rd H.m.S];rfl
 refine ldP_of rc (word107 h1 h2 h3 h4 h5 (ldI_of rfl ⟨trivial,trivial,trivial,ldP_of rc ⟨rfl,?_⟩⟩))
 refine get_spec W.cac (by omega) (by omega) (by omega) fun f k1 A1 O1 g1=>ldP_of rfl ?_
 have wl:=W.lt
 refine recall_loop (W.only O1 (by simp) (by simp) (by simp)) A1 (by omega) (by omega) (by omega) fun h' ops' fails' v ok G W' O'=> ?_
 have OO:Only [B.cm,B.cmc] h h':=((Only.refl [B.cm,B.cmc] h).trans O1 (by simp)).trans O' (by intro x hx hl;simp at hx ⊢;omega)
 have S':Sto h' s L X:=⟨B,F,e,cac_only H OO ⟨cs,ops',fails',W',S⟩⟩
 have OL:Only L h h':=OO.mono fun x hx _=>by
  subst e
  simp[SB.bm]at hx ⊢
  omega
 cases ok with
 |true=>exact hY h' v (S.get G) S' OL
 |false=>
  rcases G with⟨g,-⟩|⟨-,g,-⟩
  ·cases g
  ·subst g
   exact hN h' S' OL
theorem sto_note(H:Sto h s L X){op mask a b c r:Nat}(h1:op<2^8)(h2:mask<2^8)(h3:a<2^16)(h4:b<2^16)(h5:c<2^16)(h6:r<2^32)(hq:X.Q (wkey op mask a b c:Nat) (r:Int))
  (hK: ∀h',Sto h' s L X→Only L h h'→K (.tuple #[]) h'):
  Cl 207 [.pointer (some ⟨s,0,none⟩),.int .u8 (op:Int),.int .u8 (mask:Int),.int .u32 (a:Int),.int .u32 (b:Int),.int .u32 (c:Int),.int .u32 (r:Int)] h K:=by
 have H0:=H
 obtain⟨B,F,e,H⟩:=H
 obtain⟨cs,o,f',W,S⟩:=H.m.cac
 refine F207.spec _ _ _ _ _ _ _ h K ?_
 simp only[add_mk,Nat.zero_add]
 refine ldB_of (n:=X.off) (by rw[At.rd H.m.S];rfl) (bcase_of (fun _=>hK h H0 (Only.refl _ _)) fun _=> ?_)
 have rc:rd h ⟨s,6,none⟩=some (.pointer (some ⟨B.cac,0,none⟩)):=by rw[At.rd H.m.S];rfl
 refine ldP_of rc (word107 h1 h2 h3 h4 h5 (ldI_of rfl ⟨trivial,trivial,trivial,ldP_of rc ⟨rfl,by trivial,by trivial,?_⟩⟩))
 rw[wrapU (a:=r) (by unfold U64;omega)]
 refine put_spec W.cac (by omega) (by omega) (by omega) fun f k1 A1 O1 g1=>ldP_of rfl ?_
 have wl:=W.lt
 refine note_loop (W.only O1 (by simp) (by simp) (by simp)) A1 (by omega) (by omega) (by omega) fun h' ops' fails' cs' G W' O'=> ?_
 have OO:Only [B.cm,B.cmc] h h':=((Only.refl [B.cm,B.cmc] h).trans O1 (by simp)).trans O' (by intro x hx hl;simp at hx ⊢;omega)
 have S':Sto h' s L X:=⟨B,F,e,cac_only H OO ⟨cs',ops',fails',W',S.put G hq⟩⟩
 have OL:Only L h h':=OO.mono fun x hx _=>by
  subst e
  simp[SB.bm]at hx ⊢
  omega
 exact hK h' S' OL
end
end
section
end
section
def F112.T:Hint:=⟨[(5,[0,2,3,5]),(8,[0,2,3,10,11])],[(1,[[(0,[]),(1,[0]),(2,[]),(3,[]),(4,[]),(5,[4]),(6,[]),(7,[])]]),(2,[[(0,[]),(1,[0]),(2,[])]]),(7,[[(0,[]),(1,[]),(2,[]),(3,[]),(4,[]),(6,[]),(7,[]),(8,[]),(9,[]),(10,[]),(5,[6,7,8,9,10]),(11,[]),(12,[0,1,2,3,4,6,7,8,9,10]),(13,[0,1,2,3,4,6,7,8,9,10]),(14,[]),(15,[])],[(0,[]),(1,[]),(2,[]),(3,[]),(4,[]),(6,[]),(7,[]),(8,[]),(9,[]),(10,[]),(5,[6,7,8,9,10]),(11,[]),(13,[0,1,2,3,4,6,7,8,9,10]),(12,[0,1,2,3,4,6,7,8,9,10]),(14,[]),(15,[])],[(0,[]),(1,[]),(2,[]),(3,[]),(4,[]),(6,[]),(7,[]),(8,[]),(9,[]),(10,[]),(5,[6,7,8,9,10]),(12,[0,1,2,3,4,6,7,8,9,10]),(11,[]),(13,[0,1,2,3,4,6,7,8,9,10]),(14,[]),(15,[])],[(0,[]),(1,[]),(2,[]),(3,[]),(4,[]),(6,[]),(7,[]),(8,[]),(9,[]),(10,[]),(5,[6,7,8,9,10]),(12,[0,1,2,3,4,6,7,8,9,10]),(13,[0,1,2,3,4,6,7,8,9,10]),(11,[]),(14,[]),(15,[])],[(0,[]),(1,[]),(2,[]),(3,[]),(4,[]),(6,[]),(7,[]),(8,[]),(9,[]),(10,[]),(5,[6,7,8,9,10]),(13,[0,1,2,3,4,6,7,8,9,10]),(11,[]),(12,[0,1,2,3,4,6,7,8,9,10]),(14,[]),(15,[])],[(0,[]),(1,[]),(2,[]),(3,[]),(4,[]),(6,[]),(7,[]),(8,[]),(9,[]),(10,[]),(5,[6,7,8,9,10]),(13,[0,1,2,3,4,6,7,8,9,10]),(12,[0,1,2,3,4,6,7,8,9,10]),(11,[]),(14,[]),(15,[])],[(0,[]),(1,[]),(2,[]),(3,[]),(4,[]),(6,[]),(7,[]),(8,[]),(9,[]),(10,[]),(12,[0,1,2,3,4,6,7,8,9,10]),(5,[6,7,8,9,10]),(11,[]),(13,[0,1,2,3,4,6,7,8,9,10]),(14,[]),(15,[])],[(0,[]),(1,[]),(2,[]),(3,[]),(4,[]),(6,[]),(7,[]),(8,[]),(9,[]),(10,[]),(12,[0,1,2,3,4,6,7,8,9,10]),(5,[6,7,8,9,10]),(13,[0,1,2,3,4,6,7,8,9,10]),(11,[]),(14,[]),(15,[])],[(0,[]),(1,[]),(2,[]),(3,[]),(4,[]),(6,[]),(7,[]),(8,[]),(9,[]),(10,[]),(12,[0,1,2,3,4,6,7,8,9,10]),(13,[0,1,2,3,4,6,7,8,9,10]),(5,[6,7,8,9,10]),(11,[]),(14,[]),(15,[])],[(0,[]),(1,[]),(2,[]),(3,[]),(4,[]),(6,[]),(7,[]),(8,[]),(9,[]),(10,[]),(13,[0,1,2,3,4,6,7,8,9,10]),(5,[6,7,8,9,10]),(11,[]),(12,[0,1,2,3,4,6,7,8,9,10]),(14,[]),(15,[])],[(0,[]),(1,[]),(2,[]),(3,[]),(4,[]),(6,[]),(7,[]),(8,[]),(9,[]),(10,[]),(13,[0,1,2,3,4,6,7,8,9,10]),(5,[6,7,8,9,10]),(12,[0,1,2,3,4,6,7,8,9,10]),(11,[]),(14,[]),(15,[])],[(0,[]),(1,[]),(2,[]),(3,[]),(4,[]),(6,[]),(7,[]),(8,[]),(9,[]),(10,[]),(13,[0,1,2,3,4,6,7,8,9,10]),(12,[0,1,2,3,4,6,7,8,9,10]),(5,[6,7,8,9,10]),(11,[]),(14,[]),(15,[])]])]⟩
section
variable (i:Addr)(c:Option Addr)(b d:Nat)(a:Int)(f g j:Addr)(h:Heap)(K:KK)
def F112.wk8:Prop:=ldI .u64 (rd h (g.add 0)) fun n1=>ldI .u64 (rd h (g.add 1)) fun n2=>ldI .u64 (rd h (g.add 2)) fun n3=>ldI .u64 (rd h (g.add 3)) fun n4=>ldI .u64 (rd h (j.add 0)) fun n5=>ldI .u64 (rd h (j.add 1)) fun n6=>ldI .u64 (rd h (j.add 2)) fun n7=>ldI .u64 (rd h (j.add 3)) fun n8=>bcase (n1==n5&&(n2==n6&&(n3==n7&&(n4==n8&&true)))) (ldI .u64 (rd h (g.add 0)) fun n9=>ldI .u64 (rd h (g.add 1)) fun n10=>ldI .u64 (rd h (g.add 2)) fun n11=>ldI .u64 (rd h (g.add 3)) fun n12=>Cl 112 [.pointer (some i),.agg #[.int .u64 n9,.int .u64 n10,.int .u64 n11,.int .u64 n12],.slice c b d,.int .i64 (IntKind.wrap .i64 (a+(1:Int)))] h fun v13 h14=> ∃n15:Int,∃b16:Bool,v13=(.tuple #[.int .u32 n15,.bool b16])∧K (.tuple #[.int .u32 n15,.bool b16]) h14) (ldI .u64 (rd h (g.add 0)) fun n17=>ldI .u64 (rd h (g.add 1)) fun n18=>ldI .u64 (rd h (g.add 2)) fun n19=>ldI .u64 (rd h (g.add 3)) fun n20=>Cl 112 [.pointer (some i),.agg #[.int .u64 n17,.int .u64 n18,.int .u64 n19,.int .u64 n20],.slice c b d,.int .i64 (IntKind.wrap .i64 (a+(1:Int)))] h fun v21 h22=> ∃n23:Int,∃b24:Bool,v21=(.tuple #[.int .u32 n23,.bool b24])∧ldI .u64 (rd h22 (j.add 0)) fun n25=>ldI .u64 (rd h22 (j.add 1)) fun n26=>ldI .u64 (rd h22 (j.add 2)) fun n27=>ldI .u64 (rd h22 (j.add 3)) fun n28=>Cl 112 [.pointer (some i),.agg #[.int .u64 n25,.int .u64 n26,.int .u64 n27,.int .u64 n28],.slice c b d,.int .i64 (IntKind.wrap .i64 (a+(1:Int)))] h22 fun v29 h30=> ∃n31:Int,∃b32:Bool,v29=(.tuple #[.int .u32 n31,.bool b32])∧bcase (!b24) (K (.tuple #[.int .u32 0,.bool false]) h30) (bcase (!b32) (K (.tuple #[.int .u32 0,.bool false]) h30) (Cl 161 [.pointer (some i),.int .i64 a,.int .u32 n23,.int .u32 n31] h30 fun v33 h34=> ∃n35:Int,∃n36:Int,v33=(.tuple #[.int .u32 n35,.int .i64 n36])∧K (.tuple #[.int .u32 n35,.bool (n36==(0:Int))]) h34)))
def F112.wk5:Prop:=bcase (decide (a≥(Nat.cast b:Int))) (K (.tuple #[.int .u32 0,.bool false]) h) (ldI .u64 (rd h (f.add 0)) fun n1=>ldI .u64 (rd h (f.add 1)) fun n2=>ldI .u64 (rd h (f.add 2)) fun n3=>ldI .u64 (rd h (f.add 3)) fun n4=>ptrK c fun a5=>0≤a∧a<(Nat.cast b:Int)∧ldI .i64 (rd h (a5.add (Int.toNat a*1))) fun n6=>ldI .u64 (rd h (f.add 0)) fun n7=>ldI .u64 (rd h (f.add 1)) fun n8=>ldI .u64 (rd h (f.add 2)) fun n9=>ldI .u64 (rd h (f.add 3)) fun n10=>ptrK c fun a11=>0≤a∧a<(Nat.cast b:Int)∧ldI .i64 (rd h (a11.add (Int.toNat a*1))) fun n12=>(Cl 155 [.agg #[.int .u64 n1,.int .u64 n2,.int .u64 n3,.int .u64 n4],.int .i64 n6,.bool false] h (fun v13 h14=> ∃n15:Int,∃n16:Int,∃n17:Int,∃n18:Int,v13=(.agg #[.int .u64 n15,.int .u64 n16,.int .u64 n17,.int .u64 n18])∧ldI .u64 (rd h14 (f.add 0)) fun n19=>ldI .u64 (rd h14 (f.add 1)) fun n20=>ldI .u64 (rd h14 (f.add 2)) fun n21=>ldI .u64 (rd h14 (f.add 3)) fun n22=>((.agg #[.int .u64 n19,.int .u64 n20,.int .u64 n21,.int .u64 n22])=((.agg #[.int .u64 n7,.int .u64 n8,.int .u64 n9,.int .u64 n10]):Value)∧((.slice c b d)=((.slice c b d):Value)∧((.int .i64 a)=((.int .i64 a):Value)∧ptrK c fun a23=>0≤a∧a<(Nat.cast b:Int)∧((.pointer (some (a23.add (Int.toNat a*1))))=((.pointer (some (a11.add (Int.toNat a*1)))):Value)∧ldI .i64 (rd h14 (a11.add (Int.toNat a*1))) fun n24=>((.int .i64 n24)=((.int .i64 n12):Value)∧(Cl 155 [.agg #[.int .u64 n7,.int .u64 n8,.int .u64 n9,.int .u64 n10],.int .i64 n12,.bool true] h14 (fun v25 h26=> ∃n27:Int,∃n28:Int,∃n29:Int,∃n30:Int,v25=(.agg #[.int .u64 n27,.int .u64 n28,.int .u64 n29,.int .u64 n30])∧(newK h26 (.cells #[.int .u64 0,.int .u64 0,.int .u64 0,.int .u64 0] 51) (fun b31 h32=>ldI .u64 (rd h32 (f.add 0)) fun n33=>ldI .u64 (rd h32 (f.add 1)) fun n34=>ldI .u64 (rd h32 (f.add 2)) fun n35=>ldI .u64 (rd h32 (f.add 3)) fun n36=>((.agg #[.int .u64 n33,.int .u64 n34,.int .u64 n35,.int .u64 n36])=((.agg #[.int .u64 n1,.int .u64 n2,.int .u64 n3,.int .u64 n4]):Value)∧((.slice c b d)=((.slice c b d):Value)∧((.int .i64 a)=((.int .i64 a):Value)∧ptrK c fun a37=>0≤a∧a<(Nat.cast b:Int)∧((.pointer (some (a37.add (Int.toNat a*1))))=((.pointer (some (a5.add (Int.toNat a*1)))):Value)∧ldI .i64 (rd h32 (a5.add (Int.toNat a*1))) fun n38=>((.int .i64 n38)=((.int .i64 n6):Value)∧ldI .u64 (rd h32 (f.add 0)) fun n39=>ldI .u64 (rd h32 (f.add 1)) fun n40=>ldI .u64 (rd h32 (f.add 2)) fun n41=>ldI .u64 (rd h32 (f.add 3)) fun n42=>((.agg #[.int .u64 n39,.int .u64 n40,.int .u64 n41,.int .u64 n42])=((.agg #[.int .u64 n7,.int .u64 n8,.int .u64 n9,.int .u64 n10]):Value)∧((.slice c b d)=((.slice c b d):Value)∧((.int .i64 a)=((.int .i64 a):Value)∧ptrK c fun a43=>0≤a∧a<(Nat.cast b:Int)∧((.pointer (some (a43.add (Int.toNat a*1))))=((.pointer (some (a11.add (Int.toNat a*1)))):Value)∧ldI .i64 (rd h32 (a11.add (Int.toNat a*1))) fun n44=>((.int .i64 n44)=((.int .i64 n12):Value)∧newK h32 (.cells #[.int .u64 0,.int .u64 0,.int .u64 0,.int .u64 0] 51) fun b45 h46=>ldI .u64 (rd h46 (f.add 0)) fun n47=>ldI .u64 (rd h46 (f.add 1)) fun n48=>ldI .u64 (rd h46 (f.add 2)) fun n49=>ldI .u64 (rd h46 (f.add 3)) fun n50=>((.agg #[.int .u64 n47,.int .u64 n48,.int .u64 n49,.int .u64 n50])=((.agg #[.int .u64 n1,.int .u64 n2,.int .u64 n3,.int .u64 n4]):Value)∧((.slice c b d)=((.slice c b d):Value)∧((.int .i64 a)=((.int .i64 a):Value)∧ptrK c fun a51=>0≤a∧a<(Nat.cast b:Int)∧((.pointer (some (a51.add (Int.toNat a*1))))=((.pointer (some (a5.add (Int.toNat a*1)))):Value)∧ldI .i64 (rd h46 (a5.add (Int.toNat a*1))) fun n52=>((.int .i64 n52)=((.int .i64 n6):Value)∧ldI .u64 (rd h46 (f.add 0)) fun n53=>ldI .u64 (rd h46 (f.add 1)) fun n54=>ldI .u64 (rd h46 (f.add 2)) fun n55=>ldI .u64 (rd h46 (f.add 3)) fun n56=>((.agg #[.int .u64 n53,.int .u64 n54,.int .u64 n55,.int .u64 n56])=((.agg #[.int .u64 n7,.int .u64 n8,.int .u64 n9,.int .u64 n10]):Value)∧((.slice c b d)=((.slice c b d):Value)∧((.int .i64 a)=((.int .i64 a):Value)∧ptrK c fun a57=>0≤a∧a<(Nat.cast b:Int)∧((.pointer (some (a57.add (Int.toNat a*1))))=((.pointer (some (a11.add (Int.toNat a*1)))):Value)∧ldI .i64 (rd h46 (a11.add (Int.toNat a*1))) fun n58=>((.int .i64 n58)=((.int .i64 n12):Value)∧stK h46 ((Addr.mk b31 0 none).add 0) (.int .u64 n15) fun h59=>stK h59 ((Addr.mk b31 0 none).add 1) (.int .u64 n16) fun h60=>stK h60 ((Addr.mk b31 0 none).add 2) (.int .u64 n17) fun h61=>stK h61 ((Addr.mk b31 0 none).add 3) (.int .u64 n18) fun h62=>stK h62 ((Addr.mk b45 0 none).add 0) (.int .u64 n27) fun h63=>stK h63 ((Addr.mk b45 0 none).add 1) (.int .u64 n28) fun h64=>stK h64 ((Addr.mk b45 0 none).add 2) (.int .u64 n29) fun h65=>stK h65 ((Addr.mk b45 0 none).add 3) (.int .u64 n30) fun h66=>F112.wk8 i c b d a (Addr.mk b31 0 none) (Addr.mk b45 0 none) h66 K)))))))))))))))))))))∧newK h26 (.cells #[.int .u64 0,.int .u64 0,.int .u64 0,.int .u64 0] 51) fun b67 h68=>ldI .u64 (rd h68 (f.add 0)) fun n69=>ldI .u64 (rd h68 (f.add 1)) fun n70=>ldI .u64 (rd h68 (f.add 2)) fun n71=>ldI .u64 (rd h68 (f.add 3)) fun n72=>((.agg #[.int .u64 n69,.int .u64 n70,.int .u64 n71,.int .u64 n72])=((.agg #[.int .u64 n1,.int .u64 n2,.int .u64 n3,.int .u64 n4]):Value)∧((.slice c b d)=((.slice c b d):Value)∧((.int .i64 a)=((.int .i64 a):Value)∧ptrK c fun a73=>0≤a∧a<(Nat.cast b:Int)∧((.pointer (some (a73.add (Int.toNat a*1))))=((.pointer (some (a5.add (Int.toNat a*1)))):Value)∧ldI .i64 (rd h68 (a5.add (Int.toNat a*1))) fun n74=>((.int .i64 n74)=((.int .i64 n6):Value)∧ldI .u64 (rd h68 (f.add 0)) fun n75=>ldI .u64 (rd h68 (f.add 1)) fun n76=>ldI .u64 (rd h68 (f.add 2)) fun n77=>ldI .u64 (rd h68 (f.add 3)) fun n78=>((.agg #[.int .u64 n75,.int .u64 n76,.int .u64 n77,.int .u64 n78])=((.agg #[.int .u64 n7,.int .u64 n8,.int .u64 n9,.int .u64 n10]):Value)∧((.slice c b d)=((.slice c b d):Value)∧((.int .i64 a)=((.int .i64 a):Value)∧ptrK c fun a79=>0≤a∧a<(Nat.cast b:Int)∧((.pointer (some (a79.add (Int.toNat a*1))))=((.pointer (some (a11.add (Int.toNat a*1)))):Value)∧ldI .i64 (rd h68 (a11.add (Int.toNat a*1))) fun n80=>((.int .i64 n80)=((.int .i64 n12):Value)∧newK h68 (.cells #[.int .u64 0,.int .u64 0,.int .u64 0,.int .u64 0] 51) fun b81 h82=>ldI .u64 (rd h82 (f.add 0)) fun n83=>ldI .u64 (rd h82 (f.add 1)) fun n84=>ldI .u64 (rd h82 (f.add 2)) fun n85=>ldI .u64 (rd h82 (f.add 3)) fun n86=>((.agg #[.int .u64 n83,.int .u64 n84,.int .u64 n85,.int .u64 n86])=((.agg #[.int .u64 n1,.int .u64 n2,.int .u64 n3,.int .u64 n4]):Value)∧((.slice c b d)=((.slice c b d):Value)∧((.int .i64 a)=((.int .i64 a):Value)∧ptrK c fun a87=>0≤a∧a<(Nat.cast b:Int)∧((.pointer (some (a87.add (Int.toNat a*1))))=((.pointer (some (a5.add (Int.toNat a*1)))):Value)∧ldI .i64 (rd h82 (a5.add (Int.toNat a*1))) fun n88=>((.int .i64 n88)=((.int .i64 n6):Value)∧ldI .u64 (rd h82 (f.add 0)) fun n89=>ldI .u64 (rd h82 (f.add 1)) fun n90=>ldI .u64 (rd h82 (f.add 2)) fun n91=>ldI .u64 (rd h82 (f.add 3)) fun n92=>((.agg #[.int .u64 n89,.int .u64 n90,.int .u64 n91,.int .u64 n92])=((.agg #[.int .u64 n7,.int .u64 n8,.int .u64 n9,.int .u64 n10]):Value)∧((.slice c b d)=((.slice c b d):Value)∧((.int .i64 a)=((.int .i64 a):Value)∧ptrK c fun a93=>0≤a∧a<(Nat.cast b:Int)∧((.pointer (some (a93.add (Int.toNat a*1))))=((.pointer (some (a11.add (Int.toNat a*1)))):Value)∧ldI .i64 (rd h82 (a11.add (Int.toNat a*1))) fun n94=>((.int .i64 n94)=((.int .i64 n12):Value)∧stK h82 ((Addr.mk b81 0 none).add 0) (.int .u64 n15) fun h95=>stK h95 ((Addr.mk b81 0 none).add 1) (.int .u64 n16) fun h96=>stK h96 ((Addr.mk b81 0 none).add 2) (.int .u64 n17) fun h97=>stK h97 ((Addr.mk b81 0 none).add 3) (.int .u64 n18) fun h98=>stK h98 ((Addr.mk b67 0 none).add 0) (.int .u64 n27) fun h99=>stK h99 ((Addr.mk b67 0 none).add 1) (.int .u64 n28) fun h100=>stK h100 ((Addr.mk b67 0 none).add 2) (.int .u64 n29) fun h101=>stK h101 ((Addr.mk b67 0 none).add 3) (.int .u64 n30) fun h102=>F112.wk8 i c b d a (Addr.mk b81 0 none) (Addr.mk b67 0 none) h102 K))))))))))))))))))))))∧(newK h14 (.cells #[.int .u64 0,.int .u64 0,.int .u64 0,.int .u64 0] 51) (fun b103 h104=>ldI .u64 (rd h104 (f.add 0)) fun n105=>ldI .u64 (rd h104 (f.add 1)) fun n106=>ldI .u64 (rd h104 (f.add 2)) fun n107=>ldI .u64 (rd h104 (f.add 3)) fun n108=>((.agg #[.int .u64 n105,.int .u64 n106,.int .u64 n107,.int .u64 n108])=((.agg #[.int .u64 n1,.int .u64 n2,.int .u64 n3,.int .u64 n4]):Value)∧((.slice c b d)=((.slice c b d):Value)∧((.int .i64 a)=((.int .i64 a):Value)∧ptrK c fun a109=>0≤a∧a<(Nat.cast b:Int)∧((.pointer (some (a109.add (Int.toNat a*1))))=((.pointer (some (a5.add (Int.toNat a*1)))):Value)∧ldI .i64 (rd h104 (a5.add (Int.toNat a*1))) fun n110=>((.int .i64 n110)=((.int .i64 n6):Value)∧ldI .u64 (rd h104 (f.add 0)) fun n111=>ldI .u64 (rd h104 (f.add 1)) fun n112=>ldI .u64 (rd h104 (f.add 2)) fun n113=>ldI .u64 (rd h104 (f.add 3)) fun n114=>((.agg #[.int .u64 n111,.int .u64 n112,.int .u64 n113,.int .u64 n114])=((.agg #[.int .u64 n7,.int .u64 n8,.int .u64 n9,.int .u64 n10]):Value)∧((.slice c b d)=((.slice c b d):Value)∧((.int .i64 a)=((.int .i64 a):Value)∧ptrK c fun a115=>0≤a∧a<(Nat.cast b:Int)∧((.pointer (some (a115.add (Int.toNat a*1))))=((.pointer (some (a11.add (Int.toNat a*1)))):Value)∧ldI .i64 (rd h104 (a11.add (Int.toNat a*1))) fun n116=>((.int .i64 n116)=((.int .i64 n12):Value)∧(Cl 155 [.agg #[.int .u64 n7,.int .u64 n8,.int .u64 n9,.int .u64 n10],.int .i64 n12,.bool true] h104 (fun v117 h118=> ∃n119:Int,∃n120:Int,∃n121:Int,∃n122:Int,v117=(.agg #[.int .u64 n119,.int .u64 n120,.int .u64 n121,.int .u64 n122])∧newK h118 (.cells #[.int .u64 0,.int .u64 0,.int .u64 0,.int .u64 0] 51) fun b123 h124=>ldI .u64 (rd h124 (f.add 0)) fun n125=>ldI .u64 (rd h124 (f.add 1)) fun n126=>ldI .u64 (rd h124 (f.add 2)) fun n127=>ldI .u64 (rd h124 (f.add 3)) fun n128=>((.agg #[.int .u64 n125,.int .u64 n126,.int .u64 n127,.int .u64 n128])=((.agg #[.int .u64 n1,.int .u64 n2,.int .u64 n3,.int .u64 n4]):Value)∧((.slice c b d)=((.slice c b d):Value)∧((.int .i64 a)=((.int .i64 a):Value)∧ptrK c fun a129=>0≤a∧a<(Nat.cast b:Int)∧((.pointer (some (a129.add (Int.toNat a*1))))=((.pointer (some (a5.add (Int.toNat a*1)))):Value)∧ldI .i64 (rd h124 (a5.add (Int.toNat a*1))) fun n130=>((.int .i64 n130)=((.int .i64 n6):Value)∧ldI .u64 (rd h124 (f.add 0)) fun n131=>ldI .u64 (rd h124 (f.add 1)) fun n132=>ldI .u64 (rd h124 (f.add 2)) fun n133=>ldI .u64 (rd h124 (f.add 3)) fun n134=>((.agg #[.int .u64 n131,.int .u64 n132,.int .u64 n133,.int .u64 n134])=((.agg #[.int .u64 n7,.int .u64 n8,.int .u64 n9,.int .u64 n10]):Value)∧((.slice c b d)=((.slice c b d):Value)∧((.int .i64 a)=((.int .i64 a):Value)∧ptrK c fun a135=>0≤a∧a<(Nat.cast b:Int)∧((.pointer (some (a135.add (Int.toNat a*1))))=((.pointer (some (a11.add (Int.toNat a*1)))):Value)∧ldI .i64 (rd h124 (a11.add (Int.toNat a*1))) fun n136=>((.int .i64 n136)=((.int .i64 n12):Value)∧stK h124 ((Addr.mk b103 0 none).add 0) (.int .u64 n15) fun h137=>stK h137 ((Addr.mk b103 0 none).add 1) (.int .u64 n16) fun h138=>stK h138 ((Addr.mk b103 0 none).add 2) (.int .u64 n17) fun h139=>stK h139 ((Addr.mk b103 0 none).add 3) (.int .u64 n18) fun h140=>stK h140 ((Addr.mk b123 0 none).add 0) (.int .u64 n119) fun h141=>stK h141 ((Addr.mk b123 0 none).add 1) (.int .u64 n120) fun h142=>stK h142 ((Addr.mk b123 0 none).add 2) (.int .u64 n121) fun h143=>stK h143 ((Addr.mk b123 0 none).add 3) (.int .u64 n122) fun h144=>F112.wk8 i c b d a (Addr.mk b103 0 none) (Addr.mk b123 0 none) h144 K)))))))))))∧newK h104 (.cells #[.int .u64 0,.int .u64 0,.int .u64 0,.int .u64 0] 51) fun b145 h146=>ldI .u64 (rd h146 (f.add 0)) fun n147=>ldI .u64 (rd h146 (f.add 1)) fun n148=>ldI .u64 (rd h146 (f.add 2)) fun n149=>ldI .u64 (rd h146 (f.add 3)) fun n150=>((.agg #[.int .u64 n147,.int .u64 n148,.int .u64 n149,.int .u64 n150])=((.agg #[.int .u64 n1,.int .u64 n2,.int .u64 n3,.int .u64 n4]):Value)∧((.slice c b d)=((.slice c b d):Value)∧((.int .i64 a)=((.int .i64 a):Value)∧ptrK c fun a151=>0≤a∧a<(Nat.cast b:Int)∧((.pointer (some (a151.add (Int.toNat a*1))))=((.pointer (some (a5.add (Int.toNat a*1)))):Value)∧ldI .i64 (rd h146 (a5.add (Int.toNat a*1))) fun n152=>((.int .i64 n152)=((.int .i64 n6):Value)∧ldI .u64 (rd h146 (f.add 0)) fun n153=>ldI .u64 (rd h146 (f.add 1)) fun n154=>ldI .u64 (rd h146 (f.add 2)) fun n155=>ldI .u64 (rd h146 (f.add 3)) fun n156=>((.agg #[.int .u64 n153,.int .u64 n154,.int .u64 n155,.int .u64 n156])=((.agg #[.int .u64 n7,.int .u64 n8,.int .u64 n9,.int .u64 n10]):Value)∧((.slice c b d)=((.slice c b d):Value)∧((.int .i64 a)=((.int .i64 a):Value)∧ptrK c fun a157=>0≤a∧a<(Nat.cast b:Int)∧((.pointer (some (a157.add (Int.toNat a*1))))=((.pointer (some (a11.add (Int.toNat a*1)))):Value)∧ldI .i64 (rd h146 (a11.add (Int.toNat a*1))) fun n158=>((.int .i64 n158)=((.int .i64 n12):Value)∧Cl 155 [.agg #[.int .u64 n7,.int .u64 n8,.int .u64 n9,.int .u64 n10],.int .i64 n12,.bool true] h146 fun v159 h160=> ∃n161:Int,∃n162:Int,∃n163:Int,∃n164:Int,v159=(.agg #[.int .u64 n161,.int .u64 n162,.int .u64 n163,.int .u64 n164])∧stK h160 ((Addr.mk b103 0 none).add 0) (.int .u64 n15) fun h165=>stK h165 ((Addr.mk b103 0 none).add 1) (.int .u64 n16) fun h166=>stK h166 ((Addr.mk b103 0 none).add 2) (.int .u64 n17) fun h167=>stK h167 ((Addr.mk b103 0 none).add 3) (.int .u64 n18) fun h168=>stK h168 ((Addr.mk b145 0 none).add 0) (.int .u64 n161) fun h169=>stK h169 ((Addr.mk b145 0 none).add 1) (.int .u64 n162) fun h170=>stK h170 ((Addr.mk b145 0 none).add 2) (.int .u64 n163) fun h171=>stK h171 ((Addr.mk b145 0 none).add 3) (.int .u64 n164) fun h172=>F112.wk8 i c b d a (Addr.mk b103 0 none) (Addr.mk b145 0 none) h172 K))))))))))))))))))))))∧newK h14 (.cells #[.int .u64 0,.int .u64 0,.int .u64 0,.int .u64 0] 51) fun b173 h174=>ldI .u64 (rd h174 (f.add 0)) fun n175=>ldI .u64 (rd h174 (f.add 1)) fun n176=>ldI .u64 (rd h174 (f.add 2)) fun n177=>ldI .u64 (rd h174 (f.add 3)) fun n178=>((.agg #[.int .u64 n175,.int .u64 n176,.int .u64 n177,.int .u64 n178])=((.agg #[.int .u64 n1,.int .u64 n2,.int .u64 n3,.int .u64 n4]):Value)∧((.slice c b d)=((.slice c b d):Value)∧((.int .i64 a)=((.int .i64 a):Value)∧ptrK c fun a179=>0≤a∧a<(Nat.cast b:Int)∧((.pointer (some (a179.add (Int.toNat a*1))))=((.pointer (some (a5.add (Int.toNat a*1)))):Value)∧ldI .i64 (rd h174 (a5.add (Int.toNat a*1))) fun n180=>((.int .i64 n180)=((.int .i64 n6):Value)∧ldI .u64 (rd h174 (f.add 0)) fun n181=>ldI .u64 (rd h174 (f.add 1)) fun n182=>ldI .u64 (rd h174 (f.add 2)) fun n183=>ldI .u64 (rd h174 (f.add 3)) fun n184=>((.agg #[.int .u64 n181,.int .u64 n182,.int .u64 n183,.int .u64 n184])=((.agg #[.int .u64 n7,.int .u64 n8,.int .u64 n9,.int .u64 n10]):Value)∧((.slice c b d)=((.slice c b d):Value)∧((.int .i64 a)=((.int .i64 a):Value)∧ptrK c fun a185=>0≤a∧a<(Nat.cast b:Int)∧((.pointer (some (a185.add (Int.toNat a*1))))=((.pointer (some (a11.add (Int.toNat a*1)))):Value)∧ldI .i64 (rd h174 (a11.add (Int.toNat a*1))) fun n186=>((.int .i64 n186)=((.int .i64 n12):Value)∧(Cl 155 [.agg #[.int .u64 n7,.int .u64 n8,.int .u64 n9,.int .u64 n10],.int .i64 n12,.bool true] h174 (fun v187 h188=> ∃n189:Int,∃n190:Int,∃n191:Int,∃n192:Int,v187=(.agg #[.int .u64 n189,.int .u64 n190,.int .u64 n191,.int .u64 n192])∧newK h188 (.cells #[.int .u64 0,.int .u64 0,.int .u64 0,.int .u64 0] 51) fun b193 h194=>ldI .u64 (rd h194 (f.add 0)) fun n195=>ldI .u64 (rd h194 (f.add 1)) fun n196=>ldI .u64 (rd h194 (f.add 2)) fun n197=>ldI .u64 (rd h194 (f.add 3)) fun n198=>((.agg #[.int .u64 n195,.int .u64 n196,.int .u64 n197,.int .u64 n198])=((.agg #[.int .u64 n1,.int .u64 n2,.int .u64 n3,.int .u64 n4]):Value)∧((.slice c b d)=((.slice c b d):Value)∧((.int .i64 a)=((.int .i64 a):Value)∧ptrK c fun a199=>0≤a∧a<(Nat.cast b:Int)∧((.pointer (some (a199.add (Int.toNat a*1))))=((.pointer (some (a5.add (Int.toNat a*1)))):Value)∧ldI .i64 (rd h194 (a5.add (Int.toNat a*1))) fun n200=>((.int .i64 n200)=((.int .i64 n6):Value)∧ldI .u64 (rd h194 (f.add 0)) fun n201=>ldI .u64 (rd h194 (f.add 1)) fun n202=>ldI .u64 (rd h194 (f.add 2)) fun n203=>ldI .u64 (rd h194 (f.add 3)) fun n204=>((.agg #[.int .u64 n201,.int .u64 n202,.int .u64 n203,.int .u64 n204])=((.agg #[.int .u64 n7,.int .u64 n8,.int .u64 n9,.int .u64 n10]):Value)∧((.slice c b d)=((.slice c b d):Value)∧((.int .i64 a)=((.int .i64 a):Value)∧ptrK c fun a205=>0≤a∧a<(Nat.cast b:Int)∧((.pointer (some (a205.add (Int.toNat a*1))))=((.pointer (some (a11.add (Int.toNat a*1)))):Value)∧ldI .i64 (rd h194 (a11.add (Int.toNat a*1))) fun n206=>((.int .i64 n206)=((.int .i64 n12):Value)∧stK h194 ((Addr.mk b193 0 none).add 0) (.int .u64 n15) fun h207=>stK h207 ((Addr.mk b193 0 none).add 1) (.int .u64 n16) fun h208=>stK h208 ((Addr.mk b193 0 none).add 2) (.int .u64 n17) fun h209=>stK h209 ((Addr.mk b193 0 none).add 3) (.int .u64 n18) fun h210=>stK h210 ((Addr.mk b173 0 none).add 0) (.int .u64 n189) fun h211=>stK h211 ((Addr.mk b173 0 none).add 1) (.int .u64 n190) fun h212=>stK h212 ((Addr.mk b173 0 none).add 2) (.int .u64 n191) fun h213=>stK h213 ((Addr.mk b173 0 none).add 3) (.int .u64 n192) fun h214=>F112.wk8 i c b d a (Addr.mk b193 0 none) (Addr.mk b173 0 none) h214 K)))))))))))∧newK h174 (.cells #[.int .u64 0,.int .u64 0,.int .u64 0,.int .u64 0] 51) fun b215 h216=>ldI .u64 (rd h216 (f.add 0)) fun n217=>ldI .u64 (rd h216 (f.add 1)) fun n218=>ldI .u64 (rd h216 (f.add 2)) fun n219=>ldI .u64 (rd h216 (f.add 3)) fun n220=>((.agg #[.int .u64 n217,.int .u64 n218,.int .u64 n219,.int .u64 n220])=((.agg #[.int .u64 n1,.int .u64 n2,.int .u64 n3,.int .u64 n4]):Value)∧((.slice c b d)=((.slice c b d):Value)∧((.int .i64 a)=((.int .i64 a):Value)∧ptrK c fun a221=>0≤a∧a<(Nat.cast b:Int)∧((.pointer (some (a221.add (Int.toNat a*1))))=((.pointer (some (a5.add (Int.toNat a*1)))):Value)∧ldI .i64 (rd h216 (a5.add (Int.toNat a*1))) fun n222=>((.int .i64 n222)=((.int .i64 n6):Value)∧ldI .u64 (rd h216 (f.add 0)) fun n223=>ldI .u64 (rd h216 (f.add 1)) fun n224=>ldI .u64 (rd h216 (f.add 2)) fun n225=>ldI .u64 (rd h216 (f.add 3)) fun n226=>((.agg #[.int .u64 n223,.int .u64 n224,.int .u64 n225,.int .u64 n226])=((.agg #[.int .u64 n7,.int .u64 n8,.int .u64 n9,.int .u64 n10]):Value)∧((.slice c b d)=((.slice c b d):Value)∧((.int .i64 a)=((.int .i64 a):Value)∧ptrK c fun a227=>0≤a∧a<(Nat.cast b:Int)∧((.pointer (some (a227.add (Int.toNat a*1))))=((.pointer (some (a11.add (Int.toNat a*1)))):Value)∧ldI .i64 (rd h216 (a11.add (Int.toNat a*1))) fun n228=>((.int .i64 n228)=((.int .i64 n12):Value)∧Cl 155 [.agg #[.int .u64 n7,.int .u64 n8,.int .u64 n9,.int .u64 n10],.int .i64 n12,.bool true] h216 fun v229 h230=> ∃n231:Int,∃n232:Int,∃n233:Int,∃n234:Int,v229=(.agg #[.int .u64 n231,.int .u64 n232,.int .u64 n233,.int .u64 n234])∧stK h230 ((Addr.mk b215 0 none).add 0) (.int .u64 n15) fun h235=>stK h235 ((Addr.mk b215 0 none).add 1) (.int .u64 n16) fun h236=>stK h236 ((Addr.mk b215 0 none).add 2) (.int .u64 n17) fun h237=>stK h237 ((Addr.mk b215 0 none).add 3) (.int .u64 n18) fun h238=>stK h238 ((Addr.mk b173 0 none).add 0) (.int .u64 n231) fun h239=>stK h239 ((Addr.mk b173 0 none).add 1) (.int .u64 n232) fun h240=>stK h240 ((Addr.mk b173 0 none).add 2) (.int .u64 n233) fun h241=>stK h241 ((Addr.mk b173 0 none).add 3) (.int .u64 n234) fun h242=>F112.wk8 i c b d a (Addr.mk b215 0 none) (Addr.mk b173 0 none) h242 K)))))))))))))))))))))))))))))∧(newK h (.cells #[.int .u64 0,.int .u64 0,.int .u64 0,.int .u64 0] 51) (fun b243 h244=>ldI .u64 (rd h244 (f.add 0)) fun n245=>ldI .u64 (rd h244 (f.add 1)) fun n246=>ldI .u64 (rd h244 (f.add 2)) fun n247=>ldI .u64 (rd h244 (f.add 3)) fun n248=>((.agg #[.int .u64 n245,.int .u64 n246,.int .u64 n247,.int .u64 n248])=((.agg #[.int .u64 n1,.int .u64 n2,.int .u64 n3,.int .u64 n4]):Value)∧((.slice c b d)=((.slice c b d):Value)∧((.int .i64 a)=((.int .i64 a):Value)∧ptrK c fun a249=>0≤a∧a<(Nat.cast b:Int)∧((.pointer (some (a249.add (Int.toNat a*1))))=((.pointer (some (a5.add (Int.toNat a*1)))):Value)∧ldI .i64 (rd h244 (a5.add (Int.toNat a*1))) fun n250=>((.int .i64 n250)=((.int .i64 n6):Value)∧ldI .u64 (rd h244 (f.add 0)) fun n251=>ldI .u64 (rd h244 (f.add 1)) fun n252=>ldI .u64 (rd h244 (f.add 2)) fun n253=>ldI .u64 (rd h244 (f.add 3)) fun n254=>((.agg #[.int .u64 n251,.int .u64 n252,.int .u64 n253,.int .u64 n254])=((.agg #[.int .u64 n7,.int .u64 n8,.int .u64 n9,.int .u64 n10]):Value)∧((.slice c b d)=((.slice c b d):Value)∧((.int .i64 a)=((.int .i64 a):Value)∧ptrK c fun a255=>0≤a∧a<(Nat.cast b:Int)∧((.pointer (some (a255.add (Int.toNat a*1))))=((.pointer (some (a11.add (Int.toNat a*1)))):Value)∧ldI .i64 (rd h244 (a11.add (Int.toNat a*1))) fun n256=>((.int .i64 n256)=((.int .i64 n12):Value)∧(Cl 155 [.agg #[.int .u64 n1,.int .u64 n2,.int .u64 n3,.int .u64 n4],.int .i64 n6,.bool false] h244 (fun v257 h258=> ∃n259:Int,∃n260:Int,∃n261:Int,∃n262:Int,v257=(.agg #[.int .u64 n259,.int .u64 n260,.int .u64 n261,.int .u64 n262])∧ldI .u64 (rd h258 (f.add 0)) fun n263=>ldI .u64 (rd h258 (f.add 1)) fun n264=>ldI .u64 (rd h258 (f.add 2)) fun n265=>ldI .u64 (rd h258 (f.add 3)) fun n266=>((.agg #[.int .u64 n263,.int .u64 n264,.int .u64 n265,.int .u64 n266])=((.agg #[.int .u64 n7,.int .u64 n8,.int .u64 n9,.int .u64 n10]):Value)∧((.slice c b d)=((.slice c b d):Value)∧((.int .i64 a)=((.int .i64 a):Value)∧ptrK c fun a267=>0≤a∧a<(Nat.cast b:Int)∧((.pointer (some (a267.add (Int.toNat a*1))))=((.pointer (some (a11.add (Int.toNat a*1)))):Value)∧ldI .i64 (rd h258 (a11.add (Int.toNat a*1))) fun n268=>((.int .i64 n268)=((.int .i64 n12):Value)∧(Cl 155 [.agg #[.int .u64 n7,.int .u64 n8,.int .u64 n9,.int .u64 n10],.int .i64 n12,.bool true] h258 (fun v269 h270=> ∃n271:Int,∃n272:Int,∃n273:Int,∃n274:Int,v269=(.agg #[.int .u64 n271,.int .u64 n272,.int .u64 n273,.int .u64 n274])∧newK h270 (.cells #[.int .u64 0,.int .u64 0,.int .u64 0,.int .u64 0] 51) fun b275 h276=>ldI .u64 (rd h276 (f.add 0)) fun n277=>ldI .u64 (rd h276 (f.add 1)) fun n278=>ldI .u64 (rd h276 (f.add 2)) fun n279=>ldI .u64 (rd h276 (f.add 3)) fun n280=>((.agg #[.int .u64 n277,.int .u64 n278,.int .u64 n279,.int .u64 n280])=((.agg #[.int .u64 n1,.int .u64 n2,.int .u64 n3,.int .u64 n4]):Value)∧((.slice c b d)=((.slice c b d):Value)∧((.int .i64 a)=((.int .i64 a):Value)∧ptrK c fun a281=>0≤a∧a<(Nat.cast b:Int)∧((.pointer (some (a281.add (Int.toNat a*1))))=((.pointer (some (a5.add (Int.toNat a*1)))):Value)∧ldI .i64 (rd h276 (a5.add (Int.toNat a*1))) fun n282=>((.int .i64 n282)=((.int .i64 n6):Value)∧ldI .u64 (rd h276 (f.add 0)) fun n283=>ldI .u64 (rd h276 (f.add 1)) fun n284=>ldI .u64 (rd h276 (f.add 2)) fun n285=>ldI .u64 (rd h276 (f.add 3)) fun n286=>((.agg #[.int .u64 n283,.int .u64 n284,.int .u64 n285,.int .u64 n286])=((.agg #[.int .u64 n7,.int .u64 n8,.int .u64 n9,.int .u64 n10]):Value)∧((.slice c b d)=((.slice c b d):Value)∧((.int .i64 a)=((.int .i64 a):Value)∧ptrK c fun a287=>0≤a∧a<(Nat.cast b:Int)∧((.pointer (some (a287.add (Int.toNat a*1))))=((.pointer (some (a11.add (Int.toNat a*1)))):Value)∧ldI .i64 (rd h276 (a11.add (Int.toNat a*1))) fun n288=>((.int .i64 n288)=((.int .i64 n12):Value)∧stK h276 ((Addr.mk b243 0 none).add 0) (.int .u64 n259) fun h289=>stK h289 ((Addr.mk b243 0 none).add 1) (.int .u64 n260) fun h290=>stK h290 ((Addr.mk b243 0 none).add 2) (.int .u64 n261) fun h291=>stK h291 ((Addr.mk b243 0 none).add 3) (.int .u64 n262) fun h292=>stK h292 ((Addr.mk b275 0 none).add 0) (.int .u64 n271) fun h293=>stK h293 ((Addr.mk b275 0 none).add 1) (.int .u64 n272) fun h294=>stK h294 ((Addr.mk b275 0 none).add 2) (.int .u64 n273) fun h295=>stK h295 ((Addr.mk b275 0 none).add 3) (.int .u64 n274) fun h296=>F112.wk8 i c b d a (Addr.mk b243 0 none) (Addr.mk b275 0 none) h296 K)))))))))))∧newK h258 (.cells #[.int .u64 0,.int .u64 0,.int .u64 0,.int .u64 0] 51) fun b297 h298=>ldI .u64 (rd h298 (f.add 0)) fun n299=>ldI .u64 (rd h298 (f.add 1)) fun n300=>ldI .u64 (rd h298 (f.add 2)) fun n301=>ldI .u64 (rd h298 (f.add 3)) fun n302=>((.agg #[.int .u64 n299,.int .u64 n300,.int .u64 n301,.int .u64 n302])=((.agg #[.int .u64 n1,.int .u64 n2,.int .u64 n3,.int .u64 n4]):Value)∧((.slice c b d)=((.slice c b d):Value)∧((.int .i64 a)=((.int .i64 a):Value)∧ptrK c fun a303=>0≤a∧a<(Nat.cast b:Int)∧((.pointer (some (a303.add (Int.toNat a*1))))=((.pointer (some (a5.add (Int.toNat a*1)))):Value)∧ldI .i64 (rd h298 (a5.add (Int.toNat a*1))) fun n304=>((.int .i64 n304)=((.int .i64 n6):Value)∧ldI .u64 (rd h298 (f.add 0)) fun n305=>ldI .u64 (rd h298 (f.add 1)) fun n306=>ldI .u64 (rd h298 (f.add 2)) fun n307=>ldI .u64 (rd h298 (f.add 3)) fun n308=>((.agg #[.int .u64 n305,.int .u64 n306,.int .u64 n307,.int .u64 n308])=((.agg #[.int .u64 n7,.int .u64 n8,.int .u64 n9,.int .u64 n10]):Value)∧((.slice c b d)=((.slice c b d):Value)∧((.int .i64 a)=((.int .i64 a):Value)∧ptrK c fun a309=>0≤a∧a<(Nat.cast b:Int)∧((.pointer (some (a309.add (Int.toNat a*1))))=((.pointer (some (a11.add (Int.toNat a*1)))):Value)∧ldI .i64 (rd h298 (a11.add (Int.toNat a*1))) fun n310=>((.int .i64 n310)=((.int .i64 n12):Value)∧Cl 155 [.agg #[.int .u64 n7,.int .u64 n8,.int .u64 n9,.int .u64 n10],.int .i64 n12,.bool true] h298 fun v311 h312=> ∃n313:Int,∃n314:Int,∃n315:Int,∃n316:Int,v311=(.agg #[.int .u64 n313,.int .u64 n314,.int .u64 n315,.int .u64 n316])∧stK h312 ((Addr.mk b243 0 none).add 0) (.int .u64 n259) fun h317=>stK h317 ((Addr.mk b243 0 none).add 1) (.int .u64 n260) fun h318=>stK h318 ((Addr.mk b243 0 none).add 2) (.int .u64 n261) fun h319=>stK h319 ((Addr.mk b243 0 none).add 3) (.int .u64 n262) fun h320=>stK h320 ((Addr.mk b297 0 none).add 0) (.int .u64 n313) fun h321=>stK h321 ((Addr.mk b297 0 none).add 1) (.int .u64 n314) fun h322=>stK h322 ((Addr.mk b297 0 none).add 2) (.int .u64 n315) fun h323=>stK h323 ((Addr.mk b297 0 none).add 3) (.int .u64 n316) fun h324=>F112.wk8 i c b d a (Addr.mk b243 0 none) (Addr.mk b297 0 none) h324 K)))))))))))))))))∧newK h244 (.cells #[.int .u64 0,.int .u64 0,.int .u64 0,.int .u64 0] 51) fun b325 h326=>ldI .u64 (rd h326 (f.add 0)) fun n327=>ldI .u64 (rd h326 (f.add 1)) fun n328=>ldI .u64 (rd h326 (f.add 2)) fun n329=>ldI .u64 (rd h326 (f.add 3)) fun n330=>((.agg #[.int .u64 n327,.int .u64 n328,.int .u64 n329,.int .u64 n330])=((.agg #[.int .u64 n1,.int .u64 n2,.int .u64 n3,.int .u64 n4]):Value)∧((.slice c b d)=((.slice c b d):Value)∧((.int .i64 a)=((.int .i64 a):Value)∧ptrK c fun a331=>0≤a∧a<(Nat.cast b:Int)∧((.pointer (some (a331.add (Int.toNat a*1))))=((.pointer (some (a5.add (Int.toNat a*1)))):Value)∧ldI .i64 (rd h326 (a5.add (Int.toNat a*1))) fun n332=>((.int .i64 n332)=((.int .i64 n6):Value)∧ldI .u64 (rd h326 (f.add 0)) fun n333=>ldI .u64 (rd h326 (f.add 1)) fun n334=>ldI .u64 (rd h326 (f.add 2)) fun n335=>ldI .u64 (rd h326 (f.add 3)) fun n336=>((.agg #[.int .u64 n333,.int .u64 n334,.int .u64 n335,.int .u64 n336])=((.agg #[.int .u64 n7,.int .u64 n8,.int .u64 n9,.int .u64 n10]):Value)∧((.slice c b d)=((.slice c b d):Value)∧((.int .i64 a)=((.int .i64 a):Value)∧ptrK c fun a337=>0≤a∧a<(Nat.cast b:Int)∧((.pointer (some (a337.add (Int.toNat a*1))))=((.pointer (some (a11.add (Int.toNat a*1)))):Value)∧ldI .i64 (rd h326 (a11.add (Int.toNat a*1))) fun n338=>((.int .i64 n338)=((.int .i64 n12):Value)∧Cl 155 [.agg #[.int .u64 n1,.int .u64 n2,.int .u64 n3,.int .u64 n4],.int .i64 n6,.bool false] h326 fun v339 h340=> ∃n341:Int,∃n342:Int,∃n343:Int,∃n344:Int,v339=(.agg #[.int .u64 n341,.int .u64 n342,.int .u64 n343,.int .u64 n344])∧ldI .u64 (rd h340 (f.add 0)) fun n345=>ldI .u64 (rd h340 (f.add 1)) fun n346=>ldI .u64 (rd h340 (f.add 2)) fun n347=>ldI .u64 (rd h340 (f.add 3)) fun n348=>((.agg #[.int .u64 n345,.int .u64 n346,.int .u64 n347,.int .u64 n348])=((.agg #[.int .u64 n7,.int .u64 n8,.int .u64 n9,.int .u64 n10]):Value)∧((.slice c b d)=((.slice c b d):Value)∧((.int .i64 a)=((.int .i64 a):Value)∧ptrK c fun a349=>0≤a∧a<(Nat.cast b:Int)∧((.pointer (some (a349.add (Int.toNat a*1))))=((.pointer (some (a11.add (Int.toNat a*1)))):Value)∧ldI .i64 (rd h340 (a11.add (Int.toNat a*1))) fun n350=>((.int .i64 n350)=((.int .i64 n12):Value)∧Cl 155 [.agg #[.int .u64 n7,.int .u64 n8,.int .u64 n9,.int .u64 n10],.int .i64 n12,.bool true] h340 fun v351 h352=> ∃n353:Int,∃n354:Int,∃n355:Int,∃n356:Int,v351=(.agg #[.int .u64 n353,.int .u64 n354,.int .u64 n355,.int .u64 n356])∧stK h352 ((Addr.mk b243 0 none).add 0) (.int .u64 n341) fun h357=>stK h357 ((Addr.mk b243 0 none).add 1) (.int .u64 n342) fun h358=>stK h358 ((Addr.mk b243 0 none).add 2) (.int .u64 n343) fun h359=>stK h359 ((Addr.mk b243 0 none).add 3) (.int .u64 n344) fun h360=>stK h360 ((Addr.mk b325 0 none).add 0) (.int .u64 n353) fun h361=>stK h361 ((Addr.mk b325 0 none).add 1) (.int .u64 n354) fun h362=>stK h362 ((Addr.mk b325 0 none).add 2) (.int .u64 n355) fun h363=>stK h363 ((Addr.mk b325 0 none).add 3) (.int .u64 n356) fun h364=>F112.wk8 i c b d a (Addr.mk b243 0 none) (Addr.mk b325 0 none) h364 K)))))))))))))))))))))))))))∧newK h (.cells #[.int .u64 0,.int .u64 0,.int .u64 0,.int .u64 0] 51) fun b365 h366=>ldI .u64 (rd h366 (f.add 0)) fun n367=>ldI .u64 (rd h366 (f.add 1)) fun n368=>ldI .u64 (rd h366 (f.add 2)) fun n369=>ldI .u64 (rd h366 (f.add 3)) fun n370=>((.agg #[.int .u64 n367,.int .u64 n368,.int .u64 n369,.int .u64 n370])=((.agg #[.int .u64 n1,.int .u64 n2,.int .u64 n3,.int .u64 n4]):Value)∧((.slice c b d)=((.slice c b d):Value)∧((.int .i64 a)=((.int .i64 a):Value)∧ptrK c fun a371=>0≤a∧a<(Nat.cast b:Int)∧((.pointer (some (a371.add (Int.toNat a*1))))=((.pointer (some (a5.add (Int.toNat a*1)))):Value)∧ldI .i64 (rd h366 (a5.add (Int.toNat a*1))) fun n372=>((.int .i64 n372)=((.int .i64 n6):Value)∧ldI .u64 (rd h366 (f.add 0)) fun n373=>ldI .u64 (rd h366 (f.add 1)) fun n374=>ldI .u64 (rd h366 (f.add 2)) fun n375=>ldI .u64 (rd h366 (f.add 3)) fun n376=>((.agg #[.int .u64 n373,.int .u64 n374,.int .u64 n375,.int .u64 n376])=((.agg #[.int .u64 n7,.int .u64 n8,.int .u64 n9,.int .u64 n10]):Value)∧((.slice c b d)=((.slice c b d):Value)∧((.int .i64 a)=((.int .i64 a):Value)∧ptrK c fun a377=>0≤a∧a<(Nat.cast b:Int)∧((.pointer (some (a377.add (Int.toNat a*1))))=((.pointer (some (a11.add (Int.toNat a*1)))):Value)∧ldI .i64 (rd h366 (a11.add (Int.toNat a*1))) fun n378=>((.int .i64 n378)=((.int .i64 n12):Value)∧(Cl 155 [.agg #[.int .u64 n1,.int .u64 n2,.int .u64 n3,.int .u64 n4],.int .i64 n6,.bool false] h366 (fun v379 h380=> ∃n381:Int,∃n382:Int,∃n383:Int,∃n384:Int,v379=(.agg #[.int .u64 n381,.int .u64 n382,.int .u64 n383,.int .u64 n384])∧ldI .u64 (rd h380 (f.add 0)) fun n385=>ldI .u64 (rd h380 (f.add 1)) fun n386=>ldI .u64 (rd h380 (f.add 2)) fun n387=>ldI .u64 (rd h380 (f.add 3)) fun n388=>((.agg #[.int .u64 n385,.int .u64 n386,.int .u64 n387,.int .u64 n388])=((.agg #[.int .u64 n7,.int .u64 n8,.int .u64 n9,.int .u64 n10]):Value)∧((.slice c b d)=((.slice c b d):Value)∧((.int .i64 a)=((.int .i64 a):Value)∧ptrK c fun a389=>0≤a∧a<(Nat.cast b:Int)∧((.pointer (some (a389.add (Int.toNat a*1))))=((.pointer (some (a11.add (Int.toNat a*1)))):Value)∧ldI .i64 (rd h380 (a11.add (Int.toNat a*1))) fun n390=>((.int .i64 n390)=((.int .i64 n12):Value)∧(Cl 155 [.agg #[.int .u64 n7,.int .u64 n8,.int .u64 n9,.int .u64 n10],.int .i64 n12,.bool true] h380 (fun v391 h392=> ∃n393:Int,∃n394:Int,∃n395:Int,∃n396:Int,v391=(.agg #[.int .u64 n393,.int .u64 n394,.int .u64 n395,.int .u64 n396])∧newK h392 (.cells #[.int .u64 0,.int .u64 0,.int .u64 0,.int .u64 0] 51) fun b397 h398=>ldI .u64 (rd h398 (f.add 0)) fun n399=>ldI .u64 (rd h398 (f.add 1)) fun n400=>ldI .u64 (rd h398 (f.add 2)) fun n401=>ldI .u64 (rd h398 (f.add 3)) fun n402=>((.agg #[.int .u64 n399,.int .u64 n400,.int .u64 n401,.int .u64 n402])=((.agg #[.int .u64 n1,.int .u64 n2,.int .u64 n3,.int .u64 n4]):Value)∧((.slice c b d)=((.slice c b d):Value)∧((.int .i64 a)=((.int .i64 a):Value)∧ptrK c fun a403=>0≤a∧a<(Nat.cast b:Int)∧((.pointer (some (a403.add (Int.toNat a*1))))=((.pointer (some (a5.add (Int.toNat a*1)))):Value)∧ldI .i64 (rd h398 (a5.add (Int.toNat a*1))) fun n404=>((.int .i64 n404)=((.int .i64 n6):Value)∧ldI .u64 (rd h398 (f.add 0)) fun n405=>ldI .u64 (rd h398 (f.add 1)) fun n406=>ldI .u64 (rd h398 (f.add 2)) fun n407=>ldI .u64 (rd h398 (f.add 3)) fun n408=>((.agg #[.int .u64 n405,.int .u64 n406,.int .u64 n407,.int .u64 n408])=((.agg #[.int .u64 n7,.int .u64 n8,.int .u64 n9,.int .u64 n10]):Value)∧((.slice c b d)=((.slice c b d):Value)∧((.int .i64 a)=((.int .i64 a):Value)∧ptrK c fun a409=>0≤a∧a<(Nat.cast b:Int)∧((.pointer (some (a409.add (Int.toNat a*1))))=((.pointer (some (a11.add (Int.toNat a*1)))):Value)∧ldI .i64 (rd h398 (a11.add (Int.toNat a*1))) fun n410=>((.int .i64 n410)=((.int .i64 n12):Value)∧stK h398 ((Addr.mk b397 0 none).add 0) (.int .u64 n381) fun h411=>stK h411 ((Addr.mk b397 0 none).add 1) (.int .u64 n382) fun h412=>stK h412 ((Addr.mk b397 0 none).add 2) (.int .u64 n383) fun h413=>stK h413 ((Addr.mk b397 0 none).add 3) (.int .u64 n384) fun h414=>stK h414 ((Addr.mk b365 0 none).add 0) (.int .u64 n393) fun h415=>stK h415 ((Addr.mk b365 0 none).add 1) (.int .u64 n394) fun h416=>stK h416 ((Addr.mk b365 0 none).add 2) (.int .u64 n395) fun h417=>stK h417 ((Addr.mk b365 0 none).add 3) (.int .u64 n396) fun h418=>F112.wk8 i c b d a (Addr.mk b397 0 none) (Addr.mk b365 0 none) h418 K)))))))))))∧newK h380 (.cells #[.int .u64 0,.int .u64 0,.int .u64 0,.int .u64 0] 51) fun b419 h420=>ldI .u64 (rd h420 (f.add 0)) fun n421=>ldI .u64 (rd h420 (f.add 1)) fun n422=>ldI .u64 (rd h420 (f.add 2)) fun n423=>ldI .u64 (rd h420 (f.add 3)) fun n424=>((.agg #[.int .u64 n421,.int .u64 n422,.int .u64 n423,.int .u64 n424])=((.agg #[.int .u64 n1,.int .u64 n2,.int .u64 n3,.int .u64 n4]):Value)∧((.slice c b d)=((.slice c b d):Value)∧((.int .i64 a)=((.int .i64 a):Value)∧ptrK c fun a425=>0≤a∧a<(Nat.cast b:Int)∧((.pointer (some (a425.add (Int.toNat a*1))))=((.pointer (some (a5.add (Int.toNat a*1)))):Value)∧ldI .i64 (rd h420 (a5.add (Int.toNat a*1))) fun n426=>((.int .i64 n426)=((.int .i64 n6):Value)∧ldI .u64 (rd h420 (f.add 0)) fun n427=>ldI .u64 (rd h420 (f.add 1)) fun n428=>ldI .u64 (rd h420 (f.add 2)) fun n429=>ldI .u64 (rd h420 (f.add 3)) fun n430=>((.agg #[.int .u64 n427,.int .u64 n428,.int .u64 n429,.int .u64 n430])=((.agg #[.int .u64 n7,.int .u64 n8,.int .u64 n9,.int .u64 n10]):Value)∧((.slice c b d)=((.slice c b d):Value)∧((.int .i64 a)=((.int .i64 a):Value)∧ptrK c fun a431=>0≤a∧a<(Nat.cast b:Int)∧((.pointer (some (a431.add (Int.toNat a*1))))=((.pointer (some (a11.add (Int.toNat a*1)))):Value)∧ldI .i64 (rd h420 (a11.add (Int.toNat a*1))) fun n432=>((.int .i64 n432)=((.int .i64 n12):Value)∧Cl 155 [.agg #[.int .u64 n7,.int .u64 n8,.int .u64 n9,.int .u64 n10],.int .i64 n12,.bool true] h420 fun v433 h434=> ∃n435:Int,∃n436:Int,∃n437:Int,∃n438:Int,v433=(.agg #[.int .u64 n435,.int .u64 n436,.int .u64 n437,.int .u64 n438])∧stK h434 ((Addr.mk b419 0 none).add 0) (.int .u64 n381) fun h439=>stK h439 ((Addr.mk b419 0 none).add 1) (.int .u64 n382) fun h440=>stK h440 ((Addr.mk b419 0 none).add 2) (.int .u64 n383) fun h441=>stK h441 ((Addr.mk b419 0 none).add 3) (.int .u64 n384) fun h442=>stK h442 ((Addr.mk b365 0 none).add 0) (.int .u64 n435) fun h443=>stK h443 ((Addr.mk b365 0 none).add 1) (.int .u64 n436) fun h444=>stK h444 ((Addr.mk b365 0 none).add 2) (.int .u64 n437) fun h445=>stK h445 ((Addr.mk b365 0 none).add 3) (.int .u64 n438) fun h446=>F112.wk8 i c b d a (Addr.mk b419 0 none) (Addr.mk b365 0 none) h446 K)))))))))))))))))∧newK h366 (.cells #[.int .u64 0,.int .u64 0,.int .u64 0,.int .u64 0] 51) fun b447 h448=>ldI .u64 (rd h448 (f.add 0)) fun n449=>ldI .u64 (rd h448 (f.add 1)) fun n450=>ldI .u64 (rd h448 (f.add 2)) fun n451=>ldI .u64 (rd h448 (f.add 3)) fun n452=>((.agg #[.int .u64 n449,.int .u64 n450,.int .u64 n451,.int .u64 n452])=((.agg #[.int .u64 n1,.int .u64 n2,.int .u64 n3,.int .u64 n4]):Value)∧((.slice c b d)=((.slice c b d):Value)∧((.int .i64 a)=((.int .i64 a):Value)∧ptrK c fun a453=>0≤a∧a<(Nat.cast b:Int)∧((.pointer (some (a453.add (Int.toNat a*1))))=((.pointer (some (a5.add (Int.toNat a*1)))):Value)∧ldI .i64 (rd h448 (a5.add (Int.toNat a*1))) fun n454=>((.int .i64 n454)=((.int .i64 n6):Value)∧ldI .u64 (rd h448 (f.add 0)) fun n455=>ldI .u64 (rd h448 (f.add 1)) fun n456=>ldI .u64 (rd h448 (f.add 2)) fun n457=>ldI .u64 (rd h448 (f.add 3)) fun n458=>((.agg #[.int .u64 n455,.int .u64 n456,.int .u64 n457,.int .u64 n458])=((.agg #[.int .u64 n7,.int .u64 n8,.int .u64 n9,.int .u64 n10]):Value)∧((.slice c b d)=((.slice c b d):Value)∧((.int .i64 a)=((.int .i64 a):Value)∧ptrK c fun a459=>0≤a∧a<(Nat.cast b:Int)∧((.pointer (some (a459.add (Int.toNat a*1))))=((.pointer (some (a11.add (Int.toNat a*1)))):Value)∧ldI .i64 (rd h448 (a11.add (Int.toNat a*1))) fun n460=>((.int .i64 n460)=((.int .i64 n12):Value)∧Cl 155 [.agg #[.int .u64 n1,.int .u64 n2,.int .u64 n3,.int .u64 n4],.int .i64 n6,.bool false] h448 fun v461 h462=> ∃n463:Int,∃n464:Int,∃n465:Int,∃n466:Int,v461=(.agg #[.int .u64 n463,.int .u64 n464,.int .u64 n465,.int .u64 n466])∧ldI .u64 (rd h462 (f.add 0)) fun n467=>ldI .u64 (rd h462 (f.add 1)) fun n468=>ldI .u64 (rd h462 (f.add 2)) fun n469=>ldI .u64 (rd h462 (f.add 3)) fun n470=>((.agg #[.int .u64 n467,.int .u64 n468,.int .u64 n469,.int .u64 n470])=((.agg #[.int .u64 n7,.int .u64 n8,.int .u64 n9,.int .u64 n10]):Value)∧((.slice c b d)=((.slice c b d):Value)∧((.int .i64 a)=((.int .i64 a):Value)∧ptrK c fun a471=>0≤a∧a<(Nat.cast b:Int)∧((.pointer (some (a471.add (Int.toNat a*1))))=((.pointer (some (a11.add (Int.toNat a*1)))):Value)∧ldI .i64 (rd h462 (a11.add (Int.toNat a*1))) fun n472=>((.int .i64 n472)=((.int .i64 n12):Value)∧Cl 155 [.agg #[.int .u64 n7,.int .u64 n8,.int .u64 n9,.int .u64 n10],.int .i64 n12,.bool true] h462 fun v473 h474=> ∃n475:Int,∃n476:Int,∃n477:Int,∃n478:Int,v473=(.agg #[.int .u64 n475,.int .u64 n476,.int .u64 n477,.int .u64 n478])∧stK h474 ((Addr.mk b447 0 none).add 0) (.int .u64 n463) fun h479=>stK h479 ((Addr.mk b447 0 none).add 1) (.int .u64 n464) fun h480=>stK h480 ((Addr.mk b447 0 none).add 2) (.int .u64 n465) fun h481=>stK h481 ((Addr.mk b447 0 none).add 3) (.int .u64 n466) fun h482=>stK h482 ((Addr.mk b365 0 none).add 0) (.int .u64 n475) fun h483=>stK h483 ((Addr.mk b365 0 none).add 1) (.int .u64 n476) fun h484=>stK h484 ((Addr.mk b365 0 none).add 2) (.int .u64 n477) fun h485=>stK h485 ((Addr.mk b365 0 none).add 3) (.int .u64 n478) fun h486=>F112.wk8 i c b d a (Addr.mk b447 0 none) (Addr.mk b365 0 none) h486 K)))))))))))))))))))))))))))))
theorem F112.spec(i:Addr)(l m o q:Int)(c:Option Addr)(b d:Nat)(a:Int)(h:Heap)(K:KK)(H:newK h (.cells #[.int .u64 l,.int .u64 m,.int .u64 o,.int .u64 q] 51) fun b1 h2=>ldI .u64 (rd h2 ((Addr.mk b1 0 none).add 0)) fun n3=>ldI .u64 (rd h2 ((Addr.mk b1 0 none).add 1)) fun n4=>ldI .u64 (rd h2 ((Addr.mk b1 0 none).add 2)) fun n5=>ldI .u64 (rd h2 ((Addr.mk b1 0 none).add 3)) fun n6=>Cl 100 [.bool false] h2 fun v7 h8=> ∃n9:Int,∃n10:Int,∃n11:Int,∃n12:Int,v7=(.agg #[.int .u64 n9,.int .u64 n10,.int .u64 n11,.int .u64 n12])∧ldI .u64 (rd h8 ((Addr.mk b1 0 none).add 0)) fun n13=>ldI .u64 (rd h8 ((Addr.mk b1 0 none).add 1)) fun n14=>ldI .u64 (rd h8 ((Addr.mk b1 0 none).add 2)) fun n15=>ldI .u64 (rd h8 ((Addr.mk b1 0 none).add 3)) fun n16=>((.agg #[.int .u64 n13,.int .u64 n14,.int .u64 n15,.int .u64 n16])=((.agg #[.int .u64 n3,.int .u64 n4,.int .u64 n5,.int .u64 n6]):Value)∧bcase (n3==n9&&(n4==n10&&(n5==n11&&(n6==n12&&true)))) (((.tuple #[])=undef∧ldI .u64 (rd h8 ((Addr.mk b1 0 none).add 0)) fun n17=>ldI .u64 (rd h8 ((Addr.mk b1 0 none).add 1)) fun n18=>ldI .u64 (rd h8 ((Addr.mk b1 0 none).add 2)) fun n19=>ldI .u64 (rd h8 ((Addr.mk b1 0 none).add 3)) fun n20=>Cl 100 [.bool true] h8 fun v21 h22=> ∃n23:Int,∃n24:Int,∃n25:Int,∃n26:Int,v21=(.agg #[.int .u64 n23,.int .u64 n24,.int .u64 n25,.int .u64 n26])∧ldI .u64 (rd h22 ((Addr.mk b1 0 none).add 0)) fun n27=>ldI .u64 (rd h22 ((Addr.mk b1 0 none).add 1)) fun n28=>ldI .u64 (rd h22 ((Addr.mk b1 0 none).add 2)) fun n29=>ldI .u64 (rd h22 ((Addr.mk b1 0 none).add 3)) fun n30=>((.agg #[.int .u64 n27,.int .u64 n28,.int .u64 n29,.int .u64 n30])=((.agg #[.int .u64 n17,.int .u64 n18,.int .u64 n19,.int .u64 n20]):Value)∧bcase (n17==n23&&(n18==n24&&(n19==n25&&(n20==n26&&true)))) (K (.tuple #[.int .u32 1,.bool true]) h22) (K (.tuple #[.int .u32 0,.bool true]) h22)))) (ldI .u64 (rd h8 ((Addr.mk b1 0 none).add 0)) fun n31=>ldI .u64 (rd h8 ((Addr.mk b1 0 none).add 1)) fun n32=>ldI .u64 (rd h8 ((Addr.mk b1 0 none).add 2)) fun n33=>ldI .u64 (rd h8 ((Addr.mk b1 0 none).add 3)) fun n34=>Cl 100 [.bool true] h8 fun v35 h36=> ∃n37:Int,∃n38:Int,∃n39:Int,∃n40:Int,v35=(.agg #[.int .u64 n37,.int .u64 n38,.int .u64 n39,.int .u64 n40])∧ldI .u64 (rd h36 ((Addr.mk b1 0 none).add 0)) fun n41=>ldI .u64 (rd h36 ((Addr.mk b1 0 none).add 1)) fun n42=>ldI .u64 (rd h36 ((Addr.mk b1 0 none).add 2)) fun n43=>ldI .u64 (rd h36 ((Addr.mk b1 0 none).add 3)) fun n44=>((.agg #[.int .u64 n41,.int .u64 n42,.int .u64 n43,.int .u64 n44])=((.agg #[.int .u64 n31,.int .u64 n32,.int .u64 n33,.int .u64 n34]):Value)∧bcase (n31==n37&&(n32==n38&&(n33==n39&&(n34==n40&&true)))) (ldI .u64 (rd h36 ((Addr.mk b1 0 none).add 0)) fun n45=>ldI .u64 (rd h36 ((Addr.mk b1 0 none).add 1)) fun n46=>ldI .u64 (rd h36 ((Addr.mk b1 0 none).add 2)) fun n47=>ldI .u64 (rd h36 ((Addr.mk b1 0 none).add 3)) fun n48=>Cl 100 [.bool true] h36 fun v49 h50=> ∃n51:Int,∃n52:Int,∃n53:Int,∃n54:Int,v49=(.agg #[.int .u64 n51,.int .u64 n52,.int .u64 n53,.int .u64 n54])∧ldI .u64 (rd h50 ((Addr.mk b1 0 none).add 0)) fun n55=>ldI .u64 (rd h50 ((Addr.mk b1 0 none).add 1)) fun n56=>ldI .u64 (rd h50 ((Addr.mk b1 0 none).add 2)) fun n57=>ldI .u64 (rd h50 ((Addr.mk b1 0 none).add 3)) fun n58=>((.agg #[.int .u64 n55,.int .u64 n56,.int .u64 n57,.int .u64 n58])=((.agg #[.int .u64 n45,.int .u64 n46,.int .u64 n47,.int .u64 n48]):Value)∧bcase (n45==n51&&(n46==n52&&(n47==n53&&(n48==n54&&true)))) (K (.tuple #[.int .u32 1,.bool true]) h50) (K (.tuple #[.int .u32 0,.bool true]) h50))) (F112.wk5 i c b d a (Addr.mk b1 0 none) h36 K))))):Cl 112 [.pointer (some i),.agg #[.int .u64 l,.int .u64 m,.int .u64 o,.int .u64 q],.slice c b d,.int .i64 a] h K:=cT F112.T Tryz.func112 H
end
end
section
def fixG(v:Nat)(b:Bool)(g:Nat→Nat):Nat→Nat:=if v<6 then fun i=>fixw v b (g i)else fun i=>g (tob i (v-6) b)
theorem tob_low: ∀y:Fin 256,∀v:Fin 6,∀b:Bool,tob y.1 v.1 b/64=y.1/64∧tob y.1 v.1 b%64=tob (y.1%64) v.1 b:=by decide+kernel
theorem tob_high: ∀y:Fin 256,∀v:Fin 2,∀b:Bool,tob y.1 (v.1+6) b/64=tob (y.1/64) v.1 b∧tob y.1 (v.1+6) b%64=y.1%64:=by decide+kernel
theorem tob_lt4: ∀i:Fin 4,∀v:Fin 2,∀b:Bool,tob i.1 v.1 b<4:=by decide
theorem tob_lt: ∀y:Fin 256,∀v:Fin 8,∀b:Bool,tob y.1 v.1 b<256:=by decide+kernel
theorem fixG_fb{g:Nat→Nat}(hg:WOk g){v y:Nat}{b:Bool}(hv:v<8)(hy:y<256):fb (fixG v b g) y=fb g (tob y v b):=by
 unfold fb fixG
 by_cases h:v<6
 ·rw[if_pos h]
  have t:=tob_low ⟨y,hy⟩ ⟨v,h⟩ b
  dsimp only at t
  rw[t.1,t.2]
  exact fixw_bit h (Nat.mod_lt _ (by omega)) (hg _ (by omega))
 ·rw[if_neg h]
  have t:=tob_high ⟨y,hy⟩ ⟨v-6,by omega⟩ b
  dsimp only at t
  rw[show v-6+6=v by omega]at t
  rw[t.1,t.2]
theorem fixw_lt{v w:Nat}{b:Bool}(hw:w<U64):fixw v b w<U64:=by
 unfold fixw
 have a: ∀m,w&&&m<U64:=fun m=>Nat.lt_of_le_of_lt Nat.and_le_left hw
 split
 ·exact or_lt (a _) (Nat.lt_of_le_of_lt (Nat.div_le_self _ _) (a _))
 ·exact or_lt (a _) (Nat.mod_lt _ (by decide))
theorem fixG_ok{g:Nat→Nat}(hg:WOk g){v:Nat}{b:Bool}(hv:v<8):WOk (fixG v b g):=fun i hi=>by
 unfold fixG
 by_cases h:v<6
 ·rw[if_pos h];exact fixw_lt (hg i hi)
 ·rw[if_neg h]
  exact hg _ (tob_lt4 ⟨i,hi⟩ ⟨v-6,by omega⟩ b)
theorem bandN{a b:Nat}(ha:a<U64)(hb:b<U64):bitsI .andNot .u64 (a:Int) (b:Int)=((a&&&(U64-1-b):Nat):Int):=by
 unfold bitsI
 show IntKind.wrap .u64 ((BitVec.ofInt 64 (a:Int)&&& ~~~ BitVec.ofInt 64 (b:Int)).toNat:Int)=_
 rw[BitVec.toNat_and,BitVec.toNat_not,ofInt_nat ha,ofInt_nat hb,←U64_pow]
 exact wrapU (Nat.lt_of_le_of_lt Nat.and_le_left ha)
theorem wrow_ext{g g':Nat→Nat}(h: ∀i,i<4→g i=g' i):wrow g=wrow g':=rowV_ext fun i hi=>by rw[h i hi]
def fxTo(v:Nat)(b:Bool)(g:Nat→Nat)(i:Nat):Nat→Nat:=fun j=>if j<i then fixw v b (g j)else g j
theorem and_bitF: ∀x:Fin 64,∀v:Fin 6,(x.1&&&2^v.1 !=0)=x.1.testBit v.1:=by decide+kernel
theorem and_bit{x v:Nat}(hx:x<64)(hv:v<6):(bitsI .and .u64 (x:Int) ((2^v:Nat):Int) !=0)=x.testBit v:=by
 have h2:2^v<U64:=pow_lt v (by omega)
 have e:=and_bitF ⟨x,hx⟩ ⟨v,hv⟩
 dsimp only at e
 rw[band (by unfold U64;omega) h2,←e]
 generalize x&&&2^v=z
 cases z with
 |zero=>rfl
 |succ n=> 
  rw[show((n+1:Nat) !=0)=true from rfl]
  simp only[bne_iff_ne,ne_eq]
  omega
theorem pow_v: ∀v:Fin 6,2^v.1<64:=by decide
set_option maxRecDepth 100000 in
theorem fix_low{h:Heap}{b1 b3 v:Nat}{b:Bool}{g g0:Nat→Nat}{K:Value→Heap→Prop}(hg:WOk g)(hv:v<6)(A:At h b1 (wrow g))(C:At h b3 (wrow g0))(hne:b1≠b3)
  (hK: ∀h',Only [b1,b3] h h'→K (aggW (fixG v b g)) h'):F155.wk14 v b ⟨b1,0,none⟩ ⟨b3,0,none⟩ h K:=by
 have pv:=pow_v ⟨v,hv⟩
 dsimp only at pv
 unfold F155.wk14
 rw[wrapU (a:=v) (by unfold U64;omega),min64 (by omega),show(1:Int)*2^v=((2^v:Nat):Int) by simp,wrapU (pow_lt v (by omega))]
 refine⟨by omega,?_⟩
 unfold F155.wk16
 have m64:=maskTo_lt v 64 (Nat.le_refl _)
 have words: ∀(d i:Nat) (h':Heap),i+d=4→At h' b1 (wrow (fxTo v b g i))→At h' b3 (wrow g0)→Only [b1,b3] h h'→F155.wL21 (d+1) b ⟨b1,0,none⟩ ⟨b3,0,none⟩ ((maskTo v 64:Nat):Int) ((2^v:Nat):Int) i h' K:=by
  intro d
  induction d with
  |zero=>
   intro i h' hd A C O
   rw[F155.sL21]
   rw[show decide ((i:Int)<4)=false by simp;omega,bcase_false]
   have hi:i=4:=by omega
   subst hi
   have e:wrow (fxTo v b g 4)=wrow (fixG v b g):=wrow_ext fun j hj=>by
    unfold fxTo fixG
    rw[if_pos hj,if_pos hv]
   rw[e]at A
   exact copy4 A C hne fun h'' O''=>hK h'' (O.trans O'' (by intro b hb _;simp at hb;simp[hb]))
  |succ d ih=>
   intro i h' hd A C O
   rw[F155.sL21]
   have hi:i<4:=by omega
   rw[show decide ((i:Int)<4)=true by simp;omega,bcase_true,show IntKind.wrap .i64 ((i:Int)+1)=((i+1:Nat):Int) by rw[wrap_i64 (by omega) (by omega)];omega]
   have e0:fxTo v b g i i=g i:=if_neg (by omega)
   have nxt: ∀h'',At h'' b1 (wrow fun j=>if j=i then fixw v b (g i)else fxTo v b g i j)→Only [b1] h' h''→F155.wL21 (d+1) b ⟨b1,0,none⟩ ⟨b3,0,none⟩ ((maskTo v 64:Nat):Int) ((2^v:Nat):Int) ((i+1:Nat):Int) h'' K:=fun h'' A'' O''=>by
    refine ih (i+1) h'' (by omega) ?_ (C.only O'' (by simpa using Ne.symm hne)) (O.trans O'' (by intro b hb _;simp at hb;simp[hb]))
    have e:(fun j=>if j=i then fixw v b (g i)else fxTo v b g i j)=fxTo v b g (i+1):=by
     funext j
     unfold fxTo
     by_cases hj:j=i
     ·subst hj;rw[if_pos rfl,if_pos (by omega)]
     ·rw[if_neg hj]
      by_cases hl:j<i
      ·rw[if_pos hl,if_pos (by omega)]
      ·rw[if_neg hl,if_neg (by omega)]
    rw[e]at A''
    exact A''
   have gi:=hg i hi
   have mm:min (Int.toNat ((2^v:Nat):Int)) (IntKind.bits .u64)=2^v:=min64 pv
   rw[mm]
   refine bcase_of (fun hb=> ?_) fun hb=> ?_
   ·subst hb
    refine⟨by omega,by omega,?_⟩
    rw[add_mk,show 0+Int.toNat (i:Int)*1=i by omega,wr_rd A hi,ldI_some,e0]
    refine⟨by omega,by omega,by omega,?_⟩
    have am:g i&&&maskTo v 64<U64:=Nat.lt_of_le_of_lt Nat.and_le_left gi
    rw[add_mk,Nat.add_zero,band gi m64,show((2:Int)^(2^v))=((2^(2^v):Nat):Int) by simp,Int.fdiv_eq_ediv_of_nonneg _ (Int.natCast_nonneg _),show((g i&&&maskTo v 64:Nat):Int)/((2^(2^v):Nat):Int)=(((g i&&&maskTo v 64)/2^(2^v):Nat):Int)from rfl,
     bor am (Nat.lt_of_le_of_lt (Nat.div_le_self _ _) am)]
    exact wr_st A hi fun h'' A'' O''=>nxt h'' A'' O''
   ·subst hb
    refine⟨by omega,by omega,?_⟩
    rw[add_mk,show 0+Int.toNat (i:Int)*1=i by omega,wr_rd A hi,ldI_some,e0]
    refine⟨by omega,by omega,by omega,?_⟩
    have am:g i&&&(U64-1-maskTo v 64)<U64:=Nat.lt_of_le_of_lt Nat.and_le_left gi
    rw[add_mk,Nat.add_zero,bandN gi m64,show((g i&&&(U64-1-maskTo v 64):Nat):Int)*(2:Int)^(2^v)=(((g i&&&(U64-1-maskTo v 64))*2^(2^v):Nat):Int) by simp,
     show IntKind.wrap .u64 ((((g i&&&(U64-1-maskTo v 64))*2^(2^v):Nat):Int))=((((g i&&&(U64-1-maskTo v 64))*2^(2^v))%U64:Nat):Int) by
      simp only[IntKind.wrap,IntKind.bits,IntKind.signed]
      rfl,
     bor am (Nat.mod_lt _ (by decide))]
    exact wr_st A hi fun h'' A'' O''=>nxt h'' A'' O''
 have mask: ∀(d k:Nat),k+d=64→F155.wL16 (d+1) b ⟨b1,0,none⟩ ⟨b3,0,none⟩ ((maskTo v k:Nat):Int) ((2^v:Nat):Int) k h K:=by
  intro d
  induction d with
  |zero=>
   intro k hd
   rw[F155.sL16]
   rw[show decide ((k:Int)<64)=false by simp;omega,bcase_false]
   have hk:k=64:=by omega
   subst hk
   unfold F155.wk20 F155.wk21
   have e:fxTo v b g 0=g:=by funext j;unfold fxTo;rw[if_neg (by omega)]
   exact⟨_,words 4 0 h (by omega) (by rw[e];exact A) C (Only.refl _ _)⟩
  |succ d ih=>
   intro k hd
   have nx:=ih (k+1) (by omega)
   have hk:k<64:=by omega
   rw[F155.sL16]
   rw[show decide ((k:Int)<64)=true by simp;omega,bcase_true,and_bit hk hv,show IntKind.wrap .u64 ((k:Int)+1)=((k+1:Nat):Int)from wrapU (a:=k+1) (by unfold U64;omega)]
   unfold maskTo at nx
   refine bcase_of (fun hb=> ?_) fun hb=> ?_
   ·rw[if_pos hb]at nx
    refine⟨by omega,?_⟩
    rw[min64 hk,show(1:Int)*2^k=((2^k:Nat):Int) by simp,wrapU (pow_lt k hk),bor (maskTo_lt v k (by omega)) (pow_lt k hk)]
    exact nx
   ·rw[if_neg (by rw[hb];simp)]at nx
    exact nx
 exact⟨_,mask 64 0 (by omega)⟩
end
section
def hiTo(u:Nat)(b:Bool)(g:Nat→Nat)(i:Nat):Nat→Nat:=fun j=>if tob j u false<i then g (tob j u b)else g j
theorem hi_and: ∀i:Fin 4,∀u:Fin 2,(bitsI .and .i64 ((i.1:Nat):Int) ((2^u.1:Nat):Int)==0)= !i.1.testBit u.1:=by decide+kernel
theorem hi_or: ∀i:Fin 4,∀u:Fin 2,i.1.testBit u.1=false→bitsI .or .i64 ((i.1:Nat):Int) ((2^u.1:Nat):Int)=((i.1+2^u.1:Nat):Int)∧i.1+2^u.1<4∧tob i.1 u.1 true=i.1+2^u.1∧tob i.1 u.1 false=i.1∧tob (i.1+2^u.1) u.1 false=i.1∧i.1<i.1+2^u.1:=by decide+kernel
theorem hi_one: ∀i:Fin 4,∀u:Fin 2,i.1.testBit u.1=true→ ∀j:Fin 4,¬tob j.1 u.1 false=i.1:=by decide+kernel
theorem hi_two: ∀i:Fin 4,∀u:Fin 2,i.1.testBit u.1=false→ ∀j:Fin 4,tob j.1 u.1 false=i.1↔j.1=i.1+2^u.1∨j.1=i.1:=by decide+kernel
theorem hi_par: ∀i:Fin 4,∀u:Fin 2,i.1.testBit u.1=false→ ∀b:Bool,tob (i.1+2^u.1) u.1 b=tob i.1 u.1 b:=by decide+kernel
theorem hi_step1{u:Nat}{b:Bool}{g:Nat→Nat}{i:Nat}(hi:i<4)(hu:u<2)(ht:i.testBit u=true): ∀j,j<4→hiTo u b g i j=hiTo u b g (i+1) j:=fun j hj=>by
 have e:=hi_one ⟨i,hi⟩ ⟨u,hu⟩ ht ⟨j,hj⟩
 dsimp only at e
 unfold hiTo
 by_cases hl:tob j u false<i
 ·rw[if_pos hl,if_pos (by omega)]
 ·rw[if_neg hl,if_neg (by omega)]
theorem hi_step2{u:Nat}{b:Bool}{g:Nat→Nat}{i:Nat}(hi:i<4)(hu:u<2)(ht:i.testBit u=false): ∀j,j<4→
  (if j=i+2^u then g (tob i u b)else if j=i then g (tob i u b)else hiTo u b g i j)=hiTo u b g (i+1) j:=fun j hj=>by
 have e:=hi_two ⟨i,hi⟩ ⟨u,hu⟩ ht ⟨j,hj⟩
 have p:=hi_par ⟨i,hi⟩ ⟨u,hu⟩ ht b
 dsimp only at e p
 unfold hiTo
 by_cases h1:j=i+2^u
 ·rw[if_pos h1,if_pos (by rw[e.2 (.inl h1)];omega),h1,p]
 ·rw[if_neg h1]
  by_cases h2:j=i
  ·rw[if_pos h2,if_pos (by rw[e.2 (.inr h2)];omega),h2]
  ·rw[if_neg h2]
   have ne:tob j u false≠i:=fun h=>by rcases e.1 h with h|h;exact h1 h;exact h2 h
   by_cases hl:tob j u false<i
   ·rw[if_pos hl,if_pos (by omega)]
   ·rw[if_neg hl,if_neg (by omega)]
theorem hi_done: ∀j:Fin 4,∀u:Fin 2,tob j.1 u.1 false<4:=by decide
theorem fix_high{h:Heap}{b1 b3 u:Nat}{b:Bool}{g g0:Nat→Nat}{K:Value→Heap→Prop}(hu:u<2)(A:At h b1 (wrow g))(C:At h b3 (wrow g0))(hne:b1≠b3)
  (hK: ∀h',Only [b1,b3] h h'→K (aggW (fixG (u+6) b g)) h'):F155.wk6 b ⟨b1,0,none⟩ ⟨b3,0,none⟩ ((2^u:Nat):Int) 0 h K:=by
 unfold F155.wk6
 have words: ∀(d i:Nat) (h':Heap),i+d=4→At h' b1 (wrow (hiTo u b g i))→At h' b3 (wrow g0)→Only [b1,b3] h h'→F155.wL6 (d+1) b ⟨b1,0,none⟩ ⟨b3,0,none⟩ ((2^u:Nat):Int) i h' K:=by
  intro d
  induction d with
  |zero=>
   intro i h' hd A C O
   rw[F155.sL6]
   rw[show decide ((i:Int)<4)=false by simp;omega,bcase_false]
   have hi:i=4:=by omega
   subst hi
   have e:wrow (hiTo u b g 4)=wrow (fixG (u+6) b g):=wrow_ext fun j hj=>by
    unfold hiTo fixG
    rw[if_pos (hi_done ⟨j,hj⟩ ⟨u,hu⟩),if_neg (by omega),show u+6-6=u by omega]
   rw[e]at A
   exact copy4 A C hne fun h'' O''=>hK h'' (O.trans O'' (by intro b hb _;simp at hb;simp[hb]))
  |succ d ih=>
   intro i h' hd A C O
   rw[F155.sL6]
   have hi:i<4:=by omega
   have ea:=hi_and ⟨i,hi⟩ ⟨u,hu⟩
   dsimp only at ea
   have ew:IntKind.wrap .i64 ((i:Int)+1)=((i+1:Nat):Int):=by rw[wrap_i64 (by omega) (by omega)];omega
   rw[show decide ((i:Int)<4)=true by simp;omega,bcase_true,ea]
   cases ht:i.testBit u with
   |true=>
    rw[show(!true)=false from rfl,bcase_false,ew]
    exact ih (i+1) h' (by omega) (by rw[wrow_ext (g':=hiTo u b g i) fun j hj=>(hi_step1 hi hu ht j hj).symm];exact A) C O
   |false=>
    obtain⟨eo,o4,tt,tf,tp,lt⟩:=hi_or ⟨i,hi⟩ ⟨u,hu⟩ ht
    dsimp only at eo o4 tt tf tp lt
    rw[show(!false)=true from rfl,bcase_true]
    have e1:hiTo u b g i i=g i:=if_neg (by omega)
    have e2:hiTo u b g i (i+2^u)=g (i+2^u):=if_neg (by omega)
    have st:F155.wk12 (fun x2 x3 x6 x7 x8 h=>F155.wL6 (d+1) x2 x3 x6 x7 x8 h K) b ⟨b1,0,none⟩ ⟨b3,0,none⟩ ((2^u:Nat):Int) i ((g (tob i u b):Nat):Int) h' K:=by
     unfold F155.wk12
     refine⟨by omega,by omega,?_⟩
     rw[add_mk,add_mk,show 0+Int.toNat (i:Int)*1+0=i by omega]
     refine wr_st A hi fun h1 A1 O1=> ?_
     rw[eo]
     refine⟨by omega,by omega,?_⟩
     rw[add_mk,add_mk,show 0+Int.toNat ((i+2^u:Nat):Int)*1+0=i+2^u by omega]
     refine wr_st A1 o4 fun h2 A2 O2=> ?_
     rw[ew]
     have O12:Only [b1] h' h2:=O1.trans O2 (by intro b hb _;exact hb)
     refine ih (i+1) h2 (by omega) ?_ (C.only O12 (by simpa using Ne.symm hne)) (O.trans O12 (by intro b hb _;simp at hb;simp[hb]))
     rw[wrow_ext (hi_step2 hi hu ht)]at A2
     exact A2
    refine⟨by omega,by omega,?_⟩
    rw[add_mk,show 0+Int.toNat (i:Int)*1=i by omega,wr_rd A hi,ldI_some,e1]
    cases b with
    |true=>
     rw[bcase_true,eo]
     refine⟨by omega,by omega,?_⟩
     rw[add_mk,show 0+Int.toNat ((i+2^u:Nat):Int)*1=i+2^u by omega,wr_rd A o4,ldI_some,e2]
     rw[tt]at st
     exact st
    |false=>
     rw[bcase_false]
     rw[tf]at st
     exact st
 have e:hiTo u b g 0=g:=by funext j;unfold hiTo;rw[if_neg (by omega)]
 exact⟨_,words 4 0 h (by omega) (by rw[e];exact A) C (Only.refl _ _)⟩
def fixA(v:Int)(b:Bool)(g:Nat→Nat):Nat→Nat:=if 0≤v∧v<8 then fixG v.toNat b g else g
set_option maxRecDepth 100000 in
theorem fix34{h:Heap}{v:Int}{b:Bool}{g:Nat→Nat}{K:Value→Heap→Prop}(hg:WOk g)
  (hK: ∀h',Only [] h h'→K (aggW (fixA v b g)) h'):Cl 155 [aggW g,.int .i64 v,.bool b] h K:=by
 refine F155.spec _ _ _ _ _ _ h K ?_
 refine newK_at fun h1 A1 O1 z1=>newK_at fun h2 A2 O2 z2=> ?_
 replace A1:At h1 h.size (wrow g):=A1
 replace A2:At h2 h1.size (wrow fun _=>0):=A2
 have B1:=A1.only O2 (by simp)
 have hne:h.size≠h1.size:=by omega
 have O02:Only [] h h2:=O1.trans O2 (by simp)
 have fin: ∀{g'},g'=fixA v b g→ ∀h',Only [h1.size] h2 h'→K (aggW g') h':=fun e h' O=>by
  subst e
  exact hK h' (O02.trans O (by intro b hb hlt;simp at hb;omega))
 have fin2: ∀{g'},g'=fixA v b g→ ∀h',Only [h.size,h1.size] h2 h'→K (aggW g') h':=fun e h' O=>by
  subst e
  exact hK h' (O02.trans O (by intro b hb hlt;simp at hb;omega))
 refine bcase_of (fun hb=> ?_) fun hb=> ?_
 ·have hb:=of_decide_eq_true hb
  exact copy4 B1 A2 hne (fin (by unfold fixA;rw[if_neg (by omega)]))
 have hb:=of_decide_eq_false hb
 refine bcase_of (fun hb=> ?_) fun hb=> ?_
 ·have hb:=of_decide_eq_true hb
  exact copy4 B1 A2 hne (fin (by unfold fixA;rw[if_neg (by omega)]))
 have hb':=of_decide_eq_false hb
 obtain⟨n,rfl⟩: ∃n:Nat,v=n:=⟨v.toNat,by omega⟩
 have en:fixA (n:Int) b g=fixG n b g:=by
  unfold fixA
  rw[if_pos ⟨by omega,by omega⟩,Int.toNat_natCast]
 refine bcase_of (fun hc=> ?_) fun hc=> ?_
 ·have hc:=of_decide_eq_true hc
  have hu:n-6<2:=by omega
  have e6:IntKind.wrap .u64 (IntKind.wrap .i64 ((n:Int)-6))=((n-6:Nat):Int):=by
   rw[wrap_i64 (by omega) (by omega),show(n:Int)-6=((n-6:Nat):Int) by omega]
   exact wrapU (by unfold U64;omega)
  rw[e6]
  refine⟨by omega,?_⟩
  have ep: ∀u:Fin 2,IntKind.wrap .i64 (1*2^(min (Int.toNat ((u.1:Nat):Int)) (IntKind.bits .i64)))=((2^u.1:Nat):Int):=by decide+kernel
  have ep:=ep ⟨n-6,hu⟩
  dsimp only at ep
  rw[ep]
  exact fix_high hu B1 A2 hne (fin2 (by rw[en,show n-6+6=n by omega]))
 ·have hc:=of_decide_eq_false hc
  exact fix_low hg (by omega) B1 A2 hne (fin2 en.symm)
end
section
theorem wr_put{h:Heap}{b:Nat}{g0 g:Nat→Nat}{K:Heap→Prop}(A:At h b (wrow g0))(hK: ∀h',At h' b (wrow g)→Only [b] h h'→K h'):
  stK h (Addr.add ⟨b,0,none⟩ 0) (.int .u64 ((g 0:Nat):Int)) fun h1=>stK h1 (Addr.add ⟨b,0,none⟩ 1) (.int .u64 ((g 1:Nat):Int)) fun h2=>stK h2 (Addr.add ⟨b,0,none⟩ 2) (.int .u64 ((g 2:Nat):Int)) fun h3=>stK h3 (Addr.add ⟨b,0,none⟩ 3) (.int .u64 ((g 3:Nat):Int)) K:=by
 simp only[add_mk,Nat.zero_add]
 exact wr_st A (by decide) fun h1 C1 O1=>wr_st C1 (by decide) fun h2 C2 O2=>wr_st C2 (by decide) fun h3 C3 O3=>wr_st C3 (by decide) fun h4 C4 O4=>
  hK h4 C4 (((O1.trans O2 (by simp)).trans O3 (by simp)).trans O4 (by simp))
end
section
theorem rd4{h:Heap}{b:Nat}{g:Nat→Nat}{K:Int→Int→Int→Int→Prop}(A:At h b (wrow g))(hK:K (g 0:Int) (g 1:Int) (g 2:Int) (g 3:Int)):
  ldI .u64 (rd h (Addr.add ⟨b,0,none⟩ 0)) fun n1=>ldI .u64 (rd h (Addr.add ⟨b,0,none⟩ 1)) fun n2=>ldI .u64 (rd h (Addr.add ⟨b,0,none⟩ 2)) fun n3=>ldI .u64 (rd h (Addr.add ⟨b,0,none⟩ 3)) fun n4=>K n1 n2 n3 n4:=by
 simp only[add_mk,Nat.zero_add]
 exact ldI_of (wr_rd A (by decide)) (ldI_of (wr_rd A (by decide)) (ldI_of (wr_rd A (by decide)) (ldI_of (wr_rd A (by decide)) hK)))
def vrow(n:Nat)(f:Nat→Nat):List Value:=((List.range n).map fun i=>(f i:Int)).map (.int .i64)
theorem vrow_get{n:Nat}{f:Nat→Nat}{k:Nat}(hk:k<n):(vrow n f)[k]? =some (.int .i64 (f k:Int)):=by simp[vrow,hk]
theorem rdv{h:Heap}{vb n k:Nat}{f:Nat→Nat}{K:Addr→Int→Prop}(V:At h vb (vrow n f))(hk:k<n)(hK:K ⟨vb,0,none⟩ (f k:Int)):
  ptrK (some ⟨vb,0,none⟩) fun a=>0≤(k:Int)∧(k:Int)<((n:Nat):Int)∧ldI .i64 (rd h (Addr.add a (Int.toNat (k:Int)*1))) fun v=>K a v:=by
 refine⟨by omega,by omega,ldI_of ?_ hK⟩
 rw[add_mk,V.rd,show 0+Int.toNat (k:Int)*1=k by omega]
 exact vrow_get hk
theorem rdva{h:Heap}{vb n k:Nat}{f:Nat→Nat}{P:Prop}(V:At h vb (vrow n f))(hk:k<n)(hP:P):
  ptrK (some ⟨vb,0,none⟩) fun a=>0≤(k:Int)∧(k:Int)<((n:Nat):Int)∧((.pointer (some (Addr.add a (Int.toNat (k:Int)*1))))=((.pointer (some (Addr.add ⟨vb,0,none⟩ (Int.toNat (k:Int)*1)))):Value)∧
   ldI .i64 (rd h (Addr.add ⟨vb,0,none⟩ (Int.toNat (k:Int)*1))) fun v=>((.int .i64 v)=((.int .i64 (f k:Int)):Value)∧P)):=by
 refine⟨by omega,by omega,rfl,ldI_of ?_ ⟨rfl,hP⟩⟩
 rw[add_mk,V.rd,show 0+Int.toNat (k:Int)*1=k by omega]
 exact vrow_get hk
set_option maxRecDepth 100000 in
theorem made_fix{h:Heap}{s b5 vb n k vc v:Nat}{f g:Nat→Nat}{K:Value→Heap→Prop}(A:At h b5 (wrow g))(hg:WOk g)(V:At h vb (vrow n f))(hk:k<n)(ev:f k=v)
  (hK: ∀h' bx by_,h.size≤bx→h.size≤by_→At h' bx (wrow (fixA (v:Int) false g))→At h' by_ (wrow (fixA (v:Int) true g))→Only [] h h'→F112.wk8 ⟨s,0,none⟩ (some ⟨vb,0,none⟩) n vc (k:Int) ⟨bx,0,none⟩ ⟨by_,0,none⟩ h' K):
  F112.wk5 ⟨s,0,none⟩ (some ⟨vb,0,none⟩) n vc (k:Int) ⟨b5,0,none⟩ h K:=by
 subst ev
 unfold F112.wk5
 rw[decide_eq_false (by omega),bcase_false]
 have P:=Only.refl [] h
 refine rd4 A (rdv V hk (rd4 A (rdv V hk ?_)))
 refine⟨?_,?_⟩
 ·
  refine fix34 hg fun h1 O1=>⟨_,_,_,_,rfl,?_⟩
  have A1:=A.only O1 (by simp)
  have V1:=V.only O1 (by simp)
  have P1:=P.trans O1 (by simp)
  refine rd4 A1 ⟨rfl,rfl,rfl,rdva V1 hk ?_⟩
  refine⟨?_,?_⟩
  ·
   refine fix34 hg fun h2 O2=>⟨_,_,_,_,rfl,?_⟩
   have A2:=A1.only O2 (by simp)
   have V2:=V1.only O2 (by simp)
   have P2:=P1.trans O2 (by simp)
   refine⟨?_,?_⟩
   ·
    refine newK_at fun h3 Y3 O3 z3=> ?_
    replace Y3:At h3 h2.size (wrow fun _=>0):=Y3
    have g3:=P2.size
    have A3:=A2.only O3 (by simp)
    have V3:=V2.only O3 (by simp)
    have P3:=P2.trans O3 (by simp)
    refine rd4 A3 ⟨rfl,rfl,rfl,rdva V3 hk ?_⟩
    refine rd4 A3 ⟨rfl,rfl,rfl,rdva V3 hk ?_⟩
    refine newK_at fun h4 Y4 O4 z4=> ?_
    replace Y4:At h4 h3.size (wrow fun _=>0):=Y4
    have g4:=P3.size
    have l4_12:=Y3.lt
    have A4:=A3.only O4 (by simp)
    have V4:=V3.only O4 (by simp)
    have P4:=P3.trans O4 (by simp)
    have Z4_12:=Y3.only O4 (by simp)
    refine rd4 A4 ⟨rfl,rfl,rfl,rdva V4 hk ?_⟩
    refine rd4 A4 ⟨rfl,rfl,rfl,rdva V4 hk ?_⟩
    refine wr_put (g:=fixA (f k:Int) false g) Z4_12 fun h5 S5 Q5=>wr_put (g:=fixA (f k:Int) true g) (Y4.only Q5 (by simp;omega)) fun k5 T5 R5=> ?_
    exact hK k5 _ _ g3 g4 (S5.only R5 (by simp;omega)) T5 (((P4.trans Q5 (by intro x hx hl;simp at hx;omega))).trans R5 (by intro x hx hl;simp at hx;omega))
   refine newK_at fun h6 Y6 O6 z6=> ?_
   replace Y6:At h6 h2.size (wrow fun _=>0):=Y6
   have g6:=P2.size
   have A6:=A2.only O6 (by simp)
   have V6:=V2.only O6 (by simp)
   have P6:=P2.trans O6 (by simp)
   refine rd4 A6 ⟨rfl,rfl,rfl,rdva V6 hk ?_⟩
   refine rd4 A6 ⟨rfl,rfl,rfl,rdva V6 hk ?_⟩
   refine newK_at fun h7 Y7 O7 z7=> ?_
   replace Y7:At h7 h6.size (wrow fun _=>0):=Y7
   have g7:=P6.size
   have l7_13:=Y6.lt
   have A7:=A6.only O7 (by simp)
   have V7:=V6.only O7 (by simp)
   have P7:=P6.trans O7 (by simp)
   have Z7_13:=Y6.only O7 (by simp)
   refine rd4 A7 ⟨rfl,rfl,rfl,rdva V7 hk ?_⟩
   refine rd4 A7 ⟨rfl,rfl,rfl,rdva V7 hk ?_⟩
   refine wr_put (g:=fixA (f k:Int) false g) Y7 fun h8 S8 Q8=>wr_put (g:=fixA (f k:Int) true g) (Z7_13.only Q8 (by simp;omega)) fun k8 T8 R8=> ?_
   exact hK k8 _ _ g7 g6 (S8.only R8 (by simp;omega)) T8 (((P7.trans Q8 (by intro x hx hl;simp at hx;omega))).trans R8 (by intro x hx hl;simp at hx;omega))
  refine⟨?_,?_⟩
  ·
   refine newK_at fun h9 Y9 O9 z9=> ?_
   replace Y9:At h9 h1.size (wrow fun _=>0):=Y9
   have g9:=P1.size
   have A9:=A1.only O9 (by simp)
   have V9:=V1.only O9 (by simp)
   have P9:=P1.trans O9 (by simp)
   refine rd4 A9 ⟨rfl,rfl,rfl,rdva V9 hk ?_⟩
   refine rd4 A9 ⟨rfl,rfl,rfl,rdva V9 hk ?_⟩
   refine⟨?_,?_⟩
   ·
    refine fix34 hg fun h10 O10=>⟨_,_,_,_,rfl,?_⟩
    have A10:=A9.only O10 (by simp)
    have V10:=V9.only O10 (by simp)
    have P10:=P9.trans O10 (by simp)
    have Z10_12:=Y9.only O10 (by simp)
    refine newK_at fun h11 Y11 O11 z11=> ?_
    replace Y11:At h11 h10.size (wrow fun _=>0):=Y11
    have g11:=P10.size
    have l11_12:=Z10_12.lt
    have A11:=A10.only O11 (by simp)
    have V11:=V10.only O11 (by simp)
    have P11:=P10.trans O11 (by simp)
    have Z11_12:=Z10_12.only O11 (by simp)
    refine rd4 A11 ⟨rfl,rfl,rfl,rdva V11 hk ?_⟩
    refine rd4 A11 ⟨rfl,rfl,rfl,rdva V11 hk ?_⟩
    refine wr_put (g:=fixA (f k:Int) false g) Z11_12 fun h12 S12 Q12=>wr_put (g:=fixA (f k:Int) true g) (Y11.only Q12 (by simp;omega)) fun k12 T12 R12=> ?_
    exact hK k12 _ _ g9 g11 (S12.only R12 (by simp;omega)) T12 (((P11.trans Q12 (by intro x hx hl;simp at hx;omega))).trans R12 (by intro x hx hl;simp at hx;omega))
   refine newK_at fun h13 Y13 O13 z13=> ?_
   replace Y13:At h13 h9.size (wrow fun _=>0):=Y13
   have g13:=P9.size
   have l13_12:=Y9.lt
   have A13:=A9.only O13 (by simp)
   have V13:=V9.only O13 (by simp)
   have P13:=P9.trans O13 (by simp)
   have Z13_12:=Y9.only O13 (by simp)
   refine rd4 A13 ⟨rfl,rfl,rfl,rdva V13 hk ?_⟩
   refine rd4 A13 ⟨rfl,rfl,rfl,rdva V13 hk ?_⟩
   refine fix34 hg fun h14 O14=>⟨_,_,_,_,rfl,?_⟩
   have A14:=A13.only O14 (by simp)
   have V14:=V13.only O14 (by simp)
   have P14:=P13.trans O14 (by simp)
   have Z14_12:=Z13_12.only O14 (by simp)
   have Z14_13:=Y13.only O14 (by simp)
   refine wr_put (g:=fixA (f k:Int) false g) Z14_12 fun h15 S15 Q15=>wr_put (g:=fixA (f k:Int) true g) (Z14_13.only Q15 (by simp;omega)) fun k15 T15 R15=> ?_
   exact hK k15 _ _ g9 g13 (S15.only R15 (by simp;omega)) T15 (((P14.trans Q15 (by intro x hx hl;simp at hx;omega))).trans R15 (by intro x hx hl;simp at hx;omega))
  refine newK_at fun h16 Y16 O16 z16=> ?_
  replace Y16:At h16 h1.size (wrow fun _=>0):=Y16
  have g16:=P1.size
  have A16:=A1.only O16 (by simp)
  have V16:=V1.only O16 (by simp)
  have P16:=P1.trans O16 (by simp)
  refine rd4 A16 ⟨rfl,rfl,rfl,rdva V16 hk ?_⟩
  refine rd4 A16 ⟨rfl,rfl,rfl,rdva V16 hk ?_⟩
  refine⟨?_,?_⟩
  ·
   refine fix34 hg fun h17 O17=>⟨_,_,_,_,rfl,?_⟩
   have A17:=A16.only O17 (by simp)
   have V17:=V16.only O17 (by simp)
   have P17:=P16.trans O17 (by simp)
   have Z17_13:=Y16.only O17 (by simp)
   refine newK_at fun h18 Y18 O18 z18=> ?_
   replace Y18:At h18 h17.size (wrow fun _=>0):=Y18
   have g18:=P17.size
   have l18_13:=Z17_13.lt
   have A18:=A17.only O18 (by simp)
   have V18:=V17.only O18 (by simp)
   have P18:=P17.trans O18 (by simp)
   have Z18_13:=Z17_13.only O18 (by simp)
   refine rd4 A18 ⟨rfl,rfl,rfl,rdva V18 hk ?_⟩
   refine rd4 A18 ⟨rfl,rfl,rfl,rdva V18 hk ?_⟩
   refine wr_put (g:=fixA (f k:Int) false g) Y18 fun h19 S19 Q19=>wr_put (g:=fixA (f k:Int) true g) (Z18_13.only Q19 (by simp;omega)) fun k19 T19 R19=> ?_
   exact hK k19 _ _ g18 g16 (S19.only R19 (by simp;omega)) T19 (((P18.trans Q19 (by intro x hx hl;simp at hx;omega))).trans R19 (by intro x hx hl;simp at hx;omega))
  refine newK_at fun h20 Y20 O20 z20=> ?_
  replace Y20:At h20 h16.size (wrow fun _=>0):=Y20
  have g20:=P16.size
  have l20_13:=Y16.lt
  have A20:=A16.only O20 (by simp)
  have V20:=V16.only O20 (by simp)
  have P20:=P16.trans O20 (by simp)
  have Z20_13:=Y16.only O20 (by simp)
  refine rd4 A20 ⟨rfl,rfl,rfl,rdva V20 hk ?_⟩
  refine rd4 A20 ⟨rfl,rfl,rfl,rdva V20 hk ?_⟩
  refine fix34 hg fun h21 O21=>⟨_,_,_,_,rfl,?_⟩
  have A21:=A20.only O21 (by simp)
  have V21:=V20.only O21 (by simp)
  have P21:=P20.trans O21 (by simp)
  have Z21_13:=Z20_13.only O21 (by simp)
  have Z21_12:=Y20.only O21 (by simp)
  refine wr_put (g:=fixA (f k:Int) false g) Z21_12 fun h22 S22 Q22=>wr_put (g:=fixA (f k:Int) true g) (Z21_13.only Q22 (by simp;omega)) fun k22 T22 R22=> ?_
  exact hK k22 _ _ g20 g16 (S22.only R22 (by simp;omega)) T22 (((P21.trans Q22 (by intro x hx hl;simp at hx;omega))).trans R22 (by intro x hx hl;simp at hx;omega))
 refine⟨?_,?_⟩
 ·
  refine newK_at fun h23 Y23 O23 z23=> ?_
  replace Y23:At h23 h.size (wrow fun _=>0):=Y23
  have g23:=P.size
  have A23:=A.only O23 (by simp)
  have V23:=V.only O23 (by simp)
  have P23:=P.trans O23 (by simp)
  refine rd4 A23 ⟨rfl,rfl,rfl,rdva V23 hk ?_⟩
  refine rd4 A23 ⟨rfl,rfl,rfl,rdva V23 hk ?_⟩
  refine⟨?_,?_⟩
  ·
   refine fix34 hg fun h24 O24=>⟨_,_,_,_,rfl,?_⟩
   have A24:=A23.only O24 (by simp)
   have V24:=V23.only O24 (by simp)
   have P24:=P23.trans O24 (by simp)
   have Z24_12:=Y23.only O24 (by simp)
   refine rd4 A24 ⟨rfl,rfl,rfl,rdva V24 hk ?_⟩
   refine⟨?_,?_⟩
   ·
    refine fix34 hg fun h25 O25=>⟨_,_,_,_,rfl,?_⟩
    have A25:=A24.only O25 (by simp)
    have V25:=V24.only O25 (by simp)
    have P25:=P24.trans O25 (by simp)
    have Z25_12:=Z24_12.only O25 (by simp)
    refine newK_at fun h26 Y26 O26 z26=> ?_
    replace Y26:At h26 h25.size (wrow fun _=>0):=Y26
    have g26:=P25.size
    have l26_12:=Z25_12.lt
    have A26:=A25.only O26 (by simp)
    have V26:=V25.only O26 (by simp)
    have P26:=P25.trans O26 (by simp)
    have Z26_12:=Z25_12.only O26 (by simp)
    refine rd4 A26 ⟨rfl,rfl,rfl,rdva V26 hk ?_⟩
    refine rd4 A26 ⟨rfl,rfl,rfl,rdva V26 hk ?_⟩
    refine wr_put (g:=fixA (f k:Int) false g) Z26_12 fun h27 S27 Q27=>wr_put (g:=fixA (f k:Int) true g) (Y26.only Q27 (by simp;omega)) fun k27 T27 R27=> ?_
    exact hK k27 _ _ g23 g26 (S27.only R27 (by simp;omega)) T27 (((P26.trans Q27 (by intro x hx hl;simp at hx;omega))).trans R27 (by intro x hx hl;simp at hx;omega))
   refine newK_at fun h28 Y28 O28 z28=> ?_
   replace Y28:At h28 h24.size (wrow fun _=>0):=Y28
   have g28:=P24.size
   have l28_12:=Z24_12.lt
   have A28:=A24.only O28 (by simp)
   have V28:=V24.only O28 (by simp)
   have P28:=P24.trans O28 (by simp)
   have Z28_12:=Z24_12.only O28 (by simp)
   refine rd4 A28 ⟨rfl,rfl,rfl,rdva V28 hk ?_⟩
   refine rd4 A28 ⟨rfl,rfl,rfl,rdva V28 hk ?_⟩
   refine fix34 hg fun h29 O29=>⟨_,_,_,_,rfl,?_⟩
   have A29:=A28.only O29 (by simp)
   have V29:=V28.only O29 (by simp)
   have P29:=P28.trans O29 (by simp)
   have Z29_12:=Z28_12.only O29 (by simp)
   have Z29_13:=Y28.only O29 (by simp)
   refine wr_put (g:=fixA (f k:Int) false g) Z29_12 fun h30 S30 Q30=>wr_put (g:=fixA (f k:Int) true g) (Z29_13.only Q30 (by simp;omega)) fun k30 T30 R30=> ?_
   exact hK k30 _ _ g23 g28 (S30.only R30 (by simp;omega)) T30 (((P29.trans Q30 (by intro x hx hl;simp at hx;omega))).trans R30 (by intro x hx hl;simp at hx;omega))
  refine newK_at fun h31 Y31 O31 z31=> ?_
  replace Y31:At h31 h23.size (wrow fun _=>0):=Y31
  have g31:=P23.size
  have l31_12:=Y23.lt
  have A31:=A23.only O31 (by simp)
  have V31:=V23.only O31 (by simp)
  have P31:=P23.trans O31 (by simp)
  have Z31_12:=Y23.only O31 (by simp)
  refine rd4 A31 ⟨rfl,rfl,rfl,rdva V31 hk ?_⟩
  refine rd4 A31 ⟨rfl,rfl,rfl,rdva V31 hk ?_⟩
  refine fix34 hg fun h32 O32=>⟨_,_,_,_,rfl,?_⟩
  have A32:=A31.only O32 (by simp)
  have V32:=V31.only O32 (by simp)
  have P32:=P31.trans O32 (by simp)
  have Z32_12:=Z31_12.only O32 (by simp)
  have Z32_13:=Y31.only O32 (by simp)
  refine rd4 A32 ⟨rfl,rfl,rfl,rdva V32 hk ?_⟩
  refine fix34 hg fun h33 O33=>⟨_,_,_,_,rfl,?_⟩
  have A33:=A32.only O33 (by simp)
  have V33:=V32.only O33 (by simp)
  have P33:=P32.trans O33 (by simp)
  have Z33_12:=Z32_12.only O33 (by simp)
  have Z33_13:=Z32_13.only O33 (by simp)
  refine wr_put (g:=fixA (f k:Int) false g) Z33_12 fun h34 S34 Q34=>wr_put (g:=fixA (f k:Int) true g) (Z33_13.only Q34 (by simp;omega)) fun k34 T34 R34=> ?_
  exact hK k34 _ _ g23 g31 (S34.only R34 (by simp;omega)) T34 (((P33.trans Q34 (by intro x hx hl;simp at hx;omega))).trans R34 (by intro x hx hl;simp at hx;omega))
 refine newK_at fun h35 Y35 O35 z35=> ?_
 replace Y35:At h35 h.size (wrow fun _=>0):=Y35
 have g35:=P.size
 have A35:=A.only O35 (by simp)
 have V35:=V.only O35 (by simp)
 have P35:=P.trans O35 (by simp)
 refine rd4 A35 ⟨rfl,rfl,rfl,rdva V35 hk ?_⟩
 refine rd4 A35 ⟨rfl,rfl,rfl,rdva V35 hk ?_⟩
 refine⟨?_,?_⟩
 ·
  refine fix34 hg fun h36 O36=>⟨_,_,_,_,rfl,?_⟩
  have A36:=A35.only O36 (by simp)
  have V36:=V35.only O36 (by simp)
  have P36:=P35.trans O36 (by simp)
  have Z36_13:=Y35.only O36 (by simp)
  refine rd4 A36 ⟨rfl,rfl,rfl,rdva V36 hk ?_⟩
  refine⟨?_,?_⟩
  ·
   refine fix34 hg fun h37 O37=>⟨_,_,_,_,rfl,?_⟩
   have A37:=A36.only O37 (by simp)
   have V37:=V36.only O37 (by simp)
   have P37:=P36.trans O37 (by simp)
   have Z37_13:=Z36_13.only O37 (by simp)
   refine newK_at fun h38 Y38 O38 z38=> ?_
   replace Y38:At h38 h37.size (wrow fun _=>0):=Y38
   have g38:=P37.size
   have l38_13:=Z37_13.lt
   have A38:=A37.only O38 (by simp)
   have V38:=V37.only O38 (by simp)
   have P38:=P37.trans O38 (by simp)
   have Z38_13:=Z37_13.only O38 (by simp)
   refine rd4 A38 ⟨rfl,rfl,rfl,rdva V38 hk ?_⟩
   refine rd4 A38 ⟨rfl,rfl,rfl,rdva V38 hk ?_⟩
   refine wr_put (g:=fixA (f k:Int) false g) Y38 fun h39 S39 Q39=>wr_put (g:=fixA (f k:Int) true g) (Z38_13.only Q39 (by simp;omega)) fun k39 T39 R39=> ?_
   exact hK k39 _ _ g38 g35 (S39.only R39 (by simp;omega)) T39 (((P38.trans Q39 (by intro x hx hl;simp at hx;omega))).trans R39 (by intro x hx hl;simp at hx;omega))
  refine newK_at fun h40 Y40 O40 z40=> ?_
  replace Y40:At h40 h36.size (wrow fun _=>0):=Y40
  have g40:=P36.size
  have l40_13:=Z36_13.lt
  have A40:=A36.only O40 (by simp)
  have V40:=V36.only O40 (by simp)
  have P40:=P36.trans O40 (by simp)
  have Z40_13:=Z36_13.only O40 (by simp)
  refine rd4 A40 ⟨rfl,rfl,rfl,rdva V40 hk ?_⟩
  refine rd4 A40 ⟨rfl,rfl,rfl,rdva V40 hk ?_⟩
  refine fix34 hg fun h41 O41=>⟨_,_,_,_,rfl,?_⟩
  have A41:=A40.only O41 (by simp)
  have V41:=V40.only O41 (by simp)
  have P41:=P40.trans O41 (by simp)
  have Z41_13:=Z40_13.only O41 (by simp)
  have Z41_12:=Y40.only O41 (by simp)
  refine wr_put (g:=fixA (f k:Int) false g) Z41_12 fun h42 S42 Q42=>wr_put (g:=fixA (f k:Int) true g) (Z41_13.only Q42 (by simp;omega)) fun k42 T42 R42=> ?_
  exact hK k42 _ _ g40 g35 (S42.only R42 (by simp;omega)) T42 (((P41.trans Q42 (by intro x hx hl;simp at hx;omega))).trans R42 (by intro x hx hl;simp at hx;omega))
 refine newK_at fun h43 Y43 O43 z43=> ?_
 replace Y43:At h43 h35.size (wrow fun _=>0):=Y43
 have g43:=P35.size
 have l43_13:=Y35.lt
 have A43:=A35.only O43 (by simp)
 have V43:=V35.only O43 (by simp)
 have P43:=P35.trans O43 (by simp)
 have Z43_13:=Y35.only O43 (by simp)
 refine rd4 A43 ⟨rfl,rfl,rfl,rdva V43 hk ?_⟩
 refine rd4 A43 ⟨rfl,rfl,rfl,rdva V43 hk ?_⟩
 refine fix34 hg fun h44 O44=>⟨_,_,_,_,rfl,?_⟩
 have A44:=A43.only O44 (by simp)
 have V44:=V43.only O44 (by simp)
 have P44:=P43.trans O44 (by simp)
 have Z44_13:=Z43_13.only O44 (by simp)
 have Z44_12:=Y43.only O44 (by simp)
 refine rd4 A44 ⟨rfl,rfl,rfl,rdva V44 hk ?_⟩
 refine fix34 hg fun h45 O45=>⟨_,_,_,_,rfl,?_⟩
 have A45:=A44.only O45 (by simp)
 have V45:=V44.only O45 (by simp)
 have P45:=P44.trans O45 (by simp)
 have Z45_13:=Z44_13.only O45 (by simp)
 have Z45_12:=Z44_12.only O45 (by simp)
 refine wr_put (g:=fixA (f k:Int) false g) Z45_12 fun h46 S46 Q46=>wr_put (g:=fixA (f k:Int) true g) (Z45_13.only Q46 (by simp;omega)) fun k46 T46 R46=> ?_
 exact hK k46 _ _ g43 g35 (S46.only R46 (by simp;omega)) T46 (((P45.trans Q46 (by intro x hx hl;simp at hx;omega))).trans R46 (by intro x hx hl;simp at hx;omega))
end
section
def F62.T:Hint:=⟨[],[(1,[[(0,[]),(1,[]),(2,[]),(3,[0,1]),(4,[0,1]),(5,[]),(6,[]),(7,[]),(8,[]),(9,[])]])]⟩
theorem F62.spec(f:Addr)(a b c d:Int)(h:Heap)(K:KK)(H:newK h (.cells #[.int .u64 a,.int .u64 b,.int .u64 c,.int .u64 d] 51) fun b1 h2=>ldI .u64 (rd h2 ((Addr.mk b1 0 none).add 0)) fun n3=>ldI .u64 (rd h2 ((Addr.mk b1 0 none).add 1)) fun n4=>ldI .u64 (rd h2 ((Addr.mk b1 0 none).add 2)) fun n5=>ldI .u64 (rd h2 ((Addr.mk b1 0 none).add 3)) fun n6=>Cl 47 [.pointer (some f)] h2 fun v7 h8=>ldP (some v7) fun p9=>((.pointer (some f))=((.pointer (some f)):Value)∧ldI .u64 (rd h8 ((Addr.mk b1 0 none).add 0)) fun n10=>ldI .u64 (rd h8 ((Addr.mk b1 0 none).add 1)) fun n11=>ldI .u64 (rd h8 ((Addr.mk b1 0 none).add 2)) fun n12=>ldI .u64 (rd h8 ((Addr.mk b1 0 none).add 3)) fun n13=>((.agg #[.int .u64 n10,.int .u64 n11,.int .u64 n12,.int .u64 n13])=((.agg #[.int .u64 n3,.int .u64 n4,.int .u64 n5,.int .u64 n6]):Value)∧Cl 48 [.pointer p9] h8 fun v14 h15=>ldS (some v14) fun p16 l17 c18=>((.pointer (some f))=((.pointer (some f)):Value)∧ldI .u64 (rd h15 ((Addr.mk b1 0 none).add 0)) fun n19=>ldI .u64 (rd h15 ((Addr.mk b1 0 none).add 1)) fun n20=>ldI .u64 (rd h15 ((Addr.mk b1 0 none).add 2)) fun n21=>ldI .u64 (rd h15 ((Addr.mk b1 0 none).add 3)) fun n22=>((.agg #[.int .u64 n19,.int .u64 n20,.int .u64 n21,.int .u64 n22])=((.agg #[.int .u64 n3,.int .u64 n4,.int .u64 n5,.int .u64 n6]):Value)∧Cl 112 [.pointer (some f),.agg #[.int .u64 n3,.int .u64 n4,.int .u64 n5,.int .u64 n6],.slice p16 l17 c18,.int .i64 0] h15 fun v23 h24=> ∃n25:Int,∃b26:Bool,v23=(.tuple #[.int .u32 n25,.bool b26])∧K (.tuple #[.int .u32 n25,.bool b26]) h24))))):Cl 62 [.pointer (some f),.agg #[.int .u64 a,.int .u64 b,.int .u64 c,.int .u64 d]] h K:=cT F62.T Tryz.func62 H
end
section
theorem tb_tobF: ∀y:Fin 256,∀v:Fin 8,∀b:Bool,∀i:Fin 8,(tob y.1 v.1 b).testBit i.1=if i.1=v.1 then b else y.1.testBit i.1:=by decide+kernel
theorem tb_tob{y v i:Nat}(hy:y<256)(hv:v<8)(b:Bool)(hi:i<8):(tob y v b).testBit i=if i=v then b else y.testBit i:=tb_tobF ⟨y,hy⟩ ⟨v,hv⟩ b ⟨i,hi⟩
theorem tobl{y v:Nat}(hy:y<256)(hv:v<8)(b:Bool):tob y v b<256:=tob_lt ⟨y,hy⟩ ⟨v,hv⟩ b
theorem ext8{a b:Nat}(ha:a<256)(hb:b<256)(h: ∀i,i<8→a.testBit i=b.testBit i):a=b:=by
 apply Nat.eq_of_testBit_eq
 intro i
 by_cases hi:i<8
 ·exact h i hi
 ·rw[Nat.testBit_lt_two_pow (Nat.lt_of_lt_of_le ha (by rw[show 256=2^8 by rfl];exact Nat.pow_le_pow_right (by omega) (by omega))),Nat.testBit_lt_two_pow (Nat.lt_of_lt_of_le hb (by rw[show 256=2^8 by rfl];exact Nat.pow_le_pow_right (by omega) (by omega)))]
def Indep(p:Nat→Bool)(v:Nat):Prop:= ∀y,y<256→p (tob y v true)=p (tob y v false)
theorem tob_self{y v:Nat}(hy:y<256)(hv:v<8):tob y v (y.testBit v)=y:=by
 refine ext8 (tobl hy hv _) hy fun i hi=> ?_
 rw[tb_tob hy hv _ hi]
 split
 ·next e=>rw[e]
 ·rfl
theorem Indep.tob{p:Nat→Bool}{v y:Nat}(H:Indep p v)(hy:y<256)(hv:v<8)(b:Bool):p (tob y v b)=p y:=by
 have h:=H y hy
 have e:=tob_self hy hv
 cases hb:y.testBit v<;>rw[hb]at e<;>cases b<;>first|rw[e]|(rw[h,e])|(rw[←h,e])
theorem const_of_indep{p:Nat→Bool}(H: ∀v,v<8→Indep p v){y:Nat}(hy:y<256):p y=p 0:=by
 have key: ∀k,k≤8→ ∀y,y<256→(∀i,k≤i→i<8→y.testBit i=false)→p y=p 0:=by
  intro k
  induction k with
  |zero=>
   intro _ y hy h
   rw[ext8 hy (by omega:0<256) fun i hi=>by rw[h i (by omega) hi];simp]
  |succ k ih=>
   intro hk y hy h
   rw[←(H k (by omega)).tob hy (by omega) false]
   refine ih (by omega) _ (tobl hy (by omega) _) fun i h1 h2=> ?_
   rw[tb_tob hy (by omega) _ h2]
   split
   ·rfl
   ·exact h i (by omega) h2
 exact key 8 (by omega) y hy fun i h1 h2=>by omega
theorem fixA_fb{g:Nat→Nat}(hg:WOk g){v y:Nat}{b:Bool}(hv:v<8)(hy:y<256):fb (fixA (v:Int) b g) y=fb g (tob y v b):=by
 unfold fixA
 rw[if_pos (by omega),Int.toNat_natCast]
 exact fixG_fb hg hv hy
theorem fixA_ok{g:Nat→Nat}(hg:WOk g){v:Nat}{b:Bool}(hv:v<8):WOk (fixA (v:Int) b g):=by
 unfold fixA
 rw[if_pos (by omega),Int.toNat_natCast]
 exact fixG_ok hg hv
theorem indep_fix_same{g:Nat→Nat}(hg:WOk g){v:Nat}{b:Bool}(hv:v<8):Indep (fb (fixA (v:Int) b g)) v:=fun y hy=>by
 rw[fixA_fb hg hv (tobl hy hv _),fixA_fb hg hv (tobl hy hv _)]
 congr 1
 refine ext8 (tobl (tobl hy hv _) hv _) (tobl (tobl hy hv _) hv _) fun i hi=> ?_
 rw[tb_tob (tobl hy hv _) hv _ hi,tb_tob (tobl hy hv _) hv _ hi,tb_tob hy hv _ hi,tb_tob hy hv _ hi]
 split<;>rfl
theorem indep_fix{g:Nat→Nat}(hg:WOk g){u v:Nat}{b:Bool}(hv:v<8)(hu:u<8)(H:Indep (fb g) u):Indep (fb (fixA (v:Int) b g)) u:=by
 by_cases e:u=v
 ·subst e
  exact indep_fix_same hg hu
 intro y hy
 rw[fixA_fb hg hv (tobl hy hu _),fixA_fb hg hv (tobl hy hu _)]
 have c: ∀c,tob (tob y u c) v b=tob (tob y v b) u c:=fun c=>by
  refine ext8 (tobl (tobl hy hu _) hv _) (tobl (tobl hy hv _) hu _) fun i hi=> ?_
  rw[tb_tob (tobl hy hu _) hv _ hi,tb_tob (tobl hy hv _) hu _ hi,tb_tob hy hu _ hi,tb_tob hy hv _ hi]
  by_cases h1:i=v
  ·rw[if_pos h1,if_neg (by omega),if_pos h1]
  ·rw[if_neg h1,if_neg h1]
 rw[c,c]
 exact H _ (tobl hy hv _)
theorem shannon{g:Nat→Nat}(hg:WOk g){v y:Nat}(hv:v<8)(hy:y<256):fb g y=if y.testBit v then fb (fixA (v:Int) true g) y else fb (fixA (v:Int) false g) y:=by
 have e:=tob_self hy hv
 split
 ·next h=>rw[h]at e;rw[fixA_fb hg hv hy,e]
 ·next h=>
  have h:y.testBit v=false:=by simpa using h
  rw[h]at e
  rw[fixA_fb hg hv hy,e]
theorem eq4{g c:Nat→Nat}(hg:WOk g)(hc:WOk c):(((g 0:Int)==(c 0:Int))&&(((g 1:Int)==(c 1:Int))&&(((g 2:Int)==(c 2:Int))&&(((g 3:Int)==(c 3:Int))&&true))))=true↔ ∀y,y<256→fb g y=fb c y:=by
 simp only[Bool.and_eq_true,beq_iff_eq,and_true]
 constructor
 ·rintro ⟨h0,h1,h2,h3⟩ y hy
  unfold fb
  have:y/64=0∨y/64=1∨y/64=2∨y/64=3:=by omega
  rcases this with e|e|e|e<;>rw[e]<;>congr 1<;>omega
 ·intro h
  have:=fb_ext hg hc h
  exact⟨by rw[this 0 (by omega)],by rw[this 1 (by omega)],by rw[this 2 (by omega)],by rw[this 3 (by omega)]⟩
def lst(n:Nat)(l:Nat):Bool:=decide (l+1<n)
def bdn(n k:Nat):Nat:=2^(n-1-k)
theorem bdn_two{n k:Nat}(h:k+1<n):bdn n k=2*bdn n (k+1):=by
 unfold bdn
 rw[show n-1-k=(n-1-(k+1))+1 by omega,Nat.pow_succ]
 omega
theorem bdn_one{n k:Nat}(h:n≤k+1):bdn n k=1:=by
 unfold bdn
 rw[show n-1-k=0 by omega]
theorem bdn_pos(n k:Nat):1≤bdn n k:=Nat.two_pow_pos _
theorem cnt_bound{n:Nat}{N:List (Option Nd)}(H:NOk n N):cntN N≤clN (lst n) N+2:=by
 rw[cl_split (lst n)]
 have:=cl_last H (fun l=> !lst n l) fun l h1 h2=>by
  simp[lst]at h2
  omega
 omega
set_option maxRecDepth 100000 in
theorem made35{s vb vc:Nat}{n:Nat}: ∀(d k:Nat),k+d=n→ ∀{h:Heap} {L:List Nat} {X:SX} {g:Nat→Nat} {K:Value→Heap→Prop},X.n=n→(∀j,j<n→X.f j<8)→Sto h s L X→At h vb (vrow n X.f)→vb∉L→WOk g→
  (∀v,v<8→(∀j,k≤j→j<n→X.f j≠v)→Indep (fb g) v)→clN (lst n) X.N+bdn n k+2≤X.room→
  (∀h' L' N' r,Ex X.N N'→isN N' r→k≤lvl n N' r→(∀x,x<256→sm n X.f N' r x=fb g x)→clN (lst n) N'+1≤clN (lst n) X.N+bdn n k→Sto h' s L' {X with N:=N'}→Only L h h'→Fresh L L' h→K (.tuple #[.int .u32 (r:Int),.bool true]) h')→
  Cl 112 [.pointer (some ⟨s,0,none⟩),aggW g,.slice (some ⟨vb,0,none⟩) n vc,.int .i64 (k:Int)] h K:=by
 intro d
 induction d with
 |zero=>
  intro k hk h L X g K en hf H V hvb hg hI hroom hK
  have hcon: ∀y,y<256→fb g y=fb g 0:=fun y hy=>const_of_indep (fun v hv=>hI v hv fun j h1 h2=>by omega) hy
  refine F112.spec _ _ _ _ _ _ _ _ _ h K ?_
  refine newK_at fun h1 A1 O1 z1=> ?_
  replace A1:At h1 h.size (wrow g):=A1
  have fin: ∀(r:Nat) h',r<2→(∀x,x<256→(r==1)=fb g x)→Only [] h h'→K (.tuple #[.int .u32 (r:Int),.bool true]) h':=fun r h' hr he O=>by
   have hn:=H.ok.1
   refine hK h' L X.N r (Ex.refl _) (.inl hr) ?_ (fun x hx=>by rw[sm_const hr];exact he x hx) (by have:=bdn_pos n k;omega) (H.only0 O) (O.mono (by simp)) (Fresh.refl _ _)
   unfold lvl
   rw[if_pos hr]
   omega
  refine rd4 A1 (const55 fun h2 c hc hcb O2=>⟨_,_,_,_,rfl,?_⟩)
  have A2:=A1.only O2 (by simp)
  refine rd4 A2 ⟨rfl,?_⟩
  refine bcase_of (fun e=>⟨rfl,rd4 A2 (const55 fun h3 c' hc' hcb' O3=>⟨_,_,_,_,rfl,rd4 (A2.only O3 (by simp)) ⟨rfl,?_⟩⟩)⟩) fun e=>rd4 A2 (const55 fun h3 c' hc' hcb' O3=>⟨_,_,_,_,rfl,rd4 (A2.only O3 (by simp)) ⟨rfl,?_⟩⟩)
  ·have e:=(eq4 hg hc).1 e
   refine bcase_of (fun e'=> ?_) fun e'=> ?_
   ·have e':=(eq4 hg hc').1 e'
    have:=(e 0 (by omega)).symm.trans (e' 0 (by omega))
    rw[hcb 0 (by omega),hcb' 0 (by omega)]at this
    cases this
   ·exact fin 0 h3 (by omega) (fun x hx=>by rw[e x hx,hcb x hx];rfl) ((O1.trans O2 (by simp)).trans O3 (by simp))
  ·have hne:fb g 0=true:=by
    cases h0:fb g 0 with
    |true=>rfl
    |false=>
     have:=(eq4 hg hc).2 fun y hy=>by rw[hcon y hy,h0,hcb y hy]
     rw[this]at e
     cases e
   refine bcase_of (fun e'=> ?_) fun e'=> ?_
   ·have A3:=A2.only O3 (by simp)
    refine rd4 A3 (const55 fun h4 c4 hc4 hcb4 O4=>⟨_,_,_,_,rfl,rd4 (A3.only O4 (by simp)) ⟨rfl,?_⟩⟩)
    have:=(eq4 hg hc4).2 fun y hy=>by rw[hcon y hy,hne,hcb4 y hy]
    rw[this,bcase_true]
    exact fin 1 h4 (by omega) (fun x hx=>by rw[hcon x hx,hne];rfl) (((O1.trans O2 (by simp)).trans O3 (by simp)).trans O4 (by simp))
   ·have:=(eq4 hg hc').2 fun y hy=>by rw[hcon y hy,hne,hcb' y hy]
    rw[this]at e'
    cases e'
 |succ d ih=>
  intro k hk h L X g K en hf H V hvb hg hI hroom hK
  have hn8:=H.ok.2.2.1
  refine F112.spec _ _ _ _ _ _ _ _ _ h K ?_
  refine newK_at fun h1 A1 O1 z1=> ?_
  replace A1:At h1 h.size (wrow g):=A1
  have fin: ∀(r:Nat) h',r<2→(∀x,x<256→(r==1)=fb g x)→Only [] h h'→K (.tuple #[.int .u32 (r:Int),.bool true]) h':=fun r h' hr he O=>by
   have hn:=H.ok.1
   refine hK h' L X.N r (Ex.refl _) (.inl hr) ?_ (fun x hx=>by rw[sm_const hr];exact he x hx) (by have:=bdn_pos n k;omega) (H.only0 O) (O.mono (by simp)) (Fresh.refl _ _)
   unfold lvl
   rw[if_pos hr]
   omega
  refine rd4 A1 (const55 fun h2 c hc hcb O2=>⟨_,_,_,_,rfl,?_⟩)
  have A2:=A1.only O2 (by simp)
  refine rd4 A2 ⟨rfl,?_⟩
  refine bcase_of (fun e=>⟨rfl,rd4 A2 (const55 fun h3 c' hc' hcb' O3=>⟨_,_,_,_,rfl,rd4 (A2.only O3 (by simp)) ⟨rfl,?_⟩⟩)⟩) fun e=>rd4 A2 (const55 fun h3 c' hc' hcb' O3=>⟨_,_,_,_,rfl,rd4 (A2.only O3 (by simp)) ⟨rfl,?_⟩⟩)
  ·have e:=(eq4 hg hc).1 e
   refine bcase_of (fun e'=> ?_) fun e'=> ?_
   ·have e':=(eq4 hg hc').1 e'
    have:=(e 0 (by omega)).symm.trans (e' 0 (by omega))
    rw[hcb 0 (by omega),hcb' 0 (by omega)]at this
    cases this
   ·exact fin 0 h3 (by omega) (fun x hx=>by rw[e x hx,hcb x hx];rfl) ((O1.trans O2 (by simp)).trans O3 (by simp))
  have A3:=A2.only O3 (by simp)
  have O13:=(O1.trans O2 (by simp)).trans O3 (by simp)
  refine bcase_of (fun e'=> ?_) fun e'=> ?_
  ·have e':=(eq4 hg hc').1 e'
   refine rd4 A3 (const55 fun h4 c4 hc4 hcb4 O4=>⟨_,_,_,_,rfl,rd4 (A3.only O4 (by simp)) ⟨rfl,?_⟩⟩)
   have:=(eq4 hg hc4).2 fun y hy=>by rw[e' y hy,hcb' y hy,hcb4 y hy]
   rw[this,bcase_true]
   exact fin 1 h4 (by omega) (fun x hx=>by rw[e' x hx,hcb' x hx];rfl) (O13.trans O4 (by simp))
  have hv:=hf k (by omega)
  refine made_fix A3 hg (V.only O13 (by simp)) (by omega) rfl fun h4 bx by_ gbx gby Bx By O4=> ?_
  unfold F112.wk8
  have gx:=fixA_ok (b:=false) hg hv
  have gy:=fixA_ok (b:=true) hg hv
  have O14:=O13.trans O4 (by simp)
  have H4:=H.only0 O14
  have V4:=V.only O14 (by simp)
  have w1:IntKind.wrap .i64 ((k:Int)+1)=((k+1:Nat):Int):=by rw[wrap_i64 (by omega) (by omega)];omega
  have IX: ∀b,∀v,v<8→(∀j,k+1≤j→j<n→X.f j≠v)→Indep (fb (fixA (X.f k:Int) b g)) v:=fun b v hv8 hj=>by
   by_cases e:X.f k=v
   ·subst e
    exact indep_fix_same hg hv
   ·refine indep_fix hg hv hv8 (hI v hv8 fun j h1 h2=> ?_)
    by_cases ej:j=k
    ·subst ej;exact e
    ·exact hj j (by omega) h2
  have b1:=bdn_pos n (k+1)
  have broom:bdn n (k+1)≤bdn n k:=by
   by_cases hk1:k+1<n
   ·rw[bdn_two hk1];omega
   ·rw[bdn_one (by omega:n≤k+1+1)];exact bdn_pos n k
  refine rd4 Bx (rd4 By (bcase_of (fun eq=> ?_) fun eq=> ?_))
  ·have eq:=(eq4 gx gy).1 eq
   refine rd4 Bx ?_
   rw[w1]
   refine ih (k+1) (by omega) en hf H4 V4 hvb gx (IX false) (by omega) fun h5 L5 N5 r E5 hr hl hs hc5 S5 O5 F5=>⟨_,_,rfl,?_⟩
   refine hK h5 L5 N5 r E5 hr (by omega) (fun x hx=> ?_) (by omega) S5 ((O14.mono (by simp)).trans O5 fun b hb _=>hb) fun b hb=> ?_
   ·rw[hs x hx,shannon hg hv hx,←eq x hx]
    simp
   ·rcases F5 b hb with h|h
    ·exact .inl h
    ·exact .inr (by have:=O14.size;omega)
  ·refine rd4 Bx ?_
   rw[w1]
   refine ih (k+1) (by omega) en hf H4 V4 hvb gx (IX false) (by omega) fun h5 L5 N5 a E5 ha hl hs hc5 S5 O5 F5=>⟨_,_,rfl,?_⟩
   have vb4:vb<h4.size:=V4.lt
   have hbL: ∀b,b∉L→b<h4.size→b∉L5:=fun b h1 h2 h3=>by
    rcases F5 b h3 with h|h
    ·exact h1 h
    ·omega
   have byL:by_∉L:=fun hm=>by
    have:=H.lt _ hm
    have:=O13.size
    omega
   have By5:=By.only O5 byL
   have V5:=V4.only O5 hvb
   refine rd4 By5 ?_
   have bb:bdn n (k+1)+bdn n (k+1)≤bdn n k+1:=by
    by_cases hk1:k+1<n
    ·rw[bdn_two hk1];omega
    ·rw[bdn_one (by omega:n≤k+1+1)];have:=bdn_pos n k;omega
   refine ih (k+1) (by omega) (X:={X with N:=N5}) en hf S5 V5 (hbL _ hvb vb4) gy (IX true) (by dsimp only;omega) fun h6 L6 N6 b E6 hb hlb hsb hc6 S6 O6 F6=>⟨_,_,rfl,?_⟩
   rw[Bool.not_true,bcase_false,bcase_false]
   dsimp only at E6 hsb hc6 S6
   have hN5:=S5.ok
   have hN6:=S6.ok
   dsimp only at hN5 hN6
   rw[en]at hN5 hN6
   have ha6:=E6.isN ha
   have la6:k<lvl n N6 a:=by rw[E6.lvl ha];omega
   have sm5: ∀x,x<256→sm n X.f N6 a x=fb (fixA (X.f k:Int) false g) x:=fun x hx=>by rw[E6.sm hN5.1 ha,hs x hx]
   refine sto_mk S6 (l:=k) (by dsimp only;omega) ha6 hb (by dsimp only;rw[en];exact la6) (by dsimp only;rw[en];omega) fun h7 L7 N7 r e R S7 O7 F7=>⟨_,_,rfl,?_⟩
   dsimp only at R S7
   have hN7:=S7.ok
   dsimp only at hN7
   rw[en]at hN7
   have OO:Only L h h7:=(((O14.mono (by simp)).trans O5 fun b hb _=>hb).app O6 (fun b hb=>by
    rcases F5 b hb with h|h
    ·exact .inl h
    ·exact .inr (by have:=O14.size;omega))).app O7 fun b hb=>by
     rcases F6 b hb with h|h
     ·rcases F5 b h with h|h
      ·exact .inl h
      ·exact .inr (by have:=O14.size;omega)
     ·exact .inr (by have:=O14.size;have:=O5.size;omega)
   have FF:Fresh L L7 h:=fun b hb=>by
    rcases F7 b hb with h|h
    ·rcases F6 b h with h|h
     ·rcases F5 b h with h|h
      ·exact .inl h
      ·exact .inr (by have:=O14.size;omega)
     ·exact .inr (by have:=O14.size;have:=O5.size;omega)
    ·exact .inr (by have:=O14.size;have:=O5.size;have:=O6.size;omega)
   have he:e=0:=by
    rcases R with⟨-,-,e,-⟩|⟨-,_,-,-,e,-⟩|⟨h1,h2,h3,-⟩|⟨-,-,-,e,-⟩
    ·exact e
    ·exact e
    ·exfalso
     have c1:=cnt_bound hN6.1
     by_cases hk1:k+1<n
     ·rw[bdn_two hk1]at hroom
      omega
     ·rw[bdn_one (by omega:n≤k+1)]at hroom
      rw[bdn_one (by omega:n≤k+1+1)]at hc5 hc6
      omega
    ·exact e
   subst he
   obtain⟨m1,m2,m3,m4⟩:=mk_node (f:=X.f) hN6.1 hN7.1 ha6 hb la6 R
   have hcl:clN (lst n) N7≤clN (lst n) N6+if lst n k then 1 else 0:=by
    rcases R with⟨-,-,-,e⟩|⟨-,_,-,-,-,e⟩|⟨-,-,-,-,e,-⟩|⟨-,-,-,-,q,-,P⟩
    ·rw[e];omega
    ·rw[e];omega
    ·omega
    ·rw[P.cl (lst n)];exact Nat.le_refl _
   refine hK h7 L7 N7 r ((E5.trans E6).trans m1) m2 m3 (fun x hx=> ?_) ?_ S7 OO FF
   ·rw[m4 x,shannon hg hv hx,hsb x hx,sm5 x hx]
   ·by_cases hk1:k+1<n
    ·have:lst n k=true:=by unfold lst;simp;omega
     rw[this]at hcl
     rw[bdn_two hk1]
     simp at hcl
     omega
    ·have:lst n k=false:=by unfold lst;simp;omega
     rw[this]at hcl
     have:bdn n k=1:=bdn_one (by omega)
     have:bdn n (k+1)=1:=bdn_one (by omega)
     simp at hcl
     omega
end
section
def opB(op:Nat)(x y z:Bool):Bool:=if op=2 then x&&y else if op=3 then x||y else if op=4 then x !=y else if x then y else z
structure OpR(n:Nat)(f:Nat→Nat)(N:List (Option Nd))(op a b c r:Nat):Prop where
 is:isN N r
 lv: ∀k,k≤lvl n N a→k≤lvl n N b→k≤lvl n N c→k≤lvl n N r
 sm: ∀x,sm n f N r x=opB op (sm n f N a x) (sm n f N b x) (sm n f N c x)
theorem OpR.ext{n:Nat}{f:Nat→Nat}{N N':List (Option Nd)}{op a b c r:Nat}(R:OpR n f N op a b c r)(H:NOk n N)(E:Ex N N')(ha:isN N a)(hb:isN N b)(hc:isN N c):OpR n f N' op a b c r:=
 ⟨E.isN R.is,fun k h1 h2 h3=>by
  rw[E.lvl ha]at h1
  rw[E.lvl hb]at h2
  rw[E.lvl hc]at h3
  rw[E.lvl R.is]
  exact R.lv k h1 h2 h3,fun x=>by rw[E.sm H R.is,E.sm H ha,E.sm H hb,E.sm H hc,R.sm]⟩
def QL(n:Nat)(f:Nat→Nat)(N:List (Option Nd))(k v:Int):Prop:= ∃op mask a b c r:Nat,k=(wkey op mask a b c:Nat)∧v=(r:Int)∧mask<2^8∧isN N a∧isN N b∧isN N c∧a<2^16∧b<2^16∧c<2^16∧
 ((op<6∧mask=0∧OpR n f N op a b c r)∨((op=6∨op=7)∧QR n f N op mask a r))
theorem QL.ext{n:Nat}{f:Nat→Nat}{N N':List (Option Nd)}{k v:Int}(Q:QL n f N k v)(H:NOk n N)(E:Ex N N'):QL n f N' k v:=by
 obtain⟨op,mask,a,b,c,r,h1,h2,h3,h4,h5,h6,h7,h8,h9,R⟩:=Q
 exact⟨op,mask,a,b,c,r,h1,h2,h3,E.isN h4,E.isN h5,E.isN h6,h7,h8,h9,R.imp (fun⟨x,y,R⟩=>⟨x,y,R.ext H E h4 h5 h6⟩) fun⟨x,R⟩=>⟨x,R.ext H E h4⟩⟩
theorem QL.get{n:Nat}{f:Nat→Nat}{N:List (Option Nd)}{op a b c:Nat}{v:Int}(h6:op<6)(Q:QL n f N (wkey op 0 a b c:Nat) v)(ha:a<2^16)(hb:b<2^16)(hc:c<2^16): ∃r:Nat,v=r∧OpR n f N op a b c r:=by
 obtain⟨op',mask',a',b',c',r,h1,h2,h3,-,-,-,h7,h8,h9,R⟩:=Q
 obtain⟨e1,e0,e2,e3,e4⟩:=wkey_inj (by decide) ha hb hc h3 h7 h8 h9 (Int.ofNat.inj h1)
 subst e1 e0 e2 e3 e4
 rcases R with⟨-,-,R⟩|⟨h,-⟩
 ·exact⟨r,h2,R⟩
 ·omega
theorem QL.getq{n:Nat}{f:Nat→Nat}{N:List (Option Nd)}{op mask a b c:Nat}{v:Int}(h6:op=6∨op=7)(hm:mask<2^8)(Q:QL n f N (wkey op mask a b c:Nat) v)(ha:a<2^16)(hb:b<2^16)(hc:c<2^16): ∃r:Nat,v=r∧QR n f N op mask a r:=by
 obtain⟨op',mask',a',b',c',r,h1,h2,h3,-,-,-,h7,h8,h9,R⟩:=Q
 obtain⟨e1,e0,e2,e3,e4⟩:=wkey_inj hm ha hb hc h3 h7 h8 h9 (Int.ofNat.inj h1)
 subst e1 e0 e2 e3 e4
 rcases R with⟨h,-⟩|⟨-,R⟩
 ·omega
 ·exact⟨r,h2,R⟩
theorem sto_Q{h:Heap}{s:Nat}{L:List Nat}{X:SX}(H:Sto h s L X){Q':Int→Int→Prop}(hQ: ∀k v,X.Q k v→Q' k v):Sto h s L {X with Q:=Q'}:=by
 obtain⟨B,F,e,H⟩:=H
 obtain⟨cs,o,fl,c1,c2⟩:=H.m.cac
 refine⟨B,F,e,⟨⟨H.m.S,H.m.O,H.m.own,H.m.fre,⟨cs,o,fl,c1,fun l hl=> ?_⟩,H.m.n8,H.m.len,H.m.sep⟩,H.t,H.ok,H.cnt,H.fre⟩⟩
 obtain⟨g1,g2,g3,g4⟩:=c2 l hl
 exact⟨g1,g2,g3,fun e=>hQ _ _ (g4 e)⟩
def XL(n room:Nat)(f g:Nat→Nat)(N:List (Option Nd))(off:Bool):SX:=⟨n,room,f,g,N,QL n f N,off⟩
theorem sto_XL{h:Heap}{s n room:Nat}{f g:Nat→Nat}{L:List Nat}{N N':List (Option Nd)}{off:Bool}(H:Sto h s L {XL n room f g N off with N:=N'})(ok:NOk n N)(E:Ex N N'):Sto h s L (XL n room f g N' off):=
 sto_Q H fun _ _ h=>QL.ext h ok E
theorem lvl_end{n:Nat}{N:List (Option Nd)}{a:Nat}(h:a<2):lvl n N a=n:=by unfold lvl;rw[if_pos h]
theorem eq_cast{a b:Nat}:((a:Int)==(b:Int))=decide (a=b):=by
 by_cases h:a=b
 ·subst h;simp
 ·rw[decide_eq_false h]
  simp
  omega
end
end Go.Proofs.YtnofenejoebkhaaGreat.Ev
