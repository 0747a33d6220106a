/- PART 3 OF WHAT THE LAW EngineRegs STANDS ON: NodH5, NodI5, NodJ5, NodK5, StoA5, SemA5, RunP5, RecF5, StoB5, StoC5, LogF5, PlyF5, FunE5, FunG5, FunH5, MakA5, PlyG5, MakB5, LogA5, TskF5, TskA5, LogB5, TskP5, TskB5, TskC5, TskD5, TskE5, TskH5, TskI5, TskJ5, DeqF5, DeqA405, DeqA415, DeqA425, DeqC5. Conditions: none but those that each lemma states. -/
import Derived.Test.YtnofenejoebkhaaGreatG2
namespace Go.Proofs.YtnofenejoebkhaaGreat.Ev
open Go
section
theorem mid_nodup{A P P' C:List Nat}(H:(A++P++C).Nodup)(hp:P'.Nodup)(hx: ∀x∈P',x∉A∧x∉C):(A++P'++C).Nodup:=by
 simp only[List.nodup_append,List.mem_append,ne_eq]at H ⊢
 obtain⟨⟨h1,-,-⟩,h3,h4⟩:=H
 exact⟨⟨h1,hp,fun a ha b hb e=>(hx b hb).1 (e▸ha)⟩,h3,fun a ha b hb e=>ha.elim (fun h=>h4 a (.inl h) b hb e) fun h=>(hx a h).2 (e▸hb)⟩
theorem own_nodup(p:Option Addr):(OwnB p).Nodup:=by cases p<;>simp[OwnB]
theorem SB.grow{B:SB}{s:Nat}{h:Heap}{p':Option Addr}{c':Nat}(H:(B.bm s).Nodup)(hlt: ∀b∈B.bm s,b<h.size)(hp: ∀b∈OwnB p',b∈OwnB B.p∨h.size≤b):
  (SB.bm {B with p:=p',c:=c'} s).Nodup∧ ∀b∈SB.bm {B with p:=p',c:=c'} s,b∈B.bm s∨h.size≤b:=by
 refine⟨mid_nodup H (own_nodup p') fun x hx=> ?_,fun b hb=> ?_⟩
 ·rcases hp x hx with h1|h1
  ·unfold SB.bm at H
   simp only[List.nodup_append,List.mem_append,ne_eq]at H
   obtain⟨⟨_,_,h2⟩,_,h4⟩:=H
   exact⟨fun hA=>h2 x hA x h1 rfl,fun hC=>h4 x (.inr h1) x hC rfl⟩
  ·refine⟨fun hA=> ?_,fun hC=> ?_⟩
   ·have:=hlt x (by simp only[SB.bm,List.mem_append];exact .inl (.inl hA))
    omega
   ·have:=hlt x (by simp only[SB.bm,List.mem_append];exact .inr hC)
    omega
 ·simp only[SB.bm,List.mem_append]at hb ⊢
  rcases hb with(hb|hb)|hb
  ·exact .inl (.inl (.inl hb))
  ·rcases hp b hb with h1|h1
   ·exact .inl (.inl (.inr h1))
   ·exact .inr h1
  ·exact .inl (.inr hb)
theorem keep_ptr(p:Option Addr)(c:Nat):(if c=0 then p else Option.map (fun a=>Addr.add a (0*1)) p)=p:=by
 split
 ·rfl
 ·cases p with
  |none=>rfl
  |some a=>simp[add_zero]
def HRel(N:List (Option Nd))(F:List Nat)(N':List (Option Nd))(F':List Nat)(a:Nat):Prop:=(F=[]∧N'=N++[none]∧F'=[]∧a=N.length+2)∨(F=F'++[a]∧N'=N)
section
variable {h:Heap}{s n room:Nat}{B:SB}{f g:Nat→Nat}{N M:List (Option Nd)}{F:List Nat}{Q:Int→Int→Prop}{off:Bool}{K:Value→Heap→Prop}
set_option maxRecDepth 100000 in
theorem handle77(H:StM h s n room B f g N F Q off)(hroom:F=[]→N.length<room)
  (hK: ∀h' p' c' N' F' a,HRel N F N' F' a→StM h' s n room {B with p:=p',c:=c'} f g N' F' Q off→Only (s::OwnB B.p) h h'→(∀b∈OwnB p',b∈OwnB B.p∨h.size≤b)→K (.int .u32 (a:Int)) h'):
  Cl 201 [.pointer (some ⟨s,0,none⟩)] h K:=by
 have hl:=H.len
 have hsz:s<h.size:=H.S.lt
 have hsep:=H.sep
 have hlt:=H.lt
 have hin:s∉OwnB B.p∧s∉OwnB B.fp∧s∉[B.ob,B.cac,B.cm,B.cmc]:=by
  unfold SB.bm at hsep
  simp only[List.cons_append,List.nodup_cons,List.mem_cons,List.mem_append,not_or,List.nil_append]at hsep
  simp only[List.mem_cons,List.not_mem_nil,or_false,not_or]
  exact⟨hsep.1.2.2.2.2.1,hsep.1.2.2.2.2.2,hsep.1.1,hsep.1.2.1,hsep.1.2.2.1,hsep.1.2.2.2.1⟩
 refine F201.spec _ h K ?_
 simp only[add_mk,Nat.zero_add]
 have rf:rd h ⟨s,3,none⟩=some (.slice B.fp F.length B.fc):=by rw[At.rd H.S];rfl
 refine ldS_of rf ?_
 rcases List.eq_nil_or_concat F with e|⟨F',a,e⟩
 ·subst e
  rw[decide_eq_false (by simp),bcase_false]
  have hr:=hroom rfl
  refine ldS_of (by rw[At.rd H.S];rfl) ?_
  refine newK_at fun h1 A1 O1 z1=> ?_
  have As:=H.S.only O1 (by simp)
  have Ws:=H.own.only O1 (by simp)
  refine own_app (new:=ncell none) Ws A1 rfl rfl (by omega) (by simp[ncell,Value.oneCell']) (by omega) fun p' c' h2 W2 O2 hb2=> ?_
  have As2:=As.only O2 hin.1
  have hs':s∉OwnB p':=fun hm=>by
   rcases hb2 s hm with h|h
   ·exact hin.1 h
   ·omega
  refine stK_at As2 (by simp[scell]) rfl fun h3 A3 O3 _=> ?_
  replace A3:At h3 s (scell room {B with p:=p',c:=c'} (N.length+1) 0 off):=A3
  refine ldS_of (by rw[At.rd A3];rfl) ?_
  rw[show IntKind.wrap .u32 (IntKind.wrap .i64 (IntKind.wrap .i64 (((N.length+1:Nat):Int)-1)+2))=((N.length+2:Nat):Int) by
   have w1:IntKind.wrap .i64 (((N.length+1:Nat):Int)-1)=((N.length+1:Nat):Int)-1:=wrap_i64 (by omega) (by omega)
   rw[w1,wrap_i64 (by omega) (by omega),show((N.length+1:Nat):Int)-1+2=((N.length+2:Nat):Int) by omega]
   exact wrap32 (by omega)]
  have OO:Only (s::OwnB B.p) h h3:=(((Only.refl (s::OwnB B.p) h).trans O1 (by simp)).trans O2 (by intro b hb _;simp[hb])).trans O3 (by intro b hb _;simp at hb;simp[hb])
  have hb3: ∀b∈OwnB p',b∈OwnB B.p∨h.size≤b:=fun b hb=>by
   rcases hb2 b hb with h|h
   ·exact .inl h
   ·exact .inr (by omega)
  obtain⟨g1,g2⟩:=SB.grow (c':=c') hsep hlt hb3
  have dis: ∀b,b∈[B.ob,B.cac,B.cm,B.cmc]++OwnB B.fp→b∉s::OwnB B.p:=fun b hb hm=>by
   unfold SB.bm at hsep
   simp only[List.nodup_append,List.mem_append,ne_eq]at hsep
   obtain⟨⟨h1,_,h2⟩,_,h4⟩:=hsep
   rcases List.mem_append.1 hb with hb|hb
   ·rcases List.mem_cons.1 hm with e|hm
    ·exact hin.2.2 (e▸hb)
    ·exact h2 b (by simp only[List.mem_cons]at hb ⊢;exact .inr hb) b hm rfl
   ·rcases List.mem_cons.1 hm with e|hm
    ·exact hin.2.1 (e▸hb)
    ·exact h4 b (.inr hm) b hb rfl
  refine hK h3 p' c' (N++[none]) [] _ (.inl ⟨rfl,rfl,rfl,rfl⟩) ⟨by rw[List.length_append];exact A3,H.O.only OO (dis _ (by simp)),?_,H.fre.only OO fun b hb=>dis _ (by simp[hb]),H.cac.only OO (dis _ (by simp)) (dis _ (by simp)) (dis _ (by simp)),H.n8,by rw[List.length_append];exact⟨hr,hl.2.1,by simp⟩,g1⟩ OO hb3
  rw[nrow_app,List.length_append]
  exact W2.only O3 fun b hb hm=>hs' (by simp at hm;subst hm;rw[hb];simp[OwnB])
 ·rw[List.concat_eq_append]at e
  subst e
  rw[List.length_append]at rf
  rw[List.length_append,decide_eq_true (by simp),bcase_true]
  refine ldS_of rf ?_
  have fr:=H.fre
  have hfl:(frow (F'++[a])).length=F'.length+1:=by simp[frow]
  obtain⟨ad,e1,e2⟩:=fr.rd (j:=F'.length) (by omega)
  rw[e1,ptrK_some]
  have w1:IntKind.wrap .i64 (((F'.length+[a].length:Nat):Int)-1)=(F'.length:Int):=by
   have hcap:=fr.cap
   have hF:F'.length<9223372036854775807:=by
    have:=hl.2.2
    rw[List.length_append]at this
    omega
   rw[wrap_i64 (by rw[List.length_singleton];omega) (by rw[List.length_singleton];omega)]
   simp
  rw[w1]
  refine⟨by omega,by rw[List.length_singleton];omega,?_⟩
  rw[Nat.mul_one,Int.toNat_natCast,e2]
  refine ldI_of (by simp[frow];rfl) ?_
  refine ldS_of rf ⟨by omega,?_,?_⟩
  ·have:=fr.cap
   simp at this
   omega
  ·rw[e1,keep_ptr,Nat.sub_zero,Nat.sub_zero]
   refine stK_at H.S (by simp[scell]) rfl fun h3 A3 O3 _=> ?_
   have dis: ∀b,b∈[B.ob,B.cac,B.cm,B.cmc]++OwnB B.p++OwnB B.fp→b∉[s]:=fun b hb hm=>by
    simp only[List.mem_singleton]at hm
    subst hm
    rcases List.mem_append.1 hb with hb|hb
    ·rcases List.mem_append.1 hb with hb|hb
     ·exact hin.2.2 hb
     ·exact hin.1 hb
    ·exact hin.2.1 hb
   refine hK h3 B.p B.c N F' a (.inr ⟨rfl,rfl⟩) ⟨?_,H.O.only O3 (dis _ (by simp)),H.own.only O3 fun b hb=>dis _ (by simp[hb,OwnB]),?_,H.cac.only O3 (dis _ (by simp)) (dis _ (by simp)) (dis _ (by simp)),H.n8,⟨hl.1,hl.2.1,by have:=hl.2.2;rw[List.length_append]at this;omega⟩,hsep⟩ (O3.mono (by simp)) fun b hb=> .inl hb
   ·rw[←e1]at A3
    exact A3
   ·have pp:=fr
    rw[show frow (F'++[a])=frow F'++[.int .u32 (a:Int)] by simp[frow],List.length_append]at pp
    have pq:=pp.pop
    rw[keep_ptr]at pq
    exact pq.only O3 fun b hb=>dis _ (by simp[hb])
end
end
section
theorem info116:(Tryz.prog.info? 218).map (·.size)=some 0:=by kernel_rfl
theorem store116{a:Addr}{h:Heap}{K:Heap→Prop}(hK:K h):storeE Tryz.prog 218 (some a) (.agg #[]) h K:=by
 unfold storeE
 have e:=info116
 cases hi:Tryz.prog.info? 218 with
 |none=>rw[hi]at e;cases e
 |some ti=>
  rw[hi]at e
  have e:ti.size=0:=by simpa using e
  have e2:Nat.beq (Value.agg #[]).cells.size ti.size=true:=by rw[e];rfl
  dsimp only
  rw[e2]
  exact hK
theorem newK_map4{h:Heap}{k:IntKind}{K:Nat→Heap→Prop}(hK: ∀h',MapM h' h.size k []→Only [] h h'→h'.size=h.size+1→K h.size h'):newK h (.map #[] 0) K:=
 hK _ (MapM.empty (by unfold mp;simp)) (Only.push_map h _ _) (by simp)
theorem Ints.only'{S:List Nat}{h h':Heap}{k:IntKind}{p:Option Addr}{zs:List Int}(H:Ints h k p zs)(O:Only S h h')(hS: ∀a,p=some a→a.block∉S):Ints h' k p zs:=by
 intro i hi
 obtain⟨a,e,hr⟩:=H i hi
 refine⟨a,e,?_⟩
 rw[←hr]
 have hab:(a.add i).block=a.block:=by
  unfold Addr.add
  split<;>rfl
 have hb:(a.add i).block<h.size:=by
  apply Classical.byContradiction
  intro hn
  have:h[(a.add i).block]? =none:=Array.getElem?_eq_none (by omega)
  simp[rd,this]at hr
 unfold rd
 rw[O.same _ hb (by rw[hab];exact hS a e)]
def era(bl:List Nat)(N:List (Option Nd)):List (Option Nd):=N.mapIdx fun i o=>if i+2∈bl then none else o
theorem era_get{bl:List Nat}{N:List (Option Nd)}{i:Nat}{o:Option Nd}(h:N[i]? =some o):(era bl N)[i]? =some (if i+2∈bl then none else o):=by
 unfold era
 rw[List.getElem?_mapIdx,h]
 rfl
theorem era_len{bl:List Nat}{N:List (Option Nd)}:(era bl N).length=N.length:=by simp[era]
theorem era_nil(N:List (Option Nd)):era [] N=N:=by
 apply List.ext_getElem?
 intro i
 unfold era
 rw[List.getElem?_mapIdx]
 cases N[i]? <;>simp
theorem take_succ'{E:List (Option Nd)}{i:Nat}{x:Option Nd}(h:E[i]? =some x):E.take (i+1)=E.take i++[x]:=by
 rw[List.take_add_one,h]
 rfl
theorem nd_take{E:List (Option Nd)}{i k:Nat}{x:Nd}(h:nd (E.take i) k=some x):nd E k=some x∧k<i:=by
 have hl:=nd_lt h
 rw[List.length_take]at hl
 have:=nd_some.1 h
 rw[List.getElem?_take_of_lt (by omega)]at this
 exact⟨nd_some.2 this,by omega⟩
def SB.tabs(B:SB)(tb m mc sb:Nat):SB:={B with tb:=tb,m:=m,mc:=mc,sb:=sb}
def OutM(mo:List (Int×Value))(bl:List Nat):Prop:= ∀k:Nat,(k∈bl→mo.lookup (k:Int)=some (.agg #[]))∧(k∉bl→mo.lookup (k:Int)=none)
structure StR(h:Heap)(s n room:Nat)(B:SB)(f g:Nat→Nat)(N:List (Option Nd))(F:List Nat)(Q:Int→Int→Prop):Prop where
 O:OrdIs h B.ob n f g
 own:Own h 0 4 B.p N.length B.c (nrow N)
 fre:Win h 0 B.fp F.length B.fc (frow F)
 cac:CacOk h B Q
 n8:1≤n∧n≤8
 len:N.length≤room∧room≤32768∧F.length≤N.length
 sep:(B.bm s).Nodup
theorem StM.r{h:Heap}{s n room:Nat}{B:SB}{f g:Nat→Nat}{N:List (Option Nd)}{F:List Nat}{Q:Int→Int→Prop}{off:Bool}(H:StM h s n room B f g N F Q off):StR h s n room B f g N F Q:=⟨H.O,H.own,H.fre,H.cac,H.n8,H.len,H.sep⟩
def gcell(room:Nat)(B:SB)(l fl:Nat)(off:Bool)(v4 v5:Value):List Value:=[.int .i64 (room:Int),.pointer (some ⟨B.ob,0,none⟩),.slice B.p l B.c,.slice B.fp fl B.fc,v4,v5,.pointer (some ⟨B.cac,0,none⟩),.bool off]
theorem StR.lt{h:Heap}{s n room:Nat}{B:SB}{f g:Nat→Nat}{N:List (Option Nd)}{F:List Nat}{Q:Int→Int→Prop}(H:StR h s n room B f g N F Q)(hs:s<h.size): ∀b∈B.bm s,b<h.size:=fun b hb=>by
 obtain⟨cs,o,f,c1,-⟩:=H.cac
 have:=c1.lt
 have:=At.lt H.O
 simp only[SB.bm,List.mem_append,List.mem_cons,List.not_mem_nil,or_false]at hb
 rcases hb with(hb|hb)|hb
 ·omega
 ·exact(H.own.lt b hb).2
 ·exact(H.fre.lt b hb).2
set_option maxRecDepth 100000 in
theorem grows33{h:Heap}{s n room:Nat}{B:SB}{f g:Nat→Nat}{N:List (Option Nd)}{F:List Nat}{Q:Int→Int→Prop}{off:Bool}{K:Value→Heap→Prop}{T bc:Nat}{bp:Option Addr}{bl:List Nat}{v4 v5:Value}(HS:At h s (gcell room B N.length F.length off v4 v5))(H:StR h s n room B f g N F Q)
  (hbl:Ints h .u32 bp (bl.map fun(k:Nat)=>(k:Int))) (hbs: ∀a,bp=some a→a.block≠s) (hbb:bl.length≤32768)
  (hok: ∀i x,nd (era bl N) i=some x→NdOk x) (honce: ∀i j x,nd (era bl N) i=some x→nd (era bl N) j=some x→i=j) (hT1: ∃k,T=32*2^k) (hT:2*cntN (era bl N)≤T) (hT2:T≤262144)
  (hK: ∀tb m mc sb h',StM h' s n room (B.tabs tb m mc sb) f g N F Q off→TabM h' s (B.tabs tb m mc sb) (era bl N)→(∃cs mm ops fails,TabIs h' tb m 0 T∧MemIs h' m mc cs ops fails∧MapM h' sb .i64 mm∧Laid T cs mm (era bl N))→h.size≤tb→h.size≤m→h.size≤mc→h.size≤sb→Only [s] h h'→K (.tuple #[]) h'):
  Cl 111 [.pointer (some ⟨s,0,none⟩),.int .i64 (T:Int),.slice bp bl.length bc] h K:=by
 have hT0:1≤T:=by
  obtain⟨k,e⟩:=hT1
  have:=Nat.two_pow_pos k
  omega
 have hsep:=H.sep
 have hlen:=H.len
 have hin:s∉OwnB B.p∧s∉OwnB B.fp∧s∉[B.ob,B.cac,B.cm,B.cmc]:=by
  unfold SB.bm at hsep
  simp only[List.cons_append,List.nodup_cons,List.mem_cons,List.mem_append,not_or,List.nil_append]at hsep
  simp only[List.mem_cons,List.not_mem_nil,or_false,not_or]
  exact⟨hsep.1.2.2.2.2.1,hsep.1.2.2.2.2.2,hsep.1.1,hsep.1.2.1,hsep.1.2.2.1,hsep.1.2.2.2.1⟩
 have dis: ∀b,b∈[B.ob,B.cac,B.cm,B.cmc]++OwnB B.p++OwnB B.fp→b∉[s]:=fun b hb hm=>by
  simp only[List.mem_singleton]at hm
  subst hm
  rcases List.mem_append.1 hb with hb|hb
  ·rcases List.mem_append.1 hb with hb|hb
   ·exact hin.2.2 hb
   ·exact hin.1 hb
  ·exact hin.2.1 hb
 have W:=H.own
 have hs:=hin.1
 refine F111.spec _ _ _ _ _ h K ?_
 simp only[add_mk,Nat.zero_add]
 have hsz:=HS.lt
 refine new_spec fun m mc h1 M1 O1 g1 g2=>ldP_of rfl ?_
 rw[cellsFor_of hT2]at M1
 have lm:m<h1.size:=M1.head.lt
 have lmc:mc<h1.size:=M1.body.lt
 have hmn:=M1.ne
 refine tabnew_spec (base:=0) M1 hT0 (by simp) (by simp;omega) fun tb h2' T2 O2 g3=>⟨_,_,rfl,?_⟩
 have lt:tb<h2'.size:=At.lt T2
 have A2:=(HS.only O1 (by simp)).only O2 (by simp)
 have M2:=M1.only O2 (by simp) (by simp)
 refine stK_at A2 (by simp[gcell]) rfl fun h3 A3 O3 z3=> ?_
 have T3:=T2.only O3 (by simp;omega)
 have M3:=M2.only O3 (by simp;omega) (by simp;omega)
 refine newK_map4 (k:= .i64) fun h4 Mp4 O4 z4=> ?_
 have A4:=A3.only O4 (by simp)
 refine stK_at A4 (by simp[gcell]) rfl fun h5 A5 O5 z5=> ?_
 have Mp5:=Mp4.only O5 (by simp;omega)
 refine newK_map4 (k:= .u32) fun h6 Mq6 O6 z6=> ?_
 have O16:Only [s] h h6:=((((((Only.refl [s] h).trans O1 (by simp)).trans O2 (by simp)).trans O3 (by intro b hb _;exact hb)).trans O4 (by simp)).trans O5 (by intro b hb _;exact hb)).trans O6 (by simp)
 replace A5:At h5 s (scell room (B.tabs tb m mc h3.size) N.length F.length off):=A5
 have A6:=A5.only O6 (by simp)
 have hp: ∀b,B.p=some ⟨b,0,none⟩→b<h.size:=fun b e=>(W.lt b (by rw[e];simp[OwnB])).2
 have hps: ∀b,B.p=some ⟨b,0,none⟩→b≠s:=fun b e e2=>hs (by rw[e,e2];simp[OwnB])
 have main: ∀(d i:Nat) (h':Heap) (cs:List Int) (mm mo:List (Int×Value)) (ops fails:Int),i+d=N.length→At h' s (scell room (B.tabs tb m mc h3.size) N.length F.length off)→TabIs h' tb m 0 T→MemIs h' m mc cs ops fails→MapM h' h3.size .i64 mm→Laid T cs mm ((era bl N).take i)→
   MapM h' h5.size .u32 mo→OutM mo bl→Only [s] h h'→F111.wL9 (d+1) ⟨s,0,none⟩ (some h5.size) B.p N.length B.c (N.length:Int) (i:Int) h' K:=by
  intro d
  induction d with
  |zero=>
   intro i h' cs mm mo ops fails hd A T' M Mp L Mq Om O
   rw[F111.sL9]
   rw[decide_eq_false (by omega),bcase_false]
   rw[List.take_of_length_le (by rw[era_len];omega)]at L
   refine hK tb m mc h3.size h' ⟨A,H.O.only O (dis _ (by simp)),H.own.only O fun b hb=>dis _ (by simp[hb,OwnB]),H.fre.only O fun b hb=>dis _ (by simp[hb]),H.cac.only O (dis _ (by simp)) (dis _ (by simp)) (dis _ (by simp)),H.n8,H.len,H.sep⟩
    ⟨⟨T,cs,mm,ops,fails,T',M,Mp,L,hT1,hT,hT2⟩,?_,?_⟩ ⟨cs,mm,ops,fails,T',M,Mp,L⟩ (by omega) g1 g2 (by omega) O
   ·simp[SB.bt,SB.tabs]
    omega
   ·intro b hb hm
    have:=H.lt HS.lt b hm
    simp[SB.bt,SB.tabs]at hb
    omega
  |succ d ih=>
   intro i h' cs mm mo ops fails hd A T' M Mp L Mq Om O
   have hi:i<N.length:=by omega
   obtain⟨o,ho⟩: ∃o,N[i]? =some o:=⟨_,List.getElem?_eq_getElem hi⟩
   have he:=era_get (bl:=bl) ho
   have W':Own h' 0 4 B.p N.length B.c (nrow N):=W.only O fun b hb=>dis _ (by simp[hb,OwnB])
   obtain⟨b,eb,rr⟩: ∃b,B.p=some ⟨b,0,none⟩∧ ∀k,k<4→rd h' ⟨b,i*4+k,none⟩=(ncell o)[k]? :=by
    obtain⟨b,eb,r0⟩:=W'.rd (j:=i*4+0) (by rw[nrow_len];omega)
    refine⟨b,eb,fun k hk=> ?_⟩
    obtain⟨b',e1',e2'⟩:=W'.rd (j:=i*4+k) (by rw[nrow_len];omega)
    rw[eb]at e1'
    injection e1' with e1'
    injection e1' with e1'
    subst e1'
    rw[e2',nrow_get N i o k ho hk]
   have hb:=hp b eb
   have hbs:=hps b eb
   have hw:IntKind.wrap .u32 (IntKind.wrap .i64 ((i:Int)+2))=((i+2:Nat):Int):=by
    rw[wrap_i64 (by omega) (by omega),show(i:Int)+2=((i+2:Nat):Int) by omega]
    exact wrap32 (by omega)
   have nx: ∀(k7:Heap) (cs':List Int) (mm':List (Int×Value)) (ops' fails':Int),At k7 s (scell room (B.tabs tb m mc h3.size) N.length F.length off)→TabIs k7 tb m 0 T→MemIs k7 m mc cs' ops' fails'→MapM k7 h3.size .i64 mm'→Laid T cs' mm' ((era bl N).take (i+1))→MapM k7 h5.size .u32 mo→Only [s] h k7→
     F111.wL9 (d+1) ⟨s,0,none⟩ (some h5.size) B.p N.length B.c (N.length:Int) (IntKind.wrap .i64 ((i:Int)+1)) k7 K:=fun k7 cs' mm' ops' fails' A8 T8 M8 Mp8 L8 Mq8 O8=>by
    rw[show IntKind.wrap .i64 ((i:Int)+1)=((i+1:Nat):Int) by rw[wrap_i64 (by omega) (by omega)];omega]
    exact ih (i+1) k7 cs' mm' mo ops' fails' (by omega) A8 T8 M8 Mp8 L8 Mq8 Om O8
   have skip:(if i+2∈bl then none else o)=none→ ∀k6,Only [] h' k6→F111.wL9 (d+1) ⟨s,0,none⟩ (some h5.size) B.p N.length B.c (N.length:Int) (IntKind.wrap .i64 ((i:Int)+1)) k6 K:=fun e k6 P16=>by
    rw[e]at he
    refine nx k6 cs mm ops fails (A.only P16 (by simp)) (T'.only P16 (by simp)) (M.only P16 (by simp) (by simp)) (Mp.only P16 (by simp)) ?_ (Mq.only P16 (by simp)) (O.trans P16 (by simp))
    refine L.congr (fun k=> ?_) (by rw[take_succ' he,cnt_app];rfl)
    rw[take_succ' he,nd_app]
    split
    ·next hh=>rw[nd_out (by omega)]
    ·rfl
   rw[F111.sL9]
   rw[decide_eq_true (by omega),bcase_true,eb,ptrK_some]
   refine⟨by omega,by omega,?_⟩
   rw[←eb]
   simp only[add_mk,Nat.zero_add]
   rw[show Int.toNat (i:Int)*4=i*4 by omega,hw]
   obtain⟨tv,lv,av,bv,ec⟩: ∃tv lv av bv,ncell o=[.bool tv,.int .i64 lv,.int .u32 av,.int .u32 bv]:=by
    cases o with
    |none=>exact⟨_,_,_,_,rfl⟩
    |some x=>exact⟨_,_,_,_,rfl⟩
   rw[ec]at rr
   refine ldB_of (by rw[rr 0 (by omega)];rfl) (ldI_of (by rw[rr 1 (by omega)];rfl) (ldI_of (by rw[rr 2 (by omega)];rfl) (ldI_of (by rw[rr 3 (by omega)];rfl) ?_)))
   refine newK_at fun k1 B1 P1 y1=> ?_
   refine stK_at B1 (by simp) rfl fun k2 B2 P2 y2=>stK_at B2 (by simp) rfl fun k3 B3 P3 y3=>stK_at B3 (by simp) rfl fun k4 B4 P4 y4=>stK_at B4 (by simp) rfl fun k5 B5 P5 y5=> ?_
   replace B5:At k5 h'.size [.bool tv,.int .i64 lv,.int .u32 av,.int .u32 bv]:=B5
   have P15:Only [] h' k5:=(((P1.trans P2 (by intro b hb hl;simp at hb;omega)).trans P3 (by intro b hb hl;simp at hb;omega)).trans P4 (by intro b hb hl;simp at hb;omega)).trans P5 (by intro b hb hl;simp at hb;omega)
   have tail: ∀(o12:Option (Nat×Value)),(o12.isSome=decide (i+2∈bl))→(lkV (.agg #[]) o12= .agg #[])→ldV (some (lkV (.agg #[]) o12)) (fun v13=>newK k5 (.cells #[] 218) (fun b14 h15=>storeE Tryz.prog 218 (some (Addr.mk b14 0 none)) v13 h15 (fun h16=>ldB (rd h16 ⟨h'.size,0,none⟩) (fun b17=>bcase b17 (bcase (!(Option.isSome o12)) (ldB (rd h16 ⟨h'.size,0,none⟩) (fun b18=>ldI .i64 (rd h16 ⟨h'.size,1,none⟩) (fun n19=>ldI .u32 (rd h16 ⟨h'.size,2,none⟩) (fun n20=>ldI .u32 (rd h16 ⟨h'.size,3,none⟩) (fun n21=>Cl 160 [(.pointer (some ⟨s,0,none⟩)),(.int .u32 ((i+2:Nat):Int)),(.agg #[(.bool b18),(.int .i64 n19),(.int .u32 n20),(.int .u32 n21)])] h16 (fun v22 h23=>(v22=(.tuple #[])∧F111.wL9 (d+1) ⟨s,0,none⟩ (some h5.size) B.p N.length B.c (N.length:Int) (IntKind.wrap .i64 ((i:Int)+1)) h23 K))))))) (F111.wL9 (d+1) ⟨s,0,none⟩ (some h5.size) B.p N.length B.c (N.length:Int) (IntKind.wrap .i64 ((i:Int)+1)) h16 K)) (F111.wL9 (d+1) ⟨s,0,none⟩ (some h5.size) B.p N.length B.c (N.length:Int) (IntKind.wrap .i64 ((i:Int)+1)) h16 K))))):=by
    intro o12 e1 e2
    rw[e2]
    refine⟨_,rfl,?_⟩
    refine newK_at fun k6 B6 P6 y6=> ?_
    refine store116 ?_
    have C6:=B5.only P6 (by simp)
    have P16:Only [] h' k6:=P15.trans P6 (by simp)
    have rc: ∀k,rd k6 ⟨h'.size,k,none⟩=([.bool tv,.int .i64 lv,.int .u32 av,.int .u32 bv]:List Value)[k]? :=fun k=>At.rd C6 k
    refine ldB_of (by rw[rc 0];rfl) ?_
    rw[e1]
    cases o with
    |none=>
     simp only[ncell,List.cons.injEq,Value.bool.injEq]at ec
     rw[←ec.1,bcase_false]
     exact skip (by split<;>rfl) k6 P16
    |some x=>
     simp only[ncell,List.cons.injEq,Value.bool.injEq,Value.int.injEq,true_and,and_true]at ec
     obtain⟨c1,c2,c3,c4⟩:=ec
     rw[←c1,bcase_true]
     by_cases hm:i+2∈bl
     ·rw[decide_eq_true hm,Bool.not_true,bcase_false]
      exact skip (if_pos hm) k6 P16
     ·rw[decide_eq_false hm,Bool.not_false,bcase_true]
      refine ldB_of (by rw[rc 0];rfl) (ldI_of (by rw[rc 1];rfl) (ldI_of (by rw[rc 2];rfl) (ldI_of (by rw[rc 3];rfl) ?_)))
      rw[←c1,←c2,←c3,←c4]
      rw[if_neg hm]at he
      have hE:nd (era bl N) i=some x:=nd_some.2 he
      have hnew:NoKey ((era bl N).take i) (kf x):=fun k y hy e=>by
       obtain⟨q1,q2⟩:=nd_take hy
       have:=kf_inj (hok k y q1) (hok i x hE) e
       subst this
       have:=honce _ _ _ q1 hE
       omega
      have A7:=A.only P16 (by simp)
      have hc1:cntN ((era bl N).take (i+1))=cntN ((era bl N).take i)+1:=by rw[take_succ' he,cnt_app];rfl
      have hc2:cntN ((era bl N).take (i+1))≤cntN (era bl N):=(List.take_sublist _ _).countP_le
      refine lays54 A7 (t:=tb) (m:=m) (mc:=mc) (sb:=h3.size) (T:=T) (N':=(era bl N).take (i+1)) rfl rfl (by simp;omega)
       (T'.only P16 (by simp)) (M.only P16 (by simp) (by simp)) (Mp.only P16 (by simp)) (by omega) (by simp;omega) (by omega) (by omega) (by have:=(At.lt (T'.only P16 (by simp)));omega) (by have:=((M.only P16 (by simp) (by simp)).head).lt;omega) (by have:=((M.only P16 (by simp) (by simp)).body).lt;omega)
       L (hok i x hE) hnew (by omega) (nd_out (by rw[List.length_take];omega)) (fun k=> ?_) hc1 fun k7 cs' mm' ops' fails' A8 T8 M8 Mp8 L8 O8=>⟨rfl,?_⟩
      ·rw[take_succ' he,nd_app,List.length_take,era_len,Nat.min_eq_left (by omega)]
      ·have lq:h5.size<k6.size:=(Mq.only P16 (by simp)).lt
       exact nx k7 cs' mm' ops' fails' A8 T8 M8 Mp8 L8 ((Mq.only P16 (by simp)).only O8 (by simp;omega)) ((O.trans P16 (by simp)).trans O8 (by intro b hb hl;simp at hb ⊢;omega))
   refine look_map (m:=mo) (Mq.only P15 (by simp)) (fun hn=> ?_) fun j v hv=> ?_
   ·have:i+2∉bl:=fun hm=>by
     rw[(Om (i+2)).1 hm]at hn
     cases hn
    exact tail none (by rw[decide_eq_false this];rfl) rfl
   ·have:i+2∈bl:=Classical.byContradiction fun hm=>by
     rw[(Om (i+2)).2 hm]at hv
     cases hv
    rw[(Om (i+2)).1 this]at hv
    injection hv with hv
    subst hv
    exact tail (some (j,.agg #[])) (by rw[decide_eq_true this];rfl) rfl
 have second: ∀(h':Heap) (mo:List (Int×Value)),At h' s (scell room (B.tabs tb m mc h3.size) N.length F.length off)→TabIs h' tb m 0 T→MemIs h' m mc (List.replicate T 0) 0 0→MapM h' h3.size .i64 []→
   MapM h' h5.size .u32 mo→OutM mo bl→Only [s] h h'→F111.wk8 ⟨s,0,none⟩ (some h5.size) h' K:=by
  intro h' mo A T' M Mp Mq Om O
  unfold F111.wk8
  simp only[add_mk,Nat.zero_add]
  refine ldS_of (by rw[At.rd A];rfl) ?_
  unfold F111.wk9
  refine⟨_,main N.length 0 h' (List.replicate T 0) [] mo 0 0 (by omega) A T' M Mp ?_ Mq Om O⟩
  have cz: ∀j,cell 0 (List.replicate T (0:Int)) j=0:=fun j=>by
   unfold cell
   rw[List.getD_eq_getElem?_getD,List.getElem?_replicate]
   split<;>rfl
  refine⟨by simp,TInv.empty fun i _=>cz i,fun j _=> .inl (cz j),by simp[nd],?_,by simp[nd]⟩
  rw[cnt_zero T fun i _=>cz i]
  rfl
 unfold F111.wk4
 have first: ∀(d i:Nat) (h':Heap) (mo:List (Int×Value)),i+d=bl.length→At h' s (scell room (B.tabs tb m mc h3.size) N.length F.length off)→TabIs h' tb m 0 T→MemIs h' m mc (List.replicate T 0) 0 0→MapM h' h3.size .i64 []→
   MapM h' h5.size .u32 mo→OutM mo (bl.take i)→Only [s] h h'→F111.wL4 (d+1) ⟨s,0,none⟩ (some h5.size) bp bl.length bc (bl.length:Int) (i:Int) h' K:=by
  intro d
  induction d with
  |zero=>
   intro i h' mo hd A T' M Mp Mq Om O
   rw[F111.sL4]
   rw[decide_eq_false (by omega),bcase_false]
   rw[List.take_of_length_le (by omega)]at Om
   exact second h' mo A T' M Mp Mq Om O
  |succ d ih=>
   intro i h' mo hd A T' M Mp Mq Om O
   have hi:i<bl.length:=by omega
   obtain⟨a,ea,er⟩:=(hbl.only' O fun a e hm=>hbs a e (by simpa using hm)) i (by simpa using hi)
   have e3:(bl.map fun(k:Nat)=>(k:Int)).getD i 0=(bl[i]:Int):=by simp[List.getD,hi]
   rw[e3]at er
   rw[F111.sL4]
   rw[decide_eq_true (by omega),bcase_true,ea,ptrK_some]
   refine⟨by omega,by omega,?_⟩
   rw[←ea,Nat.mul_one,Int.toNat_natCast,er]
   refine ldI_of rfl ?_
   refine upd_map Mq fun k3 Mq3 P3 y3=> ?_
   rw[show IntKind.wrap .i64 ((i:Int)+1)=((i+1:Nat):Int) by
    rw[wrap_i64 (by omega) (by omega)];omega]
   have lq:=Mq.lt
   refine ih (i+1) k3 _ (by omega) (A.only P3 (by simp;omega)) (T'.only P3 (by simp;omega)) (M.only P3 (by simp;omega) (by simp;omega)) (Mp.only P3 (by simp;omega)) Mq3 (fun k=> ?_) (O.trans P3 (by intro b hb hl;simp at hb;omega))
   rw[lookup_mset,List.take_add_one,List.getElem?_eq_getElem hi]
   simp only[Option.toList_some,List.mem_append,List.mem_singleton]
   refine⟨fun hk=> ?_,fun hk=> ?_⟩
   ·by_cases e:k=bl[i]
    ·rw[if_pos (by omega)]
    ·rw[if_neg (by omega)]
     exact(Om k).1 (hk.resolve_right e)
   ·rw[if_neg (fun e=>hk (.inr (by omega)))]
    exact(Om k).2 fun hm=>hk (.inl hm)
 have Z6:OutM [] (bl.take 0):=fun k=>⟨fun hm=>by simp at hm,fun _=>rfl⟩
 exact⟨_,first bl.length 0 h6 [] (by omega) A6 ((T3.only O4 (by simp)).only O5 (by simp;omega)|>.only O6 (by simp)) (((M3.only O4 (by simp) (by simp)).only O5 (by simp;omega) (by simp;omega)).only O6 (by simp) (by simp)) (Mp5.only O6 (by simp)) Mq6 Z6 O16⟩
end
section
structure StIs(h:Heap)(s n room:Nat)(B:SB)(f g:Nat→Nat)(N:List (Option Nd))(F:List Nat)(Q:Int→Int→Prop)(off:Bool):Prop where
 m:StM h s n room B f g N F Q off
 t:TabM h s B N
 ok:NOk n N
 cnt:N.length=cntN N+F.length
 fre:F.Nodup∧ ∀a∈F,2≤a∧a-2<N.length∧nd N (a-2)=none
theorem NOk.ndok{n:Nat}{N:List (Option Nd)}(H:NOk n N)(hn:n≤8)(hl:N.length≤32768){i:Nat}{x:Nd}(hx:nd N i=some x):NdOk x:=by
 obtain⟨a,b,c,d,-⟩:=H.node i x hx
 have lt: ∀{y},isN N y→y<2^28:=fun {y} h=>by
  rcases h with h|⟨z,h⟩
  ·omega
  ·have:=nd_lt h
   omega
 exact⟨by omega,lt b,lt c,d⟩
structure Plus(N N':List (Option Nd))(q:Nat)(x:Nd):Prop where
 was:nd N q=none
 get: ∀k,nd N' k=if k=q then some x else nd N k
 cnt:cntN N'=cntN N+1
 len:N.length≤N'.length∧N'.length≤N.length+1
theorem Plus.isN{N N':List (Option Nd)}{q:Nat}{x:Nd}(P:Plus N N' q x){a:Nat}(h:isN N a):isN N' a:=by
 rcases h with h|⟨y,h⟩
 ·exact .inl h
 ·refine .inr ?_
  rw[P.get]
  split
  ·exact⟨_,rfl⟩
  ·exact⟨y,h⟩
theorem Plus.old{N N':List (Option Nd)}{q:Nat}{x:Nd}(P:Plus N N' q x){i:Nat}{y:Nd}(h:nd N i=some y):nd N' i=some y:=by
 rw[P.get,if_neg]
 ·exact h
 ·intro e
  subst e
  rw[P.was]at h
  cases h
theorem Plus.lvl{N N':List (Option Nd)}{q n:Nat}{x:Nd}(P:Plus N N' q x){a:Nat}(h:Ev.isN N a):lvl n N' a=lvl n N a:=by
 unfold Ev.lvl
 rcases h with h|⟨y,h⟩
 ·rw[if_pos h,if_pos h]
 ·rw[P.old h,h]
theorem Plus.ok{n:Nat}{N N':List (Option Nd)}{q:Nat}{x:Nd}(P:Plus N N' q x)(H:NOk n N)(h1:x.1<n)(h2:Ev.isN N x.2.1)(h3:Ev.isN N x.2.2)(h4:x.2.1≠x.2.2)(h5:x.1<Ev.lvl n N x.2.1)(h6:x.1<Ev.lvl n N x.2.2)(h7: ∀i,nd N i≠some x):NOk n N':=by
 refine⟨fun i y hy=> ?_,fun i j y hi hj=> ?_⟩
 ·rw[P.get]at hy
  split at hy
  ·injection hy with hy
   subst hy
   exact⟨h1,P.isN h2,P.isN h3,h4,by rw[P.lvl h2];exact h5,by rw[P.lvl h3];exact h6⟩
  ·obtain⟨a,b,c,d,e,f⟩:=H.node i y hy
   exact⟨a,P.isN b,P.isN c,d,by rw[P.lvl b];exact e,by rw[P.lvl c];exact f⟩
 ·rw[P.get]at hi hj
  split at hi
  ·injection hi with hi
   subst hi
   split at hj
   ·omega
   ·exact absurd hj (h7 j)
  ·split at hj
   ·injection hj with hj
    subst hj
    exact absurd hi (h7 i)
   ·exact H.once i j y hi hj
def MkRel(room:Nat)(N:List (Option Nd))(l a b:Nat)(N':List (Option Nd))(r e:Nat):Prop:=
 (a=b∧r=a∧e=0∧N'=N)∨(a≠b∧ ∃i,nd N i=some (l,a,b)∧r=i+2∧e=0∧N'=N)∨
 (a≠b∧(∀i,nd N i≠some (l,a,b))∧room≤cntN N∧r=0∧e=60∧N'=N)∨
 (a≠b∧(∀i,nd N i≠some (l,a,b))∧cntN N<room∧e=0∧ ∃q,r=q+2∧Plus N N' q (l,a,b))
section
variable {h:Heap}{s n room:Nat}{B:SB}{f g:Nat→Nat}{N:List (Option Nd)}{F:List Nat}{Q:Int→Int→Prop}{off:Bool}{K:Value→Heap→Prop}
theorem StIs.only{L:List Nat}{h':Heap}(H:StIs h s n room B f g N F Q off)(O:Only L h h')(h1: ∀b∈L,b∉B.bm s∧b∉B.bt):StIs h' s n room B f g N F Q off:=
 ⟨H.m.only O fun b hb=>(h1 b hb).1,H.t.only O fun b hb=>(h1 b hb).2,H.ok,H.cnt,H.fre⟩
set_option maxRecDepth 100000 in
theorem mk_tail(H:StM h s n room B f g N F Q off)(Tm:TabM h s B N)(ok:NOk n N)(hc:N.length=cntN N+F.length)(hfre:F.Nodup∧ ∀a∈F,2≤a∧a-2<N.length∧nd N (a-2)=none){l a b:Nat}(hl:l<n)(ha:isN N a)(hb:isN N b)
  (la:l<lvl n N a) (lb:l<lvl n N b) (hne:a≠b) (hnew: ∀i,nd N i≠some (l,a,b)) (hr:cntN N<room) (hT: ∃T cs mm ops fails,TabIs h B.tb B.m 0 T∧MemIs h B.m B.mc cs ops fails∧MapM h B.sb .i64 mm∧Laid T cs mm N∧(∃k,T=32*2^k)∧2*(cntN N+1)≤T∧T≤262144)
  (hK: ∀h' B' N' F' q,Plus N N' q (l,a,b)→StIs h' s n room B' f g N' F' Q off→Only (B.bm s++B.bt) h h'→(∀y∈B'.bm s++B'.bt,y∈B.bm s++B.bt∨h.size≤y)→K (.tuple #[.int .u32 ((q+2:Nat):Int),.int .i64 0]) h'):
  F161.wk17 ⟨s,0,none⟩ (l:Int) (a:Int) (b:Int) h K:=by
 have hn8:=H.n8
 have hlen:=H.len
 unfold F161.wk17
 refine handle77 H (fun e=>by subst e;simp at hc;omega) fun h1 p' c' N1 F1 a1 R H1 O1 hp=>ldI_of rfl ?_
 have hsub: ∀b∈s::OwnB B.p,b∈B.bm s:=fun b hb=>by
  rcases List.mem_cons.1 hb with e|hb
  ·subst e;simp[SB.bm]
  ·simp only[SB.bm,List.mem_append]
   exact .inl (.inr hb)
 have Tm1:TabM h1 s {B with p:=p',c:=c'} N:=by
  have:=Tm.only O1 (fun b hb hm=>Tm.sep b hm (hsub b hb))
  refine⟨this.tab,this.nd,fun b hb hm=> ?_⟩
  rcases(SB.grow (c':=c') H.sep H.lt hp).2 b hm with h2|h2
  ·exact Tm.sep b hb h2
  ·have:=Tm.lt b hb
   omega
 have hT1: ∃T cs mm ops fails,TabIs h1 B.tb B.m 0 T∧MemIs h1 B.m B.mc cs ops fails∧MapM h1 B.sb .i64 mm∧Laid T cs mm N∧(∃k,T=32*2^k)∧2*(cntN N+1)≤T∧T≤262144:=by
  obtain⟨T,cs,mm,o,f',t1,t2,t3,t4⟩:=hT
  have d: ∀b,b∈B.bt→b∉s::OwnB B.p:=fun b hb hl=>Tm.sep b hb (hsub b hl)
  exact⟨T,cs,mm,o,f',t1.only O1 (d _ (by simp[SB.bt])),t2.only O1 (d _ (by simp[SB.bt])) (d _ (by simp[SB.bt])),t3.only O1 (d _ (by simp[SB.bt])),t4⟩
 obtain⟨q,eq,hq,hN1,hc1,hq0,hlen1,hF1⟩: ∃q,a1=q+2∧N1[q]? =some none∧(∀k,nd N1 k=nd N k)∧cntN N1=cntN N∧nd N q=none∧(N.length≤N1.length∧N1.length≤N.length+1)∧(N1.length=cntN N+F1.length+1∧F1.Nodup∧a1∉F1∧ ∀a∈F1,2≤a∧a-2<N1.length∧nd N (a-2)=none):=by
  rcases R with⟨e1,e2,e3,e4⟩|⟨e1,e2⟩
  ·subst e1 e2 e3
   refine⟨N.length,e4,by simp,fun k=> ?_,by rw[cnt_app];rfl,nd_out (Nat.le_refl _),by simp,by simp at hc;simp;omega,by simp,by simp,by simp⟩
   rw[nd_app]
   split
   ·next e=>rw[nd_out (by omega)]
   ·rfl
  ·subst e1 e2
   obtain⟨g1,g2⟩:=hfre
   obtain⟨f1,f2,f3⟩:=g2 a1 (by simp)
   refine⟨a1-2,by omega,?_,fun _=>rfl,rfl,f3,by omega,by simp at hc;omega,(List.nodup_append.1 g1).1,fun hm=>(List.nodup_append.1 g1).2.2 a1 hm a1 (by simp) rfl,fun a ha=>g2 a (by simp[ha])⟩
   obtain⟨o,ho⟩: ∃o,N1[a1-2]? =some o:=⟨_,List.getElem?_eq_getElem f2⟩
   unfold nd at f3
   rw[ho]at f3 ⊢
   simp at f3
   rw[f3]
 subst eq
 have hql:q<N1.length:=(List.getElem?_eq_some_iff.1 hq).1
 have hl1:=H1.len
 have wq:IntKind.wrap .u32 (((q+2:Nat):Int)-2)=((q:Nat):Int):=by
  have:=wrap_sub2 (a:=q+2) (by omega) (by omega)
  rw[this]
  simp
 simp only[add_mk,Nat.zero_add]
 have rs1:rd h1 ⟨s,2,none⟩=some (.slice p' N1.length c'):=by rw[At.rd H1.S];rfl
 obtain⟨b0,e1,-⟩:=H1.cells hq
 have e1:p'=some ⟨b0,0,none⟩:=e1
 refine ldS_of rs1 ?_
 rw[e1,ptrK_some,wq]
 refine⟨by omega,by omega,?_⟩
 rw[add_mk,show 0+Int.toNat (q:Int)*4=q*4 by omega]
 simp only[add_mk]
 have W1:=H1.own
 rw[show SB.p {B with p:=p',c:=c'}=some ⟨b0,0,none⟩from e1]at W1
 have nl:(nrow N1).length=N1.length*4:=nrow_len N1
 refine Own.set W1 (by omega) rfl fun h2 W2 O2=>Own.set W2 (by simp;omega) rfl fun h3 W3 O3=>Own.set W3 (by simp;omega) rfl fun h4 W4 O4=>Own.set W4 (by simp;omega) rfl fun h5 W5 O5=> ?_
 rw[nrow_set4 N1 q (some (l,a,b)) _ _ _ _ hql rfl]at W5
 have O25:Only [b0] h1 h5:=((O2.trans O3 (by simp)).trans O4 (by simp)).trans O5 (by simp)
 have hsep1:=H1.sep
 have nb: ∀y∈[s,B.ob,B.cac,B.cm,B.cmc]++OwnB B.fp,y∉[b0]:=fun y hy hm=>by
  simp only[List.mem_singleton]at hm
  subst hm
  unfold SB.bm at hsep1
  simp only[List.nodup_append,List.mem_append,ne_eq]at hsep1
  obtain⟨⟨_,_,g2⟩,_,g4⟩:=hsep1
  have hmp:y∈OwnB p':=by rw[e1];simp[OwnB]
  rcases List.mem_append.1 hy with h|h
  ·exact g2 y h y hmp rfl
  ·exact g4 y (.inr hmp) y h rfl
 have H5:StM h5 s n room {B with p:=p',c:=c'} f g (N1.set q (some (l,a,b))) F1 Q off:=by
  have el:(N1.set q (some (l,a,b))).length=N1.length:=by simp
  refine⟨by rw[el];exact H1.S.only O25 (nb _ (by simp)),H1.O.only O25 (nb _ (by simp)),by rw[el,show SB.p {B with p:=p',c:=c'}=some ⟨b0,0,none⟩from e1];exact W5,H1.fre.only O25 fun y hy=>nb _ (by simp only[List.mem_append];exact .inr hy),H1.cac.only O25 (nb _ (by simp)) (nb _ (by simp)) (nb _ (by simp)),H1.n8,by rw[el];exact H1.len,H1.sep⟩
 have Tm5:TabM h5 s {B with p:=p',c:=c'} N:=Tm1.only O25 fun y hy hm=>by
  simp only[List.mem_singleton]at hy
  subst hy
  exact Tm1.sep y hm (by simp only[SB.bm,List.mem_append];exact .inl (.inr (by rw[e1];simp[OwnB])))
 have P:Plus N (N1.set q (some (l,a,b))) q (l,a,b):=by
  refine⟨hq0,fun k=> ?_,?_,by simp;omega⟩
  ·rw[nd_set hql,hN1]
  ·rw[cntN_set hq,hc1]
 have rs5:rd h5 ⟨s,2,none⟩=some (.slice p' N1.length c'):=by
  have:=H5.S
  rw[show(N1.set q (some (l,a,b))).length=N1.length by simp]at this
  rw[At.rd this]
  rfl
 refine ldS_of rs5 ?_
 rw[e1,ptrK_some]
 refine⟨by omega,by omega,?_⟩
 rw[add_mk,show 0+Int.toNat (q:Int)*4=q*4 by omega]
 simp only[add_mk]
 obtain⟨b5,e5,r5⟩:=H5.cells (i:=q) (o:=some (l,a,b)) (by rw[List.getElem?_set_self hql])
 have:b5=b0:=by
  have e5:p'=some ⟨b5,0,none⟩:=e5
  rw[e1]at e5
  injection e5 with e5
  injection e5 with e5
  exact e5.symm
 subst this
 refine ldB_of (by rw[r5 0 (by omega)];rfl) (ldI_of (by rw[r5 1 (by omega)];rfl) (ldI_of (by rw[r5 2 (by omega)];rfl) (ldI_of (by rw[r5 3 (by omega)];rfl) ?_)))
 have hx:NdOk (l,a,b):=by
  have ha':=isN_lt H ha
  have hb':=isN_lt H hb
  exact⟨by show l<256;omega,by show a<2^28;omega,by show b<2^28;omega,hne⟩
 obtain⟨T,cs,mm,ops,fails,t1,t2,t3,L,t5,t6,t7⟩: ∃T cs mm ops fails,TabIs h5 B.tb B.m 0 T∧MemIs h5 B.m B.mc cs ops fails∧MapM h5 B.sb .i64 mm∧Laid T cs mm N∧(∃k,T=32*2^k)∧2*(cntN N+1)≤T∧T≤262144:=by
  obtain⟨T,cs,mm,o,f',t1,t2,t3,t4⟩:=hT1
  have d: ∀y,y∈B.bt→y∉[b5]:=fun y hy hm=>by
   simp only[List.mem_singleton]at hm
   subst hm
   exact Tm1.sep y hy (by simp only[SB.bm,List.mem_append];exact .inl (.inr (by rw[e1];simp[OwnB])))
  exact⟨T,cs,mm,o,f',t1.only O25 (d _ (by simp[SB.bt])),t2.only O25 (d _ (by simp[SB.bt])) (d _ (by simp[SB.bt])),t3.only O25 (d _ (by simp[SB.bt])),t4⟩
 have nn:=Tm.nd
 simp only[SB.bt,List.nodup_cons,List.mem_cons,List.not_mem_nil,or_false,not_or,List.nodup_nil,and_true,not_false_eq_true]at nn
 have sp:s∉B.bt:=fun hm=>Tm.sep s hm (by simp[SB.bm])
 simp only[SB.bt,List.mem_cons,List.not_mem_nil,or_false,not_or]at sp
 have bl:=Tm5.lt
 have S5:=H5.S
 rw[show(N1.set q (some (l,a,b))).length=N1.length by simp]at S5
 refine lays54 S5 (t:=B.tb) (m:=B.m) (mc:=B.mc) (sb:=B.sb) (T:=T) rfl rfl (by simp;omega) t1 t2 t3 (by omega) (by simp;omega) (by omega) (by omega) (bl _ (by simp[SB.bt])) (bl _ (by simp[SB.bt])) (bl _ (by simp[SB.bt]))
  L hx (fun i y hy e=> ?_) (by omega) hq0 P.get P.cnt fun h6 cs' mm' ops' fails' A6 T6 M6 Mp6 L6 O6=>⟨rfl,?_⟩
 ·have:=kf_inj (ok.ndok hn8.2 (by omega) hy) hx e
  subst this
  exact hnew i hy
 have Hm6:=H5.only O6 fun y hy hm=>Tm5.sep y (by simp[SB.bt]at hy ⊢;omega) hm
 refine hK h6 {B with p:=p',c:=c'} _ F1 q P ⟨Hm6,⟨⟨T,cs',mm',ops',fails',T6,M6,Mp6,L6,t5,by rw[P.cnt];exact t6,t7⟩,Tm1.nd,Tm1.sep⟩,P.ok ok hl ha hb hne la lb hnew,by simp only[List.length_set];rw[P.cnt];omega,hF1.2.1,fun y hy=> ?_⟩ ?_ fun y hy=> ?_
 ·obtain⟨z1,z2,z3⟩:=hF1.2.2.2 y hy
  refine⟨z1,by simp only[List.length_set];exact z2,?_⟩
  rw[P.get,if_neg]
  ·exact z3
  ·intro e
   apply hF1.2.2.1
   rw[show q+2=y by omega]
   exact hy
 ·refine((Only.mono O1 fun y hy _=> ?_).trans O25 fun y hy hlt=> ?_).trans O6 fun y hy _=> ?_
  ·simp only[List.mem_append]
   exact .inl (hsub y hy)
  ·simp only[List.mem_singleton]at hy
   subst hy
   rcases hp y (by rw[e1];simp[OwnB])with h7|h7
   ·simp only[List.mem_append]
    exact .inl (hsub y (by simp[h7]))
   ·omega
  ·simp only[List.mem_append,SB.bt]
   simp at hy ⊢
   omega
 ·rcases List.mem_append.1 hy with hy|hy
  ·rcases(SB.grow (c':=c') H.sep H.lt hp).2 y hy with h7|h7
   ·exact .inl (List.mem_append.2 (.inl h7))
   ·exact .inr h7
  ·exact .inl (List.mem_append.2 (.inr hy))
end
end
section
section
variable {h:Heap}{s n room:Nat}{B:SB}{f g:Nat→Nat}{N:List (Option Nd)}{F:List Nat}{Q:Int→Int→Prop}{off:Bool}{K:Value→Heap→Prop}
set_option maxRecDepth 100000 in
theorem mk56(H:StIs h s n room B f g N F Q off){l a b:Nat}(hl:l<n)(ha:isN N a)(hb:isN N b)(la:l<lvl n N a)(lb:l<lvl n N b)
  (hK: ∀h' B' N' F' r e,MkRel room N l a b N' r e→StIs h' s n room B' f g N' F' Q off→Only (B.bm s++B.bt) h h'→(∀y∈B'.bm s++B'.bt,y∈B.bm s++B.bt∨h.size≤y)→K (.tuple #[.int .u32 (r:Int),.int .i64 (e:Int)]) h'):
  Cl 161 [.pointer (some ⟨s,0,none⟩),.int .i64 (l:Int),.int .u32 (a:Int),.int .u32 (b:Int)] h K:=by
 have hn8:=H.m.n8
 have hlen:=H.m.len
 have ha':=isN_lt H.m ha
 have hb':=isN_lt H.m hb
 refine F161.spec _ _ _ _ h K ?_
 rw[decide_eq_false (by omega),bcase_false]
 refine vars58 H.m (ldI_of rfl ?_)
 rw[decide_eq_false (by omega),bcase_false]
 refine is21 H.m (by omega) (fun _=>ldB_of rfl ?_) fun e=>absurd ha e
 rw[Bool.not_true,bcase_false]
 refine is21 H.m (by omega) (fun _=>ldB_of rfl ?_) fun e=>absurd hb e
 rw[Bool.not_true,bcase_false]
 refine level46 H.m ha (ldI_of rfl ?_)
 rw[decide_eq_false (by omega),bcase_false]
 refine level46 H.m hb (ldI_of rfl ?_)
 rw[decide_eq_false (by omega),bcase_false]
 refine bcase_of (fun he=> ?_) fun he=> ?_
 ·have he:a=b:=by
   have:(a:Int)=b:=by simpa using he
   omega
  exact hK h B N F a 0 (.inl ⟨he,rfl,rfl,rfl⟩) H (Only.refl _ _) fun y hy=> .inl hy
 have hne:a≠b:=fun e=>by
  subst e
  simp at he
 unfold F161.wk9
 have hx:NdOk (l,a,b):=⟨by show l<256;omega,by show a<2^28;omega,by show b<2^28;omega,hne⟩
 refine key73 hx.1 hx.2.1 hx.2.2.1 (ldI_of rfl ?_)
 have hmb: ∀y∈[B.m,B.mc],y∈B.bm s++B.bt:=fun y hy=>by
  simp only[List.mem_append,SB.bt]
  simp at hy ⊢
  omega
 have hk0:nkey l a b≠0:=by
  have:=kf_ne hx
  unfold kf at this
  exact this
 refine has74 (k:=nkey l a b) H.m H.t hk0 (fun h1 i x hx1 hx2 O1 T1=>⟨_,_,rfl,?_⟩) fun h1 hnk O1 T1=>⟨_,_,rfl,?_⟩
 ·rw[bcase_true]
  have:=kf_inj (H.ok.ndok hn8.2 (by omega) hx1) hx hx2
  subst this
  refine hK h1 B N F (i+2) 0 (.inr (.inl ⟨hne,i,hx1,rfl,rfl,rfl⟩)) ⟨H.m.only O1 fun y hy hm=>H.t.sep y (by simp[SB.bt]at hy ⊢;omega) hm,T1,H.ok,H.cnt,H.fre⟩ (O1.mono fun y hy _=>hmb y hy) fun y hy=> .inl hy
 ·have H1:StM h1 s n room B f g N F Q off:=H.m.only O1 fun y hy hm=>H.t.sep y (by simp[SB.bt]at hy ⊢;omega) hm
  have OO:Only (B.bm s++B.bt) h h1:=O1.mono fun y hy _=>hmb y hy
  have hnew: ∀i,nd N i≠some (l,a,b):=fun i hi=>hnk i _ hi rfl
  have hcl:=cntN_le N
  rw[bcase_false]
  simp only[add_mk,Nat.zero_add,Nat.add_zero]
  have r0:rd h1 ⟨s,0,none⟩=some (.int .i64 (room:Int)):=by rw[At.rd H1.S];rfl
  have r4:rd h1 ⟨s,4,none⟩=some (.pointer (some ⟨B.tb,0,none⟩)):=by rw[At.rd H1.S];rfl
  refine ldI_of r0 (len75 H1 H.cnt (ldI_of rfl ⟨trivial,trivial,trivial,ldI_of r0 ⟨rfl,?_⟩⟩))
  refine bcase_of (fun hf=> ?_) fun hf=> ?_
  ·have hf:=of_decide_eq_true hf
   exact hK h1 B N F 0 60 (.inr (.inr (.inl ⟨hne,hnew,by omega,rfl,rfl,rfl⟩))) ⟨H1,T1,H.ok,H.cnt,H.fre⟩ OO fun y hy=> .inl hy
  have hf:=of_decide_eq_false hf
  have hr:cntN N<room:=by omega
  have fin: ∀h' B' N' F' q,Plus N N' q (l,a,b)→StIs h' s n room B' f g N' F' Q off→Only (B.bm s++B.bt) h h'→(∀y∈B'.bm s++B'.bt,y∈B.bm s++B.bt∨h.size≤y)→K (.tuple #[.int .u32 ((q+2:Nat):Int),.int .i64 0]) h':=fun h' B' N' F' q P S O fr=>
   hK h' B' N' F' (q+2) 0 (.inr (.inr (.inr ⟨hne,hnew,hr,rfl,q,rfl,P⟩))) S O fr
  obtain⟨T,cs,mm,o,f',t1,t2,t3,L,t5,t6,t7⟩:=id T1.tab
  refine ldP_of r4 (len75 H1 H.cnt (ldI_of rfl ⟨trivial,trivial,trivial,ldP_of r4 ⟨rfl,slots_spec t1 (ldI_of rfl ⟨by trivial,by trivial,?_⟩)⟩⟩))
  have w1:IntKind.wrap .i64 ((cntN N:Int)+1)=((cntN N+1:Nat):Int):=by rw[wrap_i64 (by omega) (by omega)];omega
  have w2:IntKind.wrap .i64 (2*((cntN N+1:Nat):Int))=((2*(cntN N+1):Nat):Int):=by rw[wrap_i64 (by omega) (by omega)];omega
  rw[w1,w2]
  refine bcase_of (fun hg=> ?_) fun hg=> ?_
  ·have hg:=of_decide_eq_true hg
   have w3:IntKind.wrap .i64 (2*(T:Int))=((2*T:Nat):Int):=by rw[wrap_i64 (by omega) (by omega)];omega
   refine ldP_of r4 (slots_spec t1 (ldI_of rfl ?_))
   rw[w3]
   have hsz:s<h1.size:=H1.S.lt
   refine grows33 (bl:=[]) H1.S H1.r (fun i hi=>absurd hi (by simp)) (fun a e=>by cases e) (by simp) (by rw[era_nil];exact fun i x hx=>H.ok.ndok hn8.2 (by omega) hx) (by rw[era_nil];exact H.ok.once) (by obtain⟨k,e⟩:=t5;exact⟨k+1,by rw[e,Nat.pow_succ];omega⟩) (by rw[era_nil];omega) (by omega)
    fun tb m mc sb h2 H2 T2 TX g1 g2 g3 g4 O2=>⟨rfl,?_⟩
   rw[era_nil]at T2 TX
   have hsm:s∈B.bm s:=by simp[SB.bm]
   refine mk_tail H2 T2 H.ok H.cnt H.fre hl ha hb la lb hne hnew hr ?_ fun h3 B3 N3 F3 q P S3 O3 fr=>fin h3 B3 N3 F3 q P S3 ?_ fun y hy=> ?_
   ·obtain⟨cs',mm',o',f'',u1,u2,u3,u4⟩:=TX
    obtain⟨k,e⟩:=t5
    exact⟨2*T,cs',mm',o',f'',u1,u2,u3,u4,⟨k+1,by rw[e,Nat.pow_succ];omega⟩,by have:=Nat.two_pow_pos k;omega,by omega⟩
   ·refine(OO.trans O2 fun y hy _=> ?_).trans O3 fun y hy hlt=> ?_
    ·simp only[List.mem_singleton]at hy
     subst hy
     exact List.mem_append.2 (.inl hsm)
    ·rcases List.mem_append.1 hy with hy|hy
     ·exact List.mem_append.2 (.inl hy)
     ·have:=OO.size
      simp[SB.bt,SB.tabs]at hy
      omega
   ·rcases fr y hy with hy|hy
    ·rcases List.mem_append.1 hy with hy|hy
     ·exact .inl (List.mem_append.2 (.inl hy))
     ·have:=OO.size
      simp[SB.bt,SB.tabs]at hy
      exact .inr (by omega)
    ·have:=OO.size
     have:=O2.size
     exact .inr (by omega)
  ·have hg:=of_decide_eq_false hg
   refine mk_tail H1 T1 H.ok H.cnt H.fre hl ha hb la lb hne hnew hr ⟨T,cs,mm,o,f',t1,t2,t3,L,t5,by omega,t7⟩ fun h3 B3 N3 F3 q P S3 O3 fr=>fin h3 B3 N3 F3 q P S3 (OO.trans O3 fun y hy _=>hy) fun y hy=> ?_
   rcases fr y hy with hy|hy
   ·exact .inl hy
   ·have:=OO.size
    exact .inr (by omega)
end
end
section
structure SX where
 n:Nat
 room:Nat
 f:Nat→Nat
 g:Nat→Nat
 N:List (Option Nd)
 Q:Int→Int→Prop
 off:Bool
def Sto(h:Heap)(s:Nat)(L:List Nat)(X:SX):Prop:= ∃B F,L=B.bm s++B.bt∧StIs h s X.n X.room B X.f X.g X.N F X.Q X.off
def Fresh(L L':List Nat)(h:Heap):Prop:= ∀b∈L',b∈L∨h.size≤b
theorem Fresh.refl(L:List Nat)(h:Heap):Fresh L L h:=fun _ hb=> .inl hb
theorem Fresh.trans{L L' L'':List Nat}{h h':Heap}(a:Fresh L L' h)(b:Fresh L' L'' h')(hz:h.size≤h'.size):Fresh L L'' h:=fun x hx=>by
 rcases b x hx with h1|h1
 ·exact a x h1
 ·exact .inr (by omega)
theorem Only.app{L L':List Nat}{h h' h'':Heap}(a:Only L h h')(b:Only L' h' h'')(f:Fresh L L' h):Only L h h'':=a.trans b fun x hx hl=>by
 rcases f x hx with h1|h1
 ·exact h1
 ·omega
section
variable {h h':Heap}{s:Nat}{L S:List Nat}{X:SX}{K:Value→Heap→Prop}
theorem Sto.only(H:Sto h s L X)(O:Only S h h')(hS: ∀b∈S,b∉L):Sto h' s L X:=by
 obtain⟨B,F,e,H⟩:=H
 subst e
 exact⟨B,F,rfl,H.only O fun b hb=>⟨fun hm=>hS b hb (List.mem_append.2 (.inl hm)),fun hm=>hS b hb (List.mem_append.2 (.inr hm))⟩⟩
theorem Sto.only0(H:Sto h s L X)(O:Only [] h h'):Sto h' s L X:=H.only O (by simp)
theorem Sto.lt(H:Sto h s L X): ∀b∈L,b<h.size:=fun b hb=>by
 obtain⟨B,F,e,H⟩:=H
 subst e
 rcases List.mem_append.1 hb with h1|h1
 ·exact H.m.lt b h1
 ·exact H.t.lt b h1
theorem Sto.ok(H:Sto h s L X):NOk X.n X.N∧1≤X.n∧X.n≤8∧X.N.length≤X.room∧X.room≤32768∧cntN X.N≤X.N.length:=by
 obtain⟨B,F,e,H⟩:=H
 exact⟨H.ok,H.m.n8.1,H.m.n8.2,H.m.len.1,H.m.len.2.1,cntN_le _⟩
theorem Sto.isN_lt(H:Sto h s L X){a:Nat}(ha:isN X.N a):a<32770:=by
 obtain⟨B,F,e,H⟩:=H
 have:=Ev.isN_lt H.m ha
 have:=H.m.len
 omega
theorem sto_vars(H:Sto h s L X)(hK:K (.int .i64 (X.n:Int)) h):Cl 75 [.pointer (some ⟨s,0,none⟩)] h K:=by
 obtain⟨B,F,e,H⟩:=H
 exact vars58 H.m hK
theorem sto_is(H:Sto h s L X){a:Nat}(ha:a<4294967296)(h1:isN X.N a→K (.bool true) h)(h0: ¬isN X.N a→K (.bool false) h):Cl 74 [.pointer (some ⟨s,0,none⟩),.int .u32 (a:Int)] h K:=by
 obtain⟨B,F,e,H⟩:=H
 exact is21 H.m ha h1 h0
theorem sto_is1(H:Sto h s L X){a:Nat}(ha:isN X.N a)(h1:K (.bool true) h):Cl 74 [.pointer (some ⟨s,0,none⟩),.int .u32 (a:Int)] h K:=
 sto_is H (by have:=H.isN_lt ha;omega) (fun _=>h1) fun e=>absurd ha e
theorem sto_level(H:Sto h s L X){a:Nat}(ha:isN X.N a)(hK:K (.int .i64 (lvl X.n X.N a:Int)) h):Cl 71 [.pointer (some ⟨s,0,none⟩),.int .u32 (a:Int)] h K:=by
 obtain⟨B,F,e,H⟩:=H
 exact level46 H.m ha hK
theorem sto_low(H:Sto h s L X){a:Nat}(ha:isN X.N a)(hK:K (.int .u32 (low X.N a:Int)) h):Cl 72 [.pointer (some ⟨s,0,none⟩),.int .u32 (a:Int)] h K:=by
 obtain⟨B,F,e,H⟩:=H
 exact low68 H.m ha hK
theorem sto_high(H:Sto h s L X){a:Nat}(ha:isN X.N a)(hK:K (.int .u32 (high X.N a:Int)) h):Cl 73 [.pointer (some ⟨s,0,none⟩),.int .u32 (a:Int)] h K:=by
 obtain⟨B,F,e,H⟩:=H
 exact high69 H.m ha hK
theorem sto_len(H:Sto h s L X)(hK:K (.int .i64 (cntN X.N:Int)) h):Cl 45 [.pointer (some ⟨s,0,none⟩)] h K:=by
 obtain⟨B,F,e,H⟩:=H
 exact len75 H.m H.cnt hK
theorem sto_mk(H:Sto h s L X){l a b:Nat}(hl:l<X.n)(ha:isN X.N a)(hb:isN X.N b)(la:l<lvl X.n X.N a)(lb:l<lvl X.n X.N b)
  (hK: ∀h' L' N' r e,MkRel X.room X.N l a b N' r e→Sto h' s L' {X with N:=N'}→Only L h h'→Fresh L L' h→K (.tuple #[.int .u32 (r:Int),.int .i64 (e:Int)]) h'):
  Cl 161 [.pointer (some ⟨s,0,none⟩),.int .i64 (l:Int),.int .u32 (a:Int),.int .u32 (b:Int)] h K:=by
 obtain⟨B,F,e,H⟩:=H
 subst e
 exact mk56 H hl ha hb la lb fun h' B' N' F' r e R S O fr=>hK h' _ N' r e R ⟨B',F',rfl,S⟩ O fr
theorem ord_copy{b n:Nat}{f g:Nat→Nat}(H:OrdIs h b n f g)(hK: ∀c h',OrdIs h' c n f g→h.size≤c→Only [] h h'→K (.pointer (some ⟨c,0,none⟩)) h'):
  Cl 104 [.pointer (some ⟨b,0,none⟩)] h K:=by
 refine F104.spec _ h K ?_
 have r: ∀k,rd h ⟨b,k,none⟩=(Value.int .i64 (n:Int)::(L8 f++L8 g))[k]? :=fun k=>At.rd H k
 refine ldI_of (by rw[add_mk,r];rfl) (ldI_of (by rw[add_mk,r];rfl) (ldI_of (by rw[add_mk,r];rfl) (ldI_of (by rw[add_mk,r];rfl) (ldI_of (by rw[add_mk,r];rfl) (ldI_of (by rw[add_mk,r];rfl) (ldI_of (by rw[add_mk,r];rfl) (ldI_of (by rw[add_mk,r];rfl) (ldI_of (by rw[add_mk,r];rfl) (ldI_of (by rw[add_mk,r];rfl) (ldI_of (by rw[add_mk,r];rfl) (ldI_of (by rw[add_mk,r];rfl) (ldI_of (by rw[add_mk,r];rfl) (ldI_of (by rw[add_mk,r];rfl) (ldI_of (by rw[add_mk,r];rfl) (ldI_of (by rw[add_mk,r];rfl) (ldI_of (by rw[add_mk,r];rfl) ?_))))))))))))))))
 refine newK_at fun h0 A0 O0 z0=> ?_
 show stL ⟨h.size,0,none⟩ 0 (Value.int .i64 (n:Int)::(L8 f++L8 g)) h0 fun h'=>K (.pointer (some ⟨h.size,0,none⟩)) h'
 refine stL_own (o:=0) _ 0 _ h0 A0 (by simp[L8]) (fun v hv=> ?_) fun h' A' O' z=>hK h.size h' ?_ (Nat.le_refl _) (O0.trans O' (by intro x hx hlt;simp at hx;omega))
 ·simp only[List.mem_cons,List.mem_append,L8,List.mem_map]at hv
  rcases hv with e|⟨i,_,e⟩|⟨i,_,e⟩<;>subst e<;>rfl
 ·simp[L8_len]at A'
  exact A'
end
end
section
def sem(f:Nat→Nat)(N:List (Option Nd)):Nat→Nat→Nat→Bool
 |0,a,_=>a==1
 |d+1,a,x=>if a<2 then a==1 else if x.testBit (f (lvl 0 N a))then sem f N d (high N a) x else sem f N d (low N a) x
def sm(n:Nat)(f:Nat→Nat)(N:List (Option Nd))(a x:Nat):Bool:=sem f N n a x
theorem lvl_any{n m:Nat}{N:List (Option Nd)}{a:Nat}(h:2≤a):lvl n N a=lvl m N a:=by
 unfold lvl
 rw[if_neg (by omega),if_neg (by omega)]
section
variable {n:Nat}{f:Nat→Nat}{N N':List (Option Nd)}{a b x:Nat}
theorem NOk.at(H:NOk n N)(ha:isN N a)(h2:2≤a):lvl n N a<n∧isN N (low N a)∧isN N (high N a)∧low N a≠high N a∧lvl n N a<lvl n N (low N a)∧lvl n N a<lvl n N (high N a):=by
 rcases ha with h|⟨x,h⟩
 ·omega
 ·have:=H.node _ x h
  have e1:lvl n N a=x.1:=by unfold lvl;rw[if_neg (by omega),h]
  have e2:low N a=x.2.1:=by unfold low;rw[if_neg (by omega),h]
  have e3:high N a=x.2.2:=by unfold high;rw[if_neg (by omega),h]
  rw[e1,e2,e3]
  exact this
theorem lvl_le(H:NOk n N)(ha:isN N a):lvl n N a≤n:=by
 by_cases h2:a<2
 ·unfold lvl
  rw[if_pos h2]
  exact Nat.le_refl _
 ·have:=(H.at ha (by omega)).1
  omega
theorem sem_fuel(H:NOk n N): ∀(d e:Nat) {a:Nat},isN N a→n-lvl n N a≤d→n-lvl n N a≤e→sem f N d a x=sem f N e a x:=by
 intro d
 induction d with
 |zero=>
  intro e a ha hd he
  have h2:a<2:=by
   apply Classical.byContradiction
   intro hn
   have:=(H.at ha (by omega)).1
   omega
  cases e with
  |zero=>rfl
  |succ e=>unfold sem;rw[if_pos h2]
 |succ d ih=>
  intro e a ha hd he
  cases e with
  |zero=>
   have h2:a<2:=by
    apply Classical.byContradiction
    intro hn
    have:=(H.at ha (by omega)).1
    omega
   unfold sem
   rw[if_pos h2]
  |succ e=>
   unfold sem
   by_cases h2:a<2
   ·rw[if_pos h2,if_pos h2]
   ·rw[if_neg h2,if_neg h2]
    obtain⟨h3,h4,h5,-,h6,h7⟩:=H.at ha (by omega)
    split
    ·exact ih e h5 (by omega) (by omega)
    ·exact ih e h4 (by omega) (by omega)
theorem sm_const(h:a<2):sm n f N a x=(a==1):=by
 unfold sm
 cases n with
 |zero=>rfl
 |succ n=>unfold sem;rw[if_pos h]
theorem sm_node(H:NOk n N)(ha:isN N a)(h2:2≤a):sm n f N a x=if x.testBit (f (lvl n N a))then sm n f N (high N a) x else sm n f N (low N a) x:=by
 obtain⟨h3,h4,h5,-,h6,h7⟩:=H.at ha h2
 unfold sm
 cases n with
 |zero=>omega
 |succ n=>
  conv=>lhs;unfold sem
  rw[if_neg (by omega),lvl_any (n:=0) (m:=n+1) h2,sem_fuel H n (n+1) h4 (by omega) (by omega),sem_fuel H n (n+1) h5 (by omega) (by omega)]
def Ex(N N':List (Option Nd)):Prop:= ∀i x,nd N i=some x→nd N' i=some x
theorem Ex.refl(N:List (Option Nd)):Ex N N:=fun _ _ h=>h
theorem Ex.trans{N'':List (Option Nd)}(h:Ex N N')(g:Ex N' N''):Ex N N'':=fun i x e=>g i x (h i x e)
theorem Plus.ext{q:Nat}{x:Nd}(P:Plus N N' q x):Ex N N':=fun _ _ h=>P.old h
theorem Ex.isN(E:Ex N N')(h:Ev.isN N a):Ev.isN N' a:=h.imp id fun⟨x,h⟩=>⟨x,E _ x h⟩
theorem Ex.lvl(E:Ex N N')(h:Ev.isN N a):lvl n N' a=lvl n N a:=by
 unfold Ev.lvl
 rcases h with h|⟨x,h⟩
 ·rw[if_pos h,if_pos h]
 ·rw[E _ x h,h]
theorem Ex.low(E:Ex N N')(h:Ev.isN N a):low N' a=low N a:=by
 unfold Ev.low
 rcases h with h|⟨x,h⟩
 ·rw[if_pos h,if_pos h]
 ·rw[E _ x h,h]
theorem Ex.high(E:Ex N N')(h:Ev.isN N a):high N' a=high N a:=by
 unfold Ev.high
 rcases h with h|⟨x,h⟩
 ·rw[if_pos h,if_pos h]
 ·rw[E _ x h,h]
theorem Ex.sem(H:NOk n N)(E:Ex N N'): ∀(d:Nat) {a:Nat},Ev.isN N a→Ev.sem f N' d a x=Ev.sem f N d a x:=by
 intro d
 induction d with
 |zero=>intro a _;rfl
 |succ d ih=>
  intro a ha
  unfold Ev.sem
  by_cases h2:a<2
  ·rw[if_pos h2,if_pos h2]
  ·obtain⟨h3,h4,h5,-,h6,h7⟩:=H.at ha (by omega)
   rw[if_neg h2,if_neg h2,E.lvl ha,E.low ha,E.high ha,ih h4,ih h5]
theorem Ex.sm(H:NOk n N)(E:Ex N N')(ha:Ev.isN N a):sm n f N' a x=sm n f N a x:=E.sem H n ha
theorem mk_node{room l r:Nat}(H:NOk n N)(H':NOk n N')(ha:isN N a)(hb:isN N b)(la:l<lvl n N a)(R:MkRel room N l a b N' r 0):
  Ex N N'∧isN N' r∧l≤lvl n N' r∧ ∀x,sm n f N' r x=if x.testBit (f l)then sm n f N b x else sm n f N a x:=by
 rcases R with⟨h1,h2,-,h4⟩|⟨h1,i,h2,h3,-,h4⟩|⟨-,-,-,-,h,-⟩|⟨h1,-,-,-,q,h3,P⟩
 ·subst h1 h2 h4
  exact⟨Ex.refl _,ha,by omega,fun x=>by simp⟩
 ·subst h3 h4
  have hr:isN N' (i+2):= .inr ⟨_,h2⟩
  have e1:lvl n N' (i+2)=l:=by unfold lvl;rw[if_neg (by omega),show i+2-2=i by omega,h2]
  have e2:low N' (i+2)=a:=by unfold low;rw[if_neg (by omega),show i+2-2=i by omega,h2]
  have e3:high N' (i+2)=b:=by unfold high;rw[if_neg (by omega),show i+2-2=i by omega,h2]
  refine⟨Ex.refl _,hr,by omega,fun x=> ?_⟩
  rw[sm_node H hr (by omega),e1,e2,e3]
 ·omega
 ·subst h3
  have E:=P.ext
  have hn:nd N' q=some (l,a,b):=by rw[P.get,if_pos rfl]
  have hr:isN N' (q+2):= .inr ⟨_,hn⟩
  have e1:lvl n N' (q+2)=l:=by unfold lvl;rw[if_neg (by omega),show q+2-2=q by omega,hn]
  have e2:low N' (q+2)=a:=by unfold low;rw[if_neg (by omega),show q+2-2=q by omega,hn]
  have e3:high N' (q+2)=b:=by unfold high;rw[if_neg (by omega),show q+2-2=q by omega,hn]
  refine⟨E,hr,by omega,fun x=> ?_⟩
  rw[sm_node H' hr (by omega),e1,e2,e3,E.sm H ha,E.sm H hb]
end
end
section
def gf(n m:Nat)(leaf:Nat→Nat→Bool)(c:Nat→Nat→Bool→Bool→Bool)(N:List (Option Nd)):Nat→Nat→Nat→Bool
 |0,a,x=>leaf a x
 |d+1,a,x=>if m≤lvl n N a then leaf a x else c (lvl n N a) x (gf n m leaf c N d (low N a) x) (gf n m leaf c N d (high N a) x)
section
variable {n m:Nat}{leaf leaf':Nat→Nat→Bool}{c:Nat→Nat→Bool→Bool→Bool}{N N':List (Option Nd)}{a x:Nat}
theorem gf_ext(H:NOk n N)(E:Ex N N')(hm:m≤n)(hl: ∀b,isN N b→leaf' b x=leaf b x): ∀(d:Nat) {a:Nat},isN N a→gf n m leaf' c N' d a x=gf n m leaf c N d a x:=by
 intro d
 induction d with
 |zero=>intro a ha;exact hl a ha
 |succ d ih=>
  intro a ha
  unfold gf
  rw[E.lvl ha]
  by_cases h2:m≤lvl n N a
  ·rw[if_pos h2,if_pos h2];exact hl a ha
  ·have a2:2≤a:=by
    apply Classical.byContradiction
    intro hn
    have:lvl n N a=n:=by unfold lvl;rw[if_pos (by omega)]
    omega
   obtain⟨h3,h4,h5,-,h6,h7⟩:=H.at ha a2
   rw[if_neg h2,if_neg h2,E.low ha,E.high ha,ih h4,ih h5]
end
def qgC(fo:Nat→Nat)(op mask:Nat)(l x:Nat)(p q:Bool):Bool:=if mask.testBit (fo l)then(if op=7 then p&&q else p||q)else if x.testBit (fo l)then q else p
def qgF(n:Nat)(fo:Nat→Nat)(op mask:Nat)(N:List (Option Nd))(a x:Nat):Bool:=gf n n (fun a _=>a==1) (qgC fo op mask) N n a x
section
variable {n:Nat}{fo:Nat→Nat}{N N':List (Option Nd)}{a x:Nat}
theorem qgF_ext{op mask:Nat}(H:NOk n N)(E:Ex N N')(ha:isN N a):qgF n fo op mask N' a x=qgF n fo op mask N a x:=gf_ext H E (Nat.le_refl _) (fun b hb=>rfl) n ha
structure QR(n:Nat)(fo:Nat→Nat)(N:List (Option Nd))(op mask a r:Nat):Prop where
 is:isN N r
 lv:lvl n N a≤lvl n N r
 sm: ∀x,sm n fo N r x=qgF n fo op mask N a x
theorem QR.ext{op mask r:Nat}(R:QR n fo N op mask a r)(H:NOk n N)(E:Ex N N')(ha:isN N a):QR n fo N' op mask a r:=
 ⟨E.isN R.is,by rw[E.lvl ha,E.lvl R.is];exact R.lv,fun x=>by rw[E.sm H R.is,R.sm,qgF_ext H E ha]⟩
end
end
section
def F182.T:Hint:=⟨[(5,[14,15]),(6,[14])],[(3,[[(0,[]),(1,[]),(2,[]),(3,[]),(4,[]),(5,[]),(6,[]),(7,[]),(8,[]),(9,[0,1,2,3]),(10,[]),(11,[])]])]⟩
section
variable (n:Nat)(c:Addr)(d f g i j:Int)(a:Option Addr)(b:Value)(h:Heap)(K:KK)
def F182.wk6:Prop:=Cl 230 [.pointer a] h fun v1 h2=> ∃n3:Int,∃b4:Bool,v1=(.tuple #[.int .u64 n3,.bool b4])∧K (.tuple #[.int .u32 (IntKind.wrap .u32 n3),.bool b4]) h2
def F182.wL5:Prop:=Lp Tryz.f182 F182.T [1,1,1,0,1,0] n [(14,(.pointer a)),(15,b)] h K
theorem F182.sL5:F182.wL5 (n+1) a b h K=(dynK Tryz.prog X b [] h fun v1 h2=>ldB (some v1) fun b3=>bcase (!b3) (F182.wL5 n a b h2 K) (F182.wk6 a h2 K)):=by kernel_rfl
def F182.wk5:Prop:=(∃m,F182.wL5 m a b h K)
theorem F182.spec(H:ldB (rd h (c.add 7)) fun b1=>bcase b1 (K (.tuple #[.int .u32 0,.bool false]) h) (ldP (rd h (c.add 6)) fun p2=>Cl 228 [.int .u8 d,.int .u8 f,.int .u32 g,.int .u32 i,.int .u32 j] h fun v3 h4=>ldI .u64 (some v3) fun n5=>((.pointer (some c))=((.pointer (some c)):Value)∧((.pointer (some c))=((.pointer (some c)):Value)∧((.pointer (some (c.add 6)))=((.pointer (some (c.add 6))):Value)∧ldP (rd h4 (c.add 6)) fun p6=>((.pointer p6)=((.pointer p2):Value)∧Cl 227 [.pointer p2,.int .u64 n5] h4 fun v7 h8=>ldP (some v7) fun p9=>F182.wk5 p9 (.func (.func 229) #[.pointer p9] #[]) h8 K)))))):Cl 182 [.pointer (some c),.int .u8 d,.int .u8 f,.int .u32 g,.int .u32 i,.int .u32 j] h K:=cT F182.T Tryz.func182 H
end
def F207.T:Hint:=⟨[(3,[15])],[(1,[[(0,[]),(1,[]),(2,[]),(3,[]),(4,[]),(5,[]),(6,[]),(7,[]),(8,[]),(10,[]),(11,[]),(9,[0,1,2,3,10,11]),(12,[]),(13,[])]])]⟩
section
variable (n:Nat)(b:Addr)(d f g i j c:Int)(a:Value)(h:Heap)(K:KK)
def F207.wL3:Prop:=Lp Tryz.f207 F207.T [1,1,1,0] n [(15,a)] h K
theorem F207.sL3:F207.wL3 (n+1) a h K=(dynK Tryz.prog X a [] h fun v1 h2=>ldB (some v1) fun b3=>bcase (!b3) (F207.wL3 n a h2 K) (K (.tuple #[]) h2)):=by kernel_rfl
def F207.wk3:Prop:=(∃m,F207.wL3 m a h K)
theorem F207.spec(H:ldB (rd h (b.add 7)) fun b1=>bcase b1 (K (.tuple #[]) h) (ldP (rd h (b.add 6)) fun p2=>Cl 228 [.int .u8 d,.int .u8 f,.int .u32 g,.int .u32 i,.int .u32 j] h fun v3 h4=>ldI .u64 (some v3) fun n5=>((.pointer (some b))=((.pointer (some b)):Value)∧((.pointer (some b))=((.pointer (some b)):Value)∧((.pointer (some (b.add 6)))=((.pointer (some (b.add 6))):Value)∧ldP (rd h4 (b.add 6)) fun p6=>((.pointer p6)=((.pointer p2):Value)∧((.int .u32 c)=((.int .u32 c):Value)∧((.int .u64 (IntKind.wrap .u64 c))=((.int .u64 (IntKind.wrap .u64 c)):Value)∧Cl 252 [.pointer p2,.int .u64 n5,.int .u64 (IntKind.wrap .u64 c)] h4 fun v7 h8=>ldP (some v7) fun p9=>F207.wk3 (.func (.func 229) #[.pointer p9] #[]) h8 K)))))))):Cl 207 [.pointer (some b),.int .u8 d,.int .u8 f,.int .u32 g,.int .u32 i,.int .u32 j,.int .u32 c] h K:=cT F207.T Tryz.func207 H
end
theorem F228.spec(a b c d f:Int)(h:Heap)(K:KK)(H:(0≤(56:Int)∧(0≤(48:Int)∧(0≤(32:Int)∧(0≤(16:Int)∧K (.int .u64 (bitsI .or .u64 (bitsI .or .u64 (bitsI .or .u64 (bitsI .or .u64 (IntKind.wrap .u64 ((IntKind.wrap .u64 a)*2^(min (Int.toNat (56:Int)) (IntKind.bits .u64)))) (IntKind.wrap .u64 ((IntKind.wrap .u64 b)*2^(min (Int.toNat (48:Int)) (IntKind.bits .u64))))) (IntKind.wrap .u64 ((IntKind.wrap .u64 c)*2^(min (Int.toNat (32:Int)) (IntKind.bits .u64))))) (IntKind.wrap .u64 ((IntKind.wrap .u64 d)*2^(min (Int.toNat (16:Int)) (IntKind.bits .u64))))) (IntKind.wrap .u64 f))) h))))):Cl 228 [.int .u8 a,.int .u8 b,.int .u32 c,.int .u32 d,.int .u32 f] h K:=cN Tryz.func228 H
end
section
theorem newK_map0{h:Heap}{K:Nat→Heap→Prop}(hK: ∀h',Only [] h h'→K h.size h'):newK h (.map #[] 0) K:=hK _ (Only.push_map h _ _)
set_option maxRecDepth 100000 in
theorem sto_new{h:Heap}{n room:Nat}{Q:Int→Int→Prop}{K:Value→Heap→Prop}(h1:1≤n)(h8:n≤8)(r1:1≤room)(r2:room≤32768)
  (hK: ∀h' s L,Sto h' s L ⟨n,room,fill n,fill n,[],Q,false⟩→Only [] h h'→(∀b∈L,h.size≤b)→K (.tuple #[.pointer (some ⟨s,0,none⟩),.int .i64 0]) h'):
  Cl 61 [.int .i64 (n:Int),.int .i64 (room:Int)] h K:=by
 refine F61.spec _ _ h K ?_
 rw[decide_eq_false (by omega),bcase_false,decide_eq_false (by omega),bcase_false,decide_eq_false (by omega),bcase_false,decide_eq_false (by omega),bcase_false]
 unfold F61.wk5
 simp only[add_mk,Nat.zero_add]
 refine ord_new h1 h8 fun ob k1 Or g1 O1=>ldP_of rfl ?_
 have lo:ob<k1.size:=At.lt Or
 refine newK_at fun k2 A2 O2 z2=> ?_
 refine cells_spec (k:=256) (by omega) (by omega) (ldI_of rfl ?_)
 rw[show(3*256:Int)=((768:Nat):Int)from rfl]
 refine new_spec fun cm cmc k3 M3 O3 g2 g3=>ldP_of rfl ?_
 rw[cellsFor_of (by omega)]at M3
 have l1:=M3.head.lt
 have l2:=M3.body.lt
 refine cacnew_spec (base:=0) (n:=256) M3 (by omega) (by omega) (by simp) (by simp) fun cac k4 C4 O4 g4=>⟨_,_,rfl,?_⟩
 have l3:=At.lt C4
 have A4:=(A2.only O3 (by simp)).only O4 (by simp)
 refine stK_at A4 (by simp) rfl fun k5 A5 O5 z5=> ?_
 have hB: ∃B:SB,B=⟨ob,0,0,0,0,cac,cm,cmc,none,0,none,0⟩:=⟨_,rfl⟩
 obtain⟨B,eB⟩:=hB
 have H5:StR k5 k1.size n room B (fill n) (fill n) [] [] Q:=by
  subst eB
  refine⟨(((Or.only O2 (by simp)).only O3 (by simp)).only O4 (by simp)).only O5 (by simp;omega),Own.nil _ _ _,Win.nil _ _,⟨List.replicate 768 0,0,0,⟨C4.only O5 (by simp;omega),(M3.only O4 (by simp) (by simp)).only O5 (by simp;omega) (by simp;omega),by have:=M3.head.lt;show cac≠cm;omega,by show cac≠cmc;omega,by omega,by omega,by simp,by simp⟩,?_⟩,⟨h1,h8⟩,⟨by simp,r2,by simp⟩,?_⟩
  ·intro l hl
   have: ∀j,(List.replicate 768 (0:Int)).getD j 0=0:=fun j=>by
    rw[List.getD_eq_getElem?_getD,List.getElem?_replicate]
    split<;>rfl
   rw[this]
   exact⟨by omega,by omega,by omega,fun e=>by omega⟩
  ·have:=M3.ne
   simp[SB.bm,OwnB]
   omega
 have:=grows33 (T:=32) (bp:=none) (bc:=0) (bl:=[]) (K:=fun v h'=>(v=(.tuple #[])∧K (.tuple #[(.pointer (some (Addr.mk k1.size 0 none))),(.int .i64 (0:Int))]) h')) (show At k5 k1.size (gcell room B 0 0 false (.pointer none) (.map none)) by subst eB;exact A5) H5 (fun i hi=>absurd hi (by simp)) (fun a e=>by cases e) (by simp) (by rw[era_nil];simp[nd]) (by rw[era_nil];simp[nd]) ⟨0,rfl⟩ (by rw[era_nil];simp[cntN]) (by omega) fun tb m mc sb k6 H6 T6 _ p1 p2 p3 p4 O6=>⟨rfl,?_⟩
 ·exact this
 rw[era_nil]at T6
 have OO:Only [] h k6:=((((((O1.trans O2 (by simp)).trans O3 (by simp)).trans O4 (by simp)).trans O5 (by intro b hb hl;simp at hb;have:=O1.size;omega)).trans O6 (by intro b hb hl;simp at hb;have:=O1.size;omega)))
 have z1:=O1.size
 have z3:=O3.size
 have z4:=O4.size
 refine hK k6 k1.size _ ⟨_,[],rfl,H6,T6,⟨by simp[nd],by simp[nd]⟩,by simp[cntN],by simp⟩ OO fun b hb=> ?_
 subst eB
 simp[SB.bm,SB.bt,SB.tabs,OwnB]at hb
 omega
section
variable {h h':Heap}{s:Nat}{L S:List Nat}{X:SX}{K:Value→Heap→Prop}
theorem sto_order(H:Sto h s L X)(hK: ∀c h',OrdIs h' c X.n X.f X.g→h.size≤c→Only [] h h'→K (.pointer (some ⟨c,0,none⟩)) h'):Cl 47 [.pointer (some ⟨s,0,none⟩)] h K:=by
 obtain⟨B,F,e,H⟩:=H
 refine F47.spec _ h K ?_
 simp only[add_mk,Nat.zero_add]
 refine ldP_of (by rw[At.rd H.m.S];rfl) ?_
 exact ord_copy H.m.O fun c h' a b d=>ldP_of rfl (hK c h' a b d)
end
end
section
def wkey(op mask a b c:Nat):Nat:=op*2^56+(mask*2^48+(a*2^32+(b*2^16+c)))
theorem wkey_inj{op mask a b c op' mask' a' b' c':Nat}(h2:mask<2^8)(h3:a<2^16)(h4:b<2^16)(h5:c<2^16)(g2:mask'<2^8)(g3:a'<2^16)(g4:b'<2^16)(g5:c'<2^16)(e:wkey op mask a b c=wkey op' mask' a' b' c'):
  op=op'∧mask=mask'∧a=a'∧b=b'∧c=c':=by
 unfold wkey at e
 omega
theorem word107{h:Heap}{op mask a b c:Nat}{K:Value→Heap→Prop}(h1:op<2^8)(h2:mask<2^8)(h3:a<2^16)(h4:b<2^16)(h5:c<2^16)(hK:K (.int .u64 ((wkey op mask a b c:Nat):Int)) h):
  Cl 228 [.int .u8 (op:Int),.int .u8 (mask:Int),.int .u32 (a:Int),.int .u32 (b:Int),.int .u32 (c:Int)] h K:=by
 refine F228.spec _ _ _ _ _ h K ?_
 have U: ∀{x:Nat},x<2^64→IntKind.wrap .u64 (x:Int)=(x:Int):=fun h=>wrapU (by unfold U64;omega)
 have e1:IntKind.wrap .u64 ((IntKind.wrap .u64 (op:Int))*2^(min (Int.toNat (56:Int)) (IntKind.bits .u64)))=((op<<<56:Nat):Int):=by
  rw[U (by omega),show min (Int.toNat (56:Int)) (IntKind.bits .u64)=56 by rfl,show(op:Int)*2^56=((op*2^56:Nat):Int) by omega,U (by omega),Nat.shiftLeft_eq]
 have e2:IntKind.wrap .u64 ((IntKind.wrap .u64 (mask:Int))*2^(min (Int.toNat (48:Int)) (IntKind.bits .u64)))=((mask<<<48:Nat):Int):=by
  rw[U (by omega),show min (Int.toNat (48:Int)) (IntKind.bits .u64)=48 by rfl,show(mask:Int)*2^48=((mask*2^48:Nat):Int) by omega,U (by omega),Nat.shiftLeft_eq]
 have e3:IntKind.wrap .u64 ((IntKind.wrap .u64 (a:Int))*2^(min (Int.toNat (32:Int)) (IntKind.bits .u64)))=((a<<<32:Nat):Int):=by
  rw[U (by omega),show min (Int.toNat (32:Int)) (IntKind.bits .u64)=32 by rfl,show(a:Int)*2^32=((a*2^32:Nat):Int) by omega,U (by omega),Nat.shiftLeft_eq]
 have e4:IntKind.wrap .u64 ((IntKind.wrap .u64 (b:Int))*2^(min (Int.toNat (16:Int)) (IntKind.bits .u64)))=((b<<<16:Nat):Int):=by
  rw[U (by omega),show min (Int.toNat (16:Int)) (IntKind.bits .u64)=16 by rfl,show(b:Int)*2^16=((b*2^16:Nat):Int) by omega,U (by omega),Nat.shiftLeft_eq]
 refine⟨by omega,by omega,by omega,by omega,?_⟩
 rw[e1,e2,e3,e4,U (by omega)]
 have s1:op<<<56<U64:=by rw[Nat.shiftLeft_eq];unfold U64;omega
 have s2:mask<<<48<U64:=by rw[Nat.shiftLeft_eq];unfold U64;omega
 have s3:a<<<32<U64:=by rw[Nat.shiftLeft_eq];unfold U64;omega
 have s4:b<<<16<U64:=by rw[Nat.shiftLeft_eq];unfold U64;omega
 have s5:c<U64:=by unfold U64;omega
 rw[bor s1 s2,bor (or_lt s1 s2) s3,bor (or_lt (or_lt s1 s2) s3) s4,bor (or_lt (or_lt (or_lt s1 s2) s3) s4) s5,Nat.or_assoc,Nat.or_assoc,Nat.or_assoc,←Nat.shiftLeft_add_eq_or_of_lt h5,
  ←Nat.shiftLeft_add_eq_or_of_lt (b:=b<<<16+c) (by rw[Nat.shiftLeft_eq];omega),←Nat.shiftLeft_add_eq_or_of_lt (b:=a<<<32+(b<<<16+c)) (by rw[Nat.shiftLeft_eq,Nat.shiftLeft_eq];omega),
  ←Nat.shiftLeft_add_eq_or_of_lt (b:=mask<<<48+(a<<<32+(b<<<16+c))) (by rw[Nat.shiftLeft_eq,Nat.shiftLeft_eq,Nat.shiftLeft_eq];omega)]
 rw[Nat.shiftLeft_eq,Nat.shiftLeft_eq,Nat.shiftLeft_eq,Nat.shiftLeft_eq]
 exact hK
theorem CSound.get{Q:Int→Int→Prop}{cs:List Int}{key v:Int}(S:CSound Q cs)(G:GetRel (lineOf 0 256 key) key cs v true):Q key v:=by
 rcases G with⟨-,h1,h2,h3⟩|⟨h,-⟩
 ·have hl:=home_lt key (n:=256) (by omega)
  obtain⟨a,b,c,d⟩:=S (home key 256) hl
  unfold lineOf at h1 h2 h3
  rw[Nat.zero_add]at h1 h2 h3
  rw[and_three a b]at h1
  rw[←h2,h3]
  exact d h1
 ·cases h
theorem CSound.put{Q:Int→Int→Prop}{cs cs':List Int}{key v:Int}(S:CSound Q cs)(G:PutRel (lineOf 0 256 key) key v cs cs')(hq:Q key v):CSound Q cs':=by
 obtain⟨h1,h2,h3⟩:=G
 have hl:=home_lt key (n:=256) (by omega)
 unfold lineOf at h2 h3
 generalize home key 256=y at hl h2 h3
 rw[Nat.zero_add]at h2 h3
 rcases h3 with⟨h4,h5,h6,h7⟩|⟨-,h4⟩
 ·intro l hl'
  by_cases e:l=y
  ·subst e
   obtain⟨a,b,c,d⟩:=S l hl'
   rw[or_two a b]at h5
   rw[h5,h6,h7]
   have w:=wrap_u64' (4*(cs.getD (3*l) 0/4)+2+cs.getD (3*l) 0%2+4)
   rw[w]
   refine⟨by omega,by omega,by omega,fun _=>hq⟩
  ·rw[h2 (3*l) (by omega) (by omega) (by omega),h2 (3*l+1) (by omega) (by omega) (by omega),h2 (3*l+2) (by omega) (by omega) (by omega)]
   exact S l hl'
 ·subst h4
  exact S
theorem go229:xget X 229=some Ext.go:=by kernel_rfl
section
variable {h:Heap}{s:Nat}{L S:List Nat}{X:SX}{K:Value→Heap→Prop}
theorem recall_loop{c m mc f:Nat}{cs:List Int}{ops fails:Int}{key:Int}(W:CW h c m mc 0 256 cs ops fails)(H:ActIs h f m (getA 0 256 key))(d1:f≠c)(d2:f≠m)(d3:f≠mc)
  (hK: ∀h' ops' fails' v ok,GetRel (lineOf 0 256 key) key cs v ok→CW h' c m mc 0 256 cs ops' fails'→Only [f,m,mc] h h'→K (.tuple #[.int .u32 (IntKind.wrap .u32 v),.bool ok]) h'):
  F182.wk5 (some ⟨f,0,none⟩) (.func (.func 229) #[.pointer (some ⟨f,0,none⟩)] #[]) h K:=by
 unfold F182.wk5
 have main: ∀(d:Nat) (A:Ac) (h1:Heap) (ops1 fails1:Int),9-A.ph≤d→A.ph≤8→GInv cs A→A.pos=lineOf 0 256 key→A.key=key→ActIs h1 f m A→CW h1 c m mc 0 256 cs ops1 fails1→Only [f,m,mc] h h1→
   F182.wL5 (d+1) (some ⟨f,0,none⟩) (.func (.func 229) #[.pointer (some ⟨f,0,none⟩)] #[]) h1 K:=by
  intro d
  induction d with
  |zero=>intro A h1 ops1 fails1 hg hp;omega
  |succ d ih=>
   intro A h1 ops1 fails1 hg hph G hp hk H1 W1 O1
   rw[F182.sL5]
   refine dynK_go go229 ?_
   refine stepA_cw W1 H1 (by rw[hp];exact W1.pos key) hph d1 d2 d3 fun h2 ops2 fails2 H2 W2 O2=>ldB_of rfl ?_
   obtain⟨s1,s2,s3,s4⟩:=G.step
   rw[s1]at W2
   have O12:=O1.trans O2 fun b hb _=>hb
   rcases s4 with⟨e,r⟩|⟨G',e⟩
   ·rw[e,Bool.not_true,bcase_false]
    unfold F182.wk6
    refine got_spec H2 ⟨_,_,rfl,?_⟩
    rw[hp,hk]at r
    exact hK h2 ops2 fails2 _ _ r W2 O12
   ·rw[G'.1,Bool.not_false,bcase_true]
    have hp8:(stepA cs A).1.ph≤8:=by
     rcases G'.2.2 with e'|⟨e',_⟩|⟨e',_⟩|⟨e',_⟩<;>omega
    exact ih _ h2 ops2 fails2 (by omega) hp8 G' (s2.trans hp) (s3.trans hk) H2 W2 O12
 exact⟨_,main 5 (getA 0 256 key) h ops fails (by show 9-5≤5;omega) (by show 5≤8;omega) ⟨rfl,rfl,Or.inl rfl⟩ rfl rfl H W (Only.refl _ _)⟩
theorem note_loop{c m mc f:Nat}{cs:List Int}{ops fails:Int}{key val:Int}(W:CW h c m mc 0 256 cs ops fails)(H:ActIs h f m (putA 0 256 key val))(d1:f≠c)(d2:f≠m)(d3:f≠mc)
  (hK: ∀h' ops' fails' cs',PutRel (lineOf 0 256 key) key val cs cs'→CW h' c m mc 0 256 cs' ops' fails'→Only [f,m,mc] h h'→K (.tuple #[]) h'):
  F207.wk3 (.func (.func 229) #[.pointer (some ⟨f,0,none⟩)] #[]) h K:=by
 unfold F207.wk3
 have main: ∀(d:Nat) (A:Ac) (cs1:List Int) (h1:Heap) (ops1 fails1:Int),5-A.ph≤d→A.ph≤4→PInvA cs cs1 A→A.pos=lineOf 0 256 key→A.key=key→A.val=val→ActIs h1 f m A→CW h1 c m mc 0 256 cs1 ops1 fails1→Only [f,m,mc] h h1→
   F207.wL3 (d+1) (.func (.func 229) #[.pointer (some ⟨f,0,none⟩)] #[]) h1 K:=by
  intro d
  induction d with
  |zero=>intro A cs1 h1 ops1 fails1 hg hp;omega
  |succ d ih=>
   intro A cs1 h1 ops1 fails1 hg hph G hp hk hv H1 W1 O1
   rw[F207.sL3]
   refine dynK_go go229 ?_
   refine stepA_cw W1 H1 (by rw[hp];exact W1.pos key) (by omega) d1 d2 d3 fun h2 ops2 fails2 H2 W2 O2=>ldB_of rfl ?_
   obtain⟨s2,s3,s3',s4⟩:=G.step (by rw[hp];exact W.pos key)
   have O12:=O1.trans O2 fun b hb _=>hb
   rcases s4 with⟨e,eo,r⟩|⟨G',e⟩
   ·rw[e,Bool.not_true,bcase_false]
    rw[hp,hk,hv]at r
    exact hK h2 ops2 fails2 _ r W2 O12
   ·rw[G'.1,Bool.not_false,bcase_true]
    have hp4:(stepA cs1 A).1.ph≤4:=by
     rcases G'.2.2 with⟨e',_⟩|⟨_,_,⟨e',_⟩|⟨e',_⟩|⟨e',_⟩|⟨e',_⟩⟩<;>omega
    exact ih _ _ h2 ops2 fails2 (by omega) hp4 G' (s2.trans hp) (s3.trans hk) (s3'.trans hv) H2 W2 O12
 exact⟨_,main 5 (putA 0 256 key val) cs h ops fails (by show 5-0≤5;omega) (Nat.zero_le _) ⟨rfl,rfl,Or.inl ⟨rfl,rfl⟩⟩ rfl rfl rfl H W (Only.refl _ _)⟩
theorem cac_only{B:SB}{F:List Nat}{h':Heap}(H:StIs h s X.n X.room B X.f X.g X.N F X.Q X.off)(O:Only [B.cm,B.cmc] h h')(C:CacOk h' B X.Q):StIs h' s X.n X.room B X.f X.g X.N F X.Q X.off:=by
 have sp:=H.m.sep
 have ts:=H.t.sep
 have n1: ∀b,b∈[s,B.ob]++OwnB B.p++OwnB B.fp→b∉[B.cm,B.cmc]:=fun b hb hm=>by
  unfold SB.bm at sp
  simp only[List.nodup_append,List.mem_append,ne_eq,List.nodup_cons,List.mem_cons,List.not_mem_nil,or_false,not_or]at sp
  obtain⟨⟨g1,_,g2⟩,_,g4⟩:=sp
  have hc:b=s∨b=B.ob∨b=B.cac∨b=B.cm∨b=B.cmc:=by simp at hm;omega
  simp only[List.mem_append,List.mem_cons,List.not_mem_nil,or_false]at hb hm
  rcases hb with(hb|hb)|hb
  ·omega
  ·exact g2 b hc b hb rfl
  ·exact g4 b (.inl hc) b hb rfl
 refine⟨⟨H.m.S.only O (n1 _ (by simp)),H.m.O.only O (n1 _ (by simp)),H.m.own.only O fun b hb=>n1 _ (by simp[hb,OwnB]),H.m.fre.only O fun b hb=>n1 _ (by simp[hb]),C,H.m.n8,H.m.len,H.m.sep⟩,H.t.only O fun b hb hm=>ts b hm (by simp[SB.bm]at hb ⊢;omega),H.ok,H.cnt,H.fre⟩
theorem sto_recall(H:Sto h s L X){op mask a b c:Nat}(h1:op<2^8)(h2:mask<2^8)(h3:a<2^16)(h4:b<2^16)(h5:c<2^16)
  (hN: ∀h',Sto h' s L X→Only L h h'→K (.tuple #[.int .u32 0,.bool false]) h') (hY: ∀h' v,X.Q (wkey op mask a b c:Nat) v→Sto h' s L X→Only L h h'→K (.tuple #[.int .u32 (IntKind.wrap .u32 v),.bool true]) h'):
  Cl 182 [.pointer (some ⟨s,0,none⟩),.int .u8 (op:Int),.int .u8 (mask:Int),.int .u32 (a:Int),.int .u32 (b:Int),.int .u32 (c:Int)] h K:=by
 have H0:=H
 obtain⟨B,F,e,H⟩:=H
 obtain⟨cs,o,f',W,S⟩:=H.m.cac
 refine F182.spec _ _ _ _ _ _ h K ?_
 simp only[add_mk,Nat.zero_add]
 refine ldB_of (n:=X.off) (by rw[At.rd H.m.S];rfl) (bcase_of (fun _=>hN h H0 (Only.refl _ _)) fun _=> ?_)
 have rc:rd h ⟨s,6,none⟩=some (.pointer (some ⟨B.cac,0,none⟩)):=by rw[At.rd H.m.S];rfl
 refine ldP_of rc (word107 h1 h2 h3 h4 h5 (ldI_of rfl ⟨trivial,trivial,trivial,ldP_of rc ⟨rfl,?_⟩⟩))
 refine get_spec W.cac (by omega) (by omega) (by omega) fun f k1 A1 O1 g1=>ldP_of rfl ?_
 have wl:=W.lt
 refine recall_loop (W.only O1 (by simp) (by simp) (by simp)) A1 (by omega) (by omega) (by omega) fun h' ops' fails' v ok G W' O'=> ?_
 have OO:Only [B.cm,B.cmc] h h':=((Only.refl [B.cm,B.cmc] h).trans O1 (by simp)).trans O' (by intro x hx hl;simp at hx ⊢;omega)
 have S':Sto h' s L X:=⟨B,F,e,cac_only H OO ⟨cs,ops',fails',W',S⟩⟩
 have OL:Only L h h':=OO.mono fun x hx _=>by
  subst e
  simp[SB.bm]at hx ⊢
  omega
 cases ok with
 |true=>exact hY h' v (S.get G) S' OL
 |false=>
  rcases G with⟨g,-⟩|⟨-,g,-⟩
  ·cases g
  ·subst g
   exact hN h' S' OL
theorem sto_note(H:Sto h s L X){op mask a b c r:Nat}(h1:op<2^8)(h2:mask<2^8)(h3:a<2^16)(h4:b<2^16)(h5:c<2^16)(h6:r<2^32)(hq:X.Q (wkey op mask a b c:Nat) (r:Int))
  (hK: ∀h',Sto h' s L X→Only L h h'→K (.tuple #[]) h'):
  Cl 207 [.pointer (some ⟨s,0,none⟩),.int .u8 (op:Int),.int .u8 (mask:Int),.int .u32 (a:Int),.int .u32 (b:Int),.int .u32 (c:Int),.int .u32 (r:Int)] h K:=by
 have H0:=H
 obtain⟨B,F,e,H⟩:=H
 obtain⟨cs,o,f',W,S⟩:=H.m.cac
 refine F207.spec _ _ _ _ _ _ _ h K ?_
 simp only[add_mk,Nat.zero_add]
 refine ldB_of (n:=X.off) (by rw[At.rd H.m.S];rfl) (bcase_of (fun _=>hK h H0 (Only.refl _ _)) fun _=> ?_)
 have rc:rd h ⟨s,6,none⟩=some (.pointer (some ⟨B.cac,0,none⟩)):=by rw[At.rd H.m.S];rfl
 refine ldP_of rc (word107 h1 h2 h3 h4 h5 (ldI_of rfl ⟨trivial,trivial,trivial,ldP_of rc ⟨rfl,by trivial,by trivial,?_⟩⟩))
 rw[wrapU (a:=r) (by unfold U64;omega)]
 refine put_spec W.cac (by omega) (by omega) (by omega) fun f k1 A1 O1 g1=>ldP_of rfl ?_
 have wl:=W.lt
 refine note_loop (W.only O1 (by simp) (by simp) (by simp)) A1 (by omega) (by omega) (by omega) fun h' ops' fails' cs' G W' O'=> ?_
 have OO:Only [B.cm,B.cmc] h h':=((Only.refl [B.cm,B.cmc] h).trans O1 (by simp)).trans O' (by intro x hx hl;simp at hx ⊢;omega)
 have S':Sto h' s L X:=⟨B,F,e,cac_only H OO ⟨cs',ops',fails',W',S.put G hq⟩⟩
 have OL:Only L h h':=OO.mono fun x hx _=>by
  subst e
  simp[SB.bm]at hx ⊢
  omega
 exact hK h' S' OL
end
end
section
end
section
end
section
end
section
end
section
theorem wr_put{h:Heap}{b:Nat}{g0 g:Nat→Nat}{K:Heap→Prop}(A:At h b (wrow g0))(hK: ∀h',At h' b (wrow g)→Only [b] h h'→K h'):
  stK h (Addr.add ⟨b,0,none⟩ 0) (.int .u64 ((g 0:Nat):Int)) fun h1=>stK h1 (Addr.add ⟨b,0,none⟩ 1) (.int .u64 ((g 1:Nat):Int)) fun h2=>stK h2 (Addr.add ⟨b,0,none⟩ 2) (.int .u64 ((g 2:Nat):Int)) fun h3=>stK h3 (Addr.add ⟨b,0,none⟩ 3) (.int .u64 ((g 3:Nat):Int)) K:=by
 simp only[add_mk,Nat.zero_add]
 exact wr_st A (by decide) fun h1 C1 O1=>wr_st C1 (by decide) fun h2 C2 O2=>wr_st C2 (by decide) fun h3 C3 O3=>wr_st C3 (by decide) fun h4 C4 O4=>
  hK h4 C4 (((O1.trans O2 (by simp)).trans O3 (by simp)).trans O4 (by simp))
theorem bit_and: ∀y:Fin 256,∀v:Fin 8,(bitsI .and .i64 (Int.fdiv ((y.1:Nat):Int) (2^(min (Int.toNat (IntKind.wrap .u64 ((v.1:Nat):Int))) (IntKind.bits .i64)))) 1==1)=y.1.testBit v.1:=by decide+kernel
set_option maxRecDepth 100000 in
theorem var28{h:Heap}{v:Int}{K:Value→Heap→Prop}
  (hK: ∀h' g,WOk g→(∀y,y<256→fb g y=(decide (0≤v∧v<8)&&y.testBit v.toNat))→Only [] h h'→K (aggW g) h'):Cl 33 [.int .i64 v] h K:=by
 refine F33.spec _ h K ?_
 refine newK_at fun h1 A1 O1 z1=>newK_at fun h2 A2 O2 z2=> ?_
 replace A1:At h1 h.size (wrow fun _=>0):=A1
 replace A2:At h2 h1.size (wrow fun _=>0):=A2
 have B1:=A1.only O2 (by simp)
 have hne:h1.size≠h.size:=by omega
 refine wr_put (g:=fun _=>0) A2 fun h3 A3 O3=> ?_
 have B3:=B1.only O3 (by simp;omega)
 have O03:Only [] h h3:=(O1.trans O2 (by simp)).trans O3 (by intro b hb hlt;simp at hb;omega)
 unfold F33.wk3
 by_cases hv:0≤v∧v<8
 ·obtain⟨n,rfl⟩: ∃n:Nat,v=n:=⟨v.toNat,by omega⟩
  have hn:n<8:=by omega
  have main: ∀(d k:Nat) (g:Nat→Nat) (h':Heap),k+d=256→WOk g→(∀y,y<256→fb g y=(y.testBit n&&decide (y<k)))→At h' h1.size (wrow g)→At h' h.size (wrow fun _=>0)→Only [] h h'→
    F33.wL3 (d+1) n ⟨h.size,0,none⟩ ⟨h1.size,0,none⟩ k h' K:=by
   intro d
   induction d with
   |zero=>
    intro k g h' hd hg hf A C O
    rw[F33.sL3]
    rw[show decide ((k:Int)<256)=false by simp;omega,bcase_false]
    refine copy4 A C hne fun h'' O''=>hK h'' g hg (fun y hy=> ?_) (O.trans O'' (by intro b hb hlt;simp at hb;omega))
    rw[hf y hy,decide_eq_true (by omega),Bool.and_true,decide_eq_true hv,Bool.true_and,Int.toNat_natCast]
   |succ d ih=>
    intro k g h' hd hg hf A C O
    rw[F33.sL3]
    have e:=bit_and ⟨k,by omega⟩ ⟨n,hn⟩
    dsimp only at e
    rw[show decide ((k:Int)<256)=true by simp;omega,bcase_true,show decide ((n:Int)≥0)=true by simp,bcase_true,show decide ((n:Int)<8)=true by simp;omega,bcase_true,e,
     wrap8 (by omega),show IntKind.wrap .i64 ((k:Int)+1)=((k+1:Nat):Int) by rw[wrap_i64 (by omega) (by omega)];omega,wrapU (a:=n) (by unfold U64;omega)]
    refine⟨by omega,?_⟩
    refine set51 A hg (by omega) fun h'' A'' O''=>⟨rfl,ih (k+1) _ h'' (by omega) (sbit_ok hg) (fun y hy=> ?_) A'' (C.only O'' (by simp;omega)) (O.trans O'' (by intro b hb hlt;simp at hb;omega))⟩
    rw[sbit_fb,hf y hy]
    by_cases e:y=k
    ·subst e;simp
    ·by_cases l:y<k
     ·simp[e,l,show y<k+1 by omega]
     ·simp[e,l,show ¬y<k+1 by omega]
  exact⟨_,main 256 0 _ h3 rfl (fun _ _=>by decide) (fun y _=>by rw[zero_fb];simp) A3 B3 O03⟩
 ·refine⟨1,?_⟩
  rw[F33.sL3]
  rw[show decide ((0:Int)<256)=true by decide,bcase_true]
  have out: ∀h',Only [h.size] h3 h'→K (aggW fun _=>0) h':=fun h' O=>hK h' _ (fun _ _=>by decide) (fun y _=>by rw[zero_fb,decide_eq_false hv,Bool.false_and]) (O03.trans O (by intro b hb hlt;simp at hb;omega))
  refine bcase_of (fun hb=> ?_) fun hb=> ?_
  ·have hb:=of_decide_eq_true hb
   rw[decide_eq_false (by omega),bcase_false]
   exact copy4 A3 B3 hne out
  ·exact copy4 A3 B3 hne out
end
section
theorem rd4{h:Heap}{b:Nat}{g:Nat→Nat}{K:Int→Int→Int→Int→Prop}(A:At h b (wrow g))(hK:K (g 0:Int) (g 1:Int) (g 2:Int) (g 3:Int)):
  ldI .u64 (rd h (Addr.add ⟨b,0,none⟩ 0)) fun n1=>ldI .u64 (rd h (Addr.add ⟨b,0,none⟩ 1)) fun n2=>ldI .u64 (rd h (Addr.add ⟨b,0,none⟩ 2)) fun n3=>ldI .u64 (rd h (Addr.add ⟨b,0,none⟩ 3)) fun n4=>K n1 n2 n3 n4:=by
 simp only[add_mk,Nat.zero_add]
 exact ldI_of (wr_rd A (by decide)) (ldI_of (wr_rd A (by decide)) (ldI_of (wr_rd A (by decide)) (ldI_of (wr_rd A (by decide)) hK)))
def vrow(n:Nat)(f:Nat→Nat):List Value:=((List.range n).map fun i=>(f i:Int)).map (.int .i64)
end
section
end
section
theorem eq4{g c:Nat→Nat}(hg:WOk g)(hc:WOk c):(((g 0:Int)==(c 0:Int))&&(((g 1:Int)==(c 1:Int))&&(((g 2:Int)==(c 2:Int))&&(((g 3:Int)==(c 3:Int))&&true))))=true↔ ∀y,y<256→fb g y=fb c y:=by
 simp only[Bool.and_eq_true,beq_iff_eq,and_true]
 constructor
 ·rintro ⟨h0,h1,h2,h3⟩ y hy
  unfold fb
  have:y/64=0∨y/64=1∨y/64=2∨y/64=3:=by omega
  rcases this with e|e|e|e<;>rw[e]<;>congr 1<;>omega
 ·intro h
  have:=fb_ext hg hc h
  exact⟨by rw[this 0 (by omega)],by rw[this 1 (by omega)],by rw[this 2 (by omega)],by rw[this 3 (by omega)]⟩
end
section
def opB(op:Nat)(x y z:Bool):Bool:=if op=2 then x&&y else if op=3 then x||y else if op=4 then x !=y else if x then y else z
structure OpR(n:Nat)(f:Nat→Nat)(N:List (Option Nd))(op a b c r:Nat):Prop where
 is:isN N r
 lv: ∀k,k≤lvl n N a→k≤lvl n N b→k≤lvl n N c→k≤lvl n N r
 sm: ∀x,sm n f N r x=opB op (sm n f N a x) (sm n f N b x) (sm n f N c x)
theorem OpR.ext{n:Nat}{f:Nat→Nat}{N N':List (Option Nd)}{op a b c r:Nat}(R:OpR n f N op a b c r)(H:NOk n N)(E:Ex N N')(ha:isN N a)(hb:isN N b)(hc:isN N c):OpR n f N' op a b c r:=
 ⟨E.isN R.is,fun k h1 h2 h3=>by
  rw[E.lvl ha]at h1
  rw[E.lvl hb]at h2
  rw[E.lvl hc]at h3
  rw[E.lvl R.is]
  exact R.lv k h1 h2 h3,fun x=>by rw[E.sm H R.is,E.sm H ha,E.sm H hb,E.sm H hc,R.sm]⟩
def QL(n:Nat)(f:Nat→Nat)(N:List (Option Nd))(k v:Int):Prop:= ∃op mask a b c r:Nat,k=(wkey op mask a b c:Nat)∧v=(r:Int)∧mask<2^8∧isN N a∧isN N b∧isN N c∧a<2^16∧b<2^16∧c<2^16∧
 ((op<6∧mask=0∧OpR n f N op a b c r)∨((op=6∨op=7)∧QR n f N op mask a r))
theorem QL.ext{n:Nat}{f:Nat→Nat}{N N':List (Option Nd)}{k v:Int}(Q:QL n f N k v)(H:NOk n N)(E:Ex N N'):QL n f N' k v:=by
 obtain⟨op,mask,a,b,c,r,h1,h2,h3,h4,h5,h6,h7,h8,h9,R⟩:=Q
 exact⟨op,mask,a,b,c,r,h1,h2,h3,E.isN h4,E.isN h5,E.isN h6,h7,h8,h9,R.imp (fun⟨x,y,R⟩=>⟨x,y,R.ext H E h4 h5 h6⟩) fun⟨x,R⟩=>⟨x,R.ext H E h4⟩⟩
theorem QL.get{n:Nat}{f:Nat→Nat}{N:List (Option Nd)}{op a b c:Nat}{v:Int}(h6:op<6)(Q:QL n f N (wkey op 0 a b c:Nat) v)(ha:a<2^16)(hb:b<2^16)(hc:c<2^16): ∃r:Nat,v=r∧OpR n f N op a b c r:=by
 obtain⟨op',mask',a',b',c',r,h1,h2,h3,-,-,-,h7,h8,h9,R⟩:=Q
 obtain⟨e1,e0,e2,e3,e4⟩:=wkey_inj (by decide) ha hb hc h3 h7 h8 h9 (Int.ofNat.inj h1)
 subst e1 e0 e2 e3 e4
 rcases R with⟨-,-,R⟩|⟨h,-⟩
 ·exact⟨r,h2,R⟩
 ·omega
theorem sto_Q{h:Heap}{s:Nat}{L:List Nat}{X:SX}(H:Sto h s L X){Q':Int→Int→Prop}(hQ: ∀k v,X.Q k v→Q' k v):Sto h s L {X with Q:=Q'}:=by
 obtain⟨B,F,e,H⟩:=H
 obtain⟨cs,o,fl,c1,c2⟩:=H.m.cac
 refine⟨B,F,e,⟨⟨H.m.S,H.m.O,H.m.own,H.m.fre,⟨cs,o,fl,c1,fun l hl=> ?_⟩,H.m.n8,H.m.len,H.m.sep⟩,H.t,H.ok,H.cnt,H.fre⟩⟩
 obtain⟨g1,g2,g3,g4⟩:=c2 l hl
 exact⟨g1,g2,g3,fun e=>hQ _ _ (g4 e)⟩
def XL(n room:Nat)(f g:Nat→Nat)(N:List (Option Nd))(off:Bool):SX:=⟨n,room,f,g,N,QL n f N,off⟩
theorem sto_XL{h:Heap}{s n room:Nat}{f g:Nat→Nat}{L:List Nat}{N N':List (Option Nd)}{off:Bool}(H:Sto h s L {XL n room f g N off with N:=N'})(ok:NOk n N)(E:Ex N N'):Sto h s L (XL n room f g N' off):=
 sto_Q H fun _ _ h=>QL.ext h ok E
theorem lvl_end{n:Nat}{N:List (Option Nd)}{a:Nat}(h:a<2):lvl n N a=n:=by unfold lvl;rw[if_pos h]
theorem eq_cast{a b:Nat}:((a:Int)==(b:Int))=decide (a=b):=by
 by_cases h:a=b
 ·subst h;simp
 ·rw[decide_eq_false h]
  simp
  omega
end
section
theorem F135.spec(d:Addr)(f g a b c:Int)(h:Heap)(K:KK)(H:newK h (.cells #[.int .u32 a,.int .u32 b,.int .u32 c] 115) fun b1 h2=>ldI .u32 (rd h2 ((Addr.mk b1 0 none).add 0)) fun n3=>ldI .u32 (rd h2 ((Addr.mk b1 0 none).add 1)) fun n4=>ldI .u32 (rd h2 ((Addr.mk b1 0 none).add 2)) fun n5=>newK h2 (.cells #[.pointer (some d),.int .u8 f,.int .u8 g,.int .u32 n3,.int .u32 n4,.int .u32 n5,.int .i64 0,.int .u32 0,.nilFunc] 232) fun b6 h7=>stK h7 (((Addr.mk b6 0 none).add 8).add 0) (.func (.func 180) #[.pointer (some (Addr.mk b6 0 none))] #[]) fun h8=>ldS (rd h8 (d.add 1)) fun p9 l10 c11=>newK h8 (.cells #[.pointer (some (Addr.mk b6 0 none))] 229) fun b12 h13=>appK h13 229 1 8 #[.pointer none] p9 l10 c11 (some (Addr.mk b12 0 none)) 1 fun p14 l15 c16 h17=>stK h17 ((d.add 1).add 0) (.slice p14 l15 c16) fun h18=>K (.pointer (some (Addr.mk b6 0 none))) h18):Cl 135 [.pointer (some d),.int .u8 f,.int .u8 g,.agg #[.int .u32 a,.int .u32 b,.int .u32 c]] h K:=cN Tryz.func135 H
def F114.T:Hint:=⟨[(2,[0,3]),(4,[0])],[(3,[[(0,[]),(1,[]),(2,[]),(3,[]),(4,[]),(5,[]),(6,[]),(7,[]),(8,[]),(9,[]),(10,[]),(11,[]),(12,[]),(13,[]),(14,[]),(15,[])]])]⟩
section
variable (n:Nat)(a:Addr)(b:Int)(h:Heap)(K:KK)
def F114.wk4:Prop:=ldB (rd h (a.add 3)) fun b1=>K (.bool b1) h
def F114.wL2:Prop:=Lp Tryz.f114 F114.T [1,1,0,0] n [(0,(.pointer (some a))),(3,(.int .i64 b))] h K
theorem F114.sL2:F114.wL2 (n+1) a b h K=(ldB (rd h (a.add 3)) fun b1=>bcase (!b1) (ldP (rd h (a.add 0)) fun p2=>Cl 45 [.pointer p2] h fun v3 h4=>ldI .i64 (some v3) fun n5=>bcase (n5==b) (ldS (rd h4 (a.add 1)) fun p6 l7 _=>ldS (rd h4 (a.add 1)) fun _ l10 _=>ptrK p6 fun a12=>0≤(IntKind.wrap .i64 ((Nat.cast l10:Int)-(1:Int)))∧(IntKind.wrap .i64 ((Nat.cast l10:Int)-(1:Int)))<(Nat.cast l7:Int)∧ldP (rd h4 (a12.add (Int.toNat (IntKind.wrap .i64 ((Nat.cast l10:Int)-(1:Int)))*1))) fun p13=>ptrK p13 fun a14=>ldV (rd h4 (a14.add 8)) fun v15=>dynK Tryz.prog X v15 [] h4 fun v16 h17=>v16=(.tuple #[])∧F114.wL2 n a b h17 K) (F114.wk4 a h4 K)) (F114.wk4 a h K)):=by kernel_rfl
def F114.wk2:Prop:=(∃m,F114.wL2 m a b h K)
theorem F114.spec(H:ldP (rd h (a.add 0)) fun p1=>Cl 45 [.pointer p1] h fun v2 h3=>ldI .i64 (some v2) fun n4=>F114.wk2 a n4 h3 K):Cl 114 [.pointer (some a)] h K:=cT F114.T Tryz.func114 H
end
def F180.T:Hint:=⟨[(4,[0,2,3,4]),(6,[0,2,3,4]),(10,[0,2,67,68]),(14,[0,2])],[(5,[[(0,[]),(1,[]),(2,[]),(3,[]),(4,[]),(5,[]),(6,[]),(7,[]),(8,[]),(9,[]),(10,[]),(11,[]),(12,[]),(13,[]),(14,[]),(15,[]),(16,[]),(17,[]),(18,[]),(19,[]),(20,[]),(21,[]),(22,[]),(23,[]),(24,[]),(25,[])]]),(12,[[(0,[]),(1,[]),(2,[]),(3,[]),(4,[]),(5,[]),(6,[]),(7,[0,1,2,3,4]),(8,[]),(9,[]),(10,[]),(11,[])]]),(15,[[(0,[]),(1,[]),(2,[]),(3,[]),(4,[]),(5,[]),(6,[]),(7,[]),(8,[]),(9,[]),(10,[]),(11,[0,1,2,3,4,5,6,7]),(12,[])]])]⟩
section
variable (n:Nat)(a:Addr)(g:Option Addr)(j:Int)(i:Bool)(b c d f:Int)(h:Heap)(K:KK)
def F180.JL10(bk10:Addr→(Option Addr)→Int→Int→Int→Int→Heap→Prop)(k14:Addr→(Option Addr)→Heap→Prop)(a:Addr)(g:Option Addr)(b c d f:Int)(h:Heap)(_K:KK):Prop:=bcase (decide (f<(3:Int))) ((0≤f∧f<(Nat.cast 3:Int)∧ldI .u32 ([.int .u32 b,.int .u32 c,.int .u32 d]:List Value)[Int.toNat f]? (fun n1=>ldI .i64 (rd h (a.add 6)) fun n2=>Cl 71 [.pointer g,.int .u32 n1] h fun v3 h4=>ldI .i64 (some v3) fun n5=>((.pointer (some a))=((.pointer (some a)):Value)∧((.pointer (some a))=((.pointer (some a)):Value)∧((.pointer (some a))=((.pointer (some a)):Value)∧((.pointer (some (a.add 6)))=((.pointer (some (a.add 6))):Value)∧ldI .i64 (rd h4 (a.add 6)) fun n6=>((.int .i64 n6)=((.int .i64 n2):Value)∧stK h4 ((a.add 6).add 0) (.int .i64 (if n5<n2 then n5 else n2)) fun h7=>bk10 a g b c d (IntKind.wrap .i64 (f+(1:Int))) h7)))))))) (k14 a g h)
def F180.wk14:Prop:=stK h ((a.add 8).add 0) (.func (.func 225) #[.pointer (some a)] #[]) fun h1=>ldP (rd h1 (a.add 0)) fun p2=>ldI .u8 (rd h1 (a.add 1)) fun n3=>Cl 226 [.pointer (some a),.func (.func 72) #[.pointer g] #[]] h1 fun v4 h5=> ∃n6:Int,∃n7:Int,∃n8:Int,v4=(.agg #[.int .u32 n6,.int .u32 n7,.int .u32 n8])∧((.pointer (some a))=((.pointer (some a)):Value)∧((.pointer (some a))=((.pointer (some a)):Value)∧((.pointer (some (a.add 0)))=((.pointer (some (a.add 0))):Value)∧ldP (rd h5 (a.add 0)) fun p9=>((.pointer p9)=((.pointer p2):Value)∧((.pointer (some a))=((.pointer (some a)):Value)∧((.pointer (some a))=((.pointer (some a)):Value)∧((.pointer (some (a.add 1)))=((.pointer (some (a.add 1))):Value)∧ldI .u8 (rd h5 (a.add 1)) fun n10=>((.int .u8 n10)=((.int .u8 n3):Value)∧Cl 135 [.pointer p2,.int .u8 n3,.int .u8 0,.agg #[.int .u32 n6,.int .u32 n7,.int .u32 n8]] h5 fun v11 h12=>ldP (some v11) fun _=>K (.tuple #[]) h12))))))))
def F180.wL10:Prop:=Lp Tryz.f180 F180.T [1,1,1,1,1,1,0,1,0] n [(0,(.pointer (some a))),(2,(.pointer g)),(67,(.agg #[.int .u32 b,.int .u32 c,.int .u32 d])),(68,(.int .i64 f))] h K
theorem F180.sL10:F180.wL10 (n+1) a g b c d f h K=(F180.JL10 (fun a g b c d f h=>F180.wL10 n a g b c d f h K) (fun a g h=>F180.wk14 a g h K) a g b c d f h K):=by kernel_rfl
def F180.wk10:Prop:=(∃m,F180.wL10 m a g b c d f h K)
def F180.wk6:Prop:=bcase i (ldP (rd h (a.add 0)) fun p1=>Cl 181 [.pointer p1,.int .u32 j] h fun v2 h3=>v2=(.tuple #[])∧K (.tuple #[]) h3) (Cl 75 [.pointer g] h fun v4 h5=>ldI .i64 (some v4) fun n6=>stK h5 ((a.add 6).add 0) (.int .i64 n6) fun h7=>ldI .u32 (rd h7 ((a.add 3).add 0)) fun n8=>ldI .u32 (rd h7 ((a.add 3).add 1)) fun n9=>ldI .u32 (rd h7 ((a.add 3).add 2)) fun n10=>F180.wk10 a g n8 n9 n10 (0:Int) h7 K)
def F180.wk4:Prop:=bcase (!i) (ldI .u8 (rd h (a.add 1)) fun n1=>0≤(0:Int)∧(0:Int)<(Nat.cast 3:Int)∧ldI .u32 (rd h ((a.add 3).add (Int.toNat (0:Int)*1))) fun n2=>0≤(1:Int)∧(1:Int)<(Nat.cast 3:Int)∧ldI .u32 (rd h ((a.add 3).add (Int.toNat (1:Int)*1))) fun n3=>0≤(2:Int)∧(2:Int)<(Nat.cast 3:Int)∧ldI .u32 (rd h ((a.add 3).add (Int.toNat (2:Int)*1))) fun n4=>Cl 182 [.pointer g,.int .u8 n1,.int .u8 0,.int .u32 n2,.int .u32 n3,.int .u32 n4] h fun v5 h6=> ∃n7:Int,∃b8:Bool,v5=(.tuple #[.int .u32 n7,.bool b8])∧F180.wk6 a g n7 b8 h6 K) (F180.wk6 a g j i h K)
theorem F180.spec(H:ldP (rd h (a.add 0)) fun p1=>ptrK p1 fun a2=>ldP (rd h (a2.add 0)) fun p3=>Cl 223 [.pointer (some a)] h fun v4 h5=> ∃n6:Int,∃b7:Bool,v4=(.tuple #[.int .u32 n6,.bool b7])∧bcase (!b7) (Cl 224 [.pointer (some a)] h5 fun v8 h9=> ∃n10:Int,∃b11:Bool,v8=(.tuple #[.int .u32 n10,.bool b11])∧F180.wk4 a p3 n10 b11 h9 K) (F180.wk4 a p3 n6 b7 h5 K)):Cl 180 [.pointer (some a)] h K:=cT F180.T Tryz.func180 H
end
def F181.T:Hint:=⟨[],[(1,[[(0,[]),(1,[]),(2,[]),(3,[]),(4,[]),(5,[]),(6,[]),(7,[]),(8,[]),(9,[]),(10,[]),(11,[]),(12,[]),(13,[]),(14,[])]])]⟩
theorem F181.spec(b:Addr)(c:Int)(h:Heap)(K:KK)(H:stK h ((b.add 2).add 0) (.int .u32 c) fun h1=>ldS (rd h1 (b.add 1)) fun p2 _ c4=>ldS (rd h1 (b.add 1)) fun _ l6 _=>0≤(IntKind.wrap .i64 ((Nat.cast l6:Int)-(1:Int)))∧(IntKind.wrap .i64 ((Nat.cast l6:Int)-(1:Int)))≤(Nat.cast c4:Int)∧stK h1 ((b.add 1).add 0) (.slice (if c4=0 then p2 else Option.map (fun a=>Addr.add a (0*1)) p2) (Int.toNat (IntKind.wrap .i64 ((Nat.cast l6:Int)-(1:Int)))-0) (c4-0)) fun h8=>ldS (rd h8 (b.add 1)) fun _ l10 _=>stK h8 ((b.add 3).add 0) (.bool ((Nat.cast l10:Int)==(0:Int))) fun h12=>K (.tuple #[]) h12):Cl 181 [.pointer (some b),.int .u32 c] h K:=cT F181.T Tryz.func181 H
def F223.T:Hint:=⟨[(5,[0,4,5,6])],[(1,[[(0,[]),(1,[]),(2,[]),(3,[]),(4,[]),(5,[]),(6,[]),(7,[]),(8,[]),(9,[]),(10,[]),(11,[])]])]⟩
section
variable (a:Addr)(c b d:Int)(h:Heap)(K:KK)
def F223.wk5:Prop:=ldI .u8 (rd h (a.add 1)) fun n1=>bcase (n1==(5:Int)) (K (.tuple #[.int .u32 0,.bool false]) h) (bcase (c==d) (K (.tuple #[.int .u32 b,.bool true]) h) (bcase (c==b) (ldI .u8 (rd h (a.add 1)) fun n2=>bcase (n2 !=(4:Int)) (K (.tuple #[.int .u32 b,.bool true]) h) (bcase (b==d) (K (.tuple #[.int .u32 c,.bool true]) h) (K (.tuple #[.int .u32 0,.bool false]) h))) (bcase (b==d) (K (.tuple #[.int .u32 c,.bool true]) h) (K (.tuple #[.int .u32 0,.bool false]) h))))
theorem F223.spec(a:Addr)(h:Heap)(K:KK)(H:(0≤(0:Int)∧(0:Int)<(Nat.cast 3:Int)∧ldI .u32 (rd h ((a.add 3).add (Int.toNat (0:Int)*1))) fun n1=>0≤(1:Int)∧(1:Int)<(Nat.cast 3:Int)∧ldI .u32 (rd h ((a.add 3).add (Int.toNat (1:Int)*1))) fun n2=>ldI .u8 (rd h (a.add 1)) fun n3=>bcase (n3==(2:Int)) (F223.wk5 a n1 n2 (1:Int) h K) (F223.wk5 a n1 n2 (0:Int) h K))):Cl 223 [.pointer (some a)] h K:=cT F223.T Tryz.func223 H
end
def F224.T:Hint:=⟨[],[(1,[[(0,[]),(1,[]),(2,[]),(3,[]),(4,[]),(5,[]),(6,[]),(7,[]),(8,[]),(9,[]),(10,[]),(11,[]),(12,[]),(13,[]),(14,[]),(15,[]),(16,[]),(17,[])]])]⟩
theorem F224.spec(a:Addr)(h:Heap)(K:KK)(H:(0≤(0:Int)∧(0:Int)<(Nat.cast 3:Int)∧ldI .u32 (rd h ((a.add 3).add (Int.toNat (0:Int)*1))) fun n1=>0≤(1:Int)∧(1:Int)<(Nat.cast 3:Int)∧ldI .u32 (rd h ((a.add 3).add (Int.toNat (1:Int)*1))) fun n2=>0≤(2:Int)∧(2:Int)<(Nat.cast 3:Int)∧ldI .u32 (rd h ((a.add 3).add (Int.toNat (2:Int)*1))) fun n3=>ldI .u8 (rd h (a.add 1)) fun n4=>bcase (n4==(2:Int)) (bcase (decide (n1≤(1:Int))) (bcase (decide (n2≤(1:Int))) (K (.tuple #[.int .u32 (bitsI .and .u32 n1 n2),.bool true]) h) (bcase (n1==(0:Int)) (K (.tuple #[.int .u32 (bitsI .and .u32 n1 n2),.bool true]) h) (K (.tuple #[.int .u32 (bitsI .and .u32 n1 n2),.bool (n2==(0:Int))]) h))) (bcase (n1==(0:Int)) (K (.tuple #[.int .u32 (bitsI .and .u32 n1 n2),.bool true]) h) (K (.tuple #[.int .u32 (bitsI .and .u32 n1 n2),.bool (n2==(0:Int))]) h))) (bcase (n4==(3:Int)) (bcase (n1==(1:Int)) (K (.tuple #[.int .u32 1,.bool true]) h) (K (.tuple #[.int .u32 1,.bool (n2==(1:Int))]) h)) (bcase (n4==(4:Int)) (bcase (n1==n2) (K (.tuple #[.int .u32 (bitsI .xor .u32 n1 n2),.bool true]) h) (bcase (decide (n1≤(1:Int))) (K (.tuple #[.int .u32 (bitsI .xor .u32 n1 n2),.bool (decide (n2≤(1:Int)))]) h) (K (.tuple #[.int .u32 (bitsI .xor .u32 n1 n2),.bool false]) h))) (bcase (n1==(1:Int)) (K (.tuple #[.int .u32 n2,.bool true]) h) (bcase (n2==n3) (K (.tuple #[.int .u32 n2,.bool true]) h) (bcase (n1==(0:Int)) (K (.tuple #[.int .u32 n3,.bool true]) h) (K (.tuple #[.int .u32 0,.bool false]) h)))))))):Cl 224 [.pointer (some a)] h K:=cT F224.T Tryz.func224 H
def F226.T:Hint:=⟨[(3,[0,1,4,5,12,13])],[(5,[[(0,[]),(1,[]),(2,[]),(3,[]),(4,[]),(5,[]),(6,[]),(7,[]),(9,[]),(10,[]),(11,[]),(12,[]),(8,[9,10,11,12]),(13,[])]])]⟩
section
variable (n:Nat)(f:Addr)(j:Value)(g i:Addr)(a b c d:Int)(h:Heap)(K:KK)
def F226.JL3(bk3:Addr→Value→Addr→Addr→Int→Int→Int→Int→Heap→Prop)(f:Addr)(j:Value)(g i:Addr)(a b c d:Int)(h:Heap)(K:KK):Prop:=bcase (decide (d<(3:Int))) ((0≤d∧d<(Nat.cast 3:Int)∧ldI .u32 ([.int .u32 a,.int .u32 b,.int .u32 c]:List Value)[Int.toNat d]? (fun n1=>ldP (rd h (f.add 0)) fun p2=>ptrK p2 fun a3=>ldP (rd h (a3.add 0)) fun p4=>ldI .i64 (rd h (f.add 6)) fun n5=>Cl 71 [.pointer p4,.int .u32 n1] h fun v6 h7=>ldI .i64 (some v6) fun n8=>((.pointer (some f))=((.pointer (some f)):Value)∧((.pointer (some f))=((.pointer (some f)):Value)∧((.pointer (some (f.add 6)))=((.pointer (some (f.add 6))):Value)∧ldI .i64 (rd h7 (f.add 6)) fun n9=>((.int .i64 n9)=((.int .i64 n5):Value)∧bcase (n8==n5) (dynK Tryz.prog X j [.int .u32 n1] h7 fun v10 h11=>ldI .u32 (some v10) fun n12=>0≤d∧d<(Nat.cast 3:Int)∧stK h11 ((i.add (Int.toNat d*1)).add 0) (.int .u32 n12) fun h13=>bk3 f j g i a b c (IntKind.wrap .i64 (d+(1:Int))) h13) (bk3 f j g i a b c (IntKind.wrap .i64 (d+(1:Int))) h7)))))))) (ldI .u32 (rd h (i.add 0)) fun n14=>ldI .u32 (rd h (i.add 1)) fun n15=>ldI .u32 (rd h (i.add 2)) fun n16=>stK h (g.add 0) (.int .u32 n14) fun h17=>stK h17 (g.add 1) (.int .u32 n15) fun h18=>stK h18 (g.add 2) (.int .u32 n16) fun h19=>ldI .u32 (rd h19 (g.add 0)) fun n20=>ldI .u32 (rd h19 (g.add 1)) fun n21=>ldI .u32 (rd h19 (g.add 2)) fun n22=>K (.agg #[.int .u32 n20,.int .u32 n21,.int .u32 n22]) h19)
def F226.wL3:Prop:=Lp Tryz.f226 F226.T [1,1,0,1,0] n [(0,(.pointer (some f))),(1,j),(4,(.pointer (some g))),(5,(.pointer (some i))),(12,(.agg #[.int .u32 a,.int .u32 b,.int .u32 c])),(13,(.int .i64 d))] h K
theorem F226.sL3:F226.wL3 (n+1) f j g i a b c d h K=(F226.JL3 (fun f j g i a b c d h=>F226.wL3 n f j g i a b c d h K) f j g i a b c d h K):=by kernel_rfl
def F226.wk3:Prop:=(∃m,F226.wL3 m f j g i a b c d h K)
theorem F226.spec(H:newK h (.cells #[.int .u32 0,.int .u32 0,.int .u32 0] 115) fun b1 h2=>ldI .u32 (rd h2 ((f.add 3).add 0)) fun n3=>ldI .u32 (rd h2 ((f.add 3).add 1)) fun n4=>ldI .u32 (rd h2 ((f.add 3).add 2)) fun n5=>newK h2 (.cells #[.int .u32 0,.int .u32 0,.int .u32 0] 115) fun b6 h7=>stK h7 ((Addr.mk b6 0 none).add 0) (.int .u32 n3) fun h8=>stK h8 ((Addr.mk b6 0 none).add 1) (.int .u32 n4) fun h9=>stK h9 ((Addr.mk b6 0 none).add 2) (.int .u32 n5) fun h10=>ldI .u32 (rd h10 ((Addr.mk b6 0 none).add 0)) fun n11=>ldI .u32 (rd h10 ((Addr.mk b6 0 none).add 1)) fun n12=>ldI .u32 (rd h10 ((Addr.mk b6 0 none).add 2)) fun n13=>F226.wk3 f j (Addr.mk b1 0 none) (Addr.mk b6 0 none) n11 n12 n13 (0:Int) h10 K):Cl 226 [.pointer (some f),j] h K:=cT F226.T Tryz.func226 H
end
def F225.T:Hint:=⟨[],[(2,[[(0,[]),(1,[]),(2,[]),(3,[]),(4,[]),(5,[]),(6,[]),(7,[]),(8,[]),(9,[]),(10,[]),(11,[]),(12,[]),(13,[]),(14,[]),(15,[]),(16,[]),(17,[0,1,2,3,4,5,6,7]),(18,[])]])]⟩
theorem F225.spec(a:Addr)(h:Heap)(K:KK)(H:ldP (rd h (a.add 0)) fun p1=>ptrK p1 fun a2=>ldI .u32 (rd h (a2.add 2)) fun n3=>stK h ((a.add 7).add 0) (.int .u32 n3) fun h4=>stK h4 ((a.add 8).add 0) (.func (.func 273) #[.pointer (some a)] #[]) fun h5=>ldP (rd h5 (a.add 0)) fun p6=>ldI .u8 (rd h5 (a.add 1)) fun n7=>ldP (rd h5 (a.add 0)) fun p8=>ptrK p8 fun a9=>ldP (rd h5 (a9.add 0)) fun p10=>Cl 226 [.pointer (some a),.func (.func 73) #[.pointer p10] #[]] h5 fun v11 h12=> ∃n13:Int,∃n14:Int,∃n15:Int,v11=(.agg #[.int .u32 n13,.int .u32 n14,.int .u32 n15])∧((.pointer (some a))=((.pointer (some a)):Value)∧((.pointer (some a))=((.pointer (some a)):Value)∧((.pointer (some (a.add 0)))=((.pointer (some (a.add 0))):Value)∧ldP (rd h12 (a.add 0)) fun p16=>((.pointer p16)=((.pointer p6):Value)∧((.pointer (some a))=((.pointer (some a)):Value)∧((.pointer (some a))=((.pointer (some a)):Value)∧((.pointer (some (a.add 1)))=((.pointer (some (a.add 1))):Value)∧ldI .u8 (rd h12 (a.add 1)) fun n17=>((.int .u8 n17)=((.int .u8 n7):Value)∧Cl 135 [.pointer p6,.int .u8 n7,.int .u8 0,.agg #[.int .u32 n13,.int .u32 n14,.int .u32 n15]] h12 fun v18 h19=>ldP (some v18) fun _=>K (.tuple #[]) h19))))))))):Cl 225 [.pointer (some a)] h K:=cT F225.T Tryz.func225 H
def F273.T:Hint:=⟨[],[(0,[[(0,[]),(1,[]),(2,[]),(3,[]),(4,[]),(5,[]),(6,[]),(7,[]),(8,[]),(9,[]),(10,[]),(11,[]),(12,[]),(13,[]),(14,[]),(15,[]),(16,[]),(17,[]),(18,[]),(19,[]),(20,[]),(21,[])]]),(2,[[(0,[]),(1,[]),(2,[]),(3,[]),(4,[]),(5,[]),(6,[]),(7,[]),(8,[]),(9,[]),(10,[]),(11,[]),(12,[]),(13,[]),(14,[]),(15,[]),(16,[]),(17,[]),(18,[]),(19,[]),(20,[]),(21,[]),(22,[]),(23,[]),(24,[]),(25,[]),(26,[]),(27,[])]])]⟩
theorem F273.spec(a:Addr)(h:Heap)(K:KK)(H:ldI .i64 (rd h (a.add 6)) fun n1=>ldI .u32 (rd h (a.add 7)) fun n2=>ldP (rd h (a.add 0)) fun p3=>ptrK p3 fun a4=>ldI .u32 (rd h (a4.add 2)) fun n5=>Cl 276 [.pointer (some a),.int .i64 n1,.int .u32 n2,.int .u32 n5] h fun v6 h7=> ∃n8:Int,∃b9:Bool,v6=(.tuple #[.int .u32 n8,.bool b9])∧bcase b9 (ldP (rd h7 (a.add 0)) fun p10=>ptrK p10 fun a11=>ldP (rd h7 (a11.add 0)) fun p12=>ldI .u8 (rd h7 (a.add 1)) fun n13=>0≤(0:Int)∧(0:Int)<(Nat.cast 3:Int)∧ldI .u32 (rd h7 ((a.add 3).add (Int.toNat (0:Int)*1))) fun n14=>0≤(1:Int)∧(1:Int)<(Nat.cast 3:Int)∧ldI .u32 (rd h7 ((a.add 3).add (Int.toNat (1:Int)*1))) fun n15=>0≤(2:Int)∧(2:Int)<(Nat.cast 3:Int)∧ldI .u32 (rd h7 ((a.add 3).add (Int.toNat (2:Int)*1))) fun n16=>Cl 207 [.pointer p12,.int .u8 n13,.int .u8 0,.int .u32 n14,.int .u32 n15,.int .u32 n16,.int .u32 n8] h7 fun v17 h18=>v17=(.tuple #[])∧ldP (rd h18 (a.add 0)) fun p19=>Cl 181 [.pointer p19,.int .u32 n8] h18 fun v20 h21=>v20=(.tuple #[])∧K (.tuple #[]) h21) (K (.tuple #[]) h7)):Cl 273 [.pointer (some a)] h K:=cT F273.T Tryz.func273 H
def F276.T:Hint:=⟨[(4,[10,11])],[(3,[[(0,[]),(1,[]),(2,[]),(3,[]),(4,[]),(5,[]),(6,[]),(7,[]),(8,[]),(9,[]),(10,[]),(11,[]),(12,[]),(13,[]),(14,[]),(15,[]),(16,[]),(17,[]),(18,[]),(19,[]),(20,[]),(21,[])]])]⟩
section
variable (b c:Int)(h:Heap)(K:KK)
def F276.wk4:Prop:=K (.tuple #[.int .u32 b,.bool (c==(0:Int))]) h
theorem F276.spec(a:Addr)(d f g:Int)(h:Heap)(K:KK)(H:ldP (rd h (a.add 0)) fun p1=>ptrK p1 fun a2=>ldP (rd h (a2.add 0)) fun p3=>Cl 161 [.pointer p3,.int .i64 d,.int .u32 f,.int .u32 g] h fun v4 h5=> ∃n6:Int,∃n7:Int,v4=(.tuple #[.int .u32 n6,.int .i64 n7])∧bcase (n7 !=(0:Int)) (ldP (rd h5 (a.add 0)) fun p8=>ldP (rd h5 (a.add 0)) fun p9=>ldP (rd h5 (a.add 0)) fun p10=>ptrK p8 fun a11=>stK h5 ((a11.add 4).add 0) (.int .i64 n7) fun h12=>ptrK p9 fun a13=>stK h12 ((a13.add 3).add 0) (.bool true) fun h14=>ptrK p10 fun a15=>stK h14 ((a15.add 1).add 0) (.slice none 0 0) fun h16=>F276.wk4 n6 n7 h16 K) (F276.wk4 n6 n7 h5 K)):Cl 276 [.pointer (some a),.int .i64 d,.int .u32 f,.int .u32 g] h K:=cT F276.T Tryz.func276 H
end
def F64.T:Hint:=⟨[(5,[6,8]),(6,[6])],[]⟩
section
variable (n:Nat)(j:Addr)(a b c d f:Int)(g:Option Addr)(i:Value)(h:Heap)(K:KK)
def F64.wk6:Prop:=Cl 94 [.pointer g] h fun v1 h2=> ∃n3:Int,∃n4:Int,v1=(.tuple #[.int .u32 n3,.int .i64 n4])∧K (.tuple #[.int .u32 n3,.int .i64 n4]) h2
def F64.wL5:Prop:=Lp Tryz.f64 F64.T [1,1,1,0,1,0] n [(6,(.pointer g)),(8,i)] h K
theorem F64.sL5:F64.wL5 (n+1) g i h K=(dynK Tryz.prog X i [] h fun v1 h2=>ldB (some v1) fun b3=>bcase (!b3) (F64.wL5 n g i h2 K) (F64.wk6 g h2 K)):=by kernel_rfl
def F64.wk5:Prop:=(∃m,F64.wL5 m g i h K)
theorem F64.spec(H:newK h (.cells #[.int .i64 a,.int .u32 b,.int .u32 c,.int .u32 d,.int .u8 f] 66) fun b1 h2=>ldI .i64 (rd h2 ((Addr.mk b1 0 none).add 0)) fun n3=>ldI .u32 (rd h2 ((Addr.mk b1 0 none).add 1)) fun n4=>ldI .u32 (rd h2 ((Addr.mk b1 0 none).add 2)) fun n5=>ldI .u32 (rd h2 ((Addr.mk b1 0 none).add 3)) fun n6=>ldI .u8 (rd h2 ((Addr.mk b1 0 none).add 4)) fun n7=>Cl 91 [.pointer (some j),.agg #[.int .i64 n3,.int .u32 n4,.int .u32 n5,.int .u32 n6,.int .u8 n7]] h2 fun v8 h9=> ∃p10:Option Addr,∃n11:Int,v8=(.tuple #[.pointer p10,.int .i64 n11])∧bcase (n11 !=(0:Int)) (K (.tuple #[.int .u32 0,.int .i64 n11]) h9) (F64.wk5 p10 (.func (.func 114) #[.pointer p10] #[]) h9 K)):Cl 64 [.pointer (some j),.agg #[.int .i64 a,.int .u32 b,.int .u32 c,.int .u32 d,.int .u8 f]] h K:=cT F64.T Tryz.func64 H
end
end
section
structure Fk where
 b:Nat
 op:Nat
 mask:Nat
 a0:Nat
 a1:Nat
 a2:Nat
 level:Nat
 low:Nat
 fn:Nat
structure MA where
 m:Nat
 fp:Option Addr
 fc:Nat
 fs:List Fk
 told:Nat
 done:Bool
 e:Nat
def goV(fn b:Nat):Value:= .func (.func fn) #[.pointer (some ⟨b,0,none⟩)] #[]
def ptrV(b:Nat):Value:= .pointer (some ⟨b,0,none⟩)
def cellK(m:Nat)(f:Fk):List Value:=[ptrV m,.int .u8 (f.op:Int),.int .u8 (f.mask:Int),.int .u32 (f.a0:Int),.int .u32 (f.a1:Int),.int .u32 (f.a2:Int),.int .i64 (f.level:Int),.int .u32 (f.low:Int),goV f.fn f.b]
def cellM(s:Nat)(A:MA):List Value:=[ptrV s,.slice A.fp A.fs.length A.fc,.int .u32 (A.told:Int),.bool A.done,.int .i64 (A.e:Int)]
def MA.bl(A:MA):List Nat:=A.m::(OwnB A.fp++A.fs.map (·.b))
structure MaIs(h:Heap)(s:Nat)(A:MA):Prop where
 own:At h A.m (cellM s A)
 win:Win h 0 A.fp A.fs.length A.fc (A.fs.map fun f=>ptrV f.b)
 frm: ∀f∈A.fs,At h f.b (cellK A.m f)
 sep:A.bl.Nodup
theorem MaIs.only{h h':Heap}{s:Nat}{A:MA}{S:List Nat}(H:MaIs h s A)(O:Only S h h')(hS: ∀b∈S,b∉A.bl):MaIs h' s A:=by
 refine⟨H.own.only O fun hm=>hS _ hm (by simp[MA.bl]),H.win.only O fun b hb hm=>hS _ hm (by simp[MA.bl,hb]),fun f hf=>(H.frm f hf).only O fun hm=>hS _ hm ?_,H.sep⟩
 simp only[MA.bl,List.mem_cons,List.mem_append,List.mem_map]
 exact .inr (.inr ⟨f,hf,rfl⟩)
theorem MaIs.only0{h h':Heap}{s:Nat}{A:MA}(H:MaIs h s A)(O:Only [] h h'):MaIs h' s A:=H.only O (by simp)
theorem MaIs.lt{h:Heap}{s:Nat}{A:MA}(H:MaIs h s A): ∀b∈A.bl,b<h.size:=fun b hb=>by
 simp only[MA.bl,List.mem_cons,List.mem_append,List.mem_map]at hb
 rcases hb with e|hb|⟨f,hf,e⟩
 ·subst e;exact H.own.lt
 ·exact(H.win.lt b hb).2
 ·subst e;exact(H.frm f hf).lt
theorem bxor32{a b:Nat}(ha:a<2^32)(hb:b<2^32):bitsI .xor .u32 (a:Int) (b:Int)=((a^^^b:Nat):Int):=by
 unfold bitsI
 show IntKind.wrap .u32 ((BitVec.ofInt 32 (a:Int)^^^BitVec.ofInt 32 (b:Int)).toNat:Int)=_
 rw[BitVec.toNat_xor,ofInt32 ha,ofInt32 hb]
 exact wrap32 (Nat.xor_lt_two_pow ha hb)
section
variable {h:Heap}{s m:Nat}{f:Fk}{K:Value→Heap→Prop}
theorem MaIs.top{fl:List Fk}{f':Fk}{A:MA}{j:Nat}{v:Value}{K:Heap→Prop}(H:MaIs h s {A with fs:=fl++[f]})(hj:j<9)(hv:v.oneCell'=true)(hb:f'.b=f.b)(hc:(cellK A.m f).set j v=cellK A.m f')
  (hK: ∀h',MaIs h' s {A with fs:=fl++[f']}→Only [f.b] h h'→K h'):stK h ⟨f.b,j,none⟩ v K:=by
 have hf:f∈fl++[f]:=by simp
 refine stK_at (H.frm f hf) (by simpa[cellK]using hj) hv fun h' A' O' z=>hK h' ?_ O'
 rw[hc]at A'
 have sp:=H.sep
 simp only[MA.bl,List.map_append,List.map_cons,List.map_nil,List.nodup_cons,List.mem_append,List.nodup_append,List.mem_singleton,not_or,ne_eq,forall_eq]at sp
 obtain⟨⟨s1,s2,s3⟩,s4,⟨s5,s6,s7⟩,s8⟩:=sp
 have e1:A.m∉[f.b]:=by simp;omega
 have ew:(fl++[f']).map (fun f=>ptrV f.b)=(fl++[f]).map (fun f=>ptrV f.b):=by simp[hb]
 refine⟨?_,?_,fun g hg=> ?_,?_⟩
 ·have:=H.own.only O' e1
  simpa[cellM]using this
 ·have:=H.win.only O' (fun b hb hm=>by
   simp only[List.mem_singleton]at hm
   subst hm
   exact s8 _ hb _ (.inr rfl) rfl)
  show Win h' 0 A.fp (fl++[f']).length A.fc ((fl++[f']).map fun f=>ptrV f.b)
  rw[ew]
  simpa using this
 ·rcases List.mem_append.1 hg with hg|hg
  ·refine(H.frm g (by simp[hg])).only O' fun hm=> ?_
   simp only[List.mem_singleton]at hm
   exact s7 _ (List.mem_map.2 ⟨g,hg,rfl⟩) hm
  ·simp only[List.mem_singleton]at hg
   subst hg
   rw[hb]
   exact A'
 ·have:=H.sep
  simp only[MA.bl]at this ⊢
  rw[show(fl++[f']).map (·.b)=(fl++[f]).map (·.b) by simp[hb]]
  exact this
end
theorem calls135{h:Heap}{s op mask a0 a1 a2:Nat}{A:MA}{K:Value→Heap→Prop}(H:MaIs h s A)(hl:A.fs.length<1000000)
  (hK: ∀h' f fp fc,(∃b,f=⟨b,op,mask,a0,a1,a2,0,0,180⟩∧h.size≤b)→MaIs h' s {A with fp:=fp,fc:=fc,fs:=A.fs++[f]}→Only (A.m::OwnB A.fp) h h'→(∀b∈OwnB fp,b∈OwnB A.fp∨h.size≤b)→K (ptrV f.b) h'):
  Cl 135 [ptrV A.m,.int .u8 (op:Int),.int .u8 (mask:Int),.agg #[.int .u32 (a0:Int),.int .u32 (a1:Int),.int .u32 (a2:Int)]] h K:=by
 refine F135.spec _ _ _ _ _ _ h K ?_
 refine newK_at fun h1 A1 O1 z1=> ?_
 simp only[add_mk,Nat.zero_add,Nat.add_zero]
 have r: ∀k,rd h1 ⟨h.size,k,none⟩=([.int .u32 (a0:Int),.int .u32 (a1:Int),.int .u32 (a2:Int)]:List Value)[k]? :=fun k=>At.rd A1 k
 refine ldI_of (by rw[r];rfl) (ldI_of (by rw[r];rfl) (ldI_of (by rw[r];rfl) ?_))
 refine newK_at fun h2 A2 O2 z2=> ?_
 refine stK_at A2 (by simp) rfl fun h3 A3 O3 z3=> ?_
 have hlt:=H.lt
 have mlt: ∀b∈A.bl,b<h1.size:=fun b hb=>by have:=hlt b hb;omega
 have O13:Only [] h h3:=((O1.trans O2 (by simp)).trans O3 (by intro x hx hl;simp at hx;omega))
 have H3:=H.only0 O13
 refine ldS_of (by rw[At.rd H3.own];rfl) ?_
 refine newK_at fun h4 A4 O4 z4=> ?_
 have H4:=H3.only0 O4
 have F4:At h4 h1.size (cellK A.m ⟨h1.size,op,mask,a0,a1,a2,0,0,180⟩):=A3.only O4 (by simp)
 refine win_app H4.win A4 (by omega) rfl (by omega) fun p' c' h5 W5 O5 g5=> ?_
 have nm:A.m∉OwnB A.fp:=fun hm=>by
  have:=H.sep
  simp only[MA.bl,List.nodup_cons,List.mem_append,not_or]at this
  exact this.1.1 hm
 have M5:=H4.own.only O5 nm
 refine stK_at M5 (by simp[cellM]) rfl fun h6 M6 O6 z6=> ?_
 have O46:Only (A.m::OwnB A.fp) h4 h6:=(O5.mono fun b hb _=>List.mem_cons_of_mem _ hb).trans O6 fun b hb hl=>by simp only[List.mem_singleton]at hb;exact List.mem_cons.2 (.inl hb)
 have hO:Only (A.m::OwnB A.fp) h h6:=((O13.trans O4 (by simp)).mono (by simp)).trans O46 fun b hb _=>hb
 have z4':h1.size<h4.size:=F4.lt
 have sp:=H.sep
 simp only[MA.bl,List.nodup_cons,List.mem_append,List.mem_map,List.nodup_append,not_or]at sp
 have ownlt: ∀b∈OwnB A.fp,b<h1.size:=fun b hb=>mlt b (by simp[MA.bl,hb])
 have frlt: ∀f∈A.fs,f.b<h1.size:=fun f hf=>mlt f.b (by simp only[MA.bl,List.mem_cons,List.mem_append,List.mem_map];exact .inr (.inr ⟨f,hf,rfl⟩))
 have hm1:=mlt A.m (by simp[MA.bl])
 have nP:h1.size∉A.m::OwnB A.fp:=fun hm=>by
  rcases List.mem_cons.1 hm with e|hm
  ·omega
  ·have:=ownlt _ hm;omega
 have g5': ∀b∈OwnB p',b∈OwnB A.fp∨h4.size≤b:=g5
 refine hK h6 ⟨h1.size,op,mask,a0,a1,a2,0,0,180⟩ p' c' ⟨h1.size,rfl,by omega⟩ ⟨?_,?_,fun g hg=> ?_,?_⟩ hO fun b hb=>(g5 b hb).imp id fun h=>by omega
 ·have:(cellM s A).set 1 (.slice p' (A.fs.length+1) c')=cellM s {A with fp:=p',fc:=c',fs:=A.fs++[⟨h1.size,op,mask,a0,a1,a2,0,0,180⟩]}:=by simp[cellM]
  rw[←this]
  exact M6
 ·have:=W5.only O6 (fun b hb hm=>by
   simp only[List.mem_singleton]at hm
   subst hm
   rcases g5' _ hb with h|h
   ·exact nm h
   ·omega)
  simpa[ptrV]using this
 ·rcases List.mem_append.1 hg with hg|hg
  ·refine((H4.frm g hg)).only O46 fun hm=> ?_
   rcases List.mem_cons.1 hm with e|hm
   ·exact sp.1.2 ⟨g,hg,e⟩
   ·exact sp.2.2.2 _ hm _ ⟨g,hg,rfl⟩ rfl
  ·simp only[List.mem_singleton]at hg
   subst hg
   exact F4.only O46 nP
 ·show(A.m::(OwnB p'++(A.fs++[(⟨h1.size,op,mask,a0,a1,a2,0,0,180⟩:Fk)]).map (·.b))).Nodup
  have np:(OwnB p').Nodup:=by cases p'<;>simp[OwnB]
  simp only[List.map_append,List.map_cons,List.map_nil,List.nodup_cons,List.mem_append,List.mem_map,List.mem_singleton,List.nodup_append,not_or,ne_eq]
  refine⟨⟨fun hm=> ?_,sp.1.2,by omega⟩,np,⟨sp.2.2.1,by simp,?_⟩,?_⟩
  ·rcases g5' _ hm with h|h
   ·exact nm h
   ·omega
  ·rintro b ⟨g,hg,rfl⟩ c rfl
   have:=frlt g hg
   omega
  ·rintro b hb c (⟨g,hg,rfl⟩|rfl) e
   ·rcases g5' _ hb with h|h
    ·exact sp.2.2.2 _ h _ ⟨g,hg,rfl⟩ e
    ·have:=frlt g hg
     omega
   ·rcases g5' _ hb with h|h
    ·have:=ownlt _ h
     omega
    ·omega
theorem tells181{h:Heap}{s r:Nat}{A:MA}{fl:List Fk}{f:Fk}{K:Value→Heap→Prop}(H:MaIs h s {A with fs:=fl++[f]})(hl:fl.length<1000000)
  (hK: ∀h' fp,MaIs h' s {A with fp:=fp,fs:=fl,told:=r,done:=fl.isEmpty}→OwnB fp=OwnB A.fp→Only [A.m] h h'→K (.tuple #[]) h'):
  Cl 181 [ptrV A.m,.int .u32 (r:Int)] h K:=by
 refine F181.spec _ _ h K ?_
 simp only[add_mk,Nat.zero_add,Nat.add_zero]
 have M0:=H.own
 refine stK_at M0 (by simp[cellM]) rfl fun h1 M1 O1 z1=> ?_
 have len:(fl++[f]).length=fl.length+1:=by simp
 have rs:rd h1 ⟨A.m,1,none⟩=some (.slice A.fp (fl.length+1) A.fc):=by rw[At.rd M1];simp[cellM]
 refine ldS_of rs (ldS_of rs ?_)
 have e1:IntKind.wrap .i64 (((fl.length+1:Nat):Int)-1)=(fl.length:Int):=by rw[wrap_i64 (by omega) (by omega)];omega
 have W:=H.win
 have W1:Win h 0 A.fp (fl.length+1) A.fc (fl.map (fun f=>ptrV f.b)++[ptrV f.b]):=by simpa using W
 have cap:=W1.cap
 rw[e1]
 refine⟨by omega,by omega,?_⟩
 refine stK_at M1 (by simp[cellM]) rfl fun h2 M2 O2 z2=> ?_
 refine ldS_of (p:=if A.fc=0 then A.fp else Option.map (fun a=>Addr.add a (0*1)) A.fp) (l:=fl.length) (c:=A.fc) (by rw[At.rd M2];simp[cellM]) ?_
 refine stK_at M2 (by simp[cellM]) rfl fun h3 M3 O3 z3=> ?_
 have O:Only [A.m] h h3:=(O1.trans O2 fun b hb _=>hb).trans O3 fun b hb _=>hb
 have ep:(if A.fc=0 then A.fp else Option.map (fun a=>Addr.add a (0*1)) A.fp)=A.fp:=by
  split
  ·rfl
  ·cases A.fp with
   |none=>rfl
   |some a=>simp[Addr.add]
 have Wp:=W1.pop
 have sp:=H.sep
 simp only[MA.bl,List.map_append,List.map_cons,List.map_nil,List.nodup_cons,List.mem_append,List.nodup_append,List.mem_singleton,not_or]at sp
 refine hK h3 A.fp ⟨?_,?_,fun g hg=> ?_,?_⟩ rfl O
 ·have e:((((cellM s {A with fs:=fl++[f]}).set 2 (.int .u32 (r:Int))).set 1 (.slice (if A.fc=0 then A.fp else Option.map (fun a=>Addr.add a (0*1)) A.fp) (Int.toNat (fl.length:Int)-0) (A.fc-0))).set 3 (.bool ((fl.length:Int)==(0:Int))))=cellM s {A with fs:=fl,told:=r,done:=fl.isEmpty}:=by
   rw[ep]
   have:((fl.length:Int)==(0:Int))=fl.isEmpty:=by cases fl<;>simp;omega
   simp[cellM,this]
  rw[←e]
  exact M3
 ·rw[ep]at Wp
  exact Wp.only O fun b hb hm=>by
   simp only[List.mem_singleton]at hm
   subst hm
   exact sp.1.1 hb
 ·refine(H.frm g (by simp[hg])).only O fun hm=> ?_
  simp only[List.mem_singleton]at hm
  exact sp.1.2.1 (List.mem_map.2 ⟨g,hg,hm⟩)
 ·show(A.m::(OwnB A.fp++fl.map (·.b))).Nodup
  simp only[List.nodup_cons,List.mem_append,List.nodup_append,not_or]
  exact⟨⟨sp.1.1,sp.1.2.1⟩,sp.2.1,sp.2.2.1.1,fun a ha b hb=>sp.2.2.2 a ha b (.inl hb)⟩
end
section
theorem go72:xget X 72=some Ext.go:=by kernel_rfl
theorem go73:xget X 73=some Ext.go:=by kernel_rfl
def ch(n:Nat)(N:List (Option Nd))(l:Nat)(side:Bool)(a:Nat):Nat:=if lvl n N a=l then(if side then high N a else low N a)else a
section
variable {n:Nat}{f:Nat→Nat}{N N':List (Option Nd)}{a l:Nat}{side:Bool}
theorem ch_is(H:NOk n N)(ha:isN N a)(hl:l≤lvl n N a)(hn:l<n):isN N (ch n N l side a)∧l+1≤lvl n N (ch n N l side a):=by
 unfold ch
 by_cases e:lvl n N a=l
 ·rw[if_pos e]
  have h2:2≤a:=by
   apply Classical.byContradiction
   intro h
   have:=lvl_end (n:=n) (N:=N) (a:=a) (by omega)
   omega
  obtain⟨h3,h4,h5,-,h6,h7⟩:=H.at ha h2
  cases side with
  |true=>exact⟨h5,by rw[if_pos rfl];omega⟩
  |false=>exact⟨h4,by rw[if_neg (by simp)];omega⟩
 ·rw[if_neg e]
  exact⟨ha,by omega⟩
theorem ch_sm(H:NOk n N)(ha:isN N a)(hn:l<n)(x:Nat):sm n f N a x=if x.testBit (f l)then sm n f N (ch n N l true a) x else sm n f N (ch n N l false a) x:=by
 unfold ch
 by_cases e:lvl n N a=l
 ·have h2:2≤a:=by
   apply Classical.byContradiction
   intro h
   have:=lvl_end (n:=n) (N:=N) (a:=a) (by omega)
   omega
  rw[if_pos e,if_pos e,sm_node H ha h2,e]
  rfl
 ·rw[if_neg e,if_neg e]
  simp
theorem Ex.ch(E:Ex N N')(ha:Ev.isN N a):ch n N' l side a=ch n N l side a:=by
 unfold Ev.ch
 rw[E.lvl ha,E.low ha,E.high ha]
end
section
variable {h:Heap}{s:Nat}{L:List Nat}{X:SX}
end
theorem ifmin{p q:Nat}:(if(p:Int)<(q:Int)then(p:Int)else(q:Int))=((min p q:Nat):Int):=by
 by_cases h:(p:Int)<(q:Int)
 ·rw[if_pos h,show min p q=p by omega]
 ·rw[if_neg h,show min p q=q by omega]
end
section
def isJoin(op:Nat):Prop:=op=2∨op=3∨op=4∨op=5
def mlv(n:Nat)(N:List (Option Nd))(f:Fk):Nat:=min (lvl n N f.a2) (min (lvl n N f.a1) (min (lvl n N f.a0) n))
def Wants(n:Nat)(fo:Nat→Nat)(N:List (Option Nd))(g:Fk)(r:Nat):Prop:=
 (g.fn=225∧OpR n fo N g.op (ch n N g.level false g.a0) (ch n N g.level false g.a1) (ch n N g.level false g.a2) r)∨
 (g.fn=273∧OpR n fo N g.op (ch n N g.level true g.a0) (ch n N g.level true g.a1) (ch n N g.level true g.a2) r)
def Link(n:Nat)(N:List (Option Nd))(g f:Fk):Prop:=f.op=g.op∧
 ((g.fn=225∧f.a0=ch n N g.level false g.a0∧f.a1=ch n N g.level false g.a1∧f.a2=ch n N g.level false g.a2)∨
  (g.fn=273∧f.a0=ch n N g.level true g.a0∧f.a1=ch n N g.level true g.a1∧f.a2=ch n N g.level true g.a2))
structure FrOk(n:Nat)(fo:Nat→Nat)(N:List (Option Nd))(f:Fk):Prop where
 op:isJoin f.op
 a:isN N f.a0∧isN N f.a1∧isN N f.a2
 fn:f.fn=180∨((f.fn=225∨f.fn=273)∧f.level=mlv n N f∧f.level<n)
 low:f.fn=273→OpR n fo N f.op (ch n N f.level false f.a0) (ch n N f.level false f.a1) (ch n N f.level false f.a2) f.low
theorem FrOk.lev{n:Nat}{fo:Nat→Nat}{N:List (Option Nd)}{f:Fk}(F:FrOk n fo N f)(h:f.fn=225∨f.fn=273):f.level<n∧f.level≤lvl n N f.a0∧f.level≤lvl n N f.a1∧f.level≤lvl n N f.a2:=by
 rcases F.fn with e|⟨-,e,hn⟩
 ·omega
 ·unfold mlv at e
  omega
structure Goal where
 op:Nat
 a0:Nat
 a1:Nat
 a2:Nat
structure Runs(n:Nat)(fo:Nat→Nat)(N:List (Option Nd))(G:Goal)(fs:List Fk)(told:Nat):Prop where
 frs: ∀f∈fs,FrOk n fo N f
 lnk: ∀(i:Nat) (g f:Fk),fs[i]? =some g→fs[i+1]? =some f→Link n N g f
 bot: ∃f,fs[0]? =some f∧f.op=G.op∧f.a0=G.a0∧f.a1=G.a1∧f.a2=G.a2
 top: ∀fl fr,fs=fl++[fr]→fr.fn=180∨Wants n fo N fr told
 tld:isN N told
def fmu(n:Nat)(N:List (Option Nd))(f:Fk):Nat:=if f.fn=180 then 4*2^(n-mlv n N f)-3 else if f.fn=225 then 4*2^(n-(f.level+1))-1 else 1
def mus(n:Nat)(N:List (Option Nd))(fs:List Fk):Nat:=(fs.map (fmu n N)).sum
def fnb(n:Nat)(N:List (Option Nd))(f:Fk):Nat:=if f.fn=180 then 2^(n-mlv n N f)-1 else if f.fn=225 then 2^(n-(f.level+1))else 1
def nbs(n:Nat)(N:List (Option Nd))(fs:List Fk):Nat:=(fs.map (fnb n N)).sum
section
variable {n:Nat}{fo:Nat→Nat}{N N':List (Option Nd)}{G:Goal}{fs fl:List Fk}{f g fr:Fk}{told r:Nat}
theorem ch_isN(H:NOk n N){l a:Nat}{side:Bool}(ha:isN N a)(hl:l≤lvl n N a)(hn:l<n):isN N (ch n N l side a):=(ch_is H ha hl hn).1
theorem Wants.ext(H:NOk n N)(E:Ex N N')(F:FrOk n fo N g)(W:Wants n fo N g r):Wants n fo N' g r:=by
 obtain⟨a0,a1,a2⟩:=F.a
 have lv:=F.lev
 rcases W with⟨e,R⟩|⟨e,R⟩
 ·obtain⟨l1,l2,l3,l4⟩:=lv (.inl e)
  refine .inl ⟨e,?_⟩
  rw[E.ch a0,E.ch a1,E.ch a2]
  exact R.ext H E (ch_isN H a0 l2 l1) (ch_isN H a1 l3 l1) (ch_isN H a2 l4 l1)
 ·obtain⟨l1,l2,l3,l4⟩:=lv (.inr e)
  refine .inr ⟨e,?_⟩
  rw[E.ch a0,E.ch a1,E.ch a2]
  exact R.ext H E (ch_isN H a0 l2 l1) (ch_isN H a1 l3 l1) (ch_isN H a2 l4 l1)
theorem Link.ext(E:Ex N N')(F:FrOk n fo N g)(W:Link n N g f):Link n N' g f:=by
 obtain⟨a0,a1,a2⟩:=F.a
 unfold Link at W ⊢
 rw[E.ch a0,E.ch a1,E.ch a2,E.ch a0,E.ch a1,E.ch a2]
 exact W
theorem FrOk.ext(H:NOk n N)(E:Ex N N')(F:FrOk n fo N f):FrOk n fo N' f:=by
 obtain⟨a0,a1,a2⟩:=F.a
 refine⟨F.op,⟨E.isN a0,E.isN a1,E.isN a2⟩,?_,fun e=> ?_⟩
 ·unfold mlv
  rw[E.lvl a0,E.lvl a1,E.lvl a2]
  exact F.fn
 ·have lv:=F.lev (.inr e)
  obtain⟨l1,l2,l3,l4⟩:=lv
  rw[E.ch a0,E.ch a1,E.ch a2]
  exact(F.low e).ext H E (ch_isN H a0 l2 l1) (ch_isN H a1 l3 l1) (ch_isN H a2 l4 l1)
theorem Runs.ext(H:NOk n N)(E:Ex N N')(R:Runs n fo N G fs told):Runs n fo N' G fs told:=
 ⟨fun f hf=>(R.frs f hf).ext H E,fun i g f h1 h2=>(R.lnk i g f h1 h2).ext E (R.frs g (List.mem_of_getElem? h1)),R.bot,fun fl fr e=>(R.top fl fr e).imp id fun W=>W.ext H E (R.frs fr (by rw[e];simp)),E.isN R.tld⟩
theorem mlv_ext(E:Ex N N')(F:FrOk n fo N f):mlv n N' f=mlv n N f:=by
 obtain⟨a0,a1,a2⟩:=F.a
 unfold mlv
 rw[E.lvl a0,E.lvl a1,E.lvl a2]
theorem mus_ext(E:Ex N N')(H: ∀f∈fs,FrOk n fo N f):mus n N' fs=mus n N fs:=by
 unfold mus
 congr 1
 refine List.map_congr_left fun f hf=> ?_
 unfold fmu
 rw[mlv_ext E (H f hf)]
theorem nbs_ext(E:Ex N N')(H: ∀f∈fs,FrOk n fo N f):nbs n N' fs=nbs n N fs:=by
 unfold nbs
 congr 1
 refine List.map_congr_left fun f hf=> ?_
 unfold fnb
 rw[mlv_ext E (H f hf)]
theorem mus_app:mus n N (fl++[f])=mus n N fl+fmu n N f:=by simp[mus]
theorem nbs_app:nbs n N (fl++[f])=nbs n N fl+fnb n N f:=by simp[nbs]
theorem Link.wants(W:Link n N g fr)(R:OpR n fo N fr.op fr.a0 fr.a1 fr.a2 r):Wants n fo N g r:=by
 obtain⟨e,h|h⟩:=W
 ·obtain⟨e1,e2,e3,e4⟩:=h
  rw[e,e2,e3,e4]at R
  exact .inl ⟨e1,R⟩
 ·obtain⟨e1,e2,e3,e4⟩:=h
  rw[e,e2,e3,e4]at R
  exact .inr ⟨e1,R⟩
theorem Runs.pop(R:Runs n fo N G (fl++[fr]) told)(hr:OpR n fo N fr.op fr.a0 fr.a1 fr.a2 r)(hne:fl≠[]):Runs n fo N G fl r:=by
 refine⟨fun f hf=>R.frs f (by simp[hf]),fun i g f h1 h2=> ?_,?_,fun fl' g e=> .inr ?_,hr.is⟩
 ·have l2:=(List.getElem?_eq_some_iff.1 h2).1
  refine R.lnk i g f ?_ ?_
  ·rw[List.getElem?_append_left (by omega)];exact h1
  ·rw[List.getElem?_append_left l2];exact h2
 ·obtain⟨f,h1,h2⟩:=R.bot
  refine⟨f,?_,h2⟩
  rw[List.getElem?_append_left (List.length_pos_iff.2 hne)]at h1
  exact h1
 ·subst e
  refine(R.lnk fl'.length g fr ?_ ?_).wants hr
  ·simp
  ·simp
theorem Runs.goal(R:Runs n fo N G [fr] told)(hr:OpR n fo N fr.op fr.a0 fr.a1 fr.a2 r):OpR n fo N G.op G.a0 G.a1 G.a2 r:=by
 obtain⟨f,h1,h2,h3,h4,h5⟩:=R.bot
 simp at h1
 subst h1
 rw[←h2,←h3,←h4,←h5]
 exact hr
theorem Runs.push{fr':Fk}(R:Runs n fo N G (fl++[fr]) told)(e:fr'.op=fr.op∧fr'.a0=fr.a0∧fr'.a1=fr.a1∧fr'.a2=fr.a2)(F:FrOk n fo N fr')(W:FrOk n fo N g)(hl:Link n N fr' g)(hg:g.fn=180):Runs n fo N G (fl++[fr']++[g]) told:=by
 refine⟨fun f hf=> ?_,fun i x f h1 h2=> ?_,?_,fun fl' x e'=> .inl ?_,R.tld⟩
 ·simp only[List.mem_append,List.mem_singleton]at hf
  rcases hf with(hf|hf)|hf
  ·exact R.frs f (by simp[hf])
  ·subst hf;exact F
  ·subst hf;exact W
 ·have l2:=(List.getElem?_eq_some_iff.1 h2).1
  simp only[List.length_append,List.length_singleton]at l2
  by_cases hi:i+1<fl.length
  ·rw[List.append_assoc,List.getElem?_append_left (by omega)]at h1
   rw[List.append_assoc,List.getElem?_append_left hi]at h2
   refine R.lnk i x f ?_ ?_
   ·rw[List.getElem?_append_left (by omega)];exact h1
   ·rw[List.getElem?_append_left hi];exact h2
  ·by_cases hi2:i+1=fl.length
   ·rw[List.append_assoc,List.getElem?_append_left (by omega)]at h1
    have h2':f=fr':=by
     rw[List.append_assoc,List.getElem?_append_right (by omega),hi2]at h2
     simp at h2
     exact h2.symm
    subst h2'
    have L:=R.lnk i x fr (by rw[List.getElem?_append_left (by omega)];exact h1) (by rw[hi2];simp)
    unfold Link at L ⊢
    rw[e.1,e.2.1,e.2.2.1,e.2.2.2]
    exact L
   ·have hi3:i=fl.length:=by omega
    subst hi3
    have e1:x=fr':=by
     rw[List.append_assoc,List.getElem?_append_right (Nat.le_refl _)]at h1
     simp at h1
     exact h1.symm
    have e2:f=g:=by
     rw[List.append_assoc,List.getElem?_append_right (by omega)]at h2
     simp at h2
     exact h2.symm
    subst e1 e2
    exact hl
 ·obtain⟨f,h1,h2,h3,h4,h5⟩:=R.bot
  by_cases hz:fl=[]
  ·subst hz
   simp at h1
   subst h1
   exact⟨fr',by simp,by rw[e.1];exact h2,by rw[e.2.1];exact h3,by rw[e.2.2.1];exact h4,by rw[e.2.2.2];exact h5⟩
  ·refine⟨f,?_,h2,h3,h4,h5⟩
   rw[List.getElem?_append_left (List.length_pos_iff.2 hz)]at h1
   rw[List.append_assoc,List.getElem?_append_left (List.length_pos_iff.2 hz)]
   exact h1
 ·have:=List.append_inj' e' rfl
  have:=this.2
  simp at this
  rw[←this]
  exact hg
theorem pow_pos2(k:Nat):1≤2^k:=Nat.two_pow_pos k
theorem fmu180(h:f.fn=180):fmu n N f=4*2^(n-mlv n N f)-3∧fnb n N f=2^(n-mlv n N f)-1:=by
 unfold fmu fnb
 rw[if_pos h,if_pos h]
 exact⟨rfl,rfl⟩
theorem fmu225(h:f.fn=225):fmu n N f=4*2^(n-(f.level+1))-1∧fnb n N f=2^(n-(f.level+1)):=by
 unfold fmu fnb
 rw[if_neg (by omega),if_pos h,if_neg (by omega),if_pos h]
 exact⟨rfl,rfl⟩
theorem fmu273(h:f.fn=273):fmu n N f=1∧fnb n N f=1:=by
 unfold fmu fnb
 rw[if_neg (by omega),if_neg (by omega),if_neg (by omega),if_neg (by omega)]
 exact⟨rfl,rfl⟩
theorem mu_split(hl:mlv n N fr<n)(hg:g.fn=180)(hgl:mlv n N fr+1≤mlv n N g){fr':Fk}(h0:fr.fn=180)(h1:fr'.fn=225)(h2:fr'.level=mlv n N fr):
  fmu n N fr'+fmu n N g+1≤fmu n N fr∧fnb n N fr'+fnb n N g≤fnb n N fr:=by
 rw[(fmu180 h0).1,(fmu180 h0).2,(fmu180 hg).1,(fmu180 hg).2,(fmu225 h1).1,(fmu225 h1).2,h2]
 have e:2^(n-mlv n N fr)=2*2^(n-(mlv n N fr+1)):=by
  rw[show n-mlv n N fr=(n-(mlv n N fr+1))+1 by omega,Nat.pow_succ]
  omega
 have le:2^(n-mlv n N g)≤2^(n-(mlv n N fr+1)):=Nat.pow_le_pow_right (by decide) (by omega)
 have p:=pow_pos2 (n-mlv n N g)
 omega
theorem mu_high(hl:fr.level<n)(hg:g.fn=180)(hgl:fr.level+1≤mlv n N g){fr':Fk}(h0:fr.fn=225)(h1:fr'.fn=273):
  fmu n N fr'+fmu n N g+1≤fmu n N fr∧fnb n N fr'+fnb n N g≤fnb n N fr:=by
 rw[(fmu225 h0).1,(fmu225 h0).2,(fmu180 hg).1,(fmu180 hg).2,(fmu273 h1).1,(fmu273 h1).2]
 have le:2^(n-mlv n N g)≤2^(n-(fr.level+1)):=Nat.pow_le_pow_right (by decide) (by omega)
 have p:=pow_pos2 (n-mlv n N g)
 omega
theorem fmu_pos:1≤fmu n N f:=by
 unfold fmu
 have p:=pow_pos2 (n-mlv n N f)
 have q:=pow_pos2 (n-(f.level+1))
 split
 ·omega
 ·split<;>omega
end
end
section
def AtOnce(op a b c r:Nat):Prop:= ∀n f N,NOk n N→isN N a→isN N b→isN N c→OpR n f N op a b c r
theorem opr_c0{n:Nat}{f:Nat→Nat}{N:List (Option Nd)}{op a b c:Nat}(H:NOk n N)(ha:isN N a)(h: ∀x,false=opB op (sm n f N a x) (sm n f N b x) (sm n f N c x)):OpR n f N op a b c 0:=
 ⟨.inl (by omega),fun k h1 _ _=>by rw[lvl_end (a:=0) (by omega)];have:=lvl_le H ha;omega,fun x=>by rw[sm_const (by omega)];exact h x⟩
theorem opr_c1{n:Nat}{f:Nat→Nat}{N:List (Option Nd)}{op a b c:Nat}(H:NOk n N)(ha:isN N a)(h: ∀x,true=opB op (sm n f N a x) (sm n f N b x) (sm n f N c x)):OpR n f N op a b c 1:=
 ⟨.inl (by omega),fun k h1 _ _=>by rw[lvl_end (a:=1) (by omega)];have:=lvl_le H ha;omega,fun x=>by rw[sm_const (by omega)];exact h x⟩
section
variable {h:Heap}{s m:Nat}{f:Fk}{K:Value→Heap→Prop}
theorem frame_rd(A:At h f.b (cellK m f)):rd h ⟨f.b,0,none⟩=some (ptrV m)∧rd h ⟨f.b,1,none⟩=some (.int .u8 (f.op:Int))∧rd h ⟨f.b,3,none⟩=some (.int .u32 (f.a0:Int))∧rd h ⟨f.b,4,none⟩=some (.int .u32 (f.a1:Int))∧rd h ⟨f.b,5,none⟩=some (.int .u32 (f.a2:Int))∧rd h ⟨f.b,6,none⟩=some (.int .i64 (f.level:Int))∧rd h ⟨f.b,7,none⟩=some (.int .u32 (f.low:Int))∧rd h ⟨f.b,8,none⟩=some (goV f.fn f.b):=
 ⟨by rw[At.rd A];rfl,by rw[At.rd A];rfl,by rw[At.rd A];rfl,by rw[At.rd A];rfl,by rw[At.rd A];rfl,by rw[At.rd A];rfl,by rw[At.rd A];rfl,by rw[At.rd A];rfl⟩
theorem mach_rd{A:MA}(M:At h A.m (cellM s A)):rd h ⟨A.m,0,none⟩=some (ptrV s)∧rd h ⟨A.m,1,none⟩=some (.slice A.fp A.fs.length A.fc)∧rd h ⟨A.m,2,none⟩=some (.int .u32 (A.told:Int))∧rd h ⟨A.m,3,none⟩=some (.bool A.done)∧rd h ⟨A.m,4,none⟩=some (.int .i64 (A.e:Int)):=
 ⟨by rw[At.rd M];rfl,by rw[At.rd M];rfl,by rw[At.rd M];rfl,by rw[At.rd M];rfl,by rw[At.rd M];rfl⟩
theorem same223(F:At h f.b (cellK m f))(hop:isJoin f.op)(hT: ∀r:Nat,AtOnce f.op f.a0 f.a1 f.a2 r→K (.tuple #[.int .u32 (r:Int),.bool true]) h)
  (hF: ∀r:Nat,(f.op=3→f.a0≠0)→K (.tuple #[.int .u32 (r:Int),.bool false]) h):Cl 223 [ptrV f.b] h K:=by
 obtain⟨-,r1,r3,r4,r5,-⟩:=frame_rd F
 refine F223.spec _ h K ?_
 simp only[add_mk,Nat.zero_add,Nat.add_zero]
 have r3':rd h ⟨f.b,3+Int.toNat (0:Int)*1,none⟩=some (.int .u32 (f.a0:Int)):=r3
 have r4':rd h ⟨f.b,3+Int.toNat (1:Int)*1,none⟩=some (.int .u32 (f.a1:Int)):=r4
 refine⟨by omega,by omega,ldI_of r3' ⟨by omega,by omega,ldI_of r4' (ldI_of r1 ?_)⟩⟩
 have tail: ∀z:Nat,(z=1∧f.op=2)∨(z=0∧f.op≠2)→F223.wk5 ⟨f.b,0,none⟩ (f.a0:Int) (f.a1:Int) (z:Int) h K:=by
  intro z hz
  unfold F223.wk5
  simp only[add_mk,Nat.zero_add,Nat.add_zero]
  refine ldI_of r1 ?_
  rw[show(5:Int)=((5:Nat):Int)from rfl,eq_cast]
  refine bcase_of (fun e=> ?_) fun e5=> ?_
  ·have e:=of_decide_eq_true e
   exact hF 0 fun h3=>by omega
  have e5:=of_decide_eq_false e5
  have hop':f.op=2∨f.op=3∨f.op=4:=by rcases hop with h|h|h|h<;>omega
  rw[eq_cast]
  refine bcase_of (fun e=> ?_) fun e0=> ?_
  ·have e:=of_decide_eq_true e
   refine hT _ fun n fo N H ha hb hc=>⟨hb,fun k _ h2 _=>h2,fun x=> ?_⟩
   rcases hz with⟨h1,h2⟩|⟨h1,h2⟩
   ·rw[h2,e,h1,sm_const (a:=1) (by omega)]
    simp[opB]
   ·rcases hop' with h|h|h
    ·omega
    ·rw[h,e,h1,sm_const (a:=0) (by omega)]
     simp[opB]
    ·rw[h,e,h1,sm_const (a:=0) (by omega)]
     simp[opB]
  have e0:=of_decide_eq_false e0
  have last:bcase ((f.a1:Int)==(z:Int)) (K (.tuple #[.int .u32 (f.a0:Int),.bool true]) h) (K (.tuple #[.int .u32 (0:Int),.bool false]) h):=by
   rw[eq_cast]
   refine bcase_of (fun e=> ?_) fun e=> ?_
   ·have e:=of_decide_eq_true e
    refine hT _ fun n fo N H ha hb hc=>⟨ha,fun k h2 _ _=>h2,fun x=> ?_⟩
    rcases hz with⟨h1,h2⟩|⟨h1,h2⟩
    ·rw[h2,e,h1,sm_const (a:=1) (by omega)]
     simp[opB]
    ·rcases hop' with h|h|h
     ·omega
     ·rw[h,e,h1,sm_const (a:=0) (by omega)]
      simp[opB]
     ·rw[h,e,h1,sm_const (a:=0) (by omega)]
      simp[opB]
   ·exact hF 0 fun h3=>by omega
  rw[eq_cast]
  refine bcase_of (fun e=>ldI_of r1 ?_) fun e=>last
  have e:=of_decide_eq_true e
  rw[show((f.op:Int) !=(4:Int))= !decide (f.op=4) by rw[show(4:Int)=((4:Nat):Int)from rfl,←eq_cast];rfl]
  refine bcase_of (fun e4=> ?_) fun e4=>last
  have e4:f.op≠4:=by simpa using e4
  refine hT _ fun n fo N H ha hb hc=>⟨hb,fun k _ h2 _=>h2,fun x=> ?_⟩
  rw[e]
  rcases hop' with h|h|h
  ·rw[h];simp[opB]
  ·rw[h];simp[opB]
  ·omega
 rw[show(2:Int)=((2:Nat):Int)from rfl,eq_cast]
 refine bcase_of (fun e=> ?_) fun e=> ?_
 ·exact tail 1 (.inl ⟨rfl,of_decide_eq_true e⟩)
 ·exact tail 0 (.inr ⟨rfl,of_decide_eq_false e⟩)
theorem le_cast{a:Nat}:decide ((a:Int)≤(1:Int))=decide (a≤1):=by
 by_cases h:a≤1
 ·rw[decide_eq_true h,decide_eq_true (by omega)]
 ·rw[decide_eq_false h,decide_eq_false (by omega)]
theorem sm_bit{n:Nat}{f:Nat→Nat}{N:List (Option Nd)}{a x:Nat}(h:a≤1):sm n f N a x=decide (a=1):=by
 rw[sm_const (by omega)]
 by_cases e:a=1<;>simp[e]
theorem ends224(F:At h f.b (cellK m f))(hop:isJoin f.op)(h32:f.a0<2^32∧f.a1<2^32)(h3:f.op=3→f.a0≠0)(hT: ∀r:Nat,AtOnce f.op f.a0 f.a1 f.a2 r→K (.tuple #[.int .u32 (r:Int),.bool true]) h)
  (hF: ∀r:Nat,(2≤f.a0∨2≤f.a1∨2≤f.a2)→K (.tuple #[.int .u32 (r:Int),.bool false]) h):Cl 224 [ptrV f.b] h K:=by
 obtain⟨-,r1,r3,r4,r5,-⟩:=frame_rd F
 refine F224.spec _ h K ?_
 simp only[add_mk,Nat.zero_add,Nat.add_zero]
 have r3':rd h ⟨f.b,3+Int.toNat (0:Int)*1,none⟩=some (.int .u32 (f.a0:Int)):=r3
 have r4':rd h ⟨f.b,3+Int.toNat (1:Int)*1,none⟩=some (.int .u32 (f.a1:Int)):=r4
 have r5':rd h ⟨f.b,3+Int.toNat (2:Int)*1,none⟩=some (.int .u32 (f.a2:Int)):=r5
 refine⟨by omega,by omega,ldI_of r3' ⟨by omega,by omega,ldI_of r4' ⟨by omega,by omega,ldI_of r5' (ldI_of r1 ?_)⟩⟩⟩
 rw[band32 h32.1 h32.2,bxor32 h32.1 h32.2,le_cast,le_cast]
 simp only[show(2:Int)=((2:Nat):Int)from rfl,show(3:Int)=((3:Nat):Int)from rfl,show(4:Int)=((4:Nat):Int)from rfl,show(1:Int)=((1:Nat):Int)from rfl,show(0:Int)=((0:Nat):Int)from rfl,eq_cast]
 have and0:f.op=2→(f.a0=0∨f.a1=0)→K (.tuple #[.int .u32 ((f.a0&&&f.a1:Nat):Int),.bool true]) h:=fun e he=>by
  have:f.a0&&&f.a1=0:=by rcases he with h|h<;>rw[h]<;>simp
  rw[this]
  refine hT 0 fun n fo N H ha hb hc=>opr_c0 H ha fun x=> ?_
  rw[e]
  rcases he with h|h
  ·rw[h,sm_const (a:=0) (by omega)];simp[opB]
  ·rw[h,sm_const (a:=0) (by omega)];simp[opB]
 refine bcase_of (fun e=> ?_) fun e2=> ?_
 ·have e:=of_decide_eq_true e
  have no0:f.a0≠0→bcase (decide (f.a0=0)) (K (.tuple #[.int .u32 ((f.a0&&&f.a1:Nat):Int),.bool true]) h) (K (.tuple #[.int .u32 ((f.a0&&&f.a1:Nat):Int),.bool (decide (f.a1=0))]) h)→True:=fun _ _=>trivial
  have rest:(2≤f.a0∨2≤f.a1)→bcase (decide (f.a0=0)) (K (.tuple #[.int .u32 ((f.a0&&&f.a1:Nat):Int),.bool true]) h) (K (.tuple #[.int .u32 ((f.a0&&&f.a1:Nat):Int),.bool (decide (f.a1=0))]) h):=fun h2=>by
   refine bcase_of (fun e0=>and0 e (.inl (of_decide_eq_true e0))) fun e0=> ?_
   by_cases h1:f.a1=0
   ·rw[decide_eq_true h1]
    exact and0 e (.inr h1)
   ·rw[decide_eq_false h1]
    exact hF _ (h2.imp id .inl)
  refine bcase_of (fun e0=> ?_) fun e0=>rest (.inl (by have:=of_decide_eq_false e0;omega))
  have e0:=of_decide_eq_true e0
  refine bcase_of (fun e1=> ?_) fun e1=>rest (.inr (by have:=of_decide_eq_false e1;omega))
  have e1:=of_decide_eq_true e1
  by_cases hz:f.a0=0∨f.a1=0
  ·exact and0 e hz
  ·have q0:f.a0=1:=by omega
   have q1:f.a1=1:=by omega
   rw[show f.a0&&&f.a1=1 by rw[q0,q1];rfl]
   refine hT 1 fun n fo N H ha hb hc=>opr_c1 H ha fun x=> ?_
   rw[e,q0,q1,sm_const (a:=1) (by omega)]
   simp[opB]
 have e2:=of_decide_eq_false e2
 refine bcase_of (fun e=> ?_) fun e3=> ?_
 ·have e:=of_decide_eq_true e
  have or1:(f.a0=1∨f.a1=1)→K (.tuple #[.int .u32 ((1:Nat):Int),.bool true]) h:=fun he=>by
   refine hT 1 fun n fo N H ha hb hc=>opr_c1 H ha fun x=> ?_
   rw[e]
   rcases he with h|h
   ·rw[h,sm_const (a:=1) (by omega)];simp[opB]
   ·rw[h,sm_const (a:=1) (by omega)];simp[opB]
  refine bcase_of (fun e0=>or1 (.inl (of_decide_eq_true e0))) fun e0=> ?_
  by_cases h1:f.a1=1
  ·rw[decide_eq_true h1]
   exact or1 (.inr h1)
  ·rw[decide_eq_false h1]
   refine hF 1 (.inl ?_)
   have:=of_decide_eq_false e0
   have:=h3 e
   omega
 have e3:=of_decide_eq_false e3
 refine bcase_of (fun e=> ?_) fun e4=> ?_
 ·have e:=of_decide_eq_true e
  refine bcase_of (fun e0=> ?_) fun e0=> ?_
  ·have e0:=of_decide_eq_true e0
   rw[e0,Nat.xor_self]
   refine hT 0 fun n fo N H ha hb hc=>opr_c0 H ha fun x=> ?_
   rw[e,e0]
   simp[opB]
  ·have e0:=of_decide_eq_false e0
   refine bcase_of (fun e1=> ?_) fun e1=>hF _ (.inl (by have:=of_decide_eq_false e1;omega))
   have e1:=of_decide_eq_true e1
   by_cases h1:f.a1≤1
   ·rw[decide_eq_true h1]
    have q:f.a0^^^f.a1=1:=by
     have:(f.a0=0∧f.a1=1)∨(f.a0=1∧f.a1=0):=by omega
     rcases this with⟨h,h'⟩|⟨h,h'⟩<;>rw[h,h']<;>rfl
    rw[q]
    refine hT 1 fun n fo N H ha hb hc=>opr_c1 H ha fun x=> ?_
    rw[e,sm_bit e1,sm_bit h1]
    have:(f.a0=0∧f.a1=1)∨(f.a0=1∧f.a1=0):=by omega
    rcases this with⟨h,h'⟩|⟨h,h'⟩<;>rw[h,h']<;>simp[opB]
   ·rw[decide_eq_false h1]
    exact hF _ (.inr (.inl (by omega)))
 have e4:=of_decide_eq_false e4
 have e5:f.op=5:=by rcases hop with h|h|h|h<;>omega
 refine bcase_of (fun e=> ?_) fun e1=>bcase_of (fun e=> ?_) fun e12=>bcase_of (fun e=> ?_) fun e0=> ?_
 ·have e:=of_decide_eq_true e
  refine hT _ fun n fo N H ha hb hc=>⟨hb,fun k _ h2 _=>h2,fun x=> ?_⟩
  rw[e5,e,sm_const (a:=1) (by omega)]
  simp[opB]
 ·have e:=of_decide_eq_true e
  refine hT _ fun n fo N H ha hb hc=>⟨hb,fun k _ h2 _=>h2,fun x=> ?_⟩
  rw[e5,e]
  simp[opB]
 ·have e:=of_decide_eq_true e
  refine hT _ fun n fo N H ha hb hc=>⟨hc,fun k _ _ h2=>h2,fun x=> ?_⟩
  rw[e5,e,sm_const (a:=0) (by omega)]
  simp[opB]
 ·exact hF 0 (.inl (by have:=of_decide_eq_false e1;have:=of_decide_eq_false e0;omega))
end
end
section
def sideB(side:Bool)(s:Nat):Value:= .func (.func (if side then 73 else 72)) #[.pointer (some ⟨s,0,none⟩)] #[]
section
variable {h:Heap}{s m:Nat}{f:Fk}{K:Value→Heap→Prop}{L:List Nat}{X:SX}
set_option maxRecDepth 100000 in
theorem half226{A:MA}{side:Bool}(H:Sto h s L X)(F:At h f.b (cellK A.m f))(M:At h A.m (cellM s A))(ha:isN X.N f.a0)(hb:isN X.N f.a1)(hc:isN X.N f.a2)
  (hK: ∀h',Only [] h h'→K (.agg #[.int .u32 (ch X.n X.N f.level side f.a0:Int),.int .u32 (ch X.n X.N f.level side f.a1:Int),.int .u32 (ch X.n X.N f.level side f.a2:Int)]) h'):
  Cl 226 [ptrV f.b,sideB side s] h K:=by
 refine F226.spec _ _ h K ?_
 refine newK_at fun h1 A1 O1 z1=> ?_
 simp only[add_mk,Nat.zero_add,Nat.add_zero]
 have F1:=F.only O1 (by simp)
 obtain⟨-,-,r3,r4,r5,-⟩:=frame_rd F1
 refine ldI_of r3 (ldI_of r4 (ldI_of r5 ?_))
 refine newK_at fun h2 A2 O2 z2=> ?_
 refine stK_at A2 (by simp) rfl fun h3 A3 O3 z3=>stK_at A3 (by simp) rfl fun h4 A4 O4 z4=>stK_at A4 (by simp) rfl fun h5 A5 O5 z5=> ?_
 have A5:At h5 h1.size [.int .u32 (f.a0:Int),.int .u32 (f.a1:Int),.int .u32 (f.a2:Int)]:=A5
 have r: ∀k,rd h5 ⟨h1.size,k,none⟩=([.int .u32 (f.a0:Int),.int .u32 (f.a1:Int),.int .u32 (f.a2:Int)]:List Value)[k]? :=fun k=>At.rd A5 k
 refine ldI_of (by rw[r];rfl) (ldI_of (by rw[r];rfl) (ldI_of (by rw[r];rfl) ?_))
 unfold F226.wk3
 have O15:Only [h1.size] h1 h5:=((O2.mono (T:=[h1.size]) (by simp)).trans O3 fun b hb _=>hb).trans O4 (fun b hb _=>hb)|>.trans O5 fun b hb _=>hb
 have B5:At h5 h.size [.int .u32 0,.int .u32 0,.int .u32 0]:=A1.only O15 (by simp;omega)
 have O05:Only [] h h5:=O1.trans O15 (by intro b hb hl;simp at hb;omega)
 have step: ∀(bk:Addr→Value→Addr→Addr→Int→Int→Int→Int→Heap→Prop) (h':Heap) (i y:Nat) (l':List Value),i<3→(if i=0 then f.a0 else if i=1 then f.a1 else f.a2)=y→isN X.N y→l'.length=3→(l'[i]? =some (.int .u32 (y:Int)))→
   At h' h.size [.int .u32 0,.int .u32 0,.int .u32 0]→At h' h1.size l'→Only [] h h'→
   (∀h'',At h'' h.size [.int .u32 0,.int .u32 0,.int .u32 0]→At h'' h1.size (l'.set i (.int .u32 (ch X.n X.N f.level side y:Int)))→Only [] h h''→bk ⟨f.b,0,none⟩ (sideB side s) ⟨h.size,0,none⟩ ⟨h1.size,0,none⟩ (f.a0:Int) (f.a1:Int) (f.a2:Int) ((i+1:Nat):Int) h'')→
   F226.JL3 bk ⟨f.b,0,none⟩ (sideB side s) ⟨h.size,0,none⟩ ⟨h1.size,0,none⟩ (f.a0:Int) (f.a1:Int) (f.a2:Int) (i:Int) h' K:=by
  intro bk h' i y l' hi hy hN hl' hy' B A O hB
  unfold F226.JL3
  have F':=F.only O (by simp)
  have M':=M.only O (by simp)
  have S':=H.only0 O
  obtain⟨r0,-,-,-,-,r6,-⟩:=frame_rd F'
  have m0:=(mach_rd M').1
  rw[decide_eq_true (by omega),bcase_true]
  refine⟨by omega,by omega,ldI_of (n:=(y:Int)) ?_ ?_⟩
  ·rw[Int.toNat_natCast]
   subst hy
   have:i=0∨i=1∨i=2:=by omega
   rcases this with e|e|e<;>subst e<;>rfl
  simp only[add_mk,Nat.zero_add,Nat.add_zero]
  refine ldP_of r0 ?_
  rw[ptrK_some]
  simp only[add_mk,Nat.zero_add,Nat.add_zero]
  refine ldP_of m0 (ldI_of r6 (sto_level S' hN (ldI_of rfl ⟨by trivial,by trivial,by trivial,ldI_of r6 ⟨by trivial,?_⟩⟩)))
  have ew:IntKind.wrap .i64 ((i:Int)+1)=((i+1:Nat):Int):=by rw[wrap_i64 (by omega) (by omega)];omega
  rw[ew,eq_cast]
  refine bcase_of (fun e=> ?_) fun e=> ?_
  ·have e:=of_decide_eq_true e
   have ech:ch X.n X.N f.level side y=if side then high X.N y else low X.N y:=by unfold ch;rw[if_pos e]
   have wr: ∀z:Nat,z=ch X.n X.N f.level side y→ldI .u32 (some (Value.int .u32 (z:Int))) fun n12=>0≤(i:Int)∧(i:Int)<(Nat.cast 3:Int)∧stK h' ⟨h1.size,Int.toNat (i:Int)*1,none⟩ (.int .u32 n12) fun h13=>bk ⟨f.b,0,none⟩ (sideB side s) ⟨h.size,0,none⟩ ⟨h1.size,0,none⟩ (f.a0:Int) (f.a1:Int) (f.a2:Int) ((i+1:Nat):Int) h13:=fun z hz=>by
    refine ldI_of rfl ⟨by omega,by omega,?_⟩
    rw[Int.toNat_natCast,Nat.mul_one,hz]
    exact stK_at A (by omega) rfl fun h'' A' O' z'=>hB h'' (B.only O' (by simp;omega)) A' (O.trans O' (by intro x hx hlt;simp at hx;omega))
   unfold sideB at wr ⊢
   cases side with
   |true=>exact dynK_go go73 (sto_high S' hN (wr _ (by rw[ech];rfl)))
   |false=>exact dynK_go go72 (sto_low S' hN (wr _ (by rw[ech];rfl)))
  ·have e:=of_decide_eq_false e
   have ech:ch X.n X.N f.level side y=y:=by unfold ch;rw[if_neg e]
   refine hB h' B ?_ O
   rw[ech]
   have:l'.set i (.int .u32 (y:Int))=l':=by
    apply List.ext_getElem?
    intro j
    rw[List.getElem?_set]
    by_cases hij:i=j
    ·subst hij
     rw[if_pos rfl,if_pos (by omega),hy']
    ·rw[if_neg hij]
   rw[this]
   exact A
 refine⟨4,?_⟩
 rw[F226.sL3]
 refine step _ h5 0 f.a0 _ (by omega) rfl ha rfl rfl B5 A5 O05 fun h6 B6 A6 O6=> ?_
 rw[F226.sL3]
 refine step _ h6 1 f.a1 _ (by omega) rfl hb rfl rfl B6 A6 O6 fun h7 B7 A7 O7=> ?_
 rw[F226.sL3]
 refine step _ h7 2 f.a2 _ (by omega) rfl hc rfl rfl B7 A7 O7 fun h8 B8 A8 O8=> ?_
 rw[F226.sL3];unfold F226.JL3
 rw[decide_eq_false (by omega),bcase_false]
 simp only[add_mk,Nat.zero_add,Nat.add_zero]
 have A8:At h8 h1.size [.int .u32 (ch X.n X.N f.level side f.a0:Int),.int .u32 (ch X.n X.N f.level side f.a1:Int),.int .u32 (ch X.n X.N f.level side f.a2:Int)]:=A8
 have r8: ∀k,rd h8 ⟨h1.size,k,none⟩=([.int .u32 (ch X.n X.N f.level side f.a0:Int),.int .u32 (ch X.n X.N f.level side f.a1:Int),.int .u32 (ch X.n X.N f.level side f.a2:Int)]:List Value)[k]? :=fun k=>At.rd A8 k
 refine ldI_of (by rw[r8];rfl) (ldI_of (by rw[r8];rfl) (ldI_of (by rw[r8];rfl) ?_))
 refine stK_at B8 (by simp) rfl fun h9 A9 O9 z9=>stK_at A9 (by simp) rfl fun h10 A10 O10 z10=>stK_at A10 (by simp) rfl fun h11 A11 O11 z11=> ?_
 have A11:At h11 h.size [.int .u32 (ch X.n X.N f.level side f.a0:Int),.int .u32 (ch X.n X.N f.level side f.a1:Int),.int .u32 (ch X.n X.N f.level side f.a2:Int)]:=A11
 have r11: ∀k,rd h11 ⟨h.size,k,none⟩=([.int .u32 (ch X.n X.N f.level side f.a0:Int),.int .u32 (ch X.n X.N f.level side f.a1:Int),.int .u32 (ch X.n X.N f.level side f.a2:Int)]:List Value)[k]? :=fun k=>At.rd A11 k
 refine ldI_of (by rw[r11];rfl) (ldI_of (by rw[r11];rfl) (ldI_of (by rw[r11];rfl) ?_))
 exact hK h11 (((O8.trans O9 (by intro b hb hl;simp at hb;omega)).trans O10 (by intro b hb hl;simp at hb;omega)).trans O11 (by intro b hb hl;simp at hb;omega))
end
end
section
theorem go180:xget X 180=some Ext.go:=by kernel_rfl
theorem go225:xget X 225=some Ext.go:=by kernel_rfl
theorem go273:xget X 273=some Ext.go:=by kernel_rfl
section
variable {h:Heap}{s n room:Nat}{fo gg:Nat→Nat}{off:Bool}{N:List (Option Nd)}{A:MA}{fl:List Fk}{fr:Fk}{K:Value→Heap→Prop}{L:List Nat}
theorem MaIs.ftop(M:MaIs h s {A with fs:=fl++[fr]}):At h fr.b (cellK A.m fr):=M.frm fr (by simp)
theorem top_mem:fr.b∈({A with fs:=fl++[fr]}:MA).bl:=by simp[MA.bl]
set_option maxRecDepth 100000 in
theorem joins180(H:Sto h s L (XL n room fo gg N off))(M:MaIs h s {A with fs:=fl++[fr]})(D: ∀b∈({A with fs:=fl++[fr]}:MA).bl,b∉L)(hl:fl.length<100000)(hop:isJoin fr.op)(ha:isN N fr.a0)(hb:isN N fr.a1)(hc:isN N fr.a2)
  (hT: ∀h' fp r,OpR n fo N fr.op fr.a0 fr.a1 fr.a2 r→Sto h' s L (XL n room fo gg N off)→MaIs h' s {A with fp:=fp,fs:=fl,told:=r,done:=fl.isEmpty}→OwnB fp=OwnB A.fp→Only (L++({A with fs:=fl++[fr]}:MA).bl) h h'→K (.tuple #[]) h')
  (hP: ∀h' l b fp fc,l=min (lvl n N fr.a2) (min (lvl n N fr.a1) (min (lvl n N fr.a0) n))→l<n→h.size≤b→Sto h' s L (XL n room fo gg N off)→
   MaIs h' s {A with fp:=fp,fc:=fc,fs:=fl++[{fr with level:=l,fn:=225}]++[⟨b,fr.op,0,ch n N l false fr.a0,ch n N l false fr.a1,ch n N l false fr.a2,0,0,180⟩]}→(∀b∈OwnB fp,b∈OwnB A.fp∨h.size≤b)→Only (L++({A with fs:=fl++[fr]}:MA).bl) h h'→K (.tuple #[]) h'):
  Cl 180 [ptrV fr.b] h K:=by
 have ok:=H.ok
 dsimp only[XL]at ok
 have hn8:=ok.2.2.1
 have nlt: ∀{y},isN N y→y<2^16:=fun hy=>by have:=H.isN_lt hy;omega
 have opl:fr.op<2^8:=by rcases hop with h|h|h|h<;>omega
 refine F180.spec _ h K ?_
 simp only[add_mk,Nat.zero_add,Nat.add_zero]
 have F:=M.ftop
 have r0:=(frame_rd F).1
 have m0:=(mach_rd M.own).1
 refine ldP_of r0 ?_
 rw[ptrK_some]
 simp only[add_mk,Nat.zero_add,Nat.add_zero]
 refine ldP_of m0 ?_
 have tell: ∀h' r,OpR n fo N fr.op fr.a0 fr.a1 fr.a2 r→Sto h' s L (XL n room fo gg N off)→MaIs h' s {A with fs:=fl++[fr]}→Only L h h'→F180.wk6 ⟨fr.b,0,none⟩ (some ⟨s,0,none⟩) (r:Int) true h' K:=by
  intro h' r R S M' O
  unfold F180.wk6
  rw[bcase_true]
  simp only[add_mk,Nat.zero_add,Nat.add_zero]
  refine ldP_of (frame_rd M'.ftop).1 (tells181 M' (by omega) fun h2 fp M2 e2 O2=>⟨rfl,?_⟩)
  refine hT h2 fp r R (S.only O2 fun b hb hm=> ?_) M2 e2 ((O.mono fun b hb _=>List.mem_append.2 (.inl hb)).trans O2 fun b hb _=> ?_)
  ·simp only[List.mem_singleton]at hb
   subst hb
   exact D A.m (by simp[MA.bl]) hm
  ·simp only[List.mem_singleton]at hb
   subst hb
   exact List.mem_append.2 (.inr (by simp[MA.bl]))
 have down: ∀h' (z:Int),(2≤fr.a0∨2≤fr.a1∨2≤fr.a2)→Sto h' s L (XL n room fo gg N off)→MaIs h' s {A with fs:=fl++[fr]}→Only L h h'→F180.wk6 ⟨fr.b,0,none⟩ (some ⟨s,0,none⟩) z false h' K:=by
  intro h' z h2 S M' O
  unfold F180.wk6
  rw[bcase_false]
  simp only[add_mk,Nat.zero_add,Nat.add_zero]
  refine sto_vars S (ldI_of rfl ?_)
  have hsz:=O.size
  have nfr:fr.b∉L:=D _ top_mem
  have zL:=H.lt
  refine M'.top (f':={fr with level:=n}) (by decide) rfl rfl rfl fun h3 M3 O3=> ?_
  have S3:=S.only O3 (fun b hb hm=>by simp only[List.mem_singleton]at hb;subst hb;exact nfr hm)
  obtain⟨q0,q1,q3,q4,q5,q6,-⟩:=frame_rd M3.ftop
  refine ldI_of q3 (ldI_of q4 (ldI_of q5 ?_))
  unfold F180.wk10
  have O03:Only (L++[fr.b]) h h3:=(O.mono fun b hb _=>List.mem_append.2 (.inl hb)).trans O3 fun b hb _=>List.mem_append.2 (.inr hb)
  have lstep: ∀(bk:Addr→Option Addr→Int→Int→Int→Int→Heap→Prop) (k14:Addr→Option Addr→Heap→Prop) (h4:Heap) (i y l:Nat),i<3→(if i=0 then fr.a0 else if i=1 then fr.a1 else fr.a2)=y→isN N y→Sto h4 s L (XL n room fo gg N off)→MaIs h4 s {A with fs:=fl++[{fr with level:=l}]}→Only (L++[fr.b]) h h4→
    (∀h5,Sto h5 s L (XL n room fo gg N off)→MaIs h5 s {A with fs:=fl++[{fr with level:=min (lvl n N y) l}]}→Only (L++[fr.b]) h h5→bk ⟨fr.b,0,none⟩ (some ⟨s,0,none⟩) (fr.a0:Int) (fr.a1:Int) (fr.a2:Int) ((i+1:Nat):Int) h5)→
    F180.JL10 bk k14 ⟨fr.b,0,none⟩ (some ⟨s,0,none⟩) (fr.a0:Int) (fr.a1:Int) (fr.a2:Int) (i:Int) h4 K:=by
   intro bk k14 h4 i y l hi hy hN S4 M4 O4 hB
   unfold F180.JL10
   rw[decide_eq_true (by omega),bcase_true]
   simp only[add_mk,Nat.zero_add,Nat.add_zero]
   obtain⟨p0,p1,p3,p4,p5,p6,-⟩:=frame_rd M4.ftop
   refine⟨by omega,by omega,ldI_of (n:=(y:Int)) ?_ (ldI_of p6 (sto_level S4 hN (ldI_of rfl ⟨by trivial,by trivial,by trivial,by trivial,ldI_of p6 ⟨by trivial,?_⟩⟩)))⟩
   ·rw[Int.toNat_natCast]
    subst hy
    have:i=0∨i=1∨i=2:=by omega
    rcases this with e|e|e<;>subst e<;>rfl
   ·have ew:IntKind.wrap .i64 ((i:Int)+1)=((i+1:Nat):Int):=by rw[wrap_i64 (by omega) (by omega)];omega
    rw[ew]
    show stK h4 ⟨fr.b,6,none⟩ (.int .i64 (if((lvl n N y:Nat):Int)<(l:Int)then((lvl n N y:Nat):Int)else(l:Int))) _
    rw[ifmin]
    refine M4.top (f':={fr with level:=min (lvl n N y) l}) (by decide) rfl rfl rfl fun h5 M5 O5=>hB h5 (S4.only O5 fun b hb hm=>by simp only[List.mem_singleton]at hb;subst hb;exact nfr hm) M5 (O4.trans O5 fun b hb _=>List.mem_append.2 (.inr hb))
  refine⟨4,?_⟩
  rw[F180.sL10]
  refine lstep _ _ h3 0 fr.a0 n (by omega) rfl ha S3 M3 O03 fun h4 S4 M4 O4=> ?_
  rw[F180.sL10]
  refine lstep _ _ h4 1 fr.a1 _ (by omega) rfl hb S4 M4 O4 fun h5 S5 M5 O5=> ?_
  rw[F180.sL10]
  refine lstep _ _ h5 2 fr.a2 _ (by omega) rfl hc S5 M5 O5 fun h6 S6 M6 O6=> ?_
  rw[F180.sL10];unfold F180.JL10
  rw[decide_eq_false (by omega),bcase_false]
  obtain⟨l,el⟩: ∃l,l=min (lvl n N fr.a2) (min (lvl n N fr.a1) (min (lvl n N fr.a0) n)):=⟨_,rfl⟩
  rw[←el]at M6
  have lt2: ∀{y},isN N y→2≤y→lvl n N y<n:=fun hy h2=>(ok.1.at hy h2).1
  have hln:l<n:=by
   rcases h2 with h2|h2|h2
   ·have:=lt2 ha h2;omega
   ·have:=lt2 hb h2;omega
   ·have:=lt2 hc h2;omega
  unfold F180.wk14
  simp only[add_mk,Nat.zero_add,Nat.add_zero]
  refine M6.top (f':={fr with level:=l,fn:=225}) (by decide) rfl rfl rfl fun h7 M7 O7=> ?_
  have S7:=S6.only O7 (fun b hb hm=>by simp only[List.mem_singleton]at hb;subst hb;exact nfr hm)
  have F7:=M7.ftop
  obtain⟨q0,q1,-⟩:=frame_rd F7
  refine ldP_of q0 (ldI_of q1 ?_)
  have O07:Only (L++[fr.b]) h h7:=O6.trans O7 fun b hb _=>List.mem_append.2 (.inr hb)
  refine half226 (A:={A with fs:=fl++[{fr with level:=l,fn:=225}]}) (side:=false) (f:={fr with level:=l,fn:=225}) S7 F7 M7.own ha hb hc fun h8 O8=>⟨_,_,_,rfl,by trivial,by trivial,by trivial,?_⟩
  have M8:=M7.only0 O8
  have S8:=S7.only0 O8
  obtain⟨p0,p1,-⟩:=frame_rd M8.ftop
  refine ldP_of p0 ⟨by trivial,by trivial,by trivial,by trivial,ldI_of p1 ⟨by trivial,?_⟩⟩
  refine calls135 (A:={A with fs:=fl++[{fr with level:=l,fn:=225}]}) (mask:=0) M8 (by simp;omega) fun h9 g fp fc hg M9 O9 g9=>ldP_of rfl ?_
  obtain⟨b,rfl,hb9⟩:=hg
  have hz8:h.size≤h8.size:=Nat.le_trans O07.size O8.size
  refine hP h9 l b fp fc el hln (by omega) (S8.only O9 fun x hx hm=> ?_) M9 (fun x hx=>(g9 x hx).imp id fun h=>by omega) ?_
  ·rcases List.mem_cons.1 hx with e|hx
   ·subst e
    exact D A.m (by simp[MA.bl]) hm
   ·have hx:x∈OwnB A.fp:=hx
    exact D x (by simp[MA.bl,hx]) hm
  ·refine((O07.trans O8 (by simp)).mono (T:=L++({A with fs:=fl++[fr]}:MA).bl) fun x hx _=> ?_).trans O9 fun x hx _=>List.mem_append.2 (.inr ?_)
   ·rcases List.mem_append.1 hx with h|h
    ·exact List.mem_append.2 (.inl h)
    ·simp only[List.mem_singleton]at h
     subst h
     exact List.mem_append.2 (.inr top_mem)
   ·rcases List.mem_cons.1 hx with e|hx
    ·subst e
     simp[MA.bl]
    ·have hx:x∈OwnB A.fp:=hx
     simp[MA.bl,hx]
 have h32:fr.a0<2^32∧fr.a1<2^32:=⟨by have:=nlt ha;omega,by have:=nlt hb;omega⟩
 refine same223 F hop (fun r R=>⟨_,_,rfl,?_⟩) fun r h3=>⟨_,_,rfl,?_⟩
 ·rw[Bool.not_true,bcase_false]
  unfold F180.wk4
  rw[Bool.not_true,bcase_false]
  exact tell h r (R n fo N ok.1 ha hb hc) H M (Only.refl _ _)
 ·rw[Bool.not_false,bcase_true]
  refine ends224 F hop h32 h3 (fun r R=>⟨_,_,rfl,?_⟩) fun r h2=>⟨_,_,rfl,?_⟩
  ·unfold F180.wk4
   rw[Bool.not_true,bcase_false]
   exact tell h r (R n fo N ok.1 ha hb hc) H M (Only.refl _ _)
  ·unfold F180.wk4
   rw[Bool.not_false,bcase_true]
   simp only[add_mk,Nat.zero_add,Nat.add_zero]
   obtain⟨-,p1,p3,p4,p5,-⟩:=frame_rd F
   have r3':rd h ⟨fr.b,3+Int.toNat (0:Int)*1,none⟩=some (.int .u32 (fr.a0:Int)):=p3
   have r4':rd h ⟨fr.b,3+Int.toNat (1:Int)*1,none⟩=some (.int .u32 (fr.a1:Int)):=p4
   have r5':rd h ⟨fr.b,3+Int.toNat (2:Int)*1,none⟩=some (.int .u32 (fr.a2:Int)):=p5
   refine ldI_of p1 ⟨by omega,by omega,ldI_of r3' ⟨by omega,by omega,ldI_of r4' ⟨by omega,by omega,ldI_of r5' ?_⟩⟩⟩
   refine sto_recall (mask:=0) H opl (by decide) (nlt ha) (nlt hb) (nlt hc) (fun h4 S4 O4=>⟨_,_,rfl,?_⟩) fun h4 v hv S4 O4=>⟨_,_,rfl,?_⟩
   ·exact down h4 _ h2 S4 (M.only O4 fun b hb hm=>D b hm hb) O4
   ·obtain⟨r,rfl,R⟩:=QL.get (by rcases hop with h|h|h|h<;>omega) hv (nlt ha) (nlt hb) (nlt hc)
    have hr:=H.isN_lt R.is
    rw[wrap32 (by omega)]
    exact tell h4 r R S4 (M.only O4 fun b hb hm=>D b hm hb) O4
end
end
section
section
variable {h:Heap}{s n room:Nat}{fo gg:Nat→Nat}{off:Bool}{N:List (Option Nd)}{A:MA}{fl:List Fk}{fr:Fk}{K:Value→Heap→Prop}{L:List Nat}
set_option maxRecDepth 100000 in
theorem joinsHigh225(H:Sto h s L (XL n room fo gg N off))(M:MaIs h s {A with fs:=fl++[fr]})(D: ∀b∈({A with fs:=fl++[fr]}:MA).bl,b∉L)(hl:fl.length<100000)(ha:isN N fr.a0)(hb:isN N fr.a1)(hc:isN N fr.a2)
  (hP: ∀h' b fp fc,h.size≤b→Sto h' s L (XL n room fo gg N off)→
   MaIs h' s {A with fp:=fp,fc:=fc,fs:=fl++[{fr with low:=A.told,fn:=273}]++[⟨b,fr.op,0,ch n N fr.level true fr.a0,ch n N fr.level true fr.a1,ch n N fr.level true fr.a2,0,0,180⟩]}→(∀b∈OwnB fp,b∈OwnB A.fp∨h.size≤b)→Only (L++({A with fs:=fl++[fr]}:MA).bl) h h'→K (.tuple #[]) h'):
  Cl 225 [ptrV fr.b] h K:=by
 refine F225.spec _ h K ?_
 simp only[add_mk,Nat.zero_add,Nat.add_zero]
 have nfr:fr.b∉L:=D _ top_mem
 have rm:=mach_rd M.own
 refine ldP_of (frame_rd M.ftop).1 ?_
 rw[ptrK_some]
 simp only[add_mk,Nat.zero_add,Nat.add_zero]
 refine ldI_of rm.2.2.1 ?_
 refine M.top (f':={fr with low:=A.told}) (by decide) rfl rfl rfl fun h1 M1 O1=> ?_
 refine M1.top (f':={fr with low:=A.told,fn:=273}) (by decide) rfl rfl rfl fun h2 M2 O2=> ?_
 have O02:Only [fr.b] h h2:=O1.trans O2 fun b hb _=>hb
 have S2:=H.only O02 (fun b hb hm=>by simp only[List.mem_singleton]at hb;subst hb;exact nfr hm)
 have F2:=M2.ftop
 obtain⟨q0,q1,-⟩:=frame_rd F2
 refine ldP_of q0 (ldI_of q1 (ldP_of q0 ?_))
 rw[ptrK_some]
 simp only[add_mk,Nat.zero_add,Nat.add_zero]
 refine ldP_of (mach_rd M2.own).1 ?_
 refine half226 (A:={A with fs:=fl++[{fr with low:=A.told,fn:=273}]}) (side:=true) (f:={fr with low:=A.told,fn:=273}) S2 F2 M2.own ha hb hc fun h8 O8=>⟨_,_,_,rfl,by trivial,by trivial,by trivial,?_⟩
 have M8:=M2.only0 O8
 have S8:=S2.only0 O8
 obtain⟨p0,p1,-⟩:=frame_rd M8.ftop
 refine ldP_of p0 ⟨by trivial,by trivial,by trivial,by trivial,ldI_of p1 ⟨by trivial,?_⟩⟩
 refine calls135 (A:={A with fs:=fl++[{fr with low:=A.told,fn:=273}]}) (mask:=0) M8 (by simp;omega) fun h9 g fp fc hg M9 O9 g9=>ldP_of rfl ?_
 obtain⟨b,rfl,hb9⟩:=hg
 have hz8:h.size≤h8.size:=Nat.le_trans O02.size O8.size
 refine hP h9 b fp fc (by omega) (S8.only O9 fun x hx hm=> ?_) M9 (fun x hx=>(g9 x hx).imp id fun h=>by omega) ?_
 ·rcases List.mem_cons.1 hx with e|hx
  ·subst e
   exact D A.m (by simp[MA.bl]) hm
  ·have hx:x∈OwnB A.fp:=hx
   exact D x (by simp[MA.bl,hx]) hm
 ·refine((O02.trans O8 (by simp)).mono (T:=L++({A with fs:=fl++[fr]}:MA).bl) fun x hx _=> ?_).trans O9 fun x hx _=>List.mem_append.2 (.inr ?_)
  ·simp only[List.mem_singleton]at hx
   subst hx
   exact List.mem_append.2 (.inr top_mem)
  ·rcases List.mem_cons.1 hx with e|hx
   ·subst e
    simp[MA.bl]
   ·have hx:x∈OwnB A.fp:=hx
    simp[MA.bl,hx]
set_option maxRecDepth 100000 in
theorem joinsNode273(H:Sto h s L (XL n room fo gg N off))(M:MaIs h s {A with fs:=fl++[fr]})(D: ∀b∈({A with fs:=fl++[fr]}:MA).bl,b∉L)(hl:fl.length<100000)(hop:isJoin fr.op)(ha:isN N fr.a0)(hb:isN N fr.a1)(hc:isN N fr.a2)
  (hln:fr.level<n) (hlo:isN N fr.low) (htd:isN N A.told) (llo:fr.level<lvl n N fr.low) (ltd:fr.level<lvl n N A.told)
  (hR: ∀N' r,Ex N N'→MkRel room N fr.level fr.low A.told N' r 0→NOk n N'→OpR n fo N' fr.op fr.a0 fr.a1 fr.a2 r)
  (hT: ∀h' L' N' fp r,MkRel room N fr.level fr.low A.told N' r 0→OpR n fo N' fr.op fr.a0 fr.a1 fr.a2 r→Sto h' s L' (XL n room fo gg N' off)→MaIs h' s {A with fp:=fp,fs:=fl,told:=r,done:=fl.isEmpty}→OwnB fp=OwnB A.fp→Only (L++({A with fs:=fl++[fr]}:MA).bl) h h'→Fresh L L' h→K (.tuple #[]) h')
  (hE: ∀h' L',room≤cntN N→Sto h' s L' (XL n room fo gg N off)→MaIs h' s {A with fp:=none,fc:=0,fs:=[],done:=true,e:=60}→Only (L++({A with fs:=fl++[fr]}:MA).bl) h h'→Fresh L L' h→K (.tuple #[]) h'):
  Cl 273 [ptrV fr.b] h K:=by
 have ok:=H.ok
 dsimp only[XL]at ok
 have hn8:=ok.2.2.1
 have nlt: ∀{y},isN N y→y<2^16:=fun hy=>by have:=H.isN_lt hy;omega
 have opl:fr.op<2^8:=by rcases hop with h|h|h|h<;>omega
 refine F273.spec _ h K ?_
 simp only[add_mk,Nat.zero_add,Nat.add_zero]
 have nfr:fr.b∉L:=D _ top_mem
 have hlt:=M.lt
 obtain⟨q0,q1,-,-,-,q6,q7,-⟩:=frame_rd M.ftop
 refine ldI_of q6 (ldI_of q7 (ldP_of q0 ?_))
 rw[ptrK_some]
 simp only[add_mk,Nat.zero_add,Nat.add_zero]
 refine ldI_of (mach_rd M.own).2.2.1 ?_
 refine F276.spec _ _ _ _ h _ ?_
 simp only[add_mk,Nat.zero_add,Nat.add_zero]
 refine ldP_of q0 ?_
 rw[ptrK_some]
 simp only[add_mk,Nat.zero_add,Nat.add_zero]
 refine ldP_of (mach_rd M.own).1 ?_
 refine sto_mk H (l:=fr.level) hln hlo htd llo ltd fun h1 L1 N1 r e R S1 O1 g1=>⟨_,_,rfl,?_⟩
 dsimp only[XL]at R
 have DD: ∀b∈({A with fs:=fl++[fr]}:MA).bl,b∉L1:=fun b hb hm=>by
  rcases g1 b hm with h|h
  ·exact D b hb h
  ·have:=hlt b hb;omega
 have M1:=M.only O1 (fun b hb hm=>D b hm hb)
 have ok1:=S1.ok
 dsimp only[XL]at ok1
 by_cases he:e=0
 ·subst he
  have E1:Ex N N1:=(mk_node (f:=fo) ok.1 ok1.1 hlo htd llo R).1
  have S1':=sto_XL S1 ok.1 E1
  have RR:=hR N1 r E1 R ok1.1
  rw[show((((0:Nat):Int)) !=(0:Int))=false from rfl,bcase_false]
  unfold F276.wk4
  refine⟨_,_,rfl,?_⟩
  rw[show((((0:Nat):Int))==(0:Int))=true from rfl,bcase_true]
  obtain⟨p0,p1,p3,p4,p5,-⟩:=frame_rd M1.ftop
  refine ldP_of p0 ?_
  rw[ptrK_some]
  simp only[add_mk,Nat.zero_add,Nat.add_zero]
  refine ldP_of (mach_rd M1.own).1 (ldI_of p1 ?_)
  have r3':rd h1 ⟨fr.b,3+Int.toNat (0:Int)*1,none⟩=some (.int .u32 (fr.a0:Int)):=p3
  have r4':rd h1 ⟨fr.b,3+Int.toNat (1:Int)*1,none⟩=some (.int .u32 (fr.a1:Int)):=p4
  have r5':rd h1 ⟨fr.b,3+Int.toNat (2:Int)*1,none⟩=some (.int .u32 (fr.a2:Int)):=p5
  have hr:=S1'.isN_lt RR.is
  refine⟨by omega,by omega,ldI_of r3' ⟨by omega,by omega,ldI_of r4' ⟨by omega,by omega,ldI_of r5' ?_⟩⟩⟩
  refine sto_note (mask:=0) S1' opl (by decide) (nlt ha) (nlt hb) (nlt hc) (by omega) ⟨fr.op,0,fr.a0,fr.a1,fr.a2,r,rfl,rfl,by decide,E1.isN ha,E1.isN hb,E1.isN hc,nlt ha,nlt hb,nlt hc,.inl ⟨by rcases hop with h|h|h|h<;>omega,rfl,RR⟩⟩ fun h2 S2 O2=>⟨rfl,?_⟩
  have M2:=M1.only O2 (fun b hb hm=>DD b hm hb)
  refine ldP_of (frame_rd M2.ftop).1 (tells181 M2 (by omega) fun h3 fp M3 e3 O3=>⟨rfl,?_⟩)
  have nm:A.m∉L1:=DD A.m (by simp[MA.bl])
  refine hT h3 L1 N1 fp r R RR (S2.only O3 fun b hb hm=>by simp only[List.mem_singleton]at hb;subst hb;exact nm hm) M3 e3 ?_ g1
  refine((O1.app O2 g1).mono (T:=L++({A with fs:=fl++[fr]}:MA).bl) fun x hx _=>List.mem_append.2 (.inl hx)).trans O3 fun x hx _=> ?_
  simp only[List.mem_singleton]at hx
  subst hx
  exact List.mem_append.2 (.inr (by simp[MA.bl]))
 ·have hfull:room≤cntN N∧e=60∧N1=N:=by
   rcases R with⟨-,-,h,-⟩|⟨-,_,-,-,h,-⟩|⟨-,-,h1,-,h2,h3⟩|⟨-,-,-,h,-⟩
   ·exact absurd h he
   ·exact absurd h he
   ·exact⟨h1,h2,h3⟩
   ·exact absurd h he
  obtain⟨hf1,rfl,rfl⟩:=hfull
  rw[show((((60:Nat):Int)) !=(0:Int))=true from rfl,bcase_true]
  obtain⟨p0,-⟩:=frame_rd M1.ftop
  refine ldP_of p0 (ldP_of p0 (ldP_of p0 ?_))
  rw[ptrK_some]
  simp only[add_mk,Nat.zero_add,Nat.add_zero]
  refine stK_at M1.own (by simp[cellM]) rfl fun h2 A2 O2 z2=> ?_
  rw[ptrK_some]
  simp only[add_mk,Nat.zero_add,Nat.add_zero]
  refine stK_at A2 (by simp[cellM]) rfl fun h3 A3 O3 z3=> ?_
  rw[ptrK_some]
  simp only[add_mk,Nat.zero_add,Nat.add_zero]
  refine stK_at A3 (by simp[cellM]) rfl fun h4 A4 O4 z4=> ?_
  unfold F276.wk4
  refine⟨_,_,rfl,?_⟩
  rw[show((((60:Nat):Int))==(0:Int))=false from rfl,bcase_false]
  have O14:Only [A.m] h1 h4:=(O2.trans O3 fun b hb _=>hb).trans O4 fun b hb _=>hb
  have nm:A.m∉L1:=DD A.m (by simp[MA.bl])
  refine hE h4 L1 hf1 (S1.only O14 fun b hb hm=>by simp only[List.mem_singleton]at hb;subst hb;exact nm hm) ⟨?_,Win.nil _ _,(fun f hf=>by cases hf),by simp[MA.bl,OwnB]⟩ ?_ g1
  ·have e:(((cellM s {A with fs:=fl++[fr]}).set 4 (.int .i64 ((60:Nat):Int))).set 3 (.bool true)).set 1 (.slice none 0 0)=cellM s {A with fp:=none,fc:=0,fs:=[],done:=true,e:=60}:=by simp[cellM]
   rw[←e]
   exact A4
  ·refine(O1.mono (T:=L++({A with fs:=fl++[fr]}:MA).bl) fun x hx _=>List.mem_append.2 (.inl hx)).trans O14 fun x hx _=> ?_
   simp only[List.mem_singleton]at hx
   subst hx
   exact List.mem_append.2 (.inr (by simp[MA.bl]))
end
end
section
def MRes(n:Nat)(fo:Nat→Nat)(room:Nat)(G:Goal)(N N':List (Option Nd))(A A':MA):Prop:=
 (A'.done=false∧A'.e=0∧A'.fs≠[]∧Runs n fo N' G A'.fs A'.told∧mus n N' A'.fs+1≤mus n N A.fs∧cntN N'+nbs n N' A'.fs≤cntN N+nbs n N A.fs)∨
 (A'.done=true∧A'.e=0∧A'.fs=[]∧OpR n fo N' G.op G.a0 G.a1 G.a2 A'.told∧cntN N'≤cntN N+nbs n N A.fs)∨
 (A'.done=true∧A'.e=60∧A'.fs=[]∧N'=N∧room≤cntN N∧1≤nbs n N A.fs)
theorem mk_cnt{room:Nat}{N N':List (Option Nd)}{l a b r:Nat}(R:MkRel room N l a b N' r 0):cntN N'≤cntN N+1:=by
 rcases R with⟨-,-,-,e⟩|⟨-,_,-,-,-,e⟩|⟨-,-,-,-,e,-⟩|⟨-,-,-,-,q,-,P⟩
 ·rw[e];omega
 ·rw[e];omega
 ·omega
 ·rw[P.cnt];exact Nat.le_refl _
section
variable {h:Heap}{s n room:Nat}{fo gg:Nat→Nat}{off:Bool}{N:List (Option Nd)}{A:MA}{fl:List Fk}{fr:Fk}{K:Value→Heap→Prop}{L:List Nat}{G:Goal}
theorem res_pop{N':List (Option Nd)}{r:Nat}{fp:Option Addr}(ok:NOk n N)(E:Ex N N')(R:Runs n fo N G (fl++[fr]) A.told)(hr:OpR n fo N' fr.op fr.a0 fr.a1 fr.a2 r)(he:A.e=0)(hc:cntN N'≤cntN N+fnb n N fr):
  MRes n fo room G N N' {A with fs:=fl++[fr]} {A with fp:=fp,fs:=fl,told:=r,done:=fl.isEmpty}:=by
 have R':=R.ext ok E
 by_cases hz:fl=[]
 ·subst hz
  refine .inr (.inl ⟨rfl,he,rfl,?_,?_⟩)
  ·exact R'.goal hr
  ·show cntN N'≤cntN N+nbs n N ([]++[fr])
   rw[nbs_app]
   omega
 ·refine .inl ⟨?_,he,hz,R'.pop hr hz,?_,?_⟩
  ·show fl.isEmpty=false
   cases fl with
   |nil=>exact absurd rfl hz
   |cons a l=>rfl
  ·show mus n N' fl+1≤mus n N (fl++[fr])
   rw[mus_app,mus_ext (fo:=fo) E fun f hf=>R.frs f (by simp[hf])]
   have:=fmu_pos (n:=n) (N:=N) (f:=fr)
   omega
  ·show cntN N'+nbs n N' fl≤cntN N+nbs n N (fl++[fr])
   rw[nbs_app,nbs_ext (fo:=fo) E fun f hf=>R.frs f (by simp[hf])]
   omega
theorem next_ok(H:Sto h s L (XL n room fo gg N off))(M:MaIs h s {A with fs:=fl++[fr]})(D: ∀b∈({A with fs:=fl++[fr]}:MA).bl,b∉L)(hl:fl.length<100000)(R:Runs n fo N G (fl++[fr]) A.told)(he:A.e=0)(hd:A.done=false)
  (hK: ∀h' L' N' A',A'.m=A.m→Sto h' s L' (XL n room fo gg N' off)→MaIs h' s A'→(∀b∈A'.bl,b∉L')→Ex N N'→MRes n fo room G N N' {A with fs:=fl++[fr]} A'→A'.fs.length≤fl.length+2→Only (L++({A with fs:=fl++[fr]}:MA).bl) h h'→Fresh L L' h→(∀b∈A'.bl,b∈({A with fs:=fl++[fr]}:MA).bl∨h.size≤b)→K (.tuple #[]) h'):
  dynK Tryz.prog X (goV fr.fn fr.b) [] h K:=by
 have ok:=H.ok
 dsimp only[XL]at ok
 have F:=R.frs fr (by simp)
 obtain⟨a0,a1,a2⟩:=F.a
 have hlt:=M.lt
 have zL:=H.lt
 rcases F.fn with e|⟨e|e,lm,-⟩
 ·unfold goV
  rw[e]
  refine dynK_go go180 (joins180 H M D hl F.op a0 a1 a2 (fun h' fp r OR S' M' ep O=> ?_) fun h' l b fp fc el hln hb S' M' g O=> ?_)
  ·have sub: ∀x∈({A with fp:=fp,fs:=fl,told:=r,done:=fl.isEmpty}:MA).bl,x∈({A with fs:=fl++[fr]}:MA).bl:=fun x hx=>by
    simp only[MA.bl,List.mem_cons,List.mem_append,List.map_append]at hx ⊢
    rw[ep]at hx
    rcases hx with h|h|h
    ·exact .inl h
    ·exact .inr (.inl h)
    ·exact .inr (.inr (.inl h))
   exact hK h' L N {A with fp:=fp,fs:=fl,told:=r,done:=fl.isEmpty} rfl S' M' (fun x hx=>D x (sub x hx)) (Ex.refl _) (res_pop ok.1 (Ex.refl _) R OR he (by omega)) (by show fl.length≤_;omega) O (Fresh.refl _ _) fun x hx=> .inl (sub x hx)
  ·have em:mlv n N fr=l:=by unfold mlv;exact el.symm
   have k0:l≤lvl n N fr.a0:=by omega
   have k1:l≤lvl n N fr.a1:=by omega
   have k2:l≤lvl n N fr.a2:=by omega
   have c0:=ch_is (side:=false) ok.1 a0 k0 hln
   have c1:=ch_is (side:=false) ok.1 a1 k1 hln
   have c2:=ch_is (side:=false) ok.1 a2 k2 hln
   have Fr':FrOk n fo N {fr with level:=l,fn:=225}:=⟨F.op,F.a,.inr ⟨.inl rfl,em.symm,hln⟩,fun e=>by cases e⟩
   have Fg:FrOk n fo N ⟨b,fr.op,0,ch n N l false fr.a0,ch n N l false fr.a1,ch n N l false fr.a2,0,0,180⟩:=⟨F.op,⟨c0.1,c1.1,c2.1⟩,.inl rfl,fun e=>by cases e⟩
   have R':=R.push (fr':={fr with level:=l,fn:=225}) (g:=⟨b,fr.op,0,ch n N l false fr.a0,ch n N l false fr.a1,ch n N l false fr.a2,0,0,180⟩) ⟨rfl,rfl,rfl,rfl⟩ Fr' Fg ⟨rfl,.inl ⟨rfl,rfl,rfl,rfl⟩⟩ rfl
   have mg:l+1≤mlv n N ⟨b,fr.op,0,ch n N l false fr.a0,ch n N l false fr.a1,ch n N l false fr.a2,0,0,180⟩:=by
    unfold mlv
    have:=c0.2
    have:=c1.2
    have:=c2.2
    dsimp only
    omega
   have sp:=mu_split (n:=n) (N:=N) (fr:=fr) (fr':={fr with level:=l,fn:=225}) (g:=⟨b,fr.op,0,ch n N l false fr.a0,ch n N l false fr.a1,ch n N l false fr.a2,0,0,180⟩) (by omega) rfl (by omega) e rfl em.symm
   have sub: ∀x∈({A with fp:=fp,fc:=fc,fs:=fl++[{fr with level:=l,fn:=225}]++[⟨b,fr.op,0,ch n N l false fr.a0,ch n N l false fr.a1,ch n N l false fr.a2,0,0,180⟩]}:MA).bl,x∈({A with fs:=fl++[fr]}:MA).bl∨h.size≤x:=fun x hx=>by
    simp only[MA.bl,List.mem_cons,List.mem_append,List.map_append,List.map_cons,List.map_nil,List.not_mem_nil,or_false]at hx ⊢
    rcases hx with h|h|(h|h)|h
    ·exact .inl (.inl h)
    ·exact(g x h).imp (fun h=> .inr (.inl h)) id
    ·exact .inl (.inr (.inr (.inl h)))
    ·exact .inl (.inr (.inr (.inr h)))
    ·exact .inr (by omega)
   refine hK h' L N {A with fp:=fp,fc:=fc,fs:=fl++[{fr with level:=l,fn:=225}]++[⟨b,fr.op,0,ch n N l false fr.a0,ch n N l false fr.a1,ch n N l false fr.a2,0,0,180⟩]} rfl S' M' (fun x hx hm=> ?_) (Ex.refl _) (.inl ⟨hd,he,by simp,R',?_,?_⟩) (by simp) O (Fresh.refl _ _) sub
   ·rcases sub x hx with h|h
    ·exact D x h hm
    ·have:=zL x hm;omega
   ·dsimp only
    rw[mus_app,mus_app,mus_app]
    omega
   ·dsimp only
    rw[nbs_app,nbs_app,nbs_app]
    omega
 ·obtain⟨l1,l2,l3,l4⟩:=F.lev (.inl e)
  unfold goV
  rw[e]
  have W:OpR n fo N fr.op (ch n N fr.level false fr.a0) (ch n N fr.level false fr.a1) (ch n N fr.level false fr.a2) A.told:=by
   rcases R.top fl fr rfl with h|⟨-,h⟩|⟨h,-⟩
   ·omega
   ·exact h
   ·omega
  refine dynK_go go225 (joinsHigh225 H M D hl a0 a1 a2 fun h' b fp fc hb S' M' g O=> ?_)
  have c0:=ch_is (side:=true) ok.1 a0 l2 l1
  have c1:=ch_is (side:=true) ok.1 a1 l3 l1
  have c2:=ch_is (side:=true) ok.1 a2 l4 l1
  have Fr':FrOk n fo N {fr with low:=A.told,fn:=273}:=⟨F.op,F.a,.inr ⟨.inr rfl,lm,l1⟩,fun _=>W⟩
  have Fg:FrOk n fo N ⟨b,fr.op,0,ch n N fr.level true fr.a0,ch n N fr.level true fr.a1,ch n N fr.level true fr.a2,0,0,180⟩:=⟨F.op,⟨c0.1,c1.1,c2.1⟩,.inl rfl,fun e=>by cases e⟩
  have R':=R.push (fr':={fr with low:=A.told,fn:=273}) (g:=⟨b,fr.op,0,ch n N fr.level true fr.a0,ch n N fr.level true fr.a1,ch n N fr.level true fr.a2,0,0,180⟩) ⟨rfl,rfl,rfl,rfl⟩ Fr' Fg ⟨rfl,.inr ⟨rfl,rfl,rfl,rfl⟩⟩ rfl
  have mg:fr.level+1≤mlv n N ⟨b,fr.op,0,ch n N fr.level true fr.a0,ch n N fr.level true fr.a1,ch n N fr.level true fr.a2,0,0,180⟩:=by
   unfold mlv
   have:=c0.2
   have:=c1.2
   have:=c2.2
   dsimp only
   omega
  have sp:=mu_high (n:=n) (N:=N) (fr:=fr) (fr':={fr with low:=A.told,fn:=273}) (g:=⟨b,fr.op,0,ch n N fr.level true fr.a0,ch n N fr.level true fr.a1,ch n N fr.level true fr.a2,0,0,180⟩) l1 rfl mg e rfl
  have sub: ∀x∈({A with fp:=fp,fc:=fc,fs:=fl++[{fr with low:=A.told,fn:=273}]++[⟨b,fr.op,0,ch n N fr.level true fr.a0,ch n N fr.level true fr.a1,ch n N fr.level true fr.a2,0,0,180⟩]}:MA).bl,x∈({A with fs:=fl++[fr]}:MA).bl∨h.size≤x:=fun x hx=>by
   simp only[MA.bl,List.mem_cons,List.mem_append,List.map_append,List.map_cons,List.map_nil,List.not_mem_nil,or_false]at hx ⊢
   rcases hx with h|h|(h|h)|h
   ·exact .inl (.inl h)
   ·exact(g x h).imp (fun h=> .inr (.inl h)) id
   ·exact .inl (.inr (.inr (.inl h)))
   ·exact .inl (.inr (.inr (.inr h)))
   ·exact .inr (by omega)
  refine hK h' L N {A with fp:=fp,fc:=fc,fs:=fl++[{fr with low:=A.told,fn:=273}]++[⟨b,fr.op,0,ch n N fr.level true fr.a0,ch n N fr.level true fr.a1,ch n N fr.level true fr.a2,0,0,180⟩]} rfl S' M' (fun x hx hm=> ?_) (Ex.refl _) (.inl ⟨hd,he,by simp,R',?_,?_⟩) (by simp) O (Fresh.refl _ _) sub
  ·rcases sub x hx with h|h
   ·exact D x h hm
   ·have:=zL x hm;omega
  ·dsimp only
   rw[mus_app,mus_app,mus_app]
   omega
  ·dsimp only
   rw[nbs_app,nbs_app,nbs_app]
   omega
 ·obtain⟨l1,l2,l3,l4⟩:=F.lev (.inr e)
  unfold goV
  rw[e]
  have W:OpR n fo N fr.op (ch n N fr.level true fr.a0) (ch n N fr.level true fr.a1) (ch n N fr.level true fr.a2) A.told:=by
   rcases R.top fl fr rfl with h|⟨h,-⟩|⟨-,h⟩
   ·omega
   ·omega
   ·exact h
  have V:=F.low e
  have c0:=ch_is (side:=false) ok.1 a0 l2 l1
  have c1:=ch_is (side:=false) ok.1 a1 l3 l1
  have c2:=ch_is (side:=false) ok.1 a2 l4 l1
  have d0:=ch_is (side:=true) ok.1 a0 l2 l1
  have d1:=ch_is (side:=true) ok.1 a1 l3 l1
  have d2:=ch_is (side:=true) ok.1 a2 l4 l1
  have llo:fr.level<lvl n N fr.low:=V.lv (fr.level+1) c0.2 c1.2 c2.2
  have ltd:fr.level<lvl n N A.told:=W.lv (fr.level+1) d0.2 d1.2 d2.2
  have f1:fnb n N fr=1:=(fmu273 e).2
  refine dynK_go go273 (joinsNode273 H M D hl F.op a0 a1 a2 l1 V.is W.is llo ltd (fun N' r E Rk ok'=> ?_) (fun h' L' N' fp r Rk OR S' M' ep O g=> ?_) fun h' L' hf S' M' O g=> ?_)
  ·obtain⟨m1,m2,m3,m4⟩:=mk_node (f:=fo) ok.1 ok' V.is W.is llo Rk
   refine⟨m2,fun k' k1 k2 k3=> ?_,fun x=> ?_⟩
   ·rw[m1.lvl a0]at k1
    rw[m1.lvl a1]at k2
    rw[m1.lvl a2]at k3
    have:k'≤fr.level:=by
     rw[lm]
     unfold mlv
     have:=lvl_le ok.1 a0
     omega
    omega
   ·rw[m4 x,m1.sm ok.1 a0,m1.sm ok.1 a1,m1.sm ok.1 a2,ch_sm ok.1 a0 l1,ch_sm (a:=fr.a1) ok.1 a1 l1,ch_sm (a:=fr.a2) ok.1 a2 l1,V.sm,W.sm]
    split<;>rfl
  ·have E:Ex N N':=by
    have ok':=S'.ok.1
    dsimp only[XL]at ok'
    exact(mk_node (f:=fo) ok.1 ok' V.is W.is llo Rk).1
   have sub: ∀x∈({A with fp:=fp,fs:=fl,told:=r,done:=fl.isEmpty}:MA).bl,x∈({A with fs:=fl++[fr]}:MA).bl:=fun x hx=>by
    simp only[MA.bl,List.mem_cons,List.mem_append,List.map_append]at hx ⊢
    rw[ep]at hx
    rcases hx with h|h|h
    ·exact .inl h
    ·exact .inr (.inl h)
    ·exact .inr (.inr (.inl h))
   refine hK h' L' N' {A with fp:=fp,fs:=fl,told:=r,done:=fl.isEmpty} rfl S' M' (fun x hx hm=> ?_) E (res_pop ok.1 E R OR he (by rw[f1];exact mk_cnt Rk)) (by show fl.length≤_;omega) O g fun x hx=> .inl (sub x hx)
   rcases g x hm with h|h
   ·exact D x (sub x hx) h
   ·have:=hlt x (sub x hx);omega
  ·have sub: ∀x∈({A with fp:=none,fc:=0,fs:=[],done:=true,e:=60}:MA).bl,x∈({A with fs:=fl++[fr]}:MA).bl:=fun x hx=>by
    simp only[MA.bl,OwnB,List.map_nil,List.append_nil,List.mem_singleton]at hx
    simp[MA.bl,hx]
   refine hK h' L' N {A with fp:=none,fc:=0,fs:=[],done:=true,e:=60} rfl S' M' (fun x hx hm=> ?_) (Ex.refl _) (.inr (.inr ⟨rfl,rfl,rfl,rfl,hf,?_⟩)) (by show 0≤_;omega) O g fun x hx=> .inl (sub x hx)
   ·rcases g x hm with h|h
    ·exact D x (sub x hx) h
    ·have:=hlt x (sub x hx);omega
   ·show 1≤nbs n N (fl++[fr])
    rw[nbs_app]
    omega
end
end
section
def MSt(n:Nat)(fo:Nat→Nat)(N:List (Option Nd))(G:Goal)(A:MA):Prop:=
 (A.done=false∧A.e=0∧A.fs≠[]∧Runs n fo N G A.fs A.told)∨(A.done=true∧A.e=0∧A.fs=[]∧OpR n fo N G.op G.a0 G.a1 G.a2 A.told)∨(A.done=true∧A.e=60∧A.fs=[])
theorem len_le_mus{n:Nat}{N:List (Option Nd)}: ∀fs:List Fk,fs.length≤mus n N fs
 | []=>by simp[mus]
 |f::fs=>by
  have ih:=len_le_mus (n:=n) (N:=N) fs
  have:=fmu_pos (n:=n) (N:=N) (f:=f)
  simp only[mus,List.map_cons,List.sum_cons,List.length_cons]at ih ⊢
  omega
section
variable {h:Heap}{s n room:Nat}{fo gg:Nat→Nat}{off:Bool}{N:List (Option Nd)}{A:MA}{K:Value→Heap→Prop}{L:List Nat}{G:Goal}
theorem MSt.run(M:MSt n fo N G A)(h:A.done=false):A.e=0∧A.fs≠[]∧Runs n fo N G A.fs A.told:=by
 rcases M with⟨-,h1⟩|⟨h1,-⟩|⟨h1,-⟩
 ·exact h1
 ·rw[h1]at h;cases h
 ·rw[h1]at h;cases h
theorem sub_trans{B0 B1 B2:List Nat}{z0 z1:Nat}(a: ∀b∈B1,b∈B0∨z0≤b)(b: ∀b∈B2,b∈B1∨z1≤b)(hz:z0≤z1): ∀x∈B2,x∈B0∨z0≤x:=fun x hx=>by
 rcases b x hx with h|h
 ·exact a x h
 ·exact .inr (by omega)
theorem step114(H:Sto h s L (XL n room fo gg N off))(M:MaIs h s A)(D: ∀b∈A.bl,b∉L)(hm:mus n N A.fs≤90000)(R:MSt n fo N G A)(hd:A.done=false)
  (hK: ∀h' L' N' A',A'.m=A.m→Sto h' s L' (XL n room fo gg N' off)→MaIs h' s A'→(∀b∈A'.bl,b∉L')→Ex N N'→MSt n fo N' G A'→mus n N' A'.fs+1≤mus n N A.fs→cntN N'+nbs n N' A'.fs≤cntN N+nbs n N A.fs→(A'.e=60→room+1≤cntN N+nbs n N A.fs)→
   Only (L++A.bl) h h'→Fresh L L' h→(∀b∈A'.bl,b∈A.bl∨h.size≤b)→K (.bool A'.done) h'):
  Cl 114 [ptrV A.m] h K:=by
 refine F114.spec _ h K ?_
 simp only[add_mk,Nat.zero_add]
 refine ldP_of (mach_rd M.own).1 (sto_len H (ldI_of rfl ?_))
 unfold F114.wk2
 have main: ∀(d:Nat) (h1:Heap) (L1:List Nat) (N1:List (Option Nd)) (A1:MA),mus n N1 A1.fs≤d→A1.m=A.m→Sto h1 s L1 (XL n room fo gg N1 off)→MaIs h1 s A1→(∀b∈A1.bl,b∉L1)→Ex N N1→MSt n fo N1 G A1→
   (mus n N1 A1.fs+1≤mus n N A.fs∨(mus n N1 A1.fs≤mus n N A.fs∧cntN N1=cntN N∧A1.done=false))→cntN N1+nbs n N1 A1.fs≤cntN N+nbs n N A.fs→(A1.e=60→room+1≤cntN N+nbs n N A.fs)→
   Only (L++A.bl) h h1→Fresh L L1 h→(∀b∈A1.bl,b∈A.bl∨h.size≤b)→F114.wL2 (d+1) ⟨A.m,0,none⟩ (cntN N:Int) h1 K:=by
  intro d
  induction d with
  |zero=>
   intro h1 L1 N1 A1 hd1 em S1 M1 D1 E1 R1 P1 C1 F1 O1 g1 s1
   have hz:A1.fs=[]:=List.eq_nil_of_length_eq_zero (by have:=len_le_mus (n:=n) (N:=N1) A1.fs;omega)
   have hdn:A1.done=true:=by
    rcases R1 with⟨-,-,h,-⟩|⟨h,-⟩|⟨h,-⟩
    ·exact absurd hz h
    ·exact h
    ·exact h
   have rm:=mach_rd M1.own
   rw[em]at rm
   rw[F114.sL2]
   simp only[add_mk,Nat.zero_add]
   refine ldB_of rm.2.2.2.1 ?_
   rw[hdn,Bool.not_true,bcase_false]
   unfold F114.wk4
   simp only[add_mk,Nat.zero_add]
   refine ldB_of rm.2.2.2.1 (hK h1 L1 N1 A1 em S1 M1 D1 E1 R1 ?_ C1 F1 O1 g1 s1)
   rcases P1 with h|⟨-,-,h⟩
   ·exact h
   ·rw[hdn]at h;cases h
  |succ d ih=>
   intro h1 L1 N1 A1 hd1 em S1 M1 D1 E1 R1 P1 C1 F1 O1 g1 s1
   have rm:=mach_rd M1.own
   rw[em]at rm
   rw[F114.sL2]
   simp only[add_mk,Nat.zero_add]
   refine ldB_of rm.2.2.2.1 (bcase_of (fun hn=> ?_) fun hn=> ?_)
   ·have hn:A1.done=false:=by simpa using hn
    refine ldP_of rm.1 (sto_len S1 (ldI_of rfl ?_))
    dsimp only[XL]
    rw[eq_cast]
    refine bcase_of (fun e=> ?_) fun e=> ?_
    ·have e:=of_decide_eq_true e
     obtain⟨he,hne,RR⟩:=R1.run hn
     obtain⟨fl,fr,hfs⟩: ∃fl fr,A1.fs=fl++[fr]:=⟨A1.fs.dropLast,A1.fs.getLast hne,(List.dropLast_concat_getLast hne).symm⟩
     have eA:A1={A1 with fs:=fl++[fr]}:=by rw[←hfs]
     have hlen:A1.fs.length=fl.length+1:=by rw[hfs];simp
     have hml:A1.fs.length≤mus n N1 A1.fs:=len_le_mus _
     have hmb:mus n N1 A1.fs≤mus n N A.fs:=by omega
     rw[hlen]at rm
     refine ldS_of rm.2.1 (ldS_of rm.2.1 ?_)
     have W:Win h1 0 A1.fp A1.fs.length A1.fc (A1.fs.map fun f=>ptrV f.b):=M1.win
     obtain⟨ad,ep,rr⟩:=W.rd (j:=fl.length) (by simp;omega)
     have e1:IntKind.wrap .i64 (((fl.length+1:Nat):Int)-1)=(fl.length:Int):=by rw[wrap_i64 (by omega) (by omega)];omega
     rw[ep,ptrK_some,e1]
     refine⟨by omega,by omega,?_⟩
     rw[Int.toNat_natCast,Nat.mul_one,rr]
     refine ldP_of (n:=some ⟨fr.b,0,none⟩) (by rw[hfs];simp[ptrV]) ?_
     rw[ptrK_some]
     simp only[add_mk,Nat.zero_add]
     have F1':At h1 fr.b (cellK A1.m fr):=M1.frm fr (by rw[hfs];simp)
     rw[(frame_rd F1').2.2.2.2.2.2.2,ldV_some]
     rw[hfs]at RR
     rw[eA]at M1 D1
     refine next_ok S1 M1 D1 (by omega) RR he hn fun h2 L2 N2 A2 em2 S2 M2 D2 E2 R2 hl2 O2 g2 s2=>⟨rfl,?_⟩
     rw[←eA]at O2 s2 R2
     have hO:Only (L++A.bl) h h2:=O1.trans O2 fun b hb hlt=>by
      rcases List.mem_append.1 hb with h|h
      ·rcases g1 b h with h|h
       ·exact List.mem_append.2 (.inl h)
       ·omega
      ·rcases s1 b h with h|h
       ·exact List.mem_append.2 (.inr h)
       ·omega
     have key:MSt n fo N2 G A2∧mus n N2 A2.fs+1≤mus n N1 A1.fs∧cntN N2+nbs n N2 A2.fs≤cntN N1+nbs n N1 A1.fs∧(A2.e=60→room+1≤cntN N1+nbs n N1 A1.fs):=by
      rcases R2 with⟨q1,q2,q3,q4,q5,q6⟩|⟨q1,q2,q3,q4,q5⟩|⟨q1,q2,q3,q4,q5,q6⟩
      ·exact⟨.inl ⟨q1,q2,q3,q4⟩,q5,q6,fun h=>by omega⟩
      ·refine⟨.inr (.inl ⟨q1,q2,q3,q4⟩),?_,?_,fun h=>by omega⟩
       ·rw[q3];simp[mus];simp[mus]at hml;omega
       ·rw[q3];simpa[nbs]using q5
      ·refine⟨.inr (.inr ⟨q1,q2,q3⟩),?_,?_,fun _=>by omega⟩
       ·rw[q3];simp[mus];simp[mus]at hml;omega
       ·rw[q3,q4];simp[nbs]
     obtain⟨k1,k2,k3,k4⟩:=key
     have hz1:=O1.size
     refine ih h2 L2 N2 A2 (by omega) (em2.trans em) S2 M2 D2 (E1.trans E2) k1 (.inl (by omega)) (by omega) (fun h=>by have:=k4 h;omega) hO (g1.trans g2 hz1) (sub_trans s1 s2 hz1)
    ·have e:=of_decide_eq_false e
     unfold F114.wk4
     simp only[add_mk,Nat.zero_add]
     refine ldB_of rm.2.2.2.1 (hK h1 L1 N1 A1 em S1 M1 D1 E1 R1 ?_ C1 F1 O1 g1 s1)
     rcases P1 with h|⟨-,h,-⟩
     ·exact h
     ·exact absurd h e
   ·have hn:A1.done=true:=by simpa using hn
    unfold F114.wk4
    simp only[add_mk,Nat.zero_add]
    refine ldB_of rm.2.2.2.1 (hK h1 L1 N1 A1 em S1 M1 D1 E1 R1 ?_ C1 F1 O1 g1 s1)
    rcases P1 with h|⟨-,-,h⟩
    ·exact h
    ·rw[hn]at h;cases h
 refine⟨_,main (mus n N A.fs) h L N A (Nat.le_refl _) rfl H M D (Ex.refl _) R (.inr ⟨Nat.le_refl _,rfl,hd⟩) (Nat.le_refl _) (fun h=> ?_) (Only.refl _ _) (Fresh.refl _ _) fun b hb=> .inl hb⟩
 have:=(R.run hd).1
 omega
end
end
section
def takesZ(x:Int):Int:=if x=1∨x=6∨x=7 then 1 else if x=2∨x=3∨x=4∨x=8∨x=9∨x=10 then 2 else if x=5 then 3 else 0
theorem eqz{x y:Int}(h:x≠y):(x==y)=false:=by simp[h]
section
variable {h:Heap}{s n room a b c op:Nat}{mask:Int}{fo gg:Nat→Nat}{off:Bool}{N:List (Option Nd)}{K:Value→Heap→Prop}{L:List Nat}{X:SX}
end
end
section
theorem F88.spec(c:Addr)(a b:Int)(h:Heap)(K:KK)(H:bcase (decide (a<(0:Int))) (K (.tuple #[.pointer none,.int .i64 61]) h) (bcase (decide (b<(1:Int))) (K (.tuple #[.pointer none,.int .i64 61]) h) (bcase (decide (b>(256:Int))) (K (.tuple #[.pointer none,.int .i64 61]) h) (Cl 132 [.pointer (some c)] h fun v1 h2=>ldI .i64 (some v1) fun n3=>bcase (decide (a>n3)) (K (.tuple #[.pointer none,.int .i64 61]) h2) (Cl 90 [.int .i64 b] h2 fun v4 h5=>ldI .i64 (some v4) fun n6=>Cl 132 [.pointer (some c)] h5 fun v7 h8=>ldI .i64 (some v7) fun n9=>bcase (decide (n6>(IntKind.wrap .i64 (n9-a)))) (K (.tuple #[.pointer none,.int .i64 61]) h8) (newK h8 (.cells #[.pointer (some c),.int .i64 a,.int .i64 b] 216) fun b10 h11=>K (.tuple #[.pointer (some (Addr.mk b10 0 none)),.int .i64 0]) h11)))))):Cl 88 [.pointer (some c),.int .i64 a,.int .i64 b] h K:=cN Tryz.func88 H
theorem F90.spec(a:Int)(h:Heap)(K:KK)(H:bcase (decide (a<(1:Int))) (K (.int .i64 0) h) (K (.int .i64 (IntKind.wrap .i64 (a+(2:Int)))) h)):Cl 90 [.int .i64 a] h K:=cN Tryz.func90 H
theorem F193.spec(a b:Addr)(h:Heap)(K:KK)(H:ldV (rd h a) fun v1=>ldP (rd h b) fun p2=>dynK Tryz.prog X v1 [.pointer p2] h fun v3 h4=>v3=(.tuple #[])∧K (.tuple #[]) h4):Cl 193 [.pointer (some a),.pointer (some b)] h K:=cN Tryz.func193 H
def F194.T:Hint:=⟨[],[(1,[[(0,[]),(1,[]),(2,[]),(3,[]),(4,[]),(5,[]),(6,[]),(7,[]),(8,[]),(9,[]),(10,[]),(11,[]),(12,[])]])]⟩
theorem F194.spec(a:Addr)(b:Int)(h:Heap)(K:KK)(H:ldP (rd h (a.add 0)) fun p1=>ldI .i64 (rd h (a.add 1)) fun n2=>Cl 162 [.pointer p1,.int .i64 (IntKind.wrap .i64 (n2+b))] h fun v3 h4=>ldI .u64 (some v3) fun n5=>K (.int .i64 (IntKind.wrap .i64 n5)) h4):Cl 194 [.pointer (some a),.int .i64 b] h K:=cT F194.T Tryz.func194 H
theorem F143.spec(a:Addr)(h:Heap)(K:KK)(H:ldP (rd h (a.add 0)) fun p1=>Cl 194 [.pointer p1,.int .i64 1] h fun v2 h3=>ldI .i64 (some v2) fun n4=>stK h3 ((a.add 3).add 0) (.int .i64 n4) fun h5=>stK h5 ((a.add 4).add 0) (.func (.func 195) #[.pointer (some a)] #[]) fun h6=>K (.tuple #[]) h6):Cl 143 [.pointer (some a)] h K:=cN Tryz.func143 H
def F195.T:Hint:=⟨[],[(2,[[(0,[]),(1,[]),(2,[]),(3,[]),(4,[]),(5,[]),(6,[]),(7,[]),(8,[]),(9,[]),(10,[]),(11,[]),(12,[]),(13,[]),(14,[]),(15,[]),(16,[])]])]⟩
theorem F195.spec(a:Addr)(h:Heap)(K:KK)(H:ldP (rd h (a.add 0)) fun p1=>Cl 194 [.pointer p1,.int .i64 0] h fun v2 h3=>ldI .i64 (some v2) fun n4=>stK h3 ((a.add 2).add 0) (.int .i64 n4) fun h5=>stK h5 ((a.add 4).add 0) (.func (.func 239) #[.pointer (some a)] #[]) fun h6=>ldI .i64 (rd h6 (a.add 3)) fun n7=>ldI .i64 (rd h6 (a.add 2)) fun n8=>ldP (rd h6 (a.add 0)) fun p9=>ptrK p9 fun a10=>ldI .i64 (rd h6 (a10.add 2)) fun n11=>bcase (decide ((IntKind.wrap .i64 (n7-n8))≥n11)) (Cl 240 [.pointer (some a),.bool false] h6 fun v12 h13=>v12=(.tuple #[])∧K (.tuple #[]) h13) (K (.tuple #[]) h6)):Cl 195 [.pointer (some a)] h K:=cT F195.T Tryz.func195 H
def F239.T:Hint:=⟨[],[(0,[[(0,[]),(1,[]),(2,[]),(3,[]),(4,[]),(5,[]),(6,[]),(7,[]),(8,[]),(9,[]),(10,[]),(11,[]),(12,[]),(13,[]),(14,[]),(16,[]),(17,[]),(18,[]),(19,[]),(15,[0,1,2,3,4,5,6,16,17,18,19]),(20,[])]])]⟩
theorem F239.spec(a:Addr)(h:Heap)(K:KK)(H:ldP (rd h (a.add 0)) fun p1=>ptrK p1 fun a2=>ldP (rd h (a2.add 0)) fun p3=>ldP (rd h (a.add 0)) fun p4=>ldI .i64 (rd h (a.add 3)) fun n5=>ldI .u64 (rd h (a.add 1)) fun n6=>Cl 283 [.pointer p4,.int .i64 n5] h fun v7 h8=>ldI .i64 (some v7) fun n9=>((.pointer (some a))=((.pointer (some a)):Value)∧((.pointer (some a))=((.pointer (some a)):Value)∧((.pointer (some (a.add 0)))=((.pointer (some (a.add 0))):Value)∧ldP (rd h8 (a.add 0)) fun p10=>((.pointer p10)=((.pointer p1):Value)∧ptrK p1 fun a11=>((.pointer (some a11))=((.pointer (some a2)):Value)∧((.pointer (some (a2.add 0)))=((.pointer (some (a2.add 0))):Value)∧ldP (rd h8 (a2.add 0)) fun p12=>((.pointer p12)=((.pointer p3):Value)∧((.pointer (some a))=((.pointer (some a)):Value)∧((.pointer (some a))=((.pointer (some a)):Value)∧((.pointer (some (a.add 1)))=((.pointer (some (a.add 1))):Value)∧ldI .u64 (rd h8 (a.add 1)) fun n13=>((.int .u64 n13)=((.int .u64 n6):Value)∧Cl 282 [.pointer p3,.int .i64 n9,.int .u64 n6] h8 fun v14 h15=>v14=(.tuple #[])∧stK h15 ((a.add 4).add 0) (.func (.func 284) #[.pointer (some a)] #[]) fun h16=>K (.tuple #[]) h16)))))))))))):Cl 239 [.pointer (some a)] h K:=cT F239.T Tryz.func239 H
theorem F240.spec(a:Addr)(b:Bool)(h:Heap)(K:KK)(H:stK h ((a.add 5).add 0) (.bool true) fun h1=>stK h1 ((a.add 6).add 0) (.bool b) fun h2=>K (.tuple #[]) h2):Cl 240 [.pointer (some a),.bool b] h K:=cN Tryz.func240 H
def F284.T:Hint:=⟨[],[(0,[[(0,[]),(1,[]),(2,[]),(3,[]),(4,[]),(5,[]),(6,[]),(7,[]),(8,[]),(9,[]),(10,[]),(11,[]),(12,[]),(13,[]),(14,[]),(15,[]),(16,[]),(17,[]),(18,[]),(19,[]),(20,[]),(21,[])]])]⟩
theorem F284.spec(a:Addr)(h:Heap)(K:KK)(H:ldP (rd h (a.add 0)) fun p1=>ptrK p1 fun a2=>ldP (rd h (a2.add 0)) fun p3=>ldP (rd h (a.add 0)) fun p4=>ptrK p4 fun a5=>ldI .i64 (rd h (a5.add 1)) fun n6=>ldI .i64 (rd h (a.add 3)) fun n7=>Cl 282 [.pointer p3,.int .i64 (IntKind.wrap .i64 (n6+(1:Int))),.int .u64 (IntKind.wrap .u64 (IntKind.wrap .i64 (n7+(1:Int))))] h fun v8 h9=>v8=(.tuple #[])∧Cl 240 [.pointer (some a),.bool true] h9 fun v10 h11=>v10=(.tuple #[])∧K (.tuple #[]) h11):Cl 284 [.pointer (some a)] h K:=cT F284.T Tryz.func284 H
theorem F220.spec(a:Addr)(h:Heap)(K:KK)(H:ldP (rd h (a.add 0)) fun p1=>Cl 194 [.pointer p1,.int .i64 1] h fun v2 h3=>ldI .i64 (some v2) fun n4=>stK h3 ((a.add 3).add 0) (.int .i64 (IntKind.wrap .i64 (n4-(1:Int)))) fun h5=>stK h5 ((a.add 4).add 0) (.func (.func 269) #[.pointer (some a)] #[]) fun h6=>K (.tuple #[]) h6):Cl 220 [.pointer (some a)] h K:=cN Tryz.func220 H
def F269.T:Hint:=⟨[],[(0,[[(0,[]),(1,[]),(2,[]),(3,[]),(4,[]),(5,[]),(6,[]),(7,[]),(8,[]),(9,[]),(10,[]),(11,[]),(12,[]),(13,[]),(14,[]),(15,[]),(16,[]),(17,[]),(18,[]),(19,[]),(20,[])]])]⟩
theorem F269.spec(a:Addr)(h:Heap)(K:KK)(H:ldP (rd h (a.add 0)) fun p1=>ptrK p1 fun a2=>ldP (rd h (a2.add 0)) fun p3=>ldP (rd h (a.add 0)) fun p4=>ptrK p4 fun a5=>ldI .i64 (rd h (a5.add 1)) fun n6=>ldI .i64 (rd h (a.add 3)) fun n7=>Cl 282 [.pointer p3,.int .i64 (IntKind.wrap .i64 (n6+(1:Int))),.int .u64 (IntKind.wrap .u64 n7)] h fun v8 h9=>v8=(.tuple #[])∧stK h9 ((a.add 4).add 0) (.func (.func 300) #[.pointer (some a)] #[]) fun h10=>K (.tuple #[]) h10):Cl 269 [.pointer (some a)] h K:=cT F269.T Tryz.func269 H
def F300.T:Hint:=⟨[],[(2,[[(0,[]),(1,[]),(2,[]),(3,[]),(4,[]),(5,[]),(6,[]),(7,[]),(8,[])]])]⟩
theorem F300.spec(a:Addr)(h:Heap)(K:KK)(H:ldP (rd h (a.add 0)) fun p1=>Cl 194 [.pointer p1,.int .i64 0] h fun v2 h3=>ldI .i64 (some v2) fun n4=>stK h3 ((a.add 2).add 0) (.int .i64 n4) fun h5=>stK h5 ((a.add 4).add 0) (.func (.func 333) #[.pointer (some a)] #[]) fun h6=>ldI .i64 (rd h6 (a.add 2)) fun n7=>ldI .i64 (rd h6 (a.add 3)) fun n8=>bcase (decide (n7>n8)) (stK h6 ((a.add 4).add 0) (.func (.func 334) #[.pointer (some a)] #[]) fun h9=>K (.tuple #[]) h9) (K (.tuple #[]) h6)):Cl 300 [.pointer (some a)] h K:=cT F300.T Tryz.func300 H
def F333.T:Hint:=⟨[],[(0,[[(0,[]),(1,[]),(2,[]),(3,[]),(4,[]),(5,[]),(6,[]),(7,[]),(8,[]),(9,[]),(10,[]),(11,[]),(12,[]),(13,[]),(14,[]),(15,[]),(16,[0,1,2,3,4,5,6,7]),(17,[0]),(18,[]),(19,[]),(20,[])]]),(1,[[(0,[]),(1,[]),(2,[]),(3,[]),(4,[]),(5,[]),(6,[]),(7,[]),(8,[])]])]⟩
theorem F333.spec(a:Addr)(h:Heap)(K:KK)(H:ldP (rd h (a.add 0)) fun p1=>ptrK p1 fun a2=>ldP (rd h (a2.add 0)) fun p3=>ldP (rd h (a.add 0)) fun p4=>ldI .i64 (rd h (a.add 3)) fun n5=>Cl 283 [.pointer p4,.int .i64 n5] h fun v6 h7=>ldI .i64 (some v6) fun n8=>((.pointer (some a))=((.pointer (some a)):Value)∧((.pointer (some a))=((.pointer (some a)):Value)∧((.pointer (some a))=((.pointer (some a)):Value)∧((.pointer (some (a.add 0)))=((.pointer (some (a.add 0))):Value)∧ldP (rd h7 (a.add 0)) fun p9=>((.pointer p9)=((.pointer p1):Value)∧ptrK p1 fun a10=>((.pointer (some a10))=((.pointer (some a2)):Value)∧((.pointer (some (a2.add 0)))=((.pointer (some (a2.add 0))):Value)∧ldP (rd h7 (a2.add 0)) fun p11=>((.pointer p11)=((.pointer p3):Value)∧Cl 162 [.pointer p3,.int .i64 n8] h7 fun v12 h13=>ldI .u64 (some v12) fun n14=>((.pointer (some a))=((.pointer (some a)):Value)∧stK h13 ((a.add 1).add 0) (.int .u64 n14) fun h15=>ldI .i64 (rd h15 (a.add 2)) fun n16=>ldI .i64 (rd h15 (a.add 3)) fun n17=>bcase (decide (n16<n17)) (Cl 240 [.pointer (some a),.bool true] h15 fun v18 h19=>v18=(.tuple #[])∧K (.tuple #[]) h19) (stK h15 ((a.add 4).add 0) (.func (.func 353) #[.pointer (some a)] #[]) fun h20=>K (.tuple #[]) h20))))))))))):Cl 333 [.pointer (some a)] h K:=cT F333.T Tryz.func333 H
def F353.T:Hint:=⟨[],[(0,[[(0,[]),(1,[]),(2,[]),(3,[]),(4,[]),(5,[]),(6,[]),(7,[]),(8,[]),(9,[]),(10,[]),(11,[]),(12,[]),(13,[]),(14,[]),(15,[]),(16,[]),(17,[]),(18,[]),(19,[]),(20,[]),(21,[]),(22,[]),(23,[]),(24,[]),(25,[]),(26,[]),(27,[0]),(28,[]),(29,[]),(30,[])]])]⟩
theorem F353.spec(a:Addr)(h:Heap)(K:KK)(H:ldP (rd h (a.add 0)) fun p1=>ptrK p1 fun a2=>ldP (rd h (a2.add 0)) fun p3=>ldP (rd h (a.add 0)) fun p4=>ptrK p4 fun a5=>ldI .i64 (rd h (a5.add 1)) fun n6=>ldI .i64 (rd h (a.add 2)) fun n7=>ldI .i64 (rd h (a.add 2)) fun n8=>Cl 163 [.pointer p3,.int .i64 (IntKind.wrap .i64 (n6+(0:Int))),.int .u64 (IntKind.wrap .u64 n7),.int .u64 (IntKind.wrap .u64 (IntKind.wrap .i64 (n8+(1:Int))))] h fun v9 h10=>ldB (some v9) fun b11=>((.pointer (some a))=((.pointer (some a)):Value)∧stK h10 ((a.add 6).add 0) (.bool b11) fun h12=>stK h12 ((a.add 4).add 0) (.func (.func 354) #[.pointer (some a)] #[]) fun h13=>K (.tuple #[]) h13)):Cl 353 [.pointer (some a)] h K:=cT F353.T Tryz.func353 H
theorem F334.spec(a:Addr)(h:Heap)(K:KK)(H:stK h ((a.add 6).add 0) (.bool false) fun h1=>Cl 354 [.pointer (some a)] h1 fun v2 h3=>v2=(.tuple #[])∧K (.tuple #[]) h3):Cl 334 [.pointer (some a)] h K:=cN Tryz.func334 H
def F354.T:Hint:=⟨[],[(0,[[(0,[]),(1,[]),(2,[]),(3,[]),(4,[]),(5,[]),(6,[]),(7,[]),(8,[]),(9,[]),(10,[]),(11,[]),(12,[]),(13,[]),(14,[]),(15,[]),(16,[]),(17,[]),(18,[]),(19,[]),(20,[]),(21,[])]])]⟩
theorem F354.spec(a:Addr)(h:Heap)(K:KK)(H:ldP (rd h (a.add 0)) fun p1=>ptrK p1 fun a2=>ldP (rd h (a2.add 0)) fun p3=>ldP (rd h (a.add 0)) fun p4=>ptrK p4 fun a5=>ldI .i64 (rd h (a5.add 1)) fun n6=>ldI .i64 (rd h (a.add 3)) fun n7=>Cl 282 [.pointer p3,.int .i64 (IntKind.wrap .i64 (n6+(1:Int))),.int .u64 (IntKind.wrap .u64 (IntKind.wrap .i64 (n7+(1:Int))))] h fun v8 h9=>v8=(.tuple #[])∧ldB (rd h9 (a.add 6)) fun b10=>Cl 240 [.pointer (some a),.bool b10] h9 fun v11 h12=>v11=(.tuple #[])∧K (.tuple #[]) h12):Cl 354 [.pointer (some a)] h K:=cT F354.T Tryz.func354 H
theorem F221.spec(a:Addr)(h:Heap)(K:KK)(H:ldP (rd h (a.add 0)) fun p1=>Cl 194 [.pointer p1,.int .i64 0] h fun v2 h3=>ldI .i64 (some v2) fun n4=>stK h3 ((a.add 2).add 0) (.int .i64 n4) fun h5=>stK h5 ((a.add 4).add 0) (.func (.func 270) #[.pointer (some a)] #[]) fun h6=>K (.tuple #[]) h6):Cl 221 [.pointer (some a)] h K:=cN Tryz.func221 H
def F270.T:Hint:=⟨[],[(2,[[(0,[]),(1,[]),(2,[]),(3,[]),(4,[]),(5,[]),(6,[]),(7,[]),(8,[])]])]⟩
theorem F270.spec(a:Addr)(h:Heap)(K:KK)(H:ldP (rd h (a.add 0)) fun p1=>Cl 194 [.pointer p1,.int .i64 1] h fun v2 h3=>ldI .i64 (some v2) fun n4=>stK h3 ((a.add 3).add 0) (.int .i64 n4) fun h5=>stK h5 ((a.add 4).add 0) (.func (.func 301) #[.pointer (some a)] #[]) fun h6=>ldI .i64 (rd h6 (a.add 2)) fun n7=>ldI .i64 (rd h6 (a.add 3)) fun n8=>bcase (decide (n7≥n8)) (Cl 240 [.pointer (some a),.bool false] h6 fun v9 h10=>v9=(.tuple #[])∧K (.tuple #[]) h10) (K (.tuple #[]) h6)):Cl 270 [.pointer (some a)] h K:=cT F270.T Tryz.func270 H
def F301.T:Hint:=⟨[],[(0,[[(0,[]),(1,[]),(2,[]),(3,[]),(4,[]),(5,[]),(6,[]),(7,[]),(8,[]),(9,[]),(10,[]),(11,[]),(12,[]),(13,[]),(14,[]),(15,[]),(16,[0,1,2,3,4,5,6,7]),(17,[0]),(18,[]),(19,[]),(20,[])]])]⟩
theorem F301.spec(a:Addr)(h:Heap)(K:KK)(H:ldP (rd h (a.add 0)) fun p1=>ptrK p1 fun a2=>ldP (rd h (a2.add 0)) fun p3=>ldP (rd h (a.add 0)) fun p4=>ldI .i64 (rd h (a.add 2)) fun n5=>Cl 283 [.pointer p4,.int .i64 n5] h fun v6 h7=>ldI .i64 (some v6) fun n8=>((.pointer (some a))=((.pointer (some a)):Value)∧((.pointer (some a))=((.pointer (some a)):Value)∧((.pointer (some a))=((.pointer (some a)):Value)∧((.pointer (some (a.add 0)))=((.pointer (some (a.add 0))):Value)∧ldP (rd h7 (a.add 0)) fun p9=>((.pointer p9)=((.pointer p1):Value)∧ptrK p1 fun a10=>((.pointer (some a10))=((.pointer (some a2)):Value)∧((.pointer (some (a2.add 0)))=((.pointer (some (a2.add 0))):Value)∧ldP (rd h7 (a2.add 0)) fun p11=>((.pointer p11)=((.pointer p3):Value)∧Cl 162 [.pointer p3,.int .i64 n8] h7 fun v12 h13=>ldI .u64 (some v12) fun n14=>((.pointer (some a))=((.pointer (some a)):Value)∧stK h13 ((a.add 1).add 0) (.int .u64 n14) fun h15=>stK h15 ((a.add 4).add 0) (.func (.func 335) #[.pointer (some a)] #[]) fun h16=>K (.tuple #[]) h16)))))))))):Cl 301 [.pointer (some a)] h K:=cT F301.T Tryz.func301 H
def F335.T:Hint:=⟨[],[(0,[[(0,[]),(1,[]),(2,[]),(3,[]),(4,[]),(5,[]),(6,[]),(7,[]),(8,[]),(9,[]),(10,[]),(11,[]),(12,[]),(13,[]),(14,[]),(15,[]),(16,[]),(17,[]),(18,[]),(19,[]),(20,[]),(21,[]),(22,[]),(23,[]),(24,[]),(25,[]),(26,[]),(27,[0]),(28,[])]])]⟩
theorem F335.spec(a:Addr)(h:Heap)(K:KK)(H:ldP (rd h (a.add 0)) fun p1=>ptrK p1 fun a2=>ldP (rd h (a2.add 0)) fun p3=>ldP (rd h (a.add 0)) fun p4=>ptrK p4 fun a5=>ldI .i64 (rd h (a5.add 1)) fun n6=>ldI .i64 (rd h (a.add 2)) fun n7=>ldI .i64 (rd h (a.add 2)) fun n8=>Cl 163 [.pointer p3,.int .i64 (IntKind.wrap .i64 (n6+(0:Int))),.int .u64 (IntKind.wrap .u64 n7),.int .u64 (IntKind.wrap .u64 (IntKind.wrap .i64 (n8+(1:Int))))] h fun v9 h10=>ldB (some v9) fun b11=>((.pointer (some a))=((.pointer (some a)):Value)∧Cl 240 [.pointer (some a),.bool b11] h10 fun v12 h13=>v12=(.tuple #[])∧K (.tuple #[]) h13)):Cl 335 [.pointer (some a)] h K:=cT F335.T Tryz.func335 H
def F140.T:Hint:=⟨[(3,[0])],[]⟩
section
variable (a:Addr)(h:Heap)(K:KK)
def F140.wk3:Prop:=ldB (rd h (a.add 5)) fun b1=>K (.bool b1) h
theorem F140.spec(a:Addr)(h:Heap)(K:KK)(H:ldB (rd h (a.add 5)) fun b1=>bcase (!b1) (ldV (rd h (a.add 4)) fun v2=>dynK Tryz.prog X v2 [] h fun v3 h4=>v3=(.tuple #[])∧F140.wk3 a h4 K) (F140.wk3 a h K)):Cl 140 [.pointer (some a)] h K:=cT F140.T Tryz.func140 H
end
theorem F141.spec(a:Addr)(h:Heap)(K:KK)(H:ldB (rd h (a.add 5)) fun b1=>bcase (!b1) (K (.tuple #[.int .u64 0,.bool false]) h) (ldB (rd h (a.add 6)) fun b2=>bcase (!b2) (K (.tuple #[.int .u64 0,.bool false]) h) (ldI .u64 (rd h (a.add 1)) fun n3=>K (.tuple #[.int .u64 n3,.bool true]) h))):Cl 141 [.pointer (some a)] h K:=cN Tryz.func141 H
def F283.T:Hint:=⟨[],[(1,[[(0,[]),(1,[]),(2,[]),(3,[]),(4,[]),(5,[]),(6,[]),(7,[]),(8,[]),(9,[]),(10,[]),(11,[]),(12,[])]])]⟩
theorem F283.spec(a:Addr)(b:Int)(h:Heap)(K:KK)(H:ldI .i64 (rd h (a.add 1)) fun n1=>ldI .i64 (rd h (a.add 2)) fun n2=>(n2≠0∧K (.int .i64 (IntKind.wrap .i64 ((IntKind.wrap .i64 (n1+(2:Int)))+(Int.tmod b n2)))) h)):Cl 283 [.pointer (some a),.int .i64 b] h K:=cT F283.T Tryz.func283 H
end
namespace A40
theorem F142.spec(a:Addr)(b:Int)(h:Heap)(K:KK)(H:newK h (.cells #[.func (.func 143) #[] #[]] 235) fun b1 h2=>newK h2 (.cells #[.pointer (some a),.int .u64 b,.int .i64 0,.int .i64 0,.nilFunc,.bool false,.bool false] 272) fun b3 h4=>newK h4 (.cells #[.pointer none] 172) fun b5 h6=>stK h6 ((Addr.mk b5 0 none).add 0) (.pointer (some (Addr.mk b3 0 none))) fun h7=>ldP (rd h7 (Addr.mk b5 0 none)) fun p8=>ptrK p8 fun a9=>stK h7 ((a9.add 4).add 0) (.func (.func 193) #[] #[.pointer (some (Addr.mk b1 0 none)),.pointer (some (Addr.mk b5 0 none))]) fun h10=>ldP (rd h10 (Addr.mk b5 0 none)) fun p11=>K (.pointer p11) h10):Cl 142 [.pointer (some a),.int .u64 b,.func (.func 143) #[] #[]] h K:=cN Tryz.func142 H
end A40
namespace A41
theorem F142.spec(a:Addr)(b:Int)(h:Heap)(K:KK)(H:newK h (.cells #[.func (.func 220) #[] #[]] 235) fun b1 h2=>newK h2 (.cells #[.pointer (some a),.int .u64 b,.int .i64 0,.int .i64 0,.nilFunc,.bool false,.bool false] 272) fun b3 h4=>newK h4 (.cells #[.pointer none] 172) fun b5 h6=>stK h6 ((Addr.mk b5 0 none).add 0) (.pointer (some (Addr.mk b3 0 none))) fun h7=>ldP (rd h7 (Addr.mk b5 0 none)) fun p8=>ptrK p8 fun a9=>stK h7 ((a9.add 4).add 0) (.func (.func 193) #[] #[.pointer (some (Addr.mk b1 0 none)),.pointer (some (Addr.mk b5 0 none))]) fun h10=>ldP (rd h10 (Addr.mk b5 0 none)) fun p11=>K (.pointer p11) h10):Cl 142 [.pointer (some a),.int .u64 b,.func (.func 220) #[] #[]] h K:=cN Tryz.func142 H
end A41
namespace A42
theorem F142.spec(a:Addr)(b:Int)(h:Heap)(K:KK)(H:newK h (.cells #[.func (.func 221) #[] #[]] 235) fun b1 h2=>newK h2 (.cells #[.pointer (some a),.int .u64 b,.int .i64 0,.int .i64 0,.nilFunc,.bool false,.bool false] 272) fun b3 h4=>newK h4 (.cells #[.pointer none] 172) fun b5 h6=>stK h6 ((Addr.mk b5 0 none).add 0) (.pointer (some (Addr.mk b3 0 none))) fun h7=>ldP (rd h7 (Addr.mk b5 0 none)) fun p8=>ptrK p8 fun a9=>stK h7 ((a9.add 4).add 0) (.func (.func 193) #[] #[.pointer (some (Addr.mk b1 0 none)),.pointer (some (Addr.mk b5 0 none))]) fun h10=>ldP (rd h10 (Addr.mk b5 0 none)) fun p11=>K (.pointer p11) h10):Cl 142 [.pointer (some a),.int .u64 b,.func (.func 221) #[] #[]] h K:=cN Tryz.func142 H
end A42
section
def DqIs(h:Heap)(d m base n:Nat):Prop:=At h d [.pointer (some ⟨m,0,none⟩),.int .i64 (base:Int),.int .i64 (n:Int)]
theorem DqIs.only{S:List Nat}{h h':Heap}{t m base n:Nat}(H:DqIs h t m base n)(O:Only S h h')(ht:t∉S):DqIs h' t m base n:=At.only H O ht
structure Dc where
 v:Int
 t:Int
 b:Int
 ph:Nat
 done:Bool
 ok:Bool
def phd:Nat→Nat
 |0=>143
 |1=>195
 |2=>239
 |3=>284
 |4=>220
 |5=>269
 |6=>300
 |7=>333
 |8=>353
 |9=>354
 |10=>334
 |11=>221
 |12=>270
 |13=>301
 |_=>335
theorem go143:xget X 143=some Ext.go:=by kernel_rfl
theorem go195:xget X 195=some Ext.go:=by kernel_rfl
theorem go239:xget X 239=some Ext.go:=by kernel_rfl
theorem go284:xget X 284=some Ext.go:=by kernel_rfl
theorem go220:xget X 220=some Ext.go:=by kernel_rfl
theorem go269:xget X 269=some Ext.go:=by kernel_rfl
theorem go300:xget X 300=some Ext.go:=by kernel_rfl
theorem go333:xget X 333=some Ext.go:=by kernel_rfl
theorem go353:xget X 353=some Ext.go:=by kernel_rfl
theorem go354:xget X 354=some Ext.go:=by kernel_rfl
theorem go334:xget X 334=some Ext.go:=by kernel_rfl
theorem go221:xget X 221=some Ext.go:=by kernel_rfl
theorem go270:xget X 270=some Ext.go:=by kernel_rfl
theorem go301:xget X 301=some Ext.go:=by kernel_rfl
theorem go335:xget X 335=some Ext.go:=by kernel_rfl
theorem go193:xget X 193=some Ext.go:=by kernel_rfl
def isFirst(ph:Nat):Bool:=ph==0||ph==4||ph==11
def nxd(f bx by_ ph:Nat):Value:=
 if isFirst ph then .func (.func 193) #[] #[.pointer (some ⟨bx,0,none⟩),.pointer (some ⟨by_,0,none⟩)]else .func (.func (phd ph)) #[.pointer (some ⟨f,0,none⟩)] #[]
def cellsD(f d bx by_:Nat)(A:Dc):List Value:=
 [.pointer (some ⟨d,0,none⟩),.int .u64 A.v,.int .i64 A.t,.int .i64 A.b,nxd f bx by_ A.ph,.bool A.done,.bool A.ok]
structure DcIs(h:Heap)(f d bx by_:Nat)(A:Dc):Prop where
 act:At h f (cellsD f d bx by_ A)
 fn:isFirst A.ph=true→At h bx [.func (.func (phd A.ph)) #[] #[]]
 me:isFirst A.ph=true→At h by_ [.pointer (some ⟨f,0,none⟩)]
section
variable {h:Heap}{f d m mc base n:Nat}{cs:List Int}{ops fails:Int}{K:Value→Heap→Prop}
theorem load43{c:Int}(Q:DqIs h d m base n)(M:MemIs h m mc cs ops fails)(hb:base<1000000000)(hc0:0≤c)(hc1:c≤1)(hl:base+2≤cs.length)
  (hK: ∀h',MemIs h' m mc cs (up ops) fails→Only [m,mc] h h'→K (.int .i64 (IntKind.wrap .i64 (cs.getD (base+c.toNat) 0))) h'):
  Cl 194 [.pointer (some ⟨d,0,none⟩),.int .i64 c] h K:=by
 apply F194.spec
 simp only[add_mk,Nat.zero_add]
 refine ldP_of (by rw[At.rd Q];rfl) (ldI_of (n:=(base:Int)) (by rw[At.rd Q];rfl) ?_)
 rw[show IntKind.wrap .i64 ((base:Int)+c)=((base+c.toNat:Nat):Int) by rw[wrap_i64 (by omega) (by omega)];omega]
 refine load_in M (by omega) (by omega) fun h1 M1 O1=>ldI_of rfl ?_
 rw[Int.toNat_natCast]
 exact hK h1 M1 O1
def slotOf(base n:Nat)(x:Int):Nat:=base+2+(x.tmod n).toNat
theorem slotOf_lt{base n:Nat}{x:Int}(hn:1≤n)(hx:0≤x):slotOf base n x<base+2+n:=by
 unfold slotOf
 rw[Int.tmod_eq_emod_of_nonneg hx]
 have:=Int.emod_lt_of_pos x (by omega:(0:Int)<n)
 omega
theorem value87{x:Int}(Q:DqIs h d m base n)(hb:base<1000000000)(hn:1≤n)(hn2:n<1000000000)(hx:0≤x)(hK:K (.int .i64 (slotOf base n x:Int)) h):
  Cl 283 [.pointer (some ⟨d,0,none⟩),.int .i64 x] h K:=by
 apply F283.spec
 simp only[add_mk,Nat.zero_add]
 refine ldI_of (n:=(base:Int)) (by rw[At.rd Q];rfl) (ldI_of (n:=(n:Int)) (by rw[At.rd Q];rfl) ⟨by omega,?_⟩)
 have e:x.tmod n=(((x.tmod n).toNat:Nat):Int):=by
  rw[Int.tmod_eq_emod_of_nonneg hx]
  have:=Int.emod_nonneg x (by omega:(n:Int)≠0)
  omega
 have hlt:=slotOf_lt (base:=base) hn hx
 unfold slotOf at hK hlt
 rw[e,wrap_i64 (n:=(base:Int)+2) (by omega) (by omega),wrap_i64 (by omega) (by omega)]
 rw[show((base:Int)+2+((x.tmod n).toNat:Int))=((base+2+(x.tmod n).toNat:Nat):Int) by simp]
 exact hK
theorem ends71{c:List Value}{ok:Bool}(H:At h f c)(hl:c.length=7)(hK: ∀h',At h' f ((c.set 5 (.bool true)).set 6 (.bool ok))→Only [f] h h'→K (.tuple #[]) h'):
  Cl 240 [.pointer (some ⟨f,0,none⟩),.bool ok] h K:=by
 apply F240.spec
 simp only[add_mk,Nat.zero_add,Nat.add_zero]
 refine stK_at H (by omega) rfl fun h1 A1 O1 _=>stK_at A1 (by simp;omega) rfl fun h2 A2 O2 _=> ?_
 exact hK h2 A2 (O1.trans O2 (by simp))
end
def stepD(base n:Nat)(cs:List Int)(A:Dc):Dc×List Int:=
 if A.done then(A,cs)else
 match A.ph with
 |0=>({A with b:=IntKind.wrap .i64 (cs.getD (base+1) 0),ph:=1},cs)
 |1=>({A with t:=IntKind.wrap .i64 (cs.getD base 0),ph:=2,done:=decide (IntKind.wrap .i64 (A.b-IntKind.wrap .i64 (cs.getD base 0))≥(n:Int)),ok:=if decide (IntKind.wrap .i64 (A.b-IntKind.wrap .i64 (cs.getD base 0))≥(n:Int))then false else A.ok},cs)
 |2=>({A with ph:=3},cs.set (slotOf base n A.b) A.v)
 |3=>({A with done:=true,ok:=true},cs.set (base+1) (IntKind.wrap .u64 (IntKind.wrap .i64 (A.b+1))))
 |4=>({A with b:=IntKind.wrap .i64 (IntKind.wrap .i64 (cs.getD (base+1) 0)-1),ph:=5},cs)
 |5=>({A with ph:=6},cs.set (base+1) (IntKind.wrap .u64 A.b))
 |6=>({A with t:=IntKind.wrap .i64 (cs.getD base 0),ph:=if decide (IntKind.wrap .i64 (cs.getD base 0)>A.b)then 10 else 7},cs)
 |7=>if decide (A.t<A.b)then({A with v:=cs.getD (slotOf base n A.b) 0,done:=true,ok:=true},cs)else({A with v:=cs.getD (slotOf base n A.b) 0,ph:=8},cs)
 |8=>if cs.getD base 0=IntKind.wrap .u64 A.t then({A with ok:=true,ph:=9},cs.set base (IntKind.wrap .u64 (IntKind.wrap .i64 (A.t+1))))else({A with ok:=false,ph:=9},cs)
 |9=>({A with done:=true},cs.set (base+1) (IntKind.wrap .u64 (IntKind.wrap .i64 (A.b+1))))
 |10=>({A with done:=true,ok:=false},cs.set (base+1) (IntKind.wrap .u64 (IntKind.wrap .i64 (A.b+1))))
 |11=>({A with t:=IntKind.wrap .i64 (cs.getD base 0),ph:=12},cs)
 |12=>({A with b:=IntKind.wrap .i64 (cs.getD (base+1) 0),ph:=13,done:=decide (A.t≥IntKind.wrap .i64 (cs.getD (base+1) 0)),ok:=if decide (A.t≥IntKind.wrap .i64 (cs.getD (base+1) 0))then false else A.ok},cs)
 |13=>({A with v:=cs.getD (slotOf base n A.t) 0,ph:=14},cs)
 |_=>if cs.getD base 0=IntKind.wrap .u64 A.t then({A with done:=true,ok:=true},cs.set base (IntKind.wrap .u64 (IntKind.wrap .i64 (A.t+1))))else({A with done:=true,ok:=false},cs)
end
end Go.Proofs.YtnofenejoebkhaaGreat.Ev
