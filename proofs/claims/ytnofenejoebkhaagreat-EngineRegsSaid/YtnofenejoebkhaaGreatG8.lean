/- PART 8 OF WHAT THE LAW EngineRegs STANDS ON: IterC6, IterD6, EngP5, EngQ5, EngR5, EngT5, EngV5, EngW5, EngX5, ColA5, ColB5, EngY5, EngZ5, ColC5, EngS5, EngTu5, EvR, LawT5. Conditions: none but those that each lemma states. -/
import Derived.Test.YtnofenejoebkhaaGreatG7
import Derived.Shelf.Abstract
namespace Go.Proofs.YtnofenejoebkhaaGreat.Ev
open Go
namespace IN
open Go Go.RowKit Go.Maps
noncomputable def apAssign:Code:=((Tryz.f297.body.bind pickC).map (·.1)).getD .skip
noncomputable def apBody:Code:=((Tryz.f297.body.bind pickC).map (·.2)).getD .skip
noncomputable def apRec(fn:FuncId)(sv:Value)(Bs D:Nat)(st:LoopState)(pend:Option Code):Loop:=
 {state:=st,pending:=pend,fn,tmps:= #[.slice none 0 0,sv,.pointer (some ⟨Bs,0,none⟩),undef,.slice none 0 0,undef,sv,undef,undef,undef,undef,undef,undef],params:= #[7],assign:=apAssign,body:=apBody,defers:=D}
structure ApAt(w0:World)(fn:FuncId)(sv:Value)(Bs l D:Nat)(ss:List Int)(W:World):Prop where
 box: ∃p c,At W.heap Bs [.slice p ss.length c]∧Own W.heap (Bs+1) 1 p ss.length c (ss.map (Value.int .i64))
 L:W.heap[l]? =some (.loop (apRec fn sv Bs D .ready none))
 K:W.heap[D]? =some (.deferred (some []))
 only:Only [] w0.heap W.heap
 same:Same w0 W
theorem ap_abides(w0:World)(fn:FuncId)(sv:Value)(Bs l D B:Nat)(hB:w0.heap.size≤B):AbidesZ B (ApAt w0 fn sv Bs l D):=fun s W W' row h hg hf hrow=>by
 have hrow': ∀r,row=some r→ ∃o:Obj,W.heap[r]? =some o∧o.isWalk=true:=fun r e=>(hrow r e).2
 have O:=grown_only hg hf
 have hno: ∀b,(∃c,At W.heap b c)→b∉row.toList:=fun b ⟨c,A⟩ hb=>by
  cases row with
  |none=>simp at hb
  |some r=>simp at hb;exact A.notWalk (hrow' r rfl) hb
 obtain⟨p,c,A,H⟩:=h.box
 exact⟨⟨p,c,A.only O (hno _ ⟨_,A⟩),H.onlyC O fun b _ hc=>hno b hc⟩,(grownBy_keeps hg hrow' h.L rfl).trans h.L,(grownBy_keeps hg hrow' h.K rfl).trans h.K,
  h.only.trans O (fun b hb hlt=>by
   cases row with
   |none=>simp at hb
   |some r=>
    simp at hb
    have:=(hrow r rfl).1
    omega),h.same.trans (Same.of_grown hg)⟩
theorem sB3:sizeB Tryz.prog 3=some (1,8,#[.int .i64 0]):=by kernel_rfl
set_option maxRecDepth 100000 in
set_option maxHeartbeats 2000000 in
theorem apYield{F:Fence}{m:Nat}(w0:World)(fn:FuncId)(hfn:F.fn fn)(sv:Value)(Bs l D:Nat)(hBl:Bs≠l)(hDl:D≠l)(hDB:D≠Bs)(h0B:w0.heap.size≤Bs)(h0l:w0.heap.size≤l)
  (N:Nat) (hN:N*8≤140737488355328) (ss:List Int) (x:Int) (W:World) (h:ApAt w0 fn sv Bs l D ss W) (hlen:ss.length<N):
  YieldAt F m Tryz.prog l #[.int .i64 x] W fun e W'=>e= .returned (.bool true)∧ApAt w0 fn sv Bs l D (ss++[x]) W'∧KeepsWalks W W':=by
 obtain⟨p,c,A,H⟩:=h.box
 refine⟨fn,#[.slice none 0 0,sv,.pointer (some ⟨Bs,0,none⟩),undef,.slice none 0 0,undef,sv,.int .i64 x,undef,undef,undef,undef,undef],apAssign,apBody,by simpa[apRec]using run_yield (P:=Tryz.prog) (args:= #[.int .i64 x]) h.L rfl,roundIn_of_wpIn hfn ?_⟩
 have hl:l<W.heap.size:=(Array.getElem?_eq_some_iff.1 h.L).1
 have hbr:=run_beginRound (P:=Tryz.prog) h.L rfl
 obtain⟨W2,hW2⟩: ∃W2,W.putObj l (.loop {apRec fn sv Bs D .ready none with state:= .busy})=W2:=⟨_,rfl⟩
 rw[hW2]at hbr
 have hnl: ∀b,(∃c,At W.heap b c)→b∉[l]:=fun b ⟨c,A⟩ hb=>A.ne_obj h.L rfl (by simpa using hb)
 have O2:Only [l] W.heap W2.heap:=by rw[←hW2];exact Only.putW _ h.L rfl rfl
 have A2:At W2.heap Bs [.slice p ss.length c]:=A.only O2 (hnl _ ⟨_,A⟩)
 have H2:=H.onlyC O2 fun b _ hc=>hnl b hc
 have hK2:W2.heap[D]? =some (.deferred (some [])):=by rw[←hW2];exact(World.putObj_heap_other hDl).trans h.K
 have hL2:W2.heap[l]? =some (.loop {apRec fn sv Bs D .ready none with state:= .busy}):=by rw[←hW2];exact World.putObj_heap_same hl
 have S2:Same W W2:=by rw[←hW2];exact⟨rfl,rfl,rfl⟩
 have hc2:W2.cell? ⟨Bs,0,none⟩=some (.slice p ss.length c):=A2.rd 0
 have hf2:W2.frozen? ⟨Bs,0,none⟩=false:=A2.fz 0 none
 have A3:At (W2.alloc (.cells #[.int .i64 x] 3)).heap W2.heap.size [.int .i64 x]:=At.push _ _ _
 have O3:Only [] W2.heap (W2.alloc (.cells #[.int .i64 x] 3)).heap:=Only.push_cells _ _ _
 have H3:=H2.onlyC O3 fun b _ _=>by simp
 have A3':=A2.only O3 (by simp)
 have hBlt:=A2.lt
 have hz3:=O3.size
 clear hW2
 simp only[apAssign,Tryz.f297,pickC,Option.bind_some,Option.map_some,Option.getD_some,Option.none_or,Option.some_or]
 gi_wp2_with (rw[Oper.semAt_eq _ _ _ (fun c h=>by cases h)];go_simp;try go_bits)
 simp only[apBody,Tryz.f297,pickC,Option.bind_some,Option.map_some,Option.getD_some,Option.none_or,Option.some_or]
 gi_wp2_with (first
  |(gi_at_builtin;refine wpListIn_app _ rfl _ _ 84 rfl u84 sB3 (by decide) rfl rfl (own_app (K:=fun p' l' c' h'=>l'=ss.length+1∧Own h' (Bs+1) 1 p' (ss.length+1) c' (ss.map (Value.int .i64)++[Value.int .i64 x])∧Only (OwnB p) (W2.alloc (.cells #[.int .i64 x] 3)).heap h'∧ ∀b∈OwnB p',b∈OwnB p∨(W2.alloc (.cells #[.int .i64 x] 3)).heap.size≤b) H3 A3 rfl rfl (by omega) (by simp[Value.oneCell']) (by omega) fun p' c' h' a b c=>⟨rfl,a,b,c⟩) ?_;rintro p' l' c' w3 S3 ⟨rfl,H4,O4,hp'⟩
    have hnB:Bs∉OwnB p:=fun hb=>by have:=H2.lt Bs hb;omega
    have A4:=A3'.only O4 hnB
    have hc3:w3.cell? ⟨Bs,0,none⟩=some (.slice p ss.length c):=A4.rd 0
    have hf3:w3.frozen? ⟨Bs,0,none⟩=false:=A4.fz 0 none
    go_frame)
  |(rw[Oper.semAt_eq _ _ _ (fun c h=>by cases h)];go_simp;try go_bits))
 have hlB:l∉OwnB p:=fun hb=>by obtain⟨c,A⟩:=H3.cells l hb;exact A.ne_obj ((Below.heap_alloc _ _ l (Array.getElem?_eq_some_iff.1 hL2).1).trans hL2) rfl rfl
 have hDB':D∉OwnB p:=fun hb=>by obtain⟨c,A⟩:=H3.cells D hb;exact A.ne_obj ((Below.heap_alloc _ _ D (Array.getElem?_eq_some_iff.1 hK2).1).trans hK2) rfl rfl
 have hL3:w3.heap[l]? =some (.loop {apRec fn sv Bs D .ready none with state:= .busy}):=(O4.same l (Nat.lt_of_lt_of_le (Array.getElem?_eq_some_iff.1 hL2).1 hz3) hlB).trans ((O3.same l (Array.getElem?_eq_some_iff.1 hL2).1 (by simp)).trans hL2)
 have hK3:w3.heap[D]? =some (.deferred (some [])):=(O4.same D (Nat.lt_of_lt_of_le (Array.getElem?_eq_some_iff.1 hK2).1 hz3) hDB').trans ((O3.same D (Array.getElem?_eq_some_iff.1 hK2).1 (by simp)).trans hK2)
 obtain⟨w4,hw4⟩: ∃w4,w3.setCell ⟨Bs,0,none⟩ (.slice p' (ss.length+1) c')=w4:=⟨_,rfl⟩
 rw[hw4]
 have O5:Only [Bs] w3.heap w4.heap:=by rw[←hw4];exact Only.wr w3.heap ⟨Bs,0,none⟩ _
 have A5:At w4.heap Bs [.slice p' (ss.length+1) c']:=by rw[←hw4];exact A4.wr 0 _
 have S4:Same w3 w4:=by rw[←hw4];exact⟨rfl,rfl,rfl⟩
 have hL4:w4.heap[l]? =some (.loop {apRec fn sv Bs D .ready none with state:= .busy}):=(O5.same l (Array.getElem?_eq_some_iff.1 hL3).1 (by simpa using Ne.symm hBl)).trans hL3
 have hK4:w4.heap[D]? =some (.deferred (some [])):=(O5.same D (Array.getElem?_eq_some_iff.1 hK3).1 (by simpa using hDB)).trans hK3
 have H5:=H4.onlyC O5 fun b hb _ hbB=>by
  simp at hbB
  subst hbB
  have:=H4.lt b hb
  omega
 clear hw4
 have O6:Only [l] w4.heap (w4.putObj l (.loop {{apRec fn sv Bs D .ready none with state:= .busy}with state:=if(none:Option Code).isNone then .ready else .done,pending:=none})).heap:=Only.putW _ hL4 rfl rfl
 have hnl4: ∀b,(∃c,At w4.heap b c)→b∉[l]:=fun b ⟨c,A⟩ hb=>A.ne_obj hL4 rfl (by simpa using hb)
 have OO:Only (l::Bs::OwnB p) W.heap (w4.putObj l (.loop {{apRec fn sv Bs D .ready none with state:= .busy}with state:=if(none:Option Code).isNone then .ready else .done,pending:=none})).heap:=by
  refine(((((O2.mono (T:=l::Bs::OwnB p) (by simp+contextual)).trans O3 (by simp)).trans O4 (by simp+contextual)).trans O5 (by simp+contextual)).trans O6 (by simp+contextual))
 refine⟨_,_,run_endRound none hL4,rfl,⟨⟨p',c',?_,?_⟩,World.putObj_heap_same (Array.getElem?_eq_some_iff.1 hL4).1,(World.putObj_heap_other hDl).trans hK4,h.only.trans OO ?_,?_⟩,keeps_only OO ?_⟩
 ·rw[List.length_append,List.length_singleton]
  exact A5.only O6 (hnl4 _ ⟨_,A5⟩)
 ·rw[List.length_append,List.length_singleton,List.map_append,List.map_singleton]
  exact H5.onlyC O6 fun b _ hc=>hnl4 b hc
 ·intro b hb hlt
  rcases List.mem_cons.1 hb with rfl|hb
  ·omega
  ·rcases List.mem_cons.1 hb with rfl|hb
   ·omega
   ·have:=H.lt b hb
    omega
 ·exact((((h.same.trans S2).trans ⟨rfl,rfl,rfl⟩).trans S3).trans S4).trans ⟨rfl,rfl,rfl⟩
 ·intro r hr o ho
  rcases List.mem_cons.1 hr with rfl|hr
  ·rw[h.L]at ho;cases ho;rfl
  ·rcases List.mem_cons.1 hr with rfl|hr
   ·exact A.walkF o ho
   ·obtain⟨c,A'⟩:=H.cells r hr
    exact A'.walkF o ho
end IN
namespace IN
open Go Go.RowKit Go.Maps Go.Shelf
set_option maxRecDepth 100000 in
set_option maxHeartbeats 2000000 in
theorem appSeq_in{F:Fence}{n:Nat}(h65:F.fn 297)(h66:F.fn 266)(hro:F.round=none)(hn:2≤n)(Bm b:Nat)(m:List (Int×Value))(w:World)(A:At w.heap Bm [.map (some b)])(M:MapM w.heap b .i64 m)
  (hwf: ∀x∈m.map (·.1),(Lit.int .i64 x).wf=true) (hsz:m.length*8≤140737488355328):
  CallsIn F n Tryz.prog 297 #[.slice none 0 0,.func (.func 266) #[] #[.pointer (some ⟨Bm,0,none⟩)]] w fun e w'=> ∃(p:Option Addr) (c:Nat) (ss:List Int),e= .returned (.slice p ss.length c)∧ss.Perm (m.map (·.1))∧
   Own w'.heap (w.heap.size+1) 1 p ss.length c (ss.map (Value.int .i64))∧Only [] w.heap w'.heap∧Same w w':=by
 have h1:1≤n:=by omega
 have hnd:(m.map (·.1)).Nodup:=by obtain⟨_,_,_,_,h,_⟩:=M;exact h
 have eg: ∀args w,(callFunc 266 args).run Tryz.prog w= .ok (.enter 266 args) w:=enters_of Tryz.func266 (by kernel_rfl) rfl
 refine callsIn_of_wp_marks Tryz.func297 rfl h65 ?_ hro
 simp only[Tryz.ntmps297,List.size_toArray,List.length_cons,List.length_nil,Nat.reduceAdd,Nat.reduceSub,Array.replicate_succ,Array.replicate_zero,List.push_toArray,List.append_toArray,List.nil_append,List.cons_append]
 gi_wp2
 refine wpIn_rangeFunc ?_
 intro fn hfn
 rw[hro]
 obtain⟨W0,hW0⟩: ∃W0,w.alloc (.cells #[.slice none 0 0] 84)=W0:=⟨_,rfl⟩
 have hs0:W0.heap.size=w.heap.size+1:=by rw[←hW0];simp
 have O0:Only [] w.heap W0.heap:=by rw[←hW0];exact Only.push_cells _ _ _
 have A0:At W0.heap w.heap.size [.slice none 0 0]:=by rw[←hW0];exact At.push _ _ _
 have S0:Same w W0:=by rw[←hW0];exact⟨rfl,rfl,rfl⟩
 rw[hW0]
 obtain⟨W1,hW1⟩: ∃W1,(W0.alloc (.deferred (some []))).alloc (.loop (apRec fn (.func (.func 266) #[] #[.pointer (some ⟨Bm,0,none⟩)]) w.heap.size W0.heap.size .ready none))=W1:=⟨_,rfl⟩
 have O1:Only [] W0.heap W1.heap:=by rw[←hW1];exact(Only.allocW W0 rfl).trans (Only.allocW _ rfl) (by simp)
 have hs1:W1.heap.size=W0.heap.size+2:=by rw[←hW1];simp
 have S1:Same W0 W1:=by rw[←hW1];exact⟨rfl,rfl,rfl⟩
 have OW:=O0.trans O1 (by simp)
 have hM:ApAt w fn (.func (.func 266) #[] #[.pointer (some ⟨Bm,0,none⟩)]) w.heap.size (W0.heap.size+1) W0.heap.size [] W1:=
  ⟨⟨none,0,A0.only O1 (by simp),Own.nil _ _ _⟩,
   by rw[←hW1];have:=World.alloc_heap_new (W0.alloc (.deferred (some []))) (.loop (apRec fn (.func (.func 266) #[] #[.pointer (some ⟨Bm,0,none⟩)]) w.heap.size W0.heap.size .ready none));rwa[World.size_alloc]at this,
   by rw[←hW1];exact(Below.heap_alloc _ _ _ (by simp)).trans (World.alloc_heap_new W0 _),OW,S0.trans S1⟩
 obtain⟨D0,hown,hD1,hD2⟩:=owns_of uI3 (M.only OW (by simp)) hwf (by simp[maxLen];omega)
 refine⟨W0.heap.size+1,[{target:= .collected W0.heap.size,args:= #[]}],W1,{target:= .fn (.func 266) #[.pointer (some ⟨Bm,0,none⟩)],args:= #[.func (.yield (W0.heap.size+1)) #[] #[]]},W1,266,
  #[.func (.yield (W0.heap.size+1)) #[] #[]]++ #[.pointer (some ⟨Bm,0,none⟩)],W1,?_,?_,?_,?_,fun _=>h1,?_⟩
 ·rw[←hW1];exact run_enterLoop_outer _ _ _ _ _
 ·simp[resolve,go_sem]
 ·intro f' hf';simp[Target.leads]at hf';subst hf';exact h66
 ·simp[invoke,go_sem,eg]
 ·refine(keysN (F:=F) (n:=n-1) h66 hro (by omega) (W0.heap.size+1) Bm b m.length D0 (ApAt w fn (.func (.func 266) #[] #[.pointer (some ⟨Bm,0,none⟩)]) w.heap.size (W0.heap.size+1) W0.heap.size)
   (fun pre x W hJ hl=>apYield (F:=F) (m:=n-1-1) w fn hfn _ w.heap.size (W0.heap.size+1) W0.heap.size (by omega) (by omega) (by omega) (Nat.le_refl _) (by omega) m.length hsz pre x W hJ (by omega)) W1 (ap_abides _ _ _ _ _ _ _ (by omega))
   ((A.only OW (by simp)).rd 0) hown hM).mono ?_
  rintro e W2 ⟨⟨v0,rfl⟩,ss,h2,left,hC,hl⟩
  obtain⟨p,c,A2,H2⟩:=h2.box
  have hend:=run_endLoop (P:=Tryz.prog) h2.L (by simp[apRec])
  obtain⟨W3,hW3⟩: ∃W3,W2.putObj (W0.heap.size+1) (.loop {apRec fn (.func (.func 266) #[] #[.pointer (some ⟨Bm,0,none⟩)]) w.heap.size W0.heap.size .ready none with state:= .exhausted})=W3:=⟨_,rfl⟩
  rw[hW3]at hend
  have O3:Only [W0.heap.size+1] W2.heap W3.heap:=by rw[←hW3];exact Only.putW _ h2.L rfl rfl
  have S3:Same W2 W3:=by rw[←hW3];exact⟨rfl,rfl,rfl⟩
  have hnl: ∀b,(∃c,At W2.heap b c)→b∉[W0.heap.size+1]:=fun b ⟨c,A⟩ hb=>A.ne_obj h2.L rfl (by simpa using hb)
  have A3:=A2.only O3 (hnl _ ⟨_,A2⟩)
  have H3:=H2.onlyC O3 fun b _ hc=>hnl b hc
  have hK3:W3.heap[W0.heap.size]? =some (.deferred (some [])):=by rw[←hW3];exact(World.putObj_heap_other (by omega)).trans h2.K
  have hc3:W3.cell? ⟨w.heap.size,0,none⟩=some (.slice p ss.length c):=A3.rd 0
  have hf3:W3.frozen? ⟨w.heap.size,0,none⟩=false:=A3.fz 0 none
  clear hW3
  refine⟨none,W3,hend,?_⟩
  gi_wp2
  rw[←hs0]
  refine⟨by simp,.inl ⟨_,_,rfl,run_takeDeferred hK3,?_⟩⟩
  have O4:Only [W0.heap.size] W3.heap (W3.putObj W0.heap.size (.deferred none)).heap:=Only.putW _ hK3 rfl rfl
  have hF:=H3.onlyC O4 (fun b _ hc hb=>by obtain⟨c,A⟩:=hc;exact A.ne_obj hK3 rfl (by simpa using hb))
  rw[←hs0]at hF
  exact⟨_,results_tmp rfl _ _ _,p,c,ss,rfl,hC.perm hl hnd hD2,hF,
   (h2.only.trans O3 (by intro b hb hlt;simp at hb;omega)).trans O4 (by intro b hb hlt;simp at hb;omega),(h2.same.trans S3).trans ⟨rfl,rfl,rfl⟩⟩
theorem appSeq{h:Heap}{Bm b:Nat}{m:List (Int×Value)}{K:Value→Heap→Prop}(A:At h Bm [.map (some b)])(M:MapM h b .i64 m)
  (hwf: ∀x∈m.map (·.1),(Lit.int .i64 x).wf=true) (hsz:m.length*8≤140737488355328)
  (hK: ∀(p:Option Addr) (c:Nat) (h':Heap) (ss:List Int),ss.Perm (m.map (·.1))→Own h' (h.size+1) 1 p ss.length c (ss.map (Value.int .i64))→Only [] h h'→K (.slice p ss.length c) h'):
  Cl 297 [.slice none 0 0,.func (.func 266) #[] #[.pointer (some ⟨Bm,0,none⟩)]] h K:=fun w hw=>by
 subst hw
 refine((callsIn_wide (n:=2)).1 (appSeq_in (F:=Fence.wide) (n:=2) trivial trivial rfl (by omega) Bm b m w A M hwf hsz)).mono ?_
 rintro e w' ⟨p,c,ss,rfl,h1,h2,h3,h4⟩
 exact⟨_,rfl,h4,hK p c _ ss h1 h2 h3⟩
end IN
section
section
variable {h h':Heap}{e i:Nat}{G G0 G':EG}{K:Value→Heap→Prop}
end
end
section
section
variable {h h':Heap}{e i:Nat}{G G0 G':EG}{K:Value→Heap→Prop}
end
end
section
section
variable {h h':Heap}{e s w:Nat}{G G0 G':EG}{K:Value→Heap→Prop}
end
end
section
section
variable {h h':Heap}{e s w op:Nat}{G G0 G':EG}{K:Value→Heap→Prop}{C:Nat→Nat→Prop}
end
end
section
section
variable {h h':Heap}{e s w op:Nat}{G G0 G':EG}{K:Value→Heap→Prop}{C:Nat→Nat→Prop}
end
end
section
section
variable {h h':Heap}{e s w op m:Nat}{G G0 G':EG}{K:Value→Heap→Prop}{C:Nat→Nat→Prop}
end
end
section
section
variable {h h':Heap}{e s w op m add:Nat}{G G0 G':EG}{K:Value→Heap→Prop}{C:Nat→Nat→Prop}{x':Ses}{Φ:Nat→Nat→Bool}
end
end
section
section
variable {h h':Heap}{e s p:Nat}{G:EG}{P:PS}{K:Value→Heap→Prop}
theorem seq0_wf{m:List (Int×Value)}(e:m=[]): ∀x∈m.map (·.1),(Lit.int .i64 x).wf=true:=by
 subst e
 intro x hx
 cases hx
theorem roots173(H:PoolIs h p s P)(hj:P.jobs=[])(hK: ∀h' c,Only [] h h'→K (.slice none 0 c) h'):Cl 173 [ptrV p] h K:=by
 refine F173.spec _ h K ?_
 simp only[add_mk,Nat.zero_add]
 refine⟨_,by rw[At.rd H.own];rfl,?_⟩
 refine F216.spec _ h _ ?_
 refine newK_at fun h1 A1 O1 z1=>⟨_,rfl,?_⟩
 refine F215.spec _ h1 _ ?_
 refine F264.spec _ h1 _ ?_
 have M1:=H.jbm.only O1 (by simp)
 rw[hj]at M1
 refine IN.appSeq A1 M1 (seq0_wf rfl) (by simp) fun q c h2 ss hp Ow O2=>ldS_of rfl ?_
 obtain rfl:ss=[]:=List.eq_nil_of_length_eq_zero (by rw[hp.length_eq];rfl)
 refine ldS_of rfl (sort265 (by simp) ⟨rfl,ldS_of rfl ?_⟩)
 unfold F173.wk3
 refine⟨1,?_⟩
 rw[F173.sL3]
 rw[decide_eq_false (by simp),bcase_false]
 exact hK h2 0 (O1.trans O2 (by simp))
end
end
section
theorem sumN_ex{g:Nat→Nat}: ∀n,sumN g n≠0→ ∃k,k<n∧g k≠0:=by
 intro n
 induction n with
 |zero=>intro h;exact absurd rfl h
 |succ n ih=>
  intro h
  unfold sumN at h
  by_cases q:g n=0
  ·obtain⟨k,hk,hg⟩:=ih (by omega)
   exact⟨k,by omega,hg⟩
  ·exact⟨n,by omega,q⟩
theorem held{f:Int→Int}{E:Eng}(C:CntOk f E){a:Nat}:f (a:Int)≠0↔ ∃i,i<4∧ ∃r,r<6∧(E.ses i).there r=true∧(E.ses i).hnd r=a:=by
 rw[C a]
 constructor
 ·intro h
  obtain⟨k,hk,hg⟩:=sumN_ex 24 (show sumN (indR E a) 24≠0 from fun z=>h (by show((cntR E a:Nat):Int)=0;unfold cntR;omega))
  unfold indR at hg
  split at hg
  ·next q=>exact⟨k/6,by omega,k%6,by omega,q.1,q.2⟩
  ·exact absurd rfl hg
 ·rintro ⟨i,hi,r,hr,ht,he⟩ z
  have:1≤sumN (indR E a) 24:=sumN_pos (k:=6*i+r) 24 (by omega) (by
   unfold indR
   rw[show(6*i+r)/6=i by omega,show(6*i+r)%6=r by omega,if_pos ⟨ht,he⟩]
   exact Nat.le_refl _)
  have:cntR E a=sumN (indR E a) 24:=rfl
  omega
def Few(G:EG):Prop:= ∀ks:List Int,ks.Nodup→(∀x,x∈ks↔G.f x≠0)→ks.length≤12
section
variable {h h':Heap}{e:Nat}{G G':EG}{K:Value→Heap→Prop}
theorem EWd.ret(W:EWd h e G)(hj:G.P.jobs=[]){keep:Nat→Bool}{rs:List Nat}{L':List Nat}(M:Mk G.N rs keep [])(hrs: ∀a:Nat,1<a→G.f (a:Int)≠0→a∈rs)
  (S:Sto h' G.E.s L' (XL G.n G.room G.fo G.gg (retN keep G.N) G.off)) (O:Only G.L h h') (F:Fresh G.L L' h):EWd h' e (stoG G (retN keep G.N) L')∧Eside e G h (stoG G (retN keep G.N) L') h':=by
 have lt:=W.lt
 have DP: ∀b,PBl G.E.p G.P b→b∉L':=fun b hb hm=>by
  rcases F b hm with q|q
  ·exact W.W.D b hb q
  ·have:=lt b (mem_ebl.2 (.inr (.inr (.inr hb))));omega
 have Ok:=W.W.Ok
 have Ok':PoolOk G.n G.fo (retN keep G.N) G.P:=⟨fun j hm=>(by rw[hj]at hm;cases hm),Ok.at_,Ok.one,Ok.loc,Ok.T,Ok.len,Ok.last,Ok.steals⟩
 have cl: ∀i x,nd G.N i=some x→keep (i+2)=true→(x.2.1<2∨keep x.2.1=true)∧(x.2.2<2∨keep x.2.2=true):=fun i x hx hk=>by
  have:=M.cl i x hx hk
  simpa using this
 have ok0:NOk G.n G.N:=W.W.S.ok.1
 obtain⟨-,is1,-⟩:=retN_ok ok0 cl
 have rg: ∀i,i<4→ ∀r,r<6→(G.E.ses i).there r=true→isN (retN keep G.N) ((G.E.ses i).hnd r):=fun i hi r hr ht=>by
  rw[is1]
  by_cases q:(G.E.ses i).hnd r<2
  ·exact .inl q
  ·refine .inr ⟨W.rg i hi r hr ht,?_⟩
   have:=M.ro _ (hrs ((G.E.ses i).hnd r) (by omega) ((held W.C).2 ⟨i,hi,r,hr,ht,rfl⟩))
   rcases this with z|z|z
   ·omega
   ·exact z
   ·cases z
 refine⟨⟨⟨S,W.W.H.only O fun b hb hp=>W.W.D b hp hb,Ok',(fun j hm=>by rw[show(stoG G (retN keep G.N) L').P.jobs=[]from hj]at hm;cases hm),DP⟩,W.R.only O (fun b hb hm=>(W.dB b hm).1 hb),W.I.only O W.de.1,W.C,⟨fun hm=> ?_,W.de.2.1,W.de.2.2⟩,fun b hb=>⟨fun hm=> ?_,(W.dB b hb).2⟩,rg,W.r0,W.mq,W.po⟩,⟨fun T hT=>O.mono fun b hb _=>hT b (mem_ebl.2 (.inr (.inl hb))),fun b hb=> ?_⟩⟩
 ·rcases F e hm with q|q
  ·exact W.de.1 q
  ·have:=lt e (mem_ebl.2 (.inl rfl));omega
 ·rcases F b hm with q|q
  ·exact(W.dB b hb).1 q
  ·have:=lt b (mem_ebl.2 (.inr (.inr (.inl hb))));omega
 ·rcases mem_ebl.1 hb with q|q|q|q
  ·exact .inl (mem_ebl.2 (.inl q))
  ·rcases F b q with q|q
   ·exact .inl (mem_ebl.2 (.inr (.inl q)))
   ·exact .inr q
  ·exact .inl (mem_ebl.2 (.inr (.inr (.inl q))))
  ·exact .inl (mem_ebl.2 (.inr (.inr (.inr q))))
theorem catL_none(i:Nat):(catL (fun _=> []) i).length=0:=by
 have:=catL_len (L:=fun _=> []) (N:=0) i fun k _=>Nat.le_refl _
 omega
def Swept(G G':EG):Prop:= ∃(keep:Nat→Bool) (rs L':List Nat),(∀a:Nat,a∈rs↔1<a∧G.f (a:Int)≠0)∧Mk G.N rs keep []∧G'=stoG G (retN keep G.N) L'
theorem sweep175(W:EWd h e G)(hj:G.P.jobs=[])(few:Few G)(hM:G.M≤LB/1000)
  (hK: ∀h' G' a b,Swept G G'→EWd h' e G'→Eside e G h G' h'→K (.tuple #[.int .i64 a,.int .i64 b]) h'):Cl 175 [ptrV G.E.s,ptrV G.E.r] h K:=by
 have hLB:LB=140737488355328:=rfl
 refine F175.spec _ _ h K ?_
 obtain⟨lo,M,S,Wn,p,c,R,w1,w4,hl,eB⟩:=W.R
 refine roots32 R (by omega) w4 (fun ks nd hks=>by rw[catL_none];have:=few ks nd hks;omega) fun h1 q c1 Rs pw mem Ow O1=>ldS_of rfl ?_
 obtain⟨rs,ers⟩: ∃rs,rs=Rs.map Int.toNat:=⟨_,rfl⟩
 have pos: ∀x∈Rs,1<x:=fun x hx=>((mem x).1 hx).1
 have eR:Rs.map (Value.int .u32)=rs.map hv:=by
  rw[ers,List.map_map]
  refine List.map_congr_left fun x hx=> ?_
  have:=pos x hx
  show Value.int .u32 x= .int .u32 ((x.toNat:Nat):Int)
  rw[Int.toNat_of_nonneg (by omega)]
 have el:Rs.length=rs.length:=by rw[ers];simp
 have mrs: ∀a:Nat,a∈rs↔1<a∧G.f (a:Int)≠0:=fun a=>by
  rw[ers,List.mem_map]
  constructor
  ·rintro ⟨x,hx,e⟩
   have h1:=(mem x).1 hx
   have h2:x=(a:Int):=by rw[←e];exact(Int.toNat_of_nonneg (Int.le_of_lt (Int.lt_trans (by decide) h1.1))).symm
   rw[h2]at h1
   refine⟨Int.ofNat_lt.1 h1.1,?_⟩
   rcases h1.2 with z|⟨k,-,z⟩
   ·exact z
   ·cases z
  ·rintro ⟨h1,h2⟩
   exact⟨(a:Int),(mem _).2 ⟨by omega,.inl h2⟩,by simp⟩
 have is: ∀r∈rs,isN G.N r:=fun r hr=>by
  obtain⟨i,hi,q,hq,ht,he⟩:=(held W.C).1 ((mrs r).1 hr).2
  rw[←he]
  exact W.rg i hi q hq ht
 have few1:rs.length≤100000:=by
  have ks:Rs.Nodup:=pw.imp fun h=>by omega
  have:=R.Mm
  obtain⟨m,mm,lk,lm⟩:=this
  have sub:Rs.length≤m.length:=by
   have: ∀x∈Rs,x∈m.map (·.1):=fun x hx=>by
    apply Classical.byContradiction
    intro hn
    have h1:=(mem x).1 hx
    have h2:=lk x
    rw[lookup_none.2 hn]at h2
    rcases h1.2 with z|⟨k,-,z⟩
    ·rw[if_neg z]at h2;cases h2
    ·cases z
   have:=ks.length_le_of_subset this
   simpa using this
  have mfew:m.length≤12:=by
   have nd:(m.map (·.1)).Nodup:=by obtain⟨_,_,_,_,h,_⟩:=mm;exact h
   have:=few (m.map (·.1)) nd fun x=>by
    have h2:=lk x
    by_cases h0:G.f x=0
    ·rw[if_pos h0,lookup_none]at h2
     exact⟨fun h=>absurd h h2,fun h=>absurd h0 h⟩
    ·rw[if_neg h0]at h2
     refine⟨fun _=>h0,fun _=>Classical.byContradiction fun hn=> ?_⟩
     rw[lookup_none.2 hn]at h2
     cases h2
   simpa using this
  omega
 have S1:=W.W.S.only0 O1
 rw[el,eR]at Ow
 rw[el]
 refine collect218 (fun keep=>QL G.n G.fo (retN keep G.N)) S1 Ow is few1 fun h2 L2 gone keep Mk2 S2 O2 F2=>⟨_,_,rfl,?_⟩
 have W1:=W.only0 O1
 obtain⟨W2,T2⟩:=W1.ret hj Mk2 (fun a h1 h2=>(mrs a).2 ⟨h1,h2⟩) S2 O2 F2
 exact hK h2 _ gone 0 ⟨keep,rs,L2,mrs,Mk2,rfl⟩ W2 ((Eside.only0 O1).trans T2)
end
end
section
abbrev Fns:=Nat→Nat→Option (Nat→Bool)
def Md(G:EG)(F:Fns):Prop:= ∀k,k<4→ ∀r,r<6→(F k r=none→(G.E.ses k).there r=false)∧ ∀f,F k r=some f→(G.E.ses k).there r=true∧ ∀y,sm G.n G.fo G.N ((G.E.ses k).hnd r) y=f y
structure Qt(h:Heap)(e:Nat)(G:EG)(F:Fns)(t:Nat):Prop where
 W:EWd h e G
 md:Md G F
 jobs:G.P.jobs=[]
 pend: ∀k,k<4→(G.E.ses k).pend=false
 last:G.P.last≤t
 M:G.M≤30000000*t
 ans:G.E.ans≤4*t
 cnt:cntN G.N≤255*t
 t:t<1000
section
variable {h h':Heap}{e s w op d t:Nat}{G G0 G1 G':EG}{K:Value→Heap→Prop}{C:Nat→Nat→Prop}{F:Fns}{c:Cal}
end
end
section
section
variable {h h':Heap}{e s w op d t:Nat}{G G0 G1 G':EG}{K:Value→Heap→Prop}{C:Nat→Nat→Prop}{F:Fns}{c:Cal}
end
end
section
section
variable {h h':Heap}{e s t:Nat}{G G0 G1 G':EG}{K:Value→Heap→Prop}{F:Fns}{c:Cal}
theorem collects128(W:EWd h e G)(hj:G.P.jobs=[])(few:Few G)(hM:G.M≤LB/1000)
  (hK: ∀h' G',Swept G G'→EWd h' e G'→Eside e G h G' h'→K (.tuple #[]) h'):Cl 128 [ptrV e] h K:=by
 refine F128.spec _ h K ?_
 simp only[add_mk,Nat.zero_add]
 refine ldP_of W.I.p (roots173 W.W.H hj fun h1 c1 O1=>ldS_of rfl ?_)
 unfold F128.wk2
 refine⟨1,?_⟩
 rw[F128.sL2]
 rw[decide_eq_false (by simp),bcase_false]
 unfold F128.wk6
 have W1:=W.only0 O1
 simp only[add_mk,Nat.zero_add]
 refine ldP_of W1.I.s (ldP_of W1.I.r (sweep175 W1 hj few hM fun h2 G2 a b Sw W2 S2=>⟨_,_,rfl,?_⟩))
 unfold F128.wk8
 refine⟨1,?_⟩
 rw[F128.sL8]
 rw[decide_eq_false (by simp),bcase_false]
 exact hK h2 G2 Sw W2 ((Eside.only0 O1).trans S2)
theorem e_lets{i:Nat}(W:EWd h e G)(hi:i<4)(ha:G.E.ans<1000000000)(hj:G.P.jobs=[])(few:Few G)(hM:G.M≤LB/1000)
  (hK: ∀h' G1,Swept G G1→EWd h' e (ansG G1 i 0 0)→Eside e G h (ansG G1 i 0 0) h'→K (.bool true) h'):Cl 125 [ptrV e,sesP e i] h K:=by
 refine F125.spec _ _ h K ?_
 refine collects128 W hj few hM fun h1 G1 Sw W1 S1=>⟨rfl,?_⟩
 have ea:G1.E.ans<1000000000:=by
  obtain⟨_,_,_,_,_,e1⟩:=Sw
  rw[e1]
  exact ha
 exact e_answers (n:=0) W1 hi ea fun h2 W2 S2=>⟨rfl,hK h2 G1 Sw W2 (S1.trans S2)⟩
end
end
section
structure Lone(G0 G:EG):Prop where
 jobs:G.P.jobs=[]
 ws:G.P.ws.length=G0.P.ws.length
 ans:G.E.ans=G0.E.ans+1
 none: ∀k,k<4→(G.E.ses k).pend=false
 room:cntN G.N<G.room
 M:G.M≤100000
section
variable {h h':Heap}{e s w:Nat}{G G0 G':EG}{K:Value→Heap→Prop}
theorem Lone.end(R:Lone G0 G)(P:PickR w G G'):G'.P.ws.length=G0.P.ws.length∧G'.E=G.E∧G'.n=G.n∧G'.fo=G.fo:=by
 obtain⟨G1,N',P',L',k,C1,-,e,Pk,hk,hph⟩:=P
 subst e
 refine⟨?_,C1.E,C1.n,C1.fo⟩
 show P'.ws.length=_
 rw[Pk.alike.2.1,C1.P]
 exact R.ws
theorem lone_fair(R:EG→Prop)(W:EWd h e G0)(hs:s<4)(hp:(G0.E.ses s).pend=true)(solo: ∀k,k<4→k≠s→(G0.E.ses k).pend=false)
  (step: ∀{h1} {Q:Value→Heap→Prop},Only [] h h1→(∀b h2 G2,EWd h2 e G2→Eside e G0 h G2 h2→Lone G0 G2→R G2→Q (.bool b) h2)→Cl (stepN (G0.E.ses s).cal.kind) [ptrV e,sesP e s] h1 Q)
  (hK: ∀h' G' G2 w,EWd h' e G'→Eside e G0 h G' h'→R G2→Lone G0 G2→PickR w G2 G'→K (.bool true) h'):Cl 42 [ptrV e] h K:=by
 have hLB:LB=140737488355328:=rfl
 have wl:=W.W.Ok.len
 have aP:anyP G0.E:=⟨s,hs,hp⟩
 have np: ∀{G1:EG},(∃G2 w,R G2∧Lone G0 G2∧PickR w G2 G1)→G1.P.ws.length=G0.P.ws.length∧ ∀k,k<4→(G1.E.ses k).pend=false:=fun {G1} ⟨G2,w,_,L2,P2⟩=>by
  obtain⟨q1,q2,-⟩:=L2.end P2
  exact⟨q1,by rw[q2];exact L2.none⟩
 refine fair42 (m:=1) (fun m h1 G1=>EWd h1 e G1∧Eside e G0 h G1 h1∧((m=1∧G1=G0∧Only [] h h1)∨(m=0∧ ∃G2 w,R G2∧Lone G0 G2∧PickR w G2 G1)))
  (fun m w h1 G1=>EWd h1 e G1∧Eside e G0 h G1 h1∧m=1∧((w=0∧G1=G0∧Only [] h h1)∨(1≤w∧ ∃G2 w,R G2∧Lone G0 G2∧PickR w G2 G1))) G0.P.ws.length wl.2
  ⟨W,Eside.refl,.inl ⟨rfl,rfl,Only.refl _ _⟩⟩ (by omega) (fun I=>I.1) (fun {m w h1 G1} I=>⟨I.1,?_⟩) (fun {m h1 G1} I a=>⟨I.1,I.2.1,?_⟩) (fun {m w h1 G1 Q draw} hw I hQ=> ?_) (fun {m h1 G1} I=> ?_) (fun m' h1 G1 _ I a=> ?_)
 ·rcases I.2.2.2 with⟨-,q,-⟩|⟨-,q⟩
  ·rw[q]
  ·exact(np q).1
 ·rcases I.2.2 with⟨q1,q2,q3⟩|⟨q1,q2⟩
  ·exact⟨q1,.inl ⟨rfl,q2,q3⟩⟩
  ·exact absurd a (anyP_not (np q2).2)
 ·obtain⟨W1,S1,m1,q⟩:=I
  rcases q with⟨q1,q2,O1⟩|⟨q1,q2⟩
  ·have q2:=q2.symm
   subst q2
   refine pick26 W1 (fun q h2 O2=> ?_) (fun i h2 G2=>EWd h2 e G2∧Eside e G0 h G2 h2∧((i≤s∧G2=G0∧Only [] h h2)∨(s<i∧Lone G0 G2∧R G2)))
    (fun h2 O2=>⟨W1.only0 O2,S1.trans (Eside.only0 O2),.inl ⟨Nat.zero_le _,rfl,O1.trans O2 (by simp)⟩⟩)
    (fun {i h2 G2 h3} I O=>⟨I.1.only0 O,I.2.1.trans (Eside.only0 O),I.2.2.imp (fun q=>⟨q.1,q.2.1,q.2.2.trans O (by simp)⟩) id⟩) (fun I=>I.1)
    (fun {i h2 G2} hi I hp'=>⟨I.1,I.2.1,?_⟩) (fun {i h2 G2 Q2} hi I hp' hQ2=> ?_) (fun _ _ a h2 G2 I=> ?_)
   ·rcases q with q|q|q
    ·omega
    ·omega
    ·exact absurd aP q
   ·rcases I.2.2 with⟨a,b,c⟩|⟨a,b⟩
    ·refine .inl ⟨?_,b,c⟩
     by_cases z:i=s
     ·subst z;rw[b,hp]at hp';cases hp'
     ·omega
    ·exact .inr ⟨by omega,b⟩
   ·rcases I.2.2 with⟨a,b,c⟩|⟨a,b,-⟩
    ·have b:=b.symm
     subst b
     by_cases z:i=s
     ·subst z
      exact step c fun b h3 G3 W3 S3 L3 R3=>hQ2 b h3 G3 ⟨W3,S3,.inr ⟨by omega,L3,R3⟩⟩
     ·rw[solo i hi z]at hp';cases hp'
    ·rw[b.none i hi]at hp';cases hp'
   ·rcases I.2.2 with⟨a,b,c⟩|⟨-,L2,R2⟩
    ·omega
    ·refine pick_end mr_less I.1 L2.room (by have:=L2.M;omega) (by rw[L2.ws];exact hw) fun h3 G3 W3 S3 P3=> ?_
     exact hQ true h3 G3 ⟨W3,I.2.1.trans S3,m1,.inr ⟨by omega,G2,_,R2,L2,P3⟩⟩
  ·exact pick_none W1 (.inr (.inr (anyP_not (np q2).2))) fun h2 O2=>hQ _ h2 G1 ⟨W1.only0 O2,S1.trans (Eside.only0 O2),m1,.inr ⟨by omega,q2⟩⟩
 ·obtain⟨W1,S1,m1,q⟩:=I
  rcases q with⟨q1,-,-⟩|⟨q1,q2⟩
  ·omega
  ·exact⟨0,by omega,W1,S1,.inr ⟨rfl,q2⟩⟩
 ·obtain⟨W1,S1,q⟩:=I
  rcases q with⟨-,q2,-⟩|⟨-,G2,w,q1,q2,q3⟩
  ·have q2:=q2.symm
   subst q2;exact absurd aP a
  ·exact hK h1 G1 G2 w W1 S1 q1 q2 q3
end
end
section
def ordG(G:EG)(fo gg:Nat→Nat)(L:List Nat):EG:={G with fo:=fo,gg:=gg,L:=L}
section
variable {h h':Heap}{e i:Nat}{G:EG}{K:Value→Heap→Prop}
theorem EWd.ord{fo gg:Nat→Nat}{L':List Nat}(W:EWd h e G)(hj:G.P.jobs=[])(hN:G.N=[])(S:Sto h' G.E.s L' (XL G.n G.room fo gg [] G.off))(P:PermOk G.n fo gg)(O:Only G.L h h')(F:Fresh G.L L' h):
  EWd h' e (ordG G fo gg L')∧Eside e G h (ordG G fo gg L') h':=by
 have lt:=W.lt
 have DP: ∀b,PBl G.E.p G.P b→b∉L':=fun b hb hm=>by
  rcases F b hm with q|q
  ·exact W.W.D b hb q
  ·have:=lt b (mem_ebl.2 (.inr (.inr (.inr hb))));omega
 have S:Sto h' G.E.s L' (XL G.n G.room fo gg G.N G.off):=by rw[hN];exact S
 refine⟨⟨⟨S,W.W.H.only O fun b hb hp=>W.W.D b hp hb,⟨fun j hj'=>(by have hj':j∈G.P.jobs:=hj';rw[hj]at hj';cases hj'),W.W.Ok.at_,W.W.Ok.one,W.W.Ok.loc,W.W.Ok.T,W.W.Ok.len,W.W.Ok.last,W.W.Ok.steals⟩,W.W.GO,DP⟩,W.R.only O (fun b hb hm=>(W.dB b hm).1 hb),W.I.only O W.de.1,W.C,⟨fun hm=> ?_,W.de.2.1,W.de.2.2⟩,fun b hb=>⟨fun hm=> ?_,(W.dB b hb).2⟩,W.rg,W.r0,W.mq,P⟩,⟨fun T hT=>O.mono fun b hb _=>hT b (mem_ebl.2 (.inr (.inl hb))),fun b hb=> ?_⟩⟩
 ·rcases F e hm with q|q
  ·exact W.de.1 q
  ·have:=lt e (mem_ebl.2 (.inl rfl));omega
 ·rcases F b hm with q|q
  ·exact(W.dB b hb).1 q
  ·have:=lt b (mem_ebl.2 (.inr (.inr (.inl hb))));omega
 ·rcases mem_ebl.1 hb with q|q|q|q
  ·exact .inl (mem_ebl.2 (.inl q))
  ·rcases F b q with q|q
   ·exact .inl (mem_ebl.2 (.inr (.inl q)))
   ·exact .inr q
  ·exact .inl (mem_ebl.2 (.inr (.inr (.inl q))))
  ·exact .inl (mem_ebl.2 (.inr (.inr (.inr q))))
theorem reorders171(W:EWd h e G)(hj:G.P.jobs=[])(hN:G.N=[])(hr:200≤G.room)(hM:G.M≤LB/1000)(emp: ∀k,k<4→ ∀r,r<6→(G.E.ses k).there r=false)
  (hK: ∀h' fo gg L',EWd h' e (ordG G fo gg L')→Eside e G h (ordG G fo gg L') h'→K (.tuple #[]) h'):Cl 171 [ptrV e] h K:=by
 have hLB:LB=140737488355328:=rfl
 refine F171.spec _ h K ?_
 simp only[add_mk,Nat.zero_add]
 refine ldP_of W.I.s (ldP_of W.I.r ?_)
 have W0:=W
 obtain⟨lo,M,S,Wn,p,c,R,w1,w4,hl,eB⟩:=W.R
 have zero: ∀x:Int,G.f x≠0→False:=fun x hn=>by
  have hx:=(R.fx x hn).1
  have e1:x=((x.toNat:Nat):Int):=by
   have:(0:Int)≤x:=hx
   omega
  rw[e1]at hn
  obtain⟨i,hi,q,hq,ht,-⟩:=(held W.C).1 hn
  rw[emp i hi q hq]at ht
  cases ht
 refine roots32 R (by omega) w4 (fun ks nd hks=> ?_) fun h1 q c1 Rs pw mem Ow O1=>ldS_of rfl ⟨by trivial,by trivial,by trivial,?_⟩
 ·rw[catL_none]
  cases ks with
  |nil=>simp
  |cons x l=>exact(zero x ((hks x).1 (by simp))).elim
 have eR:Rs=[]:=by
  cases Rs with
  |nil=>rfl
  |cons x l=>
   have h1:=(mem x).1 (by simp)
   rcases h1.2 with z|⟨k,-,z⟩
   ·exact(zero x z).elim
   ·cases z
 subst eR
 have W1:=W0.only0 O1
 refine ldP_of W1.I.s ⟨by trivial,?_⟩
 have Sf:Sft h1 G.E.s G.n G.room G.fo G.gg G.off G.L h.size q c1:=by
  refine⟨by rw[←hN];exact W1.W.S,W1.po,Ow,fun y hy hm=> ?_⟩
  have:=(Ow.lt y hy).1
  have:=W0.W.S.lt y hm
  omega
 refine sift_nil Sf hr fun h2 L2 fo2 gg2 S2 O2 F2=>⟨_,_,_,rfl,?_⟩
 obtain⟨W2,T2⟩:=W1.ord hj hN S2.S S2.P O2 F2
 exact hK h2 fo2 gg2 L2 W2 ((Eside.only0 O1).trans T2)
theorem e_turns(W:EWd h e G)(hi:i<4)(hj:G.P.jobs=[])(nj: ∀k,k<4→(G.E.ses k).job=0)(hN:G.N=[])(hr:200≤G.room)(hM:G.M≤LB/1000)(ha:G.E.ans<1000000000)(emp: ∀k,k<4→ ∀r,r<6→(G.E.ses k).there r=false)
  (hK: ∀h' fo gg L',EWd h' e (ansG (ordG G fo gg L') i 0 0)→Eside e G h (ansG (ordG G fo gg L') i 0 0) h'→K (.bool true) h'):Cl 126 [ptrV e,sesP e i] h K:=by
 refine F126.spec _ _ h K ?_
 refine working170 W.I (fun⟨k,hk,_,hp⟩=>by rw[nj k hk]at hp;omega) fun _ h1 O1=>ldB_of rfl ?_
 rw[bcase_false]
 have W1:=W.only0 O1
 refine reorders171 W1 hj hN hr hM emp fun h2 fo gg L2 W2 S2=>⟨rfl,?_⟩
 exact e_answers (n:=0) W2 hi ha fun h3 W3 S3=>⟨rfl,hK h3 fo gg L2 W3 (((Eside.only0 O1).trans S2).trans S3)⟩
end
end
section
open Go Go.ChangeShapes Go.WideShapes Go.ChangeAt Go.RowKit
theorem open_struct{H:Type}{enc:TypeId×Value→H}{P:Program}{W:World}{r:Reach}{b0 base:Nat}{sp:Nat→Bool}{held:Bool}{t:TypeId}{fs:Array Field}{N:Nat}{v:Value}{d:DataW H}{ps:List MemPlace}
  (ht:P.underlying t=some (.struct fs)) (hct:P.cellsOf t=N) (hval:Value.okWide P W r b0 t v)
  (hd:DataW.Trod enc P W base sp held t v d ps): ∃cs:List Value,cs.length=N∧v= .agg cs.toArray∧ ∀(j:Nat) (f:Field),fs[j]? =some f→P.cellsOf f.type=1→f.offset<N→ ∀k,P.underlying f.type=some (.int k)→ ∃n,cs[f.offset]? =some (.int k n)∧k.min≤n∧n≤k.max:=by
 obtain⟨cs,rfl,hsz⟩:=okWide_struct ht hval
 obtain⟨fuel,hf⟩:=hd
 obtain⟨ys,n',-,-,-,hyl,hfi⟩:=DataW.trod_struct ht hf
 have hcs:(Value.agg cs).cells=cs:=rfl
 rw[hcs]at hfi
 refine⟨cs.toList,by simp;omega,by simp,fun j f hj hc1 ho k hk=> ?_⟩
 have hjl:j<fs.size:=(Array.getElem?_eq_some_iff.1 hj).1
 have h4:=hfi j f hj
 have ho':f.offset<cs.toList.length:=by simp;omega
 rw[hc1,List.getElem?_eq_getElem (by omega:j<ys.length)]at h4
 have hone:(cs.toList.drop f.offset).take 1=[cs.toList[f.offset]'ho']:=by
  rw[List.drop_eq_getElem_cons ho']
  rfl
 rw[hone]at h4
 obtain⟨z,h5,-,h6⟩:=DataW.trod_int hk h4
 injection h5 with h5
 exact⟨z,by rw[List.getElem?_eq_getElem ho',h5],wf_range h6⟩
theorem seven{cs:List Value}{a0 a1 a2 a3 a4 a5 a6:Value}(l:cs.length=7)(e0:cs[0]? =some a0)(e1:cs[1]? =some a1)(e2:cs[2]? =some a2)(e3:cs[3]? =some a3)(e4:cs[4]? =some a4)(e5:cs[5]? =some a5)(e6:cs[6]? =some a6):
  cs=[a0,a1,a2,a3,a4,a5,a6]:=by
 apply List.ext_getElem?
 intro i
 match i with
 |0=>exact e0
 |1=>exact e1
 |2=>exact e2
 |3=>exact e3
 |4=>exact e4
 |5=>exact e5
 |6=>exact e6
 |i+7=>rw[List.getElem?_eq_none (by omega),List.getElem?_eq_none (by simp)]
end
section
section
variable {h h':Heap}{e s:Nat}{G:EG}{c:Cal}{K:Value→Heap→Prop}
structure Blank(G:EG):Prop where
 emp: ∀k,k<4→ ∀r,r<6→(G.E.ses k).there r=false
 idle: ∀k,k<4→(G.E.ses k).pend=false∧(G.E.ses k).job=0
 ans:G.E.ans=0
 N:G.N=[]
 room:G.room=300
 n:G.n=4
 jobs:G.P.jobs=[]
 M:G.M=0
theorem few_nil(W:EWd h e G)(emp: ∀k,k<4→ ∀r,r<6→(G.E.ses k).there r=false):Few G:=fun ks nd hks=>by
 cases ks with
 |nil=>simp
 |cons x l=>
  exfalso
  have hn:=(hks x).1 (by simp)
  obtain⟨lo,M,S,Wn,p,c,R,w1,w4,hl,eB⟩:=W.R
  have hx:=(R.fx x hn).1
  have e1:x=((x.toNat:Nat):Int):=by
   have:(0:Int)≤x:=hx
   omega
  rw[e1]at hn
  obtain⟨i,hi,q,hq,ht,-⟩:=(held W.C).1 hn
  rw[emp i hi q hq]at ht
  cases ht
theorem bgn_ses{k:Nat}:(bgnG G s c).E.ses k=if k=s then bgnS (G.E.ses s) c else G.E.ses k:=rfl
theorem Blank.bgn(B:Blank G)(hs:s<4):(∀k,k<4→ ∀r,r<6→((bgnG G s c).E.ses k).there r=false)∧(∀k,k<4→((bgnG G s c).E.ses k).job=0)∧(∀k,k<4→k≠s→((bgnG G s c).E.ses k).pend=false)∧((bgnG G s c).E.ses s).pend=true∧((bgnG G s c).E.ses s).cal=c:=by
 refine⟨fun k hk r hr=> ?_,fun k hk=> ?_,fun k hk hn=> ?_,?_,?_⟩
 ·rw[bgn_ses]
  split
  ·exact B.emp s hs r hr
  ·exact B.emp k hk r hr
 ·rw[bgn_ses]
  split
  ·rfl
  ·exact(B.idle k hk).2
 ·rw[bgn_ses,if_neg hn];exact(B.idle k hk).1
 ·rw[bgn_ses,if_pos rfl];rfl
 ·rw[bgn_ses,if_pos rfl];rfl
theorem npd_one{E:Eng}(hs:s<4)(hp:(E.ses s).pend=true)(solo: ∀k,k<4→k≠s→(E.ses k).pend=false):nPd E 4=1:=by
 have: ∀k,k<4→(E.ses k).pend=decide (k=s):=fun k hk=>by
  by_cases q:k=s
  ·subst q;rw[hp];simp
  ·rw[solo k hk q];simp[q]
 unfold nPd sumN sumN sumN sumN sumN
 rw[this 0 (by omega),this 1 (by omega),this 2 (by omega),this 3 (by omega)]
 have:s=0∨s=1∨s=2∨s=3:=by omega
 rcases this with e|e|e|e<;>subst e<;>rfl
theorem npd_zero{E:Eng}(no: ∀k,k<4→(E.ses k).pend=false):nPd E 4=0:=by
 unfold nPd sumN sumN sumN sumN sumN
 rw[no 0 (by omega),no 1 (by omega),no 2 (by omega),no 3 (by omega)]
 rfl
theorem blank_idle(W:EWd h e G)(B:Blank G)(hK: ∀h' G',EWd h' e G'→Eside e G h G' h'→G'.E.ans=0→K (.bool true) h'):Cl 42 [ptrV e] h K:=by
 have hLB:LB=140737488355328:=rfl
 refine easy_fair W ⟨B.jobs,fun i hi hp=>(by rw[(B.idle i hi).1]at hp;cases hp),by rw[B.N,B.room];decide,by rw[B.M];omega,by rw[B.ans];omega⟩ fun h1 G1 W1 S1 R=>hK h1 G1 W1 S1 ?_
 rw[R.ans,B.ans,npd_zero fun k hk=>(B.idle k hk).1]
theorem blank_one(B:Blank G)(hs:s<4)(hr:refu G.n (G.E.ses s) c=0)(W:EWd h e (bgnG G s c))
  (hK: ∀h' G',EWd h' e G'→Eside e (bgnG G s c) h G' h'→G'.E.ans=1→K (.bool true) h'):Cl 42 [ptrV e] h K:=by
 have hLB:LB=140737488355328:=rfl
 obtain⟨emp,nj,solo,pd,ec⟩:=B.bgn (c:=c) hs
 obtain⟨z1,z2,z3,z4⟩:=refu_zero hr
 have no:rds c=[]:=by
  cases hh:rds c with
  |nil=>rfl
  |cons y l=>
   have:=z3 y (by rw[hh];simp)
   unfold isR at this
   rw[B.emp s hs _ (by omega)]at this
   cases this.2
 have k345: ¬(c.kind=3∨c.kind=4∨c.kind=5):=fun q=>by
  unfold rds at no
  rcases q with q|q|q
  ·rw[if_neg (by omega),if_neg (by omega),if_pos q]at no
   have t0:=(refu2_zero z4).1 q
   have pos:0<takesZ c.op:=by unfold takesZ at t0 ⊢;repeat' split<;>omega
   obtain⟨j,hj⟩: ∃j,(takesZ c.op).toNat=j+1:=⟨(takesZ c.op).toNat-1,by omega⟩
   rw[hj]at no
   cases no
  ·rw[if_pos q]at no;cases no
  ·rw[if_neg (by omega),if_pos q]at no;cases no
 by_cases k126:c.kind=1∨c.kind=2∨c.kind=6
 ·refine easy_fair W ⟨B.jobs,fun i hi hp=> ?_,by show cntN G.N+5<G.room;rw[B.N,B.room];decide,by show G.M+_≤_;rw[B.M];omega,by show G.E.ans+10<_;rw[B.ans];omega⟩ fun h1 G1 W1 S1 R=>hK h1 G1 W1 S1 ?_
  ·have:i=s:=Classical.byContradiction fun q=>by rw[solo i hi q]at hp;cases hp
   subst this
   rw[ec]
   refine⟨k126,?_⟩
   rw[bgn_ses,if_pos rfl]
   exact hr
  ·rw[R.ans,npd_one hs pd solo]
   show G.E.ans+1=1
   rw[B.ans]
 have no2: ∀{G1:EG},G1.E=(bgnG G s c).E→ ∀k,k<4→((ansG G1 s 0 0).E.ses k).pend=false:=fun {G1} e1 k hk=>by
  show((G1.E.put s (ansS (G1.E.ses s) 0 0)).ses k).pend=false
  rw[ses_put]
  split
  ·rfl
  ·next q=>rw[e1];exact solo k hk q
 refine lone_fair (fun _=>True) W hs pd solo (fun {h1 Q} O hQ=> ?_) fun h' G' G2 w W' S' _ L2 P2=>hK h' G' W' S' ?_
 ·rw[ec]
  have W1:=W.only0 O
  by_cases k7:c.kind=7
  ·rw[k7]
   refine e_lets W1 hs (by show G.E.ans<_;rw[B.ans];omega) B.jobs (few_nil W emp) (by show G.M≤_;rw[B.M];omega) fun h2 G1 Sw W2 S2=>hQ true h2 _ W2 ((Eside.only0 O).trans S2) ?_ trivial
   obtain⟨keep,rs,L',-,-,e1⟩:=Sw
   subst e1
   refine⟨B.jobs,rfl,rfl,no2 rfl,?_,?_⟩
   ·show cntN (retN keep G.N)<G.room
    rw[B.N,B.room]
    exact(by decide:0<300)
   ·show G.M≤100000
    rw[B.M];omega
  ·have k8:c.kind=8:=by omega
   rw[k8]
   refine e_turns W1 hs B.jobs nj B.N (by show 200≤G.room;rw[B.room];omega) (by show G.M≤_;rw[B.M];omega) (by show G.E.ans<_;rw[B.ans];omega) emp fun h2 fo gg L2 W2 S2=>hQ true h2 _ W2 ((Eside.only0 O).trans S2) ⟨B.jobs,rfl,rfl,no2 rfl,?_,?_⟩ trivial
   ·show cntN G.N<G.room
    rw[B.N,B.room]
    decide
   ·show G.M≤100000
    rw[B.M];omega
 ·obtain⟨-,q2,-⟩:=L2.end P2
  rw[q2,L2.ans]
  show G.E.ans+1=1
  rw[B.ans]
end
def Rest2(h:Heap)(x0:Int)(q e:Nat)(h24:Heap):Prop:=
 newK h24 (.cells #[(.int .u64 (0:Int)),(.int .u64 (0:Int)),(.int .u64 (0:Int)),(.int .u64 (0:Int)),(.int .u64 (0:Int)),(.int .u64 (0:Int)),(.int .u64 (0:Int)),(.int .u64 (0:Int)),(.int .u64 (0:Int)),(.int .u64 (0:Int)),(.int .u64 (0:Int)),(.int .u64 (0:Int)),(.int .u64 (0:Int)),(.int .u64 (0:Int)),(.int .u64 (0:Int)),(.int .u64 (0:Int)),(.int .u64 (0:Int)),(.int .u64 (0:Int)),(.int .u64 (0:Int)),(.int .u64 (0:Int)),(.int .u64 (0:Int)),(.int .u64 (0:Int)),(.int .u64 (0:Int)),(.int .u64 (0:Int)),(.bool false),(.bool false),(.bool false),(.bool false),(.bool false),(.bool false),(.int .i64 (0:Int)),(.int .i64 (0:Int)),(.int .i64 (0:Int)),(.int .i64 (0:Int)),(.int .i64 (0:Int)),(.int .i64 (0:Int)),(.int .u8 (0:Int)),(.bool false),(.int .i64 (0:Int)),(.int .u64 (0:Int)),(.bool false)] 78) (fun b26 h27=>ldI .i64 (rd h27 (Addr.add (Addr.mk q 0 none) 0)) (fun n28=>ldI .i64 (rd h27 (Addr.add (Addr.mk q 0 none) 1)) (fun n29=>ldI .i64 (rd h27 (Addr.add (Addr.mk q 0 none) 2)) (fun n30=>ldI .i64 (rd h27 (Addr.add (Addr.mk q 0 none) 3)) (fun n31=>ldI .i64 (rd h27 (Addr.add (Addr.mk q 0 none) 4)) (fun n32=>ldI .i64 (rd h27 (Addr.add (Addr.mk q 0 none) 5)) (fun n33=>ldI .u8 (rd h27 (Addr.add (Addr.mk q 0 none) 6)) (fun n34=>Cl 41 [(.pointer (some (Addr.mk b26 0 none))),(.agg #[(.int .i64 n28),(.int .i64 n29),(.int .i64 n30),(.int .i64 n31),(.int .i64 n32),(.int .i64 n33),(.int .u8 n34)]),(.int .i64 (4:Int))] h27 (fun v35 h36=>ldI .i64 (some v35) (fun n37=>bcase (decide (x0<(0:Int))) (F11.wk14 x0 (Addr.mk q 0 none) (some ⟨e,0,none⟩) (222:Int) h36 (Lawful h)) (bcase (decide (x0≥(4:Int))) (F11.wk14 x0 (Addr.mk q 0 none) (some ⟨e,0,none⟩) (222:Int) h36 (Lawful h)) (F11.wk14 x0 (Addr.mk q 0 none) (some ⟨e,0,none⟩) n37 h36 (Lawful h)))))))))))))
def Rest1(h:Heap)(x0:Int)(q e:Nat)(h4:Heap):Prop:=
 newK h4 (.cells #[(.int .i64 (0:Int)),(.int .u64 (0:Int))] 76) (fun b19 h20=>stK h20 (Addr.add (Addr.mk b19 0 none) 0) (.int .i64 0) (fun h21=>stK h21 (Addr.add (Addr.mk b19 0 none) 1) (.int .u64 0) (fun h22=>Cl 56 [ptrV e,.int .i64 x0] h22 (fun v23 h24=>ldB (some v23) (fun b25=>bcase b25 ((Lawful h) (.bool false) h24) (Rest2 h x0 q e h24))))))
def Rest3(h:Heap)(x0:Int)(e:Nat)(want:Int)(v8:Value)(h9:Heap):Prop:=
 ldI .i64 (some v8) (fun n10=>bcase (n10 !=want) ((Lawful h) (.bool false) h9) (Cl 56 [ptrV e,.int .i64 x0] h9 (fun v11 h12=>ldB (some v11) (fun b13=>bcase (!(b13==(n10==(0:Int)))) ((Lawful h) (.bool false) h12) (Cl 42 [ptrV e] h12 (fun v14 h15=>ldB (some v14) (fun b16=>bcase b16 (Cl 54 [ptrV e] h15 (fun v17 h18=>ldI .i64 (some v17) (fun n19=>Cl 57 [(.int .i64 n10)] h18 (fun v20 h21=>ldI .i64 (some v20) (fun n22=>(Lawful h) (.bool (n19==n22)) h21))))) ((Lawful h) (.bool false) h15))))))))
theorem law11(h:Heap)(x0:Int)(r0:IntKind.min .i64≤x0∧x0≤IntKind.max .i64)(x1:Int)(r1:IntKind.min .i64≤x1∧x1≤IntKind.max .i64)
  (y0:Int) (_:IntKind.min .i64≤y0∧y0≤IntKind.max .i64) (y1:Int) (_:IntKind.min .i64≤y1∧y1≤IntKind.max .i64) (y2:Int) (_:IntKind.min .i64≤y2∧y2≤IntKind.max .i64) (y3:Int) (_:IntKind.min .i64≤y3∧y3≤IntKind.max .i64)
  (y4:Int) (_:IntKind.min .i64≤y4∧y4≤IntKind.max .i64) (y5:Int) (_:IntKind.min .i64≤y5∧y5≤IntKind.max .i64) (y6:Int) (m6:IntKind.min .u8≤y6∧y6≤IntKind.max .u8):
  Cl 11 [.int .i64 x0,.int .i64 x1,.agg #[.int .i64 y0,.int .i64 y1,.int .i64 y2,.int .i64 y3,.int .i64 y4,.int .i64 y5,.int .u8 y6]] h (Lawful h):=by
 have m6:0≤y6∧y6≤255:=m6
 obtain⟨mk,em⟩: ∃mk:Nat,y6=(mk:Int):=⟨y6.toNat,by omega⟩
 subst em
 obtain⟨c,ec⟩: ∃c:Cal,c=⟨y0,y1,y2,y3,y4,y5,mk⟩:=⟨_,rfl⟩
 have hm:c.mask<256:=by rw[ec];show mk<256;omega
 refine F11.spec _ _ _ _ _ _ _ _ _ h _ ?_
 refine newK_at fun h1 A1 O1 z1=> ?_
 have A1:At h1 h.size (calR c):=by rw[ec];exact A1
 refine known40 fun h2 O2=>ldB_of rfl ?_
 rw[Bool.not_true,bcase_false]
 have A2:=A1.only O2 (by simp)
 refine new18 (n:=4) (room:=300) (by omega) (by omega) (by omega) (by omega) fun h3 e G W3 s3 a3 n3 m3 f3 g3 _ N3 j3 w3 _ la3 M3 b3 O3=>⟨_,_,rfl,?_⟩
 rw[show((0:Int) !=0)=false from rfl,bcase_false]
 have A3:=A2.only O3 (by simp)
 have O13:=(O1.trans O2 (by simp)).trans O3 (by simp)
 have gl: ∀b∈ebl e G,h.size≤b:=fun b hb=>by have:=b3 b hb;have:=O1.size;have:=O2.size;omega
 have B:Blank G:=⟨fun k _ r _=>by rw[s3];rfl,fun k _=>by rw[s3];exact⟨rfl,rfl⟩,a3,N3,m3,n3,j3,M3⟩
 have emp: ∀k r,(G.E.ses k).there r=false:=fun k r=>by rw[s3];rfl
 refine reg28 W3.I ⟨_,_,rfl,?_⟩
 have rv:regV G.E x0 x1=(0,false):=by
  unfold regV
  split
  ·rw[s3];rfl
  ·rfl
 rw[rv]
 have end14: ∀(want:Int) (h5:Heap),Only [] h3 h5→((x0<0∨4≤x0)→want=222)→(∀k:Nat,k<4→x0=(k:Int)→want=refu 4 (G.E.ses k) c)→F11.wk14 x0 ⟨h.size,0,none⟩ (some ⟨e,0,none⟩) want h5 (Lawful h):=fun want h5 O5 wo wi=>by
  unfold F11.wk14
  have A5:=A3.only O5 (by simp)
  have W5:=W3.only0 O5
  have r: ∀k,rd h5 ⟨h.size,k,none⟩=(calR c)[k]? :=fun k=>At.rd A5 k
  simp only[add_mk,Nat.zero_add]
  refine ldI_of (n:=c.kind) (by rw[r];rfl) (ldI_of (n:=c.op) (by rw[r];rfl) (ldI_of (n:=c.dst) (by rw[r];rfl) (ldI_of (n:=c.a) (by rw[r];rfl) (ldI_of (n:=c.b) (by rw[r];rfl) (ldI_of (n:=c.c) (by rw[r];rfl) (ldI_of (n:=(c.mask:Int)) (by rw[r];rfl) ?_))))))
  have no: ∀h6,Only [] h5 h6→want≠0→Rest3 h x0 e want (.int .i64 want) h6:=fun h6 O6 hw=>by
   unfold Rest3
   refine ldI_of rfl ?_
   rw[show(want !=want)=false by simp,bcase_false]
   have W6:=W5.only0 O6
   have pend: ∀b,b=false→ldB (some (.bool b)) (fun b13=>bcase (!(b13==(want==(0:Int)))) ((Lawful h) (.bool false) h6) (Cl 42 [ptrV e] h6 (fun v14 h15=>ldB (some v14) (fun b16=>bcase b16 (Cl 54 [ptrV e] h15 (fun v17 h18=>ldI .i64 (some v17) (fun n19=>Cl 57 [(.int .i64 want)] h18 (fun v20 h21=>ldI .i64 (some v20) (fun n22=>(Lawful h) (.bool (n19==n22)) h21))))) ((Lawful h) (.bool false) h15))))):=fun b hb=>by
    subst hb
    refine ldB_of rfl ?_
    rw[eqz hw,show(!(false==false))=false from rfl,bcase_false]
    refine blank_idle W6 B fun h7 G7 W7 S7 a7=>ldB_of rfl ?_
    rw[bcase_true]
    refine answered54 W7.I (ldI_of rfl (F57.spec _ _ _ ?_))
    rw[eqz hw,bcase_false,a7]
    exact ldI_of rfl ⟨rfl,((((Eside.only0 O5).trans (Eside.only0 O6)).trans S7)).only O13 gl⟩
   exact pending56 W6.I (fun _=>pend _ rfl) fun k hk _=>pend _ (B.idle k hk).1
  refine e_begin (c:=c) (i:=x0) W5 hm (fun w h6 O6=> ?_) (fun k hk ek hp=> ?_) (fun k hk ek hp hr h6 O6=> ?_) fun k hk ek hp hr h6 W6 S6=> ?_
  ·have:=no h6 O6 (by rw[wo w];omega)
   rw[wo w]at this ⊢
   exact this
  ·rw[(B.idle k hk).1]at hp;cases hp
  ·have e1:=wi k hk ek
   rw[n3]at hr ⊢
   have:=no h6 O6 (by rw[e1];exact hr)
   rw[e1]at this ⊢
   exact this
  ·have e1:=wi k hk ek
   have hr4:refu 4 (G.E.ses k) c=0:=by rw[n3]at hr;exact hr
   rw[hr4]at e1
   subst e1
   refine ldI_of rfl ?_
   rw[show((0:Int) !=0)=false from rfl,bcase_false]
   have B6:=B.bgn (c:=c) hk
   refine pending56 W6.I (fun w=>by omega) fun q hq eq=> ?_
   obtain rfl:q=k:=by omega
   rw[B6.2.2.2.1]
   refine ldB_of rfl ?_
   rw[show(!(true==((0:Int)==0)))=false from rfl,bcase_false]
   refine blank_one B hk hr W6 fun h7 G7 W7 S7 a7=>ldB_of rfl ?_
   rw[bcase_true]
   refine answered54 W7.I (ldI_of rfl (F57.spec _ _ _ ?_))
   rw[show((0:Int)==0)=true from rfl,bcase_true,a7]
   exact ldI_of rfl ⟨rfl,(((Eside.only0 O5).trans S6).trans S7).only O13 gl⟩
 have rest: ∀h4,Only [] h3 h4→Rest1 h x0 h.size e h4:=fun h4 O4=>by
  unfold Rest1
  refine newK_at fun h5 A5 O5 z5=>stK_at A5 (by simp) rfl fun h6 A6 O6 z6=>stK_at A6 (by simp) rfl fun h7 A7 O7 z7=> ?_
  have O47:Only [] h4 h7:=(O5.trans O6 (by intro x hx hl;simp at hx;omega)).trans O7 (by intro x hx hl;simp at hx;omega)
  have O37:=O4.trans O47 (by simp)
  have W7:=W3.only0 O37
  have go: ∀b,b=false→ldB (some (.bool b)) (fun b25=>bcase b25 ((Lawful h) (.bool false) h7) (Rest2 h x0 h.size e h7)):=fun b hb=>by
   subst hb
   refine ldB_of rfl ?_
   rw[bcase_false]
   unfold Rest2
   refine newK_at fun h8 A8 O8 z8=> ?_
   have O38:=O37.trans O8 (by simp)
   have A9:=A3.only O38 (by simp)
   have r: ∀k,rd h8 ⟨h.size,k,none⟩=(calR c)[k]? :=fun k=>At.rd A9 k
   simp only[add_mk,Nat.zero_add]
   refine ldI_of (n:=c.kind) (by rw[r];rfl) (ldI_of (n:=c.op) (by rw[r];rfl) (ldI_of (n:=c.dst) (by rw[r];rfl) (ldI_of (n:=c.a) (by rw[r];rfl) (ldI_of (n:=c.b) (by rw[r];rfl) (ldI_of (n:=c.c) (by rw[r];rfl) (ldI_of (n:=(c.mask:Int)) (by rw[r];rfl) ?_))))))
   refine due41 (c:=c) (x:=G.E.ses 0) A8 ⟨rfl,fun i hi=>by
    have:i=0∨i=1∨i=2∨i=3∨i=4∨i=5:=by omega
    rcases this with e|e|e|e|e|e<;>subst e<;>rfl⟩ hm (emp 0) fun h9 O9=>ldI_of rfl ?_
   have O39:=O38.trans O9 (by simp)
   refine bcase_of (fun p=>end14 222 h9 O39 (fun _=>rfl) fun k hk ek=> ?_) fun p=>bcase_of (fun p'=>end14 222 h9 O39 (fun _=>rfl) fun k hk ek=> ?_) fun p'=>end14 _ h9 O39 (fun w=> ?_) fun k hk ek=> ?_
   ·have p:=of_decide_eq_true p;omega
   ·have p':=of_decide_eq_true p';omega
   ·have p:=of_decide_eq_false p
    have p':=of_decide_eq_false p'
    omega
   ·have:G.E.ses k=G.E.ses 0:=by rw[s3];rfl
    rw[this]
  exact pending56 W7.I (fun _=>go _ rfl) fun k hk _=>go _ (B.idle k hk).1
 refine answer43 W3.I (fun _ h4 O4=>⟨_,_,_,rfl,?_⟩) fun k hk ek h4 O4=>⟨_,_,_,rfl,?_⟩
 ·exact rest h4 O4
 ·have ad:(G.E.ses k).ansd=false:=by rw[s3];rfl
  rw[ad]
  exact rest h4 O4
end
end Go.Proofs.YtnofenejoebkhaaGreat.Ev
