/- PART 4 OF WHAT THE LAW EngineRegs STANDS ON: DeqS5, DeqT5, DeqG5, DeqU5, DeqV5, PolF5, DeqP5, DeqR5, DeqQ5, EvO, PolA5, PolB5, PolC5, PolD5, PolE5, PolG5, PolH5, PolI5, LpF5, PolJ5, EngA5, EngF5, EngB5. Conditions: none but those that each lemma states. -/
import Derived.Test.YtnofenejoebkhaaGreatG3
namespace Go.Proofs.YtnofenejoebkhaaGreat.Ev
open Go
section
def cD(d:Nat)(v t b:Int)(x:Value)(dn ok:Bool):List Value:=[.pointer (some ⟨d,0,none⟩),.int .u64 v,.int .i64 t,.int .i64 b,x,.bool dn,.bool ok]
def nf(g f:Nat):Value:= .func (.func g) #[.pointer (some ⟨f,0,none⟩)] #[]
section
variable {h:Heap}{f d m mc base n:Nat}{cs:List Int}{ops fails:Int}{K:Value→Heap→Prop}{v t b:Int}{x:Value}{dn ok:Bool}
variable (Q:DqIs h d m base n)(M:MemIs h m mc cs ops fails)(H:At h f (cD d v t b x dn ok))(hb:base<1000000)(hn:1≤n)(hn2:n<1000000)(hl:base+2+n≤cs.length)(d1:f≠d)(d2:f≠m)(d3:f≠mc)(d4:d≠m)(d5:d≠mc)
include Q M H hb hn hl d2 d3
theorem q40(hK: ∀h',At h' f (cD d v t (IntKind.wrap .i64 (cs.getD (base+1) 0)) (nf 195 f) dn ok)→MemIs h' m mc cs (up ops) fails→Only [f,m,mc] h h'→K (.tuple #[]) h'):Cl 143 [.pointer (some ⟨f,0,none⟩)] h K:=by
 apply F143.spec
 simp only[add_mk,Nat.zero_add,Nat.add_zero]
 refine ldP_of (by rw[H.rd];rfl) (load43 Q M (by omega) (by decide) (by decide) (by omega) fun h1 M1 O1=>ldI_of rfl ?_)
 refine stK_at (H.only O1 (by simp[d2,d3])) (by simp[cD]) rfl fun h2 A2 O2 _=>stK_at A2 (by simp[cD]) rfl fun h3 A3 O3 _=> ?_
 have O23:=O2.trans O3 (by simp)
 exact hK h3 A3 (M1.only O23 (by simp[d2.symm]) (by simp[d3.symm])) ((O1.mono (T:=[f,m,mc]) (by simp+contextual)).trans O23 (by simp))
theorem q41(hK: ∀h',At h' f (cD d v t (IntKind.wrap .i64 (IntKind.wrap .i64 (cs.getD (base+1) 0)-1)) (nf 269 f) dn ok)→MemIs h' m mc cs (up ops) fails→Only [f,m,mc] h h'→K (.tuple #[]) h'):Cl 220 [.pointer (some ⟨f,0,none⟩)] h K:=by
 apply F220.spec
 simp only[add_mk,Nat.zero_add,Nat.add_zero]
 refine ldP_of (by rw[H.rd];rfl) (load43 Q M (by omega) (by decide) (by decide) (by omega) fun h1 M1 O1=>ldI_of rfl ?_)
 refine stK_at (H.only O1 (by simp[d2,d3])) (by simp[cD]) rfl fun h2 A2 O2 _=>stK_at A2 (by simp[cD]) rfl fun h3 A3 O3 _=> ?_
 have O23:=O2.trans O3 (by simp)
 exact hK h3 A3 (M1.only O23 (by simp[d2.symm]) (by simp[d3.symm])) ((O1.mono (T:=[f,m,mc]) (by simp+contextual)).trans O23 (by simp))
theorem q42(hK: ∀h',At h' f (cD d v (IntKind.wrap .i64 (cs.getD base 0)) b (nf 270 f) dn ok)→MemIs h' m mc cs (up ops) fails→Only [f,m,mc] h h'→K (.tuple #[]) h'):Cl 221 [.pointer (some ⟨f,0,none⟩)] h K:=by
 apply F221.spec
 simp only[add_mk,Nat.zero_add,Nat.add_zero]
 refine ldP_of (by rw[H.rd];rfl) (load43 Q M (by omega) (by decide) (by decide) (by omega) fun h1 M1 O1=>ldI_of rfl ?_)
 refine stK_at (H.only O1 (by simp[d2,d3])) (by simp[cD]) rfl fun h2 A2 O2 _=>stK_at A2 (by simp[cD]) rfl fun h3 A3 O3 _=> ?_
 have O23:=O2.trans O3 (by simp)
 exact hK h3 A3 (M1.only O23 (by simp[d2.symm]) (by simp[d3.symm])) ((O1.mono (T:=[f,m,mc]) (by simp+contextual)).trans O23 (by simp))
theorem q60(hK: ∀h',At h' f (cD d v t (IntKind.wrap .i64 (cs.getD (base+1) 0)) (nf 301 f) (if decide (t≥IntKind.wrap .i64 (cs.getD (base+1) 0))then true else dn) (if decide (t≥IntKind.wrap .i64 (cs.getD (base+1) 0))then false else ok))→
  MemIs h' m mc cs (up ops) fails→Only [f,m,mc] h h'→K (.tuple #[]) h'):Cl 270 [.pointer (some ⟨f,0,none⟩)] h K:=by
 apply F270.spec
 simp only[add_mk,Nat.zero_add,Nat.add_zero]
 refine ldP_of (by rw[H.rd];rfl) (load43 Q M (by omega) (by decide) (by decide) (by omega) fun h1 M1 O1=>ldI_of rfl ?_)
 refine stK_at (H.only O1 (by simp[d2,d3])) (by simp[cD]) rfl fun h2 A2 O2 _=>stK_at A2 (by simp[cD]) rfl fun h3 A3 O3 _=> ?_
 have O23:=O2.trans O3 (by simp)
 have M3:=M1.only O23 (by simp[d2.symm]) (by simp[d3.symm])
 have P3:=(O1.mono (T:=[f,m,mc]) (by simp+contextual)).trans O23 (by simp)
 refine ldI_of (n:=t) (by rw[A3.rd];rfl) (ldI_of (n:=IntKind.wrap .i64 (cs.getD (base+1) 0)) (by rw[A3.rd];rfl) (bcase_of (fun e=> ?_) fun e=> ?_))
 ·refine ends71 A3 (by simp[cD]) fun h4 A4 O4=>⟨by trivial,hK h4 ?_ (M3.only O4 (by simp[d2.symm]) (by simp[d3.symm])) (P3.trans O4 (by simp))⟩
  rw[e]
  exact A4
 ·refine hK h3 ?_ M3 P3
  rw[e]
  exact A3
theorem q72(hK: ∀h',At h' f (cD d v (IntKind.wrap .i64 (cs.getD base 0)) b (if decide (IntKind.wrap .i64 (cs.getD base 0)>b)then nf 334 f else nf 333 f) dn ok)→
  MemIs h' m mc cs (up ops) fails→Only [f,m,mc] h h'→K (.tuple #[]) h'):Cl 300 [.pointer (some ⟨f,0,none⟩)] h K:=by
 apply F300.spec
 simp only[add_mk,Nat.zero_add,Nat.add_zero]
 refine ldP_of (by rw[H.rd];rfl) (load43 Q M (by omega) (by decide) (by decide) (by omega) fun h1 M1 O1=>ldI_of rfl ?_)
 refine stK_at (H.only O1 (by simp[d2,d3])) (by simp[cD]) rfl fun h2 A2 O2 _=>stK_at A2 (by simp[cD]) rfl fun h3 A3 O3 _=> ?_
 have O23:=O2.trans O3 (by simp)
 have M3:=M1.only O23 (by simp[d2.symm]) (by simp[d3.symm])
 have P3:=(O1.mono (T:=[f,m,mc]) (by simp+contextual)).trans O23 (by simp)
 refine ldI_of (n:=IntKind.wrap .i64 (cs.getD base 0)) (by rw[A3.rd];rfl) (ldI_of (n:=b) (by rw[A3.rd];rfl) (bcase_of (fun e=> ?_) fun e=> ?_))
 ·refine stK_at A3 (by simp[cD]) rfl fun h4 A4 O4 _=>hK h4 ?_ (M3.only O4 (by simp[d2.symm]) (by simp[d3.symm])) (P3.trans O4 (by simp))
  rw[e]
  exact A4
 ·refine hK h3 ?_ M3 P3
  rw[e]
  exact A3
theorem q88(hK: ∀h',At h' f (cD d v t b x true true)→MemIs h' m mc (cs.set (base+1) (IntKind.wrap .u64 (IntKind.wrap .i64 (b+1)))) (up ops) fails→Only [f,m,mc] h h'→K (.tuple #[]) h'):Cl 284 [.pointer (some ⟨f,0,none⟩)] h K:=by
 apply F284.spec
 simp only[add_mk,Nat.zero_add,Nat.add_zero]
 refine ldP_of (by rw[H.rd];rfl) ?_
 simp only[ptrK_some,add_mk,Nat.zero_add]
 refine ldP_of (by rw[At.rd Q];rfl) (ldP_of (by rw[H.rd];rfl) ?_)
 simp only[ptrK_some,add_mk,Nat.zero_add]
 refine ldI_of (n:=(base:Int)) (by rw[At.rd Q];rfl) (ldI_of (n:=b) (by rw[H.rd];rfl) ?_)
 rw[show IntKind.wrap .i64 ((base:Int)+1)=((base+1:Nat):Int) by rw[wrap_i64 (by omega) (by omega)];simp]
 refine store_in M (by omega) (by omega) fun h1 M1 O1=>⟨rfl,?_⟩
 rw[Int.toNat_natCast]at M1
 refine ends71 (H.only O1 (by simp[d2,d3])) (by simp[cD]) fun h2 A2 O2=>⟨rfl,hK h2 A2 (M1.only O2 (by simp[d2.symm]) (by simp[d3.symm])) ((O1.mono (T:=[f,m,mc]) (by simp+contextual)).trans O2 (by simp))⟩
theorem q59(hK: ∀h',At h' f (cD d v t b (nf 300 f) dn ok)→MemIs h' m mc (cs.set (base+1) (IntKind.wrap .u64 b)) (up ops) fails→Only [f,m,mc] h h'→K (.tuple #[]) h'):Cl 269 [.pointer (some ⟨f,0,none⟩)] h K:=by
 apply F269.spec
 simp only[add_mk,Nat.zero_add,Nat.add_zero]
 refine ldP_of (by rw[H.rd];rfl) ?_
 simp only[ptrK_some,add_mk,Nat.zero_add]
 refine ldP_of (by rw[At.rd Q];rfl) (ldP_of (by rw[H.rd];rfl) ?_)
 simp only[ptrK_some,add_mk,Nat.zero_add]
 refine ldI_of (n:=(base:Int)) (by rw[At.rd Q];rfl) (ldI_of (n:=b) (by rw[H.rd];rfl) ?_)
 rw[show IntKind.wrap .i64 ((base:Int)+1)=((base+1:Nat):Int) by rw[wrap_i64 (by omega) (by omega)];simp]
 refine store_in M (by omega) (by omega) fun h1 M1 O1=>⟨rfl,?_⟩
 rw[Int.toNat_natCast]at M1
 refine stK_at (H.only O1 (by simp[d2,d3])) (by simp[cD]) rfl fun h2 A2 O2 _=> ?_
 exact hK h2 A2 (M1.only O2 (by simp[d2.symm]) (by simp[d3.symm])) ((O1.mono (T:=[f,m,mc]) (by simp+contextual)).trans O2 (by simp))
theorem q100(hK: ∀h',At h' f (cD d v t b x true ok)→MemIs h' m mc (cs.set (base+1) (IntKind.wrap .u64 (IntKind.wrap .i64 (b+1)))) (up ops) fails→Only [f,m,mc] h h'→K (.tuple #[]) h'):Cl 354 [.pointer (some ⟨f,0,none⟩)] h K:=by
 apply F354.spec
 simp only[add_mk,Nat.zero_add,Nat.add_zero]
 refine ldP_of (by rw[H.rd];rfl) ?_
 simp only[ptrK_some,add_mk,Nat.zero_add]
 refine ldP_of (by rw[At.rd Q];rfl) (ldP_of (by rw[H.rd];rfl) ?_)
 simp only[ptrK_some,add_mk,Nat.zero_add]
 refine ldI_of (n:=(base:Int)) (by rw[At.rd Q];rfl) (ldI_of (n:=b) (by rw[H.rd];rfl) ?_)
 rw[show IntKind.wrap .i64 ((base:Int)+1)=((base+1:Nat):Int) by rw[wrap_i64 (by omega) (by omega)];simp]
 refine store_in M (by omega) (by omega) fun h1 M1 O1=>⟨rfl,?_⟩
 rw[Int.toNat_natCast]at M1
 have H1:=H.only O1 (by simp[d2,d3])
 refine ldB_of (n:=ok) (by rw[H1.rd];rfl) (ends71 H1 (by simp[cD]) fun h2 A2 O2=>⟨rfl,hK h2 A2 (M1.only O2 (by simp[d2.symm]) (by simp[d3.symm])) ((O1.mono (T:=[f,m,mc]) (by simp+contextual)).trans O2 (by simp))⟩)
theorem q99(hT:cs.getD base 0=IntKind.wrap .u64 t→ ∀h',At h' f (cD d v t b (nf 354 f) dn true)→MemIs h' m mc (cs.set base (IntKind.wrap .u64 (IntKind.wrap .i64 (t+1)))) (up ops) fails→Only [f,m,mc] h h'→K (.tuple #[]) h')
  (hF:cs.getD base 0≠IntKind.wrap .u64 t→ ∀h' fails',At h' f (cD d v t b (nf 354 f) dn false)→MemIs h' m mc cs (up ops) fails'→Only [f,m,mc] h h'→K (.tuple #[]) h'):Cl 353 [.pointer (some ⟨f,0,none⟩)] h K:=by
 apply F353.spec
 simp only[add_mk,Nat.zero_add,Nat.add_zero]
 refine ldP_of (by rw[H.rd];rfl) ?_
 simp only[ptrK_some,add_mk,Nat.zero_add]
 refine ldP_of (by rw[At.rd Q];rfl) (ldP_of (by rw[H.rd];rfl) ?_)
 simp only[ptrK_some,add_mk,Nat.zero_add]
 refine ldI_of (n:=(base:Int)) (by rw[At.rd Q];rfl) (ldI_of (n:=t) (by rw[H.rd];rfl) (ldI_of (n:=t) (by rw[H.rd];rfl) ?_))
 rw[show IntKind.wrap .i64 ((base:Int)+0)=(base:Int) by rw[wrap_i64 (by omega) (by omega)];simp]
 refine cas_in M (by omega) (by omega) (fun e h1 M1 O1=>ldB_of rfl ⟨by trivial,?_⟩) fun e h1 M1 O1=>ldB_of rfl ⟨by trivial,?_⟩
 all_goals
  rw[Int.toNat_natCast]at e
  refine stK_at (H.only O1 (by simp[d2,d3])) (by simp[cD]) rfl fun h2 A2 O2 _=>stK_at A2 (by simp[cD]) rfl fun h3 A3 O3 _=> ?_
  have O23:=O2.trans O3 (by simp)
  have M3:=M1.only O23 (by simp[d2.symm]) (by simp[d3.symm])
  have P3:=(O1.mono (T:=[f,m,mc]) (by simp+contextual)).trans O23 (by simp)
 ·rw[Int.toNat_natCast]at M3
  exact hT e h3 A3 M3 P3
 ·exact hF e h3 _ A3 M3 P3
theorem q91(hT:cs.getD base 0=IntKind.wrap .u64 t→ ∀h',At h' f (cD d v t b x true true)→MemIs h' m mc (cs.set base (IntKind.wrap .u64 (IntKind.wrap .i64 (t+1)))) (up ops) fails→Only [f,m,mc] h h'→K (.tuple #[]) h')
  (hF:cs.getD base 0≠IntKind.wrap .u64 t→ ∀h' fails',At h' f (cD d v t b x true false)→MemIs h' m mc cs (up ops) fails'→Only [f,m,mc] h h'→K (.tuple #[]) h'):Cl 335 [.pointer (some ⟨f,0,none⟩)] h K:=by
 apply F335.spec
 simp only[add_mk,Nat.zero_add,Nat.add_zero]
 refine ldP_of (by rw[H.rd];rfl) ?_
 simp only[ptrK_some,add_mk,Nat.zero_add]
 refine ldP_of (by rw[At.rd Q];rfl) (ldP_of (by rw[H.rd];rfl) ?_)
 simp only[ptrK_some,add_mk,Nat.zero_add]
 refine ldI_of (n:=(base:Int)) (by rw[At.rd Q];rfl) (ldI_of (n:=t) (by rw[H.rd];rfl) (ldI_of (n:=t) (by rw[H.rd];rfl) ?_))
 rw[show IntKind.wrap .i64 ((base:Int)+0)=(base:Int) by rw[wrap_i64 (by omega) (by omega)];simp]
 refine cas_in M (by omega) (by omega) (fun e h1 M1 O1=>ldB_of rfl ⟨by trivial,?_⟩) fun e h1 M1 O1=>ldB_of rfl ⟨by trivial,?_⟩
 all_goals
  rw[Int.toNat_natCast]at e
  refine ends71 (H.only O1 (by simp[d2,d3])) (by simp[cD]) fun h2 A2 O2=>⟨by trivial,?_⟩
  have M3:=M1.only O2 (by simp[d2.symm]) (by simp[d3.symm])
  have P3:=(O1.mono (T:=[f,m,mc]) (by simp+contextual)).trans O2 (by simp)
 ·rw[Int.toNat_natCast]at M3
  exact hT e h2 A2 M3 P3
 ·exact hF e h2 _ A2 M3 P3
include d1 d4 d5
theorem q58(hK: ∀h',At h' f (cD d v (IntKind.wrap .i64 (cs.getD base 0)) b (nf 239 f) (if decide (IntKind.wrap .i64 (b-IntKind.wrap .i64 (cs.getD base 0))≥(n:Int))then true else dn) (if decide (IntKind.wrap .i64 (b-IntKind.wrap .i64 (cs.getD base 0))≥(n:Int))then false else ok))→
  MemIs h' m mc cs (up ops) fails→Only [f,m,mc] h h'→K (.tuple #[]) h'):Cl 195 [.pointer (some ⟨f,0,none⟩)] h K:=by
 apply F195.spec
 simp only[add_mk,Nat.zero_add,Nat.add_zero]
 refine ldP_of (by rw[H.rd];rfl) (load43 Q M (by omega) (by decide) (by decide) (by omega) fun h1 M1 O1=>ldI_of rfl ?_)
 refine stK_at (H.only O1 (by simp[d2,d3])) (by simp[cD]) rfl fun h2 A2 O2 _=>stK_at A2 (by simp[cD]) rfl fun h3 A3 O3 _=> ?_
 have O23:=O2.trans O3 (by simp)
 have M3:=M1.only O23 (by simp[d2.symm]) (by simp[d3.symm])
 have P3:=(O1.mono (T:=[f,m,mc]) (by simp+contextual)).trans O23 (by simp)
 have Q3:=Q.only P3 (by simp[d1.symm,d4,d5])
 refine ldI_of (n:=b) (by rw[A3.rd];rfl) (ldI_of (n:=IntKind.wrap .i64 (cs.getD base 0)) (by rw[A3.rd];rfl) (ldP_of (by rw[A3.rd];rfl) ?_))
 simp only[ptrK_some,add_mk,Nat.zero_add]
 refine ldI_of (n:=(n:Int)) (by rw[At.rd Q3];rfl) (bcase_of (fun e=> ?_) fun e=> ?_)
 ·refine ends71 A3 (by simp[cD]) fun h4 A4 O4=>⟨by trivial,hK h4 ?_ (M3.only O4 (by simp[d2.symm]) (by simp[d3.symm])) (P3.trans O4 (by simp))⟩
  rw[e]
  exact A4
 ·refine hK h3 ?_ M3 P3
  rw[e]
  exact A3
end
end
section
section
variable {h:Heap}{f d m mc base n:Nat}{cs:List Int}{ops fails:Int}{K:Value→Heap→Prop}{v t b:Int}{x:Value}{dn ok:Bool}
variable (Q:DqIs h d m base n)(M:MemIs h m mc cs ops fails)(H:At h f (cD d v t b x dn ok))(hb:base<1000000)(hn:1≤n)(hn2:n<1000000)(hl:base+2+n≤cs.length)(d1:f≠d)(d2:f≠m)(d3:f≠mc)(d4:d≠m)(d5:d≠mc)
include Q M H hb hn hn2 hl d2 d3
theorem q70(hp:0≤b)(hK: ∀h',At h' f (cD d v t b (nf 284 f) dn ok)→MemIs h' m mc (cs.set (slotOf base n b) v) (up ops) fails→Only [f,m,mc] h h'→K (.tuple #[]) h'):Cl 239 [.pointer (some ⟨f,0,none⟩)] h K:=by
 have hsl:=slotOf_lt (base:=base) hn hp
 apply F239.spec
 simp only[add_mk,Nat.zero_add,Nat.add_zero]
 have r0:rd h ⟨f,0,none⟩=some (.pointer (some ⟨d,0,none⟩)):=by rw[H.rd];rfl
 have rm:rd h ⟨d,0,none⟩=some (.pointer (some ⟨m,0,none⟩)):=by rw[At.rd Q];rfl
 refine ldP_of r0 ?_
 simp only[ptrK_some,add_mk,Nat.zero_add]
 refine ldP_of rm (ldP_of r0 (ldI_of (n:=b) (by rw[H.rd];rfl) (ldI_of (n:=v) (by rw[H.rd];rfl) (value87 Q (by omega) hn (by omega) hp (ldI_of rfl ⟨by trivial,by trivial,by trivial,ldP_of r0 ⟨by trivial,?_⟩⟩)))))
 refine⟨by trivial,by trivial,ldP_of rm ⟨by trivial,by trivial,by trivial,by trivial,ldI_of (n:=v) (by rw[H.rd];rfl) ⟨rfl,?_⟩⟩⟩
 refine store_in M (by omega) (by omega) fun h1 M1 O1=>⟨rfl,?_⟩
 rw[Int.toNat_natCast]at M1
 refine stK_at (H.only O1 (by simp[d2,d3])) (by simp[cD]) rfl fun h2 A2 O2 _=> ?_
 exact hK h2 A2 (M1.only O2 (by simp[d2.symm]) (by simp[d3.symm])) ((O1.mono (T:=[f,m,mc]) (by simp+contextual)).trans O2 (by simp))
theorem q89(hp:0≤b)(hT:t<b→ ∀h',At h' f (cD d (cs.getD (slotOf base n b) 0) t b x true true)→MemIs h' m mc cs (up ops) fails→Only [f,m,mc] h h'→K (.tuple #[]) h')
  (hF: ¬t<b→ ∀h',At h' f (cD d (cs.getD (slotOf base n b) 0) t b (nf 353 f) dn ok)→MemIs h' m mc cs (up ops) fails→Only [f,m,mc] h h'→K (.tuple #[]) h'):Cl 333 [.pointer (some ⟨f,0,none⟩)] h K:=by
 have hsl:=slotOf_lt (base:=base) hn hp
 apply F333.spec
 simp only[add_mk,Nat.zero_add,Nat.add_zero]
 have r0:rd h ⟨f,0,none⟩=some (.pointer (some ⟨d,0,none⟩)):=by rw[H.rd];rfl
 have rm:rd h ⟨d,0,none⟩=some (.pointer (some ⟨m,0,none⟩)):=by rw[At.rd Q];rfl
 refine ldP_of r0 ?_
 simp only[ptrK_some,add_mk,Nat.zero_add]
 refine ldP_of rm (ldP_of r0 (ldI_of (n:=b) (by rw[H.rd];rfl) (value87 Q (by omega) hn (by omega) hp (ldI_of rfl ⟨by trivial,by trivial,by trivial,by trivial,ldP_of r0 ⟨by trivial,?_⟩⟩))))
 refine⟨by trivial,by trivial,ldP_of rm ⟨by trivial,load_in M (by omega) (by omega) fun h1 M1 O1=>ldI_of rfl ⟨by trivial,?_⟩⟩⟩
 rw[Int.toNat_natCast]
 refine stK_at (H.only O1 (by simp[d2,d3])) (by simp[cD]) rfl fun h2 A2 O2 _=> ?_
 have M2:=M1.only O2 (by simp[d2.symm]) (by simp[d3.symm])
 have P2:=(O1.mono (T:=[f,m,mc]) (by simp+contextual)).trans O2 (by simp)
 refine ldI_of (n:=t) (by rw[A2.rd];rfl) (ldI_of (n:=b) (by rw[A2.rd];rfl) (bcase_of (fun e=> ?_) fun e=> ?_))
 ·refine ends71 A2 (by simp[cD]) fun h3 A3 O3=>⟨rfl,hT (of_decide_eq_true e) h3 A3 (M2.only O3 (by simp[d2.symm]) (by simp[d3.symm])) (P2.trans O3 (by simp))⟩
 ·refine stK_at A2 (by simp[cD]) rfl fun h3 A3 O3 _=> ?_
  exact hF (of_decide_eq_false e) h3 A3 (M2.only O3 (by simp[d2.symm]) (by simp[d3.symm])) (P2.trans O3 (by simp))
theorem q73(hp:0≤t)(hK: ∀h',At h' f (cD d (cs.getD (slotOf base n t) 0) t b (nf 335 f) dn ok)→MemIs h' m mc cs (up ops) fails→Only [f,m,mc] h h'→K (.tuple #[]) h'):Cl 301 [.pointer (some ⟨f,0,none⟩)] h K:=by
 have hsl:=slotOf_lt (base:=base) hn hp
 apply F301.spec
 simp only[add_mk,Nat.zero_add,Nat.add_zero]
 have r0:rd h ⟨f,0,none⟩=some (.pointer (some ⟨d,0,none⟩)):=by rw[H.rd];rfl
 have rm:rd h ⟨d,0,none⟩=some (.pointer (some ⟨m,0,none⟩)):=by rw[At.rd Q];rfl
 refine ldP_of r0 ?_
 simp only[ptrK_some,add_mk,Nat.zero_add]
 refine ldP_of rm (ldP_of r0 (ldI_of (n:=t) (by rw[H.rd];rfl) (value87 Q (by omega) hn (by omega) hp (ldI_of rfl ⟨by trivial,by trivial,by trivial,by trivial,ldP_of r0 ⟨by trivial,?_⟩⟩))))
 refine⟨by trivial,by trivial,ldP_of rm ⟨by trivial,load_in M (by omega) (by omega) fun h1 M1 O1=>ldI_of rfl ⟨by trivial,?_⟩⟩⟩
 rw[Int.toNat_natCast]
 refine stK_at (H.only O1 (by simp[d2,d3])) (by simp[cD]) rfl fun h2 A2 O2 _=>stK_at A2 (by simp[cD]) rfl fun h3 A3 O3 _=> ?_
 have O23:=O2.trans O3 (by simp)
 exact hK h3 A3 (M1.only O23 (by simp[d2.symm]) (by simp[d3.symm])) ((O1.mono (T:=[f,m,mc]) (by simp+contextual)).trans O23 (by simp))
omit hn2
include d1
theorem q90(hK: ∀h',At h' f (cD d v t b x true false)→MemIs h' m mc (cs.set (base+1) (IntKind.wrap .u64 (IntKind.wrap .i64 (b+1)))) (up ops) fails→Only [f,m,mc] h h'→K (.tuple #[]) h'):Cl 334 [.pointer (some ⟨f,0,none⟩)] h K:=by
 apply F334.spec
 simp only[add_mk,Nat.zero_add,Nat.add_zero]
 refine stK_at H (by simp[cD]) rfl fun h1 A1 O1 _=> ?_
 have A1:At h1 f (cD d v t b x dn false):=A1
 refine q100 (Q.only O1 (by simp[d1.symm])) (M.only O1 (by simp[d2.symm]) (by simp[d3.symm])) A1 hb hn hl d2 d3 fun h2 A2 M2 O2=>⟨rfl,hK h2 A2 M2 ?_⟩
 exact(O1.mono (T:=[f,m,mc]) (by simp+contextual)).trans O2 (by simp)
end
end
section
theorem F177.spec(a:Addr)(h:Heap)(K:KK)(H:Cl 142 [.pointer (some a),.int .u64 0,.func (.func 220) #[] #[]] h fun v1 h2=>ldP (some v1) fun p3=>K (.pointer p3) h2):Cl 177 [.pointer (some a)] h K:=cN Tryz.func177 H
theorem F178.spec(a:Addr)(h:Heap)(K:KK)(H:Cl 142 [.pointer (some a),.int .u64 0,.func (.func 221) #[] #[]] h fun v1 h2=>ldP (some v1) fun p3=>K (.pointer p3) h2):Cl 178 [.pointer (some a)] h K:=cN Tryz.func178 H
end
section
theorem stepD_len{base n:Nat}{cs:List Int}{A:Dc}:(stepD base n cs A).2.length=cs.length:=by
 unfold stepD
 repeat' split
 all_goals simp
theorem DcIs.of{h:Heap}{f d bx by_:Nat}{A:Dc}(H:At h f (cellsD f d bx by_ A))(e:isFirst A.ph=false):DcIs h f d bx by_ A:=
 ⟨H,(fun e'=>by rw[e]at e';cases e'),(fun e'=>by rw[e]at e';cases e')⟩
section
variable {h:Heap}{f d bx by_ m mc base n:Nat}{cs:List Int}{ops fails:Int}{K:Value→Heap→Prop}{A:Dc}
theorem q57{g:Nat}(F:At h bx [.func (.func g) #[] #[]])(B:At h by_ [.pointer (some ⟨f,0,none⟩)])(hg:xget X g=some .go)
  (hK:Cl g [.pointer (some ⟨f,0,none⟩)] h (fun v h'=>v= .tuple #[]∧K (.tuple #[]) h')):
  Cl 193 [.pointer (some ⟨bx,0,none⟩),.pointer (some ⟨by_,0,none⟩)] h K:=by
 apply F193.spec
 refine⟨_,by rw[F.rd];rfl,ldP_of (by rw[B.rd];rfl) (dynK_go hg ?_)⟩
 simpa using hK
theorem stepD_spec(Q:DqIs h d m base n)(M:MemIs h m mc cs ops fails)(H:DcIs h f d bx by_ A)(hb:base<1000000)(hn:1≤n)(hn2:n<1000000)(hl:base+2+n≤cs.length)(d1:f≠d)(d2:f≠m)(d3:f≠mc)(d4:d≠m)(d5:d≠mc)
  (hph:A.ph≤14) (hp1:A.ph=2∨A.ph=7→0≤A.b) (hp2:A.ph=13→0≤A.t)
  (hK: ∀h' fails',DcIs h' f d bx by_ (stepD base n cs A).1→MemIs h' m mc (stepD base n cs A).2 (if A.done then ops else up ops) fails'→Only [f,m,mc] h h'→K (.bool (stepD base n cs A).1.done) h'):
  Cl 140 [.pointer (some ⟨f,0,none⟩)] h K:=by
 apply F140.spec
 simp only[add_mk,Nat.zero_add]
 obtain⟨v,t,b,ph,dn,ok⟩:=A
 have H0:At h f (cD d v t b (nxd f bx by_ ph) dn ok):=H.act
 refine ldB_of (n:=dn) (by rw[H0.rd];rfl) ?_
 have hend: ∀h' fails',DcIs h' f d bx by_ (stepD base n cs ⟨v,t,b,ph,dn,ok⟩).1→MemIs h' m mc (stepD base n cs ⟨v,t,b,ph,dn,ok⟩).2 (if dn then ops else up ops) fails'→Only [f,m,mc] h h'→F140.wk3 ⟨f,0,none⟩ h' K:=by
  intro h' fails' a1 a2 a3
  unfold F140.wk3
  simp only[add_mk,Nat.zero_add]
  exact ldB_of (by rw[a1.act.rd];rfl) (hK h' fails' a1 a2 a3)
 clear hK
 dsimp only at hph hp1 hp2
 cases dn with
 |true=>
  rw[Bool.not_true,bcase_false]
  exact hend h fails H M (Only.refl _ _)
 |false=>
  rw[Bool.not_false,bcase_true]
  simp only[stepD,Bool.false_eq_true,if_false]at hend
  refine⟨_,by rw[H0.rd];rfl,?_⟩
  match ph,hph,H,H0,hend,hp1,hp2 with
  |0,_,H,H0,hend,_,_=>
   refine dynK_go go193 (q57 (H.fn rfl) (H.me rfl) go143 (q40 Q M H0 hb hn hl d2 d3 fun h1 A1 M1 O1=>⟨rfl,rfl,hend h1 _ (DcIs.of A1 rfl) M1 O1⟩))
  |1,_,H,H0,hend,_,_=>
   refine dynK_go go195 (q58 Q M H0 hb hn hl d1 d2 d3 d4 d5 fun h1 A1 M1 O1=>⟨rfl,hend h1 _ (DcIs.of ?_ rfl) M1 O1⟩)
   show At h1 f (cD d v _ b (nf 239 f) (decide _) _)
   simpa using A1
  |2,_,H,H0,hend,hp,_=>
   exact dynK_go go239 (q70 Q M H0 hb hn hn2 hl d2 d3 (hp (Or.inl rfl)) fun h1 A1 M1 O1=>⟨rfl,hend h1 _ (DcIs.of A1 rfl) M1 O1⟩)
  |3,_,H,H0,hend,_,_=>
   exact dynK_go go284 (q88 Q M H0 hb hn hl d2 d3 fun h1 A1 M1 O1=>⟨rfl,hend h1 _ (DcIs.of A1 rfl) M1 O1⟩)
  |4,_,H,H0,hend,_,_=>
   refine dynK_go go193 (q57 (H.fn rfl) (H.me rfl) go220 (q41 Q M H0 hb hn hl d2 d3 fun h1 A1 M1 O1=>⟨rfl,rfl,hend h1 _ (DcIs.of A1 rfl) M1 O1⟩))
  |5,_,H,H0,hend,_,_=>
   exact dynK_go go269 (q59 Q M H0 hb hn hl d2 d3 fun h1 A1 M1 O1=>⟨rfl,hend h1 _ (DcIs.of A1 rfl) M1 O1⟩)
  |6,_,H,H0,hend,_,_=>
   refine dynK_go go300 (q72 Q M H0 hb hn hl d2 d3 fun h1 A1 M1 O1=>⟨rfl,?_⟩)
   refine hend h1 _ ?_ M1 O1
   cases hd:decide (IntKind.wrap .i64 (cs.getD base 0)>b)with
   |true=>
    rw[hd]at A1
    exact DcIs.of A1 rfl
   |false=>
    rw[hd]at A1
    exact DcIs.of A1 rfl
  |7,_,H,H0,hend,hp,_=>
   refine dynK_go go333 (q89 Q M H0 hb hn hn2 hl d2 d3 (hp (Or.inr rfl)) (fun e h1 A1 M1 O1=>⟨rfl,?_⟩) fun e h1 A1 M1 O1=>⟨rfl,?_⟩)
   ·exact hend h1 _ (by
     show DcIs h1 f d bx by_ (ite _ _ _:Dc×List Int).1
     rw[if_pos (decide_eq_true e)]
     exact DcIs.of A1 rfl) (by
     show MemIs h1 m mc (ite _ _ _:Dc×List Int).2 _ _
     rw[if_pos (decide_eq_true e)]
     exact M1) O1
   ·exact hend h1 _ (by
     show DcIs h1 f d bx by_ (ite _ _ _:Dc×List Int).1
     rw[if_neg (by simpa using e)]
     exact DcIs.of A1 rfl) (by
     show MemIs h1 m mc (ite _ _ _:Dc×List Int).2 _ _
     rw[if_neg (by simpa using e)]
     exact M1) O1
  |8,_,H,H0,hend,_,_=>
   refine dynK_go go353 (q99 Q M H0 hb hn hl d2 d3 (fun e h1 A1 M1 O1=>⟨rfl,?_⟩) fun e h1 fails' A1 M1 O1=>⟨rfl,?_⟩)
   ·exact hend h1 _ (by
     show DcIs h1 f d bx by_ (ite _ _ _:Dc×List Int).1
     rw[if_pos e]
     exact DcIs.of A1 rfl) (by
     show MemIs h1 m mc (ite _ _ _:Dc×List Int).2 _ _
     rw[if_pos e]
     exact M1) O1
   ·exact hend h1 _ (by
     show DcIs h1 f d bx by_ (ite _ _ _:Dc×List Int).1
     rw[if_neg e]
     exact DcIs.of A1 rfl) (by
     show MemIs h1 m mc (ite _ _ _:Dc×List Int).2 _ _
     rw[if_neg e]
     exact M1) O1
  |9,_,H,H0,hend,_,_=>
   exact dynK_go go354 (q100 Q M H0 hb hn hl d2 d3 fun h1 A1 M1 O1=>⟨rfl,hend h1 _ (DcIs.of A1 rfl) M1 O1⟩)
  |10,_,H,H0,hend,_,_=>
   exact dynK_go go334 (q90 Q M H0 hb hn hl d1 d2 d3 fun h1 A1 M1 O1=>⟨rfl,hend h1 _ (DcIs.of A1 rfl) M1 O1⟩)
  |11,_,H,H0,hend,_,_=>
   refine dynK_go go193 (q57 (H.fn rfl) (H.me rfl) go221 (q42 Q M H0 hb hn hl d2 d3 fun h1 A1 M1 O1=>⟨rfl,rfl,hend h1 _ (DcIs.of A1 rfl) M1 O1⟩))
  |12,_,H,H0,hend,_,_=>
   refine dynK_go go270 (q60 Q M H0 hb hn hl d2 d3 fun h1 A1 M1 O1=>⟨rfl,hend h1 _ (DcIs.of ?_ rfl) M1 O1⟩)
   show At h1 f (cD d v t _ (nf 301 f) (decide _) _)
   simpa using A1
  |13,_,H,H0,hend,_,hp=>
   exact dynK_go go301 (q73 Q M H0 hb hn hn2 hl d2 d3 (hp rfl) fun h1 A1 M1 O1=>⟨rfl,hend h1 _ (DcIs.of A1 rfl) M1 O1⟩)
  |14,_,H,H0,hend,_,_=>
   refine dynK_go go335 (q91 Q M H0 hb hn hl d2 d3 (fun e h1 A1 M1 O1=>⟨rfl,?_⟩) fun e h1 fails' A1 M1 O1=>⟨rfl,?_⟩)
   ·exact hend h1 _ (by
     show DcIs h1 f d bx by_ (ite _ _ _:Dc×List Int).1
     rw[if_pos e]
     exact DcIs.of A1 rfl) (by
     show MemIs h1 m mc (ite _ _ _:Dc×List Int).2 _ _
     rw[if_pos e]
     exact M1) O1
   ·exact hend h1 _ (by
     show DcIs h1 f d bx by_ (ite _ _ _:Dc×List Int).1
     rw[if_neg e]
     exact DcIs.of A1 rfl) (by
     show MemIs h1 m mc (ite _ _ _:Dc×List Int).2 _ _
     rw[if_neg e]
     exact M1) O1
end
end
section
structure DW(h:Heap)(d m mc base n:Nat)(cs:List Int)(ops fails:Int):Prop where
 deq:DqIs h d m base n
 mem:MemIs h m mc cs ops fails
 d4:d≠m
 d5:d≠mc
 hn:1≤n
 hn2:n≤256
 hb:base<100000
 hl:base+2+n≤cs.length
theorem DW.only{h h':Heap}{d m mc base n:Nat}{cs:List Int}{ops fails:Int}{S:List Nat}(W:DW h d m mc base n cs ops fails)(O:Only S h h')(h1:d∉S)(h2:m∉S)(h3:mc∉S):DW h' d m mc base n cs ops fails:=
 ⟨W.deq.only O h1,W.mem.only O h2 h3,W.d4,W.d5,W.hn,W.hn2,W.hb,W.hl⟩
theorem DW.lt{h:Heap}{d m mc base n:Nat}{cs:List Int}{ops fails:Int}(W:DW h d m mc base n cs ops fails):d<h.size∧m<h.size∧mc<h.size:=⟨At.lt W.deq,W.mem.head.lt,W.mem.body.lt⟩
section
variable {h:Heap}{f d bx by_ m mc base n:Nat}{cs:List Int}{ops fails:Int}{K:Value→Heap→Prop}{A:Dc}
theorem stepD_dw(W:DW h d m mc base n cs ops fails)(H:DcIs h f d bx by_ A)(d1:f≠d)(d2:f≠m)(d3:f≠mc)(hph:A.ph≤14)(hp1:A.ph=2∨A.ph=7→0≤A.b)(hp2:A.ph=13→0≤A.t)
  (hK: ∀h' fails',DcIs h' f d bx by_ (stepD base n cs A).1→DW h' d m mc base n (stepD base n cs A).2 (if A.done then ops else up ops) fails'→Only [f,m,mc] h h'→K (.bool (stepD base n cs A).1.done) h'):
  Cl 140 [.pointer (some ⟨f,0,none⟩)] h K:=
 stepD_spec W.deq W.mem H (Nat.lt_of_lt_of_le W.hb (by decide)) W.hn (Nat.lt_of_le_of_lt W.hn2 (by decide)) W.hl d1 d2 d3 W.d4 W.d5 hph hp1 hp2 fun h' fails' a b O=>
  hK h' fails' a ⟨W.deq.only O (by simp[d1.symm,W.d4,W.d5]),b,W.d4,W.d5,W.hn,W.hn2,W.hb,by rw[stepD_len];exact W.hl⟩ O
theorem act40{v:Int}(hK: ∀f bx by_ h',DcIs h' f d bx by_ ⟨v,0,0,0,false,false⟩→Only [] h h'→h.size≤f→h.size≤bx→h.size≤by_→f<h'.size→bx<h'.size→by_<h'.size→f≠bx→f≠by_→bx≠by_→K (.pointer (some ⟨f,0,none⟩)) h'):
  Cl 142 [.pointer (some ⟨d,0,none⟩),.int .u64 v,.func (.func 143) #[] #[]] h K:=by
 apply A40.F142.spec
 refine newK_at fun h1 A1 O1 z1=>newK_at fun h2 A2 O2 z2=>newK_at fun h3 A3 O3 z3=> ?_
 simp only[add_mk,Nat.zero_add]
 refine stK_at A3 (by simp) rfl fun h4 A4 O4 z4=>ldP_of (by rw[A4.rd];rfl) ?_
 simp only[ptrK_some,add_mk,Nat.zero_add,Nat.add_zero]
 have B4:=((A2.only O3 (by simp)).only O4 (by simp;omega))
 have C4:=(((A1.only O2 (by simp)).only O3 (by simp)).only O4 (by simp;omega))
 refine stK_at B4 (by simp) rfl fun h5 A5 O5 z5=>ldP_of (n:=some ⟨h1.size,0,none⟩) (by rw[(A4.only O5 (by simp;omega)).rd];rfl) ?_
 have P5:Only [] h h5:=(((O1.trans O2 (by simp)).trans O3 (by simp)).trans O4 fun b hb hl=>absurd (show b=h2.size by simpa using hb) (by omega)).trans O5 fun b hb hl=>absurd (show b=h1.size by simpa using hb) (by omega)
 refine hK h1.size h.size h2.size h5 ⟨A5,fun _=>C4.only O5 (by simp;omega),fun _=>A4.only O5 (by simp;omega)⟩ P5 (by omega) (by omega) (by omega) (by omega) (by omega) (by omega) (by omega) (by omega) (by omega)
theorem act41{v:Int}(hK: ∀f bx by_ h',DcIs h' f d bx by_ ⟨v,0,0,4,false,false⟩→Only [] h h'→h.size≤f→h.size≤bx→h.size≤by_→f<h'.size→bx<h'.size→by_<h'.size→f≠bx→f≠by_→bx≠by_→K (.pointer (some ⟨f,0,none⟩)) h'):
  Cl 142 [.pointer (some ⟨d,0,none⟩),.int .u64 v,.func (.func 220) #[] #[]] h K:=by
 apply A41.F142.spec
 refine newK_at fun h1 A1 O1 z1=>newK_at fun h2 A2 O2 z2=>newK_at fun h3 A3 O3 z3=> ?_
 simp only[add_mk,Nat.zero_add]
 refine stK_at A3 (by simp) rfl fun h4 A4 O4 z4=>ldP_of (by rw[A4.rd];rfl) ?_
 simp only[ptrK_some,add_mk,Nat.zero_add,Nat.add_zero]
 have B4:=((A2.only O3 (by simp)).only O4 (by simp;omega))
 have C4:=(((A1.only O2 (by simp)).only O3 (by simp)).only O4 (by simp;omega))
 refine stK_at B4 (by simp) rfl fun h5 A5 O5 z5=>ldP_of (n:=some ⟨h1.size,0,none⟩) (by rw[(A4.only O5 (by simp;omega)).rd];rfl) ?_
 have P5:Only [] h h5:=(((O1.trans O2 (by simp)).trans O3 (by simp)).trans O4 fun b hb hl=>absurd (show b=h2.size by simpa using hb) (by omega)).trans O5 fun b hb hl=>absurd (show b=h1.size by simpa using hb) (by omega)
 refine hK h1.size h.size h2.size h5 ⟨A5,fun _=>C4.only O5 (by simp;omega),fun _=>A4.only O5 (by simp;omega)⟩ P5 (by omega) (by omega) (by omega) (by omega) (by omega) (by omega) (by omega) (by omega) (by omega)
theorem act42{v:Int}(hK: ∀f bx by_ h',DcIs h' f d bx by_ ⟨v,0,0,11,false,false⟩→Only [] h h'→h.size≤f→h.size≤bx→h.size≤by_→f<h'.size→bx<h'.size→by_<h'.size→f≠bx→f≠by_→bx≠by_→K (.pointer (some ⟨f,0,none⟩)) h'):
  Cl 142 [.pointer (some ⟨d,0,none⟩),.int .u64 v,.func (.func 221) #[] #[]] h K:=by
 apply A42.F142.spec
 refine newK_at fun h1 A1 O1 z1=>newK_at fun h2 A2 O2 z2=>newK_at fun h3 A3 O3 z3=> ?_
 simp only[add_mk,Nat.zero_add]
 refine stK_at A3 (by simp) rfl fun h4 A4 O4 z4=>ldP_of (by rw[A4.rd];rfl) ?_
 simp only[ptrK_some,add_mk,Nat.zero_add,Nat.add_zero]
 have B4:=((A2.only O3 (by simp)).only O4 (by simp;omega))
 have C4:=(((A1.only O2 (by simp)).only O3 (by simp)).only O4 (by simp;omega))
 refine stK_at B4 (by simp) rfl fun h5 A5 O5 z5=>ldP_of (n:=some ⟨h1.size,0,none⟩) (by rw[(A4.only O5 (by simp;omega)).rd];rfl) ?_
 have P5:Only [] h h5:=(((O1.trans O2 (by simp)).trans O3 (by simp)).trans O4 fun b hb hl=>absurd (show b=h2.size by simpa using hb) (by omega)).trans O5 fun b hb hl=>absurd (show b=h1.size by simpa using hb) (by omega)
 refine hK h1.size h.size h2.size h5 ⟨A5,fun _=>C4.only O5 (by simp;omega),fun _=>A4.only O5 (by simp;omega)⟩ P5 (by omega) (by omega) (by omega) (by omega) (by omega) (by omega) (by omega) (by omega) (by omega)
theorem pop_dw(hK: ∀f bx by_ h',DcIs h' f d bx by_ ⟨0,0,0,4,false,false⟩→Only [] h h'→h.size≤f→h.size≤bx→h.size≤by_→f<h'.size→bx<h'.size→by_<h'.size→f≠bx→f≠by_→bx≠by_→K (.pointer (some ⟨f,0,none⟩)) h'):
  Cl 177 [.pointer (some ⟨d,0,none⟩)] h K:=by
 apply F177.spec
 exact act41 fun f bx by_ h' a b c e g i j k l m o=>ldP_of rfl (hK f bx by_ h' a b c e g i j k l m o)
theorem steal_dw(hK: ∀f bx by_ h',DcIs h' f d bx by_ ⟨0,0,0,11,false,false⟩→Only [] h h'→h.size≤f→h.size≤bx→h.size≤by_→f<h'.size→bx<h'.size→by_<h'.size→f≠bx→f≠by_→bx≠by_→K (.pointer (some ⟨f,0,none⟩)) h'):
  Cl 178 [.pointer (some ⟨d,0,none⟩)] h K:=by
 apply F178.spec
 exact act42 fun f bx by_ h' a b c e g i j k l m o=>ldP_of rfl (hK f bx by_ h' a b c e g i j k l m o)
def gotDV(A:Dc):Int:=if A.done&&A.ok then A.v else 0
def gotDB(A:Dc):Bool:=A.done&&A.ok
theorem gotD_spec(H:DcIs h f d bx by_ A)(hK:K (.tuple #[.int .u64 (gotDV A),.bool (gotDB A)]) h):Cl 141 [.pointer (some ⟨f,0,none⟩)] h K:=by
 apply F141.spec
 simp only[add_mk,Nat.zero_add]
 unfold gotDV gotDB at hK
 refine ldB_of (n:=A.done) (by rw[H.act.rd];rfl) (bcase_of (fun e=> ?_) fun e=>ldB_of (n:=A.ok) (by rw[H.act.rd];rfl) (bcase_of (fun e'=> ?_) fun e'=>ldI_of (n:=A.v) (by rw[H.act.rd];rfl) ?_))
 ·have e:A.done=false:=by simpa using e
  simpa[e]using hK
 ·have e:A.done=true:=by simpa using e
  have e':A.ok=false:=by simpa using e'
  simpa[e,e']using hK
 ·have e:A.done=true:=by simpa using e
  have e':A.ok=true:=by simpa using e'
  simpa[e,e']using hK
theorem cellsD_spec{k:Int}(h0:1≤k)(h1:k<1000000)(hK:K (.int .i64 (k+2)) h):Cl 90 [.int .i64 k] h K:=by
 apply F90.spec
 rw[decide_eq_false (by omega),bcase_false,wrap_i64 (by omega) (by omega)]
 exact hK
theorem deqnew_spec(M:MemIs h m mc cs ops fails)(hn:1≤n)(hn2:n≤256)(hb:base+2+n≤cs.length)(hc:cs.length<100000)
  (hK: ∀c h',DqIs h' c m base n→Only [] h h'→h.size≤c→K (.tuple #[.pointer (some ⟨c,0,none⟩),.int .i64 0]) h'):
  Cl 88 [.pointer (some ⟨m,0,none⟩),.int .i64 (base:Int),.int .i64 (n:Int)] h K:=by
 apply F88.spec
 rw[decide_eq_false (by omega),bcase_false,decide_eq_false (by omega),bcase_false,decide_eq_false (by omega),bcase_false]
 refine len_spec M (ldI_of rfl ?_)
 rw[decide_eq_false (by omega),bcase_false]
 refine cellsD_spec (by omega) (by omega) (ldI_of rfl (len_spec M (ldI_of rfl ?_)))
 rw[wrap_i64 (by omega) (by omega),decide_eq_false (by omega),bcase_false]
 exact newK_at fun h1 A1 O1 z1=>hK h.size h1 A1 O1 (Nat.le_refl _)
end
end
section
def F34.T:Hint:=⟨[(3,[5,14,15])],[]⟩
section
variable (n:Nat)(f:Addr)(d:Int)(c:Addr)(a b:Int)(h:Heap)(K:KK)
def F34.wL3:Prop:=Lp Tryz.f34 F34.T [1,1,0,1,0] n [(5,(.pointer (some c))),(14,(.int .i64 a)),(15,(.int .i64 b))] h K
theorem F34.sL3:F34.wL3 (n+1) c a b h K=(bcase (decide (b<a)) (Cl 90 [.int .i64 64] h fun v1 h2=>ldI .i64 (some v1) fun n3=>Cl 89 [.int .i64 n3] h2 fun v4 h5=>ldP (some v4) fun p6=>Cl 88 [.pointer p6,.int .i64 0,.int .i64 64] h5 fun v7 h8=> ∃p9:Option Addr,∃n10:Int,v7=(.tuple #[.pointer p9,.int .i64 n10])∧ldS (rd h8 (c.add 1)) fun p11 l12 c13=>newK h8 (.cells #[.pointer p9,.int .i64 0] 166) fun b14 h15=>newK h15 (.cells #[.pointer (some (Addr.mk b14 0 none))] 164) fun b16 h17=>appK h17 164 1 8 #[.pointer none] p11 l12 c13 (some (Addr.mk b16 0 none)) 1 fun p18 l19 c20 h21=>stK h21 ((c.add 1).add 0) (.slice p18 l19 c20) fun h22=>F34.wL3 n c a (IntKind.wrap .i64 (b+(1:Int))) h22 K) (K (.pointer (some c)) h)):=by kernel_rfl
def F34.wk3:Prop:=(∃m,F34.wL3 m c a b h K)
theorem F34.spec(H:newK h (.map #[] 0) fun b1 h2=>newK h2 (.cells #[.pointer (some f),.slice none 0 0,.map (some b1),.int .i64 0,.int .i64 0] 157) fun b3 h4=>F34.wk3 (Addr.mk b3 0 none) (if(4:Int)<(if(1:Int)>d then(1:Int)else d)then(4:Int)else(if(1:Int)>d then(1:Int)else d)) (0:Int) h4 K):Cl 34 [.pointer (some f),.int .i64 d] h K:=cT F34.T Tryz.func34 H
end
theorem F68.spec(a:Addr)(h:Heap)(K:KK)(H:ldS (rd h (a.add 1)) fun _ l2 _=>K (.int .i64 (Nat.cast l2:Int)) h):Cl 68 [.pointer (some a)] h K:=cN Tryz.func68 H
def F92.T:Hint:=⟨[(2,[0,4]),(3,[0])],[]⟩
section
variable (n:Nat)(a:Addr)(b:Value)(h:Heap)(K:KK)
def F92.wk3:Prop:=Cl 141 [.pointer (some a)] h fun v1 h2=> ∃n3:Int,∃b4:Bool,v1=(.tuple #[.int .u64 n3,.bool b4])∧K (.tuple #[.int .u64 n3,.bool b4]) h2
def F92.wL2:Prop:=Lp Tryz.f92 F92.T [1,0,1,0] n [(0,(.pointer (some a))),(4,b)] h K
theorem F92.sL2:F92.wL2 (n+1) a b h K=(dynK Tryz.prog X b [] h fun v1 h2=>ldB (some v1) fun b3=>bcase (!b3) (F92.wL2 n a b h2 K) (F92.wk3 a h2 K)):=by kernel_rfl
def F92.wk2:Prop:=(∃m,F92.wL2 m a b h K)
theorem F92.spec(H:F92.wk2 a (.func (.func 140) #[.pointer (some a)] #[]) h K):Cl 92 [.pointer (some a)] h K:=cT F92.T Tryz.func92 H
end
theorem F129.spec(a:Addr)(h:Heap)(K:KK)(H:ldP (rd h (a.add 0)) fun p1=>Cl 177 [.pointer p1] h fun v2 h3=>ldP (some v2) fun p4=>Cl 92 [.pointer p4] h3 fun v5 h6=> ∃n7:Int,∃b8:Bool,v5=(.tuple #[.int .u64 n7,.bool b8])∧bcase b8 (stK h6 ((a.add 1).add 0) (.int .i64 (IntKind.wrap .i64 n7)) fun h9=>K (.bool b8) h9) (K (.bool b8) h6)):Cl 129 [.pointer (some a)] h K:=cN Tryz.func129 H
def F130.T:Hint:=⟨[(3,[0,1,2,7,17,18])],[(5,[[(0,[]),(1,[]),(2,[]),(3,[]),(4,[]),(5,[]),(6,[]),(7,[]),(8,[]),(9,[]),(10,[]),(11,[]),(12,[]),(13,[]),(14,[]),(15,[]),(16,[]),(17,[])]])]⟩
section
variable (n:Nat)(d g:Addr)(f a c b:Int)(h:Heap)(K:KK)
def F130.wL3:Prop:=Lp Tryz.f130 F130.T [1,1,0,1,0] n [(0,(.pointer (some d))),(1,(.pointer (some g))),(2,(.int .i64 f)),(7,(.int .i64 a)),(17,(.int .i64 c)),(18,(.int .i64 b))] h K
theorem F130.sL3:F130.wL3 (n+1) d g f a c b h K=(bcase (decide (b<c)) (ldS (rd h (d.add 1)) fun p1 l2 _=>(a≠0∧(a≠0∧(a≠0∧ptrK p1 fun a4=>0≤(Int.tmod (IntKind.wrap .i64 ((Int.tmod (IntKind.wrap .i64 ((Int.tmod f a)+b)) a)+a)) a)∧(Int.tmod (IntKind.wrap .i64 ((Int.tmod (IntKind.wrap .i64 ((Int.tmod f a)+b)) a)+a)) a)<(Nat.cast l2:Int)∧ldP (rd h (a4.add (Int.toNat (Int.tmod (IntKind.wrap .i64 ((Int.tmod (IntKind.wrap .i64 ((Int.tmod f a)+b)) a)+a)) a)*1))) fun p5=>eqE Tryz.prog h 164 (.pointer p5) (.pointer (some g)) fun b6=>bcase b6 (F130.wL3 n d g f a c (IntKind.wrap .i64 (b+(1:Int))) h K) (ptrK p5 fun a7=>ldP (rd h (a7.add 0)) fun p8=>Cl 178 [.pointer p8] h fun v9 h10=>ldP (some v9) fun p11=>Cl 92 [.pointer p11] h10 fun v12 h13=> ∃n14:Int,∃b15:Bool,v12=(.tuple #[.int .u64 n14,.bool b15])∧bcase b15 (stK h13 ((g.add 1).add 0) (.int .i64 (IntKind.wrap .i64 n14)) fun h16=>ldI .i64 (rd h16 (d.add 4)) fun n17=>stK h16 ((d.add 4).add 0) (.int .i64 (IntKind.wrap .i64 (n17+(1:Int)))) fun h18=>K (.bool true) h18) (F130.wL3 n d g f a c (IntKind.wrap .i64 (b+(1:Int))) h13 K)))))) (K (.bool false) h)):=by kernel_rfl
def F130.wk3:Prop:=(∃m,F130.wL3 m d g f a c b h K)
theorem F130.spec(H:ldS (rd h (d.add 1)) fun _ l2 _=>F130.wk3 d g f (Nat.cast l2:Int) (Nat.cast l2:Int) (0:Int) h K):Cl 130 [.pointer (some d),.pointer (some g),.int .i64 f] h K:=cT F130.T Tryz.func130 H
end
def F81.T:Hint:=⟨[],[(6,[[(0,[]),(1,[]),(2,[]),(3,[]),(4,[]),(5,[]),(6,[]),(7,[]),(8,[]),(9,[]),(10,[])]])]⟩
theorem F81.spec(a:Addr)(b c:Int)(h:Heap)(K:KK)(H:bcase (decide (b<(0:Int))) (K (.bool false) h) (ldS (rd h (a.add 1)) fun _ l2 _=>bcase (decide (b≥(Nat.cast l2:Int))) (K (.bool false) h) (ldS (rd h (a.add 1)) fun p4 l5 _=>ptrK p4 fun a7=>0≤b∧b<(Nat.cast l5:Int)∧ldP (rd h (a7.add (Int.toNat b*1))) fun p8=>ptrK p8 fun a9=>ldI .i64 (rd h (a9.add 1)) fun n10=>bcase (n10==(0:Int)) (Cl 129 [.pointer p8] h fun v11 h12=>ldB (some v11) fun b13=>bcase (!b13) (Cl 130 [.pointer (some a),.pointer p8,.int .i64 c] h12 fun v14 h15=>ldB (some v14) fun b16=>K (.bool b16) h15) (ldM (rd h12 (a.add 2)) fun r17=>ptrK p8 fun a18=>ldI .i64 (rd h12 (a18.add 1)) fun n19=>lookK h12 r17 .i64 .i64 n19 fun o20=>ldP (some (lkV (.pointer none) o20)) fun p21=>Cl 114 [.pointer p21] h12 fun v24 h25=>ldB (some v24) fun b26=>bcase b26 (ptrK p8 fun a27=>stK h25 ((a27.add 1).add 0) (.int .i64 0) fun h28=>K (.bool true) h28) (K (.bool true) h25))) (ldM (rd h (a.add 2)) fun r29=>ptrK p8 fun a30=>ldI .i64 (rd h (a30.add 1)) fun n31=>lookK h r29 .i64 .i64 n31 fun o32=>ldP (some (lkV (.pointer none) o32)) fun p33=>Cl 114 [.pointer p33] h fun v36 h37=>ldB (some v36) fun b38=>bcase b38 (ptrK p8 fun a39=>stK h37 ((a39.add 1).add 0) (.int .i64 0) fun h40=>K (.bool true) h40) (K (.bool true) h37))))):Cl 81 [.pointer (some a),.int .i64 b,.int .i64 c] h K:=cT F81.T Tryz.func81 H
def F173.T:Hint:=⟨[(3,[0,3,11,12,13])],[]⟩
section
variable (n:Nat)(l:Addr)(j:Option Addr)(i g:Nat)(b:Option Addr)(a d:Nat)(f c:Int)(h:Heap)(K:KK)
def F173.wL3:Prop:=Lp Tryz.f173 F173.T [1,1,0,1,0] n [(0,(.pointer (some l))),(3,(.slice j i g)),(11,(.slice b a d)),(12,(.int .i64 f)),(13,(.int .i64 c))] h K
theorem F173.sL3:F173.wL3 (n+1) l j i g b a d f c h K=(bcase (decide (c<f)) (ptrK b fun a1=>0≤c∧c<(Nat.cast a:Int)∧ldI .i64 (rd h (a1.add (Int.toNat c*1))) fun n2=>ldM (rd h (l.add 2)) fun r3=>lookK h r3 .i64 .i64 n2 fun o4=>ldP (some (lkV (.pointer none) o4)) fun p5=>Cl 217 [.pointer p5] h fun v6 h7=>ldS (some v6) fun p8 l9 _=>appK h7 46 1 4 #[.int .u32 0] j i g p8 l9 fun p11 l12 c13 h14=>F173.wL3 n l p11 l12 c13 b a d f (IntKind.wrap .i64 (c+(1:Int))) h14 K) (K (.slice j i g) h)):=by kernel_rfl
def F173.wk3:Prop:=(∃m,F173.wL3 m l j i g b a d f c h K)
theorem F173.spec(H:ldM (rd h (l.add 2)) fun r1=>Cl 216 [.map r1] h fun v2 h3=>ldV (some v2) fun v4=>Cl 215 [v4] h3 fun v5 h6=>ldS (some v5) fun p7 l8 c9=>F173.wk3 l none 0 0 p7 l8 c9 (Nat.cast l8:Int) (0:Int) h6 K):Cl 173 [.pointer (some l)] h K:=cT F173.T Tryz.func173 H
end
end
section
def stp(f:Nat):Value:= .func (.func 140) #[.pointer (some ⟨f,0,none⟩)] #[]
theorem go140:xget X 140=some Ext.go:=by kernel_rfl
structure DS(base n:Nat)(cs:List Int)(T:Nat)(q:List Int):Prop where
 top:cs.getD base 0=T
 bot:cs.getD (base+1) 0=((T+q.length:Nat):Int)
 len:q.length≤n
 val: ∀i,i<q.length→cs.getD (base+2+(T+i)%n) 0=q.getD i 0
theorem slotN(base n x:Nat):slotOf base n (x:Int)=base+2+x%n:=by
 unfold slotOf
 rw[Int.tmod_eq_emod_of_nonneg (by omega)]
 congr 1
theorem getD_set'{l:List Int}{i j:Nat}{v:Int}(hi:i<l.length):(l.set i v).getD j 0=if i=j then v else l.getD j 0:=by
 by_cases h:i=j
 ·subst h;simp[hi]
 ·simp[List.getD,h]
section
variable {h h0:Heap}{f d bx by_ m mc base n:Nat}{cs:List Int}{ops fails:Int}{K:Value→Heap→Prop}{A:Dc}
theorem run_go{g:Nat}(hi:True)(W:DW h d m mc base n cs ops fails)(H:DcIs h f d bx by_ A)(d1:f≠d)(d2:f≠m)(d3:f≠mc)(hph:A.ph≤14)(hp1:A.ph=2∨A.ph=7→0≤A.b)(hp2:A.ph=13→0≤A.t)
  (hD:(stepD base n cs A).1.done=true→ ∀h' ops' fails',DW h' d m mc base n (stepD base n cs A).2 ops' fails'→Only [f,m,mc] h h'→K (.tuple #[.int .u64 (gotDV (stepD base n cs A).1),.bool (gotDB (stepD base n cs A).1)]) h')
  (hN:(stepD base n cs A).1.done=false→ ∀h' ops' fails',DcIs h' f d bx by_ (stepD base n cs A).1→DW h' d m mc base n (stepD base n cs A).2 ops' fails'→Only [f,m,mc] h h'→F92.wL2 g ⟨f,0,none⟩ (stp f) h' K):
  F92.wL2 (g+1) ⟨f,0,none⟩ (stp f) h K:=by
 rw[F92.sL2]
 unfold stp
 refine dynK_go go140 (stepD_dw W H d1 d2 d3 hph hp1 hp2 fun h1 fails1 H1 W1 O1=>ldB_of rfl ?_)
 cases hd:(stepD base n cs A).1.done with
 |true=>
  rw[Bool.not_true,bcase_false]
  unfold F92.wk3
  exact gotD_spec H1 ⟨_,_,rfl,hD hd h1 _ _ W1 O1⟩
 |false=>
  rw[Bool.not_false,bcase_true]
  exact hN hd h1 _ _ H1 W1 O1
theorem run_to{g:Nat}{A':Dc}{cs':List Int}(e:stepD base n cs A=(A',cs'))(hi:True)(W:DW h d m mc base n cs ops fails)(H:DcIs h f d bx by_ A)(d1:f≠d)(d2:f≠m)(d3:f≠mc)(hph:A.ph≤14)(hp1:A.ph=2∨A.ph=7→0≤A.b)(hp2:A.ph=13→0≤A.t)(hd:A'.done=false)
  (hN: ∀h' ops' fails',DcIs h' f d bx by_ A'→DW h' d m mc base n cs' ops' fails'→Only [f,m,mc] h h'→F92.wL2 g ⟨f,0,none⟩ (stp f) h' K):
  F92.wL2 (g+1) ⟨f,0,none⟩ (stp f) h K:=by
 refine run_go hi W H d1 d2 d3 hph hp1 hp2 (fun h'=> ?_) fun _=> ?_
 ·rw[e,hd]at h'
  cases h'
 ·rw[e]
  exact hN
theorem run_end{g:Nat}{A':Dc}{cs':List Int}(e:stepD base n cs A=(A',cs'))(hi:True)(W:DW h d m mc base n cs ops fails)(H:DcIs h f d bx by_ A)(d1:f≠d)(d2:f≠m)(d3:f≠mc)(hph:A.ph≤14)(hp1:A.ph=2∨A.ph=7→0≤A.b)(hp2:A.ph=13→0≤A.t)(hd:A'.done=true)
  (hD: ∀h' ops' fails',DW h' d m mc base n cs' ops' fails'→Only [f,m,mc] h h'→K (.tuple #[.int .u64 (gotDV A'),.bool (gotDB A')]) h'):
  F92.wL2 (g+1) ⟨f,0,none⟩ (stp f) h K:=by
 refine run_go hi W H d1 d2 d3 hph hp1 hp2 (fun _=> ?_) fun h'=> ?_
 ·rw[e]
  exact hD
 ·rw[e,hd]at h'
  cases h'
def Apart(base n:Nat)(cs cs':List Int):Prop:=cs'.length=cs.length∧ ∀x,x<base∨base+2+n≤x→cs'.getD x 0=cs.getD x 0
end
end
section
section
variable {h h0:Heap}{f d bx by_ m mc base n:Nat}{cs:List Int}{ops fails:Int}{K:Value→Heap→Prop}
theorem runsteal{T:Nat}{q:List Int}(W:DW h d m mc base n cs ops fails)(S:DS base n cs T q)(hT:T+q.length<1000000000)(H:DcIs h f d bx by_ ⟨0,0,0,11,false,false⟩)(d1:f≠d)(d2:f≠m)(d3:f≠mc)
  (hE:q=[]→ ∀h' ops' fails',DW h' d m mc base n cs ops' fails'→Only [f,m,mc] h h'→K (.tuple #[.int .u64 0,.bool false]) h')
  (hK: ∀x q',q=x::q'→ ∀h' ops' fails' cs',DS base n cs' (T+1) q'→Apart base n cs cs'→DW h' d m mc base n cs' ops' fails'→Only [f,m,mc] h h'→K (.tuple #[.int .u64 x,.bool true]) h'):
  Cl 92 [.pointer (some ⟨f,0,none⟩)] h K:=by
 apply F92.spec
 unfold F92.wk2
 have hb:IntKind.wrap .i64 (cs.getD (base+1) 0)=((T+q.length:Nat):Int):=by rw[S.bot,wrap_i64 (by omega) (by omega)]
 have ht:IntKind.wrap .i64 (cs.getD base 0)=(T:Int):=by rw[S.top,wrap_i64 (by omega) (by omega)]
 have hl:=W.hl
 have hn:=W.hn
 refine⟨4,?_⟩
 refine run_to (A':=⟨0,T,0,12,false,false⟩) (cs':=cs) (by
  unfold stepD
  simp only[Bool.false_eq_true,if_false,ht]) (by decide) W H d1 d2 d3 (by simp) (by simp) (by simp) rfl fun h1 o1 f1 H1 W1 O1=> ?_
 cases q with
 |nil=>
  refine run_end (A':=⟨0,T,T,13,true,false⟩) (cs':=cs) (by
   unfold stepD
   simp only[Bool.false_eq_true,if_false,hb]
   simp) (by decide) W1 H1 d1 d2 d3 (by simp) (by simp) (by simp) rfl fun h2 o2 f2 W2 O2=> ?_
  have:=hE rfl h2 o2 f2 W2 (O1.trans O2 fun b hb _=>hb)
  simpa[gotDV,gotDB]using this
 |cons x q'=>
  simp only[List.length_cons]at hb hT
  refine run_to (A':=⟨0,T,((T+(q'.length+1):Nat):Int),13,false,false⟩) (cs':=cs) (by
   unfold stepD
   simp only[Bool.false_eq_true,if_false,hb]
   rw[decide_eq_false (by omega)]
   simp) (by decide) W1 H1 d1 d2 d3 (by simp) (by simp) (by simp) rfl fun h2 o2 f2 H2 W2 O2=> ?_
  have hv:cs.getD (slotOf base n (T:Int)) 0=x:=by
   rw[slotN]
   have:=S.val 0 (by simp)
   simpa using this
  refine run_to (A':=⟨x,T,((T+(q'.length+1):Nat):Int),14,false,false⟩) (cs':=cs) (by
   unfold stepD
   simp only[Bool.false_eq_true,if_false,hv]) (by decide) W2 H2 d1 d2 d3 (by simp) (by simp) (fun _=>by show(0:Int)≤(T:Int);omega) rfl fun h3 o3 f3 H3 W3 O3=> ?_
  refine run_end (A':=⟨x,T,((T+(q'.length+1):Nat):Int),14,true,true⟩) (cs':=cs.set base ((T+1:Nat):Int)) (by
   unfold stepD
   simp only[Bool.false_eq_true,if_false]
   rw[if_pos (by rw[S.top,wrap_u64 (by omega) (by omega)]),wrap_i64 (by omega) (by omega),wrap_u64 (by omega) (by omega)]
   simp) (by decide) W3 H3 d1 d2 d3 (by simp) (by simp) (by simp) rfl fun h4 o4 f4 W4 O4=> ?_
  have P:=((O1.trans O2 fun b hb _=>hb).trans O3 fun b hb _=>hb).trans O4 fun b hb _=>hb
  have:=hK x q' rfl h4 o4 f4 _ ?_ ?_ W4 P
  ·simpa[gotDV,gotDB]using this
  ·refine⟨?_,?_,by have:=S.len;simp at this;omega,fun i hi=> ?_⟩
   ·rw[getD_set' (by omega),if_pos rfl]
   ·rw[getD_set' (by omega),if_neg (by omega),S.bot]
    simp only[List.length_cons]
    omega
   ·rw[getD_set' (by omega),if_neg (by omega),show T+1+i=T+(i+1) by omega,S.val (i+1) (by simp;omega)]
    simp[List.getD]
  ·refine⟨by simp,fun y hy=> ?_⟩
   rw[getD_set' (by omega),if_neg (by omega)]
theorem runpop{T:Nat}{q:List Int}(W:DW h d m mc base n cs ops fails)(S:DS base n cs T q)(hT:T+q.length<1000000000)(H:DcIs h f d bx by_ ⟨0,0,0,4,false,false⟩)(d1:f≠d)(d2:f≠m)(d3:f≠mc)
  (hE:q=[]→ ∀h' ops' fails' cs',DS base n cs' T []→Apart base n cs cs'→DW h' d m mc base n cs' ops' fails'→Only [f,m,mc] h h'→K (.tuple #[.int .u64 0,.bool false]) h')
  (hK: ∀x q' T',q=q'++[x]→T'+q'.length≤T+q.length→DS base n cs (T) q→ ∀h' ops' fails' cs',DS base n cs' T' q'→Apart base n cs cs'→DW h' d m mc base n cs' ops' fails'→Only [f,m,mc] h h'→K (.tuple #[.int .u64 x,.bool true]) h'):
  Cl 92 [.pointer (some ⟨f,0,none⟩)] h K:=by
 apply F92.spec
 unfold F92.wk2
 have hb:IntKind.wrap .i64 (cs.getD (base+1) 0)=((T+q.length:Nat):Int):=by rw[S.bot,wrap_i64 (by omega) (by omega)]
 have ht:IntKind.wrap .i64 (cs.getD base 0)=(T:Int):=by rw[S.top,wrap_i64 (by omega) (by omega)]
 have hl:=W.hl
 have hn:=W.hn
 refine⟨6,?_⟩
 refine run_to (A':=⟨0,0,((T+q.length:Nat):Int)-1,5,false,false⟩) (cs':=cs) (by
  unfold stepD
  simp only[Bool.false_eq_true,if_false,hb]
  rw[wrap_i64 (by omega) (by omega)]) (by decide) W H d1 d2 d3 (by simp) (by simp) (by simp) rfl fun h1 o1 f1 H1 W1 O1=> ?_
 refine run_to (A':=⟨0,0,((T+q.length:Nat):Int)-1,6,false,false⟩) (cs':=cs.set (base+1) (IntKind.wrap .u64 (((T+q.length:Nat):Int)-1))) (by
  unfold stepD
  simp only[Bool.false_eq_true,if_false]) (by decide) W1 H1 d1 d2 d3 (by simp) (by simp) (by simp) rfl fun h2 o2 f2 H2 W2 O2=> ?_
 have ht2:IntKind.wrap .i64 ((cs.set (base+1) (IntKind.wrap .u64 (((T+q.length:Nat):Int)-1))).getD base 0)=(T:Int):=by rw[getD_set' (by omega),if_neg (by omega),ht]
 have top2:(cs.set (base+1) (IntKind.wrap .u64 (((T+q.length:Nat):Int)-1))).getD base 0=(T:Int):=by rw[getD_set' (by omega),if_neg (by omega),S.top]
 have P2:=O1.trans O2 fun b hb _=>hb
 have ap2:Apart base n cs (cs.set (base+1) (IntKind.wrap .u64 (((T+q.length:Nat):Int)-1))):=⟨by simp,fun y hy=>by rw[getD_set' (by omega),if_neg (by omega)]⟩
 by_cases hq:q=[]
 ·subst hq
  simp only[List.length_nil,Nat.add_zero]at*
  refine run_to (A':=⟨0,T,(T:Int)-1,10,false,false⟩) (cs':=cs.set (base+1) (IntKind.wrap .u64 ((T:Int)-1))) (by
   unfold stepD
   simp only[Bool.false_eq_true,if_false,ht2]
   rw[decide_eq_true (by omega)]
   simp) (by decide) W2 H2 d1 d2 d3 (by simp) (by simp) (by simp) rfl fun h3 o3 f3 H3 W3 O3=> ?_
  refine run_end (A':=⟨0,T,(T:Int)-1,10,true,false⟩) (cs':=(cs.set (base+1) (IntKind.wrap .u64 ((T:Int)-1))).set (base+1) (T:Int)) (by
   unfold stepD
   simp only[Bool.false_eq_true,if_false]
   rw[show(T:Int)-1+1=T by omega,wrap_i64 (n:=(T:Int)) (by omega) (by omega),wrap_u64 (n:=(T:Int)) (by omega) (by omega)]) (by decide) W3 H3 d1 d2 d3 (by simp) (by simp) (by simp) rfl fun h4 o4 f4 W4 O4=> ?_
  have:=hE (by trivial) h4 o4 f4 _ ⟨?_,?_,Nat.zero_le _,fun i hi=>by simp at hi⟩ ⟨by simp,fun y hy=> ?_⟩ W4 ((P2.trans O3 fun b hb _=>hb).trans O4 fun b hb _=>hb)
  ·simpa[gotDV,gotDB]using this
  ·rw[getD_set' (by simp;omega),if_neg (by omega)]
   exact top2
  ·rw[getD_set' (by simp;omega),if_pos rfl]
   simp
  ·rw[getD_set' (by simp;omega),if_neg (by omega)]
   exact ap2.2 y hy
 ·obtain⟨q',x,rfl⟩: ∃q' x,q=q'++[x]:=⟨q.dropLast,q.getLast hq,(List.dropLast_concat_getLast hq).symm⟩
  have sl:=S.len
  simp only[List.length_append,List.length_cons,List.length_nil,Nat.zero_add]at*
  have eb:(((T+(q'.length+1):Nat):Int)-1)=((T+q'.length:Nat):Int):=by omega
  have ew:IntKind.wrap .u64 ((T+q'.length:Nat):Int)=((T+q'.length:Nat):Int):=wrap_u64 (by omega) (by omega)
  simp only[eb,ew]at H1 H2 W2 ht2 top2 ap2
  refine run_to (A':=⟨0,T,((T+q'.length:Nat):Int),7,false,false⟩) (cs':=cs.set (base+1) ((T+q'.length:Nat):Int)) (by
   unfold stepD
   simp only[Bool.false_eq_true,if_false,ht2]
   rw[decide_eq_false (by omega)]
   simp) (by decide) W2 H2 d1 d2 d3 (by simp) (by simp) (by simp) rfl fun h3 o3 f3 H3 W3 O3=> ?_
  have hmod:(T+q'.length)%n<n:=Nat.mod_lt _ (by omega)
  have hv:(cs.set (base+1) ((T+q'.length:Nat):Int)).getD (slotOf base n ((T+q'.length:Nat):Int)) 0=x:=by
   rw[slotN,getD_set' (by omega),if_neg (by omega),S.val q'.length (by simp)]
   simp[List.getD]
  have vals: ∀i,i<q'.length→(cs.set (base+1) ((T+q'.length:Nat):Int)).getD (base+2+(T+i)%n) 0=q'.getD i 0:=by
   intro i hi
   rw[getD_set' (by omega),if_neg (by omega),S.val i (by simp;omega)]
   simp only[List.getD,List.getElem?_append_left hi]
  by_cases h1q:T<T+q'.length
  ·refine run_end (A':=⟨x,T,((T+q'.length:Nat):Int),7,true,true⟩) (cs':=cs.set (base+1) ((T+q'.length:Nat):Int)) (by
    unfold stepD
    simp only[Bool.false_eq_true,if_false,hv]
    rw[if_pos (decide_eq_true (by omega))]) (by decide) W3 H3 d1 d2 d3 (by simp) (fun _=>by show(0:Int)≤((T+q'.length:Nat):Int);omega) (by simp) rfl fun h4 o4 f4 W4 O4=> ?_
   have:=hK x q' T rfl (by omega) S h4 o4 f4 _ ⟨top2,by rw[getD_set' (by omega),if_pos rfl],by omega,vals⟩ ap2 W4 ((P2.trans O3 fun b hb _=>hb).trans O4 fun b hb _=>hb)
   simpa[gotDV,gotDB]using this
  ·have hq0:q'=[]:=List.length_eq_zero_iff.1 (by omega)
   subst hq0
   simp only[List.length_nil,Nat.add_zero]at*
   refine run_to (A':=⟨x,T,(T:Int),8,false,false⟩) (cs':=cs.set (base+1) (T:Int)) (by
    unfold stepD
    simp only[Bool.false_eq_true,if_false,hv]
    rw[if_neg (by simp)]) (by decide) W3 H3 d1 d2 d3 (by simp) (fun _=>by show(0:Int)≤(T:Int);omega) (by simp) rfl fun h4 o4 f4 H4 W4 O4=> ?_
   refine run_to (A':=⟨x,T,(T:Int),9,false,true⟩) (cs':=(cs.set (base+1) (T:Int)).set base ((T+1:Nat):Int)) (by
    unfold stepD
    simp only[Bool.false_eq_true,if_false]
    rw[if_pos (by rw[top2,wrap_u64 (by omega) (by omega)]),wrap_i64 (by omega) (by omega),wrap_u64 (by omega) (by omega)]
    simp) (by decide) W4 H4 d1 d2 d3 (by simp) (by simp) (by simp) rfl fun h5 o5 f5 H5 W5 O5=> ?_
   refine run_end (A':=⟨x,T,(T:Int),9,true,true⟩) (cs':=((cs.set (base+1) (T:Int)).set base ((T+1:Nat):Int)).set (base+1) ((T+1:Nat):Int)) (by
    unfold stepD
    simp only[Bool.false_eq_true,if_false]
    rw[wrap_i64 (by omega) (by omega),wrap_u64 (by omega) (by omega)]
    simp) (by decide) W5 H5 d1 d2 d3 (by simp) (by simp) (by simp) rfl fun h6 o6 f6 W6 O6=> ?_
   have:=hK x [] (T+1) rfl (by simp) S h6 o6 f6 _ ⟨?_,?_,Nat.zero_le _,fun i hi=>by simp at hi⟩ ⟨by simp,fun y hy=> ?_⟩ W6 ((((P2.trans O3 fun b hb _=>hb).trans O4 fun b hb _=>hb).trans O5 fun b hb _=>hb).trans O6 fun b hb _=>hb)
   ·simpa[gotDV,gotDB]using this
   ·rw[getD_set' (by simp;omega),if_neg (by omega),getD_set' (by simp;omega),if_pos rfl]
   ·rw[getD_set' (by simp;omega),if_pos rfl]
    simp
   ·rw[getD_set' (by simp;omega),if_neg (by omega),getD_set' (by simp;omega),if_neg (by omega)]
    exact ap2.2 y hy
end
end
section
section
variable {h:Heap}{d m mc base n:Nat}{cs:List Int}{ops fails:Int}{Q:Value→Heap→Prop}{T:Nat}{q:List Int}
theorem poprun(W:DW h d m mc base n cs ops fails)(S:DS base n cs T q)(hT:T+q.length<1000000000)
  (hE:q=[]→ ∀h' ops' fails' cs',DS base n cs' T []→Apart base n cs cs'→DW h' d m mc base n cs' ops' fails'→Only [m,mc] h h'→Q (.tuple #[.int .u64 0,.bool false]) h')
  (hQ: ∀x q' T',q=q'++[x]→T'+q'.length≤T+q.length→ ∀h' ops' fails' cs',DS base n cs' T' q'→Apart base n cs cs'→DW h' d m mc base n cs' ops' fails'→Only [m,mc] h h'→Q (.tuple #[.int .u64 x,.bool true]) h'):
  Cl 177 [.pointer (some ⟨d,0,none⟩)] h (fun v1 h2=>ldP (some v1) (fun p3=>Cl 92 [.pointer p3] h2 Q)):=by
 have lt:=W.lt
 refine pop_dw fun f bx by_ h1 H1 O1 a b c a' b' c' n1 n2 n3=>ldP_of rfl ?_
 have hO: ∀h2,Only [f,m,mc] h1 h2→Only [m,mc] h h2:=fun h2 O2=>(O1.mono (T:=[m,mc]) (by simp)).trans O2 fun x hx hl=>by
  simp at hx ⊢
  omega
 exact runpop (W.only O1 (by simp) (by simp) (by simp)) S hT H1 (by omega) (by omega) (by omega) (fun e h2 o2 f2 cs2 r1 r2 W2 O2=>hE e h2 o2 f2 cs2 r1 r2 W2 (hO h2 O2)) fun x q' T' e le _ h2 o2 f2 cs2 r1 r2 W2 O2=>hQ x q' T' e le h2 o2 f2 cs2 r1 r2 W2 (hO h2 O2)
theorem stealrun(W:DW h d m mc base n cs ops fails)(S:DS base n cs T q)(hT:T+q.length<1000000000)
  (hE:q=[]→ ∀h' ops' fails',DW h' d m mc base n cs ops' fails'→Only [m,mc] h h'→Q (.tuple #[.int .u64 0,.bool false]) h')
  (hQ: ∀x q',q=x::q'→ ∀h' ops' fails' cs',DS base n cs' (T+1) q'→Apart base n cs cs'→DW h' d m mc base n cs' ops' fails'→Only [m,mc] h h'→Q (.tuple #[.int .u64 x,.bool true]) h'):
  Cl 178 [.pointer (some ⟨d,0,none⟩)] h (fun v1 h2=>ldP (some v1) (fun p3=>Cl 92 [.pointer p3] h2 Q)):=by
 have lt:=W.lt
 refine steal_dw fun f bx by_ h1 H1 O1 a b c a' b' c' n1 n2 n3=>ldP_of rfl ?_
 have hO: ∀h2,Only [f,m,mc] h1 h2→Only [m,mc] h h2:=fun h2 O2=>(O1.mono (T:=[m,mc]) (by simp)).trans O2 fun x hx hl=>by
  simp at hx ⊢
  omega
 exact runsteal (W.only O1 (by simp) (by simp) (by simp)) S hT H1 (by omega) (by omega) (by omega) (fun e h2 o2 f2 W2 O2=>hE e h2 o2 f2 W2 (hO h2 O2)) fun x q' e h2 o2 f2 cs2 r1 r2 W2 O2=>hQ x q' e h2 o2 f2 cs2 r1 r2 W2 (hO h2 O2)
end
end
section
def Rng(h:Heap)(r b:Nat)(k:IntKind)(m left:List (Int×Value)):Prop:=
 ∃es cl since seen last,mp h b=some (es,cl)∧es.toList.map (fun e=>(e.key,e.val))=m.map (fun p=>(Value.int k p.1,p.2))∧(es.toList.map (·.born)).Nodup∧h[r]? =some (.mapIter (some b) since seen last)∧
  (∀x∈es.toList,x.born<since)∧since≤last∧(leftOf es seen).toList.map (fun e=>(e.key,e.val))=left.map (fun p=>(Value.int k p.1,p.2))∧since≤cl
def RngAt(h:Heap)(r b:Nat)(k:IntKind)(x:Int)(v:Value):Prop:=
 ∃(es:Array MapEntry) (since:Nat) (seen:Array Nat) (cl:Nat) (e:MapEntry),h[r]? =some (.mapIter (some b) since (seen.push e.born) cl)∧mp h b=some (es,cl)∧e∈es.toList∧(es.toList.map (·.born)).Nodup∧e.key= .int k x∧e.val=v
theorem Rng.only{S:List Nat}{h h':Heap}{r b:Nat}{k:IntKind}{m left:List (Int×Value)}(H:Rng h r b k m left)(O:Only S h h')(hr:r∉S)(hb:b∉S):Rng h' r b k m left:=by
 obtain⟨es,cl,since,seen,last,h1,h2,h3,h4,h5⟩:=H
 refine⟨es,cl,since,seen,last,?_,h2,h3,?_,h5⟩
 ·have:=mp_obj h1
  unfold mp
  rw[O.same b (Array.getElem?_eq_some_iff.1 this).1 hb,this]
 ·rw[O.same r (Array.getElem?_eq_some_iff.1 h4).1 hr]
  exact h4
theorem Only.push_obj(h:Heap)(o:Obj)(ho: ∀c e f,o≠ .cells c e f):Only [] h (h.push o):=by
 refine⟨by simp,fun b hb _=>by simp[Array.getElem?_push,Nat.ne_of_lt hb],fun a=> ?_⟩
 unfold fz
 rw[Array.getElem?_push]
 by_cases ha:a.block=h.size
 ·rw[if_pos ha,ha]
  cases o<;>simp_all
 ·rw[if_neg ha]
theorem Only.set_iter{h:Heap}{r:Nat}{m:Option Nat}{s:Nat}{seen:Array Nat}{l:Nat}(hr:h[r]? =some (.mapIter m s seen l))(m':Option Nat)(s':Nat)(seen':Array Nat)(l':Nat):Only [r] h (h.setIfInBounds r (.mapIter m' s' seen' l')):=by
 have hlt:=(Array.getElem?_eq_some_iff.1 hr).1
 refine⟨by simp,fun b hb hS=> ?_,fun a=> ?_⟩
 ·have:r≠b:=fun e=>hS (by simp[e])
  rw[Array.getElem?_setIfInBounds,if_neg this]
 ·unfold fz
  rw[Array.getElem?_setIfInBounds]
  by_cases ha:r=a.block
  ·rw[if_pos ha,if_pos hlt,←ha,hr]
  ·rw[if_neg ha]
theorem rng_start{h:Heap}{b:Nat}{k:IntKind}{m:List (Int×Value)}{K:Option Addr→Heap→Prop}(H:MapM h b k m)
  (hK: ∀h',Rng h' h.size b k m m→Only [] h h'→h'.size=h.size+1→K (some ⟨h.size,0,none⟩) h'):rngK h (some b) K:=by
 obtain⟨es,cl,h1,h2,h3,h4,h5⟩:=H
 have hb:=mp_obj h1
 have hlt:=(Array.getElem?_eq_some_iff.1 hb).1
 refine⟨es,cl,h1,hK _ ⟨es,cl,cl,#[],cl,?_,h2,h4,by simp,h5,Nat.le_refl _,?_,Nat.le_refl _⟩ (Only.push_obj _ _ (by simp)) (by simp)⟩
 ·unfold mp
  rw[Array.getElem?_push,if_neg (Nat.ne_of_lt hlt),hb]
 ·rw[←h2]
  unfold leftOf
  rw[Array.toList_filter,List.filter_eq_self.2 (by simp)]
theorem rng_next{h:Heap}{r b:Nat}{k:IntKind}{m left:List (Int×Value)}{K0:Prop}{K1:Value→Value→Heap→Prop}(H:Rng h r b k m left)(hrb:r≠b)(h0:left=[]→K0)
  (h1: ∀A x v B h',left=A++(x,v)::B→Rng h' r b k m (A++B)→RngAt h' r b k x v→Only [r] h h'→h'.size=h.size→K1 (.int k x) v h'):nxtK h (some ⟨r,0,none⟩) K0 K1:=by
 obtain⟨es,cl,since,seen,last,g1,g2,g3,g4,g5,g6,g7,g8⟩:=H
 refine⟨rfl,some b,since,seen,last,g4,es,cl,g1,g5,g6,fun hz=>h0 ?_,fun e he=> ?_⟩
 ·have hl:(leftOf es seen).toList=[]:=by
   apply List.eq_nil_of_length_eq_zero
   simpa using hz
  rw[hl]at g7
  cases left with
  |nil=>rfl
  |cons a l=>simp at g7
 ·obtain⟨A',B',eL⟩:=List.append_of_mem he
  rw[eL,List.map_append,List.map_cons]at g7
  obtain⟨A,C,e1,e2,e3⟩:=List.map_eq_append_iff.1 g7.symm
  obtain⟨⟨x,v⟩,B,e4,e5,e6⟩:=List.map_eq_cons_iff.1 e3
  subst e4 e1
  simp only[Prod.mk.injEq]at e5
  have hsub:(leftOf es seen).toList.Sublist es.toList:=by unfold leftOf;rw[Array.toList_filter];exact List.filter_sublist
  have hnd:((A'++e::B').map (·.born)).Nodup:=by rw[←eL];exact g3.sublist (hsub.map _)
  have hlt:=(Array.getElem?_eq_some_iff.1 g4).1
  have hit:(h.setIfInBounds r (.mapIter (some b) since (seen.push e.born) cl))[r]? =some (.mapIter (some b) since (seen.push e.born) cl):=by
   rw[Array.getElem?_setIfInBounds,if_pos rfl,if_pos hlt]
  have hmp:mp (h.setIfInBounds r (.mapIter (some b) since (seen.push e.born) cl)) b=some (es,cl):=by
   unfold mp
   rw[Array.getElem?_setIfInBounds,if_neg hrb,mp_obj g1]
  have hK:=h1 A x v B (h.setIfInBounds r (.mapIter (some b) since (seen.push e.born) cl)) rfl ⟨es,cl,since,seen.push e.born,cl,hmp,g2,g3,hit,g5,g8,?_,g8⟩
   ⟨es,since,seen,cl,e,hit,hmp,hsub.subset he,g3,e5.1.symm,e5.2.symm⟩ (Only.set_iter g4 _ _ _ _) (by simp)
  ·rw[←e5.1,←e5.2]
   exact hK
  ·have hf:(leftOf es (seen.push e.born)).toList=A'++B':=by
    have h2:(leftOf es (seen.push e.born)).toList=(leftOf es seen).toList.filter fun y=> !(y.born==e.born):=by
     unfold leftOf
     rw[Array.toList_filter,Array.toList_filter,List.filter_filter]
     apply List.filter_congr
     intro y _
     simp only[Array.contains_push]
     cases h:seen.contains y.born<;>cases h':(y.born==e.born)<;>simp_all
    rw[h2,eL]
    rw[List.map_append,List.map_cons,List.nodup_append]at hnd
    obtain⟨n1,n2,n3⟩:=hnd
    rw[List.nodup_cons]at n2
    rw[List.filter_append,List.filter_cons]
    simp only[beq_self_eq_true,Bool.not_true,Bool.false_eq_true,if_false]
    rw[List.filter_eq_self.2 fun y hy=> ?_,List.filter_eq_self.2 fun y hy=> ?_]
    ·have:y.born≠e.born:=fun e'=>n2.1 (e'▸List.mem_map.2 ⟨y,hy,rfl⟩)
     simpa using this
    ·have:y.born≠e.born:=fun e'=>n3 y.born (List.mem_map.2 ⟨y,hy,rfl⟩) e.born (by simp) e'
     simpa using this
   rw[hf,List.map_append,List.map_append,e2,e6]
theorem rng_entry{h:Heap}{r b:Nat}{k:IntKind}{x:Int}{v:Value}{K:Value→Value→Prop}(H:RngAt h r b k x v)(hK:K (.int k x) v):entrK h (some ⟨r,0,none⟩) K:=by
 obtain⟨es,since,seen,cl,e,h1,h2,h3,h4,h5,h6⟩:=H
 refine⟨rfl,b,since,seen.push e.born,cl,es,e.born,e,h1,by simp,h2,?_,by rw[h5,h6];exact hK⟩
 rw[←Array.find?_toList]
 exact find_born e es.toList h4 h3
end
section
structure Wk where
 w:Nat
 d:Nat
 m:Nat
 mc:Nat
 cs:List Int
 ops:Int
 fails:Int
 T:Nat
 q:List Int
 job:Int
def Wk.bl(k:Wk):List Nat:=[k.w,k.d,k.m,k.mc]
structure WkIs(h:Heap)(k:Wk):Prop where
 own:At h k.w [ptrV k.d,.int .i64 k.job]
 dw:DW h k.d k.m k.mc 0 64 k.cs k.ops k.fails
 ds:DS 0 64 k.cs k.T k.q
 ne:k.w≠k.d∧k.w≠k.m∧k.w≠k.mc
theorem WkIs.only{h h':Heap}{k:Wk}{S:List Nat}(H:WkIs h k)(O:Only S h h')(hS: ∀b∈S,b∉k.bl):WkIs h' k:=
 ⟨H.own.only O fun hm=>hS _ hm (by simp[Wk.bl]),H.dw.only O (fun hm=>hS _ hm (by simp[Wk.bl])) (fun hm=>hS _ hm (by simp[Wk.bl])) fun hm=>hS _ hm (by simp[Wk.bl]),H.ds,H.ne⟩
theorem WkIs.lt{h:Heap}{k:Wk}(H:WkIs h k): ∀b∈k.bl,b<h.size:=fun b hb=>by
 have h1:=H.own.lt
 obtain⟨h2,h3,h4⟩:=H.dw.lt
 simp only[Wk.bl,List.mem_cons,List.not_mem_nil,or_false]at hb
 rcases hb with e|e|e|e<;>subst e<;>assumption
structure Jb where
 id:Nat
 A:MA
 G:Goal
structure PS where
 wp:Option Addr
 wc:Nat
 jb:Nat
 ws:List Wk
 jobs:List Jb
 last:Nat
 steals:Int
def cellP(s:Nat)(P:PS):List Value:=[ptrV s,.slice P.wp P.ws.length P.wc,.map (some P.jb),.int .i64 (P.last:Int),.int .i64 P.steals]
def PBl(p:Nat)(P:PS)(b:Nat):Prop:=b=p∨b=P.jb∨b∈OwnB P.wp∨(∃k∈P.ws,b∈k.bl)∨ ∃j∈P.jobs,b∈j.A.bl
structure Tags(τ:Nat→Nat)(p:Nat)(P:PS):Prop where
 p:τ p=0
 jb:τ P.jb=0
 wp: ∀b∈OwnB P.wp,τ b=0
 ws: ∀i k,P.ws[i]? =some k→ ∀b∈k.bl,τ b=2*i+1
 jobs: ∀j∈P.jobs,∀b∈j.A.bl,τ b=2*j.id+2
structure PoolIs(h:Heap)(p s:Nat)(P:PS):Prop where
 own:At h p (cellP s P)
 wks:Own h 0 1 P.wp P.ws.length P.wc (P.ws.map fun k=>ptrV k.w)
 wk: ∀k∈P.ws,WkIs h k
 jbm:MapM h P.jb .i64 (P.jobs.map fun j=>((j.id:Int),ptrV j.A.m))
 ma: ∀j∈P.jobs,MaIs h s j.A
 sep: ∃τ,Tags τ p P
 ne:p≠P.jb∧p∉OwnB P.wp∧P.jb∉OwnB P.wp
 ids:(P.jobs.map (·.id)).Nodup∧ ∀j∈P.jobs,1≤j.id∧j.id≤P.last
section
variable {h h':Heap}{p s:Nat}{P:PS}{S:List Nat}
theorem PoolIs.only(H:PoolIs h p s P)(O:Only S h h')(hS: ∀b∈S,¬PBl p P b):PoolIs h' p s P:=by
 refine⟨H.own.only O fun hm=>hS _ hm (.inl rfl),H.wks.only O fun b e hm=>hS b hm (.inr (.inr (.inl (by rw[e];simp[OwnB])))),fun k hk=>(H.wk k hk).only O fun b hb hm=>hS b hb (.inr (.inr (.inr (.inl ⟨k,hk,hm⟩)))),H.jbm.only O fun hm=>hS _ hm (.inr (.inl rfl)),fun j hj=>(H.ma j hj).only O fun b hb hm=>hS b hb (.inr (.inr (.inr (.inr ⟨j,hj,hm⟩)))),H.sep,H.ne,H.ids⟩
theorem PoolIs.only0(H:PoolIs h p s P)(O:Only [] h h'):PoolIs h' p s P:=H.only O (by simp)
theorem PoolIs.lt(H:PoolIs h p s P): ∀b,PBl p P b→b<h.size:=fun b hb=>by
 rcases hb with e|e|hb|⟨k,hk,hb⟩|⟨j,hj,hb⟩
 ·subst e;exact H.own.lt
 ·subst e;exact H.jbm.lt
 ·exact(H.wks.lt b hb).2
 ·exact(H.wk k hk).lt b hb
 ·exact(H.ma j hj).lt b hb
theorem PoolIs.set_wk(H:PoolIs h p s P){i:Nat}{k k':Wk}(hi:P.ws[i]? =some k)(O:Only S h h')(hS: ∀b∈S,b∈k.bl)(W:WkIs h' k')(hb:k'.bl=k.bl):PoolIs h' p s {P with ws:=P.ws.set i k'}:=by
 obtain⟨τ,t⟩:=H.sep
 have hil:i<P.ws.length:=(List.getElem?_eq_some_iff.1 hi).1
 have tS: ∀b∈S,τ b=2*i+1:=fun b hb=>t.ws i k hi b (hS b hb)
 have ew:k'.w=k.w:=by simp only[Wk.bl,List.cons.injEq]at hb;exact hb.1
 have em:(P.ws.set i k').map (fun k=>ptrV k.w)=P.ws.map fun k=>ptrV k.w:=by
  rw[List.map_set]
  apply List.ext_getElem?
  intro j
  rw[List.getElem?_set]
  by_cases hij:i=j
  ·subst hij
   rw[if_pos rfl,if_pos (by simpa using hil),List.getElem?_map,hi]
   simp[ew]
  ·rw[if_neg hij]
 refine⟨?_,?_,fun x hx=> ?_,H.jbm.only O fun hm=>by have:=tS _ hm;have:=t.jb;omega,fun j hj=>(H.ma j hj).only O fun b hb hm=>by have:=tS b hb;have:=t.jobs j hj b hm;omega,⟨τ,t.p,t.jb,t.wp,fun j x hx b hb'=> ?_,t.jobs⟩,H.ne,H.ids⟩
 ·have:=H.own.only O (fun hm=>by have:=tS _ hm;have:=t.p;omega)
  simpa[cellP]using this
 ·show Own h' 0 1 P.wp (P.ws.set i k').length P.wc ((P.ws.set i k').map fun k=>ptrV k.w)
  rw[em,List.length_set]
  exact H.wks.only O fun b e hm=>by have:=tS b hm;have:=t.wp b (by rw[e];simp[OwnB]);omega
 ·obtain⟨j,hj⟩:=List.mem_iff_getElem?.1 hx
  have hj:(P.ws.set i k')[j]? =some x:=hj
  rw[List.getElem?_set]at hj
  by_cases hij:i=j
  ·rw[if_pos hij,if_pos (by omega)]at hj
   injection hj with hj
   subst hj
   exact W
  ·rw[if_neg hij]at hj
   refine(H.wk x (List.mem_of_getElem? hj)).only O fun b hb hm=> ?_
   have:=tS b hb
   have:=t.ws j x hj b hm
   omega
 ·have hx:(P.ws.set i k')[j]? =some x:=hx
  rw[List.getElem?_set]at hx
  by_cases hij:i=j
  ·subst hij
   rw[if_pos rfl,if_pos hil]at hx
   injection hx with hx
   subst hx
   rw[hb]at hb'
   exact t.ws i k hi b hb'
  ·rw[if_neg hij]at hx
   exact t.ws j x hx b hb'
theorem pbl_set_wk{i b:Nat}{k k':Wk}(hi:P.ws[i]? =some k)(hb:k'.bl=k.bl)(h:PBl p {P with ws:=P.ws.set i k'} b):PBl p P b:=by
 have hil:i<P.ws.length:=(List.getElem?_eq_some_iff.1 hi).1
 rcases h with e|e|h|⟨x,hx,h⟩|h
 ·exact .inl e
 ·exact .inr (.inl e)
 ·exact .inr (.inr (.inl h))
 ·obtain⟨j,hj⟩:=List.mem_iff_getElem?.1 hx
  have hj:(P.ws.set i k')[j]? =some x:=hj
  rw[List.getElem?_set]at hj
  by_cases hij:i=j
  ·rw[if_pos hij,if_pos (by omega)]at hj
   injection hj with hj
   subst hj
   rw[hb]at h
   exact .inr (.inr (.inr (.inl ⟨k,List.mem_of_getElem? hi,h⟩)))
  ·rw[if_neg hij]at hj
   exact .inr (.inr (.inr (.inl ⟨x,List.mem_of_getElem? hj,h⟩)))
 ·exact .inr (.inr (.inr (.inr h)))
theorem PoolIs.set_ma(H:PoolIs h p s P){i:Nat}{j:Jb}{A':MA}(hi:P.jobs[i]? =some j)(O:Only S h h')(hS: ∀b∈S,PBl p P b→b∈j.A.bl)(M:MaIs h' s A')(em:A'.m=j.A.m)(hb: ∀b∈A'.bl,b∈j.A.bl∨h.size≤b):
  PoolIs h' p s {P with jobs:=P.jobs.set i {j with A:=A'}}:=by
 obtain⟨τ,t⟩:=H.sep
 have hil:i<P.jobs.length:=(List.getElem?_eq_some_iff.1 hi).1
 have hj:=List.mem_of_getElem? hi
 have tS: ∀b∈S,PBl p P b→τ b=2*j.id+2:=fun b hb h=>t.jobs j hj b (hS b hb h)
 have map_set: ∀{β:Type} (f:Jb→β),f {j with A:=A'}=f j→(P.jobs.set i {j with A:=A'}).map f=P.jobs.map f:=fun f e=>by
  rw[List.map_set,e]
  apply List.ext_getElem?
  intro x
  rw[List.getElem?_set]
  by_cases hix:i=x
  ·subst hix
   rw[if_pos rfl,if_pos (by simpa using hil),List.getElem?_map,hi]
   rfl
  ·rw[if_neg hix]
 have uniq: ∀x y,P.jobs[x]? =some y→y.id=j.id→x=i:=fun x y hy e=>by
  have nd:=H.ids.1
  have h1:(P.jobs.map (·.id))[x]? =some j.id:=by rw[List.getElem?_map,hy];simp[e]
  have h2:(P.jobs.map (·.id))[i]? =some j.id:=by rw[List.getElem?_map,hi];rfl
  have l1:x<(P.jobs.map (·.id)).length:=(List.getElem?_eq_some_iff.1 h1).1
  have l2:i<(P.jobs.map (·.id)).length:=(List.getElem?_eq_some_iff.1 h2).1
  apply Classical.byContradiction
  intro hne
  rcases Nat.lt_or_ge x i with h|h
  ·have:=(List.pairwise_iff_getElem.1 nd) x i l1 l2 h
   rw[List.getElem?_eq_getElem l1]at h1
   rw[List.getElem?_eq_getElem l2]at h2
   injection h1 with h1
   injection h2 with h2
   exact this (h1.trans h2.symm)
  ·have:=(List.pairwise_iff_getElem.1 nd) i x l2 l1 (by omega)
   rw[List.getElem?_eq_getElem l1]at h1
   rw[List.getElem?_eq_getElem l2]at h2
   injection h1 with h1
   injection h2 with h2
   exact this (h2.trans h1.symm)
 have tp: ∀b∈S,b≠p:=fun b hb e=>by subst e;have:=tS b hb (.inl rfl);have:=t.p;omega
 refine⟨?_,H.wks.only O fun b e hm=> ?_,fun k hk=>(H.wk k hk).only O fun b hb hm=> ?_,?_,fun y hy=> ?_,⟨fun b=>if b<h.size then τ b else 2*j.id+2,?_,?_,fun b hb=> ?_,fun x k hk b hb=> ?_,fun y hy b hb'=> ?_⟩,H.ne,?_⟩
 ·have:=H.own.only O (fun hm=>tp _ hm rfl)
  exact this
 ·have hb:b∈OwnB P.wp:=by rw[e];simp[OwnB]
  have:=tS b hm (.inr (.inr (.inl hb)))
  have:=t.wp b hb
  omega
 ·have h1:=tS b hb (.inr (.inr (.inr (.inl ⟨k,hk,hm⟩))))
  obtain⟨x,hx⟩:=List.mem_iff_getElem?.1 hk
  have:=t.ws x k hx b hm
  omega
 ·show MapM h' P.jb .i64 ((P.jobs.set i {j with A:=A'}).map fun j=>((j.id:Int),ptrV j.A.m))
  rw[map_set (fun j=>((j.id:Int),ptrV j.A.m)) (by simp[em])]
  exact H.jbm.only O fun hm=>by have:=tS _ hm (.inr (.inl rfl));have:=t.jb;omega
 ·obtain⟨x,hx⟩:=List.mem_iff_getElem?.1 hy
  have hx:(P.jobs.set i {j with A:=A'})[x]? =some y:=hx
  rw[List.getElem?_set]at hx
  by_cases hix:i=x
  ·rw[if_pos hix,if_pos (by omega)]at hx
   injection hx with hx
   subst hx
   exact M
  ·rw[if_neg hix]at hx
   refine(H.ma y (List.mem_of_getElem? hx)).only O fun b hb hm=> ?_
   have h1:=tS b hb (.inr (.inr (.inr (.inr ⟨y,List.mem_of_getElem? hx,hm⟩))))
   have h2:=t.jobs y (List.mem_of_getElem? hx) b hm
   exact hix (uniq x y hx (by omega)).symm
 ·show(if p<h.size then τ p else _)=0
  rw[if_pos H.own.lt]
  exact t.p
 ·show(if P.jb<h.size then τ P.jb else _)=0
  rw[if_pos H.jbm.lt]
  exact t.jb
 ·show(if b<h.size then τ b else _)=0
  rw[if_pos (H.wks.lt b hb).2]
  exact t.wp b hb
 ·show(if b<h.size then τ b else _)=_
  rw[if_pos ((H.wk k (List.mem_of_getElem? hk)).lt b hb)]
  exact t.ws x k hk b hb
 ·show(if b<h.size then τ b else _)=_
  obtain⟨x,hx⟩:=List.mem_iff_getElem?.1 hy
  have hx:(P.jobs.set i {j with A:=A'})[x]? =some y:=hx
  rw[List.getElem?_set]at hx
  by_cases hix:i=x
  ·rw[if_pos hix,if_pos (by omega)]at hx
   injection hx with hx
   subst hx
   rcases hb b hb' with h1|h1
   ·rw[if_pos ((H.ma j hj).lt b h1)]
    exact t.jobs j hj b h1
   ·rw[if_neg (by omega)]
  ·rw[if_neg hix]at hx
   rw[if_pos ((H.ma y (List.mem_of_getElem? hx)).lt b hb')]
   exact t.jobs y (List.mem_of_getElem? hx) b hb'
 ·refine⟨?_,fun y hy=> ?_⟩
  ·show((P.jobs.set i {j with A:=A'}).map (·.id)).Nodup
   rw[map_set (·.id) rfl]
   exact H.ids.1
  ·obtain⟨x,hx⟩:=List.mem_iff_getElem?.1 hy
   have hx:(P.jobs.set i {j with A:=A'})[x]? =some y:=hx
   rw[List.getElem?_set]at hx
   by_cases hix:i=x
   ·rw[if_pos hix,if_pos (by omega)]at hx
    injection hx with hx
    subst hx
    exact H.ids.2 j hj
   ·rw[if_neg hix]at hx
    exact H.ids.2 y (List.mem_of_getElem? hx)
end
end
section
theorem eqE_ptr{P:Program}{h:Heap}{t e:TypeId}{j:TypeInfo}{a b:Addr}{K:Bool→Prop}(ht:P.underlying t=some (.pointer e))(hi:P.info? e=some j)(hz:Nat.beq j.size 0=false)
  (h1:a=b→K true) (h2:a≠b→(∃c u,h[a.block]? =some (.cells c u))∧(∃c u,h[b.block]? =some (.cells c u))∧K false):eqE P h t (.pointer (some a)) (.pointer (some b)) K:=by
 unfold eqE
 rw[ht]
 dsimp only
 rw[hi]
 dsimp only
 rw[hz]
 exact⟨h1,h2⟩
theorem u164:Tryz.prog.underlying 164=some (.pointer 166):=by kernel_rfl
theorem i166:(Tryz.prog.info? 166).map (fun i=>Nat.beq i.size 0)=some false:=by kernel_rfl
theorem At.cells{h:Heap}{b:Nat}{c:List Value}(A:At h b c): ∃c u,h[b]? =some (.cells c u):=by
 obtain⟨e,he⟩:=A
 exact⟨_,_,he⟩
section
variable {h:Heap}{p s:Nat}{P:PS}{k:Wk}{K:Value→Heap→Prop}
theorem takes129(W:WkIs h k)(hT:k.T+k.q.length<1000000000)(hx: ∀x∈k.q,0≤x∧x<1000000000)
  (hE:k.q=[]→ ∀h' k',WkIs h' k'→k'.bl=k.bl→k'.q=[]→k'.job=k.job→k'.T=k.T→Only k.bl h h'→K (.bool false) h')
  (hQ: ∀x q',k.q=q'++[x]→ ∀h' k',WkIs h' k'→k'.bl=k.bl→k'.q=q'→k'.job=x→k'.T+k'.q.length≤k.T+k.q.length→Only k.bl h h'→K (.bool true) h'):
  Cl 129 [ptrV k.w] h K:=by
 refine F129.spec _ h K ?_
 simp only[add_mk,Nat.zero_add,Nat.add_zero]
 refine ldP_of (n:=some ⟨k.d,0,none⟩) (by rw[At.rd W.own];rfl) ?_
 obtain⟨n1,n2,n3⟩:=W.ne
 refine poprun W.dw W.ds hT (fun e h1 o f cs D1 _ W1 O1=>⟨_,_,rfl,?_⟩) fun x q' T' e le h1 o f cs D1 _ W1 O1=>⟨_,_,rfl,?_⟩
 ·rw[bcase_false]
  exact hE e h1 ⟨k.w,k.d,k.m,k.mc,cs,o,f,k.T,[],k.job⟩ ⟨W.own.only O1 (by simp;omega),W1,D1,W.ne⟩ rfl rfl rfl rfl (O1.mono fun b hb _=>by simp[Wk.bl]at hb ⊢;omega)
 ·rw[bcase_true]
  have hx1:=hx x (by rw[e];simp)
  refine stK_at (W.own.only O1 (by simp;omega)) (by simp) rfl fun h2 A2 O2 z2=> ?_
  have lt:=W1.lt
  rw[wrap_i64 (n:=x) (by omega) (by omega)]at A2
  exact hQ x q' e h2 ⟨k.w,k.d,k.m,k.mc,cs,o,f,T',q',x⟩ ⟨A2,W1.only O2 (by simp;omega) (by simp;omega) (by simp;omega),D1,W.ne⟩ rfl rfl rfl le ((O1.mono fun b hb _=>by simp[Wk.bl]at hb ⊢;omega).trans O2 fun b hb _=>by simp[Wk.bl]at hb ⊢;omega)
end
def WkEq(k k':Wk):Prop:=k'.bl=k.bl∧k'.q=k.q∧k'.job=k.job∧k'.T=k.T
def WsEq(a b:List Wk):Prop:=b.length=a.length∧ ∀(i:Nat) (k:Wk),a[i]? =some k→ ∃k':Wk,b[i]? =some k'∧WkEq k k'
theorem WsEq.refl(a:List Wk):WsEq a a:=⟨rfl,fun i k h=>⟨k,h,rfl,rfl,rfl,rfl⟩⟩
theorem WsEq.set{a b:List Wk}(H:WsEq a b){i:Nat}{k k':Wk}(hi:b[i]? =some k)(e:WkEq k k'):WsEq a (b.set i k'):=by
 refine⟨by rw[List.length_set];exact H.1,fun j x hx=> ?_⟩
 obtain⟨y,hy,e1,e2,e3,e4⟩:=H.2 j x hx
 rw[List.getElem?_set]
 by_cases hij:i=j
 ·subst hij
  rw[hi]at hy
  injection hy with hy
  subst hy
  rw[if_pos rfl,if_pos (List.getElem?_eq_some_iff.1 hi).1]
  exact⟨k',rfl,e.1.trans e1,e.2.1.trans e2,e.2.2.1.trans e3,e.2.2.2.trans e4⟩
 ·rw[if_neg hij]
  exact⟨y,hy,e1,e2,e3,e4⟩
section
variable {h:Heap}{p s:Nat}{P:PS}{K:Value→Heap→Prop}
theorem WkEq.w{k k':Wk}(e:WkEq k k'):k'.w=k.w:=by
 have:=e.1
 simp only[Wk.bl,List.cons.injEq]at this
 exact this.1
theorem pool_rd(H:PoolIs h p s P):rd h ⟨p,0,none⟩=some (ptrV s)∧rd h ⟨p,1,none⟩=some (.slice P.wp P.ws.length P.wc)∧rd h ⟨p,2,none⟩=some (.map (some P.jb))∧rd h ⟨p,3,none⟩=some (.int .i64 (P.last:Int))∧rd h ⟨p,4,none⟩=some (.int .i64 P.steals):=
 ⟨by rw[At.rd H.own];rfl,by rw[At.rd H.own];rfl,by rw[At.rd H.own];rfl,by rw[At.rd H.own];rfl,by rw[At.rd H.own];rfl⟩
theorem ws_rd(H:PoolIs h p s P){i:Nat}{k:Wk}(hi:P.ws[i]? =some k): ∃b,P.wp=some ⟨b,0,none⟩∧rd h ⟨b,i,none⟩=some (ptrV k.w):=by
 have hil:=(List.getElem?_eq_some_iff.1 hi).1
 obtain⟨b,e,r⟩:=H.wks.rd (j:=i) (by simpa using hil)
 refine⟨b,e,?_⟩
 rw[r,List.getElem?_map,hi]
 rfl
theorem PoolIs.set_cell{h':Heap}{l:Nat}{st:Int}(H:PoolIs h p s P)(O:Only [p] h h')(A:At h' p (cellP s {P with last:=l,steals:=st}))(hl:P.last≤l):PoolIs h' p s {P with last:=l,steals:=st}:=by
 obtain⟨τ,t⟩:=H.sep
 have np: ∀b,b∈[p]→τ b=0:=fun b hb=>by simp only[List.mem_singleton]at hb;subst hb;exact t.p
 refine⟨A,H.wks.only O fun b e hm=> ?_,fun k hk=>(H.wk k hk).only O fun b hb hm=> ?_,H.jbm.only O fun hm=> ?_,fun j hj=>(H.ma j hj).only O fun b hb hm=> ?_,⟨τ,t.p,t.jb,t.wp,t.ws,t.jobs⟩,H.ne,H.ids.1,fun j hj=> ?_⟩
 ·simp only[List.mem_singleton]at hm
  subst hm
  exact H.ne.2.1 (by rw[e];simp[OwnB])
 ·obtain⟨x,hx⟩:=List.mem_iff_getElem?.1 hk
  have:=t.ws x k hx b hm
  have:=np b hb
  omega
 ·simp only[List.mem_singleton]at hm
  exact H.ne.1 hm.symm
 ·have:=t.jobs j hj b hm
  have:=np b hb
  omega
 ·have:=H.ids.2 j hj
  show 1≤j.id∧j.id≤l
  omega
set_option maxRecDepth 100000 in
theorem steals130(H:PoolIs h p s P){i0:Nat}{kw:Wk}(h0:P.ws[i0]? =some kw){draw:Int}(hn:P.ws.length≤1000)(hT: ∀k∈P.ws,k.T+k.q.length<1000000000)(hx: ∀k∈P.ws,∀x∈k.q,0≤x∧x<1000000000)(hst:0≤P.steals∧P.steals<1000000000)
  (hN: ∀h' ws,PoolIs h' p s {P with ws:=ws}→WsEq P.ws ws→(∀b,PBl p {P with ws:=ws} b→PBl p P b)→(∀S,(∀b,PBl p P b→b∈S)→Only S h h')→K (.bool false) h')
  (hS: ∀h' ws i1 k1 x q1 kw' k1' ws',WsEq P.ws ws→i1≠i0→ws[i1]? =some k1→k1.q=x::q1→ws[i0]? =some kw'→k1'.bl=k1.bl→k1'.q=q1→k1'.job=k1.job→k1'.T=k1.T+1→ws'=(ws.set i1 k1').set i0 {kw' with job:=x}→PoolIs h' p s {P with ws:=ws',steals:=P.steals+1}→(∀b,PBl p {P with ws:=ws',steals:=P.steals+1} b→PBl p P b)→(∀S,(∀b,PBl p P b→b∈S)→Only S h h')→K (.bool true) h'):
  Cl 130 [ptrV p,ptrV kw.w,.int .i64 draw] h K:=by
 refine F130.spec _ _ _ h K ?_
 simp only[add_mk,Nat.zero_add,Nat.add_zero]
 refine ldS_of (pool_rd H).2.1 ?_
 unfold F130.wk3
 have hlen:i0<P.ws.length:=(List.getElem?_eq_some_iff.1 h0).1
 have main: ∀(d i:Nat) (h1:Heap) (ws:List Wk),i+d=P.ws.length→PoolIs h1 p s {P with ws:=ws}→WsEq P.ws ws→(∀b,PBl p {P with ws:=ws} b→PBl p P b)→(∀S,(∀b,PBl p P b→b∈S)→Only S h h1)→
   F130.wL3 (d+1) ⟨p,0,none⟩ ⟨kw.w,0,none⟩ draw (P.ws.length:Int) (P.ws.length:Int) (i:Int) h1 K:=by
  intro d
  induction d with
  |zero=>
   intro i h1 ws hi H1 E1 B1 O1
   rw[F130.sL3]
   rw[decide_eq_false (by omega),bcase_false]
   exact hN h1 ws H1 E1 B1 O1
  |succ d ih=>
   intro i h1 ws hi H1 E1 B1 O1
   have el:ws.length=P.ws.length:=E1.1
   have ew:IntKind.wrap .i64 ((i:Int)+1)=((i+1:Nat):Int):=by rw[wrap_i64 (by omega) (by omega)];omega
   rw[F130.sL3]
   rw[decide_eq_true (by omega),bcase_true,ew]
   simp only[add_mk,Nat.zero_add,Nat.add_zero]
   obtain⟨x,hxl,ex⟩: ∃x:Nat,x<P.ws.length∧(Int.tmod (IntKind.wrap .i64 ((Int.tmod (IntKind.wrap .i64 ((Int.tmod draw (P.ws.length:Int))+(i:Int))) (P.ws.length:Int))+(P.ws.length:Int))) (P.ws.length:Int))=(x:Int):=by
    obtain⟨n,hnn⟩: ∃n:Int,n=(P.ws.length:Int):=⟨_,rfl⟩
    rw[←hnn]
    have npos:0<n:=by omega
    have b1:=Int.tmod_lt_of_pos draw npos
    have b2: -n<draw.tmod n:=by have:=Int.lt_tmod_of_pos draw npos;omega
    rw[wrap_i64 (n:=draw.tmod n+(i:Int)) (by omega) (by omega)]
    have c1:=Int.tmod_lt_of_pos (draw.tmod n+(i:Int)) npos
    have c2: -n<(draw.tmod n+(i:Int)).tmod n:=by have:=Int.lt_tmod_of_pos (draw.tmod n+(i:Int)) npos;omega
    rw[wrap_i64 (n:=(draw.tmod n+(i:Int)).tmod n+n) (by omega) (by omega)]
    have d1:=Int.tmod_lt_of_pos ((draw.tmod n+(i:Int)).tmod n+n) npos
    have d2:=Int.tmod_nonneg n (a:=(draw.tmod n+(i:Int)).tmod n+n) (by omega)
    exact⟨(((draw.tmod n+(i:Int)).tmod n+n).tmod n).toNat,by omega,by omega⟩
   obtain⟨k1,hk1⟩: ∃k1,ws[x]? =some k1:=⟨_,List.getElem?_eq_getElem (by omega)⟩
   obtain⟨b,eb,rb⟩:=ws_rd H1 hk1
   rw[ex]
   refine ldS_of (pool_rd H1).2.1 ⟨by omega,by omega,by omega,?_⟩
   dsimp only at eb ⊢
   rw[eb,ptrK_some,el]
   refine⟨by omega,by omega,?_⟩
   simp only[add_mk,Nat.zero_add,Nat.add_zero,Int.toNat_natCast,Nat.mul_one]
   refine ldP_of rb ?_
   obtain⟨kw',hkw,e0⟩:=E1.2 i0 kw h0
   have ekw:=e0.w
   obtain⟨j,hj⟩: ∃j,Tryz.prog.info? 166=some j:=by
    cases hh:Tryz.prog.info? 166 with
    |none=>have:=i166;rw[hh]at this;cases this
    |some j=>exact⟨j,rfl⟩
   have hjz:Nat.beq j.size 0=false:=by have:=i166;rw[hj]at this;simpa using this
   have W1:=H1.wk k1 (List.mem_of_getElem? hk1)
   have Ww:=H1.wk kw' (List.mem_of_getElem? hkw)
   refine eqE_ptr u164 hj hjz (fun e=> ?_) fun e=>⟨W1.own.cells,by rw[←ekw];exact Ww.own.cells,?_⟩
   ·rw[bcase_true]
    exact ih (i+1) h1 ws (by omega) H1 E1 B1 O1
   ·rw[bcase_false]
    have hne:x≠i0:=fun e'=>by
     subst e'
     rw[hk1]at hkw
     injection hkw with hkw
     subst hkw
     exact e (by rw[ekw])
    rw[ptrK_some]
    simp only[add_mk,Nat.zero_add,Nat.add_zero]
    refine ldP_of (n:=some ⟨k1.d,0,none⟩) (by rw[At.rd W1.own];rfl) ?_
    obtain⟨k0,hk0⟩: ∃k0,P.ws[x]? =some k0:=⟨_,List.getElem?_eq_getElem (by omega)⟩
    obtain⟨k1a,hk1a,q1,q2,q3,q4⟩:=E1.2 x k0 hk0
    rw[hk1]at hk1a
    injection hk1a with hk1a
    subst hk1a
    have hk0m:=List.mem_of_getElem? hk0
    have hT1:k1.T+k1.q.length<1000000000:=by rw[q2,q4];exact hT k0 hk0m
    obtain⟨n1,n2,n3⟩:=W1.ne
    have hp: ∀h2 S,(∀b,PBl p P b→b∈S)→Only [k1.m,k1.mc] h1 h2→Only S h h2:=fun h2 S hS O2=>(O1 S hS).trans O2 fun b hb _=>hS b (B1 b (.inr (.inr (.inr (.inl ⟨k1,List.mem_of_getElem? hk1,by simp[Wk.bl]at hb ⊢;omega⟩)))))
    refine stealrun W1.dw W1.ds hT1 (fun eq h2 o f W2 O2=>⟨_,_,rfl,?_⟩) fun y q' eq h2 o f cs D2 _ W2 O2=>⟨_,_,rfl,?_⟩
    ·rw[bcase_false]
     have Wn:WkIs h2 ⟨k1.w,k1.d,k1.m,k1.mc,k1.cs,o,f,k1.T,k1.q,k1.job⟩:=⟨W1.own.only O2 (by simp;omega),W2,W1.ds,W1.ne⟩
     have H2:=H1.set_wk (k':=⟨k1.w,k1.d,k1.m,k1.mc,k1.cs,o,f,k1.T,k1.q,k1.job⟩) hk1 O2 (fun b hb=>by simp[Wk.bl]at hb ⊢;omega) Wn rfl
     exact ih (i+1) h2 _ (by omega) H2 (E1.set hk1 ⟨rfl,rfl,rfl,rfl⟩) (fun b hb=>B1 b (pbl_set_wk (P:={P with ws:=ws}) hk1 (by rfl) hb)) fun S hS=>hp h2 S hS O2
    ·rw[bcase_true]
     have Wn:WkIs h2 ⟨k1.w,k1.d,k1.m,k1.mc,cs,o,f,k1.T+1,q',k1.job⟩:=⟨W1.own.only O2 (by simp;omega),W2,D2,W1.ne⟩
     have H2:=H1.set_wk (k':=⟨k1.w,k1.d,k1.m,k1.mc,cs,o,f,k1.T+1,q',k1.job⟩) hk1 O2 (fun b hb=>by simp[Wk.bl]at hb ⊢;omega) Wn rfl
     have hkw2:(ws.set x ⟨k1.w,k1.d,k1.m,k1.mc,cs,o,f,k1.T+1,q',k1.job⟩)[i0]? =some kw':=by rw[List.getElem?_set,if_neg hne];exact hkw
     have Ww2:=H2.wk kw' (List.mem_of_getElem? hkw2)
     have hy:0≤y∧y<1000000000:=hx k0 hk0m y (by rw[←q2,eq];simp)
     rw[wrap_i64 (n:=y) (by omega) (by omega),←ekw]
     refine stK_at Ww2.own (by simp) rfl fun h3 A3 O3 z3=> ?_
     obtain⟨m1,m2,m3⟩:=Ww2.ne
     have H3:=H2.set_wk (k':={kw' with job:=y}) hkw2 O3 (fun b hb=>by simp[Wk.bl]at hb ⊢;omega) ⟨A3,Ww2.dw.only O3 (by simp;omega) (by simp;omega) (by simp;omega),Ww2.ds,Ww2.ne⟩ rfl
     dsimp only at H3
     refine ldI_of (pool_rd H3).2.2.2.2 ?_
     dsimp only
     rw[wrap_i64 (n:=P.steals+1) (by omega) (by omega)]
     refine stK_at H3.own (by simp[cellP]) rfl fun h4 A4 O4 z4=> ?_
     have H4:=H3.set_cell (l:=P.last) (st:=P.steals+1) O4 (by simpa[cellP]using A4) (Nat.le_refl _)
     dsimp only at H4
     have hB: ∀b,PBl p {P with ws:=(ws.set x ⟨k1.w,k1.d,k1.m,k1.mc,cs,o,f,k1.T+1,q',k1.job⟩).set i0 {kw' with job:=y},steals:=P.steals+1} b→PBl p P b:=fun b hb=>
      B1 b (pbl_set_wk (P:={P with ws:=ws}) (k':=⟨k1.w,k1.d,k1.m,k1.mc,cs,o,f,k1.T+1,q',k1.job⟩) hk1 (by rfl) (pbl_set_wk (P:={P with ws:=ws.set x ⟨k1.w,k1.d,k1.m,k1.mc,cs,o,f,k1.T+1,q',k1.job⟩}) (k':={kw' with job:=y}) hkw2 (by rfl) hb))
     refine hS h4 ws x k1 y q' kw' ⟨k1.w,k1.d,k1.m,k1.mc,cs,o,f,k1.T+1,q',k1.job⟩ _ E1 hne hk1 eq hkw rfl rfl rfl rfl rfl H4 hB fun S hS'=> ?_
     refine((hp h2 S hS' O2).trans O3 fun b hb _=> ?_).trans O4 fun b hb _=> ?_
     ·simp only[List.mem_singleton]at hb
      subst hb
      exact hS' _ (B1 _ (.inr (.inr (.inr (.inl ⟨kw',List.mem_of_getElem? hkw,by simp[Wk.bl]⟩)))))
     ·simp only[List.mem_singleton]at hb
      subst hb
      exact hS' _ (.inl rfl)
 exact⟨_,main P.ws.length 0 h P.ws (by omega) H (WsEq.refl _) (fun b hb=>hb) fun S hS=>Only.refl _ _⟩
end
end
section
theorem sum_set{α:Type}(f:α→Nat): ∀(l:List α) (i:Nat) (a a':α),l[i]? =some a→((l.set i a').map f).sum+f a=(l.map f).sum+f a'
 | [],i,a,a',h=>by simp at h
 |x::l,0,a,a',h=>by simp at h;subst h;simp;omega
 |x::l,i+1,a,a',h=>by
  have ih:=sum_set f l i a a' (by simpa using h)
  simp only[List.set_cons_succ,List.map_cons,List.sum_cons]
  omega
theorem nodup_inj{α:Type}{l:List α}(h:l.Nodup){x y:Nat}{a:α}(hx:l[x]? =some a)(hy:l[y]? =some a):x=y:=by
 obtain⟨l1,e1⟩:=List.getElem?_eq_some_iff.1 hx
 obtain⟨l2,e2⟩:=List.getElem?_eq_some_iff.1 hy
 apply Classical.byContradiction
 intro hne
 rcases Nat.lt_or_ge x y with h'|h'
 ·exact(List.pairwise_iff_getElem.1 h) x y l1 l2 h' (e1.trans e2.symm)
 ·exact(List.pairwise_iff_getElem.1 h) y x l2 l1 (by omega) (e2.trans e1.symm)
theorem flat_set{α β:Type}(f:α→List β): ∀(l:List α) (i:Nat) (a a':α),l[i]? =some a→(f a++(l.set i a').flatMap f).Perm (f a'++l.flatMap f)
 | [],i,a,a',h=>by simp at h
 |x::l,0,a,a',h=>by
  simp at h
  subst h
  simp only[List.set_cons_zero,List.flatMap_cons]
  exact List.perm_append_comm_assoc _ _ _
 |x::l,i+1,a,a',h=>by
  have ih:=flat_set f l i a a' (by simpa using h)
  simp only[List.set_cons_succ,List.flatMap_cons]
  exact(List.perm_append_comm_assoc _ _ _).trans ((ih.append_left _).trans (List.perm_append_comm_assoc _ _ _))
theorem mem_set{α:Type}{l:List α}{i:Nat}{a x:α}(h:x∈l.set i a):x=a∨ ∃j,j≠i∧l[j]? =some x:=by
 obtain⟨j,hj⟩:=List.mem_iff_getElem?.1 h
 rw[List.getElem?_set]at hj
 by_cases hij:i=j
 ·rw[if_pos hij]at hj
  split at hj
  ·injection hj with hj;exact .inl hj.symm
  ·cases hj
 ·rw[if_neg hij]at hj
  exact .inr ⟨j,fun e=>hij e.symm,hj⟩
def Wk.loc(k:Wk):List Int:=(if k.job=0 then []else [k.job])++k.q
def locs(ws:List Wk):List Int:=ws.flatMap Wk.loc
def qlen(ws:List Wk):Nat:=(ws.map fun k=>k.q.length).sum
structure PoolOk(n:Nat)(fo:Nat→Nat)(N:List (Option Nd))(P:PS):Prop where
 mst: ∀j∈P.jobs,MSt n fo N j.G j.A∧mus n N j.A.fs≤90000
 at_: ∀x∈locs P.ws,∃j∈P.jobs,x=(j.id:Int)∧j.A.done=false
 one:(locs P.ws).Nodup
 loc: ∀j∈P.jobs,j.A.done=false→(j.id:Int)∈locs P.ws
 T: ∀k∈P.ws,k.T+k.q.length≤P.last
 len:1≤P.ws.length∧P.ws.length≤4
 last:P.last<100000000
 steals:0≤P.steals∧P.steals+(qlen P.ws:Int)≤(P.last:Int)
def phi(n:Nat)(N:List (Option Nd))(P:PS):Nat:=(P.jobs.map fun j=>mus n N j.A.fs).sum+qlen P.ws
def psi(n:Nat)(N:List (Option Nd))(P:PS):Nat:=cntN N+(P.jobs.map fun j=>nbs n N j.A.fs).sum
theorem WkEq.loc{k k':Wk}(e:WkEq k k'):k'.loc=k.loc:=by unfold Wk.loc;rw[e.2.1,e.2.2.1]
theorem WsEq.map{β:Type}{a b:List Wk}(H:WsEq a b)(f:Wk→β)(hf: ∀k k',WkEq k k'→f k'=f k):b.map f=a.map f:=by
 apply List.ext_getElem?
 intro i
 rw[List.getElem?_map,List.getElem?_map]
 cases h:a[i]? with
 |none=>
  rw[List.getElem?_eq_none (by have:=H.1;have:=List.getElem?_eq_none_iff.1 h;omega)]
 |some k=>
  obtain⟨k',h',e⟩:=H.2 i k h
  rw[h']
  simp[hf k k' e]
theorem WsEq.locs{a b:List Wk}(H:WsEq a b):locs b=locs a:=by
 unfold Ev.locs
 rw[List.flatMap_def,List.flatMap_def,H.map Wk.loc fun k k' e=>e.loc]
theorem WsEq.qlen{a b:List Wk}(H:WsEq a b):qlen b=qlen a:=by
 unfold Ev.qlen
 rw[H.map (fun k=>k.q.length) fun k k' e=>by rw[e.2.1]]
theorem WsEq.mem{a b:List Wk}(H:WsEq a b){k':Wk}(h:k'∈b): ∃k∈a,WkEq k k':=by
 obtain⟨i,hi⟩:=List.mem_iff_getElem?.1 h
 have hl:=(List.getElem?_eq_some_iff.1 hi).1
 have h1:a[i]? =some (a[i]'(by have:=H.1;omega)):=List.getElem?_eq_getElem _
 obtain⟨x,hx,e⟩:=H.2 i _ h1
 rw[hi]at hx
 injection hx with hx
 subst hx
 exact⟨_,List.getElem_mem _,e⟩
section
variable {n:Nat}{fo:Nat→Nat}{N N':List (Option Nd)}{P:PS}
theorem PoolOk.eq(H:PoolOk n fo N P){ws:List Wk}(E:WsEq P.ws ws):PoolOk n fo N {P with ws:=ws}∧phi n N {P with ws:=ws}=phi n N P∧psi n N {P with ws:=ws}=psi n N P:=by
 refine⟨⟨H.mst,?_,?_,?_,fun k hk=> ?_,by show 1≤ws.length∧ws.length≤4;rw[E.1];exact H.len,H.last,?_⟩,?_,rfl⟩
 ·show ∀x∈locs ws,_
  rw[E.locs];exact H.at_
 ·show(locs ws).Nodup
  rw[E.locs];exact H.one
 ·show ∀j∈P.jobs,_→_∈locs ws
  rw[E.locs];exact H.loc
 ·obtain⟨k0,h0,e⟩:=E.mem hk
  have:=H.T k0 h0
  rw[e.2.1,e.2.2.2]
  exact this
 ·show 0≤P.steals∧P.steals+(qlen ws:Int)≤_
  rw[E.qlen];exact H.steals
 ·unfold phi
  show _+qlen ws=_
  rw[E.qlen]
theorem MSt.frs{G:Goal}{A:MA}(M:MSt n fo N G A): ∀f∈A.fs,FrOk n fo N f:=fun f hf=>by
 rcases M with⟨-,-,-,R⟩|⟨-,-,h,-⟩|⟨-,-,h⟩
 ·exact R.frs f hf
 ·rw[h]at hf;cases hf
 ·rw[h]at hf;cases hf
theorem OpR.goal{G:Goal}{r:Nat}(hG:isN N G.a0∧isN N G.a1∧isN N G.a2)(ok:NOk n N)(E:Ex N N')(R:OpR n fo N G.op G.a0 G.a1 G.a2 r):OpR n fo N' G.op G.a0 G.a1 G.a2 r:=R.ext ok E hG.1 hG.2.1 hG.2.2
theorem MSt.ext{G:Goal}{A:MA}(hG:isN N G.a0∧isN N G.a1∧isN N G.a2)(ok:NOk n N)(E:Ex N N')(M:MSt n fo N G A):MSt n fo N' G A:=by
 rcases M with⟨h1,h2,h3,R⟩|⟨h1,h2,h3,R⟩|h
 ·exact .inl ⟨h1,h2,h3,R.ext ok E⟩
 ·exact .inr (.inl ⟨h1,h2,h3,R.goal hG ok E⟩)
 ·exact .inr (.inr h)
end
def GoalsOk(N:List (Option Nd))(P:PS):Prop:= ∀j∈P.jobs,isN N j.G.a0∧isN N j.G.a1∧isN N j.G.a2
section
variable {n:Nat}{fo:Nat→Nat}{N N':List (Option Nd)}{P:PS}
theorem PoolOk.step(H:PoolOk n fo N P)(GO:GoalsOk N P)(ok:NOk n N)(E:Ex N N'){i w:Nat}{j:Jb}{k:Wk}{A':MA}(ids:(P.jobs.map (·.id)).Nodup)(pos:1≤j.id)(hi:P.jobs[i]? =some j)(hw:P.ws[w]? =some k)(hj:k.job=(j.id:Int))(M:MSt n fo N' j.G A')
  (hm:mus n N' A'.fs+1≤mus n N j.A.fs) (hc:cntN N'+nbs n N' A'.fs≤cntN N+nbs n N j.A.fs):
  PoolOk n fo N' {P with jobs:=P.jobs.set i {j with A:=A'},ws:=if A'.done=true then P.ws.set w {k with job:=0}else P.ws}∧
  phi n N' {P with jobs:=P.jobs.set i {j with A:=A'},ws:=if A'.done=true then P.ws.set w {k with job:=0}else P.ws}+1≤phi n N P∧
  psi n N' {P with jobs:=P.jobs.set i {j with A:=A'},ws:=if A'.done=true then P.ws.set w {k with job:=0}else P.ws}≤psi n N P:=by
 have hjm:=List.mem_of_getElem? hi
 have hil:=(List.getElem?_eq_some_iff.1 hi).1
 have hkm:=List.mem_of_getElem? hw
 have hwl:=(List.getElem?_eq_some_iff.1 hw).1
 have uniq: ∀y∈P.jobs,y.id=j.id→y=j:=fun y hy e=>by
  obtain⟨x,hx⟩:=List.mem_iff_getElem?.1 hy
  have h1:(P.jobs.map (·.id))[x]? =some j.id:=by rw[List.getElem?_map,hx];simp[e]
  have h2:(P.jobs.map (·.id))[i]? =some j.id:=by rw[List.getElem?_map,hi];rfl
  have:=nodup_inj ids h1 h2
  subst this
  rw[hi]at hx
  injection hx with hx
  exact hx.symm
 have hk0:k.job≠0:=by omega
 have kl:k.loc=k.job::k.q:=by unfold Wk.loc;rw[if_neg hk0];rfl
 have rest: ∀y∈P.jobs.set i {j with A:=A'},y={j with A:=A'}∨(y∈P.jobs∧y.id≠j.id):=fun y hy=>by
  rcases mem_set hy with h|⟨x,hx,h⟩
  ·exact .inl h
  ·refine .inr ⟨List.mem_of_getElem? h,fun e=>hx ?_⟩
   have:=uniq y (List.mem_of_getElem? h) e
   subst this
   exact nodup_inj ids (x:=x) (y:=i) (a:=y.id) (by rw[List.getElem?_map,h];rfl) (by rw[List.getElem?_map,hi];rfl)
 have same: ∀y∈P.jobs,mus n N' y.A.fs=mus n N y.A.fs∧nbs n N' y.A.fs=nbs n N y.A.fs:=fun y hy=>⟨mus_ext (fo:=fo) E (H.mst y hy).1.frs,nbs_ext (fo:=fo) E (H.mst y hy).1.frs⟩
 have mst': ∀y∈P.jobs.set i {j with A:=A'},MSt n fo N' y.G y.A∧mus n N' y.A.fs≤90000:=fun y hy=>by
  rcases rest y hy with h|⟨h,-⟩
  ·subst h
   have:=(H.mst j hjm).2
   exact⟨M,by show mus n N' A'.fs≤90000;omega⟩
  ·exact⟨(H.mst y h).1.ext (GO y h) ok E,by rw[(same y h).1];exact(H.mst y h).2⟩
 have up: ∀y∈P.jobs,y.id≠j.id→y∈P.jobs.set i {j with A:=A'}:=fun y hy hne=>by
  obtain⟨x,hx⟩:=List.mem_iff_getElem?.1 hy
  refine List.mem_iff_getElem?.2 ⟨x,?_⟩
  rw[List.getElem?_set,if_neg fun e=> ?_]
  ·exact hx
  ·subst e
   rw[hi]at hx
   injection hx with hx
   subst hx
   exact hne rfl
 have upj:{j with A:=A'}∈P.jobs.set i {j with A:=A'}:=List.mem_iff_getElem?.2 ⟨i,by rw[List.getElem?_set,if_pos rfl,if_pos hil]⟩
 have smu:=sum_set (fun y:Jb=>mus n N' y.A.fs) P.jobs i j {j with A:=A'} hi
 have snb:=sum_set (fun y:Jb=>nbs n N' y.A.fs) P.jobs i j {j with A:=A'} hi
 have e1:P.jobs.map (fun y:Jb=>mus n N' y.A.fs)=P.jobs.map fun y=>mus n N y.A.fs:=List.map_congr_left fun y hy=>(same y hy).1
 have e2:P.jobs.map (fun y:Jb=>nbs n N' y.A.fs)=P.jobs.map fun y=>nbs n N y.A.fs:=List.map_congr_left fun y hy=>(same y hy).2
 rw[e1]at smu
 rw[e2]at snb
 have s1:=(same j hjm).1
 have s2:=(same j hjm).2
 dsimp only at smu snb
 have psi':psi n N' {P with jobs:=P.jobs.set i {j with A:=A'},ws:=if A'.done=true then P.ws.set w {k with job:=0}else P.ws}≤psi n N P:=by
  unfold psi
  dsimp only
  omega
 by_cases hd:A'.done=true
 ·simp only[if_pos hd]at psi' ⊢
  have perm:=flat_set Wk.loc P.ws w k {k with job:=0} hw
  have k0:({k with job:=0}:Wk).loc=k.q:=by unfold Wk.loc;simp
  rw[kl,k0]at perm
  have perm:(k.job::locs (P.ws.set w {k with job:=0})).Perm (locs P.ws):=by
   have p2:(k.q++(k.job::locs (P.ws.set w {k with job:=0}))).Perm (k.q++locs P.ws):=by
    refine List.Perm.trans ?_ perm
    exact List.perm_middle
   exact(List.perm_append_left_iff _).1 p2
  have nd:=perm.nodup_iff.2 H.one
  have nd1:=(List.nodup_cons.1 nd)
  have ql:=sum_set (fun k:Wk=>k.q.length) P.ws w k {k with job:=0} hw
  dsimp only at ql
  refine⟨⟨mst',fun x hx=> ?_,nd1.2,fun y hy hdn=> ?_,fun x hx=> ?_,by show 1≤(P.ws.set w _).length∧(P.ws.set w _).length≤4;rw[List.length_set];exact H.len,H.last,?_⟩,?_,psi'⟩
  ·obtain⟨y,hy,e,hdn⟩:=H.at_ x (perm.mem_iff.1 (List.mem_cons_of_mem _ hx))
   refine⟨y,up y hy fun e'=> ?_,e,hdn⟩
   have:x=k.job:=by rw[e,e',hj]
   subst this
   exact nd1.1 hx
  ·rcases rest y hy with h|⟨h,hne⟩
   ·subst h
    rw[hd]at hdn
    cases hdn
   ·have:=perm.mem_iff.2 (H.loc y h hdn)
    rcases List.mem_cons.1 this with e|e
    ·exfalso
     rw[hj]at e
     exact hne (by omega)
    ·exact e
  ·rcases mem_set hx with h|⟨z,-,h⟩
   ·subst h
    exact H.T k hkm
   ·exact H.T x (List.mem_of_getElem? h)
  ·have:=H.steals
   unfold qlen at this ⊢
   dsimp only
   omega
  ·unfold phi qlen
   dsimp only
   omega
 ·simp only[if_neg hd]at psi' ⊢
  have hd:A'.done=false:=by cases h:A'.done<;>simp_all
  refine⟨⟨mst',fun x hx=> ?_,H.one,fun y hy hdn=> ?_,H.T,H.len,H.last,H.steals⟩,?_,psi'⟩
  ·obtain⟨y,hy,e,hdn⟩:=H.at_ x hx
   by_cases hne:y.id=j.id
   ·exact⟨_,upj,by show x=(j.id:Int);rw[e,hne],hd⟩
   ·exact⟨y,up y hy hne,e,hdn⟩
  ·rcases rest y hy with h|⟨h,hne⟩
   ·subst h
    refine List.mem_flatMap.2 ⟨k,hkm,?_⟩
    rw[kl,hj]
    exact List.mem_cons_self
   ·exact H.loc y h hdn
  ·unfold phi
   dsimp only
   omega
end
end
section
section
variable {n:Nat}{fo:Nat→Nat}{N N':List (Option Nd)}{P:PS}
theorem PoolOk.perm(H:PoolOk n fo N P){ws:List Wk}{st:Int}(hl:ws.length=P.ws.length)(hp:(locs ws).Perm (locs P.ws))(hT: ∀k∈ws,k.T+k.q.length≤P.last)(hst:0≤st∧st+(qlen ws:Int)≤(P.last:Int)):PoolOk n fo N {P with ws:=ws,steals:=st}:=
 ⟨H.mst,fun x hx=>H.at_ x (hp.mem_iff.1 hx),hp.nodup_iff.2 H.one,fun j hj hd=>hp.mem_iff.2 (H.loc j hj hd),hT,by show 1≤ws.length∧ws.length≤4;rw[hl];exact H.len,H.last,hst⟩
theorem locs_set{ws:List Wk}{w:Nat}{k k':Wk}(hw:ws[w]? =some k)(e:k'.loc.Perm k.loc):(locs (ws.set w k')).Perm (locs ws):=by
 have p:=flat_set Wk.loc ws w k k' hw
 exact(List.perm_append_left_iff k.loc).1 (p.trans (e.append_right _))
theorem loc_free{k:Wk}(h:k.job=0):k.loc=k.q:=by unfold Wk.loc;rw[if_pos h];rfl
theorem loc_busy{k:Wk}(h:k.job≠0):k.loc=k.job::k.q:=by unfold Wk.loc;rw[if_neg h];rfl
theorem PoolOk.take(H:PoolOk n fo N P){w:Nat}{k k':Wk}{x:Int}{q':List Int}(hw:P.ws[w]? =some k)(h0:k.job=0)(hq:k.q=q'++[x])(hx:x≠0)(e1:k'.q=q')(e2:k'.job=x)(hT:k'.T+k'.q.length≤k.T+k.q.length):
  PoolOk n fo N {P with ws:=P.ws.set w k'}∧phi n N {P with ws:=P.ws.set w k'}+1=phi n N P:=by
 have hk:=List.mem_of_getElem? hw
 have ql:=sum_set (fun k:Wk=>k.q.length) P.ws w k k' hw
 have l1:k.q.length=k'.q.length+1:=by rw[hq,e1];simp
 have lk:k'.loc.Perm k.loc:=by
  rw[loc_free h0,loc_busy (by rw[e2];exact hx),e1,e2,hq]
  exact List.perm_append_comm (l₁:=[x])
 refine⟨H.perm (st:=P.steals) (by simp) (locs_set hw lk) (fun y hy=> ?_) ?_,?_⟩
 ·rcases mem_set hy with h|⟨z,-,h⟩
  ·subst h
   have:=H.T k hk
   omega
  ·exact H.T y (List.mem_of_getElem? h)
 ·have:=H.steals
  unfold qlen at this ⊢
  omega
 ·unfold phi qlen
  dsimp only
  omega
theorem PoolOk.steal(H:PoolOk n fo N P){i0 i1:Nat}{k1 k1' kw:Wk}{x:Int}{q1:List Int}(hne:i1≠i0)(h1:P.ws[i1]? =some k1)(hw:P.ws[i0]? =some kw)(h0:kw.job=0)(hq:k1.q=x::q1)(hx:x≠0)(e1:k1'.q=q1)(e2:k1'.job=k1.job)(e3:k1'.T=k1.T+1):
  PoolOk n fo N {P with ws:=(P.ws.set i1 k1').set i0 {kw with job:=x},steals:=P.steals+1}∧phi n N {P with ws:=(P.ws.set i1 k1').set i0 {kw with job:=x},steals:=P.steals+1}+1=phi n N P:=by
 have hw2:(P.ws.set i1 k1')[i0]? =some kw:=by rw[List.getElem?_set,if_neg hne];exact hw
 have q1':=sum_set (fun k:Wk=>k.q.length) P.ws i1 k1 k1' h1
 have q2':=sum_set (fun k:Wk=>k.q.length) (P.ws.set i1 k1') i0 kw {kw with job:=x} hw2
 dsimp only at q1' q2'
 have l1:k1.q.length=k1'.q.length+1:=by rw[hq,e1];simp
 have p1:=flat_set Wk.loc P.ws i1 k1 k1' h1
 have p2:=flat_set Wk.loc (P.ws.set i1 k1') i0 kw {kw with job:=x} hw2
 have lw:({kw with job:=x}:Wk).loc=x::kw.q:=loc_busy hx
 have lk:k1.loc.Perm (x::k1'.loc):=by
  unfold Wk.loc
  rw[e2,e1,hq]
  exact List.perm_middle
 rw[loc_free h0,lw]at p2
 have p2:(locs ((P.ws.set i1 k1').set i0 {kw with job:=x})).Perm (x::locs (P.ws.set i1 k1')):=by
  have:(kw.q++locs ((P.ws.set i1 k1').set i0 {kw with job:=x})).Perm (kw.q++x::locs (P.ws.set i1 k1')):=p2.trans List.perm_middle.symm
  exact(List.perm_append_left_iff _).1 this
 have p1:(x::locs (P.ws.set i1 k1')).Perm (locs P.ws):=by
  have:(k1'.loc++x::locs (P.ws.set i1 k1')).Perm (k1'.loc++locs P.ws):=by
   refine List.Perm.trans (List.perm_middle.trans ?_) p1
   exact(lk.symm.append_right _)
  exact(List.perm_append_left_iff _).1 this
 refine⟨H.perm (by simp) (p2.trans p1) (fun y hy=> ?_) ?_,?_⟩
 ·rcases mem_set hy with h|⟨z,-,h⟩
  ·subst h
   exact H.T kw (List.mem_of_getElem? hw)
  ·rcases mem_set (List.mem_of_getElem? h)with h|⟨z,-,h⟩
   ·subst h
    have:=H.T k1 (List.mem_of_getElem? h1)
    omega
   ·exact H.T y (List.mem_of_getElem? h)
 ·have:=H.steals
  unfold qlen at this ⊢
  omega
 ·unfold phi qlen
  dsimp only
  omega
end
def Alike(P P':PS):Prop:=P'.last=P.last∧P'.ws.length=P.ws.length∧P'.jobs.map (fun j=>(j.id,j.G))=P.jobs.map fun j=>(j.id,j.G)
structure Picked(n:Nat)(fo:Nat→Nat)(room:Nat)(N N':List (Option Nd))(P P':PS):Prop where
 ok:PoolOk n fo N' P'
 ex:Ex N N'
 alike:Alike P P'
 le1:phi n N' P'≤phi n N P
 le2:psi n N' P'≤psi n N P
 bad:(∀j∈P.jobs,j.A.e=0)→psi n N P≤room→ ∀j∈P'.jobs,j.A.e=0
 fin: ∀(i:Nat) (j:Jb),P.jobs[i]? =some j→j.A.done=true→P'.jobs[i]? =some j
theorem jobs_look{P:PS}{i:Nat}{j:Jb}(ids:(P.jobs.map (·.id)).Nodup)(hi:P.jobs[i]? =some j):(P.jobs.map fun j=>((j.id:Int),ptrV j.A.m)).lookup (j.id:Int)=some (ptrV j.A.m):=by
 generalize P.jobs=l at ids hi
 induction l generalizing i with
 |nil=>simp at hi
 |cons y l ih=>
  simp only[List.map_cons,List.nodup_cons]at ids
  cases i with
  |zero=>
   simp at hi
   subst hi
   simp[List.lookup]
  |succ i=>
   have hi:l[i]? =some j:=by simpa using hi
   have hne:y.id≠j.id:=fun e=>ids.1 (by rw[e];exact List.mem_map.2 ⟨j,List.mem_of_getElem? hi,rfl⟩)
   simp only[List.map_cons,List.lookup]
   rw[show((j.id:Int)==(y.id:Int))=false by simp;omega]
   exact ih ids.2 hi
section
variable {h:Heap}{p s n room:Nat}{fo gg:Nat→Nat}{off:Bool}{N:List (Option Nd)}{P:PS}{K:Value→Heap→Prop}{L:List Nat}
theorem pick_step(S:Sto h s L (XL n room fo gg N off))(H:PoolIs h p s P)(Ok:PoolOk n fo N P)(GO:GoalsOk N P)(D: ∀b,PBl p P b→b∉L){w i:Nat}{k:Wk}{j:Jb}(hw:P.ws[w]? =some k)(hi:P.jobs[i]? =some j)(hj:k.job=(j.id:Int))(hd:j.A.done=false)
  (hK: ∀h' L' N' P',Sto h' s L' (XL n room fo gg N' off)→PoolIs h' p s P'→(∀b,PBl p P' b→b∉L')→Picked n fo room N N' P P'→phi n N' P'+1≤phi n N P→(∀T,(∀b,PBl p P b→b∈T)→(∀b∈L,b∈T)→Only T h h')→Fresh L L' h→(∀b,PBl p P' b→PBl p P b∨h.size≤b)→K (.bool true) h'):
  lookK h (some P.jb) .i64 .i64 k.job fun o20=>ldP (some (lkV (.pointer none) o20)) fun p21=>Cl 114 [.pointer p21] h fun v24 h25=>ldB (some v24) fun b26=>bcase b26 (ptrK (some ⟨k.w,0,none⟩) fun a27=>stK h25 (Addr.add (Addr.add a27 1) 0) (.int .i64 (0:Int)) fun h28=>K (.bool true) h28) (K (.bool true) h25):=by
 have hjm:=List.mem_of_getElem? hi
 have ids:=H.ids
 have lk:=jobs_look (P:=P) ids.1 hi
 refine look_map H.jbm (fun e=> ?_) fun x v e=> ?_
 ·rw[hj,lk]at e
  cases e
 rw[hj,lk]at e
 injection e with e
 subst e
 refine ldP_of rfl ?_
 have DA: ∀b∈j.A.bl,b∉L:=fun b hb=>D b (.inr (.inr (.inr (.inr ⟨j,hjm,hb⟩))))
 have ok:=S.ok
 dsimp only[XL]at ok
 have zP:=H.lt
 have zL:=S.lt
 refine step114 S (H.ma j hjm) DA (Ok.mst j hjm).2 (Ok.mst j hjm).1 hd fun h1 L1 N1 A1 em S1 M1 D1 E1 R1 m1 c1 f1 O1 g1 s1=>ldB_of rfl ?_
 have H1:PoolIs h1 p s {P with jobs:=P.jobs.set i {j with A:=A1}}:=H.set_ma hi O1 (fun b hb hp=>by
  rcases List.mem_append.1 hb with hL|hA
  ·exact absurd hL (D b hp)
  ·exact hA) M1 em s1
 have st:=Ok.step GO ok.1 E1 ids.1 (ids.2 j hjm).1 hi hw hj R1 m1 c1
 have alike:(P.jobs.set i {j with A:=A1}).map (fun j=>(j.id,j.G))=P.jobs.map fun j=>(j.id,j.G):=by
  rw[List.map_set]
  apply List.ext_getElem?
  intro x
  rw[List.getElem?_set]
  by_cases hix:i=x
  ·subst hix
   rw[if_pos rfl,if_pos (by simpa using (List.getElem?_eq_some_iff.1 hi).1),List.getElem?_map,hi]
   rfl
  ·rw[if_neg hix]
 have bad:(∀j∈P.jobs,j.A.e=0)→psi n N P≤room→ ∀y∈P.jobs.set i {j with A:=A1},y.A.e=0:=fun h1 h2 y hy=>by
  rcases mem_set hy with e|⟨x,-,hx⟩
  ·subst e
   show A1.e=0
   rcases R1 with⟨-,h,-⟩|⟨-,h,-⟩|⟨-,h,-⟩
   ·exact h
   ·exact h
   ·exfalso
    have:=f1 h
    have sm:=sum_set (fun y:Jb=>nbs n N y.A.fs) P.jobs i j {j with A:=⟨0,none,0,[],0,false,0⟩} hi
    dsimp only at sm
    unfold psi at h2
    have:nbs n N ([]:List Fk)=0:=rfl
    omega
  ·exact h1 y (List.mem_of_getElem? hx)
 have fin: ∀(x:Nat) (y:Jb),P.jobs[x]? =some y→y.A.done=true→(P.jobs.set i {j with A:=A1})[x]? =some y:=fun x y hx hy=>by
  rw[List.getElem?_set]
  by_cases hix:i=x
  ·subst hix
   rw[hi]at hx
   injection hx with hx
   subst hx
   rw[hd]at hy
   cases hy
  ·rw[if_neg hix]
   exact hx
 have blk: ∀b,PBl p {P with jobs:=P.jobs.set i {j with A:=A1}} b→PBl p P b∨h.size≤b:=fun b hb=>by
  rcases hb with e|e|hb|hb|⟨y,hy,hb⟩
  ·exact .inl (.inl e)
  ·exact .inl (.inr (.inl e))
  ·exact .inl (.inr (.inr (.inl hb)))
  ·exact .inl (.inr (.inr (.inr (.inl hb))))
  ·rcases mem_set hy with e|⟨x,-,hx⟩
   ·subst e
    exact(s1 b hb).imp (fun hb=> .inr (.inr (.inr (.inr ⟨j,hjm,hb⟩)))) id
   ·exact .inl (.inr (.inr (.inr (.inr ⟨y,List.mem_of_getElem? hx,hb⟩))))
 have dis: ∀b,PBl p {P with jobs:=P.jobs.set i {j with A:=A1}} b→b∉L1:=fun b hb hm=>by
  have old:PBl p P b→False:=fun hp=>by
   rcases g1 b hm with h|h
   ·exact D b hp h
   ·have:=zP b hp;omega
  rcases hb with e|e|hb|hb|⟨y,hy,hb⟩
  ·exact old (.inl e)
  ·exact old (.inr (.inl e))
  ·exact old (.inr (.inr (.inl hb)))
  ·exact old (.inr (.inr (.inr (.inl hb))))
  ·rcases mem_set hy with e|⟨x,-,hx⟩
   ·subst e
    exact D1 b hb hm
   ·exact old (.inr (.inr (.inr (.inr ⟨y,List.mem_of_getElem? hx,hb⟩))))
 have hO: ∀T,(∀b,PBl p P b→b∈T)→(∀b∈L,b∈T)→Only T h h1:=fun T hT hL=>O1.mono fun b hb _=>by
  rcases List.mem_append.1 hb with h|h
  ·exact hL b h
  ·exact hT b (.inr (.inr (.inr (.inr ⟨j,hjm,h⟩))))
 refine bcase_of (fun e=> ?_) fun e=> ?_
 ·simp only[if_pos e]at st
  have W1:=H1.wk k (List.mem_of_getElem? hw)
  rw[ptrK_some]
  simp only[add_mk,Nat.zero_add,Nat.add_zero]
  refine stK_at W1.own (by simp) rfl fun h2 A2 O2 z2=> ?_
  obtain⟨n1,n2,n3⟩:=W1.ne
  have H2:=H1.set_wk (k':={k with job:=0}) hw O2 (fun b hb=>by simp[Wk.bl]at hb ⊢;omega) ⟨A2,W1.dw.only O2 (by simp;omega) (by simp;omega) (by simp;omega),W1.ds,W1.ne⟩ rfl
  dsimp only at H2
  have b2: ∀b,PBl p {P with jobs:=P.jobs.set i {j with A:=A1},ws:=P.ws.set w {k with job:=0}} b→PBl p {P with jobs:=P.jobs.set i {j with A:=A1}} b:=fun b hb=>pbl_set_wk (P:={P with jobs:=P.jobs.set i {j with A:=A1}}) (k':={k with job:=0}) hw rfl hb
  have hkL:k.w∉L1:=dis k.w (.inr (.inr (.inr (.inl ⟨k,List.mem_of_getElem? hw,by simp[Wk.bl]⟩))))
  refine hK h2 L1 N1 _ (S1.only O2 fun b hb hm=>by simp only[List.mem_singleton]at hb;subst hb;exact hkL hm) H2 (fun b hb=>dis b (b2 b hb)) ⟨st.1,E1,⟨rfl,by simp,alike⟩,by have:=st.2.1;omega,st.2.2,bad,fin⟩ st.2.1 (fun T hT hL=>(hO T hT hL).trans O2 fun b hb _=> ?_) g1 fun b hb=>blk b (b2 b hb)
  simp only[List.mem_singleton]at hb
  subst hb
  exact hT _ (.inr (.inr (.inr (.inl ⟨k,List.mem_of_getElem? hw,by simp[Wk.bl]⟩))))
 ·have e': ¬A1.done=true:=by rw[e];simp
  simp only[if_neg e']at st
  exact hK h1 L1 N1 _ S1 H1 dis ⟨st.1,E1,⟨rfl,rfl,alike⟩,by have:=st.2.1;omega,st.2.2,bad,fin⟩ st.2.1 hO g1 blk
end
end
section
section
variable {h:Heap}{p s n room:Nat}{fo gg:Nat→Nat}{off:Bool}{N:List (Option Nd)}{P:PS}{K:Value→Heap→Prop}{L:List Nat}
theorem ldM_ofP{x:Option Value}{K:Option Nat→Prop}{n:Option Nat}(hx:x=some (.map n))(hK:K n):ldM x K:=⟨n,hx,hK⟩
theorem WsEq.trans{a b c:List Wk}(H:WsEq a b)(G:WsEq b c):WsEq a c:=by
 refine⟨G.1.trans H.1,fun i k hk=> ?_⟩
 obtain⟨k',h',e⟩:=H.2 i k hk
 obtain⟨k'',h'',e'⟩:=G.2 i k' h'
 exact⟨k'',h'',e'.1.trans e.1,e'.2.1.trans e.2.1,e'.2.2.1.trans e.2.2.1,e'.2.2.2.trans e.2.2.2⟩
def pbl(p:Nat)(P:PS):List Nat:=p::P.jb::(OwnB P.wp++(P.ws.flatMap Wk.bl++P.jobs.flatMap fun j=>j.A.bl))
theorem mem_pbl{b:Nat}:b∈pbl p P↔PBl p P b:=by
 unfold pbl PBl
 simp only[List.mem_cons,List.mem_append,List.mem_flatMap]
theorem loc_mem{ws:List Wk}{w:Nat}{k:Wk}(hw:ws[w]? =some k){x:Int}(h:x∈k.loc):x∈locs ws:=List.mem_flatMap.2 ⟨k,List.mem_of_getElem? hw,h⟩
theorem own_lt(Ok:PoolOk n fo N P)(ids: ∀j∈P.jobs,1≤j.id∧j.id≤P.last){k:Wk}(hk:k∈P.ws):k.T+k.q.length<1000000000∧ ∀x∈k.q,1≤x∧x<1000000000:=by
 have h1:=Ok.T k hk
 have h2:=Ok.last
 refine⟨by omega,fun x hx=> ?_⟩
 obtain⟨j,hj,e,-⟩:=Ok.at_ x (List.mem_flatMap.2 ⟨k,hk,by unfold Wk.loc;simp[hx]⟩)
 have:=ids j hj
 omega
set_option maxRecDepth 100000 in
theorem pick81(S:Sto h s L (XL n room fo gg N off))(H:PoolIs h p s P)(Ok:PoolOk n fo N P)(GO:GoalsOk N P)(D: ∀b,PBl p P b→b∉L){who draw:Int}
  (hOut:who<0∨(P.ws.length:Int)≤who→K (.bool false) h)
  (hK: ∀h' L' N' P' b (w:Nat) (k:Wk),who=(w:Int)→P.ws[w]? =some k→Sto h' s L' (XL n room fo gg N' off)→PoolIs h' p s P'→(∀b,PBl p P' b→b∉L')→Picked n fo room N N' P P'→(b=true→locs P.ws≠[])→(phi n N' P'+1≤phi n N P∨(k.job=0∧k.q=[]∧WsEq P.ws P'.ws))→(∀T,(∀b,PBl p P b→b∈T)→(∀b∈L,b∈T)→Only T h h')→Fresh L L' h→(∀b,PBl p P' b→PBl p P b∨h.size≤b)→K (.bool b) h'):
  Cl 81 [ptrV p,.int .i64 who,.int .i64 draw] h K:=by
 refine F81.spec _ _ _ h K ?_
 refine bcase_of (fun e=>hOut (.inl (of_decide_eq_true e))) fun e=> ?_
 have w0:=of_decide_eq_false e
 simp only[add_mk,Nat.zero_add,Nat.add_zero]
 have rp:=pool_rd H
 refine ldS_of rp.2.1 (bcase_of (fun e=>hOut (.inr (of_decide_eq_true e))) fun e=> ?_)
 have w1:=of_decide_eq_false e
 obtain⟨w,ew⟩: ∃w:Nat,who=(w:Int):=⟨who.toNat,by omega⟩
 subst ew
 have hwl:w<P.ws.length:=by omega
 obtain⟨k,hw⟩: ∃k,P.ws[w]? =some k:=⟨_,List.getElem?_eq_getElem hwl⟩
 have hk:=List.mem_of_getElem? hw
 obtain⟨b,eb,rb⟩:=ws_rd H hw
 refine ldS_of rp.2.1 ?_
 rw[eb,ptrK_some]
 refine⟨by omega,by omega,?_⟩
 simp only[add_mk,Nat.zero_add,Nat.add_zero,Int.toNat_natCast,Nat.mul_one]
 refine ldP_of rb ?_
 rw[ptrK_some]
 simp only[add_mk,Nat.zero_add,Nat.add_zero]
 have W:=H.wk k hk
 have rj:rd h ⟨k.w,1,none⟩=some (.int .i64 k.job):=by rw[At.rd W.own];rfl
 have lim:=own_lt Ok H.ids.2 hk
 have zP:=H.lt
 refine ldI_of rj (bcase_of (fun e=> ?_) fun e=> ?_)
 ·have j0:k.job=0:=by simpa using e
  refine takes129 W lim.1 (fun x hx=>by have:=lim.2 x hx;omega) (fun eq h1 k' W' bl' q' jb' T' O1=>ldB_of rfl ?_) fun x q' eq h1 k' W' bl' e1 e2 hT O1=>ldB_of rfl ?_
  ·rw[Bool.not_false,bcase_true]
   have ke:WkEq k k':=⟨bl',by rw[q',eq],jb',T'⟩
   have E1:=(WsEq.refl P.ws).set hw ke
   have H1:=H.set_wk hw O1 (fun b hb=>hb) W' bl'
   obtain⟨Ok1,p1,p2⟩:=Ok.eq E1
   have hw1:(P.ws.set w k')[w]? =some k':=by rw[List.getElem?_set,if_pos rfl,if_pos hwl]
   have bd: ∀b,PBl p {P with ws:=P.ws.set w k'} b→PBl p P b:=fun b hb=>pbl_set_wk hw bl' hb
   have ekw:k'.w=k.w:=ke.w
   have O1': ∀T,(∀b,PBl p P b→b∈T)→Only T h h1:=fun T hT=>O1.mono fun b hb _=>hT b (.inr (.inr (.inr (.inl ⟨k,hk,hb⟩))))
   have S1:=S.only O1 fun b hb hm=>D b (.inr (.inr (.inr (.inl ⟨k,hk,hb⟩)))) hm
   rw[←ekw]
   refine steals130 H1 hw1 (draw:=draw) (by have:=Ok1.len;omega) (fun y hy=>(own_lt Ok1 H1.ids.2 hy).1) (fun y hy x hx=>by have:=(own_lt Ok1 H1.ids.2 hy).2 x hx;omega) ⟨Ok1.steals.1,by have:=Ok1.steals;have:=Ok1.last;omega⟩ (fun h2 ws H2 E2 B2 O2=>ldB_of rfl ?_) fun h2 ws i1 k1 x q1 kw' k1' ws' E2 hne hk1 eq1 hkw bl1 f1 f2 f3 ews H2 B2 O2=>ldB_of rfl ?_
   ·dsimp only at H2 E2 B2
    obtain⟨Ok2,p3,p4⟩:=Ok1.eq (ws:=ws) E2
    dsimp only at Ok2 p3 p4
    have O2': ∀T,(∀b,PBl p P b→b∈T)→Only T h h2:=fun T hT=>(O1' T hT).trans (O2 T fun b hb=>hT b (bd b hb)) fun b hb _=>hb
    have S2:=S.only (O2' (pbl p P) fun b hb=>mem_pbl.2 hb) fun b hb hm=>D b (mem_pbl.1 hb) hm
    refine hK h2 L N {P with ws:=ws} false w k rfl hw S2 H2 (fun b hb=>D b (bd b (B2 b hb))) ⟨Ok2,Ex.refl _,⟨rfl,by show ws.length=_;rw[E2.1];simp,rfl⟩,by omega,by omega,fun h _=>h,fun i j h _=>h⟩ (fun h=>by cases h) (.inr ⟨j0,eq,E1.trans E2⟩) (fun T hT hL=>O2' T hT) (Fresh.refl _ _) fun b hb=> .inl (bd b (B2 b hb))
   ·dsimp only at H2 E2 B2
    obtain⟨Ok2,p3,p4⟩:=Ok1.eq (ws:=ws) E2
    dsimp only at Ok2 p3 p4
    obtain⟨ka,hka,ea⟩:=E2.2 w k' hw1
    rw[hkw]at hka
    injection hka with hka
    subst hka
    have hx:=(own_lt Ok2 H.ids.2 (List.mem_of_getElem? hk1)).2 x (by rw[eq1];simp)
    obtain⟨Ok3,p5⟩:=Ok2.steal (P:={P with ws:=ws}) hne hk1 hkw (by rw[ea.2.2.1,jb',j0]) eq1 (by omega) f1 f2 f3
    dsimp only at Ok3 p5
    rw[←ews]at Ok3 p5
    have O2': ∀T,(∀b,PBl p P b→b∈T)→Only T h h2:=fun T hT=>(O1' T hT).trans (O2 T fun b hb=>hT b (bd b hb)) fun b hb _=>hb
    have S2:=S.only (O2' (pbl p P) fun b hb=>mem_pbl.2 hb) fun b hb hm=>D b (mem_pbl.1 hb) hm
    have hlen:ws'.length=P.ws.length:=by rw[ews,List.length_set,List.length_set,E2.1];simp
    refine hK h2 L N {P with ws:=ws',steals:=P.steals+1} true w k rfl hw S2 H2 (fun b hb=>D b (bd b (B2 b hb))) ⟨Ok3,Ex.refl _,⟨rfl,hlen,rfl⟩,by omega,Nat.le_refl _,fun h _=>h,fun i j h _=>h⟩ (fun _ hl=> ?_) (.inl (by omega)) (fun T hT hL=>O2' T hT) (Fresh.refl _ _) fun b hb=> .inl (bd b (B2 b hb))
    have:=loc_mem hk1 (x:=x) (by unfold Wk.loc;rw[eq1];simp)
    rw[E2.locs,E1.locs,hl]at this
    cases this
  ·rw[Bool.not_true,bcase_false]
   have H1:=H.set_wk hw O1 (fun b hb=>hb) W' bl'
   have hx:=lim.2 x (by rw[eq];simp)
   obtain⟨Ok1,p1⟩:=Ok.take hw j0 eq (by omega) e1 e2 hT
   have hw1:(P.ws.set w k')[w]? =some k':=by rw[List.getElem?_set,if_pos rfl,if_pos hwl]
   have bd: ∀b,PBl p {P with ws:=P.ws.set w k'} b→PBl p P b:=fun b hb=>pbl_set_wk hw bl' hb
   have ekw:k'.w=k.w:=by
    simp only[Wk.bl,List.cons.injEq]at bl'
    exact bl'.1
   have O1': ∀T,(∀b,PBl p P b→b∈T)→Only T h h1:=fun T hT=>O1.mono fun b hb _=>hT b (.inr (.inr (.inr (.inl ⟨k,hk,hb⟩))))
   have S1:=S.only O1 fun b hb hm=>D b (.inr (.inr (.inr (.inl ⟨k,hk,hb⟩)))) hm
   obtain⟨j,hj,ex,hd⟩:=Ok.at_ x (loc_mem hw (by rw[loc_free j0,eq];simp))
   obtain⟨i,hi⟩:=List.mem_iff_getElem?.1 hj
   have W1':At h1 k'.w [ptrV k'.d,.int .i64 k'.job]:=W'.own
   refine ldM_ofP (pool_rd H1).2.2.1 ?_
   rw[ptrK_some]
   simp only[add_mk,Nat.zero_add,Nat.add_zero]
   refine ldI_of (n:=k'.job) (by rw[←ekw,At.rd W1'];rfl) ?_
   rw[←ekw]
   refine pick_step S1 H1 Ok1 GO (fun b hb=>D b (bd b hb)) hw1 hi (by rw[e2,ex]) hd fun h2 L2 N2 P2 S2 H2 D2 Pk hs O2 g2 b2=> ?_
   have hal:Alike P P2:=⟨Pk.alike.1,by rw[Pk.alike.2.1];simp,Pk.alike.2.2⟩
   have l1:=Pk.le1
   refine hK h2 L2 N2 P2 true w k rfl hw S2 H2 D2 ⟨Pk.ok,Pk.ex,hal,by omega,Pk.le2,Pk.bad,Pk.fin⟩ (fun _ hl=> ?_) (.inl (by omega)) (fun T hT hL=>(O1' T hT).trans (O2 T (fun b hb=>hT b (bd b hb)) hL) fun b hb _=>hb) ?_ fun b hb=> ?_
   ·have:=loc_mem hw (x:=x) (by rw[loc_free j0,eq];simp)
    rw[hl]at this
    cases this
   ·intro b hb
    rcases g2 b hb with h|h
    ·exact .inl h
    ·exact .inr (by have:=O1.size;omega)
   ·rcases b2 b hb with h|h
    ·exact .inl (bd b h)
    ·exact .inr (by have:=O1.size;omega)
 ·have j0:k.job≠0:=by simpa using e
  obtain⟨j,hj,ex,hd⟩:=Ok.at_ k.job (loc_mem hw (by rw[loc_busy j0];simp))
  obtain⟨i,hi⟩:=List.mem_iff_getElem?.1 hj
  refine ldM_ofP rp.2.2.1 ?_
  rw[ptrK_some]
  simp only[add_mk,Nat.zero_add,Nat.add_zero]
  refine ldI_of rj ?_
  refine pick_step S H Ok GO D hw hi ex hd fun h2 L2 N2 P2 S2 H2 D2 Pk hs O2 g2 b2=> ?_
  refine hK h2 L2 N2 P2 true w k rfl hw S2 H2 D2 Pk (fun _ hl=> ?_) (.inl hs) O2 g2 b2
  have:=loc_mem hw (x:=k.job) (by rw[loc_busy j0];simp)
  rw[hl]at this
  cases this
end
end
section
section
variable {h:Heap}{p s n:Nat}{fo:Nat→Nat}{N:List (Option Nd)}{P:PS}{K:Value→Heap→Prop}
theorem workers68(H:PoolIs h p s P)(hK:K (.int .i64 (P.ws.length:Int)) h):Cl 68 [ptrV p] h K:=by
 refine F68.spec _ h K ?_
 simp only[add_mk,Nat.zero_add]
 exact ldS_of (pool_rd H).2.1 hK
end
end
section
theorem nodup_sub_len: ∀(l m:List Int),l.Nodup→(∀x∈l,x∈m)→l.length≤m.length
 | [],m,_,_=>Nat.zero_le _
 |x::l,m,h,hs=>by
  obtain⟨h1,h2⟩:=List.nodup_cons.1 h
  have hx:=hs x List.mem_cons_self
  have ih:=nodup_sub_len l (m.erase x) h2 fun y hy=>(List.mem_erase_of_ne fun e=>by subst e;exact h1 hy).2 (hs y (List.mem_cons_of_mem _ hy))
  rw[List.length_erase_of_mem hx]at ih
  have:=List.length_pos_of_mem hx
  simp only[List.length_cons]
  omega
section
variable {h h':Heap}{p s n room:Nat}{fo gg:Nat→Nat}{off:Bool}{N:List (Option Nd)}{P:PS}{K:Value→Heap→Prop}{L:List Nat}
end
end
section
def wkn(x:Int):Nat:=if x<1 then 1 else if 4<x then 4 else x.toNat
theorem wkn_eq(x:Int):(if(4:Int)<(if(1:Int)>x then(1:Int)else x)then(4:Int)else(if(1:Int)>x then(1:Int)else x))=(wkn x:Int):=by
 unfold wkn
 by_cases h1:(1:Int)>x
 ·rw[if_pos h1,if_neg (by omega),if_pos (by omega)]
  rfl
 ·rw[if_neg h1]
  by_cases h2:(4:Int)<x
  ·rw[if_pos h2,if_neg (by omega),if_pos h2]
   rfl
  ·rw[if_neg h2,if_neg (by omega),if_neg h2]
   omega
theorem wkn_le(x:Int):1≤wkn x∧wkn x≤4:=by
 unfold wkn
 split
 ·omega
 ·split<;>omega
def Free(k:Wk):Prop:=k.q=[]∧k.job=0∧k.T=0
section
variable {h h':Heap}{p s:Nat}{P:PS}{K:Value→Heap→Prop}
set_option maxRecDepth 100000 in
theorem new34{x:Int}(hK: ∀h' p P,PoolIs h' p s P→P.ws.length=wkn x→P.jobs=[]→(∀k∈P.ws,Free k)→P.last=0→P.steals=0→(∀b,PBl p P b→h.size≤b)→Only [] h h'→K (ptrV p) h'):
  Cl 34 [ptrV s,.int .i64 x] h K:=by
 refine F34.spec _ _ h K ?_
 refine newK_map4 (k:= .i64) fun h1 M1 O1 z1=>newK_at fun h2 A2 O2 z2=> ?_
 rw[wkn_eq]
 have hw:=wkn_le x
 unfold F34.wk3
 have O02:=O1.trans O2 (by simp)
 have P0:PoolIs h2 h1.size s ⟨none,0,h.size,[],[],0,0⟩:=by
  refine⟨A2,Own.nil _ _ _,fun k hk=>(by cases hk),M1.only O2 (by simp),fun j hj=>(by cases hj),⟨fun _=>0,rfl,rfl,fun _ _=>rfl,fun i k hk=>(by simp at hk),fun j hj=>(by cases hj)⟩,⟨(show h1.size≠h.size by omega),by simp[OwnB],by simp[OwnB]⟩,by simp,fun j hj=>(by cases hj)⟩
 have main: ∀(d i:Nat) (h3:Heap) (P:PS),i+d=wkn x→PoolIs h3 h1.size s P→P.ws.length=i→P.jobs=[]→(∀k∈P.ws,Free k)→P.last=0→P.steals=0→(∀b,PBl h1.size P b→h.size≤b)→Only [] h h3→
   F34.wL3 (d+1) ⟨h1.size,0,none⟩ (wkn x:Int) (i:Int) h3 K:=by
  intro d
  induction d with
  |zero=>
   intro i h3 P hi H hl hj hf hla hst hB O
   rw[F34.sL3]
   rw[decide_eq_false (by omega),bcase_false]
   exact hK h3 _ P H (by omega) hj hf hla hst hB O
  |succ d ih=>
   intro i h3 P hi H hl hj hf hla hst hB O
   have ew:IntKind.wrap .i64 ((i:Int)+1)=((i+1:Nat):Int):=by rw[wrap_i64 (by omega) (by omega)];omega
   rw[F34.sL3]
   rw[decide_eq_true (by omega),bcase_true,ew]
   simp only[add_mk,Nat.zero_add]
   refine cellsD_spec (k:=64) (by omega) (by omega) (ldI_of rfl ?_)
   refine new_spec fun m c h4 M4 O4 g4 g4'=>ldP_of rfl ?_
   rw[show((64:Int)+2)=((66:Nat):Int)from rfl,cellsFor_of (by omega)]at M4
   refine deqnew_spec (base:=0) (n:=64) M4 (by omega) (by omega) (by simp) (by simp) fun dq h5 Q5 O5 g5=>⟨_,_,rfl,?_⟩
   have H5:=(H.only0 O4).only0 O5
   have M5:=M4.only O5 (by simp) (by simp)
   refine ldS_of (pool_rd H5).2.1 ?_
   refine newK_at fun h6 A6 O6 z6=>newK_at fun h7 A7 O7 z7=> ?_
   have H7:=(H5.only0 O6).only0 O7
   have zz4:=O4.size
   have zz5:=O5.size
   have l4m:=M4.head.lt
   have l4c:=M4.body.lt
   have l5:dq<h5.size:=At.lt Q5
   refine own_app H7.wks A7 rfl rfl (by omega) (by simp[Value.oneCell']) (by omega) fun p' c' h8 W8 O8 g8=> ?_
   have np:h1.size∉OwnB P.wp:=H.ne.2.1
   have A8:=H7.own.only O8 np
   refine stK_at A8 (by simp[cellP]) rfl fun h9 A9 O9 z9=> ?_
   have hlt:=H.lt
   have O57:Only [] h5 h7:=O6.trans O7 (by simp)
   have O79:Only (h1.size::OwnB P.wp) h7 h9:=(O8.mono fun b hb _=>List.mem_cons_of_mem _ hb).trans O9 fun b hb _=>by simp only[List.mem_singleton]at hb;exact List.mem_cons.2 (.inl hb)
   have O09:Only [] h h9:=(((O.trans O4 (by simp)).trans O5 (by simp)).trans O57 (by simp)).trans O79 fun b hb hl=>by
    rcases List.mem_cons.1 hb with e|hb
    ·have:=hB b (.inl e);omega
    ·have:=hB b (.inr (.inr (.inl hb)));omega
   have old: ∀b,PBl h1.size P b→b<h3.size:=hlt
   have nS: ∀b,h3.size≤b→b∉h1.size::OwnB P.wp:=fun b hb hm=>by
    rcases List.mem_cons.1 hm with e|hm
    ·have:=old b (.inl e);omega
    ·have:=old b (.inr (.inr (.inl hm)));omega
   obtain⟨k,ek⟩: ∃k:Wk,k=⟨h5.size,dq,m,c,List.replicate 66 0,0,0,0,[],0⟩:=⟨_,rfl⟩
   have hkbl: ∀b∈k.bl,h3.size≤b:=fun b hb=>by
    rw[ek]at hb
    simp[Wk.bl]at hb
    omega
   have Wk9:WkIs h9 k:=by
    have W7:WkIs h7 k:=by
     rw[ek]
     have:=M4.ne
     refine⟨A6.only O7 (by simp),⟨(Q5.only O57 (by simp)),M5.only O57 (by simp) (by simp),by show dq≠m;omega,by show dq≠c;omega,by omega,by omega,by omega,by simp⟩,⟨by simp[List.getD],by simp[List.getD],by simp,fun i hi=>by simp at hi⟩,⟨by show h5.size≠dq;omega,by show h5.size≠m;omega,by show h5.size≠c;omega⟩⟩
    exact W7.only O79 fun b hb hm=>nS b (hkbl b hm) hb
   have kw:k.w=h5.size:=by rw[ek]
   refine ih (i+1) h9 {P with wp:=p',wc:=c',ws:=P.ws++[k]} (by omega) ?_ (by simp[hl]) hj (fun y hy=> ?_) hla hst (fun b hb=> ?_) O09
   ·obtain⟨τ,t⟩:=H.sep
    have g8': ∀b∈OwnB p',b∈OwnB P.wp∨h7.size≤b:=g8
    have kbl7: ∀b∈k.bl,b<h7.size:=fun b hb=>by
     rw[ek]at hb
     simp[Wk.bl]at hb
     omega
    refine⟨?_,?_,fun y hy=> ?_,((H7.jbm.only O8 H.ne.2.2).only O9 (by simp;exact fun e=>H.ne.1 e.symm)),fun j hj'=>(by rw[hj]at hj';cases hj'),⟨fun b=>if b∈k.bl then 2*i+1 else if h7.size≤b then 0 else τ b,?_,?_,fun b hb=> ?_,fun x y hy b hb=> ?_,fun j hj'=>(by rw[hj]at hj';cases hj')⟩,⟨H.ne.1,fun hm=> ?_,fun hm=> ?_⟩,by rw[hj];simp,fun j hj'=>(by rw[hj]at hj';cases hj')⟩
    ·have e:(cellP s P).set 1 (.slice p' (P.ws.length+1) c')=cellP s {P with wp:=p',wc:=c',ws:=P.ws++[k]}:=by simp[cellP]
     rw[←e]
     exact A9
    ·show Own h9 0 1 p' (P.ws++[k]).length c' ((P.ws++[k]).map fun k=>ptrV k.w)
     have:=W8.only O9 (fun b e hm=>by
      simp only[List.mem_singleton]at hm
      have hb:b∈OwnB p':=by rw[e];simp[OwnB]
      rcases g8' b hb with h|h
      ·rw[hm]at h;exact np h
      ·have:=old h1.size (.inl rfl);omega)
     simpa[ptrV,kw]using this
    ·rcases List.mem_append.1 hy with hy|hy
     ·refine(H7.wk y hy).only O79 fun b hb hm=> ?_
      obtain⟨x,hx⟩:=List.mem_iff_getElem?.1 hy
      have t1:=t.ws x y hx b hm
      rcases List.mem_cons.1 hb with e|hb
      ·subst e;have:=t.p;omega
      ·have:=t.wp b hb;omega
     ·simp only[List.mem_singleton]at hy
      subst hy
      exact Wk9
    ·show(if h1.size∈k.bl then _ else if h7.size≤h1.size then 0 else τ h1.size)=0
     have:=old h1.size (.inl rfl)
     rw[if_neg fun hm=>by have:=hkbl _ hm;omega]
     split
     ·rfl
     ·exact t.p
    ·show(if P.jb∈k.bl then _ else if h7.size≤P.jb then 0 else τ P.jb)=0
     have:=old P.jb (.inr (.inl rfl))
     rw[if_neg fun hm=>by have:=hkbl _ hm;omega]
     split
     ·rfl
     ·exact t.jb
    ·show(if b∈k.bl then _ else if h7.size≤b then 0 else τ b)=0
     rcases g8' b hb with h|h
     ·have:=old b (.inr (.inr (.inl h)))
      rw[if_neg fun hm=>by have:=hkbl _ hm;omega]
      split
      ·rfl
      ·exact t.wp b h
     ·rw[if_neg fun hm=>by have:=kbl7 _ hm;omega,if_pos h]
    ·show(if b∈k.bl then _ else if h7.size≤b then 0 else τ b)=_
     have hy:(P.ws++[k])[x]? =some y:=hy
     by_cases hx:x<P.ws.length
     ·rw[List.getElem?_append_left hx]at hy
      have hb3:=old b (.inr (.inr (.inr (.inl ⟨y,List.mem_of_getElem? hy,hb⟩))))
      rw[if_neg fun hm=>by have:=hkbl _ hm;omega,if_neg (by omega)]
      exact t.ws x y hy b hb
     ·rw[List.getElem?_append_right (by omega)]at hy
      have hx2:x-P.ws.length=0:=by
       have:=(List.getElem?_eq_some_iff.1 hy).1
       simp at this
       omega
      rw[hx2]at hy
      simp at hy
      subst hy
      rw[if_pos hb]
      omega
    ·rcases g8' _ hm with h|h
     ·exact H.ne.2.1 h
     ·have:=old h1.size (.inl rfl);omega
    ·rcases g8' _ hm with h|h
     ·exact H.ne.2.2 h
     ·have h:h7.size≤P.jb:=h
      have:=old P.jb (.inr (.inl rfl));omega
   ·rcases List.mem_append.1 hy with hy|hy
    ·exact hf y hy
    ·simp only[List.mem_singleton]at hy
     subst hy
     rw[ek]
     exact⟨rfl,rfl,rfl⟩
   ·have z03:=O.size
    rcases hb with e|e|hb|⟨y,hy,hb⟩|⟨y,hy,hb⟩
    ·exact hB b (.inl e)
    ·exact hB b (.inr (.inl e))
    ·rcases g8 b hb with h|h
     ·exact hB b (.inr (.inr (.inl h)))
     ·omega
    ·rcases List.mem_append.1 hy with hy|hy
     ·exact hB b (.inr (.inr (.inr (.inl ⟨y,hy,hb⟩))))
     ·simp only[List.mem_singleton]at hy
      subst hy
      have:=hkbl b hb
      omega
    ·have hy:y∈P.jobs:=hy
     rw[hj]at hy
     cases hy
 refine⟨_,main (wkn x) 0 h2 _ (by omega) P0 rfl rfl (fun k hk=>by cases hk) rfl rfl (fun b hb=> ?_) O02⟩
 rcases hb with e|e|hb|⟨y,hy,hb⟩|⟨y,hy,hb⟩
 ·omega
 ·have e:b=h.size:=e
  omega
 ·simp[OwnB]at hb
 ·cases hy
 ·cases hy
theorem pool_fresh{n:Nat}{fo:Nat→Nat}{N:List (Option Nd)}(hl:1≤P.ws.length∧P.ws.length≤4)(hj:P.jobs=[])(hf: ∀k∈P.ws,Free k)(h1:P.last=0)(h2:P.steals=0):PoolOk n fo N P∧GoalsOk N P∧locs P.ws=[]∧qlen P.ws=0:=by
 have e1:locs P.ws=[]:=by
  unfold locs
  rw[List.flatMap_eq_nil_iff]
  intro k hk
  obtain⟨a,b,-⟩:=hf k hk
  unfold Wk.loc
  rw[if_pos b,a]
  rfl
 have e2:qlen P.ws=0:=by
  unfold qlen
  have:P.ws.map (fun k=>k.q.length)=P.ws.map fun _=>0:=List.map_congr_left fun k hk=>by rw[(hf k hk).1];rfl
  rw[this]
  generalize P.ws=l
  induction l with
  |nil=>rfl
  |cons a l ih=>simpa using ih
 refine⟨⟨fun j hj'=>(by rw[hj]at hj';cases hj'),fun x hx=>(by rw[e1]at hx;cases hx),by rw[e1];simp,fun j hj'=>(by rw[hj]at hj';cases hj'),fun k hk=> ?_,hl,by omega,by omega,by omega⟩,fun j hj'=>(by rw[hj]at hj';cases hj'),e1,e2⟩
 obtain⟨a,-,c⟩:=hf k hk
 rw[a,c]
 simp
end
end
section
def F6.T:Hint:=⟨[(9,[1,6,8,9,10]),(14,[1,6,8,9]),(19,[1,6,8,9,13,14]),(25,[1,6,8,9,13,14]),(28,[6,8,9,13])],[]⟩
section
variable (bk19:Int→(Option Addr)→Nat→Nat→(Option Addr)→Int→Int→Int→Heap→Prop)(n:Nat)(o j:Int)(b:Option Addr)(a c:Nat)(g:Option Addr)(d l i f:Int)(h:Heap)(K:KK)
def F6.wk25:Prop:=Cl 38 [.pointer g,.int .i64 f] h fun v1 h2=> ∃n3:Int,∃n4:Int,v1=(.tuple #[.int .u32 n3,.int .i64 n4])∧bcase (n4 !=(61:Int)) (K (.bool false) h2) (Cl 39 [.pointer g,.int .i64 f] h2 fun v5 h6=>ldB (some v5) fun b7=>bcase b7 (K (.bool false) h6) (bk19 j b a c g d i (IntKind.wrap .i64 (f+(1:Int))) h6))
def F6.wk28(b:Option Addr)(a c:Nat)(g:Option Addr)(d i:Int)(h:Heap)(K:KK):Prop:=ptrK b fun a1=>0≤(0:Int)∧(0:Int)<(Nat.cast a:Int)∧ldI .u32 (rd h (a1.add (Int.toNat (0:Int)*1))) fun n2=>Cl 35 [.pointer g,.agg #[.int .i64 1,.int .u32 n2,.int .u32 0,.int .u32 0,.int .u8 0]] h fun v3 h4=> ∃n5:Int,∃n6:Int,v3=(.tuple #[.int .i64 n5,.int .i64 n6])∧bcase ((n6==(0:Int))==(decide ((IntKind.wrap .i64 (d-i))<(64:Int)))) (bcase (n6 !=(0:Int)) (K (.bool true) h4) (K (.bool (n5==(IntKind.wrap .i64 (d+(1:Int))))) h4)) (K (.bool false) h4)
def F6.wL19:Prop:=Lp Tryz.f6 F6.T [1,1,1,1,1,1,1,1,1,1,0,1,0] n [(1,(.int .u8 j)),(6,(.slice b a c)),(8,(.pointer g)),(9,(.int .i64 d)),(13,(.int .i64 i)),(14,(.int .i64 f))] h K
theorem F6.sL19:F6.wL19 (n+1) j b a c g d i f h K=(((70:Int)≠0∧bcase (decide (f≤(IntKind.wrap .i64 (Int.tmod j (70:Int))))) (Cl 36 [.pointer g,.int .i64 f] h fun v1 h2=>ldB (some v1) fun b3=>bcase (!(b3==(decide (f≤d)))) (K (.bool false) h2) (bcase (decide (f≤d)) (F6.wk25 (fun j b a c g d i f h=>F6.wL19 n j b a c g d i f h K) j b a c g d (IntKind.wrap .i64 (i+(1:Int))) f h2 K) (F6.wk25 (fun j b a c g d i f h=>F6.wL19 n j b a c g d i f h K) j b a c g d i f h2 K))) (F6.wk28 b a c g d i h K))):=by kernel_rfl
def F6.wk19:Prop:=(∃m,F6.wL19 m j b a c g d i f h K)
def F6.wk14:Prop:=bcase (decide ((if(64:Int)<d then(64:Int)else d)>(0:Int))) (Cl 36 [.pointer g,.int .i64 1] h fun v1 h2=>ldB (some v1) fun b3=>bcase b3 (K (.bool false) h2) (Cl 37 [.pointer g,.int .i64 (if(if(64:Int)<d then(64:Int)else d)>(1:Int)then(if(64:Int)<d then(64:Int)else d)else(1:Int)),.int .u8 1] h2 fun v4 h5=>ldB (some v4) fun b6=>bcase (!b6) (K (.bool false) h5) (F6.wk19 j b a c g (if(64:Int)<d then(64:Int)else d) (0:Int) (1:Int) h5 K))) (Cl 37 [.pointer g,.int .i64 (if(if(64:Int)<d then(64:Int)else d)>(1:Int)then(if(64:Int)<d then(64:Int)else d)else(1:Int)),.int .u8 1] h fun v7 h8=>ldB (some v7) fun b9=>bcase (!b9) (K (.bool false) h8) (F6.wk19 j b a c g (if(64:Int)<d then(64:Int)else d) (0:Int) (1:Int) h8 K))
def F6.wL9:Prop:=Lp Tryz.f6 F6.T [1,1,1,1,1,1,0,1,0] n [(1,(.int .u8 j)),(6,(.slice b a c)),(8,(.pointer g)),(9,(.int .i64 d)),(10,(.int .i64 l))] h K
theorem F6.sL9:F6.wL9 (n+1) j b a c g d l h K=(bcase (decide (l≤d)) (ptrK b fun a1=>0≤(0:Int)∧(0:Int)<(Nat.cast a:Int)∧ldI .u32 (rd h (a1.add (Int.toNat (0:Int)*1))) fun n2=>Cl 35 [.pointer g,.agg #[.int .i64 1,.int .u32 n2,.int .u32 0,.int .u32 0,.int .u8 0]] h fun v3 h4=> ∃n5:Int,∃n6:Int,v3=(.tuple #[.int .i64 n5,.int .i64 n6])∧bcase (!((n6==(0:Int))==(decide (l≤(64:Int))))) (K (.bool false) h4) (bcase (n6 !=(0:Int)) (bcase (n6 !=(60:Int)) (K (.bool false) h4) (bcase (n5 !=(0:Int)) (K (.bool false) h4) (bcase (n6==(0:Int)) (bcase (n5 !=l) (K (.bool false) h4) (F6.wL9 n j b a c g d (IntKind.wrap .i64 (l+(1:Int))) h4 K)) (F6.wL9 n j b a c g d (IntKind.wrap .i64 (l+(1:Int))) h4 K)))) (bcase (n6==(0:Int)) (bcase (n5 !=l) (K (.bool false) h4) (F6.wL9 n j b a c g d (IntKind.wrap .i64 (l+(1:Int))) h4 K)) (F6.wL9 n j b a c g d (IntKind.wrap .i64 (l+(1:Int))) h4 K)))) (F6.wk14 j b a c g d h K)):=by kernel_rfl
def F6.wk9:Prop:=(∃m,F6.wL9 m j b a c g d l h K)
theorem F6.spec(H:Cl 31 [] h fun v1 h2=>ldB (some v1) fun b3=>bcase (!b3) (K (.bool false) h2) (Cl 33 [.int .i64 1] h2 fun v4 h5=> ∃n6:Int,∃n7:Int,∃n8:Int,∃n9:Int,v4=(.agg #[.int .u64 n6,.int .u64 n7,.int .u64 n8,.int .u64 n9])∧newK h5 (.cells #[.int .u64 n6,.int .u64 n7,.int .u64 n8,.int .u64 n9] 51) fun b10 h11=>Cl 32 [.int .i64 3,.int .i64 200,.slice (some (Addr.mk b10 0 none)) 1 1] h11 fun v12 h13=> ∃p14:Option Addr,∃p15:Option Addr,∃l16:Nat,∃c17:Nat,∃b18:Bool,v12=(.tuple #[.pointer p14,.slice p15 l16 c17,.bool b18])∧bcase (!b18) (K (.bool false) h13) (Cl 34 [.pointer p14,.int .i64 2] h13 fun v19 h20=>ldP (some v19) fun p21=>((80:Int)≠0∧F6.wk9 j p15 l16 c17 p21 (IntKind.wrap .i64 (Int.tmod o (80:Int))) (1:Int) h20 K)))):Cl 6 [.int .u8 o,.int .u8 j] h K:=cT F6.T Tryz.func6 H
end
theorem F58.spec(f:Addr)(g a b c d:Int)(h:Heap)(K:KK)(H:newK h (.cells #[.int .u64 a,.int .u64 b,.int .u64 c,.int .u64 d] 51) fun b1 h2=>Cl 29 [.pointer (some f),.int .u32 g] h2 fun v3 h4=> ∃n5:Int,∃n6:Int,∃n7:Int,∃n8:Int,∃b9:Bool,v3=(.tuple #[.agg #[.int .u64 n5,.int .u64 n6,.int .u64 n7,.int .u64 n8],.bool b9])∧newK h4 (.cells #[.int .u64 0,.int .u64 0,.int .u64 0,.int .u64 0] 51) fun b10 h11=>stK h11 ((Addr.mk b10 0 none).add 0) (.int .u64 n5) fun h12=>stK h12 ((Addr.mk b10 0 none).add 1) (.int .u64 n6) fun h13=>stK h13 ((Addr.mk b10 0 none).add 2) (.int .u64 n7) fun h14=>stK h14 ((Addr.mk b10 0 none).add 3) (.int .u64 n8) fun h15=>bcase b9 (ldI .u64 (rd h15 ((Addr.mk b10 0 none).add 0)) fun n16=>ldI .u64 (rd h15 ((Addr.mk b10 0 none).add 1)) fun n17=>ldI .u64 (rd h15 ((Addr.mk b10 0 none).add 2)) fun n18=>ldI .u64 (rd h15 ((Addr.mk b10 0 none).add 3)) fun n19=>ldI .u64 (rd h15 ((Addr.mk b1 0 none).add 0)) fun n20=>ldI .u64 (rd h15 ((Addr.mk b1 0 none).add 1)) fun n21=>ldI .u64 (rd h15 ((Addr.mk b1 0 none).add 2)) fun n22=>ldI .u64 (rd h15 ((Addr.mk b1 0 none).add 3)) fun n23=>K (.bool (n16==n20&&(n17==n21&&(n18==n22&&(n19==n23&&true))))) h15) (K (.bool false) h15)):Cl 58 [.pointer (some f),.int .u32 g,.agg #[.int .u64 a,.int .u64 b,.int .u64 c,.int .u64 d]] h K:=cN Tryz.func58 H
end
section
section
variable {h:Heap}{p s n room:Nat}{fo gg:Nat→Nat}{off:Bool}{N:List (Option Nd)}{P:PS}{K:Value→Heap→Prop}{L:List Nat}
theorem alike_len{P P':PS}(a:Alike P P'):P'.jobs.length=P.jobs.length:=by
 have:=congrArg List.length a.2.2
 simpa using this
theorem goals_ex{N N':List (Option Nd)}{P P':PS}(GO:GoalsOk N P)(E:Ex N N')(a:Alike P P'):GoalsOk N' P':=fun j hj=>by
 have h1:(j.id,j.G)∈P'.jobs.map fun j=>(j.id,j.G):=List.mem_map.2 ⟨j,hj,rfl⟩
 rw[a.2.2]at h1
 obtain⟨y,hy,e⟩:=List.mem_map.1 h1
 have e2:y.G=j.G:=congrArg Prod.snd e
 obtain⟨g1,g2,g3⟩:=GO y hy
 rw[e2]at g1 g2 g3
 exact⟨E.isN g1,E.isN g2,E.isN g3⟩
structure Wld(h:Heap)(p s n room:Nat)(fo gg:Nat→Nat)(off:Bool)(N:List (Option Nd))(P:PS)(L:List Nat):Prop where
 S:Sto h s L (XL n room fo gg N off)
 H:PoolIs h p s P
 Ok:PoolOk n fo N P
 GO:GoalsOk N P
 D: ∀b,PBl p P b→b∉L
structure Beside(p:Nat)(P:PS)(L:List Nat)(h:Heap)(P':PS)(L':List Nat)(h':Heap):Prop where
 O: ∀T,(∀b,PBl p P b→b∈T)→(∀b∈L,b∈T)→Only T h h'
 F:Fresh L L' h
 B: ∀b,PBl p P' b→PBl p P b∨h.size≤b
theorem Wld.only0{h':Heap}(W:Wld h p s n room fo gg off N P L)(O:Only [] h h'):Wld h' p s n room fo gg off N P L:=⟨W.S.only0 O,W.H.only0 O,W.Ok,W.GO,W.D⟩
theorem wld_pick(W:Wld h p s n room fo gg off N P L){who draw:Int}
  (hOut:who<0∨(P.ws.length:Int)≤who→K (.bool false) h)
  (hK: ∀h' L' N' P' b (w:Nat) (k:Wk),who=(w:Int)→P.ws[w]? =some k→Wld h' p s n room fo gg off N' P' L'→Picked n fo room N N' P P'→(b=true→locs P.ws≠[])→(phi n N' P'+1≤phi n N P∨(k.job=0∧k.q=[]∧WsEq P.ws P'.ws))→Beside p P L h P' L' h'→K (.bool b) h'):
  Cl 81 [ptrV p,.int .i64 who,.int .i64 draw] h K:=
 pick81 W.S W.H W.Ok W.GO W.D hOut fun h' L' N' P' b w k e1 e2 S' H' D' Pk e3 e4 O' F' B'=>hK h' L' N' P' b w k e1 e2 ⟨S',H',Pk.ok,goals_ex W.GO Pk.ex Pk.alike,D'⟩ Pk e3 e4 ⟨O',F',B'⟩
end
end
section
structure Cal where
 kind:Int
 op:Int
 dst:Int
 a:Int
 b:Int
 c:Int
 mask:Nat
structure Ses where
 there:Nat→Bool
 hnd:Nat→Nat
 cal:Cal
 pend:Bool
 job:Nat
 err:Int
 num:Nat
 ansd:Bool
structure Eng where
 s:Nat
 p:Nat
 r:Nat
 ses:Nat→Ses
 ans:Nat
def upN{α:Type}(f:Nat→α)(i:Nat)(x:α):Nat→α:=fun k=>if k=i then x else f k
theorem upN_eq{α:Type}{f:Nat→α}{i:Nat}{x:α}:upN f i x i=x:=if_pos rfl
theorem upN_ne{α:Type}{f:Nat→α}{i k:Nat}{x:α}(h:k≠i):upN f i x k=f k:=if_neg h
def Eng.put(E:Eng)(i:Nat)(x:Ses):Eng:={E with ses:=upN E.ses i x}
def cC(c:Cal):Nat→Value
 |0=> .int .i64 c.kind
 |1=> .int .i64 c.op
 |2=> .int .i64 c.dst
 |3=> .int .i64 c.a
 |4=> .int .i64 c.b
 |5=> .int .i64 c.c
 |_=> .int .u8 (c.mask:Int)
def sC(x:Ses)(j:Nat):Value:=
 if j<12 then(if j%2=0 then .bool (x.there (j/2))else .int .u32 (x.hnd (j/2):Int))else
 if j<19 then cC x.cal (j-12)else
 if j=19 then .bool x.pend else if j=20 then .int .i64 (x.job:Int)else if j=21 then .int .i64 x.err else
 if j=22 then .int .u64 (x.num:Int)else .bool x.ansd
def eC(E:Eng)(k:Nat):Value:=
 if k=0 then ptrV E.s else if k=1 then ptrV E.p else if k=2 then ptrV E.r else if k=99 then .int .i64 (E.ans:Int)else
 sC (E.ses ((k-3)/24)) ((k-3)%24)
def EIs(h:Heap)(e:Nat)(E:Eng):Prop:=At h e (rowV 100 (eC E))
theorem cC_one{c:Cal}(j:Nat):(cC c j).oneCell'=true:=by
 unfold cC;split<;>rfl
theorem sC_one{x:Ses}(j:Nat):(sC x j).oneCell'=true:=by
 unfold sC
 split
 ·split<;>rfl
 ·split
  ·exact cC_one _
  ·repeat' split
   all_goals rfl
theorem EIs.rd{h:Heap}{e k:Nat}{E:Eng}(H:EIs h e E)(hk:k<100):Ev.rd h ⟨e,k,none⟩=some (eC E k):=by
 rw[At.rd H,rowV_get hk]
theorem eC_ses{E:Eng}{i j:Nat}(hi:i<4)(hj:j<24):eC E (3+24*i+j)=sC (E.ses i) j:=by
 unfold eC
 rw[if_neg (by omega),if_neg (by omega),if_neg (by omega),if_neg (by omega),show(3+24*i+j-3)/24=i by omega,show(3+24*i+j-3)%24=j by omega]
theorem EIs.rdS{h:Heap}{e i j k:Nat}{E:Eng}(H:EIs h e E)(hi:i<4)(hj:j<24)(hk:k=3+24*i+j):Ev.rd h ⟨e,k,none⟩=some (sC (E.ses i) j):=by
 subst hk
 rw[H.rd (by omega),eC_ses hi hj]
theorem sC_there{x:Ses}{r:Nat}(hr:r<6):sC x (2*r)= .bool (x.there r):=by
 unfold sC
 rw[if_pos (by omega),if_pos (by omega),show 2*r/2=r by omega]
theorem sC_hnd{x:Ses}{r:Nat}(hr:r<6):sC x (2*r+1)= .int .u32 (x.hnd r:Int):=by
 unfold sC
 rw[if_pos (by omega),if_neg (by omega),show(2*r+1)/2=r by omega]
theorem eC_put{E:Eng}{i:Nat}{x:Ses}{q:Nat}(h:q<100):eC (E.put i x) q=if 3≤q∧q<99∧(q-3)/24=i then sC x ((q-3)%24)else eC E q:=by
 unfold eC Eng.put
 by_cases h0:q=0
 ·rw[if_pos h0,if_pos h0,if_neg (by omega)]
 by_cases h1:q=1
 ·rw[if_neg h0,if_neg h0,if_pos h1,if_pos h1,if_neg (by omega)]
 by_cases h2:q=2
 ·rw[if_neg h0,if_neg h0,if_neg h1,if_neg h1,if_pos h2,if_pos h2,if_neg (by omega)]
 by_cases h3:q=99
 ·rw[if_neg h0,if_neg h0,if_neg h1,if_neg h1,if_neg h2,if_neg h2,if_pos h3,if_pos h3,if_neg (by omega)]
 rw[if_neg h0,if_neg h0,if_neg h1,if_neg h1,if_neg h2,if_neg h2,if_neg h3,if_neg h3]
 by_cases hq:(q-3)/24=i
 ·rw[if_pos (by omega)]
  show sC (upN E.ses i x ((q-3)/24)) _=_
  rw[hq,upN_eq]
 ·rw[if_neg (by omega)]
  show sC (upN E.ses i x ((q-3)/24)) _=_
  rw[upN_ne hq]
theorem EIs.setS{h:Heap}{e i j k:Nat}{E:Eng}{x:Ses}{v:Value}{K:Heap→Prop}(H:EIs h e E)(hi:i<4)(hj:j<24)(hk:k=3+24*i+j)(hv:v.oneCell'=true)
  (hx: ∀q,q<24→sC x q=if q=j then v else sC (E.ses i) q) (hK: ∀h',EIs h' e (E.put i x)→Only [e] h h'→h'.size=h.size→K h'):stK h ⟨e,k,none⟩ v K:=by
 subst hk
 refine stK_at H (by rw[rowV_len];omega) hv fun h' A O z=>hK h' ?_ O z
 unfold EIs
 rw[rowV_set]at A
 rw[rowV_ext (g':=fun q=>if q=3+24*i+j then v else eC E q) fun q hq=> ?_]
 ·exact A
 ·rw[eC_put hq]
  by_cases hc:3≤q∧q<99∧(q-3)/24=i
  ·rw[if_pos hc,hx _ (by omega)]
   by_cases hh:(q-3)%24=j
   ·rw[if_pos hh,if_pos (by omega)]
   ·rw[if_neg hh,if_neg (by omega),←eC_ses (E:=E) hi (by omega)]
    congr 1
    omega
  ·rw[if_neg hc,if_neg (by omega)]
theorem EIs.setA{h:Heap}{e n:Nat}{E:Eng}{K:Heap→Prop}(H:EIs h e E)(hK: ∀h',EIs h' e {E with ans:=n}→Only [e] h h'→h'.size=h.size→K h'):stK h ⟨e,99,none⟩ (.int .i64 (n:Int)) K:=by
 refine stK_at H (by rw[rowV_len];omega) rfl fun h' A O z=>hK h' ?_ O z
 unfold EIs
 rw[rowV_set]at A
 rw[rowV_ext (g':=fun q=>if q=99 then .int .i64 (n:Int)else eC E q) fun q hq=> ?_]
 ·exact A
 ·unfold eC
  by_cases h3:q=99
  ·rw[if_pos h3];subst h3;rfl
  ·rw[if_neg h3,if_neg h3,if_neg h3]
theorem EIs.only{h h':Heap}{e:Nat}{E:Eng}{S:List Nat}(H:EIs h e E)(O:Only S h h')(he:e∉S):EIs h' e E:=At.only H O he
theorem EIs.only0{h h':Heap}{e:Nat}{E:Eng}(H:EIs h e E)(O:Only [] h h'):EIs h' e E:=H.only O (by simp)
theorem sC_pend{x:Ses}{b:Bool}: ∀q,q<24→sC {x with pend:=b} q=if q=19 then .bool b else sC x q:=fun q hq=>by
 unfold sC
 by_cases h:q=19
 ·subst h;rfl
 ·rw[if_neg h,if_neg h,if_neg h]
theorem sC_job{x:Ses}{n:Nat}: ∀q,q<24→sC {x with job:=n} q=if q=20 then .int .i64 (n:Int)else sC x q:=fun q hq=>by
 unfold sC
 by_cases h:q=20
 ·subst h;rfl
 ·rw[if_neg h,if_neg h,if_neg h]
theorem sC_err{x:Ses}{n:Int}: ∀q,q<24→sC {x with err:=n} q=if q=21 then .int .i64 n else sC x q:=fun q hq=>by
 unfold sC
 by_cases h:q=21
 ·subst h;rfl
 ·rw[if_neg h,if_neg h,if_neg h]
theorem sC_num{x:Ses}{n:Nat}: ∀q,q<24→sC {x with num:=n} q=if q=22 then .int .u64 (n:Int)else sC x q:=fun q hq=>by
 unfold sC
 by_cases h:q=22
 ·subst h;rfl
 ·rw[if_neg h,if_neg h,if_neg h]
theorem sC_ansd{x:Ses}{b:Bool}: ∀q,q<24→sC {x with ansd:=b} q=if q=23 then .bool b else sC x q:=fun q hq=>by
 unfold sC
 by_cases h:q=23
 ·subst h;rfl
 ·rw[if_neg h]
  repeat' split
  all_goals first|rfl|omega
theorem sC_cal{x:Ses}{c:Cal}{j:Nat}{v:Value}(hj:j<7)(hc: ∀q,q<7→cC c q=if q=j then v else cC x.cal q): ∀q,q<24→sC {x with cal:=c} q=if q=12+j then v else sC x q:=fun q hq=>by
 unfold sC
 by_cases h:q<12
 ·rw[if_pos h,if_pos h,if_neg (show ¬q=12+j by omega)]
 ·rw[if_neg h,if_neg h]
  by_cases h2:q<19
  ·rw[if_pos h2,if_pos h2,hc _ (by omega)]
   by_cases h3:q-12=j
   ·rw[if_pos h3,if_pos (show q=12+j by omega)]
   ·rw[if_neg h3,if_neg (show ¬q=12+j by omega)]
  ·rw[if_neg h2,if_neg h2,if_neg (show ¬q=12+j by omega)]
theorem sC_sett{x:Ses}{r:Nat}{b:Bool}(hr:r<6): ∀q,q<24→sC {x with there:=upN x.there r b} q=if q=2*r then .bool b else sC x q:=fun q hq=>by
 by_cases h:q=2*r
 ·subst h;rw[sC_there hr,if_pos rfl];show Value.bool (upN _ _ _ _)=_;rw[upN_eq]
 ·rw[if_neg h]
  unfold sC
  by_cases h1:q<12
  ·rw[if_pos h1,if_pos h1]
   by_cases h2:q%2=0
   ·rw[if_pos h2,if_pos h2];show Value.bool (upN _ _ _ _)=_;rw[upN_ne (by omega)]
   ·rw[if_neg h2,if_neg h2]
  ·rw[if_neg h1,if_neg h1]
theorem sC_seth{x:Ses}{r n:Nat}(hr:r<6): ∀q,q<24→sC {x with hnd:=upN x.hnd r n} q=if q=2*r+1 then .int .u32 (n:Int)else sC x q:=fun q hq=>by
 by_cases h:q=2*r+1
 ·subst h;rw[sC_hnd hr,if_pos rfl];show Value.int .u32 ((upN _ _ _ _:Nat):Int)=_;rw[upN_eq]
 ·rw[if_neg h]
  unfold sC
  by_cases h1:q<12
  ·rw[if_pos h1,if_pos h1]
   by_cases h2:q%2=0
   ·rw[if_pos h2,if_pos h2]
   ·rw[if_neg h2,if_neg h2];show Value.int .u32 ((upN _ _ _ _:Nat):Int)=_;rw[upN_ne (by omega)]
  ·rw[if_neg h1,if_neg h1]
theorem upN_upN{α:Type}{f:Nat→α}{i:Nat}{x y:α}:upN (upN f i x) i y=upN f i y:=by
 funext k
 by_cases h:k=i
 ·rw[h,upN_eq,upN_eq]
 ·rw[upN_ne h,upN_ne h,upN_ne h]
theorem put_put{E:Eng}{i:Nat}{x y:Ses}:(E.put i x).put i y=E.put i y:=by
 unfold Eng.put
 rw[upN_upN]
theorem put_ses{E:Eng}{i:Nat}{x:Ses}:(E.put i x).ses i=x:=upN_eq
theorem put_self{E:Eng}{i:Nat}:E.put i (E.ses i)=E:=by
 unfold Eng.put
 have:upN E.ses i (E.ses i)=E.ses:=by
  funext k
  unfold upN
  by_cases h:k=i
  ·rw[if_pos h,h]
  ·rw[if_neg h]
 rw[this]
section
variable {h:Heap}{e i k:Nat}{E:Eng}(H:EIs h e E)(hi:i<4)
include H hi
theorem EIs.kind(hk:k=3+24*i+12):Ev.rd h ⟨e,k,none⟩=some (.int .i64 (E.ses i).cal.kind):=H.rdS hi (j:=12) (by omega) hk
theorem EIs.op(hk:k=3+24*i+13):Ev.rd h ⟨e,k,none⟩=some (.int .i64 (E.ses i).cal.op):=H.rdS hi (j:=13) (by omega) hk
theorem EIs.dst(hk:k=3+24*i+14):Ev.rd h ⟨e,k,none⟩=some (.int .i64 (E.ses i).cal.dst):=H.rdS hi (j:=14) (by omega) hk
theorem EIs.ca(hk:k=3+24*i+15):Ev.rd h ⟨e,k,none⟩=some (.int .i64 (E.ses i).cal.a):=H.rdS hi (j:=15) (by omega) hk
theorem EIs.cb(hk:k=3+24*i+16):Ev.rd h ⟨e,k,none⟩=some (.int .i64 (E.ses i).cal.b):=H.rdS hi (j:=16) (by omega) hk
theorem EIs.cc(hk:k=3+24*i+17):Ev.rd h ⟨e,k,none⟩=some (.int .i64 (E.ses i).cal.c):=H.rdS hi (j:=17) (by omega) hk
theorem EIs.mask(hk:k=3+24*i+18):Ev.rd h ⟨e,k,none⟩=some (.int .u8 ((E.ses i).cal.mask:Int)):=H.rdS hi (j:=18) (by omega) hk
theorem EIs.pend(hk:k=3+24*i+19):Ev.rd h ⟨e,k,none⟩=some (.bool (E.ses i).pend):=H.rdS hi (j:=19) (by omega) hk
theorem EIs.err(hk:k=3+24*i+21):Ev.rd h ⟨e,k,none⟩=some (.int .i64 (E.ses i).err):=H.rdS hi (j:=21) (by omega) hk
theorem EIs.num(hk:k=3+24*i+22):Ev.rd h ⟨e,k,none⟩=some (.int .u64 ((E.ses i).num:Int)):=H.rdS hi (j:=22) (by omega) hk
theorem EIs.ansd(hk:k=3+24*i+23):Ev.rd h ⟨e,k,none⟩=some (.bool (E.ses i).ansd):=H.rdS hi (j:=23) (by omega) hk
theorem EIs.thr{r:Nat}(hr:r<6)(hk:k=3+24*i+2*r):Ev.rd h ⟨e,k,none⟩=some (.bool ((E.ses i).there r)):=by rw[H.rdS hi (j:=2*r) (by omega) hk,sC_there hr]
theorem EIs.hnd{r:Nat}(hr:r<6)(hk:k=3+24*i+(2*r+1)):Ev.rd h ⟨e,k,none⟩=some (.int .u32 ((E.ses i).hnd r:Int)):=by rw[H.rdS hi (j:=2*r+1) (by omega) hk,sC_hnd hr]
end
theorem EIs.s{h:Heap}{e:Nat}{E:Eng}(H:EIs h e E):Ev.rd h ⟨e,0,none⟩=some (ptrV E.s):=H.rd (by omega)
theorem EIs.p{h:Heap}{e:Nat}{E:Eng}(H:EIs h e E):Ev.rd h ⟨e,1,none⟩=some (ptrV E.p):=H.rd (by omega)
theorem EIs.r{h:Heap}{e:Nat}{E:Eng}(H:EIs h e E):Ev.rd h ⟨e,2,none⟩=some (ptrV E.r):=H.rd (by omega)
theorem EIs.ans{h:Heap}{e:Nat}{E:Eng}(H:EIs h e E):Ev.rd h ⟨e,99,none⟩=some (.int .i64 (E.ans:Int)):=H.rd (by omega)
end
section
theorem F18.spec(a b c:Int)(h:Heap)(K:KK)(H:Cl 61 [.int .i64 a,.int .i64 b] h fun v1 h2=> ∃p3:Option Addr,∃n4:Int,v1=(.tuple #[.pointer p3,.int .i64 n4])∧bcase (n4 !=(0:Int)) (K (.tuple #[.pointer none,.int .i64 n4]) h2) (Cl 34 [.pointer p3,.int .i64 c] h2 fun v5 h6=>ldP (some v5) fun p7=>Cl 68 [.pointer p7] h6 fun v8 h9=>ldI .i64 (some v8) fun n10=>Cl 67 [.int .i64 n10] h9 fun v11 h12=>ldP (some v11) fun p13=>newK h12 (.cells #[.pointer p3,.pointer p7,.pointer p13,.bool false,.int .u32 0,.bool false,.int .u32 0,.bool false,.int .u32 0,.bool false,.int .u32 0,.bool false,.int .u32 0,.bool false,.int .u32 0,.int .i64 0,.int .i64 0,.int .i64 0,.int .i64 0,.int .i64 0,.int .i64 0,.int .u8 0,.bool false,.int .i64 0,.int .i64 0,.int .u64 0,.bool false,.bool false,.int .u32 0,.bool false,.int .u32 0,.bool false,.int .u32 0,.bool false,.int .u32 0,.bool false,.int .u32 0,.bool false,.int .u32 0,.int .i64 0,.int .i64 0,.int .i64 0,.int .i64 0,.int .i64 0,.int .i64 0,.int .u8 0,.bool false,.int .i64 0,.int .i64 0,.int .u64 0,.bool false,.bool false,.int .u32 0,.bool false,.int .u32 0,.bool false,.int .u32 0,.bool false,.int .u32 0,.bool false,.int .u32 0,.bool false,.int .u32 0,.int .i64 0,.int .i64 0,.int .i64 0,.int .i64 0,.int .i64 0,.int .i64 0,.int .u8 0,.bool false,.int .i64 0,.int .i64 0,.int .u64 0,.bool false,.bool false,.int .u32 0,.bool false,.int .u32 0,.bool false,.int .u32 0,.bool false,.int .u32 0,.bool false,.int .u32 0,.bool false,.int .u32 0,.int .i64 0,.int .i64 0,.int .i64 0,.int .i64 0,.int .i64 0,.int .i64 0,.int .u8 0,.bool false,.int .i64 0,.int .i64 0,.int .u64 0,.bool false,.int .i64 0] 132) fun b14 h15=>K (.tuple #[.pointer (some (Addr.mk b14 0 none)),.int .i64 0]) h15)):Cl 18 [.int .i64 a,.int .i64 b,.int .i64 c] h K:=cN Tryz.func18 H
theorem F23.spec(a:Addr)(h:Heap)(K:KK)(H:ldP (rd h (a.add 0)) fun p1=>K (.pointer p1) h):Cl 23 [.pointer (some a)] h K:=cN Tryz.func23 H
theorem F24.spec(j:Addr)(l a b c d f g i:Int)(h:Heap)(K:KK)(H:newK h (.cells #[.int .i64 a,.int .i64 b,.int .i64 c,.int .i64 d,.int .i64 f,.int .i64 g,.int .u8 i] 41) fun b1 h2=>Cl 76 [.pointer (some j),.int .i64 l] h2 fun v3 h4=>ldP (some v3) fun p5=>bcase (Option.isNone p5) (K (.int .i64 222) h4) (ptrK p5 fun a6=>ldB (rd h4 (a6.add 19)) fun b7=>bcase b7 (K (.int .i64 220) h4) (ldI .i64 (rd h4 ((Addr.mk b1 0 none).add 0)) fun n8=>ldI .i64 (rd h4 ((Addr.mk b1 0 none).add 1)) fun n9=>ldI .i64 (rd h4 ((Addr.mk b1 0 none).add 2)) fun n10=>ldI .i64 (rd h4 ((Addr.mk b1 0 none).add 3)) fun n11=>ldI .i64 (rd h4 ((Addr.mk b1 0 none).add 4)) fun n12=>ldI .i64 (rd h4 ((Addr.mk b1 0 none).add 5)) fun n13=>ldI .u8 (rd h4 ((Addr.mk b1 0 none).add 6)) fun n14=>Cl 77 [.pointer (some j),.pointer p5,.agg #[.int .i64 n8,.int .i64 n9,.int .i64 n10,.int .i64 n11,.int .i64 n12,.int .i64 n13,.int .u8 n14]] h4 fun v15 h16=>ldI .i64 (some v15) fun n17=>bcase (n17 !=(0:Int)) (K (.int .i64 n17) h16) (ldI .i64 (rd h16 ((Addr.mk b1 0 none).add 0)) fun n18=>ldI .i64 (rd h16 ((Addr.mk b1 0 none).add 1)) fun n19=>ldI .i64 (rd h16 ((Addr.mk b1 0 none).add 2)) fun n20=>ldI .i64 (rd h16 ((Addr.mk b1 0 none).add 3)) fun n21=>ldI .i64 (rd h16 ((Addr.mk b1 0 none).add 4)) fun n22=>ldI .i64 (rd h16 ((Addr.mk b1 0 none).add 5)) fun n23=>ldI .u8 (rd h16 ((Addr.mk b1 0 none).add 6)) fun n24=>ptrK p5 fun a25=>stK h16 ((a25.add 12).add 0) (.int .i64 n18) fun h26=>stK h26 ((a25.add 12).add 1) (.int .i64 n19) fun h27=>stK h27 ((a25.add 12).add 2) (.int .i64 n20) fun h28=>stK h28 ((a25.add 12).add 3) (.int .i64 n21) fun h29=>stK h29 ((a25.add 12).add 4) (.int .i64 n22) fun h30=>stK h30 ((a25.add 12).add 5) (.int .i64 n23) fun h31=>stK h31 ((a25.add 12).add 6) (.int .u8 n24) fun h32=>ptrK p5 fun a33=>stK h32 ((a33.add 19).add 0) (.bool true) fun h34=>ptrK p5 fun a35=>stK h34 ((a35.add 20).add 0) (.int .i64 0) fun h36=>K (.int .i64 0) h36)))):Cl 24 [.pointer (some j),.int .i64 l,.agg #[.int .i64 a,.int .i64 b,.int .i64 c,.int .i64 d,.int .i64 f,.int .i64 g,.int .u8 i]] h K:=cN Tryz.func24 H
def F26.T:Hint:=⟨[(4,[0,1,2,23]),(11,[0,1,2])],[]⟩
section
variable (n:Nat)(b:Addr)(c d a:Int)(h:Heap)(K:KK)
def F26.wk11:Prop:=Cl 80 [.pointer (some b)] h fun v1 h2=>v1=(.tuple #[])∧ldP (rd h2 (b.add 1)) fun p3=>Cl 81 [.pointer p3,.int .i64 c,.int .i64 d] h2 fun v4 h5=>ldB (some v4) fun _=>K (.bool true) h5
def F26.wL4:Prop:=Lp Tryz.f26 F26.T [1,1,0,1,0] n [(0,(.pointer (some b))),(1,(.int .i64 c)),(2,(.int .i64 d)),(23,(.int .i64 a))] h K
theorem F26.sL4:F26.wL4 (n+1) b c d a h K=(bcase (decide (a<(4:Int))) ((0≤a∧a<(Nat.cast 4:Int)∧ldB (rd h (((b.add 3).add (Int.toNat a*24)).add 19)) fun b1=>bcase b1 (ldI .i64 (rd h ((((b.add 3).add (Int.toNat a*24)).add 12).add 0)) fun n2=>ldI .i64 (rd h ((((b.add 3).add (Int.toNat a*24)).add 12).add 1)) fun n3=>ldI .i64 (rd h ((((b.add 3).add (Int.toNat a*24)).add 12).add 2)) fun n4=>ldI .i64 (rd h ((((b.add 3).add (Int.toNat a*24)).add 12).add 3)) fun n5=>ldI .i64 (rd h ((((b.add 3).add (Int.toNat a*24)).add 12).add 4)) fun n6=>ldI .i64 (rd h ((((b.add 3).add (Int.toNat a*24)).add 12).add 5)) fun n7=>ldI .u8 (rd h ((((b.add 3).add (Int.toNat a*24)).add 12).add 6)) fun n8=>Cl 79 [.pointer (some b),.agg #[.int .i64 n2,.int .i64 n3,.int .i64 n4,.int .i64 n5,.int .i64 n6,.int .i64 n7,.int .u8 n8]] h fun v9 h10=>ldV (some v9) fun v11=>dynK Tryz.prog X v11 [.pointer (some ((b.add 3).add (Int.toNat a*24)))] h10 fun v12 h13=>ldB (some v12) fun _=>F26.wL4 n b c d (IntKind.wrap .i64 (a+(1:Int))) h13 K) (F26.wL4 n b c d (IntKind.wrap .i64 (a+(1:Int))) h K))) (F26.wk11 b c d h K)):=by kernel_rfl
def F26.wk4:Prop:=(∃m,F26.wL4 m b c d a h K)
theorem F26.spec(H:bcase (decide (c<(0:Int))) (K (.bool false) h) (Cl 27 [.pointer (some b)] h fun v1 h2=>ldI .i64 (some v1) fun n3=>bcase (decide (c≥n3)) (K (.bool false) h2) (Cl 78 [.pointer (some b)] h2 fun v4 h5=>ldB (some v4) fun b6=>bcase (!b6) (K (.bool false) h5) (F26.wk4 b c d (0:Int) h5 K)))):Cl 26 [.pointer (some b),.int .i64 c,.int .i64 d] h K:=cT F26.T Tryz.func26 H
end
theorem F27.spec(a:Addr)(h:Heap)(K:KK)(H:ldP (rd h (a.add 1)) fun p1=>Cl 68 [.pointer p1] h fun v2 h3=>ldI .i64 (some v2) fun n4=>K (.int .i64 n4) h3):Cl 27 [.pointer (some a)] h K:=cN Tryz.func27 H
def F28.T:Hint:=⟨[],[(4,[[(0,[]),(1,[]),(2,[]),(3,[]),(4,[]),(5,[]),(6,[]),(7,[]),(8,[]),(9,[]),(10,[]),(11,[]),(12,[]),(13,[]),(14,[]),(15,[])]])]⟩
theorem F28.spec(b:Addr)(c a:Int)(h:Heap)(K:KK)(H:Cl 76 [.pointer (some b),.int .i64 c] h fun v1 h2=>ldP (some v1) fun p3=>bcase (Option.isNone p3) (K (.tuple #[.int .u32 0,.bool false]) h2) (Cl 82 [.int .i64 a] h2 fun v4 h5=>ldB (some v4) fun b6=>bcase (!b6) (K (.tuple #[.int .u32 0,.bool false]) h5) (ptrK p3 fun a7=>0≤a∧a<(Nat.cast 6:Int)∧ldI .u32 (rd h5 (((a7.add 0).add (Int.toNat a*2)).add 1)) fun n8=>ptrK p3 fun a9=>0≤a∧a<(Nat.cast 6:Int)∧ldB (rd h5 (((a9.add 0).add (Int.toNat a*2)).add 0)) fun b10=>K (.tuple #[.int .u32 n8,.bool b10]) h5))):Cl 28 [.pointer (some b),.int .i64 c,.int .i64 a] h K:=cT F28.T Tryz.func28 H
theorem F43.spec(a:Addr)(b:Int)(h:Heap)(K:KK)(H:newK h (.cells #[.int .i64 0,.int .u64 0] 76) fun b1 h2=>Cl 76 [.pointer (some a),.int .i64 b] h2 fun v3 h4=>ldP (some v3) fun p5=>bcase (Option.isNone p5) (stK h4 ((Addr.mk b1 0 none).add 0) (.int .i64 0) fun h6=>stK h6 ((Addr.mk b1 0 none).add 1) (.int .u64 0) fun h7=>ldI .i64 (rd h7 ((Addr.mk b1 0 none).add 0)) fun n8=>ldI .u64 (rd h7 ((Addr.mk b1 0 none).add 1)) fun n9=>K (.tuple #[.agg #[.int .i64 n8,.int .u64 n9],.bool false]) h7) (ptrK p5 fun a10=>ldB (rd h4 (a10.add 23)) fun b11=>bcase (!b11) (stK h4 ((Addr.mk b1 0 none).add 0) (.int .i64 0) fun h12=>stK h12 ((Addr.mk b1 0 none).add 1) (.int .u64 0) fun h13=>ldI .i64 (rd h13 ((Addr.mk b1 0 none).add 0)) fun n14=>ldI .u64 (rd h13 ((Addr.mk b1 0 none).add 1)) fun n15=>K (.tuple #[.agg #[.int .i64 n14,.int .u64 n15],.bool false]) h13) (ptrK p5 fun a16=>ldI .i64 (rd h4 ((a16.add 21).add 0)) fun n17=>ldI .u64 (rd h4 ((a16.add 21).add 1)) fun n18=>stK h4 ((Addr.mk b1 0 none).add 0) (.int .i64 n17) fun h19=>stK h19 ((Addr.mk b1 0 none).add 1) (.int .u64 n18) fun h20=>ldI .i64 (rd h20 ((Addr.mk b1 0 none).add 0)) fun n21=>ldI .u64 (rd h20 ((Addr.mk b1 0 none).add 1)) fun n22=>K (.tuple #[.agg #[.int .i64 n21,.int .u64 n22],.bool true]) h20))):Cl 43 [.pointer (some a),.int .i64 b] h K:=cN Tryz.func43 H
theorem F54.spec(a:Addr)(h:Heap)(K:KK)(H:ldI .i64 (rd h (a.add 99)) fun n1=>K (.int .i64 n1) h):Cl 54 [.pointer (some a)] h K:=cN Tryz.func54 H
theorem F56.spec(a:Addr)(b:Int)(h:Heap)(K:KK)(H:Cl 76 [.pointer (some a),.int .i64 b] h fun v1 h2=>ldP (some v1) fun p3=>bcase (!(Option.isNone p3)) (ptrK p3 fun a4=>ldB (rd h2 (a4.add 19)) fun b5=>K (.bool b5) h2) (K (.bool false) h2)):Cl 56 [.pointer (some a),.int .i64 b] h K:=cN Tryz.func56 H
theorem F76.spec(b:Addr)(a:Int)(h:Heap)(K:KK)(H:bcase (decide (a<(0:Int))) (K (.pointer none) h) (bcase (decide (a≥(4:Int))) (K (.pointer none) h) ((0≤a∧a<(Nat.cast 4:Int)∧K (.pointer (some ((b.add 3).add (Int.toNat a*24)))) h)))):Cl 76 [.pointer (some b),.int .i64 a] h K:=cN Tryz.func76 H
def F77.T:Hint:=⟨[(6,[0,1,5,28,29,30]),(11,[0,5])],[(11,[[(0,[]),(1,[]),(2,[]),(3,[]),(4,[]),(5,[]),(6,[]),(7,[0,1,2]),(8,[]),(9,[]),(10,[])]]),(12,[[(0,[]),(1,[]),(2,[]),(3,[]),(4,[]),(5,[]),(6,[]),(7,[0,1,2]),(8,[]),(9,[])]])]⟩
section
variable (n:Nat)(i j:Addr)(l o q r s t u:Int)(a:Addr)(c:Option Addr)(b f:Nat)(g d:Int)(h:Heap)(K:KK)
def F77.wk11:Prop:=ldI .u8 (rd h (a.add 6)) fun n1=>ldP (rd h (i.add 0)) fun p2=>Cl 75 [.pointer p2] h fun v3 h4=>ldI .i64 (some v3) fun n5=>((.pointer (some (a.add 6)))=((.pointer (some (a.add 6))):Value)∧ldI .u8 (rd h4 (a.add 6)) fun n6=>((.int .u8 n6)=((.int .u8 n1):Value)∧((.int .i64 (IntKind.wrap .i64 n1))=((.int .i64 (IntKind.wrap .i64 n1)):Value)∧(0≤n5∧ldI .u8 (rd h4 (a.add 6)) fun n7=>ldP (rd h4 (i.add 0)) fun p8=>Cl 75 [.pointer p8] h4 fun v9 h10=>ldI .i64 (some v9) fun n11=>((.pointer (some (a.add 6)))=((.pointer (some (a.add 6))):Value)∧ldI .u8 (rd h10 (a.add 6)) fun n12=>((.int .u8 n12)=((.int .u8 n7):Value)∧((.int .i64 (IntKind.wrap .i64 n7))=((.int .i64 (IntKind.wrap .i64 n7)):Value)∧ldI .i64 (rd h10 (a.add 0)) fun n13=>bcase (n13==(3:Int)) (ldI .i64 (rd h10 (a.add 1)) fun n14=>Cl 122 [.int .i64 n14] h10 fun v15 h16=>ldI .i64 (some v15) fun n17=>bcase (n17==(0:Int)) (K (.int .i64 200) h16) (ldI .i64 (rd h16 (a.add 0)) fun n18=>bcase (n18==(1:Int)) (bcase (decide ((IntKind.wrap .i64 n7)≥n11)) (bcase (decide ((IntKind.wrap .i64 n7)≥n11)) (K (.int .i64 40) h16) (ldI .i64 (rd h16 (a.add 0)) fun n19=>bcase (n19==(3:Int)) (ldI .i64 (rd h16 (a.add 1)) fun n20=>bcase (n20==(6:Int)) (bcase ((Int.fdiv (IntKind.wrap .i64 n1) (2^(min (Int.toNat n5) (IntKind.bits .i64)))) !=(0:Int)) (K (.int .i64 40) h16) (K (.int .i64 0) h16)) (ldI .i64 (rd h16 (a.add 1)) fun n21=>bcase (n21==(7:Int)) (bcase ((Int.fdiv (IntKind.wrap .i64 n1) (2^(min (Int.toNat n5) (IntKind.bits .i64)))) !=(0:Int)) (K (.int .i64 40) h16) (K (.int .i64 0) h16)) (K (.int .i64 0) h16))) (K (.int .i64 0) h16))) (ldI .i64 (rd h16 (a.add 0)) fun n22=>bcase (n22==(3:Int)) (ldI .i64 (rd h16 (a.add 1)) fun n23=>bcase (n23==(8:Int)) (bcase (decide ((IntKind.wrap .i64 n7)≥n11)) (K (.int .i64 40) h16) (ldI .i64 (rd h16 (a.add 0)) fun n24=>bcase (n24==(3:Int)) (ldI .i64 (rd h16 (a.add 1)) fun n25=>bcase (n25==(6:Int)) (bcase ((Int.fdiv (IntKind.wrap .i64 n1) (2^(min (Int.toNat n5) (IntKind.bits .i64)))) !=(0:Int)) (K (.int .i64 40) h16) (K (.int .i64 0) h16)) (ldI .i64 (rd h16 (a.add 1)) fun n26=>bcase (n26==(7:Int)) (bcase ((Int.fdiv (IntKind.wrap .i64 n1) (2^(min (Int.toNat n5) (IntKind.bits .i64)))) !=(0:Int)) (K (.int .i64 40) h16) (K (.int .i64 0) h16)) (K (.int .i64 0) h16))) (K (.int .i64 0) h16))) (ldI .i64 (rd h16 (a.add 0)) fun n27=>bcase (n27==(3:Int)) (ldI .i64 (rd h16 (a.add 1)) fun n28=>bcase (n28==(6:Int)) (bcase ((Int.fdiv (IntKind.wrap .i64 n1) (2^(min (Int.toNat n5) (IntKind.bits .i64)))) !=(0:Int)) (K (.int .i64 40) h16) (K (.int .i64 0) h16)) (ldI .i64 (rd h16 (a.add 1)) fun n29=>bcase (n29==(7:Int)) (bcase ((Int.fdiv (IntKind.wrap .i64 n1) (2^(min (Int.toNat n5) (IntKind.bits .i64)))) !=(0:Int)) (K (.int .i64 40) h16) (K (.int .i64 0) h16)) (K (.int .i64 0) h16))) (K (.int .i64 0) h16))) (ldI .i64 (rd h16 (a.add 0)) fun n30=>bcase (n30==(3:Int)) (ldI .i64 (rd h16 (a.add 1)) fun n31=>bcase (n31==(6:Int)) (bcase ((Int.fdiv (IntKind.wrap .i64 n1) (2^(min (Int.toNat n5) (IntKind.bits .i64)))) !=(0:Int)) (K (.int .i64 40) h16) (K (.int .i64 0) h16)) (ldI .i64 (rd h16 (a.add 1)) fun n32=>bcase (n32==(7:Int)) (bcase ((Int.fdiv (IntKind.wrap .i64 n1) (2^(min (Int.toNat n5) (IntKind.bits .i64)))) !=(0:Int)) (K (.int .i64 40) h16) (K (.int .i64 0) h16)) (K (.int .i64 0) h16))) (K (.int .i64 0) h16)))) (ldI .i64 (rd h16 (a.add 0)) fun n33=>bcase (n33==(3:Int)) (ldI .i64 (rd h16 (a.add 1)) fun n34=>bcase (n34==(8:Int)) (bcase (decide ((IntKind.wrap .i64 n7)≥n11)) (K (.int .i64 40) h16) (ldI .i64 (rd h16 (a.add 0)) fun n35=>bcase (n35==(3:Int)) (ldI .i64 (rd h16 (a.add 1)) fun n36=>bcase (n36==(6:Int)) (bcase ((Int.fdiv (IntKind.wrap .i64 n1) (2^(min (Int.toNat n5) (IntKind.bits .i64)))) !=(0:Int)) (K (.int .i64 40) h16) (K (.int .i64 0) h16)) (ldI .i64 (rd h16 (a.add 1)) fun n37=>bcase (n37==(7:Int)) (bcase ((Int.fdiv (IntKind.wrap .i64 n1) (2^(min (Int.toNat n5) (IntKind.bits .i64)))) !=(0:Int)) (K (.int .i64 40) h16) (K (.int .i64 0) h16)) (K (.int .i64 0) h16))) (K (.int .i64 0) h16))) (ldI .i64 (rd h16 (a.add 0)) fun n38=>bcase (n38==(3:Int)) (ldI .i64 (rd h16 (a.add 1)) fun n39=>bcase (n39==(6:Int)) (bcase ((Int.fdiv (IntKind.wrap .i64 n1) (2^(min (Int.toNat n5) (IntKind.bits .i64)))) !=(0:Int)) (K (.int .i64 40) h16) (K (.int .i64 0) h16)) (ldI .i64 (rd h16 (a.add 1)) fun n40=>bcase (n40==(7:Int)) (bcase ((Int.fdiv (IntKind.wrap .i64 n1) (2^(min (Int.toNat n5) (IntKind.bits .i64)))) !=(0:Int)) (K (.int .i64 40) h16) (K (.int .i64 0) h16)) (K (.int .i64 0) h16))) (K (.int .i64 0) h16))) (ldI .i64 (rd h16 (a.add 0)) fun n41=>bcase (n41==(3:Int)) (ldI .i64 (rd h16 (a.add 1)) fun n42=>bcase (n42==(6:Int)) (bcase ((Int.fdiv (IntKind.wrap .i64 n1) (2^(min (Int.toNat n5) (IntKind.bits .i64)))) !=(0:Int)) (K (.int .i64 40) h16) (K (.int .i64 0) h16)) (ldI .i64 (rd h16 (a.add 1)) fun n43=>bcase (n43==(7:Int)) (bcase ((Int.fdiv (IntKind.wrap .i64 n1) (2^(min (Int.toNat n5) (IntKind.bits .i64)))) !=(0:Int)) (K (.int .i64 40) h16) (K (.int .i64 0) h16)) (K (.int .i64 0) h16))) (K (.int .i64 0) h16))))) (ldI .i64 (rd h10 (a.add 0)) fun n44=>bcase (n44==(1:Int)) (bcase (decide ((IntKind.wrap .i64 n7)≥n11)) (bcase (decide ((IntKind.wrap .i64 n7)≥n11)) (K (.int .i64 40) h10) (ldI .i64 (rd h10 (a.add 0)) fun n45=>bcase (n45==(3:Int)) (ldI .i64 (rd h10 (a.add 1)) fun n46=>bcase (n46==(6:Int)) (bcase ((Int.fdiv (IntKind.wrap .i64 n1) (2^(min (Int.toNat n5) (IntKind.bits .i64)))) !=(0:Int)) (K (.int .i64 40) h10) (K (.int .i64 0) h10)) (ldI .i64 (rd h10 (a.add 1)) fun n47=>bcase (n47==(7:Int)) (bcase ((Int.fdiv (IntKind.wrap .i64 n1) (2^(min (Int.toNat n5) (IntKind.bits .i64)))) !=(0:Int)) (K (.int .i64 40) h10) (K (.int .i64 0) h10)) (K (.int .i64 0) h10))) (K (.int .i64 0) h10))) (ldI .i64 (rd h10 (a.add 0)) fun n48=>bcase (n48==(3:Int)) (ldI .i64 (rd h10 (a.add 1)) fun n49=>bcase (n49==(8:Int)) (bcase (decide ((IntKind.wrap .i64 n7)≥n11)) (K (.int .i64 40) h10) (ldI .i64 (rd h10 (a.add 0)) fun n50=>bcase (n50==(3:Int)) (ldI .i64 (rd h10 (a.add 1)) fun n51=>bcase (n51==(6:Int)) (bcase ((Int.fdiv (IntKind.wrap .i64 n1) (2^(min (Int.toNat n5) (IntKind.bits .i64)))) !=(0:Int)) (K (.int .i64 40) h10) (K (.int .i64 0) h10)) (ldI .i64 (rd h10 (a.add 1)) fun n52=>bcase (n52==(7:Int)) (bcase ((Int.fdiv (IntKind.wrap .i64 n1) (2^(min (Int.toNat n5) (IntKind.bits .i64)))) !=(0:Int)) (K (.int .i64 40) h10) (K (.int .i64 0) h10)) (K (.int .i64 0) h10))) (K (.int .i64 0) h10))) (ldI .i64 (rd h10 (a.add 0)) fun n53=>bcase (n53==(3:Int)) (ldI .i64 (rd h10 (a.add 1)) fun n54=>bcase (n54==(6:Int)) (bcase ((Int.fdiv (IntKind.wrap .i64 n1) (2^(min (Int.toNat n5) (IntKind.bits .i64)))) !=(0:Int)) (K (.int .i64 40) h10) (K (.int .i64 0) h10)) (ldI .i64 (rd h10 (a.add 1)) fun n55=>bcase (n55==(7:Int)) (bcase ((Int.fdiv (IntKind.wrap .i64 n1) (2^(min (Int.toNat n5) (IntKind.bits .i64)))) !=(0:Int)) (K (.int .i64 40) h10) (K (.int .i64 0) h10)) (K (.int .i64 0) h10))) (K (.int .i64 0) h10))) (ldI .i64 (rd h10 (a.add 0)) fun n56=>bcase (n56==(3:Int)) (ldI .i64 (rd h10 (a.add 1)) fun n57=>bcase (n57==(6:Int)) (bcase ((Int.fdiv (IntKind.wrap .i64 n1) (2^(min (Int.toNat n5) (IntKind.bits .i64)))) !=(0:Int)) (K (.int .i64 40) h10) (K (.int .i64 0) h10)) (ldI .i64 (rd h10 (a.add 1)) fun n58=>bcase (n58==(7:Int)) (bcase ((Int.fdiv (IntKind.wrap .i64 n1) (2^(min (Int.toNat n5) (IntKind.bits .i64)))) !=(0:Int)) (K (.int .i64 40) h10) (K (.int .i64 0) h10)) (K (.int .i64 0) h10))) (K (.int .i64 0) h10)))) (ldI .i64 (rd h10 (a.add 0)) fun n59=>bcase (n59==(3:Int)) (ldI .i64 (rd h10 (a.add 1)) fun n60=>bcase (n60==(8:Int)) (bcase (decide ((IntKind.wrap .i64 n7)≥n11)) (K (.int .i64 40) h10) (ldI .i64 (rd h10 (a.add 0)) fun n61=>bcase (n61==(3:Int)) (ldI .i64 (rd h10 (a.add 1)) fun n62=>bcase (n62==(6:Int)) (bcase ((Int.fdiv (IntKind.wrap .i64 n1) (2^(min (Int.toNat n5) (IntKind.bits .i64)))) !=(0:Int)) (K (.int .i64 40) h10) (K (.int .i64 0) h10)) (ldI .i64 (rd h10 (a.add 1)) fun n63=>bcase (n63==(7:Int)) (bcase ((Int.fdiv (IntKind.wrap .i64 n1) (2^(min (Int.toNat n5) (IntKind.bits .i64)))) !=(0:Int)) (K (.int .i64 40) h10) (K (.int .i64 0) h10)) (K (.int .i64 0) h10))) (K (.int .i64 0) h10))) (ldI .i64 (rd h10 (a.add 0)) fun n64=>bcase (n64==(3:Int)) (ldI .i64 (rd h10 (a.add 1)) fun n65=>bcase (n65==(6:Int)) (bcase ((Int.fdiv (IntKind.wrap .i64 n1) (2^(min (Int.toNat n5) (IntKind.bits .i64)))) !=(0:Int)) (K (.int .i64 40) h10) (K (.int .i64 0) h10)) (ldI .i64 (rd h10 (a.add 1)) fun n66=>bcase (n66==(7:Int)) (bcase ((Int.fdiv (IntKind.wrap .i64 n1) (2^(min (Int.toNat n5) (IntKind.bits .i64)))) !=(0:Int)) (K (.int .i64 40) h10) (K (.int .i64 0) h10)) (K (.int .i64 0) h10))) (K (.int .i64 0) h10))) (ldI .i64 (rd h10 (a.add 0)) fun n67=>bcase (n67==(3:Int)) (ldI .i64 (rd h10 (a.add 1)) fun n68=>bcase (n68==(6:Int)) (bcase ((Int.fdiv (IntKind.wrap .i64 n1) (2^(min (Int.toNat n5) (IntKind.bits .i64)))) !=(0:Int)) (K (.int .i64 40) h10) (K (.int .i64 0) h10)) (ldI .i64 (rd h10 (a.add 1)) fun n69=>bcase (n69==(7:Int)) (bcase ((Int.fdiv (IntKind.wrap .i64 n1) (2^(min (Int.toNat n5) (IntKind.bits .i64)))) !=(0:Int)) (K (.int .i64 40) h10) (K (.int .i64 0) h10)) (K (.int .i64 0) h10))) (K (.int .i64 0) h10)))))))))))
def F77.wL6:Prop:=Lp Tryz.f77 F77.T [1,1,1,0,1,0] n [(0,(.pointer (some i))),(1,(.pointer (some j))),(5,(.pointer (some a))),(28,(.slice c b f)),(29,(.int .i64 g)),(30,(.int .i64 d))] h K
theorem F77.sL6:F77.wL6 (n+1) i j a c b f g d h K=(bcase (decide (d<g)) (ptrK c fun a1=>0≤d∧d<(Nat.cast b:Int)∧ldI .i64 (rd h (a1.add (Int.toNat d*1))) fun n2=>Cl 82 [.int .i64 n2] h fun v3 h4=>ldB (some v3) fun b5=>bcase (!b5) (K (.int .i64 221) h4) ((0≤n2∧n2<(Nat.cast 6:Int)∧ldB (rd h4 (((j.add 0).add (Int.toNat n2*2)).add 0)) fun b6=>bcase (!b6) (K (.int .i64 221) h4) (F77.wL6 n i j a c b f g (IntKind.wrap .i64 (d+(1:Int))) h4 K)))) (F77.wk11 i a h K)):=by kernel_rfl
def F77.wk6:Prop:=(∃m,F77.wL6 m i j a c b f g d h K)
theorem F77.spec(H:newK h (.cells #[.int .i64 l,.int .i64 o,.int .i64 q,.int .i64 r,.int .i64 s,.int .i64 t,.int .u8 u] 41) fun b1 h2=>ldI .i64 (rd h2 ((Addr.mk b1 0 none).add 0)) fun n3=>bcase (decide (n3<(1:Int))) (K (.int .i64 222) h2) (ldI .i64 (rd h2 ((Addr.mk b1 0 none).add 0)) fun n4=>bcase (decide (n4>(8:Int))) (K (.int .i64 222) h2) (ldI .i64 (rd h2 ((Addr.mk b1 0 none).add 0)) fun n5=>ldI .i64 (rd h2 ((Addr.mk b1 0 none).add 1)) fun n6=>ldI .i64 (rd h2 ((Addr.mk b1 0 none).add 2)) fun n7=>ldI .i64 (rd h2 ((Addr.mk b1 0 none).add 3)) fun n8=>ldI .i64 (rd h2 ((Addr.mk b1 0 none).add 4)) fun n9=>ldI .i64 (rd h2 ((Addr.mk b1 0 none).add 5)) fun n10=>ldI .u8 (rd h2 ((Addr.mk b1 0 none).add 6)) fun n11=>Cl 120 [.agg #[.int .i64 n5,.int .i64 n6,.int .i64 n7,.int .i64 n8,.int .i64 n9,.int .i64 n10,.int .u8 n11]] h2 fun v12 h13=>ldB (some v12) fun b14=>bcase b14 (ldI .i64 (rd h13 ((Addr.mk b1 0 none).add 2)) fun n15=>Cl 82 [.int .i64 n15] h13 fun v16 h17=>ldB (some v16) fun b18=>bcase (!b18) (K (.int .i64 221) h17) (ldI .i64 (rd h17 ((Addr.mk b1 0 none).add 0)) fun n19=>ldI .i64 (rd h17 ((Addr.mk b1 0 none).add 1)) fun n20=>ldI .i64 (rd h17 ((Addr.mk b1 0 none).add 2)) fun n21=>ldI .i64 (rd h17 ((Addr.mk b1 0 none).add 3)) fun n22=>ldI .i64 (rd h17 ((Addr.mk b1 0 none).add 4)) fun n23=>ldI .i64 (rd h17 ((Addr.mk b1 0 none).add 5)) fun n24=>ldI .u8 (rd h17 ((Addr.mk b1 0 none).add 6)) fun n25=>Cl 121 [.agg #[.int .i64 n19,.int .i64 n20,.int .i64 n21,.int .i64 n22,.int .i64 n23,.int .i64 n24,.int .u8 n25]] h17 fun v26 h27=>ldS (some v26) fun p28 l29 c30=>F77.wk6 i j (Addr.mk b1 0 none) p28 l29 c30 (Nat.cast l29:Int) (0:Int) h27 K)) (ldI .i64 (rd h13 ((Addr.mk b1 0 none).add 0)) fun n31=>ldI .i64 (rd h13 ((Addr.mk b1 0 none).add 1)) fun n32=>ldI .i64 (rd h13 ((Addr.mk b1 0 none).add 2)) fun n33=>ldI .i64 (rd h13 ((Addr.mk b1 0 none).add 3)) fun n34=>ldI .i64 (rd h13 ((Addr.mk b1 0 none).add 4)) fun n35=>ldI .i64 (rd h13 ((Addr.mk b1 0 none).add 5)) fun n36=>ldI .u8 (rd h13 ((Addr.mk b1 0 none).add 6)) fun n37=>Cl 121 [.agg #[.int .i64 n31,.int .i64 n32,.int .i64 n33,.int .i64 n34,.int .i64 n35,.int .i64 n36,.int .u8 n37]] h13 fun v38 h39=>ldS (some v38) fun p40 l41 c42=>F77.wk6 i j (Addr.mk b1 0 none) p40 l41 c42 (Nat.cast l41:Int) (0:Int) h39 K)))):Cl 77 [.pointer (some i),.pointer (some j),.agg #[.int .i64 l,.int .i64 o,.int .i64 q,.int .i64 r,.int .i64 s,.int .i64 t,.int .u8 u]] h K:=cT F77.T Tryz.func77 H
end
def F78.T:Hint:=⟨[(2,[8,9])],[]⟩
section
variable (n:Nat)(c:Addr)(b:List Value)(a:Int)(h:Heap)(K:KK)
def F78.wL2:Prop:=Lp Tryz.f78 F78.T [1,0,1,0] n [(8,(.agg (List.toArray b))),(9,(.int .i64 a))] h K
theorem F78.sL2:F78.wL2 (n+1) b a h K=(bcase (decide (a<(4:Int))) ((0≤a∧a<(Nat.cast 4:Int)∧ldB (b[Int.toNat a*24+0]?) fun b1=>ldI .u32 (b[Int.toNat a*24+1]?) fun n2=>ldB (b[Int.toNat a*24+2]?) fun b3=>ldI .u32 (b[Int.toNat a*24+3]?) fun n4=>ldB (b[Int.toNat a*24+4]?) fun b5=>ldI .u32 (b[Int.toNat a*24+5]?) fun n6=>ldB (b[Int.toNat a*24+6]?) fun b7=>ldI .u32 (b[Int.toNat a*24+7]?) fun n8=>ldB (b[Int.toNat a*24+8]?) fun b9=>ldI .u32 (b[Int.toNat a*24+9]?) fun n10=>ldB (b[Int.toNat a*24+10]?) fun b11=>ldI .u32 (b[Int.toNat a*24+11]?) fun n12=>ldI .i64 (b[Int.toNat a*24+12]?) fun n13=>ldI .i64 (b[Int.toNat a*24+13]?) fun n14=>ldI .i64 (b[Int.toNat a*24+14]?) fun n15=>ldI .i64 (b[Int.toNat a*24+15]?) fun n16=>ldI .i64 (b[Int.toNat a*24+16]?) fun n17=>ldI .i64 (b[Int.toNat a*24+17]?) fun n18=>ldI .u8 (b[Int.toNat a*24+18]?) fun n19=>ldB (b[Int.toNat a*24+19]?) fun b20=>ldI .i64 (b[Int.toNat a*24+20]?) fun n21=>ldI .i64 (b[Int.toNat a*24+21]?) fun n22=>ldI .u64 (b[Int.toNat a*24+22]?) fun n23=>ldB (b[Int.toNat a*24+23]?) fun b24=>newK h (.cells #[.bool false,.int .u32 0,.bool false,.int .u32 0,.bool false,.int .u32 0,.bool false,.int .u32 0,.bool false,.int .u32 0,.bool false,.int .u32 0,.int .i64 0,.int .i64 0,.int .i64 0,.int .i64 0,.int .i64 0,.int .i64 0,.int .u8 0,.bool false,.int .i64 0,.int .i64 0,.int .u64 0,.bool false] 129) fun b25 h26=>stK h26 ((Addr.mk b25 0 none).add 0) (.bool b1) fun h27=>stK h27 ((Addr.mk b25 0 none).add 1) (.int .u32 n2) fun h28=>stK h28 ((Addr.mk b25 0 none).add 2) (.bool b3) fun h29=>stK h29 ((Addr.mk b25 0 none).add 3) (.int .u32 n4) fun h30=>stK h30 ((Addr.mk b25 0 none).add 4) (.bool b5) fun h31=>stK h31 ((Addr.mk b25 0 none).add 5) (.int .u32 n6) fun h32=>stK h32 ((Addr.mk b25 0 none).add 6) (.bool b7) fun h33=>stK h33 ((Addr.mk b25 0 none).add 7) (.int .u32 n8) fun h34=>stK h34 ((Addr.mk b25 0 none).add 8) (.bool b9) fun h35=>stK h35 ((Addr.mk b25 0 none).add 9) (.int .u32 n10) fun h36=>stK h36 ((Addr.mk b25 0 none).add 10) (.bool b11) fun h37=>stK h37 ((Addr.mk b25 0 none).add 11) (.int .u32 n12) fun h38=>stK h38 ((Addr.mk b25 0 none).add 12) (.int .i64 n13) fun h39=>stK h39 ((Addr.mk b25 0 none).add 13) (.int .i64 n14) fun h40=>stK h40 ((Addr.mk b25 0 none).add 14) (.int .i64 n15) fun h41=>stK h41 ((Addr.mk b25 0 none).add 15) (.int .i64 n16) fun h42=>stK h42 ((Addr.mk b25 0 none).add 16) (.int .i64 n17) fun h43=>stK h43 ((Addr.mk b25 0 none).add 17) (.int .i64 n18) fun h44=>stK h44 ((Addr.mk b25 0 none).add 18) (.int .u8 n19) fun h45=>stK h45 ((Addr.mk b25 0 none).add 19) (.bool b20) fun h46=>stK h46 ((Addr.mk b25 0 none).add 20) (.int .i64 n21) fun h47=>stK h47 ((Addr.mk b25 0 none).add 21) (.int .i64 n22) fun h48=>stK h48 ((Addr.mk b25 0 none).add 22) (.int .u64 n23) fun h49=>stK h49 ((Addr.mk b25 0 none).add 23) (.bool b24) fun h50=>ldB (rd h50 ((Addr.mk b25 0 none).add 19)) fun b51=>bcase b51 (K (.bool true) h50) (F78.wL2 n b (IntKind.wrap .i64 (a+(1:Int))) h50 K))) (K (.bool false) h)):=by kernel_rfl
def F78.wk2:Prop:=(∃m,F78.wL2 m b a h K)
theorem F78.spec(H:ldG h (c.add 3) 96 fun v1=>F78.wk2 v1 (0:Int) h K):Cl 78 [.pointer (some c)] h K:=cT F78.T Tryz.func78 H
end
theorem F79.spec(a:Addr)(b c d f g i j:Int)(h:Heap)(K:KK)(H:newK h (.cells #[.int .i64 b,.int .i64 c,.int .i64 d,.int .i64 f,.int .i64 g,.int .i64 i,.int .u8 j] 41) fun b1 h2=>ldI .i64 (rd h2 ((Addr.mk b1 0 none).add 0)) fun n3=>bcase (n3==(1:Int)) (bcase (n3==(1:Int)) (K (.func (.func 123) #[.pointer (some a)] #[]) h2) (bcase (n3==(4:Int)) (bcase (n3==(4:Int)) (K (.func (.func 124) #[.pointer (some a)] #[]) h2) (bcase (n3==(7:Int)) (K (.func (.func 125) #[.pointer (some a)] #[]) h2) (bcase (n3==(8:Int)) (K (.func (.func 126) #[.pointer (some a)] #[]) h2) (K (.func (.func 127) #[.pointer (some a)] #[]) h2)))) (bcase (n3==(5:Int)) (K (.func (.func 124) #[.pointer (some a)] #[]) h2) (bcase (n3==(7:Int)) (K (.func (.func 125) #[.pointer (some a)] #[]) h2) (bcase (n3==(8:Int)) (K (.func (.func 126) #[.pointer (some a)] #[]) h2) (K (.func (.func 127) #[.pointer (some a)] #[]) h2)))))) (bcase (n3==(2:Int)) (bcase (n3==(2:Int)) (K (.func (.func 123) #[.pointer (some a)] #[]) h2) (bcase (n3==(4:Int)) (bcase (n3==(4:Int)) (K (.func (.func 124) #[.pointer (some a)] #[]) h2) (bcase (n3==(7:Int)) (K (.func (.func 125) #[.pointer (some a)] #[]) h2) (bcase (n3==(8:Int)) (K (.func (.func 126) #[.pointer (some a)] #[]) h2) (K (.func (.func 127) #[.pointer (some a)] #[]) h2)))) (bcase (n3==(5:Int)) (K (.func (.func 124) #[.pointer (some a)] #[]) h2) (bcase (n3==(7:Int)) (K (.func (.func 125) #[.pointer (some a)] #[]) h2) (bcase (n3==(8:Int)) (K (.func (.func 126) #[.pointer (some a)] #[]) h2) (K (.func (.func 127) #[.pointer (some a)] #[]) h2)))))) (bcase (n3==(6:Int)) (K (.func (.func 123) #[.pointer (some a)] #[]) h2) (bcase (n3==(4:Int)) (bcase (n3==(4:Int)) (K (.func (.func 124) #[.pointer (some a)] #[]) h2) (bcase (n3==(7:Int)) (K (.func (.func 125) #[.pointer (some a)] #[]) h2) (bcase (n3==(8:Int)) (K (.func (.func 126) #[.pointer (some a)] #[]) h2) (K (.func (.func 127) #[.pointer (some a)] #[]) h2)))) (bcase (n3==(5:Int)) (K (.func (.func 124) #[.pointer (some a)] #[]) h2) (bcase (n3==(7:Int)) (K (.func (.func 125) #[.pointer (some a)] #[]) h2) (bcase (n3==(8:Int)) (K (.func (.func 126) #[.pointer (some a)] #[]) h2) (K (.func (.func 127) #[.pointer (some a)] #[]) h2)))))))):Cl 79 [.pointer (some a),.agg #[.int .i64 b,.int .i64 c,.int .i64 d,.int .i64 f,.int .i64 g,.int .i64 i,.int .u8 j]] h K:=cN Tryz.func79 H
def F80.T:Hint:=⟨[],[(0,[[(0,[]),(1,[]),(2,[]),(3,[]),(5,[]),(6,[]),(7,[]),(8,[]),(4,[5,6,7,8]),(9,[]),(10,[])]])]⟩
theorem F80.spec(a:Addr)(h:Heap)(K:KK)(H:ldP (rd h (a.add 0)) fun p1=>ldP (rd h (a.add 0)) fun p2=>Cl 45 [.pointer p1] h fun v3 h4=>ldI .i64 (some v3) fun n5=>((.pointer (some a))=((.pointer (some a)):Value)∧((.pointer (some a))=((.pointer (some a)):Value)∧((.pointer (some (a.add 0)))=((.pointer (some (a.add 0))):Value)∧ldP (rd h4 (a.add 0)) fun p6=>((.pointer p6)=((.pointer p2):Value)∧Cl 70 [.pointer p2] h4 fun v7 h8=>ldI .i64 (some v7) fun n9=>bcase (decide (n5≥n9)) (Cl 128 [.pointer (some a)] h8 fun v10 h11=>v10=(.tuple #[])∧K (.tuple #[]) h11) (K (.tuple #[]) h8)))))):Cl 80 [.pointer (some a)] h K:=cT F80.T Tryz.func80 H
theorem F82.spec(a:Int)(h:Heap)(K:KK)(H:bcase (decide (a≥(0:Int))) (K (.bool (decide (a<(6:Int)))) h) (K (.bool false) h)):Cl 82 [.int .i64 a] h K:=cN Tryz.func82 H
theorem F120.spec(a b c d f g i:Int)(h:Heap)(K:KK)(H:newK h (.cells #[.int .i64 a,.int .i64 b,.int .i64 c,.int .i64 d,.int .i64 f,.int .i64 g,.int .u8 i] 41) fun b1 h2=>ldI .i64 (rd h2 ((Addr.mk b1 0 none).add 0)) fun n3=>bcase (decide (n3≥(1:Int))) (ldI .i64 (rd h2 ((Addr.mk b1 0 none).add 0)) fun n4=>bcase (decide (n4≤(3:Int))) (K (.bool true) h2) (ldI .i64 (rd h2 ((Addr.mk b1 0 none).add 0)) fun n5=>K (.bool (n5==(6:Int))) h2)) (ldI .i64 (rd h2 ((Addr.mk b1 0 none).add 0)) fun n6=>K (.bool (n6==(6:Int))) h2)):Cl 120 [.agg #[.int .i64 a,.int .i64 b,.int .i64 c,.int .i64 d,.int .i64 f,.int .i64 g,.int .u8 i]] h K:=cN Tryz.func120 H
def F121.T:Hint:=⟨[],[(7,[[(0,[]),(1,[]),(2,[]),(3,[]),(4,[]),(5,[]),(7,[]),(8,[]),(6,[7,8]),(9,[0,1,2,3,4,5]),(10,[]),(11,[])],[(0,[]),(1,[]),(2,[]),(3,[]),(4,[]),(5,[]),(7,[]),(8,[]),(9,[0,1,2,3,4,5]),(6,[7,8]),(10,[]),(11,[])]])]⟩
theorem F121.spec(b c d f g i j:Int)(h:Heap)(K:KK)(H:newK h (.cells #[.int .i64 b,.int .i64 c,.int .i64 d,.int .i64 f,.int .i64 g,.int .i64 i,.int .u8 j] 41) fun b1 h2=>ldI .i64 (rd h2 ((Addr.mk b1 0 none).add 0)) fun n3=>bcase (n3==(4:Int)) (ldI .i64 (rd h2 ((Addr.mk b1 0 none).add 3)) fun n4=>newK h2 (.cells #[.int .i64 n4] 3) fun b5 h6=>K (.slice (some (Addr.mk b5 0 none)) 1 1) h6) (bcase (n3==(5:Int)) (ldI .i64 (rd h2 ((Addr.mk b1 0 none).add 3)) fun n7=>ldI .i64 (rd h2 ((Addr.mk b1 0 none).add 4)) fun n8=>newK h2 (.cells #[.int .i64 n7,.int .i64 n8] 3) fun b9 h10=>K (.slice (some (Addr.mk b9 0 none)) 2 2) h10) (bcase (n3==(3:Int)) ((ldI .i64 (rd h2 ((Addr.mk b1 0 none).add 3)) (fun n11=>ldI .i64 (rd h2 ((Addr.mk b1 0 none).add 4)) fun n12=>ldI .i64 (rd h2 ((Addr.mk b1 0 none).add 5)) fun n13=>ldI .i64 (rd h2 ((Addr.mk b1 0 none).add 1)) fun n14=>newK h2 (.cells #[.int .i64 n11,.int .i64 n12,.int .i64 n13] 3) fun b15 h16=>((.pointer (some ((Addr.mk b1 0 none).add 1)))=((.pointer (some ((Addr.mk b1 0 none).add 1))):Value)∧ldI .i64 (rd h16 ((Addr.mk b1 0 none).add 1)) fun n17=>((.int .i64 n17)=((.int .i64 n14):Value)∧Cl 122 [.int .i64 n14] h16 fun v18 h19=>ldI .i64 (some v18) fun n20=>((.pointer (some ((Addr.mk b1 0 none).add 3)))=((.pointer (some ((Addr.mk b1 0 none).add 3))):Value)∧ldI .i64 (rd h19 ((Addr.mk b1 0 none).add 3)) fun n21=>((.int .i64 n21)=((.int .i64 n11):Value)∧((.pointer (some ((Addr.mk b1 0 none).add 4)))=((.pointer (some ((Addr.mk b1 0 none).add 4))):Value)∧ldI .i64 (rd h19 ((Addr.mk b1 0 none).add 4)) fun n22=>((.int .i64 n22)=((.int .i64 n12):Value)∧((.pointer (some ((Addr.mk b1 0 none).add 5)))=((.pointer (some ((Addr.mk b1 0 none).add 5))):Value)∧ldI .i64 (rd h19 ((Addr.mk b1 0 none).add 5)) fun n23=>((.int .i64 n23)=((.int .i64 n13):Value)∧(0≤n20∧n20≤(Nat.cast 3:Int)∧K (.slice (if 3=0 then(some (Addr.mk b15 0 none))else Option.map (fun a=>Addr.add a (0*1)) (some (Addr.mk b15 0 none))) (Int.toNat n20-0) (3-0)) h19))))))))))∧ldI .i64 (rd h2 ((Addr.mk b1 0 none).add 3)) fun n24=>ldI .i64 (rd h2 ((Addr.mk b1 0 none).add 4)) fun n25=>ldI .i64 (rd h2 ((Addr.mk b1 0 none).add 5)) fun n26=>ldI .i64 (rd h2 ((Addr.mk b1 0 none).add 1)) fun n27=>Cl 122 [.int .i64 n27] h2 fun v28 h29=>ldI .i64 (some v28) fun n30=>((.pointer (some ((Addr.mk b1 0 none).add 3)))=((.pointer (some ((Addr.mk b1 0 none).add 3))):Value)∧ldI .i64 (rd h29 ((Addr.mk b1 0 none).add 3)) fun n31=>((.int .i64 n31)=((.int .i64 n24):Value)∧((.pointer (some ((Addr.mk b1 0 none).add 4)))=((.pointer (some ((Addr.mk b1 0 none).add 4))):Value)∧ldI .i64 (rd h29 ((Addr.mk b1 0 none).add 4)) fun n32=>((.int .i64 n32)=((.int .i64 n25):Value)∧((.pointer (some ((Addr.mk b1 0 none).add 5)))=((.pointer (some ((Addr.mk b1 0 none).add 5))):Value)∧ldI .i64 (rd h29 ((Addr.mk b1 0 none).add 5)) fun n33=>((.int .i64 n33)=((.int .i64 n26):Value)∧newK h29 (.cells #[.int .i64 n24,.int .i64 n25,.int .i64 n26] 3) fun b34 h35=>((.pointer (some ((Addr.mk b1 0 none).add 1)))=((.pointer (some ((Addr.mk b1 0 none).add 1))):Value)∧ldI .i64 (rd h35 ((Addr.mk b1 0 none).add 1)) fun n36=>((.int .i64 n36)=((.int .i64 n27):Value)∧(0≤n30∧n30≤(Nat.cast 3:Int)∧K (.slice (if 3=0 then(some (Addr.mk b34 0 none))else Option.map (fun a=>Addr.add a (0*1)) (some (Addr.mk b34 0 none))) (Int.toNat n30-0) (3-0)) h35))))))))))) (K (.slice none 0 0) h2)))):Cl 121 [.agg #[.int .i64 b,.int .i64 c,.int .i64 d,.int .i64 f,.int .i64 g,.int .i64 i,.int .u8 j]] h K:=cT F121.T Tryz.func121 H
theorem F122.spec(a:Int)(h:Heap)(K:KK)(H:bcase (a==(1:Int)) (bcase (a==(1:Int)) (K (.int .i64 1) h) (bcase (a==(2:Int)) (bcase (a==(2:Int)) (K (.int .i64 2) h) (bcase (a==(5:Int)) (K (.int .i64 3) h) (K (.int .i64 0) h))) (bcase (a==(3:Int)) (bcase (a==(3:Int)) (K (.int .i64 2) h) (bcase (a==(5:Int)) (K (.int .i64 3) h) (K (.int .i64 0) h))) (bcase (a==(4:Int)) (bcase (a==(4:Int)) (K (.int .i64 2) h) (bcase (a==(5:Int)) (K (.int .i64 3) h) (K (.int .i64 0) h))) (bcase (a==(8:Int)) (bcase (a==(8:Int)) (K (.int .i64 2) h) (bcase (a==(5:Int)) (K (.int .i64 3) h) (K (.int .i64 0) h))) (bcase (a==(9:Int)) (bcase (a==(9:Int)) (K (.int .i64 2) h) (bcase (a==(5:Int)) (K (.int .i64 3) h) (K (.int .i64 0) h))) (bcase (a==(10:Int)) (K (.int .i64 2) h) (bcase (a==(5:Int)) (K (.int .i64 3) h) (K (.int .i64 0) h))))))))) (bcase (a==(6:Int)) (bcase (a==(6:Int)) (K (.int .i64 1) h) (bcase (a==(2:Int)) (bcase (a==(2:Int)) (K (.int .i64 2) h) (bcase (a==(5:Int)) (K (.int .i64 3) h) (K (.int .i64 0) h))) (bcase (a==(3:Int)) (bcase (a==(3:Int)) (K (.int .i64 2) h) (bcase (a==(5:Int)) (K (.int .i64 3) h) (K (.int .i64 0) h))) (bcase (a==(4:Int)) (bcase (a==(4:Int)) (K (.int .i64 2) h) (bcase (a==(5:Int)) (K (.int .i64 3) h) (K (.int .i64 0) h))) (bcase (a==(8:Int)) (bcase (a==(8:Int)) (K (.int .i64 2) h) (bcase (a==(5:Int)) (K (.int .i64 3) h) (K (.int .i64 0) h))) (bcase (a==(9:Int)) (bcase (a==(9:Int)) (K (.int .i64 2) h) (bcase (a==(5:Int)) (K (.int .i64 3) h) (K (.int .i64 0) h))) (bcase (a==(10:Int)) (K (.int .i64 2) h) (bcase (a==(5:Int)) (K (.int .i64 3) h) (K (.int .i64 0) h))))))))) (bcase (a==(7:Int)) (K (.int .i64 1) h) (bcase (a==(2:Int)) (bcase (a==(2:Int)) (K (.int .i64 2) h) (bcase (a==(5:Int)) (K (.int .i64 3) h) (K (.int .i64 0) h))) (bcase (a==(3:Int)) (bcase (a==(3:Int)) (K (.int .i64 2) h) (bcase (a==(5:Int)) (K (.int .i64 3) h) (K (.int .i64 0) h))) (bcase (a==(4:Int)) (bcase (a==(4:Int)) (K (.int .i64 2) h) (bcase (a==(5:Int)) (K (.int .i64 3) h) (K (.int .i64 0) h))) (bcase (a==(8:Int)) (bcase (a==(8:Int)) (K (.int .i64 2) h) (bcase (a==(5:Int)) (K (.int .i64 3) h) (K (.int .i64 0) h))) (bcase (a==(9:Int)) (bcase (a==(9:Int)) (K (.int .i64 2) h) (bcase (a==(5:Int)) (K (.int .i64 3) h) (K (.int .i64 0) h))) (bcase (a==(10:Int)) (K (.int .i64 2) h) (bcase (a==(5:Int)) (K (.int .i64 3) h) (K (.int .i64 0) h))))))))))):Cl 122 [.int .i64 a] h K:=cN Tryz.func122 H
def F123.T:Hint:=⟨[(8,[0,1,5])],[]⟩
section
variable (b a:Addr)(c:Int)(h:Heap)(K:KK)
def F123.wk8:Prop:=Cl 168 [.pointer (some b),.pointer (some a),.agg #[.int .i64 c,.int .u64 0]] h fun v1 h2=>v1=(.tuple #[])∧K (.bool true) h2
theorem F123.spec(b a:Addr)(h:Heap)(K:KK)(H:ldI .i64 (rd h ((a.add 12).add 0)) fun n1=>bcase (n1==(1:Int)) (Cl 165 [.pointer (some b),.pointer (some a)] h fun v2 h3=>ldI .i64 (some v2) fun n4=>F123.wk8 b a n4 h3 K) (bcase (n1==(6:Int)) (Cl 166 [.pointer (some b),.pointer (some a)] h fun v5 h6=>v5=(.tuple #[])∧F123.wk8 b a (0:Int) h6 K) (ldI .u8 (rd h ((a.add 12).add 6)) fun n7=>Cl 167 [.pointer (some b),.pointer (some a),.int .u32 (IntKind.wrap .u32 (if(1:Int)<n7 then(1:Int)else n7))] h fun v8 h9=>v8=(.tuple #[])∧F123.wk8 b a (0:Int) h9 K))):Cl 123 [.pointer (some b),.pointer (some a)] h K:=cT F123.T Tryz.func123 H
end
theorem F125.spec(a b:Addr)(h:Heap)(K:KK)(H:Cl 128 [.pointer (some a)] h fun v1 h2=>v1=(.tuple #[])∧Cl 168 [.pointer (some a),.pointer (some b),.agg #[.int .i64 0,.int .u64 0]] h2 fun v3 h4=>v3=(.tuple #[])∧K (.bool true) h4):Cl 125 [.pointer (some a),.pointer (some b)] h K:=cN Tryz.func125 H
theorem F126.spec(a b:Addr)(h:Heap)(K:KK)(H:Cl 170 [.pointer (some a)] h fun v1 h2=>ldB (some v1) fun b3=>bcase b3 (K (.bool false) h2) (Cl 171 [.pointer (some a)] h2 fun v4 h5=>v4=(.tuple #[])∧Cl 168 [.pointer (some a),.pointer (some b),.agg #[.int .i64 0,.int .u64 0]] h5 fun v6 h7=>v6=(.tuple #[])∧K (.bool true) h7)):Cl 126 [.pointer (some a),.pointer (some b)] h K:=cN Tryz.func126 H
def F128.T:Hint:=⟨[(2,[0,2,10,11,12]),(6,[0,2]),(8,[0,33,34])],[(6,[[(0,[]),(1,[]),(2,[]),(3,[]),(4,[]),(5,[]),(6,[]),(7,[]),(8,[])]])]⟩
section
variable (n:Nat)(a:Addr)(j:Option Addr)(f i:Nat)(c:Option Addr)(b g:Nat)(l d o q:Int)(h:Heap)(K:KK)
def F128.wL8:Prop:=Lp Tryz.f128 F128.T [1,1,1,1,0] n [(0,(.pointer (some a))),(33,(.int .i64 o)),(34,(.int .i64 q))] h K
theorem F128.sL8:F128.wL8 (n+1) a o q h K=(bcase (decide (q<o)) (ldP (rd h (a.add 2)) fun p1=>Cl 176 [.pointer p1,.int .i64 0] h fun v2 h3=> ∃n4:Int,∃b5:Bool,v2=(.tuple #[.int .u32 n4,.bool b5])∧F128.wL8 n a o (IntKind.wrap .i64 (q+(1:Int))) h3 K) (K (.tuple #[]) h)):=by kernel_rfl
def F128.wk8:Prop:=(∃m,F128.wL8 m a o q h K)
def F128.wk6(a:Addr)(j:Option Addr)(f i:Nat)(h:Heap)(K:KK):Prop:=ldP (rd h (a.add 0)) fun p1=>ldP (rd h (a.add 2)) fun p2=>Cl 175 [.pointer p1,.pointer p2] h fun v3 h4=> ∃n5:Int,∃n6:Int,v3=(.tuple #[.int .i64 n5,.int .i64 n6])∧F128.wk8 a (Nat.cast f:Int) (0:Int) h4 K
def F128.wL2:Prop:=Lp Tryz.f128 F128.T [1,0,1,0] n [(0,(.pointer (some a))),(2,(.slice j f i)),(10,(.slice c b g)),(11,(.int .i64 l)),(12,(.int .i64 d))] h K
theorem F128.sL2:F128.wL2 (n+1) a j f i c b g l d h K=(bcase (decide (d<l)) (ptrK c fun a1=>0≤d∧d<(Nat.cast b:Int)∧ldI .u32 (rd h (a1.add (Int.toNat d*1))) fun n2=>ldP (rd h (a.add 2)) fun p3=>Cl 174 [.pointer p3,.int .i64 0,.int .u32 n2] h fun v4 h5=>ldB (some v4) fun _=>F128.wL2 n a j f i c b g l (IntKind.wrap .i64 (d+(1:Int))) h5 K) (F128.wk6 a j f i h K)):=by kernel_rfl
def F128.wk2:Prop:=(∃m,F128.wL2 m a j f i c b g l d h K)
theorem F128.spec(H:ldP (rd h (a.add 1)) fun p1=>Cl 173 [.pointer p1] h fun v2 h3=>ldS (some v2) fun p4 l5 c6=>F128.wk2 a p4 l5 c6 p4 l5 c6 (Nat.cast l5:Int) (0:Int) h3 K):Cl 128 [.pointer (some a)] h K:=cT F128.T Tryz.func128 H
end
def F165.T:Hint:=⟨[],[(2,[[(0,[]),(1,[]),(2,[]),(3,[]),(4,[]),(5,[]),(6,[]),(7,[]),(8,[]),(9,[]),(10,[]),(11,[]),(12,[]),(13,[]),(14,[]),(15,[])]])]⟩
theorem F165.spec(a b:Addr)(h:Heap)(K:KK)(H:Cl 80 [.pointer (some a)] h fun v1 h2=>v1=(.tuple #[])∧ldP (rd h2 (a.add 0)) fun p3=>ldI .u8 (rd h2 ((b.add 12).add 6)) fun n4=>Cl 208 [.pointer p3,.int .i64 (IntKind.wrap .i64 n4)] h2 fun v5 h6=> ∃n7:Int,∃n8:Int,v5=(.tuple #[.int .u32 n7,.int .i64 n8])∧bcase (n8==(0:Int)) (Cl 167 [.pointer (some a),.pointer (some b),.int .u32 n7] h6 fun v9 h10=>v9=(.tuple #[])∧K (.int .i64 n8) h10) (K (.int .i64 n8) h6)):Cl 165 [.pointer (some a),.pointer (some b)] h K:=cT F165.T Tryz.func165 H
def F166.T:Hint:=⟨[(3,[1])],[(0,[[(0,[]),(1,[]),(2,[]),(3,[]),(4,[]),(5,[]),(6,[]),(7,[]),(8,[]),(9,[]),(10,[0,1,2,3,4,5,6,7,8,9]),(11,[])]]),(2,[[(0,[]),(1,[]),(2,[]),(3,[]),(4,[]),(5,[]),(6,[])]]),(3,[[(0,[]),(1,[]),(2,[]),(3,[]),(4,[]),(5,[]),(6,[]),(7,[]),(8,[]),(9,[]),(10,[])]])]⟩
section
variable (a:Addr)(h:Heap)(K:KK)
def F166.wk3:Prop:=ldI .i64 (rd h ((a.add 12).add 2)) fun n1=>0≤n1∧n1<(Nat.cast 6:Int)∧stK h (((a.add 0).add (Int.toNat n1*2)).add 0) (.bool false) fun h2=>stK h2 (((a.add 0).add (Int.toNat n1*2)).add 1) (.int .u32 0) fun h3=>K (.tuple #[]) h3
theorem F166.spec(b a:Addr)(h:Heap)(K:KK)(H:ldI .i64 (rd h ((a.add 12).add 2)) fun n1=>0≤n1∧n1<(Nat.cast 6:Int)∧ldB (rd h (((a.add 0).add (Int.toNat n1*2)).add 0)) fun b2=>ldI .u32 (rd h (((a.add 0).add (Int.toNat n1*2)).add 1)) fun n3=>newK h (.cells #[.bool false,.int .u32 0] 126) fun b4 h5=>((.pointer (some a))=((.pointer (some a)):Value)∧((.pointer (some a))=((.pointer (some a)):Value)∧((.pointer (some a))=((.pointer (some a)):Value)∧((.pointer (some (a.add 12)))=((.pointer (some (a.add 12))):Value)∧((.pointer (some ((a.add 12).add 2)))=((.pointer (some ((a.add 12).add 2))):Value)∧ldI .i64 (rd h5 ((a.add 12).add 2)) fun n6=>((.int .i64 n6)=((.int .i64 n1):Value)∧((.pointer (some a))=((.pointer (some a)):Value)∧((.pointer (some (a.add 0)))=((.pointer (some (a.add 0))):Value)∧(0≤n1∧n1<(Nat.cast 6:Int)∧((.pointer (some ((a.add 0).add (Int.toNat n1*2))))=((.pointer (some ((a.add 0).add (Int.toNat n1*2)))):Value)∧ldB (rd h5 (((a.add 0).add (Int.toNat n1*2)).add 0)) fun b7=>ldI .u32 (rd h5 (((a.add 0).add (Int.toNat n1*2)).add 1)) fun n8=>((.agg #[.bool b7,.int .u32 n8])=((.agg #[.bool b2,.int .u32 n3]):Value)∧stK h5 ((Addr.mk b4 0 none).add 0) (.bool b2) fun h9=>stK h9 ((Addr.mk b4 0 none).add 1) (.int .u32 n3) fun h10=>ldB (rd h10 ((Addr.mk b4 0 none).add 0)) fun b11=>bcase b11 (ldP (rd h10 (b.add 2)) fun p12=>ldI .u32 (rd h10 ((Addr.mk b4 0 none).add 1)) fun n13=>Cl 209 [.pointer p12,.int .u32 n13] h10 fun v14 h15=>ldI .i64 (some v14) fun _=>F166.wk3 a h15 K) (F166.wk3 a h10 K))))))))))))):Cl 166 [.pointer (some b),.pointer (some a)] h K:=cT F166.T Tryz.func166 H
end
def F167.T:Hint:=⟨[],[(1,[[(0,[]),(1,[]),(2,[]),(3,[]),(4,[]),(5,[]),(6,[]),(7,[]),(8,[]),(9,[]),(10,[]),(11,[])]])]⟩
theorem F167.spec(b a:Addr)(c:Int)(h:Heap)(K:KK)(H:Cl 166 [.pointer (some b),.pointer (some a)] h fun v1 h2=>v1=(.tuple #[])∧ldI .i64 (rd h2 ((a.add 12).add 2)) fun n3=>0≤n3∧n3<(Nat.cast 6:Int)∧stK h2 (((a.add 0).add (Int.toNat n3*2)).add 0) (.bool true) fun h4=>stK h4 (((a.add 0).add (Int.toNat n3*2)).add 1) (.int .u32 c) fun h5=>ldP (rd h5 (b.add 2)) fun p6=>Cl 210 [.pointer p6,.int .u32 c] h5 fun v7 h8=>v7=(.tuple #[])∧K (.tuple #[]) h8):Cl 167 [.pointer (some b),.pointer (some a),.int .u32 c] h K:=cT F167.T Tryz.func167 H
theorem F168.spec(d c:Addr)(a b:Int)(h:Heap)(K:KK)(H:newK h (.cells #[.int .i64 a,.int .u64 b] 76) fun b1 h2=>ldI .i64 (rd h2 ((Addr.mk b1 0 none).add 0)) fun n3=>ldI .u64 (rd h2 ((Addr.mk b1 0 none).add 1)) fun n4=>stK h2 ((c.add 21).add 0) (.int .i64 n3) fun h5=>stK h5 ((c.add 21).add 1) (.int .u64 n4) fun h6=>stK h6 ((c.add 23).add 0) (.bool true) fun h7=>stK h7 ((c.add 19).add 0) (.bool false) fun h8=>ldI .i64 (rd h8 (d.add 99)) fun n9=>stK h8 ((d.add 99).add 0) (.int .i64 (IntKind.wrap .i64 (n9+(1:Int)))) fun h10=>K (.tuple #[]) h10):Cl 168 [.pointer (some d),.pointer (some c),.agg #[.int .i64 a,.int .u64 b]] h K:=cN Tryz.func168 H
def F170.T:Hint:=⟨[(2,[8,9])],[]⟩
section
variable (n:Nat)(c:Addr)(b:List Value)(a:Int)(h:Heap)(K:KK)
def F170.wL2:Prop:=Lp Tryz.f170 F170.T [1,0,1,0] n [(8,(.agg (List.toArray b))),(9,(.int .i64 a))] h K
theorem F170.sL2:F170.wL2 (n+1) b a h K=(bcase (decide (a<(4:Int))) ((0≤a∧a<(Nat.cast 4:Int)∧ldB (b[Int.toNat a*24+0]?) fun b1=>ldI .u32 (b[Int.toNat a*24+1]?) fun n2=>ldB (b[Int.toNat a*24+2]?) fun b3=>ldI .u32 (b[Int.toNat a*24+3]?) fun n4=>ldB (b[Int.toNat a*24+4]?) fun b5=>ldI .u32 (b[Int.toNat a*24+5]?) fun n6=>ldB (b[Int.toNat a*24+6]?) fun b7=>ldI .u32 (b[Int.toNat a*24+7]?) fun n8=>ldB (b[Int.toNat a*24+8]?) fun b9=>ldI .u32 (b[Int.toNat a*24+9]?) fun n10=>ldB (b[Int.toNat a*24+10]?) fun b11=>ldI .u32 (b[Int.toNat a*24+11]?) fun n12=>ldI .i64 (b[Int.toNat a*24+12]?) fun n13=>ldI .i64 (b[Int.toNat a*24+13]?) fun n14=>ldI .i64 (b[Int.toNat a*24+14]?) fun n15=>ldI .i64 (b[Int.toNat a*24+15]?) fun n16=>ldI .i64 (b[Int.toNat a*24+16]?) fun n17=>ldI .i64 (b[Int.toNat a*24+17]?) fun n18=>ldI .u8 (b[Int.toNat a*24+18]?) fun n19=>ldB (b[Int.toNat a*24+19]?) fun b20=>ldI .i64 (b[Int.toNat a*24+20]?) fun n21=>ldI .i64 (b[Int.toNat a*24+21]?) fun n22=>ldI .u64 (b[Int.toNat a*24+22]?) fun n23=>ldB (b[Int.toNat a*24+23]?) fun b24=>newK h (.cells #[.bool false,.int .u32 0,.bool false,.int .u32 0,.bool false,.int .u32 0,.bool false,.int .u32 0,.bool false,.int .u32 0,.bool false,.int .u32 0,.int .i64 0,.int .i64 0,.int .i64 0,.int .i64 0,.int .i64 0,.int .i64 0,.int .u8 0,.bool false,.int .i64 0,.int .i64 0,.int .u64 0,.bool false] 129) fun b25 h26=>stK h26 ((Addr.mk b25 0 none).add 0) (.bool b1) fun h27=>stK h27 ((Addr.mk b25 0 none).add 1) (.int .u32 n2) fun h28=>stK h28 ((Addr.mk b25 0 none).add 2) (.bool b3) fun h29=>stK h29 ((Addr.mk b25 0 none).add 3) (.int .u32 n4) fun h30=>stK h30 ((Addr.mk b25 0 none).add 4) (.bool b5) fun h31=>stK h31 ((Addr.mk b25 0 none).add 5) (.int .u32 n6) fun h32=>stK h32 ((Addr.mk b25 0 none).add 6) (.bool b7) fun h33=>stK h33 ((Addr.mk b25 0 none).add 7) (.int .u32 n8) fun h34=>stK h34 ((Addr.mk b25 0 none).add 8) (.bool b9) fun h35=>stK h35 ((Addr.mk b25 0 none).add 9) (.int .u32 n10) fun h36=>stK h36 ((Addr.mk b25 0 none).add 10) (.bool b11) fun h37=>stK h37 ((Addr.mk b25 0 none).add 11) (.int .u32 n12) fun h38=>stK h38 ((Addr.mk b25 0 none).add 12) (.int .i64 n13) fun h39=>stK h39 ((Addr.mk b25 0 none).add 13) (.int .i64 n14) fun h40=>stK h40 ((Addr.mk b25 0 none).add 14) (.int .i64 n15) fun h41=>stK h41 ((Addr.mk b25 0 none).add 15) (.int .i64 n16) fun h42=>stK h42 ((Addr.mk b25 0 none).add 16) (.int .i64 n17) fun h43=>stK h43 ((Addr.mk b25 0 none).add 17) (.int .i64 n18) fun h44=>stK h44 ((Addr.mk b25 0 none).add 18) (.int .u8 n19) fun h45=>stK h45 ((Addr.mk b25 0 none).add 19) (.bool b20) fun h46=>stK h46 ((Addr.mk b25 0 none).add 20) (.int .i64 n21) fun h47=>stK h47 ((Addr.mk b25 0 none).add 21) (.int .i64 n22) fun h48=>stK h48 ((Addr.mk b25 0 none).add 22) (.int .u64 n23) fun h49=>stK h49 ((Addr.mk b25 0 none).add 23) (.bool b24) fun h50=>ldB (rd h50 ((Addr.mk b25 0 none).add 19)) fun b51=>bcase b51 (ldI .i64 (rd h50 ((Addr.mk b25 0 none).add 20)) fun n52=>bcase (decide (n52>(0:Int))) (K (.bool true) h50) (F170.wL2 n b (IntKind.wrap .i64 (a+(1:Int))) h50 K)) (F170.wL2 n b (IntKind.wrap .i64 (a+(1:Int))) h50 K))) (K (.bool false) h)):=by kernel_rfl
def F170.wk2:Prop:=(∃m,F170.wL2 m b a h K)
theorem F170.spec(H:ldG h (c.add 3) 96 fun v1=>F170.wk2 v1 (0:Int) h K):Cl 170 [.pointer (some c)] h K:=cT F170.T Tryz.func170 H
end
def F171.T:Hint:=⟨[],[(0,[[(0,[]),(1,[]),(2,[]),(3,[]),(4,[]),(5,[]),(6,[]),(7,[]),(8,[0,1,2,3]),(9,[])]])]⟩
theorem F171.spec(a:Addr)(h:Heap)(K:KK)(H:ldP (rd h (a.add 0)) fun p1=>ldP (rd h (a.add 2)) fun p2=>Cl 213 [.pointer p2] h fun v3 h4=>ldS (some v3) fun p5 l6 c7=>((.pointer (some a))=((.pointer (some a)):Value)∧((.pointer (some a))=((.pointer (some a)):Value)∧((.pointer (some (a.add 0)))=((.pointer (some (a.add 0))):Value)∧ldP (rd h4 (a.add 0)) fun p8=>((.pointer p8)=((.pointer p1):Value)∧Cl 212 [.pointer p1,.slice p5 l6 c7] h4 fun v9 h10=> ∃n11:Int,∃n12:Int,∃n13:Int,v9=(.tuple #[.int .i64 n11,.int .i64 n12,.int .i64 n13])∧K (.tuple #[]) h10))))):Cl 171 [.pointer (some a)] h K:=cT F171.T Tryz.func171 H
end
section
def calV(c:Cal):Value:= .agg #[.int .i64 c.kind,.int .i64 c.op,.int .i64 c.dst,.int .i64 c.a,.int .i64 c.b,.int .i64 c.c,.int .u8 (c.mask:Int)]
def isR(x:Int):Prop:=0≤x∧x<6
instance (x:Int):Decidable (isR x):=by unfold isR;infer_instance
def wrK(k:Int):Prop:=1≤k∧k≤3∨k=6
instance (x:Int):Decidable (wrK x):=by unfold wrK;infer_instance
theorem wr_not{k:Int}(h: ¬(1≤k∧k≤3)):(k==(6:Int))=decide (wrK k):=by
 by_cases q:k=6
 ·subst q;rw[decide_eq_true (p:=wrK 6) (.inr rfl)];rfl
 ·rw[decide_eq_false (p:=wrK k) (fun c=>by rcases c with c|c<;>omega)];exact eqz q
def rds(c:Cal):List Int:=if c.kind=4 then [c.a]else if c.kind=5 then [c.a,c.b]else if c.kind=3 then [c.a,c.b,c.c].take (takesZ c.op).toNat else []
section
variable {h:Heap}{e:Nat}{E:Eng}{K:Value→Heap→Prop}
theorem session76{i:Int}(hO:(i<0∨4≤i)→K (.pointer none) h)(hI: ∀k:Nat,k<4→i=(k:Int)→K (.pointer (some ⟨e,3+24*k,none⟩)) h):Cl 76 [ptrV e,.int .i64 i] h K:=by
 refine F76.spec _ _ h K ?_
 refine bcase_of (fun c=>hO (.inl (of_decide_eq_true c))) fun c=>bcase_of (fun d=>hO (.inr (of_decide_eq_true d))) fun d=> ?_
 have c:=of_decide_eq_false c
 have d:=of_decide_eq_false d
 have d: ¬(4:Int)≤i:=d
 refine⟨by omega,by omega,?_⟩
 have:=hI i.toNat (by omega) (by omega)
 simpa only[add_mk,Nat.zero_add,Nat.mul_comm 24]using this
theorem is82{x:Int}(hK:K (.bool (decide (isR x))) h):Cl 82 [.int .i64 x] h K:=by
 refine F82.spec _ h K ?_
 refine bcase_of (fun c=> ?_) fun c=> ?_
 ·have c:(0:Int)≤x:=of_decide_eq_true c
  rw[show decide (x<(6:Int))=decide (isR x) by unfold isR;simp[c]]
  exact hK
 ·have c: ¬(0:Int)≤x:=of_decide_eq_false c
  rw[decide_eq_false (by unfold isR;omega)]at hK
  exact hK
theorem writes120{c:Cal}(hK: ∀h',Only [] h h'→K (.bool (decide (wrK c.kind))) h'):Cl 120 [calV c] h K:=by
 refine F120.spec _ _ _ _ _ _ _ h K ?_
 refine newK_at fun h1 A1 O1 z1=> ?_
 simp only[add_mk,Nat.zero_add]
 have r:Ev.rd h1 ⟨h.size,0,none⟩=some (.int .i64 c.kind):=At.rd A1 0
 have hK:=hK h1 O1
 refine ldI_of r (bcase_of (fun a=>ldI_of r (bcase_of (fun b=> ?_) fun b=>ldI_of r ?_)) fun a=>ldI_of r ?_)
 ·rw[decide_eq_true (.inl ⟨of_decide_eq_true a,of_decide_eq_true b⟩)]at hK
  exact hK
 ·have b:=of_decide_eq_false b
  rw[wr_not (by omega)]
  exact hK
 ·have a: ¬(1:Int)≤c.kind:=of_decide_eq_false a
  rw[wr_not (by omega)]
  exact hK
theorem takes122{x:Int}(hK:K (.int .i64 (takesZ x)) h):Cl 122 [.int .i64 x] h K:=by
 refine F122.spec _ h K ?_
 unfold takesZ at hK
 by_cases h1:x=1
 ·subst h1;exact hK
 by_cases h2:x=2
 ·subst h2;exact hK
 by_cases h3:x=3
 ·subst h3;exact hK
 by_cases h4:x=4
 ·subst h4;exact hK
 by_cases h5:x=5
 ·subst h5;exact hK
 by_cases h6:x=6
 ·subst h6;exact hK
 by_cases h7:x=7
 ·subst h7;exact hK
 by_cases h8:x=8
 ·subst h8;exact hK
 by_cases h9:x=9
 ·subst h9;exact hK
 by_cases h10:x=10
 ·subst h10;exact hK
 rw[if_neg (by omega),if_neg (by omega),if_neg h5]at hK
 simp only[eqz h1,eqz h2,eqz h3,eqz h4,eqz h5,eqz h6,eqz h7,eqz h8,eqz h9,eqz h10,bcase_false]
 exact hK
theorem takes_le(x:Int):0≤takesZ x∧takesZ x≤3:=by
 unfold takesZ
 repeat' split
 all_goals omega
def RowI(h h':Heap)(p:Option Addr)(l:Nat)(xs:List Int):Prop:=l=xs.length∧(xs=[]∨ ∃(b:Nat) (L:List Value),p=some ⟨b,0,none⟩∧h.size≤b∧At h' b L∧ ∀(i:Nat) (x:Int),xs[i]? =some x→L[i]? =some (Value.int .i64 x))
theorem reads121{c:Cal}(hK: ∀h' p l q,Only [] h h'→RowI h h' p l (rds c)→K (.slice p l q) h'):Cl 121 [calV c] h K:=by
 refine F121.spec _ _ _ _ _ _ _ h K ?_
 refine newK_at fun h1 A1 O1 z1=> ?_
 simp only[add_mk,Nat.zero_add]
 have r: ∀k,Ev.rd h1 ⟨h.size,k,none⟩=([.int .i64 c.kind,.int .i64 c.op,.int .i64 c.dst,.int .i64 c.a,.int .i64 c.b,.int .i64 c.c,.int .u8 (c.mask:Int)]:List Value)[k]? :=fun k=>At.rd A1 k
 refine ldI_of (n:=c.kind) (by rw[r];rfl) (bcase_of (fun a=> ?_) fun a=>bcase_of (fun b=> ?_) fun b=>bcase_of (fun d=> ?_) fun d=> ?_)
 ·have a:c.kind=4:=by simpa using a
  refine ldI_of (n:=c.a) (by rw[r];rfl) (newK_at fun h2 A2 O2 z2=> ?_)
  refine hK h2 _ _ _ (O1.trans O2 (by simp)) ?_
  have e:rds c=[c.a]:=by unfold rds;rw[if_pos a]
  rw[e]
  exact⟨rfl,.inr ⟨h1.size,_,rfl,by omega,A2,fun i x hx=>by
   cases i with
   |zero=>simp at hx;subst hx;rfl
   |succ i=>simp at hx⟩⟩
 ·have a: ¬c.kind=4:=by simpa using a
  have b:c.kind=5:=by simpa using b
  refine ldI_of (n:=c.a) (by rw[r];rfl) (ldI_of (n:=c.b) (by rw[r];rfl) (newK_at fun h2 A2 O2 z2=> ?_))
  refine hK h2 _ _ _ (O1.trans O2 (by simp)) ?_
  have e:rds c=[c.a,c.b]:=by unfold rds;rw[if_neg a,if_pos b]
  rw[e]
  exact⟨rfl,.inr ⟨h1.size,_,rfl,by omega,A2,fun i x hx=>by
   rcases i with _|_|i
   ·simp at hx;subst hx;rfl
   ·simp at hx;subst hx;rfl
   ·simp at hx⟩⟩
 ·have a: ¬c.kind=4:=by simpa using a
  have b: ¬c.kind=5:=by simpa using b
  have d:c.kind=3:=by simpa using d
  have e:rds c=[c.a,c.b,c.c].take (takesZ c.op).toNat:=by unfold rds;rw[if_neg a,if_neg b,if_pos d]
  have tl:=takes_le c.op
  have row: ∀(hh:Heap) (A:At hh h1.size [.int .i64 c.a,.int .i64 c.b,.int .i64 c.c]),RowI h hh (some ⟨h1.size,0,none⟩) (takesZ c.op).toNat (rds c):=fun hh A=>by
   rw[e]
   refine⟨by simp;try omega,.inr ⟨h1.size,_,rfl,by omega,A,fun i x hx=> ?_⟩⟩
   rw[List.getElem?_take]at hx
   split at hx
   ·rcases i with _|_|_|i
    ·simp at hx;subst hx;rfl
    ·simp at hx;subst hx;rfl
    ·simp at hx;subst hx;rfl
    ·simp at hx
   ·cases hx
  have fin: ∀(hh:Heap) (q:Nat),Only [] h hh→At hh h1.size [.int .i64 c.a,.int .i64 c.b,.int .i64 c.c]→K (.slice (if 3=0 then(some (Addr.mk h1.size 0 none))else Option.map (fun a=>Addr.add a (0*1)) (some (Addr.mk h1.size 0 none))) (Int.toNat (takesZ c.op)-0) q) hh:=fun hh q O A=>by
   have:=hK hh _ _ q O (row hh A)
   simpa using this
  refine⟨?_,?_⟩
  ·refine ldI_of (n:=c.a) (by rw[r];rfl) (ldI_of (n:=c.b) (by rw[r];rfl) (ldI_of (n:=c.c) (by rw[r];rfl) (ldI_of (n:=c.op) (by rw[r];rfl) (newK_at fun h2 A2 O2 z2=> ?_))))
   have r2: ∀k,Ev.rd h2 ⟨h.size,k,none⟩=([.int .i64 c.kind,.int .i64 c.op,.int .i64 c.dst,.int .i64 c.a,.int .i64 c.b,.int .i64 c.c,.int .u8 (c.mask:Int)]:List Value)[k]? :=fun k=>At.rd (A1.only O2 (by simp)) k
   refine⟨trivial,ldI_of (n:=c.op) (by rw[r2];rfl) ⟨rfl,takes122 (ldI_of rfl ?_)⟩⟩
   refine⟨trivial,ldI_of (n:=c.a) (by rw[r2];rfl) ⟨rfl,trivial,ldI_of (n:=c.b) (by rw[r2];rfl) ⟨rfl,trivial,ldI_of (n:=c.c) (by rw[r2];rfl) ⟨rfl,tl.1,tl.2,?_⟩⟩⟩⟩
   exact fin h2 _ (O1.trans O2 (by simp)) A2
  ·refine ldI_of (n:=c.a) (by rw[r];rfl) (ldI_of (n:=c.b) (by rw[r];rfl) (ldI_of (n:=c.c) (by rw[r];rfl) (ldI_of (n:=c.op) (by rw[r];rfl) (takes122 (ldI_of rfl ?_)))))
   refine⟨trivial,ldI_of (n:=c.a) (by rw[r];rfl) ⟨rfl,trivial,ldI_of (n:=c.b) (by rw[r];rfl) ⟨rfl,trivial,ldI_of (n:=c.c) (by rw[r];rfl) ⟨rfl,newK_at fun h2 A2 O2 z2=> ?_⟩⟩⟩⟩
   have r2: ∀k,Ev.rd h2 ⟨h.size,k,none⟩=([.int .i64 c.kind,.int .i64 c.op,.int .i64 c.dst,.int .i64 c.a,.int .i64 c.b,.int .i64 c.c,.int .u8 (c.mask:Int)]:List Value)[k]? :=fun k=>At.rd (A1.only O2 (by simp)) k
   refine⟨trivial,ldI_of (n:=c.op) (by rw[r2];rfl) ⟨rfl,tl.1,tl.2,?_⟩⟩
   exact fin h2 _ (O1.trans O2 (by simp)) A2
 ·have a: ¬c.kind=4:=by simpa using a
  have b: ¬c.kind=5:=by simpa using b
  have d: ¬c.kind=3:=by simpa using d
  refine hK h1 _ _ _ O1 ?_
  have e:rds c=[]:=by unfold rds;rw[if_neg a,if_neg b,if_neg d]
  rw[e]
  exact⟨rfl,.inl rfl⟩
theorem store23(H:EIs h e E)(hK:K (ptrV E.s) h):Cl 23 [ptrV e] h K:=by
 refine F23.spec _ h K ?_
 exact ldP_of (by rw[add_mk];exact H.s) hK
theorem answered54(H:EIs h e E)(hK:K (.int .i64 (E.ans:Int)) h):Cl 54 [ptrV e] h K:=by
 refine F54.spec _ h K ?_
 exact ldI_of (by rw[add_mk];exact H.ans) hK
theorem pending56(H:EIs h e E){i:Int}(hO:(i<0∨4≤i)→K (.bool false) h)(hI: ∀k:Nat,k<4→i=(k:Int)→K (.bool (E.ses k).pend) h):Cl 56 [ptrV e,.int .i64 i] h K:=by
 refine F56.spec _ _ h K ?_
 refine session76 (fun c=>ldP_of rfl (hO c)) fun k hk ek=>ldP_of rfl ?_
 show bcase true _ _
 rw[bcase_true]
 show ldB (Ev.rd h (Addr.add ⟨e,3+24*k,none⟩ 19)) _
 exact ldB_of (n:=(E.ses k).pend) (by rw[add_mk];exact H.pend hk rfl) (hI k hk ek)
def regV(E:Eng)(i r:Int):Int×Bool:=if(0≤i∧i<4)∧isR r then(((E.ses i.toNat).hnd r.toNat:Int),(E.ses i.toNat).there r.toNat)else(0,false)
theorem reg28(H:EIs h e E){i r:Int}(hK:K (.tuple #[.int .u32 (regV E i r).1,.bool (regV E i r).2]) h):Cl 28 [ptrV e,.int .i64 i,.int .i64 r] h K:=by
 refine F28.spec _ _ _ h K ?_
 refine session76 (fun c=>ldP_of rfl ?_) fun k hk ek=>ldP_of rfl ?_
 ·unfold regV at hK
  rw[if_neg (by omega)]at hK
  exact hK
 ·show bcase false _ _
  rw[bcase_false]
  refine is82 (ldB_of rfl ?_)
  by_cases hr:isR r
  ·rw[decide_eq_true hr,Bool.not_true,bcase_false]
   unfold regV at hK
   rw[if_pos ⟨by omega,hr⟩]at hK
   have e1:i.toNat=k:=by omega
   have r6:r.toNat<6:=by unfold isR at hr;omega
   rw[e1]at hK
   refine⟨hr.1,hr.2,ldI_of (by simp only[add_mk];exact H.hnd hk r6 (by omega)) ⟨hr.1,hr.2,ldB_of (by simp only[add_mk];exact H.thr hk r6 (by omega)) hK⟩⟩
  ·rw[decide_eq_false hr,Bool.not_false,bcase_true]
   unfold regV at hK
   rw[if_neg (fun c=>hr c.2)]at hK
   exact hK
theorem answer43(H:EIs h e E){i:Int}(hO:(i<0∨4≤i)→ ∀h',Only [] h h'→K (.tuple #[.agg #[.int .i64 0,.int .u64 0],.bool false]) h')
  (hI: ∀k:Nat,k<4→i=(k:Int)→ ∀h',Only [] h h'→K (.tuple #[.agg #[.int .i64 (if(E.ses k).ansd=true then(E.ses k).err else 0),.int .u64 (if(E.ses k).ansd=true then((E.ses k).num:Int)else 0)],.bool (E.ses k).ansd]) h'):
  Cl 43 [ptrV e,.int .i64 i] h K:=by
 refine F43.spec _ _ h K ?_
 refine newK_at fun h1 A1 O1 z1=> ?_
 simp only[add_mk,Nat.zero_add]
 have zero:(∀h',Only [] h h'→K (.tuple #[.agg #[.int .i64 0,.int .u64 0],.bool false]) h')→stK h1 ⟨h.size,0,none⟩ (.int .i64 (0:Int)) (fun h6=>stK h6 ⟨h.size,1,none⟩ (.int .u64 (0:Int)) (fun h7=>ldI .i64 (Ev.rd h7 ⟨h.size,0,none⟩) (fun n8=>ldI .u64 (Ev.rd h7 ⟨h.size,1,none⟩) (fun n9=>K (.tuple #[(.agg #[(.int .i64 n8),(.int .u64 n9)]),(.bool false)]) h7)))):=fun g=>by
  refine stK_at A1 (by simp) rfl fun h2 A2 O2 z2=>stK_at A2 (by simp) rfl fun h3 A3 O3 z3=> ?_
  refine ldI_of (n:=0) (by rw[At.rd A3];rfl) (ldI_of (n:=0) (by rw[At.rd A3];rfl) (g h3 ?_))
  exact(O1.trans O2 (by intro x hx hl;simp at hx;omega)).trans O3 (by intro x hx hl;simp at hx;omega)
 refine session76 (fun c=>ldP_of rfl ?_) fun k hk ek=>ldP_of rfl ?_
 ·exact zero (hO c)
 ·have hI:=hI k hk ek
  show bcase false _ _
  rw[bcase_false]
  have H1:=H.only0 O1
  refine ldB_of (n:=(E.ses k).ansd) (by rw[add_mk];exact H1.ansd hk rfl) (bcase_of (fun c=> ?_) fun c=> ?_)
  ·have c:(E.ses k).ansd=false:=by simpa using c
   rw[c]at hI
   exact zero hI
  ·have c:(E.ses k).ansd=true:=by simpa using c
   rw[c,if_pos rfl,if_pos rfl]at hI
   refine ldI_of (by simp only[add_mk];exact H1.err hk (by omega)) (ldI_of (by simp only[add_mk];exact H1.num hk (by omega)) ?_)
   refine stK_at A1 (by simp) rfl fun h2 A2 O2 z2=>stK_at A2 (by simp) rfl fun h3 A3 O3 z3=> ?_
   refine ldI_of (n:=(E.ses k).err) (by rw[At.rd A3];rfl) (ldI_of (n:=((E.ses k).num:Int)) (by rw[At.rd A3];rfl) (hI h3 ?_))
   exact(O1.trans O2 (by intro x hx hl;simp at hx;omega)).trans O3 (by intro x hx hl;simp at hx;omega)
end
end
end Go.Proofs.YtnofenejoebkhaaGreat.Ev
