/- THE DEQUE: a whole push, pop, steal; the self-test; the law of cells (DequeCells). Conditions: none. -/
import Derived.Test.YtipckkeaoncjiaaDeqR
namespace Go.Proofs.Ytipckkeaoncjiaa.Ev
open Go

section
variable {h : Heap} {d m mc base n : Nat} {cs : List Int} {ops fails : Int} {Q : Value → Heap → Prop} {T : Nat} {q : List Int}

theorem pushrun {v : Int} (W : DW h d m mc base n cs ops fails) (S : DS base n cs T q) (hT : T + q.length < 1000000000)
    (hQ : ∀ h' ops' fails' cs', (q.length < n → DS base n cs' T (q ++ [v])) → (¬ q.length < n → cs' = cs) → Apart base n cs cs' → DW h' d m mc base n cs' ops' fails' → Only [m, mc] h h' → Q (.tuple #[.int .u64 (if q.length < n then v else 0), .bool (decide (q.length < n))]) h') :
    CallsH Try.prog 16 [.pointer (some ⟨d, 0, none⟩), .int .u64 v] h (fun v1 h2 => ldP (some v1) (fun p3 => CallsH Try.prog 15 [.pointer p3] h2 Q)) := by
  have lt := W.lt
  refine push_dw fun f bx by_ h1 H1 O1 a b c a' b' c' n1 n2 n3 => ldP_of rfl ?_
  refine runpush (W.only O1 (by simp) (by simp) (by simp)) S hT H1 (by omega) (by omega) (by omega) fun h2 o2 f2 cs2 r1 r2 r3 W2 O2 => ?_
  exact hQ h2 o2 f2 cs2 r1 r2 r3 W2 ((O1.mono (T := [m, mc]) (by simp)).trans O2 fun x hx hl => by
    simp at hx ⊢
    omega)
theorem poprun (W : DW h d m mc base n cs ops fails) (S : DS base n cs T q) (hT : T + q.length < 1000000000)
    (hE : q = [] → ∀ h' ops' fails' cs', DS base n cs' T [] → Apart base n cs cs' → DW h' d m mc base n cs' ops' fails' → Only [m, mc] h h' → Q (.tuple #[.int .u64 0, .bool false]) h')
    (hQ : ∀ x q' T', q = q' ++ [x] → T' + q'.length ≤ T + q.length → ∀ h' ops' fails' cs', DS base n cs' T' q' → Apart base n cs cs' → DW h' d m mc base n cs' ops' fails' → Only [m, mc] h h' → Q (.tuple #[.int .u64 x, .bool true]) h') :
    CallsH Try.prog 17 [.pointer (some ⟨d, 0, none⟩)] h (fun v1 h2 => ldP (some v1) (fun p3 => CallsH Try.prog 15 [.pointer p3] h2 Q)) := by
  have lt := W.lt
  refine pop_dw fun f bx by_ h1 H1 O1 a b c a' b' c' n1 n2 n3 => ldP_of rfl ?_
  have hO : ∀ h2, Only [f, m, mc] h1 h2 → Only [m, mc] h h2 := fun h2 O2 => (O1.mono (T := [m, mc]) (by simp)).trans O2 fun x hx hl => by
    simp at hx ⊢
    omega
  exact runpop (W.only O1 (by simp) (by simp) (by simp)) S hT H1 (by omega) (by omega) (by omega) (fun e h2 o2 f2 cs2 r1 r2 W2 O2 => hE e h2 o2 f2 cs2 r1 r2 W2 (hO h2 O2)) fun x q' T' e le _ h2 o2 f2 cs2 r1 r2 W2 O2 => hQ x q' T' e le h2 o2 f2 cs2 r1 r2 W2 (hO h2 O2)
theorem stealrun (W : DW h d m mc base n cs ops fails) (S : DS base n cs T q) (hT : T + q.length < 1000000000)
    (hE : q = [] → ∀ h' ops' fails', DW h' d m mc base n cs ops' fails' → Only [m, mc] h h' → Q (.tuple #[.int .u64 0, .bool false]) h')
    (hQ : ∀ x q', q = x :: q' → ∀ h' ops' fails' cs', DS base n cs' (T + 1) q' → Apart base n cs cs' → DW h' d m mc base n cs' ops' fails' → Only [m, mc] h h' → Q (.tuple #[.int .u64 x, .bool true]) h') :
    CallsH Try.prog 18 [.pointer (some ⟨d, 0, none⟩)] h (fun v1 h2 => ldP (some v1) (fun p3 => CallsH Try.prog 15 [.pointer p3] h2 Q)) := by
  have lt := W.lt
  refine steal_dw fun f bx by_ h1 H1 O1 a b c a' b' c' n1 n2 n3 => ldP_of rfl ?_
  have hO : ∀ h2, Only [f, m, mc] h1 h2 → Only [m, mc] h h2 := fun h2 O2 => (O1.mono (T := [m, mc]) (by simp)).trans O2 fun x hx hl => by
    simp at hx ⊢
    omega
  exact runsteal (W.only O1 (by simp) (by simp) (by simp)) S hT H1 (by omega) (by omega) (by omega) (fun e h2 o2 f2 W2 O2 => hE e h2 o2 f2 W2 (hO h2 O2)) fun x q' e h2 o2 f2 cs2 r1 r2 W2 O2 => hQ x q' e h2 o2 f2 cs2 r1 r2 W2 (hO h2 O2)
end
end Go.Proofs.Ytipckkeaoncjiaa.Ev
