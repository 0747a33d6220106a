/- EVALUATOR, part 1: a weakest precondition of the model's code that is computed over heaps alone (no world, no tape), its values typed by the program's tables. Definitions only; conditions: none. -/
import Derived.Orders
import Derived.LoopN
import Derived.KernelRfl
import Derived.Laws.LoneSync
import Derived.Laws.MakeOwn
import Derived.Laws.AppendOwn
import Derived.Laws.Cells
import Derived.Laws.StructEq
import Derived.Tactics
namespace Go.Proofs.Ytipckkeaoncjiaa.Ev
open Go

abbrev Heap := Array Obj
abbrev Fr := List (Nat × Value)

/-- a cell of the heap -/
def rd (h : Heap) (a : Addr) : Option Value :=
  match h[a.block]? with
  | some (.cells c _ _) => if a.spot.isSome then none else c[a.off]?
  | _ => none
def fz (h : Heap) (a : Addr) : Bool :=
  match h[a.block]? with
  | some (.cells _ _ (lo, hi)) => lo ≤ a.off && a.off < hi
  | _ => false
def wr (h : Heap) (a : Addr) (v : Value) : Heap :=
  h.modify a.block fun
    | .cells c elem frozen => .cells (if a.spot.isSome then c else c.setIfInBounds a.off v) elem frozen
    | o => o
def mp (h : Heap) (r : Nat) : Option (Array MapEntry × Nat) :=
  match h[r]? with
  | some (.map es c) => some (es, c)
  | _ => none

/-- a frame's slot -/
def get : Fr → Nat → Option Value
  | [], _ => none
  | (k, v) :: r, t => match Nat.beq k t with | true => some v | false => get r t
def put (ρ : Fr) (d : Option Nat) (v : Value) : Fr := match d with | some t => (t, v) :: ρ | none => ρ
def cut : List Nat → Fr → Fr
  | [], _ => []
  | t :: L, ρ => match get ρ t with | some v => (t, v) :: cut L ρ | none => cut L ρ
def ev (ρ : Fr) : Operand → Option Value
  | .tmp t => get ρ t
  | .const v => some v
  | .global g => some (.pointer (some ⟨g, 0, none⟩))
  | .func f => some (.func (.func f) #[] #[])
def evs (ρ : Fr) : List Operand → Option (List Value)
  | [] => some []
  | x :: xs => match ev ρ x with | some v => (match evs ρ xs with | some vs => some (v :: vs) | none => none) | none => none

/-- both ways of a test -/
def bcase (b : Bool) (t f : Prop) : Prop := match b with | true => t | false => f
def opt {α : Type} (x : Option α) (K : α → Prop) : Prop := match x with | some v => K v | none => False
/-- a pointer that is not nil -/
def ptrK (p : Option Addr) (K : Addr → Prop) : Prop := match p with | some a => K a | none => False

/-- some value of a zero value's shape -/
def ex1 (z : Value) (K : Value → Prop) : Prop :=
  match z with
  | .int k _ => ∃ n : Int, K (.int k n)
  | .bool _ => ∃ b : Bool, K (.bool b)
  | .pointer _ => ∃ p : Option Addr, K (.pointer p)
  | .slice _ _ _ => ∃ (p : Option Addr) (l c : Nat), K (.slice p l c)
  | .map _ => ∃ r : Option Nat, K (.map r)
  | .string _ => ∃ s : ByteArray, K (.string s)
  | _ => ∃ v : Value, K v
def exL : List Value → (List Value → Prop) → Prop
  | [], K => K []
  | z :: zs, K => ex1 z fun v => exL zs fun vs => K (v :: vs)
def exK (z : Value) (K : Value → Prop) : Prop :=
  match z with
  | .agg zs => exL zs.toList fun vs => K (.agg vs.toArray)
  | z => ex1 z K
def exT : List Value → (List Value → Prop) → Prop
  | [], K => K []
  | z :: zs, K => exK z fun v => exT zs fun vs => K (v :: vs)

def ldI (k : IntKind) (x : Option Value) (K : Int → Prop) : Prop := ∃ n : Int, x = some (.int k n) ∧ K n
def ldB (x : Option Value) (K : Bool → Prop) : Prop := ∃ b : Bool, x = some (.bool b) ∧ K b
def ldP (x : Option Value) (K : Option Addr → Prop) : Prop := ∃ p : Option Addr, x = some (.pointer p) ∧ K p
def ldS (x : Option Value) (K : Option Addr → Nat → Nat → Prop) : Prop := ∃ (p : Option Addr) (l c : Nat), x = some (.slice p l c) ∧ K p l c
def ldM (x : Option Value) (K : Option Nat → Prop) : Prop := ∃ r : Option Nat, x = some (.map r) ∧ K r
def ldY (x : Option Value) (K : ByteArray → Prop) : Prop := ∃ s : ByteArray, x = some (.string s) ∧ K s
def ldV (x : Option Value) (K : Value → Prop) : Prop := ∃ v : Value, x = some v ∧ K v
/-- what was read, typed by a zero value's shape -/
def ldK (z : Value) (x : Option Value) (K : Value → Prop) : Prop :=
  match z with
  | .int k _ => ldI k x fun n => K (.int k n)
  | .bool _ => ldB x fun b => K (.bool b)
  | .pointer _ => ldP x fun p => K (.pointer p)
  | .slice _ _ _ => ldS x fun p l c => K (.slice p l c)
  | .map _ => ldM x fun r => K (.map r)
  | .string _ => ldY x fun s => K (.string s)
  | _ => ldV x K
def ldL (h : Heap) (a : Addr) : Nat → List Value → (List Value → Prop) → Prop
  | _, [], K => K []
  | i, z :: zs, K => ldK z (rd h (a.add i)) fun v => ldL h a (i + 1) zs fun vs => K (v :: vs)

def zv (P : Program) (t : TypeId) : Option Value := (P.info? t).bind (·.zero)
def isA : TypeDesc → Bool | .struct _ => true | .array _ _ => true | _ => false

def loadE (P : Program) (t : TypeId) (h : Heap) (p : Option Addr) (K : Value → Prop) : Prop :=
  match P.underlying t, zv P t with
  | some d, some z =>
    match isA d with
    | true => match z with
      | .agg zs => match Nat.beq zs.size (P.cellsOf t) with
        | true => ptrK p fun a => ldL h a 0 zs.toList fun vs => K (.agg vs.toArray)
        | false => False
      | _ => False
    | false => ptrK p fun a => ldK z (rd h a) K
  | _, _ => False

def bitsI (op : BinOp) (k : IntKind) (x y : Int) : Int :=
  let a := BitVec.ofInt k.bits x
  let b := BitVec.ofInt k.bits y
  match op with
  | .and => k.wrap (a &&& b).toNat
  | .or => k.wrap (a ||| b).toNat
  | .xor => k.wrap (a ^^^ b).toNat
  | _ => k.wrap (a &&& ~~~b).toNat

def intE (op : BinOp) (k : IntKind) (a b : Int) (K : Value → Prop) : Prop :=
  match op with
  | .add => K (.int k (k.wrap (a + b)))
  | .sub => K (.int k (k.wrap (a - b)))
  | .mul => K (.int k (k.wrap (a * b)))
  | .quo => b ≠ 0 ∧ K (.int k (k.wrap (a.tdiv b)))
  | .rem => b ≠ 0 ∧ K (.int k (a.tmod b))
  | .and => K (.int k (bitsI .and k a b))
  | .or => K (.int k (bitsI .or k a b))
  | .xor => K (.int k (bitsI .xor k a b))
  | .andNot => K (.int k (bitsI .andNot k a b))
  | .eql => K (.bool (a == b))
  | .neq => K (.bool (a != b))
  | .lss => K (.bool (decide (a < b)))
  | .leq => K (.bool (decide (a ≤ b)))
  | .gtr => K (.bool (decide (a > b)))
  | .geq => K (.bool (decide (a ≥ b)))
  | _ => False
def shE (op : BinOp) (k : IntKind) (a b : Int) (K : Value → Prop) : Prop :=
  match op with
  | .shl => 0 ≤ b ∧ K (.int k (k.wrap (a * 2 ^ (min b.toNat k.bits))))
  | .shr => 0 ≤ b ∧ K (.int k (a.fdiv (2 ^ (min b.toNat k.bits))))
  | _ => False
def isSh : BinOp → Bool | .shl => true | .shr => true | _ => false
def ikb : IntKind → IntKind → Bool
  | .i8, .i8 => true | .i16, .i16 => true | .i32, .i32 => true | .i64, .i64 => true
  | .u8, .u8 => true | .u16, .u16 => true | .u32, .u32 => true | .u64, .u64 => true
  | _, _ => false
/-- the cells of two structs, all whole numbers, are the same -/
def eqL : List Value → List Value → Option Bool
  | [], [] => some true
  | .int k a :: xs, .int k' b :: ys => match ikb k k' with | true => (match eqL xs ys with | some r => some (a == b && r) | none => none) | false => none
  | _, _ => none
/-- a struct of whole numbers, compared field by field -/
def flatB (P : Program) (t : TypeId) : Bool :=
  match P.underlying t with
  | some (.struct fs) => !P.stoodInHeld t && !P.eqGuardType P.depth t && (fs.toList.zipIdx.all fun (f, i) => f.offset == i && f.name != "_" && (match P.underlying f.type with | some (.int _) => true | _ => false)) && P.cellsOf t == fs.size
  | _ => false
def eqE (P : Program) (t : TypeId) (x y : Value) (K : Bool → Prop) : Prop :=
  match P.underlying t with
  | some .bool => match x, y with
    | .bool a, .bool b => K (a == b)
    | _, _ => False
  | some (.pointer _) => match x, y with
    | .pointer p, .pointer none => K p.isNone
    | .pointer none, .pointer p => K p.isNone
    | _, _ => False
  | some (.struct fs) => match flatB P t, x, y with
    | true, .agg xs, .agg ys => (match Nat.beq xs.size fs.size with | true => opt (eqL xs.toList ys.toList) K | false => False)
    | _, _, _ => False
  | _ => False
def binE (P : Program) (op : BinOp) (t : TypeId) (x y : Value) (K : Value → Prop) : Prop :=
  match x, y with
  | .int k a, .int k' b => match isSh op with
    | true => shE op k a b K
    | false => match ikb k k' with | true => intE op k a b K | false => False
  | x, y => match op with
    | .eql => eqE P t x y fun r => K (.bool r)
    | .neq => eqE P t x y fun r => K (.bool (!r))
    | _ => False
def unE (op : UnOp) (x : Value) (K : Value → Prop) : Prop :=
  match op, x with
  | .not, .bool b => K (.bool (!b))
  | .neg, .int k n => K (.int k (k.wrap (0 - n)))
  | .xor, .int k n => K (.int k (bitsI .xor k (if k.signed then -1 else k.max) n))
  | _, _ => False
def convE (P : Program) (src dst : TypeId) (x : Value) (K : Value → Prop) : Prop :=
  match P.underlying src, P.underlying dst, x with
  | some _, some (.int k), .int _ n => K (.int k (k.wrap n))
  | _, _, _ => False
def pickE (c : Bool) (a b : Option Value) (K : Value → Prop) : Prop :=
  match a, b with
  | some (.bool x), some (.bool y) => K (.bool (cond c x y))
  | _, _ => bcase c (opt a K) (opt b K)
def nilE (x : Value) (K : Value → Prop) : Prop :=
  match x with
  | .pointer p => ptrK p fun a => K (.pointer (some a))
  | .func (.func f) a b => K (.func (.func f) a b)
  | .iface t v => K (.iface t v)
  | _ => False
def fieldAddrE (P : Program) (s : TypeId) (x : Value) (i : Nat) (K : Value → Prop) : Prop :=
  match P.underlying s, x with
  | some (.struct fs), .pointer p => match fs[i]? with
    | some f => match P.info? f.type with
      | some ti => match Nat.beq ti.size 0 with | false => ptrK p fun a => K (.pointer (some (a.add f.offset))) | true => False
      | none => False
    | none => False
  | _, _ => False
def partE (P : Program) (t : TypeId) (cs : List Value) (off : Nat) (K : Value → Prop) : Prop :=
  match P.underlying t, P.info? t with
  | some d, some ti => match isA d with
    | true => K (.agg (cs.toArray.extract off (off + ti.size)))
    | false => opt cs[off]? K
  | _, _ => False
def fieldE (P : Program) (s : TypeId) (x : Value) (i : Nat) (K : Value → Prop) : Prop :=
  match P.underlying s, x with
  | some (.struct fs), .agg cs => match fs[i]? with
    | some f => partE P f.type cs.toList f.offset K
    | none => False
  | _, _ => False
def indexAddrE (P : Program) (t : TypeId) (x i : Value) (K : Value → Prop) : Prop :=
  match P.underlying t, x, i with
  | some (.array n e), .pointer p, .int _ j => match P.info? e with
    | some ti => ptrK p fun a => 0 ≤ j ∧ j < (n : Int) ∧ K (.pointer (some (a.add (j.toNat * ti.size))))
    | none => False
  | some (.slice e), .slice p l _, .int _ j => match P.info? e with
    | some ti => ptrK p fun a => 0 ≤ j ∧ j < (l : Int) ∧ K (.pointer (some (a.add (j.toNat * ti.size))))
    | none => False
  | _, _, _ => False
/-- a text's byte -/
def strK (s : ByteArray) (j : Int) (K : Int → Prop) : Prop := ∃ b : UInt8, s[j.toNat]? = some b ∧ K (b.toNat : Int)
def indexE (P : Program) (t : TypeId) (x i : Value) (K : Value → Prop) : Prop :=
  match P.underlying t, x, i with
  | some (.array n e), .agg cs, .int _ j => match P.underlying e, P.info? e with
    | some d, some _ => match isA d with
      | true => False
      | false => 0 ≤ j ∧ j < (n : Int) ∧ (match P.cellsOf e with | 1 => opt (zv P e) fun z => ldK z cs.toList[j.toNat]? K | _ => False)
    | _, _ => False
  | some .string, .string s, .int _ j => 0 ≤ j ∧ strK s j fun n => K (.int .u8 n)
  | _, _, _ => False
def sliceE (P : Program) (t : TypeId) (x : Value) (lo hi : Option Value) (K : Value → Prop) : Prop :=
  match P.underlying t, x with
  | some (.slice e), .slice p l c => match P.info? e with
    | some ti => match lo, hi with
      | none, some (.int _ j) => 0 ≤ j ∧ j ≤ (c : Int) ∧ K (.slice (if c = 0 then p else p.map (·.add (0 * ti.size))) (j.toNat - 0) (c - 0))
      | some (.int _ i), none => 0 ≤ i ∧ i ≤ (l : Int) ∧ K (.slice (if c = i.toNat then p else p.map (·.add (i.toNat * ti.size))) (l - i.toNat) (c - i.toNat))
      | some (.int _ i), some (.int _ j) => 0 ≤ j ∧ j ≤ (c : Int) ∧ 0 ≤ i ∧ i ≤ j ∧ K (.slice (if c = i.toNat then p else p.map (·.add (i.toNat * ti.size))) (j.toNat - i.toNat) (c - i.toNat))
      | none, none => K (.slice (if c = 0 then p else p.map (·.add (0 * ti.size))) (l - 0) (c - 0))
      | _, _ => False
    | none => False
  | some (.array n e), .pointer p => match P.info? e with
    | some ti => match lo, hi with
      | none, some (.int _ j) => ptrK p fun a => 0 ≤ j ∧ j ≤ (n : Int) ∧ K (.slice (some (if n = 0 then a else a.add (0 * ti.size))) (j.toNat - 0) (n - 0))
      | none, none => ptrK p fun a => K (.slice (some (if n = 0 then a else a.add (0 * ti.size))) (n - 0) (n - 0))
      | some (.int _ i), none => ptrK p fun a => 0 ≤ i ∧ i ≤ (n : Int) ∧ K (.slice (some (if n = i.toNat then a else a.add (i.toNat * ti.size))) (n - i.toNat) (n - i.toNat))
      | _, _ => False
    | none => False
  | _, _ => False
def extractE (x : Value) (i : Nat) (K : Value → Prop) : Prop :=
  match x with
  | .tuple vs => opt vs[i]? K
  | _ => False
def lookK (h : Heap) (r : Option Nat) (k1 kk : IntKind) (kn : Int) (K : Option (Nat × Value) → Prop) : Prop :=
  opt r fun b => ∃ es cl, mp h b = some (es, cl) ∧ ∃ o, Instr.findNow (.int k1) (.int kk kn) es.toList 0 = some o ∧ K o
def lkV (z : Value) (o : Option (Nat × Value)) : Value := match o with | some (_, v) => v | none => z
def lkK (z : Value) (o : Option (Nat × Value)) (ok : Bool) (K : Value → Prop) : Prop :=
  match ok with
  | true => ldK z (some (lkV z o)) fun v => K (.tuple #[v, .bool o.isSome])
  | false => ldK z (some (lkV z o)) K
/-- a key that is a whole number -/
def lookupE (P : Program) (t : TypeId) (h : Heap) (x k : Value) (ok : Bool) (K : Value → Prop) : Prop :=
  match P.underlying t, x, k with
  | some (.map kt et), .map r, .int kk kn => match P.underlying kt, zv P et with
    | some (.int k1), some z => lookK h r k1 kk kn fun o => lkK z o ok K
    | _, _ => False
  | _, _, _ => False
def buildE (P : Program) (t : TypeId) (parts : Option (List Value)) (ix : List Nat) (K : Value → Prop) : Prop :=
  match P.underlying t, zv P t, parts with
  | some (.struct fs), some z, some vs => match fs.toList.all (fun f => (P.info? f.type).isSome) with
    | true => opt (Instr.fill ((fs.map fun f => (f.offset, P.cellsOf f.type))[·]?) z.cells (ix.zip vs)) fun cells => K (.agg cells)
    | false => False
  | some (.array _ e), some z, some vs => match (P.info? e).isSome with
    | true => opt (Instr.fill (fun i => some (i * P.cellsOf e, P.cellsOf e)) z.cells (ix.zip vs)) fun cells => K (.agg cells)
    | false => False
  | _, _, _ => False
def ifaceE (P : Program) (t : TypeId) (v : Value) (K : Value → Prop) : Prop :=
  match P.underlying t with
  | some (.interface _) => False
  | some _ => K (.iface t v)
  | none => False
def assertE (P : Program) (asserted : TypeId) (ok : Bool) (x : Value) (K : Value → Prop) : Prop :=
  match P.underlying asserted, x with
  | some (.interface _), _ => False
  | some _, .iface t v => match Nat.beq t asserted with
    | true => (match ok with | true => K (.tuple #[v, .bool true]) | false => K v)
    | false => False
  | _, _ => False
def lenE (P : Program) (t : TypeId) (h : Heap) (x : Value) (K : Value → Prop) : Prop :=
  match P.underlying t, x with
  | some (.slice _), .slice _ l _ => K (.int .i64 l)
  | some (.array n _), _ => K (.int .i64 n)
  | some .string, .string s => K (.int .i64 s.size)
  | some (.map _ _), .map r => opt r fun b => ∃ es cl, mp h b = some (es, cl) ∧ K (.int .i64 es.size)
  | _, _ => False
def capE (P : Program) (t : TypeId) (x : Value) (K : Value → Prop) : Prop :=
  match P.underlying t, x with
  | some (.slice _), .slice _ _ c => K (.int .i64 c)
  | _, _ => False
def mxE (mx : Bool) (x y : Value) (K : Value → Prop) : Prop :=
  match x, y with
  | .int k a, .int _ b => K (.int k (match mx with | true => (if b > a then b else a) | false => (if b < a then b else a)))
  | _, _ => False
def evo (ρ : Fr) : Option Operand → Option (Option Value)
  | none => some none
  | some x => match ev ρ x with | some v => some (some v) | none => none

/-- operations that leave the heap alone -/
def valE (P : Program) (o : Op) (ρ : Fr) (h : Heap) (K : Value → Prop) : Prop :=
  match o with
  | .move x => opt (ev ρ x) K
  | .assign x => opt (ev ρ x) K
  | .pick c a b => match ev ρ c with | some (.bool t) => pickE t (ev ρ a) (ev ρ b) K | _ => False
  | .nilCheck x => opt (ev ρ x) fun v => nilE v K
  | .binOp op t x y _ => opt (ev ρ x) fun a => opt (ev ρ y) fun b => binE P op t a b K
  | .unOp op _ x => opt (ev ρ x) fun a => unE op a K
  | .convert s d x => opt (ev ρ x) fun a => convE P s d a K
  | .load t a => match ev ρ a with | some (.pointer p) => loadE P t h p K | _ => False
  | .fieldAddr s x i => opt (ev ρ x) fun a => fieldAddrE P s a i K
  | .field s x i => opt (ev ρ x) fun a => fieldE P s a i K
  | .indexAddr t x i => opt (ev ρ x) fun a => opt (ev ρ i) fun b => indexAddrE P t a b K
  | .index t x i => opt (ev ρ x) fun a => opt (ev ρ i) fun b => indexE P t a b K
  | .slice t x lo hi none => opt (ev ρ x) fun a => opt (evo ρ lo) fun l => opt (evo ρ hi) fun u => sliceE P t a l u K
  | .extract x i => opt (ev ρ x) fun a => extractE a i K
  | .lookup t x k ok => opt (ev ρ x) fun a => opt (ev ρ k) fun b => lookupE P t h a b ok K
  | .build t ps => buildE P t (evs ρ (ps.toList.map (·.2))) (ps.toList.map (·.1)) K
  | .makeInterface t x => opt (ev ρ x) fun a => ifaceE P t a K
  | .makeFunc fn first captured => opt (evs ρ first.toList) fun a => opt (evs ρ captured.toList) fun b => K (.func fn a.toArray b.toArray)
  | .typeAssert x _ t ok => opt (ev ρ x) fun a => assertE P t ok a K
  | .call { callee := .builtin b, args, argTypes } => match b, args.toList, argTypes.toList with
    | .len, [x], [t] => opt (ev ρ x) fun a => lenE P t h a K
    | .cap, [x], [t] => opt (ev ρ x) fun a => capE P t a K
    | .max, [x, y], _ => opt (ev ρ x) fun a => opt (ev ρ y) fun b => mxE true a b K
    | .min, [x, y], _ => opt (ev ρ x) fun a => opt (ev ρ y) fun b => mxE false a b K
    | _, _, _ => False
  | _ => False

def isEff : Op → Bool
  | .alloc _ => true | .box _ _ => true | .buildSlice _ _ _ => true | .store _ _ _ => true | .makeMap _ _ => true | .makeSlice _ _ _ => true
  | .mapUpdate _ _ _ _ => true | .mapEntry _ _ _ => true | .entryStore _ _ _ _ => true | .insert _ _ _ _ => true
  | .call { callee := .builtin b, .. } => (match b with | .len => false | .cap => false | .max => false | .min => false | _ => true)
  | .call _ => true
  | _ => false
end Go.Proofs.Ytipckkeaoncjiaa.Ev
