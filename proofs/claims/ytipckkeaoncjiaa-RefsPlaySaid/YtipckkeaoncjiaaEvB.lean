/- EVALUATOR, part 2: operations that change the heap, regions, code. Definitions only; conditions: none. -/
import Derived.Test.YtipckkeaoncjiaaEvA
namespace Go.Proofs.Ytipckkeaoncjiaa.Ev
open Go

def Same (w w' : World) : Prop := w'.os = w.os ∧ w'.tape = w.tape ∧ w'.output = w.output

/-- a call, seen from the heap alone -/
def CallsH (P : Program) (f : FuncId) (args : List Value) (h : Heap) (K : Value → Heap → Prop) : Prop :=
  ∀ w : World, w.heap = h → Calls P f args.toArray w fun e w' => ∃ v, e = .returned v ∧ Same w w' ∧ K v w'.heap

inductive Ext where
  | go | load (k : IntKind) | store | cas (k : IntKind) | add (k : IntKind)
def xget : List (Nat × Ext) → Nat → Option Ext
  | [], _ => none
  | (k, v) :: r, t => match Nat.beq k t with | true => some v | false => xget r t

def zvs (P : Program) : List TypeId → Option (List Value)
  | [] => some []
  | t :: ts => match zv P t, zvs P ts with | some z, some zs => some (z :: zs) | _, _ => none
/-- a call's result, typed -/
def resK (P : Program) (ty : TypeId) (v : Value) (K : Value → Prop) : Prop :=
  match ((P.info? ty).map (fun i => i.desc) : Option TypeDesc) with
  | some (TypeDesc.tuple ts) => opt (zvs P ts.toList) fun zs => exT zs fun vs => v = .tuple vs.toArray ∧ K (.tuple vs.toArray)
  | some _ => opt (zv P ty) fun z => (match z with
    | .agg zs => exL zs.toList fun vs => v = .agg vs.toArray ∧ K (.agg vs.toArray)
    | z => ldK z (some v) K)
  | none => False
def callE (P : Program) (f : FuncId) (args : List Value) (ty : TypeId) (h : Heap) (K : Value → Heap → Prop) : Prop :=
  CallsH P f args h fun v h' => resK P ty v fun v' => K v' h'

def stK (h : Heap) (a : Addr) (v : Value) (K : Heap → Prop) : Prop :=
  match v.oneCell' with
  | true => (rd h a).isSome = true ∧ fz h a = false ∧ K (wr h a v)
  | false => False
/-- a new block -/
def newK (h : Heap) (o : Obj) (K : Nat → Heap → Prop) : Prop := K h.size (h.push o)
def stL (a : Addr) : Nat → List Value → Heap → (Heap → Prop) → Prop
  | _, [], h, K => K h
  | i, v :: vs, h, K => stK h (a.add i) v fun h' => stL a (i + 1) vs h' K
def extE (e : Ext) (args : List Value) (h : Heap) (K : Value → Heap → Prop) : Prop :=
  match e, args with
  | .load k, [.pointer p] => ptrK p fun a => ldI k (rd h a) fun n => K (.int k n) h
  | .store, [.pointer p, .int k y] => ptrK p fun a => stK h a (.int k y) fun h' => K (.tuple #[]) h'
  | .cas k, [.pointer p, .int k1 x, .int k2 y] => match ikb k k1, ikb k k2 with
    | true, true => ptrK p fun a => ldI k (rd h a) fun n => bcase (n == x) (stK h a (.int k y) fun h' => K (.bool true) h') (fz h a = false ∧ K (.bool false) h)
    | _, _ => False
  | .add k, [.pointer p, .int k1 y] => match ikb k k1 with
    | true => ptrK p fun a => ldI k (rd h a) fun n => stK h a (.int k (k.wrap (n + y))) fun h' => K (.int k (k.wrap (n + y))) h'
    | _ => False
  | _, _ => False
def goE (P : Program) (X : List (Nat × Ext)) (f : FuncId) (args : List Value) (ty : TypeId) (h : Heap) (K : Value → Heap → Prop) : Prop :=
  match xget X f with
  | some .go => callE P f args ty h K
  | some e => extE e args h K
  | none => False
def dynK (P : Program) (X : List (Nat × Ext)) (f : Value) (args : List Value) (h : Heap) (K : Value → Heap → Prop) : Prop :=
  match f with
  | .func (.func g) first captured => (match xget X g with
    | some .go => CallsH P g (first.toList ++ args ++ captured.toList) h K
    | _ => False)
  | _ => False
def dynE (P : Program) (X : List (Nat × Ext)) (f : Value) (args : List Value) (ty : TypeId) (h : Heap) (K : Value → Heap → Prop) : Prop :=
  dynK P X f args h fun v h' => resK P ty v fun v' => K v' h'
/-- a method with a pointer receiver, by its name -/
def mthd (P : Program) (t : TypeId) (name : String) : Option FuncId :=
  match P.info? t, P.underlying t with
  | some i, some (.pointer _) => match i.methods.find? (·.name == name) with
    | some m => match m.path.isEmpty, m.func with
      | true, some (f, true) => some f
      | _, _ => none
    | none => none
  | _, _ => none
def invE (P : Program) (X : List (Nat × Ext)) (r : Value) (name : String) (args : List Value) (ty : TypeId) (h : Heap) (K : Value → Heap → Prop) : Prop :=
  match r with
  | .iface t v => match mthd P t name with
    | some f => (match xget X f with
      | some .go => callE P f (v :: args) ty h K
      | _ => False)
    | none => False
  | _ => False

/-- a row of cells -/
def isRow (h : Heap) (a : Addr) (cs : List Value) : Prop := ∀ j v, cs[j]? = some v → rd h (a.add j) = some v
/-- append: what is appended lies in memory (or is nothing) -/
def appK (h : Heap) (e : TypeId) (sz by_ : Nat) (z : Array Value) (p : Option Addr) (l c : Nat) (q : Option Addr) (n : Nat) (K : Option Addr → Nat → Nat → Heap → Prop) : Prop :=
  ∃ new : List Value, new.length = n * sz ∧ (match q with | some b => isRow h b new | none => n = 0) ∧
    (l + n ≤ c → match p with
      | some a => stL (a.add (l * sz)) 0 new h fun h' => K p (l + n) c h'
      | none => n * sz = 0 ∧ K p (l + n) c h) ∧
    (c < l + n → ∃ old : List Value, old.length = l * sz ∧ (match p with | some a => isRow h a old | none => l = 0) ∧
      (l + n) * by_ ≤ 140737488355328 ∧
      ∀ cap, l + n ≤ cap → K (some ⟨h.size, 0, none⟩) (l + n) cap (h.push (.cells (old.toArray ++ new.toArray ++ Builtin.zeroCells z (cap - (l + n))) e)))
def copyK (h : Heap) (sz : Nat) (p : Option Addr) (l : Nat) (q : Option Addr) (n : Nat) (K : Nat → Heap → Prop) : Prop :=
  ∃ new : List Value, new.length = Nat.min n l * sz ∧ (match q with | some b => isRow h b new | none => n = 0) ∧
    match p with
    | some a => stL a 0 new h fun h' => K (Nat.min n l) h'
    | none => K (Nat.min n l) h

def sizeB (P : Program) (t : TypeId) : Option (Nat × Nat × Array Value) :=
  match P.info? t with
  | some i => match i.zero with | some z => some (i.size, i.bytes, z.cells) | none => none
  | none => none

def appE (P : Program) (t u : TypeId) (x y : Value) (h : Heap) (K : Value → Heap → Prop) : Prop :=
  match P.underlying t, P.underlying u, x, y with
  | some (.slice e), some (.slice _), .slice p l c, .slice q n _ => match sizeB P e with
    | some (sz, by_, z) => match Nat.ble 1 by_ with
      | true => appK h e sz by_ z p l c q n fun p' l' c' h' => K (.slice p' l' c') h'
      | false => False
    | none => False
  | _, _, _, _ => False
def copyE (P : Program) (t : TypeId) (x y : Value) (h : Heap) (K : Value → Heap → Prop) : Prop :=
  match P.underlying t, x, y with
  | some (.slice e), .slice p l _, .slice q n _ => match P.info? e with
    | some ti => copyK h ti.size p l q n fun m h' => K (.int .i64 m) h'
    | none => False
  | _, _, _ => False
/-- n cells rows cleared -/
def clrK (h : Heap) (z : Array Value) (p : Option Addr) (n : Nat) (K : Heap → Prop) : Prop :=
  match p with
  | some a => stL a 0 (Builtin.zeroCells z n).toList h K
  | none => K h
def clearE (P : Program) (t : TypeId) (x : Value) (h : Heap) (K : Heap → Prop) : Prop :=
  match P.underlying t, x with
  | some (.slice e), .slice p n _ => match sizeB P e with
    | some (_, _, z) => clrK h z p n K
    | none => False
  | _, _ => False
def storeE (P : Program) (t : TypeId) (p : Option Addr) (v : Value) (h : Heap) (K : Heap → Prop) : Prop :=
  match P.info? t with
  | some ti => match Nat.beq v.cells.size ti.size with
    | true => ptrK p fun a => stL a 0 v.cells.toList h K
    | false => False
  | none => False
def makeSliceE (P : Program) (t : TypeId) (l c : Value) (h : Heap) (K : Value → Heap → Prop) : Prop :=
  match P.underlying t, l, c with
  | some (.slice e), .int _ i, .int _ j => match sizeB P e with
    | some (sz, by_, z) => 0 ≤ i ∧ i ≤ j ∧ (by_ : Int) * j ≤ 281474976710656 ∧ j ≤ 9223372036854775807 ∧
        newK h (.cells (madeCells z (j.toNat * sz)) e) fun b h' => K (.slice (some ⟨b, 0, none⟩) i.toNat j.toNat) h'
    | none => False
  | _, _, _ => False
def buildSliceE (P : Program) (t : TypeId) (len : Nat) (parts : Option (List Value)) (ix : List Nat) (h : Heap) (K : Value → Heap → Prop) : Prop :=
  match P.underlying t, parts with
  | some (.slice e), some vs => match sizeB P e with
    | some (sz, _, z) => match Nat.ble (len * sz) 16777216 with
      | true => opt (Instr.fill (fun i => some (i * sz, sz)) (madeCells z (len * sz)) (ix.zip vs)) fun cells =>
          newK h (.cells cells e) fun b h' => K (.slice (some ⟨b, 0, none⟩) len len) h'
      | false => False
    | none => False
  | _, _ => False
/-- maps whose keys are whole numbers -/
def kEq (k1 kk : IntKind) (kn : Int) (es : Array MapEntry) : Option (Option (Nat × Value)) := Instr.findNow (.int k1) (.int kk kn) es.toList 0
def mapK (h : Heap) (r : Option Nat) (k1 kk : IntKind) (kn : Int) (K : Nat → Array MapEntry → Nat → Option (Nat × Value) → Prop) : Prop :=
  opt r fun b => ∃ es cl, mp h b = some (es, cl) ∧ ∃ o, kEq k1 kk kn es = some o ∧ K b es cl o
def updK (h : Heap) (r : Option Nat) (k1 kk : IntKind) (kn : Int) (v : Value) (K : Heap → Prop) : Prop :=
  mapK h r k1 kk kn fun b es cl o => match o with
    | some (i, _) => Instr.sameBits 10000 (((es[i]?).map (·.key)).getD (.int kk kn)) (.int kk kn) = true ∧
        K (h.setIfInBounds b (.map (es.modify i fun e => { e with key := .int kk kn, val := v }) cl))
    | none => K (h.setIfInBounds b (.map (es.push { key := .int kk kn, val := v, born := cl }) (cl + 1)))
def entK (h : Heap) (r : Option Nat) (k1 kk : IntKind) (kn : Int) (z : Value) (K : Value → Int → Heap → Prop) : Prop :=
  mapK h r k1 kk kn fun b es cl o => match o with
    | some (i, v) => Instr.sameBits 10000 (((es[i]?).map (·.key)).getD (.int kk kn)) (.int kk kn) = true ∧
        K v (((es[i]?).map (·.born)).getD 0) (h.setIfInBounds b (.map (es.modify i fun e => { e with key := .int kk kn }) cl))
    | none => K z cl (h.setIfInBounds b (.map (es.push { key := .int kk kn, val := z, born := cl }) (cl + 1)))
def estK (h : Heap) (r : Option Nat) (st : Int) (v : Value) (K : Heap → Prop) : Prop :=
  opt r fun b => ∃ es cl, mp h b = some (es, cl) ∧ ∃ i, es.findIdx? (fun e => (e.born : Int) == st) = some i ∧
      K (h.setIfInBounds b (.map (es.modify i fun e => { e with val := v }) cl))
def delK (h : Heap) (r : Option Nat) (k1 kk : IntKind) (kn : Int) (K : Heap → Prop) : Prop :=
  mapK h r k1 kk kn fun b es cl o => match o with
    | some (i, _) => K (h.setIfInBounds b (.map (es.eraseIdxIfInBounds i) cl))
    | none => K (h.setIfInBounds b (.map es cl))
def mapUpdateE (P : Program) (t : TypeId) (m k v : Value) (h : Heap) (K : Heap → Prop) : Prop :=
  match P.underlying t, m, k with
  | some (.map kt _), .map r, .int kk kn => match P.underlying kt with
    | some (.int k1) => updK h r k1 kk kn v K
    | _ => False
  | _, _, _ => False
def mapEntryE (P : Program) (t : TypeId) (m k : Value) (h : Heap) (K : Value → Heap → Prop) : Prop :=
  match P.underlying t, m, k with
  | some (.map kt et), .map r, .int kk kn => match P.underlying kt, zv P et with
    | some (.int k1), some z => entK h r k1 kk kn z fun v st h' => ldK z (some v) fun v' => K (.tuple #[v', .int .i64 st]) h'
    | _, _ => False
  | _, _, _ => False
def entryStoreE (m s v : Value) (h : Heap) (K : Heap → Prop) : Prop :=
  match m, s with
  | .map r, .int _ st => estK h r st v K
  | _, _ => False
def deleteE (P : Program) (t : TypeId) (m k : Value) (h : Heap) (K : Heap → Prop) : Prop :=
  match P.underlying t, m, k with
  | some (.map kt _), .map r, .int kk kn => match P.underlying kt with
    | some (.int k1) => delK h r k1 kk kn K
    | _ => False
  | _, _, _ => False

/-- operations that change the heap, or call -/
def effE (P : Program) (X : List (Nat × Ext)) (o : Op) (ty : TypeId) (ρ : Fr) (h : Heap) (K : Value → Heap → Prop) : Prop :=
  match o with
  | .alloc t => opt (zv P t) fun z => newK h (.cells z.cells t) fun b h' => K (.pointer (some ⟨b, 0, none⟩)) h'
  | .box t x => opt (ev ρ x) fun v => newK h (.cells v.cells t) fun b h' => K (.pointer (some ⟨b, 0, none⟩)) h'
  | .store t a x => match ev ρ a with
    | some (.pointer p) => opt (ev ρ x) fun v => storeE P t p v h fun h' => K undef h'
    | _ => False
  | .makeMap _ none => newK h (.map #[] 0) fun b h' => K (.map (some b)) h'
  | .makeSlice t l c => opt (ev ρ l) fun a => opt (ev ρ c) fun b => makeSliceE P t a b h K
  | .buildSlice t n ps => buildSliceE P t n (evs ρ (ps.toList.map (·.2))) (ps.toList.map (·.1)) h K
  | .mapUpdate t m k x => opt (ev ρ m) fun a => opt (ev ρ k) fun b => opt (ev ρ x) fun v => mapUpdateE P t a b v h fun h' => K undef h'
  | .mapEntry t m k => opt (ev ρ m) fun a => opt (ev ρ k) fun b => mapEntryE P t a b h K
  | .entryStore _ m s x => opt (ev ρ m) fun a => opt (ev ρ s) fun b => opt (ev ρ x) fun v => entryStoreE a b v h fun h' => K undef h'
  | .call { callee := .value f, args, .. } => opt (evs ρ args.toList) fun xs => match f with
    | .func g => goE P X g xs ty h K
    | f => opt (ev ρ f) fun fv => dynE P X fv xs ty h K
  | .call { callee := .invoke r name, args, .. } => opt (ev ρ r) fun rv => opt (evs ρ args.toList) fun xs => invE P X rv name xs ty h K
  | .call { callee := .builtin b, args, argTypes } => match b, args.toList, argTypes.toList with
    | .append, [x, y], [t, u] => opt (ev ρ x) fun a => opt (ev ρ y) fun b => appE P t u a b h K
    | .copy, [x, y], [t, _] => opt (ev ρ x) fun a => opt (ev ρ y) fun b => copyE P t a b h K
    | .delete, [x, y], [t, _] => opt (ev ρ x) fun a => opt (ev ρ y) fun b => deleteE P t a b h fun h' => K (.tuple #[]) h'
    | .clear, [x], [t] => opt (ev ρ x) fun a => clearE P t a h fun h' => K (.tuple #[]) h'
    | _, _, _ => False
  | _ => False

def opE (P : Program) (X : List (Nat × Ext)) (o : Oper) (ρ : Fr) (h : Heap) (K : Value → Heap → Prop) : Prop :=
  match isEff o.op with
  | true => effE P X o.op o.type ρ h K
  | false => valE P o.op ρ h fun v => K v h

/-- an operation with its guard -/
def guardE (ops : Array Oper) (o : Oper) (ρ : Fr) (run skip : Fr → Prop) : Prop :=
  match o.guard with
  | none => run ρ
  | some (j, want) => match (ops[j]?).bind (·.dst) with
    | none => False
    | some d => match get ρ d with
      | some (.bool b) => (match want with
        | true => bcase b (run ((d, .bool true) :: ρ)) (skip ((d, .bool false) :: ρ))
        | false => bcase b (skip ((d, .bool true) :: ρ)) (run ((d, .bool false) :: ρ)))
      | some (.tuple _) => skip ρ
      | _ => False
def stepE (P : Program) (X : List (Nat × Ext)) (ops : Array Oper) (o : Oper) (ρ : Fr) (h : Heap) (K : Fr → Heap → Prop) : Prop :=
  guardE ops o ρ (fun ρ => opE P X o ρ h fun v h' => K (put ρ o.dst v) h') (fun ρ => K (put ρ o.dst undef) h)
def evL (P : Program) (X : List (Nat × Ext)) (ops : Array Oper) : List Oper → Fr → Heap → (Fr → Heap → Prop) → Prop
  | [], ρ, h, K => K ρ h
  | o :: rest, ρ, h, K => stepE P X ops o ρ h fun ρ' h' => evL P X ops rest ρ' h' K

/-- what was read reads so still -/
def again (P : Program) (ops : Array Oper) (ρ : Fr) (h : Heap) : List Nat → Prop → Prop
  | [], K => K
  | j :: js, K => match ops[j]? with
    | none => False
    | some o => match o.dst with
      | none => False
      | some d => match get ρ d with
        | none => False
        | some v => match o.guard with
          | none => valE P o.op ρ h fun v' => v' = v ∧ again P ops ρ h js K
          | some (i, want) => match (ops[i]?).bind (·.dst) with
            | none => False
            | some g => match get ρ g with
              | some (.bool b) => (match want with
                | true => bcase b (valE P o.op ρ h fun v' => v' = v ∧ again P ops ρ h js K) (v = undef ∧ again P ops ρ h js K)
                | false => bcase b (v = undef ∧ again P ops ρ h js K) (valE P o.op ρ h fun v' => v' = v ∧ again P ops ρ h js K))
              | some (.tuple _) => v = undef ∧ again P ops ρ h js K
              | _ => False
def evA (P : Program) (X : List (Nat × Ext)) (ops : Array Oper) : List (Nat × List Nat) → Fr → Heap → (Fr → Heap → Prop) → Prop
  | [], ρ, h, K => K ρ h
  | (i, js) :: rest, ρ, h, K => match ops[i]? with
    | none => False
    | some o => stepE P X ops o ρ h fun ρ' h' => again P ops ρ' h' js (evA P X ops rest ρ' h' K)
def evAs (P : Program) (X : List (Nat × Ext)) (ops : Array Oper) : List (List (Nat × List Nat)) → Fr → Heap → (Fr → Heap → Prop) → Prop
  | [], _, _, _ => False
  | [l], ρ, h, K => evA P X ops l ρ h K
  | l :: ls, ρ, h, K => evA P X ops l ρ h K ∧ evAs P X ops ls ρ h K

/-- hints: where a frame is cut down to the slots that live on; the orders of a region that draws -/
structure Hint where
  cuts : List (Nat × List Nat)
  alts : List (Nat × List (List (Nat × List Nat)))
def aget {α : Type} : List (Nat × α) → Nat → Option α
  | [], _ => none
  | (k, v) :: r, t => match Nat.beq k t with | true => some v | false => aget r t
def firstR : Code → Option Nat
  | .region id _ _ => some id
  | .seq a _ => firstR a
  | .block _ c => firstR c
  | .loop c => firstR c
  | _ => none
def cutQ (T : Hint) (c : Code) : Option (List Nat) :=
  match firstR c with
  | some id => aget T.cuts id
  | none => none
def cutO (q : Option (List Nat)) (ρ : Fr) : Fr := match q with | some L => cut L ρ | none => ρ
abbrev Stop := (Fr → Heap → Prop) → Fr → Heap → Prop
def seqN (S : Stop) (q : Option (List Nat)) (κ : Fr → Heap → Prop) (K : Exit → Fr → Heap → Prop) : Exit → Fr → Heap → Prop := fun e ρ h =>
  match e with
  | .normal => (match q with | some L => S κ (cut L ρ) h | none => κ ρ h)
  | e => K e ρ h
def backN (S : Stop) (q : Option (List Nat)) (κ : Fr → Heap → Prop) (K : Exit → Fr → Heap → Prop) : Exit → Fr → Heap → Prop := fun e ρ h =>
  match e with
  | .normal => S κ (cutO q ρ) h
  | e => K e ρ h
def blockN (id : Nat) (K : Exit → Fr → Heap → Prop) : Exit → Fr → Heap → Prop := fun e ρ h => match e with | .exit i => (match Nat.beq i id with | true => K .normal ρ h | false => K (.exit i) ρ h) | e => K e ρ h
def loopN (S : Stop) (body : (Exit → Fr → Heap → Prop) → Fr → Heap → Prop) (q : Option (List Nat)) (K : Exit → Fr → Heap → Prop) : Nat → Fr → Heap → Prop
  | 0, _, _ => False
  | n + 1, ρ, h => body (backN S q (loopN S body q K n) K) ρ h
def E (P : Program) (X : List (Nat × Ext)) (T : Hint) (S : Stop) : Code → (Exit → Fr → Heap → Prop) → Fr → Heap → Prop
  | .skip, K, ρ, h => K .normal ρ h
  | .region id ops draw, K, ρ, h => match draw with
    | false => evL P X ops ops.toList ρ h fun ρ' h' => K .normal ρ' h'
    | true => match aget T.alts id with
      | some ls => evAs P X ops ls ρ h fun ρ' h' => K .normal ρ' h'
      | none => False
  | .seq a b, K, ρ, h => E P X T S a (seqN S (cutQ T b) (E P X T S b K) K) ρ h
  | .cond c a b, K, ρ, h => match ev ρ c with
    | some (.bool t) => bcase t (E P X T S a K ρ h) (E P X T S b K ρ h)
    | _ => False
  | .block id c, K, ρ, h => E P X T S c (blockN id K) ρ h
  | .loop c, K, ρ, h => ∃ n, S (loopN S (E P X T S c) (cutQ T c) K n) (cutO (cutQ T c) ρ) h
  | .exit id, K, ρ, h => K (.exit id) ρ h
  | .ret, K, ρ, h => K .ret ρ h
  | .label _, K, ρ, h => K .normal ρ h
  | _, _, _, _ => False
def sub : Code → List Nat → Code
  | c, [] => c
  | .seq a _, 0 :: p => sub a p
  | .seq _ b, 1 :: p => sub b p
  | .cond _ a _, 0 :: p => sub a p
  | .cond _ _ b, 1 :: p => sub b p
  | .block _ c, 0 :: p => sub c p
  | .loop c, 0 :: p => sub c p
  | _, _ => .skip
/-- no stop -/
abbrev S0 : Stop := fun κ ρ h => κ ρ h

def resE (P : Program) : List ResultVar → Fr → Heap → (List Value → Prop) → Prop
  | [], _, _, K => K []
  | .tmp t :: r, ρ, h, K => opt (get ρ t) fun v => resE P r ρ h fun vs => K (v :: vs)
  | .cell a t :: r, ρ, h, K => match get ρ a with
    | some (.pointer p) => loadE P t h p fun v => resE P r ρ h fun vs => K (v :: vs)
    | _ => False
def fin (P : Program) (rs : List ResultVar) (K : Value → Heap → Prop) (e : Exit) (ρ : Fr) (h : Heap) : Prop :=
  match e with
  | .ret => resE P rs ρ h fun vs => (match vs with | [v] => K v h | vs => K (.tuple vs.toArray) h)
  | .normal => resE P rs ρ h fun vs => (match vs with | [v] => K v h | vs => K (.tuple vs.toArray) h)
  | _ => False
def args0 : Nat → List Value → Fr
  | _, [] => []
  | i, v :: vs => (i, v) :: args0 (i + 1) vs
end Go.Proofs.Ytipckkeaoncjiaa.Ev
