/-
  FROM THE MODEL's OPERATIONS TO THE EVALUATOR's: what the types tell is worked in; and each one is sound.
-/
import Derived.Test.YtebfimcapoekjaaGreatVk
namespace Go.Vm

/-- an operand -/
def trO (slot : Nat → Option Src) : Operand → Option Src
  | .tmp t => slot t
  | .const v => (cvV v).map .c
  | .global _ => some (.c .any)
  | .func f => some (.c (.func f [] []))

def trOs (tr : Operand → Option Src) : List Operand → Option (List Src)
  | [] => some []
  | x :: r =>
    match tr x, trOs tr r with
    | some a, some as => some (a :: as)
    | _, _ => none

def trOpt (tr : Operand → Option Src) : Option Operand → Option (Option Src)
  | none => some none
  | some x => (tr x).map some

/-- a type's zero, as a value, and how many cells it has -/
def tyZero (P : Program) (t : TypeId) : Option PV := ((P.info? t).bind (·.zero)).bind cvV

def zeroCellsOf (P : Program) (t : TypeId) : Option (List PV) := (tyZero P t).bind PV.cells?

/-- the places of a struct's fields -/
def places (P : Program) (fs : List Field) : Option (List (Nat × Nat)) :=
  match fs with
  | [] => some []
  | f :: r =>
    match tySize P f.type, places P r with
    | some s, some ps => some ((f.offset, s) :: ps)
    | _, _ => none

def trParts (tr : Operand → Option Src) (ps : List (Nat × Nat)) : List (Nat × Operand) → Option (List (Nat × Nat × Src))
  | [] => some []
  | (i, x) :: r =>
    match ps[i]?, tr x, trParts tr ps r with
    | some (off, size), some a, some as => some ((off, size, a) :: as)
    | _, _, _ => none

def trPartsS (tr : Operand → Option Src) : List (Nat × Operand) → Option (List (Nat × Src))
  | [] => some []
  | (i, x) :: r =>
    match tr x, trPartsS tr r with
    | some a, some as => some ((i, a) :: as)
    | _, _ => none

def trPartsA (tr : Operand → Option Src) (size : Nat) : List (Nat × Operand) → Option (List (Nat × Nat × Src))
  | [] => some []
  | (i, x) :: r =>
    match tr x, trPartsA tr size r with
    | some a, some as => some ((i * size, size, a) :: as)
    | _, _ => none

def trBuild (P : Program) (tr : Operand → Option Src) (t : TypeId) (parts : List (Nat × Operand)) : IOp :=
  match P.underlying t with
  | some (.struct fs) =>
    match places P fs.toList, zeroCellsOf P t with
    | some ps, some zero =>
      match trParts tr ps parts with
      | some as => .build zero as
      | none => .bad
    | _, _ => .bad
  | some (.array _ e) =>
    match tySize P e, zeroCellsOf P t with
    | some size, some zero =>
      match trPartsA tr size parts with
      | some as => .build zero as
      | none => .bad
    | _, _ => .bad
  | _ => .bad

def trBslice (P : Program) (tr : Operand → Option Src) (m : Nat) (t : TypeId) (len : Nat) (parts : List (Nat × Operand)) : IOp :=
  match P.underlying t with
  | some (.slice e) =>
    match tySize P e, zeroCellsOf P e, trPartsS tr parts with
    | some k, some zero, some as => if len * k ≤ 2 ^ 24 then .bslice (m == 1) k zero len as else .bad
    | _, _, _ => .bad
  | _ => .bad

def trLoad (P : Program) (tr : Operand → Option Src) (t : TypeId) (a : Operand) : IOp :=
  match tyAgg P t, tySize P t, tr a with
  | some g, some s, some x => .load g s x
  | _, _, _ => .bad

def trBin (P : Program) (tr : Operand → Option Src) (op : BinOp) (t : TypeId) (x y : Operand) : IOp :=
  match tr x, tr y with
  | some a, some b =>
    match op with
    | .eql | .neq =>
      match P.underlying t with
      | some (.struct fs) =>
        match flatFields P fs.toList 0 with
        | some ks => if P.stoodInHeld t = false ∧ P.eqGuardType P.depth t = false then .eqAgg ks (op == .neq) a b else .bad
        | none => .bad
      | some d =>
        match eqKind d with
        | some k => .eqK k (op == .neq) a b
        | none => .bin op a b
      | none => .bin op a b
    | _ => .bin op a b
  | _, _ => .bad

def trSlice (P : Program) (tr : Operand → Option Src) (t : TypeId) (x : Operand) (lo hi mx : Option Operand) : IOp :=
  match tr x, trOpt tr lo, trOpt tr hi, trOpt tr mx with
  | some a, some l, some h, some m =>
    if hi.isNone ∧ mx.isSome then .bad else
    match P.underlying t with
    | some (.slice e) =>
      match tySize P e with
      | some k => .slice k a l h m
      | none => .bad
    | some .string => if mx.isSome then .bad else .substr a l h
    | _ => .bad
  | _, _, _, _ => .bad

def trField (P : Program) (t : TypeId) (i : Nat) : Option (Bool × Nat × Nat) :=
  match P.underlying t with
  | some (.struct fs) =>
    match fs[i]? with
    | some f =>
      match tyAgg P f.type, tySize P f.type with
      | some g, some s => some (g, f.offset, s)
      | _, _ => none
    | none => none
  | _ => none

def trIdx (P : Program) (tr : Operand → Option Src) (t : TypeId) (x i : Operand) : IOp :=
  match tr x, tr i with
  | some a, some b =>
    match P.underlying t with
    | some (.slice e) =>
      match tySize P e with
      | some k => .idxAddr k a b
      | none => .bad
    | some (.array len e) =>
      match tySize P e with
      | some k => .idxArr len k a b
      | none => .bad
    | _ => .bad
  | _, _ => .bad

def trMap (P : Program) (t : TypeId) : Option (CK × TypeId) :=
  match P.underlying t with
  | some (.map k e) => (trKey P k).map fun c => (c, e)
  | _ => none

def trBuiltin (P : Program) (tr : Operand → Option Src) (b : Builtin) (c : Call) : IOp :=
  match b, c.args.toList, c.argTypes.toList with
  | .len, [x], [t] =>
    match tr x, P.underlying t with
    | some a, some (.slice _) => .len .slice a
    | some a, some .string => .len .str a
    | some a, some (.map ..) => .len .map a
    | _, _ => .bad
  | .cap, [x], [t] =>
    match tr x, P.underlying t with
    | some a, some (.slice _) => .capo a
    | _, _ => .bad
  | .append, [s, x], [t, u] =>
    match tr s, tr x, P.underlying t, P.underlying u with
    | some a, some b, some (.slice e), some (.slice _) =>
      match tySize P e, tyBytes P e, zeroCellsOf P e with
      | some k, some bytes, some zero => if zero.length = k then .append k bytes a b else .bad
      | _, _, _ => .bad
    | _, _, _, _ => .bad
  | .clear, [x], [t] =>
    match tr x, P.underlying t with
    | some a, some (.slice e) =>
      match tySize P e, zeroCellsOf P e with
      | some k, some zero => .clear k zero a
      | _, _ => .bad
    | _, _ => .bad
  | .max, xs, _ =>
    match trOs tr xs with
    | some as => .minmax true as
    | none => .bad
  | .min, xs, _ =>
    match trOs tr xs with
    | some as => .minmax false as
    | none => .bad
  | _, _, _ => .bad

/-- methods by name: of pointers, handed over as they stand -/
def methodsOf (P : Program) (name : String) : List TypeId → List (TypeId × FuncId)
  | [] => []
  | t :: ts =>
    match P.info? t, P.underlying t with
    | some i, some (.pointer _) =>
      match i.methods.find? (·.name == name) with
      | some m =>
        match m.path.isEmpty, m.func with
        | true, some (f, true) => (t, f) :: methodsOf P name ts
        | _, _ => methodsOf P name ts
      | none => methodsOf P name ts
    | _, _ => methodsOf P name ts

def trCall (P : Program) (tr : Operand → Option Src) (m : Nat) (ts : List TypeId) (c : Call) : IOp :=
  match c.callee with
  | .builtin b => trBuiltin P tr b c
  | .value f =>
    match tr f, trOs tr c.args.toList with
    | some g, some as => .call m g as
    | _, _ => .bad
  | .invoke recv name =>
    match tr recv, trOs tr c.args.toList with
    | some r, some as => .invoke m (methodsOf P name ts) r as
    | _, _ => .bad

def isIface : TypeDesc → Bool
  | .interface _ => true
  | _ => false

def trOp (P : Program) (tr : Operand → Option Src) (m : Nat) (ts : List TypeId) (o : Oper) : IOp :=
  match o.op with
  | .move x | .assign x =>
    match tr x with
    | some a => .mv a
    | none => .bad
  | .pick c a b =>
    match tr c, tr a, tr b with
    | some x, some y, some z => .pick x y z
    | _, _, _ => .bad
  | .alloc e =>
    match tyZero P e with
    | some z => .box (m == 1) (.c z)
    | none => .bad
  | .box _ x =>
    match tr x with
    | some a => .box (m == 1) a
    | none => .bad
  | .build t parts => trBuild P tr t parts.toList
  | .buildSlice t len parts => trBslice P tr m t len parts.toList
  | .load t a => trLoad P tr t a
  | .store t a v =>
    match tySize P t, tr a, tr v with
    | some s, some x, some y => .store s x y
    | _, _, _ => .bad
  | .nilCheck x =>
    match tr x with
    | some a => .nilChk a
    | none => .bad
  | .binOp op t x y _ => trBin P tr op t x y
  | .unOp op _ x =>
    match tr x with
    | some a => .un op a
    | none => .bad
  | .convert src dst x =>
    match tr x, P.underlying src, P.underlying dst with
    | some a, some _, some (.int k) => .conv k a
    | _, _, _ => .bad
  | .makeInterface t x =>
    match tr x, P.underlying t with
    | some a, some d => if isIface d then .bad else .mkIface t a
    | _, _ => .bad
  | .makeFunc (.func f) first caps =>
    match trOs tr first.toList, trOs tr caps.toList with
    | some a, some b => .mkFunc f a b
    | _, _ => .bad
  | .makeMap _ none => .mkMap
  | .makeSlice t l c =>
    match tr l, tr c, P.underlying t with
    | some a, some b, some (.slice e) =>
      match tySize P e, tyBytes P e, zeroCellsOf P e with
      | some k, some bytes, some zero => if 1 ≤ bytes then .mkSlice k bytes zero a b else .bad
      | _, _, _ => .bad
    | _, _, _ => .bad
  | .slice t x lo hi mx => trSlice P tr t x lo hi mx
  | .fieldAddr t x i =>
    match tr x, trField P t i with
    | some a, some (_, off, s) => if s = 0 then .bad else .fieldAddr off a
    | _, _ => .bad
  | .field t x i =>
    match tr x, trField P t i with
    | some a, some (g, off, s) => .field g off s a
    | _, _ => .bad
  | .indexAddr t x i => trIdx P tr t x i
  | .index t x i =>
    match tr x, tr i, P.underlying t with
    | some a, some b, some .string => .idxStr a b
    | _, _, _ => .bad
  | .lookup t x i ok =>
    match tr x, tr i, trMap P t with
    | some a, some b, some (c, e) =>
      match tyZero P e with
      | some z => .lookup c z a b ok
      | none => .bad
    | _, _, _ => .bad
  | .mapUpdate t x k v | .insert t x k v =>
    match tr x, tr k, tr v, trMap P t with
    | some a, some b, some z, some (c, _) => .mapSet c a b z
    | _, _, _, _ => .bad
  | .mapEntry t x k =>
    match tr x, tr k, trMap P t with
    | some a, some b, some (c, e) =>
      match tyZero P e with
      | some z => .mapEntry c z a b
      | none => .bad
    | _, _, _ => .bad
  | .entryStore _ x s v =>
    match tr x, tr s, tr v with
    | some a, some b, some c => .entrySet a b c
    | _, _, _ => .bad
  | .range t x =>
    match tr x, P.underlying t with
    | some a, some (.map _ _) => .range a
    | _, _ => .bad
  | .next x str =>
    match tr x with
    | some a => if str then .bad else .next a
    | _ => .bad
  | .typeAssert x _ t ok =>
    match tr x, P.underlying t, tyZero P t with
    | some a, some d, some z => if isIface d then .bad else .tassert t z a ok
    | _, _, _ => .bad
  | .extract x i =>
    match tr x with
    | some a => .extract a i
    | none => .bad
  | .call c => trCall P tr m ts c
  | _ => .bad

end Go.Vm
