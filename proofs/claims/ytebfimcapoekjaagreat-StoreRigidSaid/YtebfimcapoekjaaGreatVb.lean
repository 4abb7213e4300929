/-
  THE EVALUATOR: what a function comes to, over values that know no addresses. Its code is the model's, with what the types tell worked in.
-/
import Derived.Test.YtebfimcapoekjaaGreatVa
namespace Go.Vm

inductive Src where
  | x (p : Nat)
  | t (j : Nat)
  | c (v : PV)
  deriving Inhabited

def Src.ev (S T : List PV) : Src → PV
  | .x p => S.getD p .any
  | .t j => T.getD j .any
  | .c v => v

/-- kinds of cells that may be held against one another -/
inductive CK where
  | int | str | bool
  | arr (n : Nat)
  deriving DecidableEq, Inhabited

/-- what has a length -/
inductive LK where
  | slice | str | map
  deriving DecidableEq, Inhabited

/-- what may be held against nil -/
inductive EqK where
  | bool | slice | map | func | ptr
  deriving DecidableEq, Inhabited

inductive IOp where
  | bad
  | mv (x : Src)
  | pick (c a b : Src)
  | box (obj : Bool) (x : Src)
  | build (zero : List PV) (parts : List (Nat × Nat × Src))
  | bslice (obj : Bool) (k : Nat) (zero : List PV) (len : Nat) (parts : List (Nat × Src))
  | load (agg : Bool) (size : Nat) (a : Src)
  | store (size : Nat) (a v : Src)
  | nilChk (x : Src)
  | bin (op : BinOp) (x y : Src)
  | eqK (kd : EqK) (neg : Bool) (x y : Src)
  | eqAgg (ks : List CK) (neg : Bool) (x y : Src)
  | un (op : UnOp) (x : Src)
  | conv (k : IntKind) (x : Src)
  | mkIface (t : TypeId) (x : Src)
  | mkFunc (f : FuncId) (first caps : List Src)
  | mkMap
  | mkSlice (k bytes : Nat) (zero : List PV) (len cap : Src)
  | slice (k : Nat) (x : Src) (lo hi mx : Option Src)
  | substr (x : Src) (lo hi : Option Src)
  | fieldAddr (off : Nat) (x : Src)
  | field (agg : Bool) (off size : Nat) (x : Src)
  | idxAddr (k : Nat) (x i : Src)
  | idxArr (len k : Nat) (x i : Src)
  | idxStr (x i : Src)
  | lookup (ck : CK) (zero : PV) (x key : Src) (commaOk : Bool)
  | mapSet (ck : CK) (m k v : Src)
  | mapEntry (ck : CK) (zero : PV) (m k : Src)
  | entrySet (m s v : Src)
  | range (m : Src)
  | next (it : Src)
  | tassert (t : TypeId) (zero : PV) (x : Src) (commaOk : Bool)
  | extract (x : Src) (i : Nat)
  | len (k : LK) (x : Src)
  | capo (x : Src)
  | append (k bytes : Nat) (s x : Src)
  | copy (k : Nat) (d s : Src)
  | clear (k : Nat) (zero : List PV) (x : Src)
  | minmax (mx : Bool) (xs : List Src)
  | call (mode : Nat) (f : Src) (args : List Src)
  | invoke (mode : Nat) (tbl : List (TypeId × FuncId)) (recv : Src) (args : List Src)
  deriving Inhabited

/-- which objects an operation looks into, and turns -/
structure Fp where
  rd : List Nat
  wr : List Nat
  all : Bool

def Fp.no : Fp := ⟨[], [], false⟩

def Fp.apart (a b : Fp) : Bool :=
  (!a.all || (b.rd.isEmpty && b.wr.isEmpty && !b.all)) && (!b.all || (a.rd.isEmpty && a.wr.isEmpty)) &&
  a.wr.all (fun i => !b.rd.contains i && !b.wr.contains i) && b.wr.all (fun i => !a.rd.contains i)

structure Res where
  v : PV
  H : Heap
  n : Nat
  fp : Fp

abbrev CallF := FuncId → List PV → Heap → Nat → Option (PV × Heap × Nat)

def partAt (agg : Bool) (cs : List PV) (off size : Nat) : Option PV :=
  if off + size ≤ cs.length then (if agg then some (.agg ((cs.drop off).take size)) else if size = 1 then some (cs.getD off .any) else none) else none

def splice (l : List PV) (off : Nat) (cs : List PV) : List PV := l.take off ++ (cs ++ l.drop (off + cs.length))

def fillP (ρ : Src → PV) : List (Nat × Nat × Src) → List PV → Option (List PV)
  | [], cs => some cs
  | (off, size, x) :: r, cs =>
    match (ρ x).cells? with
    | some vs => if vs.length = size ∧ off + size ≤ cs.length then fillP ρ r (splice cs off vs) else none
    | none => none

def fillS (ρ : Src → PV) (k : Nat) : List (Nat × Src) → List (List PV) → Option (List (List PV))
  | [], xs => some xs
  | (i, x) :: r, xs =>
    match (ρ x).cells? with
    | some vs => if vs.length = k ∧ i < xs.length then fillS ρ k r (xs.set i vs) else none
    | none => none

/-- a value that holds no object's number at its top, and is clean -/
def flat : PV → Bool
  | .int .. | .bool _ | .str _ | .nilp | .nils | .nilm | .nilf | .nili => true
  | .func _ [] [] => true
  | .dp u _ _ => !u
  | .data _ _ fl => !fl.isTmp
  | _ => false

/-- the same, where memory that is not written for the time being may stand -/
def flatT : PV → Bool
  | .int .. | .bool _ | .str _ | .nilp | .nils | .nilm | .nilf | .nili | .any => true
  | .func _ [] [] => true
  | .dp _ _ _ => true
  | .data _ _ _ => true
  | _ => false

mutual
/-- a value as it stands, of memory alone: what objects hold now; and whose they were -/
def thaw (t : Bool) (H : Heap) : Nat → PV → Option (PV × List Nat)
  | 0, _ => none
  | d + 1, p =>
    match p with
    | .view id ver k off len cap =>
      match H.get id with
      | some (.arr ver' k' xs) =>
        if ver = ver' ∧ k = k' ∧ off + len ≤ xs.length then
          match thawLL t H d ((xs.drop off).take len) with
          | some (ys, is) => some (.data k ys (if t then .tmp else if cap = some len then .full else .part), id :: is)
          | none => none
        else none
      | _ => none
    | .ptr id ver k i off =>
      match H.get id with
      | some (.arr ver' k' xs) =>
        if ver = ver' ∧ k = k' ∧ i < xs.length then
          match thawL t H d (xs.getD i []) with
          | some (ys, is) => some (.dp t ys off, id :: is)
          | none => none
        else none
      | _ => none
    | .map _ => if t then some (.any, []) else none
    | .func f first caps =>
      match thawL t H d first, thawL t H d caps with
      | some (a, is), some (b, js) => some (.func f a b, is ++ js)
      | _, _ => none
    | .iface ty v =>
      match thaw t H d v with
      | some (x, is) => some (.iface ty x, is)
      | none => none
    | .agg cs =>
      match thawL t H d cs with
      | some (ys, is) => some (.agg ys, is)
      | none => none
    | .tup cs =>
      match thawL t H d cs with
      | some (ys, is) => some (.tup ys, is)
      | none => none
    | .dp u _ _ => if !u || t then some (p, []) else none
    | .data _ _ fl => if !fl.isTmp || t then some (p, []) else none
    | _ => some (p, [])
def thawL (t : Bool) (H : Heap) : Nat → List PV → Option (List PV × List Nat)
  | 0, _ => none
  | d + 1, l =>
    if l.all flat then some (l, []) else
    match l with
    | [] => some ([], [])
    | p :: r =>
      match thaw t H d p, thawL t H d r with
      | some (x, is), some (xs, js) => some (x :: xs, is ++ js)
      | _, _ => none
def thawLL (t : Bool) (H : Heap) : Nat → List (List PV) → Option (List (List PV) × List Nat)
  | 0, _ => none
  | d + 1, l =>
    if l.all (fun x => x.all flat) then some (l, []) else
    match l with
    | [] => some ([], [])
    | p :: r =>
      match thawL t H d p, thawLL t H d r with
      | some (x, is), some (xs, js) => some (x :: xs, is ++ js)
      | _, _ => none
end

/-- how deep a value is gone into -/
def deep : Nat := 4096

def dropIds (H : Heap) (is : List Nat) : Heap := H.filter fun x => !is.contains x.1

def shiftV (op : BinOp) (k : IntKind) (x y : Int) : Option PV :=
  if y < 0 then none else
    match op with
    | .shl => some (.int k (k.wrap (x * 2 ^ min y.toNat k.bits)))
    | .shr => some (.int k (x.fdiv (2 ^ min y.toNat k.bits)))
    | _ => none

def intV (op : BinOp) (k : IntKind) (a b : Int) : Option PV :=
  match op with
  | .add => some (.int k (k.wrap (a + b)))
  | .sub => some (.int k (k.wrap (a - b)))
  | .mul => some (.int k (k.wrap (a * b)))
  | .quo => if b = 0 then none else some (.int k (k.wrap (a.tdiv b)))
  | .rem => if b = 0 then none else some (.int k (a.tmod b))
  | .and => some (.int k (k.wrap (BitVec.ofInt k.bits a &&& BitVec.ofInt k.bits b).toNat))
  | .or => some (.int k (k.wrap (BitVec.ofInt k.bits a ||| BitVec.ofInt k.bits b).toNat))
  | .xor => some (.int k (k.wrap (BitVec.ofInt k.bits a ^^^ BitVec.ofInt k.bits b).toNat))
  | .andNot => some (.int k (k.wrap (BitVec.ofInt k.bits a &&& ~~~ BitVec.ofInt k.bits b).toNat))
  | .eql => some (.bool (a == b))
  | .neq => some (.bool (a != b))
  | .lss => some (.bool (decide (a < b)))
  | .leq => some (.bool (decide (a ≤ b)))
  | .gtr => some (.bool (decide (a > b)))
  | .geq => some (.bool (decide (a ≥ b)))
  | _ => none

def strV (op : BinOp) (a b : ByteArray) : Option PV :=
  match op with
  | .eql => some (.bool (a.toList == b.toList))
  | .neq => some (.bool (!(a.toList == b.toList)))
  | .lss => some (.bool (Op.bytesLess a.toList b.toList))
  | .gtr => some (.bool (!(Op.bytesLess a.toList b.toList || a.toList == b.toList)))
  | .leq => some (.bool (Op.bytesLess a.toList b.toList || a.toList == b.toList))
  | .geq => some (.bool (!Op.bytesLess a.toList b.toList))
  | _ => none

/-- are two values one, where one of them may be nil -/
def nilEq : EqK → PV → PV → Option Bool
  | .bool, .bool a, .bool b => some (a == b)
  | .slice, .nils, .nils => some true
  | .slice, .nils, .data .. | .slice, .nils, .view .. | .slice, .data .., .nils | .slice, .view .., .nils => some false
  | .map, .nilm, .nilm => some true
  | .map, .nilm, .map _ | .map, .map _, .nilm => some false
  | .func, .nilf, .nilf => some true
  | .func, .nilf, .func .. | .func, .func .., .nilf => some false
  | .ptr, .nilp, .nilp => some true
  | .ptr, .nilp, .ptr .. | .ptr, .nilp, .dp .. | .ptr, .ptr .., .nilp | .ptr, .dp .., .nilp => some false
  | _, _, _ => none

def binV (op : BinOp) (a b : PV) : Option PV :=
  match a, b with
  | .int k x, .int k' y =>
    match op with
    | .shl | .shr => shiftV op k x y
    | _ => if k = k' then intV op k x y else none
  | .str x, .str y => strV op x y
  | _, _ => none

def unV (op : UnOp) (x : PV) : Option PV :=
  match op, x with
  | .neg, .int k n => some (.int k (k.wrap (0 - n)))
  | .xor, .int k n => some (.int k (k.wrap (BitVec.ofInt k.bits (if k.signed then -1 else k.max) ^^^ BitVec.ofInt k.bits n).toNat))
  | .not, .bool b => some (.bool !b)
  | _, _ => none

/-- cells of numbers, texts and truths: are they one? -/
def cellsEq : List CK → List PV → List PV → Option Bool
  | [], [], [] => some true
  | .int :: ks, .int k a :: r, .int k' b :: s => if k = k' then (if a == b then cellsEq ks r s else some false) else none
  | .str :: ks, .str a :: r, .str b :: s => if a == b then cellsEq ks r s else some false
  | .bool :: ks, .bool a :: r, .bool b :: s => if a == b then cellsEq ks r s else some false
  | _, _, _ => none

/-- keys of maps: are they one? -/
def keyEq : CK → PV → PV → Option Bool
  | .int, .int k a, .int k' b => if k = k' then some (a == b) else none
  | .str, .str a, .str b => some (a == b)
  | .bool, .bool a, .bool b => some (a == b)
  | .arr n, .agg a, .agg b => if a.length = n ∧ b.length = n then cellsEq (List.replicate n .int) a b else none
  | _, _, _ => none

def findKey (ck : CK) (k : PV) : List (PV × PV × Nat) → Nat → Option (Option Nat)
  | [], _ => some none
  | e :: es, i =>
    match keyEq ck k e.1 with
    | some true => some (some i)
    | some false => findKey ck k es (i + 1)
    | none => none

/-- is it a key at all? -/
def keyOk : CK → PV → Bool
  | .arr n, .agg a => a.length == n && a.all fun | .int .. => true | _ => false
  | .arr _, _ => false
  | _, _ => true

def findIn (ck : CK) (k : PV) (es : List (PV × PV × Nat)) : Option (Option Nat) := if keyOk ck k then findKey ck k es 0 else none

/-- a slice's elements -/
def elems (H : Heap) : PV → Option (Nat × List (List PV) × List Nat)
  | .data k xs _ => some (k, xs, [])
  | .view id ver k off len _ =>
    match H.get id with
    | some (.arr ver' k' xs) => if ver = ver' ∧ k = k' ∧ off + len ≤ xs.length then some (k, (xs.drop off).take len, [id]) else none
    | _ => none
  | _ => none

def lenV : PV → Option Nat
  | .nils => some 0
  | .data _ xs _ => some xs.length
  | .view _ _ _ _ len _ => some len
  | .str s => some s.size
  | _ => none

def room : Nat := 140737488355328

def intOf? : PV → Option Int
  | .int _ n => some n
  | _ => none

/-- an optional bound of a slice expression -/
def bound (ρ : Src → PV) (d : Nat) : Option Src → Option Nat
  | none => some d
  | some x =>
    match ρ x with
    | .int _ n => if 0 ≤ n then some n.toNat else none
    | _ => none

def Fl.sub (fl : Fl) (last : Bool) : Fl :=
  match fl with
  | .full => if last then .full else .part
  | f => f

def Fl.cut (fl : Fl) (exact : Bool) : Fl :=
  match fl with
  | .tmp => .tmp
  | _ => if exact then .full else .part

def sliceV (k : Nat) (x : PV) (lo hi : Nat) (mx : Option Nat) : Option PV :=
  match x with
  | .nils => if lo = 0 ∧ hi = 0 ∧ (mx = none ∨ mx = some 0) then some .nils else none
  | .data k' xs fl =>
    if k = k' ∧ lo ≤ hi ∧ hi ≤ xs.length then
      match mx with
      | none => some (.data k ((xs.drop lo).take (hi - lo)) (fl.sub (hi == xs.length)))
      | some m => if hi ≤ m ∧ m ≤ xs.length then some (.data k ((xs.drop lo).take (hi - lo)) (fl.cut (m == hi))) else none
    else none
  | .view id ver k' off len cap =>
    if k = k' ∧ lo ≤ hi then
      match mx, cap with
      | none, none => if hi ≤ len then some (.view id ver k (off + lo) (hi - lo) none) else none
      | none, some c => if hi ≤ c then some (.view id ver k (off + lo) (hi - lo) (some (c - lo))) else none
      | some m, some c => if hi ≤ m ∧ m ≤ c then some (.view id ver k (off + lo) (hi - lo) (some (m - lo))) else none
      | some m, none => if hi ≤ m ∧ m ≤ len then some (.view id ver k (off + lo) (hi - lo) (some (m - lo))) else none
    else none
  | _ => none

/-- elements written over others -/
def overwrite (xs : List (List PV)) (off : Nat) (ys : List (List PV)) : List (List PV) := xs.take off ++ (ys ++ xs.drop (off + ys.length))

def appendV (k bytes : Nat) (s : PV) (m : List (List PV)) (rd : List Nat) (H : Heap) (n : Nat) : Option Res :=
  match s with
  | .nils =>
    if m.isEmpty then some ⟨.nils, H, n, ⟨rd, [], false⟩⟩
    else if m.length * bytes ≤ room then some ⟨.view n 0 k 0 m.length none, H.set n (.arr 0 k m), n + 1, ⟨rd, [n], false⟩⟩ else none
  | .data k' xs fl =>
    if k ≠ k' then none
    else if m.isEmpty then some ⟨s, H, n, ⟨rd, [], false⟩⟩
    else if fl = .full ∧ (xs.length + m.length) * bytes ≤ room then
      some ⟨.view n 0 k 0 (xs.length + m.length) none, H.set n (.arr 0 k (xs ++ m)), n + 1, ⟨rd, [n], false⟩⟩
    else none
  | .view id ver k' off len cap =>
    if k ≠ k' then none
    else match H.get id with
    | some (.arr ver' k'' xs) =>
      if ver ≠ ver' ∨ k ≠ k'' ∨ ¬ (off + len ≤ xs.length) then none
      else match cap with
      | some c =>
        if len + m.length ≤ c then
          (if off + len + m.length ≤ xs.length then some ⟨.view id ver k off (len + m.length) cap, H.set id (.arr ver k (overwrite xs (off + len) m)), n, ⟨rd, [id], false⟩⟩ else none)
        else if (len + m.length) * bytes ≤ room then
          some ⟨.view n 0 k 0 (len + m.length) none, H.set n (.arr 0 k ((xs.drop off).take len ++ m)), n + 1, ⟨id :: rd, [n], false⟩⟩
        else none
      | none =>
        if off + len + m.length ≤ xs.length then some ⟨.view id ver k off (len + m.length) cap, H.set id (.arr ver k (overwrite xs (off + len) m)), n, ⟨rd, [id], false⟩⟩
        else if (len + m.length) * bytes ≤ room then
          some ⟨.view id (ver + 1) k 0 (len + m.length) none, H.set id (.arr (ver + 1) k ((xs.drop off).take len ++ m)), n, ⟨rd, [id], false⟩⟩
        else none
    | _ => none
  | _ => none

def storeAtV (size : Nat) (a v : PV) (H : Heap) (n : Nat) : Option Res :=
  match a, v.cells? with
  | .ptr id ver k i off, some cs =>
    match H.get id with
    | some (.arr ver' k' xs) =>
      if ver = ver' ∧ k = k' ∧ i < xs.length ∧ off + size ≤ k ∧ cs.length = size then
        some ⟨.tup [], H.set id (.arr ver k (xs.set i (splice (xs.getD i []) off cs))), n, ⟨[], [id], false⟩⟩
      else none
    | _ => none
  | _, _ => none

def minmaxV (mx : Bool) : Int → List PV → Option Int
  | a, [] => some a
  | a, .int _ b :: r => minmaxV mx (if mx then (if a < b then b else a) else (if b < a then b else a)) r
  | _, _ => none

/-- a call: 0: of memory alone: it leaves objects alone, and what it answers is memory; 3: the same, what objects it is handed are memory from now on; 2: as 3, but what it answers may be objects; 1: it may do anything -/
def callV (cf : CallF) (mode : Nat) (f : FuncId) (args : List PV) (H : Heap) (n : Nat) : Option Res :=
  match mode with
  | 0 =>
    match thawL true H deep args with
    | some (as, is) =>
      match cf f as [] 0 with
      | some (r, H', _) =>
        match thaw false H' deep r with
        | some (r', _) => some ⟨r', H, n, ⟨is, [], false⟩⟩
        | none => none
      | none => none
    | none => none
  | 3 =>
    match thawL false H deep args with
    | some (as, is) =>
      match cf f as [] 0 with
      | some (r, H', _) =>
        match thaw false H' deep r with
        | some (r', _) => some ⟨r', dropIds H is, n, ⟨[], is, false⟩⟩
        | none => none
      | none => none
    | none => none
  | 2 =>
    match thawL false H deep args with
    | some (as, is) =>
      match cf f as [] n with
      | some (r, H', n') => some ⟨r, H' ++ dropIds H is, n', ⟨[], [], true⟩⟩
      | none => none
    | none => none
  | _ =>
    match cf f args H n with
    | some (r, H', n') => some ⟨r, H', n', ⟨[], [], true⟩⟩
    | none => none

def evalOp (cf : CallF) (o : IOp) (ρ : Src → PV) (H : Heap) (n : Nat) : Option Res :=
  let ok (v : PV) : Option Res := some ⟨v, H, n, .no⟩
  match o with
  | .bad => none
  | .mv x => ok (ρ x)
  | .pick c a b =>
    match ρ c with
    | .bool b' => ok (if b' then ρ a else ρ b)
    | _ => none
  | .box obj x =>
    match (ρ x).cells? with
    | some cs =>
      if cs.isEmpty then none
      else if obj then some ⟨.ptr n 0 cs.length 0 0, H.set n (.arr 0 cs.length [cs]), n + 1, ⟨[], [n], false⟩⟩
      else if cs.all flat then ok (.dp false cs 0)
      else if cs.all flatT then ok (.dp true cs 0)
      else none
    | none => none
  | .build zero parts =>
    match fillP ρ parts zero with
    | some cs => ok (.agg cs)
    | none => none
  | .bslice obj k zero len parts =>
    match fillS ρ k parts (List.replicate len zero) with
    | some xs =>
      if zero.length ≠ k ∨ k = 0 then none
      else if obj then some ⟨.view n 0 k 0 len (some len), H.set n (.arr 0 k xs), n + 1, ⟨[], [n], false⟩⟩
      else if xs.all (fun x => x.all flat) then ok (.data k xs .full)
      else none
    | none => none
  | .load agg size a =>
    match ρ a with
    | .dp _ cs off =>
      match partAt agg cs off size with
      | some v => ok v
      | none => none
    | .ptr id ver k i off =>
      match H.get id with
      | some (.arr ver' k' xs) =>
        if ver = ver' ∧ k = k' ∧ i < xs.length then
          match partAt agg (xs.getD i []) off size with
          | some v => some ⟨v, H, n, ⟨[id], [], false⟩⟩
          | none => none
        else none
      | _ => none
    | _ => none
  | .store size a v => storeAtV size (ρ a) (ρ v) H n
  | .nilChk x =>
    match ρ x with
    | .ptr .. | .dp .. | .func .. | .iface .. => ok (ρ x)
    | _ => none
  | .bin op x y =>
    match binV op (ρ x) (ρ y) with
    | some v => ok v
    | none => none
  | .eqK kd neg x y =>
    match nilEq kd (ρ x) (ρ y) with
    | some r => ok (.bool (if neg then !r else r))
    | none => none
  | .eqAgg ks neg x y =>
    match ρ x, ρ y with
    | .agg a, .agg b =>
      if a.length = ks.length ∧ b.length = ks.length then
        match cellsEq ks a b with
        | some r => ok (.bool (if neg then !r else r))
        | none => none
      else none
    | _, _ => none
  | .un op x =>
    match unV op (ρ x) with
    | some v => ok v
    | none => none
  | .conv k x =>
    match ρ x with
    | .int _ m => ok (.int k (k.wrap m))
    | _ => none
  | .mkIface t x => ok (.iface t (ρ x))
  | .mkFunc f first caps => ok (.func f (first.map ρ) (caps.map ρ))
  | .mkMap => some ⟨.map n, H.set n (.map [] 0), n + 1, ⟨[], [n], false⟩⟩
  | .mkSlice k bytes zero len cap =>
    match ρ len, ρ cap with
    | .int .i64 l, .int .i64 c =>
      if 0 ≤ l ∧ l ≤ c ∧ c.toNat * bytes ≤ room ∧ zero.length = k ∧ k ≠ 0 then
        some ⟨.view n 0 k 0 l.toNat (some c.toNat), H.set n (.arr 0 k (List.replicate c.toNat zero)), n + 1, ⟨[], [n], false⟩⟩
      else none
    | _, _ => none
  | .slice k x lo hi mx =>
    match lenV (ρ x) with
    | some l =>
      match bound ρ 0 lo, bound ρ l hi, bound ρ 0 mx with
      | some a, some b, some m =>
        match sliceV k (ρ x) a b (mx.map fun _ => m) with
        | some v => ok v
        | none => none
      | _, _, _ => none
    | none => none
  | .substr x lo hi =>
    match ρ x with
    | .str s =>
      match bound ρ 0 lo, bound ρ s.size hi with
      | some a, some b => if a ≤ b ∧ b ≤ s.size then ok (.str (s.extract a b)) else none
      | _, _ => none
    | _ => none
  | .fieldAddr off x =>
    match ρ x with
    | .dp t cs o => ok (.dp t cs (o + off))
    | .ptr id ver k i o => ok (.ptr id ver k i (o + off))
    | _ => none
  | .field agg off size x =>
    match ρ x with
    | .agg cs =>
      match partAt agg cs off size with
      | some v => ok v
      | none => none
    | _ => none
  | .idxAddr k x i =>
    match ρ x, ρ i with
    | .data k' xs fl, .int _ j => if k = k' ∧ 0 ≤ j ∧ j.toNat < xs.length then ok (.dp fl.isTmp (xs.getD j.toNat []) 0) else none
    | .view id ver k' off len _, .int _ j => if k = k' ∧ 0 ≤ j ∧ j.toNat < len then ok (.ptr id ver k (off + j.toNat) 0) else none
    | _, _ => none
  | .idxArr len k x i =>
    match ρ x, ρ i with
    | .dp t cs o, .int _ j => if 0 ≤ j ∧ j.toNat < len then ok (.dp t cs (o + j.toNat * k)) else none
    | .ptr id ver k' m o, .int _ j => if 0 ≤ j ∧ j.toNat < len then ok (.ptr id ver k' m (o + j.toNat * k)) else none
    | _, _ => none
  | .idxStr x i =>
    match ρ x, ρ i with
    | .str s, .int _ j =>
      if 0 ≤ j then
        match s[j.toNat]? with
        | some b => ok (.int .u8 b.toNat)
        | none => none
      else none
    | _, _ => none
  | .lookup ck zero x key commaOk =>
    match ρ x with
    | .nilm => if keyOk ck (ρ key) then ok (if commaOk then .tup [zero, .bool false] else zero) else none
    | .map id =>
      match H.get id with
      | some (.map es _) =>
        match findIn ck (ρ key) es with
        | some (some i) => some ⟨if commaOk then .tup [(es.getD i (.any, .any, 0)).2.1, .bool true] else (es.getD i (.any, .any, 0)).2.1, H, n, ⟨[id], [], false⟩⟩
        | some none => some ⟨if commaOk then .tup [zero, .bool false] else zero, H, n, ⟨[id], [], false⟩⟩
        | none => none
      | _ => none
    | _ => none
  | .mapSet ck m k v =>
    match ρ m with
    | .map id =>
      match H.get id with
      | some (.map es clock) =>
        match findIn ck (ρ k) es with
        | some (some i) => some ⟨.tup [], H.set id (.map (es.set i (ρ k, ρ v, (es.getD i (.any, .any, 0)).2.2)) clock), n, ⟨[], [id], false⟩⟩
        | some none => some ⟨.tup [], H.set id (.map (es ++ [(ρ k, ρ v, clock)]) (clock + 1)), n, ⟨[], [id], false⟩⟩
        | none => none
      | _ => none
    | _ => none
  | .mapEntry ck zero m k =>
    match ρ m with
    | .map id =>
      match H.get id with
      | some (.map es clock) =>
        match findIn ck (ρ k) es with
        | some (some i) =>
          some ⟨.tup [(es.getD i (.any, .any, 0)).2.1, .int .i64 (es.getD i (.any, .any, 0)).2.2], H.set id (.map (es.set i (ρ k, (es.getD i (.any, .any, 0)).2.1, (es.getD i (.any, .any, 0)).2.2)) clock), n, ⟨[], [id], false⟩⟩
        | some none => some ⟨.tup [zero, .int .i64 clock], H.set id (.map (es ++ [(ρ k, zero, clock)]) (clock + 1)), n, ⟨[], [id], false⟩⟩
        | none => none
      | _ => none
    | _ => none
  | .entrySet m s v =>
    match ρ m, ρ s with
    | .map id, .int _ b =>
      match H.get id with
      | some (.map es clock) =>
        match es.findIdx? (fun e => (e.2.2 : Int) == b) with
        | some i => some ⟨.tup [], H.set id (.map (es.set i ((es.getD i (.any, .any, 0)).1, ρ v, (es.getD i (.any, .any, 0)).2.2)) clock), n, ⟨[], [id], false⟩⟩
        | none => none
      | _ => none
    | _, _ => none
  | .range m =>
    match ρ m with
    | .map id =>
      match H.get id with
      | some (.map [] clock) => some ⟨.ptr n 0 1 0 0, H.set n (.miter (some id) clock [] clock), n + 1, ⟨[id], [n], false⟩⟩
      | _ => none
    | _ => none
  | .next it =>
    match ρ it with
    | .ptr id 0 1 0 0 =>
      match H.get id with
      | some (.miter (some m) _ _ _) =>
        match H.get m with
        | some (.map [] _) => some ⟨.tup [.bool false], H, n, ⟨[id, m], [], false⟩⟩
        | _ => none
      | _ => none
    | _ => none
  | .tassert t zero x commaOk =>
    match ρ x with
    | .iface u v =>
      if u = t then ok (if commaOk then .tup [v, .bool true] else v)
      else if commaOk then ok (.tup [zero, .bool false]) else none
    | .nili => if commaOk then ok (.tup [zero, .bool false]) else none
    | _ => none
  | .extract x i =>
    match ρ x with
    | .tup vs => if i < vs.length then ok (vs.getD i .any) else none
    | _ => none
  | .len k x =>
    match k, ρ x with
    | .map, .nilm => ok (.int .i64 0)
    | .map, .map id =>
      match H.get id with
      | some (.map es _) => some ⟨.int .i64 es.length, H, n, ⟨[id], [], false⟩⟩
      | _ => none
    | .slice, .nils => ok (.int .i64 0)
    | .slice, .data _ xs _ => ok (.int .i64 xs.length)
    | .slice, .view _ _ _ _ len _ => ok (.int .i64 len)
    | .str, .str s => ok (.int .i64 s.size)
    | _, _ => none
  | .capo x =>
    match ρ x with
    | .nils => ok (.int .i64 0)
    | .data _ xs .full => ok (.int .i64 xs.length)
    | .view _ _ _ _ _ (some c) => ok (.int .i64 c)
    | _ => none
  | .append k bytes s x =>
    if k = 0 ∨ bytes = 0 then none else
    match ρ x with
    | .nils => appendV k bytes (ρ s) [] [] H n
    | v =>
      match elems H v with
      | some (k', m, rd) => if k = k' then appendV k bytes (ρ s) m rd H n else none
      | none => none
  | .copy k d s =>
    match ρ d with
    | .nils => ok (.int .i64 0)
    | .view id ver k' off len _ =>
      match H.get id, (match ρ s with | .nils => some (k, [], []) | v => elems H v) with
      | some (.arr ver' k'' xs), some (k₃, m, rd) =>
        if ver = ver' ∧ k = k' ∧ k = k'' ∧ k = k₃ ∧ off + len ≤ xs.length then
          some ⟨.int .i64 (min m.length len : Nat), H.set id (.arr ver k (overwrite xs off (m.take len))), n, ⟨rd, [id], false⟩⟩
        else none
      | _, _ => none
    | _ => none
  | .clear k zero x =>
    match ρ x with
    | .nils => ok (.tup [])
    | .view id ver k' off len _ =>
      match H.get id with
      | some (.arr ver' k'' xs) =>
        if ver = ver' ∧ k = k' ∧ k = k'' ∧ off + len ≤ xs.length ∧ zero.length = k then some ⟨.tup [], H.set id (.arr ver k (overwrite xs off (List.replicate len zero))), n, ⟨[], [id], false⟩⟩
        else none
      | _ => none
    | _ => none
  | .minmax mx xs =>
    match xs.map ρ with
    | .int k a :: r =>
      match minmaxV mx a r with
      | some b => ok (.int k b)
      | none => none
    | _ => none
  | .call mode f args =>
    match ρ f with
    | .func g first caps => callV cf mode g (first ++ args.map ρ ++ caps) H n
    | _ => none
  | .invoke mode tbl recv args =>
    match ρ recv with
    | .iface t v =>
      match tbl.find? (fun e => e.1 == t) with
      | some (_, g) => callV cf mode g (v :: args.map ρ) H n
      | none => none
    | _ => none

structure IOper where
  op : IOp
  guard : Option (Nat × Bool) := none
  deriving Inhabited

structure IReg where
  ops : List IOper
  out : List (Nat × Src)
  masks : Option (List Nat)
  deriving Inhabited

inductive ICode where
  | skip
  | reg (r : IReg)
  | seq (a b : ICode)
  | cond (c : Src) (a b : ICode)
  | block (id : Nat) (a : ICode)
  | loop (a : ICode)
  | exit (id : Nat)
  | ret
  | bad
  deriving Inhabited

inductive IRes where
  | val (x : Src)
  | cell (x : Src) (agg : Bool) (size : Nat)
  deriving Inhabited

structure IFunc where
  live : List Nat
  body : ICode
  results : List IRes
  deriving Inhabited

inductive Ex where
  | normal
  | exit (id : Nat)
  | ret
  deriving DecidableEq, Inhabited

structure St where
  S : List PV
  H : Heap
  n : Nat

/-- is an operation done: its guard -/
def wants (T : List PV) : Option (Nat × Bool) → Option Bool
  | none => some true
  | some (j, want) =>
    match T.getD j .any with
    | .bool b => some (b == want)
    | .tup _ => some false
    | _ => none

def evalOps (cf : CallF) (S : List PV) : List IOper → List PV → Heap → Nat → List Fp → Option (List PV × Heap × Nat × List Fp)
  | [], T, H, n, L => some (T, H, n, L)
  | o :: r, T, H, n, L =>
    match wants T o.guard with
    | some true =>
      match evalOp cf o.op (Src.ev S T) H n with
      | some x => evalOps cf S r (T ++ [x.v]) x.H x.n (L ++ [x.fp])
      | none => none
    | some false => evalOps cf S r (T ++ [.tup []]) H n (L ++ [.no])
    | none => none

/-- are both one? (values that are no lists) -/
def PV.same : PV → PV → Bool
  | .int k a, .int k' b => decide (k = k') && decide (a = b)
  | .bool a, .bool b => a == b
  | .nilp, .nilp | .nils, .nils | .nilm, .nilm | .nilf, .nilf | .nili, .nili => true
  | .ptr a b c d e, .ptr a' b' c' d' e' => decide (a = a') && decide (b = b') && decide (c = c') && decide (d = d') && decide (e = e')
  | .view a b c d e f, .view a' b' c' d' e' f' => decide (a = a') && decide (b = b') && decide (c = c') && decide (d = d') && decide (e = e') && decide (f = f')
  | .map a, .map b => decide (a = b)
  | _, _ => false

mutual
def PV.sameF : Nat → PV → PV → Bool
  | 0, _, _ => false
  | d + 1, a, b =>
    match a, b with
    | .agg x, .agg y => PV.sameFL d x y
    | .data k x fl, .data k' y fl' => decide (k = k') && decide (fl = fl') && PV.sameFLL d x y
    | .dp t x o, .dp t' y o' => decide (t = t') && decide (o = o') && PV.sameFL d x y
    | .iface t x, .iface t' y => decide (t = t') && PV.sameF d x y
    | .func f x z, .func f' x' z' => decide (f = f') && PV.sameFL d x x' && PV.sameFL d z z'
    | .str x, .str y => x.data.toList == y.data.toList
    | x, y => PV.same x y
def PV.sameFL : Nat → List PV → List PV → Bool
  | 0, _, _ => false
  | _ + 1, [], [] => true
  | d + 1, x :: xs, y :: ys => PV.sameF d x y && PV.sameFL d xs ys
  | _, _, _ => false
def PV.sameFLL : Nat → List (List PV) → List (List PV) → Bool
  | 0, _, _ => false
  | _ + 1, [], [] => true
  | d + 1, x :: xs, y :: ys => PV.sameFL d x y && PV.sameFLL d xs ys
  | _, _, _ => false
end

/-- does an operation that looks at one object see the same, wherever it may be done? -/
def freeRead (cf : CallF) (S : List PV) (ops : List IOper) (H : Heap) (n : Nat) (T : List PV) (L : List Fp) (masks : List Nat) (r : Nat) : Bool :=
  match L.getD r .no with
  | ⟨[a], [], false⟩ =>
    (List.range (ops.length + 1)).all fun m =>
      (match m with
       | 0 => false
       | j + 1 => !((L.getD j .no).all || (L.getD j .no).wr.contains a) || (masks.getD j 0).testBit r || j == r) ||
      match evalOps cf S (ops.take m) [] H n [] with
      | some (_, H1, n1, _) =>
        match evalOp cf (ops.getD r default).op (Src.ev S (T.take r)) H1 n1 with
        | some ⟨v, _, _, ⟨[b], [], false⟩⟩ => PV.sameF deep v (T.getD r .any) && decide (a = b)
        | _ => false
      | none => false
  | _ => false

/-- no two operations that may change places look at one object -/
def orderly (cf : CallF) (S : List PV) (ops : List IOper) (H : Heap) (n : Nat) (T : List PV) (masks : List Nat) (L : List Fp) : Bool :=
  (List.range L.length).all fun j => (List.range j).all fun i =>
    (masks.getD j 0).testBit i || (L.getD i .no).apart (L.getD j .no) || freeRead cf S ops H n T L masks i || freeRead cf S ops H n T L masks j

def setAll (S T : List PV) : List (Nat × Src) → List PV → List PV
  | [], R => R
  | (p, x) :: r, R => setAll S T r (R.set p (x.ev S T))

def evalR (cf : CallF) (r : IReg) (s : St) : Option St :=
  match evalOps cf s.S r.ops [] s.H s.n [] with
  | some (T, H, n, L) =>
    match r.masks with
    | none => some ⟨setAll s.S T r.out s.S, H, n⟩
    | some ms => if orderly cf s.S r.ops s.H s.n T ms L then some ⟨setAll s.S T r.out s.S, H, n⟩ else none
  | none => none

def iter (f : St → Option (Ex × St)) : Nat → St → Option (Ex × St)
  | 0, _ => none
  | k + 1, s =>
    match f s with
    | some (.normal, s') => iter f k s'
    | r => r

def evalC (cf : CallF) (k : Nat) : ICode → St → Option (Ex × St)
  | .skip, s => some (.normal, s)
  | .reg r, s =>
    match evalR cf r s with
    | some s' => some (.normal, s')
    | none => none
  | .seq a b, s =>
    match evalC cf k a s with
    | some (.normal, s') => evalC cf k b s'
    | r => r
  | .cond c a b, s =>
    match c.ev s.S [] with
    | .bool true => evalC cf k a s
    | .bool false => evalC cf k b s
    | _ => none
  | .block id a, s =>
    match evalC cf k a s with
    | some (.exit i, s') => if i = id then some (.normal, s') else some (.exit i, s')
    | r => r
  | .loop a, s => iter (fun s' => evalC cf k a s') k s
  | .exit id, s => some (.exit id, s)
  | .ret, s => some (.ret, s)
  | .bad, _ => none

def evalRes (S : List PV) (H : Heap) : IRes → Option PV
  | .val x => some (x.ev S [])
  | .cell x agg size =>
    match x.ev S [] with
    | .dp _ cs off => partAt agg cs off size
    | .ptr id ver k i off =>
      match H.get id with
      | some (.arr ver' k' xs) => if ver = ver' ∧ k = k' ∧ i < xs.length then partAt agg (xs.getD i []) off size else none
      | _ => none
    | _ => none

def evalResults (S : List PV) (H : Heap) : List IRes → Option (List PV)
  | [] => some []
  | r :: rs =>
    match evalRes S H r, evalResults S H rs with
    | some v, some vs => some (v :: vs)
    | _, _ => none

def tupled : List PV → PV
  | [v] => v
  | vs => .tup vs

def start (live : List Nat) (args : List PV) : List PV := live.map fun s => if s < args.length then args.getD s .any else .tup []

structure Env where
  prog : FuncId → Option IFunc
  ext : FuncId → Option (List PV → Heap → Nat → Option (PV × Heap × Nat))

def evalF (E : Env) : Nat → CallF
  | 0, _, _, _, _ => none
  | k + 1, f, args, H, n =>
    match E.ext f with
    | some g => g args H n
    | none =>
      match E.prog f with
      | none => none
      | some I =>
        match evalC (evalF E k) k I.body ⟨start I.live args, H, n⟩ with
        | some (.normal, s) | some (.ret, s) =>
          match evalResults s.S s.H I.results with
          | some vs => some (tupled vs, s.H, s.n)
          | none => none
        | _ => none

end Go.Vm
