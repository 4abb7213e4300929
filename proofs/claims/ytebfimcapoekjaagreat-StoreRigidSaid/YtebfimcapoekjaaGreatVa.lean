/-
  THE VALUES OF AN EVALUATOR THAT KNOWS NO ADDRESSES, and how a value of the model's is one of these: what lies in memory that nobody writes any more is a list; what may be written is an object with a number.
-/
import Derived.Calls
import Derived.Below
import Derived.Laws.CopyRow
import Derived.Laws.StructEq
import Derived.Orders
namespace Go.Vm

/-- the value of one cell -/
abbrev one (v : Value) : Bool := v.oneCell'

/-- how a slice of memory that nobody writes may go on: for the time being nobody writes it; nothing is known behind it; it ends there -/
inductive Fl where
  | tmp | part | full
  deriving DecidableEq, Inhabited

def Fl.isTmp : Fl → Bool
  | .tmp => true
  | _ => false

inductive PV : Type where
  | int (k : IntKind) (n : Int)
  | bool (b : Bool)
  | str (s : ByteArray)
  | any
  | nilp
  | ptr (id ver k i off : Nat)
  | dp (t : Bool) (cs : List PV) (off : Nat)
  | nils
  | data (k : Nat) (xs : List (List PV)) (fl : Fl)
  | view (id ver k off len : Nat) (cap : Option Nat)
  | nilm
  | map (id : Nat)
  | nilf
  | func (f : FuncId) (first caps : List PV)
  | nili
  | iface (t : TypeId) (v : PV)
  | agg (cs : List PV)
  | tup (vs : List PV)
  deriving Inhabited

/-- the cells of a value that is stored; none: it is not known how many it has -/
def PV.cells? : PV → Option (List PV)
  | .any | .tup _ => none
  | .agg cs => some cs
  | v => some [v]

/-- where an object lies: its block, at which of its elements it begins, how many cells an element has, how many elements the block bears -/
structure Loc where
  block : Nat
  base : Nat
  k : Nat
  tot : Nat

/-- memory that is never written any more (false), or not for the time being (true) -/
abbrev Mem := Bool → Addr → Option Value
abbrev Places := Nat → Nat → Option Loc

def cellOf (b o : Nat) : Addr := ⟨b, o, none⟩

/-- values without numbers of objects; t: memory that is not written for the time being may stand in them -/
inductive Cl : Bool → PV → Prop
  | int (t : Bool) (k : IntKind) (n : Int) : Cl t (.int k n)
  | bool (t : Bool) (b : Bool) : Cl t (.bool b)
  | str (t : Bool) (s : ByteArray) : Cl t (.str s)
  | any (t : Bool) : Cl t .any
  | nilp (t : Bool) : Cl t .nilp
  | dp (t u : Bool) (cs : List PV) (off : Nat) : (u = true → t = true) → (∀ c ∈ cs, Cl u c) → Cl t (.dp u cs off)
  | nils (t : Bool) : Cl t .nils
  | data (t : Bool) (k : Nat) (xs : List (List PV)) (fl : Fl) : (fl.isTmp = true → t = true) → (∀ x ∈ xs, ∀ c ∈ x, Cl fl.isTmp c) → Cl t (.data k xs fl)
  | nilm (t : Bool) : Cl t .nilm
  | nilf (t : Bool) : Cl t .nilf
  | func (t : Bool) (f : FuncId) (first caps : List PV) : (∀ c ∈ first, Cl t c) → (∀ c ∈ caps, Cl t c) → Cl t (.func f first caps)
  | nili (t : Bool) : Cl t .nili
  | iface (t : Bool) (ty : TypeId) (v : PV) : Cl t v → Cl t (.iface ty v)
  | agg (t : Bool) (cs : List PV) : (∀ c ∈ cs, Cl t c) → Cl t (.agg cs)
  | tup (t : Bool) (cs : List PV) : (∀ c ∈ cs, Cl t c) → Cl t (.tup cs)

/-- a value of the model's is one of these, where memory that is never written holds what M says, and objects lie where φ says -/
inductive Rv (M : Mem) (φ : Places) : PV → Value → Prop
  | int (k : IntKind) (n : Int) : Rv M φ (.int k n) (.int k n)
  | bool (b : Bool) : Rv M φ (.bool b) (.bool b)
  | str (s : ByteArray) : Rv M φ (.str s) (.string s)
  | any (v : Value) : Rv M φ .any v
  | nilp : Rv M φ .nilp (.pointer none)
  | ptr (id ver k i off : Nat) (l : Loc) : φ id ver = some l → l.k = k →
      Rv M φ (.ptr id ver k i off) (.pointer (some (cellOf l.block ((l.base + i) * k + off))))
  | dp (t : Bool) (cs : List PV) (off b o : Nat) (vs : Nat → Value) : (∀ c ∈ cs, Cl t c) → (∀ j, j < cs.length → M t (cellOf b (o + j)) = some (vs j)) →
      (∀ j, j < cs.length → one (vs j) = true) → (∀ j, j < cs.length → Rv M φ (cs.getD j .any) (vs j)) →
      Rv M φ (.dp t cs off) (.pointer (some (cellOf b (o + off))))
  | nils : Rv M φ .nils (.slice none 0 0)
  | data (k : Nat) (xs : List (List PV)) (fl : Fl) (b o cap : Nat) (vs : Nat → Nat → Value) : (∀ x ∈ xs, ∀ c ∈ x, Cl fl.isTmp c) → xs.length ≤ cap → (fl = .full → cap = xs.length) →
      (∀ i, i < xs.length → (xs.getD i []).length = k) →
      (∀ i j, i < xs.length → j < k → M fl.isTmp (cellOf b (o + (i * k + j))) = some (vs i j)) →
      (∀ i j, i < xs.length → j < k → one (vs i j) = true) →
      (∀ i j, i < xs.length → j < k → Rv M φ ((xs.getD i []).getD j .any) (vs i j)) →
      Rv M φ (.data k xs fl) (.slice (some (cellOf b o)) xs.length cap)
  | view (id ver k off len : Nat) (cap : Option Nat) (l : Loc) (a : Addr) (cv : Nat) : φ id ver = some l → l.k = k → len ≤ cv →
      (∀ c, cap = some c → cv = c) → (cap = none → cv = l.tot - (l.base + off)) → (cv ≠ 0 → a = cellOf l.block ((l.base + off) * k)) → l.base + off + cv ≤ l.tot → a.spot = none →
      Rv M φ (.view id ver k off len cap) (.slice (some a) len cv)
  | nilm : Rv M φ .nilm (.map none)
  | map (id : Nat) (l : Loc) : φ id 0 = some l → Rv M φ (.map id) (.map (some l.block))
  | nilf : Rv M φ .nilf .nilFunc
  | func (f : FuncId) (first caps : List PV) (fs cs : Array Value) : fs.size = first.length → cs.size = caps.length →
      (∀ j, j < first.length → Rv M φ (first.getD j .any) (fs.getD j undef)) → (∀ j, j < caps.length → Rv M φ (caps.getD j .any) (cs.getD j undef)) →
      Rv M φ (.func f first caps) (.func (.func f) fs cs)
  | nili : Rv M φ .nili .nilIface
  | iface (t : TypeId) (p : PV) (v : Value) : Rv M φ p v → Rv M φ (.iface t p) (.iface t v)
  | agg (cs : List PV) (vs : Array Value) : vs.size = cs.length → (∀ j, j < cs.length → one (vs.getD j undef) = true) →
      (∀ j, j < cs.length → Rv M φ (cs.getD j .any) (vs.getD j undef)) → Rv M φ (.agg cs) (.agg vs)
  | tup (cs : List PV) (vs : Array Value) : vs.size = cs.length →
      (∀ j, j < cs.length → Rv M φ (cs.getD j .any) (vs.getD j undef)) → Rv M φ (.tup cs) (.tuple vs)

/-- a row of values -/
def RvL (M : Mem) (φ : Places) (cs : List PV) (vs : Array Value) : Prop :=
  vs.size = cs.length ∧ ∀ j, j < cs.length → Rv M φ (cs.getD j .any) (vs.getD j undef)

def Mem.le (M M' : Mem) : Prop := ∀ t a v, M t a = some v → M' t a = some v
def Places.le (φ φ' : Places) : Prop := ∀ id ver l, φ id ver = some l → φ' id ver = some l

theorem Mem.le.refl (M : Mem) : M.le M := fun _ _ _ h => h
theorem Mem.le.trans {A B C : Mem} (h : A.le B) (k : B.le C) : A.le C := fun t a v e => k t a v (h t a v e)
theorem Places.le.refl (φ : Places) : φ.le φ := fun _ _ _ h => h
theorem Places.le.trans {A B C : Places} (h : A.le B) (k : B.le C) : A.le C := fun i j l e => k i j l (h i j l e)

theorem Rv.mono {M M' : Mem} {φ φ' : Places} (hM : M.le M') (hφ : φ.le φ') {p : PV} {v : Value} (h : Rv M φ p v) : Rv M' φ' p v := by
  induction h with
  | int k n => exact .int k n
  | bool b => exact .bool b
  | str s => exact .str s
  | any v => exact .any v
  | nilp => exact .nilp
  | ptr id ver k i off l h hk => exact .ptr id ver k i off l (hφ _ _ _ h) hk
  | dp t cs off b o vs h0 h1 h2 h3 ih => exact .dp t cs off b o vs h0 (fun j hj => hM _ _ _ (h1 j hj)) h2 ih
  | nils => exact .nils
  | data k xs fl b o cap vs h0 h1 h2 h3 h4 h5 h6 ih => exact .data k xs fl b o cap vs h0 h1 h2 h3 (fun i j hi hj => hM _ _ _ (h4 i j hi hj)) h5 ih
  | view id ver k off len cap l a cv h1 h2 h3 h4 h5 h6 h7 h8 => exact .view id ver k off len cap l a cv (hφ _ _ _ h1) h2 h3 h4 h5 h6 h7 h8
  | nilm => exact .nilm
  | map id l h => exact .map id l (hφ _ _ _ h)
  | nilf => exact .nilf
  | func f first caps fs cs h1 h2 h3 h4 ih1 ih2 => exact .func f first caps fs cs h1 h2 ih1 ih2
  | nili => exact .nili
  | iface t p v h ih => exact .iface t p v ih
  | agg cs vs h1 h2 h3 ih => exact .agg cs vs h1 h2 ih
  | tup cs vs h1 h2 ih => exact .tup cs vs h1 ih

theorem RvL.mono {M M' : Mem} {φ φ' : Places} (hM : M.le M') (hφ : φ.le φ') {cs : List PV} {vs : Array Value} (h : RvL M φ cs vs) : RvL M' φ' cs vs :=
  ⟨h.1, fun j hj => (h.2 j hj).mono hM hφ⟩

theorem cellOf_eta {a : Addr} (h : a.spot = none) : a = cellOf a.block a.off := by cases a; simp_all [cellOf]

/-- memory for the time being may be memory for good -/
theorem Cl.weaken {p : PV} (h : Cl false p) : Cl true p := by
  generalize hf : false = t at h
  induction h with
  | int => exact .int _ _ _
  | bool => exact .bool _ _
  | str => exact .str _ _
  | any => exact .any _
  | nilp => exact .nilp _
  | dp t u cs off h1 h2 ih => exact .dp true u cs off (fun _ => rfl) h2
  | nils => exact .nils _
  | data t k xs fl h1 h2 ih => exact .data true k xs fl (fun _ => rfl) h2
  | nilm => exact .nilm _
  | nilf => exact .nilf _
  | func t f first caps h1 h2 ih1 ih2 => exact .func true f first caps (fun c hc => ih1 c hc hf) (fun c hc => ih2 c hc hf)
  | nili => exact .nili _
  | iface t ty v h ih => exact .iface true ty v (ih hf)
  | agg t cs h ih => exact .agg true cs (fun c hc => ih c hc hf)
  | tup t cs h ih => exact .tup true cs (fun c hc => ih c hc hf)

theorem getD_mem {α : Type} {l : List α} {j : Nat} {d : α} (h : j < l.length) : l.getD j d ∈ l := by
  rw [List.getD_eq_getElem?_getD, List.getElem?_eq_getElem h]; exact List.getElem_mem h

/-- of a clean value the places tell nothing -/
theorem Rv.clean {M M' : Mem} {φ φ' : Places} {p : PV} {v : Value} (h : Rv M φ p v) : ∀ t, Cl t p → (∀ u a x, (u = true → t = true) → M u a = some x → M' u a = some x) → Rv M' φ' p v := by
  induction h with
  | int k n => exact fun _ _ _ => .int k n
  | bool b => exact fun _ _ _ => .bool b
  | str s => exact fun _ _ _ => .str s
  | any v => exact fun _ _ _ => .any v
  | nilp => exact fun _ _ _ => .nilp
  | ptr id ver k i off l h hk => exact fun t hn _ => by cases hn
  | dp u cs off b o vs h0 h1 h2 h3 ih =>
    exact fun t hn hM => by
      cases hn with
      | dp _ _ _ _ hu hn => exact .dp u cs off b o vs h0 (fun j hj => hM _ _ _ hu (h1 j hj)) h2 (fun j hj => ih j hj u (hn _ (getD_mem hj)) (fun u' a x hu' => hM u' a x (fun e => hu (hu' e))))
  | nils => exact fun _ _ _ => .nils
  | data k xs fl b o cap vs h0 h1 h2 h3 h4 h5 h6 ih =>
    exact fun t hn hM => by
      cases hn with
      | data _ _ _ _ hu hn =>
        exact .data k xs fl b o cap vs h0 h1 h2 h3 (fun i j hi hj => hM _ _ _ hu (h4 i j hi hj)) h5
          (fun i j hi hj => ih i j hi hj fl.isTmp (hn _ (getD_mem hi) _ (getD_mem (by rw [h3 i hi]; exact hj))) (fun u' a x hu' => hM u' a x (fun e => hu (hu' e))))
  | view id ver k off len cap l a cv h1 h2 h3 h4 h5 h6 h7 h8 => exact fun t hn _ => by cases hn
  | nilm => exact fun _ _ _ => .nilm
  | map id l h => exact fun t hn _ => by cases hn
  | nilf => exact fun _ _ _ => .nilf
  | func f first caps fs cs h1 h2 h3 h4 ih1 ih2 =>
    exact fun t hn hM => by
      cases hn with
      | func _ _ _ _ n1 n2 => exact .func f first caps fs cs h1 h2 (fun j hj => ih1 j hj t (n1 _ (getD_mem hj)) hM) (fun j hj => ih2 j hj t (n2 _ (getD_mem hj)) hM)
  | nili => exact fun _ _ _ => .nili
  | iface ty p v h ih => exact fun t hn hM => by cases hn with | iface _ _ _ hn => exact .iface ty p v (ih t hn hM)
  | agg cs vs h1 h2 h3 ih => exact fun t hn hM => by cases hn with | agg _ _ hn => exact .agg cs vs h1 h2 (fun j hj => ih j hj t (hn _ (getD_mem hj)) hM)
  | tup cs vs h1 h2 ih => exact fun t hn hM => by cases hn with | tup _ _ hn => exact .tup cs vs h1 (fun j hj => ih j hj t (hn _ (getD_mem hj)) hM)

/-- what may be written -/
inductive Obj where
  | arr (ver k : Nat) (xs : List (List PV))
  | map (es : List (PV × PV × Nat)) (clock : Nat)
  | miter (m : Option Nat) (since : Nat) (seen : List Nat) (stepped : Nat)
  deriving Inhabited

def Obj.ver : Obj → Nat
  | .arr ver _ _ => ver
  | _ => 0

abbrev Heap := List (Nat × Obj)

def Heap.get : Heap → Nat → Option Obj
  | [], _ => none
  | (i, o) :: r, id => if i = id then some o else Heap.get r id

def Heap.set : Heap → Nat → Obj → Heap
  | [], id, o => [(id, o)]
  | (i, x) :: r, id, o => if i = id then (id, o) :: r else (i, x) :: Heap.set r id o

theorem Heap.get_set (H : Heap) (id : Nat) (o : Obj) (j : Nat) : (H.set id o).get j = if id = j then some o else H.get j := by
  induction H with
  | nil => simp [Heap.set, Heap.get]
  | cons x r ih =>
    obtain ⟨i, y⟩ := x
    simp only [Heap.set]
    by_cases h : i = id
    · subst h
      simp only [if_true, Heap.get]
      by_cases h2 : i = j <;> simp [h2]
    · simp only [h, if_false, Heap.get, ih]
      by_cases h2 : i = j
      · subst h2
        simp [Ne.symm h]
      · simp [h2]

theorem Heap.get_set_eq (H : Heap) (id : Nat) (o : Obj) : (H.set id o).get id = some o := by simp [Heap.get_set]
theorem Heap.get_set_ne (H : Heap) {id j : Nat} (o : Obj) (h : id ≠ j) : (H.set id o).get j = H.get j := by simp [Heap.get_set, h]

abbrev Objs := Nat → Option Obj

def Objs.put (G : Objs) (id : Nat) (o : Obj) : Objs := fun j => if id = j then some o else G j

/-- an object lies in memory -/
inductive ObjR (M : Mem) (φ : Places) (id : Nat) (w : World) : Obj → Prop
  | arr (ver k : Nat) (xs : List (List PV)) (l : Loc) (c : Array Value) (T : TypeId) : φ id ver = some l → l.k = k → 0 < k → (∀ v, ver < v → φ id v = none) →
      w.heap[l.block]? = some (.cells c T (0, 0)) → l.tot * k ≤ c.size → l.base + xs.length ≤ l.tot →
      (∀ i, i < xs.length → (xs.getD i []).length = k) →
      (∀ i j, i < xs.length → j < k → one (c.getD ((l.base + i) * k + j) undef) = true) →
      (∀ i j, i < xs.length → j < k → Rv M φ ((xs.getD i []).getD j .any) (c.getD ((l.base + i) * k + j) undef)) →
      ObjR M φ id w (.arr ver k xs)
  | map (es : List (PV × PV × Nat)) (clock : Nat) (l : Loc) (en : Array MapEntry) : φ id 0 = some l → (∀ v, 0 < v → φ id v = none) → w.heap[l.block]? = some (.map en clock) →
      en.size = es.length →
      (∀ j, j < es.length → Rv M φ (es.getD j (.any, .any, 0)).1 (en.getD j default).key ∧ Rv M φ (es.getD j (.any, .any, 0)).2.1 (en.getD j default).val ∧ (es.getD j (.any, .any, 0)).2.2 = (en.getD j default).born) →
      ObjR M φ id w (.map es clock)
  | miter (m : Option Nat) (since : Nat) (seen : List Nat) (stepped : Nat) (l : Loc) (m' : Option Nat) : φ id 0 = some l → (∀ v, 0 < v → φ id v = none) →
      w.heap[l.block]? = some (.mapIter m' since seen.toArray stepped) →
      (m = none → m' = none) ∧ l.base = 0 → (∀ mid, m = some mid → ∃ lm, φ mid 0 = some lm ∧ m' = some lm.block) →
      ObjR M φ id w (.miter m since seen stepped)

/-- block b is an object's -/
def Own (φ : Places) (G : Objs) (b : Nat) : Prop := ∃ id o l, G id = some o ∧ φ id o.ver = some l ∧ l.block = b

/-- the world is what M, φ and G say -/
structure WR (M : Mem) (φ : Places) (G : Objs) (w : World) : Prop where
  mem : ∀ t a v, M t a = some v → w.cell? a = some v
  obj : ∀ id o, G id = some o → ObjR M φ id w o
  inj : ∀ i j x y l m, G i = some x → G j = some y → φ i x.ver = some l → φ j y.ver = some m → l.block = m.block → i = j
  sep : ∀ t a v, M t a = some v → ¬ Own φ G a.block

/-- what one step has made of it -/
structure Ext (M : Mem) (φ : Places) (G : Objs) (n : Nat) (w : World) (M' : Mem) (φ' : Places) (G' : Objs) (n' : Nat) (w' : World) : Prop where
  mem : M.le M'
  places : φ.le φ'
  count : n ≤ n'
  os : w'.os = w.os
  tape : w'.tape = w.tape
  output : w'.output = w.output
  size : w.heap.size ≤ w'.heap.size
  block : ∀ b, b < w.heap.size → ¬ Own φ G b → w'.heap[b]? = w.heap[b]?
  new : ∀ t a v, M' t a = some v → M t a = some v ∨ w.heap.size ≤ a.block ∨ Own φ G a.block
  own : ∀ b, Own φ' G' b → Own φ G b ∨ w.heap.size ≤ b

def Fresh (φ : Places) (n : Nat) : Prop := ∀ id, n ≤ id → ∀ ver, φ id ver = none

theorem Ext.refl (M : Mem) (φ : Places) (G : Objs) (n : Nat) (w : World) : Ext M φ G n w M φ G n w :=
  ⟨.refl M, .refl φ, Nat.le_refl _, rfl, rfl, rfl, Nat.le_refl _, fun _ _ _ => rfl, fun _ _ _ h => .inl h, fun _ h => .inl h⟩

theorem Ext.trans {M₁ M₂ M₃ : Mem} {φ₁ φ₂ φ₃ : Places} {G₁ G₂ G₃ : Objs} {n₁ n₂ n₃ : Nat} {w₁ w₂ w₃ : World}
    (h : Ext M₁ φ₁ G₁ n₁ w₁ M₂ φ₂ G₂ n₂ w₂) (k : Ext M₂ φ₂ G₂ n₂ w₂ M₃ φ₃ G₃ n₃ w₃) : Ext M₁ φ₁ G₁ n₁ w₁ M₃ φ₃ G₃ n₃ w₃ where
  mem := h.mem.trans k.mem
  places := h.places.trans k.places
  count := Nat.le_trans h.count k.count
  os := k.os.trans h.os
  tape := k.tape.trans h.tape
  output := k.output.trans h.output
  size := Nat.le_trans h.size k.size
  block b hb hn := by
    rw [k.block b (Nat.lt_of_lt_of_le hb h.size) (fun ho => (h.own b ho).elim hn (fun hge => by omega)), h.block b hb hn]
  new t a v hv := by
    rcases k.new t a v hv with h1 | h1 | h1
    · exact h.new t a v h1
    · exact .inr (.inl (Nat.le_trans h.size h1))
    · rcases h.own _ h1 with h2 | h2
      · exact .inr (.inr h2)
      · exact .inr (.inl h2)
  own b hb := by
    rcases k.own b hb with h1 | h1
    · exact h.own b h1
    · exact .inr (Nat.le_trans h.size h1)

/-- a draw turns nothing of it -/
theorem WR.world {M : Mem} {φ : Places} {G : Objs} {w w' : World} (h : WR M φ G w) (hh : w'.heap = w.heap) : WR M φ G w' where
  mem t a v hv := by have := h.mem t a v hv; simpa [World.cell?, hh] using this
  obj id o ho := by
    have := h.obj id o ho
    cases this with
    | arr ver k xs l c T h1 h2 h3 h4 h5 h6 h7 h8 h9 h10 => exact .arr ver k xs l c T h1 h2 h3 h4 (hh ▸ h5) h6 h7 h8 h9 h10
    | map es clock l en h1 h2 h3 h4 h5 => exact .map es clock l en h1 h2 (hh ▸ h3) h4 h5
    | miter m since seen stepped l m' h1 h2 h3 h4 h5 => exact .miter m since seen stepped l m' h1 h2 (hh ▸ h3) h4 h5
  inj := h.inj
  sep := h.sep

/-- fewer objects -/
theorem WR.forget {M : Mem} {φ : Places} {G G' : Objs} {w : World} (h : WR M φ G w) (hG : ∀ id o, G' id = some o → G id = some o) : WR M φ G' w where
  mem := h.mem
  obj id o ho := h.obj id o (hG id o ho)
  inj i j x y l m hi hj := h.inj i j x y l m (hG _ _ hi) (hG _ _ hj)
  sep t a v hv := fun ⟨id, o, l, h1, h2, h3⟩ => h.sep t a v hv ⟨id, o, l, hG _ _ h1, h2, h3⟩

theorem ObjR.mono {M M' : Mem} {φ φ' : Places} {id : Nat} {w w' : World} {o : Obj} (h : ObjR M φ id w o) (hM : M.le M') (hφ : φ.le φ')
    (hsame : ∀ l, φ id o.ver = some l → w'.heap[l.block]? = w.heap[l.block]?) (hver : ∀ v, φ id v = none → (φ id o.ver).isSome → φ' id v = none) : ObjR M' φ' id w' o := by
  cases h with
  | arr ver k xs l c T h1 h2 h3 h4 h5 h6 h7 h8 h9 h10 =>
    exact .arr ver k xs l c T (hφ _ _ _ h1) h2 h3 (fun v hv => hver v (h4 v hv) (by simp [Obj.ver, h1])) (by rw [hsame l h1]; exact h5) h6 h7 h8 h9 (fun i j hi hj => (h10 i j hi hj).mono hM hφ)
  | map es clock l en h1 h2 h3 h4 h5 =>
    exact .map es clock l en (hφ _ _ _ h1) (fun v hv => hver v (h2 v hv) (by simp [Obj.ver, h1])) (by rw [hsame l h1]; exact h3) h4
      (fun j hj => ⟨(h5 j hj).1.mono hM hφ, (h5 j hj).2.1.mono hM hφ, (h5 j hj).2.2⟩)
  | miter m since seen stepped l m' h1 h2 h3 h4 h5 =>
    exact .miter m since seen stepped l m' (hφ _ _ _ h1) (fun v hv => hver v (h2 v hv) (by simp [Obj.ver, h1])) (by rw [hsame l h1]; exact h3) h4
      (fun mid hm => by obtain ⟨lm, e1, e2⟩ := h5 mid hm; exact ⟨lm, hφ _ _ _ e1, e2⟩)

end Go.Vm
