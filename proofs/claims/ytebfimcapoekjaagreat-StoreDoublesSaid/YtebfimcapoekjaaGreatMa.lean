/-
  A part of the proof: Va Vb Vc Vd Ve Vf Vg Vh Vi Vj Vk.
-/
import Derived.Calls
import Derived.Below
import Derived.Laws.CopyRow
import Derived.Laws.StructEq
import Derived.Orders
import Derived.ChangeKeysEq
namespace Go.Vm
set_option maxRecDepth 100000
abbrev one (v : Value) : Bool := v.oneCell'
inductive Fl where
  | tmp | part | full
  deriving DecidableEq, Inhabited
def Fl.isTmp : Fl → Bool
  | .tmp => true
  | _ => false
inductive PV : Type where
  | int (k : IntKind) (n : Int)
  | bool (b : Bool)
  | str (s : ByteArray)
  | any
  | nilp
  | ptr (id ver k i off : Nat)
  | dp (t : Bool) (cs : List PV) (off : Nat)
  | nils
  | data (k : Nat) (xs : List (List PV)) (fl : Fl)
  | view (id ver k off len : Nat) (cap : Option Nat)
  | nilm
  | map (id : Nat)
  | nilf
  | func (f : FuncId) (first caps : List PV)
  | nili
  | iface (t : TypeId) (v : PV)
  | agg (cs : List PV)
  | tup (vs : List PV)
  deriving Inhabited
def PV.cells? : PV → Option (List PV)
  | .any | .tup _ => none
  | .agg cs => some cs
  | v => some [v]
structure Loc where
  block : Nat
  base : Nat
  k : Nat
  tot : Nat
abbrev Mem := Bool → Addr → Option Value
abbrev Places := Nat → Nat → Option Loc
def cellOf (b o : Nat) : Addr := ⟨b, o, none⟩
inductive Cl : Bool → PV → Prop
  | int (t : Bool) (k : IntKind) (n : Int) : Cl t (.int k n)
  | bool (t : Bool) (b : Bool) : Cl t (.bool b)
  | str (t : Bool) (s : ByteArray) : Cl t (.str s)
  | any (t : Bool) : Cl t .any
  | nilp (t : Bool) : Cl t .nilp
  | dp (t u : Bool) (cs : List PV) (off : Nat) : (u = true → t = true) → (∀ c ∈ cs, Cl u c) → Cl t (.dp u cs off)
  | nils (t : Bool) : Cl t .nils
  | data (t : Bool) (k : Nat) (xs : List (List PV)) (fl : Fl) : (fl.isTmp = true → t = true) → (∀ x ∈ xs, ∀ c ∈ x, Cl fl.isTmp c) → Cl t (.data k xs fl)
  | nilm (t : Bool) : Cl t .nilm
  | nilf (t : Bool) : Cl t .nilf
  | func (t : Bool) (f : FuncId) (first caps : List PV) : (∀ c ∈ first, Cl t c) → (∀ c ∈ caps, Cl t c) → Cl t (.func f first caps)
  | nili (t : Bool) : Cl t .nili
  | iface (t : Bool) (ty : TypeId) (v : PV) : Cl t v → Cl t (.iface ty v)
  | agg (t : Bool) (cs : List PV) : (∀ c ∈ cs, Cl t c) → Cl t (.agg cs)
  | tup (t : Bool) (cs : List PV) : (∀ c ∈ cs, Cl t c) → Cl t (.tup cs)
inductive Rv (M : Mem) (φ : Places) : PV → Value → Prop
  | int (k : IntKind) (n : Int) : Rv M φ (.int k n) (.int k n)
  | bool (b : Bool) : Rv M φ (.bool b) (.bool b)
  | str (s : ByteArray) : Rv M φ (.str s) (.string s)
  | any (v : Value) : Rv M φ .any v
  | nilp : Rv M φ .nilp (.pointer none)
  | ptr (id ver k i off : Nat) (l : Loc) : φ id ver = some l → l.k = k →
      Rv M φ (.ptr id ver k i off) (.pointer (some (cellOf l.block ((l.base + i) * k + off))))
  | dp (t : Bool) (cs : List PV) (off b o : Nat) (vs : Nat → Value) : (∀ c ∈ cs, Cl t c) → (∀ j, j < cs.length → M t (cellOf b (o + j)) = some (vs j)) →
      (∀ j, j < cs.length → one (vs j) = true) → (∀ j, j < cs.length → Rv M φ (cs.getD j .any) (vs j)) →
      Rv M φ (.dp t cs off) (.pointer (some (cellOf b (o + off))))
  | nils : Rv M φ .nils (.slice none 0 0)
  | data (k : Nat) (xs : List (List PV)) (fl : Fl) (b o cap : Nat) (vs : Nat → Nat → Value) : (∀ x ∈ xs, ∀ c ∈ x, Cl fl.isTmp c) → xs.length ≤ cap → (fl = .full → cap = xs.length) →
      (∀ i, i < xs.length → (xs.getD i []).length = k) →
      (∀ i j, i < xs.length → j < k → M fl.isTmp (cellOf b (o + (i * k + j))) = some (vs i j)) →
      (∀ i j, i < xs.length → j < k → one (vs i j) = true) →
      (∀ i j, i < xs.length → j < k → Rv M φ ((xs.getD i []).getD j .any) (vs i j)) →
      Rv M φ (.data k xs fl) (.slice (some (cellOf b o)) xs.length cap)
  | view (id ver k off len : Nat) (cap : Option Nat) (l : Loc) (a : Addr) (cv : Nat) : φ id ver = some l → l.k = k → len ≤ cv →
      (∀ c, cap = some c → cv = c) → (cap = none → cv = l.tot - (l.base + off)) → (cv ≠ 0 → a = cellOf l.block ((l.base + off) * k)) → l.base + off + cv ≤ l.tot → a.spot = none →
      Rv M φ (.view id ver k off len cap) (.slice (some a) len cv)
  | nilm : Rv M φ .nilm (.map none)
  | map (id : Nat) (l : Loc) : φ id 0 = some l → Rv M φ (.map id) (.map (some l.block))
  | nilf : Rv M φ .nilf .nilFunc
  | func (f : FuncId) (first caps : List PV) (fs cs : Array Value) : fs.size = first.length → cs.size = caps.length →
      (∀ j, j < first.length → Rv M φ (first.getD j .any) (fs.getD j undef)) → (∀ j, j < caps.length → Rv M φ (caps.getD j .any) (cs.getD j undef)) →
      Rv M φ (.func f first caps) (.func (.func f) fs cs)
  | nili : Rv M φ .nili .nilIface
  | iface (t : TypeId) (p : PV) (v : Value) : Rv M φ p v → Rv M φ (.iface t p) (.iface t v)
  | agg (cs : List PV) (vs : Array Value) : vs.size = cs.length → (∀ j, j < cs.length → one (vs.getD j undef) = true) →
      (∀ j, j < cs.length → Rv M φ (cs.getD j .any) (vs.getD j undef)) → Rv M φ (.agg cs) (.agg vs)
  | tup (cs : List PV) (vs : Array Value) : vs.size = cs.length →
      (∀ j, j < cs.length → Rv M φ (cs.getD j .any) (vs.getD j undef)) → Rv M φ (.tup cs) (.tuple vs)
def RvL (M : Mem) (φ : Places) (cs : List PV) (vs : Array Value) : Prop :=
  vs.size = cs.length ∧ ∀ j, j < cs.length → Rv M φ (cs.getD j .any) (vs.getD j undef)
def Mem.le (M M' : Mem) : Prop := ∀ t a v, M t a = some v → M' t a = some v
def Places.le (φ φ' : Places) : Prop := ∀ id ver l, φ id ver = some l → φ' id ver = some l
theorem Mem.le.refl (M : Mem) : M.le M := fun _ _ _ h => h
theorem Mem.le.trans {A B C : Mem} (h : A.le B) (k : B.le C) : A.le C := fun t a v e => k t a v (h t a v e)
theorem Places.le.refl (φ : Places) : φ.le φ := fun _ _ _ h => h
theorem Places.le.trans {A B C : Places} (h : A.le B) (k : B.le C) : A.le C := fun i j l e => k i j l (h i j l e)
theorem Rv.mono {M M' : Mem} {φ φ' : Places} (hM : M.le M') (hφ : φ.le φ') {p : PV} {v : Value} (h : Rv M φ p v) : Rv M' φ' p v := by
  induction h with
  | int k n => exact .int k n
  | bool b => exact .bool b
  | str s => exact .str s
  | any v => exact .any v
  | nilp => exact .nilp
  | ptr id ver k i off l h hk => exact .ptr id ver k i off l (hφ _ _ _ h) hk
  | dp t cs off b o vs h0 h1 h2 h3 ih => exact .dp t cs off b o vs h0 (fun j hj => hM _ _ _ (h1 j hj)) h2 ih
  | nils => exact .nils
  | data k xs fl b o cap vs h0 h1 h2 h3 h4 h5 h6 ih => exact .data k xs fl b o cap vs h0 h1 h2 h3 (fun i j hi hj => hM _ _ _ (h4 i j hi hj)) h5 ih
  | view id ver k off len cap l a cv h1 h2 h3 h4 h5 h6 h7 h8 => exact .view id ver k off len cap l a cv (hφ _ _ _ h1) h2 h3 h4 h5 h6 h7 h8
  | nilm => exact .nilm
  | map id l h => exact .map id l (hφ _ _ _ h)
  | nilf => exact .nilf
  | func f first caps fs cs h1 h2 h3 h4 ih1 ih2 => exact .func f first caps fs cs h1 h2 ih1 ih2
  | nili => exact .nili
  | iface t p v h ih => exact .iface t p v ih
  | agg cs vs h1 h2 h3 ih => exact .agg cs vs h1 h2 ih
  | tup cs vs h1 h2 ih => exact .tup cs vs h1 ih
theorem RvL.mono {M M' : Mem} {φ φ' : Places} (hM : M.le M') (hφ : φ.le φ') {cs : List PV} {vs : Array Value} (h : RvL M φ cs vs) : RvL M' φ' cs vs :=
  ⟨h.1, fun j hj => (h.2 j hj).mono hM hφ⟩
theorem cellOf_eta {a : Addr} (h : a.spot = none) : a = cellOf a.block a.off := by cases a; simp_all [cellOf]
theorem Cl.weaken {p : PV} (h : Cl false p) : Cl true p := by
  generalize hf : false = t at h
  induction h with
  | int => exact .int _ _ _
  | bool => exact .bool _ _
  | str => exact .str _ _
  | any => exact .any _
  | nilp => exact .nilp _
  | dp t u cs off h1 h2 ih => exact .dp true u cs off (fun _ => rfl) h2
  | nils => exact .nils _
  | data t k xs fl h1 h2 ih => exact .data true k xs fl (fun _ => rfl) h2
  | nilm => exact .nilm _
  | nilf => exact .nilf _
  | func t f first caps h1 h2 ih1 ih2 => exact .func true f first caps (fun c hc => ih1 c hc hf) (fun c hc => ih2 c hc hf)
  | nili => exact .nili _
  | iface t ty v h ih => exact .iface true ty v (ih hf)
  | agg t cs h ih => exact .agg true cs (fun c hc => ih c hc hf)
  | tup t cs h ih => exact .tup true cs (fun c hc => ih c hc hf)
theorem getD_mem {α : Type} {l : List α} {j : Nat} {d : α} (h : j < l.length) : l.getD j d ∈ l := by
  rw [List.getD_eq_getElem?_getD, List.getElem?_eq_getElem h]; exact List.getElem_mem h
theorem Rv.clean {M M' : Mem} {φ φ' : Places} {p : PV} {v : Value} (h : Rv M φ p v) : ∀ t, Cl t p → (∀ u a x, (u = true → t = true) → M u a = some x → M' u a = some x) → Rv M' φ' p v := by
  induction h with
  | int k n => exact fun _ _ _ => .int k n
  | bool b => exact fun _ _ _ => .bool b
  | str s => exact fun _ _ _ => .str s
  | any v => exact fun _ _ _ => .any v
  | nilp => exact fun _ _ _ => .nilp
  | ptr id ver k i off l h hk => exact fun t hn _ => by cases hn
  | dp u cs off b o vs h0 h1 h2 h3 ih =>
    exact fun t hn hM => by
      cases hn with
      | dp _ _ _ _ hu hn => exact .dp u cs off b o vs h0 (fun j hj => hM _ _ _ hu (h1 j hj)) h2 (fun j hj => ih j hj u (hn _ (getD_mem hj)) (fun u' a x hu' => hM u' a x (fun e => hu (hu' e))))
  | nils => exact fun _ _ _ => .nils
  | data k xs fl b o cap vs h0 h1 h2 h3 h4 h5 h6 ih =>
    exact fun t hn hM => by
      cases hn with
      | data _ _ _ _ hu hn =>
        exact .data k xs fl b o cap vs h0 h1 h2 h3 (fun i j hi hj => hM _ _ _ hu (h4 i j hi hj)) h5
          (fun i j hi hj => ih i j hi hj fl.isTmp (hn _ (getD_mem hi) _ (getD_mem (by rw [h3 i hi]; exact hj))) (fun u' a x hu' => hM u' a x (fun e => hu (hu' e))))
  | view id ver k off len cap l a cv h1 h2 h3 h4 h5 h6 h7 h8 => exact fun t hn _ => by cases hn
  | nilm => exact fun _ _ _ => .nilm
  | map id l h => exact fun t hn _ => by cases hn
  | nilf => exact fun _ _ _ => .nilf
  | func f first caps fs cs h1 h2 h3 h4 ih1 ih2 =>
    exact fun t hn hM => by
      cases hn with
      | func _ _ _ _ n1 n2 => exact .func f first caps fs cs h1 h2 (fun j hj => ih1 j hj t (n1 _ (getD_mem hj)) hM) (fun j hj => ih2 j hj t (n2 _ (getD_mem hj)) hM)
  | nili => exact fun _ _ _ => .nili
  | iface ty p v h ih => exact fun t hn hM => by cases hn with | iface _ _ _ hn => exact .iface ty p v (ih t hn hM)
  | agg cs vs h1 h2 h3 ih => exact fun t hn hM => by cases hn with | agg _ _ hn => exact .agg cs vs h1 h2 (fun j hj => ih j hj t (hn _ (getD_mem hj)) hM)
  | tup cs vs h1 h2 ih => exact fun t hn hM => by cases hn with | tup _ _ hn => exact .tup cs vs h1 (fun j hj => ih j hj t (hn _ (getD_mem hj)) hM)
inductive Obj where
  | arr (ver k : Nat) (xs : List (List PV))
  | map (es : List (PV × PV × Nat)) (clock : Nat)
  | miter (m : Option Nat) (since : Nat) (seen : List Nat) (stepped : Nat)
  deriving Inhabited
def Obj.ver : Obj → Nat
  | .arr ver _ _ => ver
  | _ => 0
abbrev Heap := List (Nat × Obj)
def Heap.get : Heap → Nat → Option Obj
  | [], _ => none
  | (i, o) :: r, id => if i = id then some o else Heap.get r id
def Heap.set : Heap → Nat → Obj → Heap
  | [], id, o => [(id, o)]
  | (i, x) :: r, id, o => if i = id then (id, o) :: r else (i, x) :: Heap.set r id o
theorem Heap.get_set (H : Heap) (id : Nat) (o : Obj) (j : Nat) : (H.set id o).get j = if id = j then some o else H.get j := by
  induction H with
  | nil => simp [Heap.set, Heap.get]
  | cons x r ih =>
    obtain ⟨i, y⟩ := x
    simp only [Heap.set]
    by_cases h : i = id
    · subst h
      simp only [if_true, Heap.get]
      by_cases h2 : i = j <;> simp [h2]
    · simp only [h, if_false, Heap.get, ih]
      by_cases h2 : i = j
      · subst h2
        simp [Ne.symm h]
      · simp [h2]
theorem Heap.get_set_eq (H : Heap) (id : Nat) (o : Obj) : (H.set id o).get id = some o := by simp [Heap.get_set]
theorem Heap.get_set_ne (H : Heap) {id j : Nat} (o : Obj) (h : id ≠ j) : (H.set id o).get j = H.get j := by simp [Heap.get_set, h]
abbrev Objs := Nat → Option Obj
def Objs.put (G : Objs) (id : Nat) (o : Obj) : Objs := fun j => if id = j then some o else G j
inductive ObjR (M : Mem) (φ : Places) (id : Nat) (w : World) : Obj → Prop
  | arr (ver k : Nat) (xs : List (List PV)) (l : Loc) (c : Array Value) (T : TypeId) : φ id ver = some l → l.k = k → 0 < k → (∀ v, ver < v → φ id v = none) →
      w.heap[l.block]? = some (.cells c T (0, 0)) → l.tot * k ≤ c.size → l.base + xs.length ≤ l.tot →
      (∀ i, i < xs.length → (xs.getD i []).length = k) →
      (∀ i j, i < xs.length → j < k → one (c.getD ((l.base + i) * k + j) undef) = true) →
      (∀ i j, i < xs.length → j < k → Rv M φ ((xs.getD i []).getD j .any) (c.getD ((l.base + i) * k + j) undef)) →
      ObjR M φ id w (.arr ver k xs)
  | map (es : List (PV × PV × Nat)) (clock : Nat) (l : Loc) (en : Array MapEntry) : φ id 0 = some l → (∀ v, 0 < v → φ id v = none) → w.heap[l.block]? = some (.map en clock) →
      en.size = es.length →
      (∀ j, j < es.length → Rv M φ (es.getD j (.any, .any, 0)).1 (en.getD j default).key ∧ Rv M φ (es.getD j (.any, .any, 0)).2.1 (en.getD j default).val ∧ (es.getD j (.any, .any, 0)).2.2 = (en.getD j default).born) →
      ObjR M φ id w (.map es clock)
  | miter (m : Option Nat) (since : Nat) (seen : List Nat) (stepped : Nat) (l : Loc) (m' : Option Nat) : φ id 0 = some l → (∀ v, 0 < v → φ id v = none) →
      w.heap[l.block]? = some (.mapIter m' since seen.toArray stepped) →
      (m = none → m' = none) ∧ l.base = 0 → (∀ mid, m = some mid → ∃ lm, φ mid 0 = some lm ∧ m' = some lm.block) →
      ObjR M φ id w (.miter m since seen stepped)
def Own (φ : Places) (G : Objs) (b : Nat) : Prop := ∃ id o l, G id = some o ∧ φ id o.ver = some l ∧ l.block = b
structure WR (M : Mem) (φ : Places) (G : Objs) (w : World) : Prop where
  mem : ∀ t a v, M t a = some v → w.cell? a = some v
  obj : ∀ id o, G id = some o → ObjR M φ id w o
  inj : ∀ i j x y l m, G i = some x → G j = some y → φ i x.ver = some l → φ j y.ver = some m → l.block = m.block → i = j
  sep : ∀ t a v, M t a = some v → ¬ Own φ G a.block
structure Ext (M : Mem) (φ : Places) (G : Objs) (n : Nat) (w : World) (M' : Mem) (φ' : Places) (G' : Objs) (n' : Nat) (w' : World) : Prop where
  mem : M.le M'
  places : φ.le φ'
  count : n ≤ n'
  os : w'.os = w.os
  tape : w'.tape = w.tape
  output : w'.output = w.output
  size : w.heap.size ≤ w'.heap.size
  block : ∀ b, b < w.heap.size → ¬ Own φ G b → w'.heap[b]? = w.heap[b]?
  new : ∀ t a v, M' t a = some v → M t a = some v ∨ w.heap.size ≤ a.block ∨ Own φ G a.block
  own : ∀ b, Own φ' G' b → Own φ G b ∨ w.heap.size ≤ b
def Fresh (φ : Places) (n : Nat) : Prop := ∀ id, n ≤ id → ∀ ver, φ id ver = none
theorem Ext.refl (M : Mem) (φ : Places) (G : Objs) (n : Nat) (w : World) : Ext M φ G n w M φ G n w :=
  ⟨.refl M, .refl φ, Nat.le_refl _, rfl, rfl, rfl, Nat.le_refl _, fun _ _ _ => rfl, fun _ _ _ h => .inl h, fun _ h => .inl h⟩
theorem Ext.trans {M₁ M₂ M₃ : Mem} {φ₁ φ₂ φ₃ : Places} {G₁ G₂ G₃ : Objs} {n₁ n₂ n₃ : Nat} {w₁ w₂ w₃ : World}
    (h : Ext M₁ φ₁ G₁ n₁ w₁ M₂ φ₂ G₂ n₂ w₂) (k : Ext M₂ φ₂ G₂ n₂ w₂ M₃ φ₃ G₃ n₃ w₃) : Ext M₁ φ₁ G₁ n₁ w₁ M₃ φ₃ G₃ n₃ w₃ where
  mem := h.mem.trans k.mem
  places := h.places.trans k.places
  count := Nat.le_trans h.count k.count
  os := k.os.trans h.os
  tape := k.tape.trans h.tape
  output := k.output.trans h.output
  size := Nat.le_trans h.size k.size
  block b hb hn := by
    rw [k.block b (Nat.lt_of_lt_of_le hb h.size) (fun ho => (h.own b ho).elim hn (fun hge => by omega)), h.block b hb hn]
  new t a v hv := by
    rcases k.new t a v hv with h1 | h1 | h1
    · exact h.new t a v h1
    · exact .inr (.inl (Nat.le_trans h.size h1))
    · rcases h.own _ h1 with h2 | h2
      · exact .inr (.inr h2)
      · exact .inr (.inl h2)
  own b hb := by
    rcases k.own b hb with h1 | h1
    · exact h.own b h1
    · exact .inr (Nat.le_trans h.size h1)
theorem WR.world {M : Mem} {φ : Places} {G : Objs} {w w' : World} (h : WR M φ G w) (hh : w'.heap = w.heap) : WR M φ G w' where
  mem t a v hv := by have := h.mem t a v hv; simpa [World.cell?, hh] using this
  obj id o ho := by
    have := h.obj id o ho
    cases this with
    | arr ver k xs l c T h1 h2 h3 h4 h5 h6 h7 h8 h9 h10 => exact .arr ver k xs l c T h1 h2 h3 h4 (hh ▸ h5) h6 h7 h8 h9 h10
    | map es clock l en h1 h2 h3 h4 h5 => exact .map es clock l en h1 h2 (hh ▸ h3) h4 h5
    | miter m since seen stepped l m' h1 h2 h3 h4 h5 => exact .miter m since seen stepped l m' h1 h2 (hh ▸ h3) h4 h5
  inj := h.inj
  sep := h.sep
theorem WR.forget {M : Mem} {φ : Places} {G G' : Objs} {w : World} (h : WR M φ G w) (hG : ∀ id o, G' id = some o → G id = some o) : WR M φ G' w where
  mem := h.mem
  obj id o ho := h.obj id o (hG id o ho)
  inj i j x y l m hi hj := h.inj i j x y l m (hG _ _ hi) (hG _ _ hj)
  sep t a v hv := fun ⟨id, o, l, h1, h2, h3⟩ => h.sep t a v hv ⟨id, o, l, hG _ _ h1, h2, h3⟩
theorem ObjR.mono {M M' : Mem} {φ φ' : Places} {id : Nat} {w w' : World} {o : Obj} (h : ObjR M φ id w o) (hM : M.le M') (hφ : φ.le φ')
    (hsame : ∀ l, φ id o.ver = some l → w'.heap[l.block]? = w.heap[l.block]?) (hver : ∀ v, φ id v = none → (φ id o.ver).isSome → φ' id v = none) : ObjR M' φ' id w' o := by
  cases h with
  | arr ver k xs l c T h1 h2 h3 h4 h5 h6 h7 h8 h9 h10 =>
    exact .arr ver k xs l c T (hφ _ _ _ h1) h2 h3 (fun v hv => hver v (h4 v hv) (by simp [Obj.ver, h1])) (by rw [hsame l h1]; exact h5) h6 h7 h8 h9 (fun i j hi hj => (h10 i j hi hj).mono hM hφ)
  | map es clock l en h1 h2 h3 h4 h5 =>
    exact .map es clock l en (hφ _ _ _ h1) (fun v hv => hver v (h2 v hv) (by simp [Obj.ver, h1])) (by rw [hsame l h1]; exact h3) h4
      (fun j hj => ⟨(h5 j hj).1.mono hM hφ, (h5 j hj).2.1.mono hM hφ, (h5 j hj).2.2⟩)
  | miter m since seen stepped l m' h1 h2 h3 h4 h5 =>
    exact .miter m since seen stepped l m' (hφ _ _ _ h1) (fun v hv => hver v (h2 v hv) (by simp [Obj.ver, h1])) (by rw [hsame l h1]; exact h3) h4
      (fun mid hm => by obtain ⟨lm, e1, e2⟩ := h5 mid hm; exact ⟨lm, hφ _ _ _ e1, e2⟩)
inductive Src where
  | x (p : Nat)
  | t (j : Nat)
  | c (v : PV)
  deriving Inhabited
def Src.ev (S T : List PV) : Src → PV
  | .x p => S.getD p .any
  | .t j => T.getD j .any
  | .c v => v
inductive CK where
  | int | str | bool
  | arr (n : Nat)
  deriving DecidableEq, Inhabited
inductive LK where
  | slice | str | map
  deriving DecidableEq, Inhabited
inductive EqK where
  | bool | slice | map | func | ptr
  deriving DecidableEq, Inhabited
inductive IOp where
  | bad
  | mv (x : Src)
  | pick (c a b : Src)
  | box (obj : Bool) (x : Src)
  | build (zero : List PV) (parts : List (Nat × Nat × Src))
  | bslice (obj : Bool) (k : Nat) (zero : List PV) (len : Nat) (parts : List (Nat × Src))
  | load (agg : Bool) (size : Nat) (a : Src)
  | store (size : Nat) (a v : Src)
  | nilChk (x : Src)
  | bin (op : BinOp) (x y : Src)
  | eqK (kd : EqK) (neg : Bool) (x y : Src)
  | eqAgg (ks : List CK) (neg : Bool) (x y : Src)
  | un (op : UnOp) (x : Src)
  | conv (k : IntKind) (x : Src)
  | mkIface (t : TypeId) (x : Src)
  | mkFunc (f : FuncId) (first caps : List Src)
  | mkMap
  | mkSlice (k bytes : Nat) (zero : List PV) (len cap : Src)
  | slice (k : Nat) (x : Src) (lo hi mx : Option Src)
  | substr (x : Src) (lo hi : Option Src)
  | fieldAddr (off : Nat) (x : Src)
  | field (agg : Bool) (off size : Nat) (x : Src)
  | idxAddr (k : Nat) (x i : Src)
  | idxArr (len k : Nat) (x i : Src)
  | idxStr (x i : Src)
  | lookup (ck : CK) (zero : PV) (x key : Src) (commaOk : Bool)
  | mapSet (ck : CK) (m k v : Src)
  | mapEntry (ck : CK) (zero : PV) (m k : Src)
  | entrySet (m s v : Src)
  | range (m : Src)
  | next (it : Src)
  | tassert (t : TypeId) (zero : PV) (x : Src) (commaOk : Bool)
  | extract (x : Src) (i : Nat)
  | len (k : LK) (x : Src)
  | capo (x : Src)
  | append (k bytes : Nat) (s x : Src)
  | copy (k : Nat) (d s : Src)
  | clear (k : Nat) (zero : List PV) (x : Src)
  | minmax (mx : Bool) (xs : List Src)
  | call (mode : Nat) (f : Src) (args : List Src)
  | invoke (mode : Nat) (tbl : List (TypeId × FuncId)) (recv : Src) (args : List Src)
  deriving Inhabited
structure Fp where
  rd : List Nat
  wr : List Nat
  all : Bool
def Fp.no : Fp := ⟨[], [], false⟩
def Fp.apart (a b : Fp) : Bool :=
  (!a.all || (b.rd.isEmpty && b.wr.isEmpty && !b.all)) && (!b.all || (a.rd.isEmpty && a.wr.isEmpty)) &&
  a.wr.all (fun i => !b.rd.contains i && !b.wr.contains i) && b.wr.all (fun i => !a.rd.contains i)
structure Res where
  v : PV
  H : Heap
  n : Nat
  fp : Fp
abbrev CallF := FuncId → List PV → Heap → Nat → Option (PV × Heap × Nat)
def partAt (agg : Bool) (cs : List PV) (off size : Nat) : Option PV :=
  if off + size ≤ cs.length then (if agg then some (.agg ((cs.drop off).take size)) else if size = 1 then some (cs.getD off .any) else none) else none
def splice (l : List PV) (off : Nat) (cs : List PV) : List PV := l.take off ++ (cs ++ l.drop (off + cs.length))
def fillP (ρ : Src → PV) : List (Nat × Nat × Src) → List PV → Option (List PV)
  | [], cs => some cs
  | (off, size, x) :: r, cs =>
    match (ρ x).cells? with
    | some vs => if vs.length = size ∧ off + size ≤ cs.length then fillP ρ r (splice cs off vs) else none
    | none => none
def fillS (ρ : Src → PV) (k : Nat) : List (Nat × Src) → List (List PV) → Option (List (List PV))
  | [], xs => some xs
  | (i, x) :: r, xs =>
    match (ρ x).cells? with
    | some vs => if vs.length = k ∧ i < xs.length then fillS ρ k r (xs.set i vs) else none
    | none => none
def flat : PV → Bool
  | .int .. | .bool _ | .str _ | .nilp | .nils | .nilm | .nilf | .nili => true
  | .func _ [] [] => true
  | .dp u _ _ => !u
  | .data _ _ fl => !fl.isTmp
  | _ => false
def flatT : PV → Bool
  | .int .. | .bool _ | .str _ | .nilp | .nils | .nilm | .nilf | .nili | .any => true
  | .func _ [] [] => true
  | .dp _ _ _ => true
  | .data _ _ _ => true
  | _ => false
mutual
def thaw (t : Bool) (H : Heap) : Nat → PV → Option (PV × List Nat)
  | 0, _ => none
  | d + 1, p =>
    match p with
    | .view id ver k off len cap =>
      match H.get id with
      | some (.arr ver' k' xs) =>
        if ver = ver' ∧ k = k' ∧ off + len ≤ xs.length then
          match thawLL t H d ((xs.drop off).take len) with
          | some (ys, is) => some (.data k ys (if t then .tmp else if cap = some len then .full else .part), id :: is)
          | none => none
        else none
      | _ => none
    | .ptr id ver k i off =>
      match H.get id with
      | some (.arr ver' k' xs) =>
        if ver = ver' ∧ k = k' ∧ i < xs.length then
          match thawL t H d (xs.getD i []) with
          | some (ys, is) => some (.dp t ys off, id :: is)
          | none => none
        else none
      | _ => none
    | .map _ => if t then some (.any, []) else none
    | .func f first caps =>
      match thawL t H d first, thawL t H d caps with
      | some (a, is), some (b, js) => some (.func f a b, is ++ js)
      | _, _ => none
    | .iface ty v =>
      match thaw t H d v with
      | some (x, is) => some (.iface ty x, is)
      | none => none
    | .agg cs =>
      match thawL t H d cs with
      | some (ys, is) => some (.agg ys, is)
      | none => none
    | .tup cs =>
      match thawL t H d cs with
      | some (ys, is) => some (.tup ys, is)
      | none => none
    | .dp u _ _ => if !u || t then some (p, []) else none
    | .data _ _ fl => if !fl.isTmp || t then some (p, []) else none
    | _ => some (p, [])
def thawL (t : Bool) (H : Heap) : Nat → List PV → Option (List PV × List Nat)
  | 0, _ => none
  | d + 1, l =>
    if l.all flat then some (l, []) else
    match l with
    | [] => some ([], [])
    | p :: r =>
      match thaw t H d p, thawL t H d r with
      | some (x, is), some (xs, js) => some (x :: xs, is ++ js)
      | _, _ => none
def thawLL (t : Bool) (H : Heap) : Nat → List (List PV) → Option (List (List PV) × List Nat)
  | 0, _ => none
  | d + 1, l =>
    if l.all (fun x => x.all flat) then some (l, []) else
    match l with
    | [] => some ([], [])
    | p :: r =>
      match thawL t H d p, thawLL t H d r with
      | some (x, is), some (xs, js) => some (x :: xs, is ++ js)
      | _, _ => none
end
def deep : Nat := 4096
def dropIds (H : Heap) (is : List Nat) : Heap := H.filter fun x => !is.contains x.1
def shiftV (op : BinOp) (k : IntKind) (x y : Int) : Option PV :=
  if y < 0 then none else
    match op with
    | .shl => some (.int k (k.wrap (x * 2 ^ min y.toNat k.bits)))
    | .shr => some (.int k (x.fdiv (2 ^ min y.toNat k.bits)))
    | _ => none
def intV (op : BinOp) (k : IntKind) (a b : Int) : Option PV :=
  match op with
  | .add => some (.int k (k.wrap (a + b)))
  | .sub => some (.int k (k.wrap (a - b)))
  | .mul => some (.int k (k.wrap (a * b)))
  | .quo => if b = 0 then none else some (.int k (k.wrap (a.tdiv b)))
  | .rem => if b = 0 then none else some (.int k (a.tmod b))
  | .and => some (.int k (k.wrap (BitVec.ofInt k.bits a &&& BitVec.ofInt k.bits b).toNat))
  | .or => some (.int k (k.wrap (BitVec.ofInt k.bits a ||| BitVec.ofInt k.bits b).toNat))
  | .xor => some (.int k (k.wrap (BitVec.ofInt k.bits a ^^^ BitVec.ofInt k.bits b).toNat))
  | .andNot => some (.int k (k.wrap (BitVec.ofInt k.bits a &&& ~~~ BitVec.ofInt k.bits b).toNat))
  | .eql => some (.bool (a == b))
  | .neq => some (.bool (a != b))
  | .lss => some (.bool (decide (a < b)))
  | .leq => some (.bool (decide (a ≤ b)))
  | .gtr => some (.bool (decide (a > b)))
  | .geq => some (.bool (decide (a ≥ b)))
  | _ => none
def strV (op : BinOp) (a b : ByteArray) : Option PV :=
  match op with
  | .eql => some (.bool (a.toList == b.toList))
  | .neq => some (.bool (!(a.toList == b.toList)))
  | .lss => some (.bool (Op.bytesLess a.toList b.toList))
  | .gtr => some (.bool (!(Op.bytesLess a.toList b.toList || a.toList == b.toList)))
  | .leq => some (.bool (Op.bytesLess a.toList b.toList || a.toList == b.toList))
  | .geq => some (.bool (!Op.bytesLess a.toList b.toList))
  | _ => none
def nilEq : EqK → PV → PV → Option Bool
  | .bool, .bool a, .bool b => some (a == b)
  | .slice, .nils, .nils => some true
  | .slice, .nils, .data .. | .slice, .nils, .view .. | .slice, .data .., .nils | .slice, .view .., .nils => some false
  | .map, .nilm, .nilm => some true
  | .map, .nilm, .map _ | .map, .map _, .nilm => some false
  | .func, .nilf, .nilf => some true
  | .func, .nilf, .func .. | .func, .func .., .nilf => some false
  | .ptr, .nilp, .nilp => some true
  | .ptr, .nilp, .ptr .. | .ptr, .nilp, .dp .. | .ptr, .ptr .., .nilp | .ptr, .dp .., .nilp => some false
  | _, _, _ => none
def binV (op : BinOp) (a b : PV) : Option PV :=
  match a, b with
  | .int k x, .int k' y =>
    match op with
    | .shl | .shr => shiftV op k x y
    | _ => if k = k' then intV op k x y else none
  | .str x, .str y => strV op x y
  | _, _ => none
def unV (op : UnOp) (x : PV) : Option PV :=
  match op, x with
  | .neg, .int k n => some (.int k (k.wrap (0 - n)))
  | .xor, .int k n => some (.int k (k.wrap (BitVec.ofInt k.bits (if k.signed then -1 else k.max) ^^^ BitVec.ofInt k.bits n).toNat))
  | .not, .bool b => some (.bool !b)
  | _, _ => none
def cellsEq : List CK → List PV → List PV → Option Bool
  | [], [], [] => some true
  | .int :: ks, .int k a :: r, .int k' b :: s => if k = k' then (if a == b then cellsEq ks r s else some false) else none
  | .str :: ks, .str a :: r, .str b :: s => if a == b then cellsEq ks r s else some false
  | .bool :: ks, .bool a :: r, .bool b :: s => if a == b then cellsEq ks r s else some false
  | _, _, _ => none
def keyEq : CK → PV → PV → Option Bool
  | .int, .int k a, .int k' b => if k = k' then some (a == b) else none
  | .str, .str a, .str b => some (a == b)
  | .bool, .bool a, .bool b => some (a == b)
  | .arr n, .agg a, .agg b => if a.length = n ∧ b.length = n then cellsEq (List.replicate n .int) a b else none
  | _, _, _ => none
def findKey (ck : CK) (k : PV) : List (PV × PV × Nat) → Nat → Option (Option Nat)
  | [], _ => some none
  | e :: es, i =>
    match keyEq ck k e.1 with
    | some true => some (some i)
    | some false => findKey ck k es (i + 1)
    | none => none
def keyOk : CK → PV → Bool
  | .arr n, .agg a => a.length == n && a.all fun | .int .. => true | _ => false
  | .arr _, _ => false
  | _, _ => true
def findIn (ck : CK) (k : PV) (es : List (PV × PV × Nat)) : Option (Option Nat) := if keyOk ck k then findKey ck k es 0 else none
def elems (H : Heap) : PV → Option (Nat × List (List PV) × List Nat)
  | .data k xs _ => some (k, xs, [])
  | .view id ver k off len _ =>
    match H.get id with
    | some (.arr ver' k' xs) => if ver = ver' ∧ k = k' ∧ off + len ≤ xs.length then some (k, (xs.drop off).take len, [id]) else none
    | _ => none
  | _ => none
def lenV : PV → Option Nat
  | .nils => some 0
  | .data _ xs _ => some xs.length
  | .view _ _ _ _ len _ => some len
  | .str s => some s.size
  | _ => none
def room : Nat := 140737488355328
def intOf? : PV → Option Int
  | .int _ n => some n
  | _ => none
def bound (ρ : Src → PV) (d : Nat) : Option Src → Option Nat
  | none => some d
  | some x =>
    match ρ x with
    | .int _ n => if 0 ≤ n then some n.toNat else none
    | _ => none
def Fl.sub (fl : Fl) (last : Bool) : Fl :=
  match fl with
  | .full => if last then .full else .part
  | f => f
def Fl.cut (fl : Fl) (exact : Bool) : Fl :=
  match fl with
  | .tmp => .tmp
  | _ => if exact then .full else .part
def sliceV (k : Nat) (x : PV) (lo hi : Nat) (mx : Option Nat) : Option PV :=
  match x with
  | .nils => if lo = 0 ∧ hi = 0 ∧ (mx = none ∨ mx = some 0) then some .nils else none
  | .data k' xs fl =>
    if k = k' ∧ lo ≤ hi ∧ hi ≤ xs.length then
      match mx with
      | none => some (.data k ((xs.drop lo).take (hi - lo)) (fl.sub (hi == xs.length)))
      | some m => if hi ≤ m ∧ m ≤ xs.length then some (.data k ((xs.drop lo).take (hi - lo)) (fl.cut (m == hi))) else none
    else none
  | .view id ver k' off len cap =>
    if k = k' ∧ lo ≤ hi then
      match mx, cap with
      | none, none => if hi ≤ len then some (.view id ver k (off + lo) (hi - lo) none) else none
      | none, some c => if hi ≤ c then some (.view id ver k (off + lo) (hi - lo) (some (c - lo))) else none
      | some m, some c => if hi ≤ m ∧ m ≤ c then some (.view id ver k (off + lo) (hi - lo) (some (m - lo))) else none
      | some m, none => if hi ≤ m ∧ m ≤ len then some (.view id ver k (off + lo) (hi - lo) (some (m - lo))) else none
    else none
  | _ => none
def overwrite (xs : List (List PV)) (off : Nat) (ys : List (List PV)) : List (List PV) := xs.take off ++ (ys ++ xs.drop (off + ys.length))
def appendV (k bytes : Nat) (s : PV) (m : List (List PV)) (rd : List Nat) (H : Heap) (n : Nat) : Option Res :=
  match s with
  | .nils =>
    if m.isEmpty then some ⟨.nils, H, n, ⟨rd, [], false⟩⟩
    else if m.length * bytes ≤ room then some ⟨.view n 0 k 0 m.length none, H.set n (.arr 0 k m), n + 1, ⟨rd, [n], false⟩⟩ else none
  | .data k' xs fl =>
    if k ≠ k' then none
    else if m.isEmpty then some ⟨s, H, n, ⟨rd, [], false⟩⟩
    else if fl = .full ∧ (xs.length + m.length) * bytes ≤ room then
      some ⟨.view n 0 k 0 (xs.length + m.length) none, H.set n (.arr 0 k (xs ++ m)), n + 1, ⟨rd, [n], false⟩⟩
    else none
  | .view id ver k' off len cap =>
    if k ≠ k' then none
    else match H.get id with
    | some (.arr ver' k'' xs) =>
      if ver ≠ ver' ∨ k ≠ k'' ∨ ¬ (off + len ≤ xs.length) then none
      else match cap with
      | some c =>
        if len + m.length ≤ c then
          (if off + len + m.length ≤ xs.length then some ⟨.view id ver k off (len + m.length) cap, H.set id (.arr ver k (overwrite xs (off + len) m)), n, ⟨rd, [id], false⟩⟩ else none)
        else if (len + m.length) * bytes ≤ room then
          some ⟨.view n 0 k 0 (len + m.length) none, H.set n (.arr 0 k ((xs.drop off).take len ++ m)), n + 1, ⟨id :: rd, [n], false⟩⟩
        else none
      | none =>
        if off + len + m.length ≤ xs.length then some ⟨.view id ver k off (len + m.length) cap, H.set id (.arr ver k (overwrite xs (off + len) m)), n, ⟨rd, [id], false⟩⟩
        else if (len + m.length) * bytes ≤ room then
          some ⟨.view id (ver + 1) k 0 (len + m.length) none, H.set id (.arr (ver + 1) k ((xs.drop off).take len ++ m)), n, ⟨rd, [id], false⟩⟩
        else none
    | _ => none
  | _ => none
def storeAtV (size : Nat) (a v : PV) (H : Heap) (n : Nat) : Option Res :=
  match a, v.cells? with
  | .ptr id ver k i off, some cs =>
    match H.get id with
    | some (.arr ver' k' xs) =>
      if ver = ver' ∧ k = k' ∧ i < xs.length ∧ off + size ≤ k ∧ cs.length = size then
        some ⟨.tup [], H.set id (.arr ver k (xs.set i (splice (xs.getD i []) off cs))), n, ⟨[], [id], false⟩⟩
      else none
    | _ => none
  | _, _ => none
def minmaxV (mx : Bool) : Int → List PV → Option Int
  | a, [] => some a
  | a, .int _ b :: r => minmaxV mx (if mx then (if a < b then b else a) else (if b < a then b else a)) r
  | _, _ => none
def callV (cf : CallF) (mode : Nat) (f : FuncId) (args : List PV) (H : Heap) (n : Nat) : Option Res :=
  match mode with
  | 0 =>
    match thawL true H deep args with
    | some (as, is) =>
      match cf f as [] 0 with
      | some (r, H', _) =>
        match thaw false H' deep r with
        | some (r', _) => some ⟨r', H, n, ⟨is, [], false⟩⟩
        | none => none
      | none => none
    | none => none
  | 3 =>
    match thawL false H deep args with
    | some (as, is) =>
      match cf f as [] 0 with
      | some (r, H', _) =>
        match thaw false H' deep r with
        | some (r', _) => some ⟨r', dropIds H is, n, ⟨[], is, false⟩⟩
        | none => none
      | none => none
    | none => none
  | 2 =>
    match thawL false H deep args with
    | some (as, is) =>
      match cf f as [] n with
      | some (r, H', n') => some ⟨r, H' ++ dropIds H is, n', ⟨[], [], true⟩⟩
      | none => none
    | none => none
  | _ =>
    match cf f args H n with
    | some (r, H', n') => some ⟨r, H', n', ⟨[], [], true⟩⟩
    | none => none
def evalOp (cf : CallF) (o : IOp) (ρ : Src → PV) (H : Heap) (n : Nat) : Option Res :=
  let ok (v : PV) : Option Res := some ⟨v, H, n, .no⟩
  match o with
  | .bad => none
  | .mv x => ok (ρ x)
  | .pick c a b =>
    match ρ c with
    | .bool b' => ok (if b' then ρ a else ρ b)
    | _ => none
  | .box obj x =>
    match (ρ x).cells? with
    | some cs =>
      if cs.isEmpty then none
      else if obj then some ⟨.ptr n 0 cs.length 0 0, H.set n (.arr 0 cs.length [cs]), n + 1, ⟨[], [n], false⟩⟩
      else if cs.all flat then ok (.dp false cs 0)
      else if cs.all flatT then ok (.dp true cs 0)
      else none
    | none => none
  | .build zero parts =>
    match fillP ρ parts zero with
    | some cs => ok (.agg cs)
    | none => none
  | .bslice obj k zero len parts =>
    match fillS ρ k parts (List.replicate len zero) with
    | some xs =>
      if zero.length ≠ k ∨ k = 0 then none
      else if obj then some ⟨.view n 0 k 0 len (some len), H.set n (.arr 0 k xs), n + 1, ⟨[], [n], false⟩⟩
      else if xs.all (fun x => x.all flat) then ok (.data k xs .full)
      else none
    | none => none
  | .load agg size a =>
    match ρ a with
    | .dp _ cs off =>
      match partAt agg cs off size with
      | some v => ok v
      | none => none
    | .ptr id ver k i off =>
      match H.get id with
      | some (.arr ver' k' xs) =>
        if ver = ver' ∧ k = k' ∧ i < xs.length then
          match partAt agg (xs.getD i []) off size with
          | some v => some ⟨v, H, n, ⟨[id], [], false⟩⟩
          | none => none
        else none
      | _ => none
    | _ => none
  | .store size a v => storeAtV size (ρ a) (ρ v) H n
  | .nilChk x =>
    match ρ x with
    | .ptr .. | .dp .. | .func .. | .iface .. => ok (ρ x)
    | _ => none
  | .bin op x y =>
    match binV op (ρ x) (ρ y) with
    | some v => ok v
    | none => none
  | .eqK kd neg x y =>
    match nilEq kd (ρ x) (ρ y) with
    | some r => ok (.bool (if neg then !r else r))
    | none => none
  | .eqAgg ks neg x y =>
    match ρ x, ρ y with
    | .agg a, .agg b =>
      if a.length = ks.length ∧ b.length = ks.length then
        match cellsEq ks a b with
        | some r => ok (.bool (if neg then !r else r))
        | none => none
      else none
    | _, _ => none
  | .un op x =>
    match unV op (ρ x) with
    | some v => ok v
    | none => none
  | .conv k x =>
    match ρ x with
    | .int _ m => ok (.int k (k.wrap m))
    | _ => none
  | .mkIface t x => ok (.iface t (ρ x))
  | .mkFunc f first caps => ok (.func f (first.map ρ) (caps.map ρ))
  | .mkMap => some ⟨.map n, H.set n (.map [] 0), n + 1, ⟨[], [n], false⟩⟩
  | .mkSlice k bytes zero len cap =>
    match ρ len, ρ cap with
    | .int .i64 l, .int .i64 c =>
      if 0 ≤ l ∧ l ≤ c ∧ c.toNat * bytes ≤ room ∧ zero.length = k ∧ k ≠ 0 then
        some ⟨.view n 0 k 0 l.toNat (some c.toNat), H.set n (.arr 0 k (List.replicate c.toNat zero)), n + 1, ⟨[], [n], false⟩⟩
      else none
    | _, _ => none
  | .slice k x lo hi mx =>
    match lenV (ρ x) with
    | some l =>
      match bound ρ 0 lo, bound ρ l hi, bound ρ 0 mx with
      | some a, some b, some m =>
        match sliceV k (ρ x) a b (mx.map fun _ => m) with
        | some v => ok v
        | none => none
      | _, _, _ => none
    | none => none
  | .substr x lo hi =>
    match ρ x with
    | .str s =>
      match bound ρ 0 lo, bound ρ s.size hi with
      | some a, some b => if a ≤ b ∧ b ≤ s.size then ok (.str (s.extract a b)) else none
      | _, _ => none
    | _ => none
  | .fieldAddr off x =>
    match ρ x with
    | .dp t cs o => ok (.dp t cs (o + off))
    | .ptr id ver k i o => ok (.ptr id ver k i (o + off))
    | _ => none
  | .field agg off size x =>
    match ρ x with
    | .agg cs =>
      match partAt agg cs off size with
      | some v => ok v
      | none => none
    | _ => none
  | .idxAddr k x i =>
    match ρ x, ρ i with
    | .data k' xs fl, .int _ j => if k = k' ∧ 0 ≤ j ∧ j.toNat < xs.length then ok (.dp fl.isTmp (xs.getD j.toNat []) 0) else none
    | .view id ver k' off len _, .int _ j => if k = k' ∧ 0 ≤ j ∧ j.toNat < len then ok (.ptr id ver k (off + j.toNat) 0) else none
    | _, _ => none
  | .idxArr len k x i =>
    match ρ x, ρ i with
    | .dp t cs o, .int _ j => if 0 ≤ j ∧ j.toNat < len then ok (.dp t cs (o + j.toNat * k)) else none
    | .ptr id ver k' m o, .int _ j => if 0 ≤ j ∧ j.toNat < len then ok (.ptr id ver k' m (o + j.toNat * k)) else none
    | _, _ => none
  | .idxStr x i =>
    match ρ x, ρ i with
    | .str s, .int _ j =>
      if 0 ≤ j then
        match s[j.toNat]? with
        | some b => ok (.int .u8 b.toNat)
        | none => none
      else none
    | _, _ => none
  | .lookup ck zero x key commaOk =>
    match ρ x with
    | .nilm => if keyOk ck (ρ key) then ok (if commaOk then .tup [zero, .bool false] else zero) else none
    | .map id =>
      match H.get id with
      | some (.map es _) =>
        match findIn ck (ρ key) es with
        | some (some i) => some ⟨if commaOk then .tup [(es.getD i (.any, .any, 0)).2.1, .bool true] else (es.getD i (.any, .any, 0)).2.1, H, n, ⟨[id], [], false⟩⟩
        | some none => some ⟨if commaOk then .tup [zero, .bool false] else zero, H, n, ⟨[id], [], false⟩⟩
        | none => none
      | _ => none
    | _ => none
  | .mapSet ck m k v =>
    match ρ m with
    | .map id =>
      match H.get id with
      | some (.map es clock) =>
        match findIn ck (ρ k) es with
        | some (some i) => some ⟨.tup [], H.set id (.map (es.set i (ρ k, ρ v, (es.getD i (.any, .any, 0)).2.2)) clock), n, ⟨[], [id], false⟩⟩
        | some none => some ⟨.tup [], H.set id (.map (es ++ [(ρ k, ρ v, clock)]) (clock + 1)), n, ⟨[], [id], false⟩⟩
        | none => none
      | _ => none
    | _ => none
  | .mapEntry ck zero m k =>
    match ρ m with
    | .map id =>
      match H.get id with
      | some (.map es clock) =>
        match findIn ck (ρ k) es with
        | some (some i) =>
          some ⟨.tup [(es.getD i (.any, .any, 0)).2.1, .int .i64 (es.getD i (.any, .any, 0)).2.2], H.set id (.map (es.set i (ρ k, (es.getD i (.any, .any, 0)).2.1, (es.getD i (.any, .any, 0)).2.2)) clock), n, ⟨[], [id], false⟩⟩
        | some none => some ⟨.tup [zero, .int .i64 clock], H.set id (.map (es ++ [(ρ k, zero, clock)]) (clock + 1)), n, ⟨[], [id], false⟩⟩
        | none => none
      | _ => none
    | _ => none
  | .entrySet m s v =>
    match ρ m, ρ s with
    | .map id, .int _ b =>
      match H.get id with
      | some (.map es clock) =>
        match es.findIdx? (fun e => (e.2.2 : Int) == b) with
        | some i => some ⟨.tup [], H.set id (.map (es.set i ((es.getD i (.any, .any, 0)).1, ρ v, (es.getD i (.any, .any, 0)).2.2)) clock), n, ⟨[], [id], false⟩⟩
        | none => none
      | _ => none
    | _, _ => none
  | .range m =>
    match ρ m with
    | .map id =>
      match H.get id with
      | some (.map [] clock) => some ⟨.ptr n 0 1 0 0, H.set n (.miter (some id) clock [] clock), n + 1, ⟨[id], [n], false⟩⟩
      | _ => none
    | _ => none
  | .next it =>
    match ρ it with
    | .ptr id 0 1 0 0 =>
      match H.get id with
      | some (.miter (some m) _ _ _) =>
        match H.get m with
        | some (.map [] _) => some ⟨.tup [.bool false], H, n, ⟨[id, m], [], false⟩⟩
        | _ => none
      | _ => none
    | _ => none
  | .tassert t zero x commaOk =>
    match ρ x with
    | .iface u v =>
      if u = t then ok (if commaOk then .tup [v, .bool true] else v)
      else if commaOk then ok (.tup [zero, .bool false]) else none
    | .nili => if commaOk then ok (.tup [zero, .bool false]) else none
    | _ => none
  | .extract x i =>
    match ρ x with
    | .tup vs => if i < vs.length then ok (vs.getD i .any) else none
    | _ => none
  | .len k x =>
    match k, ρ x with
    | .map, .nilm => ok (.int .i64 0)
    | .map, .map id =>
      match H.get id with
      | some (.map es _) => some ⟨.int .i64 es.length, H, n, ⟨[id], [], false⟩⟩
      | _ => none
    | .slice, .nils => ok (.int .i64 0)
    | .slice, .data _ xs _ => ok (.int .i64 xs.length)
    | .slice, .view _ _ _ _ len _ => ok (.int .i64 len)
    | .str, .str s => ok (.int .i64 s.size)
    | _, _ => none
  | .capo x =>
    match ρ x with
    | .nils => ok (.int .i64 0)
    | .data _ xs .full => ok (.int .i64 xs.length)
    | .view _ _ _ _ _ (some c) => ok (.int .i64 c)
    | _ => none
  | .append k bytes s x =>
    if k = 0 ∨ bytes = 0 then none else
    match ρ x with
    | .nils => appendV k bytes (ρ s) [] [] H n
    | v =>
      match elems H v with
      | some (k', m, rd) => if k = k' then appendV k bytes (ρ s) m rd H n else none
      | none => none
  | .copy k d s =>
    match ρ d with
    | .nils => ok (.int .i64 0)
    | .view id ver k' off len _ =>
      match H.get id, (match ρ s with | .nils => some (k, [], []) | v => elems H v) with
      | some (.arr ver' k'' xs), some (k₃, m, rd) =>
        if ver = ver' ∧ k = k' ∧ k = k'' ∧ k = k₃ ∧ off + len ≤ xs.length then
          some ⟨.int .i64 (min m.length len : Nat), H.set id (.arr ver k (overwrite xs off (m.take len))), n, ⟨rd, [id], false⟩⟩
        else none
      | _, _ => none
    | _ => none
  | .clear k zero x =>
    match ρ x with
    | .nils => ok (.tup [])
    | .view id ver k' off len _ =>
      match H.get id with
      | some (.arr ver' k'' xs) =>
        if ver = ver' ∧ k = k' ∧ k = k'' ∧ off + len ≤ xs.length ∧ zero.length = k then some ⟨.tup [], H.set id (.arr ver k (overwrite xs off (List.replicate len zero))), n, ⟨[], [id], false⟩⟩
        else none
      | _ => none
    | _ => none
  | .minmax mx xs =>
    match xs.map ρ with
    | .int k a :: r =>
      match minmaxV mx a r with
      | some b => ok (.int k b)
      | none => none
    | _ => none
  | .call mode f args =>
    match ρ f with
    | .func g first caps => callV cf mode g (first ++ args.map ρ ++ caps) H n
    | _ => none
  | .invoke mode tbl recv args =>
    match ρ recv with
    | .iface t v =>
      match tbl.find? (fun e => e.1 == t) with
      | some (_, g) => callV cf mode g (v :: args.map ρ) H n
      | none => none
    | _ => none
structure IOper where
  op : IOp
  guard : Option (Nat × Bool) := none
  deriving Inhabited
structure IReg where
  ops : List IOper
  out : List (Nat × Src)
  masks : Option (List Nat)
  deriving Inhabited
inductive ICode where
  | skip
  | reg (r : IReg)
  | seq (a b : ICode)
  | cond (c : Src) (a b : ICode)
  | block (id : Nat) (a : ICode)
  | loop (a : ICode)
  | exit (id : Nat)
  | ret
  | bad
  deriving Inhabited
inductive IRes where
  | val (x : Src)
  | cell (x : Src) (agg : Bool) (size : Nat)
  deriving Inhabited
structure IFunc where
  live : List Nat
  body : ICode
  results : List IRes
  deriving Inhabited
inductive Ex where
  | normal
  | exit (id : Nat)
  | ret
  deriving DecidableEq, Inhabited
structure St where
  S : List PV
  H : Heap
  n : Nat
def wants (T : List PV) : Option (Nat × Bool) → Option Bool
  | none => some true
  | some (j, want) =>
    match T.getD j .any with
    | .bool b => some (b == want)
    | .tup _ => some false
    | _ => none
def evalOps (cf : CallF) (S : List PV) : List IOper → List PV → Heap → Nat → List Fp → Option (List PV × Heap × Nat × List Fp)
  | [], T, H, n, L => some (T, H, n, L)
  | o :: r, T, H, n, L =>
    match wants T o.guard with
    | some true =>
      match evalOp cf o.op (Src.ev S T) H n with
      | some x => evalOps cf S r (T ++ [x.v]) x.H x.n (L ++ [x.fp])
      | none => none
    | some false => evalOps cf S r (T ++ [.tup []]) H n (L ++ [.no])
    | none => none
def PV.same : PV → PV → Bool
  | .int k a, .int k' b => decide (k = k') && decide (a = b)
  | .bool a, .bool b => a == b
  | .nilp, .nilp | .nils, .nils | .nilm, .nilm | .nilf, .nilf | .nili, .nili => true
  | .ptr a b c d e, .ptr a' b' c' d' e' => decide (a = a') && decide (b = b') && decide (c = c') && decide (d = d') && decide (e = e')
  | .view a b c d e f, .view a' b' c' d' e' f' => decide (a = a') && decide (b = b') && decide (c = c') && decide (d = d') && decide (e = e') && decide (f = f')
  | .map a, .map b => decide (a = b)
  | _, _ => false
mutual
def PV.sameF : Nat → PV → PV → Bool
  | 0, _, _ => false
  | d + 1, a, b =>
    match a, b with
    | .agg x, .agg y => PV.sameFL d x y
    | .data k x fl, .data k' y fl' => decide (k = k') && decide (fl = fl') && PV.sameFLL d x y
    | .dp t x o, .dp t' y o' => decide (t = t') && decide (o = o') && PV.sameFL d x y
    | .iface t x, .iface t' y => decide (t = t') && PV.sameF d x y
    | .func f x z, .func f' x' z' => decide (f = f') && PV.sameFL d x x' && PV.sameFL d z z'
    | .str x, .str y => x.data.toList == y.data.toList
    | x, y => PV.same x y
def PV.sameFL : Nat → List PV → List PV → Bool
  | 0, _, _ => false
  | _ + 1, [], [] => true
  | d + 1, x :: xs, y :: ys => PV.sameF d x y && PV.sameFL d xs ys
  | _, _, _ => false
def PV.sameFLL : Nat → List (List PV) → List (List PV) → Bool
  | 0, _, _ => false
  | _ + 1, [], [] => true
  | d + 1, x :: xs, y :: ys => PV.sameFL d x y && PV.sameFLL d xs ys
  | _, _, _ => false
end
def freeRead (cf : CallF) (S : List PV) (ops : List IOper) (H : Heap) (n : Nat) (T : List PV) (L : List Fp) (masks : List Nat) (r : Nat) : Bool :=
  match L.getD r .no with
  | ⟨[a], [], false⟩ =>
    (List.range (ops.length + 1)).all fun m =>
      (match m with
       | 0 => false
       | j + 1 => !((L.getD j .no).all || (L.getD j .no).wr.contains a) || (masks.getD j 0).testBit r || j == r) ||
      match evalOps cf S (ops.take m) [] H n [] with
      | some (_, H1, n1, _) =>
        match evalOp cf (ops.getD r default).op (Src.ev S (T.take r)) H1 n1 with
        | some ⟨v, _, _, ⟨[b], [], false⟩⟩ => PV.sameF deep v (T.getD r .any) && decide (a = b)
        | _ => false
      | none => false
  | _ => false
def orderly (cf : CallF) (S : List PV) (ops : List IOper) (H : Heap) (n : Nat) (T : List PV) (masks : List Nat) (L : List Fp) : Bool :=
  (List.range L.length).all fun j => (List.range j).all fun i =>
    (masks.getD j 0).testBit i || (L.getD i .no).apart (L.getD j .no) || freeRead cf S ops H n T L masks i || freeRead cf S ops H n T L masks j
def setAll (S T : List PV) : List (Nat × Src) → List PV → List PV
  | [], R => R
  | (p, x) :: r, R => setAll S T r (R.set p (x.ev S T))
def evalR (cf : CallF) (r : IReg) (s : St) : Option St :=
  match evalOps cf s.S r.ops [] s.H s.n [] with
  | some (T, H, n, L) =>
    match r.masks with
    | none => some ⟨setAll s.S T r.out s.S, H, n⟩
    | some ms => if orderly cf s.S r.ops s.H s.n T ms L then some ⟨setAll s.S T r.out s.S, H, n⟩ else none
  | none => none
def iter (f : St → Option (Ex × St)) : Nat → St → Option (Ex × St)
  | 0, _ => none
  | k + 1, s =>
    match f s with
    | some (.normal, s') => iter f k s'
    | r => r
def evalC (cf : CallF) (k : Nat) : ICode → St → Option (Ex × St)
  | .skip, s => some (.normal, s)
  | .reg r, s =>
    match evalR cf r s with
    | some s' => some (.normal, s')
    | none => none
  | .seq a b, s =>
    match evalC cf k a s with
    | some (.normal, s') => evalC cf k b s'
    | r => r
  | .cond c a b, s =>
    match c.ev s.S [] with
    | .bool true => evalC cf k a s
    | .bool false => evalC cf k b s
    | _ => none
  | .block id a, s =>
    match evalC cf k a s with
    | some (.exit i, s') => if i = id then some (.normal, s') else some (.exit i, s')
    | r => r
  | .loop a, s => iter (fun s' => evalC cf k a s') k s
  | .exit id, s => some (.exit id, s)
  | .ret, s => some (.ret, s)
  | .bad, _ => none
def evalRes (S : List PV) (H : Heap) : IRes → Option PV
  | .val x => some (x.ev S [])
  | .cell x agg size =>
    match x.ev S [] with
    | .dp _ cs off => partAt agg cs off size
    | .ptr id ver k i off =>
      match H.get id with
      | some (.arr ver' k' xs) => if ver = ver' ∧ k = k' ∧ i < xs.length then partAt agg (xs.getD i []) off size else none
      | _ => none
    | _ => none
def evalResults (S : List PV) (H : Heap) : List IRes → Option (List PV)
  | [] => some []
  | r :: rs =>
    match evalRes S H r, evalResults S H rs with
    | some v, some vs => some (v :: vs)
    | _, _ => none
def tupled : List PV → PV
  | [v] => v
  | vs => .tup vs
def start (live : List Nat) (args : List PV) : List PV := live.map fun s => if s < args.length then args.getD s .any else .tup []
structure Env where
  prog : FuncId → Option IFunc
  ext : FuncId → Option (List PV → Heap → Nat → Option (PV × Heap × Nat))
def evalF (E : Env) : Nat → CallF
  | 0, _, _, _, _ => none
  | k + 1, f, args, H, n =>
    match E.ext f with
    | some g => g args H n
    | none =>
      match E.prog f with
      | none => none
      | some I =>
        match evalC (evalF E k) k I.body ⟨start I.live args, H, n⟩ with
        | some (.normal, s) | some (.ret, s) =>
          match evalResults s.S s.H I.results with
          | some vs => some (tupled vs, s.H, s.n)
          | none => none
        | _ => none
def Fp.on (f : Fp) (id : Nat) : Prop := f.all = true ∨ id ∈ f.wr
def Fp.at (f : Fp) (id : Nat) : Prop := f.all = true ∨ id ∈ f.rd ∨ id ∈ f.wr
def OpSem (P : Program) (s : Sem Next) (w : World) (K : Value → World → Prop) : Prop :=
  match s.run P w with
  | .ok (.value v) w' => K v w'
  | .ok .skip w' => K undef w'
  | .ok (.enter f args) w' => Calls P f args w' fun e w'' => ∃ v, e = .returned v ∧ K v w''
  | _ => False
def Post (M : Mem) (φ : Places) (G : Objs) (n : Nat) (w : World) (r : Res) (v : Value) (w' : World) : Prop :=
  ∃ M' φ' G', Rv M' φ' r.v v ∧ WR M' φ' G' w' ∧ Ext M φ G n w M' φ' G' r.n w' ∧
    (∀ id, r.fp.on id → G' id = r.H.get id) ∧ (∀ id, ¬ r.fp.on id → G' id = G id) ∧
    (∀ id ver, ¬ r.fp.on id → φ' id ver = φ id ver) ∧ (∀ id ver, r.n ≤ id → φ id ver = none → φ' id ver = none) ∧ (∀ id ver, id < n → G id = none → φ' id ver = φ id ver)
theorem Post.pure {M : Mem} {φ : Places} {G : Objs} {n : Nat} {w : World} {p : PV} {v : Value} {H : Heap} {rd : List Nat} (hw : WR M φ G w) (hv : Rv M φ p v) :
    Post M φ G n w ⟨p, H, n, ⟨rd, [], false⟩⟩ v w :=
  ⟨M, φ, G, hv, hw, .refl _ _ _ _ _, fun id h => by simp [Fp.on] at h, fun _ _ => rfl, fun _ _ _ => rfl, fun _ _ _ h => h, fun _ _ _ _ => rfl⟩
theorem WR.put {M : Mem} {φ φ' : Places} {G : Objs} {w w' : World} {n n' id : Nat} {o' : Obj} {l' : Loc} (h : WR M φ G w) (hφ : φ.le φ')
    (hother : ∀ j v, j ≠ id → φ' j v = φ j v) (hl : φ' id o'.ver = some l') (ho : ObjR M φ' id w' o')
    (hos : w'.os = w.os) (htape : w'.tape = w.tape) (hout : w'.output = w.output) (hsize : w.heap.size ≤ w'.heap.size)
    (hblock : ∀ b, b < w.heap.size → b ≠ l'.block → w'.heap[b]? = w.heap[b]?)
    (hwho : w.heap.size ≤ l'.block ∨ ∃ o l, G id = some o ∧ φ id o.ver = some l ∧ l.block = l'.block) (hn : n ≤ n') :
    WR M φ' (G.put id o') w' ∧ Ext M φ G n w M φ' (G.put id o') n' w' := by
  have hblk : ∀ j o l, G j = some o → φ j o.ver = some l → l.block < w.heap.size := by
    intro j o l hj hl
    have := h.obj j o hj
    cases this with
    | arr ver k xs l2 c T h1 h2 h3 h4 h5 h6 h7 h8 h9 h10 =>
      obtain rfl : l2 = l := Option.some.inj (h1.symm.trans hl)
      exact (Array.getElem?_eq_some_iff.1 h5).1
    | map es clock l2 en h1 h2 h3 h4 h5 =>
      obtain rfl : l2 = l := Option.some.inj (h1.symm.trans hl)
      exact (Array.getElem?_eq_some_iff.1 h3).1
    | miter m since seen stepped l2 m' h1 h2 h3 h4 h5 =>
      obtain rfl : l2 = l := Option.some.inj (h1.symm.trans hl)
      exact (Array.getElem?_eq_some_iff.1 h3).1
  have hne : ∀ j o l, j ≠ id → G j = some o → φ j o.ver = some l → l.block ≠ l'.block := by
    intro j o l hj hG hl he
    rcases hwho with hge | ⟨o2, l2, e1, e2, e3⟩
    · have := hblk j o l hG hl; omega
    · exact hj (h.inj _ _ _ _ _ _ hG e1 hl e2 (by rw [he, e3]))
  have hMne : ∀ t a v, M t a = some v → a.block ≠ l'.block := by
    intro t a v hv he
    rcases hwho with hge | ⟨o2, l2, e1, e2, e3⟩
    · have := World.block_lt_of_cell? w a (h.mem t a v hv); omega
    · exact h.sep t a v hv ⟨id, o2, l2, e1, e2, by rw [e3, he]⟩
  have hput : ∀ j, j ≠ id → G.put id o' j = G j := fun j hj => by simp [Objs.put, Ne.symm hj]
  refine ⟨⟨?_, ?_, ?_, ?_⟩, ?_⟩
  · intro t a v hv
    have hc := h.mem t a v hv
    have hlt := World.block_lt_of_cell? w a hc
    simp only [World.cell?, hblock a.block hlt (hMne t a v hv)]
    exact hc
  · intro j o hj
    by_cases hji : j = id
    · subst hji
      simp [Objs.put] at hj
      subst hj
      exact ho
    · rw [hput j hji] at hj
      refine (h.obj j o hj).mono (.refl M) hφ ?_ ?_
      · intro l hl2
        exact hblock _ (hblk j o l hj hl2) (hne j o l hji hj hl2)
      · intro v hv _
        rw [hother j v hji]; exact hv
  · intro i j x y l m hi hj hl1 hm he
    by_cases hii : i = id <;> by_cases hjj : j = id
    · rw [hii, hjj]
    · subst hii
      simp [Objs.put] at hi
      subst hi
      obtain rfl : l' = l := Option.some.inj (hl.symm.trans hl1)
      rw [hput j hjj] at hj
      rw [hother j _ hjj] at hm
      exact absurd he.symm (hne j y m hjj hj hm)
    · subst hjj
      simp [Objs.put] at hj
      subst hj
      obtain rfl : l' = m := Option.some.inj (hl.symm.trans hm)
      rw [hput i hii] at hi
      rw [hother i _ hii] at hl1
      exact absurd he (hne i x l hii hi hl1)
    · rw [hput i hii] at hi
      rw [hput j hjj] at hj
      rw [hother i _ hii] at hl1
      rw [hother j _ hjj] at hm
      exact h.inj _ _ _ _ _ _ hi hj hl1 hm he
  · rintro t a v hv ⟨j, o, l, hj, hl2, he⟩
    by_cases hji : j = id
    · subst hji
      simp [Objs.put] at hj
      subst hj
      obtain rfl : l' = l := Option.some.inj (hl.symm.trans hl2)
      exact hMne t a v hv he.symm
    · rw [hput j hji] at hj
      rw [hother j _ hji] at hl2
      exact h.sep t a v hv ⟨j, o, l, hj, hl2, he⟩
  · refine ⟨.refl M, hφ, hn, hos, htape, hout, hsize, ?_, fun _ _ _ hv => .inl hv, ?_⟩
    · intro b hb hno
      refine hblock b hb (fun he => ?_)
      rcases hwho with hge | ⟨o2, l2, e1, e2, e3⟩
      · omega
      · exact hno ⟨id, o2, l2, e1, e2, by rw [e3, he]⟩
    · rintro b ⟨j, o, l, hj, hl2, he⟩
      by_cases hji : j = id
      · subst hji
        simp [Objs.put] at hj
        subst hj
        obtain rfl : l' = l := Option.some.inj (hl.symm.trans hl2)
        rcases hwho with hge | ⟨o2, l2, e1, e2, e3⟩
        · right; omega
        · left; exact ⟨j, o2, l2, e1, e2, by rw [e3, he]⟩
      · rw [hput j hji] at hj
        rw [hother j _ hji] at hl2
        left; exact ⟨j, o, l, hj, hl2, he⟩
def Mem.add (M : Mem) (t : Bool) (b : Nat) (w : World) : Mem := fun u a => if u = t ∧ a.block = b then w.cell? a else M u a
theorem WR.lay {M : Mem} {φ : Places} {G : Objs} {w : World} {n : Nat} (h : WR M φ G w) (t : Bool) (o : Go.Obj) :
    WR (M.add t w.heap.size (w.alloc o)) φ G (w.alloc o) ∧ Ext M φ G n w (M.add t w.heap.size (w.alloc o)) φ G n (w.alloc o) := by
  have hb : ∀ b, b < w.heap.size → (w.alloc o).heap[b]? = w.heap[b]? := fun b hb => RowKit.Below.heap_alloc w o b hb
  have hMlt : ∀ u a v, M u a = some v → a.block < w.heap.size := fun u a v hv => World.block_lt_of_cell? w a (h.mem u a v hv)
  have hOlt : ∀ b, Own φ G b → b < w.heap.size := by
    rintro b ⟨j, o2, l, hj, hl, rfl⟩
    have := h.obj j o2 hj
    cases this with
    | arr ver k xs l2 c T h1 h2 h3 h4 h5 h6 h7 h8 h9 h10 =>
      obtain rfl : l2 = l := Option.some.inj (h1.symm.trans hl)
      exact (Array.getElem?_eq_some_iff.1 h5).1
    | map es clock l2 en h1 h2 h3 h4 h5 =>
      obtain rfl : l2 = l := Option.some.inj (h1.symm.trans hl)
      exact (Array.getElem?_eq_some_iff.1 h3).1
    | miter m since seen stepped l2 m' h1 h2 h3 h4 h5 =>
      obtain rfl : l2 = l := Option.some.inj (h1.symm.trans hl)
      exact (Array.getElem?_eq_some_iff.1 h3).1
  have hle : M.le (M.add t w.heap.size (w.alloc o)) := by
    intro u a v hv
    have := hMlt u a v hv
    simp only [Mem.add]
    rw [if_neg (by omega)]; exact hv
  refine ⟨⟨?_, ?_, h.inj, ?_⟩, ?_⟩
  · intro u a v hv
    simp only [Mem.add] at hv
    split at hv
    · exact hv
    · have hc := h.mem u a v hv
      simp only [World.cell?, hb a.block (hMlt u a v hv)]
      exact hc
  · intro j o2 hj
    refine (h.obj j o2 hj).mono hle (.refl φ) ?_ (fun v hv _ => hv)
    intro l hl
    exact hb _ (hOlt _ ⟨j, o2, l, hj, hl, rfl⟩)
  · intro u a v hv hown
    simp only [Mem.add] at hv
    split at hv
    · rename_i hc
      have := hOlt _ hown
      omega
    · exact h.sep u a v hv hown
  · refine ⟨hle, .refl φ, Nat.le_refl _, rfl, rfl, rfl, by simp, fun b hlt _ => hb b hlt, ?_, fun b hb => .inl hb⟩
    intro u a v hv
    simp only [Mem.add] at hv
    split at hv
    · rename_i hc
      right; left; omega
    · exact .inl hv
theorem cell?_alloc_at (w : World) (c : Array Value) (T : TypeId) (j : Nat) (hj : j < c.size) : (w.alloc (.cells c T)).cell? (cellOf w.heap.size j) = some (c.getD j undef) := by
  rw [cellOf, World.cell?_alloc_new]; simp [Array.getD, hj]
theorem Mem.add_at (M : Mem) (t : Bool) (w : World) (c : Array Value) (T : TypeId) (j : Nat) (hj : j < c.size) :
    M.add t w.heap.size (w.alloc (.cells c T)) t (cellOf w.heap.size j) = some (c.getD j undef) := by
  simp only [Mem.add]
  rw [if_pos ⟨trivial, rfl⟩]; exact cell?_alloc_at w c T j hj
def Places.set (φ : Places) (id ver : Nat) (l : Loc) : Places := fun i v => if i = id ∧ v = ver then some l else φ i v
theorem Places.set_at (φ : Places) (id ver : Nat) (l : Loc) : φ.set id ver l id ver = some l := by simp [Places.set]
theorem Places.set_other (φ : Places) (id ver : Nat) (l : Loc) (j v : Nat) (h : j ≠ id) : φ.set id ver l j v = φ j v := by simp [Places.set, h]
theorem Places.set_ver (φ : Places) (id ver : Nat) (l : Loc) (j v : Nat) (h : v ≠ ver) : φ.set id ver l j v = φ j v := by simp [Places.set, h]
theorem Places.le_set (φ : Places) (id ver : Nat) (l : Loc) (h : φ id ver = none) : φ.le (φ.set id ver l) := by
  intro i v m hm
  by_cases hc : i = id ∧ v = ver
  · obtain ⟨rfl, rfl⟩ := hc; rw [h] at hm; cases hm
  · simp [Places.set, hc, hm]
theorem WR.new {M : Mem} {φ : Places} {G : Objs} {w w' : World} {n id : Nat} {o' : Obj} {l' : Loc} (h : WR M φ G w) (hver : o'.ver = 0) (hfresh : ∀ v, φ id v = none) (ho : Go.Obj)
    (hw' : w' = w.alloc ho) (hb : l'.block = w.heap.size) (hobj : ObjR M (φ.set id 0 l') id w' o') (_ : id = n) :
    WR M (φ.set id 0 l') (G.put id o') w' ∧ Ext M φ G n w M (φ.set id 0 l') (G.put id o') (n + 1) w' := by
  subst hw'
  exact h.put (φ.le_set id 0 l' (hfresh 0)) (fun j v hj => φ.set_other id 0 l' j v hj) (by rw [hver]; exact φ.set_at id 0 l') hobj rfl rfl rfl (by simp)
    (fun b hlt _ => RowKit.Below.heap_alloc w ho b hlt) (.inl (by omega)) (by omega)
theorem Post.new {M : Mem} {φ : Places} {G : Objs} {w : World} {n : Nat} {o' : Obj} {l' : Loc} {p : PV} {v : Value} {H : Heap} {rd : List Nat} (h : WR M φ G w) (hver : o'.ver = 0)
    (hfresh : ∀ v, φ n v = none) (ho : Go.Obj) (hb : l'.block = w.heap.size) (hobj : ObjR M (φ.set n 0 l') n (w.alloc ho) o') (hv : Rv M (φ.set n 0 l') p v) :
    Post M φ G n w ⟨p, H.set n o', n + 1, ⟨rd, [n], false⟩⟩ v (w.alloc ho) := by
  obtain ⟨h1, h2⟩ := h.new (n := n) hver hfresh ho rfl hb hobj rfl
  refine ⟨M, φ.set n 0 l', G.put n o', hv, h1, h2, ?_, ?_, ?_, ?_, fun id ver hid _ => φ.set_other n 0 l' id ver (by omega)⟩
  · intro id hid
    simp [Fp.on] at hid
    subst hid
    simp [Objs.put, Heap.get_set_eq]
  · intro id hid
    simp [Fp.on] at hid
    simp [Objs.put, Ne.symm hid]
  · intro id ver hid
    simp [Fp.on] at hid
    exact φ.set_other n 0 l' id ver hid
  · intro id ver hid hn
    simp at hid
    rw [φ.set_other n 0 l' id ver (by omega)]; exact hn
theorem Post.turn {M : Mem} {φ : Places} {G : Objs} {w w' : World} {n id : Nat} {o o' : Obj} {l : Loc} {p : PV} {v : Value} {H : Heap} {rd : List Nat} (h : WR M φ G w) (hG : G id = some o)
    (hver : o'.ver = o.ver) (hl : φ id o.ver = some l) (hobj : ObjR M φ id w' o') (hos : w'.os = w.os) (htape : w'.tape = w.tape) (hout : w'.output = w.output)
    (hsize : w'.heap.size = w.heap.size) (hblock : ∀ b, b ≠ l.block → w'.heap[b]? = w.heap[b]?) (hv : Rv M φ p v) :
    Post M φ G n w ⟨p, H.set id o', n, ⟨rd, [id], false⟩⟩ v w' := by
  obtain ⟨h1, h2⟩ := h.put (n := n) (n' := n) (.refl φ) (fun _ _ _ => rfl) (by rw [hver]; exact hl) hobj hos htape hout (by omega) (fun b _ hb => hblock b hb) (.inr ⟨o, l, hG, hl, rfl⟩) (Nat.le_refl _)
  refine ⟨M, φ, G.put id o', hv, h1, h2, ?_, ?_, fun _ _ _ => rfl, fun _ _ _ h => h, fun _ _ _ _ => rfl⟩
  · intro j hid
    simp [Fp.on] at hid
    subst hid
    simp [Objs.put, Heap.get_set_eq]
  · intro j hid
    simp [Fp.on] at hid
    simp [Objs.put, Ne.symm hid]
theorem OpSem.value {P : Program} {s : Sem Next} {w w' : World} {v : Value} {K : Value → World → Prop} (h : s.run P w = .ok (.value v) w') (hK : K v w') : OpSem P s w K := by
  simp only [OpSem, h]; exact hK
theorem OpSem.skip {P : Program} {s : Sem Next} {w w' : World} {K : Value → World → Prop} (h : s.run P w = .ok .skip w') (hK : K undef w') : OpSem P s w K := by
  simp only [OpSem, h]; exact hK
theorem OpSem.enter {P : Program} {s : Sem Next} {w w' : World} {f : FuncId} {args : Array Value} {K : Value → World → Prop} (h : s.run P w = .ok (.enter f args) w')
    (hK : Calls P f args w' fun e w'' => ∃ v, e = .returned v ∧ K v w'') : OpSem P s w K := by
  simp only [OpSem, h]; exact hK
theorem OpSem.mono {P : Program} {s : Sem Next} {w : World} {K K' : Value → World → Prop} (h : OpSem P s w K) (hK : ∀ v w', K v w' → K' v w') : OpSem P s w K' := by
  unfold OpSem at *
  split <;> rename_i heq <;> simp only [heq] at h
  · exact hK _ _ h
  · exact hK _ _ h
  · exact h.mono fun e w'' ⟨v, he, hk⟩ => ⟨v, he, hK _ _ hk⟩
structure Ready (M : Mem) (φ : Places) (G : Objs) (w : World) (H : Heap) (n : Nat) (r : Res) : Prop where
  wr : WR M φ G w
  same : ∀ id, r.fp.at id → G id = H.get id
  fresh : ∀ id, n ≤ id → r.fp.on id → ∀ ver, φ id ver = none
def tySize (P : Program) (t : TypeId) : Option Nat := (P.info? t).map (·.size)
def tyBytes (P : Program) (t : TypeId) : Option Nat := (P.info? t).map (·.bytes)
def isAggD : TypeDesc → Bool
  | .struct _ | .array _ _ => true
  | _ => false
def tyAgg (P : Program) (t : TypeId) : Option Bool := (P.underlying t).map isAggD
def cv1 : Value → Option PV
  | .int k n => some (.int k n)
  | .bool b => some (.bool b)
  | .string s => some (.str s)
  | .pointer none => some .nilp
  | .slice none 0 0 => some .nils
  | .map none => some .nilm
  | .nilFunc => some .nilf
  | .nilIface => some .nili
  | _ => none
def cvL : List Value → Option (List PV)
  | [] => some []
  | v :: r =>
    match cv1 v, cvL r with
    | some p, some ps => some (p :: ps)
    | _, _ => none
def cvV : Value → Option PV
  | .agg cs => (cvL cs.toList).map .agg
  | .tuple vs => (cvL vs.toList).map .tup
  | v => cv1 v
theorem cv1_sound {M : Mem} {φ : Places} {v : Value} {p : PV} (h : cv1 v = some p) : Rv M φ p v ∧ one v = true ∧ p.cells? = some [p] ∧ v.cells = #[v] := by
  unfold cv1 at h
  split at h <;> cases h <;> exact ⟨by constructor, rfl, rfl, rfl⟩
theorem cvL_sound {M : Mem} {φ : Places} : ∀ {vs : List Value} {ps : List PV}, cvL vs = some ps → vs.length = ps.length ∧ (∀ j, j < ps.length → one (vs.getD j undef) = true ∧ Rv M φ (ps.getD j .any) (vs.getD j undef))
  | [], ps, h => by simp only [cvL] at h; cases h; exact ⟨rfl, fun j hj => by simp at hj⟩
  | v :: r, ps, h => by
    simp only [cvL] at h
    split at h
    · rename_i p ps' h1 h2
      cases h
      obtain ⟨e1, e2⟩ := cvL_sound (M := M) (φ := φ) h2
      obtain ⟨f1, f2, _⟩ := cv1_sound (M := M) (φ := φ) h1
      refine ⟨by simp [e1], fun j hj => ?_⟩
      cases j with
      | zero => exact ⟨f2, f1⟩
      | succ j => simpa using e2 j (by simpa using hj)
    · cases h
theorem getD_toList (vs : Array Value) (j : Nat) : vs.toList.getD j undef = vs.getD j undef := by
  simp [List.getD_eq_getElem?_getD, Array.getD_eq_getD_getElem?]
theorem cvV_sound {M : Mem} {φ : Places} {v : Value} {p : PV} (h : cvV v = some p) : Rv M φ p v := by
  cases v
  case agg cs =>
    simp only [cvV, Option.map_eq_some_iff] at h
    obtain ⟨ps, h1, rfl⟩ := h
    obtain ⟨e1, e2⟩ := cvL_sound (M := M) (φ := φ) h1
    exact .agg ps cs (by simpa using e1) (fun j hj => by rw [← getD_toList]; exact (e2 j hj).1) (fun j hj => by rw [← getD_toList]; exact (e2 j hj).2)
  case tuple cs =>
    simp only [cvV, Option.map_eq_some_iff] at h
    obtain ⟨ps, h1, rfl⟩ := h
    obtain ⟨e1, e2⟩ := cvL_sound (M := M) (φ := φ) h1
    exact .tup ps cs (by simpa using e1) (fun j hj => by rw [← getD_toList]; exact (e2 j hj).2)
  all_goals exact (cv1_sound (by simpa only [cvV] using h)).1
theorem cells_sound {M : Mem} {φ : Places} {p : PV} {cs : List PV} {v : Value} (h : p.cells? = some cs) (hv : Rv M φ p v) :
    v.cells.size = cs.length ∧ ∀ j, j < cs.length → one (v.cells.getD j undef) = true ∧ Rv M φ (cs.getD j .any) (v.cells.getD j undef) := by
  cases hv <;> simp only [PV.cells?] at h <;> first
    | (cases h; done)
    | (cases h; rename_i hs h1 hr; exact ⟨hs, fun j hj => ⟨h1 j hj, hr j hj⟩⟩)
    | (cases h
       refine ⟨rfl, fun j hj => ?_⟩
       obtain rfl : j = 0 := by simpa using hj
       exact ⟨rfl, by first | (constructor <;> assumption) | assumption⟩)
section
variable {P : Program} {w : World}
theorem run_typeInfo' {t : TypeId} {i : TypeInfo} (h : P.info? t = some i) : (typeInfo t).run P w = .ok i w := by simp [typeInfo, h]
theorem run_underlying' {t : TypeId} {d : TypeDesc} (h : P.underlying t = some d) : (underlying t).run P w = .ok d w := by simp [underlying, h]
theorem run_sizeOf' {t : TypeId} {s : Nat} (h : tySize P t = some s) : (sizeOf t).run P w = .ok s w := by
  simp only [tySize, Option.map_eq_some_iff] at h
  obtain ⟨i, h1, rfl⟩ := h
  simp [sizeOf, run_typeInfo' h1]
theorem run_isAgg' {t : TypeId} {g : Bool} (h : tyAgg P t = some g) : (isAgg t).run P w = .ok g w := by
  simp only [tyAgg, Option.map_eq_some_iff] at h
  obtain ⟨d, h1, rfl⟩ := h
  cases d <;> simp [isAgg, run_underlying' h1, isAggD]
theorem run_zero' {t : TypeId} {i : TypeInfo} {z : Value} (h : P.info? t = some i) (hz : i.zero = some z) : (zeroValue t).run P w = .ok z w := by
  simp [zeroValue, run_typeInfo' h, hz]
theorem cellOf_add (b o n : Nat) : (cellOf b o).add n = cellOf b (o + n) := by
  unfold cellOf Addr.add; split <;> simp_all
def Reads (M : Mem) (φ : Places) (w : World) (b o : Nat) (cs : List PV) : Prop :=
  ∃ vs : Nat → Value, (∀ j, j < cs.length → w.cell? (cellOf b (o + j)) = some (vs j)) ∧ (∀ j, j < cs.length → one (vs j) = true) ∧ ∀ j, j < cs.length → Rv M φ (cs.getD j .any) (vs j)
theorem getD_take_drop {cs : List PV} {off size j : Nat} (h : j < size) : ((cs.drop off).take size).getD j .any = cs.getD (off + j) .any := by
  simp [List.getD_eq_getElem?_getD, h, List.getElem?_drop]
theorem load_sound {M : Mem} {φ : Places} {b o off size : Nat} {cs : List PV} {g : Bool} {p : PV} {t : TypeId} (hr : Reads M φ w b o cs) (hp : partAt g cs off size = some p)
    (hg : tyAgg P t = some g) (hs : tySize P t = some size) : ∃ v, (loadVar t (cellOf b (o + off))).run P w = .ok v w ∧ Rv M φ p v := by
  obtain ⟨vs, h1, h2, h3⟩ := hr
  unfold partAt at hp
  split at hp
  · rename_i hlen
    cases g with
    | true =>
      simp only [if_true, Option.some.injEq] at hp
      subst hp
      have hl := run_loadCells (P := P) w (cellOf b (o + off)) size (fun j => vs (off + j)) (fun j hj => by rw [cellOf_add, Nat.add_assoc]; exact h1 _ (by omega))
      refine ⟨.agg ((List.range size).map fun j => vs (off + j)).toArray, by simp [loadVar, run_isAgg' hg, run_sizeOf' hs, hl], ?_⟩
      have hsz : ((cs.drop off).take size).length = size := by simp; omega
      refine .agg _ _ (by simp; omega) ?_ ?_
      · intro j hj
        rw [hsz] at hj
        have : (((List.range size).map fun j => vs (off + j)).toArray).getD j undef = vs (off + j) := by simp [Array.getD, hj]
        rw [this]; exact h2 _ (by omega)
      · intro j hj
        rw [hsz] at hj
        have : (((List.range size).map fun j => vs (off + j)).toArray).getD j undef = vs (off + j) := by simp [Array.getD, hj]
        rw [this, getD_take_drop hj]; exact h3 _ (by omega)
    | false =>
      simp only [Bool.false_eq_true, if_false] at hp
      split at hp
      · rename_i hone
        cases hp
        exact ⟨vs off, by simp [loadVar, run_isAgg' hg, h1 off (by omega)], h3 off (by omega)⟩
      · cases hp
  · cases hp
theorem Rv.reads {M : Mem} {φ : Places} {G : Objs} {t : Bool} {cs : List PV} {off : Nat} {v : Value} (hw : WR M φ G w) (h : Rv M φ (.dp t cs off) v) :
    ∃ b o, v = .pointer (some (cellOf b (o + off))) ∧ Reads M φ w b o cs := by
  cases h with
  | dp _ _ _ b o vs h0 h1 h2 h3 => exact ⟨b, o, rfl, vs, fun j hj => hw.mem _ _ _ (h1 j hj), h2, h3⟩
theorem ObjR.reads {M : Mem} {φ : Places} {id ver k i : Nat} {xs : List (List PV)} (h : ObjR M φ id w (.arr ver k xs)) (hi : i < xs.length) :
    ∃ l, φ id ver = some l ∧ l.k = k ∧ Reads M φ w l.block ((l.base + i) * k) (xs.getD i []) := by
  cases h with
  | arr _ _ _ l c T h1 h2 h3 h4 h5 h6 h7 h8 h9 h10 =>
    have hk : (xs.getD i []).length = k := h8 i hi
    have hin : ∀ j, j < k → (l.base + i) * k + j < c.size := by
      intro j hj
      have : (l.base + i) * k + k ≤ l.tot * k := by
        have : (l.base + i + 1) * k ≤ l.tot * k := Nat.mul_le_mul_right k (by omega)
        rw [Nat.add_mul] at this; omega
      omega
    refine ⟨l, h1, h2, fun j => c.getD ((l.base + i) * k + j) undef, ?_, ?_, ?_⟩
    · intro j hj
      rw [hk] at hj
      simp [World.cell?, cellOf, h5, hin j hj, Array.getD]
    · intro j hj; rw [hk] at hj; exact h9 i j hi hj
    · intro j hj; rw [hk] at hj; exact h10 i j hi hj
end
theorem splice_length {l cs : List PV} {off : Nat} (h : off + cs.length ≤ l.length) : (splice l off cs).length = l.length := by
  simp [splice]; omega
theorem seg_get {α : Type} (l cs : List α) (off j : Nat) (h : off + cs.length ≤ l.length) :
    (l.take off ++ (cs ++ l.drop (off + cs.length)))[j]? = if off ≤ j ∧ j < off + cs.length then cs[j - off]? else l[j]? := by
  have hT : (l.take off).length = off := by simp; omega
  by_cases h1 : j < off
  · rw [List.getElem?_append_left (by omega), List.getElem?_take, if_pos h1, if_neg (by omega)]
  · rw [List.getElem?_append_right (by omega), hT]
    by_cases h2 : j < off + cs.length
    · rw [List.getElem?_append_left (by omega), if_pos ⟨by omega, h2⟩]
    · rw [List.getElem?_append_right (by omega), if_neg (by omega), List.getElem?_drop]
      congr 1; omega
theorem splice_getD {l cs : List PV} {off j : Nat} (h : off + cs.length ≤ l.length) :
    (splice l off cs).getD j .any = if off ≤ j ∧ j < off + cs.length then cs.getD (j - off) .any else l.getD j .any := by
  unfold splice
  simp only [List.getD_eq_getElem?_getD]
  rw [seg_get l cs off j h]
  split <;> rfl
theorem seg_getD (c vs : List Value) (o j : Nat) (h : o + vs.length ≤ c.length) :
    ((c.take o ++ vs ++ c.drop (o + vs.length)).toArray).getD j undef = if o ≤ j ∧ j < o + vs.length then vs.getD (j - o) undef else c.toArray.getD j undef := by
  simp only [Array.getD_eq_getD_getElem?, List.getElem?_toArray, List.getD_eq_getElem?_getD]
  rw [List.append_assoc, seg_get c vs o j h]
  split <;> rfl
theorem heap_setRow (w : World) (g : Nat) (cur c : Array Value) (t : TypeId) (fr : Nat × Nat) (hg : w.heap[g]? = some (.cells cur t fr)) : (w.setRow g c).heap[g]? = some (.cells c t fr) :=
  setRow_heap w g cur c t fr hg
theorem heap_setRow_other (w : World) (g b : Nat) (c : Array Value) (h : b ≠ g) : (w.setRow g c).heap[b]? = w.heap[b]? := by
  simp only [World.setRow, Array.getElem?_modify]
  rw [if_neg (Ne.symm h)]
theorem size_setRow (w : World) (g : Nat) (c : Array Value) : (w.setRow g c).heap.size = w.heap.size := by simp [World.setRow]
theorem arr_mul_lt {base i n tot k j : Nat} (hi : i < n) (h : base + n ≤ tot) (hj : j < k) : (base + i) * k + j < tot * k := by
  have : (base + i + 1) * k ≤ tot * k := Nat.mul_le_mul_right k (by omega)
  rw [Nat.add_mul] at this; omega
theorem idx_inj {k a b i j : Nat} (hi : i < k) (hj : j < k) (h : a * k + i = b * k + j) : a = b ∧ i = j := by
  have hk : 0 < k := by omega
  have h1 : (a * k + i) / k = a := by rw [Nat.mul_comm, Nat.mul_add_div hk, Nat.div_eq_of_lt hi]; omega
  have h2 : (b * k + j) / k = b := by rw [Nat.mul_comm, Nat.mul_add_div hk, Nat.div_eq_of_lt hj]; omega
  have : a = b := by rw [← h1, h, h2]
  subst this; exact ⟨rfl, by omega⟩
section
variable {P : Program} {M : Mem} {φ : Places} {G : Objs} {w : World} {H : Heap} {n : Nat}
theorem store_sound {r : Res} {t : TypeId} {size : Nat} {pa pv : PV} {a v : Value} (h : storeAtV size pa pv H n = some r) (hr : Ready M φ G w H n r)
    (ha : Rv M φ pa a) (hv : Rv M φ pv v) (hs : tySize P t = some size) :
    OpSem P (do Instr.storeAt t a v; pure .skip) w (Post M φ G n w r) := by
  unfold storeAtV at h
  split at h
  · rename_i _ _ id ver k i off cs hcs
    split at h
    · rename_i ver' k' xs hH
      split at h
      · rename_i hc
        obtain ⟨rfl, rfl, hi, hoff, hlen⟩ := hc
        cases h
        have hG : G id = some (.arr ver k xs) := by rw [hr.same id (.inr (.inr (by simp))), hH]
        have hobj := hr.wr.obj id _ hG
        cases ha with
        | ptr _ _ _ _ _ l' hl' hk' =>
        obtain ⟨hsz, hcell⟩ := cells_sound hcs hv
        cases hobj with
        | arr _ _ _ l c T h1 h2 h3 h4 h5 h6 h7 h8 h9 h10 =>
        obtain rfl : l' = l := Option.some.inj (hl'.symm.trans h1)
        have hin : (l'.base + i) * k + off + v.cells.toList.length ≤ c.size := by
          have : (l'.base + i + 1) * k ≤ l'.tot * k := Nat.mul_le_mul_right k (by omega)
          rw [Nat.add_mul] at this
          simp only [Array.length_toList, hsz, hlen]; omega
        have hone : ∀ x ∈ v.cells.toList, x.oneCell' = true := by
          intro x hx
          obtain ⟨j, hj, rfl⟩ := List.getElem_of_mem hx
          have hj' : j < cs.length := by simpa [hsz] using hj
          have := (hcell j hj').1
          rw [← getD_toList] at this
          simpa [List.getD_eq_getElem?_getD, List.getElem?_eq_getElem hj] using this
        have hst := run_storeCells_at P l'.block ((l'.base + i) * k + off) T v.cells.toList 0 c w h5 (by simpa using hin) hone
        have hrun : (do Instr.storeAt t (.pointer (some (cellOf l'.block ((l'.base + i) * k + off)))) v; pure Next.skip : Sem Next).run P w =
            .ok .skip (w.setRow l'.block (c.toList.take ((l'.base + i) * k + off) ++ v.cells.toList ++ c.toList.drop ((l'.base + i) * k + off + v.cells.toList.length)).toArray) := by
          have hvs : v.cells.size = size := by rw [hsz, hlen]
          have := hst
          simp only [Nat.add_zero] at this
          simp [Instr.storeAt, Instr.sureAddr, storeVar, run_sizeOf' hs, hvs, cellOf, this]
        refine .skip hrun ?_
        have hcells : ∀ j, ((c.toList.take ((l'.base + i) * k + off) ++ v.cells.toList ++ c.toList.drop ((l'.base + i) * k + off + v.cells.toList.length)).toArray).getD j undef =
            if (l'.base + i) * k + off ≤ j ∧ j < (l'.base + i) * k + off + size then v.cells.getD (j - ((l'.base + i) * k + off)) undef else c.getD j undef := by
          intro j
          rw [seg_getD _ _ _ _ (by simpa using hin)]
          simp only [Array.length_toList, hsz, hlen, getD_toList, Array.toArray_toList]
        refine Post.turn (rd := []) hr.wr hG rfl hl' ?_ rfl rfl rfl (size_setRow _ _ _) (fun b hb => heap_setRow_other _ _ _ _ hb) (.tup [] _ rfl (fun j hj => by simp at hj))
        refine .arr ver k _ l' _ T h1 h2 h3 h4 (heap_setRow _ _ _ _ _ _ h5) (by simp; omega) (by simpa using h7) ?_ ?_ ?_
        · intro m hm
          simp only [List.length_set] at hm
          rw [List.getD_eq_getElem?_getD, List.getElem?_set]
          by_cases hmi : i = m
          · subst hmi
            simp only [if_true, hi]
            simp only [Option.getD_some]
            rw [splice_length (by rw [h8 i hi]; omega)]; exact h8 i hi
          · simp only [hmi, if_false]
            rw [← List.getD_eq_getElem?_getD]; exact h8 m hm
        · intro m j hm hj
          simp only [List.length_set] at hm
          rw [hcells]
          split
          · rename_i hc
            exact (hcell _ (by omega)).1
          · exact h9 m j hm hj
        · intro m j hm hj
          simp only [List.length_set] at hm
          rw [hcells]
          by_cases hmi : m = i
          · subst hmi
            have e : (xs.set m (splice (xs.getD m []) off cs)).getD m [] = splice (xs.getD m []) off cs := by simp [List.getD_eq_getElem?_getD, hm]
            rw [e, splice_getD (by rw [h8 m hm]; omega)]
            by_cases hc : off ≤ j ∧ j < off + cs.length
            · rw [if_pos hc, if_pos (by omega)]
              have e2 : (l'.base + m) * k + j - ((l'.base + m) * k + off) = j - off := by omega
              rw [e2]
              exact (hcell _ (by omega)).2
            · rw [if_neg hc, if_neg (by omega)]
              exact h10 m j hm hj
          · have e : (xs.set i (splice (xs.getD i []) off cs)).getD m [] = xs.getD m [] := by
              simp [List.getD_eq_getElem?_getD, Ne.symm hmi]
            rw [e, if_neg ?_]
            · exact h10 m j hm hj
            · intro hc
              have : ∃ q, q < k ∧ (l'.base + m) * k + j = (l'.base + i) * k + q := ⟨(l'.base + m) * k + j - (l'.base + i) * k, by omega, by omega⟩
              obtain ⟨q, hq, he⟩ := this
              have := (idx_inj hj hq he).1
              omega
      · cases h
    · cases h
  · cases h
end
section
variable {P : Program} {M : Mem} {φ : Places} {G : Objs} {w : World} {H : Heap} {n : Nat}
def toV : PV → Value
  | .int k m => .int k m
  | .bool b => .bool b
  | .str s => .string s
  | _ => undef
theorem int_sound {op : BinOp} {k : IntKind} {a b : Int} {r : PV} {t : TypeId} (h : intV op k a b = some r) (hs : op ≠ .shl ∧ op ≠ .shr) :
    ∃ v, (binOp op t (.int k a) (.int k b)).run P w = .ok v w ∧ Rv M φ r v := by
  refine ⟨toV r, ?_⟩
  cases op <;> simp only [intV] at h <;> first
    | (cases h; exact ⟨by simp [binOp, Op.intArith, Op.intBits, Op.intCmp, toV], by constructor⟩)
    | (split at h
       · cases h
       · rename_i hb; cases h; exact ⟨by simp [binOp, Op.intDiv, hb, toV], by constructor⟩)
    | (cases h; done)
    | (simp at hs)
theorem shift_sound {op : BinOp} {k k' : IntKind} {a b : Int} {r : PV} {t : TypeId} (h : shiftV op k a b = some r) :
    ∃ v, (binOp op t (.int k a) (.int k' b)).run P w = .ok v w ∧ Rv M φ r v := by
  refine ⟨toV r, ?_⟩
  unfold shiftV at h
  split at h
  · cases h
  · rename_i hb
    cases op <;> simp only [] at h <;> first
      | (cases h; exact ⟨by simp [binOp, Op.shift, hb, toV], by constructor⟩)
      | cases h
theorem str_sound {op : BinOp} {a b : ByteArray} {r : PV} {t : TypeId} (h : strV op a b = some r) :
    ∃ v, (binOp op t (.string a) (.string b)).run P w = .ok v w ∧ Rv M φ r v := by
  refine ⟨toV r, ?_⟩
  cases op <;> simp only [strV] at h <;> first
    | (cases h; exact ⟨by simp [binOp, Op.stringOp, toV], by constructor⟩)
    | (cases h; done)
theorem bin_sound {op : BinOp} {p q r : PV} {a b : Value} {t : TypeId} (h : binV op p q = some r) (ha : Rv M φ p a) (hb : Rv M φ q b) :
    ∃ v, (binOp op t a b).run P w = .ok v w ∧ Rv M φ r v := by
  unfold binV at h
  split at h
  · rename_i k x k' y
    cases ha; cases hb
    by_cases hs : op ≠ .shl ∧ op ≠ .shr
    · have h' : (if k = k' then intV op k x y else none) = some r := by
        cases op <;> first | exact h | simp at hs
      split at h'
      · rename_i e; subst e; exact int_sound h' hs
      · cases h'
    · have h' : shiftV op k x y = some r := by
        cases op <;> first | exact h | simp at hs
      exact shift_sound h'
  · cases ha; cases hb; exact str_sound h
  · cases h
theorem guard_plain {op : BinOp} {p q r : PV} {a b : Value} {t : TypeId} {x y : Operand} (h : binV op p q = some r) (ha : Rv M φ p a) (hb : Rv M φ q b) :
    (eqGuard op t x y a b).run P w = .ok () w := by
  unfold binV at h
  split at h
  · cases ha; cases hb
    unfold eqGuard
    split <;> rfl
  · cases ha; cases hb
    unfold eqGuard
    split <;> rfl
  · cases h
def eqKind : TypeDesc → Option EqK
  | .bool => some .bool
  | .slice _ => some .slice
  | .map .. => some .map
  | .func .. => some .func
  | .pointer _ => some .ptr
  | _ => none
theorem nilEq_sound {kd : EqK} {p q : PV} {r : Bool} {a b : Value} {t : TypeId} {d : TypeDesc} (h : nilEq kd p q = some r) (ha : Rv M φ p a) (hb : Rv M φ q b)
    (hd : P.underlying t = some d) (hk : eqKind d = some kd) : (Op.equal t a b).run P w = .ok r w ∧ ∀ op x y, (eqGuard op t x y a b).run P w = .ok () w := by
  have hu : ∀ w, (underlying t).run P w = .ok d w := fun w => run_underlying' hd
  unfold nilEq at h
  split at h <;> first | (cases h; done) | skip
  all_goals
    cases h
    cases ha
    cases hb
    cases d <;> simp only [eqKind] at hk <;> first | (cases hk; done) | skip
    refine ⟨by rw [Op.equal, show Op.maxDepth = 9999 + 1 from rfl, Op.equalIn]; simp only [Sem.run_bind, hu, Result.andThen_ok]; rfl, fun op x y => ?_⟩
    unfold eqGuard
    split <;> rfl
theorem eqK_sound {kd : EqK} {neg : Bool} {op : BinOp} {p q : PV} {r : Bool} {a b : Value} {t : TypeId} {d : TypeDesc} (h : nilEq kd p q = some r) (ha : Rv M φ p a) (hb : Rv M φ q b)
    (hd : P.underlying t = some d) (hk : eqKind d = some kd) (hop : op = if neg then .neq else .eql) : (binOp op t a b).run P w = .ok (.bool (if neg then !r else r)) w := by
  have h0 := (nilEq_sound (w := w) h ha hb hd hk).1
  unfold nilEq at h
  cases neg <;> simp only [Bool.false_eq_true, if_false, if_true] at hop <;> subst hop
  all_goals
    split at h <;> first | (cases h; done) | skip
    all_goals
      cases ha
      cases hb
      simp [binOp, h0]
theorem un_sound {op : UnOp} {p r : PV} {a : Value} (h : unV op p = some r) (ha : Rv M φ p a) : ∃ v, (Op.unary op a).run P w = .ok v w ∧ Rv M φ r v := by
  refine ⟨toV r, ?_⟩
  unfold unV at h
  split at h <;> first
    | (cases h; cases ha; exact ⟨by simp [Op.unary, Op.intArith, Op.intBits, toV], by constructor⟩)
    | cases h
theorem conv_sound {k k' : IntKind} {src dst : TypeId} {m : Int} {ds : TypeDesc} (hs : P.underlying src = some ds) (hd : P.underlying dst = some (.int k)) :
    (convert src dst (.int k' m)).run P w = .ok (.int k (k.wrap m)) w := by
  cases ds <;> simp [convert, run_underlying' hs, run_underlying' hd, Conv.intToInt]
theorem convStr_sound {src dst : TypeId} {s : ByteArray} {ds : TypeDesc} (hs : P.underlying src = some ds) (hd : P.underlying dst = some .string) :
    (convert src dst (.string s)).run P w = .ok (.string s) w := by
  cases ds <;> simp [convert, run_underlying' hs, run_underlying' hd]
theorem field_dp {t : Bool} {cs : List PV} {o off : Nat} {v : Value} (h : Rv M φ (.dp t cs o) v) :
    ∃ a, v = .pointer (some a) ∧ Rv M φ (.dp t cs (o + off)) (.pointer (some (a.add off))) := by
  cases h with
  | dp _ _ _ b o' vs h0 h1 h2 h3 =>
    refine ⟨_, rfl, ?_⟩
    rw [cellOf_add, Nat.add_assoc]
    exact .dp t cs (o + off) b o' vs h0 h1 h2 h3
theorem field_ptr {id ver k i o off : Nat} {v : Value} (h : Rv M φ (.ptr id ver k i o) v) :
    ∃ a, v = .pointer (some a) ∧ Rv M φ (.ptr id ver k i (o + off)) (.pointer (some (a.add off))) := by
  cases h with
  | ptr _ _ _ _ _ l h1 h2 =>
    refine ⟨_, rfl, ?_⟩
    rw [cellOf_add, Nat.add_assoc]
    exact .ptr id ver k i (o + off) l h1 h2
theorem fieldPlace_run {a : Addr} {f : Field} {s : Nat} (hs : tySize P f.type = some s) (h0 : s ≠ 0) : (fieldPlace a f).run P w = .ok (a.add f.offset) w := by
  simp [fieldPlace, run_sizeOf' hs, h0]
theorem fieldAt_run {s : TypeId} {i : Nat} {a : Addr} {fs : Array Field} {f : Field} {sz : Nat} (hu : P.underlying s = some (.struct fs)) (hf : fs[i]? = some f)
    (hs : tySize P f.type = some sz) (h0 : sz ≠ 0) : (Instr.fieldAt s (.pointer (some a)) i).run P w = .ok (.pointer (some (a.add f.offset))) w := by
  simp [Instr.fieldAt, run_underlying' hu, hf, Instr.sureAddr, fieldPlace_run hs h0]
theorem part_sound {cs : List PV} {vs : Array Value} {off size : Nat} {g : Bool} {p : PV} {t : TypeId} (h : Rv M φ (.agg cs) (.agg vs)) (hp : partAt g cs off size = some p)
    (hg : tyAgg P t = some g) (hs : tySize P t = some size) : ∃ v, (part t vs off).run P w = .ok v w ∧ Rv M φ p v := by
  cases h with
  | agg _ _ h1 h2 h3 =>
    unfold partAt at hp
    split at hp
    · rename_i hlen
      cases g with
      | true =>
        simp only [if_true, Option.some.injEq] at hp
        subst hp
        refine ⟨.agg (vs.extract off (off + size)), by simp [part, run_isAgg' hg, run_sizeOf' hs], ?_⟩
        have hsz : ((cs.drop off).take size).length = size := by simp; omega
        have hget : ∀ j, j < size → (vs.extract off (off + size)).getD j undef = vs.getD (off + j) undef := by
          intro j hj
          have hlt : off + j < vs.size := by omega
          have hlt2 : j < (vs.extract off (off + size)).size := by simp; omega
          have hm : j < min (off + size) vs.size - off := by omega
          simp [Array.getD_eq_getD_getElem?, hlt, hm]
        refine .agg _ _ (by simp; omega) ?_ ?_
        · intro j hj
          rw [hsz] at hj
          rw [hget j hj]; exact h2 _ (by omega)
        · intro j hj
          rw [hsz] at hj
          rw [hget j hj, getD_take_drop hj]; exact h3 _ (by omega)
      | false =>
        simp only [Bool.false_eq_true, if_false] at hp
        split at hp
        · cases hp
          have hlt : off < vs.size := by omega
          obtain ⟨u, hu1, hu2⟩ : ∃ u, vs[off]? = some u ∧ u = vs.getD off undef := ⟨_, Array.getElem?_eq_getElem hlt, by simp [Array.getD, hlt]⟩
          exact ⟨u, by simp [part, run_isAgg' hg, hu1], by rw [hu2]; exact h3 off (by omega)⟩
        · cases hp
    · cases hp
theorem idx_data {k j : Nat} {xs : List (List PV)} {fl : Fl} {v : Value} (h : Rv M φ (.data k xs fl) v) (hj : j < xs.length) :
    ∃ b o cap, v = .slice (some (cellOf b o)) xs.length cap ∧ Rv M φ (.dp fl.isTmp (xs.getD j []) 0) (.pointer (some (cellOf b (o + j * k)))) := by
  cases h with
  | data _ _ _ b o cap vs h0 h1 h2 h3 h4 h5 h6 =>
    refine ⟨b, o, cap, rfl, ?_⟩
    have hk := h3 j hj
    refine .dp fl.isTmp (xs.getD j []) 0 b (o + j * k) (vs j) (h0 _ (getD_mem hj)) ?_ ?_ ?_
    · intro i hi; rw [hk] at hi; rw [Nat.add_assoc]; exact h4 j i hj hi
    · intro i hi; rw [hk] at hi; exact h5 j i hj hi
    · intro i hi; rw [hk] at hi; exact h6 j i hj hi
theorem idx_view {id ver k off len j : Nat} {cap : Option Nat} {v : Value} (h : Rv M φ (.view id ver k off len cap) v) (hj : j < len) :
    ∃ a cv, v = .slice (some a) len cv ∧ Rv M φ (.ptr id ver k (off + j) 0) (.pointer (some (a.add (j * k)))) := by
  cases h with
  | view _ _ _ _ _ _ l a cv h1 h2 h3 h4 h5 h6 h7 h8 =>
    refine ⟨a, cv, rfl, ?_⟩
    rw [h6 (by omega), cellOf_add]
    have e : (l.base + off) * k + j * k = (l.base + (off + j)) * k + 0 := by rw [← Nat.add_mul, Nat.add_assoc]; omega
    rw [e]
    exact .ptr id ver k (off + j) 0 l h1 h2
theorem indexAt_slice {t e : TypeId} {a : Addr} {len cap k : Nat} {kk : IntKind} {j : Int} (hu : P.underlying t = some (.slice e)) (hs : tySize P e = some k) (h0 : 0 ≤ j) (hj : j.toNat < len) :
    (Instr.indexAt t (.slice (some a) len cap) (.int kk j)).run P w = .ok (.pointer (some (a.add (j.toNat * k)))) w := by
  have : j < len := by omega
  simp [Instr.indexAt, asIntOf, run_underlying' hu, run_sizeOf' hs, h0, this]
theorem indexAt_array {t e : TypeId} {a : Addr} {len k : Nat} {kk : IntKind} {j : Int} (hu : P.underlying t = some (.array len e)) (hs : tySize P e = some k) (h0 : 0 ≤ j) (hj : j.toNat < len) :
    (Instr.indexAt t (.pointer (some a)) (.int kk j)).run P w = .ok (.pointer (some (a.add (j.toNat * k)))) w := by
  have : j < len := by omega
  simp [Instr.indexAt, asIntOf, run_underlying' hu, run_sizeOf' hs, h0, this, Instr.sureAddr]
def BoundR (d a : Nat) (v : Option Value) : Prop := v = none ∧ a = d ∨ ∃ k m, v = some (.int k m) ∧ 0 ≤ m ∧ a = Int.toNat m
theorem bound_sound {ρ : Src → PV} {d a : Nat} {x : Option Src} {v : Option Value} (h : bound ρ d x = some a)
    (hv : x = none ∧ v = none ∨ ∃ y u, x = some y ∧ v = some u ∧ Rv M φ (ρ y) u) : BoundR d a v := by
  rcases hv with ⟨rfl, rfl⟩ | ⟨y, u, rfl, rfl, hr⟩
  · simp only [bound, Option.some.injEq] at h; exact .inl ⟨rfl, h.symm⟩
  · simp only [bound] at h
    split at h
    · rename_i k m hy
      rw [hy] at hr
      cases hr
      split at h
      · rename_i h0; cases h; exact .inr ⟨k, m, rfl, h0, rfl⟩
      · cases h
    · cases h
theorem sliceBound_run {k : IntKind} {m : Int} {y : Nat} {code : BoundsCode} (h0 : 0 ≤ m) (h : m.toNat ≤ y) : (Instr.sliceBound (.int k m) y code).run P w = .ok m.toNat w := by
  have : m ≤ y := by omega
  simp [Instr.sliceBound, asIntOf, h0, this]
theorem bounds_run {isSlice : Bool} {len cap a b m : Nat} {lo hi mx : Option Value} (hlo : BoundR 0 a lo) (hhi : BoundR len b hi) (hmx : BoundR cap m mx) (hh : hi = none → mx = none)
    (h1 : a ≤ b) (h2 : b ≤ m) (h3 : m ≤ cap) : (Instr.sliceBounds isSlice len cap lo hi mx).run P w = .ok (a, b, m) w := by
  rcases hmx with ⟨rfl, rfl⟩ | ⟨k3, m3, rfl, g3, rfl⟩
  · rcases hhi with ⟨rfl, rfl⟩ | ⟨k2, m2, rfl, g2, rfl⟩
    · rcases hlo with ⟨rfl, rfl⟩ | ⟨k1, m1, rfl, g1, rfl⟩
      · simp [Instr.sliceBounds]
      · simp [Instr.sliceBounds, sliceBound_run g1 h1]
    · rcases hlo with ⟨rfl, rfl⟩ | ⟨k1, m1, rfl, g1, rfl⟩
      · simp [Instr.sliceBounds, sliceBound_run g2 h2]
      · simp [Instr.sliceBounds, sliceBound_run g2 h2, sliceBound_run g1 h1]
  · rcases hhi with ⟨rfl, rfl⟩ | ⟨k2, m2, rfl, g2, rfl⟩
    · exact absurd (hh rfl) (by simp)
    · rcases hlo with ⟨rfl, rfl⟩ | ⟨k1, m1, rfl, g1, rfl⟩
      · simp [Instr.sliceBounds, sliceBound_run g3 h3, sliceBound_run g2 h2]
      · simp [Instr.sliceBounds, sliceBound_run g3 h3, sliceBound_run g2 h2, sliceBound_run g1 h1]
theorem slice_run {t e : TypeId} {x : Option Addr} {len cap a b m k : Nat} {lo hi mx : Option Value} (hu : P.underlying t = some (.slice e)) (hs : tySize P e = some k)
    (hlo : BoundR 0 a lo) (hhi : BoundR len b hi) (hmx : BoundR cap m mx) (hh : hi = none → mx = none) (h1 : a ≤ b) (h2 : b ≤ m) (h3 : m ≤ cap) :
    (Instr.sliceAt t (.slice x len cap) lo hi mx).run P w = .ok (.slice (if m = a then x else x.map (·.add (a * k))) (b - a) (m - a)) w := by
  simp [Instr.sliceAt, Instr.slice, run_underlying' hu, run_sizeOf' hs, bounds_run hlo hhi hmx hh h1 h2 h3]
theorem substr_run {t : TypeId} {s : ByteArray} {a b : Nat} {lo hi : Option Value} (hu : P.underlying t = some .string)
    (hlo : BoundR 0 a lo) (hhi : BoundR s.size b hi) (h1 : a ≤ b) (h2 : b ≤ s.size) :
    (Instr.sliceAt t (.string s) lo hi none).run P w = .ok (.string (s.extract a b)) w := by
  have := bounds_run (P := P) (w := w) (isSlice := false) hlo hhi (.inl ⟨rfl, rfl⟩) (fun _ => rfl) h1 h2 (Nat.le_refl _)
  simp [Instr.sliceAt, Instr.slice, run_underlying' hu, this]
theorem data_sub {k lo c : Nat} {xs : List (List PV)} {fl fl' : Fl} {b o cap' : Nat} {vs : Nat → Nat → Value} (h0 : ∀ x ∈ xs, ∀ c ∈ x, Cl fl.isTmp c)
    (h3 : ∀ i, i < xs.length → (xs.getD i []).length = k) (h4 : ∀ i j, i < xs.length → j < k → M fl.isTmp (cellOf b (o + (i * k + j))) = some (vs i j))
    (h5 : ∀ i j, i < xs.length → j < k → one (vs i j) = true) (h6 : ∀ i j, i < xs.length → j < k → Rv M φ ((xs.getD i []).getD j .any) (vs i j))
    (hc : lo + c ≤ xs.length) (htmp : fl'.isTmp = fl.isTmp) (hcap : c ≤ cap') (hfull : fl' = .full → cap' = c) :
    Rv M φ (.data k ((xs.drop lo).take c) fl') (.slice (some (cellOf b (o + lo * k))) c cap') := by
  have hlen : ((xs.drop lo).take c).length = c := by simp; omega
  have hget : ∀ i, i < c → ((xs.drop lo).take c).getD i [] = xs.getD (lo + i) [] := by
    intro i hi
    simp [List.getD_eq_getElem?_getD, hi, List.getElem?_drop]
  have := Rv.data (M := M) (φ := φ) k ((xs.drop lo).take c) fl' b (o + lo * k) cap' (fun i j => vs (lo + i) j) (by
      intro x hx c' hc'; rw [htmp]; exact h0 x (List.mem_of_mem_drop (List.mem_of_mem_take hx)) c' hc') (by omega) (by intro e; rw [hlen]; exact hfull e)
    (fun i hi => by rw [hlen] at hi; rw [hget i hi]; exact h3 _ (by omega))
    (fun i j hi hj => by
      rw [hlen] at hi; rw [htmp]
      have := h4 (lo + i) j (by omega) hj
      rw [Nat.add_mul] at this
      have e : o + (lo * k + i * k + j) = o + lo * k + (i * k + j) := by omega
      rw [← e]; exact this)
    (fun i j hi hj => by rw [hlen] at hi; exact h5 _ _ (by omega) hj)
    (fun i j hi hj => by rw [hlen] at hi; rw [hget i hi]; exact h6 _ _ (by omega) hj)
  rw [hlen] at this
  exact this
theorem Fl.sub_tmp (fl : Fl) (b : Bool) : (fl.sub b).isTmp = fl.isTmp := by cases fl <;> cases b <;> rfl
theorem Fl.cut_tmp (fl : Fl) (b : Bool) : (fl.cut b).isTmp = fl.isTmp := by cases fl <;> cases b <;> rfl
theorem Fl.sub_full {fl : Fl} {b : Bool} (h : fl.sub b = .full) : fl = .full ∧ b = true := by cases fl <;> cases b <;> simp_all [Fl.sub]
theorem Fl.cut_full {fl : Fl} {b : Bool} (h : fl.cut b = .full) : b = true := by cases fl <;> cases b <;> simp_all [Fl.cut]
theorem slice_sound {t e : TypeId} {k l a b m0 : Nat} {p r : PV} {v : Value} {lo hi mx : Option Value} (hu : P.underlying t = some (.slice e)) (hs : tySize P e = some k)
    (hl : lenV p = some l) (hv : Rv M φ p v) (hr : sliceV k p a b (mx.map fun _ => m0) = some r) (hlo : BoundR 0 a lo) (hhi : BoundR l b hi) (hmx : mx = none ∨ BoundR 0 m0 mx)
    (hh : hi = none → mx = none) : ∃ u, (Instr.sliceAt t v lo hi mx).run P w = .ok u w ∧ Rv M φ r u := by
  have hmx' : ∀ cap, mx = none → BoundR cap cap mx := fun cap e => .inl ⟨e, rfl⟩
  have hmx'' : ∀ cap, mx ≠ none → BoundR cap m0 mx := by
    intro cap e
    rcases hmx with h | h
    · exact absurd h e
    · rcases h with ⟨h, _⟩ | h
      · exact absurd h e
      · exact .inr h
  cases hv <;> simp only [sliceV] at hr <;> first | (cases hr; done) | skip
  case nils =>
    simp only [lenV, Option.some.injEq] at hl
    subst hl
    split at hr
    · rename_i hc
      cases hr
      obtain ⟨rfl, rfl, hm⟩ := hc
      cases mx with
      | none =>
        exact ⟨_, slice_run hu hs hlo hhi (hmx' 0 rfl) hh (Nat.le_refl _) (Nat.le_refl _) (Nat.le_refl _), by simp; exact .nils⟩
      | some x =>
        simp at hm
        subst hm
        exact ⟨_, slice_run hu hs hlo hhi (hmx'' 0 (by simp)) hh (Nat.le_refl _) (Nat.le_refl _) (Nat.le_refl _), by simp; exact .nils⟩
    · cases hr
  case data k' xs fl b' o cap vs h0 h1 h2 h3 h4 h5 h6 =>
    simp only [lenV, Option.some.injEq] at hl
    subst hl
    split at hr
    · rename_i hc
      obtain ⟨rfl, hab, hb⟩ := hc
      have hlow : (xs.drop a).take (b - a) = (xs.drop a).take (b - a) := rfl
      cases mx with
      | none =>
        simp only [Option.map_none, Option.some.injEq] at hr
        subst hr
        refine ⟨_, slice_run hu hs hlo hhi (hmx' cap rfl) hh hab (by omega) (Nat.le_refl _), ?_⟩
        have hflag : (fl.sub (b == xs.length)).isTmp = fl.isTmp := by
          exact Fl.sub_tmp _ _
        have hfull : (fl.sub (b == xs.length)) = .full → cap - a = b - a := by
          intro e
          obtain ⟨e1, e2⟩ := Fl.sub_full e
          have := h2 e1
          simp at e2
          omega
        by_cases hca : cap = a
        · have hzero : b - a = 0 := by omega
          rw [if_pos hca]
          have := data_sub (M := M) (φ := φ) (k := k) (lo := 0) (c := 0) (xs := (xs.drop a).take (b - a)) (fl := fl) (fl' := fl.sub (b == xs.length)) (b := b') (o := o) (cap' := cap - a) (vs := vs)
            (fun x hx c hc => h0 x (List.mem_of_mem_drop (List.mem_of_mem_take hx)) c hc) (fun i hi => by simp [hzero] at hi) (fun i j hi _ => by simp [hzero] at hi) (fun i j hi _ => by simp [hzero] at hi) (fun i j hi _ => by simp [hzero] at hi)
            (by omega) hflag (by omega) (by intro e; have := hfull e; omega)
          simpa [hzero] using this
        · rw [if_neg hca]
          have := data_sub (M := M) (φ := φ) (k := k) (lo := a) (c := b - a) (fl := fl) (fl' := fl.sub (b == xs.length)) (cap' := cap - a) h0 h3 h4 h5 h6 (by omega) hflag (by omega) hfull
          simpa [cellOf_add] using this
      | some x =>
        simp only [Option.map_some] at hr
        split at hr
        · rename_i hm
          cases hr
          refine ⟨_, slice_run hu hs hlo hhi (hmx'' cap (by simp)) hh hab hm.1 (by omega), ?_⟩
          have hflag : (fl.cut (m0 == b)).isTmp = fl.isTmp := by
            exact Fl.cut_tmp _ _
          have hfull : (fl.cut (m0 == b)) = .full → m0 - a = b - a := by
            intro e
            have := Fl.cut_full e
            simp at this
            omega
          by_cases hca : m0 = a
          · have hzero : b - a = 0 := by omega
            rw [if_pos hca]
            have := data_sub (M := M) (φ := φ) (k := k) (lo := 0) (c := 0) (xs := (xs.drop a).take (b - a)) (fl := fl) (fl' := fl.cut (m0 == b)) (b := b') (o := o) (cap' := m0 - a) (vs := vs)
              (fun x hx c hc => h0 x (List.mem_of_mem_drop (List.mem_of_mem_take hx)) c hc) (fun i hi => by simp [hzero] at hi) (fun i j hi _ => by simp [hzero] at hi) (fun i j hi _ => by simp [hzero] at hi) (fun i j hi _ => by simp [hzero] at hi)
              (by omega) hflag (by omega) (by intro e; have := hfull e; omega)
            simpa [hzero] using this
          · rw [if_neg hca]
            have := data_sub (M := M) (φ := φ) (k := k) (lo := a) (c := b - a) (fl := fl) (fl' := fl.cut (m0 == b)) (cap' := m0 - a) h0 h3 h4 h5 h6 (by omega) hflag (by omega) hfull
            simpa [cellOf_add] using this
        · cases hr
    · cases hr
  case view id ver k' off len cap lc ad cv h1 h2 h3 h4 h5 h6 h7 h8 =>
    simp only [lenV, Option.some.injEq] at hl
    subst hl
    split at hr
    · rename_i hc
      obtain ⟨rfl, hab⟩ := hc
      have key : ∀ (m : Nat) (cap' : Option Nat), BoundR cv m mx → b ≤ m → m ≤ cv → (∀ c, cap' = some c → m - a = c) → (cap' = none → m = cv ∧ cap = none) →
          ∃ u, (Instr.sliceAt t (.slice (some ad) len cv) lo hi mx).run P w = .ok u w ∧ Rv M φ (.view id ver k (off + a) (b - a) cap') u := by
        intro m cap' hm hbm hmc hc1 hc2
        have hrun := slice_run (P := P) (w := w) (x := some ad) hu hs hlo hhi hm hh hab hbm hmc
        have key2 : ∃ ad', (if m = a then some ad else (some ad).map (·.add (a * k))) = some ad' ∧ (m - a ≠ 0 → ad' = cellOf lc.block ((lc.base + (off + a)) * k)) ∧ ad'.spot = none := by
          by_cases hma : m = a
          · exact ⟨ad, by simp [hma], fun hne => absurd (by omega) hne, h8⟩
          · have hadd : ad.add (a * k) = cellOf lc.block ((lc.base + (off + a)) * k) := by rw [h6 (by omega), cellOf_add, ← Nat.add_mul, Nat.add_assoc]
            exact ⟨ad.add (a * k), by simp [hma], fun _ => hadd, by rw [hadd]; rfl⟩
        obtain ⟨ad', e1, e2, e3'⟩ := key2
        rw [e1] at hrun
        refine ⟨_, hrun, .view id ver k (off + a) (b - a) cap' lc ad' (m - a) h1 h2 (by omega) hc1 ?_ e2 (by omega) e3'⟩
        intro hn
        obtain ⟨e3, e4⟩ := hc2 hn
        have := h5 e4
        omega
      split at hr
      · rename_i hmn
        have hmx0 : mx = none := by simpa using hmn
        split at hr
        · cases hr
          exact key cv none (hmx' cv hmx0) (by omega) (Nat.le_refl _) (fun c e => by cases e) (fun _ => ⟨rfl, rfl⟩)
        · cases hr
      · rename_i c hmn
        have hmx0 : mx = none := by simpa using hmn
        have hcv := h4 c rfl
        split at hr
        · cases hr
          exact key cv (some (c - a)) (hmx' cv hmx0) (by omega) (Nat.le_refl _) (fun c' e => by cases e; omega) (fun e => by cases e)
        · cases hr
      · rename_i m c hmn
        have hmx0 : mx ≠ none := by intro e; simp [e] at hmn
        have hm0 : m0 = m := by cases mx <;> simp at hmn; exact hmn
        subst hm0
        have hcv := h4 c rfl
        split at hr
        · rename_i hm
          cases hr
          exact key m0 (some (m0 - a)) (hmx'' cv hmx0) hm.1 (by omega) (fun c' e => by cases e; rfl) (fun e => by cases e)
        · cases hr
      · rename_i m hmn
        have hmx0 : mx ≠ none := by intro e; simp [e] at hmn
        have hm0 : m0 = m := by cases mx <;> simp at hmn; exact hmn
        subst hm0
        split at hr
        · rename_i hm
          cases hr
          exact key m0 (some (m0 - a)) (hmx'' cv hmx0) hm.1 (by omega) (fun c' e => by cases e; rfl) (fun e => by cases e)
        · cases hr
    · cases hr
end
def AggR (M : Mem) (φ : Places) (cs : List PV) (vs : Array Value) : Prop :=
  vs.size = cs.length ∧ ∀ j, j < cs.length → one (vs.getD j undef) = true ∧ Rv M φ (cs.getD j .any) (vs.getD j undef)
theorem AggR.agg {M : Mem} {φ : Places} {cs : List PV} {vs : Array Value} (h : AggR M φ cs vs) : Rv M φ (.agg cs) (.agg vs) :=
  .agg cs vs h.1 (fun j hj => (h.2 j hj).1) (fun j hj => (h.2 j hj).2)
theorem zipFold_list (off : Nat) : ∀ (l : List Value) (k : Nat) (cells : Array Value),
    ((l.zipIdx k).foldl (fun cs (p : Value × Nat) => cs.setIfInBounds (off + p.2) p.1) cells).size = cells.size ∧
    ∀ x, x < cells.size → ((l.zipIdx k).foldl (fun cs (p : Value × Nat) => cs.setIfInBounds (off + p.2) p.1) cells).getD x undef =
      if off + k ≤ x ∧ x < off + k + l.length then l.getD (x - (off + k)) undef else cells.getD x undef
  | [], k, cells => ⟨rfl, fun x hx => by simp only [List.zipIdx_nil, List.foldl_nil, List.length_nil, Nat.add_zero]; rw [if_neg (by omega)]⟩
  | v :: l, k, cells => by
    obtain ⟨h1, h2⟩ := zipFold_list off l (k + 1) (cells.setIfInBounds (off + k) v)
    simp only [List.zipIdx_cons, List.foldl_cons]
    refine ⟨by simpa using h1, fun x hx => ?_⟩
    rw [h2 x (by simpa using hx)]
    by_cases hx1 : x = off + k
    · subst hx1
      rw [if_neg (by omega), if_pos (by simp)]
      simp [Array.getD_eq_getD_getElem?, hx]
    · by_cases hx2 : off + (k + 1) ≤ x ∧ x < off + (k + 1) + l.length
      · rw [if_pos hx2, if_pos (by simp; omega)]
        have e : x - (off + k) = (x - (off + (k + 1))) + 1 := by omega
        rw [e]; simp
      · rw [if_neg hx2, if_neg (by simp; omega)]
        simp only [Array.getD_eq_getD_getElem?, Array.getElem?_setIfInBounds]
        rw [if_neg (Ne.symm hx1)]
theorem zipFold (off : Nat) (vs cells : Array Value) :
    (vs.zipIdx.foldl (fun cs (p : Value × Nat) => cs.setIfInBounds (off + p.2) p.1) cells).size = cells.size ∧
    ∀ x, x < cells.size → (vs.zipIdx.foldl (fun cs (p : Value × Nat) => cs.setIfInBounds (off + p.2) p.1) cells).getD x undef =
      if off ≤ x ∧ x < off + vs.size then vs.getD (x - off) undef else cells.getD x undef := by
  have := zipFold_list off vs.toList 0 cells
  rw [← Array.foldl_toList, Array.toList_zipIdx]
  simpa [getD_toList] using this
inductive Al (ρ : Src → PV) (M : Mem) (φ : Places) (place : Nat → Option (Nat × Nat)) : List (Nat × Nat × Src) → List (Nat × Value) → Prop
  | nil : Al ρ M φ place [] []
  | cons (off size i : Nat) (x : Src) (v : Value) (r : List (Nat × Nat × Src)) (rs : List (Nat × Value)) : place i = some (off, size) → Rv M φ (ρ x) v → Al ρ M φ place r rs →
      Al ρ M φ place ((off, size, x) :: r) ((i, v) :: rs)
theorem fill_sound {ρ : Src → PV} {M : Mem} {φ : Places} {place : Nat → Option (Nat × Nat)} {ps : List (Nat × Nat × Src)} {rs : List (Nat × Value)} (h : Al ρ M φ place ps rs) :
    ∀ {cs cs' : List PV} {cells : Array Value}, fillP ρ ps cs = some cs' → AggR M φ cs cells → ∃ cells', Instr.fill place cells rs = some cells' ∧ AggR M φ cs' cells' := by
  induction h with
  | nil => intro cs cs' cells h hc; cases h; exact ⟨cells, rfl, hc⟩
  | cons off size i x v r rs hp hv hr ih =>
    intro cs cs' cells h hc
    simp only [fillP] at h
    split at h
    · rename_i vs hvs
      split at h
      · rename_i hlen
        obtain ⟨hsz, hcell⟩ := cells_sound hvs hv
        obtain ⟨z1, z2⟩ := zipFold off v.cells cells
        have hfit : off + vs.length ≤ cs.length := by omega
        have hnew : AggR M φ (splice cs off vs) (v.cells.zipIdx.foldl (fun cs (p : Value × Nat) => cs.setIfInBounds (off + p.2) p.1) cells) := by
          refine ⟨by rw [z1, splice_length hfit]; exact hc.1, fun j hj => ?_⟩
          rw [splice_length hfit] at hj
          rw [z2 j (by rw [hc.1]; exact hj), splice_getD hfit, hsz]
          split
          · rename_i hc2; exact hcell _ (by omega)
          · exact hc.2 j hj
        obtain ⟨cells', e1, e2⟩ := ih h hnew
        refine ⟨cells', ?_, e2⟩
        simp only [Instr.fill, hp]
        have hno : ¬ (v.cells.size ≠ size ∨ off + v.cells.size > cells.size) := by rw [hsz, hc.1]; omega
        simp only [Bool.or_eq_true, decide_eq_true_eq]
        rw [if_neg (by simpa using hno)]
        exact e1
      · cases h
    · cases h
def GridR (M : Mem) (φ : Places) (k : Nat) (xs : List (List PV)) (c : Nat → Value) : Prop :=
  (∀ i, i < xs.length → (xs.getD i []).length = k) ∧ ∀ i j, i < xs.length → j < k → one (c (i * k + j)) = true ∧ Rv M φ ((xs.getD i []).getD j .any) (c (i * k + j))
inductive AlS (ρ : Src → PV) (M : Mem) (φ : Places) : List (Nat × Src) → List (Nat × Value) → Prop
  | nil : AlS ρ M φ [] []
  | cons (i : Nat) (x : Src) (v : Value) (r : List (Nat × Src)) (rs : List (Nat × Value)) : Rv M φ (ρ x) v → AlS ρ M φ r rs → AlS ρ M φ ((i, x) :: r) ((i, v) :: rs)
theorem getD_set_list {xs : List (List PV)} {i m : Nat} {v : List PV} (hi : i < xs.length) : (xs.set i v).getD m [] = if m = i then v else xs.getD m [] := by
  simp only [List.getD_eq_getElem?_getD, List.getElem?_set]
  by_cases h : i = m
  · subst h; simp [hi]
  · simp [h, Ne.symm h]
theorem fillS_sound {ρ : Src → PV} {M : Mem} {φ : Places} {k : Nat} (_ : 0 < k) {ps : List (Nat × Src)} {rs : List (Nat × Value)} (h : AlS ρ M φ ps rs) :
    ∀ {xs xs' : List (List PV)} {cells : Array Value}, fillS ρ k ps xs = some xs' → cells.size = xs.length * k → GridR M φ k xs (fun x => cells.getD x undef) →
      ∃ cells', Instr.fill (fun i => some (i * k, k)) cells rs = some cells' ∧ cells'.size = cells.size ∧ xs'.length = xs.length ∧ GridR M φ k xs' (fun x => cells'.getD x undef) := by
  induction h with
  | nil => intro xs xs' cells h hc hg; cases h; exact ⟨cells, rfl, rfl, rfl, hg⟩
  | cons i x v r rs hv hr ih =>
    intro xs xs' cells h hc hg
    simp only [fillS] at h
    split at h
    · rename_i vs hvs
      split at h
      · rename_i hlen
        obtain ⟨hsz, hcell⟩ := cells_sound hvs hv
        obtain ⟨z1, z2⟩ := zipFold (i * k) v.cells cells
        have hfit : i * k + k ≤ xs.length * k := by
          have : (i + 1) * k ≤ xs.length * k := Nat.mul_le_mul_right k (by omega)
          rw [Nat.add_mul] at this; omega
        have hnew : GridR M φ k (xs.set i vs) (fun x => (v.cells.zipIdx.foldl (fun cs (p : Value × Nat) => cs.setIfInBounds (i * k + p.2) p.1) cells).getD x undef) := by
          refine ⟨fun m hm => ?_, fun m j hm hj => ?_⟩
          · rw [getD_set_list hlen.2]
            split
            · exact hlen.1
            · exact hg.1 m (by simpa using hm)
          · simp only [List.length_set] at hm
            rw [getD_set_list hlen.2]
            have hmk : m * k + j < cells.size := by
              rw [hc]
              have : (m + 1) * k ≤ xs.length * k := Nat.mul_le_mul_right k (by omega)
              rw [Nat.add_mul] at this; omega
            dsimp only
            rw [z2 _ hmk, hsz]
            by_cases hmi : m = i
            · subst hmi
              rw [if_pos (by omega), if_pos rfl]
              have e : m * k + j - m * k = j := by omega
              rw [e]; exact hcell j (by omega)
            · rw [if_neg ?_, if_neg hmi]
              · exact hg.2 m j hm hj
              · intro hc2
                obtain ⟨q, hq, he⟩ : ∃ q, q < k ∧ m * k + j = i * k + q := ⟨m * k + j - i * k, by omega, by omega⟩
                exact hmi (idx_inj hj hq he).1
        obtain ⟨cells', e1, e2, e3, e4⟩ := ih h (by rw [z1, hc, List.length_set]) hnew
        refine ⟨cells', ?_, by rw [e2, z1], by simpa using e3, e4⟩
        simp only [Instr.fill]
        have hno : ¬ (v.cells.size ≠ k ∨ i * k + v.cells.size > cells.size) := by rw [hsz, hc]; omega
        simp only [Bool.or_eq_true, decide_eq_true_eq]
        rw [if_neg (by simpa using hno)]
        exact e1
      · cases h
    · cases h
section
variable {P : Program} {M : Mem} {φ : Places} {G : Objs} {w : World} {H : Heap} {n : Nat}
theorem build_sound {ρ : Src → PV} {t : TypeId} {fs : Array Field} {i : TypeInfo} {z : Value} {zero cs : List PV} {ps : List (Nat × Nat × Src)} {parts : Array (Nat × Value)}
    (hu : P.underlying t = some (.struct fs)) (hi : P.info? t = some i) (hz : i.zero = some z) (hzc : AggR M φ zero z.cells) (szs : Array (Nat × Nat))
    (hsz : ∀ w, (fs.mapM fun f => do pure (f.offset, ← sizeOf f.type) : Sem (Array (Nat × Nat))).run P w = .ok szs w) (hal : Al ρ M φ (szs[·]?) ps parts.toList)
    (hf : fillP ρ ps zero = some cs) : ∃ v, (Instr.build t parts).run P w = .ok v w ∧ Rv M φ (.agg cs) v := by
  obtain ⟨cells', e1, e2⟩ := fill_sound hal hf hzc
  refine ⟨.agg cells', ?_, e2.agg⟩
  have e1' : Instr.fill (fun x => szs[x]?) z.cells parts.toList = some cells' := e1
  unfold Instr.build
  simp only [Sem.run_bind, run_zero' hi hz, Result.andThen_ok, run_underlying' hu]
  rw [hsz w]
  simp only [Result.andThen_ok, e1']
  rfl
theorem cl_of_flat {p : PV} {v : Value} (h : flat p = true) (hv : Rv M φ p v) : Cl false p := by
  cases hv <;> simp only [flat] at h <;> first
    | (cases h; done)
    | (constructor; done)
    | skip
  case dp t cs off b o vs h0 h1 h2 h3 => cases t <;> simp at h; exact .dp false false cs off (by simp) h0
  case data k xs fl b o cap vs h0 h1 h2 h3 h4 h5 h6 =>
    have hf : fl.isTmp = false := by simpa using h
    refine .data false k xs fl (by rw [hf]; simp) h0
  case func f first caps fs cs h1 h2 h3 h4 =>
    cases first <;> cases caps <;> simp at h
    exact .func false f [] [] (by simp) (by simp)
theorem cl_of_flatT {p : PV} {v : Value} (h : flatT p = true) (hv : Rv M φ p v) : Cl true p := by
  cases hv <;> simp only [flatT] at h <;> first
    | (cases h; done)
    | (constructor; done)
    | skip
  case dp t cs off b o vs h0 h1 h2 h3 => exact .dp true t cs off (by simp) h0
  case data k xs fl b o cap vs h0 h1 h2 h3 h4 h5 h6 => exact .data true k xs fl (by simp) h0
  case func f first caps fs cs h1 h2 h3 h4 =>
    cases first <;> cases caps <;> simp at h
    exact .func true f [] [] (by simp) (by simp)
theorem Post.lay {p : PV} {v : Value} (h : WR M φ G w) (t : Bool) (o : Go.Obj) (hv : Rv (M.add t w.heap.size (w.alloc o)) φ p v) :
    Post M φ G n w ⟨p, H, n, .no⟩ v (w.alloc o) := by
  obtain ⟨h1, h2⟩ := h.lay (n := n) t o
  exact ⟨_, φ, G, hv, h1, h2, fun id hid => by simp [Fp.on, Fp.no] at hid, fun _ _ => rfl, fun _ _ _ => rfl, fun _ _ _ h => h, fun _ _ _ _ => rfl⟩
theorem heap_new (w : World) (o : Go.Obj) : (w.alloc o).heap[w.heap.size]? = some o := by
  show (w.heap.push o)[w.heap.size]? = some o
  simp
theorem objr_new {xs : List (List PV)} {k tot : Nat} {c : Array Value} {T : TypeId} (hk : 0 < k) (hn : ∀ v, φ n v = none) (hg : GridR M φ k xs (fun x => c.getD x undef))
    (hsz : tot * k ≤ c.size) (htot : xs.length ≤ tot) (hM : ∀ p v, Rv M φ p v → Rv M (φ.set n 0 ⟨w.heap.size, 0, k, tot⟩) p v) :
    ObjR M (φ.set n 0 ⟨w.heap.size, 0, k, tot⟩) n (w.alloc (.cells c T)) (.arr 0 k xs) := by
  refine .arr 0 k xs ⟨w.heap.size, 0, k, tot⟩ c T (φ.set_at n 0 _) rfl hk (fun v hv => by rw [φ.set_ver n 0 _ n v (by omega)]; exact hn v) (heap_new w _) hsz (by simpa using htot) hg.1 ?_ ?_
  · intro i j hi hj; simp only [Nat.zero_add]; exact (hg.2 i j hi hj).1
  · intro i j hi hj; simp only [Nat.zero_add]; exact hM _ _ (hg.2 i j hi hj).2
theorem rv_set (hn : ∀ v, φ n v = none) (l : Loc) (p : PV) (v : Value) (h : Rv M φ p v) : Rv M (φ.set n 0 l) p v := h.mono (.refl M) (φ.le_set n 0 l (hn 0))
theorem getD_cells1 (cs : List PV) (i : Nat) (hi : i < [cs].length) : [cs].getD i [] = cs := by
  obtain rfl : i = 0 := by simpa using hi
  rfl
theorem box_sound {ρ : Src → PV} {obj : Bool} {x : Src} {e : TypeId} {v : Value} {r : Res} {cf : CallF} (h : evalOp cf (.box obj x) ρ H n = some r) (hr : Ready M φ G w H n r) (hv : Rv M φ (ρ x) v) :
    ∃ u w', (newVar e v).run P w = .ok u w' ∧ Post M φ G n w r (.pointer (some u)) w' := by
  simp only [evalOp] at h
  split at h
  · rename_i cs hcs
    obtain ⟨hsz, hcell⟩ := cells_sound hcs hv
    have hrun : (newVar e v).run P w = .ok (cellOf w.heap.size 0) (w.alloc (.cells v.cells e)) := by simp [newVar, newRow, cellOf]
    split at h
    · cases h
    · rename_i hne
      have hk : 0 < cs.length := by cases cs <;> simp_all
      split at h
      · cases h
        refine ⟨_, _, hrun, ?_⟩
        have hn : ∀ v, φ n v = none := fun v => hr.fresh n (Nat.le_refl _) (.inr (by simp)) v
        refine Post.new (rd := []) (l' := ⟨w.heap.size, 0, cs.length, 1⟩) hr.wr rfl hn _ rfl ?_ ?_
        · refine objr_new hk hn ⟨fun i hi => by rw [getD_cells1 cs i hi], fun i j hi hj => ?_⟩ (by simp; omega) (by simp) (rv_set hn _)
          obtain rfl : i = 0 := by simpa using hi
          simp only [Nat.zero_mul, Nat.zero_add]
          exact hcell j hj
        · have := Rv.ptr (M := M) (φ := φ.set n 0 ⟨w.heap.size, 0, cs.length, 1⟩) n 0 cs.length 0 0 ⟨w.heap.size, 0, cs.length, 1⟩ (φ.set_at n 0 _) rfl
          simpa using this
      · have key : ∀ t : Bool, (∀ c ∈ cs, Cl t c) → Rv (M.add t w.heap.size (w.alloc (.cells v.cells e))) φ (.dp t cs 0) (.pointer (some (cellOf w.heap.size 0))) := by
          intro t ht
          refine .dp t cs 0 w.heap.size 0 (fun j => v.cells.getD j undef) ht (fun j hj => ?_) (fun j hj => (hcell j hj).1) (fun j hj => ?_)
          · rw [Nat.zero_add]; exact M.add_at t w v.cells e j (by omega)
          · exact (hcell j hj).2.mono (hr.wr.lay (n := n) t (.cells v.cells e)).2.mem (.refl φ)
        have hget : ∀ c ∈ cs, ∃ u, Rv M φ c u := by
          intro c hc
          obtain ⟨j, hj, rfl⟩ := List.getElem_of_mem hc
          refine ⟨v.cells.getD j undef, ?_⟩
          have := (hcell j hj).2
          simpa [List.getD_eq_getElem?_getD, List.getElem?_eq_getElem hj] using this
        split at h
        · rename_i hf
          cases h
          refine ⟨_, _, hrun, Post.lay hr.wr false _ (key false (fun c hc => ?_))⟩
          obtain ⟨u, hu⟩ := hget c hc
          exact cl_of_flat (List.all_eq_true.1 hf c hc) hu
        · split at h
          · rename_i hf
            cases h
            refine ⟨_, _, hrun, Post.lay hr.wr true _ (key true (fun c hc => ?_))⟩
            obtain ⟨u, hu⟩ := hget c hc
            exact cl_of_flatT (List.all_eq_true.1 hf c hc) hu
          · cases h
  · cases h
theorem range_map_getD {α : Type} [Inhabited α] (m : Nat) (f : Nat → Value) (x : Nat) (hx : x < m) : ((Array.range m).map f).getD x undef = f x := by
  simp [Array.getD, hx]
theorem zero_grid {k : Nat} {zero : List PV} {z : Value} (_ : 0 < k) (hz : AggR M φ zero z.cells) (hl : zero.length = k) (len : Nat) :
    GridR M φ k (List.replicate len zero) (fun x => ((Array.range (len * k)).map (fun x => z.cells[x % z.cells.size]!)).getD x undef) := by
  have hrep : ∀ i, i < len → (List.replicate len zero).getD i [] = zero := by
    intro i hi; simp [List.getD_eq_getElem?_getD, hi]
  refine ⟨fun i hi => by simp at hi; rw [hrep i hi]; exact hl, fun i j hi hj => ?_⟩
  simp at hi
  have hlt : i * k + j < len * k := by
    have : (i + 1) * k ≤ len * k := Nat.mul_le_mul_right k (by omega)
    rw [Nat.add_mul] at this; omega
  have hzs : z.cells.size = k := by rw [hz.1, hl]
  have hmod : (i * k + j) % z.cells.size = j := by rw [hzs, Nat.mul_comm, Nat.mul_add_mod, Nat.mod_eq_of_lt hj]
  have hval : ((Array.range (len * k)).map (fun x => z.cells[x % z.cells.size]!)).getD (i * k + j) undef = z.cells.getD j undef := by
    have hj' : j < z.cells.size := by omega
    rw [range_map_getD (α := Nat) _ _ _ hlt, hmod]
    simp [getElem!_pos, hj', Array.getD]
  simp only [hval, hrep i hi]
  exact hz.2 j (by omega)
theorem bslice_sound {ρ : Src → PV} {obj : Bool} {t e : TypeId} {k len : Nat} {i : TypeInfo} {z : Value} {zero : List PV} {ps : List (Nat × Src)} {parts : Array (Nat × Value)} {r : Res} {cf : CallF}
    (h : evalOp cf (.bslice obj k zero len ps) ρ H n = some r) (hr : Ready M φ G w H n r) (hu : P.underlying t = some (.slice e)) (hi : P.info? e = some i) (hsize : i.size = k) (hz : i.zero = some z)
    (hzc : AggR M φ zero z.cells) (hlim : len * k ≤ 2 ^ 24) (hal : AlS ρ M φ ps parts.toList) :
    ∃ u w', (Instr.buildSlice t len parts).run P w = .ok u w' ∧ Post M φ G n w r u w' := by
  simp only [evalOp] at h
  split at h
  · rename_i xs hxs
    split at h
    · cases h
    · rename_i hcond
      have hl : zero.length = k := by omega
      have hk : 0 < k := by omega
      obtain ⟨cells', e1, e2, e3, e4⟩ := fillS_sound (M := M) (φ := φ) (cells := (Array.range (len * k)).map (fun x => z.cells[x % z.cells.size]!)) hk hal hxs (by simp) (zero_grid hk hzc hl len)
      have hxl : xs.length = len := by simpa using e3
      have hsz : cells'.size = len * k := by simpa using e2
      have hrun : (Instr.buildSlice t len parts).run P w = .ok (.slice (some (cellOf w.heap.size 0)) len len) (w.alloc (.cells cells' e)) := by
        have hs : tySize P e = some k := by simp [tySize, hi, hsize]
        have hno : ¬ len * k > 2 ^ 24 := by omega
        unfold Instr.buildSlice
        simp only [Sem.run_bind, run_underlying' hu, Result.andThen_ok, run_sizeOf' hs]
        rw [if_neg hno]
        by_cases h0 : len * k = 0
        · have hlen0 : len = 0 := by rcases Nat.mul_eq_zero.1 h0 with h | h <;> omega
          subst hlen0
          have hempty : ∀ f : Nat → Value, (Array.range 0).map f = #[] := fun f => by simp
          simp only [Nat.zero_mul, hempty] at e1 ⊢
          simp only [if_true, Sem.run_bind, Sem.run_pure, Result.andThen_ok, e1]
          simp [newRow, cellOf]
        · simp only [h0, if_false, Sem.run_bind, run_zero' hi hz, Result.andThen_ok, Sem.run_pure]
          simp [e1, newRow, cellOf]
      split at h
      · cases h
        refine ⟨_, _, hrun, ?_⟩
        have hn : ∀ v, φ n v = none := fun v => hr.fresh n (Nat.le_refl _) (.inr (by simp)) v
        refine Post.new (rd := []) (l' := ⟨w.heap.size, 0, k, len⟩) hr.wr rfl hn _ rfl (objr_new hk hn e4 (by omega) (by omega) (rv_set hn _)) ?_
        exact .view n 0 k 0 len (some len) ⟨w.heap.size, 0, k, len⟩ _ len (φ.set_at n 0 _) rfl (Nat.le_refl _) (fun c hc => by cases hc; rfl) (fun hc => by cases hc) (fun _ => by simp) (by simp) rfl
      · split at h
        · rename_i hf
          cases h
          refine ⟨_, _, hrun, Post.lay hr.wr false _ ?_⟩
          have hle := (hr.wr.lay (n := n) false (.cells cells' e)).2.mem
          have := Rv.data (M := M.add false w.heap.size (w.alloc (.cells cells' e))) (φ := φ) k xs .full w.heap.size 0 len (fun i j => cells'.getD (i * k + j) undef) ?_ (by omega) (fun _ => by omega) e4.1 ?_
            (fun i j hi hj => (e4.2 i j hi hj).1) (fun i j hi hj => (e4.2 i j hi hj).2.mono hle (.refl φ))
          · rw [hxl] at this; exact this
          · intro x hx c hc
            have hfx := List.all_eq_true.1 (List.all_eq_true.1 hf x hx) c hc
            obtain ⟨a, ha, rfl⟩ := List.getElem_of_mem hx
            obtain ⟨b, hb, rfl⟩ := List.getElem_of_mem hc
            have hlen := e4.1 a ha
            have hrv := (e4.2 a b ha (by rw [← hlen]; simpa [List.getD_eq_getElem?_getD, List.getElem?_eq_getElem ha] using hb)).2
            simp only [List.getD_eq_getElem?_getD, List.getElem?_eq_getElem ha, Option.getD_some, List.getElem?_eq_getElem hb] at hrv
            exact cl_of_flat hfx hrv
          · intro a b ha hb
            rw [Nat.zero_add]
            have hlt : a * k + b < cells'.size := by
              rw [hsz, ← hxl]
              have : (a + 1) * k ≤ xs.length * k := Nat.mul_le_mul_right k (by omega)
              rw [Nat.add_mul] at this; omega
            exact M.add_at false w cells' e _ hlt
        · cases h
  · cases h
theorem mkSlice_sound {ρ : Src → PV} {t e : TypeId} {k bytes : Nat} {i : TypeInfo} {z : Value} {zero : List PV} {len cap : Src} {vl vc : Value} {r : Res} {cf : CallF}
    (h : evalOp cf (.mkSlice k bytes zero len cap) ρ H n = some r) (hr : Ready M φ G w H n r) (hu : P.underlying t = some (.slice e)) (hi : P.info? e = some i) (hsize : i.size = k) (hbytes : i.bytes = bytes)
    (hz : i.zero = some z) (hzc : AggR M φ zero z.cells) (hl : Rv M φ (ρ len) vl) (hc : Rv M φ (ρ cap) vc) (hwrap : ∀ x : Int, 0 ≤ x → x ≤ 140737488355328 → IntKind.i64.wrap x = x) (hb : 1 ≤ bytes) :
    ∃ u w', (Instr.makeSlice t vl vc).run P w = .ok u w' ∧ Post M φ G n w r u w' := by
  simp only [evalOp] at h
  split at h
  · rename_i l c e1 e2
    rw [e1] at hl
    rw [e2] at hc
    cases hl
    cases hc
    split at h
    · rename_i hcond
      obtain ⟨h0, hlc, hroom, hzl, hk0⟩ := hcond
      have hk : 0 < k := by omega
      cases h
      have hcr : c.toNat ≤ c.toNat * bytes := Nat.le_mul_of_pos_right _ (by omega)
      unfold room at hroom
      have hw1 : IntKind.i64.wrap l = l := hwrap l h0 (by omega)
      have hw2 : IntKind.i64.wrap c = c := hwrap c (by omega) (by omega)
      have hs : tySize P e = some k := by simp [tySize, hi, hsize]
      have hbc : (bytes : Int) * c ≤ 140737488355328 := by
        have e3 : ((c.toNat * bytes : Nat) : Int) = (bytes : Int) * c := by rw [Int.natCast_mul, Int.toNat_of_nonneg (by omega), Int.mul_comm]
        rw [← e3]; omega
      have hrun : (Instr.makeSlice t (.int .i64 l) (.int .i64 c)).run P w = .ok (.slice (some (cellOf w.heap.size 0)) l.toNat c.toNat)
          (w.alloc (.cells ((Array.range (c.toNat * k)).map (fun x => z.cells[x % z.cells.size]!)) e)) := by
        have g1 : ¬ (c < 0) := by omega
        have g2 : ¬ ((bytes : Int) * c > 2 ^ 48) := by omega
        have g3 : ¬ (l < 0) := by omega
        have g4 : ¬ (l > c) := by omega
        unfold Instr.makeSlice
        simp only [Sem.run_bind, run_underlying' hu, Result.andThen_ok, asInt, asIntOf, Sem.run_pure, run_typeInfo' hi, hw1, hw2, hbytes, g1, g2, g3, g4, decide_false, Bool.or_false, Bool.false_eq_true, if_false,
          run_askRoom, run_sizeOf' hs]
        by_cases hz0 : c.toNat * k = 0
        · have hempty : ∀ f : Nat → Value, (Array.range 0).map f = #[] := fun f => by simp
          simp only [hz0, hempty]
          simp [newRow, cellOf]
        · simp [hz0, run_zero' hi hz, newRow, cellOf]
      refine ⟨_, _, hrun, ?_⟩
      have hn : ∀ v, φ n v = none := fun v => hr.fresh n (Nat.le_refl _) (.inr (by simp)) v
      refine Post.new (rd := []) (l' := ⟨w.heap.size, 0, k, c.toNat⟩) hr.wr rfl hn _ rfl (objr_new hk hn (zero_grid hk hzc hzl c.toNat) (by simp) (by simp) (rv_set hn _)) ?_
      exact .view n 0 k 0 l.toNat (some c.toNat) ⟨w.heap.size, 0, k, c.toNat⟩ _ c.toNat (φ.set_at n 0 _) rfl (by omega) (fun c hc => by cases hc; rfl) (fun hc => by cases hc) (fun _ => by simp) (by simp) rfl
    · cases h
  · cases h
end
theorem Post.drew {M : Mem} {φ : Places} {G : Objs} {n : Nat} {w w1 w' : World} {r : Res} {v : Value} (hh : w1.heap = w.heap) (ho : w1.os = w.os) (ht : w1.tape = w.tape) (hp : w1.output = w.output)
    (h : Post M φ G n w1 r v w') : Post M φ G n w r v w' := by
  obtain ⟨M', φ', G', h1, h2, h3, h4⟩ := h
  refine ⟨M', φ', G', h1, h2, ⟨h3.mem, h3.places, h3.count, h3.os.trans ho, h3.tape.trans ht, h3.output.trans hp, by rw [← hh]; exact h3.size, ?_, ?_, ?_⟩, h4⟩
  · intro b hb hn; rw [← hh]; exact h3.block b (by rw [hh]; exact hb) hn
  · intro t a v hv; rw [← hh]; exact h3.new t a v hv
  · intro b hb; rw [← hh]; exact h3.own b hb
theorem growBy_le (m : Nat) : ∀ (r c : Nat), 256 ≤ c → c ≤ 2 * m → Builtin.growBy m r c ≤ 2 * m
  | 0, c, _, h => h
  | r + 1, c, h1, h2 => by
    simp only [Builtin.growBy]
    split
    · exact h2
    · exact growBy_le m r _ (by omega) (by omega)
theorem nextcap_le {need cap : Nat} (h : cap < need) : Builtin.nextslicecap need cap ≤ 2 * need := by
  unfold Builtin.nextslicecap
  split
  · omega
  · split
    · omega
    · exact growBy_le need 4 cap (by omega) (by omega)
section
variable {P : Program} {M : Mem} {φ : Places} {G : Objs} {w : World} {H : Heap} {n : Nat}
theorem getD_sub {xs : List (List PV)} {off len i : Nat} (hi : i < len) : ((xs.drop off).take len).getD i [] = xs.getD (off + i) [] := by
  simp [List.getD_eq_getElem?_getD, hi, List.getElem?_drop]
theorem length_sub {xs : List (List PV)} {off len : Nat} (h : off + len ≤ xs.length) : ((xs.drop off).take len).length = len := by simp; omega
theorem first_data {k : Nat} {xs : List (List PV)} {fl : Fl} {x : Value} (hw : WR M φ G w) (h : Rv M φ (.data k xs fl) x) :
    ∃ b o cap c, x = .slice (some (cellOf b o)) xs.length cap ∧ (fl = .full → cap = xs.length) ∧ xs.length ≤ cap ∧
      (∀ w' : World, w'.heap = w.heap → (Builtin.firstCells k xs.length x).run P w' = .ok ((List.range (xs.length * k)).map c).toArray w') ∧ GridR M φ k xs c := by
  cases h with
  | data _ _ _ b o cap vs h0 h1 h2 h3 h4 h5 h6 =>
    refine ⟨b, o, cap, fun t => vs (t / k) (t % k), rfl, h2, h1, ?_, h3, ?_⟩
    · intro w' hw'
      simp only [Builtin.firstCells]
      refine run_loadCells w' _ _ _ (fun t ht => ?_)
      have hk : 0 < k := by rcases Nat.eq_zero_or_pos k with h | h; · subst h; simp at ht
                            · exact h
      rw [cellOf_add]
      have hi : t / k < xs.length := Nat.div_lt_of_lt_mul (by rw [Nat.mul_comm]; exact ht)
      have hj : t % k < k := Nat.mod_lt _ hk
      have := (hw.world hw').mem _ _ _ (h4 (t / k) (t % k) hi hj)
      rw [Nat.mul_comm (t / k) k, Nat.div_add_mod] at this
      exact this
    · intro i j hi hj
      have hk : 0 < k := by omega
      have e1 : (i * k + j) / k = i := by rw [Nat.mul_comm, Nat.mul_add_div hk, Nat.div_eq_of_lt hj]; omega
      have e2 : (i * k + j) % k = j := by rw [Nat.mul_comm, Nat.mul_add_mod, Nat.mod_eq_of_lt hj]
      simp only [e1, e2]
      exact ⟨h5 i j hi hj, h6 i j hi hj⟩
theorem first_view {id ver k off len : Nat} {cap : Option Nat} {xs : List (List PV)} {x : Value} (hw : WR M φ G w) (hG : G id = some (.arr ver k xs)) (hlen : off + len ≤ xs.length)
    (h : Rv M φ (.view id ver k off len cap) x) :
    ∃ a cv c l cur T, x = .slice (some a) len cv ∧ (∀ w' : World, w'.heap = w.heap → (Builtin.firstCells k len x).run P w' = .ok ((List.range (len * k)).map c).toArray w') ∧ GridR M φ k ((xs.drop off).take len) c ∧
      φ id ver = some l ∧ w.heap[l.block]? = some (.cells cur T (0, 0)) ∧ l.k = k ∧ 0 < k ∧ len ≤ cv ∧ (∀ c, cap = some c → cv = c) ∧ (cap = none → cv = l.tot - (l.base + off)) ∧
      (cv ≠ 0 → a = cellOf l.block ((l.base + off) * k)) ∧ l.base + off + cv ≤ l.tot ∧ (∀ v, ver < v → φ id v = none) ∧ l.tot * k ≤ cur.size ∧ l.base + xs.length ≤ l.tot ∧
      (∀ i, i < xs.length → (xs.getD i []).length = k) ∧
      (∀ i j, i < xs.length → j < k → one (cur.getD ((l.base + i) * k + j) undef) = true) ∧
      (∀ i j, i < xs.length → j < k → Rv M φ ((xs.getD i []).getD j .any) (cur.getD ((l.base + i) * k + j) undef)) ∧ a.spot = none := by
  cases h with
  | view _ _ _ _ _ _ l a cv h1 h2 h3 h4 h5 h6 h7 hsp =>
    have hobj := hw.obj id _ hG
    cases hobj with
    | arr _ _ _ l' cur T g1 g2 g3 g4 g5 g6 g7 g8 g9 g10 =>
      obtain rfl : l = l' := Option.some.inj (h1.symm.trans g1)
      have hidx : ∀ i j, (l.base + off) * k + (i * k + j) = (l.base + (off + i)) * k + j := by
        intro i j; rw [← Nat.add_assoc, ← Nat.add_mul, Nat.add_assoc l.base]
      refine ⟨a, cv, fun t => cur.getD ((l.base + off) * k + t) undef, l, cur, T, rfl, ?_, ?_, h1, g5, h2, g3, h3, h4, h5, h6, h7, g4, g6, g7, g8, g9, g10, hsp⟩
      · intro w' hw'
        simp only [Builtin.firstCells]
        refine run_loadCells w' _ _ _ (fun t ht => ?_)
        have hcv : cv ≠ 0 := by intro e; have : len = 0 := by omega
                                subst this; simp at ht
        rw [h6 hcv, cellOf_add]
        have hlt : (l.base + off) * k + t < cur.size := by
          have : (l.base + off + len) * k ≤ l.tot * k := Nat.mul_le_mul_right k (by omega)
          rw [Nat.add_mul] at this; omega
        simp [World.cell?, cellOf, hw', g5, hlt, Array.getD]
      · refine ⟨fun i hi => ?_, fun i j hi hj => ?_⟩
        · rw [length_sub hlen] at hi; rw [getD_sub hi]; exact g8 _ (by omega)
        · rw [length_sub hlen] at hi
          simp only [hidx, getD_sub hi]
          exact ⟨g9 _ j (by omega) hj, g10 _ j (by omega) hj⟩
theorem elems_sound {p : PV} {x : Value} {k : Nat} {m : List (List PV)} {rd : List Nat} (hw : WR M φ G w) (h : elems H p = some (k, m, rd)) (hG : ∀ id, id ∈ rd → G id = H.get id) (hv : Rv M φ p x) :
    ∃ a cap c, x = .slice (some a) m.length cap ∧ (∀ w' : World, w'.heap = w.heap → (Builtin.firstCells k m.length x).run P w' = .ok ((List.range (m.length * k)).map c).toArray w') ∧ GridR M φ k m c := by
  unfold elems at h
  split at h
  · rename_i k' xs fl
    cases h
    obtain ⟨b, o, cap, c, e1, _, _, e2, e3⟩ := first_data (P := P) hw hv
    exact ⟨_, cap, c, e1, e2, e3⟩
  · rename_i id ver k' off len cap
    split at h
    · rename_i ver' k'' xs hH
      split at h
      · rename_i hc
        obtain ⟨rfl, rfl, hlen⟩ := hc
        cases h
        obtain ⟨a, cv, c, l, cur, T, e1, e2, e3, _⟩ := first_view (P := P) hw (by rw [hG id (by simp), hH]) hlen hv
        rw [length_sub hlen]
        exact ⟨a, cv, c, e1, e2, e3⟩
      · cases h
    · cases h
  · cases h
theorem zeroCells_size (z : Array Value) (m : Nat) : (Builtin.zeroCells z m).size = m * z.size := by simp [Builtin.zeroCells]
theorem append_fits_run {sT xT e ty : TypeId} {i : TypeInfo} {k sLen sCap m : Nat} {base : Option Addr} {x : Value} {new : Array Value} (hu : P.underlying sT = some (.slice e)) (hi : P.info? e = some i) (hsize : i.size = k)
    (hx : ∃ e', P.underlying xT = some (.slice e')) (hxl : (Builtin.lenOf x).run P w = .ok m w) (hnew : (Builtin.firstCells k m x).run P w = .ok new w) (hfit : sLen + m ≤ sCap) {w' : World}
    (hst : (match base with | some a => storeCells (a.add (sLen * k)) new.toList | none => pure ()).run P w = .ok () w') :
    (Builtin.append_ #[sT, xT] ty #[.slice base sLen sCap, x]).run P w = .ok (.slice base (sLen + m) sCap) w' := by
  obtain ⟨d, hd⟩ := hx
  have hs : tySize P e = some k := by simp [tySize, hi, hsize]
  unfold Builtin.append_
  simp only [List.getElem?_toArray, List.getElem?_cons_zero, List.getElem?_cons_succ, Sem.run_bind, run_underlying' hu, Result.andThen_ok, run_sizeOf' hs, run_underlying' hd, Sem.run_pure]
  simp only [Bool.false_eq_true, if_false, Bool.not_false, if_true]
  cases base with
  | none => simp at hst; subst hst; simp [hxl, hnew, hfit]
  | some a => simp only at hst; simp [hxl, hnew, hfit, hst]
theorem append_grows_run {sT xT e ty : TypeId} {i : TypeInfo} {z : Value} {k sLen sCap m : Nat} {base : Option Addr} {x : Value} {old new : Array Value} (hu : P.underlying sT = some (.slice e)) (hi : P.info? e = some i)
    (hsize : i.size = k) (hz : i.zero = some z) (hb : i.bytes ≠ 0) (hroom : (sLen + m) * i.bytes ≤ room)
    (hx : ∃ e', P.underlying xT = some (.slice e')) (hxl : (Builtin.lenOf x).run P w = .ok m w) (hnew : ∀ w' : World, w'.heap = w.heap → (Builtin.firstCells k m x).run P w' = .ok new w')
    (hold : ∀ w' : World, w'.heap = w.heap → (Builtin.firstCells k sLen (.slice base sLen sCap)).run P w' = .ok old w') (hfit : sCap < sLen + m) :
    ∃ cap, sLen + m ≤ cap ∧ (Builtin.append_ #[sT, xT] ty #[.slice base sLen sCap, x]).run P w =
      .ok (.slice (some (cellOf w.heap.size 0)) (sLen + m) cap) ({ w with drawn := w.drawn + 1 }.alloc (.cells (old ++ new ++ Builtin.zeroCells z.cells (cap - (sLen + m))) e)) := by
  obtain ⟨d, hd⟩ := hx
  have hs : tySize P e = some k := by simp [tySize, hi, hsize]
  have hno : ¬ (sLen + m ≤ sCap) := by omega
  have hcap : ¬ (Builtin.nextslicecap (sLen + m) sCap * i.bytes > 2 ^ 48) := by
    have h1 := nextcap_le hfit
    have : Builtin.nextslicecap (sLen + m) sCap * i.bytes ≤ 2 * (sLen + m) * i.bytes := Nat.mul_le_mul_right _ h1
    rw [Nat.mul_assoc] at this
    unfold room at hroom
    omega
  refine ⟨sLen + m + w.tape w.drawn (.appendCap (sLen + m) sCap e) % (2 ^ 63 - (sLen + m)), by omega, ?_⟩
  unfold Builtin.append_
  simp only [List.getElem?_toArray, List.getElem?_cons_zero, List.getElem?_cons_succ, Sem.run_bind, run_underlying' hu, Result.andThen_ok, run_sizeOf' hs, run_underlying' hd, Sem.run_pure]
  simp only [Bool.false_eq_true, if_false, hxl, Result.andThen_ok, Bool.not_false, if_true, hno, run_typeInfo' hi, Sem.run_bind, false_or, hb, and_false, Sem.run_pure, hcap,
    run_choose, Question.forced, Question.cut, run_askRoom, Sem.run_ite]
  rw [hold { w with drawn := w.drawn + 1 } rfl]
  simp only [Result.andThen_ok]
  rw [hnew { w with drawn := w.drawn + 1 } rfl]
  simp only [Result.andThen_ok, run_zero' hi hz]
  simp [newRow, cellOf]
  rfl
theorem grid_add {k : Nat} {xs ys : List (List PV)} {c d : Nat → Value} {old new rest : Array Value} (hx : GridR M φ k xs c) (hy : GridR M φ k ys d)
    (ho : old = ((List.range (xs.length * k)).map c).toArray) (hn : new = ((List.range (ys.length * k)).map d).toArray) :
    GridR M φ k (xs ++ ys) (fun t => (old ++ new ++ rest).getD t undef) := by
  subst ho
  subst hn
  have key : ∀ i j, i < (xs ++ ys).length → j < k → (((List.range (xs.length * k)).map c).toArray ++ ((List.range (ys.length * k)).map d).toArray ++ rest).getD (i * k + j) undef =
      if i < xs.length then c (i * k + j) else d ((i - xs.length) * k + j) := by
    intro i j hi hj
    simp only [List.length_append] at hi
    have hlt : i * k + j < (xs.length + ys.length) * k := by
      have : (i + 1) * k ≤ (xs.length + ys.length) * k := Nat.mul_le_mul_right k (by omega)
      rw [Nat.add_mul] at this; omega
    rw [Nat.add_mul] at hlt
    simp only [Array.getD_eq_getD_getElem?]
    rw [Array.getElem?_append_left (by simp; exact hlt)]
    by_cases hix : i < xs.length
    · have hlt2 : i * k + j < xs.length * k := by
        have : (i + 1) * k ≤ xs.length * k := Nat.mul_le_mul_right k (by omega)
        rw [Nat.add_mul] at this; omega
      rw [Array.getElem?_append_left (by simp; exact hlt2), if_pos hix]
      simp [hlt2]
    · have hge : xs.length * k ≤ i * k + j := by
        have : xs.length * k ≤ i * k := Nat.mul_le_mul_right k (by omega)
        omega
      have he : i * k + j - xs.length * k = (i - xs.length) * k + j := by
        rw [Nat.sub_mul]
        have : xs.length * k ≤ i * k := Nat.mul_le_mul_right k (by omega)
        omega
      rw [Array.getElem?_append_right (by simp; exact hge), if_neg hix]
      simp only [List.size_toArray, List.length_map, List.length_range, he, List.getElem?_toArray]
      have : (i - xs.length) * k + j < ys.length * k := by omega
      simp [this]
  refine ⟨fun i hi => ?_, fun i j hi hj => ?_⟩
  · simp only [List.length_append] at hi
    by_cases hix : i < xs.length
    · rw [show (xs ++ ys).getD i [] = xs.getD i [] by simp [List.getD_eq_getElem?_getD, List.getElem?_append_left hix]]; exact hx.1 i hix
    · rw [show (xs ++ ys).getD i [] = ys.getD (i - xs.length) [] by simp [List.getD_eq_getElem?_getD, List.getElem?_append_right (by omega : xs.length ≤ i)]]; exact hy.1 _ (by omega)
  · simp only [key i j hi hj]
    simp only [List.length_append] at hi
    by_cases hix : i < xs.length
    · rw [if_pos hix, show (xs ++ ys).getD i [] = xs.getD i [] by simp [List.getD_eq_getElem?_getD, List.getElem?_append_left hix]]; exact hx.2 i j hix hj
    · rw [if_neg hix, show (xs ++ ys).getD i [] = ys.getD (i - xs.length) [] by simp [List.getD_eq_getElem?_getD, List.getElem?_append_right (by omega : xs.length ≤ i)]]; exact hy.2 _ j (by omega) hj
theorem over_getD {xs ys : List (List PV)} {off i : Nat} (h : off + ys.length ≤ xs.length) :
    (overwrite xs off ys).getD i [] = if off ≤ i ∧ i < off + ys.length then ys.getD (i - off) [] else xs.getD i [] := by
  unfold overwrite
  simp only [List.getD_eq_getElem?_getD]
  rw [seg_get xs ys off i h]
  split <;> rfl
theorem over_length {xs ys : List (List PV)} {off : Nat} (h : off + ys.length ≤ xs.length) : (overwrite xs off ys).length = xs.length := by
  simp [overwrite]; omega
theorem seg_row {k o : Nat} {m : List (List PV)} {d : Nat → Value} {cur : Array Value} (ho : o * k + m.length * k ≤ cur.size) (i j : Nat) (hj : j < k) :
    ((cur.toList.take (o * k) ++ ((List.range (m.length * k)).map d) ++ cur.toList.drop (o * k + ((List.range (m.length * k)).map d).length)).toArray).getD (i * k + j) undef =
      if o ≤ i ∧ i < o + m.length then d ((i - o) * k + j) else cur.getD (i * k + j) undef := by
  rw [seg_getD _ _ _ _ (by simpa using ho)]
  simp only [List.length_map, List.length_range, Array.toArray_toList]
  by_cases h : o ≤ i ∧ i < o + m.length
  · have h1 : o * k ≤ i * k := Nat.mul_le_mul_right k h.1
    have h2 : (i + 1) * k ≤ (o + m.length) * k := Nat.mul_le_mul_right k (by omega)
    rw [Nat.add_mul, Nat.add_mul] at h2
    rw [if_pos (by omega), if_pos h]
    have he : i * k + j - o * k = (i - o) * k + j := by rw [Nat.sub_mul]; omega
    rw [he]
    have hlt : (i - o) * k + j < m.length * k := by rw [Nat.sub_mul]; omega
    simp [List.getD_eq_getElem?_getD, hlt]
  · rw [if_neg h, if_neg ?_]
    intro hc
    apply h
    constructor
    · rcases Nat.lt_or_ge i o with hlt | hge
      · have : (i + 1) * k ≤ o * k := Nat.mul_le_mul_right k (by omega)
        rw [Nat.add_mul] at this; omega
      · exact hge
    · rcases Nat.lt_or_ge i (o + m.length) with hlt | hge
      · exact hlt
      · have : (o + m.length) * k ≤ i * k := Nat.mul_le_mul_right k hge
        rw [Nat.add_mul] at this; omega
theorem range_one {k : Nat} {m : List (List PV)} {d : Nat → Value} (hg : GridR M φ k m d) : ∀ v ∈ (List.range (m.length * k)).map d, v.oneCell' = true := by
  intro v hv
  simp only [List.mem_map, List.mem_range] at hv
  obtain ⟨t, ht, rfl⟩ := hv
  have hk : 0 < k := by rcases Nat.eq_zero_or_pos k with h | h; · subst h; simp at ht
                        · exact h
  have := (hg.2 (t / k) (t % k) (Nat.div_lt_of_lt_mul (by rw [Nat.mul_comm]; exact ht)) (Nat.mod_lt _ hk)).1
  rw [Nat.mul_comm (t / k) k, Nat.div_add_mod] at this
  exact this
end
section
variable {P : Program} {M : Mem} {φ : Places} {G : Objs} {w : World} {H : Heap} {n : Nat}
theorem storeCells_row {l : Loc} {cur : Array Value} {T : TypeId} {k o : Nat} {m : List (List PV)} {d : Nat → Value} (hg : w.heap[l.block]? = some (.cells cur T (0, 0))) (hm : GridR M φ k m d)
    (ho : o * k + m.length * k ≤ cur.size) :
    (storeCells (cellOf l.block (o * k)) (((List.range (m.length * k)).map d).toArray).toList).run P w =
      .ok () (w.setRow l.block (cur.toList.take (o * k) ++ ((List.range (m.length * k)).map d) ++ cur.toList.drop (o * k + ((List.range (m.length * k)).map d).length)).toArray) := by
  have := run_storeCells_at P l.block (o * k) T ((List.range (m.length * k)).map d) 0 cur w hg (by simpa using ho) (range_one hm)
  simpa [cellOf] using this
theorem objr_over {id ver k : Nat} {xs m : List (List PV)} {l : Loc} {cur : Array Value} {T : TypeId} {o : Nat} {d : Nat → Value} (h1 : φ id ver = some l) (h2 : l.k = k) (h3 : 0 < k) (h4 : ∀ v, ver < v → φ id v = none)
    (h5 : w.heap[l.block]? = some (.cells cur T (0, 0))) (h6 : l.tot * k ≤ cur.size) (h7 : l.base + xs.length ≤ l.tot) (h8 : ∀ i, i < xs.length → (xs.getD i []).length = k)
    (h9 : ∀ i j, i < xs.length → j < k → one (cur.getD ((l.base + i) * k + j) undef) = true) (h10 : ∀ i j, i < xs.length → j < k → Rv M φ ((xs.getD i []).getD j .any) (cur.getD ((l.base + i) * k + j) undef))
    (hm : GridR M φ k m d) (ho : o + m.length ≤ xs.length) {w' : World}
    (hw' : w' = w.setRow l.block (cur.toList.take ((l.base + o) * k) ++ ((List.range (m.length * k)).map d) ++ cur.toList.drop ((l.base + o) * k + ((List.range (m.length * k)).map d).length)).toArray) :
    ObjR M φ id w' (.arr ver k (overwrite xs o m)) := by
  subst hw'
  have hfit : (l.base + o) * k + m.length * k ≤ cur.size := by
    have : (l.base + o + m.length) * k ≤ l.tot * k := Nat.mul_le_mul_right k (by omega)
    rw [Nat.add_mul] at this; omega
  have hrow := fun i j (hj : j < k) => seg_row (k := k) (o := l.base + o) (m := m) (d := d) (cur := cur) hfit (l.base + i) j hj
  have hlen := over_length (xs := xs) (ys := m) (off := o) ho
  refine .arr ver k _ l _ T h1 h2 h3 h4 (heap_setRow _ _ _ _ _ _ h5) ?_ (by rw [hlen]; exact h7) ?_ ?_ ?_
  · simp; omega
  · intro i hi
    rw [hlen] at hi
    rw [over_getD ho]
    split
    · exact hm.1 _ (by omega)
    · exact h8 i hi
  · intro i j hi hj
    rw [hlen] at hi
    rw [hrow i j hj]
    split
    · have e : l.base + i - (l.base + o) = i - o := by omega
      rw [e]
      exact (hm.2 (i - o) j (by omega) hj).1
    · exact h9 i j hi hj
  · intro i j hi hj
    rw [hlen] at hi
    rw [hrow i j hj, over_getD ho]
    by_cases hc : o ≤ i ∧ i < o + m.length
    · rw [if_pos hc, if_pos (by omega)]
      have e : l.base + i - (l.base + o) = i - o := by omega
      rw [e]
      exact (hm.2 (i - o) j (by omega) hj).2
    · rw [if_neg hc, if_neg (by omega)]
      exact h10 i j hi hj
theorem post_grown {e : TypeId} {z : Value} {k cap s : Nat} {xs : List (List PV)} {c : Nat → Value} {old new : Array Value} {m : List (List PV)} {d : Nat → Value} {rd : List Nat} (hw : WR M φ G w)
    (hk : 0 < k) (hx : GridR M φ k xs c) (hy : GridR M φ k m d) (ho : old = ((List.range (xs.length * k)).map c).toArray) (hn : new = ((List.range (m.length * k)).map d).toArray) (hz : z.cells.size = k)
    (hs : s = xs.length + m.length) (hcap : s ≤ cap) (hfresh : ∀ v, φ n v = none) :
    Post M φ G n w ⟨.view n 0 k 0 s none, H.set n (.arr 0 k (xs ++ m)), n + 1, ⟨rd, [n], false⟩⟩ (.slice (some (cellOf w.heap.size 0)) s cap)
      ({ w with drawn := w.drawn + 1 }.alloc (.cells (old ++ new ++ Builtin.zeroCells z.cells (cap - s)) e)) := by
  refine Post.drew (w1 := { w with drawn := w.drawn + 1 }) rfl rfl rfl rfl ?_
  have hsz : cap * k ≤ (old ++ new ++ Builtin.zeroCells z.cells (cap - s)).size := by
    subst ho
    subst hn
    simp only [Array.size_append, zeroCells_size, hz, List.size_toArray, List.length_map, List.length_range]
    rw [← Nat.add_mul, ← hs, ← Nat.add_mul]
    exact Nat.mul_le_mul_right k (by omega)
  refine Post.new (w := { w with drawn := w.drawn + 1 }) (rd := rd) (l' := ⟨w.heap.size, 0, k, cap⟩) (hw.world rfl) rfl hfresh _ rfl (objr_new (w := { w with drawn := w.drawn + 1 }) hk hfresh (grid_add hx hy ho hn) hsz (by simp; omega) (rv_set hfresh _)) ?_
  exact .view n 0 k 0 s none ⟨w.heap.size, 0, k, cap⟩ _ cap (φ.set_at n 0 _) rfl hcap (fun c hc => by cases hc) (fun _ => by simp) (fun _ => by simp [cellOf]) (by simp) rfl
theorem append_sound {sT xT e ty : TypeId} {i : TypeInfo} {z : Value} {k : Nat} {p q : PV} {s x : Value} {m : List (List PV)} {rd : List Nat} {r : Res} (hu : P.underlying sT = some (.slice e)) (hi : P.info? e = some i)
    (hsize : i.size = k) (hz : i.zero = some z) (hzs : z.cells.size = k) (hb : i.bytes ≠ 0) (hk : 0 < k) (hx : ∃ e', P.underlying xT = some (.slice e'))
    (h : appendV k i.bytes p m rd H n = some r) (hr : Ready M φ G w H n r) (hp : Rv M φ p s) (hq : q = .nils ∧ m = [] ∨ elems H q = some (k, m, rd)) (hxv : Rv M φ q x) (hrd : ∀ id, id ∈ rd → id ∈ r.fp.rd ∨ id ∈ r.fp.wr) :
    ∃ v w', (Builtin.append_ #[sT, xT] ty #[s, x]).run P w = .ok v w' ∧ Post M φ G n w r v w' := by
  obtain ⟨xa, xcap, d, e1, e2, e3⟩ : ∃ xa xcap d, x = .slice xa m.length xcap ∧ (∀ w' : World, w'.heap = w.heap → (Builtin.firstCells k m.length x).run P w' = .ok ((List.range (m.length * k)).map d).toArray w') ∧ GridR M φ k m d := by
    rcases hq with ⟨rfl, rfl⟩ | hq
    · cases hxv
      exact ⟨none, 0, fun _ => undef, rfl, fun w' _ => by simp [Builtin.firstCells], fun i hi => by simp at hi, fun i j hi => by simp at hi⟩
    · obtain ⟨a, cap, c, g1, g2, g3⟩ := elems_sound (P := P) hr.wr hq (fun id hid => hr.same id (.inr (hrd id hid))) hxv
      exact ⟨some a, cap, c, g1, g2, g3⟩
  have hlen : ∀ w' : World, (Builtin.lenOf x).run P w' = .ok m.length w' := fun w' => by rw [e1]; rfl
  have hdsz : (((List.range (m.length * k)).map d).toArray).size = m.length * k := by simp
  unfold appendV at h
  split at h
  · -- nil
    cases hp
    split at h
    · rename_i hm
      have hm0 : m = [] := by simpa using hm
      subst hm0
      cases h
      refine ⟨_, w, append_fits_run (m := 0) hu hi hsize hx (hlen w) (e2 w rfl) (by simp) (by rfl), ?_⟩
      exact Post.pure hr.wr (by simpa using Rv.nils)
    · rename_i hm
      have hm0 : 0 < m.length := by cases m <;> simp_all
      split at h
      · rename_i hroom
        cases h
        obtain ⟨cap, hc1, hc2⟩ := append_grows_run (P := P) (w := w) (sT := sT) (xT := xT) (ty := ty) (base := none) (sLen := 0) (sCap := 0) (m := m.length) (old := #[]) hu hi hsize hz hb (by simpa using hroom) hx (hlen w) e2
          (fun w' _ => by simp [Builtin.firstCells]) (by omega)
        refine ⟨_, _, hc2, ?_⟩
        have hfresh : ∀ v, φ n v = none := fun v => hr.fresh n (Nat.le_refl _) (.inr (by simp)) v
        have := post_grown (e := e) (H := H) (rd := rd) (xs := []) (c := fun _ => undef) (old := #[]) (m := m) (s := 0 + m.length) (cap := cap) hr.wr hk ⟨fun i hi => by simp at hi, fun i j hi => by simp at hi⟩ e3 (by simp) rfl hzs (by simp) hc1 hfresh
        simpa using this
      · cases h
  · -- memory
    rename_i k' xs fl
    split at h
    · cases h
    · rename_i hkk
      obtain rfl : k = k' := by simpa using hkk
      obtain ⟨b, o, cap, c, f1, f2, f3, f4, f5⟩ := first_data (P := P) hr.wr hp
      subst f1
      split at h
      · rename_i hm
        have hm0 : m = [] := by simpa using hm
        subst hm0
        cases h
        refine ⟨_, w, append_fits_run (m := 0) hu hi hsize hx (hlen w) (e2 w rfl) (by omega) (by simp [storeCells]), ?_⟩
        exact Post.pure hr.wr (by simpa using hp)
      · rename_i hm
        have hm0 : 0 < m.length := by cases m <;> simp_all
        split at h
        · rename_i hroom
          cases h
          have hcap := f2 hroom.1
          subst hcap
          obtain ⟨cap', hc1, hc2⟩ := append_grows_run (P := P) (w := w) (sT := sT) (xT := xT) (ty := ty) (m := m.length) hu hi hsize hz hb hroom.2 hx (hlen w) e2 f4 (by omega)
          refine ⟨_, _, hc2, ?_⟩
          have hfresh : ∀ v, φ n v = none := fun v => hr.fresh n (Nat.le_refl _) (.inr (by simp)) v
          exact post_grown hr.wr hk f5 e3 rfl rfl hzs rfl hc1 hfresh
        · cases h
  · -- an object
    rename_i id ver k' off len cap
    split at h
    · cases h
    · rename_i hkk
      obtain rfl : k = k' := by simpa using hkk
      split at h
      · rename_i ver' k'' xs hH
        split at h
        · cases h
        · rename_i hcond
          have hv' : ver = ver' := by rcases Nat.decEq ver ver' with h | h; · exact absurd (.inl h) hcond
                                      · exact h
          have hk'' : k = k'' := by rcases Nat.decEq k k'' with h | h; · exact absurd (.inr (.inl h)) hcond
                                    · exact h
          have hlen' : off + len ≤ xs.length := by rcases Nat.decLe (off + len) xs.length with h | h; · exact absurd (.inr (.inr h)) hcond
                                                   · exact h
          subst hv'
          subst hk''
          -- where it lies
          have main : ∀ (hG : G id = some (.arr ver k xs)),
              ∃ v w', (Builtin.append_ #[sT, xT] ty #[s, x]).run P w = .ok v w' ∧ Post M φ G n w r v w' := by
            intro hG
            obtain ⟨a, cv, c, l, cur, T, g1, g2, g3, g4, g5, g6, g7, g8, g9, g10, g11, g12, g13, g14, g15, g16, g17, g18, g19⟩ := first_view (P := P) hr.wr hG hlen' hp
            subst g1
            have hbaseadd : cv ≠ 0 → a.add (len * k) = cellOf l.block ((l.base + (off + len)) * k) := by
              intro hne
              rw [g11 hne, cellOf_add, ← Nat.add_mul, Nat.add_assoc]
            -- in place, over what is known
            have inplace : len + m.length ≤ cv → off + len + m.length ≤ xs.length → r = ⟨.view id ver k off (len + m.length) cap, H.set id (.arr ver k (overwrite xs (off + len) m)), n, ⟨rd, [id], false⟩⟩ →
                ∃ v w', (Builtin.append_ #[sT, xT] ty #[.slice (some a) len cv, x]).run P w = .ok v w' ∧ Post M φ G n w r v w' := by
              intro hfit hin hreq
              subst hreq
              have hview : Rv M φ (.view id ver k off (len + m.length) cap) (.slice (some a) (len + m.length) cv) :=
                .view id ver k off (len + m.length) cap l a cv g4 g6 hfit g9 g10 g11 g12 g19
              have hfit2 : (l.base + (off + len)) * k + m.length * k ≤ cur.size := by
                have : (l.base + (off + len) + m.length) * k ≤ l.tot * k := Nat.mul_le_mul_right k (by omega)
                rw [Nat.add_mul] at this; omega
              by_cases hcv : cv = 0
              · have hm0 : m = [] := by cases m <;> simp_all
                subst hm0
                refine ⟨_, w, append_fits_run (m := 0) hu hi hsize hx (hlen w) (e2 w rfl) (by omega) (by simp [storeCells]), ?_⟩
                refine Post.turn (l := l) hr.wr hG rfl g4 ?_ rfl rfl rfl rfl (fun _ _ => rfl) hview
                have e : overwrite xs (off + len) [] = xs := by simp [overwrite]
                rw [e]
                exact hr.wr.obj id _ hG
              · have hst := storeCells_row (P := P) (w := w) g5 e3 hfit2
                rw [← hbaseadd hcv] at hst
                refine ⟨_, _, append_fits_run hu hi hsize hx (hlen w) (e2 w rfl) hfit hst, ?_⟩
                refine Post.turn (l := l) hr.wr hG rfl g4 ?_ rfl rfl rfl (size_setRow _ _ _) (fun b hb => heap_setRow_other _ _ _ _ hb) hview
                exact objr_over (o := off + len) g4 g6 g7 g13 g5 g14 g15 g16 g17 g18 e3 (by omega) rfl
            split at h
            · -- the capacity is known
              rename_i cc
              have hcc := g9 cc rfl
              split at h
              · rename_i hfit
                split at h
                · rename_i hin
                  cases h
                  exact inplace (by omega) (by omega) rfl
                · cases h
              · rename_i hfit
                split at h
                · rename_i hroom
                  cases h
                  obtain ⟨cap', hc1, hc2⟩ := append_grows_run (P := P) (w := w) (sT := sT) (xT := xT) (ty := ty) (m := m.length) hu hi hsize hz hb hroom hx (hlen w) e2 g2 (by omega)
                  refine ⟨_, _, hc2, ?_⟩
                  have hfresh : ∀ v, φ n v = none := fun v => hr.fresh n (Nat.le_refl _) (.inr (by simp)) v
                  have hlx : ((xs.drop off).take len).length = len := length_sub hlen'
                  exact post_grown hr.wr hk g3 e3 (by rw [hlx]) rfl hzs (by rw [hlx]) hc1 hfresh
                · cases h
            · -- it isn't
              have hcvt := g10 rfl
              split at h
              · rename_i hin
                cases h
                exact inplace (by omega) (by omega) rfl
              · rename_i hin
                split at h
                · rename_i hroom
                  cases h
                  have hm0 : 0 < m.length := by omega
                  have hlx : ((xs.drop off).take len).length = len := length_sub hlen'
                  by_cases hfit : len + m.length ≤ cv
                  · -- in place, beyond what is known
                    have hcv : cv ≠ 0 := by omega
                    have hfit2 : (l.base + (off + len)) * k + m.length * k ≤ cur.size := by
                      have : (l.base + (off + len) + m.length) * k ≤ l.tot * k := Nat.mul_le_mul_right k (by omega)
                      rw [Nat.add_mul] at this; omega
                    have hst := storeCells_row (P := P) (w := w) g5 e3 hfit2
                    rw [← hbaseadd hcv] at hst
                    refine ⟨_, _, append_fits_run hu hi hsize hx (hlen w) (e2 w rfl) hfit hst, ?_⟩
                    let l2 : Loc := ⟨l.block, l.base + off, k, l.tot⟩
                    have hnone : φ id (ver + 1) = none := g13 _ (by omega)
                    have hle := φ.le_set id (ver + 1) l2 hnone
                    have hobj : ObjR M (φ.set id (ver + 1) l2) id (w.setRow l.block (cur.toList.take ((l.base + (off + len)) * k) ++ ((List.range (m.length * k)).map d) ++ cur.toList.drop ((l.base + (off + len)) * k + ((List.range (m.length * k)).map d).length)).toArray)
                        (.arr (ver + 1) k ((xs.drop off).take len ++ m)) := by
                      have hrow := fun i j (hj : j < k) => seg_row (k := k) (o := l.base + (off + len)) (m := m) (d := d) (cur := cur) hfit2 (l.base + off + i) j hj
                      have hget : ∀ i, ((xs.drop off).take len ++ m).getD i [] = if i < len then xs.getD (off + i) [] else m.getD (i - len) [] := by
                        intro i
                        by_cases hi2 : i < len
                        · rw [if_pos hi2, ← getD_sub (xs := xs) (off := off) hi2]
                          simp only [List.getD_eq_getElem?_getD]
                          rw [List.getElem?_append_left (by rw [hlx]; exact hi2)]
                        · rw [if_neg hi2]
                          simp only [List.getD_eq_getElem?_getD]
                          rw [List.getElem?_append_right (by rw [hlx]; omega), hlx]
                      refine .arr (ver + 1) k _ l2 _ T (φ.set_at id (ver + 1) l2) rfl hk (fun v hv => by rw [φ.set_ver id (ver + 1) l2 id v (by omega)]; exact g13 v (by omega)) (heap_setRow _ _ _ _ _ _ g5) ?_ ?_ ?_ ?_ ?_
                      · simp [l2]; omega
                      · simp only [List.length_append, hlx, l2]; omega
                      · intro i hi2
                        simp only [List.length_append, hlx] at hi2
                        rw [hget i]
                        split
                        · exact g16 _ (by omega)
                        · exact e3.1 _ (by omega)
                      · intro i j hi2 hj
                        simp only [List.length_append, hlx] at hi2
                        simp only [l2]
                        rw [hrow i j hj]
                        split
                        · have e : l.base + off + i - (l.base + (off + len)) = i - len := by omega
                          rw [e]; exact (e3.2 (i - len) j (by omega) hj).1
                        · rw [Nat.add_assoc l.base off i]; exact g17 _ j (by omega) hj
                      · intro i j hi2 hj
                        simp only [List.length_append, hlx] at hi2
                        simp only [l2]
                        rw [hrow i j hj, hget i]
                        by_cases hi3 : i < len
                        · rw [if_pos hi3, if_neg (by omega), Nat.add_assoc l.base off i]
                          exact (g18 _ j (by omega) hj).mono (.refl M) hle
                        · rw [if_neg hi3, if_pos (by omega)]
                          have e : l.base + off + i - (l.base + (off + len)) = i - len := by omega
                          rw [e]; exact (e3.2 (i - len) j (by omega) hj).2.mono (.refl M) hle
                    obtain ⟨p1, p2⟩ := hr.wr.put (n := n) (n' := n) (o' := .arr (ver + 1) k ((xs.drop off).take len ++ m)) (l' := l2) (w' := w.setRow l.block (cur.toList.take ((l.base + (off + len)) * k) ++ ((List.range (m.length * k)).map d) ++ cur.toList.drop ((l.base + (off + len)) * k + ((List.range (m.length * k)).map d).length)).toArray) hle
                      (fun j v hj => φ.set_other id (ver + 1) l2 j v hj) (φ.set_at id (ver + 1) l2) hobj rfl rfl rfl (by rw [size_setRow]; omega) (fun b _ hb => heap_setRow_other _ _ _ _ hb) (.inr ⟨_, l, hG, g4, rfl⟩) (Nat.le_refl _)
                    refine ⟨M, φ.set id (ver + 1) l2, _, ?_, p1, p2, ?_, ?_, ?_, ?_, fun j ver' _ hno => φ.set_other id (ver + 1) l2 j ver' (fun e => by rw [e, hG] at hno; cases hno)⟩
                    · exact .view id (ver + 1) k 0 (len + m.length) none l2 _ cv (φ.set_at id (ver + 1) l2) rfl hfit (fun c hc => by cases hc) (fun _ => by simp only [l2]; omega) (fun _ => by simp only [l2, Nat.add_zero]; exact g11 hcv) (by simp only [l2]; omega) g19
                    · intro j hid
                      simp [Fp.on] at hid
                      subst hid
                      simp [Objs.put, Heap.get_set_eq]
                    · intro j hid
                      simp [Fp.on] at hid
                      simp [Objs.put, Ne.symm hid]
                    · intro j ver' hid
                      simp [Fp.on] at hid
                      exact φ.set_other id (ver + 1) l2 j ver' hid
                    · intro j ver' hjn hnone'
                      by_cases hji : j = id
                      · subst hji
                        by_cases hvv : ver' = ver + 1
                        · exfalso
                          have := hr.fresh j hjn (.inr (by simp)) ver
                          rw [g4] at this; cases this
                        · rw [φ.set_ver j (ver + 1) l2 j ver' hvv]; exact hnone'
                      · rw [φ.set_other id (ver + 1) l2 j ver' hji]; exact hnone'
                  · -- in a new block
                    obtain ⟨cap', hc1, hc2⟩ := append_grows_run (P := P) (w := w) (sT := sT) (xT := xT) (ty := ty) (m := m.length) hu hi hsize hz hb hroom hx (hlen w) e2 g2 (by omega)
                    refine ⟨_, _, hc2, ?_⟩
                    refine Post.drew (w1 := { w with drawn := w.drawn + 1 }) rfl rfl rfl rfl ?_
                    have hwr := hr.wr.world (w' := { w with drawn := w.drawn + 1 }) rfl
                    let l2 : Loc := ⟨w.heap.size, 0, k, cap'⟩
                    have hnone : φ id (ver + 1) = none := g13 _ (by omega)
                    have hle := φ.le_set id (ver + 1) l2 hnone
                    have hgrid := grid_add (rest := Builtin.zeroCells z.cells (cap' - (len + m.length))) g3 e3 (by rw [hlx]) rfl
                    have hsz : cap' * k ≤ (((List.range (len * k)).map c).toArray ++ ((List.range (m.length * k)).map d).toArray ++ Builtin.zeroCells z.cells (cap' - (len + m.length))).size := by
                      simp only [Array.size_append, zeroCells_size, hzs, List.size_toArray, List.length_map, List.length_range]
                      rw [← Nat.add_mul, ← Nat.add_mul]
                      exact Nat.mul_le_mul_right k (by omega)
                    have hobj : ObjR M (φ.set id (ver + 1) l2) id ({ w with drawn := w.drawn + 1 }.alloc (.cells (((List.range (len * k)).map c).toArray ++ ((List.range (m.length * k)).map d).toArray ++ Builtin.zeroCells z.cells (cap' - (len + m.length))) e))
                        (.arr (ver + 1) k ((xs.drop off).take len ++ m)) := by
                      refine .arr (ver + 1) k _ l2 _ e (φ.set_at id (ver + 1) l2) rfl hk (fun v hv => by rw [φ.set_ver id (ver + 1) l2 id v (by omega)]; exact g13 v (by omega)) (heap_new _ _) hsz ?_ hgrid.1 ?_ ?_
                      · simp only [List.length_append, hlx, l2]; omega
                      · intro i j hi2 hj; simp only [l2, Nat.zero_add]; exact (hgrid.2 i j hi2 hj).1
                      · intro i j hi2 hj; simp only [l2, Nat.zero_add]; exact (hgrid.2 i j hi2 hj).2.mono (.refl M) hle
                    obtain ⟨p1, p2⟩ := hwr.put (n := n) (n' := n) (o' := .arr (ver + 1) k ((xs.drop off).take len ++ m)) (l' := l2) (w' := { w with drawn := w.drawn + 1 }.alloc (.cells (((List.range (len * k)).map c).toArray ++ ((List.range (m.length * k)).map d).toArray ++ Builtin.zeroCells z.cells (cap' - (len + m.length))) e)) hle
                      (fun j v hj => φ.set_other id (ver + 1) l2 j v hj) (φ.set_at id (ver + 1) l2) hobj rfl rfl rfl (by simp) (fun b hb _ => RowKit.Below.heap_alloc _ _ b hb) (.inl (Nat.le_refl _)) (Nat.le_refl _)
                    refine ⟨M, φ.set id (ver + 1) l2, _, ?_, p1, p2, ?_, ?_, ?_, ?_, fun j ver' _ hno => φ.set_other id (ver + 1) l2 j ver' (fun e => by rw [e, hG] at hno; cases hno)⟩
                    · exact .view id (ver + 1) k 0 (len + m.length) none l2 _ cap' (φ.set_at id (ver + 1) l2) rfl hc1 (fun c hc => by cases hc) (fun _ => by simp [l2]) (fun _ => by simp [l2, cellOf]) (by simp [l2]) rfl
                    · intro j hid
                      simp [Fp.on] at hid
                      subst hid
                      simp [Objs.put, Heap.get_set_eq]
                    · intro j hid
                      simp [Fp.on] at hid
                      simp [Objs.put, Ne.symm hid]
                    · intro j ver' hid
                      simp [Fp.on] at hid
                      exact φ.set_other id (ver + 1) l2 j ver' hid
                    · intro j ver' hjn hnone'
                      by_cases hji : j = id
                      · subst hji
                        exfalso
                        have := hr.fresh j hjn (.inr (by simp)) ver
                        rw [g4] at this; cases this
                      · rw [φ.set_other id (ver + 1) l2 j ver' hji]; exact hnone'
                · cases h
          -- it is among what the operation looks at
          refine main ?_
          rw [← hH]
          apply hr.same
          split at h
          · split at h
            · split at h
              · cases h; exact .inr (.inr (by simp))
              · cases h
            · split at h
              · cases h; exact .inr (.inl (by simp))
              · cases h
          · split at h
            · cases h; exact .inr (.inr (by simp))
            · split at h
              · cases h; exact .inr (.inr (by simp))
              · cases h
      · cases h
  · cases h
theorem clear_sound {ρ : Src → PV} {t e ty : TypeId} {i : TypeInfo} {z : Value} {k : Nat} {zero : List PV} {x : Src} {vx : Value} {r : Res} {cf : CallF} (h : evalOp cf (.clear k zero x) ρ H n = some r) (hr : Ready M φ G w H n r)
    (hu : P.underlying t = some (.slice e)) (hi : P.info? e = some i) (hz : i.zero = some z) (hzr : AggR M φ zero z.cells) (hx : Rv M φ (ρ x) vx) :
    ∃ v w', (Builtin.clear_ #[t] ty #[vx]).run P w = .ok v w' ∧ Post M φ G n w r v w' := by
  have htup : Rv M φ (.tup []) (.tuple #[]) := .tup [] #[] rfl (fun j hj => by simp at hj)
  simp only [evalOp] at h
  split at h
  · rename_i hρ
    rw [hρ] at hx
    cases hx
    cases h
    exact ⟨.tuple #[], w, by simp [Builtin.clear_, run_underlying' hu], Post.pure (rd := []) hr.wr htup⟩
  · rename_i id ver k' off len cap hρ
    rw [hρ] at hx
    split at h
    · rename_i ver' k'' xs hH
      split at h
      · rename_i hc
        obtain ⟨rfl, rfl, rfl, hlen, hzl⟩ := hc
        cases h
        have hG : G id = some (.arr ver k xs) := by rw [hr.same id (.inr (.inr (by simp))), hH]
        obtain ⟨a, cv, c, l, cur, T, g1, g2, g3, g4, g5, g6, g7, g8, g9, g10, g11, g12, g13, g14, g15, g16, g17, g18, g19⟩ := first_view (P := P) hr.wr hG hlen hx
        subst g1
        by_cases hl0 : len = 0
        · subst hl0
          refine ⟨.tuple #[], w, by simp [Builtin.clear_, run_underlying' hu], ?_⟩
          refine Post.turn (l := l) hr.wr hG rfl g4 ?_ rfl rfl rfl rfl (fun _ _ => rfl) htup
          have e : overwrite xs off (List.replicate 0 zero) = xs := by simp [overwrite]
          rw [e]
          exact hr.wr.obj id _ hG
        · have hcv : cv ≠ 0 := by omega
          have hgrid := zero_grid (M := M) (φ := φ) g7 hzr hzl len
          have hfit : (l.base + off) * k + (List.replicate len zero).length * k ≤ cur.size := by
            have : (l.base + off + len) * k ≤ l.tot * k := Nat.mul_le_mul_right k (by omega)
            rw [Nat.add_mul] at this
            simp only [List.length_replicate]; omega
          have hst := storeCells_row (P := P) (w := w) g5 hgrid hfit
          rw [← g11 hcv] at hst
          have hzs : z.cells.size = k := by rw [hzr.1, hzl]
          have hcells : (Builtin.zeroCells z.cells len).toList = (((List.range ((List.replicate len zero).length * k)).map fun x => ((Array.range (len * k)).map (fun x => z.cells[x % z.cells.size]!)).getD x undef).toArray).toList := by
            apply List.ext_getElem
            · simp [Builtin.zeroCells, hzs]
            · intro j h1 h2
              simp only [List.length_map, List.length_range, List.length_replicate] at h2
              simp only [Builtin.zeroCells, Array.getElem_toList, Array.getElem_map, Array.getElem_range, List.getElem_map, List.getElem_range]
              rw [range_map_getD (α := Nat) _ _ _ h2]
          rw [← hcells] at hst
          have key : ∀ W, (storeCells a (Builtin.zeroCells z.cells len).toList).run P w = .ok () W → (Builtin.clear_ #[t] ty #[.slice (some a) len cv]).run P w = .ok (.tuple #[]) W := by
            intro W hW
            obtain ⟨m, rfl⟩ : ∃ m, len = m + 1 := ⟨len - 1, by omega⟩
            simp [Builtin.clear_, run_underlying' hu, run_zero' hi hz, hW]
          refine ⟨.tuple #[], _, key _ hst, ?_⟩
          refine Post.turn (l := l) hr.wr hG rfl g4 ?_ rfl rfl rfl (size_setRow _ _ _) (fun b hb => heap_setRow_other _ _ _ _ hb) htup
          exact objr_over (o := off) g4 g6 g7 g13 g5 g14 g15 g16 g17 g18 hgrid (by simpa using hlen) rfl
      · cases h
    · cases h
  · cases h
end
def ckOf : TypeDesc → Option CK
  | .int _ => some .int
  | .string => some .str
  | .bool => some .bool
  | _ => none
def tyCk (P : Program) (t : TypeId) : Option CK := (P.underlying t).bind ckOf
def flatFields (P : Program) : List Field → Nat → Option (List CK)
  | [], _ => some []
  | f :: fs, j =>
    if f.offset = j ∧ f.name ≠ "_" then
      match tyCk P f.type, flatFields P fs (j + 1) with
      | some k, some ks => some (k :: ks)
      | _, _ => none
    else none
section
variable {P : Program} {M : Mem} {φ : Places} {G : Objs} {H : Heap} {n : Nat}
theorem tyCk_some {t : TypeId} {k : CK} (h : tyCk P t = some k) : ∃ d, P.underlying t = some d ∧ ckOf d = some k := by
  unfold tyCk at h
  cases hu : P.underlying t with
  | none => simp [hu] at h
  | some d => exact ⟨d, rfl, by simpa [hu] using h⟩
theorem ck_agg {t : TypeId} {k : CK} (h : tyCk P t = some k) : tyAgg P t = some false := by
  obtain ⟨d, hd, hk⟩ := tyCk_some h
  cases d <;> simp [ckOf] at hk <;> simp [tyAgg, hd, isAggD]
theorem part_cell {t : TypeId} {vs : Array Value} {j : Nat} (h : tyAgg P t = some false) (hj : j < vs.size) (w : World) : (part t vs j).run P w = .ok (vs.getD j undef) w := by
  obtain ⟨u, hu1, hu2⟩ : ∃ u, vs[j]? = some u ∧ u = vs.getD j undef := ⟨_, Array.getElem?_eq_getElem hj, by simp [Array.getD, hj]⟩
  rw [← hu2]
  simp [part, run_isAgg' h, hu1]
theorem eqFields_sound (w : World) {d : Nat} {xs ys : Array Value} : ∀ (fs : List Field) (j : Nat) (ks : List CK) (a b : List PV) (r : Bool), flatFields P fs j = some ks → cellsEq ks a b = some r → a.length = ks.length → b.length = ks.length →
    (∀ i, i < a.length → j + i < xs.size ∧ Rv M φ (a.getD i .any) (xs.getD (j + i) undef)) → (∀ i, i < b.length → j + i < ys.size ∧ Rv M φ (b.getD i .any) (ys.getD (j + i) undef)) →
    (Op.eqFields (d + 1) xs ys fs).run P w = .ok r w
  | [], j, ks, a, b, r, hf, h, ha, hb, _, _ => by
    simp only [flatFields] at hf
    cases hf
    have ha' : a = [] := List.eq_nil_of_length_eq_zero ha
    have hb' : b = [] := List.eq_nil_of_length_eq_zero hb
    subst ha'
    subst hb'
    simp [cellsEq] at h
    subst h
    rfl
  | f :: fs, j, ks, a, b, r, hf, h, ha, hb, hxa, hyb => by
    simp only [flatFields] at hf
    split at hf
    · rename_i hc
      obtain ⟨hoff, hname⟩ := hc
      split at hf
      · rename_i k ks' hk hks
        cases hf
        obtain ⟨dd, hu, hck⟩ := tyCk_some hk
        cases a with
        | nil => simp at ha
        | cons x a =>
        cases b with
        | nil => simp at hb
        | cons y b =>
        have h0 := hxa 0 (by simp)
        have g0 := hyb 0 (by simp)
        simp only [Nat.add_zero, List.getD_cons_zero] at h0 g0
        have hp1 := part_cell (P := P) (vs := xs) (j := j) (ck_agg hk) h0.1 w
        have hp2 := part_cell (P := P) (vs := ys) (j := j) (ck_agg hk) g0.1 w
        have ih := fun r' (h' : cellsEq ks' a b = some r') => eqFields_sound w (d := d) (xs := xs) (ys := ys) fs (j + 1) ks' a b r' hks h' (by simpa using ha) (by simpa using hb)
          (fun i hi => by have := hxa (i + 1) (by simpa using hi); simpa [Nat.add_assoc, Nat.add_comm 1 i] using this)
          (fun i hi => by have := hyb (i + 1) (by simpa using hi); simpa [Nat.add_assoc, Nat.add_comm 1 i] using this)
        have key : ∀ (e : Bool), (Op.equalIn (d + 1) f.type (xs.getD j undef) (ys.getD j undef)).run P w = .ok e w → (if e = true then cellsEq ks' a b else some false) = some r →
            (Op.eqFields (d + 1) xs ys (f :: fs)).run P w = .ok r w := by
          intro e he hr
          simp only [Op.eqFields, hoff]
          rw [if_pos hname]
          simp only [Sem.run_bind, hp1, hp2, he, Result.andThen_ok]
          cases e with
          | true => simp at hr; simpa using ih r hr
          | false => simp at hr; subst hr; simp
        obtain ⟨_, hx⟩ := h0
        obtain ⟨_, hy⟩ := g0
        unfold cellsEq at h
        split at h
        · rename_i e1 _ _; cases e1
        · rename_i e1 e2 e3
          cases e1
          cases e2
          cases e3
          split at h
          · rename_i hkk
            subst hkk
            generalize hxe : xs.getD j undef = xv at hx key
            generalize hye : ys.getD j undef = yv at hy key
            cases hx
            cases hy
            cases dd <;> simp [ckOf] at hck
            exact key _ (run_equalIn_int w d f.type _ _ _ _ hu) h
          · cases h
        · rename_i e1 e2 e3
          cases e1
          cases e2
          cases e3
          generalize hxe : xs.getD j undef = xv at hx key
          generalize hye : ys.getD j undef = yv at hy key
          cases hx
          cases hy
          cases dd <;> simp [ckOf] at hck
          exact key _ (run_equalIn_string w d f.type _ _ hu) (by rw [← beq_toListBytes]; exact h)
        · rename_i e1 e2 e3
          cases e1
          cases e2
          cases e3
          generalize hxe : xs.getD j undef = xv at hx key
          generalize hye : ys.getD j undef = yv at hy key
          cases hx
          cases hy
          cases dd <;> simp [ckOf] at hck
          exact key _ (run_equalIn_bool' w d f.type _ _ hu) h
        · cases h
      · cases hf
    · cases hf
theorem eqAgg_sound {w : World} {t : TypeId} {fs : Array Field} {ks : List CK} {neg : Bool} {op : BinOp} {a b : List PV} {u v : Value} {r : Bool} (hu : P.underlying t = some (.struct fs)) (hf : flatFields P fs.toList 0 = some ks)
    (hs : P.stoodInHeld t = false) (h : cellsEq ks a b = some r) (ha : a.length = ks.length) (hb : b.length = ks.length) (hau : Rv M φ (.agg a) u) (hbv : Rv M φ (.agg b) v) (hop : op = if neg then .neq else .eql) :
    (binOp op t u v).run P w = .ok (.bool (if neg then !r else r)) w := by
  have hfo : P.fieldsOf t = fs := by simp [Program.fieldsOf, hu]
  cases hau with
  | agg _ us a1 a2 a3 =>
  cases hbv with
  | agg _ vs b1 b2 b3 =>
  have heq : (Op.equalIn 10000 t (.agg us) (.agg vs)).run P w = .ok r w := by
    rw [run_equalIn_struct w 9999 t us vs (by rw [hfo]; exact hu) hs, hfo]
    exact eqFields_sound (M := M) (φ := φ) w (d := 9998) fs.toList 0 ks a b r hf h ha hb (fun i hi => by rw [Nat.zero_add]; exact ⟨by omega, a3 i hi⟩) (fun i hi => by rw [Nat.zero_add]; exact ⟨by omega, b3 i hi⟩)
  cases neg with
  | true => simp at hop; subst hop; rw [run_neq_struct w t us vs, heq]; simp
  | false => simp at hop; subst hop; rw [run_eql_struct w t us vs, heq]; simp
theorem keyEq_sound {p q : PV} {u v : Value} {r : Bool} {d : TypeDesc} {ck : CK} (h : keyEq ck p q = some r) (hp : Rv M φ p u) (hq : Rv M φ q v) (hd : ckOf d = some ck) :
    Instr.sameNow d u v = some r ∧ (r = true → Instr.sameBits 10000 v u = true) := by
  unfold keyEq at h
  split at h
  · cases hp; cases hq
    cases d <;> simp [ckOf] at hd
    split at h
    · rename_i hk
      cases h
      exact ⟨by simp [Instr.sameNow, hk], fun e => by simp at e; simp [Instr.sameBits, hk, e]⟩
    · cases h
  · cases hp; cases hq
    cases d <;> simp [ckOf] at hd
    cases h
    refine ⟨by simp [Instr.sameNow], fun e => ?_⟩
    rw [beq_toListBytes] at e
    have e2 := eq_of_beq e
    simp only [Instr.sameBits]
    rw [beq_toListBytes, e2]
    simp
  · cases hp; cases hq
    cases d <;> simp [ckOf] at hd
    cases h
    exact ⟨by simp [Instr.sameNow], fun e => by simp at e; simp [Instr.sameBits, e]⟩
  · cases d <;> simp [ckOf] at hd
  · cases h
def EntR (M : Mem) (φ : Places) (es : List (PV × PV × Nat)) (en : List MapEntry) : Prop :=
  en.length = es.length ∧ ∀ j, j < es.length → Rv M φ (es.getD j (.any, .any, 0)).1 (en.getD j default).key ∧ Rv M φ (es.getD j (.any, .any, 0)).2.1 (en.getD j default).val ∧
    (es.getD j (.any, .any, 0)).2.2 = (en.getD j default).born
theorem EntR.tail {e : PV × PV × Nat} {es : List (PV × PV × Nat)} {x : MapEntry} {en : List MapEntry} (h : EntR M φ (e :: es) (x :: en)) : EntR M φ es en :=
  ⟨by simpa using h.1, fun j hj => by have := h.2 (j + 1) (by simpa using hj); simpa using this⟩
theorem findNow_sound {d : TypeDesc} {ck : CK} (hd : ckOf d = some ck) {p : PV} {u : Value} (hp : Rv M φ p u) : ∀ {es : List (PV × PV × Nat)} {en : List MapEntry} {i : Nat} {r : Option Nat}, findKey ck p es i = some r → EntR M φ es en →
    (r = none → Instr.findNow d u en i = some none) ∧
    (∀ m, r = some m → i ≤ m ∧ m - i < es.length ∧ Instr.findNow d u en i = some (some (m, (en.getD (m - i) default).val)) ∧ Instr.sameBits 10000 (en.getD (m - i) default).key u = true)
  | [], en, i, r, h, he => by
    simp only [findKey] at h
    cases h
    have : en = [] := List.eq_nil_of_length_eq_zero he.1
    subst this
    refine ⟨fun _ => rfl, fun m hm => ?_⟩
    cases hm
  | e :: es, [], i, r, h, he => by have := he.1; simp at this
  | e :: es, x :: en, i, r, h, he => by
    have h0 := he.2 0 (by simp)
    simp only [List.getD_cons_zero] at h0
    simp only [findKey] at h
    split at h
    · rename_i hk
      cases h
      obtain ⟨k1, k2⟩ := keyEq_sound hk hp h0.1 hd
      refine ⟨(fun hc => by cases hc), fun m hm => ?_⟩
      cases hm
      exact ⟨Nat.le_refl _, by simp, by simp [Instr.findNow, k1], by simpa using k2 rfl⟩
    · rename_i hk
      obtain ⟨k1, k2⟩ := keyEq_sound hk hp h0.1 hd
      obtain ⟨f1, f2⟩ := findNow_sound hd hp h he.tail
      refine ⟨fun hn => by simp [Instr.findNow, k1, f1 hn], fun m hm => ?_⟩
      obtain ⟨g1, g2, g3, g4⟩ := f2 m hm
      have e1 : m - i = (m - (i + 1)) + 1 := by omega
      refine ⟨by omega, by simp; omega, ?_, ?_⟩
      · simp only [Instr.findNow, k1, g3]; rw [e1]; simp
      · rw [e1]; simpa using g4
    · cases h
theorem checkKey_run {t : TypeId} {d : TypeDesc} {ck : CK} (hu : P.underlying t = some d) (hd : ckOf d = some ck) (b : Bool) (v : Value) (w : World) : (Instr.checkKey b 10000 t v).run P w = .ok () w := by
  rw [show (10000 : Nat) = 9999 + 1 from rfl, Instr.checkKey]
  cases d <;> simp [ckOf] at hd <;> simp [run_underlying' hu]
def KeyOk (P : Program) (kt : TypeId) (ck : CK) : Prop :=
  (∃ d, P.underlying kt = some d ∧ ckOf d = some ck) ∨
  ∃ len e i k, P.underlying kt = some (.array len e) ∧ P.info? e = some i ∧ i.size = 1 ∧ P.underlying e = some (.int k) ∧ ck = .arr len
def trKey (P : Program) (t : TypeId) : Option CK :=
  match P.underlying t with
  | some (.array len e) =>
    match P.info? e, P.underlying e with
    | some i, some (.int _) => if i.size = 1 then some (.arr len) else none
    | _, _ => none
  | some d => ckOf d
  | none => none
theorem trKey_ok {t : TypeId} {ck : CK} (h : trKey P t = some ck) : KeyOk P t ck := by
  unfold trKey at h
  split at h
  · rename_i len e hu
    split at h
    · rename_i i k hi hk
      split at h
      · rename_i hs
        cases h
        exact .inr ⟨len, e, i, k, hu, hi, hs, hk, rfl⟩
      · cases h
    · cases h
  · rename_i d _ hu
    exact .inl ⟨d, hu, h⟩
  · cases h
theorem cellsEq_int_cons {ks : List CK} {x y : PV} {a b : List PV} {r : Bool} (h : cellsEq (.int :: ks) (x :: a) (y :: b) = some r) :
    ∃ k m n, x = .int k m ∧ y = .int k n ∧ (if m == n then cellsEq ks a b else some false) = some r := by
  cases x <;> first | (simp [cellsEq] at h; done) | skip
  cases y <;> first | (simp [cellsEq] at h; done) | skip
  rename_i k m k' n
  simp only [cellsEq] at h
  split at h
  · rename_i hk
    subst hk
    exact ⟨k, m, n, rfl, rfl, h⟩
  · cases h
theorem keyEq_arr {N : Nat} {p q : PV} {r : Bool} (h : keyEq (.arr N) p q = some r) : ∃ a b, p = .agg a ∧ q = .agg b ∧ a.length = N ∧ b.length = N ∧ cellsEq (List.replicate N .int) a b = some r := by
  cases p <;> first | (simp [keyEq] at h; done) | skip
  cases q <;> first | (simp [keyEq] at h; done) | skip
  rename_i a b
  simp only [keyEq] at h
  split at h
  · rename_i hc
    exact ⟨a, b, rfl, rfl, hc.1, hc.2, h⟩
  · cases h
theorem cellsEq_ints : ∀ (m : Nat) (a b : List PV), cellsEq (List.replicate m .int) a b = some true → a.length = m → b.length = m → a = b ∧ ∀ i, i < m → ∃ k n, a.getD i .any = .int k n
  | 0, a, b, h, ha, hb => by
    have ha' : a = [] := List.eq_nil_of_length_eq_zero ha
    have hb' : b = [] := List.eq_nil_of_length_eq_zero hb
    subst ha' hb'
    exact ⟨rfl, fun i hi => by omega⟩
  | m + 1, a, b, h, ha, hb => by
    cases a with
    | nil => simp at ha
    | cons x a =>
    cases b with
    | nil => simp at hb
    | cons y b =>
    rw [List.replicate_succ] at h
    obtain ⟨k, u, v, rfl, rfl, h2⟩ := cellsEq_int_cons h
    split at h2
    · rename_i e
      have e' := eq_of_beq e
      subst e'
      obtain ⟨h3, h4⟩ := cellsEq_ints m a b h2 (by simpa using ha) (by simpa using hb)
      refine ⟨by rw [h3], fun i hi => ?_⟩
      cases i with
      | zero => exact ⟨k, u, by simp⟩
      | succ i => simpa using h4 i (by omega)
    · cases h2
theorem part_int {e : TypeId} {k : IntKind} (hu : P.underlying e = some (.int k)) {vs : Array Value} {j : Nat} (hj : j < vs.size) (w : World) : (part e vs j).run P w = .ok (vs.getD j undef) w :=
  part_cell (by simp [tyAgg, hu, isAggD]) hj w
theorem eqItems_sound (w : World) {e : TypeId} {k : IntKind} (hu : P.underlying e = some (.int k)) {d : Nat} {xs ys : Array Value} : ∀ (m j : Nat) (a b : List PV) (r : Bool), cellsEq (List.replicate m .int) a b = some r → a.length = m → b.length = m →
    (∀ i, i < m → j + i < xs.size ∧ Rv M φ (a.getD i .any) (xs.getD (j + i) undef)) → (∀ i, i < m → j + i < ys.size ∧ Rv M φ (b.getD i .any) (ys.getD (j + i) undef)) →
    (Op.eqItems (d + 1) e 1 xs ys (List.range' j m)).run P w = .ok r w
  | 0, j, a, b, r, h, ha, hb, _, _ => by
    have ha' : a = [] := List.eq_nil_of_length_eq_zero ha
    have hb' : b = [] := List.eq_nil_of_length_eq_zero hb
    subst ha' hb'
    simp [cellsEq] at h
    subst h
    rfl
  | m + 1, j, a, b, r, h, ha, hb, hxa, hyb => by
    cases a with
    | nil => simp at ha
    | cons x a =>
    cases b with
    | nil => simp at hb
    | cons y b =>
    have h0 := hxa 0 (by omega)
    have g0 := hyb 0 (by omega)
    simp only [Nat.add_zero, List.getD_cons_zero] at h0 g0
    obtain ⟨h01, h02⟩ := h0
    obtain ⟨g01, g02⟩ := g0
    have hp1 := part_int (P := P) hu h01 w
    have hp2 := part_int (P := P) hu g01 w
    have ih := fun r' (h' : cellsEq (List.replicate m .int) a b = some r') => eqItems_sound w hu (d := d) m (j + 1) a b r' h' (by simpa using ha) (by simpa using hb)
      (fun i hi => by have := hxa (i + 1) (by omega); simpa [Nat.add_assoc, Nat.add_comm 1 i] using this)
      (fun i hi => by have := hyb (i + 1) (by omega); simpa [Nat.add_assoc, Nat.add_comm 1 i] using this)
    rw [List.replicate_succ] at h
    obtain ⟨kk, u, v, rfl, rfl, h2⟩ := cellsEq_int_cons h
    generalize hxe : xs.getD j undef = xv at h02 hp1
    generalize hye : ys.getD j undef = yv at g02 hp2
    cases h02
    cases g02
    simp only [List.range'_succ, Op.eqItems, Nat.mul_one, Sem.run_bind, hp1, hp2, Result.andThen_ok]
    by_cases huv : (u == v) = true
    · rw [if_pos huv] at h2
      rw [run_equalIn_int w d e _ _ _ _ hu]
      simp [huv]
      simpa using ih r h2
    · rw [if_neg huv] at h2
      cases h2
      rw [run_equalIn_int w d e _ _ _ _ hu]
      simp [huv]
theorem checkKey_loop {e : TypeId} {k : IntKind} (hu : P.underlying e = some (.int k)) (b : Bool) {us : Array Value} (w : World) : ∀ (is : List Nat), (∀ i ∈ is, i < us.size) → tySize P e = some 1 →
    ((forIn is PUnit.unit (fun i (_ : PUnit) => do
      Instr.checkKey b 9999 e (← part e us (i * (← sizeOf e)))
      pure (ForInStep.yield PUnit.unit)) : Sem PUnit)).run P w = .ok PUnit.unit w
  | [], _, _ => by simp
  | i :: is, h, hs => by
    have hp := part_int (P := P) hu (h i (by simp)) w
    have hc : (Instr.checkKey b 9999 e (us.getD i undef)).run P w = .ok () w := by
      rw [show (9999 : Nat) = 9998 + 1 from rfl, Instr.checkKey]
      simp [run_underlying' hu]
    have ih := checkKey_loop hu b w is (fun j hj => h j (by simp [hj])) hs
    simp only [List.forIn_cons, Sem.run_bind, run_sizeOf' hs, Result.andThen_ok, Nat.mul_one, hp, hc, Sem.run_pure]
    exact ih
theorem findAsking_sound {kt e : TypeId} {len : Nat} {i : TypeInfo} {k : IntKind} (hu : P.underlying kt = some (.array len e)) (hi : P.info? e = some i) (hs : i.size = 1) (he : P.underlying e = some (.int k)) {p : PV} {u : Value} (hp : Rv M φ p u) (w : World) :
    ∀ {es : List (PV × PV × Nat)} {en : List MapEntry} {j : Nat} {r : Option Nat}, findKey (.arr len) p es j = some r → EntR M φ es en →
    (r = none → (Instr.findAsking kt u en j).run P w = .ok none w) ∧
    (∀ m, r = some m → j ≤ m ∧ m - j < es.length ∧ (Instr.findAsking kt u en j).run P w = .ok (some (m, (en.getD (m - j) default).val)) w ∧ Instr.sameBits 10000 (en.getD (m - j) default).key u = true)
  | [], en, j, r, h, hen => by
    simp only [findKey] at h
    cases h
    have : en = [] := List.eq_nil_of_length_eq_zero hen.1
    subst this
    refine ⟨fun _ => by simp [Instr.findAsking], fun m hm => by cases hm⟩
  | e0 :: es, [], j, r, h, hen => by have := hen.1; simp at this
  | e0 :: es, x :: en, j, r, h, hen => by
    have h0 := hen.2 0 (by simp)
    simp only [List.getD_cons_zero] at h0
    have hc1 : P.cellsOf e = 1 := by simp [Program.cellsOf, hi, hs]
    have heq : ∀ b, keyEq (.arr len) p e0.1 = some b → (Op.equal kt u x.key).run P w = .ok b w ∧ (b = true → Instr.sameBits 10000 x.key u = true) := by
      intro b hb
      have hx := h0.1
      generalize e0.1 = q at hb hx
      obtain ⟨a, c, rfl, rfl, l1, l2, hb⟩ := keyEq_arr hb
      cases hp with
      | agg _ us a1 a2 a3 =>
      generalize x.key = xk at hx ⊢
      cases hx with
      | agg _ vs b1 b2 b3 =>
      constructor
      · have hq : (Op.equalIn 10000 kt (.agg us) (.agg vs)).run P w = .ok b w := by
          rw [show (10000 : Nat) = 9999 + 1 from rfl, run_equalIn_array w 9999 us vs hu hi, hc1, List.range_eq_range', show (9999 : Nat) = 9998 + 1 from rfl]
          exact eqItems_sound (M := M) (φ := φ) w he (d := 9998) len 0 a c b hb l1 l2 (fun i hi => by rw [Nat.zero_add]; exact ⟨by omega, a3 i (by omega)⟩) (fun i hi => by rw [Nat.zero_add]; exact ⟨by omega, b3 i (by omega)⟩)
        exact hq
      · intro hbt
        subst hbt
        obtain ⟨hac, hints⟩ := cellsEq_ints len a c hb l1 l2
        subst hac
        have huv : ∀ i, i < us.size → Instr.sameBits 9999 (vs.getD i undef) (us.getD i undef) = true := by
          intro i hi
          have q1 := a3 i (by omega)
          have q2 := b3 i (by omega)
          obtain ⟨k, n, hkn⟩ := hints i (by omega)
          rw [hkn] at q1 q2
          generalize us.getD i undef = u1 at q1 ⊢
          generalize vs.getD i undef = v1 at q2 ⊢
          cases q1; cases q2
          simp [Instr.sameBits]
        rw [show (10000 : Nat) = 9999 + 1 from rfl]
        simp only [Instr.sameBits, Bool.and_eq_true, beq_iff_eq]
        refine ⟨by omega, ?_⟩
        rw [List.all_eq_true]
        intro pr hpr
        obtain ⟨i, hi, hget⟩ := List.getElem_of_mem hpr
        simp only [List.length_zip, Array.length_toList] at hi
        rw [← hget]
        simp only [List.getElem_zip, Array.getElem_toList]
        have := huv i (by omega)
        simpa [Array.getD, show i < us.size by omega, show i < vs.size by omega] using this
    simp only [findKey] at h
    split at h
    · rename_i hk
      cases h
      obtain ⟨k1, k2⟩ := heq _ hk
      refine ⟨(fun hc => by cases hc), fun m hm => ?_⟩
      cases hm
      exact ⟨Nat.le_refl _, by simp, by simp [Instr.findAsking, k1], by simpa using k2 rfl⟩
    · rename_i hk
      obtain ⟨k1, k2⟩ := heq _ hk
      obtain ⟨f1, f2⟩ := findAsking_sound hu hi hs he hp w h hen.tail
      refine ⟨fun hn => by simp [Instr.findAsking, k1, f1 hn], fun m hm => ?_⟩
      obtain ⟨g1, g2, g3, g4⟩ := f2 m hm
      have e1 : m - j = (m - (j + 1)) + 1 := by omega
      refine ⟨by omega, by simp; omega, ?_, ?_⟩
      · simp only [Instr.findAsking, Sem.run_bind, k1, Result.andThen_ok, Bool.false_eq_true, if_false, g3]; rw [e1]; simp
      · rw [e1]; simpa using g4
    · cases h
theorem findKey_run {t : TypeId} {d : TypeDesc} {u : Value} {en : List MapEntry} {x : Option (Nat × Value)} (hu : P.underlying t = some d) (h : Instr.findNow d u en 0 = some x) (w : World) :
    (Instr.findKey t u en).run P w = .ok x w := by
  simp [Instr.findKey, run_underlying' hu, h]
theorem findIn_full {kt : TypeId} {ck : CK} (hk : KeyOk P kt ck) {p : PV} {u : Value} (hp : Rv M φ p u) {es : List (PV × PV × Nat)} {en : List MapEntry} {r : Option Nat} (h : findIn ck p es = some r) (he : EntR M φ es en) (w : World) :
    (∀ b, (Instr.checkKey b 10000 kt u).run P w = .ok () w) ∧ (r = none → (Instr.findKey kt u en).run P w = .ok none w) ∧
    (∀ m, r = some m → m < es.length ∧ (Instr.findKey kt u en).run P w = .ok (some (m, (en.getD m default).val)) w ∧ Instr.sameBits 10000 (en.getD m default).key u = true) := by
  unfold findIn at h
  split at h
  · rename_i hok
    rcases hk with ⟨d, hd, hck⟩ | ⟨len, e, i, k, hu, hi, hs, hke, rfl⟩
    · obtain ⟨f1, f2⟩ := findNow_sound hck hp h he
      refine ⟨fun b => checkKey_run hd hck b u w, fun hn => ?_, fun m hm => ?_⟩
      · simp [Instr.findKey, run_underlying' hd, f1 hn]
      · obtain ⟨_, g2, g3, g4⟩ := f2 m hm
        simp only [Nat.sub_zero] at g2 g3 g4
        exact ⟨g2, by simp [Instr.findKey, run_underlying' hd, g3], g4⟩
    · obtain ⟨f1, f2⟩ := findAsking_sound hu hi hs hke hp w h he
      unfold keyOk at hok
      split at hok
      · rename_i n' a e1
        cases e1
        simp only [Bool.and_eq_true, beq_iff_eq] at hok
        cases hp with
        | agg _ us a1 a2 a3 =>
        have hts : tySize P e = some 1 := by simp [tySize, hi, hs]
        refine ⟨fun b => ?_, fun hn => ?_, fun m hm => ?_⟩
        · rw [show (10000 : Nat) = 9999 + 1 from rfl, Instr.checkKey]
          simp only [Sem.run_bind, run_underlying' hu, Result.andThen_ok]
          simp only [Std.Legacy.Range.forIn_eq_forIn_range', Std.Legacy.Range.size, Nat.sub_zero, Nat.add_one_sub_one, Nat.div_one]
          have := checkKey_loop (P := P) hke b (us := us) w (List.range' 0 len) (fun i hi => by simp at hi; omega) hts
          simp at this ⊢
          rw [this]; rfl
        · have hfn : Instr.findNow (.array len e) (.agg us) en 0 = some none ∨ Instr.findNow (.array len e) (.agg us) en 0 = none := by
            cases en with
            | nil => exact .inl rfl
            | cons x en => right; simp [Instr.findNow, Instr.sameNow]
          rcases hfn with hf | hf
          · simp [Instr.findKey, run_underlying' hu, hf]
          · simp [Instr.findKey, run_underlying' hu, hf, f1 hn]
        · obtain ⟨_, g2, g3, g4⟩ := f2 m hm
          simp only [Nat.sub_zero] at g2 g3 g4
          have hfn : Instr.findNow (.array len e) (.agg us) en 0 = none := by
            cases en with
            | nil => have := he.1; simp at this; omega
            | cons x en => simp [Instr.findNow, Instr.sameNow]
          exact ⟨g2, by simp [Instr.findKey, run_underlying' hu, hfn, g3], g4⟩
      · cases hok
      · rename_i hne _
        exact absurd rfl (hne len)
  · cases h
theorem check_nil {kt : TypeId} {ck : CK} (hk : KeyOk P kt ck) {p : PV} {u : Value} (hp : Rv M φ p u) (h : keyOk ck p = true) (w : World) :
    (∀ b, (Instr.checkKey b 10000 kt u).run P w = .ok () w) ∧ (Instr.findKey kt u []).run P w = .ok none w := by
  obtain ⟨h1, h2, _⟩ := findIn_full hk hp (es := []) (en := []) (r := none) (by simp [findIn, h, findKey]) ⟨rfl, fun j hj => by simp at hj⟩ w
  exact ⟨h1, h2 rfl⟩
theorem objr_map {w : World} {id : Nat} {es : List (PV × PV × Nat)} {clock : Nat} (h : ObjR M φ id w (.map es clock)) :
    ∃ l en, φ id 0 = some l ∧ (∀ v, 0 < v → φ id v = none) ∧ w.heap[l.block]? = some (.map en clock) ∧ EntR M φ es en.toList := by
  cases h with
  | map _ _ l en h1 h2 h3 h4 h5 =>
    refine ⟨l, en, h1, h2, h3, by simpa using h4, fun j hj => ?_⟩
    have := h5 j hj
    have e : en.toList.getD j default = en.getD j default := by simp [List.getD_eq_getElem?_getD, Array.getD_eq_getD_getElem?]
    rw [e]; exact this
theorem map_objr {w : World} {id : Nat} {es : List (PV × PV × Nat)} {clock : Nat} {l : Loc} {en : Array MapEntry} (h1 : φ id 0 = some l) (h2 : ∀ v, 0 < v → φ id v = none) (h3 : w.heap[l.block]? = some (.map en clock))
    (h : EntR M φ es en.toList) : ObjR M φ id w (.map es clock) := by
  refine .map es clock l en h1 h2 h3 (by simpa using h.1) (fun j hj => ?_)
  have e : en.toList.getD j default = en.getD j default := by simp [List.getD_eq_getElem?_getD, Array.getD_eq_getD_getElem?]
  rw [← e]; exact h.2 j hj
theorem mkMap_sound {w : World} {t : TypeId} {r : Res} {ρ : Src → PV} {cf : CallF} (h : evalOp cf .mkMap ρ H n = some r) (hr : Ready M φ G w H n r) :
    ∃ v w', (Instr.makeMap t none).run P w = .ok v w' ∧ Post M φ G n w r v w' := by
  simp only [evalOp] at h
  cases h
  have hn : ∀ v, φ n v = none := fun v => hr.fresh n (Nat.le_refl _) (.inr (by simp)) v
  refine ⟨.map (some w.heap.size), w.alloc (.map #[] 0), by simp [Instr.makeMap], ?_⟩
  refine Post.new (rd := []) (l' := ⟨w.heap.size, 0, 0, 0⟩) hr.wr rfl hn _ rfl ?_ (.map n _ (φ.set_at n 0 _))
  exact map_objr (φ.set_at n 0 _) (fun v hv => by rw [φ.set_ver n 0 _ n v (by omega)]; exact hn v) (heap_new _ _) ⟨rfl, fun j hj => by simp at hj⟩
theorem getObj_map {w : World} {b : Nat} {en : Array MapEntry} {clock : Nat} (h : w.heap[b]? = some (.map en clock)) : (getObj b).run P w = .ok (.map en clock) w := by
  simp [getObj, Sem.run, h]
theorem setObj_map {w : World} {b : Nat} {en : Array MapEntry} {clock : Nat} {o : Go.Obj} (h : w.heap[b]? = some (.map en clock)) : (setObj b o).run P w = .ok () { w with heap := w.heap.setIfInBounds b o } := by
  simp [setObj, Sem.run, h]
theorem heap_set_at {w : World} {b : Nat} {o x : Go.Obj} (h : w.heap[b]? = some x) : ({ w with heap := w.heap.setIfInBounds b o } : World).heap[b]? = some o := by
  have := (Array.getElem?_eq_some_iff.1 h).1
  simp [this]
theorem heap_set_ne {w : World} {b c : Nat} {o : Go.Obj} (h : c ≠ b) : ({ w with heap := w.heap.setIfInBounds b o } : World).heap[c]? = w.heap[c]? := by
  simp [Ne.symm h]
theorem lookup_sound {w : World} {ck : CK} {t kt et : TypeId} {i : TypeInfo} {z : Value} {zero : PV} {x key : Src} {vx vk : Value} {ok : Bool} {r : Res} {ρ : Src → PV} {cf : CallF}
    (h : evalOp cf (.lookup ck zero x key ok) ρ H n = some r) (hr : Ready M φ G w H n r) (hx : Rv M φ (ρ x) vx) (hk : Rv M φ (ρ key) vk) (hu : P.underlying t = some (.map kt et)) (hkk : KeyOk P kt ck)
    (hi : P.info? et = some i) (hz : i.zero = some z) (hzr : Rv M φ zero z) : ∃ v w', (Instr.lookup t vx vk ok).run P w = .ok v w' ∧ Post M φ G n w r v w' := by
  have pair : ∀ (p : PV) (v : Value) (b : Bool), Rv M φ p v → Rv M φ (if ok then .tup [p, .bool b] else p) (if ok then .tuple #[v, .bool b] else v) := by
    intro p v b hp
    cases ok with
    | false => simpa using hp
    | true =>
      refine .tup _ _ rfl (fun j hj => ?_)
      match j, hj with
      | 0, _ => simpa using hp
      | 1, _ => exact .bool b
  simp only [evalOp] at h
  split at h
  · rename_i hρ
    rw [hρ] at hx
    cases hx
    split at h
    · rename_i hko
      cases h
      refine ⟨_, w, ?_, Post.pure (rd := []) hr.wr (pair zero z false hzr)⟩
      obtain ⟨hck, hfk⟩ := check_nil hkk hk hko w
      simp [Instr.lookup, run_underlying' hu, hck, hfk, run_zero' hi hz]
    · cases h
  · rename_i id hρ
    rw [hρ] at hx
    split at h
    · rename_i es clock hH
      have hat : ∀ (r' : PV), r = ⟨r', H, n, ⟨[id], [], false⟩⟩ → G id = some (.map es clock) := by
        intro r' e; rw [hr.same id (by rw [e]; exact .inr (.inl (by simp))), hH]
      have hmain : ∀ (r' : PV) (v : Value), r = ⟨r', H, n, ⟨[id], [], false⟩⟩ → (∀ (en : Array MapEntry), EntR M φ es en.toList → (∀ b, (Instr.checkKey b 10000 kt vk).run P w = .ok () w) ∧ ∃ x, (Instr.findKey kt vk en.toList).run P w = .ok x w ∧
          ((x.isSome = true ∧ ∃ m v', x = some (m, v') ∧ Rv M φ r' (if ok then .tuple #[v', .bool true] else v')) ∨ x = none ∧ Rv M φ r' (if ok then .tuple #[z, .bool false] else z))) →
          ∃ v w', (Instr.lookup t vx vk ok).run P w = .ok v w' ∧ Post M φ G n w r v w' := by
        intro r' v e hf
        have hG := hat r' e
        cases hx with
        | map _ l hl =>
        obtain ⟨l2, en, g1, g2, g3, g4⟩ := objr_map (hr.wr.obj id _ hG)
        obtain rfl : l = l2 := Option.some.inj (hl.symm.trans g1)
        obtain ⟨hck, x, hfk, hx2⟩ := hf en g4
        rcases hx2 with ⟨_, m, v', rfl, hrv⟩ | ⟨rfl, hrv⟩
        · refine ⟨_, w, ?_, by rw [e]; exact Post.pure (rd := [id]) hr.wr hrv⟩
          simp [Instr.lookup, run_underlying' hu, getObj_map g3, hck, hfk]
        · refine ⟨_, w, ?_, by rw [e]; exact Post.pure (rd := [id]) hr.wr hrv⟩
          simp [Instr.lookup, run_underlying' hu, getObj_map g3, hck, hfk, run_zero' hi hz]
      split at h
      · rename_i m hfind
        cases h
        refine hmain _ undef rfl (fun en hen => ?_)
        obtain ⟨hck, _, f2⟩ := findIn_full hkk hk hfind hen w
        obtain ⟨g2, g3, _⟩ := f2 m rfl
        refine ⟨hck, _, g3, .inl ⟨rfl, m, _, rfl, ?_⟩⟩
        exact pair _ _ true (by have := (hen.2 m (by omega)).2.1; simpa using this)
      · rename_i hfind
        cases h
        refine hmain _ undef rfl (fun en hen => ?_)
        obtain ⟨hck, f1, _⟩ := findIn_full hkk hk hfind hen w
        exact ⟨hck, none, f1 rfl, .inr ⟨rfl, pair zero z false hzr⟩⟩
      · cases h
    · cases h
  · cases h
theorem getD_modify {en : Array MapEntry} {m j : Nat} {f : MapEntry → MapEntry} (hj : j < en.size) : (en.modify m f).toList.getD j default = if j = m then f (en.toList.getD j default) else en.toList.getD j default := by
  simp only [List.getD_eq_getElem?_getD, Array.getElem?_toList, Array.getElem?_modify]
  by_cases h : m = j
  · subst h; simp [hj]
  · simp [h, Ne.symm h]
theorem getD_set_es {es : List (PV × PV × Nat)} {m j : Nat} {e : PV × PV × Nat} (hm : m < es.length) : (es.set m e).getD j (.any, .any, 0) = if j = m then e else es.getD j (.any, .any, 0) := by
  simp only [List.getD_eq_getElem?_getD, List.getElem?_set]
  by_cases h : m = j
  · subst h; simp [hm]
  · simp [h, Ne.symm h]
theorem EntR.modify {es : List (PV × PV × Nat)} {en : Array MapEntry} {m : Nat} {e : PV × PV × Nat} {f : MapEntry → MapEntry} (h : EntR M φ es en.toList) (hm : m < es.length)
    (hk : Rv M φ e.1 (f (en.toList.getD m default)).key) (hv : Rv M φ e.2.1 (f (en.toList.getD m default)).val) (hb : e.2.2 = (f (en.toList.getD m default)).born) : EntR M φ (es.set m e) (en.modify m f).toList := by
  have hs : en.size = es.length := by simpa using h.1
  refine ⟨by simpa using h.1, fun j hj => ?_⟩
  simp only [List.length_set] at hj
  rw [getD_modify (by omega), getD_set_es hm]
  by_cases hjm : j = m
  · subst hjm; simp only [if_true]; exact ⟨hk, hv, hb⟩
  · simp only [hjm, if_false]; exact h.2 j hj
theorem EntR.push {es : List (PV × PV × Nat)} {en : Array MapEntry} {e : PV × PV × Nat} {x : MapEntry} (h : EntR M φ es en.toList) (hk : Rv M φ e.1 x.key) (hv : Rv M φ e.2.1 x.val) (hb : e.2.2 = x.born) :
    EntR M φ (es ++ [e]) (en.push x).toList := by
  have hs : en.size = es.length := by simpa using h.1
  refine ⟨by simp [hs], fun j hj => ?_⟩
  simp only [List.length_append, List.length_singleton] at hj
  simp only [Array.toList_push, List.getD_eq_getElem?_getD]
  by_cases hjm : j < es.length
  · rw [List.getElem?_append_left hjm, List.getElem?_append_left (by simpa [hs] using hjm)]
    have := h.2 j hjm
    simpa only [List.getD_eq_getElem?_getD] using this
  · have hj' : j = es.length := by omega
    subst hj'
    rw [List.getElem?_append_right (Nat.le_refl _), List.getElem?_append_right (by simp [hs])]
    simp [hs]
    exact ⟨hk, hv, hb⟩
theorem mapSet_sound {w : World} {ck : CK} {t kt et : TypeId} {m k v : Src} {vm vk vv : Value} {r : Res} {ρ : Src → PV} {cf : CallF}
    (h : evalOp cf (.mapSet ck m k v) ρ H n = some r) (hr : Ready M φ G w H n r) (hm : Rv M φ (ρ m) vm) (hk : Rv M φ (ρ k) vk) (hv : Rv M φ (ρ v) vv) (hu : P.underlying t = some (.map kt et)) (hkk : KeyOk P kt ck) :
    ∃ w', (Instr.mapUpdate t vm vk vv).run P w = .ok () w' ∧ Post M φ G n w r undef w' := by
  simp only [evalOp] at h
  split at h
  · rename_i id hρ
    rw [hρ] at hm
    cases hm with
    | map _ l hl =>
    split at h
    · rename_i es clock hH
      have hat : ∀ (r' : PV) (H' : Heap), r = ⟨r', H', n, ⟨[], [id], false⟩⟩ → G id = some (.map es clock) := by
        intro r' H' e; rw [hr.same id (by rw [e]; exact .inr (.inr (by simp))), hH]
      split at h
      · rename_i i hfind
        cases h
        have hG := hat _ _ rfl
        obtain ⟨l2, en, g1, g2, g3, g4⟩ := objr_map (hr.wr.obj id _ hG)
        obtain rfl : l = l2 := Option.some.inj (hl.symm.trans g1)
        obtain ⟨hck, _, f2⟩ := findIn_full hkk hk hfind g4 w
        obtain ⟨h2, hfk, h4⟩ := f2 i rfl
        have hi : i < en.size := by have := g4.1; simp at this; omega
        have hkey : ((en[i]?).map (·.key)).getD vk = (en.toList.getD i default).key := by simp [List.getD_eq_getElem?_getD, hi]
        refine ⟨{ w with heap := w.heap.setIfInBounds l.block (.map (en.modify i fun e => { e with key := vk, val := vv }) clock) }, ?_, ?_⟩
        · simp only [Instr.mapUpdate, Sem.run_bind, run_underlying' hu, Result.andThen_ok, getObj_map g3, hck, hfk, hkey, Instr.keyThatStays, h4, if_true, Sem.run_pure, setObj_map g3]
        · refine Post.turn (l := l) (rd := []) hr.wr hG rfl g1 ?_ rfl rfl rfl (by simp) (fun b hb => heap_set_ne hb) (.tup [] _ rfl (fun j hj => by simp at hj))
          exact map_objr g1 g2 (heap_set_at g3) (g4.modify h2 hk hv (g4.2 i h2).2.2)
      · rename_i hfind
        cases h
        have hG := hat _ _ rfl
        obtain ⟨l2, en, g1, g2, g3, g4⟩ := objr_map (hr.wr.obj id _ hG)
        obtain rfl : l = l2 := Option.some.inj (hl.symm.trans g1)
        obtain ⟨hck, f1, _⟩ := findIn_full hkk hk hfind g4 w
        have hfk := f1 rfl
        refine ⟨{ w with heap := w.heap.setIfInBounds l.block (.map (en.push { key := vk, val := vv, born := clock }) (clock + 1)) }, ?_, ?_⟩
        · simp only [Instr.mapUpdate, Sem.run_bind, run_underlying' hu, Result.andThen_ok, getObj_map g3, hck, hfk, setObj_map g3]
        · refine Post.turn (l := l) (rd := []) hr.wr hG rfl g1 ?_ rfl rfl rfl (by simp) (fun b hb => heap_set_ne hb) (.tup [] _ rfl (fun j hj => by simp at hj))
          exact map_objr g1 g2 (heap_set_at g3) (g4.push hk hv rfl)
      · cases h
    · cases h
  · cases h
theorem pair_rv {p q : PV} {u v : Value} (hp : Rv M φ p u) (hq : Rv M φ q v) : Rv M φ (.tup [p, q]) (.tuple #[u, v]) := by
  refine .tup _ _ rfl (fun j hj => ?_)
  match j, hj with
  | 0, _ => simpa using hp
  | 1, _ => simpa using hq
theorem mapEntry_sound {w : World} {ck : CK} {t kt et : TypeId} {i : TypeInfo} {z : Value} {zero : PV} {m k : Src} {vm vk : Value} {r : Res} {ρ : Src → PV} {cf : CallF}
    (h : evalOp cf (.mapEntry ck zero m k) ρ H n = some r) (hr : Ready M φ G w H n r) (hm : Rv M φ (ρ m) vm) (hk : Rv M φ (ρ k) vk) (hu : P.underlying t = some (.map kt et)) (hkk : KeyOk P kt ck)
    (hi : P.info? et = some i) (hz : i.zero = some z) (hzr : Rv M φ zero z) : ∃ v w', (Instr.mapEntry t vm vk).run P w = .ok v w' ∧ Post M φ G n w r v w' := by
  simp only [evalOp] at h
  split at h
  · rename_i id hρ
    rw [hρ] at hm
    cases hm with
    | map _ l hl =>
    split at h
    · rename_i es clock hH
      have hat : ∀ (r' : PV) (H' : Heap), r = ⟨r', H', n, ⟨[], [id], false⟩⟩ → G id = some (.map es clock) := by
        intro r' H' e; rw [hr.same id (by rw [e]; exact .inr (.inr (by simp))), hH]
      split at h
      · rename_i x hfind
        cases h
        have hG := hat _ _ rfl
        obtain ⟨l2, en, g1, g2, g3, g4⟩ := objr_map (hr.wr.obj id _ hG)
        obtain rfl : l = l2 := Option.some.inj (hl.symm.trans g1)
        obtain ⟨hck, _, f2⟩ := findIn_full hkk hk hfind g4 w
        obtain ⟨h2, hfk, h4⟩ := f2 x rfl
        have hi : x < en.size := by have := g4.1; simp at this; omega
        have hkey : ((en[x]?).map (·.key)).getD vk = (en.toList.getD x default).key := by simp [List.getD_eq_getElem?_getD, hi]
        have hborn : ((en[x]?).map (fun e => (e.born : Int))).getD 0 = (en.toList.getD x default).born := by simp [List.getD_eq_getElem?_getD, hi]
        refine ⟨.tuple #[(en.toList.getD x default).val, goInt ((en.toList.getD x default).born)], { w with heap := w.heap.setIfInBounds l.block (.map (en.modify x fun e => { e with key := vk }) clock) }, ?_, ?_⟩
        · simp only [Instr.mapEntry, Sem.run_bind, run_underlying' hu, Result.andThen_ok, getObj_map g3, hck, hfk, hkey, hborn, Instr.keyThatStays, h4, if_true, Sem.run_pure, setObj_map g3]
        · refine Post.turn (l := l) (rd := []) hr.wr hG rfl g1 ?_ rfl rfl rfl (by simp) (fun b hb => heap_set_ne hb) (pair_rv (g4.2 x h2).2.1 (by rw [(g4.2 x h2).2.2]; exact .int _ _))
          exact map_objr g1 g2 (heap_set_at g3) (g4.modify h2 hk (g4.2 x h2).2.1 (g4.2 x h2).2.2)
      · rename_i hfind
        cases h
        have hG := hat _ _ rfl
        obtain ⟨l2, en, g1, g2, g3, g4⟩ := objr_map (hr.wr.obj id _ hG)
        obtain rfl : l = l2 := Option.some.inj (hl.symm.trans g1)
        obtain ⟨hck, f1, _⟩ := findIn_full hkk hk hfind g4 w
        have hfk := f1 rfl
        refine ⟨.tuple #[z, goInt clock], { w with heap := w.heap.setIfInBounds l.block (.map (en.push { key := vk, val := z, born := clock }) (clock + 1)) }, ?_, ?_⟩
        · simp only [Instr.mapEntry, Sem.run_bind, run_underlying' hu, Result.andThen_ok, getObj_map g3, hck, hfk, run_zero' hi hz, setObj_map g3, Sem.run_pure]
        · refine Post.turn (l := l) (rd := []) hr.wr hG rfl g1 ?_ rfl rfl rfl (by simp) (fun b hb => heap_set_ne hb) (pair_rv hzr (.int _ _))
          exact map_objr g1 g2 (heap_set_at g3) (g4.push hk hzr rfl)
      · cases h
    · cases h
  · cases h
theorem entrySet_sound {w : World} {t : TypeId} {m s v : Src} {vm vs vv : Value} {r : Res} {ρ : Src → PV} {cf : CallF} (h : evalOp cf (.entrySet m s v) ρ H n = some r) (hr : Ready M φ G w H n r) (hm : Rv M φ (ρ m) vm) (hs : Rv M φ (ρ s) vs) (hv : Rv M φ (ρ v) vv) :
    ∃ w', (Instr.entryStore t vm vs vv).run P w = .ok () w' ∧ Post M φ G n w r undef w' := by
  simp only [evalOp] at h
  split at h
  · rename_i id kk b hρ hρ2
    rw [hρ] at hm
    rw [hρ2] at hs
    cases hs
    cases hm with
    | map _ l hl =>
    split at h
    · rename_i es clock hH
      split at h
      · rename_i i hfind
        cases h
        have hG : G id = some (.map es clock) := by rw [hr.same id (.inr (.inr (by simp))), hH]
        obtain ⟨l2, en, g1, g2, g3, g4⟩ := objr_map (hr.wr.obj id _ hG)
        obtain rfl : l = l2 := Option.some.inj (hl.symm.trans g1)
        obtain ⟨hi, hp1, hp2⟩ := List.findIdx?_eq_some_iff_getElem.1 hfind
        have hsz : en.size = es.length := by simpa using g4.1
        have hborn : ∀ j (hj : j < es.length), (es[j]).2.2 = (en.toList.getD j default).born := by
          intro j hj
          have := (g4.2 j hj).2.2
          simpa [List.getD_eq_getElem?_getD, hj] using this
        have hf : en.findIdx? (fun e => (e.born : Int) == b) = some i := by
          rw [Array.findIdx?_eq_some_iff_getElem]
          refine ⟨by omega, ?_, fun j hj => ?_⟩
          · have := hborn i hi
            simp only [List.getD_eq_getElem?_getD, Array.getElem?_toList, Array.getElem?_eq_getElem (show i < en.size by omega), Option.getD_some] at this
            rw [← this]; exact hp1
          · have := hborn j (by omega)
            simp only [List.getD_eq_getElem?_getD, Array.getElem?_toList, Array.getElem?_eq_getElem (show j < en.size by omega), Option.getD_some] at this
            have h2 := hp2 j hj
            rw [← this]; exact h2
        refine ⟨{ w with heap := w.heap.setIfInBounds l.block (.map (en.modify i fun e => { e with val := vv }) clock) }, ?_, ?_⟩
        · simp [Instr.entryStore, getObj_map g3, asInt, asIntOf, hf, setObj_map g3]
        · refine Post.turn (l := l) (rd := []) hr.wr hG rfl g1 ?_ rfl rfl rfl (by simp) (fun b hb => heap_set_ne hb) (.tup [] _ rfl (fun j hj => by simp at hj))
          exact map_objr g1 g2 (heap_set_at g3) (g4.modify hi (g4.2 i hi).1 hv (g4.2 i hi).2.2)
      · cases h
    · cases h
  · cases h
theorem range_sound {w : World} {t : TypeId} {m : Src} {vm : Value} {r : Res} {ρ : Src → PV} {cf : CallF} {k e : TypeId} (hu : P.underlying t = some (.map k e)) (h : evalOp cf (.range m) ρ H n = some r) (hr : Ready M φ G w H n r) (hm : Rv M φ (ρ m) vm) :
    ∃ v w', (Instr.range t vm).run P w = .ok v w' ∧ Post M φ G n w r v w' := by
  simp only [evalOp] at h
  split at h
  · rename_i id hρ
    rw [hρ] at hm
    cases hm with
    | map _ l hl =>
    split at h
    · rename_i clock hH
      cases h
      have hG : G id = some (.map [] clock) := by rw [hr.same id (.inr (.inl (by simp))), hH]
      have hn : ∀ v, φ n v = none := fun v => hr.fresh n (Nat.le_refl _) (.inr (by simp)) v
      obtain ⟨l2, en, g1, g2, g3, g4⟩ := objr_map (hr.wr.obj id _ hG)
      obtain rfl : l = l2 := Option.some.inj (hl.symm.trans g1)
      refine ⟨.pointer (some ⟨w.heap.size, 0, none⟩), w.alloc (.mapIter (some l.block) clock #[] clock), by simp [Instr.range, run_underlying' hu, getObj_map g3], ?_⟩
      have hne : id ≠ n := fun e => by subst e; rw [hn 0] at hl; cases hl
      refine Post.new (rd := [id]) (l' := ⟨w.heap.size, 0, 1, 1⟩) hr.wr rfl hn _ rfl ?_ (.ptr n 0 1 0 0 ⟨w.heap.size, 0, 1, 1⟩ (φ.set_at n 0 _) rfl)
      refine .miter (some id) clock [] clock ⟨w.heap.size, 0, 1, 1⟩ (some l.block) (φ.set_at n 0 _) (fun v hv => by rw [φ.set_ver n 0 _ n v (by omega)]; exact hn v) (heap_new _ _) ⟨fun h => (by cases h), rfl⟩ ?_
      intro mid hmid
      cases hmid
      exact ⟨l, by rw [φ.set_other n 0 _ id 0 hne]; exact hl, rfl⟩
    · cases h
  · cases h
theorem next_sound {w : World} {t : TypeId} {it : Src} {vi : Value} {r : Res} {ρ : Src → PV} {cf : CallF} (h : evalOp cf (.next it) ρ H n = some r) (hr : Ready M φ G w H n r) (hi : Rv M φ (ρ it) vi) :
    ∃ v w', (Instr.next vi false t).run P w = .ok v w' ∧ Post M φ G n w r v w' := by
  simp only [evalOp] at h
  split at h
  · rename_i id hρ
    rw [hρ] at hi
    cases hi with
    | ptr _ _ _ _ _ l hl hk =>
    split at h
    · rename_i m since seen stepped hH
      split at h
      · rename_i clock hH2
        cases h
        have hG : G id = some (.miter (some m) since seen stepped) := by rw [hr.same id (.inr (.inl (by simp))), hH]
        have hG2 : G m = some (.map [] clock) := by rw [hr.same m (.inr (.inl (by simp))), hH2]
        obtain ⟨l2, en, g1, g2, g3, g4⟩ := objr_map (hr.wr.obj m _ hG2)
        have ho := hr.wr.obj id _ hG
        cases ho with
        | miter _ _ _ _ l3 m' o1 o2 o3 o4 o5 =>
        obtain rfl : l = l3 := Option.some.inj (hl.symm.trans o1)
        obtain ⟨lm, p1, p2⟩ := o5 m rfl
        obtain rfl : l2 = lm := Option.some.inj (g1.symm.trans p1)
        subst p2
        have hen : en = #[] := by have := g4.1; simp at this; exact this
        subst hen
        have hit : (getObj l.block).run P w = .ok (.mapIter (some l2.block) since seen.toArray stepped) w := by simp [getObj, Sem.run, o3]
        refine ⟨.tuple #[.bool false], w, ?_, Post.pure (rd := [id, m]) hr.wr (.tup _ _ rfl (fun j hj => ?_))⟩
        · simp [Instr.next, cellOf, o4.2, hit, getObj_map g3, Question.forced]
        · match j, hj with
          | 0, _ => exact .bool false
      · cases h
    · cases h
  · cases h
end
open Classical in
noncomputable def Mem.snap (M : Mem) (t : Bool) (B : Nat → Prop) (w : World) : Mem := fun u a => if u = t ∧ B a.block then w.cell? a else M u a
section
variable {M : Mem} {φ : Places} {G : Objs} {w : World}
theorem Mem.le_snap (hw : WR M φ G w) (t : Bool) (B : Nat → Prop) : M.le (M.snap t B w) := by
  intro u a v hv
  unfold Mem.snap
  split
  · exact hw.mem u a v hv
  · exact hv
theorem Mem.snap_at (M : Mem) {t : Bool} {B : Nat → Prop} {w : World} {b o : Nat} (h : B b) : M.snap t B w t (cellOf b o) = w.cell? (cellOf b o) := by
  unfold Mem.snap
  rw [if_pos ⟨rfl, h⟩]
def Among (φ : Places) (G : Objs) (H : Heap) (B : Nat → Prop) (is : List Nat) : Prop := ∀ id, id ∈ is → G id = H.get id ∧ ∀ o l, G id = some o → φ id o.ver = some l → B l.block
theorem Among.left {H : Heap} {B : Nat → Prop} {is js : List Nat} (h : Among φ G H B (is ++ js)) : Among φ G H B is := fun id hid => h id (by simp [hid])
theorem Among.right {H : Heap} {B : Nat → Prop} {is js : List Nat} (h : Among φ G H B (is ++ js)) : Among φ G H B js := fun id hid => h id (by simp [hid])
theorem flat_list {t : Bool} {l : List PV} (h : l.all flat = true) (vs : Nat → Value) (hv : ∀ j, j < l.length → Rv M φ (l.getD j .any) (vs j)) : ∀ j, j < l.length → Cl t (l.getD j .any) := by
  intro j hj
  have h1 := cl_of_flat (List.all_eq_true.1 h _ (getD_mem hj)) (hv j hj)
  cases t with
  | false => exact h1
  | true => exact h1.weaken
theorem mem_getD {l : List PV} {c : PV} (hc : c ∈ l) : ∃ j, j < l.length ∧ l.getD j .any = c := by
  obtain ⟨j, hj, rfl⟩ := List.getElem_of_mem hc
  exact ⟨j, hj, by simp [List.getD_eq_getElem?_getD, hj]⟩
theorem mem_getD2 {l : List (List PV)} {c : List PV} (hc : c ∈ l) : ∃ j, j < l.length ∧ l.getD j [] = c := by
  obtain ⟨j, hj, rfl⟩ := List.getElem_of_mem hc
  exact ⟨j, hj, by simp [List.getD_eq_getElem?_getD, hj]⟩
theorem thaw_sound (hw : WR M φ G w) (t : Bool) (H : Heap) (B : Nat → Prop) : ∀ d : Nat,
    (∀ (p q : PV) (is : List Nat) (v : Value), thaw t H d p = some (q, is) → Among φ G H B is → Rv M φ p v → Rv (M.snap t B w) φ q v ∧ Cl t q) ∧
    (∀ (l ys : List PV) (is : List Nat) (vs : Nat → Value), thawL t H d l = some (ys, is) → Among φ G H B is → (∀ j, j < l.length → Rv M φ (l.getD j .any) (vs j)) →
      ys.length = l.length ∧ ∀ j, j < ys.length → Rv (M.snap t B w) φ (ys.getD j .any) (vs j) ∧ Cl t (ys.getD j .any)) ∧
    (∀ (l ys : List (List PV)) (is : List Nat) (vs : Nat → Nat → Value), thawLL t H d l = some (ys, is) → Among φ G H B is → (∀ i j, i < l.length → j < (l.getD i []).length → Rv M φ ((l.getD i []).getD j .any) (vs i j)) →
      ys.length = l.length ∧ ∀ i, i < ys.length → (ys.getD i []).length = (l.getD i []).length ∧ ∀ j, j < (ys.getD i []).length → Rv (M.snap t B w) φ ((ys.getD i []).getD j .any) (vs i j) ∧ Cl t ((ys.getD i []).getD j .any)) := by
  have hle := M.le_snap hw t B
  intro d
  induction d with
  | zero => exact ⟨fun p q is v h => by simp [thaw] at h, fun l ys is vs h => by simp [thawL] at h, fun l ys is vs h => by simp [thawLL] at h⟩
  | succ d ih =>
    obtain ⟨ih1, ih2, ih3⟩ := ih
    refine ⟨?_, ?_, ?_⟩
    · intro p q is v h hB hv
      simp only [thaw] at h
      cases hv <;> simp only at h <;> first
        | (cases h; exact ⟨by constructor, by constructor⟩; done)
        | skip
      case ptr id ver k i off l hl hk =>
        split at h
        · rename_i ver' k' xs hH
          split at h
          · rename_i hc
            obtain ⟨rfl, rfl, hi⟩ := hc
            split at h
            · rename_i ys js hys
              cases h
              obtain ⟨hG, hBl⟩ := hB id (by simp)
              rw [hH] at hG
              have hobj := hw.obj id _ hG
              have hBl := hBl _ _ hG hl
              cases hobj with
              | arr _ _ _ l' c T h1 h2 h3 h4 h5 h6 h7 h8 h9 h10 =>
                obtain rfl : l = l' := Option.some.inj (hl.symm.trans h1)
                obtain ⟨f1, f2⟩ := ih2 (xs.getD i []) ys js (fun j => c.getD ((l.base + i) * k + j) undef) hys (fun j hj => hB j (by simp [hj])) (fun j hj => h10 i j hi (by rw [← h8 i hi]; exact hj))
                have hk' : ys.length = k := by rw [f1]; exact h8 i hi
                refine ⟨.dp t ys off l.block ((l.base + i) * k) (fun j => c.getD ((l.base + i) * k + j) undef) ?_ ?_ ?_ (fun j hj => (f2 j hj).1), .dp t t ys off (fun e => e) ?_⟩
                · intro x hx; obtain ⟨j, hj, rfl⟩ := mem_getD hx; exact (f2 j hj).2
                · intro j hj
                  rw [Mem.snap_at M hBl]
                  have hlt := arr_mul_lt (k := k) (j := j) hi h7 (by omega)
                  have hlt' : (l.base + i) * k + j < c.size := by omega
                  simp [World.cell?, cellOf, h5, hlt', Array.getD]
                · intro j hj; exact h9 i j hi (by omega)
                · intro x hx; obtain ⟨j, hj, rfl⟩ := mem_getD hx; exact (f2 j hj).2
            · cases h
          · cases h
        · cases h
      case dp u cs off b o vs h0 h1 h2 h3 =>
        split at h
        · rename_i hc
          cases h
          refine ⟨Rv.mono hle (.refl φ) (.dp u cs off b o vs h0 h1 h2 h3), .dp t u cs off (fun e => ?_) h0⟩
          subst e; simpa using hc
        · cases h
      case data k xs fl b o cap vs h0 h1 h2 h3 h4 h5 h6 =>
        split at h
        · rename_i hc
          cases h
          refine ⟨Rv.mono hle (.refl φ) (.data k xs fl b o cap vs h0 h1 h2 h3 h4 h5 h6), .data t k xs fl (fun e => ?_) h0⟩
          rw [e] at hc; simpa using hc
        · cases h
      case view id ver k off len cap l a cv g1 g2 g3 g4 g5 g6 g7 g8 =>
        split at h
        · rename_i ver' k' xs hH
          split at h
          · rename_i hc
            obtain ⟨rfl, rfl, hlen⟩ := hc
            split at h
            · rename_i ys js hys
              cases h
              obtain ⟨hG, hBl⟩ := hB id (by simp)
              rw [hH] at hG
              have hobj := hw.obj id _ hG
              have hBl := hBl _ _ hG g1
              cases hobj with
              | arr _ _ _ l' c T h1 h2 h3 h4 h5 h6 h7 h8 h9 h10 =>
                obtain rfl : l = l' := Option.some.inj (g1.symm.trans h1)
                have hls := length_sub hlen
                obtain ⟨f1, f2⟩ := ih3 ((xs.drop off).take len) ys js (fun i j => c.getD ((l.base + (off + i)) * k + j) undef) hys (fun j hj => hB j (by simp [hj])) (fun i j hi hj => by
                  rw [hls] at hi
                  rw [getD_sub hi] at hj ⊢
                  exact h10 _ j (by omega) (by rw [← h8 _ (by omega : off + i < xs.length)]; exact hj))
                have hyl : ys.length = len := by rw [f1, hls]
                have hk' : ∀ i, i < len → (ys.getD i []).length = k := by
                  intro i hi
                  rw [(f2 i (by omega)).1, getD_sub hi]; exact h8 _ (by omega)
                have hcl : ∀ x ∈ ys, ∀ c ∈ x, Cl t c := by
                  intro x hx c hc
                  obtain ⟨i, hi, rfl⟩ := mem_getD2 hx
                  obtain ⟨j, hj, rfl⟩ := mem_getD hc
                  exact ((f2 i hi).2 j hj).2
                have hidx : ∀ i j, (l.base + off) * k + (i * k + j) = (l.base + (off + i)) * k + j := by
                  intro i j; rw [← Nat.add_assoc, ← Nat.add_mul, Nat.add_assoc l.base]
                have hfl : ∀ fl : Fl, fl = (if t = true then Fl.tmp else if cap = some len then Fl.full else Fl.part) → fl.isTmp = t := by
                  intro fl e; subst e; cases t <;> by_cases hcap : cap = some len <;> simp [hcap, Fl.isTmp]
                have hfull : ∀ fl : Fl, fl = (if t = true then Fl.tmp else if cap = some len then Fl.full else Fl.part) → fl = .full → cv = len := by
                  intro fl e e2
                  subst e
                  cases t with
                  | true => simp at e2
                  | false =>
                    simp only [Bool.false_eq_true, if_false] at e2
                    split at e2
                    · rename_i hcap; exact g4 len hcap
                    · cases e2
                generalize hflg : (if t = true then Fl.tmp else if cap = some len then Fl.full else Fl.part) = fl at *
                have ht := hfl fl rfl
                refine ⟨?_, .data t k ys fl (fun e => by rw [ht] at e; exact e) (by rw [ht]; exact hcl)⟩
                have := Rv.data (M := M.snap t B w) (φ := φ) k ys fl a.block a.off cv (fun i j => c.getD ((l.base + (off + i)) * k + j) undef) (by rw [ht]; exact hcl) (by omega) (fun e => by rw [hyl]; exact hfull fl rfl e)
                  (fun i hi => hk' i (by omega)) ?_ (fun i j hi hj => h9 _ j (by omega) hj) (fun i j hi hj => ((f2 i hi).2 j (by rw [hk' i (by omega)]; exact hj)).1)
                · rw [hyl, ← cellOf_eta g8] at this; exact this
                · intro i j hi hj
                  have hcv : cv ≠ 0 := by omega
                  have ha := g6 hcv
                  have e1 : a.block = l.block := by rw [ha]; rfl
                  have e2 : a.off = (l.base + off) * k := by rw [ha]; rfl
                  rw [ht, e1, e2, hidx, Mem.snap_at M hBl]
                  have hlt := arr_mul_lt (i := off + i) (k := k) (j := j) (by omega : off + i < xs.length) h7 hj
                  have hlt' : (l.base + (off + i)) * k + j < c.size := by omega
                  simp [World.cell?, cellOf, h5, hlt', Array.getD]
            · cases h
          · cases h
        · cases h
      case map id l hl =>
        split at h
        · cases h; exact ⟨.any _, .any _⟩
        · cases h
      case func f first caps fs cs h1 h2 h3 h4 =>
        split at h
        · rename_i a is1 b js1 ha hb
          cases h
          obtain ⟨e1, e2⟩ := ih2 first a is1 (fun j => fs.getD j undef) ha hB.left h3
          obtain ⟨e3, e4⟩ := ih2 caps b js1 (fun j => cs.getD j undef) hb hB.right h4
          refine ⟨.func f a b fs cs (by omega) (by omega) (fun j hj => (e2 j hj).1) (fun j hj => (e4 j hj).1), .func t f a b ?_ ?_⟩
          · intro x hx; obtain ⟨j, hj, rfl⟩ := mem_getD hx; exact (e2 j hj).2
          · intro x hx; obtain ⟨j, hj, rfl⟩ := mem_getD hx; exact (e4 j hj).2
        · cases h
      case iface ty p v hp =>
        split at h
        · rename_i x js hx
          cases h
          obtain ⟨e1, e2⟩ := ih1 p x is v hx hB hp
          exact ⟨.iface ty x v e1, .iface t ty x e2⟩
        · cases h
      case agg cs vs h1 h2 h3 =>
        split at h
        · rename_i ys js hys
          cases h
          obtain ⟨e1, e2⟩ := ih2 cs ys is (fun j => vs.getD j undef) hys hB h3
          refine ⟨.agg ys vs (by omega) (fun j hj => h2 j (by omega)) (fun j hj => (e2 j hj).1), .agg t ys ?_⟩
          intro x hx; obtain ⟨j, hj, rfl⟩ := mem_getD hx; exact (e2 j hj).2
        · cases h
      case tup cs vs h1 h2 =>
        split at h
        · rename_i ys js hys
          cases h
          obtain ⟨e1, e2⟩ := ih2 cs ys is (fun j => vs.getD j undef) hys hB h2
          refine ⟨.tup ys vs (by omega) (fun j hj => (e2 j hj).1), .tup t ys ?_⟩
          intro x hx; obtain ⟨j, hj, rfl⟩ := mem_getD hx; exact (e2 j hj).2
        · cases h
    · intro l ys is vs h hB hv
      simp only [thawL] at h
      split at h
      · rename_i hf
        cases h
        exact ⟨rfl, fun j hj => ⟨(hv j hj).mono hle (.refl φ), flat_list hf vs hv j hj⟩⟩
      · rename_i hnf
        split at h
        · cases h; exact ⟨rfl, fun j hj => by simp at hj⟩
        · rename_i p r
          split at h
          · rename_i x is1 xs js1 hx hxs
            cases h
            obtain ⟨e1, e2⟩ := ih1 p x is1 (vs 0) hx hB.left (by simpa using hv 0 (by simp))
            obtain ⟨e3, e4⟩ := ih2 r xs js1 (fun j => vs (j + 1)) hxs hB.right (fun j hj => by simpa using hv (j + 1) (by simpa using hj))
            refine ⟨by simp [e3], fun j hj => ?_⟩
            cases j with
            | zero => simpa using ⟨e1, e2⟩
            | succ j => simpa using e4 j (by simpa using hj)
          · cases h
    · intro l ys is vs h hB hv
      simp only [thawLL] at h
      split at h
      · rename_i hf
        cases h
        refine ⟨rfl, fun i hi => ⟨rfl, fun j hj => ⟨(hv i j hi hj).mono hle (.refl φ), ?_⟩⟩⟩
        exact flat_list (List.all_eq_true.1 hf _ (getD_mem hi)) (vs i) (fun j hj => hv i j hi hj) j hj
      · rename_i hnf
        split at h
        · cases h; exact ⟨rfl, fun i hi => by simp at hi⟩
        · rename_i p r
          split at h
          · rename_i x is1 xs js1 hx hxs
            cases h
            obtain ⟨e1, e2⟩ := ih2 p x is1 (vs 0) hx hB.left (fun j hj => by simpa using hv 0 j (by simp) (by simpa using hj))
            obtain ⟨e3, e4⟩ := ih3 r xs js1 (fun i => vs (i + 1)) hxs hB.right (fun i j hi hj => by simpa using hv (i + 1) j (by simpa using hi) (by simpa using hj))
            refine ⟨by simp [e3], fun i hi => ?_⟩
            cases i with
            | zero => simpa using ⟨e1, e2⟩
            | succ i => simpa using e4 i (by simpa using hi)
          · cases h
end
def FSound (P : Program) (cf : CallF) : Prop :=
  ∀ f args H n r H' n', cf f args H n = some (r, H', n') → ∀ (M : Mem) (φ : Places) (w : World) (vs : Array Value), WR M φ H.get w → Fresh φ n → RvL M φ args vs →
    OpSem P (callFunc f vs) w fun v w' => ∃ M' φ', Rv M' φ' r v ∧ WR M' φ' H'.get w' ∧ Ext M φ H.get n w M' φ' H'.get n' w' ∧ Fresh φ' n' ∧ (∀ id ver, id < n → H.get id = none → φ' id ver = φ id ver)
theorem Ext.count_any {M : Mem} {φ : Places} {G : Objs} {n : Nat} {w : World} {M' : Mem} {φ' : Places} {G' : Objs} {n' : Nat} {w' : World} (h : Ext M φ G n w M' φ' G' n' w') {m m' : Nat} (hm : m ≤ m') : Ext M φ G m w M' φ' G' m' w' :=
  ⟨h.mem, h.places, hm, h.os, h.tape, h.output, h.size, h.block, h.new, h.own⟩
section
variable {P : Program} {M : Mem} {φ : Places} {G : Objs} {w : World} {H : Heap} {n : Nat}
theorem Heap.get_append (A B : Heap) (id : Nat) : (A ++ B).get id = (A.get id).or (B.get id) := by
  induction A with
  | nil => simp [Heap.get]
  | cons x r ih =>
    obtain ⟨i, o⟩ := x
    simp only [List.cons_append, Heap.get]
    by_cases h : i = id
    · simp [h]
    · simp [h, ih]
theorem get_dropIds (H : Heap) (is : List Nat) (id : Nat) : (dropIds H is).get id = if id ∈ is then none else H.get id := by
  induction H with
  | nil => simp [dropIds, Heap.get]
  | cons x r ih =>
    obtain ⟨i, o⟩ := x
    unfold dropIds at ih ⊢
    simp only [List.filter_cons]
    by_cases hi : i ∈ is
    · have : (!is.contains i) = false := by simp [hi]
      simp only [this, Bool.false_eq_true, if_false, ih, Heap.get]
      by_cases h : i = id
      · subst h; simp [hi]
      · simp [h]
    · have : (!is.contains i) = true := by simp [hi]
      simp only [this, if_true, Heap.get, ih]
      by_cases h : i = id
      · subst h; simp [hi]
      · simp [h]
def noPlaces : Places := fun _ _ => none
theorem noPlaces_fresh (n : Nat) : Fresh noPlaces n := fun _ _ _ => rfl
theorem own_lt (hw : WR M φ G w) {b : Nat} (h : Own φ G b) : b < w.heap.size := by
  obtain ⟨j, o2, l, hj, hl, rfl⟩ := h
  have := hw.obj j o2 hj
  cases this with
  | arr ver k xs l2 c T h1 h2 h3 h4 h5 h6 h7 h8 h9 h10 =>
    obtain rfl : l2 = l := Option.some.inj (h1.symm.trans hl)
    exact (Array.getElem?_eq_some_iff.1 h5).1
  | map es clock l2 en h1 h2 h3 h4 h5 =>
    obtain rfl : l2 = l := Option.some.inj (h1.symm.trans hl)
    exact (Array.getElem?_eq_some_iff.1 h3).1
  | miter m since seen stepped l2 m' h1 h2 h3 h4 h5 =>
    obtain rfl : l2 = l := Option.some.inj (h1.symm.trans hl)
    exact (Array.getElem?_eq_some_iff.1 h3).1
theorem own_none {φ : Places} {b : Nat} : ¬ Own φ (Heap.get []) b := by rintro ⟨j, o, l, hj, _⟩; simp [Heap.get] at hj
theorem mem_lt (hw : WR M φ G w) {t : Bool} {a : Addr} {v : Value} (h : M t a = some v) : a.block < w.heap.size := World.block_lt_of_cell? w a (hw.mem t a v h)
theorem WR.bare (h : WR M φ G w) (t : Bool) (B : Nat → Prop) (φ' : Places) : WR (M.snap t B w) φ' (Heap.get []) w where
  mem u a v hv := by
    unfold Mem.snap at hv
    split at hv
    · exact hv
    · exact h.mem u a v hv
  obj id o ho := by simp [Heap.get] at ho
  inj i j x y l m hi := by simp [Heap.get] at hi
  sep u a v _ := own_none
theorem WR.back {M' : Mem} {φ' : Places} {H' : Heap} {w' : World} {n' : Nat} {t : Bool} {B : Nat → Prop} {G' : Objs} (hw : WR M φ G w) (hG' : ∀ id o, G' id = some o → G id = some o) (hB : t = false → ∀ b, B b → ¬ Own φ G' b ∧ Own φ G b)
    (hw' : WR M' φ' H'.get w') (hx : Ext (M.snap t B w) noPlaces (Heap.get []) n w M' φ' H'.get n' w') :
    WR (fun u a => if u = true then M true a else M'.snap false (Own φ' H'.get) w' false a) φ G' w' ∧
    Ext M φ G n w (fun u a => if u = true then M true a else M'.snap false (Own φ' H'.get) w' false a) φ G' n w' := by
  have hblk : ∀ b, b < w.heap.size → w'.heap[b]? = w.heap[b]? := fun b hb => hx.block b hb own_none
  have hown' : ∀ b, Own φ' H'.get b → w.heap.size ≤ b := fun b hb => (hx.own b hb).elim (fun h => absurd h own_none) id
  have hcase : ∀ a v, M'.snap false (Own φ' H'.get) w' false a = some v → (M false a = some v ∨ (t = false ∧ B a.block) ∨ w.heap.size ≤ a.block) := by
    intro a v hv
    unfold Mem.snap at hv
    split at hv
    · rename_i hc; exact .inr (.inr (hown' _ hc.2))
    · rcases hx.new false a v hv with h1 | h1 | h1
      · unfold Mem.snap at h1
        split at h1
        · rename_i hc; exact .inr (.inl ⟨hc.1.symm, hc.2⟩)
        · exact .inl h1
      · exact .inr (.inr h1)
      · exact absurd h1 own_none
  refine ⟨⟨?_, ?_, ?_, ?_⟩, ?_⟩
  · intro u a v hv
    cases u with
    | true =>
      simp only [if_true] at hv
      have := hw.mem true a v hv
      simp only [World.cell?, hblk _ (mem_lt hw hv)]
      exact this
    | false =>
      simp only [Bool.false_eq_true, if_false] at hv
      unfold Mem.snap at hv
      split at hv
      · exact hv
      · exact hw'.mem false a v hv
  · intro id o ho
    have ho2 := hG' id o ho
    refine (hw.obj id o ho2).mono ?_ (.refl φ) ?_ (fun v hv _ => hv)
    · intro u a v hv
      cases u with
      | true => simpa using hv
      | false =>
        simp only [Bool.false_eq_true, if_false]
        exact Mem.le_snap hw' false _ false a v (hx.mem false a v (Mem.le_snap hw t B false a v hv))
    · intro l hl
      exact hblk _ (own_lt hw ⟨id, o, l, ho2, hl, rfl⟩)
  · intro i j x y l m hi hj
    exact hw.inj i j x y l m (hG' _ _ hi) (hG' _ _ hj)
  · intro u a v hv hown
    have hownG : Own φ G a.block := by obtain ⟨id, o, l, h1, h2, h3⟩ := hown; exact ⟨id, o, l, hG' _ _ h1, h2, h3⟩
    cases u with
    | true => simp only [if_true] at hv; exact hw.sep true a v hv hownG
    | false =>
      simp only [Bool.false_eq_true, if_false] at hv
      rcases hcase a v hv with h1 | ⟨h1, h2⟩ | h1
      · exact hw.sep false a v h1 hownG
      · exact (hB h1 _ h2).1 hown
      · have := own_lt hw hownG; omega
  · refine ⟨?_, .refl φ, Nat.le_refl _, hx.os, hx.tape, hx.output, hx.size, fun b hb _ => hblk b hb, ?_, ?_⟩
    · intro u a v hv
      cases u with
      | true => simpa using hv
      | false =>
        simp only [Bool.false_eq_true, if_false]
        exact Mem.le_snap hw' false _ false a v (hx.mem false a v (Mem.le_snap hw t B false a v hv))
    · intro u a v hv
      cases u with
      | true => simp only [if_true] at hv; exact .inl hv
      | false =>
        simp only [Bool.false_eq_true, if_false] at hv
        rcases hcase a v hv with h1 | ⟨h1, h2⟩ | h1
        · exact .inl h1
        · exact .inr (.inr (hB h1 _ h2).2)
        · exact .inr (.inl h1)
    · rintro b ⟨id, o, l, h1, h2, h3⟩
      exact .inl ⟨id, o, l, hG' _ _ h1, h2, h3⟩
theorem rvl_thaw (hw : WR M φ G w) {t : Bool} {B : Nat → Prop} {d : Nat} {args as : List PV} {is : List Nat} {vs : Array Value} (h : thawL t H d args = some (as, is)) (hB : Among φ G H B is) (hv : RvL M φ args vs) (φ' : Places) :
    RvL (M.snap t B w) φ' as vs ∧ RvL (M.snap t B w) φ as vs := by
  obtain ⟨e1, e2⟩ := (thaw_sound hw t H B d).2.1 args as is (fun j => vs.getD j undef) h hB hv.2
  refine ⟨⟨by rw [e1]; exact hv.1, fun j hj => ?_⟩, ⟨by rw [e1]; exact hv.1, fun j hj => (e2 j hj).1⟩⟩
  exact (e2 j hj).1.clean t (e2 j hj).2 (fun _ _ _ _ h => h)
theorem thaw_back {M' : Mem} {φ' : Places} {H' : Heap} {w' : World} {d : Nat} {r r' : PV} {js : List Nat} {v : Value} (hw' : WR M' φ' H'.get w') (h : thaw false H' d r = some (r', js)) (hv : Rv M' φ' r v) (Mt : Addr → Option Value) (φ₀ : Places) :
    Rv (fun u a => if u = true then Mt a else M'.snap false (Own φ' H'.get) w' false a) φ₀ r' v := by
  obtain ⟨e1, e2⟩ := (thaw_sound hw' false H' (Own φ' H'.get) d).1 r r' js v h (fun id _ => ⟨rfl, fun o l ho hl => ⟨id, o, l, ho, hl, rfl⟩⟩) hv
  refine e1.clean false e2 ?_
  intro u a x hu hx
  cases u with
  | true => simp at hu
  | false => simpa using hx
theorem call_sound {cf : CallF} (hcf : FSound P cf) {mode : Nat} {f : FuncId} {args : List PV} {vs : Array Value} {r : Res} (h : callV cf mode f args H n = some r) (hr : Ready M φ G w H n r) (hv : RvL M φ args vs) :
    OpSem P (callFunc f vs) w (Post M φ G n w r) := by
  unfold callV at h
  split at h
  · -- 0
    split at h
    · rename_i as is has
      split at h
      · rename_i r0 H' n' hcall
        split at h
        · rename_i r' js hthaw
          cases h
          have hB : Among φ G H (Own φ G) is := fun id hid => ⟨hr.same id (.inr (.inl hid)), fun o l ho hl => ⟨id, o, l, ho, hl, rfl⟩⟩
          refine (hcf _ _ _ _ _ _ _ hcall (M.snap true (Own φ G) w) noPlaces w vs (hr.wr.bare true _ _) (noPlaces_fresh 0) (rvl_thaw hr.wr has hB hv _).1).mono ?_
          rintro v w' ⟨M', φ', h1, h2, h3, h4, h5⟩
          obtain ⟨g1, g2⟩ := hr.wr.back (G' := G) (t := true) (fun _ _ h => h) (fun e => by cases e) h2 (h3.count_any (Nat.le_refl n))
          refine ⟨_, φ, G, thaw_back h2 hthaw h1 (M true) φ, g1, g2, fun id hid => ?_, fun _ _ => rfl, fun _ _ _ => rfl, fun _ _ _ h => h, fun _ _ _ _ => rfl⟩
          simp [Fp.on] at hid
        · cases h
      · cases h
    · cases h
  · -- 3
    split at h
    · rename_i as is has
      split at h
      · rename_i r0 H' n' hcall
        split at h
        · rename_i r' js hthaw
          cases h
          let B : Nat → Prop := fun b => ∃ id o l, id ∈ is ∧ G id = some o ∧ φ id o.ver = some l ∧ l.block = b
          have hB : Among φ G H B is := fun id hid => ⟨hr.same id (.inr (.inr hid)), fun o l ho hl => ⟨id, o, l, hid, ho, hl, rfl⟩⟩
          let G' : Objs := fun id => if id ∈ is then none else G id
          have hG' : ∀ id o, G' id = some o → G id = some o ∧ id ∉ is := by
            intro id o ho
            simp only [G'] at ho
            split at ho
            · cases ho
            · rename_i hn; exact ⟨ho, hn⟩
          refine (hcf _ _ _ _ _ _ _ hcall (M.snap false B w) noPlaces w vs (hr.wr.bare false _ _) (noPlaces_fresh 0) (rvl_thaw hr.wr has hB hv _).1).mono ?_
          rintro v w' ⟨M', φ', h1, h2, h3, h4, h5⟩
          obtain ⟨g1, g2⟩ := hr.wr.back (G' := G') (t := false) (fun id o ho => (hG' id o ho).1) (fun _ b hb => by
            obtain ⟨id, o, l, k1, k2, k3, k4⟩ := hb
            refine ⟨?_, ⟨id, o, l, k2, k3, k4⟩⟩
            rintro ⟨id2, o2, l2, m1, m2, m3⟩
            obtain ⟨m4, m5⟩ := hG' _ _ m1
            exact m5 (hr.wr.inj _ _ _ _ _ _ k2 m4 k3 m2 (by rw [k4, m3]) ▸ k1)) h2 (h3.count_any (Nat.le_refl n))
          refine ⟨_, φ, G', thaw_back h2 hthaw h1 (M true) φ, g1, g2, fun id hid => ?_, fun id hid => ?_, fun _ _ _ => rfl, fun _ _ _ h => h, fun _ _ _ _ => rfl⟩
          · simp [Fp.on] at hid
            simp [G', get_dropIds, hid]
          · simp [Fp.on] at hid
            simp [G', hid]
        · cases h
      · cases h
    · cases h
  · -- 2
    split at h
    · rename_i as is has
      split at h
      · rename_i r0 H' n' hcall
        cases h
        have hGH : G = H.get := funext fun id => hr.same id (.inl rfl)
        have hfr : Fresh φ n := fun id hid ver => hr.fresh id hid (.inl rfl) ver
        subst hGH
        let B : Nat → Prop := fun b => ∃ id o l, id ∈ is ∧ H.get id = some o ∧ φ id o.ver = some l ∧ l.block = b
        have hB : Among φ H.get H B is := fun id hid => ⟨rfl, fun o l ho hl => ⟨id, o, l, hid, ho, hl, rfl⟩⟩
        refine (hcf _ _ _ _ _ _ _ hcall (M.snap false B w) φ w vs (hr.wr.bare false _ _) hfr (rvl_thaw hr.wr has hB hv φ).2).mono ?_
        rintro v w' ⟨M', φ', h1, h2, h3, h4, h5⟩
        have hblk : ∀ b, b < w.heap.size → w'.heap[b]? = w.heap[b]? := fun b hb => h3.block b hb own_none
        have hnew : ∀ b, Own φ' H'.get b → w.heap.size ≤ b := fun b hb => (h3.own b hb).elim (fun h => absurd h own_none) id
        have hget : ∀ id o, (H' ++ dropIds H is).get id = some o → H'.get id = some o ∨ (H'.get id = none ∧ H.get id = some o ∧ id ∉ is) := by
          intro id o ho
          rw [Heap.get_append, get_dropIds] at ho
          cases hh : H'.get id with
          | some o' => rw [hh] at ho; simp at ho; exact .inl (by rw [ho])
          | none =>
            rw [hh] at ho
            simp at ho
            exact .inr ⟨rfl, ho.2, ho.1⟩
        have hold : ∀ id o l, H.get id = some o → φ' id o.ver = some l → φ id o.ver = some l := by
          intro id o l ho hl
          have := hr.wr.obj id o ho
          have hs : ∃ l2, φ id o.ver = some l2 := by
            cases this with
            | arr ver k xs l2 c T g1 => exact ⟨l2, g1⟩
            | map es clock l2 en g1 => exact ⟨l2, g1⟩
            | miter m since seen stepped l2 m' g1 => exact ⟨l2, g1⟩
          obtain ⟨l2, hl2⟩ := hs
          have := h3.places id o.ver l2 hl2
          rw [hl] at this; cases this; exact hl2
        have hownold : ∀ id o l, H.get id = some o → φ' id o.ver = some l → l.block < w.heap.size := fun id o l ho hl => own_lt hr.wr ⟨id, o, l, ho, hold id o l ho hl, rfl⟩
        have hle : M.le M' := (Mem.le_snap hr.wr false B).trans h3.mem
        have hlow : ∀ id o, H.get id = some o → id < n := by
          intro id o ho
          rcases Nat.lt_or_ge id n with h | h
          · exact h
          · have := hr.wr.obj id o ho
            cases this with
            | arr ver k xs l2 c T g1 => rw [hfr id h] at g1; cases g1
            | map es clock l2 en g1 => rw [hfr id h] at g1; cases g1
            | miter m since seen stepped l2 m' g1 => rw [hfr id h] at g1; cases g1
        have hown2 : ∀ b, Own φ' (H' ++ dropIds H is).get b → (Own φ' H'.get b) ∨ ∃ id o l, H.get id = some o ∧ id ∉ is ∧ φ id o.ver = some l ∧ l.block = b := by
          rintro b ⟨id, o, l, ho, hl, hb⟩
          rcases hget id o ho with h | ⟨_, h, hn⟩
          · exact .inl ⟨id, o, l, h, hl, hb⟩
          · exact .inr ⟨id, o, l, h, hn, hold id o l h hl, hb⟩
        refine ⟨M', φ', (H' ++ dropIds H is).get, h1, ⟨h2.mem, ?_, ?_, ?_⟩, ⟨hle, h3.places, h3.count, h3.os, h3.tape, h3.output, h3.size, fun b hb _ => hblk b hb, ?_, ?_⟩, fun _ _ => rfl, fun id hid => ?_, fun id ver hid => ?_, fun id ver hid _ => h4 id hid ver, fun id ver hid _ => h5 id ver hid (by simp [Heap.get])⟩
        · intro id o ho
          rcases hget id o ho with h | ⟨_, h, hn⟩
          · exact h2.obj id o h
          · refine (hr.wr.obj id o h).mono hle h3.places ?_ ?_
            · intro l hl; exact hblk _ (own_lt hr.wr ⟨id, o, l, h, hl, rfl⟩)
            · intro v hv hs
              rw [h5 id v (hlow id o h) (by simp [Heap.get])]; exact hv
        · intro i j x y l m hi hj hl hm he
          rcases hget i x hi with h | ⟨_, h, hn⟩ <;> rcases hget j y hj with k | ⟨_, k, kn⟩
          · exact h2.inj _ _ _ _ _ _ h k hl hm he
          · have a1 := hnew _ ⟨i, x, l, h, hl, rfl⟩
            have a2 := hownold _ _ _ k hm
            omega
          · have a1 := hnew _ ⟨j, y, m, k, hm, rfl⟩
            have a2 := hownold _ _ _ h hl
            omega
          · exact hr.wr.inj _ _ _ _ _ _ h k (hold _ _ _ h hl) (hold _ _ _ k hm) he
        · intro u a v hv hown
          rcases hown2 _ hown with h | ⟨id, o, l, k1, k2, k3, k4⟩
          · exact h2.sep u a v hv h
          · have hlt : a.block < w.heap.size := by rw [← k4]; exact own_lt hr.wr ⟨id, o, l, k1, k3, rfl⟩
            rcases h3.new u a v hv with g | g | g
            · unfold Mem.snap at g
              split at g
              · rename_i hc
                obtain ⟨id2, o2, l2, m1, m2, m3, m4⟩ := hc.2
                exact k2 (hr.wr.inj _ _ _ _ _ _ m2 k1 m3 k3 (by rw [m4, k4]) ▸ m1)
              · exact hr.wr.sep u a v g ⟨id, o, l, k1, k3, k4⟩
            · omega
            · exact own_none g
        · intro u a v hv
          rcases h3.new u a v hv with g | g | g
          · unfold Mem.snap at g
            split at g
            · rename_i hc
              obtain ⟨id2, o2, l2, m1, m2, m3, m4⟩ := hc.2
              exact .inr (.inr ⟨id2, o2, l2, m2, m3, m4⟩)
            · exact .inl g
          · exact .inr (.inl g)
          · exact absurd g own_none
        · intro b hb
          rcases hown2 _ hb with h | ⟨id, o, l, k1, k2, k3, k4⟩
          · exact .inr (hnew _ h)
          · exact .inl ⟨id, o, l, k1, k3, k4⟩
        · simp [Fp.on] at hid
        · simp [Fp.on] at hid
      · cases h
    · cases h
  · -- 1
    split at h
    · rename_i r0 H' n' hcall
      cases h
      have hGH : G = H.get := funext fun id => hr.same id (.inl rfl)
      have hfr : Fresh φ n := fun id hid ver => hr.fresh id hid (.inl rfl) ver
      subst hGH
      refine (hcf _ _ _ _ _ _ _ hcall M φ w vs hr.wr hfr hv).mono ?_
      rintro v w' ⟨M', φ', h1, h2, h3, h4, h5⟩
      exact ⟨M', φ', H'.get, h1, h2, h3, fun _ _ => rfl, fun id hid => by simp [Fp.on] at hid, fun id ver hid => by simp [Fp.on] at hid, fun id ver hid _ => h4 id hid ver, h5⟩
    · cases h
end
end Go.Vm
