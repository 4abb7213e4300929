/-
  EACH OPERATION WITHOUT A CALL: what the evaluator says of it is what the model does.
-/
import Derived.Test.YtebfimcapoekjaaGreatVc
namespace Go.Vm

structure Ready (M : Mem) (φ : Places) (G : Objs) (w : World) (H : Heap) (n : Nat) (r : Res) : Prop where
  wr : WR M φ G w
  same : ∀ id, r.fp.at id → G id = H.get id
  fresh : ∀ id, n ≤ id → r.fp.on id → ∀ ver, φ id ver = none

def tySize (P : Program) (t : TypeId) : Option Nat := (P.info? t).map (·.size)
def tyBytes (P : Program) (t : TypeId) : Option Nat := (P.info? t).map (·.bytes)
def isAggD : TypeDesc → Bool
  | .struct _ | .array _ _ => true
  | _ => false
def tyAgg (P : Program) (t : TypeId) : Option Bool := (P.underlying t).map isAggD

/-- a constant of one cell -/
def cv1 : Value → Option PV
  | .int k n => some (.int k n)
  | .bool b => some (.bool b)
  | .string s => some (.str s)
  | .pointer none => some .nilp
  | .slice none 0 0 => some .nils
  | .map none => some .nilm
  | .nilFunc => some .nilf
  | .nilIface => some .nili
  | _ => none

def cvL : List Value → Option (List PV)
  | [] => some []
  | v :: r =>
    match cv1 v, cvL r with
    | some p, some ps => some (p :: ps)
    | _, _ => none

def cvV : Value → Option PV
  | .agg cs => (cvL cs.toList).map .agg
  | .tuple vs => (cvL vs.toList).map .tup
  | v => cv1 v

theorem cv1_sound {M : Mem} {φ : Places} {v : Value} {p : PV} (h : cv1 v = some p) : Rv M φ p v ∧ one v = true ∧ p.cells? = some [p] ∧ v.cells = #[v] := by
  unfold cv1 at h
  split at h <;> cases h <;> exact ⟨by constructor, rfl, rfl, rfl⟩

theorem cvL_sound {M : Mem} {φ : Places} : ∀ {vs : List Value} {ps : List PV}, cvL vs = some ps → vs.length = ps.length ∧ (∀ j, j < ps.length → one (vs.getD j undef) = true ∧ Rv M φ (ps.getD j .any) (vs.getD j undef))
  | [], ps, h => by simp only [cvL] at h; cases h; exact ⟨rfl, fun j hj => by simp at hj⟩
  | v :: r, ps, h => by
    simp only [cvL] at h
    split at h
    · rename_i p ps' h1 h2
      cases h
      obtain ⟨e1, e2⟩ := cvL_sound (M := M) (φ := φ) h2
      obtain ⟨f1, f2, _⟩ := cv1_sound (M := M) (φ := φ) h1
      refine ⟨by simp [e1], fun j hj => ?_⟩
      cases j with
      | zero => exact ⟨f2, f1⟩
      | succ j => simpa using e2 j (by simpa using hj)
    · cases h

theorem getD_toList (vs : Array Value) (j : Nat) : vs.toList.getD j undef = vs.getD j undef := by
  simp [List.getD_eq_getElem?_getD, Array.getD_eq_getD_getElem?]

theorem cvV_sound {M : Mem} {φ : Places} {v : Value} {p : PV} (h : cvV v = some p) : Rv M φ p v := by
  cases v
  case agg cs =>
    simp only [cvV, Option.map_eq_some_iff] at h
    obtain ⟨ps, h1, rfl⟩ := h
    obtain ⟨e1, e2⟩ := cvL_sound (M := M) (φ := φ) h1
    exact .agg ps cs (by simpa using e1) (fun j hj => by rw [← getD_toList]; exact (e2 j hj).1) (fun j hj => by rw [← getD_toList]; exact (e2 j hj).2)
  case tuple cs =>
    simp only [cvV, Option.map_eq_some_iff] at h
    obtain ⟨ps, h1, rfl⟩ := h
    obtain ⟨e1, e2⟩ := cvL_sound (M := M) (φ := φ) h1
    exact .tup ps cs (by simpa using e1) (fun j hj => by rw [← getD_toList]; exact (e2 j hj).2)
  all_goals exact (cv1_sound (by simpa only [cvV] using h)).1

/-- the cells of what is stored -/
theorem cells_sound {M : Mem} {φ : Places} {p : PV} {cs : List PV} {v : Value} (h : p.cells? = some cs) (hv : Rv M φ p v) :
    v.cells.size = cs.length ∧ ∀ j, j < cs.length → one (v.cells.getD j undef) = true ∧ Rv M φ (cs.getD j .any) (v.cells.getD j undef) := by
  cases hv <;> simp only [PV.cells?] at h <;> first
    | (cases h; done)
    | (cases h; rename_i hs h1 hr; exact ⟨hs, fun j hj => ⟨h1 j hj, hr j hj⟩⟩)
    | (cases h
       refine ⟨rfl, fun j hj => ?_⟩
       obtain rfl : j = 0 := by simpa using hj
       exact ⟨rfl, by first | (constructor <;> assumption) | assumption⟩)


section
variable {P : Program} {w : World}

theorem run_typeInfo' {t : TypeId} {i : TypeInfo} (h : P.info? t = some i) : (typeInfo t).run P w = .ok i w := by simp [typeInfo, h]
theorem run_underlying' {t : TypeId} {d : TypeDesc} (h : P.underlying t = some d) : (underlying t).run P w = .ok d w := by simp [underlying, h]
theorem run_sizeOf' {t : TypeId} {s : Nat} (h : tySize P t = some s) : (sizeOf t).run P w = .ok s w := by
  simp only [tySize, Option.map_eq_some_iff] at h
  obtain ⟨i, h1, rfl⟩ := h
  simp [sizeOf, run_typeInfo' h1]
theorem run_isAgg' {t : TypeId} {g : Bool} (h : tyAgg P t = some g) : (isAgg t).run P w = .ok g w := by
  simp only [tyAgg, Option.map_eq_some_iff] at h
  obtain ⟨d, h1, rfl⟩ := h
  cases d <;> simp [isAgg, run_underlying' h1, isAggD]
theorem run_zero' {t : TypeId} {i : TypeInfo} {z : Value} (h : P.info? t = some i) (hz : i.zero = some z) : (zeroValue t).run P w = .ok z w := by
  simp [zeroValue, run_typeInfo' h, hz]

theorem cellOf_add (b o n : Nat) : (cellOf b o).add n = cellOf b (o + n) := by
  unfold cellOf Addr.add; split <;> simp_all

/-- cells read from a place on -/
def Reads (M : Mem) (φ : Places) (w : World) (b o : Nat) (cs : List PV) : Prop :=
  ∃ vs : Nat → Value, (∀ j, j < cs.length → w.cell? (cellOf b (o + j)) = some (vs j)) ∧ (∀ j, j < cs.length → one (vs j) = true) ∧ ∀ j, j < cs.length → Rv M φ (cs.getD j .any) (vs j)

theorem getD_take_drop {cs : List PV} {off size j : Nat} (h : j < size) : ((cs.drop off).take size).getD j .any = cs.getD (off + j) .any := by
  simp [List.getD_eq_getElem?_getD, h, List.getElem?_drop]

theorem load_sound {M : Mem} {φ : Places} {b o off size : Nat} {cs : List PV} {g : Bool} {p : PV} {t : TypeId} (hr : Reads M φ w b o cs) (hp : partAt g cs off size = some p)
    (hg : tyAgg P t = some g) (hs : tySize P t = some size) : ∃ v, (loadVar t (cellOf b (o + off))).run P w = .ok v w ∧ Rv M φ p v := by
  obtain ⟨vs, h1, h2, h3⟩ := hr
  unfold partAt at hp
  split at hp
  · rename_i hlen
    cases g with
    | true =>
      simp only [if_true, Option.some.injEq] at hp
      subst hp
      have hl := run_loadCells (P := P) w (cellOf b (o + off)) size (fun j => vs (off + j)) (fun j hj => by rw [cellOf_add, Nat.add_assoc]; exact h1 _ (by omega))
      refine ⟨.agg ((List.range size).map fun j => vs (off + j)).toArray, by simp [loadVar, run_isAgg' hg, run_sizeOf' hs, hl], ?_⟩
      have hsz : ((cs.drop off).take size).length = size := by simp; omega
      refine .agg _ _ (by simp; omega) ?_ ?_
      · intro j hj
        rw [hsz] at hj
        have : (((List.range size).map fun j => vs (off + j)).toArray).getD j undef = vs (off + j) := by simp [Array.getD, hj]
        rw [this]; exact h2 _ (by omega)
      · intro j hj
        rw [hsz] at hj
        have : (((List.range size).map fun j => vs (off + j)).toArray).getD j undef = vs (off + j) := by simp [Array.getD, hj]
        rw [this, getD_take_drop hj]; exact h3 _ (by omega)
    | false =>
      simp only [Bool.false_eq_true, if_false] at hp
      split at hp
      · rename_i hone
        cases hp
        exact ⟨vs off, by simp [loadVar, run_isAgg' hg, h1 off (by omega)], h3 off (by omega)⟩
      · cases hp
  · cases hp

theorem Rv.reads {M : Mem} {φ : Places} {G : Objs} {t : Bool} {cs : List PV} {off : Nat} {v : Value} (hw : WR M φ G w) (h : Rv M φ (.dp t cs off) v) :
    ∃ b o, v = .pointer (some (cellOf b (o + off))) ∧ Reads M φ w b o cs := by
  cases h with
  | dp _ _ _ b o vs h0 h1 h2 h3 => exact ⟨b, o, rfl, vs, fun j hj => hw.mem _ _ _ (h1 j hj), h2, h3⟩

/-- an element of an object -/
theorem ObjR.reads {M : Mem} {φ : Places} {id ver k i : Nat} {xs : List (List PV)} (h : ObjR M φ id w (.arr ver k xs)) (hi : i < xs.length) :
    ∃ l, φ id ver = some l ∧ l.k = k ∧ Reads M φ w l.block ((l.base + i) * k) (xs.getD i []) := by
  cases h with
  | arr _ _ _ l c T h1 h2 h3 h4 h5 h6 h7 h8 h9 h10 =>
    have hk : (xs.getD i []).length = k := h8 i hi
    have hin : ∀ j, j < k → (l.base + i) * k + j < c.size := by
      intro j hj
      have : (l.base + i) * k + k ≤ l.tot * k := by
        have : (l.base + i + 1) * k ≤ l.tot * k := Nat.mul_le_mul_right k (by omega)
        rw [Nat.add_mul] at this; omega
      omega
    refine ⟨l, h1, h2, fun j => c.getD ((l.base + i) * k + j) undef, ?_, ?_, ?_⟩
    · intro j hj
      rw [hk] at hj
      simp [World.cell?, cellOf, h5, hin j hj, Array.getD]
    · intro j hj; rw [hk] at hj; exact h9 i j hi hj
    · intro j hj; rw [hk] at hj; exact h10 i j hi hj

end

theorem splice_length {l cs : List PV} {off : Nat} (h : off + cs.length ≤ l.length) : (splice l off cs).length = l.length := by
  simp [splice]; omega

theorem seg_get {α : Type} (l cs : List α) (off j : Nat) (h : off + cs.length ≤ l.length) :
    (l.take off ++ (cs ++ l.drop (off + cs.length)))[j]? = if off ≤ j ∧ j < off + cs.length then cs[j - off]? else l[j]? := by
  have hT : (l.take off).length = off := by simp; omega
  by_cases h1 : j < off
  · rw [List.getElem?_append_left (by omega), List.getElem?_take, if_pos h1, if_neg (by omega)]
  · rw [List.getElem?_append_right (by omega), hT]
    by_cases h2 : j < off + cs.length
    · rw [List.getElem?_append_left (by omega), if_pos ⟨by omega, h2⟩]
    · rw [List.getElem?_append_right (by omega), if_neg (by omega), List.getElem?_drop]
      congr 1; omega

theorem splice_getD {l cs : List PV} {off j : Nat} (h : off + cs.length ≤ l.length) :
    (splice l off cs).getD j .any = if off ≤ j ∧ j < off + cs.length then cs.getD (j - off) .any else l.getD j .any := by
  unfold splice
  simp only [List.getD_eq_getElem?_getD]
  rw [seg_get l cs off j h]
  split <;> rfl

theorem seg_getD (c vs : List Value) (o j : Nat) (h : o + vs.length ≤ c.length) :
    ((c.take o ++ vs ++ c.drop (o + vs.length)).toArray).getD j undef = if o ≤ j ∧ j < o + vs.length then vs.getD (j - o) undef else c.toArray.getD j undef := by
  simp only [Array.getD_eq_getD_getElem?, List.getElem?_toArray, List.getD_eq_getElem?_getD]
  rw [List.append_assoc, seg_get c vs o j h]
  split <;> rfl

theorem heap_setRow (w : World) (g : Nat) (cur c : Array Value) (t : TypeId) (fr : Nat × Nat) (hg : w.heap[g]? = some (.cells cur t fr)) : (w.setRow g c).heap[g]? = some (.cells c t fr) :=
  setRow_heap w g cur c t fr hg

theorem heap_setRow_other (w : World) (g b : Nat) (c : Array Value) (h : b ≠ g) : (w.setRow g c).heap[b]? = w.heap[b]? := by
  simp only [World.setRow, Array.getElem?_modify]
  rw [if_neg (Ne.symm h)]

theorem size_setRow (w : World) (g : Nat) (c : Array Value) : (w.setRow g c).heap.size = w.heap.size := by simp [World.setRow]

theorem arr_mul_lt {base i n tot k j : Nat} (hi : i < n) (h : base + n ≤ tot) (hj : j < k) : (base + i) * k + j < tot * k := by
  have : (base + i + 1) * k ≤ tot * k := Nat.mul_le_mul_right k (by omega)
  rw [Nat.add_mul] at this; omega

theorem idx_inj {k a b i j : Nat} (hi : i < k) (hj : j < k) (h : a * k + i = b * k + j) : a = b ∧ i = j := by
  have hk : 0 < k := by omega
  have h1 : (a * k + i) / k = a := by rw [Nat.mul_comm, Nat.mul_add_div hk, Nat.div_eq_of_lt hi]; omega
  have h2 : (b * k + j) / k = b := by rw [Nat.mul_comm, Nat.mul_add_div hk, Nat.div_eq_of_lt hj]; omega
  have : a = b := by rw [← h1, h, h2]
  subst this; exact ⟨rfl, by omega⟩

section
variable {P : Program} {M : Mem} {φ : Places} {G : Objs} {w : World} {H : Heap} {n : Nat}

/-- a store into an object -/
theorem store_sound {r : Res} {t : TypeId} {size : Nat} {pa pv : PV} {a v : Value} (h : storeAtV size pa pv H n = some r) (hr : Ready M φ G w H n r)
    (ha : Rv M φ pa a) (hv : Rv M φ pv v) (hs : tySize P t = some size) :
    OpSem P (do Instr.storeAt t a v; pure .skip) w (Post M φ G n w r) := by
  unfold storeAtV at h
  split at h
  · rename_i _ _ id ver k i off cs hcs
    split at h
    · rename_i ver' k' xs hH
      split at h
      · rename_i hc
        obtain ⟨rfl, rfl, hi, hoff, hlen⟩ := hc
        cases h
        have hG : G id = some (.arr ver k xs) := by rw [hr.same id (.inr (.inr (by simp))), hH]
        have hobj := hr.wr.obj id _ hG
        cases ha with
        | ptr _ _ _ _ _ l' hl' hk' =>
        obtain ⟨hsz, hcell⟩ := cells_sound hcs hv
        cases hobj with
        | arr _ _ _ l c T h1 h2 h3 h4 h5 h6 h7 h8 h9 h10 =>
        obtain rfl : l' = l := Option.some.inj (hl'.symm.trans h1)
        have hin : (l'.base + i) * k + off + v.cells.toList.length ≤ c.size := by
          have : (l'.base + i + 1) * k ≤ l'.tot * k := Nat.mul_le_mul_right k (by omega)
          rw [Nat.add_mul] at this
          simp only [Array.length_toList, hsz, hlen]; omega
        have hone : ∀ x ∈ v.cells.toList, x.oneCell' = true := by
          intro x hx
          obtain ⟨j, hj, rfl⟩ := List.getElem_of_mem hx
          have hj' : j < cs.length := by simpa [hsz] using hj
          have := (hcell j hj').1
          rw [← getD_toList] at this
          simpa [List.getD_eq_getElem?_getD, List.getElem?_eq_getElem hj] using this
        have hst := run_storeCells_at P l'.block ((l'.base + i) * k + off) T v.cells.toList 0 c w h5 (by simpa using hin) hone
        have hrun : (do Instr.storeAt t (.pointer (some (cellOf l'.block ((l'.base + i) * k + off)))) v; pure Next.skip : Sem Next).run P w =
            .ok .skip (w.setRow l'.block (c.toList.take ((l'.base + i) * k + off) ++ v.cells.toList ++ c.toList.drop ((l'.base + i) * k + off + v.cells.toList.length)).toArray) := by
          have hvs : v.cells.size = size := by rw [hsz, hlen]
          have := hst
          simp only [Nat.add_zero] at this
          simp [Instr.storeAt, Instr.sureAddr, storeVar, run_sizeOf' hs, hvs, cellOf, this]
        refine .skip hrun ?_
        have hcells : ∀ j, ((c.toList.take ((l'.base + i) * k + off) ++ v.cells.toList ++ c.toList.drop ((l'.base + i) * k + off + v.cells.toList.length)).toArray).getD j undef =
            if (l'.base + i) * k + off ≤ j ∧ j < (l'.base + i) * k + off + size then v.cells.getD (j - ((l'.base + i) * k + off)) undef else c.getD j undef := by
          intro j
          rw [seg_getD _ _ _ _ (by simpa using hin)]
          simp only [Array.length_toList, hsz, hlen, getD_toList, Array.toArray_toList]
        refine Post.turn (rd := []) hr.wr hG rfl hl' ?_ rfl rfl rfl (size_setRow _ _ _) (fun b hb => heap_setRow_other _ _ _ _ hb) (.tup [] _ rfl (fun j hj => by simp at hj))
        refine .arr ver k _ l' _ T h1 h2 h3 h4 (heap_setRow _ _ _ _ _ _ h5) (by simp; omega) (by simpa using h7) ?_ ?_ ?_
        · intro m hm
          simp only [List.length_set] at hm
          rw [List.getD_eq_getElem?_getD, List.getElem?_set]
          by_cases hmi : i = m
          · subst hmi
            simp only [if_true, hi]
            simp only [Option.getD_some]
            rw [splice_length (by rw [h8 i hi]; omega)]; exact h8 i hi
          · simp only [hmi, if_false]
            rw [← List.getD_eq_getElem?_getD]; exact h8 m hm
        · intro m j hm hj
          simp only [List.length_set] at hm
          rw [hcells]
          split
          · rename_i hc
            exact (hcell _ (by omega)).1
          · exact h9 m j hm hj
        · intro m j hm hj
          simp only [List.length_set] at hm
          rw [hcells]
          by_cases hmi : m = i
          · subst hmi
            have e : (xs.set m (splice (xs.getD m []) off cs)).getD m [] = splice (xs.getD m []) off cs := by simp [List.getD_eq_getElem?_getD, hm]
            rw [e, splice_getD (by rw [h8 m hm]; omega)]
            by_cases hc : off ≤ j ∧ j < off + cs.length
            · rw [if_pos hc, if_pos (by omega)]
              have e2 : (l'.base + m) * k + j - ((l'.base + m) * k + off) = j - off := by omega
              rw [e2]
              exact (hcell _ (by omega)).2
            · rw [if_neg hc, if_neg (by omega)]
              exact h10 m j hm hj
          · have e : (xs.set i (splice (xs.getD i []) off cs)).getD m [] = xs.getD m [] := by
              simp [List.getD_eq_getElem?_getD, Ne.symm hmi]
            rw [e, if_neg ?_]
            · exact h10 m j hm hj
            · intro hc
              have : ∃ q, q < k ∧ (l'.base + m) * k + j = (l'.base + i) * k + q := ⟨(l'.base + m) * k + j - (l'.base + i) * k, by omega, by omega⟩
              obtain ⟨q, hq, he⟩ := this
              have := (idx_inj hj hq he).1
              omega
      · cases h
    · cases h
  · cases h

end
end Go.Vm
