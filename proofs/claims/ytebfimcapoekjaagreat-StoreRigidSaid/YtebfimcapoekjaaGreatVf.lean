/-
  EACH OPERATION WITHOUT A CALL THAT LAYS MEMORY: what the evaluator says of it is what the model does.
-/
import Derived.Test.YtebfimcapoekjaaGreatVe
namespace Go.Vm

/-- cells that stand for values -/
def AggR (M : Mem) (φ : Places) (cs : List PV) (vs : Array Value) : Prop :=
  vs.size = cs.length ∧ ∀ j, j < cs.length → one (vs.getD j undef) = true ∧ Rv M φ (cs.getD j .any) (vs.getD j undef)

theorem AggR.agg {M : Mem} {φ : Places} {cs : List PV} {vs : Array Value} (h : AggR M φ cs vs) : Rv M φ (.agg cs) (.agg vs) :=
  .agg cs vs h.1 (fun j hj => (h.2 j hj).1) (fun j hj => (h.2 j hj).2)

theorem zipFold_list (off : Nat) : ∀ (l : List Value) (k : Nat) (cells : Array Value),
    ((l.zipIdx k).foldl (fun cs (p : Value × Nat) => cs.setIfInBounds (off + p.2) p.1) cells).size = cells.size ∧
    ∀ x, x < cells.size → ((l.zipIdx k).foldl (fun cs (p : Value × Nat) => cs.setIfInBounds (off + p.2) p.1) cells).getD x undef =
      if off + k ≤ x ∧ x < off + k + l.length then l.getD (x - (off + k)) undef else cells.getD x undef
  | [], k, cells => ⟨rfl, fun x hx => by simp only [List.zipIdx_nil, List.foldl_nil, List.length_nil, Nat.add_zero]; rw [if_neg (by omega)]⟩
  | v :: l, k, cells => by
    obtain ⟨h1, h2⟩ := zipFold_list off l (k + 1) (cells.setIfInBounds (off + k) v)
    simp only [List.zipIdx_cons, List.foldl_cons]
    refine ⟨by simpa using h1, fun x hx => ?_⟩
    rw [h2 x (by simpa using hx)]
    by_cases hx1 : x = off + k
    · subst hx1
      rw [if_neg (by omega), if_pos (by simp)]
      simp [Array.getD_eq_getD_getElem?, hx]
    · by_cases hx2 : off + (k + 1) ≤ x ∧ x < off + (k + 1) + l.length
      · rw [if_pos hx2, if_pos (by simp; omega)]
        have e : x - (off + k) = (x - (off + (k + 1))) + 1 := by omega
        rw [e]; simp
      · rw [if_neg hx2, if_neg (by simp; omega)]
        simp only [Array.getD_eq_getD_getElem?, Array.getElem?_setIfInBounds]
        rw [if_neg (Ne.symm hx1)]

theorem zipFold (off : Nat) (vs cells : Array Value) :
    (vs.zipIdx.foldl (fun cs (p : Value × Nat) => cs.setIfInBounds (off + p.2) p.1) cells).size = cells.size ∧
    ∀ x, x < cells.size → (vs.zipIdx.foldl (fun cs (p : Value × Nat) => cs.setIfInBounds (off + p.2) p.1) cells).getD x undef =
      if off ≤ x ∧ x < off + vs.size then vs.getD (x - off) undef else cells.getD x undef := by
  have := zipFold_list off vs.toList 0 cells
  rw [← Array.foldl_toList, Array.toList_zipIdx]
  simpa [getD_toList] using this

/-- parts of a literal -/
inductive Al (ρ : Src → PV) (M : Mem) (φ : Places) (place : Nat → Option (Nat × Nat)) : List (Nat × Nat × Src) → List (Nat × Value) → Prop
  | nil : Al ρ M φ place [] []
  | cons (off size i : Nat) (x : Src) (v : Value) (r : List (Nat × Nat × Src)) (rs : List (Nat × Value)) : place i = some (off, size) → Rv M φ (ρ x) v → Al ρ M φ place r rs →
      Al ρ M φ place ((off, size, x) :: r) ((i, v) :: rs)

theorem fill_sound {ρ : Src → PV} {M : Mem} {φ : Places} {place : Nat → Option (Nat × Nat)} {ps : List (Nat × Nat × Src)} {rs : List (Nat × Value)} (h : Al ρ M φ place ps rs) :
    ∀ {cs cs' : List PV} {cells : Array Value}, fillP ρ ps cs = some cs' → AggR M φ cs cells → ∃ cells', Instr.fill place cells rs = some cells' ∧ AggR M φ cs' cells' := by
  induction h with
  | nil => intro cs cs' cells h hc; cases h; exact ⟨cells, rfl, hc⟩
  | cons off size i x v r rs hp hv hr ih =>
    intro cs cs' cells h hc
    simp only [fillP] at h
    split at h
    · rename_i vs hvs
      split at h
      · rename_i hlen
        obtain ⟨hsz, hcell⟩ := cells_sound hvs hv
        obtain ⟨z1, z2⟩ := zipFold off v.cells cells
        have hfit : off + vs.length ≤ cs.length := by omega
        have hnew : AggR M φ (splice cs off vs) (v.cells.zipIdx.foldl (fun cs (p : Value × Nat) => cs.setIfInBounds (off + p.2) p.1) cells) := by
          refine ⟨by rw [z1, splice_length hfit]; exact hc.1, fun j hj => ?_⟩
          rw [splice_length hfit] at hj
          rw [z2 j (by rw [hc.1]; exact hj), splice_getD hfit, hsz]
          split
          · rename_i hc2; exact hcell _ (by omega)
          · exact hc.2 j hj
        obtain ⟨cells', e1, e2⟩ := ih h hnew
        refine ⟨cells', ?_, e2⟩
        simp only [Instr.fill, hp]
        have hno : ¬ (v.cells.size ≠ size ∨ off + v.cells.size > cells.size) := by rw [hsz, hc.1]; omega
        simp only [Bool.or_eq_true, decide_eq_true_eq]
        rw [if_neg (by simpa using hno)]
        exact e1
      · cases h
    · cases h

/-- rows of elements in cells -/
def GridR (M : Mem) (φ : Places) (k : Nat) (xs : List (List PV)) (c : Nat → Value) : Prop :=
  (∀ i, i < xs.length → (xs.getD i []).length = k) ∧ ∀ i j, i < xs.length → j < k → one (c (i * k + j)) = true ∧ Rv M φ ((xs.getD i []).getD j .any) (c (i * k + j))

/-- parts of a slice's literal -/
inductive AlS (ρ : Src → PV) (M : Mem) (φ : Places) : List (Nat × Src) → List (Nat × Value) → Prop
  | nil : AlS ρ M φ [] []
  | cons (i : Nat) (x : Src) (v : Value) (r : List (Nat × Src)) (rs : List (Nat × Value)) : Rv M φ (ρ x) v → AlS ρ M φ r rs → AlS ρ M φ ((i, x) :: r) ((i, v) :: rs)

theorem getD_set_list {xs : List (List PV)} {i m : Nat} {v : List PV} (hi : i < xs.length) : (xs.set i v).getD m [] = if m = i then v else xs.getD m [] := by
  simp only [List.getD_eq_getElem?_getD, List.getElem?_set]
  by_cases h : i = m
  · subst h; simp [hi]
  · simp [h, Ne.symm h]

theorem fillS_sound {ρ : Src → PV} {M : Mem} {φ : Places} {k : Nat} (_ : 0 < k) {ps : List (Nat × Src)} {rs : List (Nat × Value)} (h : AlS ρ M φ ps rs) :
    ∀ {xs xs' : List (List PV)} {cells : Array Value}, fillS ρ k ps xs = some xs' → cells.size = xs.length * k → GridR M φ k xs (fun x => cells.getD x undef) →
      ∃ cells', Instr.fill (fun i => some (i * k, k)) cells rs = some cells' ∧ cells'.size = cells.size ∧ xs'.length = xs.length ∧ GridR M φ k xs' (fun x => cells'.getD x undef) := by
  induction h with
  | nil => intro xs xs' cells h hc hg; cases h; exact ⟨cells, rfl, rfl, rfl, hg⟩
  | cons i x v r rs hv hr ih =>
    intro xs xs' cells h hc hg
    simp only [fillS] at h
    split at h
    · rename_i vs hvs
      split at h
      · rename_i hlen
        obtain ⟨hsz, hcell⟩ := cells_sound hvs hv
        obtain ⟨z1, z2⟩ := zipFold (i * k) v.cells cells
        have hfit : i * k + k ≤ xs.length * k := by
          have : (i + 1) * k ≤ xs.length * k := Nat.mul_le_mul_right k (by omega)
          rw [Nat.add_mul] at this; omega
        have hnew : GridR M φ k (xs.set i vs) (fun x => (v.cells.zipIdx.foldl (fun cs (p : Value × Nat) => cs.setIfInBounds (i * k + p.2) p.1) cells).getD x undef) := by
          refine ⟨fun m hm => ?_, fun m j hm hj => ?_⟩
          · rw [getD_set_list hlen.2]
            split
            · exact hlen.1
            · exact hg.1 m (by simpa using hm)
          · simp only [List.length_set] at hm
            rw [getD_set_list hlen.2]
            have hmk : m * k + j < cells.size := by
              rw [hc]
              have : (m + 1) * k ≤ xs.length * k := Nat.mul_le_mul_right k (by omega)
              rw [Nat.add_mul] at this; omega
            dsimp only
            rw [z2 _ hmk, hsz]
            by_cases hmi : m = i
            · subst hmi
              rw [if_pos (by omega), if_pos rfl]
              have e : m * k + j - m * k = j := by omega
              rw [e]; exact hcell j (by omega)
            · rw [if_neg ?_, if_neg hmi]
              · exact hg.2 m j hm hj
              · intro hc2
                obtain ⟨q, hq, he⟩ : ∃ q, q < k ∧ m * k + j = i * k + q := ⟨m * k + j - i * k, by omega, by omega⟩
                exact hmi (idx_inj hj hq he).1
        obtain ⟨cells', e1, e2, e3, e4⟩ := ih h (by rw [z1, hc, List.length_set]) hnew
        refine ⟨cells', ?_, by rw [e2, z1], by simpa using e3, e4⟩
        simp only [Instr.fill]
        have hno : ¬ (v.cells.size ≠ k ∨ i * k + v.cells.size > cells.size) := by rw [hsz, hc]; omega
        simp only [Bool.or_eq_true, decide_eq_true_eq]
        rw [if_neg (by simpa using hno)]
        exact e1
      · cases h
    · cases h

section
variable {P : Program} {M : Mem} {φ : Places} {G : Objs} {w : World} {H : Heap} {n : Nat}

theorem build_sound {ρ : Src → PV} {t : TypeId} {fs : Array Field} {i : TypeInfo} {z : Value} {zero cs : List PV} {ps : List (Nat × Nat × Src)} {parts : Array (Nat × Value)}
    (hu : P.underlying t = some (.struct fs)) (hi : P.info? t = some i) (hz : i.zero = some z) (hzc : AggR M φ zero z.cells) (szs : Array (Nat × Nat))
    (hsz : ∀ w, (fs.mapM fun f => do pure (f.offset, ← sizeOf f.type) : Sem (Array (Nat × Nat))).run P w = .ok szs w) (hal : Al ρ M φ (szs[·]?) ps parts.toList)
    (hf : fillP ρ ps zero = some cs) : ∃ v, (Instr.build t parts).run P w = .ok v w ∧ Rv M φ (.agg cs) v := by
  obtain ⟨cells', e1, e2⟩ := fill_sound hal hf hzc
  refine ⟨.agg cells', ?_, e2.agg⟩
  have e1' : Instr.fill (fun x => szs[x]?) z.cells parts.toList = some cells' := e1
  unfold Instr.build
  simp only [Sem.run_bind, run_zero' hi hz, Result.andThen_ok, run_underlying' hu]
  rw [hsz w]
  simp only [Result.andThen_ok, e1']
  rfl

theorem cl_of_flat {p : PV} {v : Value} (h : flat p = true) (hv : Rv M φ p v) : Cl false p := by
  cases hv <;> simp only [flat] at h <;> first
    | (cases h; done)
    | (constructor; done)
    | skip
  case dp t cs off b o vs h0 h1 h2 h3 => cases t <;> simp at h; exact .dp false false cs off (by simp) h0
  case data k xs fl b o cap vs h0 h1 h2 h3 h4 h5 h6 =>
    have hf : fl.isTmp = false := by simpa using h
    refine .data false k xs fl (by rw [hf]; simp) h0
  case func f first caps fs cs h1 h2 h3 h4 =>
    cases first <;> cases caps <;> simp at h
    exact .func false f [] [] (by simp) (by simp)

theorem cl_of_flatT {p : PV} {v : Value} (h : flatT p = true) (hv : Rv M φ p v) : Cl true p := by
  cases hv <;> simp only [flatT] at h <;> first
    | (cases h; done)
    | (constructor; done)
    | skip
  case dp t cs off b o vs h0 h1 h2 h3 => exact .dp true t cs off (by simp) h0
  case data k xs fl b o cap vs h0 h1 h2 h3 h4 h5 h6 => exact .data true k xs fl (by simp) h0
  case func f first caps fs cs h1 h2 h3 h4 =>
    cases first <;> cases caps <;> simp at h
    exact .func true f [] [] (by simp) (by simp)

theorem Post.lay {p : PV} {v : Value} (h : WR M φ G w) (t : Bool) (o : Go.Obj) (hv : Rv (M.add t w.heap.size (w.alloc o)) φ p v) :
    Post M φ G n w ⟨p, H, n, .no⟩ v (w.alloc o) := by
  obtain ⟨h1, h2⟩ := h.lay (n := n) t o
  exact ⟨_, φ, G, hv, h1, h2, fun id hid => by simp [Fp.on, Fp.no] at hid, fun _ _ => rfl, fun _ _ _ => rfl, fun _ _ _ h => h, fun _ _ _ _ => rfl⟩

theorem heap_new (w : World) (o : Go.Obj) : (w.alloc o).heap[w.heap.size]? = some o := by
  show (w.heap.push o)[w.heap.size]? = some o
  simp

/-- a row of cells in a new block, as an object -/
theorem objr_new {xs : List (List PV)} {k tot : Nat} {c : Array Value} {T : TypeId} (hk : 0 < k) (hn : ∀ v, φ n v = none) (hg : GridR M φ k xs (fun x => c.getD x undef))
    (hsz : tot * k ≤ c.size) (htot : xs.length ≤ tot) (hM : ∀ p v, Rv M φ p v → Rv M (φ.set n 0 ⟨w.heap.size, 0, k, tot⟩) p v) :
    ObjR M (φ.set n 0 ⟨w.heap.size, 0, k, tot⟩) n (w.alloc (.cells c T)) (.arr 0 k xs) := by
  refine .arr 0 k xs ⟨w.heap.size, 0, k, tot⟩ c T (φ.set_at n 0 _) rfl hk (fun v hv => by rw [φ.set_ver n 0 _ n v (by omega)]; exact hn v) (heap_new w _) hsz (by simpa using htot) hg.1 ?_ ?_
  · intro i j hi hj; simp only [Nat.zero_add]; exact (hg.2 i j hi hj).1
  · intro i j hi hj; simp only [Nat.zero_add]; exact hM _ _ (hg.2 i j hi hj).2

theorem rv_set (hn : ∀ v, φ n v = none) (l : Loc) (p : PV) (v : Value) (h : Rv M φ p v) : Rv M (φ.set n 0 l) p v := h.mono (.refl M) (φ.le_set n 0 l (hn 0))

theorem getD_cells1 (cs : List PV) (i : Nat) (hi : i < [cs].length) : [cs].getD i [] = cs := by
  obtain rfl : i = 0 := by simpa using hi
  rfl

theorem box_sound {ρ : Src → PV} {obj : Bool} {x : Src} {e : TypeId} {v : Value} {r : Res} {cf : CallF} (h : evalOp cf (.box obj x) ρ H n = some r) (hr : Ready M φ G w H n r) (hv : Rv M φ (ρ x) v) :
    ∃ u w', (newVar e v).run P w = .ok u w' ∧ Post M φ G n w r (.pointer (some u)) w' := by
  simp only [evalOp] at h
  split at h
  · rename_i cs hcs
    obtain ⟨hsz, hcell⟩ := cells_sound hcs hv
    have hrun : (newVar e v).run P w = .ok (cellOf w.heap.size 0) (w.alloc (.cells v.cells e)) := by simp [newVar, newRow, cellOf]
    split at h
    · cases h
    · rename_i hne
      have hk : 0 < cs.length := by cases cs <;> simp_all
      split at h
      · cases h
        refine ⟨_, _, hrun, ?_⟩
        have hn : ∀ v, φ n v = none := fun v => hr.fresh n (Nat.le_refl _) (.inr (by simp)) v
        refine Post.new (rd := []) (l' := ⟨w.heap.size, 0, cs.length, 1⟩) hr.wr rfl hn _ rfl ?_ ?_
        · refine objr_new hk hn ⟨fun i hi => by rw [getD_cells1 cs i hi], fun i j hi hj => ?_⟩ (by simp; omega) (by simp) (rv_set hn _)
          obtain rfl : i = 0 := by simpa using hi
          simp only [Nat.zero_mul, Nat.zero_add]
          exact hcell j hj
        · have := Rv.ptr (M := M) (φ := φ.set n 0 ⟨w.heap.size, 0, cs.length, 1⟩) n 0 cs.length 0 0 ⟨w.heap.size, 0, cs.length, 1⟩ (φ.set_at n 0 _) rfl
          simpa using this
      · have key : ∀ t : Bool, (∀ c ∈ cs, Cl t c) → Rv (M.add t w.heap.size (w.alloc (.cells v.cells e))) φ (.dp t cs 0) (.pointer (some (cellOf w.heap.size 0))) := by
          intro t ht
          refine .dp t cs 0 w.heap.size 0 (fun j => v.cells.getD j undef) ht (fun j hj => ?_) (fun j hj => (hcell j hj).1) (fun j hj => ?_)
          · rw [Nat.zero_add]; exact M.add_at t w v.cells e j (by omega)
          · exact (hcell j hj).2.mono (hr.wr.lay (n := n) t (.cells v.cells e)).2.mem (.refl φ)
        have hget : ∀ c ∈ cs, ∃ u, Rv M φ c u := by
          intro c hc
          obtain ⟨j, hj, rfl⟩ := List.getElem_of_mem hc
          refine ⟨v.cells.getD j undef, ?_⟩
          have := (hcell j hj).2
          simpa [List.getD_eq_getElem?_getD, List.getElem?_eq_getElem hj] using this
        split at h
        · rename_i hf
          cases h
          refine ⟨_, _, hrun, Post.lay hr.wr false _ (key false (fun c hc => ?_))⟩
          obtain ⟨u, hu⟩ := hget c hc
          exact cl_of_flat (List.all_eq_true.1 hf c hc) hu
        · split at h
          · rename_i hf
            cases h
            refine ⟨_, _, hrun, Post.lay hr.wr true _ (key true (fun c hc => ?_))⟩
            obtain ⟨u, hu⟩ := hget c hc
            exact cl_of_flatT (List.all_eq_true.1 hf c hc) hu
          · cases h
  · cases h

theorem range_map_getD {α : Type} [Inhabited α] (m : Nat) (f : Nat → Value) (x : Nat) (hx : x < m) : ((Array.range m).map f).getD x undef = f x := by
  simp [Array.getD, hx]

theorem zero_grid {k : Nat} {zero : List PV} {z : Value} (_ : 0 < k) (hz : AggR M φ zero z.cells) (hl : zero.length = k) (len : Nat) :
    GridR M φ k (List.replicate len zero) (fun x => ((Array.range (len * k)).map (fun x => z.cells[x % z.cells.size]!)).getD x undef) := by
  have hrep : ∀ i, i < len → (List.replicate len zero).getD i [] = zero := by
    intro i hi; simp [List.getD_eq_getElem?_getD, hi]
  refine ⟨fun i hi => by simp at hi; rw [hrep i hi]; exact hl, fun i j hi hj => ?_⟩
  simp at hi
  have hlt : i * k + j < len * k := by
    have : (i + 1) * k ≤ len * k := Nat.mul_le_mul_right k (by omega)
    rw [Nat.add_mul] at this; omega
  have hzs : z.cells.size = k := by rw [hz.1, hl]
  have hmod : (i * k + j) % z.cells.size = j := by rw [hzs, Nat.mul_comm, Nat.mul_add_mod, Nat.mod_eq_of_lt hj]
  have hval : ((Array.range (len * k)).map (fun x => z.cells[x % z.cells.size]!)).getD (i * k + j) undef = z.cells.getD j undef := by
    have hj' : j < z.cells.size := by omega
    rw [range_map_getD (α := Nat) _ _ _ hlt, hmod]
    simp [getElem!_pos, hj', Array.getD]
  simp only [hval, hrep i hi]
  exact hz.2 j (by omega)

theorem bslice_sound {ρ : Src → PV} {obj : Bool} {t e : TypeId} {k len : Nat} {i : TypeInfo} {z : Value} {zero : List PV} {ps : List (Nat × Src)} {parts : Array (Nat × Value)} {r : Res} {cf : CallF}
    (h : evalOp cf (.bslice obj k zero len ps) ρ H n = some r) (hr : Ready M φ G w H n r) (hu : P.underlying t = some (.slice e)) (hi : P.info? e = some i) (hsize : i.size = k) (hz : i.zero = some z)
    (hzc : AggR M φ zero z.cells) (hlim : len * k ≤ 2 ^ 24) (hal : AlS ρ M φ ps parts.toList) :
    ∃ u w', (Instr.buildSlice t len parts).run P w = .ok u w' ∧ Post M φ G n w r u w' := by
  simp only [evalOp] at h
  split at h
  · rename_i xs hxs
    split at h
    · cases h
    · rename_i hcond
      have hl : zero.length = k := by omega
      have hk : 0 < k := by omega
      obtain ⟨cells', e1, e2, e3, e4⟩ := fillS_sound (M := M) (φ := φ) (cells := (Array.range (len * k)).map (fun x => z.cells[x % z.cells.size]!)) hk hal hxs (by simp) (zero_grid hk hzc hl len)
      have hxl : xs.length = len := by simpa using e3
      have hsz : cells'.size = len * k := by simpa using e2
      have hrun : (Instr.buildSlice t len parts).run P w = .ok (.slice (some (cellOf w.heap.size 0)) len len) (w.alloc (.cells cells' e)) := by
        have hs : tySize P e = some k := by simp [tySize, hi, hsize]
        have hno : ¬ len * k > 2 ^ 24 := by omega
        unfold Instr.buildSlice
        simp only [Sem.run_bind, run_underlying' hu, Result.andThen_ok, run_sizeOf' hs]
        rw [if_neg hno]
        by_cases h0 : len * k = 0
        · have hlen0 : len = 0 := by rcases Nat.mul_eq_zero.1 h0 with h | h <;> omega
          subst hlen0
          have hempty : ∀ f : Nat → Value, (Array.range 0).map f = #[] := fun f => by simp
          simp only [Nat.zero_mul, hempty] at e1 ⊢
          simp only [if_true, Sem.run_bind, Sem.run_pure, Result.andThen_ok, e1]
          simp [newRow, cellOf]
        · simp only [h0, if_false, Sem.run_bind, run_zero' hi hz, Result.andThen_ok, Sem.run_pure]
          simp [e1, newRow, cellOf]
      split at h
      · cases h
        refine ⟨_, _, hrun, ?_⟩
        have hn : ∀ v, φ n v = none := fun v => hr.fresh n (Nat.le_refl _) (.inr (by simp)) v
        refine Post.new (rd := []) (l' := ⟨w.heap.size, 0, k, len⟩) hr.wr rfl hn _ rfl (objr_new hk hn e4 (by omega) (by omega) (rv_set hn _)) ?_
        exact .view n 0 k 0 len (some len) ⟨w.heap.size, 0, k, len⟩ _ len (φ.set_at n 0 _) rfl (Nat.le_refl _) (fun c hc => by cases hc; rfl) (fun hc => by cases hc) (fun _ => by simp) (by simp) rfl
      · split at h
        · rename_i hf
          cases h
          refine ⟨_, _, hrun, Post.lay hr.wr false _ ?_⟩
          have hle := (hr.wr.lay (n := n) false (.cells cells' e)).2.mem
          have := Rv.data (M := M.add false w.heap.size (w.alloc (.cells cells' e))) (φ := φ) k xs .full w.heap.size 0 len (fun i j => cells'.getD (i * k + j) undef) ?_ (by omega) (fun _ => by omega) e4.1 ?_
            (fun i j hi hj => (e4.2 i j hi hj).1) (fun i j hi hj => (e4.2 i j hi hj).2.mono hle (.refl φ))
          · rw [hxl] at this; exact this
          · intro x hx c hc
            have hfx := List.all_eq_true.1 (List.all_eq_true.1 hf x hx) c hc
            obtain ⟨a, ha, rfl⟩ := List.getElem_of_mem hx
            obtain ⟨b, hb, rfl⟩ := List.getElem_of_mem hc
            have hlen := e4.1 a ha
            have hrv := (e4.2 a b ha (by rw [← hlen]; simpa [List.getD_eq_getElem?_getD, List.getElem?_eq_getElem ha] using hb)).2
            simp only [List.getD_eq_getElem?_getD, List.getElem?_eq_getElem ha, Option.getD_some, List.getElem?_eq_getElem hb] at hrv
            exact cl_of_flat hfx hrv
          · intro a b ha hb
            rw [Nat.zero_add]
            have hlt : a * k + b < cells'.size := by
              rw [hsz, ← hxl]
              have : (a + 1) * k ≤ xs.length * k := Nat.mul_le_mul_right k (by omega)
              rw [Nat.add_mul] at this; omega
            exact M.add_at false w cells' e _ hlt
        · cases h
  · cases h

theorem mkSlice_sound {ρ : Src → PV} {t e : TypeId} {k bytes : Nat} {i : TypeInfo} {z : Value} {zero : List PV} {len cap : Src} {vl vc : Value} {r : Res} {cf : CallF}
    (h : evalOp cf (.mkSlice k bytes zero len cap) ρ H n = some r) (hr : Ready M φ G w H n r) (hu : P.underlying t = some (.slice e)) (hi : P.info? e = some i) (hsize : i.size = k) (hbytes : i.bytes = bytes)
    (hz : i.zero = some z) (hzc : AggR M φ zero z.cells) (hl : Rv M φ (ρ len) vl) (hc : Rv M φ (ρ cap) vc) (hwrap : ∀ x : Int, 0 ≤ x → x ≤ 140737488355328 → IntKind.i64.wrap x = x) (hb : 1 ≤ bytes) :
    ∃ u w', (Instr.makeSlice t vl vc).run P w = .ok u w' ∧ Post M φ G n w r u w' := by
  simp only [evalOp] at h
  split at h
  · rename_i l c e1 e2
    rw [e1] at hl
    rw [e2] at hc
    cases hl
    cases hc
    split at h
    · rename_i hcond
      obtain ⟨h0, hlc, hroom, hzl, hk0⟩ := hcond
      have hk : 0 < k := by omega
      cases h
      have hcr : c.toNat ≤ c.toNat * bytes := Nat.le_mul_of_pos_right _ (by omega)
      unfold room at hroom
      have hw1 : IntKind.i64.wrap l = l := hwrap l h0 (by omega)
      have hw2 : IntKind.i64.wrap c = c := hwrap c (by omega) (by omega)
      have hs : tySize P e = some k := by simp [tySize, hi, hsize]
      have hbc : (bytes : Int) * c ≤ 140737488355328 := by
        have e3 : ((c.toNat * bytes : Nat) : Int) = (bytes : Int) * c := by rw [Int.natCast_mul, Int.toNat_of_nonneg (by omega), Int.mul_comm]
        rw [← e3]; omega
      have hrun : (Instr.makeSlice t (.int .i64 l) (.int .i64 c)).run P w = .ok (.slice (some (cellOf w.heap.size 0)) l.toNat c.toNat)
          (w.alloc (.cells ((Array.range (c.toNat * k)).map (fun x => z.cells[x % z.cells.size]!)) e)) := by
        have g1 : ¬ (c < 0) := by omega
        have g2 : ¬ ((bytes : Int) * c > 2 ^ 48) := by omega
        have g3 : ¬ (l < 0) := by omega
        have g4 : ¬ (l > c) := by omega
        unfold Instr.makeSlice
        simp only [Sem.run_bind, run_underlying' hu, Result.andThen_ok, asInt, asIntOf, Sem.run_pure, run_typeInfo' hi, hw1, hw2, hbytes, g1, g2, g3, g4, decide_false, Bool.or_false, Bool.false_eq_true, if_false,
          run_askRoom, run_sizeOf' hs]
        by_cases hz0 : c.toNat * k = 0
        · have hempty : ∀ f : Nat → Value, (Array.range 0).map f = #[] := fun f => by simp
          simp only [hz0, hempty]
          simp [newRow, cellOf]
        · simp [hz0, run_zero' hi hz, newRow, cellOf]
      refine ⟨_, _, hrun, ?_⟩
      have hn : ∀ v, φ n v = none := fun v => hr.fresh n (Nat.le_refl _) (.inr (by simp)) v
      refine Post.new (rd := []) (l' := ⟨w.heap.size, 0, k, c.toNat⟩) hr.wr rfl hn _ rfl (objr_new hk hn (zero_grid hk hzc hzl c.toNat) (by simp) (by simp) (rv_set hn _)) ?_
      exact .view n 0 k 0 l.toNat (some c.toNat) ⟨w.heap.size, 0, k, c.toNat⟩ _ c.toNat (φ.set_at n 0 _) rfl (by omega) (fun c hc => by cases hc; rfl) (fun hc => by cases hc) (fun _ => by simp) (by simp) rfl
    · cases h
  · cases h

end
end Go.Vm
