/-
  WHAT ONE OPERATION DOES TO THE WORLD: the general steps: an object is laid or turned; memory is laid that nobody writes.
-/
import Derived.Test.YtebfimcapoekjaaGreatVb
namespace Go.Vm

def Fp.on (f : Fp) (id : Nat) : Prop := f.all = true ∨ id ∈ f.wr
def Fp.at (f : Fp) (id : Nat) : Prop := f.all = true ∨ id ∈ f.rd ∨ id ∈ f.wr

/-- what an operation's run comes to -/
def OpSem (P : Program) (s : Sem Next) (w : World) (K : Value → World → Prop) : Prop :=
  match s.run P w with
  | .ok (.value v) w' => K v w'
  | .ok .skip w' => K undef w'
  | .ok (.enter f args) w' => Calls P f args w' fun e w'' => ∃ v, e = .returned v ∧ K v w''
  | _ => False

def Post (M : Mem) (φ : Places) (G : Objs) (n : Nat) (w : World) (r : Res) (v : Value) (w' : World) : Prop :=
  ∃ M' φ' G', Rv M' φ' r.v v ∧ WR M' φ' G' w' ∧ Ext M φ G n w M' φ' G' r.n w' ∧
    (∀ id, r.fp.on id → G' id = r.H.get id) ∧ (∀ id, ¬ r.fp.on id → G' id = G id) ∧
    (∀ id ver, ¬ r.fp.on id → φ' id ver = φ id ver) ∧ (∀ id ver, r.n ≤ id → φ id ver = none → φ' id ver = none) ∧ (∀ id ver, id < n → G id = none → φ' id ver = φ id ver)

theorem Post.pure {M : Mem} {φ : Places} {G : Objs} {n : Nat} {w : World} {p : PV} {v : Value} {H : Heap} {rd : List Nat} (hw : WR M φ G w) (hv : Rv M φ p v) :
    Post M φ G n w ⟨p, H, n, ⟨rd, [], false⟩⟩ v w :=
  ⟨M, φ, G, hv, hw, .refl _ _ _ _ _, fun id h => by simp [Fp.on] at h, fun _ _ => rfl, fun _ _ _ => rfl, fun _ _ _ h => h, fun _ _ _ _ => rfl⟩

/-- one object is laid or turned -/
theorem WR.put {M : Mem} {φ φ' : Places} {G : Objs} {w w' : World} {n n' id : Nat} {o' : Obj} {l' : Loc} (h : WR M φ G w) (hφ : φ.le φ')
    (hother : ∀ j v, j ≠ id → φ' j v = φ j v) (hl : φ' id o'.ver = some l') (ho : ObjR M φ' id w' o')
    (hos : w'.os = w.os) (htape : w'.tape = w.tape) (hout : w'.output = w.output) (hsize : w.heap.size ≤ w'.heap.size)
    (hblock : ∀ b, b < w.heap.size → b ≠ l'.block → w'.heap[b]? = w.heap[b]?)
    (hwho : w.heap.size ≤ l'.block ∨ ∃ o l, G id = some o ∧ φ id o.ver = some l ∧ l.block = l'.block) (hn : n ≤ n') :
    WR M φ' (G.put id o') w' ∧ Ext M φ G n w M φ' (G.put id o') n' w' := by
  have hblk : ∀ j o l, G j = some o → φ j o.ver = some l → l.block < w.heap.size := by
    intro j o l hj hl
    have := h.obj j o hj
    cases this with
    | arr ver k xs l2 c T h1 h2 h3 h4 h5 h6 h7 h8 h9 h10 =>
      obtain rfl : l2 = l := Option.some.inj (h1.symm.trans hl)
      exact (Array.getElem?_eq_some_iff.1 h5).1
    | map es clock l2 en h1 h2 h3 h4 h5 =>
      obtain rfl : l2 = l := Option.some.inj (h1.symm.trans hl)
      exact (Array.getElem?_eq_some_iff.1 h3).1
    | miter m since seen stepped l2 m' h1 h2 h3 h4 h5 =>
      obtain rfl : l2 = l := Option.some.inj (h1.symm.trans hl)
      exact (Array.getElem?_eq_some_iff.1 h3).1
  have hne : ∀ j o l, j ≠ id → G j = some o → φ j o.ver = some l → l.block ≠ l'.block := by
    intro j o l hj hG hl he
    rcases hwho with hge | ⟨o2, l2, e1, e2, e3⟩
    · have := hblk j o l hG hl; omega
    · exact hj (h.inj _ _ _ _ _ _ hG e1 hl e2 (by rw [he, e3]))
  have hMne : ∀ t a v, M t a = some v → a.block ≠ l'.block := by
    intro t a v hv he
    rcases hwho with hge | ⟨o2, l2, e1, e2, e3⟩
    · have := World.block_lt_of_cell? w a (h.mem t a v hv); omega
    · exact h.sep t a v hv ⟨id, o2, l2, e1, e2, by rw [e3, he]⟩
  have hput : ∀ j, j ≠ id → G.put id o' j = G j := fun j hj => by simp [Objs.put, Ne.symm hj]
  refine ⟨⟨?_, ?_, ?_, ?_⟩, ?_⟩
  · intro t a v hv
    have hc := h.mem t a v hv
    have hlt := World.block_lt_of_cell? w a hc
    simp only [World.cell?, hblock a.block hlt (hMne t a v hv)]
    exact hc
  · intro j o hj
    by_cases hji : j = id
    · subst hji
      simp [Objs.put] at hj
      subst hj
      exact ho
    · rw [hput j hji] at hj
      refine (h.obj j o hj).mono (.refl M) hφ ?_ ?_
      · intro l hl2
        exact hblock _ (hblk j o l hj hl2) (hne j o l hji hj hl2)
      · intro v hv _
        rw [hother j v hji]; exact hv
  · intro i j x y l m hi hj hl1 hm he
    by_cases hii : i = id <;> by_cases hjj : j = id
    · rw [hii, hjj]
    · subst hii
      simp [Objs.put] at hi
      subst hi
      obtain rfl : l' = l := Option.some.inj (hl.symm.trans hl1)
      rw [hput j hjj] at hj
      rw [hother j _ hjj] at hm
      exact absurd he.symm (hne j y m hjj hj hm)
    · subst hjj
      simp [Objs.put] at hj
      subst hj
      obtain rfl : l' = m := Option.some.inj (hl.symm.trans hm)
      rw [hput i hii] at hi
      rw [hother i _ hii] at hl1
      exact absurd he (hne i x l hii hi hl1)
    · rw [hput i hii] at hi
      rw [hput j hjj] at hj
      rw [hother i _ hii] at hl1
      rw [hother j _ hjj] at hm
      exact h.inj _ _ _ _ _ _ hi hj hl1 hm he
  · rintro t a v hv ⟨j, o, l, hj, hl2, he⟩
    by_cases hji : j = id
    · subst hji
      simp [Objs.put] at hj
      subst hj
      obtain rfl : l' = l := Option.some.inj (hl.symm.trans hl2)
      exact hMne t a v hv he.symm
    · rw [hput j hji] at hj
      rw [hother j _ hji] at hl2
      exact h.sep t a v hv ⟨j, o, l, hj, hl2, he⟩
  · refine ⟨.refl M, hφ, hn, hos, htape, hout, hsize, ?_, fun _ _ _ hv => .inl hv, ?_⟩
    · intro b hb hno
      refine hblock b hb (fun he => ?_)
      rcases hwho with hge | ⟨o2, l2, e1, e2, e3⟩
      · omega
      · exact hno ⟨id, o2, l2, e1, e2, by rw [e3, he]⟩
    · rintro b ⟨j, o, l, hj, hl2, he⟩
      by_cases hji : j = id
      · subst hji
        simp [Objs.put] at hj
        subst hj
        obtain rfl : l' = l := Option.some.inj (hl.symm.trans hl2)
        rcases hwho with hge | ⟨o2, l2, e1, e2, e3⟩
        · right; omega
        · left; exact ⟨j, o2, l2, e1, e2, by rw [e3, he]⟩
      · rw [hput j hji] at hj
        rw [hother j _ hji] at hl2
        left; exact ⟨j, o, l, hj, hl2, he⟩

/-- memory of a new block -/
def Mem.add (M : Mem) (t : Bool) (b : Nat) (w : World) : Mem := fun u a => if u = t ∧ a.block = b then w.cell? a else M u a

/-- memory is laid that nobody writes -/
theorem WR.lay {M : Mem} {φ : Places} {G : Objs} {w : World} {n : Nat} (h : WR M φ G w) (t : Bool) (o : Go.Obj) :
    WR (M.add t w.heap.size (w.alloc o)) φ G (w.alloc o) ∧ Ext M φ G n w (M.add t w.heap.size (w.alloc o)) φ G n (w.alloc o) := by
  have hb : ∀ b, b < w.heap.size → (w.alloc o).heap[b]? = w.heap[b]? := fun b hb => RowKit.Below.heap_alloc w o b hb
  have hMlt : ∀ u a v, M u a = some v → a.block < w.heap.size := fun u a v hv => World.block_lt_of_cell? w a (h.mem u a v hv)
  have hOlt : ∀ b, Own φ G b → b < w.heap.size := by
    rintro b ⟨j, o2, l, hj, hl, rfl⟩
    have := h.obj j o2 hj
    cases this with
    | arr ver k xs l2 c T h1 h2 h3 h4 h5 h6 h7 h8 h9 h10 =>
      obtain rfl : l2 = l := Option.some.inj (h1.symm.trans hl)
      exact (Array.getElem?_eq_some_iff.1 h5).1
    | map es clock l2 en h1 h2 h3 h4 h5 =>
      obtain rfl : l2 = l := Option.some.inj (h1.symm.trans hl)
      exact (Array.getElem?_eq_some_iff.1 h3).1
    | miter m since seen stepped l2 m' h1 h2 h3 h4 h5 =>
      obtain rfl : l2 = l := Option.some.inj (h1.symm.trans hl)
      exact (Array.getElem?_eq_some_iff.1 h3).1
  have hle : M.le (M.add t w.heap.size (w.alloc o)) := by
    intro u a v hv
    have := hMlt u a v hv
    simp only [Mem.add]
    rw [if_neg (by omega)]; exact hv
  refine ⟨⟨?_, ?_, h.inj, ?_⟩, ?_⟩
  · intro u a v hv
    simp only [Mem.add] at hv
    split at hv
    · exact hv
    · have hc := h.mem u a v hv
      simp only [World.cell?, hb a.block (hMlt u a v hv)]
      exact hc
  · intro j o2 hj
    refine (h.obj j o2 hj).mono hle (.refl φ) ?_ (fun v hv _ => hv)
    intro l hl
    exact hb _ (hOlt _ ⟨j, o2, l, hj, hl, rfl⟩)
  · intro u a v hv hown
    simp only [Mem.add] at hv
    split at hv
    · rename_i hc
      have := hOlt _ hown
      omega
    · exact h.sep u a v hv hown
  · refine ⟨hle, .refl φ, Nat.le_refl _, rfl, rfl, rfl, by simp, fun b hlt _ => hb b hlt, ?_, fun b hb => .inl hb⟩
    intro u a v hv
    simp only [Mem.add] at hv
    split at hv
    · rename_i hc
      right; left; omega
    · exact .inl hv

theorem cell?_alloc_at (w : World) (c : Array Value) (T : TypeId) (j : Nat) (hj : j < c.size) : (w.alloc (.cells c T)).cell? (cellOf w.heap.size j) = some (c.getD j undef) := by
  rw [cellOf, World.cell?_alloc_new]; simp [Array.getD, hj]

theorem Mem.add_at (M : Mem) (t : Bool) (w : World) (c : Array Value) (T : TypeId) (j : Nat) (hj : j < c.size) :
    M.add t w.heap.size (w.alloc (.cells c T)) t (cellOf w.heap.size j) = some (c.getD j undef) := by
  simp only [Mem.add]
  rw [if_pos ⟨trivial, rfl⟩]; exact cell?_alloc_at w c T j hj

def Places.set (φ : Places) (id ver : Nat) (l : Loc) : Places := fun i v => if i = id ∧ v = ver then some l else φ i v

theorem Places.set_at (φ : Places) (id ver : Nat) (l : Loc) : φ.set id ver l id ver = some l := by simp [Places.set]
theorem Places.set_other (φ : Places) (id ver : Nat) (l : Loc) (j v : Nat) (h : j ≠ id) : φ.set id ver l j v = φ j v := by simp [Places.set, h]
theorem Places.set_ver (φ : Places) (id ver : Nat) (l : Loc) (j v : Nat) (h : v ≠ ver) : φ.set id ver l j v = φ j v := by simp [Places.set, h]
theorem Places.le_set (φ : Places) (id ver : Nat) (l : Loc) (h : φ id ver = none) : φ.le (φ.set id ver l) := by
  intro i v m hm
  by_cases hc : i = id ∧ v = ver
  · obtain ⟨rfl, rfl⟩ := hc; rw [h] at hm; cases hm
  · simp [Places.set, hc, hm]

/-- an object is laid in a new block -/
theorem WR.new {M : Mem} {φ : Places} {G : Objs} {w w' : World} {n id : Nat} {o' : Obj} {l' : Loc} (h : WR M φ G w) (hver : o'.ver = 0) (hfresh : ∀ v, φ id v = none) (ho : Go.Obj)
    (hw' : w' = w.alloc ho) (hb : l'.block = w.heap.size) (hobj : ObjR M (φ.set id 0 l') id w' o') (_ : id = n) :
    WR M (φ.set id 0 l') (G.put id o') w' ∧ Ext M φ G n w M (φ.set id 0 l') (G.put id o') (n + 1) w' := by
  subst hw'
  exact h.put (φ.le_set id 0 l' (hfresh 0)) (fun j v hj => φ.set_other id 0 l' j v hj) (by rw [hver]; exact φ.set_at id 0 l') hobj rfl rfl rfl (by simp)
    (fun b hlt _ => RowKit.Below.heap_alloc w ho b hlt) (.inl (by omega)) (by omega)

theorem Post.new {M : Mem} {φ : Places} {G : Objs} {w : World} {n : Nat} {o' : Obj} {l' : Loc} {p : PV} {v : Value} {H : Heap} {rd : List Nat} (h : WR M φ G w) (hver : o'.ver = 0)
    (hfresh : ∀ v, φ n v = none) (ho : Go.Obj) (hb : l'.block = w.heap.size) (hobj : ObjR M (φ.set n 0 l') n (w.alloc ho) o') (hv : Rv M (φ.set n 0 l') p v) :
    Post M φ G n w ⟨p, H.set n o', n + 1, ⟨rd, [n], false⟩⟩ v (w.alloc ho) := by
  obtain ⟨h1, h2⟩ := h.new (n := n) hver hfresh ho rfl hb hobj rfl
  refine ⟨M, φ.set n 0 l', G.put n o', hv, h1, h2, ?_, ?_, ?_, ?_, fun id ver hid _ => φ.set_other n 0 l' id ver (by omega)⟩
  · intro id hid
    simp [Fp.on] at hid
    subst hid
    simp [Objs.put, Heap.get_set_eq]
  · intro id hid
    simp [Fp.on] at hid
    simp [Objs.put, Ne.symm hid]
  · intro id ver hid
    simp [Fp.on] at hid
    exact φ.set_other n 0 l' id ver hid
  · intro id ver hid hn
    simp at hid
    rw [φ.set_other n 0 l' id ver (by omega)]; exact hn

/-- an object is turned in place -/
theorem Post.turn {M : Mem} {φ : Places} {G : Objs} {w w' : World} {n id : Nat} {o o' : Obj} {l : Loc} {p : PV} {v : Value} {H : Heap} {rd : List Nat} (h : WR M φ G w) (hG : G id = some o)
    (hver : o'.ver = o.ver) (hl : φ id o.ver = some l) (hobj : ObjR M φ id w' o') (hos : w'.os = w.os) (htape : w'.tape = w.tape) (hout : w'.output = w.output)
    (hsize : w'.heap.size = w.heap.size) (hblock : ∀ b, b ≠ l.block → w'.heap[b]? = w.heap[b]?) (hv : Rv M φ p v) :
    Post M φ G n w ⟨p, H.set id o', n, ⟨rd, [id], false⟩⟩ v w' := by
  obtain ⟨h1, h2⟩ := h.put (n := n) (n' := n) (.refl φ) (fun _ _ _ => rfl) (by rw [hver]; exact hl) hobj hos htape hout (by omega) (fun b _ hb => hblock b hb) (.inr ⟨o, l, hG, hl, rfl⟩) (Nat.le_refl _)
  refine ⟨M, φ, G.put id o', hv, h1, h2, ?_, ?_, fun _ _ _ => rfl, fun _ _ _ h => h, fun _ _ _ _ => rfl⟩
  · intro j hid
    simp [Fp.on] at hid
    subst hid
    simp [Objs.put, Heap.get_set_eq]
  · intro j hid
    simp [Fp.on] at hid
    simp [Objs.put, Ne.symm hid]

theorem OpSem.value {P : Program} {s : Sem Next} {w w' : World} {v : Value} {K : Value → World → Prop} (h : s.run P w = .ok (.value v) w') (hK : K v w') : OpSem P s w K := by
  simp only [OpSem, h]; exact hK

theorem OpSem.skip {P : Program} {s : Sem Next} {w w' : World} {K : Value → World → Prop} (h : s.run P w = .ok .skip w') (hK : K undef w') : OpSem P s w K := by
  simp only [OpSem, h]; exact hK

theorem OpSem.enter {P : Program} {s : Sem Next} {w w' : World} {f : FuncId} {args : Array Value} {K : Value → World → Prop} (h : s.run P w = .ok (.enter f args) w')
    (hK : Calls P f args w' fun e w'' => ∃ v, e = .returned v ∧ K v w'') : OpSem P s w K := by
  simp only [OpSem, h]; exact hK

theorem OpSem.mono {P : Program} {s : Sem Next} {w : World} {K K' : Value → World → Prop} (h : OpSem P s w K) (hK : ∀ v w', K v w' → K' v w') : OpSem P s w K' := by
  unfold OpSem at *
  split <;> rename_i heq <;> simp only [heq] at h
  · exact hK _ _ h
  · exact hK _ _ h
  · exact h.mono fun e w'' ⟨v, he, hk⟩ => ⟨v, he, hK _ _ hk⟩

end Go.Vm
