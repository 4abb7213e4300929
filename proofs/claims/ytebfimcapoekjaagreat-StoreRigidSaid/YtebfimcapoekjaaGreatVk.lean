/-
  CALLS: the four ways of a call.
-/
import Derived.Test.YtebfimcapoekjaaGreatVj
namespace Go.Vm

/-- what the evaluator says of a function is what the model does -/
def FSound (P : Program) (cf : CallF) : Prop :=
  ∀ f args H n r H' n', cf f args H n = some (r, H', n') → ∀ (M : Mem) (φ : Places) (w : World) (vs : Array Value), WR M φ H.get w → Fresh φ n → RvL M φ args vs →
    OpSem P (callFunc f vs) w fun v w' => ∃ M' φ', Rv M' φ' r v ∧ WR M' φ' H'.get w' ∧ Ext M φ H.get n w M' φ' H'.get n' w' ∧ Fresh φ' n' ∧ (∀ id ver, id < n → H.get id = none → φ' id ver = φ id ver)

theorem Ext.count_any {M : Mem} {φ : Places} {G : Objs} {n : Nat} {w : World} {M' : Mem} {φ' : Places} {G' : Objs} {n' : Nat} {w' : World} (h : Ext M φ G n w M' φ' G' n' w') {m m' : Nat} (hm : m ≤ m') : Ext M φ G m w M' φ' G' m' w' :=
  ⟨h.mem, h.places, hm, h.os, h.tape, h.output, h.size, h.block, h.new, h.own⟩


section
variable {P : Program} {M : Mem} {φ : Places} {G : Objs} {w : World} {H : Heap} {n : Nat}

theorem Heap.get_append (A B : Heap) (id : Nat) : (A ++ B).get id = (A.get id).or (B.get id) := by
  induction A with
  | nil => simp [Heap.get]
  | cons x r ih =>
    obtain ⟨i, o⟩ := x
    simp only [List.cons_append, Heap.get]
    by_cases h : i = id
    · simp [h]
    · simp [h, ih]

theorem get_dropIds (H : Heap) (is : List Nat) (id : Nat) : (dropIds H is).get id = if id ∈ is then none else H.get id := by
  induction H with
  | nil => simp [dropIds, Heap.get]
  | cons x r ih =>
    obtain ⟨i, o⟩ := x
    unfold dropIds at ih ⊢
    simp only [List.filter_cons]
    by_cases hi : i ∈ is
    · have : (!is.contains i) = false := by simp [hi]
      simp only [this, Bool.false_eq_true, if_false, ih, Heap.get]
      by_cases h : i = id
      · subst h; simp [hi]
      · simp [h]
    · have : (!is.contains i) = true := by simp [hi]
      simp only [this, if_true, Heap.get, ih]
      by_cases h : i = id
      · subst h; simp [hi]
      · simp [h]

def noPlaces : Places := fun _ _ => none

theorem noPlaces_fresh (n : Nat) : Fresh noPlaces n := fun _ _ _ => rfl

theorem own_lt (hw : WR M φ G w) {b : Nat} (h : Own φ G b) : b < w.heap.size := by
  obtain ⟨j, o2, l, hj, hl, rfl⟩ := h
  have := hw.obj j o2 hj
  cases this with
  | arr ver k xs l2 c T h1 h2 h3 h4 h5 h6 h7 h8 h9 h10 =>
    obtain rfl : l2 = l := Option.some.inj (h1.symm.trans hl)
    exact (Array.getElem?_eq_some_iff.1 h5).1
  | map es clock l2 en h1 h2 h3 h4 h5 =>
    obtain rfl : l2 = l := Option.some.inj (h1.symm.trans hl)
    exact (Array.getElem?_eq_some_iff.1 h3).1
  | miter m since seen stepped l2 m' h1 h2 h3 h4 h5 =>
    obtain rfl : l2 = l := Option.some.inj (h1.symm.trans hl)
    exact (Array.getElem?_eq_some_iff.1 h3).1

theorem own_none {φ : Places} {b : Nat} : ¬ Own φ (Heap.get []) b := by rintro ⟨j, o, l, hj, _⟩; simp [Heap.get] at hj

theorem mem_lt (hw : WR M φ G w) {t : Bool} {a : Addr} {v : Value} (h : M t a = some v) : a.block < w.heap.size := World.block_lt_of_cell? w a (hw.mem t a v h)

/-- without objects: what memory is, is left -/
theorem WR.bare (h : WR M φ G w) (t : Bool) (B : Nat → Prop) (φ' : Places) : WR (M.snap t B w) φ' (Heap.get []) w where
  mem u a v hv := by
    unfold Mem.snap at hv
    split at hv
    · exact hv
    · exact h.mem u a v hv
  obj id o ho := by simp [Heap.get] at ho
  inj i j x y l m hi := by simp [Heap.get] at hi
  sep u a v _ := own_none

/-- what a call of memory alone has left: the objects are as they were -/
theorem WR.back {M' : Mem} {φ' : Places} {H' : Heap} {w' : World} {n' : Nat} {t : Bool} {B : Nat → Prop} {G' : Objs} (hw : WR M φ G w) (hG' : ∀ id o, G' id = some o → G id = some o) (hB : t = false → ∀ b, B b → ¬ Own φ G' b ∧ Own φ G b)
    (hw' : WR M' φ' H'.get w') (hx : Ext (M.snap t B w) noPlaces (Heap.get []) n w M' φ' H'.get n' w') :
    WR (fun u a => if u = true then M true a else M'.snap false (Own φ' H'.get) w' false a) φ G' w' ∧
    Ext M φ G n w (fun u a => if u = true then M true a else M'.snap false (Own φ' H'.get) w' false a) φ G' n w' := by
  have hblk : ∀ b, b < w.heap.size → w'.heap[b]? = w.heap[b]? := fun b hb => hx.block b hb own_none
  have hown' : ∀ b, Own φ' H'.get b → w.heap.size ≤ b := fun b hb => (hx.own b hb).elim (fun h => absurd h own_none) id
  have hcase : ∀ a v, M'.snap false (Own φ' H'.get) w' false a = some v → (M false a = some v ∨ (t = false ∧ B a.block) ∨ w.heap.size ≤ a.block) := by
    intro a v hv
    unfold Mem.snap at hv
    split at hv
    · rename_i hc; exact .inr (.inr (hown' _ hc.2))
    · rcases hx.new false a v hv with h1 | h1 | h1
      · unfold Mem.snap at h1
        split at h1
        · rename_i hc; exact .inr (.inl ⟨hc.1.symm, hc.2⟩)
        · exact .inl h1
      · exact .inr (.inr h1)
      · exact absurd h1 own_none
  refine ⟨⟨?_, ?_, ?_, ?_⟩, ?_⟩
  · intro u a v hv
    cases u with
    | true =>
      simp only [if_true] at hv
      have := hw.mem true a v hv
      simp only [World.cell?, hblk _ (mem_lt hw hv)]
      exact this
    | false =>
      simp only [Bool.false_eq_true, if_false] at hv
      unfold Mem.snap at hv
      split at hv
      · exact hv
      · exact hw'.mem false a v hv
  · intro id o ho
    have ho2 := hG' id o ho
    refine (hw.obj id o ho2).mono ?_ (.refl φ) ?_ (fun v hv _ => hv)
    · intro u a v hv
      cases u with
      | true => simpa using hv
      | false =>
        simp only [Bool.false_eq_true, if_false]
        exact Mem.le_snap hw' false _ false a v (hx.mem false a v (Mem.le_snap hw t B false a v hv))
    · intro l hl
      exact hblk _ (own_lt hw ⟨id, o, l, ho2, hl, rfl⟩)
  · intro i j x y l m hi hj
    exact hw.inj i j x y l m (hG' _ _ hi) (hG' _ _ hj)
  · intro u a v hv hown
    have hownG : Own φ G a.block := by obtain ⟨id, o, l, h1, h2, h3⟩ := hown; exact ⟨id, o, l, hG' _ _ h1, h2, h3⟩
    cases u with
    | true => simp only [if_true] at hv; exact hw.sep true a v hv hownG
    | false =>
      simp only [Bool.false_eq_true, if_false] at hv
      rcases hcase a v hv with h1 | ⟨h1, h2⟩ | h1
      · exact hw.sep false a v h1 hownG
      · exact (hB h1 _ h2).1 hown
      · have := own_lt hw hownG; omega
  · refine ⟨?_, .refl φ, Nat.le_refl _, hx.os, hx.tape, hx.output, hx.size, fun b hb _ => hblk b hb, ?_, ?_⟩
    · intro u a v hv
      cases u with
      | true => simpa using hv
      | false =>
        simp only [Bool.false_eq_true, if_false]
        exact Mem.le_snap hw' false _ false a v (hx.mem false a v (Mem.le_snap hw t B false a v hv))
    · intro u a v hv
      cases u with
      | true => simp only [if_true] at hv; exact .inl hv
      | false =>
        simp only [Bool.false_eq_true, if_false] at hv
        rcases hcase a v hv with h1 | ⟨h1, h2⟩ | h1
        · exact .inl h1
        · exact .inr (.inr (hB h1 _ h2).2)
        · exact .inr (.inl h1)
    · rintro b ⟨id, o, l, h1, h2, h3⟩
      exact .inl ⟨id, o, l, hG' _ _ h1, h2, h3⟩

theorem rvl_thaw (hw : WR M φ G w) {t : Bool} {B : Nat → Prop} {d : Nat} {args as : List PV} {is : List Nat} {vs : Array Value} (h : thawL t H d args = some (as, is)) (hB : Among φ G H B is) (hv : RvL M φ args vs) (φ' : Places) :
    RvL (M.snap t B w) φ' as vs ∧ RvL (M.snap t B w) φ as vs := by
  obtain ⟨e1, e2⟩ := (thaw_sound hw t H B d).2.1 args as is (fun j => vs.getD j undef) h hB hv.2
  refine ⟨⟨by rw [e1]; exact hv.1, fun j hj => ?_⟩, ⟨by rw [e1]; exact hv.1, fun j hj => (e2 j hj).1⟩⟩
  exact (e2 j hj).1.clean t (e2 j hj).2 (fun _ _ _ _ h => h)

/-- what comes back as memory -/
theorem thaw_back {M' : Mem} {φ' : Places} {H' : Heap} {w' : World} {d : Nat} {r r' : PV} {js : List Nat} {v : Value} (hw' : WR M' φ' H'.get w') (h : thaw false H' d r = some (r', js)) (hv : Rv M' φ' r v) (Mt : Addr → Option Value) (φ₀ : Places) :
    Rv (fun u a => if u = true then Mt a else M'.snap false (Own φ' H'.get) w' false a) φ₀ r' v := by
  obtain ⟨e1, e2⟩ := (thaw_sound hw' false H' (Own φ' H'.get) d).1 r r' js v h (fun id _ => ⟨rfl, fun o l ho hl => ⟨id, o, l, ho, hl, rfl⟩⟩) hv
  refine e1.clean false e2 ?_
  intro u a x hu hx
  cases u with
  | true => simp at hu
  | false => simpa using hx

theorem call_sound {cf : CallF} (hcf : FSound P cf) {mode : Nat} {f : FuncId} {args : List PV} {vs : Array Value} {r : Res} (h : callV cf mode f args H n = some r) (hr : Ready M φ G w H n r) (hv : RvL M φ args vs) :
    OpSem P (callFunc f vs) w (Post M φ G n w r) := by
  unfold callV at h
  split at h
  · -- 0
    split at h
    · rename_i as is has
      split at h
      · rename_i r0 H' n' hcall
        split at h
        · rename_i r' js hthaw
          cases h
          have hB : Among φ G H (Own φ G) is := fun id hid => ⟨hr.same id (.inr (.inl hid)), fun o l ho hl => ⟨id, o, l, ho, hl, rfl⟩⟩
          refine (hcf _ _ _ _ _ _ _ hcall (M.snap true (Own φ G) w) noPlaces w vs (hr.wr.bare true _ _) (noPlaces_fresh 0) (rvl_thaw hr.wr has hB hv _).1).mono ?_
          rintro v w' ⟨M', φ', h1, h2, h3, h4, h5⟩
          obtain ⟨g1, g2⟩ := hr.wr.back (G' := G) (t := true) (fun _ _ h => h) (fun e => by cases e) h2 (h3.count_any (Nat.le_refl n))
          refine ⟨_, φ, G, thaw_back h2 hthaw h1 (M true) φ, g1, g2, fun id hid => ?_, fun _ _ => rfl, fun _ _ _ => rfl, fun _ _ _ h => h, fun _ _ _ _ => rfl⟩
          simp [Fp.on] at hid
        · cases h
      · cases h
    · cases h
  · -- 3
    split at h
    · rename_i as is has
      split at h
      · rename_i r0 H' n' hcall
        split at h
        · rename_i r' js hthaw
          cases h
          let B : Nat → Prop := fun b => ∃ id o l, id ∈ is ∧ G id = some o ∧ φ id o.ver = some l ∧ l.block = b
          have hB : Among φ G H B is := fun id hid => ⟨hr.same id (.inr (.inr hid)), fun o l ho hl => ⟨id, o, l, hid, ho, hl, rfl⟩⟩
          let G' : Objs := fun id => if id ∈ is then none else G id
          have hG' : ∀ id o, G' id = some o → G id = some o ∧ id ∉ is := by
            intro id o ho
            simp only [G'] at ho
            split at ho
            · cases ho
            · rename_i hn; exact ⟨ho, hn⟩
          refine (hcf _ _ _ _ _ _ _ hcall (M.snap false B w) noPlaces w vs (hr.wr.bare false _ _) (noPlaces_fresh 0) (rvl_thaw hr.wr has hB hv _).1).mono ?_
          rintro v w' ⟨M', φ', h1, h2, h3, h4, h5⟩
          obtain ⟨g1, g2⟩ := hr.wr.back (G' := G') (t := false) (fun id o ho => (hG' id o ho).1) (fun _ b hb => by
            obtain ⟨id, o, l, k1, k2, k3, k4⟩ := hb
            refine ⟨?_, ⟨id, o, l, k2, k3, k4⟩⟩
            rintro ⟨id2, o2, l2, m1, m2, m3⟩
            obtain ⟨m4, m5⟩ := hG' _ _ m1
            exact m5 (hr.wr.inj _ _ _ _ _ _ k2 m4 k3 m2 (by rw [k4, m3]) ▸ k1)) h2 (h3.count_any (Nat.le_refl n))
          refine ⟨_, φ, G', thaw_back h2 hthaw h1 (M true) φ, g1, g2, fun id hid => ?_, fun id hid => ?_, fun _ _ _ => rfl, fun _ _ _ h => h, fun _ _ _ _ => rfl⟩
          · simp [Fp.on] at hid
            simp [G', get_dropIds, hid]
          · simp [Fp.on] at hid
            simp [G', hid]
        · cases h
      · cases h
    · cases h
  · -- 2
    split at h
    · rename_i as is has
      split at h
      · rename_i r0 H' n' hcall
        cases h
        have hGH : G = H.get := funext fun id => hr.same id (.inl rfl)
        have hfr : Fresh φ n := fun id hid ver => hr.fresh id hid (.inl rfl) ver
        subst hGH
        let B : Nat → Prop := fun b => ∃ id o l, id ∈ is ∧ H.get id = some o ∧ φ id o.ver = some l ∧ l.block = b
        have hB : Among φ H.get H B is := fun id hid => ⟨rfl, fun o l ho hl => ⟨id, o, l, hid, ho, hl, rfl⟩⟩
        refine (hcf _ _ _ _ _ _ _ hcall (M.snap false B w) φ w vs (hr.wr.bare false _ _) hfr (rvl_thaw hr.wr has hB hv φ).2).mono ?_
        rintro v w' ⟨M', φ', h1, h2, h3, h4, h5⟩
        have hblk : ∀ b, b < w.heap.size → w'.heap[b]? = w.heap[b]? := fun b hb => h3.block b hb own_none
        have hnew : ∀ b, Own φ' H'.get b → w.heap.size ≤ b := fun b hb => (h3.own b hb).elim (fun h => absurd h own_none) id
        have hget : ∀ id o, (H' ++ dropIds H is).get id = some o → H'.get id = some o ∨ (H'.get id = none ∧ H.get id = some o ∧ id ∉ is) := by
          intro id o ho
          rw [Heap.get_append, get_dropIds] at ho
          cases hh : H'.get id with
          | some o' => rw [hh] at ho; simp at ho; exact .inl (by rw [ho])
          | none =>
            rw [hh] at ho
            simp at ho
            exact .inr ⟨rfl, ho.2, ho.1⟩
        have hold : ∀ id o l, H.get id = some o → φ' id o.ver = some l → φ id o.ver = some l := by
          intro id o l ho hl
          have := hr.wr.obj id o ho
          have hs : ∃ l2, φ id o.ver = some l2 := by
            cases this with
            | arr ver k xs l2 c T g1 => exact ⟨l2, g1⟩
            | map es clock l2 en g1 => exact ⟨l2, g1⟩
            | miter m since seen stepped l2 m' g1 => exact ⟨l2, g1⟩
          obtain ⟨l2, hl2⟩ := hs
          have := h3.places id o.ver l2 hl2
          rw [hl] at this; cases this; exact hl2
        have hownold : ∀ id o l, H.get id = some o → φ' id o.ver = some l → l.block < w.heap.size := fun id o l ho hl => own_lt hr.wr ⟨id, o, l, ho, hold id o l ho hl, rfl⟩
        have hle : M.le M' := (Mem.le_snap hr.wr false B).trans h3.mem
        have hlow : ∀ id o, H.get id = some o → id < n := by
          intro id o ho
          rcases Nat.lt_or_ge id n with h | h
          · exact h
          · have := hr.wr.obj id o ho
            cases this with
            | arr ver k xs l2 c T g1 => rw [hfr id h] at g1; cases g1
            | map es clock l2 en g1 => rw [hfr id h] at g1; cases g1
            | miter m since seen stepped l2 m' g1 => rw [hfr id h] at g1; cases g1
        have hown2 : ∀ b, Own φ' (H' ++ dropIds H is).get b → (Own φ' H'.get b) ∨ ∃ id o l, H.get id = some o ∧ id ∉ is ∧ φ id o.ver = some l ∧ l.block = b := by
          rintro b ⟨id, o, l, ho, hl, hb⟩
          rcases hget id o ho with h | ⟨_, h, hn⟩
          · exact .inl ⟨id, o, l, h, hl, hb⟩
          · exact .inr ⟨id, o, l, h, hn, hold id o l h hl, hb⟩
        refine ⟨M', φ', (H' ++ dropIds H is).get, h1, ⟨h2.mem, ?_, ?_, ?_⟩, ⟨hle, h3.places, h3.count, h3.os, h3.tape, h3.output, h3.size, fun b hb _ => hblk b hb, ?_, ?_⟩, fun _ _ => rfl, fun id hid => ?_, fun id ver hid => ?_, fun id ver hid _ => h4 id hid ver, fun id ver hid _ => h5 id ver hid (by simp [Heap.get])⟩
        · intro id o ho
          rcases hget id o ho with h | ⟨_, h, hn⟩
          · exact h2.obj id o h
          · refine (hr.wr.obj id o h).mono hle h3.places ?_ ?_
            · intro l hl; exact hblk _ (own_lt hr.wr ⟨id, o, l, h, hl, rfl⟩)
            · intro v hv hs
              rw [h5 id v (hlow id o h) (by simp [Heap.get])]; exact hv
        · intro i j x y l m hi hj hl hm he
          rcases hget i x hi with h | ⟨_, h, hn⟩ <;> rcases hget j y hj with k | ⟨_, k, kn⟩
          · exact h2.inj _ _ _ _ _ _ h k hl hm he
          · have a1 := hnew _ ⟨i, x, l, h, hl, rfl⟩
            have a2 := hownold _ _ _ k hm
            omega
          · have a1 := hnew _ ⟨j, y, m, k, hm, rfl⟩
            have a2 := hownold _ _ _ h hl
            omega
          · exact hr.wr.inj _ _ _ _ _ _ h k (hold _ _ _ h hl) (hold _ _ _ k hm) he
        · intro u a v hv hown
          rcases hown2 _ hown with h | ⟨id, o, l, k1, k2, k3, k4⟩
          · exact h2.sep u a v hv h
          · have hlt : a.block < w.heap.size := by rw [← k4]; exact own_lt hr.wr ⟨id, o, l, k1, k3, rfl⟩
            rcases h3.new u a v hv with g | g | g
            · unfold Mem.snap at g
              split at g
              · rename_i hc
                obtain ⟨id2, o2, l2, m1, m2, m3, m4⟩ := hc.2
                exact k2 (hr.wr.inj _ _ _ _ _ _ m2 k1 m3 k3 (by rw [m4, k4]) ▸ m1)
              · exact hr.wr.sep u a v g ⟨id, o, l, k1, k3, k4⟩
            · omega
            · exact own_none g
        · intro u a v hv
          rcases h3.new u a v hv with g | g | g
          · unfold Mem.snap at g
            split at g
            · rename_i hc
              obtain ⟨id2, o2, l2, m1, m2, m3, m4⟩ := hc.2
              exact .inr (.inr ⟨id2, o2, l2, m2, m3, m4⟩)
            · exact .inl g
          · exact .inr (.inl g)
          · exact absurd g own_none
        · intro b hb
          rcases hown2 _ hb with h | ⟨id, o, l, k1, k2, k3, k4⟩
          · exact .inr (hnew _ h)
          · exact .inl ⟨id, o, l, k1, k3, k4⟩
        · simp [Fp.on] at hid
        · simp [Fp.on] at hid
      · cases h
    · cases h
  · -- 1
    split at h
    · rename_i r0 H' n' hcall
      cases h
      have hGH : G = H.get := funext fun id => hr.same id (.inl rfl)
      have hfr : Fresh φ n := fun id hid ver => hr.fresh id hid (.inl rfl) ver
      subst hGH
      refine (hcf _ _ _ _ _ _ _ hcall M φ w vs hr.wr hfr hv).mono ?_
      rintro v w' ⟨M', φ', h1, h2, h3, h4, h5⟩
      exact ⟨M', φ', H'.get, h1, h2, h3, fun _ _ => rfl, fun id hid => by simp [Fp.on] at hid, fun id ver hid => by simp [Fp.on] at hid, fun id ver hid _ => h4 id hid ver, h5⟩
    · cases h

end
end Go.Vm
