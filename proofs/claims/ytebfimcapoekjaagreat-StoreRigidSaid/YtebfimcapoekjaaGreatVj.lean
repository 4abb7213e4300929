/-
  CALLS: what is handed over stands as memory; what comes back too.
-/
import Derived.Test.YtebfimcapoekjaaGreatVi
namespace Go.Vm

open Classical in
/-- what the blocks B hold now, as memory -/
noncomputable def Mem.snap (M : Mem) (t : Bool) (B : Nat → Prop) (w : World) : Mem := fun u a => if u = t ∧ B a.block then w.cell? a else M u a

section
variable {M : Mem} {φ : Places} {G : Objs} {w : World}

theorem Mem.le_snap (hw : WR M φ G w) (t : Bool) (B : Nat → Prop) : M.le (M.snap t B w) := by
  intro u a v hv
  unfold Mem.snap
  split
  · exact hw.mem u a v hv
  · exact hv

theorem Mem.snap_at (M : Mem) {t : Bool} {B : Nat → Prop} {w : World} {b o : Nat} (h : B b) : M.snap t B w t (cellOf b o) = w.cell? (cellOf b o) := by
  unfold Mem.snap
  rw [if_pos ⟨rfl, h⟩]

/-- of these objects the blocks are among B -/
def Among (φ : Places) (G : Objs) (H : Heap) (B : Nat → Prop) (is : List Nat) : Prop := ∀ id, id ∈ is → G id = H.get id ∧ ∀ o l, G id = some o → φ id o.ver = some l → B l.block

theorem Among.left {H : Heap} {B : Nat → Prop} {is js : List Nat} (h : Among φ G H B (is ++ js)) : Among φ G H B is := fun id hid => h id (by simp [hid])
theorem Among.right {H : Heap} {B : Nat → Prop} {is js : List Nat} (h : Among φ G H B (is ++ js)) : Among φ G H B js := fun id hid => h id (by simp [hid])

theorem flat_list {t : Bool} {l : List PV} (h : l.all flat = true) (vs : Nat → Value) (hv : ∀ j, j < l.length → Rv M φ (l.getD j .any) (vs j)) : ∀ j, j < l.length → Cl t (l.getD j .any) := by
  intro j hj
  have h1 := cl_of_flat (List.all_eq_true.1 h _ (getD_mem hj)) (hv j hj)
  cases t with
  | false => exact h1
  | true => exact h1.weaken

theorem mem_getD {l : List PV} {c : PV} (hc : c ∈ l) : ∃ j, j < l.length ∧ l.getD j .any = c := by
  obtain ⟨j, hj, rfl⟩ := List.getElem_of_mem hc
  exact ⟨j, hj, by simp [List.getD_eq_getElem?_getD, hj]⟩

theorem mem_getD2 {l : List (List PV)} {c : List PV} (hc : c ∈ l) : ∃ j, j < l.length ∧ l.getD j [] = c := by
  obtain ⟨j, hj, rfl⟩ := List.getElem_of_mem hc
  exact ⟨j, hj, by simp [List.getD_eq_getElem?_getD, hj]⟩

theorem thaw_sound (hw : WR M φ G w) (t : Bool) (H : Heap) (B : Nat → Prop) : ∀ d : Nat,
    (∀ (p q : PV) (is : List Nat) (v : Value), thaw t H d p = some (q, is) → Among φ G H B is → Rv M φ p v → Rv (M.snap t B w) φ q v ∧ Cl t q) ∧
    (∀ (l ys : List PV) (is : List Nat) (vs : Nat → Value), thawL t H d l = some (ys, is) → Among φ G H B is → (∀ j, j < l.length → Rv M φ (l.getD j .any) (vs j)) →
      ys.length = l.length ∧ ∀ j, j < ys.length → Rv (M.snap t B w) φ (ys.getD j .any) (vs j) ∧ Cl t (ys.getD j .any)) ∧
    (∀ (l ys : List (List PV)) (is : List Nat) (vs : Nat → Nat → Value), thawLL t H d l = some (ys, is) → Among φ G H B is → (∀ i j, i < l.length → j < (l.getD i []).length → Rv M φ ((l.getD i []).getD j .any) (vs i j)) →
      ys.length = l.length ∧ ∀ i, i < ys.length → (ys.getD i []).length = (l.getD i []).length ∧ ∀ j, j < (ys.getD i []).length → Rv (M.snap t B w) φ ((ys.getD i []).getD j .any) (vs i j) ∧ Cl t ((ys.getD i []).getD j .any)) := by
  have hle := M.le_snap hw t B
  intro d
  induction d with
  | zero => exact ⟨fun p q is v h => by simp [thaw] at h, fun l ys is vs h => by simp [thawL] at h, fun l ys is vs h => by simp [thawLL] at h⟩
  | succ d ih =>
    obtain ⟨ih1, ih2, ih3⟩ := ih
    refine ⟨?_, ?_, ?_⟩
    · intro p q is v h hB hv
      simp only [thaw] at h
      cases hv <;> simp only at h <;> first
        | (cases h; exact ⟨by constructor, by constructor⟩; done)
        | skip
      case ptr id ver k i off l hl hk =>
        split at h
        · rename_i ver' k' xs hH
          split at h
          · rename_i hc
            obtain ⟨rfl, rfl, hi⟩ := hc
            split at h
            · rename_i ys js hys
              cases h
              obtain ⟨hG, hBl⟩ := hB id (by simp)
              rw [hH] at hG
              have hobj := hw.obj id _ hG
              have hBl := hBl _ _ hG hl
              cases hobj with
              | arr _ _ _ l' c T h1 h2 h3 h4 h5 h6 h7 h8 h9 h10 =>
                obtain rfl : l = l' := Option.some.inj (hl.symm.trans h1)
                obtain ⟨f1, f2⟩ := ih2 (xs.getD i []) ys js (fun j => c.getD ((l.base + i) * k + j) undef) hys (fun j hj => hB j (by simp [hj])) (fun j hj => h10 i j hi (by rw [← h8 i hi]; exact hj))
                have hk' : ys.length = k := by rw [f1]; exact h8 i hi
                refine ⟨.dp t ys off l.block ((l.base + i) * k) (fun j => c.getD ((l.base + i) * k + j) undef) ?_ ?_ ?_ (fun j hj => (f2 j hj).1), .dp t t ys off (fun e => e) ?_⟩
                · intro x hx; obtain ⟨j, hj, rfl⟩ := mem_getD hx; exact (f2 j hj).2
                · intro j hj
                  rw [Mem.snap_at M hBl]
                  have hlt := arr_mul_lt (k := k) (j := j) hi h7 (by omega)
                  have hlt' : (l.base + i) * k + j < c.size := by omega
                  simp [World.cell?, cellOf, h5, hlt', Array.getD]
                · intro j hj; exact h9 i j hi (by omega)
                · intro x hx; obtain ⟨j, hj, rfl⟩ := mem_getD hx; exact (f2 j hj).2
            · cases h
          · cases h
        · cases h
      case dp u cs off b o vs h0 h1 h2 h3 =>
        split at h
        · rename_i hc
          cases h
          refine ⟨Rv.mono hle (.refl φ) (.dp u cs off b o vs h0 h1 h2 h3), .dp t u cs off (fun e => ?_) h0⟩
          subst e; simpa using hc
        · cases h
      case data k xs fl b o cap vs h0 h1 h2 h3 h4 h5 h6 =>
        split at h
        · rename_i hc
          cases h
          refine ⟨Rv.mono hle (.refl φ) (.data k xs fl b o cap vs h0 h1 h2 h3 h4 h5 h6), .data t k xs fl (fun e => ?_) h0⟩
          rw [e] at hc; simpa using hc
        · cases h
      case view id ver k off len cap l a cv g1 g2 g3 g4 g5 g6 g7 g8 =>
        split at h
        · rename_i ver' k' xs hH
          split at h
          · rename_i hc
            obtain ⟨rfl, rfl, hlen⟩ := hc
            split at h
            · rename_i ys js hys
              cases h
              obtain ⟨hG, hBl⟩ := hB id (by simp)
              rw [hH] at hG
              have hobj := hw.obj id _ hG
              have hBl := hBl _ _ hG g1
              cases hobj with
              | arr _ _ _ l' c T h1 h2 h3 h4 h5 h6 h7 h8 h9 h10 =>
                obtain rfl : l = l' := Option.some.inj (g1.symm.trans h1)
                have hls := length_sub hlen
                obtain ⟨f1, f2⟩ := ih3 ((xs.drop off).take len) ys js (fun i j => c.getD ((l.base + (off + i)) * k + j) undef) hys (fun j hj => hB j (by simp [hj])) (fun i j hi hj => by
                  rw [hls] at hi
                  rw [getD_sub hi] at hj ⊢
                  exact h10 _ j (by omega) (by rw [← h8 _ (by omega : off + i < xs.length)]; exact hj))
                have hyl : ys.length = len := by rw [f1, hls]
                have hk' : ∀ i, i < len → (ys.getD i []).length = k := by
                  intro i hi
                  rw [(f2 i (by omega)).1, getD_sub hi]; exact h8 _ (by omega)
                have hcl : ∀ x ∈ ys, ∀ c ∈ x, Cl t c := by
                  intro x hx c hc
                  obtain ⟨i, hi, rfl⟩ := mem_getD2 hx
                  obtain ⟨j, hj, rfl⟩ := mem_getD hc
                  exact ((f2 i hi).2 j hj).2
                have hidx : ∀ i j, (l.base + off) * k + (i * k + j) = (l.base + (off + i)) * k + j := by
                  intro i j; rw [← Nat.add_assoc, ← Nat.add_mul, Nat.add_assoc l.base]
                have hfl : ∀ fl : Fl, fl = (if t = true then Fl.tmp else if cap = some len then Fl.full else Fl.part) → fl.isTmp = t := by
                  intro fl e; subst e; cases t <;> by_cases hcap : cap = some len <;> simp [hcap, Fl.isTmp]
                have hfull : ∀ fl : Fl, fl = (if t = true then Fl.tmp else if cap = some len then Fl.full else Fl.part) → fl = .full → cv = len := by
                  intro fl e e2
                  subst e
                  cases t with
                  | true => simp at e2
                  | false =>
                    simp only [Bool.false_eq_true, if_false] at e2
                    split at e2
                    · rename_i hcap; exact g4 len hcap
                    · cases e2
                generalize hflg : (if t = true then Fl.tmp else if cap = some len then Fl.full else Fl.part) = fl at *
                have ht := hfl fl rfl
                refine ⟨?_, .data t k ys fl (fun e => by rw [ht] at e; exact e) (by rw [ht]; exact hcl)⟩
                have := Rv.data (M := M.snap t B w) (φ := φ) k ys fl a.block a.off cv (fun i j => c.getD ((l.base + (off + i)) * k + j) undef) (by rw [ht]; exact hcl) (by omega) (fun e => by rw [hyl]; exact hfull fl rfl e)
                  (fun i hi => hk' i (by omega)) ?_ (fun i j hi hj => h9 _ j (by omega) hj) (fun i j hi hj => ((f2 i hi).2 j (by rw [hk' i (by omega)]; exact hj)).1)
                · rw [hyl, ← cellOf_eta g8] at this; exact this
                · intro i j hi hj
                  have hcv : cv ≠ 0 := by omega
                  have ha := g6 hcv
                  have e1 : a.block = l.block := by rw [ha]; rfl
                  have e2 : a.off = (l.base + off) * k := by rw [ha]; rfl
                  rw [ht, e1, e2, hidx, Mem.snap_at M hBl]
                  have hlt := arr_mul_lt (i := off + i) (k := k) (j := j) (by omega : off + i < xs.length) h7 hj
                  have hlt' : (l.base + (off + i)) * k + j < c.size := by omega
                  simp [World.cell?, cellOf, h5, hlt', Array.getD]
            · cases h
          · cases h
        · cases h
      case map id l hl =>
        split at h
        · cases h; exact ⟨.any _, .any _⟩
        · cases h
      case func f first caps fs cs h1 h2 h3 h4 =>
        split at h
        · rename_i a is1 b js1 ha hb
          cases h
          obtain ⟨e1, e2⟩ := ih2 first a is1 (fun j => fs.getD j undef) ha hB.left h3
          obtain ⟨e3, e4⟩ := ih2 caps b js1 (fun j => cs.getD j undef) hb hB.right h4
          refine ⟨.func f a b fs cs (by omega) (by omega) (fun j hj => (e2 j hj).1) (fun j hj => (e4 j hj).1), .func t f a b ?_ ?_⟩
          · intro x hx; obtain ⟨j, hj, rfl⟩ := mem_getD hx; exact (e2 j hj).2
          · intro x hx; obtain ⟨j, hj, rfl⟩ := mem_getD hx; exact (e4 j hj).2
        · cases h
      case iface ty p v hp =>
        split at h
        · rename_i x js hx
          cases h
          obtain ⟨e1, e2⟩ := ih1 p x is v hx hB hp
          exact ⟨.iface ty x v e1, .iface t ty x e2⟩
        · cases h
      case agg cs vs h1 h2 h3 =>
        split at h
        · rename_i ys js hys
          cases h
          obtain ⟨e1, e2⟩ := ih2 cs ys is (fun j => vs.getD j undef) hys hB h3
          refine ⟨.agg ys vs (by omega) (fun j hj => h2 j (by omega)) (fun j hj => (e2 j hj).1), .agg t ys ?_⟩
          intro x hx; obtain ⟨j, hj, rfl⟩ := mem_getD hx; exact (e2 j hj).2
        · cases h
      case tup cs vs h1 h2 =>
        split at h
        · rename_i ys js hys
          cases h
          obtain ⟨e1, e2⟩ := ih2 cs ys is (fun j => vs.getD j undef) hys hB h2
          refine ⟨.tup ys vs (by omega) (fun j hj => (e2 j hj).1), .tup t ys ?_⟩
          intro x hx; obtain ⟨j, hj, rfl⟩ := mem_getD hx; exact (e2 j hj).2
        · cases h
    · intro l ys is vs h hB hv
      simp only [thawL] at h
      split at h
      · rename_i hf
        cases h
        exact ⟨rfl, fun j hj => ⟨(hv j hj).mono hle (.refl φ), flat_list hf vs hv j hj⟩⟩
      · rename_i hnf
        split at h
        · cases h; exact ⟨rfl, fun j hj => by simp at hj⟩
        · rename_i p r
          split at h
          · rename_i x is1 xs js1 hx hxs
            cases h
            obtain ⟨e1, e2⟩ := ih1 p x is1 (vs 0) hx hB.left (by simpa using hv 0 (by simp))
            obtain ⟨e3, e4⟩ := ih2 r xs js1 (fun j => vs (j + 1)) hxs hB.right (fun j hj => by simpa using hv (j + 1) (by simpa using hj))
            refine ⟨by simp [e3], fun j hj => ?_⟩
            cases j with
            | zero => simpa using ⟨e1, e2⟩
            | succ j => simpa using e4 j (by simpa using hj)
          · cases h
    · intro l ys is vs h hB hv
      simp only [thawLL] at h
      split at h
      · rename_i hf
        cases h
        refine ⟨rfl, fun i hi => ⟨rfl, fun j hj => ⟨(hv i j hi hj).mono hle (.refl φ), ?_⟩⟩⟩
        exact flat_list (List.all_eq_true.1 hf _ (getD_mem hi)) (vs i) (fun j hj => hv i j hi hj) j hj
      · rename_i hnf
        split at h
        · cases h; exact ⟨rfl, fun i hi => by simp at hi⟩
        · rename_i p r
          split at h
          · rename_i x is1 xs js1 hx hxs
            cases h
            obtain ⟨e1, e2⟩ := ih2 p x is1 (vs 0) hx hB.left (fun j hj => by simpa using hv 0 j (by simp) (by simpa using hj))
            obtain ⟨e3, e4⟩ := ih3 r xs js1 (fun i => vs (i + 1)) hxs hB.right (fun i j hi hj => by simpa using hv (i + 1) j (by simpa using hi) (by simpa using hj))
            refine ⟨by simp [e3], fun i hi => ?_⟩
            cases i with
            | zero => simpa using ⟨e1, e2⟩
            | succ i => simpa using e4 i (by simpa using hi)
          · cases h

end
end Go.Vm
