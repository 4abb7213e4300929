/-
  append: what the evaluator says of it is what the model does.
-/
import Derived.Test.YtebfimcapoekjaaGreatVg
namespace Go.Vm

section
variable {P : Program} {M : Mem} {φ : Places} {G : Objs} {w : World} {H : Heap} {n : Nat}

theorem storeCells_row {l : Loc} {cur : Array Value} {T : TypeId} {k o : Nat} {m : List (List PV)} {d : Nat → Value} (hg : w.heap[l.block]? = some (.cells cur T (0, 0))) (hm : GridR M φ k m d)
    (ho : o * k + m.length * k ≤ cur.size) :
    (storeCells (cellOf l.block (o * k)) (((List.range (m.length * k)).map d).toArray).toList).run P w =
      .ok () (w.setRow l.block (cur.toList.take (o * k) ++ ((List.range (m.length * k)).map d) ++ cur.toList.drop (o * k + ((List.range (m.length * k)).map d).length)).toArray) := by
  have := run_storeCells_at P l.block (o * k) T ((List.range (m.length * k)).map d) 0 cur w hg (by simpa using ho) (range_one hm)
  simpa [cellOf] using this

/-- elements written over others, in the block -/
theorem objr_over {id ver k : Nat} {xs m : List (List PV)} {l : Loc} {cur : Array Value} {T : TypeId} {o : Nat} {d : Nat → Value} (h1 : φ id ver = some l) (h2 : l.k = k) (h3 : 0 < k) (h4 : ∀ v, ver < v → φ id v = none)
    (h5 : w.heap[l.block]? = some (.cells cur T (0, 0))) (h6 : l.tot * k ≤ cur.size) (h7 : l.base + xs.length ≤ l.tot) (h8 : ∀ i, i < xs.length → (xs.getD i []).length = k)
    (h9 : ∀ i j, i < xs.length → j < k → one (cur.getD ((l.base + i) * k + j) undef) = true) (h10 : ∀ i j, i < xs.length → j < k → Rv M φ ((xs.getD i []).getD j .any) (cur.getD ((l.base + i) * k + j) undef))
    (hm : GridR M φ k m d) (ho : o + m.length ≤ xs.length) {w' : World}
    (hw' : w' = w.setRow l.block (cur.toList.take ((l.base + o) * k) ++ ((List.range (m.length * k)).map d) ++ cur.toList.drop ((l.base + o) * k + ((List.range (m.length * k)).map d).length)).toArray) :
    ObjR M φ id w' (.arr ver k (overwrite xs o m)) := by
  subst hw'
  have hfit : (l.base + o) * k + m.length * k ≤ cur.size := by
    have : (l.base + o + m.length) * k ≤ l.tot * k := Nat.mul_le_mul_right k (by omega)
    rw [Nat.add_mul] at this; omega
  have hrow := fun i j (hj : j < k) => seg_row (k := k) (o := l.base + o) (m := m) (d := d) (cur := cur) hfit (l.base + i) j hj
  have hlen := over_length (xs := xs) (ys := m) (off := o) ho
  refine .arr ver k _ l _ T h1 h2 h3 h4 (heap_setRow _ _ _ _ _ _ h5) ?_ (by rw [hlen]; exact h7) ?_ ?_ ?_
  · simp; omega
  · intro i hi
    rw [hlen] at hi
    rw [over_getD ho]
    split
    · exact hm.1 _ (by omega)
    · exact h8 i hi
  · intro i j hi hj
    rw [hlen] at hi
    rw [hrow i j hj]
    split
    · have e : l.base + i - (l.base + o) = i - o := by omega
      rw [e]
      exact (hm.2 (i - o) j (by omega) hj).1
    · exact h9 i j hi hj
  · intro i j hi hj
    rw [hlen] at hi
    rw [hrow i j hj, over_getD ho]
    by_cases hc : o ≤ i ∧ i < o + m.length
    · rw [if_pos hc, if_pos (by omega)]
      have e : l.base + i - (l.base + o) = i - o := by omega
      rw [e]
      exact (hm.2 (i - o) j (by omega) hj).2
    · rw [if_neg hc, if_neg (by omega)]
      exact h10 i j hi hj

/-- a new row behind a growth -/
theorem post_grown {e : TypeId} {z : Value} {k cap s : Nat} {xs : List (List PV)} {c : Nat → Value} {old new : Array Value} {m : List (List PV)} {d : Nat → Value} {rd : List Nat} (hw : WR M φ G w)
    (hk : 0 < k) (hx : GridR M φ k xs c) (hy : GridR M φ k m d) (ho : old = ((List.range (xs.length * k)).map c).toArray) (hn : new = ((List.range (m.length * k)).map d).toArray) (hz : z.cells.size = k)
    (hs : s = xs.length + m.length) (hcap : s ≤ cap) (hfresh : ∀ v, φ n v = none) :
    Post M φ G n w ⟨.view n 0 k 0 s none, H.set n (.arr 0 k (xs ++ m)), n + 1, ⟨rd, [n], false⟩⟩ (.slice (some (cellOf w.heap.size 0)) s cap)
      ({ w with drawn := w.drawn + 1 }.alloc (.cells (old ++ new ++ Builtin.zeroCells z.cells (cap - s)) e)) := by
  refine Post.drew (w1 := { w with drawn := w.drawn + 1 }) rfl rfl rfl rfl ?_
  have hsz : cap * k ≤ (old ++ new ++ Builtin.zeroCells z.cells (cap - s)).size := by
    subst ho
    subst hn
    simp only [Array.size_append, zeroCells_size, hz, List.size_toArray, List.length_map, List.length_range]
    rw [← Nat.add_mul, ← hs, ← Nat.add_mul]
    exact Nat.mul_le_mul_right k (by omega)
  refine Post.new (w := { w with drawn := w.drawn + 1 }) (rd := rd) (l' := ⟨w.heap.size, 0, k, cap⟩) (hw.world rfl) rfl hfresh _ rfl (objr_new (w := { w with drawn := w.drawn + 1 }) hk hfresh (grid_add hx hy ho hn) hsz (by simp; omega) (rv_set hfresh _)) ?_
  exact .view n 0 k 0 s none ⟨w.heap.size, 0, k, cap⟩ _ cap (φ.set_at n 0 _) rfl hcap (fun c hc => by cases hc) (fun _ => by simp) (fun _ => by simp [cellOf]) (by simp) rfl

theorem append_sound {sT xT e ty : TypeId} {i : TypeInfo} {z : Value} {k : Nat} {p q : PV} {s x : Value} {m : List (List PV)} {rd : List Nat} {r : Res} (hu : P.underlying sT = some (.slice e)) (hi : P.info? e = some i)
    (hsize : i.size = k) (hz : i.zero = some z) (hzs : z.cells.size = k) (hb : i.bytes ≠ 0) (hk : 0 < k) (hx : ∃ e', P.underlying xT = some (.slice e'))
    (h : appendV k i.bytes p m rd H n = some r) (hr : Ready M φ G w H n r) (hp : Rv M φ p s) (hq : q = .nils ∧ m = [] ∨ elems H q = some (k, m, rd)) (hxv : Rv M φ q x) (hrd : ∀ id, id ∈ rd → id ∈ r.fp.rd ∨ id ∈ r.fp.wr) :
    ∃ v w', (Builtin.append_ #[sT, xT] ty #[s, x]).run P w = .ok v w' ∧ Post M φ G n w r v w' := by
  obtain ⟨xa, xcap, d, e1, e2, e3⟩ : ∃ xa xcap d, x = .slice xa m.length xcap ∧ (∀ w' : World, w'.heap = w.heap → (Builtin.firstCells k m.length x).run P w' = .ok ((List.range (m.length * k)).map d).toArray w') ∧ GridR M φ k m d := by
    rcases hq with ⟨rfl, rfl⟩ | hq
    · cases hxv
      exact ⟨none, 0, fun _ => undef, rfl, fun w' _ => by simp [Builtin.firstCells], fun i hi => by simp at hi, fun i j hi => by simp at hi⟩
    · obtain ⟨a, cap, c, g1, g2, g3⟩ := elems_sound (P := P) hr.wr hq (fun id hid => hr.same id (.inr (hrd id hid))) hxv
      exact ⟨some a, cap, c, g1, g2, g3⟩
  have hlen : ∀ w' : World, (Builtin.lenOf x).run P w' = .ok m.length w' := fun w' => by rw [e1]; rfl
  have hdsz : (((List.range (m.length * k)).map d).toArray).size = m.length * k := by simp
  unfold appendV at h
  split at h
  · -- nil
    cases hp
    split at h
    · rename_i hm
      have hm0 : m = [] := by simpa using hm
      subst hm0
      cases h
      refine ⟨_, w, append_fits_run (m := 0) hu hi hsize hx (hlen w) (e2 w rfl) (by simp) (by rfl), ?_⟩
      exact Post.pure hr.wr (by simpa using Rv.nils)
    · rename_i hm
      have hm0 : 0 < m.length := by cases m <;> simp_all
      split at h
      · rename_i hroom
        cases h
        obtain ⟨cap, hc1, hc2⟩ := append_grows_run (P := P) (w := w) (sT := sT) (xT := xT) (ty := ty) (base := none) (sLen := 0) (sCap := 0) (m := m.length) (old := #[]) hu hi hsize hz hb (by simpa using hroom) hx (hlen w) e2
          (fun w' _ => by simp [Builtin.firstCells]) (by omega)
        refine ⟨_, _, hc2, ?_⟩
        have hfresh : ∀ v, φ n v = none := fun v => hr.fresh n (Nat.le_refl _) (.inr (by simp)) v
        have := post_grown (e := e) (H := H) (rd := rd) (xs := []) (c := fun _ => undef) (old := #[]) (m := m) (s := 0 + m.length) (cap := cap) hr.wr hk ⟨fun i hi => by simp at hi, fun i j hi => by simp at hi⟩ e3 (by simp) rfl hzs (by simp) hc1 hfresh
        simpa using this
      · cases h
  · -- memory
    rename_i k' xs fl
    split at h
    · cases h
    · rename_i hkk
      obtain rfl : k = k' := by simpa using hkk
      obtain ⟨b, o, cap, c, f1, f2, f3, f4, f5⟩ := first_data (P := P) hr.wr hp
      subst f1
      split at h
      · rename_i hm
        have hm0 : m = [] := by simpa using hm
        subst hm0
        cases h
        refine ⟨_, w, append_fits_run (m := 0) hu hi hsize hx (hlen w) (e2 w rfl) (by omega) (by simp [storeCells]), ?_⟩
        exact Post.pure hr.wr (by simpa using hp)
      · rename_i hm
        have hm0 : 0 < m.length := by cases m <;> simp_all
        split at h
        · rename_i hroom
          cases h
          have hcap := f2 hroom.1
          subst hcap
          obtain ⟨cap', hc1, hc2⟩ := append_grows_run (P := P) (w := w) (sT := sT) (xT := xT) (ty := ty) (m := m.length) hu hi hsize hz hb hroom.2 hx (hlen w) e2 f4 (by omega)
          refine ⟨_, _, hc2, ?_⟩
          have hfresh : ∀ v, φ n v = none := fun v => hr.fresh n (Nat.le_refl _) (.inr (by simp)) v
          exact post_grown hr.wr hk f5 e3 rfl rfl hzs rfl hc1 hfresh
        · cases h
  · -- an object
    rename_i id ver k' off len cap
    split at h
    · cases h
    · rename_i hkk
      obtain rfl : k = k' := by simpa using hkk
      split at h
      · rename_i ver' k'' xs hH
        split at h
        · cases h
        · rename_i hcond
          have hv' : ver = ver' := by rcases Nat.decEq ver ver' with h | h; · exact absurd (.inl h) hcond
                                      · exact h
          have hk'' : k = k'' := by rcases Nat.decEq k k'' with h | h; · exact absurd (.inr (.inl h)) hcond
                                    · exact h
          have hlen' : off + len ≤ xs.length := by rcases Nat.decLe (off + len) xs.length with h | h; · exact absurd (.inr (.inr h)) hcond
                                                   · exact h
          subst hv'
          subst hk''
          -- where it lies
          have main : ∀ (hG : G id = some (.arr ver k xs)),
              ∃ v w', (Builtin.append_ #[sT, xT] ty #[s, x]).run P w = .ok v w' ∧ Post M φ G n w r v w' := by
            intro hG
            obtain ⟨a, cv, c, l, cur, T, g1, g2, g3, g4, g5, g6, g7, g8, g9, g10, g11, g12, g13, g14, g15, g16, g17, g18, g19⟩ := first_view (P := P) hr.wr hG hlen' hp
            subst g1
            have hbaseadd : cv ≠ 0 → a.add (len * k) = cellOf l.block ((l.base + (off + len)) * k) := by
              intro hne
              rw [g11 hne, cellOf_add, ← Nat.add_mul, Nat.add_assoc]
            -- in place, over what is known
            have inplace : len + m.length ≤ cv → off + len + m.length ≤ xs.length → r = ⟨.view id ver k off (len + m.length) cap, H.set id (.arr ver k (overwrite xs (off + len) m)), n, ⟨rd, [id], false⟩⟩ →
                ∃ v w', (Builtin.append_ #[sT, xT] ty #[.slice (some a) len cv, x]).run P w = .ok v w' ∧ Post M φ G n w r v w' := by
              intro hfit hin hreq
              subst hreq
              have hview : Rv M φ (.view id ver k off (len + m.length) cap) (.slice (some a) (len + m.length) cv) :=
                .view id ver k off (len + m.length) cap l a cv g4 g6 hfit g9 g10 g11 g12 g19
              have hfit2 : (l.base + (off + len)) * k + m.length * k ≤ cur.size := by
                have : (l.base + (off + len) + m.length) * k ≤ l.tot * k := Nat.mul_le_mul_right k (by omega)
                rw [Nat.add_mul] at this; omega
              by_cases hcv : cv = 0
              · have hm0 : m = [] := by cases m <;> simp_all
                subst hm0
                refine ⟨_, w, append_fits_run (m := 0) hu hi hsize hx (hlen w) (e2 w rfl) (by omega) (by simp [storeCells]), ?_⟩
                refine Post.turn (l := l) hr.wr hG rfl g4 ?_ rfl rfl rfl rfl (fun _ _ => rfl) hview
                have e : overwrite xs (off + len) [] = xs := by simp [overwrite]
                rw [e]
                exact hr.wr.obj id _ hG
              · have hst := storeCells_row (P := P) (w := w) g5 e3 hfit2
                rw [← hbaseadd hcv] at hst
                refine ⟨_, _, append_fits_run hu hi hsize hx (hlen w) (e2 w rfl) hfit hst, ?_⟩
                refine Post.turn (l := l) hr.wr hG rfl g4 ?_ rfl rfl rfl (size_setRow _ _ _) (fun b hb => heap_setRow_other _ _ _ _ hb) hview
                exact objr_over (o := off + len) g4 g6 g7 g13 g5 g14 g15 g16 g17 g18 e3 (by omega) rfl
            split at h
            · -- the capacity is known
              rename_i cc
              have hcc := g9 cc rfl
              split at h
              · rename_i hfit
                split at h
                · rename_i hin
                  cases h
                  exact inplace (by omega) (by omega) rfl
                · cases h
              · rename_i hfit
                split at h
                · rename_i hroom
                  cases h
                  obtain ⟨cap', hc1, hc2⟩ := append_grows_run (P := P) (w := w) (sT := sT) (xT := xT) (ty := ty) (m := m.length) hu hi hsize hz hb hroom hx (hlen w) e2 g2 (by omega)
                  refine ⟨_, _, hc2, ?_⟩
                  have hfresh : ∀ v, φ n v = none := fun v => hr.fresh n (Nat.le_refl _) (.inr (by simp)) v
                  have hlx : ((xs.drop off).take len).length = len := length_sub hlen'
                  exact post_grown hr.wr hk g3 e3 (by rw [hlx]) rfl hzs (by rw [hlx]) hc1 hfresh
                · cases h
            · -- it isn't
              have hcvt := g10 rfl
              split at h
              · rename_i hin
                cases h
                exact inplace (by omega) (by omega) rfl
              · rename_i hin
                split at h
                · rename_i hroom
                  cases h
                  have hm0 : 0 < m.length := by omega
                  have hlx : ((xs.drop off).take len).length = len := length_sub hlen'
                  by_cases hfit : len + m.length ≤ cv
                  · -- in place, beyond what is known
                    have hcv : cv ≠ 0 := by omega
                    have hfit2 : (l.base + (off + len)) * k + m.length * k ≤ cur.size := by
                      have : (l.base + (off + len) + m.length) * k ≤ l.tot * k := Nat.mul_le_mul_right k (by omega)
                      rw [Nat.add_mul] at this; omega
                    have hst := storeCells_row (P := P) (w := w) g5 e3 hfit2
                    rw [← hbaseadd hcv] at hst
                    refine ⟨_, _, append_fits_run hu hi hsize hx (hlen w) (e2 w rfl) hfit hst, ?_⟩
                    let l2 : Loc := ⟨l.block, l.base + off, k, l.tot⟩
                    have hnone : φ id (ver + 1) = none := g13 _ (by omega)
                    have hle := φ.le_set id (ver + 1) l2 hnone
                    have hobj : ObjR M (φ.set id (ver + 1) l2) id (w.setRow l.block (cur.toList.take ((l.base + (off + len)) * k) ++ ((List.range (m.length * k)).map d) ++ cur.toList.drop ((l.base + (off + len)) * k + ((List.range (m.length * k)).map d).length)).toArray)
                        (.arr (ver + 1) k ((xs.drop off).take len ++ m)) := by
                      have hrow := fun i j (hj : j < k) => seg_row (k := k) (o := l.base + (off + len)) (m := m) (d := d) (cur := cur) hfit2 (l.base + off + i) j hj
                      have hget : ∀ i, ((xs.drop off).take len ++ m).getD i [] = if i < len then xs.getD (off + i) [] else m.getD (i - len) [] := by
                        intro i
                        by_cases hi2 : i < len
                        · rw [if_pos hi2, ← getD_sub (xs := xs) (off := off) hi2]
                          simp only [List.getD_eq_getElem?_getD]
                          rw [List.getElem?_append_left (by rw [hlx]; exact hi2)]
                        · rw [if_neg hi2]
                          simp only [List.getD_eq_getElem?_getD]
                          rw [List.getElem?_append_right (by rw [hlx]; omega), hlx]
                      refine .arr (ver + 1) k _ l2 _ T (φ.set_at id (ver + 1) l2) rfl hk (fun v hv => by rw [φ.set_ver id (ver + 1) l2 id v (by omega)]; exact g13 v (by omega)) (heap_setRow _ _ _ _ _ _ g5) ?_ ?_ ?_ ?_ ?_
                      · simp [l2]; omega
                      · simp only [List.length_append, hlx, l2]; omega
                      · intro i hi2
                        simp only [List.length_append, hlx] at hi2
                        rw [hget i]
                        split
                        · exact g16 _ (by omega)
                        · exact e3.1 _ (by omega)
                      · intro i j hi2 hj
                        simp only [List.length_append, hlx] at hi2
                        simp only [l2]
                        rw [hrow i j hj]
                        split
                        · have e : l.base + off + i - (l.base + (off + len)) = i - len := by omega
                          rw [e]; exact (e3.2 (i - len) j (by omega) hj).1
                        · rw [Nat.add_assoc l.base off i]; exact g17 _ j (by omega) hj
                      · intro i j hi2 hj
                        simp only [List.length_append, hlx] at hi2
                        simp only [l2]
                        rw [hrow i j hj, hget i]
                        by_cases hi3 : i < len
                        · rw [if_pos hi3, if_neg (by omega), Nat.add_assoc l.base off i]
                          exact (g18 _ j (by omega) hj).mono (.refl M) hle
                        · rw [if_neg hi3, if_pos (by omega)]
                          have e : l.base + off + i - (l.base + (off + len)) = i - len := by omega
                          rw [e]; exact (e3.2 (i - len) j (by omega) hj).2.mono (.refl M) hle
                    obtain ⟨p1, p2⟩ := hr.wr.put (n := n) (n' := n) (o' := .arr (ver + 1) k ((xs.drop off).take len ++ m)) (l' := l2) (w' := w.setRow l.block (cur.toList.take ((l.base + (off + len)) * k) ++ ((List.range (m.length * k)).map d) ++ cur.toList.drop ((l.base + (off + len)) * k + ((List.range (m.length * k)).map d).length)).toArray) hle
                      (fun j v hj => φ.set_other id (ver + 1) l2 j v hj) (φ.set_at id (ver + 1) l2) hobj rfl rfl rfl (by rw [size_setRow]; omega) (fun b _ hb => heap_setRow_other _ _ _ _ hb) (.inr ⟨_, l, hG, g4, rfl⟩) (Nat.le_refl _)
                    refine ⟨M, φ.set id (ver + 1) l2, _, ?_, p1, p2, ?_, ?_, ?_, ?_, fun j ver' _ hno => φ.set_other id (ver + 1) l2 j ver' (fun e => by rw [e, hG] at hno; cases hno)⟩
                    · exact .view id (ver + 1) k 0 (len + m.length) none l2 _ cv (φ.set_at id (ver + 1) l2) rfl hfit (fun c hc => by cases hc) (fun _ => by simp only [l2]; omega) (fun _ => by simp only [l2, Nat.add_zero]; exact g11 hcv) (by simp only [l2]; omega) g19
                    · intro j hid
                      simp [Fp.on] at hid
                      subst hid
                      simp [Objs.put, Heap.get_set_eq]
                    · intro j hid
                      simp [Fp.on] at hid
                      simp [Objs.put, Ne.symm hid]
                    · intro j ver' hid
                      simp [Fp.on] at hid
                      exact φ.set_other id (ver + 1) l2 j ver' hid
                    · intro j ver' hjn hnone'
                      by_cases hji : j = id
                      · subst hji
                        by_cases hvv : ver' = ver + 1
                        · exfalso
                          have := hr.fresh j hjn (.inr (by simp)) ver
                          rw [g4] at this; cases this
                        · rw [φ.set_ver j (ver + 1) l2 j ver' hvv]; exact hnone'
                      · rw [φ.set_other id (ver + 1) l2 j ver' hji]; exact hnone'
                  · -- in a new block
                    obtain ⟨cap', hc1, hc2⟩ := append_grows_run (P := P) (w := w) (sT := sT) (xT := xT) (ty := ty) (m := m.length) hu hi hsize hz hb hroom hx (hlen w) e2 g2 (by omega)
                    refine ⟨_, _, hc2, ?_⟩
                    refine Post.drew (w1 := { w with drawn := w.drawn + 1 }) rfl rfl rfl rfl ?_
                    have hwr := hr.wr.world (w' := { w with drawn := w.drawn + 1 }) rfl
                    let l2 : Loc := ⟨w.heap.size, 0, k, cap'⟩
                    have hnone : φ id (ver + 1) = none := g13 _ (by omega)
                    have hle := φ.le_set id (ver + 1) l2 hnone
                    have hgrid := grid_add (rest := Builtin.zeroCells z.cells (cap' - (len + m.length))) g3 e3 (by rw [hlx]) rfl
                    have hsz : cap' * k ≤ (((List.range (len * k)).map c).toArray ++ ((List.range (m.length * k)).map d).toArray ++ Builtin.zeroCells z.cells (cap' - (len + m.length))).size := by
                      simp only [Array.size_append, zeroCells_size, hzs, List.size_toArray, List.length_map, List.length_range]
                      rw [← Nat.add_mul, ← Nat.add_mul]
                      exact Nat.mul_le_mul_right k (by omega)
                    have hobj : ObjR M (φ.set id (ver + 1) l2) id ({ w with drawn := w.drawn + 1 }.alloc (.cells (((List.range (len * k)).map c).toArray ++ ((List.range (m.length * k)).map d).toArray ++ Builtin.zeroCells z.cells (cap' - (len + m.length))) e))
                        (.arr (ver + 1) k ((xs.drop off).take len ++ m)) := by
                      refine .arr (ver + 1) k _ l2 _ e (φ.set_at id (ver + 1) l2) rfl hk (fun v hv => by rw [φ.set_ver id (ver + 1) l2 id v (by omega)]; exact g13 v (by omega)) (heap_new _ _) hsz ?_ hgrid.1 ?_ ?_
                      · simp only [List.length_append, hlx, l2]; omega
                      · intro i j hi2 hj; simp only [l2, Nat.zero_add]; exact (hgrid.2 i j hi2 hj).1
                      · intro i j hi2 hj; simp only [l2, Nat.zero_add]; exact (hgrid.2 i j hi2 hj).2.mono (.refl M) hle
                    obtain ⟨p1, p2⟩ := hwr.put (n := n) (n' := n) (o' := .arr (ver + 1) k ((xs.drop off).take len ++ m)) (l' := l2) (w' := { w with drawn := w.drawn + 1 }.alloc (.cells (((List.range (len * k)).map c).toArray ++ ((List.range (m.length * k)).map d).toArray ++ Builtin.zeroCells z.cells (cap' - (len + m.length))) e)) hle
                      (fun j v hj => φ.set_other id (ver + 1) l2 j v hj) (φ.set_at id (ver + 1) l2) hobj rfl rfl rfl (by simp) (fun b hb _ => RowKit.Below.heap_alloc _ _ b hb) (.inl (Nat.le_refl _)) (Nat.le_refl _)
                    refine ⟨M, φ.set id (ver + 1) l2, _, ?_, p1, p2, ?_, ?_, ?_, ?_, fun j ver' _ hno => φ.set_other id (ver + 1) l2 j ver' (fun e => by rw [e, hG] at hno; cases hno)⟩
                    · exact .view id (ver + 1) k 0 (len + m.length) none l2 _ cap' (φ.set_at id (ver + 1) l2) rfl hc1 (fun c hc => by cases hc) (fun _ => by simp [l2]) (fun _ => by simp [l2, cellOf]) (by simp [l2]) rfl
                    · intro j hid
                      simp [Fp.on] at hid
                      subst hid
                      simp [Objs.put, Heap.get_set_eq]
                    · intro j hid
                      simp [Fp.on] at hid
                      simp [Objs.put, Ne.symm hid]
                    · intro j ver' hid
                      simp [Fp.on] at hid
                      exact φ.set_other id (ver + 1) l2 j ver' hid
                    · intro j ver' hjn hnone'
                      by_cases hji : j = id
                      · subst hji
                        exfalso
                        have := hr.fresh j hjn (.inr (by simp)) ver
                        rw [g4] at this; cases this
                      · rw [φ.set_other id (ver + 1) l2 j ver' hji]; exact hnone'
                · cases h
          -- it is among what the operation looks at
          refine main ?_
          rw [← hH]
          apply hr.same
          split at h
          · split at h
            · split at h
              · cases h; exact .inr (.inr (by simp))
              · cases h
            · split at h
              · cases h; exact .inr (.inl (by simp))
              · cases h
          · split at h
            · cases h; exact .inr (.inr (by simp))
            · split at h
              · cases h; exact .inr (.inr (by simp))
              · cases h
      · cases h
  · cases h

theorem clear_sound {ρ : Src → PV} {t e ty : TypeId} {i : TypeInfo} {z : Value} {k : Nat} {zero : List PV} {x : Src} {vx : Value} {r : Res} {cf : CallF} (h : evalOp cf (.clear k zero x) ρ H n = some r) (hr : Ready M φ G w H n r)
    (hu : P.underlying t = some (.slice e)) (hi : P.info? e = some i) (hz : i.zero = some z) (hzr : AggR M φ zero z.cells) (hx : Rv M φ (ρ x) vx) :
    ∃ v w', (Builtin.clear_ #[t] ty #[vx]).run P w = .ok v w' ∧ Post M φ G n w r v w' := by
  have htup : Rv M φ (.tup []) (.tuple #[]) := .tup [] #[] rfl (fun j hj => by simp at hj)
  simp only [evalOp] at h
  split at h
  · rename_i hρ
    rw [hρ] at hx
    cases hx
    cases h
    exact ⟨.tuple #[], w, by simp [Builtin.clear_, run_underlying' hu], Post.pure (rd := []) hr.wr htup⟩
  · rename_i id ver k' off len cap hρ
    rw [hρ] at hx
    split at h
    · rename_i ver' k'' xs hH
      split at h
      · rename_i hc
        obtain ⟨rfl, rfl, rfl, hlen, hzl⟩ := hc
        cases h
        have hG : G id = some (.arr ver k xs) := by rw [hr.same id (.inr (.inr (by simp))), hH]
        obtain ⟨a, cv, c, l, cur, T, g1, g2, g3, g4, g5, g6, g7, g8, g9, g10, g11, g12, g13, g14, g15, g16, g17, g18, g19⟩ := first_view (P := P) hr.wr hG hlen hx
        subst g1
        by_cases hl0 : len = 0
        · subst hl0
          refine ⟨.tuple #[], w, by simp [Builtin.clear_, run_underlying' hu], ?_⟩
          refine Post.turn (l := l) hr.wr hG rfl g4 ?_ rfl rfl rfl rfl (fun _ _ => rfl) htup
          have e : overwrite xs off (List.replicate 0 zero) = xs := by simp [overwrite]
          rw [e]
          exact hr.wr.obj id _ hG
        · have hcv : cv ≠ 0 := by omega
          have hgrid := zero_grid (M := M) (φ := φ) g7 hzr hzl len
          have hfit : (l.base + off) * k + (List.replicate len zero).length * k ≤ cur.size := by
            have : (l.base + off + len) * k ≤ l.tot * k := Nat.mul_le_mul_right k (by omega)
            rw [Nat.add_mul] at this
            simp only [List.length_replicate]; omega
          have hst := storeCells_row (P := P) (w := w) g5 hgrid hfit
          rw [← g11 hcv] at hst
          have hzs : z.cells.size = k := by rw [hzr.1, hzl]
          have hcells : (Builtin.zeroCells z.cells len).toList = (((List.range ((List.replicate len zero).length * k)).map fun x => ((Array.range (len * k)).map (fun x => z.cells[x % z.cells.size]!)).getD x undef).toArray).toList := by
            apply List.ext_getElem
            · simp [Builtin.zeroCells, hzs]
            · intro j h1 h2
              simp only [List.length_map, List.length_range, List.length_replicate] at h2
              simp only [Builtin.zeroCells, Array.getElem_toList, Array.getElem_map, Array.getElem_range, List.getElem_map, List.getElem_range]
              rw [range_map_getD (α := Nat) _ _ _ h2]
          rw [← hcells] at hst
          have key : ∀ W, (storeCells a (Builtin.zeroCells z.cells len).toList).run P w = .ok () W → (Builtin.clear_ #[t] ty #[.slice (some a) len cv]).run P w = .ok (.tuple #[]) W := by
            intro W hW
            obtain ⟨m, rfl⟩ : ∃ m, len = m + 1 := ⟨len - 1, by omega⟩
            simp [Builtin.clear_, run_underlying' hu, run_zero' hi hz, hW]
          refine ⟨.tuple #[], _, key _ hst, ?_⟩
          refine Post.turn (l := l) hr.wr hG rfl g4 ?_ rfl rfl rfl (size_setRow _ _ _) (fun b hb => heap_setRow_other _ _ _ _ hb) htup
          exact objr_over (o := off) g4 g6 g7 g13 g5 g14 g15 g16 g17 g18 hgrid (by simpa using hlen) rfl
      · cases h
    · cases h
  · cases h

end
end Go.Vm
