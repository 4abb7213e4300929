/-
  append, copy: what the evaluator says of them is what the model does.
-/
import Derived.Test.YtebfimcapoekjaaGreatVf
namespace Go.Vm

theorem Post.drew {M : Mem} {φ : Places} {G : Objs} {n : Nat} {w w1 w' : World} {r : Res} {v : Value} (hh : w1.heap = w.heap) (ho : w1.os = w.os) (ht : w1.tape = w.tape) (hp : w1.output = w.output)
    (h : Post M φ G n w1 r v w') : Post M φ G n w r v w' := by
  obtain ⟨M', φ', G', h1, h2, h3, h4⟩ := h
  refine ⟨M', φ', G', h1, h2, ⟨h3.mem, h3.places, h3.count, h3.os.trans ho, h3.tape.trans ht, h3.output.trans hp, by rw [← hh]; exact h3.size, ?_, ?_, ?_⟩, h4⟩
  · intro b hb hn; rw [← hh]; exact h3.block b (by rw [hh]; exact hb) hn
  · intro t a v hv; rw [← hh]; exact h3.new t a v hv
  · intro b hb; rw [← hh]; exact h3.own b hb

theorem growBy_le (m : Nat) : ∀ (r c : Nat), 256 ≤ c → c ≤ 2 * m → Builtin.growBy m r c ≤ 2 * m
  | 0, c, _, h => h
  | r + 1, c, h1, h2 => by
    simp only [Builtin.growBy]
    split
    · exact h2
    · exact growBy_le m r _ (by omega) (by omega)

theorem nextcap_le {need cap : Nat} (h : cap < need) : Builtin.nextslicecap need cap ≤ 2 * need := by
  unfold Builtin.nextslicecap
  split
  · omega
  · split
    · omega
    · exact growBy_le need 4 cap (by omega) (by omega)

section
variable {P : Program} {M : Mem} {φ : Places} {G : Objs} {w : World} {H : Heap} {n : Nat}

theorem getD_sub {xs : List (List PV)} {off len i : Nat} (hi : i < len) : ((xs.drop off).take len).getD i [] = xs.getD (off + i) [] := by
  simp [List.getD_eq_getElem?_getD, hi, List.getElem?_drop]

theorem length_sub {xs : List (List PV)} {off len : Nat} (h : off + len ≤ xs.length) : ((xs.drop off).take len).length = len := by simp; omega

/-- a slice's elements, read -/
theorem first_data {k : Nat} {xs : List (List PV)} {fl : Fl} {x : Value} (hw : WR M φ G w) (h : Rv M φ (.data k xs fl) x) :
    ∃ b o cap c, x = .slice (some (cellOf b o)) xs.length cap ∧ (fl = .full → cap = xs.length) ∧ xs.length ≤ cap ∧
      (∀ w' : World, w'.heap = w.heap → (Builtin.firstCells k xs.length x).run P w' = .ok ((List.range (xs.length * k)).map c).toArray w') ∧ GridR M φ k xs c := by
  cases h with
  | data _ _ _ b o cap vs h0 h1 h2 h3 h4 h5 h6 =>
    refine ⟨b, o, cap, fun t => vs (t / k) (t % k), rfl, h2, h1, ?_, h3, ?_⟩
    · intro w' hw'
      simp only [Builtin.firstCells]
      refine run_loadCells w' _ _ _ (fun t ht => ?_)
      have hk : 0 < k := by rcases Nat.eq_zero_or_pos k with h | h; · subst h; simp at ht
                            · exact h
      rw [cellOf_add]
      have hi : t / k < xs.length := Nat.div_lt_of_lt_mul (by rw [Nat.mul_comm]; exact ht)
      have hj : t % k < k := Nat.mod_lt _ hk
      have := (hw.world hw').mem _ _ _ (h4 (t / k) (t % k) hi hj)
      rw [Nat.mul_comm (t / k) k, Nat.div_add_mod] at this
      exact this
    · intro i j hi hj
      have hk : 0 < k := by omega
      have e1 : (i * k + j) / k = i := by rw [Nat.mul_comm, Nat.mul_add_div hk, Nat.div_eq_of_lt hj]; omega
      have e2 : (i * k + j) % k = j := by rw [Nat.mul_comm, Nat.mul_add_mod, Nat.mod_eq_of_lt hj]
      simp only [e1, e2]
      exact ⟨h5 i j hi hj, h6 i j hi hj⟩

theorem first_view {id ver k off len : Nat} {cap : Option Nat} {xs : List (List PV)} {x : Value} (hw : WR M φ G w) (hG : G id = some (.arr ver k xs)) (hlen : off + len ≤ xs.length)
    (h : Rv M φ (.view id ver k off len cap) x) :
    ∃ a cv c l cur T, x = .slice (some a) len cv ∧ (∀ w' : World, w'.heap = w.heap → (Builtin.firstCells k len x).run P w' = .ok ((List.range (len * k)).map c).toArray w') ∧ GridR M φ k ((xs.drop off).take len) c ∧
      φ id ver = some l ∧ w.heap[l.block]? = some (.cells cur T (0, 0)) ∧ l.k = k ∧ 0 < k ∧ len ≤ cv ∧ (∀ c, cap = some c → cv = c) ∧ (cap = none → cv = l.tot - (l.base + off)) ∧
      (cv ≠ 0 → a = cellOf l.block ((l.base + off) * k)) ∧ l.base + off + cv ≤ l.tot ∧ (∀ v, ver < v → φ id v = none) ∧ l.tot * k ≤ cur.size ∧ l.base + xs.length ≤ l.tot ∧
      (∀ i, i < xs.length → (xs.getD i []).length = k) ∧
      (∀ i j, i < xs.length → j < k → one (cur.getD ((l.base + i) * k + j) undef) = true) ∧
      (∀ i j, i < xs.length → j < k → Rv M φ ((xs.getD i []).getD j .any) (cur.getD ((l.base + i) * k + j) undef)) ∧ a.spot = none := by
  cases h with
  | view _ _ _ _ _ _ l a cv h1 h2 h3 h4 h5 h6 h7 hsp =>
    have hobj := hw.obj id _ hG
    cases hobj with
    | arr _ _ _ l' cur T g1 g2 g3 g4 g5 g6 g7 g8 g9 g10 =>
      obtain rfl : l = l' := Option.some.inj (h1.symm.trans g1)
      have hidx : ∀ i j, (l.base + off) * k + (i * k + j) = (l.base + (off + i)) * k + j := by
        intro i j; rw [← Nat.add_assoc, ← Nat.add_mul, Nat.add_assoc l.base]
      refine ⟨a, cv, fun t => cur.getD ((l.base + off) * k + t) undef, l, cur, T, rfl, ?_, ?_, h1, g5, h2, g3, h3, h4, h5, h6, h7, g4, g6, g7, g8, g9, g10, hsp⟩
      · intro w' hw'
        simp only [Builtin.firstCells]
        refine run_loadCells w' _ _ _ (fun t ht => ?_)
        have hcv : cv ≠ 0 := by intro e; have : len = 0 := by omega
                                subst this; simp at ht
        rw [h6 hcv, cellOf_add]
        have hlt : (l.base + off) * k + t < cur.size := by
          have : (l.base + off + len) * k ≤ l.tot * k := Nat.mul_le_mul_right k (by omega)
          rw [Nat.add_mul] at this; omega
        simp [World.cell?, cellOf, hw', g5, hlt, Array.getD]
      · refine ⟨fun i hi => ?_, fun i j hi hj => ?_⟩
        · rw [length_sub hlen] at hi; rw [getD_sub hi]; exact g8 _ (by omega)
        · rw [length_sub hlen] at hi
          simp only [hidx, getD_sub hi]
          exact ⟨g9 _ j (by omega) hj, g10 _ j (by omega) hj⟩

theorem elems_sound {p : PV} {x : Value} {k : Nat} {m : List (List PV)} {rd : List Nat} (hw : WR M φ G w) (h : elems H p = some (k, m, rd)) (hG : ∀ id, id ∈ rd → G id = H.get id) (hv : Rv M φ p x) :
    ∃ a cap c, x = .slice (some a) m.length cap ∧ (∀ w' : World, w'.heap = w.heap → (Builtin.firstCells k m.length x).run P w' = .ok ((List.range (m.length * k)).map c).toArray w') ∧ GridR M φ k m c := by
  unfold elems at h
  split at h
  · rename_i k' xs fl
    cases h
    obtain ⟨b, o, cap, c, e1, _, _, e2, e3⟩ := first_data (P := P) hw hv
    exact ⟨_, cap, c, e1, e2, e3⟩
  · rename_i id ver k' off len cap
    split at h
    · rename_i ver' k'' xs hH
      split at h
      · rename_i hc
        obtain ⟨rfl, rfl, hlen⟩ := hc
        cases h
        obtain ⟨a, cv, c, l, cur, T, e1, e2, e3, _⟩ := first_view (P := P) hw (by rw [hG id (by simp), hH]) hlen hv
        rw [length_sub hlen]
        exact ⟨a, cv, c, e1, e2, e3⟩
      · cases h
    · cases h
  · cases h

theorem zeroCells_size (z : Array Value) (m : Nat) : (Builtin.zeroCells z m).size = m * z.size := by simp [Builtin.zeroCells]

/-- an append that finds room -/
theorem append_fits_run {sT xT e ty : TypeId} {i : TypeInfo} {k sLen sCap m : Nat} {base : Option Addr} {x : Value} {new : Array Value} (hu : P.underlying sT = some (.slice e)) (hi : P.info? e = some i) (hsize : i.size = k)
    (hx : ∃ e', P.underlying xT = some (.slice e')) (hxl : (Builtin.lenOf x).run P w = .ok m w) (hnew : (Builtin.firstCells k m x).run P w = .ok new w) (hfit : sLen + m ≤ sCap) {w' : World}
    (hst : (match base with | some a => storeCells (a.add (sLen * k)) new.toList | none => pure ()).run P w = .ok () w') :
    (Builtin.append_ #[sT, xT] ty #[.slice base sLen sCap, x]).run P w = .ok (.slice base (sLen + m) sCap) w' := by
  obtain ⟨d, hd⟩ := hx
  have hs : tySize P e = some k := by simp [tySize, hi, hsize]
  unfold Builtin.append_
  simp only [List.getElem?_toArray, List.getElem?_cons_zero, List.getElem?_cons_succ, Sem.run_bind, run_underlying' hu, Result.andThen_ok, run_sizeOf' hs, run_underlying' hd, Sem.run_pure]
  simp only [Bool.false_eq_true, if_false, Bool.not_false, if_true]
  cases base with
  | none => simp at hst; subst hst; simp [hxl, hnew, hfit]
  | some a => simp only at hst; simp [hxl, hnew, hfit, hst]

/-- an append that lays a new row -/
theorem append_grows_run {sT xT e ty : TypeId} {i : TypeInfo} {z : Value} {k sLen sCap m : Nat} {base : Option Addr} {x : Value} {old new : Array Value} (hu : P.underlying sT = some (.slice e)) (hi : P.info? e = some i)
    (hsize : i.size = k) (hz : i.zero = some z) (hb : i.bytes ≠ 0) (hroom : (sLen + m) * i.bytes ≤ room)
    (hx : ∃ e', P.underlying xT = some (.slice e')) (hxl : (Builtin.lenOf x).run P w = .ok m w) (hnew : ∀ w' : World, w'.heap = w.heap → (Builtin.firstCells k m x).run P w' = .ok new w')
    (hold : ∀ w' : World, w'.heap = w.heap → (Builtin.firstCells k sLen (.slice base sLen sCap)).run P w' = .ok old w') (hfit : sCap < sLen + m) :
    ∃ cap, sLen + m ≤ cap ∧ (Builtin.append_ #[sT, xT] ty #[.slice base sLen sCap, x]).run P w =
      .ok (.slice (some (cellOf w.heap.size 0)) (sLen + m) cap) ({ w with drawn := w.drawn + 1 }.alloc (.cells (old ++ new ++ Builtin.zeroCells z.cells (cap - (sLen + m))) e)) := by
  obtain ⟨d, hd⟩ := hx
  have hs : tySize P e = some k := by simp [tySize, hi, hsize]
  have hno : ¬ (sLen + m ≤ sCap) := by omega
  have hcap : ¬ (Builtin.nextslicecap (sLen + m) sCap * i.bytes > 2 ^ 48) := by
    have h1 := nextcap_le hfit
    have : Builtin.nextslicecap (sLen + m) sCap * i.bytes ≤ 2 * (sLen + m) * i.bytes := Nat.mul_le_mul_right _ h1
    rw [Nat.mul_assoc] at this
    unfold room at hroom
    omega
  refine ⟨sLen + m + w.tape w.drawn (.appendCap (sLen + m) sCap e) % (2 ^ 63 - (sLen + m)), by omega, ?_⟩
  unfold Builtin.append_
  simp only [List.getElem?_toArray, List.getElem?_cons_zero, List.getElem?_cons_succ, Sem.run_bind, run_underlying' hu, Result.andThen_ok, run_sizeOf' hs, run_underlying' hd, Sem.run_pure]
  simp only [Bool.false_eq_true, if_false, hxl, Result.andThen_ok, Bool.not_false, if_true, hno, run_typeInfo' hi, Sem.run_bind, false_or, hb, and_false, Sem.run_pure, hcap,
    run_choose, Question.forced, Question.cut, run_askRoom, Sem.run_ite]
  rw [hold { w with drawn := w.drawn + 1 } rfl]
  simp only [Result.andThen_ok]
  rw [hnew { w with drawn := w.drawn + 1 } rfl]
  simp only [Result.andThen_ok, run_zero' hi hz]
  simp [newRow, cellOf]
  rfl

theorem grid_add {k : Nat} {xs ys : List (List PV)} {c d : Nat → Value} {old new rest : Array Value} (hx : GridR M φ k xs c) (hy : GridR M φ k ys d)
    (ho : old = ((List.range (xs.length * k)).map c).toArray) (hn : new = ((List.range (ys.length * k)).map d).toArray) :
    GridR M φ k (xs ++ ys) (fun t => (old ++ new ++ rest).getD t undef) := by
  subst ho
  subst hn
  have key : ∀ i j, i < (xs ++ ys).length → j < k → (((List.range (xs.length * k)).map c).toArray ++ ((List.range (ys.length * k)).map d).toArray ++ rest).getD (i * k + j) undef =
      if i < xs.length then c (i * k + j) else d ((i - xs.length) * k + j) := by
    intro i j hi hj
    simp only [List.length_append] at hi
    have hlt : i * k + j < (xs.length + ys.length) * k := by
      have : (i + 1) * k ≤ (xs.length + ys.length) * k := Nat.mul_le_mul_right k (by omega)
      rw [Nat.add_mul] at this; omega
    rw [Nat.add_mul] at hlt
    simp only [Array.getD_eq_getD_getElem?]
    rw [Array.getElem?_append_left (by simp; exact hlt)]
    by_cases hix : i < xs.length
    · have hlt2 : i * k + j < xs.length * k := by
        have : (i + 1) * k ≤ xs.length * k := Nat.mul_le_mul_right k (by omega)
        rw [Nat.add_mul] at this; omega
      rw [Array.getElem?_append_left (by simp; exact hlt2), if_pos hix]
      simp [hlt2]
    · have hge : xs.length * k ≤ i * k + j := by
        have : xs.length * k ≤ i * k := Nat.mul_le_mul_right k (by omega)
        omega
      have he : i * k + j - xs.length * k = (i - xs.length) * k + j := by
        rw [Nat.sub_mul]
        have : xs.length * k ≤ i * k := Nat.mul_le_mul_right k (by omega)
        omega
      rw [Array.getElem?_append_right (by simp; exact hge), if_neg hix]
      simp only [List.size_toArray, List.length_map, List.length_range, he, List.getElem?_toArray]
      have : (i - xs.length) * k + j < ys.length * k := by omega
      simp [this]
  refine ⟨fun i hi => ?_, fun i j hi hj => ?_⟩
  · simp only [List.length_append] at hi
    by_cases hix : i < xs.length
    · rw [show (xs ++ ys).getD i [] = xs.getD i [] by simp [List.getD_eq_getElem?_getD, List.getElem?_append_left hix]]; exact hx.1 i hix
    · rw [show (xs ++ ys).getD i [] = ys.getD (i - xs.length) [] by simp [List.getD_eq_getElem?_getD, List.getElem?_append_right (by omega : xs.length ≤ i)]]; exact hy.1 _ (by omega)
  · simp only [key i j hi hj]
    simp only [List.length_append] at hi
    by_cases hix : i < xs.length
    · rw [if_pos hix, show (xs ++ ys).getD i [] = xs.getD i [] by simp [List.getD_eq_getElem?_getD, List.getElem?_append_left hix]]; exact hx.2 i j hix hj
    · rw [if_neg hix, show (xs ++ ys).getD i [] = ys.getD (i - xs.length) [] by simp [List.getD_eq_getElem?_getD, List.getElem?_append_right (by omega : xs.length ≤ i)]]; exact hy.2 _ j (by omega) hj

theorem over_getD {xs ys : List (List PV)} {off i : Nat} (h : off + ys.length ≤ xs.length) :
    (overwrite xs off ys).getD i [] = if off ≤ i ∧ i < off + ys.length then ys.getD (i - off) [] else xs.getD i [] := by
  unfold overwrite
  simp only [List.getD_eq_getElem?_getD]
  rw [seg_get xs ys off i h]
  split <;> rfl

theorem over_length {xs ys : List (List PV)} {off : Nat} (h : off + ys.length ≤ xs.length) : (overwrite xs off ys).length = xs.length := by
  simp [overwrite]; omega

/-- the cells of a row behind others have been written over -/
theorem seg_row {k o : Nat} {m : List (List PV)} {d : Nat → Value} {cur : Array Value} (ho : o * k + m.length * k ≤ cur.size) (i j : Nat) (hj : j < k) :
    ((cur.toList.take (o * k) ++ ((List.range (m.length * k)).map d) ++ cur.toList.drop (o * k + ((List.range (m.length * k)).map d).length)).toArray).getD (i * k + j) undef =
      if o ≤ i ∧ i < o + m.length then d ((i - o) * k + j) else cur.getD (i * k + j) undef := by
  rw [seg_getD _ _ _ _ (by simpa using ho)]
  simp only [List.length_map, List.length_range, Array.toArray_toList]
  by_cases h : o ≤ i ∧ i < o + m.length
  · have h1 : o * k ≤ i * k := Nat.mul_le_mul_right k h.1
    have h2 : (i + 1) * k ≤ (o + m.length) * k := Nat.mul_le_mul_right k (by omega)
    rw [Nat.add_mul, Nat.add_mul] at h2
    rw [if_pos (by omega), if_pos h]
    have he : i * k + j - o * k = (i - o) * k + j := by rw [Nat.sub_mul]; omega
    rw [he]
    have hlt : (i - o) * k + j < m.length * k := by rw [Nat.sub_mul]; omega
    simp [List.getD_eq_getElem?_getD, hlt]
  · rw [if_neg h, if_neg ?_]
    intro hc
    apply h
    constructor
    · rcases Nat.lt_or_ge i o with hlt | hge
      · have : (i + 1) * k ≤ o * k := Nat.mul_le_mul_right k (by omega)
        rw [Nat.add_mul] at this; omega
      · exact hge
    · rcases Nat.lt_or_ge i (o + m.length) with hlt | hge
      · exact hlt
      · have : (o + m.length) * k ≤ i * k := Nat.mul_le_mul_right k hge
        rw [Nat.add_mul] at this; omega

theorem range_one {k : Nat} {m : List (List PV)} {d : Nat → Value} (hg : GridR M φ k m d) : ∀ v ∈ (List.range (m.length * k)).map d, v.oneCell' = true := by
  intro v hv
  simp only [List.mem_map, List.mem_range] at hv
  obtain ⟨t, ht, rfl⟩ := hv
  have hk : 0 < k := by rcases Nat.eq_zero_or_pos k with h | h; · subst h; simp at ht
                        · exact h
  have := (hg.2 (t / k) (t % k) (Nat.div_lt_of_lt_mul (by rw [Nat.mul_comm]; exact ht)) (Nat.mod_lt _ hk)).1
  rw [Nat.mul_comm (t / k) k, Nat.div_add_mod] at this
  exact this

end
end Go.Vm
