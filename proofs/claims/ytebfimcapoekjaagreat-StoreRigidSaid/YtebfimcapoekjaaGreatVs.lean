/-
  REGIONS, to their end.
-/
import Derived.Test.YtebfimcapoekjaaGreatVr
import Derived.Orders
namespace Go.Vm

/-- a frame's slots are what is said -/
structure Frm (M : Mem) (φ : Places) (live : List Nat) (ntmps : Nat) (S : List PV) (a : Act) : Prop where
  size : ntmps ≤ a.tmps.size
  defers : a.defers = []
  len : S.length = live.length
  slots : ∀ p s, live[p]? = some s → Rv M φ (S.getD p .any) (a.tmps.getD s undef)

/-- where code stands -/
structure At (M₀ : Mem) (φ₀ : Places) (H₀ : Heap) (n₀ : Nat) (w₀ : World) (live : List Nat) (ntmps : Nat) (s : St) (M : Mem) (φ : Places) (a : Act) (w : World) : Prop where
  frm : Frm M φ live ntmps s.S a
  wr : WR M φ s.H.get w
  ext : Ext M₀ φ₀ H₀.get n₀ w₀ M φ s.H.get s.n w
  fresh : Fresh φ s.n
  low : ∀ id ver, id < n₀ → H₀.get id = none → φ id ver = φ₀ id ver
  none : ∀ id, id < n₀ → H₀.get id = none → s.H.get id = none

def Stands (M₀ : Mem) (φ₀ : Places) (H₀ : Heap) (n₀ : Nat) (w₀ : World) (live : List Nat) (ntmps : Nat) (s : St) (a : Act) (w : World) : Prop :=
  ∃ M φ, At M₀ φ₀ H₀ n₀ w₀ live ntmps s M φ a w

section
variable {P : Program} {cf : CallF} {M₀ : Mem} {φ₀ : Places} {H₀ : Heap} {n₀ : Nat} {w₀ : World} {lv : List Nat} {ntmps : Nat} {ops : Array Oper} {hints : List Nat} {ts : List TypeId}

theorem setAll_length {S T : List PV} : ∀ {out : List (Nat × Src)} {R : List PV}, (setAll S T out R).length = R.length
  | [], R => rfl
  | (p, x) :: r, R => by simp [setAll, setAll_length (out := r)]

theorem setAll_getD {S T : List PV} (g : Nat → Option Src) : ∀ (l : List Nat) (R : List PV) (p : Nat), p < R.length →
    (setAll S T (l.filterMap fun p => (g p).map fun j => (p, j)) R).getD p .any = match (if p ∈ l then g p else Option.none) with | some x => x.ev S T | Option.none => R.getD p .any
  | [], R, p, hp => by simp [setAll]
  | q :: l, R, p, hp => by
    cases hg : g q with
    | none =>
      simp only [List.filterMap_cons, hg, Option.map_none]
      rw [setAll_getD g l R p hp]
      by_cases hq : p = q
      · subst hq; simp [hg]
      · simp [hq]
    | some x =>
      simp only [List.filterMap_cons, hg, Option.map_some, setAll]
      rw [setAll_getD g l _ p (by simpa using hp)]
      by_cases hq : p = q
      · subst hq
        simp only [hg, List.mem_cons, true_or, if_true]
        by_cases hl : p ∈ l
        · simp [hl]
        · simp [hl, List.getD_eq_getElem?_getD, hp]
      · simp only [List.mem_cons, hq, false_or]
        by_cases hl : p ∈ l
        · simp [hl]
          cases g p <;> simp [List.getElem?_set_ne (Ne.symm hq)]
        · simp [hl, List.getD_eq_getElem?_getD, List.getElem?_set_ne (Ne.symm hq)]

theorem regOut_spec {S T : List PV} {p s : Nat} (hlen : S.length = lv.length) (hp : lv[p]? = some s) :
    (∃ j, j < ops.size ∧ dstAt ops j = some s ∧ (setAll S T (regOut lv ops) S).getD p .any = T.getD j .any) ∨
    ((∀ j, j < ops.size → dstAt ops j ≠ some s) ∧ (setAll S T (regOut lv ops) S).getD p .any = S.getD p .any) := by
  have hlt : p < lv.length := (List.getElem?_eq_some_iff.1 hp).1
  have hform : regOut lv ops = (List.range lv.length).filterMap fun p => (((List.range ops.size).find? (fun j => dstAt ops j == lv[p]?)).map Src.t).map fun x => (p, x) := by
    unfold regOut
    congr 1
    funext q
    rw [Option.map_map]; rfl
  rw [hform, setAll_getD (fun p => ((List.range ops.size).find? (fun j => dstAt ops j == lv[p]?)).map Src.t) _ _ _ (by omega)]
  simp only [List.mem_range, hlt, if_true]
  cases hf : (List.range ops.size).find? (fun j => dstAt ops j == lv[p]?) with
  | none =>
    right
    refine ⟨fun j hj he => ?_, by simp⟩
    have := List.find?_eq_none.1 hf j (by simpa using hj)
    simp [he, hp] at this
  | some j =>
    left
    have h1 := List.find?_some hf
    have h2 := List.mem_of_find?_eq_some hf
    exact ⟨j, by simpa using h2, by rw [hp] at h1; simpa using h1, by simp [Src.ev]⟩

/-- at a region's start -/
theorem inv_start {s : St} {M : Mem} {φ : Places} {a : Act} {w w' : World} {T : List PV} {L : List Fp} {Hs : Nat → Heap} {ns : Nat → Nat} (h : At M₀ φ₀ H₀ n₀ w₀ lv ntmps s M φ a w) (h0 : Hs 0 = s.H) (hn : ns 0 = s.n)
    (hh : w'.heap = w.heap) (hos : w'.os = w.os) (htape : w'.tape = w.tape) (hout : w'.output = w.output) :
    Inv M φ s.H.get s.n w lv ntmps s.S ops T L Hs ns (fun _ => False) a w' M φ s.H.get where
  size := h.frm.size
  defers := h.frm.defers
  slots j hj := hj.elim
  live p q hp _ := h.frm.slots p q hp
  wr := h.wr.world hh
  ext := ⟨.refl M, .refl φ, Nat.le_refl _, hos, htape, hout, by rw [hh]; exact Nat.le_refl _, fun b _ _ => by rw [hh], fun _ _ _ h => .inl h, fun _ h => .inl h⟩
  old id _ := by rw [h0]
  new id j hj := hj.elim
  fresh id ver hid hne := absurd (h.fresh id (by rw [← hn]; exact hid) ver) hne
  low id ver _ _ := rfl

/-- at a region's end -/
theorem inv_end {s : St} {M : Mem} {φ : Places} {a a' : Act} {w w' : World} {T : List PV} {L : List Fp} {Hs : Nat → Heap} {ns : Nat → Nat} {D : Nat → Prop} {M' : Mem} {φ' : Places} {G' : Objs} (hrise : Rising cf)
    (h : At M₀ φ₀ H₀ n₀ w₀ lv ntmps s M φ a w) (h0 : Hs 0 = s.H) (hn : ns 0 = s.n) (ht : Told cf s.S (regOps P lv hints ts ops) T L Hs ns)
    (hinv : Inv M φ s.H.get s.n w lv ntmps s.S ops T L Hs ns D a' w' M' φ' G') (hD : ∀ i, D i ↔ i < ops.size) :
    Stands M₀ φ₀ H₀ n₀ w₀ lv ntmps ⟨setAll s.S T (regOut lv ops) s.S, Hs ops.size, ns ops.size⟩ a' w' := by
  have hlen : (regOps P lv hints ts ops).length = ops.size := by simp [regOps]
  have hG : G' = (Hs ops.size).get := by
    funext id
    rcases lastOn (fun j => (L.getD j .no).on id) ops.size with hno | ⟨j, hj, hon, hlast⟩
    · rw [hinv.old id (fun j hj => hno j ((hD j).1 hj)), ht.same hrise id (i := 0) (j := ops.size) (Nat.zero_le _) (by omega) (fun k _ hk => hno k hk)]
    · rw [hinv.new id j ((hD j).2 hj) hon (fun k hk honk => ?_), ht.same hrise id (i := j + 1) (j := ops.size) (by omega) (by omega) (fun k hk hk' => hlast k (by omega) hk')]
      rcases Nat.lt_or_ge j k with h1 | h1
      · exact absurd honk (hlast k h1 ((hD k).1 hk))
      · exact h1
  subst hG
  have hmono := ht.mono hrise (i := 0) (j := ops.size) (Nat.zero_le _) (by omega)
  have hnone : ∀ id, id < s.n → s.H.get id = none → (Hs ops.size).get id = none := by
    intro id hid hno
    exact ht.none hrise id (by omega) (by rw [h0]; exact hno) (by omega)
  have hx := h.ext.count
  refine ⟨M', φ', ⟨hinv.size, hinv.defers, by simp [setAll_length]; exact h.frm.len, ?_⟩, hinv.wr, h.ext.trans ⟨hinv.ext.mem, hinv.ext.places, by simp; omega, hinv.ext.os, hinv.ext.tape, hinv.ext.output, hinv.ext.size, hinv.ext.block, hinv.ext.new, hinv.ext.own⟩, ?_, ?_, ?_⟩
  · intro p q hp
    rcases regOut_spec (S := s.S) (T := T) (ops := ops) h.frm.len hp with ⟨j, hj, hd, he⟩ | ⟨hno, he⟩
    · simp only [he]; exact hinv.slots j ((hD j).2 hj) q hd
    · simp only [he]; exact hinv.live p q hp (fun j hj => hno j ((hD j).1 hj))
  · intro id hid ver
    rcases Classical.em (φ' id ver = Option.none) with h1 | h1
    · exact h1
    · simp only at hid
      obtain ⟨j, hj, _, hlt⟩ := hinv.fresh id ver (by omega) h1
      have := (hD j).1 hj
      have := ht.mono hrise (i := j + 1) (j := ops.size) (by omega) (by omega)
      omega
  · intro id ver hid hno
    rw [hinv.low id ver (by omega) (by rw [h0]; exact h.none id hid hno), h.low id ver hid hno]
  · intro id hid hno
    exact hnone id (by omega) (h.none id hid hno)

/-- in the order of the text -/
theorem inv_list {Q : Exit → Act → World → Prop} {M : Mem} {φ : Places} {G : Objs} {n : Nat} {w : World} {S T : List PV} {L : List Fp} {Hs : Nat → Heap} {ns : Nat → Nat} (hcf : FSound P cf) (hrise : Rising cf) (hd : dstsOk ntmps ops = true) (hg : guardsOk ops = true)
    (ht : Told cf S (regOps P lv hints ts ops) T L Hs ns)
    (hQ : ∀ a' w' M' φ' G', Inv M φ G n w lv ntmps S ops T L Hs ns (fun j => j < ops.size) a' w' M' φ' G' → Q .normal a' w') :
    ∀ (m i : Nat), i + m = ops.size → ∀ (a' : Act) (w' : World) M' φ' G', Inv M φ G n w lv ntmps S ops T L Hs ns (fun j => j < i) a' w' M' φ' G' → wpOps P ops Q (List.range' i m) a' w'
  | 0, i, hi, a', w', M', φ', G', hinv => by
    have : i = ops.size := by omega
    subst this
    exact hQ a' w' M' φ' G' hinv
  | m + 1, i, hi, a', w', M', φ', G', hinv => by
    rw [List.range'_succ, wpOps_cons]
    refine inv_op hcf hrise hd hg ht hinv (i := i) (by omega) (by omega) (fun j hj => by omega) (fun j s hj _ _ => hj) (fun k s hk hik => by omega)
      (fun g b hgb => (guardsOk_spec hg (by omega) hgb).1) (fun k id hk hik => by omega) (fun j id hj hno => by omega) ?_
    intro a2 w2 M2 φ2 G2 h2
    refine inv_list hcf hrise hd hg ht hQ m (i + 1) (by omega) a2 w2 M2 φ2 G2 ?_
    have e : (fun j => j < i ∨ j = i) = (fun j => j < i + 1) := by funext j; exact propext (by omega)
    rw [e] at h2; exact h2

theorem told_of {S : List PV} {H : Heap} {n : Nat} {T : List PV} {H' : Heap} {n' : Nat} {L : List Fp} {os : List IOper} (h : evalOps cf S os [] H n [] = some (T, H', n', L)) :
    L.length = os.length ∧ ∃ Hs ns, Hs 0 = H ∧ ns 0 = n ∧ Hs os.length = H' ∧ ns os.length = n' ∧ Told cf S os T L Hs ns := by
  obtain ⟨_, h1, h2, Hs, ns, h3, h4, h5, h6, h7⟩ := evalOps_steps h rfl
  simp only [List.length_nil, Nat.zero_add] at h1 h2 h7
  exact ⟨by omega, Hs, ns, h3, h4, h5, h6, ⟨h1, h7⟩⟩

theorem PV.same_eq {a b : PV} (h : PV.same a b = true) : a = b := by
  unfold PV.same at h
  split at h <;> simp_all

theorem PV.sameF_eq : ∀ d, (∀ a b, PV.sameF d a b = true → a = b) ∧ (∀ a b, PV.sameFL d a b = true → a = b) ∧ (∀ a b, PV.sameFLL d a b = true → a = b)
  | 0 => ⟨fun a b h => by simp [PV.sameF] at h, fun a b h => by simp [PV.sameFL] at h, fun a b h => by simp [PV.sameFLL] at h⟩
  | d + 1 => by
    obtain ⟨i1, i2, i3⟩ := PV.sameF_eq d
    refine ⟨fun a b h => ?_, fun a b h => ?_, fun a b h => ?_⟩
    · unfold PV.sameF at h
      split at h
      · rw [i2 _ _ h]
      · simp only [Bool.and_eq_true, decide_eq_true_eq] at h
        rw [h.1.1, h.1.2, i3 _ _ h.2]
      · simp only [Bool.and_eq_true, decide_eq_true_eq] at h
        rw [h.1.1, h.1.2, i2 _ _ h.2]
      · simp only [Bool.and_eq_true, decide_eq_true_eq] at h
        rw [h.1, i1 _ _ h.2]
      · simp only [Bool.and_eq_true, decide_eq_true_eq] at h
        rw [h.1.1, i2 _ _ h.1.2, i2 _ _ h.2]
      · rename_i x y
        have h1 := eq_of_beq h
        congr 1
        cases x; cases y
        simp only at h1
        congr 1
        exact Array.toList_inj.1 h1
      · exact PV.same_eq h
    · cases a <;> cases b <;> simp only [PV.sameFL, Bool.and_eq_true, Bool.false_eq_true] at h
      · rfl
      · rw [i1 _ _ h.1, i2 _ _ h.2]
    · cases a <;> cases b <;> simp only [PV.sameFLL, Bool.and_eq_true, Bool.false_eq_true] at h
      · rfl
      · rw [i2 _ _ h.1, i3 _ _ h.2]

theorem evalOps_snoc {S : List PV} {o : IOper} : ∀ (os : List IOper) (T : List PV) (H : Heap) (n : Nat) (L : List Fp), evalOps cf S (os ++ [o]) T H n L =
    match evalOps cf S os T H n L with | some (T', H', n', L') => evalOps cf S [o] T' H' n' L' | Option.none => Option.none
  | [], T, H, n, L => rfl
  | x :: os, T, H, n, L => by
    simp only [List.cons_append]
    rw [evalOps, evalOps.eq_def cf S (x :: os)]
    simp only
    split
    · split
      · exact evalOps_snoc os _ _ _ _
      · rfl
    · exact evalOps_snoc os _ _ _ _
    · rfl

theorem told_prefix {S : List PV} {os : List IOper} {T : List PV} {L : List Fp} {Hs : Nat → Heap} {ns : Nat → Nat} (ht : Told cf S os T L Hs ns) (hL : L.length = os.length) : ∀ m, m ≤ os.length →
    evalOps cf S (os.take m) [] (Hs 0) (ns 0) [] = some (T.take m, Hs m, ns m, L.take m)
  | 0, _ => by simp [evalOps]
  | m + 1, hm => by
    have hlt : m < os.length := by omega
    have e : os.take (m + 1) = os.take m ++ [os.getD m default] := by
      rw [List.take_add_one]; simp [hlt]
    have eT : T.take (m + 1) = T.take m ++ [T.getD m .any] := by
      rw [List.take_add_one]; simp [show m < T.length by rw [ht.len]; exact hlt]
    have eL : L.take (m + 1) = L.take m ++ [L.getD m .no] := by
      rw [List.take_add_one]; simp [show m < L.length by omega]
    rw [e, evalOps_snoc, told_prefix ht hL m (by omega)]
    simp only
    rcases ht.step m hlt with ⟨h1, h2⟩ | ⟨h1, h2, h3, h4, h5⟩
    · simp only [evalOps, h1, h2, eT, eL]
    · simp only [evalOps, h1, eT, eL, h2, h3, h4, h5]

theorem freeRead_spec {S : List PV} {os : List IOper} {T : List PV} {L : List Fp} {Hs : Nat → Heap} {ns : Nat → Nat} {ms : List Nat} {i : Nat} (ht : Told cf S os T L Hs ns) (hL : L.length = os.length)
    (h : freeRead cf S os (Hs 0) (ns 0) T L ms i = true) : ∃ x, L.getD i .no = ⟨[x], [], false⟩ ∧ ∀ m, m ≤ os.length → (m = 0 ∨ ∃ j, m = j + 1 ∧ (L.getD j .no).on x ∧ (ms.getD j 0).testBit i = false ∧ j ≠ i) →
      ∃ H' n', evalOp cf (os.getD i default).op (Src.ev S (T.take i)) (Hs m) (ns m) = some ⟨T.getD i .any, H', n', ⟨[x], [], false⟩⟩ := by
  unfold freeRead at h
  split at h
  · rename_i x hx
    refine ⟨x, hx, fun m hm hor => ?_⟩
    simp only [List.all_eq_true, List.mem_range] at h
    have h1 := h m (by omega)
    rw [told_prefix ht hL m hm] at h1
    simp only [Bool.or_eq_true] at h1
    rcases h1 with h1 | h1
    · exfalso
      rcases hor with rfl | ⟨j, rfl, hon, hb, hji⟩
      · simp at h1
      · simp only [Bool.or_eq_true, Bool.not_eq_true', hb, beq_iff_eq] at h1
        rcases h1 with (h1 | h1) | h1
        · simp only [Bool.or_eq_false_iff, List.contains_eq_mem, decide_eq_false_iff_not] at h1
          rcases hon with h2 | h2
          · rw [h1.1] at h2; cases h2
          · exact h1.2 h2
        · cases h1
        · exact hji h1
    · split at h1
      · rename_i v H' n' b he
        simp only [Bool.and_eq_true, decide_eq_true_eq] at h1
        obtain ⟨e1, e2⟩ := h1
        have e1' := (PV.sameF_eq _).1 _ _ e1
        subst e2
        exact ⟨H', n', by rw [he, e1']⟩
      · cases h1
  · cases h

theorem orderly_spec {S : List PV} {os : List IOper} {H : Heap} {n : Nat} {T : List PV} {ms : List Nat} {L : List Fp} (h : orderly cf S os H n T ms L = true) {i j : Nat} (hj : j < L.length) (hij : i < j) :
    ((ms.getD j 0).testBit i = true ∨ (L.getD i .no).apart (L.getD j .no) = true) ∨ freeRead cf S os H n T L ms i = true ∨ freeRead cf S os H n T L ms j = true := by
  simp only [orderly, List.all_eq_true, List.mem_range, Bool.or_eq_true] at h
  rcases h j hj i hij with ((h | h) | h) | h
  · exact .inl (.inl h)
  · exact .inl (.inr h)
  · exact .inr (.inl h)
  · exact .inr (.inr h)

def Closed (N : Nat) (ms : List Nat) (D : Nat → Prop) : Prop := ∀ i k, k < N → D i → (ms.getD i 0).testBit k = true → D k

/-- in any order that the edges allow -/
theorem inv_any {Q : Exit → Act → World → Prop} {M : Mem} {φ : Places} {G : Objs} {n : Nat} {w : World} {S T : List PV} {L : List Fp} {Hs : Nat → Heap} {ns : Nat → Nat} {ms : List Nat} (hcf : FSound P cf) (hrise : Rising cf) (hd : dstsOk ntmps ops = true) (hg : guardsOk ops = true)
    (hm : masksOk ops ms = true) (ho : orderOk ops ms = true) (hL : L.length = ops.size) (ht : Told cf S (regOps P lv hints ts ops) T L Hs ns) (hor : orderly cf S (regOps P lv hints ts ops) (Hs 0) (ns 0) T ms L = true)
    (hQ : ∀ a' w' M' φ' G', Inv M φ G n w lv ntmps S ops T L Hs ns (fun j => j < ops.size) a' w' M' φ' G' → Q .normal a' w') :
    ∀ (m : Nat) (listed : Array Bool), listed.size = ops.size → listed.toList.count false ≤ m → Closed ops.size ms (fun j => listed.getD j false = true) →
      ∀ (a' : Act) (w' : World) M' φ' G', Inv M φ G n w lv ntmps S ops T L Hs ns (fun j => listed.getD j false = true) a' w' M' φ' G' → wpAny P .any ops Q m listed a' w' := by
  simp only [masksOk, List.all_eq_true, List.mem_range, Bool.and_eq_true, Bool.or_eq_true, Bool.not_eq_true', decide_eq_true_eq, List.any_eq_true, beq_iff_eq] at hm
  simp only [orderOk, List.all_eq_true, List.mem_range, Bool.and_eq_true, Bool.or_eq_true] at ho
  have hdone : ∀ (listed : Array Bool), listed.size = ops.size → Region.ready .any ops listed = [] → (fun j => listed.getD j false = true) = fun j => j < ops.size := by
    intro listed hsz hr
    have hall : ∀ j, j < ops.size → listed.getD j false = true := by
      intro j
      induction j using Nat.strongRecOn with
      | ind j ih =>
        intro hj
        rcases Classical.em (listed.getD j false = true) with h1 | h1
        · exact h1
        · exfalso
          have : j ∈ Region.ready .any ops listed := by
            rw [mem_ready]
            refine ⟨?_, ops.getD j default, getD_array ops j hj, fun e he hb => ?_⟩
            · have : j < listed.size := by omega
              simp [Array.getD, this] at h1 ⊢; exact h1
            · rcases (hm j hj).1 e (by simpa using he) with h2 | h2
              · rw [hb] at h2; cases h2
              · exact ih e.on h2 (by omega)
          rw [hr] at this; cases this
    funext j
    refine propext ⟨fun h => ?_, hall j⟩
    rcases Nat.lt_or_ge j listed.size with h1 | h1
    · omega
    · simp [Array.getD, Nat.not_lt.2 h1] at h
  intro m
  induction m with
  | zero =>
    intro listed hsz hc hcl a' w' M' φ' G' hinv
    have hr : Region.ready .any ops listed = [] := by
      unfold Region.ready
      rw [List.filter_eq_nil_iff]
      intro i hi
      have hi' : i < listed.size := by simp at hi; omega
      have h0 : listed.toList.count false = 0 := by omega
      rw [List.count_eq_zero] at h0
      have : listed.getD i true = true := by
        have hmem : listed[i] ∈ listed.toList := by simp
        simp only [Array.getD, hi', dite_true]
        show listed[i] = true
        cases hb : listed[i] with
        | true => rfl
        | false => rw [hb] at hmem; exact absurd hmem h0
      simp [this]
    refine ⟨hr, hQ a' w' M' φ' G' ?_⟩
    rw [hdone listed hsz hr] at hinv; exact hinv
  | succ m ih =>
    intro listed hsz hc hcl a' w' M' φ' G' hinv
    refine ⟨fun hr => hQ a' w' M' φ' G' (by rw [hdone listed hsz hr] at hinv; exact hinv), fun i hi => ?_⟩
    obtain ⟨h0, o, hoi, hall⟩ := mem_ready.1 hi
    have hi1 : i < ops.size := (Array.getElem?_eq_some_iff.1 hoi).1
    have hio : ops.getD i default = o := by rw [getD_array ops i hi1] at hoi; exact Option.some.inj hoi
    have hmi : ∀ k, k < ops.size → (ms.getD i 0).testBit k = true → listed.getD k false = true := by
      intro k hk hb
      rcases (hm i hi1).2 k hk with h1 | ⟨e, he, hbind, h1⟩
      · rw [hb] at h1; cases h1
      · rw [hio] at he
        have hl := hall e (by simpa using he) hbind
        rcases h1 with h1 | h1
        · rw [← h1]; exact hl
        · exact hcl e.on k hk hl h1
    have hlt : ∀ j, listed.getD j false = true → j < ops.size := by
      intro j hj
      rcases Nat.lt_or_ge j listed.size with h1 | h1
      · omega
      · simp [Array.getD, Nat.not_lt.2 h1] at hj
    have hni : ¬ listed.getD i false = true := by
      have : i < listed.size := by omega
      simp [Array.getD, this] at h0 ⊢; exact h0
    have hlen : (regOps P lv hints ts ops).length = ops.size := by simp [regOps]
    have a1 : ∀ j s, j < i → dstAt ops j = some s → s ∈ looks (ops.getD i default) → listed.getD j false = true := by
      intro j s hj hdj hs
      rcases (ho i hi1).2 j hj with h1 | h1
      · exact hmi j (by omega) h1
      · have := h1.1
        rw [hdj] at this
        simp only [Bool.not_eq_true', List.contains_eq_mem, decide_eq_false_iff_not] at this
        exact absurd hs this
    have a2 : ∀ k s, listed.getD k false = true → i < k → dstAt ops k = some s → s ∉ looks (ops.getD i default) := by
      intro k s hk hik hdk hs
      rcases (ho k (hlt k hk)).2 i hik with h1 | h1
      · exact hni (hcl k i hi1 hk h1)
      · have := h1.2
        rw [hdk] at this
        simp only [Bool.not_eq_true', List.contains_eq_mem, decide_eq_false_iff_not] at this
        exact this hs
    have a3 : ∀ g b, (ops.getD i default).guard = some (g, b) → listed.getD g false = true := by
      intro g b hgb
      have h1 := (ho i hi1).1
      rw [hgb] at h1
      have := (guardsOk_spec hg hi1 hgb).1
      exact hmi g (by omega) h1
    have a6 : ∀ a2 w2 M2 φ2 G2, Inv M φ G n w lv ntmps S ops T L Hs ns (fun j => listed.getD j false = true ∨ j = i) a2 w2 M2 φ2 G2 → wpAny P .any ops Q m (listed.setIfInBounds i true) a2 w2 := by
      intro a2 w2 M2 φ2 G2 h2
      have hset : ∀ j, (listed.setIfInBounds i true).getD j false = true ↔ (listed.getD j false = true ∨ j = i) := by
        intro j
        by_cases hji : j = i
        · subst hji
          have : j < listed.size := by omega
          simp [Array.getD_eq_getD_getElem?, this]
        · simp [Array.getD_eq_getD_getElem?, Array.getElem?_setIfInBounds_ne (Ne.symm hji), hji]
      refine ih _ (by simpa using hsz) ?_ ?_ a2 w2 M2 φ2 G2 ?_
      · have hlt2 : i < listed.toList.length := by simp; omega
        have hf : listed.toList[i] = false := by
          have : i < listed.size := by omega
          simp [Array.getD, this] at h0 ⊢; exact h0
        rw [Array.toList_setIfInBounds, List.count_set hlt2]
        have hpos : 0 < listed.toList.count false := by
          rw [List.count_pos_iff]
          rw [← hf]; exact List.getElem_mem hlt2
        simp [hf]
        simp at hpos hc
        omega
      · intro j k hkN hj hb
        simp only [hset] at hj ⊢
        rcases hj with hj | rfl
        · exact .inl (hcl j k hkN hj hb)
        · exact .inl (hmi k hkN hb)
      · have e : (fun j => listed.getD j false = true ∨ j = i) = (fun j => (listed.setIfInBounds i true).getD j false = true) := by
          funext j; exact propext (hset j).symm
        rw [← e]; exact h2
    by_cases hfree : freeRead cf S (regOps P lv hints ts ops) (Hs 0) (ns 0) T L ms i = true
    · obtain ⟨x, hx1, hx2⟩ := freeRead_spec ht (by rw [hL, hlen]) hfree
      refine inv_read hcf hrise hd hg ht hinv hi1 hni hlt a1 a2 a3 hx1 (fun m hm => ?_) a6
      rcases hm with rfl | ⟨j, rfl, hj, hon⟩
      · exact hx2 0 (Nat.zero_le _) (.inl rfl)
      · refine hx2 (j + 1) (by rw [hlen]; exact hlt j hj) (.inr ⟨j, rfl, hon, ?_, fun e => hni (e ▸ hj)⟩)
        cases hb : (ms.getD j 0).testBit i with
        | false => rfl
        | true => exact absurd (hcl j i hi1 hj hb) hni
    · refine inv_op hcf hrise hd hg ht hinv hi1 hni hlt a1 a2 a3 ?_ ?_ a6
      · intro k id hk hik hon hat
        rcases orderly_spec hor (by rw [hL]; exact hlt k hk) hik with (h1 | h1) | h1 | h1
        · exact hni (hcl k i hi1 hk h1)
        · exact (apart_spec h1 id).2 hon hat
        · exact hfree h1
        · obtain ⟨x, hx1, _⟩ := freeRead_spec ht (by rw [hL, hlen]) h1
          rw [hx1] at hon; simp [Fp.on] at hon
      · intro j id hj hno hon hat
        rcases orderly_spec hor (by rw [hL]; exact hi1) hj with (h1 | h1) | h1 | h1
        · exact hno (hmi j (by omega) h1)
        · exact (apart_spec h1 id).1 hon hat
        · obtain ⟨x, hx1, _⟩ := freeRead_spec ht (by rw [hL, hlen]) h1
          rw [hx1] at hon; simp [Fp.on] at hon
        · exact hfree h1

end
end Go.Vm
