/-
  A part of the proof: Pf Ph Pi Jb Jc Jd Je Jf Jg Jh D0 Da Dd Db De Df Dg Dh Di Dj Dk Dw Dl.
-/
import Derived.Test.YtebfimcapoekjaaGreatMe
namespace Go.Vm
set_option maxRecDepth 100000
def pkey (a b : Nat) : PV := .agg [.int .i64 a, .int .i64 b]
def ents : List (Nat × Nat × Nat) → Nat → Ents
  | [], _ => []
  | (a, b, c) :: r, i => (pkey a b, .int .i64 c, i) :: ents r (i + 1)
def pidx (a b : Nat) : List (Nat × Nat × Nat) → Option Nat
  | [] => none
  | (x, y, _) :: r => if x = a ∧ y = b then some 0 else (pidx a b r).map (· + 1)
def pcnt (a b : Nat) : List (Nat × Nat × Nat) → Nat
  | [] => 0
  | (x, y, c) :: r => if x = a ∧ y = b then c else pcnt a b r
def pinc (a b : Nat) : List (Nat × Nat × Nat) → List (Nat × Nat × Nat)
  | [] => [(a, b, 1)]
  | (x, y, c) :: r => if x = a ∧ y = b then (x, y, c + 1) :: r else (x, y, c) :: pinc a b r
theorem pcnt_inc (a b a' b' : Nat) : ∀ l, pcnt a' b' (pinc a b l) = pcnt a' b' l + if a = a' ∧ b = b' then 1 else 0
  | [] => by simp only [pinc, pcnt]; split <;> simp
  | (x, y, c) :: r => by
    simp only [pinc]
    by_cases h : x = a ∧ y = b
    · obtain ⟨rfl, rfl⟩ := h
      simp only [and_self, if_true, pcnt]
      split <;> simp_all
    · simp only [h, if_false, pcnt, pcnt_inc a b a' b' r]
      by_cases h2 : x = a' ∧ y = b'
      · obtain ⟨rfl, rfl⟩ := h2
        have : ¬ (a = x ∧ b = y) := fun e => h ⟨e.1.symm, e.2.symm⟩
        simp [this]
      · simp [h2]
theorem ents_len : ∀ l i, (ents l i).length = l.length
  | [], _ => rfl
  | (_, _, _) :: r, i => by simp [ents, ents_len r]
theorem keyEq_pair (a b x y : Nat) : keyEq (.arr 2) (pkey a b) (pkey x y) = some (decide (x = a ∧ y = b)) := by
  have h1 : (((a : Nat) : Int) == ((x : Nat) : Int)) = decide (x = a) := by
    rw [Bool.eq_iff_iff]; simp; omega
  have h2 : (((b : Nat) : Int) == ((y : Nat) : Int)) = decide (y = b) := by
    rw [Bool.eq_iff_iff]; simp; omega
  simp only [keyEq, pkey, List.length_cons, List.length_nil, List.replicate]
  simp [cellsEq, h1, h2]
  by_cases e1 : x = a <;> by_cases e2 : y = b <;> simp [e1, e2]
theorem findKey_pair (a b : Nat) : ∀ (l : List (Nat × Nat × Nat)) (i j : Nat), findKey (.arr 2) (pkey a b) (ents l i) j = some ((pidx a b l).map (· + j))
  | [], _, _ => rfl
  | (x, y, c) :: r, i, j => by
    simp only [ents, findKey, keyEq_pair, pidx]
    by_cases h : x = a ∧ y = b
    · simp [h]
    · simp only [h, decide_false, if_false, findKey_pair a b r]
      cases pidx a b r with
      | none => rfl
      | some t => simp; omega
theorem findIn_pair (a b : Nat) (l : List (Nat × Nat × Nat)) : findIn (.arr 2) (pkey a b) (ents l 0) = some (pidx a b l) := by
  have : keyOk (.arr 2) (pkey a b) = true := by simp [keyOk, pkey]
  rw [findIn, if_pos this, findKey_pair]
  cases pidx a b l <;> simp
def pmid (a b : Nat) (l : List (Nat × Nat × Nat)) : List (Nat × Nat × Nat) := match pidx a b l with
  | some _ => l
  | none => l ++ [(a, b, 0)]
def pslot (a b : Nat) (l : List (Nat × Nat × Nat)) : Nat := match pidx a b l with
  | some i => i
  | none => l.length
theorem ents_append : ∀ (l m : List (Nat × Nat × Nat)) (i : Nat), ents (l ++ m) i = ents l i ++ ents m (i + l.length)
  | [], m, i => rfl
  | (x, y, c) :: r, m, i => by
    simp only [List.cons_append, ents, ents_append r m (i + 1), List.length_cons]
    rw [show i + 1 + r.length = i + (r.length + 1) by omega]
theorem pidx_at (a b : Nat) : ∀ (l : List (Nat × Nat × Nat)) (t j : Nat), pidx a b l = some t → t < l.length ∧ (ents l j)[t]? = some (pkey a b, .int .i64 (pcnt a b l), j + t) ∧ (∀ c : Nat, c = pcnt a b l + 1 → (ents l j).set t (pkey a b, .int .i64 c, j + t) = ents (pinc a b l) j) ∧ (pinc a b l).length = l.length
  | [], t, j, h => by simp [pidx] at h
  | (x, y, c) :: r, t, j, h => by
    simp only [pidx] at h
    by_cases e : x = a ∧ y = b
    · obtain ⟨rfl, rfl⟩ := e
      simp only [and_self, if_true, Option.some.injEq] at h
      subst h
      refine ⟨by simp, by simp [ents, pcnt], fun c' hc => ?_, by simp [pinc]⟩
      subst hc
      simp [ents, pinc, pcnt]
    · simp only [e, if_false] at h
      cases hq : pidx a b r with
      | none => rw [hq] at h; simp at h
      | some t' =>
        rw [hq] at h
        simp only [Option.map_some, Option.some.injEq] at h
        subst h
        obtain ⟨h1, h2, h3, h4⟩ := pidx_at a b r t' (j + 1) hq
        have ec : pcnt a b ((x, y, c) :: r) = pcnt a b r := by simp only [pcnt, e, if_false]
        have ep : pinc a b ((x, y, c) :: r) = (x, y, c) :: pinc a b r := by simp only [pinc, e, if_false]
        have ej : j + (t' + 1) = j + 1 + t' := by omega
        refine ⟨by simp; omega, by rw [ec, ej]; simpa [ents] using h2, fun c' hc => ?_, by rw [ep]; simp [h4]⟩
        rw [ep, ej]
        simp only [ents, List.set_cons_succ]
        rw [h3 c' (by rw [hc, ec])]
theorem pidx_no (a b : Nat) : ∀ (l : List (Nat × Nat × Nat)), pidx a b l = none → pcnt a b l = 0 ∧ pinc a b l = l ++ [(a, b, 1)]
  | [], _ => ⟨rfl, rfl⟩
  | (x, y, c) :: r, h => by
    simp only [pidx] at h
    by_cases e : x = a ∧ y = b
    · simp [e] at h
    · simp only [e, if_false, Option.map_eq_none_iff] at h
      obtain ⟨h1, h2⟩ := pidx_no a b r h
      simp only [pcnt, pinc, e, if_false, h1, h2, List.cons_append, and_self]
theorem birth_at : ∀ (l : List (Nat × Nat × Nat)) (t j : Nat), t < l.length → (ents l j).findIdx? (fun e => ((e.2.2 : Nat) : Int) == ((j + t : Nat) : Int)) = some t
  | [], t, j, h => by simp at h
  | (x, y, c) :: r, t, j, h => by
    simp only [ents, List.findIdx?_cons]
    cases t with
    | zero => simp
    | succ t =>
      have e : (((j : Nat) : Int) == ((j + (t + 1) : Nat) : Int)) = false := by simp; omega
      have := birth_at r t (j + 1) (by simpa using h)
      rw [show j + 1 + t = j + (t + 1) by omega] at this
      simp only [e, Bool.false_eq_true, if_false, this, Option.map_some]
section
variable {cf : CallF} {ρ : Src → PV} {H : Heap} {n id : Nat} {l : List (Nat × Nat × Nat)} {a b : Nat}
def mapEntryO (ck : CK) (zero key : PV) (id : Nat) (H : Heap) (n : Nat) : Option Obj → Option Res
  | some (.map es clock) =>
    match findIn ck key es with
    | some (some i) => some ⟨.tup [(es.getD i (.any, .any, 0)).2.1, .int .i64 (es.getD i (.any, .any, 0)).2.2], H.set id (.map (es.set i (key, (es.getD i (.any, .any, 0)).2.1, (es.getD i (.any, .any, 0)).2.2)) clock), n, ⟨[], [id], false⟩⟩
    | some none => some ⟨.tup [zero, .int .i64 clock], H.set id (.map (es ++ [(key, zero, clock)]) (clock + 1)), n, ⟨[], [id], false⟩⟩
    | none => none
  | _ => none
def mapEntryV (ck : CK) (zero key : PV) (H : Heap) (n : Nat) : PV → Option Res
  | .map id => mapEntryO ck zero key id H n (H.get id)
  | _ => none
theorem op_mapEntry (ck : CK) (zero : PV) (m k : Src) : evalOp cf (.mapEntry ck zero m k) ρ H n = mapEntryV ck zero (ρ k) H n (ρ m) := by
  simp only [evalOp, mapEntryV]
  cases ρ m <;> rfl
theorem mapEntryV_map (ck : CK) (zero key : PV) (H : Heap) (n id : Nat) : mapEntryV ck zero key H n (.map id) = mapEntryO ck zero key id H n (H.get id) := rfl
def entrySetO (b : Int) (v : PV) (id : Nat) (H : Heap) (n : Nat) : Option Obj → Option Res
  | some (.map es clock) =>
    match es.findIdx? (fun e => (e.2.2 : Int) == b) with
    | some i => some ⟨.tup [], H.set id (.map (es.set i ((es.getD i (.any, .any, 0)).1, v, (es.getD i (.any, .any, 0)).2.2)) clock), n, ⟨[], [id], false⟩⟩
    | none => none
  | _ => none
def entrySetV (s v : PV) (H : Heap) (n : Nat) : PV → Option Res
  | .map id => match s with
    | .int _ b => entrySetO b v id H n (H.get id)
    | _ => none
  | _ => none
theorem op_entrySet (m s v : Src) : evalOp cf (.entrySet m s v) ρ H n = entrySetV (ρ s) (ρ v) H n (ρ m) := by
  simp only [evalOp, entrySetV]
  cases ρ m <;> cases ρ s <;> rfl
theorem entrySetV_map (k : IntKind) (b : Int) (v : PV) (H : Heap) (n id : Nat) : entrySetV (.int k b) v H n (.map id) = entrySetO b v id H n (H.get id) := rfl
theorem lookO_pair (H : Heap) (n id : Nat) (l : List (Nat × Nat × Nat)) (a b : Nat) : lookO (.arr 2) (.int .i64 0) (pkey a b) false id H n (some (.map (ents l 0) l.length)) = some ⟨.int .i64 (pcnt a b l), H, n, ⟨[id], [], false⟩⟩ := by
  simp only [lookO, findIn_pair]
  cases hq : pidx a b l with
  | none => simp [lookF, (pidx_no a b l hq).1]
  | some t =>
    obtain ⟨h1, h2, _, _⟩ := pidx_at a b l t 0 hq
    simp [lookF, List.getD, h2]
theorem mapEntryO_pair (H : Heap) (n id : Nat) (l : List (Nat × Nat × Nat)) (a b : Nat) : mapEntryO (.arr 2) (.int .i64 0) (pkey a b) id H n (some (.map (ents l 0) l.length)) =
    some ⟨.tup [.int .i64 (pcnt a b l), .int .i64 (pslot a b l)], H.set id (.map (ents (pmid a b l) 0) (pmid a b l).length), n, ⟨[], [id], false⟩⟩ := by
  simp only [mapEntryO, findIn_pair]
  cases hq : pidx a b l with
  | none => simp [pslot, pmid, hq, (pidx_no a b l hq).1, ents_append, ents]
  | some t =>
    obtain ⟨h1, h2, _, _⟩ := pidx_at a b l t 0 hq
    have h3 : (ents l 0).set t (pkey a b, .int .i64 (pcnt a b l), 0 + t) = ents l 0 := by
      apply List.ext_getElem?
      intro i
      by_cases e : i = t
      · subst e; rw [h2, List.getElem?_set_self (by rw [ents_len]; exact h1)]
      · rw [List.getElem?_set_ne (Ne.symm e)]
    simp only [Nat.zero_add] at h2 h3
    simp [pslot, pmid, hq, List.getD, h2, h3]
theorem pcnt_mid (a b : Nat) (l : List (Nat × Nat × Nat)) : pcnt a b (pmid a b l) = pcnt a b l := by
  have app : ∀ l : List (Nat × Nat × Nat), pidx a b l = none → pcnt a b (l ++ [(a, b, 0)]) = 0 := by
    intro l
    induction l with
    | nil => intro _; simp [pcnt]
    | cons x l ih =>
      obtain ⟨x, y, c⟩ := x
      intro h
      simp only [pidx] at h
      by_cases e : x = a ∧ y = b
      · simp [e] at h
      · simp only [e, if_false, Option.map_eq_none_iff] at h
        simp only [List.cons_append, pcnt, e, if_false]
        exact ih h
  simp only [pmid]
  cases hq : pidx a b l with
  | none => rw [(pidx_no a b l hq).1]; exact app l hq
  | some t => rfl
theorem entrySetO_pair (H : Heap) (n id : Nat) (l : List (Nat × Nat × Nat)) (a b c : Nat) (hc : c = pcnt a b l + 1) : entrySetO (pslot a b l : Nat) (.int .i64 c) id H n (some (.map (ents (pmid a b l) 0) (pmid a b l).length)) =
    some ⟨.tup [], H.set id (.map (ents (pinc a b l) 0) (pinc a b l).length), n, ⟨[], [id], false⟩⟩ := by
  simp only [entrySetO]
  cases hq : pidx a b l with
  | none =>
    obtain ⟨h1, h2⟩ := pidx_no a b l hq
    have hb := birth_at (l ++ [(a, b, 0)]) l.length 0 (by simp)
    rw [Nat.zero_add] at hb
    simp only [pslot, pmid, hq, hb]
    rw [h1] at hc
    subst hc
    rw [h2, ents_append, ents_append]
    simp [ents, ents_len, List.getD]
  | some t =>
    obtain ⟨h1, h2, h3, h4⟩ := pidx_at a b l t 0 hq
    have hb := birth_at l t 0 h1
    have h3' := h3 c hc
    simp only [Nat.zero_add] at hb h2 h3'
    simp only [pslot, pmid, hq, hb]
    simp [List.getD, h2, h3', h4]
end
theorem Acc.other {ac n im : Nat} {o : Obj} {W : List Nat} {H : Heap} {tv uv : PV} {tl ul : List Nat} (h : Acc ac o W n H tv uv tl ul) (hx : im ∉ W) (x : Obj) : Acc ac o W n (H.set im x) tv uv tl ul where
  a := by rw [get_other _ _ (show im ≠ ac from fun e => hx (e ▸ h.wa))]; exact h.a
  wa := h.wa
  t := by
    rcases h.t with c | ⟨id, h1, h2⟩
    · exact .inl c
    · exact .inr ⟨id, h1, h2.same (get_other _ _ (fun e => hx (e ▸ h1)))⟩
  u := by
    rcases h.u with c | ⟨id, h1, h2⟩
    · exact .inl c
    · exact .inr ⟨id, h1, h2.same (get_other _ _ (fun e => hx (e ▸ h1)))⟩
  sep := h.sep
  na := h.na
  old := h.old
abbrev vobj (tv uv : PV) (im : Nat) : Obj := .arr 0 3 [[tv, uv, .map im]]
structure VSt (iv im : Nat) (W : List Nat) (n : Nat) (H : Heap) (tv uv : PV) (tl ul : List Nat) (l : List (Nat × Nat × Nat)) (c : Nat) : Prop where
  acc : Acc iv (vobj tv uv im) W n H tv uv tl ul
  hm : H.get im = some (.map (ents l 0) l.length)
  lm : im < n
  wm : im ∉ W
  m0 : ∀ x, x ∈ tl ↔ 0 < pcnt 0 x l
  m1 : ∀ x, x ∈ ul ↔ 0 < pcnt 1 x l
  d0 : tl.Nodup
  d1 : ul.Nodup
  cn : ∀ a b, pcnt a b l ≤ c
  lt : tl.length ≤ c
  lu : ul.length ≤ c
section
variable {iv im : Nat}
theorem VSt.one {W : List Nat} {n : Nat} {H : Heap} {tv uv : PV} {tl ul : List Nat} {l : List (Nat × Nat × Nat)} {c : Nat} (h : VSt iv im W n H tv uv tl ul l c) {a : Nat} (ha : a = 0 ∨ a = 1) (k : Nat) (hc : c < 1000000) {r : PV} {x1 x2 x5 x6 x3 x7 x8 x9 : PV} {m : List Nat} {i : Nat} (hi : i < m.length) (hk : m[i] = k) (hml : m.length < 1000000) {fl : Fl} :
    ∃ (H' : Heap) (n' : Nat) (W' : List Nat) (tv' uv' : PV) (y3 y8 y9 : PV), codeL Gf (.loop B_64_0) ⟨[.ptr iv 0 3 0 0, .int .i64 a, x2, x3, .data 1 (irows m) fl, .int .i64 m.length, .int .i64 i, x7, x8, x9], H, n⟩ =
        codeL Gf (.loop B_64_0) ⟨[.ptr iv 0 3 0 0, .int .i64 a, x2, y3, .data 1 (irows m) fl, .int .i64 m.length, .int .i64 (i + 1 : Nat), .bool true, y8, y9], H', n'⟩ ∧
      (∃ tl' ul' l', VSt iv im W' n' H' tv' uv' tl' ul' l' (c + 1) ∧ (∀ x, x ∈ tl' ↔ x ∈ tl ∨ (a = 0 ∧ x = k)) ∧ (∀ x, x ∈ ul' ↔ x ∈ ul ∨ (a = 1 ∧ x = k))) ∧ Stp (im :: W) n H (im :: W') n' H' := by
  have hrow := irows_at hi []
  rw [List.append_nil, hk] at hrow
  have hix : idxAddrV 1 (.data 1 (irows m) fl) (.int .i64 (i : Nat)) = some (.dp fl.isTmp [.int .i64 k] 0) := idxAddr_data 1 _ fl .i64 i _ hrow
  have hA := h.acc
  have hiv := hA.a
  have hneq : im ≠ iv := fun e => h.wm (e ▸ hA.wa)
  have hcn := h.cn a k
  -- the count
  generalize hH1 : H.set im (.map (ents (pinc a k l) 0) (pinc a k l).length) = H1
  have hA1 : Acc iv (vobj tv uv im) W n H1 tv uv tl ul := by rw [← hH1]; exact hA.other h.wm _
  have hm1 : H1.get im = some (.map (ents (pinc a k l) 0) (pinc a k l).length) := by rw [← hH1, get_same]
  have hiv1 := hA1.a
  have e1 := lookO_pair H n im l a k
  have e2 := mapEntryO_pair H n im l a k
  have e3 := entrySetO_pair (H.set im (.map (ents (pmid a k l) 0) (pmid a k l).length)) n im l a k (pcnt a k l + 1) rfl
  rw [set_set, hH1] at e3
  have e4 := lookO_pair H1 n im (pinc a k l) a k
  have e5 := lookO_pair (H.set im (.map (ents (pmid a k l) 0) (pmid a k l).length)) n im (pmid a k l) a k
  have hc2 : pcnt a k (pinc a k l) = pcnt a k l + 1 := by rw [pcnt_inc]; simp
  rw [hc2] at e4
  rw [pcnt_mid] at e5
  simp only [pkey] at e1 e2 e3 e4 e5
  have st1 : Stp (im :: W) n H (im :: W) n H1 := ⟨fun id a b => by rw [← hH1]; exact get_other _ _ (fun e => b (by simp [e])), fun _ h => .inl h, Nat.le_refl _⟩
  by_cases h0 : pcnt a k l = 0
  · have hstl : Stp (im :: W) n H (im :: W) n H1 := st1
    have hwid : ∀ (n' : Nat) (W' : List Nat) (H' : Heap), Stp W n H1 W' n' H' → Stp (im :: W) n H (im :: W') n' H' ∧ im ∉ W' := by
      intro n' W' H' st
      refine ⟨st1.trans ⟨fun id a b => st.same id a (fun e => b (List.mem_cons_of_mem _ e)), fun x hx => ?_, st.le⟩, st.out h.lm h.wm⟩
      rcases List.mem_cons.1 hx with rfl | hx
      · exact .inl (by simp)
      · rcases st.sub x hx with e | e
        · exact .inl (List.mem_cons_of_mem _ e)
        · exact .inr e
    have hcinc : ∀ a' b', pcnt a' b' (pinc a k l) ≤ c + 1 := fun a' b' => by
      rw [pcnt_inc]
      have := h.cn a' b'
      split <;> omega
    rcases ha with rfl | rfl
    · have hnin : k ∉ tl := fun hm => by have := (h.m0 k).1 hm; omega
      obtain ⟨v', H2, n', fp, W', e6, g1, g2, g3, g4, g5⟩ := hA1.addT [k] [] (by have := h.lt; simp only [List.length_singleton]; omega)
      obtain ⟨hA2, st2⟩ := g5 (vobj v' uv im)
      obtain ⟨st3, wm3⟩ := hwid _ _ _ st2
      refine ⟨H2.set iv (vobj v' uv im), n', W', v', uv, .int .i64 k, .bool false, .bool true, ?_, ⟨tl ++ [k], ul, pinc 0 k l, ⟨hA2, st2.get h.lm h.wm hm1, by have := h.lm; omega, wm3, fun x => ?_, fun x => ?_, ?_, h.d1, hcinc, by have := h.lt; simp; omega, by have := h.lu; omega⟩, fun x => by simp, fun x => by simp⟩, st3⟩
      · refine codeL_loop_iff ?_
        have e6' : appendV 1 8 tv [[.int .i64 k]] [] H1 n = some ⟨v', H2, n', fp⟩ := e6
        have e40 := e4
        rw [h0] at e40
        have h00 : ((((0 : Nat) : Nat) : Int) == 0) = true := rfl
        simp (disch := omega) only [go_sem, Nat.reduceAdd, Nat.reduceMul, Nat.reduceLeDiff, B_64_0, hix, hiv, h.hm, e1, op_mapEntry, mapEntryV_map, e2, op_entrySet, entrySetV_map, get_same, e3, cast_add1]
        rw [ordIf_ok]
        · obtain ⟨rd, wr, al⟩ := fp
          cases wr <;> cases al <;> simp (disch := omega) only [go_sem, Nat.reduceAdd, Nat.reduceLeDiff, Nat.reduceBEq, Nat.reduceLT, hiv1, hm1, e40, h00, e6', g1, g2, cast_add1]
        · refine orderly_mix (by simp [M_64_0]) 2560 rfl _ K_64_0 ?_
          intro x hx
          simp only [List.mem_cons, List.not_mem_nil, or_false] at hx
          rcases hx with rfl | rfl
          · exact .inl rfl
          · refine .inr (.inl (free_of [9] 2560 rfl (by simp) rfl rfl ?_ ?_))
            · simp (disch := omega) only [go_sem, freeAt, h.hm, e1]
            · intro j hj
              simp only [List.mem_cons, List.not_mem_nil, or_false] at hj
              subst hj
              simp (disch := omega) only [go_sem, Nat.reduceAdd, Nat.reduceLeDiff, freeAt, hiv, h.hm, e1, op_mapEntry, mapEntryV_map, e2, get_same, e5, cast_add1]
      · rw [List.mem_append, List.mem_singleton, h.m0, pcnt_inc]
        by_cases e : x = k
        · subst e; simp
        · simp [e, Ne.symm e]
      · rw [h.m1, pcnt_inc]; simp
      · rw [List.nodup_append]
        exact ⟨h.d0, by simp, fun x hx y hy => by simp only [List.mem_singleton] at hy; subst hy; rintro rfl; exact hnin hx⟩
    · have hnin : k ∉ ul := fun hm => by have := (h.m1 k).1 hm; omega
      obtain ⟨v', H2, n', fp, W', e6, g1, g2, g3, g4, g5⟩ := hA1.swap.addT [k] [] (by have := h.lu; simp only [List.length_singleton]; omega)
      obtain ⟨hA2, st2⟩ := g5 (vobj tv v' im)
      obtain ⟨st3, wm3⟩ := hwid _ _ _ st2
      refine ⟨H2.set iv (vobj tv v' im), n', W', tv, v', .int .i64 k, .bool false, .bool false, ?_, ⟨tl, ul ++ [k], pinc 1 k l, ⟨hA2.swap, st2.get h.lm h.wm hm1, by have := h.lm; omega, wm3, fun x => ?_, fun x => ?_, h.d0, ?_, hcinc, by have := h.lt; omega, by have := h.lu; simp; omega⟩, fun x => by simp, fun x => by simp⟩, st3⟩
      · refine codeL_loop_iff ?_
        have e6' : appendV 1 8 uv [[.int .i64 k]] [] H1 n = some ⟨v', H2, n', fp⟩ := e6
        have e40 := e4
        rw [h0] at e40
        have h00 : ((((1 : Nat) : Nat) : Int) == 0) = false := rfl
        simp (disch := omega) only [go_sem, Nat.reduceAdd, Nat.reduceMul, Nat.reduceLeDiff, B_64_0, hix, hiv, h.hm, e1, op_mapEntry, mapEntryV_map, e2, op_entrySet, entrySetV_map, get_same, e3, cast_add1]
        rw [ordIf_ok]
        · obtain ⟨rd, wr, al⟩ := fp
          cases wr <;> cases al <;> simp (disch := omega) only [go_sem, Nat.reduceAdd, Nat.reduceLeDiff, Nat.reduceBEq, Nat.reduceLT, hiv1, hm1, e40, h00, e6', g1, g2, cast_add1]
        · refine orderly_mix (by simp [M_64_0]) 2560 rfl _ K_64_0 ?_
          intro x hx
          simp only [List.mem_cons, List.not_mem_nil, or_false] at hx
          rcases hx with rfl | rfl
          · exact .inl rfl
          · refine .inr (.inl (free_of [9] 2560 rfl (by simp) rfl rfl ?_ ?_))
            · simp (disch := omega) only [go_sem, freeAt, h.hm, e1]
            · intro j hj
              simp only [List.mem_cons, List.not_mem_nil, or_false] at hj
              subst hj
              simp (disch := omega) only [go_sem, Nat.reduceAdd, Nat.reduceLeDiff, freeAt, hiv, h.hm, e1, op_mapEntry, mapEntryV_map, e2, get_same, e5, cast_add1]
      · rw [h.m0, pcnt_inc]; simp
      · rw [List.mem_append, List.mem_singleton, h.m1, pcnt_inc]
        by_cases e : x = k
        · subst e; simp
        · simp [e, Ne.symm e]
      · rw [List.nodup_append]
        exact ⟨h.d1, by simp, fun x hx y hy => by simp only [List.mem_singleton] at hy; subst hy; rintro rfl; exact hnin hx⟩
  · -- it has been there
    refine ⟨H1, n, W, tv, uv, .int .i64 k, .bool true, x9, ?_, ⟨tl, ul, pinc a k l, ⟨hA1, hm1, h.lm, h.wm, fun x => ?_, fun x => ?_, h.d0, h.d1, fun a' b' => ?_, by have := h.lt; omega, by have := h.lu; omega⟩, fun x => ?_, fun x => ?_⟩, st1⟩
    · refine codeL_loop_iff ?_
      simp (disch := omega) only [go_sem, Nat.reduceAdd, Nat.reduceMul, Nat.reduceLeDiff, B_64_0, hix, hiv, h.hm, e1, op_mapEntry, mapEntryV_map, e2, op_entrySet, entrySetV_map, get_same, e3, cast_add1]
      rw [ordIf_ok]
      · simp (disch := omega) only [go_sem, Nat.reduceAdd, Nat.reduceLeDiff, hiv1, hm1, e4, cast_add1]
      · refine orderly_mix (by simp [M_64_0]) 2560 rfl _ K_64_0 ?_
        intro x hx
        simp only [List.mem_cons, List.not_mem_nil, or_false] at hx
        rcases hx with rfl | rfl
        · exact .inl rfl
        · refine .inr (.inl (free_of [9] 2560 rfl (by simp) rfl rfl ?_ ?_))
          · simp (disch := omega) only [go_sem, freeAt, h.hm, e1]
          · intro j hj
            simp only [List.mem_cons, List.not_mem_nil, or_false] at hj
            subst hj
            simp (disch := omega) only [go_sem, Nat.reduceAdd, Nat.reduceLeDiff, freeAt, hiv, h.hm, e1, op_mapEntry, mapEntryV_map, e2, get_same, e5, cast_add1]
    · rw [h.m0, pcnt_inc]
      split
      · rename_i e; obtain ⟨rfl, rfl⟩ := e; omega
      · simp
    · rw [h.m1, pcnt_inc]
      split
      · rename_i e; obtain ⟨rfl, rfl⟩ := e; omega
      · simp
    · rw [pcnt_inc]
      have := h.cn a' b'
      split <;> omega
    · refine ⟨.inl, fun e => e.elim (fun e => e) (fun e => ?_)⟩
      obtain ⟨rfl, rfl⟩ := e
      rw [h.m0]; omega
    · refine ⟨.inl, fun e => e.elim (fun e => e) (fun e => ?_)⟩
      obtain ⟨rfl, rfl⟩ := e
      rw [h.m1]; omega
theorem add_loop {a : Nat} (ha : a = 0 ∨ a = 1) {m : List Nat} {fl : Fl} (hml : m.length < 1000000) {x2 : PV} : ∀ (d i : Nat) (W : List Nat) (n : Nat) (H : Heap) (tv uv : PV) (tl ul : List Nat) (l : List (Nat × Nat × Nat)) (c : Nat) (x3 x7 x8 x9 : PV), m.length - i = d → i ≤ m.length → VSt iv im W n H tv uv tl ul l c → c + d < 1000000 →
    ∃ (H' : Heap) (n' : Nat) (W' : List Nat) (tv' uv' : PV) (T : List PV), codeL Gf (.loop B_64_0) ⟨[.ptr iv 0 3 0 0, .int .i64 a, x2, x3, .data 1 (irows m) fl, .int .i64 m.length, .int .i64 i, x7, x8, x9], H, n⟩ = some (.exit 0, ⟨T, H', n'⟩) ∧
      (∃ tl' ul' l', VSt iv im W' n' H' tv' uv' tl' ul' l' (c + d) ∧ (∀ x, x ∈ tl' ↔ x ∈ tl ∨ (a = 0 ∧ x ∈ m.drop i)) ∧ (∀ x, x ∈ ul' ↔ x ∈ ul ∨ (a = 1 ∧ x ∈ m.drop i))) ∧ Stp (im :: W) n H (im :: W') n' H' := by
  intro d
  induction d with
  | zero =>
    intro i W n H tv uv tl ul l c x3 x7 x8 x9 hd hi h hc
    have : i = m.length := by omega
    subst this
    refine ⟨H, n, W, tv, uv, [.ptr iv 0 3 0 0, .int .i64 a, x2, x3, .data 1 (irows m) fl, .int .i64 m.length, .int .i64 m.length, .bool false, x8, x9], codeL_loop_end ?_ (by simp), ⟨tl, ul, l, h, fun x => by simp, fun x => by simp⟩, .refl _ _ _⟩
    simp (disch := omega) only [go_sem, B_64_0]
  | succ d ih =>
    intro i W n H tv uv tl ul l c x3 x7 x8 x9 hd hi h hc
    have hil : i < m.length := by omega
    obtain ⟨H1, n1, W1, tv1, uv1, y3, y8, y9, e1, ⟨tl1, ul1, l1, h1, k1, k2⟩, st1⟩ := h.one ha m[i] (by omega) (r := .nils) (x1 := .nils) (x2 := x2) (x5 := .nils) (x6 := .nils) (x3 := x3) (x7 := x7) (x8 := x8) (x9 := x9) hil rfl hml (fl := fl)
    obtain ⟨H2, n2, W2, tv2, uv2, T, e2, ⟨tl2, ul2, l2, h2, k3, k4⟩, st2⟩ := ih (i + 1) W1 n1 H1 tv1 uv1 tl1 ul1 l1 (c + 1) y3 (.bool true) y8 y9 (by omega) (by omega) h1 (by omega)
    have hdr : m.drop i = m[i] :: m.drop (i + 1) := List.drop_eq_getElem_cons hil
    refine ⟨H2, n2, W2, tv2, uv2, T, e1.trans e2, ⟨tl2, ul2, l2, by rw [show c + (d + 1) = c + 1 + d by omega]; exact h2, fun x => ?_, fun x => ?_⟩, st1.trans st2⟩
    · rw [k3, k1, hdr, List.mem_cons]
      constructor
      · rintro ((e | ⟨e, f⟩) | ⟨e, f⟩)
        · exact .inl e
        · exact .inr ⟨e, .inl f⟩
        · exact .inr ⟨e, .inr f⟩
      · rintro (e | ⟨e, f | f⟩)
        · exact .inl (.inl e)
        · exact .inl (.inr ⟨e, f⟩)
        · exact .inr ⟨e, f⟩
    · rw [k4, k2, hdr, List.mem_cons]
      constructor
      · rintro ((e | ⟨e, f⟩) | ⟨e, f⟩)
        · exact .inl e
        · exact .inr ⟨e, .inl f⟩
        · exact .inr ⟨e, .inr f⟩
      · rintro (e | ⟨e, f | f⟩)
        · exact .inl (.inl e)
        · exact .inl (.inr ⟨e, f⟩)
        · exact .inr ⟨e, f⟩
theorem add_run {a : Nat} (ha : a = 0 ∨ a = 1) {m : List Nat} {r : PV} (hr : IR r m) {W : List Nat} {n : Nat} {H : Heap} {tv uv : PV} {tl ul : List Nat} {l : List (Nat × Nat × Nat)} {c : Nat} (h : VSt iv im W n H tv uv tl ul l c) (hc : c + m.length < 1000000) :
    ∃ (H' : Heap) (n' : Nat) (W' : List Nat) (tv' uv' : PV), Gf 64 [.ptr iv 0 3 0 0, .int .i64 a, r] H n = some (.tup [], H', n') ∧
      (∃ tl' ul' l', VSt iv im W' n' H' tv' uv' tl' ul' l' (c + m.length) ∧ (∀ x, x ∈ tl' ↔ x ∈ tl ∨ (a = 0 ∧ x ∈ m)) ∧ (∀ x, x ∈ ul' ↔ x ∈ ul ∨ (a = 1 ∧ x ∈ m))) ∧ Stp (im :: W) n H (im :: W') n' H' := by
  rcases hr with ⟨rfl, rfl⟩ | ⟨fl, rfl⟩
  · refine ⟨H, n, W, tv, uv, ?_, ⟨tl, ul, l, h, fun x => by simp, fun x => by simp⟩, .refl _ _ _⟩
    rw [R_64]
    have : codeL Gf (.loop B_64_0) ⟨[.ptr iv 0 3 0 0, .int .i64 a, .nils, .tup [], .nils, .int .i64 0, .int .i64 0, .tup [], .tup [], .tup []], H, n⟩ = some (.exit 0, ⟨[.ptr iv 0 3 0 0, .int .i64 a, .nils, .tup [], .nils, .int .i64 0, .int .i64 0, .bool false, .tup [], .tup []], H, n⟩) := by
      refine codeL_loop_end ?_ (by simp)
      simp (disch := omega) only [go_sem, Int.reduceLT, B_64_0]
    simp (disch := omega) only [go_sem, G_64, this]
  · obtain ⟨H', n', W', tv', uv', T, e, ⟨tl', ul', l', h', k1, k2⟩, st⟩ := add_loop ha (m := m) (fl := fl) (by omega) (x2 := .data 1 (irows m) fl) _ 0 W n H tv uv tl ul l c (.tup []) (.tup []) (.tup []) (.tup []) rfl (by omega) h (by omega)
    rw [show ((0 : Nat) : Int) = 0 from rfl] at e
    refine ⟨H', n', W', tv', uv', ?_, ⟨tl', ul', l', by simpa using h', by simpa using k1, by simpa using k2⟩, st⟩
    have hlx : lenX .slice H n (.data 1 (irows m) fl) = some ⟨.int .i64 (m.length : Nat), H, n, .no⟩ := by simp [lenX, irows]
    rw [R_64]
    simp (disch := omega) only [go_sem, G_64, hlx, e]
end
def gaS (x0 x1 x2 x3 x4 x5 x6 x7 x8 x9 x10 x11 x12 x13 x14 x15 x16 x17 x18 x19 x20 x21 x22 x23 x24 : PV) : List PV := [x0, x1, x2, x3, x4, x5, x6, x7, x8, x9, x10, x11, x12, x13, x14, x15, x16, x17, x18, x19, x20, x21, x22, x23, x24]
structure SideOk (uvs : PV → List Nat) (t : Ty) : Prop where
  ok : TyOk t
  vars : VarsOk uvs t.pre
  few : (t.pre.flatMap (nodeU uvs)).length < 10000
def cost (uvs : PV → List Nat) (t : Ty) : Nat := 256 + (t.pre.flatMap (nodeU uvs)).length
section
variable {iv im : Nat} {uvs : PV → List Nat}
theorem side_one {W : List Nat} {n : Nat} {H : Heap} {tv uv : PV} {tl ul : List Nat} {l : List (Nat × Nat × Nat)} {c : Nat} (h : VSt iv im W n H tv uv tl ul l c) {rows : List (List PV)} {fl : Fl} {j : Nat} {t : Ty} {row : List PV} (hj : rows[j]? = some row) (hj2 : j < 1000) (hlen : rows.length = 2)
    (hrow : TyR row t) (ht : SideOk uvs t) (hc : c + cost uvs t < 1000000) {x0 x1 x2 x3 x5 x6 x7 x8 x9 x10 x11 x12 x13 x14 x18 x19 x20 x21 x22 x23 x24 : PV} :
    ∃ (H' : Heap) (n' : Nat) (W' : List Nat) (tv' uv' : PV) (y6 y7 y8 : PV) (c' : Nat), codeL Gf (.loop B_26_1) ⟨gaS x0 x1 x2 x3 (.ptr iv 0 3 0 0) x5 x6 x7 x8 x9 x10 x11 x12 x13 x14 (.data 5 rows fl) (.int .i64 2) (.int .i64 j) x18 x19 x20 x21 x22 x23 x24, H, n⟩ =
        codeL Gf (.loop B_26_1) ⟨gaS x0 x1 x2 x3 (.ptr iv 0 3 0 0) x5 y6 y7 y8 x9 x10 x11 x12 x13 x14 (.data 5 rows fl) (.int .i64 2) (.int .i64 (j + 1 : Nat)) (.bool true) (.bool false) x20 x21 x22 x23 x24, H', n'⟩ ∧
      (∃ tl' ul' l', VSt iv im W' n' H' tv' uv' tl' ul' l' c' ∧ (∀ x, x ∈ tl' ↔ x ∈ tl ∨ x ∈ t.pre.flatMap tvar) ∧ (∀ x, x ∈ ul' ↔ x ∈ ul ∨ x ∈ t.pre.flatMap (nodeU uvs))) ∧ Stp (im :: W) n H (im :: W') n' H' ∧ c' ≤ c + cost uvs t := by
  obtain ⟨a, u, hrw, hta, hus⟩ := id hrow.five
  have ca := tys_cells hta
  have cu := us_cells hus
  have hjl : j < 2 := by
    have := (List.getElem?_eq_some_iff.1 hj).1
    omega
  have hix : idxAddrV 5 (.data 5 rows fl) (.int .i64 (j : Nat)) = some (.dp fl.isTmp row 0) := idxAddr_data 5 _ fl .i64 j _ hj
  have e62 := check_run ht.ok hrow
  obtain ⟨r1, r2, l1, l2, e63, i1, i2, k1, k2, s1, s2⟩ := vars_run ht.ok ht.vars ht.few hrow
  have hfew := ht.few
  unfold cost at hc ⊢
  generalize hH1 : H.set n (.arr 0 5 [row]) = H1
  have h1 : ∀ id, id < n → H1.get id = H.get id := fun id hid => by rw [← hH1]; exact get_other _ _ (by omega)
  have hn1 : H1.get n = some (.arr 0 5 [row]) := by rw [← hH1, get_same]
  have st1 : Stp (im :: W) n H (im :: W) (n + 1) H1 := .fresh h1 (by omega)
  have v1 : VSt iv im W (n + 1) H1 tv uv tl ul l c := ⟨h.acc.keep h1 (by omega), (h1 _ h.lm).trans h.hm, by have := h.lm; omega, h.wm, h.m0, h.m1, h.d0, h.d1, h.cn, h.lt, h.lu⟩
  have htw := fun H => thaw_row hrow H
  obtain ⟨H2, n2, W2, tv2, uv2, e2, ⟨tl2, ul2, l2', v2, p2, q2⟩, st2⟩ := add_run (a := 0) (.inl rfl) i1 v1 (by omega)
  obtain ⟨H3, n3, W3, tv3, uv3, e3, ⟨tl3, ul3, l3, v3, p3, q3⟩, st3⟩ := add_run (a := 1) (.inr rfl) i2 v2 (by omega)
  rw [show ((0 : Nat) : Int) = 0 from rfl] at e2
  rw [show ((1 : Nat) : Int) = 1 from rfl] at e3
  refine ⟨H3, n3, W3, tv3, uv3, .ptr n 0 5 0 0, r1, r2, _, ?_, ⟨tl3, ul3, l3, v3, fun x => ?_, fun x => ?_⟩, (st1.trans st2).trans st3, by omega⟩
  · refine codeL_loop_iff ?_
    subst hrw
    simp (disch := omega) only [go_sem, Nat.reduceAdd, Nat.reduceLeDiff, B_26_1, gaS, hix, get_same, set_set, hH1, hn1, htw, e62, e63, e2, e3, cast_add1]
  · rw [p3, p2, k1]; simp
  · rw [q3, q2, k2]; simp
theorem pairs_loop {K : Nat} {ps : List (Ty × Ty)} {xs : List (List PV)} {fl : Fl} (hxl : xs.length = ps.length) (hxs : ∀ i, (h : i < ps.length) → ∃ rl rr, xs[i]? = some (rl ++ rr) ∧ TyR rl ps[i].1 ∧ TyR rr ps[i].2)
    (hfl : ∀ r ∈ xs, r.all flat = true) (hok : ∀ p ∈ ps, SideOk uvs p.1 ∧ SideOk uvs p.2 ∧ cost uvs p.1 + cost uvs p.2 ≤ K) {x0 x1 x2 x3 x10 x20 x21 x22 x23 x24 : PV} : ∀ (d t : Nat) (W : List Nat) (n : Nat) (H : Heap) (tv uv : PV) (tl ul : List Nat) (l : List (Nat × Nat × Nat)) (c : Nat) (x5 x6 x7 x8 x9 x14 x15 x16 x17 x18 x19 : PV), ps.length - t = d → t ≤ ps.length → ps.length < 1000000 →
      VSt iv im W n H tv uv tl ul l c → c + K * d < 900000 →
      ∃ (H' : Heap) (n' : Nat) (W' : List Nat) (tv' uv' : PV) (y5 y6 y7 y8 y14 y15 y16 y17 y18 y19 : PV) (c' : Nat), codeL Gf (.loop B_26_2) ⟨gaS x0 x1 x2 x3 (.ptr iv 0 3 0 0) x5 x6 x7 x8 x9 x10 (.data 10 xs fl) (.int .i64 ps.length) (.int .i64 t) x14 x15 x16 x17 x18 x19 x20 x21 x22 x23 x24, H, n⟩ =
          some (.exit 0, ⟨gaS x0 x1 x2 x3 (.ptr iv 0 3 0 0) y5 y6 y7 y8 x9 x10 (.data 10 xs fl) (.int .i64 ps.length) (.int .i64 ps.length) y14 y15 y16 y17 y18 y19 x20 x21 x22 x23 x24, H', n'⟩) ∧
        (∃ tl' ul' l', VSt iv im W' n' H' tv' uv' tl' ul' l' c' ∧ (∀ x, x ∈ tl' ↔ x ∈ tl ∨ ∃ p ∈ ps.drop t, x ∈ p.1.pre.flatMap tvar ∨ x ∈ p.2.pre.flatMap tvar) ∧ (∀ x, x ∈ ul' ↔ x ∈ ul ∨ ∃ p ∈ ps.drop t, x ∈ p.1.pre.flatMap (nodeU uvs) ∨ x ∈ p.2.pre.flatMap (nodeU uvs))) ∧ Stp (im :: W) n H (im :: W') n' H' ∧ c' ≤ c + K * d := by
  intro d
  induction d with
  | zero =>
    intro t W n H tv uv tl ul l c x5 x6 x7 x8 x9 x14 x15 x16 x17 x18 x19 hd ht hpl h hc
    have : t = ps.length := by omega
    subst this
    refine ⟨H, n, W, tv, uv, x5, x6, x7, x8, .bool false, x15, x16, x17, x18, x19, c, codeL_loop_end ?_ (by simp), ⟨tl, ul, l, h, fun x => by simp, fun x => by simp⟩, .refl _ _ _, by omega⟩
    simp (disch := omega) only [go_sem, B_26_2, gaS]
  | succ d ih =>
    intro t W n H tv uv tl ul l c x5 x6 x7 x8 x9 x14 x15 x16 x17 x18 x19 hd ht hpl h hc
    have htl : t < ps.length := by omega
    obtain ⟨rl, rr, hat, hrl, hrr⟩ := hxs t htl
    obtain ⟨ok1, ok2, hK⟩ := hok ps[t] (List.getElem_mem htl)
    have hKd : K * (d + 1) = K * d + K := Nat.mul_succ K d
    obtain ⟨a1, u1, hw1, ta1, us1⟩ := id hrl.five
    obtain ⟨a2, u2, hw2, ta2, us2⟩ := id hrr.five
    have ca1 := tys_cells ta1
    have cu1 := us_cells us1
    have ca2 := tys_cells ta2
    have cu2 := us_cells us2
    have hff := hfl _ (List.mem_of_getElem? hat)
    have hfb : (flat a1 && flat u1 && (flat a2 && flat u2)) = true := by
      rw [hw1, hw2] at hff
      simpa [flat, and_assoc] using hff
    have hix : idxAddrV 10 (.data 10 xs fl) (.int .i64 (t : Nat)) = some (.dp fl.isTmp (rl ++ rr) 0) := idxAddr_data 10 _ fl .i64 t _ hat
    generalize hH1 : H.set n (.arr 0 10 [rl ++ rr]) = H1
    have h1 : ∀ id, id < n → H1.get id = H.get id := fun id hid => by rw [← hH1]; exact get_other _ _ (by omega)
    have hn1 : H1.get n = some (.arr 0 10 [rl ++ rr]) := by rw [← hH1, get_same]
    have st1 : Stp (im :: W) n H (im :: W) (n + 1) H1 := .fresh h1 (by omega)
    have v1 : VSt iv im W (n + 1) H1 tv uv tl ul l c := ⟨h.acc.keep h1 (by omega), (h1 _ h.lm).trans h.hm, by have := h.lm; omega, h.wm, h.m0, h.m1, h.d0, h.d1, h.cn, h.lt, h.lu⟩
    obtain ⟨H2, n2, W2, tv2, uv2, y6, y7, y8, c2, e2, ⟨tl2, ul2, l2, v2, p2, q2⟩, st2, cc2⟩ := side_one v1 (rows := [rl, rr]) (fl := .full) (j := 0) rfl (by omega) rfl hrl ok1 (by omega) (x0 := x0) (x1 := x1) (x2 := x2) (x3 := x3) (x5 := .ptr n 0 10 0 0) (x6 := x6) (x7 := x7) (x8 := x8) (x9 := x9) (x10 := x10) (x11 := .data 10 xs fl) (x12 := .int .i64 ps.length) (x13 := .int .i64 t) (x14 := .bool true) (x18 := x18) (x19 := x19) (x20 := x20) (x21 := x21) (x22 := x22) (x23 := x23) (x24 := x24)
    obtain ⟨H3, n3, W3, tv3, uv3, z6, z7, z8, c3, e3, ⟨tl3, ul3, l3, v3, p3, q3⟩, st3, cc3⟩ := side_one v2 (rows := [rl, rr]) (fl := .full) (j := 1) rfl (by omega) rfl hrr ok2 (by omega) (x0 := x0) (x1 := x1) (x2 := x2) (x3 := x3) (x5 := .ptr n 0 10 0 0) (x6 := y6) (x7 := y7) (x8 := y8) (x9 := x9) (x10 := x10) (x11 := .data 10 xs fl) (x12 := .int .i64 ps.length) (x13 := .int .i64 t) (x14 := .bool true) (x18 := .bool true) (x19 := .bool false) (x20 := x20) (x21 := x21) (x22 := x22) (x23 := x23) (x24 := x24)
    have e4 : codeL Gf (.loop B_26_1) ⟨gaS x0 x1 x2 x3 (.ptr iv 0 3 0 0) (.ptr n 0 10 0 0) z6 z7 z8 x9 x10 (.data 10 xs fl) (.int .i64 ps.length) (.int .i64 t) (.bool true) (.data 5 [rl, rr] .full) (.int .i64 2) (.int .i64 2) (.bool true) (.bool false) x20 x21 x22 x23 x24, H3, n3⟩ =
        some (.exit 2, ⟨gaS x0 x1 x2 x3 (.ptr iv 0 3 0 0) (.ptr n 0 10 0 0) z6 z7 z8 x9 x10 (.data 10 xs fl) (.int .i64 ps.length) (.int .i64 t) (.bool true) (.data 5 [rl, rr] .full) (.int .i64 2) (.int .i64 2) (.bool false) (.bool false) x20 x21 x22 x23 x24, H3, n3⟩) := by
      refine codeL_loop_end ?_ (by simp)
      simp (disch := omega) only [go_sem, Int.reduceLT, B_26_1, gaS]
    have e24 := e2.trans (e3.trans e4)
    obtain ⟨H5, n5, W5, tv5, uv5, y5, w6, w7, w8, y14, y15, y16, y17, y18, y19, c5, e5, ⟨tl5, ul5, l5, v5, p5, q5⟩, st5, cc5⟩ := ih (t + 1) W3 n3 H3 tv3 uv3 tl3 ul3 l3 c3 (.ptr n 0 10 0 0) z6 z7 z8 x9 (.bool true) (.data 5 [rl, rr] .full) (.int .i64 2) (.int .i64 2) (.bool false) (.bool false) (by omega) (by omega) hpl v3 (by omega)
    have hdr : ps.drop t = ps[t] :: ps.drop (t + 1) := List.drop_eq_getElem_cons htl
    refine ⟨H5, n5, W5, tv5, uv5, y5, w6, w7, w8, y14, y15, y16, y17, y18, y19, c5, ?_, ⟨tl5, ul5, l5, v5, fun x => ?_, fun x => ?_⟩, ((st1.trans st2).trans st3).trans st5, by omega⟩
    · rw [← e5]
      refine codeL_loop_iff ?_
      simp only [gaS] at e24
      have h22 : ((2 : Nat) : Int) = 2 := rfl
      rw [show ((0 : Nat) : Int) = 0 from rfl] at e24
      subst hw1 hw2
      simp only [List.cons_append, List.nil_append] at hix hH1 hn1
      simp (disch := omega) only [go_sem, Nat.reduceAdd, Nat.reduceLeDiff, Nat.reduceBEq, Nat.reduceLT, B_26_2, gaS, hix, get_same, set_set, hH1, hn1, hfb, h22, e24, cast_add1]
    · rw [p5, p3, p2, hdr]
      simp only [List.mem_cons, exists_eq_or_imp]
      constructor
      · rintro (((e | e) | e) | e)
        · exact .inl e
        · exact .inr (.inl (.inl e))
        · exact .inr (.inl (.inr e))
        · exact .inr (.inr e)
      · rintro (e | (e | e) | e)
        · exact .inl (.inl (.inl e))
        · exact .inl (.inl (.inr e))
        · exact .inl (.inr e)
        · exact .inr e
    · rw [q5, q3, q2, hdr]
      simp only [List.mem_cons, exists_eq_or_imp]
      constructor
      · rintro (((e | e) | e) | e)
        · exact .inl e
        · exact .inr (.inl (.inl e))
        · exact .inr (.inl (.inr e))
        · exact .inr (.inr e)
      · rintro (e | (e | e) | e)
        · exact .inl (.inl (.inl e))
        · exact .inl (.inl (.inr e))
        · exact .inl (.inr e)
        · exact .inr e
theorem gathered_run {K : Nat} {ps : List (Ty × Ty)} {xs : List (List PV)} {fl : Fl} (hxl : xs.length = ps.length) (hxs : ∀ i, (h : i < ps.length) → ∃ rl rr, xs[i]? = some (rl ++ rr) ∧ TyR rl ps[i].1 ∧ TyR rr ps[i].2)
    (hfl : ∀ r ∈ xs, r.all flat = true) (hok : ∀ p ∈ ps, SideOk uvs p.1 ∧ SideOk uvs p.2 ∧ cost uvs p.1 + cost uvs p.2 ≤ K) (hlen : ps.length ≤ 512) (hK : K * ps.length < 900000)
    (hfew : ∀ tl : List Nat, tl.Nodup → (∀ x, x ∈ tl ↔ ∃ p ∈ ps, x ∈ p.1.pre.flatMap tvar ∨ x ∈ p.2.pre.flatMap tvar) → tl.length ≤ 512)
    (hfewU : ∀ ul : List Nat, ul.Nodup → (∀ x, x ∈ ul ↔ ∃ p ∈ ps, x ∈ p.1.pre.flatMap (nodeU uvs) ∨ x ∈ p.2.pre.flatMap (nodeU uvs)) → ul.length ≤ 512) (H : Heap) (n : Nat) :
    ∃ (H' : Heap) (n' : Nat) (W : List Nat) (tv uv : PV) (tl ul : List Nat) (l : List (Nat × Nat × Nat)), Gf 26 [.data 10 xs fl, .nils] H n = some (.tup [.ptr (n + 1) 0 3 0 0, .bool true], H', n') ∧
      Acc (n + 1) (vobj tv uv n) W n' H' tv uv tl ul ∧ tl.Nodup ∧ ul.Nodup ∧ (∀ x, x ∈ tl ↔ ∃ p ∈ ps, x ∈ p.1.pre.flatMap tvar ∨ x ∈ p.2.pre.flatMap tvar) ∧ (∀ x, x ∈ ul ↔ ∃ p ∈ ps, x ∈ p.1.pre.flatMap (nodeU uvs) ∨ x ∈ p.2.pre.flatMap (nodeU uvs)) ∧
      (∀ id, id < n → H'.get id = H.get id) ∧ n + 1 < n' := by
  generalize hH1 : (H.set n (.map [] 0)).set (n + 1) (vobj .nils .nils n) = H1
  have g1 : ∀ id, id < n → H1.get id = H.get id := fun id hid => by rw [← hH1, get_other _ _ (by omega), get_other _ _ (by omega)]
  have v1 : VSt (n + 1) n [n + 1] (n + 1 + 1) H1 .nils .nils [] [] [] 0 := by
    refine ⟨⟨by rw [← hH1, get_same], by simp, .inl ⟨rfl, rfl⟩, .inl ⟨rfl, rfl⟩, fun _ hi => (nomatch hi), fun _ hi => (by rcases hi with hi | hi <;> cases hi), fun x hx => by simp at hx; omega⟩, ?_, by omega, by simp, fun x => by simp [pcnt], fun x => by simp [pcnt], by simp, by simp, fun a b => by simp [pcnt], by simp, by simp⟩
    rw [← hH1, get_other _ _ (by omega), get_same]
    rfl
  obtain ⟨H2, n2, W2, tv2, uv2, y5, y6, y7, y8, y14, y15, y16, y17, y18, y19, c2, e2, ⟨tl2, ul2, l2, v2, p2, q2⟩, st2, _⟩ := pairs_loop (fl := fl) (iv := n + 1) (im := n) (x0 := .data 10 xs fl) (x1 := .nils) (x2 := .nilp) (x3 := .bool false) (x10 := .bool false) (x20 := .tup []) (x21 := .tup []) (x22 := .tup []) (x23 := .tup []) (x24 := .tup []) hxl hxs hfl hok ps.length 0 [n + 1] (n + 1 + 1) H1 .nils .nils [] [] [] 0 (.tup []) (.tup []) (.tup []) (.tup []) (.tup []) (.tup []) (.tup []) (.tup []) (.tup []) (.tup []) (.tup []) rfl (Nat.zero_le _) (by omega) v1 (by omega)
  simp only [List.drop_zero, List.not_mem_nil, false_or] at p2 q2
  have f1 := hfew tl2 v2.d0 p2
  have f2 := hfewU ul2 v2.d1 q2
  obtain ⟨H3, n3, tl3, p3, e3, hA3, st3⟩ := v2.acc.sort (by omega)
  obtain ⟨H4, n4, ul4, p4, e4, hA4, st4⟩ := hA3.swap.sort (by omega)
  have hA4' := hA4.swap
  have hln2 := st2.le
  have hln3 := st3.le
  have hln4 := st4.le
  have q3 := p3.length_eq
  have q4 := p4.length_eq
  refine ⟨H4, n4, W2, tv2, uv2, tl3, ul4, l2, ?_, hA4', p3.nodup_iff.2 v2.d0, p4.nodup_iff.2 v2.d1, fun x => by rw [p3.mem_iff, p2], fun x => by rw [p4.mem_iff, q2], fun id hid => ?_, by omega⟩
  · have a2 := v2.acc.a
    have a3 := hA3.a
    have a4 := hA4.a
    have lt4 : ∀ H n, lenX .slice H n tv2 = some ⟨.int .i64 (tl3.length : Nat), H, n, .no⟩ := by
      intro H n
      rcases hA4'.t with ⟨rfl, rfl⟩ | ⟨id, _, ver, rest, rfl, _⟩
      · rfl
      · simp [lenX, irows]
    have lu4 : ∀ H n, lenX .slice H n uv2 = some ⟨.int .i64 (ul4.length : Nat), H, n, .no⟩ := by
      intro H n
      rcases hA4'.u with ⟨rfl, rfl⟩ | ⟨id, _, ver, rest, rfl, _⟩
      · rfl
      · simp [lenX, irows]
    have hlx : ∀ H n, lenX .slice H n (.data 10 xs fl) = some ⟨.int .i64 (ps.length : Nat), H, n, .no⟩ := by intro H n; simp [lenX, hxl]
    simp only [gaS] at e2
    rw [show ((0 : Nat) : Int) = 0 from rfl] at e2
    have e0 : codeL Gf (.loop B_26_0) ⟨[.data 10 xs fl, .nils, .nilp, .bool false, .ptr (n + 1) 0 3 0 0, y5, y6, y7, y8, .tup [], .bool false, .data 10 xs fl, .int .i64 ps.length, .int .i64 ps.length, y14, y15, y16, y17, y18, y19, .nils, .int .i64 0, .int .i64 0, .tup [], .tup []], H2, n2⟩ =
        some (.exit 4, ⟨[.data 10 xs fl, .nils, .nilp, .bool false, .ptr (n + 1) 0 3 0 0, y5, y6, y7, y8, .tup [], .bool false, .data 10 xs fl, .int .i64 ps.length, .int .i64 ps.length, y14, y15, y16, y17, y18, y19, .nils, .int .i64 0, .int .i64 0, .bool false, .tup []], H2, n2⟩) := by
      refine codeL_loop_end ?_ (by simp)
      simp (disch := omega) only [go_sem, Int.reduceLT, B_26_0]
    rw [R_26]
    simp (disch := omega) only [go_sem, Nat.reduceAdd, Nat.reduceMul, Nat.reduceLeDiff, G_26, hlx, hH1, e2, e0, a2, e3, a3, e4, a4, lt4, lu4]
  · rw [st4.same id (by omega) ?_, st3.same id (by omega) ?_, st2.same id (by omega) (by simp; omega), g1 id hid]
    all_goals
      intro hm
      rcases st2.sub id (List.mem_cons_of_mem _ hm) with e | e
      · simp at e; omega
      · omega
end
def minV (H : Heap) (n : Nat) : PV → PV → Option Res
  | .int k a, .int _ b => some ⟨.int k (if b < a then b else a), H, n, .no⟩
  | _, _ => none
theorem op_min {cf : CallF} {ρ : Src → PV} {H : Heap} {n : Nat} (x y : Src) : evalOp cf (.minmax false [x, y]) ρ H n = minV H n (ρ x) (ρ y) := by
  simp only [evalOp, List.map_cons, List.map_nil]
  cases ρ x <;> cases ρ y <;> rfl
theorem minV_int (H : Heap) (n : Nat) (k k' : IntKind) (a b : Nat) : minV H n (.int k a) (.int k' b) = some ⟨.int k (min a b : Nat), H, n, .no⟩ := by
  have : (if (b : Int) < (a : Int) then (b : Int) else (a : Int)) = ((min a b : Nat) : Int) := by split <;> omega
  simp only [minV, this]
structure Memo (es : Ents) (sz : Nat → Nat × Nat) : Prop where
  keys : IKeys es
  get : ∀ (i : Nat) (v : PV), imGet es i = some v → v = .agg [.int .i64 (sz i).1, .int .i64 (sz i).2]
theorem Memo.put {es : Ents} {sz : Nat → Nat × Nat} (h : Memo es sz) (i c : Nat) : Memo (imSet es i (.agg [.int .i64 (sz i).1, .int .i64 (sz i).2]) c) sz where
  keys := imSet_keys h.keys _ _ _
  get j v hv := by
    rw [imGet_set h.keys] at hv
    by_cases e : j = i
    · subst e; simp at hv; exact hv.symm
    · have : ¬ ((j : Int) = (i : Int)) := by omega
      rw [if_neg this] at hv
      exact h.get j v hv
section
variable {idS idN idK ver len : Nat} {pv wv c0 nm up pl : PV} {D : Nat → Nd} {A : Nat → List Nat} {U : Nat → List PV} {R rk : Nat → Nat}
structure SzSt (idS idN idK ver len : Nat) (pv wv c0 nm up pl : PV) (D : Nat → Nd) (A : Nat → List Nat) (U : Nat → List PV) (R rk : Nat → Nat) (sz : Nat → Nat × Nat) (W : List Nat) (H : Heap) (n : Nat) (es : Ents) (clock : Nat) (P : Nat → Nat) : Prop where
  k : H.get idK = some (.map es clock)
  memo : Memo es sz
  s : H.get idS = some (srow pv (.view idN ver 6 0 len none) wv c0 nm up pl)
  nn : H.get idN = some (.arr ver 6 (nrows len D P))
  ups : Ups len P R rk
  sto : Sto H n W len D A U
  old : ∀ x ∈ W, x < n
  lk : idK < n
variable {sz : Nat → Nat × Nat} {W : List Nat}
theorem SzSt.fresh {H H' : Heap} {n n' : Nat} {es : Ents} {clock : Nat} {P : Nat → Nat} (h : SzSt idS idN idK ver len pv wv c0 nm up pl D A U R rk sz W H n es clock P) (hS : idS ∈ W) (hN : idN ∈ W) (hk : ∀ id, id < n → H'.get id = H.get id) (hn : n ≤ n') :
    SzSt idS idN idK ver len pv wv c0 nm up pl D A U R rk sz W H' n' es clock P where
  k := (hk _ h.lk).trans h.k
  memo := h.memo
  s := (hk _ (h.old _ hS)).trans h.s
  nn := (hk _ (h.old _ hN)).trans h.nn
  ups := h.ups
  sto := by
    refine ⟨fun i hi => ?_, fun i hi => ?_, h.sto.sub, h.sto.flt⟩
    · rcases h.sto.arg i hi with c | ⟨id, c1, c2, c3⟩
      · exact .inl c
      · exact .inr ⟨id, by omega, c2, c3.same (hk _ c1)⟩
    · rcases h.sto.uni i hi with c | ⟨id, c1, c2, c3⟩
      · exact .inl c
      · exact .inr ⟨id, by omega, c2, c3.same (hk _ c1)⟩
  old x hx := by have := h.old x hx; omega
  lk := by have := h.lk; omega
def SzOut (idS idN idK ver len : Nat) (pv wv c0 nm up pl : PV) (D : Nat → Nd) (A : Nat → List Nat) (U : Nat → List PV) (R rk : Nat → Nat) (sz : Nat → Nat × Nat) (W : List Nat) (i : Nat) (H : Heap) (n : Nat) : Prop :=
  ∃ (H' : Heap) (n' : Nat) (es' : Ents) (clock' : Nat) (P' : Nat → Nat), Gf 85 [.ptr idS 0 7 0 1, .int .i64 i, .map idK] H n = some (.agg [.int .i64 (sz (R i)).1, .int .i64 (sz (R i)).2], H', n') ∧
    SzSt idS idN idK ver len pv wv c0 nm up pl D A U R rk sz W H' n' es' clock' P' ∧ Same [idN, idK] n H H' ∧ n ≤ n'
theorem size_args {ida nb : Nat} {As : List Nat} {av : PV} (hAl : As.length < 1000000) (hbN : nb ≠ idN) (hbK : nb ≠ idK) (hbS : nb ≠ idS) (hbW : nb ∉ W) (haW : ida ∉ W) (hSW : idS ∈ W) (hNW : idN ∈ W) (hKW : idK ∈ W) (hab : ida ≠ nb) (hsz : ∀ a ∈ As, (sz (R a)).1 ≤ 257 ∧ (sz (R a)).2 ≤ 257)
    (ih : ∀ a ∈ As, ∀ (H : Heap) (n : Nat) (es : Ents) (clock : Nat) (P : Nat → Nat), SzSt idS idN idK ver len pv wv c0 nm up pl D A U R rk sz W H n es clock P → SzOut idS idN idK ver len pv wv c0 nm up pl D A U R rk sz W a H n) {x1 x3 x4 x5 x9 : PV} :
    ∀ (d t : Nat) (p : Nat × Nat) (H : Heap) (n : Nat) (es : Ents) (clock : Nat) (P : Nat → Nat) (x7 x8 x13 : PV), As.length - t = d → t ≤ As.length → p.1 ≤ 257 → p.2 ≤ 257 → SzSt idS idN idK ver len pv wv c0 nm up pl D A U R rk sz W H n es clock P →
      H.get nb = some (.arr 0 2 [[.int .i64 p.1, .int .i64 p.2]]) → nb < n → ida < n → VW H 1 ida av (irows As) →
      ∃ (H' : Heap) (n' : Nat) (es' : Ents) (clock' : Nat) (P' : Nat → Nat) (y7 y8 : PV),
        codeL Gf (.loop B_85_0) ⟨[.ptr idS 0 7 0 1, x1, .map idK, x3, x4, x5, .ptr nb 0 2 0 0, x7, x8, x9, av, .int .i64 As.length, .int .i64 t, x13], H, n⟩ =
          some (.exit 0, ⟨[.ptr idS 0 7 0 1, x1, .map idK, x3, x4, x5, .ptr nb 0 2 0 0, y7, y8, x9, av, .int .i64 As.length, .int .i64 As.length, .bool false], H', n'⟩) ∧
        SzSt idS idN idK ver len pv wv c0 nm up pl D A U R rk sz W H' n' es' clock' P' ∧
        H'.get nb = some (.arr 0 2 [[.int .i64 (szAdd (fun a => sz (R a)) (As.drop t) p).1, .int .i64 (szAdd (fun a => sz (R a)) (As.drop t) p).2]]) ∧ Same [idN, idK, nb] n H H' ∧ n ≤ n' := by
  intro d
  induction d with
  | zero =>
    intro t p H n es clock P x7 x8 x13 hd ht h1 h2 hst hb lb la hV
    have e : t = As.length := by omega
    subst e
    refine ⟨H, n, es, clock, P, x7, x8, codeL_loop_end ?_ (by simp), hst, by simpa [szAdd] using hb, .refl _ _ _, Nat.le_refl _⟩
    simp (disch := omega) only [go_sem, B_85_0]
  | succ d ihd =>
    intro t p H n es clock P x7 x8 x13 hd ht h1 h2 hst hb lb la hV
    obtain ⟨va, ra, rfl, hHA⟩ := id hV
    have eA : (irows As).length = As.length := by simp [irows]
    have htA : t < As.length := by omega
    have hra := irows_at htA ra
    have hdrop : As.drop t = As[t] :: As.drop (t + 1) := List.drop_eq_getElem_cons htA
    obtain ⟨s1, s2⟩ := hsz As[t] (List.getElem_mem _)
    obtain ⟨H1, n1, es1, clock1, P1, e1, st1, sm1, ln1⟩ := ih As[t] (List.getElem_mem _) H n es clock P hst
    have hb1 : H1.get nb = some (.arr 0 2 [[.int .i64 p.1, .int .i64 p.2]]) := (sm1 _ lb (by simp [hbN, hbK])).trans hb
    generalize hH2 : H1.set n1 (.arr 0 2 [[.int .i64 (sz (R As[t])).1, .int .i64 (sz (R As[t])).2]]) = H2
    have g2 : ∀ id, id < n1 → H2.get id = H1.get id := fun id hid => by rw [← hH2]; exact get_other _ _ (by omega)
    have hn2 : H2.get n1 = some (.arr 0 2 [[.int .i64 (sz (R As[t])).1, .int .i64 (sz (R As[t])).2]]) := by rw [← hH2, get_same]
    have hb2 := (g2 _ (by omega)).trans hb1
    have st2 := st1.fresh hSW hNW g2 (Nat.le_succ n1)
    generalize hH3 : H2.set nb (.arr 0 2 [[.int .i64 (min (p.1 + (sz (R As[t])).1) 257 : Nat), .int .i64 (min (p.2 + (sz (R As[t])).2) 257 : Nat)]]) = H3
    have g3 : ∀ id, id ≠ nb → H3.get id = H2.get id := fun id hid => by rw [← hH3]; exact get_other _ _ (Ne.symm hid)
    have st3 : SzSt idS idN idK ver len pv wv c0 nm up pl D A U R rk sz W H3 (n1 + 1) es1 clock1 P1 := by
      have hv : ∀ (id : Nat) (v : PV) (xs : List (List PV)), VW H2 1 id v xs → VW H3 1 id v xs := fun id v xs h => h.same (g3 id (by
        rintro rfl
        obtain ⟨_, _, _, h⟩ := h
        rw [hb2] at h
        cases h))
      refine ⟨(g3 _ (Ne.symm hbK)).trans st2.k, st2.memo, (g3 _ (Ne.symm hbS)).trans st2.s, (g3 _ (Ne.symm hbN)).trans st2.nn, st2.ups, ⟨fun i hi => ?_, fun i hi => ?_, st2.sto.sub, st2.sto.flt⟩, st2.old, st2.lk⟩
      · rcases st2.sto.arg i hi with c | ⟨id, c1, c2, c3⟩
        · exact .inl c
        · exact .inr ⟨id, c1, c2, hv _ _ _ c3⟩
      · rcases st2.sto.uni i hi with c | ⟨id, c1, c2, c3⟩
        · exact .inl c
        · exact .inr ⟨id, c1, c2, hv _ _ _ c3⟩
    have sm3 : Same [idN, idK, nb] n H H3 := fun id a b => by
      simp only [List.mem_cons, List.not_mem_nil, or_false, not_or] at b
      rw [g3 _ b.2.2, g2 _ (by omega), sm1 id a (by simp [b.1, b.2.1])]
    have hne : ida ∉ [idN, idK, nb] := by
      simp only [List.mem_cons, List.not_mem_nil, or_false, not_or]
      exact ⟨fun e => haW (e ▸ hNW), fun e => haW (e ▸ hKW), hab⟩
    have hV3 : VW H3 1 ida (.view ida va 1 0 (irows As).length none) (irows As) := hV.same (sm3 _ la hne)
    obtain ⟨H4, n4, es4, clock4, P4, y7, y8, e4, st4, hb4, sm4, ln4⟩ := ihd (t + 1) (min (p.1 + (sz (R As[t])).1) 257, min (p.2 + (sz (R As[t])).2) 257) H3 (n1 + 1) es1 clock1 P1 (.int .i64 As[t]) (.ptr n1 0 2 0 0) (.bool true) (by omega) (by omega) (Nat.min_le_right _ _) (Nat.min_le_right _ _) st3 (by rw [← hH3, get_same]) (by omega) (by omega) hV3
    refine ⟨H4, n4, es4, clock4, P4, y7, y8, ?_, st4, by rw [hdrop]; exact hb4, fun id a b => (sm4 id (by omega) b).trans (sm3 id a b), by omega⟩
    rw [← e4]
    refine codeL_loop_iff ?_
    rw [eA]
    have min257 : ∀ (H : Heap) (n : Nat) (a : Nat), minV H n (.int .i64 a) (.int .i64 257) = some ⟨.int .i64 (min a 257 : Nat), H, n, .no⟩ := fun H n a => minV_int H n .i64 .i64 a 257
    simp (disch := omega) only [go_sem, Nat.reduceAdd, Nat.reduceLeDiff, B_85_0, hHA, hra, e1, get_same, set_set, hH2, hn2, hb2, cast_addN, cast_add1, op_min, min257, hH3]
theorem size_run (dSN : idS ≠ idN) (dSK : idS ≠ idK) (dNK : idN ≠ idK) (hSW : idS ∈ W) (hNW : idN ∈ W) (hKW : idK ∈ W) (hl : len < 1000000) (mA : ∀ i, i < len → (A i).length < 1000000) (mU : ∀ i, i < len → (U i).length < 1000000) (hsz : ∀ r, Fin' A R r → sz r = szStep A R U sz r) :
    ∀ r, Fin' A R r → ∀ (i : Nat), i < len → R i = r → ∀ (H : Heap) (n : Nat) (es : Ents) (clock : Nat) (P : Nat → Nat), SzSt idS idN idK ver len pv wv c0 nm up pl D A U R rk sz W H n es clock P → SzOut idS idN idK ver len pv wv c0 nm up pl D A U R rk sz W i H n := by
  intro r hr
  induction hr with
  | mk r hfin ih =>
    intro i hi hRi H n es clock P st
    have lN := st.old _ hNW
    have lS := st.old _ hSW
    generalize hH1 : H.set n (.arr 0 2 [[.int .i64 0, .int .i64 0]]) = H1
    have g1 : ∀ id, id < n → H1.get id = H.get id := fun id hid => by rw [← hH1]; exact get_other _ _ (by omega)
    have st1 := st.fresh hSW hNW g1 (Nat.le_succ n)
    obtain ⟨P2, H2, e83, ups2, hN2, hS2, sm2⟩ := find_run (n := n + 1) dSN (by omega) st1.s st1.nn st1.ups hi
    have lK := st.lk
    have hn2 : H2.get n = some (.arr 0 2 [[.int .i64 0, .int .i64 0]]) := by rw [sm2 n (by omega) (by simp; omega), ← hH1, get_same]
    have hk2 : H2.get idK = some (.map es clock) := (sm2 _ (by omega) (by simp [Ne.symm dNK])).trans st1.k
    have sm02 : Same [idN] n H H2 := fun id a b => (sm2 id (by omega) b).trans (g1 id a)
    have st2 : SzSt idS idN idK ver len pv wv c0 nm up pl D A U R rk sz W H2 n es clock P2 :=
      ⟨hk2, st.memo, hS2.trans st1.s, hN2, ups2, st.sto.same (fun id a b => sm02 id a (by simp only [List.mem_singleton]; rintro rfl; exact b hNW)), st.old, st.lk⟩
    have lr : r < len := by have := (ups2 i hi); rw [← hRi]; exact this.2.1
    cases hg : imGet es r with
    | some v =>
      have hv := st.memo.get r v hg
      subst hv
      have hlk := lookO_im2 (zero := .agg [.int .i64 0, .int .i64 0]) (id := idK) (clock := clock) st.memo.keys H2 (n + 1) (r : Int)
      rw [hg] at hlk
      generalize hH3 : (H2.set (n + 1) (.arr 0 2 [[.int .i64 (sz r).1, .int .i64 (sz r).2]])).set n (.arr 0 2 [[.int .i64 (sz r).1, .int .i64 (sz r).2]]) = H3
      have hn3 : H3.get n = some (.arr 0 2 [[.int .i64 (sz r).1, .int .i64 (sz r).2]]) := by rw [← hH3, get_same]
      have hm3 : (H2.set (n + 1) (.arr 0 2 [[.int .i64 (sz r).1, .int .i64 (sz r).2]])).get n = some (.arr 0 2 [[.int .i64 0, .int .i64 0]]) := by rw [get_other _ _ (by omega)]; exact hn2
      refine ⟨H3, n + 1 + 1, es, clock, P2, ?_, ?_, ?_, by omega⟩
      · rw [R_85]
        rw [hRi] at e83 ⊢
        simp (disch := omega) only [go_sem, Nat.reduceAdd, Nat.reduceLeDiff, G_85, hH1, e83, hk2, hlk, Option.getD_some, Option.isSome_some, get_same, set_set, hm3, hH3, hn3]
      · exact st2.fresh hSW hNW (fun id hid => by rw [← hH3, get_other _ _ (by omega), get_other _ _ (by omega)]) (by omega)
      · intro id a b
        rw [← hH3, get_other _ _ (by omega), get_other _ _ (by omega)]
        exact sm02 id a (fun e => b (by simp at e; simp [e]))
    | none =>
      have hlk := lookO_im2 (zero := .agg [.int .i64 0, .int .i64 0]) (id := idK) (clock := clock) st.memo.keys H2 (n + 1) (r : Int)
      rw [hg] at hlk
      have hrow := nrows_at D P2 lr
      have hlu : ∀ H n, lenX .slice H n (D r).uv = some ⟨.int .i64 ((U r).length : Nat), H, n, .no⟩ := by
        intro H n
        rcases st.sto.uni r lr with ⟨e1, e2⟩ | ⟨id, _, _, v, x, e1, _⟩
        · rw [e1, e2]; rfl
        · rw [e1]; simp [lenX, urows]
      have hla : ∀ H n, lenX .slice H n (D r).av = some ⟨.int .i64 ((A r).length : Nat), H, n, .no⟩ := by
        intro H n
        rcases st.sto.arg r lr with ⟨e1, e2⟩ | ⟨id, _, _, v, x, e1, _⟩
        · rw [e1, e2]; rfl
        · rw [e1]; simp [lenX, irows]
      have min257 : ∀ (H : Heap) (n : Nat) (a : Nat), minV H n (.int .i64 a) (.int .i64 257) = some ⟨.int .i64 (min a 257 : Nat), H, n, .no⟩ := fun H n a => minV_int H n .i64 .i64 a 257
      have sizes := hsz r (.mk r hfin)
      generalize hH3 : (H2.set (n + 1) (.arr 0 2 [[.int .i64 0, .int .i64 0]])).set (n + 1 + 1) (.arr 0 2 [[.int .i64 1, .int .i64 (min (U r).length 257 : Nat)]]) = H3
      have g3 : ∀ id, id < n + 1 → H3.get id = H2.get id := fun id hid => by rw [← hH3, get_other _ _ (by omega), get_other _ _ (by omega)]
      have st3 := st2.fresh hSW hNW (n' := n + 1 + 1 + 1) (fun id hid => g3 id (by omega)) (by omega)
      have hb3 : H3.get (n + 1 + 1) = some (.arr 0 2 [[.int .i64 1, .int .i64 (min (U r).length 257 : Nat)]]) := by rw [← hH3, get_same]
      have hx3 : H3.get n = some (.arr 0 2 [[.int .i64 0, .int .i64 0]]) := (g3 _ (by omega)).trans hn2
      have loop : ∃ (H4 : Heap) (n4 : Nat) (es4 : Ents) (clock4 : Nat) (P4 : Nat → Nat) (y7 y8 : PV),
          codeL Gf (.loop B_85_0) ⟨[.ptr idS 0 7 0 1, .int .i64 r, .map idK, .ptr n 0 2 0 0, .ptr (n + 1) 0 2 0 0, .bool false, .ptr (n + 1 + 1) 0 2 0 0, .tup [], .tup [], .bool false, (D r).av, .int .i64 (A r).length, .int .i64 0, .tup []], H3, n + 1 + 1 + 1⟩ =
            some (.exit 0, ⟨[.ptr idS 0 7 0 1, .int .i64 r, .map idK, .ptr n 0 2 0 0, .ptr (n + 1) 0 2 0 0, .bool false, .ptr (n + 1 + 1) 0 2 0 0, y7, y8, .bool false, (D r).av, .int .i64 (A r).length, .int .i64 (A r).length, .bool false], H4, n4⟩) ∧
          SzSt idS idN idK ver len pv wv c0 nm up pl D A U R rk sz W H4 n4 es4 clock4 P4 ∧ H4.get (n + 1 + 1) = some (.arr 0 2 [[.int .i64 (sz r).1, .int .i64 (sz r).2]]) ∧ Same [idN, idK, n + 1 + 1] (n + 1 + 1 + 1) H3 H4 ∧ n + 1 + 1 + 1 ≤ n4 := by
        have lst := sizes
        unfold szStep at lst
        rcases st.sto.arg r lr with ⟨e1, e2⟩ | ⟨id, c1, c2, c3⟩
        · refine ⟨H3, n + 1 + 1 + 1, es, clock, P2, .tup [], .tup [], codeL_loop_end ?_ (by simp), st3, ?_, .refl _ _ _, Nat.le_refl _⟩
          · rw [e1, e2]
            simp (disch := omega) only [go_sem, B_85_0, List.length_nil]
            rfl
          · rw [lst, e2]; exact hb3
        · have hV3 : VW H3 1 id (D r).av (irows (A r)) := c3.same ((g3 _ (by omega)).trans (sm02 _ c1 (by simp only [List.mem_singleton]; rintro rfl; exact c2 hNW)))
          have b1 : n + 1 + 1 ≠ idN := by omega
          have b2 : n + 1 + 1 ≠ idK := by omega
          have b3 : n + 1 + 1 ≠ idS := by omega
          obtain ⟨H4, n4, es4, clock4, P4, y7, y8, e4, st4, hb4, sm4, ln4⟩ := size_args (nb := n + 1 + 1) (As := A r) (mA r lr) b1 b2 b3 (fun hm => by have := st.old _ hm; omega) c2 hSW hNW hKW (by omega) (fun a ha => by
              rw [hsz _ (hfin a ha)]
              exact szAdd_le _ _ _ (by simp) (Nat.min_le_right _ _))
            (fun a ha H n es clock P s => ih a ha a (st.sto.sub r lr a ha) rfl H n es clock P s) (x1 := .int .i64 r) (x3 := .ptr n 0 2 0 0) (x4 := .ptr (n + 1) 0 2 0 0) (x5 := .bool false) (x9 := .bool false)
            _ 0 (1, min (U r).length 257) H3 (n + 1 + 1 + 1) es clock P2 (.tup []) (.tup []) (.tup []) rfl (Nat.zero_le _) (by simp) (Nat.min_le_right _ _) st3 hb3 (by omega) (by omega) hV3
          exact ⟨H4, n4, es4, clock4, P4, y7, y8, e4, st4, by rw [lst]; simpa using hb4, sm4, ln4⟩
      obtain ⟨H4, n4, es4, clock4, P4, y7, y8, e4, st4, hb4, sm4, ln4⟩ := loop
      have hx4 : H4.get n = some (.arr 0 2 [[.int .i64 0, .int .i64 0]]) := (sm4 _ (by omega) (by simp; omega)).trans hx3
      generalize hH5 : H4.set idK (.map (imSet es4 r (.agg [.int .i64 (sz r).1, .int .i64 (sz r).2]) clock4) (imClock es4 r clock4)) = H5
      have g5 : ∀ id, id ≠ idK → H5.get id = H4.get id := fun id h => by rw [← hH5]; exact get_other _ _ (Ne.symm h)
      have hx5 := (g5 n (by omega)).trans hx4
      have hb5 := (g5 (n + 1 + 1) (by omega)).trans hb4
      generalize hH6 : H5.set n (.arr 0 2 [[.int .i64 (sz r).1, .int .i64 (sz r).2]]) = H6
      have hx6 : H6.get n = some (.arr 0 2 [[.int .i64 (sz r).1, .int .i64 (sz r).2]]) := by rw [← hH6, get_same]
      have hk4 := st4.k
      refine ⟨H6, n4, imSet es4 r (.agg [.int .i64 (sz r).1, .int .i64 (sz r).2]) clock4, imClock es4 r clock4, P4, ?_, ?_, ?_, by omega⟩
      · have min257 : ∀ (H : Heap) (n : Nat) (a : Nat), minV H n (.int .i64 a) (.int .i64 257) = some ⟨.int .i64 (min a 257 : Nat), H, n, .no⟩ := fun H n a => minV_int H n .i64 .i64 a 257
        rw [R_85]
        rw [hRi] at e83 ⊢
        simp (disch := omega) only [go_sem, Nat.reduceAdd, Nat.reduceLeDiff, G_85, hH1, e83, hk2, hlk, Option.getD_none, Option.isSome_none, get_same, set_set, hS2, st1.s, get_other, hN2, hrow, nrow, hlu, hla, op_min, min257, hH3, st3.s, st3.nn, e4, hb4, hk4, mapSetO_im st4.memo.keys, hH5, hb5, hx5, hH6, hx6]
      · have st5 : SzSt idS idN idK ver len pv wv c0 nm up pl D A U R rk sz W H5 n4 (imSet es4 r (.agg [.int .i64 (sz r).1, .int .i64 (sz r).2]) clock4) (imClock es4 r clock4) P4 :=
          ⟨by rw [← hH5, get_same], st4.memo.put r clock4, (g5 _ dSK).trans st4.s, (g5 _ dNK).trans st4.nn, st4.ups, st4.sto.same (fun id a b => g5 id (by rintro rfl; exact b hKW)), st4.old, st4.lk⟩
        have g6 : ∀ id, id ≠ n → H6.get id = H5.get id := fun id h => by rw [← hH6]; exact get_other _ _ (Ne.symm h)
        have hv : ∀ (id : Nat) (v : PV) (xs : List (List PV)), VW H5 1 id v xs → VW H6 1 id v xs := fun id v xs h => h.same (g6 id (by
          rintro rfl
          obtain ⟨_, _, _, h⟩ := h
          rw [hx5] at h
          cases h))
        refine ⟨(g6 _ (by omega)).trans st5.k, st5.memo, (g6 _ (by omega)).trans st5.s, (g6 _ (by omega)).trans st5.nn, st5.ups, ⟨fun j hj => ?_, fun j hj => ?_, st5.sto.sub, st5.sto.flt⟩, st5.old, st5.lk⟩
        · rcases st5.sto.arg j hj with c | ⟨id, c1, c2, c3⟩
          · exact .inl c
          · exact .inr ⟨id, c1, c2, hv _ _ _ c3⟩
        · rcases st5.sto.uni j hj with c | ⟨id, c1, c2, c3⟩
          · exact .inl c
          · exact .inr ⟨id, c1, c2, hv _ _ _ c3⟩
      · intro id a b
        simp only [List.mem_cons, List.not_mem_nil, or_false, not_or] at b
        rw [← hH6, get_other _ _ (by omega), g5 id b.2, sm4 id (by omega) (by simp [b.1, b.2]; omega), g3 id (by omega)]
        exact sm02 id a (by simp [b.1])
end
def UsO (ok : Nat → Prop) (H : Heap) (u : PV) (us : List PV) : Prop := (u = .nils ∧ us = []) ∨ ∃ id, ok id ∧ VW H 1 id u (urows us)
mutual
inductive TyO (ok : Nat → Prop) (H : Heap) : List PV → Ty → Prop
  | mk (k n : Int) (s : ByteArray) (a u : PV) (as : List Ty) (us : List PV) : TysO ok H a as → UsO ok H u us → TyO ok H [.int .i64 k, .int .i64 n, .str s, a, u] (.mk k n s as us)
inductive TysO (ok : Nat → Prop) (H : Heap) : PV → List Ty → Prop
  | nil : TysO ok H .nils []
  | view (id : Nat) (v : PV) (rows : List (List PV)) (ts : List Ty) : ok id → VW H 5 id v rows → TyLO ok H rows ts → TysO ok H v ts
inductive TyLO (ok : Nat → Prop) (H : Heap) : List (List PV) → List Ty → Prop
  | nil : TyLO ok H [] []
  | cons (x : List PV) (xs : List (List PV)) (t : Ty) (ts : List Ty) : TyO ok H x t → TyLO ok H xs ts → TyLO ok H (x :: xs) (t :: ts)
end
section
variable {ok ok' : Nat → Prop} {H H' : Heap}
theorem UsO.keep {u : PV} {us : List PV} (h : UsO ok H u us) (hk : ∀ id, ok id → H'.get id = H.get id) (ho : ∀ id, ok id → ok' id) : UsO ok' H' u us := by
  rcases h with h | ⟨id, h1, h2⟩
  · exact .inl h
  · exact .inr ⟨id, ho _ h1, h2.same (hk _ h1)⟩
mutual
theorem TyO.keep (hk : ∀ id, ok id → H'.get id = H.get id) (ho : ∀ id, ok id → ok' id) : ∀ {x : List PV} {t : Ty}, TyO ok H x t → TyO ok' H' x t
  | _, _, .mk k n s a u as us h1 h2 => .mk k n s a u as us (TysO.keep hk ho h1) (h2.keep hk ho)
theorem TysO.keep (hk : ∀ id, ok id → H'.get id = H.get id) (ho : ∀ id, ok id → ok' id) : ∀ {v : PV} {ts : List Ty}, TysO ok H v ts → TysO ok' H' v ts
  | _, _, .nil => .nil
  | _, _, .view id v rows ts h1 h2 h3 => .view id v rows ts (ho _ h1) (h2.same (hk _ h1)) (TyLO.keep hk ho h3)
theorem TyLO.keep (hk : ∀ id, ok id → H'.get id = H.get id) (ho : ∀ id, ok id → ok' id) : ∀ {xs : List (List PV)} {ts : List Ty}, TyLO ok H xs ts → TyLO ok' H' xs ts
  | _, _, .nil => .nil
  | _, _, .cons x xs t ts h1 h2 => .cons x xs t ts (TyO.keep hk ho h1) (TyLO.keep hk ho h2)
end
theorem TyLO.app : ∀ {xs ys : List (List PV)} {ts us : List Ty}, TyLO ok H xs ts → TyLO ok H ys us → TyLO ok H (xs ++ ys) (ts ++ us)
  | _, _, _, _, .nil, h => h
  | _, _, _, _, .cons x xs t ts h1 h2, h => .cons x _ t _ h1 (TyLO.app h2 h)
theorem TyLO.len : ∀ {xs : List (List PV)} {ts : List Ty}, TyLO ok H xs ts → xs.length = ts.length
  | _, _, .nil => rfl
  | _, _, .cons _ _ _ _ _ h => by simp [h.len]
end
theorem slice_same {H : Heap} {k : Nat} {v : PV} (h : v = .nils ∨ ∃ id xs, VW H k id v xs) : PV.sameF deep v v = true := by
  rcases h with rfl | ⟨id, xs, ver, rest, rfl, _⟩
  · unfold deep PV.sameF
    rfl
  · exact same_view _ _ _ _ _ _
theorem elems_row {H : Heap} {ix k : Nat} {row : List PV} (h : H.get ix = some (.arr 0 k [row])) : elems H (.view ix 0 k 0 1 (some 1)) = some (k, [row], [ix]) := by
  simp [elems, h]
theorem appOne {k bytes n : Nat} {s : PV} {rows : List (List PV)} {H : Heap} (row : List PV) (rd : List Nat) (hs : (s = .nils ∧ rows = []) ∨ ∃ id, VW H k id s rows ∧ id < n) (hb : (rows.length + 1) * bytes ≤ 140737488355328) :
    ∃ (v' : PV) (H' : Heap) (n' w : Nat), appendV k bytes s [row] rd H n = some ⟨v', H', n', ⟨rd, [w], false⟩⟩ ∧ VW H' k w v' (rows ++ [row]) ∧ w < n' ∧ (∀ j, j ≠ w → H'.get j = H.get j) ∧ n ≤ n' ∧ ((w = n ∧ s = .nils ∧ rows = []) ∨ VW H k w s rows) := by
  rcases hs with ⟨rfl, rfl⟩ | ⟨id, ⟨ver, rest, rfl, hH⟩, hid⟩
  · have hb' : bytes ≤ 140737488355328 := by simpa using hb
    exact ⟨.view n 0 k 0 1 none, H.set n (.arr 0 k [row]), n + 1, n, appendV_nils k bytes rd H n row hb', ⟨0, [], by simp, by rw [get_same]; simp⟩, by omega, fun j hj => get_other _ _ (Ne.symm hj), by omega, .inl ⟨rfl, rfl, rfl⟩⟩
  · by_cases hfit : rows.length + 1 ≤ (rows ++ rest).length
    · refine ⟨.view id ver k 0 (rows.length + 1) none, H.set id (.arr ver k (overwrite (rows ++ rest) rows.length [row])), n, id, ?_, ⟨ver, rest.drop 1, by simp, ?_⟩, hid, fun j hj => get_other _ _ (Ne.symm hj), Nat.le_refl _, .inr ⟨ver, rest, rfl, hH⟩⟩
      · rw [appendV_view, hH, appO_over k bytes id ver rows.length [row] rd H n (rows ++ rest) hfit]; rfl
      · rw [get_same]
        simp [overwrite]
    · refine ⟨.view id (ver + 1) k 0 (rows.length + 1) none, H.set id (.arr (ver + 1) k (rows ++ [row])), n, id, ?_, ⟨ver + 1, [], by simp, by rw [get_same]; simp⟩, hid, fun j hj => get_other _ _ (Ne.symm hj), Nat.le_refl _, .inr ⟨ver, rest, rfl, hH⟩⟩
      have hb' : (rows.length + 1) * bytes ≤ room := hb
      rw [appendV_view, hH]
      have e : ¬ (ver ≠ ver ∨ k ≠ k ∨ ¬ (rows.length ≤ (rows ++ rest).length)) := by simp
      simp only [appO, if_neg e, List.length_singleton, if_neg hfit, if_pos hb']
      rw [List.take_left']
      rfl
section
variable {n0 idS idN ver len : Nat} {pv wv c0 nm up pl : PV} {D : Nat → Nd} {A : Nat → List Nat} {U : Nat → List PV} {R rk : Nat → Nat} {W : List Nat} {G : Heap → Prop}
structure TpSt (n0 idS idN ver len : Nat) (pv wv c0 nm up pl : PV) (D : Nat → Nd) (A : Nat → List Nat) (U : Nat → List PV) (R rk : Nat → Nat) (W : List Nat) (G : Heap → Prop) (H : Heap) (P : Nat → Nat) : Prop where
  s : H.get idS = some (srow pv (.view idN ver 6 0 len none) wv c0 nm up pl)
  nn : H.get idN = some (.arr ver 6 (nrows len D P))
  ups : Ups len P R rk
  sto : Sto H n0 W len D A U
  g : G H
  lS : idS < n0
  lN : idN < n0
  wN : idN ∈ W
  dSN : idS ≠ idN
  hG : ∀ H H' : Heap, G H → Same [idN] n0 H H' → G H'
theorem TpSt.keep {H H' : Heap} {P : Nat → Nat} (h : TpSt n0 idS idN ver len pv wv c0 nm up pl D A U R rk W G H P) (hk : ∀ id, id < n0 → H'.get id = H.get id) : TpSt n0 idS idN ver len pv wv c0 nm up pl D A U R rk W G H' P :=
  { h with s := (hk _ h.lS).trans h.s, nn := (hk _ h.lN).trans h.nn, sto := h.sto.same (fun id a _ => hk id a), g := h.hG _ _ h.g (fun id a _ => hk id a) }
theorem TpSt.find {H : Heap} {P : Nat → Nat} (h : TpSt n0 idS idN ver len pv wv c0 nm up pl D A U R rk W G H P) (hl : len < 1000000) {i : Nat} (hi : i < len) {n : Nat} (hn : n0 ≤ n) :
    ∃ (P' : Nat → Nat) (H' : Heap), Gf 83 [.ptr idS 0 7 0 1, .int .i64 i] H n = some (.int .i64 (R i), H', n) ∧ TpSt n0 idS idN ver len pv wv c0 nm up pl D A U R rk W G H' P' ∧ Same [idN] n H H' := by
  obtain ⟨P2, H2, e83, ups2, hN2, hS2, sm2⟩ := find_run (n := n) h.dSN (by omega) h.s h.nn h.ups hi
  exact ⟨P2, H2, e83, { h with s := hS2.trans h.s, nn := hN2, ups := ups2, sto := h.sto.same (fun id a b => sm2 id (by omega) (by simp only [List.mem_singleton]; rintro rfl; exact b h.wN)), g := h.hG _ _ h.g (fun id a b => sm2 id (by omega) b) }, sm2⟩
def tpS (x0 x1 x2 x3 x4 x5 x6 x7 x8 x9 x10 x11 x12 x13 x14 x15 x16 x17 : PV) : List PV := [x0, x1, x2, x3, x4, x5, x6, x7, x8, x9, x10, x11, x12, x13, x14, x15, x16, x17]
def TpOut (n0 idS idN ver len : Nat) (pv wv c0 nm up pl : PV) (D : Nat → Nd) (A : Nat → List Nat) (U : Nat → List PV) (R rk : Nat → Nat) (W : List Nat) (G : Heap → Prop) (val : Nat → Ty) (f g : PV) (i : Nat) (H : Heap) (n : Nat) : Prop :=
  ∃ (H' : Heap) (n' : Nat) (P' : Nat → Nat) (row : List PV), Gf 87 [.ptr idS 0 7 0 1, .int .i64 i, f, g] H n = some (.agg row, H', n') ∧ TpSt n0 idS idN ver len pv wv c0 nm up pl D A U R rk W G H' P' ∧
    Same [idN] n H H' ∧ n ≤ n' ∧ TyO (fun id => n ≤ id ∧ id < n') H' row (val (R i))
def SlO (lo n : Nat) (H : Heap) (v : PV) (ts : List Ty) : Prop := (v = .nils ∧ ts = []) ∨ ∃ id rows, VW H 5 id v rows ∧ lo ≤ id ∧ id < n ∧ TyLO (fun j => lo ≤ j ∧ j < n ∧ j ≠ id) H rows ts
theorem TyO.five {ok : Nat → Prop} {H : Heap} {row : List PV} {t : Ty} (h : TyO ok H row t) : ∃ a u, row = [.int .i64 t.kind, .int .i64 t.num, .str t.name, a, u] ∧ TysO ok H a t.args ∧ UsO ok H u t.units := by
  cases h with
  | mk k n s a u as us h1 h2 => exact ⟨a, u, rfl, h1, h2⟩
theorem TysO.cells {ok : Nat → Prop} {H : Heap} {v : PV} {ts : List Ty} (h : TysO ok H v ts) : v.cells? = some [v] := by
  cases h with
  | nil => rfl
  | view id v rows ts h1 h2 h3 => exact h2.cells
theorem UsO.cells {ok : Nat → Prop} {H : Heap} {v : PV} {ts : List PV} (h : UsO ok H v ts) : v.cells? = some [v] := by
  rcases h with ⟨rfl, _⟩ | ⟨_, _, h2⟩
  · rfl
  · exact h2.cells
variable {val : Nat → Ty} {f g : PV} {inv : PV → PV} {b2 b5 b7 : PV}
theorem type_args {nx lo ida : Nat} {As : List Nat} {av : PV} {k m : Int} {s : ByteArray} (hAl : As.length < 1000000) (hAs : ∀ a ∈ As, a < len) (hlo : nx < lo) (hnx : n0 ≤ nx) (ha0 : ida < n0) (haN : ida ≠ idN)
    (ih : ∀ a ∈ As, ∀ (H : Heap) (n : Nat) (P : Nat → Nat), n0 ≤ n → TpSt n0 idS idN ver len pv wv c0 nm up pl D A U R rk W G H P → TpOut n0 idS idN ver len pv wv c0 nm up pl D A U R rk W G val f g a H n) {x1 x4 x5 x8 x9 x14 x15 x16 x17 : PV} :
    ∀ (d t : Nat) (H : Heap) (n : Nat) (P : Nat → Nat) (v x7 x13 : PV), As.length - t = d → t ≤ As.length → lo ≤ n → TpSt n0 idS idN ver len pv wv c0 nm up pl D A U R rk W G H P → VW H 1 ida av (irows As) →
      H.get nx = some (.arr 0 5 [[.int .i64 k, .int .i64 m, .str s, v, .nils]]) → SlO lo n H v ((As.take t).map fun a => val (R a)) →
      ∃ (H' : Heap) (n' : Nat) (P' : Nat → Nat) (v' y7 : PV), codeL Gf (.loop B_87_1) ⟨tpS (.ptr idS 0 7 0 1) x1 f g x4 x5 (.ptr nx 0 5 0 0) x7 x8 x9 av (.int .i64 As.length) (.int .i64 t) x13 x14 x15 x16 x17, H, n⟩ =
          some (.exit 0, ⟨tpS (.ptr idS 0 7 0 1) x1 f g x4 x5 (.ptr nx 0 5 0 0) y7 x8 x9 av (.int .i64 As.length) (.int .i64 As.length) (.bool false) x14 x15 x16 x17, H', n'⟩) ∧
        TpSt n0 idS idN ver len pv wv c0 nm up pl D A U R rk W G H' P' ∧ H'.get nx = some (.arr 0 5 [[.int .i64 k, .int .i64 m, .str s, v', .nils]]) ∧ SlO lo n' H' v' (As.map fun a => val (R a)) ∧ Same [idN, nx] lo H H' ∧ n ≤ n' := by
  intro d
  induction d with
  | zero =>
    intro t H n P v x7 x13 hd ht hn hst hV hx hs
    have e : t = As.length := by omega
    subst e
    refine ⟨H, n, P, v, x7, codeL_loop_end ?_ (by simp), hst, hx, by simpa using hs, .refl _ _ _, Nat.le_refl _⟩
    simp (disch := omega) only [go_sem, B_87_1, tpS]
  | succ d ihd =>
    intro t H n P v x7 x13 hd ht hn hst hV hx hs
    obtain ⟨va, ra, rfl, hHA⟩ := id hV
    have eA : (irows As).length = As.length := by simp [irows]
    have htA : t < As.length := by omega
    have hra := irows_at htA ra
    obtain ⟨H1, n1, P1, row, e1, st1, sm1, ln1, ty1⟩ := ih As[t] (List.getElem_mem _) H n P (by omega) hst
    obtain ⟨a5, u5, hrow, ca5, cu5⟩ := ty1.five
    have ca5 := ca5.cells
    have cu5 := cu5.cells
    have dnx : nx ≠ idN := by have := hst.lN; omega
    have hx1 : H1.get nx = some (.arr 0 5 [[.int .i64 k, .int .i64 m, .str s, v, .nils]]) := (sm1 _ (by omega) (by simpa using dnx)).trans hx
    generalize hH2 : H1.set n1 (.arr 0 5 [row]) = H2
    have g2 : ∀ id, id < n1 → H2.get id = H1.get id := fun id hid => by rw [← hH2]; exact get_other _ _ (by omega)
    have hn2 : H2.get n1 = some (.arr 0 5 [row]) := by rw [← hH2, get_same]
    have lN := hst.lN
    -- the row is appended
    have hs2 : ∃ rows : List (List PV), ((v = .nils ∧ rows = []) ∨ ∃ id, VW H2 5 id v rows ∧ id < n1 + 1) ∧ rows.length = t ∧ ∀ w, ((w = n1 + 1 ∧ v = .nils ∧ rows = []) ∨ VW H2 5 w v rows) → lo ≤ w ∧ (w < n ∨ w = n1 + 1) ∧ TyLO (fun j => lo ≤ j ∧ j < n ∧ j ≠ w) H2 rows ((As.take t).map fun a => val (R a)) := by
      rcases hs with ⟨rfl, h0⟩ | ⟨id, rows, hv, l1, l2, hr⟩
      · have ht0 : t = 0 := by
          have hl := congrArg List.length h0
          rw [List.length_map, List.length_take, List.length_nil] at hl
          omega
        subst ht0
        refine ⟨[], .inl ⟨rfl, rfl⟩, rfl, fun w hw => ?_⟩
        rcases hw with ⟨rfl, _, _⟩ | ⟨_, _, hw, _⟩
        · exact ⟨by omega, .inr rfl, by simpa using TyLO.nil⟩
        · cases hw
      · have hv2 : VW H2 5 id v rows := hv.same ((g2 id (by omega)).trans (sm1 _ (by omega) (by simp; omega)))
        refine ⟨rows, .inr ⟨id, hv2, by omega⟩, by rw [hr.len]; simp; omega, fun w hw => ?_⟩
        have hwid : w = id := by
          rcases hw with ⟨_, e, _⟩ | hw
          · obtain ⟨_, _, e2, _⟩ := hv2
            rw [e] at e2; cases e2
          · have a := hw.vid
            rw [hv2.vid] at a
            exact (Option.some.inj a).symm
        subst hwid
        exact ⟨l1, .inl l2, TyLO.keep (fun j hj => (g2 j (by omega)).trans (sm1 _ (by omega) (by simp; omega))) (fun j hj => hj) hr⟩
    obtain ⟨rows, hs2, hlen, hw2⟩ := hs2
    obtain ⟨v3, H3, n3, w, e3, hv3, lw, g3, ln3, hw⟩ := appOne row [n1] hs2 (bytes := 80) (by omega)
    obtain ⟨w1, w2, hty⟩ := hw2 w hw
    have hx3 : H3.get nx = some (.arr 0 5 [[.int .i64 k, .int .i64 m, .str s, v, .nils]]) := (g3 _ (by omega)).trans ((g2 _ (by omega)).trans hx1)
    generalize hH4 : H3.set nx (.arr 0 5 [[.int .i64 k, .int .i64 m, .str s, v3, .nils]]) = H4
    have g4 : ∀ id, id ≠ nx → H4.get id = H3.get id := fun id hid => by rw [← hH4]; exact get_other _ _ (Ne.symm hid)
    have hx4 : H4.get nx = some (.arr 0 5 [[.int .i64 k, .int .i64 m, .str s, v3, .nils]]) := by rw [← hH4, get_same]
    have g24 : ∀ id, id < n1 → id ≠ w → id ≠ nx → H4.get id = H1.get id := fun id a b c => (g4 _ c).trans ((g3 _ b).trans (g2 _ a))
    have st4 := st1.keep (H' := H4) (fun id a => g24 id (by omega) (by omega) (by omega))
    have sm4 : Same [idN, nx] lo H H4 := fun id a b => by
      simp only [List.mem_cons, List.not_mem_nil, or_false, not_or] at b
      rw [g24 id (by omega) (by omega) b.2, sm1 id (by omega) (by simpa using b.1)]
    have htk : (As.take (t + 1)).map (fun a => val (R a)) = ((As.take t).map fun a => val (R a)) ++ [val (R As[t])] := by
      rw [List.take_succ_eq_append_getElem htA, List.map_append]; rfl
    have sl4 : SlO lo n3 H4 v3 ((As.take (t + 1)).map fun a => val (R a)) := by
      refine .inr ⟨w, rows ++ [row], hv3.same (g4 _ (by omega)), w1, lw, ?_⟩
      rw [htk]
      refine TyLO.app (TyLO.keep (fun j hj => ?_) (fun j hj => ⟨hj.1, by omega, hj.2.2⟩) hty) (.cons _ _ _ _ (TyO.keep (fun j hj => g24 j hj.2 (by omega) (by omega)) (fun j hj => ⟨by omega, by omega, by omega⟩) ty1) .nil)
      rw [g4 j (by omega), g3 j hj.2.2]
    obtain ⟨H', n', P', v', y7, e4, st5, hx5, sl5, sm5, ln5⟩ := ihd (t + 1) H4 n3 P1 v3 (.int .i64 As[t]) (.bool true) (by omega) (by omega) (by omega) st4 (hV.same (sm4 _ (by omega) (by simp; omega))) hx4 sl4
    refine ⟨H', n', P', v', y7, ?_, st5, hx5, sl5, sm4.trans sm5 (Nat.le_refl _), by omega⟩
    rw [← e4]
    refine codeL_loop_iff ?_
    rw [eA]
    subst hrow
    have vc := hv3.cells
    simp (disch := omega) only [go_sem, Nat.reduceAdd, Nat.reduceMul, Nat.reduceLeDiff, Nat.reduceBEq, Nat.reduceLT, B_87_1, tpS, hHA, hra, hx, e1, elems_row hn2, hH2, e3, hx3, vc, hH4]
    have hsm : PV.sameF deep v v = true := slice_same (H := H) (k := 5) (by
      rcases hs with ⟨e, _⟩ | ⟨id, xs, e, _⟩
      · exact .inl e
      · exact .inr ⟨id, xs, e⟩)
    rw [ordIf_ok]
    · simp (disch := omega) only [go_sem, cast_add1]
    · refine orderly_mix (by simp [M_87_0]) 1472 rfl _ K_87_0 ?_
      intro x hxx
      have hx0 := hx
      simp only [List.mem_cons, List.not_mem_nil, or_false] at hxx
      rcases hxx with rfl | rfl | rfl | rfl
      · refine .inr (.inl (free_of [6, 7] 1472 rfl (by simp) rfl rfl ?_ ?_))
        · simp (disch := omega) only [go_sem, freeAt, hx0, hsm]
        · intro j hj
          simp only [List.mem_cons, List.not_mem_nil, or_false] at hj
          rcases hj with rfl | rfl
          · simp (disch := omega) only [go_sem, Nat.reduceAdd, freeAt, hx0, hsm, e1, hx1]
          · simp (disch := omega) only [go_sem, Nat.reduceAdd, Nat.reduceBEq, Nat.reduceLT, freeAt, hx0, hsm, e1, hx1, get_other]
      · exact .inl rfl
      · refine .inr (.inl (free_of [6, 7] 1472 rfl (by simp) rfl rfl ?_ ?_))
        · simp (disch := omega) only [go_sem, freeAt, hx0, hsm]
        · intro j hj
          simp only [List.mem_cons, List.not_mem_nil, or_false] at hj
          rcases hj with rfl | rfl
          · simp (disch := omega) only [go_sem, Nat.reduceAdd, freeAt, hx0, hsm, e1, hx1]
          · simp (disch := omega) only [go_sem, Nat.reduceAdd, Nat.reduceBEq, Nat.reduceLT, freeAt, hx0, hsm, e1, hx1, get_other]
      · exact .inl rfl
theorem urows_take (l : List PV) (t : Nat) (h : t < l.length) : urows (l.take (t + 1)) = urows (l.take t) ++ [[l[t]]] := by
  rw [List.take_succ_eq_append_getElem h, urows, List.map_append]; rfl
theorem type_units {nx lo idu : Nat} {Us : List PV} {uv : PV} {k m : Int} {s : ByteArray} {av : PV} (hUl : Us.length < 1000000) (hlo : nx < lo) (hnx : n0 ≤ nx) (ha0 : idu < n0) (haN : idu ≠ idN)
    (hun : ∀ u ∈ Us, (inv u).cells? = some [inv u] ∧ ∀ (H : Heap) (n : Nat), n0 ≤ n → G H → ∃ (H' : Heap) (n' : Nat), Gf 80 [u, b2, b5] H n = some (inv u, H', n') ∧ (∀ id, id < n → H'.get id = H.get id) ∧ n ≤ n') {x0 x1 x2 x4 x5 x7 x9 x10 x11 x12 x13 : PV} :
    ∀ (d t : Nat) (H : Heap) (n : Nat) (P : Nat → Nat) (v x8 x17 : PV), Us.length - t = d → t ≤ Us.length → lo ≤ n → TpSt n0 idS idN ver len pv wv c0 nm up pl D A U R rk W G H P → VW H 1 idu uv (urows Us) →
      H.get nx = some (.arr 0 5 [[.int .i64 k, .int .i64 m, .str s, av, v]]) → ((v = .nils ∧ t = 0) ∨ ∃ id, VW H 1 id v (urows ((Us.take t).map inv)) ∧ lo ≤ id ∧ id < n) →
      ∃ (H' : Heap) (n' : Nat) (P' : Nat → Nat) (v' y8 : PV), codeL Gf (.loop B_87_0) ⟨tpS x0 x1 x2 (.func 80 [] [b2, b5]) x4 x5 (.ptr nx 0 5 0 0) x7 x8 x9 x10 x11 x12 x13 uv (.int .i64 Us.length) (.int .i64 t) x17, H, n⟩ =
          some (.exit 2, ⟨tpS x0 x1 x2 (.func 80 [] [b2, b5]) x4 x5 (.ptr nx 0 5 0 0) x7 y8 x9 x10 x11 x12 x13 uv (.int .i64 Us.length) (.int .i64 Us.length) (.bool false), H', n'⟩) ∧
        TpSt n0 idS idN ver len pv wv c0 nm up pl D A U R rk W G H' P' ∧ H'.get nx = some (.arr 0 5 [[.int .i64 k, .int .i64 m, .str s, av, v']]) ∧ UsO (fun j => lo ≤ j ∧ j < n') H' v' (Us.map inv) ∧ Same [nx] lo H H' ∧ n ≤ n' := by
  intro d
  induction d with
  | zero =>
    intro t H n P v x8 x17 hd ht hn hst hV hx hs
    have e : t = Us.length := by omega
    subst e
    refine ⟨H, n, P, v, x8, codeL_loop_end ?_ (by simp), hst, hx, ?_, .refl _ _ _, Nat.le_refl _⟩
    · simp (disch := omega) only [go_sem, B_87_0, tpS]
    · rcases hs with ⟨e1, e2⟩ | ⟨id, h1, h2, h3⟩
      · exact .inl ⟨e1, by simpa using e2⟩
      · exact .inr ⟨id, ⟨h2, h3⟩, by simpa using h1⟩
  | succ d ihd =>
    intro t H n P v x8 x17 hd ht hn hst hV hx hs
    obtain ⟨va, ra, rfl, hHA⟩ := id hV
    have eA : (urows Us).length = Us.length := by simp [urows]
    have htA : t < Us.length := by omega
    have hra := urows_at htA ra
    obtain ⟨cu, hun1⟩ := hun Us[t] (List.getElem_mem _)
    obtain ⟨H1, n1, e1, g1, ln1⟩ := hun1 H n (by omega) hst.g
    have lN := hst.lN
    have hx1 : H1.get nx = some (.arr 0 5 [[.int .i64 k, .int .i64 m, .str s, av, v]]) := (g1 _ (by omega)).trans hx
    generalize hH2 : H1.set n1 (.arr 0 1 [[inv Us[t]]]) = H2
    have g2 : ∀ id, id < n1 → H2.get id = H1.get id := fun id hid => by rw [← hH2]; exact get_other _ _ (by omega)
    have hn2 : H2.get n1 = some (.arr 0 1 [[inv Us[t]]]) := by rw [← hH2, get_same]
    have hs2 : ((v = .nils ∧ urows ((Us.take t).map inv) = []) ∨ ∃ id, VW H2 1 id v (urows ((Us.take t).map inv)) ∧ id < n1 + 1) ∧ ∀ w, ((w = n1 + 1 ∧ v = .nils ∧ urows ((Us.take t).map inv) = []) ∨ VW H2 1 w v (urows ((Us.take t).map inv))) → lo ≤ w := by
      rcases hs with ⟨rfl, rfl⟩ | ⟨id, hv, l1, l2⟩
      · refine ⟨.inl ⟨rfl, rfl⟩, fun w hw => ?_⟩
        rcases hw with ⟨rfl, _, _⟩ | ⟨_, _, hw, _⟩
        · omega
        · cases hw
      · have hv2 : VW H2 1 id v (urows ((Us.take t).map inv)) := hv.same ((g2 id (by omega)).trans (g1 _ (by omega)))
        refine ⟨.inr ⟨id, hv2, by omega⟩, fun w hw => ?_⟩
        have hwid : w = id := by
          rcases hw with ⟨_, e, _⟩ | hw
          · obtain ⟨_, _, e2, _⟩ := hv2
            rw [e] at e2; cases e2
          · have a := hw.vid
            rw [hv2.vid] at a
            exact (Option.some.inj a).symm
        omega
    obtain ⟨hs2, hw2⟩ := hs2
    obtain ⟨v3, H3, n3, w, e3, hv3, lw, g3, ln3, hw⟩ := appOne [inv Us[t]] [n1] hs2 (bytes := 24) (by simp [urows]; omega)
    have w1 := hw2 w hw
    have hx3 : H3.get nx = some (.arr 0 5 [[.int .i64 k, .int .i64 m, .str s, av, v]]) := (g3 _ (by omega)).trans ((g2 _ (by omega)).trans hx1)
    generalize hH4 : H3.set nx (.arr 0 5 [[.int .i64 k, .int .i64 m, .str s, av, v3]]) = H4
    have g4 : ∀ id, id ≠ nx → H4.get id = H3.get id := fun id hid => by rw [← hH4]; exact get_other _ _ (Ne.symm hid)
    have hx4 : H4.get nx = some (.arr 0 5 [[.int .i64 k, .int .i64 m, .str s, av, v3]]) := by rw [← hH4, get_same]
    have g24 : ∀ id, id < n → id ≠ w → id ≠ nx → H4.get id = H.get id := fun id a b c => (g4 _ c).trans ((g3 _ b).trans ((g2 _ (by omega)).trans (g1 _ a)))
    have st4 := hst.keep (H' := H4) (fun id a => g24 id (by omega) (by omega) (by omega))
    have sm4 : Same [nx] lo H H4 := fun id a b => by
      simp only [List.mem_cons, List.not_mem_nil, or_false] at b
      exact g24 id (by omega) (by omega) b
    have hrows : urows ((Us.take t).map inv) ++ [[inv Us[t]]] = urows ((Us.take (t + 1)).map inv) := by
      rw [List.take_succ_eq_append_getElem htA, List.map_append, urows, urows, List.map_append]; rfl
    have hd2 : Us.length - (t + 1) = d := by rw [Nat.sub_add_eq, hd]; rfl
    have ht2 : t + 1 ≤ Us.length := by omega
    have hlo3 : lo ≤ n3 := by omega
    rw [hrows] at hv3
    obtain ⟨H', n', P', v', y8, e4, st5, hx5, sl5, sm5, ln5⟩ := ihd (t + 1) H4 n3 P v3 Us[t] (.bool true) hd2 ht2 hlo3 st4 (hV.same (sm4 _ (by omega) (by simp; omega))) hx4 (.inr ⟨w, hv3.same (g4 _ (by omega)), w1, lw⟩)
    refine ⟨H', n', P', v', y8, ?_, st5, hx5, sl5, sm4.trans sm5 (Nat.le_refl _), by omega⟩
    rw [← e4]
    refine codeL_loop_iff ?_
    rw [eA]
    have vc := hv3.cells
    simp (disch := omega) only [go_sem, Nat.reduceAdd, Nat.reduceMul, Nat.reduceLeDiff, Nat.reduceBEq, Nat.reduceLT, B_87_0, tpS, hHA, hra, hx, e1, cu, elems_row hn2, hH2, e3, hx3, vc, hH4]
    have hsm : PV.sameF deep v v = true := slice_same (H := H) (k := 1) (by
      rcases hs with ⟨e, _⟩ | ⟨id, e, _⟩
      · exact .inl e
      · exact .inr ⟨id, _, e⟩)
    rw [ordIf_ok]
    · simp (disch := omega) only [go_sem, cast_add1]
    · refine orderly_mix (by simp [M_87_1]) 368 rfl _ K_87_1 ?_
      intro x hxx
      simp only [List.mem_cons, List.not_mem_nil, or_false] at hxx
      rcases hxx with rfl | rfl | rfl | rfl
      · refine .inr (.inl (free_of [4, 5] 368 rfl (by simp) rfl rfl ?_ ?_))
        · simp (disch := omega) only [go_sem, freeAt, hx, hsm]
        · intro j hj
          simp only [List.mem_cons, List.not_mem_nil, or_false] at hj
          rcases hj with rfl | rfl
          · simp (disch := omega) only [go_sem, Nat.reduceAdd, freeAt, hx, hsm, e1, hx1]
          · simp (disch := omega) only [go_sem, Nat.reduceAdd, Nat.reduceBEq, Nat.reduceLT, freeAt, hx, hsm, e1, cu, hx1, get_other]
      · exact .inl rfl
      · refine .inr (.inl (free_of [4, 5] 368 rfl (by simp) rfl rfl ?_ ?_))
        · simp (disch := omega) only [go_sem, freeAt, hx, hsm]
        · intro j hj
          simp only [List.mem_cons, List.not_mem_nil, or_false] at hj
          rcases hj with rfl | rfl
          · simp (disch := omega) only [go_sem, Nat.reduceAdd, freeAt, hx, hsm, e1, hx1]
          · simp (disch := omega) only [go_sem, Nat.reduceAdd, Nat.reduceBEq, Nat.reduceLT, freeAt, hx, hsm, e1, cu, hx1, get_other]
      · exact .inl rfl
end
section
variable {n0 idS idN ver len : Nat} {pv wv c0 nm up pl : PV} {D : Nat → Nd} {A : Nat → List Nat} {U : Nat → List PV} {R rk : Nat → Nat} {W : List Nat} {G : Heap → Prop} {val : Nat → Ty} {inv : PV → PV} {b2 b5 b7 : PV}
theorem type_run (hl : len < 1000000) (mA : ∀ i, i < len → (A i).length < 1000000) (mU : ∀ i, i < len → (U i).length < 1000000)
    (h88 : ∀ r, r < len → R r = r → (D r).kind = 1 → ∀ (H : Heap) (n : Nat), n0 ≤ n → G H → ∃ (H' : Heap) (n' : Nat) (row : List PV), Gf 88 [.int .i64 r, b7] H n = some (.agg row, H', n') ∧ (∀ id, id < n → H'.get id = H.get id) ∧ n ≤ n' ∧ TyO (fun id => n ≤ id ∧ id < n') H' row (val r))
    (hun : ∀ i, i < len → ∀ u ∈ U i, (inv u).cells? = some [inv u] ∧ ∀ (H : Heap) (n : Nat), n0 ≤ n → G H → ∃ (H' : Heap) (n' : Nat), Gf 80 [u, b2, b5] H n = some (inv u, H', n') ∧ (∀ id, id < n → H'.get id = H.get id) ∧ n ≤ n')
    (hval : ∀ r, Fin' A R r → (D r).kind ≠ 1 → val r = .mk (D r).kind (D r).num (D r).name ((A r).map fun a => val (R a)) ((U r).map inv)) :
    ∀ r, Fin' A R r → ∀ (i : Nat), i < len → R i = r → ∀ (H : Heap) (n : Nat) (P : Nat → Nat), n0 ≤ n → TpSt n0 idS idN ver len pv wv c0 nm up pl D A U R rk W G H P →
      TpOut n0 idS idN ver len pv wv c0 nm up pl D A U R rk W G val (.func 88 [] [b7]) (.func 80 [] [b2, b5]) i H n := by
  intro r hr
  induction hr with
  | mk r hfin ih =>
    intro i hi hRi H n P hn st
    have lN := st.lN
    have lS := st.lS
    generalize hH1 : H.set n (.arr 0 5 [[.int .i64 0, .int .i64 0, .str ⟨#[]⟩, .nils, .nils]]) = H1
    have g1 : ∀ id, id < n → H1.get id = H.get id := fun id hid => by rw [← hH1]; exact get_other _ _ (by omega)
    have hn1 : H1.get n = some (.arr 0 5 [[.int .i64 0, .int .i64 0, .str ⟨#[]⟩, .nils, .nils]]) := by rw [← hH1, get_same]
    have st1 := st.keep (fun id hid => g1 id (by omega))
    obtain ⟨P2, H2, e83, st2, sm2⟩ := st1.find hl hi (n := n + 1) (by omega)
    have hn2 : H2.get n = some (.arr 0 5 [[.int .i64 0, .int .i64 0, .str ⟨#[]⟩, .nils, .nils]]) := (sm2 n (by omega) (by simp; omega)).trans hn1
    have sm02 : Same [idN] n H H2 := fun id a b => (sm2 id (by omega) b).trans (g1 id a)
    have lr : r < len := by have := (st2.ups i hi); rw [← hRi]; exact this.2.1
    have rr : R r = r := by rw [← hRi]; exact st2.ups.rr hi
    have hrow := nrows_at D P2 lr
    have hS2 := st2.s
    have hN2 := st2.nn
    generalize hH3 : H2.set (n + 1) (.arr 0 6 [nrow (D r) (P2 r)]) = H3
    have g3 : ∀ id, id ≠ n + 1 → H3.get id = H2.get id := fun id hid => by rw [← hH3]; exact get_other _ _ (Ne.symm hid)
    have hc3 : H3.get (n + 1) = some (.arr 0 6 [nrow (D r) (P2 r)]) := by rw [← hH3, get_same]
    have st3 := st2.keep (fun id hid => g3 id (by omega))
    have hn3 := (g3 n (by omega)).trans hn2
    simp only [nrow] at hH3 hc3 hrow
    by_cases hk : (D r).kind = 1
    · obtain ⟨H4, n4, row, e4, g4, ln4, ty4⟩ := h88 r lr rr hk H3 (n + 2) (by omega) st3.g
      obtain ⟨a5, u5, hrow5, ca5, cu5⟩ := ty4.five
      have ca5 := ca5.cells
      have cu5 := cu5.cells
      have hn4 := (g4 n (by omega)).trans hn3
      generalize hH5 : H4.set n (.arr 0 5 [row]) = H5
      have g5 : ∀ id, id ≠ n → H5.get id = H4.get id := fun id hid => by rw [← hH5]; exact get_other _ _ (Ne.symm hid)
      have hn5 : H5.get n = some (.arr 0 5 [row]) := by rw [← hH5, get_same]
      have g05 : ∀ id, id < n → H5.get id = H2.get id := fun id hid => by rw [g5 id (by omega), g4 id (by omega), g3 id (by omega)]
      refine ⟨H5, n4, P2, row, ?_, st2.keep (fun id hid => g05 id (by omega)), fun id a b => (g05 id a).trans (sm02 id a b), by omega, ?_⟩
      · rw [R_87]
        rw [hRi] at e83
        subst hrow5
        rw [hk] at hH3 hc3 hrow
        simp (disch := omega) only [go_sem, Nat.reduceAdd, Nat.reduceLeDiff, G_87, hH1, e83, hS2, hN2, hrow, get_same, set_set, hH3, hc3, e4, hn4, hH5, hn5]
      · rw [hRi]
        exact TyO.keep (fun j hj => g5 j (by omega)) (fun j hj => ⟨by omega, hj.2⟩) ty4
    · generalize hH4 : H3.set (n + 2) (.arr 0 5 [[.int .i64 (D r).kind, .int .i64 (D r).num, .str (D r).name, .nils, .nils]]) = H4
      have g4 : ∀ id, id ≠ n + 2 → H4.get id = H3.get id := fun id hid => by rw [← hH4]; exact get_other _ _ (Ne.symm hid)
      have hx4 : H4.get (n + 2) = some (.arr 0 5 [[.int .i64 (D r).kind, .int .i64 (D r).num, .str (D r).name, .nils, .nils]]) := by rw [← hH4, get_same]
      have hc4 := (g4 _ (show n + 1 ≠ n + 2 by omega)).trans hc3
      have st4 := st3.keep (fun id hid => g4 id (by omega))
      have hla : ∀ H n, lenX .slice H n (D r).av = some ⟨.int .i64 ((A r).length : Nat), H, n, .no⟩ := by
        intro H n
        rcases st2.sto.arg r lr with ⟨e1, e2⟩ | ⟨id, _, _, v, x, e1, _⟩
        · rw [e1, e2]; rfl
        · rw [e1]; simp [lenX, irows]
      have hlu : ∀ H n, lenX .slice H n (D r).uv = some ⟨.int .i64 ((U r).length : Nat), H, n, .no⟩ := by
        intro H n
        rcases st2.sto.uni r lr with ⟨e1, e2⟩ | ⟨id, _, _, v, x, e1, _⟩
        · rw [e1, e2]; rfl
        · rw [e1]; simp [lenX, urows]
      have loopA : ∃ (H5 : Heap) (n5 : Nat) (P5 : Nat → Nat) (v5 y7 : PV), codeL Gf (.loop B_87_1) ⟨tpS (.ptr idS 0 7 0 1) (.int .i64 r) (.func 88 [] [b7]) (.func 80 [] [b2, b5]) (.ptr n 0 5 0 0) (.ptr (n + 1) 0 6 0 0) (.ptr (n + 2) 0 5 0 0) (.tup []) (.tup []) (.bool false) (D r).av (.int .i64 (A r).length) (.int .i64 0) (.tup []) (.tup []) (.tup []) (.tup []) (.tup []), H4, n + 3⟩ =
          some (.exit 0, ⟨tpS (.ptr idS 0 7 0 1) (.int .i64 r) (.func 88 [] [b7]) (.func 80 [] [b2, b5]) (.ptr n 0 5 0 0) (.ptr (n + 1) 0 6 0 0) (.ptr (n + 2) 0 5 0 0) y7 (.tup []) (.bool false) (D r).av (.int .i64 (A r).length) (.int .i64 (A r).length) (.bool false) (.tup []) (.tup []) (.tup []) (.tup []), H5, n5⟩) ∧
        TpSt n0 idS idN ver len pv wv c0 nm up pl D A U R rk W G H5 P5 ∧ H5.get (n + 2) = some (.arr 0 5 [[.int .i64 (D r).kind, .int .i64 (D r).num, .str (D r).name, v5, .nils]]) ∧ SlO (n + 3) n5 H5 v5 ((A r).map fun a => val (R a)) ∧ Same [idN, n + 2] (n + 3) H4 H5 ∧ n + 3 ≤ n5 := by
        rcases st2.sto.arg r lr with ⟨e1, e2⟩ | ⟨id, c1, c2, c3⟩
        · refine ⟨H4, n + 3, P2, .nils, .tup [], codeL_loop_end ?_ (by simp), st4, hx4, .inl ⟨rfl, by rw [e2]; rfl⟩, .refl _ _ _, Nat.le_refl _⟩
          rw [e2]
          simp (disch := omega) only [go_sem, B_87_1, tpS, List.length_nil]
          rfl
        · have hV4 : VW H4 1 id (D r).av (irows (A r)) := c3.same ((g4 _ (by omega)).trans (g3 _ (by omega)))
          obtain ⟨H5, n5, P5, v5, y7, e5, st5, hx5, sl5, sm5, ln5⟩ := type_args (f := .func 88 [] [b7]) (g := .func 80 [] [b2, b5]) (nx := n + 2) (lo := n + 3) (mA r lr) (st2.sto.sub r lr) (by omega) (by omega) c1 (by rintro rfl; exact c2 st.wN)
            (fun a ha H n P hn st => ih a ha a (st2.sto.sub r lr a ha) rfl H n P hn st) (x1 := .int .i64 r) (x4 := .ptr n 0 5 0 0) (x5 := .ptr (n + 1) 0 6 0 0) (x8 := .tup []) (x9 := .bool false) (x14 := .tup []) (x15 := .tup []) (x16 := .tup []) (x17 := .tup [])
            _ 0 H4 (n + 3) P2 .nils (.tup []) (.tup []) rfl (Nat.zero_le _) (Nat.le_refl _) st4 hV4 hx4 (.inl ⟨rfl, by simp⟩)
          exact ⟨H5, n5, P5, v5, y7, e5, st5, hx5, sl5, sm5, ln5⟩
      obtain ⟨H5, n5, P5, v5, y7, e5, st5, hx5, sl5, sm5, ln5⟩ := loopA
      have hc5 : H5.get (n + 1) = some (.arr 0 6 [nrow (D r) (P2 r)]) := (sm5 _ (by omega) (by simp; omega)).trans hc4
      have hb5 : H5.get n = some (.arr 0 5 [[.int .i64 0, .int .i64 0, .str ⟨#[]⟩, .nils, .nils]]) := (sm5 _ (by omega) (by simp; omega)).trans ((g4 _ (by omega)).trans hn3)
      have loopU : ∃ (H6 : Heap) (n6 : Nat) (P6 : Nat → Nat) (v6 y8 : PV), codeL Gf (.loop B_87_0) ⟨tpS (.ptr idS 0 7 0 1) (.int .i64 r) (.func 88 [] [b7]) (.func 80 [] [b2, b5]) (.ptr n 0 5 0 0) (.ptr (n + 1) 0 6 0 0) (.ptr (n + 2) 0 5 0 0) y7 (.tup []) (.bool false) (D r).av (.int .i64 (A r).length) (.int .i64 (A r).length) (.bool false) (D r).uv (.int .i64 (U r).length) (.int .i64 0) (.tup []), H5, n5⟩ =
          some (.exit 2, ⟨tpS (.ptr idS 0 7 0 1) (.int .i64 r) (.func 88 [] [b7]) (.func 80 [] [b2, b5]) (.ptr n 0 5 0 0) (.ptr (n + 1) 0 6 0 0) (.ptr (n + 2) 0 5 0 0) y7 y8 (.bool false) (D r).av (.int .i64 (A r).length) (.int .i64 (A r).length) (.bool false) (D r).uv (.int .i64 (U r).length) (.int .i64 (U r).length) (.bool false), H6, n6⟩) ∧
        TpSt n0 idS idN ver len pv wv c0 nm up pl D A U R rk W G H6 P6 ∧ H6.get (n + 2) = some (.arr 0 5 [[.int .i64 (D r).kind, .int .i64 (D r).num, .str (D r).name, v5, v6]]) ∧ UsO (fun j => n5 ≤ j ∧ j < n6) H6 v6 ((U r).map inv) ∧ Same [n + 2] n5 H5 H6 ∧ n5 ≤ n6 := by
        rcases st2.sto.uni r lr with ⟨e1, e2⟩ | ⟨id, c1, c2, c3⟩
        · refine ⟨H5, n5, P5, .nils, .tup [], codeL_loop_end ?_ (by simp), st5, hx5, .inl ⟨rfl, by rw [e2]; rfl⟩, .refl _ _ _, Nat.le_refl _⟩
          rw [e2]
          simp (disch := omega) only [go_sem, B_87_0, tpS, List.length_nil]
          rfl
        · have hV5 : VW H5 1 id (D r).uv (urows (U r)) := c3.same ((sm5 _ (by omega) (by simp only [List.mem_cons, List.not_mem_nil, or_false]; rintro (rfl | rfl); exact c2 st.wN; omega)).trans ((g4 _ (by omega)).trans (g3 _ (by omega))))
          obtain ⟨H6, n6, P6, v6, y8, e6, st6, hx6, sl6, sm6, ln6⟩ := type_units (b2 := b2) (b5 := b5) (inv := inv) (nx := n + 2) (lo := n5) (mU r lr) (by omega) (by omega) c1 (by rintro rfl; exact c2 st.wN) (hun r lr) (x0 := .ptr idS 0 7 0 1) (x1 := .int .i64 r) (x2 := .func 88 [] [b7]) (x4 := .ptr n 0 5 0 0) (x5 := .ptr (n + 1) 0 6 0 0) (x7 := y7) (x9 := .bool false) (x10 := (D r).av) (x11 := .int .i64 (A r).length) (x12 := .int .i64 (A r).length) (x13 := .bool false)
            _ 0 H5 n5 P5 .nils (.tup []) (.tup []) rfl (Nat.zero_le _) (Nat.le_refl _) st5 hV5 hx5 (.inl ⟨rfl, rfl⟩)
          exact ⟨H6, n6, P6, v6, y8, e6, st6, hx6, sl6, sm6, ln6⟩
      obtain ⟨H6, n6, P6, v6, y8, e6, st6, hx6, us6, sm6, ln6⟩ := loopU
      have hb6 : H6.get n = some (.arr 0 5 [[.int .i64 0, .int .i64 0, .str ⟨#[]⟩, .nils, .nils]]) := (sm6 _ (by omega) (by simp)).trans hb5
      generalize hH7 : H6.set n (.arr 0 5 [[.int .i64 (D r).kind, .int .i64 (D r).num, .str (D r).name, v5, v6]]) = H7
      have g7 : ∀ id, id ≠ n → H7.get id = H6.get id := fun id hid => by rw [← hH7]; exact get_other _ _ (Ne.symm hid)
      have hn7 : H7.get n = some (.arr 0 5 [[.int .i64 (D r).kind, .int .i64 (D r).num, .str (D r).name, v5, v6]]) := by rw [← hH7, get_same]
      have ts6 : TysO (fun j => n ≤ j ∧ j < n6) H7 v5 ((A r).map fun a => val (R a)) := by
        have hk7 : ∀ j, n + 3 ≤ j → j < n5 → H7.get j = H5.get j := fun j h1 h2 => by rw [g7 j (by omega), sm6 j h2 (by simp; omega)]
        rcases sl5 with ⟨e1, e2⟩ | ⟨id, rows, h1, h2, h3, h4⟩
        · rw [e1, e2]; exact .nil
        · exact .view id v5 rows _ ⟨by omega, by omega⟩ (h1.same (hk7 _ h2 h3)) (TyLO.keep (fun j hj => hk7 j hj.1 hj.2.1) (fun j hj => ⟨by omega, by omega⟩) h4)
      have us7 : UsO (fun j => n ≤ j ∧ j < n6) H7 v6 ((U r).map inv) := us6.keep (fun j hj => g7 j (by omega)) (fun j hj => ⟨by omega, hj.2⟩)
      have v5c := ts6.cells
      have v6c := us7.cells
      have g07 : ∀ id, id < n → id ≠ idN → H7.get id = H2.get id := fun id hid hne => by
        rw [g7 id (by omega), sm6 id (by omega) (by simp; omega), sm5 id (by omega) (by simp only [List.mem_cons, List.not_mem_nil, or_false]; omega), g4 id (by omega), g3 id (by omega)]
      refine ⟨H7, n6, P6, [.int .i64 (D r).kind, .int .i64 (D r).num, .str (D r).name, v5, v6], ?_, st6.keep (fun id hid => g7 id (by omega)), fun id a b => (g07 id a (by simpa using b)).trans (sm02 id a b), by omega, ?_⟩
      · simp only [tpS, nrow] at e5 e6 hc5
        rw [R_87]
        rw [hRi] at e83
        simp (disch := omega) only [go_sem, Nat.reduceAdd, Nat.reduceLeDiff, G_87, hH1, e83, hS2, hN2, hrow, get_same, set_set, hH3, hc3, hH4, hc4, hla, e5, hc5, hlu, e6, hx6, hb6, hH7, hn7]
      · rw [hRi, hval r (.mk r hfin) hk]
        exact .mk _ _ _ _ _ _ _ ts6 us7
end
def toS (x0 x1 x2 x3 x4 x5 x6 x7 x8 x9 x10 x11 x12 x13 x14 x15 x16 x17 x18 x19 x20 x21 x22 x23 x24 x25 x26 x27 x28 x29 x30 x31 x32 x33 x34 x35 x36 : PV) : List PV :=
  [x0, x1, x2, x3, x4, x5, x6, x7, x8, x9, x10, x11, x12, x13, x14, x15, x16, x17, x18, x19, x20, x21, x22, x23, x24, x25, x26, x27, x28, x29, x30, x31, x32, x33, x34, x35, x36]
structure Std (R : Nat → Nat) (ts : List Nat) (es : Ents) (t : Nat) : Prop where
  keys : IKeys es
  inn : ∀ j, j < t → ∃ k, k < t ∧ R k = R j ∧ imGet es (R j) = some (.int .i64 (ts.getD k 0 : Nat))
  out : ∀ (i : Nat) (v : PV), imGet es i = some v → ∃ k, k < t ∧ R k = i ∧ v = .int .i64 (ts.getD k 0 : Nat)
theorem Std.old {R : Nat → Nat} {ts : List Nat} {es : Ents} {t : Nat} (h : Std R ts es t) {v : PV} (hv : imGet es (R t) = some v) : Std R ts es (t + 1) where
  keys := h.keys
  inn j hj := by
    by_cases e : j = t
    · subst e
      obtain ⟨k, h1, h2, h3⟩ := h.out _ _ hv
      exact ⟨k, by omega, h2, by rw [hv, h3]⟩
    · obtain ⟨k, h1, h2, h3⟩ := h.inn j (by omega)
      exact ⟨k, by omega, h2, h3⟩
  out i v hi := by
    obtain ⟨k, h1, h2, h3⟩ := h.out i v hi
    exact ⟨k, by omega, h2, h3⟩
theorem Std.new {R : Nat → Nat} {ts : List Nat} {es : Ents} {t : Nat} (h : Std R ts es t) (hv : imGet es (R t) = none) (c : Nat) : Std R ts (imSet es (R t) (.int .i64 (ts.getD t 0 : Nat)) c) (t + 1) where
  keys := imSet_keys h.keys _ _ _
  inn j hj := by
    rw [imGet_set h.keys]
    by_cases e : j = t
    · subst e
      exact ⟨j, by omega, rfl, by simp⟩
    · obtain ⟨k, h1, h2, h3⟩ := h.inn j (by omega)
      have hne : ¬ ((R j : Int) = (R t : Int)) := fun e => by
        have : R j = R t := by omega
        rw [this, hv] at h3; cases h3
      exact ⟨k, by omega, h2, by rw [if_neg hne]; exact h3⟩
  out i v hi := by
    rw [imGet_set h.keys] at hi
    by_cases e : i = R t
    · subst e
      simp at hi
      exact ⟨t, by omega, rfl, hi.symm⟩
    · have hne : ¬ ((i : Int) = (R t : Int)) := fun e2 => e (by omega)
      rw [if_neg hne] at hi
      obtain ⟨k, h1, h2, h3⟩ := h.out i v hi
      exact ⟨k, by omega, h2, h3⟩
section
variable {nA idS idN idM ver len : Nat} {pv wv c0 up pl : PV} {D : Nat → Nd} {A : Nat → List Nat} {U : Nat → List PV} {R rk : Nat → Nat} {W : List Nat} {es : Ents} {clock : Nat} {ts : List Nat} {tv : PV} {idT nb i7b i7m n : Nat}
theorem TpSt.look {n0 : Nat} {nm : PV} {G : Heap → Prop} {H : Heap} {P : Nat → Nat} (h : TpSt n0 idS idN ver len pv wv c0 nm up pl D A U R rk W G H P) (hl : len < 1000000) {i : Nat} (hi : i < len) {n : Nat} (hn : n0 ≤ n) :
    ∃ (P' : Nat → Nat) (H' : Heap), Gf 84 [.ptr idS 0 7 0 1, .int .i64 i] H n = some (.tup [.int .i64 (D (R i)).kind, .int .i64 (D (R i)).num, .str (D (R i)).name, (D (R i)).av, (D (R i)).uv], H', n + 1) ∧
      TpSt n0 idS idN ver len pv wv c0 nm up pl D A U R rk W G H' P' ∧ Same [idN] n H H' := by
  obtain ⟨P2, H2, e83, st2, sm2⟩ := h.find hl hi hn
  have lr : R i < len := (st2.ups i hi).2.1
  have hrow := nrows_at D P2 lr
  simp only [nrow] at hrow
  have hS2 := st2.s
  have hN2 := st2.nn
  generalize hH3 : H2.set n (.arr 0 6 [[.int .i64 (D (R i)).kind, .int .i64 (D (R i)).num, .str (D (R i)).name, (D (R i)).av, (D (R i)).uv, .int .i64 (P2 (R i))]]) = H3
  have g3 : ∀ id, id < n → H3.get id = H2.get id := fun id hid => by rw [← hH3]; exact get_other _ _ (by omega)
  have hc3 : H3.get n = some (.arr 0 6 [[.int .i64 (D (R i)).kind, .int .i64 (D (R i)).num, .str (D (R i)).name, (D (R i)).av, (D (R i)).uv, .int .i64 (P2 (R i))]]) := by rw [← hH3, get_same]
  refine ⟨P2, H3, ?_, st2.keep (fun id hid => g3 id (by omega)), fun id a b => (g3 id a).trans (sm2 id a b)⟩
  rw [R_84]
  simp (disch := omega) only [go_sem, Nat.reduceAdd, Nat.reduceMul, Nat.reduceLeDiff, G_84, e83, hS2, hN2, hrow, get_same, set_set, hH3, hc3]
theorem told_stands (hke : IKeys es) (hat : ∀ j, (h : j < ts.length) → imGet es ts[j] = some (.int .i64 (j : Nat))) (hts : ts.length ≤ len) (hl : len < 1000000) (lM : idM < nA) (dM : idM ≠ idN) (lT : idT < nA) (dT : idT ≠ idN) (hnb : nA ≤ nb) (hb7 : nA ≤ i7b) (hm7 : nA ≤ i7m) (d1 : nb ≠ i7m) (d2 : i7b ≠ i7m)
    (lb : nb < n) (l7 : i7b < n) (l7m : i7m < n) {x0 x1 x3 x4 x5 x6 x11 x12 x13 x14 x15 x16 x17 x18 x19 x20 x26 x27 x28 x29 x30 x31 x32 x33 x34 x35 x36 : PV} :
    ∀ (d t : Nat) (H : Heap) (P : Nat → Nat) (es7 : Ents) (clock7 : Nat) (x8 x9 x10 x24 x25 : PV), ts.length - t = d → t ≤ ts.length → TpSt nA idS idN ver len pv wv c0 (.map idM) up pl D A U R rk W (fun _ => True) H P →
      H.get nb = some (.arr 0 1 [[.ptr idS 0 7 0 0]]) → H.get idM = some (.map es clock) → VW H 1 idT tv (irows ts) → H.get i7b = some (.arr 0 1 [[.map i7m]]) → H.get i7m = some (.map es7 clock7) → Std R ts es7 t →
      ∃ (H' : Heap) (P' : Nat → Nat) (es7' : Ents) (clock7' : Nat) (y8 y9 y10 y25 : PV),
        codeL Gf (.loop B_29_2) ⟨toS x0 x1 (.ptr nb 0 1 0 0) x3 x4 x5 x6 (.ptr i7b 0 1 0 0) x8 x9 x10 x11 x12 x13 x14 x15 x16 x17 x18 x19 x20 tv (.int .i64 ts.length) (.int .i64 t) x24 x25 x26 x27 x28 x29 x30 x31 x32 x33 x34 x35 x36, H, n⟩ =
          some (.exit 0, ⟨toS x0 x1 (.ptr nb 0 1 0 0) x3 x4 x5 x6 (.ptr i7b 0 1 0 0) y8 y9 y10 x11 x12 x13 x14 x15 x16 x17 x18 x19 x20 tv (.int .i64 ts.length) (.int .i64 ts.length) (.bool false) y25 x26 x27 x28 x29 x30 x31 x32 x33 x34 x35 x36, H', n⟩) ∧
        TpSt nA idS idN ver len pv wv c0 (.map idM) up pl D A U R rk W (fun _ => True) H' P' ∧ H'.get i7m = some (.map es7' clock7') ∧ Std R ts es7' ts.length ∧ Same [idN, i7m] n H H' := by
  intro d
  induction d with
  | zero =>
    intro t H P es7 clock7 x8 x9 x10 x24 x25 hd ht hst hb hM hV h7 hm hs
    have e : t = ts.length := by omega
    subst e
    refine ⟨H, P, es7, clock7, x8, x9, x10, x25, codeL_loop_end ?_ (by simp), hst, hm, hs, .refl _ _ _⟩
    simp (disch := omega) only [go_sem, B_29_2, toS]
  | succ d ih =>
    intro t H P es7 clock7 x8 x9 x10 x24 x25 hd ht hst hb hM hV h7 hm hs
    have htl : t < ts.length := by omega
    obtain ⟨va, ra, rfl, hHA⟩ := id hV
    have eA : (irows ts).length = ts.length := by simp [irows]
    have hra := irows_at htl ra
    have hS := hst.s
    have hlk := lookO_im (zero := .int .i64 0) (id := idM) (clock := clock) hke H n (ts[t] : Int)
    rw [hat t htl] at hlk
    obtain ⟨P1, H1, e1, st1, sm1⟩ := hst.find hl (i := t) (by omega) (n := n) (by omega)
    have hb1 : H1.get nb = _ := (sm1 nb lb (by simp; have := hst.lN; omega)).trans hb
    have hM1 : H1.get idM = _ := (sm1 idM (by omega) (by simpa using dM)).trans hM
    have h71 : H1.get i7b = _ := (sm1 i7b l7 (by simp; have := hst.lN; omega)).trans h7
    have hm1 : H1.get i7m = _ := (sm1 i7m l7m (by simp; have := hst.lN; omega)).trans hm
    have hV1 := hV.same (sm1 idT (by omega) (by simpa using dT))
    have hlk2 := lookO_im2 (zero := .int .i64 0) (id := i7m) (clock := clock7) hs.keys H1 n (R t : Int)
    have hgd : ts.getD t 0 = ts[t] := by simp [htl]
    cases hg : imGet es7 (R t) with
    | some v =>
      rw [hg] at hlk2
      obtain ⟨H', P', es7', clock7', y8, y9, y10, y25, g1, g2, g3, g4, g5⟩ := ih (t + 1) H1 P1 es7 clock7 (.int .i64 ts[t]) (.int .i64 (R t)) (.bool true) (.bool true) (.bool false) (by omega) (by omega) st1 hb1 hM1 hV1 h71 hm1 (hs.old hg)
      refine ⟨H', P', es7', clock7', y8, y9, y10, y25, ?_, g2, g3, g4, (sm1.mono (fun x hx => by simp at hx; simp [hx]) (Nat.le_refl _)).trans g5 (Nat.le_refl _)⟩
      rw [← g1]
      refine codeL_loop_iff ?_
      rw [eA]
      simp (disch := omega) only [go_sem, Nat.reduceAdd, Nat.reduceMul, Nat.reduceLeDiff, B_29_2, toS, hHA, hra, hb, hS, hM, hlk, e1, h71, hm1, hlk2, Option.getD_some, Option.isSome_some, cast_add1]
    | none =>
      rw [hg] at hlk2
      have hst2 := mapSetO_im (id := i7m) (clock := clock7) hs.keys H1 n (R t : Int) (.int .i64 ts[t])
      generalize hH2 : H1.set i7m (.map (imSet es7 (R t) (.int .i64 ts[t]) clock7) (imClock es7 (R t) clock7)) = H2 at hst2
      have g2 : ∀ id, id ≠ i7m → H2.get id = H1.get id := fun id hid => by rw [← hH2]; exact get_other _ _ (Ne.symm hid)
      have hm2 : H2.get i7m = some (.map (imSet es7 (R t) (.int .i64 ts[t]) clock7) (imClock es7 (R t) clock7)) := by rw [← hH2, get_same]
      have st2 := st1.keep (H' := H2) (fun id hid => g2 id (by omega))
      have hs2 := hs.new hg clock7
      rw [hgd] at hs2
      obtain ⟨H', P', es7', clock7', y8, y9, y10, y25, k1, k2, k3, k4, k5⟩ := ih (t + 1) H2 P1 _ _ (.int .i64 ts[t]) (.int .i64 (R t)) (.bool false) (.bool true) (.bool true) (by omega) (by omega) st2 ((g2 _ d1).trans hb1) ((g2 _ (by omega)).trans hM1) (hV1.same (g2 _ (by omega))) ((g2 _ d2).trans h71) hm2 hs2
      refine ⟨H', P', es7', clock7', y8, y9, y10, y25, ?_, k2, k3, k4, fun id a b => ?_⟩
      · rw [← k1]
        refine codeL_loop_iff ?_
        rw [eA]
        simp (disch := omega) only [go_sem, Nat.reduceAdd, Nat.reduceMul, Nat.reduceLeDiff, B_29_2, toS, hHA, hra, hb, hS, hM, hlk, e1, h71, hm1, hlk2, Option.getD_some, Option.getD_none, Option.isSome_none, hst2, cast_add1]
      · rw [k5 id a b]
        simp only [List.mem_cons, List.not_mem_nil, or_false, not_or] at b
        rw [g2 id b.2, sm1 id a (by simpa using b.1)]
end
inductive BdO (ok : Nat → Prop) (H : Heap) : List (List PV) → List (Nat × Ty) → Prop
  | nil : BdO ok H [] []
  | cons (k : Nat) (x : List PV) (xs : List (List PV)) (t : Ty) (ts : List (Nat × Ty)) : TyO ok H x t → BdO ok H xs ts → BdO ok H ((.int .i64 k :: x) :: xs) ((k, t) :: ts)
section
variable {ok ok' : Nat → Prop} {H H' : Heap}
theorem BdO.keep (hk : ∀ id, ok id → H'.get id = H.get id) (ho : ∀ id, ok id → ok' id) {xs : List (List PV)} {ts : List (Nat × Ty)} (h : BdO ok H xs ts) : BdO ok' H' xs ts := by
  induction h with
  | nil => exact .nil
  | cons k x xs t ts h1 _ ih => exact .cons k x xs t ts (TyO.keep hk ho h1) ih
theorem BdO.app {xs ys : List (List PV)} {ts us : List (Nat × Ty)} (h : BdO ok H xs ts) (g : BdO ok H ys us) : BdO ok H (xs ++ ys) (ts ++ us) := by
  induction h with
  | nil => exact g
  | cons k x xs t ts h1 _ ih => exact .cons k x _ t _ h1 ih
theorem BdO.len {xs : List (List PV)} {ts : List (Nat × Ty)} (h : BdO ok H xs ts) : xs.length = ts.length := by
  induction h with
  | nil => rfl
  | cons k x xs t ts h1 _ ih => simp [ih]
end
def BsO (lo n : Nat) (H : Heap) (v : PV) (bs : List (Nat × Ty)) : Prop := (v = .nils ∧ bs = []) ∨ ∃ id rows, VW H 6 id v rows ∧ lo ≤ id ∧ id < n ∧ BdO (fun j => lo ≤ j ∧ j < n ∧ j ≠ id) H rows bs
theorem BsO.keep {lo n n' : Nat} {H H' : Heap} {v : PV} {bs : List (Nat × Ty)} (h : BsO lo n H v bs) (hk : ∀ j, lo ≤ j → j < n → H'.get j = H.get j) (hn : n ≤ n') : BsO lo n' H' v bs := by
  rcases h with h | ⟨id, rows, h1, h2, h3, h4⟩
  · exact .inl h
  · exact .inr ⟨id, rows, h1.same (hk _ h2 h3), h2, by omega, h4.keep (fun j hj => hk j hj.1 hj.2.1) (fun j hj => ⟨hj.1, by omega, hj.2.2⟩)⟩
theorem large_run (a b : Nat) : pureV Gf 86 [.agg [.int .i64 a, .int .i64 b]] = some (.bool (decide (256 < a ∨ 256 < b))) := by
  rw [pureV_eq, R_86]
  by_cases h1 : 256 < a
  · have e : decide (256 < a ∨ 256 < b) = true := by simp [h1]
    rw [e]
    simp (disch := omega) only [go_sem, Nat.reduceAdd, G_86, get_same]
  · by_cases h2 : 256 < b
    · have e : decide (256 < a ∨ 256 < b) = true := by simp [h2]
      rw [e]
      simp (disch := omega) only [go_sem, Nat.reduceAdd, G_86, get_same]
    · have e : decide (256 < a ∨ 256 < b) = false := by simp [h1, h2]
      rw [e]
      simp (disch := omega) only [go_sem, Nat.reduceAdd, G_86, get_same]
theorem Sto.wide {H : Heap} {n n' len : Nat} {W W' : List Nat} {D : Nat → Nd} {A : Nat → List Nat} {U : Nat → List PV} (h : Sto H n W len D A U) (hw : ∀ x ∈ W', x ∈ W ∨ n ≤ x) (hn : n ≤ n') : Sto H n' W' len D A U where
  arg i hi := by
    rcases h.arg i hi with c | ⟨id, c1, c2, c3⟩
    · exact .inl c
    · exact .inr ⟨id, by omega, fun hm => by rcases hw _ hm with e | e; exact c2 e; omega, c3⟩
  uni i hi := by
    rcases h.uni i hi with c | ⟨id, c1, c2, c3⟩
    · exact .inl c
    · exact .inr ⟨id, by omega, fun hm => by rcases hw _ hm with e | e; exact c2 e; omega, c3⟩
  sub := h.sub
  flt := h.flt
def skipB (D : Nat → Nd) (R sd : Nat → Nat) (ts : List Nat) (j : Nat) : Bool := (D (R j)).kind == 1 && sd (R j) == ts.getD j 0
def bsUp (D : Nat → Nd) (R sd : Nat → Nat) (ts : List Nat) (val : Nat → Ty) : Nat → List (Nat × Ty)
  | 0 => []
  | t + 1 => bsUp D R sd ts val t ++ (if skipB D R sd ts t then [] else [(ts.getD t 0, val (R t))])
theorem bsUp_len (D : Nat → Nd) (R sd : Nat → Nat) (ts : List Nat) (val : Nat → Ty) : ∀ t, (bsUp D R sd ts val t).length ≤ t
  | 0 => Nat.le_refl _
  | t + 1 => by
    have := bsUp_len D R sd ts val t
    simp only [bsUp, List.length_append]
    split <;> simp <;> omega
structure ToB (idS nb i7b i7m idM idT : Nat) (es es7 : Ents) (clock clock7 : Nat) (tv : PV) (ts : List Nat) (H : Heap) : Prop where
  b : H.get nb = some (.arr 0 1 [[.ptr idS 0 7 0 0]])
  m : H.get idM = some (.map es clock)
  v : VW H 1 idT tv (irows ts)
  b7 : H.get i7b = some (.arr 0 1 [[.map i7m]])
  m7 : H.get i7m = some (.map es7 clock7)
section
variable {nA idS idN idM idK idR ver len : Nat} {pv wv c0 up pl : PV} {D : Nat → Nd} {A : Nat → List Nat} {U : Nat → List PV} {R rk : Nat → Nat} {W : List Nat} {es es7 : Ents} {clock clock7 : Nat} {ts : List Nat} {tv : PV} {idT nb i5 i7b i7m lo : Nat} {sz : Nat → Nat × Nat} {val : Nat → Ty} {sd : Nat → Nat} {inv : PV → PV} {GU : Heap → Prop}
theorem told_types (hke : IKeys es) (hat : ∀ j, (h : j < ts.length) → imGet es ts[j] = some (.int .i64 (j : Nat))) (hts : ts.length ≤ len) (hl : len < 1000000) (lM : idM < nA) (dM : idM ≠ idN) (lT : idT < nA) (dT : idT ≠ idN)
    (mA : ∀ i, i < len → (A i).length < 1000000) (mU : ∀ i, i < len → (U i).length < 1000000) (hWl : ∀ x ∈ W, x < nA) (wS : idS ∈ W)
    (hnb : nA ≤ nb) (hb7 : nA ≤ i7b) (hm7 : nA ≤ i7m) (hK : nA ≤ idK) (hR : nA ≤ idR) (lb : nb < lo) (l7 : i7b < lo) (l7m : i7m < lo) (lK : idK < lo) (lR : idR < lo) (dis : [nb, i7b, i7m].all (fun x => x != idK && x != idR) = true) (dKR : idK ≠ idR)
    (hs7 : IKeys es7) (hsd : ∀ j, j < ts.length → imGet es7 (R j) = some (.int .i64 (sd (R j) : Nat)))
    (hfin : ∀ j, j < ts.length → Fin' A R (R j)) (hsz : ∀ r, Fin' A R r → sz r = szStep A R U sz r)
    (hv1 : ∀ j, j < ts.length → (D (R j)).kind = 1 → val (R j) = .mk 1 (sd (R j) : Nat) ⟨#[]⟩ [] []) (hnk : ∀ r, r < len → R r = r → (D r).kind = 1 → r < ts.length)
    (hval : ∀ r, Fin' A R r → (D r).kind ≠ 1 → val r = .mk (D r).kind (D r).num (D r).name ((A r).map fun a => val (R a)) ((U r).map inv))
    (hGU : ∀ H H' : Heap, GU H → (∀ id, id < lo → id ∉ [idN, idK, idR] → H'.get id = H.get id) → GU H')
    (hun : ∀ i, i < len → ∀ u ∈ U i, (inv u).cells? = some [inv u] ∧ ∀ (H : Heap) (n : Nat), lo ≤ n → GU H → ∃ (H' : Heap) (n' : Nat), Gf 80 [u, .ptr nb 0 1 0 0, .ptr i5 0 1 0 0] H n = some (inv u, H', n') ∧ (∀ id, id < n → H'.get id = H.get id) ∧ n ≤ n')
    {x0 x1 x4 x5 x8 x9 x10 x16 x17 x18 x19 x20 x21 x22 x23 x24 x25 x32 x33 x34 x35 x36 : PV} :
    ∀ (d t : Nat) (H : Heap) (n : Nat) (P : Nat → Nat) (eK : Ents) (cK : Nat) (v x12 x13 x14 x15 x29 x30 x31 : PV), ts.length - t = d → t ≤ ts.length → lo ≤ n → TpSt nA idS idN ver len pv wv c0 (.map idM) up pl D A U R rk W (fun _ => True) H P →
      ToB idS nb i7b i7m idM idT es es7 clock clock7 tv ts H → H.get idK = some (.map eK cK) → Memo eK sz → GU H → H.get idR = some (.arr 0 2 [[v, .nils]]) → BsO lo n H v (bsUp D R sd ts val t) →
      (∃ (H' : Heap) (n' : Nat) (v' y12 y13 y14 y15 y30 y31 : PV),
        codeL Gf (.loop B_29_1) ⟨toS x0 x1 (.ptr nb 0 1 0 0) (.ptr idR 0 2 0 0) x4 x5 (.func 80 [] [.ptr nb 0 1 0 0, .ptr i5 0 1 0 0]) (.ptr i7b 0 1 0 0) x8 x9 x10 (.map idK) x12 x13 x14 x15 x16 x17 x18 x19 x20 x21 x22 x23 x24 x25 tv (.int .i64 ts.length) (.int .i64 t) x29 x30 x31 x32 x33 x34 x35 x36, H, n⟩ =
          some (.exit 2, ⟨toS x0 x1 (.ptr nb 0 1 0 0) (.ptr idR 0 2 0 0) x4 x5 (.func 80 [] [.ptr nb 0 1 0 0, .ptr i5 0 1 0 0]) (.ptr i7b 0 1 0 0) x8 x9 x10 (.map idK) y12 y13 y14 y15 x16 x17 x18 x19 x20 x21 x22 x23 x24 x25 tv (.int .i64 ts.length) (.int .i64 ts.length) (.bool false) y30 y31 x32 x33 x34 x35 x36, H', n'⟩) ∧
        H'.get idR = some (.arr 0 2 [[v', .nils]]) ∧ BsO lo n' H' v' (bsUp D R sd ts val ts.length) ∧ (∀ j, t ≤ j → j < ts.length → skipB D R sd ts j = false → (sz (R j)).1 ≤ 256 ∧ (sz (R j)).2 ≤ 256) ∧ Same [idN, idK, idR] lo H H' ∧ H'.get idS = H.get idS ∧ n ≤ n' ∧ GU H') ∨
      (∃ (H' : Heap) (n' : Nat) (T : List PV), codeL Gf (.loop B_29_1) ⟨toS x0 x1 (.ptr nb 0 1 0 0) (.ptr idR 0 2 0 0) x4 x5 (.func 80 [] [.ptr nb 0 1 0 0, .ptr i5 0 1 0 0]) (.ptr i7b 0 1 0 0) x8 x9 x10 (.map idK) x12 x13 x14 x15 x16 x17 x18 x19 x20 x21 x22 x23 x24 x25 tv (.int .i64 ts.length) (.int .i64 t) x29 x30 x31 x32 x33 x34 x35 x36, H, n⟩ =
          some (.ret, ⟨[x0, x1, .ptr nb 0 1 0 0, .ptr idR 0 2 0 0, .int .i64 122] ++ T, H', n'⟩) ∧ H'.get idR = some (.arr 0 2 [[.nils, .nils]]) ∧ (∃ j, j < ts.length ∧ skipB D R sd ts j = false ∧ ¬ ((sz (R j)).1 ≤ 256 ∧ (sz (R j)).2 ≤ 256)) ∧ Same [idN, idK, idR] lo H H') := by
  simp only [List.all_cons, List.all_nil, Bool.and_true, Bool.and_eq_true, bne_iff_ne] at dis
  obtain ⟨⟨q1, q2⟩, ⟨q3, q4⟩, q5, q6⟩ := dis
  intro d
  induction d with
  | zero =>
    intro t H n P eK cK v x12 x13 x14 x15 x29 x30 x31 hd ht hn hst hB hk hmemo hg hr hbs
    have e : t = ts.length := by omega
    subst e
    refine .inl ⟨H, n, v, x12, x13, x14, x15, x30, x31, codeL_loop_end ?_ (by simp), hr, hbs, fun j h1 h2 => by omega, .refl _ _ _, rfl, Nat.le_refl _, hg⟩
    simp (disch := omega) only [go_sem, B_29_1, toS]
  | succ d ih =>
    intro t H n P eK cK v x12 x13 x14 x15 x29 x30 x31 hd ht hn hst hB hk hmemo hg hr hbs
    have htl : t < ts.length := by omega
    obtain ⟨va, ra, rfl, hHA⟩ := id hB.v
    have eA : (irows ts).length = ts.length := by simp [irows]
    have hra := irows_at htl ra
    have hb := hB.b
    have hM := hB.m
    have h7 := hB.b7
    have hm := hB.m7
    have hS := hst.s
    have lN := hst.lN
    have lS := hst.lS
    have hlk := lookO_im (zero := .int .i64 0) (id := idM) (clock := clock) hke H n (ts[t] : Int)
    rw [hat t htl] at hlk
    -- find, look
    obtain ⟨P1, H1, e1, st1, sm1⟩ := hst.find hl (i := t) (by omega) (n := n) (by omega)
    have lr : R t < len := (st1.ups t (by omega)).2.1
    have rr : R (R t) = R t := st1.ups.rr (by omega)
    obtain ⟨P2, H2, e2, st2, sm2⟩ := st1.look hl lr (n := n) (by omega)
    rw [rr] at e2
    have k1 : ∀ id, id < n → id ≠ idN → H1.get id = H.get id := fun id a b => sm1 id a (by simpa using b)
    have k2 : ∀ id, id < n → id ≠ idN → H2.get id = H.get id := fun id a b => (sm2 id a (by simpa using b)).trans (k1 id a b)
    have hb1 : H1.get nb = some (.arr 0 1 [[.ptr idS 0 7 0 0]]) := (k1 nb (by omega) (by omega)).trans hb
    have hb2 : H2.get nb = some (.arr 0 1 [[.ptr idS 0 7 0 0]]) := (k2 nb (by omega) (by omega)).trans hb
    have h72 : H2.get i7b = some (.arr 0 1 [[.map i7m]]) := (k2 i7b (by omega) (by omega)).trans h7
    have hm2 : H2.get i7m = some (.map es7 clock7) := (k2 i7m (by omega) (by omega)).trans hm
    have hlk2 := lookO_im (zero := .int .i64 0) (id := i7m) (clock := clock7) hs7 H2 (n + 1) (R t : Int)
    rw [hsd t htl] at hlk2
    have hgd : ts.getD t 0 = ts[t] := by simp [htl]
    have sm02 : Same [idN, idK, idR] lo H H2 := fun id a b => k2 id (by omega) (by simp at b; exact b.1)
    have toB : ∀ H' : Heap, (∀ id, id < lo → id ∉ [idN, idK, idR] → H'.get id = H.get id) → ToB idS nb i7b i7m idM idT es es7 clock clock7 (.view idT va 1 0 (irows ts).length none) ts H' := fun H' h =>
      ⟨(h _ lb (by simp; omega)).trans hB.b, (h _ (by omega) (by simp; omega)).trans hB.m, hB.v.same (h _ (by omega) (by simp; omega)), (h _ l7 (by simp; omega)).trans hB.b7, (h _ l7m (by simp; omega)).trans hB.m7⟩
    by_cases hsk : skipB D R sd ts t = true
    · have hsk2 := hsk
      simp only [skipB, Bool.and_eq_true, beq_iff_eq, hgd] at hsk2
      obtain ⟨hk1, hk2⟩ := hsk2
      have hbs2 : BsO lo (n + 1) H2 v (bsUp D R sd ts val (t + 1)) := by
        simp only [bsUp, hsk, if_true, List.append_nil]
        exact hbs.keep (fun j h1 h2 => k2 j h2 (by omega)) (by omega)
      have hcont := ih (t + 1) H2 (n + 1) P2 eK cK v (.int .i64 ts[t]) (.int .i64 (R t)) (.int .i64 1) x15 (.bool true) (.bool true) x31 (by omega) (by omega) (by omega) st2 (toB _ sm02) ((k2 idK (by omega) (by omega)).trans hk) hmemo (hGU _ _ hg sm02) ((k2 idR (by omega) (by omega)).trans hr) hbs2
      have hstep : codeL Gf (.loop B_29_1) ⟨toS x0 x1 (.ptr nb 0 1 0 0) (.ptr idR 0 2 0 0) x4 x5 (.func 80 [] [.ptr nb 0 1 0 0, .ptr i5 0 1 0 0]) (.ptr i7b 0 1 0 0) x8 x9 x10 (.map idK) x12 x13 x14 x15 x16 x17 x18 x19 x20 x21 x22 x23 x24 x25 (.view idT va 1 0 (irows ts).length none) (.int .i64 ts.length) (.int .i64 t) x29 x30 x31 x32 x33 x34 x35 x36, H, n⟩ =
          codeL Gf (.loop B_29_1) ⟨toS x0 x1 (.ptr nb 0 1 0 0) (.ptr idR 0 2 0 0) x4 x5 (.func 80 [] [.ptr nb 0 1 0 0, .ptr i5 0 1 0 0]) (.ptr i7b 0 1 0 0) x8 x9 x10 (.map idK) (.int .i64 ts[t]) (.int .i64 (R t)) (.int .i64 1) x15 x16 x17 x18 x19 x20 x21 x22 x23 x24 x25 (.view idT va 1 0 (irows ts).length none) (.int .i64 ts.length) (.int .i64 (t + 1 : Nat)) (.bool true) (.bool true) x31 x32 x33 x34 x35 x36, H2, n + 1⟩ := by
        refine codeL_loop_iff ?_
        rw [hk1] at e2
        rw [hk2] at hlk2
        rw [eA]
        simp (disch := omega) only [go_sem, Nat.reduceAdd, Nat.reduceMul, Nat.reduceLeDiff, B_29_1, toS, hHA, hra, hb, hS, hM, hlk, e1, hb1, e2, h72, hm2, hlk2, Option.getD_some, cast_add1]
      rw [hstep]
      rcases hcont with ⟨H', n', v', y12, y13, y14, y15, y30, y31, c1, c2, c3, c4, c5, c6, c7, c8⟩ | h
      · refine .inl ⟨H', n', v', y12, y13, y14, y15, y30, y31, c1, c2, c3, fun j h1 h2 h3 => ?_, sm02.trans c5 (Nat.le_refl _), c6.trans (st2.s.trans hst.s.symm), by omega, c8⟩
        by_cases e : j = t
        · subst e; rw [hsk] at h3; cases h3
        · exact c4 j (by omega) h2 h3
      · obtain ⟨H', n', T, c1, c2, c3, c4⟩ := h
        exact .inr ⟨H', n', T, c1, c2, c3, sm02.trans c4 (Nat.le_refl _)⟩
    · have hsf : skipB D R sd ts t = false := by simpa using hsk
      -- the test
      have htest : ((D (R t)).kind ≠ 1) ∨ ((D (R t)).kind = 1 ∧ (sd (R t) : Int) ≠ (ts[t] : Int)) := by
        by_cases hk1 : (D (R t)).kind = 1
        · refine .inr ⟨hk1, fun e => ?_⟩
          have : sd (R t) = ts[t] := by omega
          rw [skipB, hk1, this, hgd] at hsf
          simp at hsf
        · exact .inl hk1
      -- size
      have stz : SzSt idS idN idK ver len pv wv c0 (.map idM) up pl D A U R rk sz (idK :: W) H2 (n + 1) eK cK P2 :=
        ⟨(k2 idK (by omega) (by omega)).trans hk, hmemo, st2.s, st2.nn, st2.ups, st2.sto.wide (fun x hx => by rcases List.mem_cons.1 hx with rfl | hx; exact .inr hK; exact .inl hx) (by omega), fun x hx => by rcases List.mem_cons.1 hx with rfl | hx; omega; have := hWl _ hx; omega, by omega⟩
      obtain ⟨H3, n3, eK3, cK3, P3, e3, st3, sm3, ln3⟩ := size_run (idS := idS) (idN := idN) (idK := idK) (W := idK :: W) hst.dSN (by omega) (by omega) (List.mem_cons_of_mem _ wS) (List.mem_cons_of_mem _ hst.wN) (by simp) hl mA mU hsz (R t) (hfin t htl) (R t) lr rr H2 (n + 1) eK cK P2 stz
      rw [rr] at e3
      have k3 : ∀ id, id < n → id ≠ idN → id ≠ idK → H3.get id = H.get id := fun id a b c => (sm3 id (by omega) (by simp [b, c])).trans (k2 id a b)
      have hstT3 : TpSt nA idS idN ver len pv wv c0 (.map idM) up pl D A U R rk W (fun _ => True) H3 P3 :=
        { hst with s := st3.s, nn := st3.nn, ups := st3.ups, sto := st2.sto.same (fun id a b => sm3 id (by omega) (by simp only [List.mem_cons, List.not_mem_nil, or_false, not_or]; exact ⟨fun e => b (e ▸ hst.wN), by omega⟩)), g := trivial }
      have e86 := large_run (sz (R t)).1 (sz (R t)).2
      have hb3 : H3.get nb = some (.arr 0 1 [[.ptr idS 0 7 0 0]]) := (k3 nb (by omega) (by omega) q1).trans hb
      have hr3 : H3.get idR = some (.arr 0 2 [[v, .nils]]) := (k3 idR (by omega) (by omega) (Ne.symm dKR)).trans hr
      by_cases hlg : (sz (R t)).1 ≤ 256 ∧ (sz (R t)).2 ≤ 256
      · have ed : decide (256 < (sz (R t)).1 ∨ 256 < (sz (R t)).2) = false := by simp; omega
        rw [ed] at e86
        -- type
        have stt : TpSt n3 idS idN ver len pv wv c0 (.map idM) up pl D A U R rk W (fun H' => H'.get i7b = some (.arr 0 1 [[.map i7m]]) ∧ H'.get i7m = some (.map es7 clock7) ∧ ∀ id, id < lo → id ∉ [idN, idK, idR] → H'.get id = H.get id) H3 P3 := by
          refine ⟨st3.s, st3.nn, st3.ups, hstT3.sto.wide (fun x hx => .inl hx) (by omega), ⟨(k3 i7b (by omega) (by omega) (by omega)).trans h7, (k3 i7m (by omega) (by omega) (by omega)).trans hm, fun id a b => k3 id (by omega) (by simp at b; exact b.1) (by simp at b; exact b.2.1)⟩, by omega, by omega, hst.wN, hst.dSN, ?_⟩
          rintro Ha Hb ⟨a1, a2, a3⟩ hsm
          refine ⟨(hsm _ (by omega) (by simp; omega)).trans a1, (hsm _ (by omega) (by simp; omega)).trans a2, fun id a b => (hsm id (by omega) (by simp at b; simp [b.1])).trans (a3 id a b)⟩
        have htyp := type_run (b2 := .ptr nb 0 1 0 0) (b5 := .ptr i5 0 1 0 0) (b7 := .ptr i7b 0 1 0 0) (inv := inv) (val := val) (n0 := n3) (G := fun H' => H'.get i7b = some (.arr 0 1 [[.map i7m]]) ∧ H'.get i7m = some (.map es7 clock7) ∧ ∀ id, id < lo → id ∉ [idN, idK, idR] → H'.get id = H.get id) hl mA mU
          (idS := idS) (idN := idN) (ver := ver) (len := len) (pv := pv) (wv := wv) (c0 := c0) (nm := .map idM) (up := up) (pl := pl) (rk := rk) (W := W)
          (fun r hr1 hr2 hr3 Ha na hna hga => by
            have hrt := hnk r hr1 hr2 hr3
            have hsr := hsd r hrt
            rw [hr2] at hsr
            have hlka := lookO_im (zero := .int .i64 0) (id := i7m) (clock := clock7) hs7 (Ha.set na (.arr 0 5 [[.int .i64 0, .int .i64 0, .str ⟨#[]⟩, .nils, .nils]])) (na + 1) (r : Int)
            rw [hsr] at hlka
            have hga1 := hga.1
            have hga2 := hga.2.1
            have hrun : Gf 88 [.int .i64 r, .ptr i7b 0 1 0 0] Ha na = some (.agg [.int .i64 1, .int .i64 (sd r : Nat), .str ⟨#[]⟩, .nils, .nils], Ha.set na (.arr 0 5 [[.int .i64 1, .int .i64 (sd r : Nat), .str ⟨#[]⟩, .nils, .nils]]), na + 1) := by
              rw [R_88]
              simp (disch := omega) only [go_sem, Nat.reduceAdd, Nat.reduceLeDiff, G_88, get_other, hga1, hga2, hlka, Option.getD_some, get_same]
            have hvr := hv1 r hrt (by rw [hr2]; exact hr3)
            rw [hr2] at hvr
            exact ⟨_, _, _, hrun, fun id hid => get_other _ _ (by omega), by omega, by rw [hvr]; exact .mk 1 _ _ .nils .nils [] [] .nil (.inl ⟨rfl, rfl⟩)⟩)
          (fun i hi u hu => ⟨(hun i hi u hu).1, fun Ha na hna hga => (hun i hi u hu).2 Ha na (by omega) (hGU _ _ hg hga.2.2)⟩) hval (R t) (hfin t htl) (R t) lr rr H3 n3 P3 (Nat.le_refl _) stt
        obtain ⟨H4, n4, P4, row, e4, st4, sm4, ln4, ty4⟩ := htyp
        rw [rr] at ty4
        obtain ⟨a5, u5, hrow, ca5, cu5⟩ := ty4.five
        have ca5 := ca5.cells
        have cu5 := cu5.cells
        have k4 : ∀ id, id < n → id ≠ idN → id ≠ idK → H4.get id = H.get id := fun id a b c => (sm4 id (by omega) (by simpa using b)).trans (k3 id a b c)
        -- the box
        generalize hH5 : H4.set n4 (.arr 0 5 [row]) = H5
        have g5 : ∀ id, id < n4 → H5.get id = H4.get id := fun id hid => by rw [← hH5]; exact get_other _ _ (by omega)
        have hn5 : H5.get n4 = some (.arr 0 5 [row]) := by rw [← hH5, get_same]
        have hr5 : H5.get idR = some (.arr 0 2 [[v, .nils]]) := (g5 idR (by omega)).trans ((k4 idR (by omega) (by omega) (Ne.symm dKR)).trans hr)
        generalize hH6 : H5.set (n4 + 1) (.arr 0 6 [.int .i64 ts[t] :: row]) = H6
        have g6 : ∀ id, id < n4 + 1 → H6.get id = H5.get id := fun id hid => by rw [← hH6]; exact get_other _ _ (by omega)
        have hn6 : H6.get (n4 + 1) = some (.arr 0 6 [.int .i64 ts[t] :: row]) := by rw [← hH6, get_same]
        have k6 : ∀ id, id < n → id ≠ idN → id ≠ idK → H6.get id = H.get id := fun id a b c => (g6 id (by omega)).trans ((g5 id (by omega)).trans (k4 id a b c))
        have hs2 : ∃ rows : List (List PV), ((v = .nils ∧ rows = []) ∨ ∃ id, VW H6 6 id v rows ∧ id < n4 + 1 + 1) ∧ rows.length ≤ t ∧ ∀ w, ((w = n4 + 1 + 1 ∧ v = .nils ∧ rows = []) ∨ VW H6 6 w v rows) → lo ≤ w ∧ (w < n ∨ w = n4 + 1 + 1) ∧ BdO (fun j => lo ≤ j ∧ j < n ∧ j ≠ w) H6 rows (bsUp D R sd ts val t) := by
          have hbl := bsUp_len D R sd ts val t
          rcases hbs with ⟨rfl, h0⟩ | ⟨id, rows, hv, l1, l2, hrr⟩
          · refine ⟨[], .inl ⟨rfl, rfl⟩, by simp, fun w hw => ?_⟩
            rw [h0]
            rcases hw with ⟨rfl, _, _⟩ | ⟨_, _, hw, _⟩
            · exact ⟨by omega, .inr rfl, .nil⟩
            · cases hw
          · have hv2 : VW H6 6 id v rows := hv.same (k6 id l2 (by omega) (by omega))
            refine ⟨rows, .inr ⟨id, hv2, by omega⟩, by rw [hrr.len]; omega, fun w hw => ?_⟩
            have hwid : w = id := by
              rcases hw with ⟨_, e, _⟩ | hw
              · obtain ⟨_, _, e2, _⟩ := hv2
                rw [e] at e2; cases e2
              · have a := hw.vid
                rw [hv2.vid] at a
                exact (Option.some.inj a).symm
            subst hwid
            exact ⟨l1, .inl l2, hrr.keep (fun j hj => k6 j hj.2.1 (by omega) (by omega)) (fun j hj => hj)⟩
        obtain ⟨rows, hs2, hlen, hw2⟩ := hs2
        obtain ⟨v7, H7, n7, w, e7, hv7, lw, g7, ln7, hw⟩ := appOne (.int .i64 ts[t] :: row) [n4 + 1] hs2 (bytes := 88) (by omega)
        obtain ⟨w1, w2, hbd⟩ := hw2 w hw
        have hr7 : H7.get idR = some (.arr 0 2 [[v, .nils]]) := (g7 _ (by omega)).trans ((g6 _ (by omega)).trans hr5)
        generalize hH8 : H7.set idR (.arr 0 2 [[v7, .nils]]) = H8
        have g8 : ∀ id, id ≠ idR → H8.get id = H7.get id := fun id hid => by rw [← hH8]; exact get_other _ _ (Ne.symm hid)
        have hr8 : H8.get idR = some (.arr 0 2 [[v7, .nils]]) := by rw [← hH8, get_same]
        have g48 : ∀ id, id < n4 → id ≠ w → id ≠ idR → H8.get id = H4.get id := fun id a b c => by rw [g8 id c, g7 id b, g6 id (by omega), g5 id a]
        have sm8 : Same [idN, idK, idR] lo H H8 := fun id a b => by
          simp only [List.mem_cons, List.not_mem_nil, or_false, not_or] at b
          rw [g48 id (by omega) (by omega) b.2.2, k4 id (by omega) b.1 b.2.1]
        have st8 : TpSt nA idS idN ver len pv wv c0 (.map idM) up pl D A U R rk W (fun _ => True) H8 P4 := by
          refine { hst with s := ?_, nn := ?_, ups := st4.ups, sto := ?_, g := trivial }
          · rw [g48 _ (by omega) (by omega) (by omega)]; exact st4.s
          · rw [g48 _ (by omega) (by omega) (by omega)]; exact st4.nn
          · refine hst.sto.same (fun id a b => ?_)
            have hne : id ≠ idN := fun e => b (e ▸ hst.wN)
            exact sm8 id (by omega) (by simp [hne]; omega)
        have hk8 : H8.get idK = some (.map eK3 cK3) := by
          rw [g48 _ (by omega) (by omega) dKR, sm4 _ (by omega) (by simp; omega)]
          exact st3.k
        have hbs8 : BsO lo n7 H8 v7 (bsUp D R sd ts val (t + 1)) := by
          simp only [bsUp, hsf, Bool.false_eq_true, if_false, hgd]
          refine .inr ⟨w, rows ++ [.int .i64 ts[t] :: row], hv7.same (g8 _ (by omega)), w1, lw, BdO.app (hbd.keep (fun j hj => ?_) (fun j hj => ⟨hj.1, by omega, hj.2.2⟩)) (.cons _ _ _ _ _ (TyO.keep (fun j hj => g48 j hj.2 (by omega) (by omega)) (fun j hj => ⟨by omega, by omega, by omega⟩) ty4) .nil)⟩
          rw [g8 j (by omega), g7 j hj.2.2]
        have hcont := ih (t + 1) H8 n7 P4 eK3 cK3 v7 (.int .i64 ts[t]) (.int .i64 (R t)) (.int .i64 (D (R t)).kind) (.ptr n4 0 5 0 0) (.bool true) (.bool false) (.bool false) (by omega) (by omega) (by omega) st8 (toB _ sm8) hk8 st3.memo (hGU _ _ hg sm8) hr8 hbs8
        have hstep : codeL Gf (.loop B_29_1) ⟨toS x0 x1 (.ptr nb 0 1 0 0) (.ptr idR 0 2 0 0) x4 x5 (.func 80 [] [.ptr nb 0 1 0 0, .ptr i5 0 1 0 0]) (.ptr i7b 0 1 0 0) x8 x9 x10 (.map idK) x12 x13 x14 x15 x16 x17 x18 x19 x20 x21 x22 x23 x24 x25 (.view idT va 1 0 (irows ts).length none) (.int .i64 ts.length) (.int .i64 t) x29 x30 x31 x32 x33 x34 x35 x36, H, n⟩ =
            codeL Gf (.loop B_29_1) ⟨toS x0 x1 (.ptr nb 0 1 0 0) (.ptr idR 0 2 0 0) x4 x5 (.func 80 [] [.ptr nb 0 1 0 0, .ptr i5 0 1 0 0]) (.ptr i7b 0 1 0 0) x8 x9 x10 (.map idK) (.int .i64 ts[t]) (.int .i64 (R t)) (.int .i64 (D (R t)).kind) (.ptr n4 0 5 0 0) x16 x17 x18 x19 x20 x21 x22 x23 x24 x25 (.view idT va 1 0 (irows ts).length none) (.int .i64 ts.length) (.int .i64 (t + 1 : Nat)) (.bool true) (.bool false) (.bool false) x32 x33 x34 x35 x36, H8, n7⟩ := by
          refine codeL_loop_iff ?_
          rw [eA]
          subst hrow
          have v7c := hv7.cells
          rcases htest with hk1 | ⟨hk1, hk2⟩
          · simp (disch := omega) only [go_sem, Nat.reduceAdd, Nat.reduceMul, Nat.reduceLeDiff, Nat.reduceBEq, Nat.reduceLT, B_29_1, toS, hHA, hra, hb, hS, hM, hlk, Option.getD_some, e1, hb1, e2, hb2, e3, e86, hb3, e4, set_set, hH5, hn5, hr5, get_same, hH6, elems_row hn6, e7, hr7, v7c, hH8, cast_add1]
          · simp (disch := omega) only [go_sem, Nat.reduceAdd, Nat.reduceMul, Nat.reduceLeDiff, Nat.reduceBEq, Nat.reduceLT, B_29_1, toS, hHA, hra, hb, hS, hM, hlk, e1, hb1, e2, hk1, h72, hm2, hlk2, Option.getD_some, hb2, e3, e86, hb3, e4, set_set, hH5, hn5, hr5, get_same, hH6, elems_row hn6, e7, hr7, v7c, hH8, cast_add1]
        rw [hstep]
        rcases hcont with ⟨H', n', v', y12, y13, y14, y15, y30, y31, c1, c2, c3, c4, c5, c6, c7, c8⟩ | h
        · refine .inl ⟨H', n', v', y12, y13, y14, y15, y30, y31, c1, c2, c3, fun j h1 h2 h3 => ?_, sm8.trans c5 (Nat.le_refl _), c6.trans (st8.s.trans hst.s.symm), by omega, c8⟩
          by_cases e : j = t
          · subst e; exact hlg
          · exact c4 j (by omega) h2 h3
        · obtain ⟨H', n', T, c1, c2, c3, c4⟩ := h
          exact .inr ⟨H', n', T, c1, c2, c3, sm8.trans c4 (Nat.le_refl _)⟩
      · have ed : decide (256 < (sz (R t)).1 ∨ 256 < (sz (R t)).2) = true := by simp; omega
        rw [ed] at e86
        refine .inr ⟨H3.set idR (.arr 0 2 [[.nils, .nils]]), n3, [x5, .func 80 [] [.ptr nb 0 1 0 0, .ptr i5 0 1 0 0], .ptr i7b 0 1 0 0, x8, x9, x10, .map idK, .int .i64 ts[t], .int .i64 (R t), .int .i64 (D (R t)).kind, x15, x16, x17, x18, x19, x20, x21, x22, x23, x24, x25, .view idT va 1 0 (irows ts).length none, .int .i64 ts.length, .int .i64 t, .bool true, .bool false, .bool true, x32, x33, x34, x35, x36], codeL_loop_end ?_ (by simp), by rw [get_same], ⟨t, htl, hsf, hlg⟩, fun id a b => ?_⟩
        rotate_left
        · simp only [List.mem_cons, List.not_mem_nil, or_false, not_or] at b
          rw [get_other _ _ (Ne.symm b.2.2), k3 id (by omega) b.1 b.2.1]
        rw [eA]
        rcases htest with hk1 | ⟨hk1, hk2⟩
        · simp (disch := omega) only [go_sem, Nat.reduceAdd, Nat.reduceMul, Nat.reduceLeDiff, B_29_1, toS, hHA, hra, hb, hS, hM, hlk, Option.getD_some, e1, hb1, e2, hb2, e3, e86, hr3, List.cons_append, List.nil_append]
        · simp (disch := omega) only [go_sem, Nat.reduceAdd, Nat.reduceMul, Nat.reduceLeDiff, B_29_1, toS, hHA, hra, hb, hS, hM, hlk, e1, hb1, e2, hk1, h72, hm2, hlk2, Option.getD_some, hb2, e3, e86, hr3, List.cons_append, List.nil_append]
end
inductive ValR (A : Nat → List Nat) (R : Nat → Nat) (D : Nat → Nd) (U : Nat → List PV) (sd : Nat → Nat) (inv : PV → PV) : Nat → Ty → Prop
  | var (r : Nat) : (D r).kind = 1 → ValR A R D U sd inv r (.mk 1 (sd r : Nat) ⟨#[]⟩ [] [])
  | node (r : Nat) (f : Nat → Ty) : (D r).kind ≠ 1 → (∀ a ∈ A r, ValR A R D U sd inv (R a) (f a)) → ValR A R D U sd inv r (.mk (D r).kind (D r).num (D r).name ((A r).map f) ((U r).map inv))
section
variable {A : Nat → List Nat} {R : Nat → Nat} {D : Nat → Nd} {U : Nat → List PV} {sd : Nat → Nat} {inv : PV → PV}
theorem ValR.fn {r : Nat} {p : Ty} (h : ValR A R D U sd inv r p) : ∀ {q : Ty}, ValR A R D U sd inv r q → p = q := by
  induction h with
  | var r hk =>
    intro q hq
    cases hq with
    | var => rfl
    | node _ f h => exact absurd hk h
  | node r f hk h ih =>
    intro q hq
    cases hq with
    | var _ h => exact absurd h hk
    | node _ g _ hg => rw [List.map_congr_left fun a ha => ih a ha (hg a ha)]
theorem ValR.ex {r : Nat} (h : Fin' A R r) : ∃ p, ValR A R D U sd inv r p := by
  induction h with
  | mk r h ih =>
    by_cases hk : (D r).kind = 1
    · exact ⟨_, .var r hk⟩
    · have : ∀ a, ∃ p, a ∈ A r → ValR A R D U sd inv (R a) p := fun a => by
        by_cases ha : a ∈ A r
        · obtain ⟨p, hp⟩ := ih a ha
          exact ⟨p, fun _ => hp⟩
        · exact ⟨.mk 0 0 ⟨#[]⟩ [] [], fun h => absurd h ha⟩
      obtain ⟨f, hf⟩ := Classical.axiomOfChoice this
      exact ⟨_, .node r f hk hf⟩
end
theorem val_ex (A : Nat → List Nat) (R : Nat → Nat) (D : Nat → Nd) (U : Nat → List PV) (sd : Nat → Nat) (inv : PV → PV) :
    ∃ val : Nat → Ty, (∀ r, Fin' A R r → (D r).kind = 1 → val r = .mk 1 (sd r : Nat) ⟨#[]⟩ [] []) ∧ ∀ r, Fin' A R r → (D r).kind ≠ 1 → val r = .mk (D r).kind (D r).num (D r).name ((A r).map fun a => val (R a)) ((U r).map inv) := by
  have : ∀ r, ∃ p, Fin' A R r → ValR A R D U sd inv r p := fun r => by
    by_cases h : Fin' A R r
    · obtain ⟨p, hp⟩ := ValR.ex (D := D) (U := U) (sd := sd) (inv := inv) h
      exact ⟨p, fun _ => hp⟩
    · exact ⟨.mk 0 0 ⟨#[]⟩ [] [], fun e => absurd e h⟩
  obtain ⟨val, hv⟩ := Classical.axiomOfChoice this
  refine ⟨val, fun r hr hk => (hv r hr).fn (.var r hk), fun r hr hk => (hv r hr).fn ?_⟩
  cases hr with
  | mk _ h => exact .node r _ hk (fun a ha => hv (R a) (h a ha))
section
variable {idS idM idV idT cnt len n clock : Nat} {up pl tv uv sv : PV} {D : Nat → Nd} {A : Nat → List Nat} {U : Nat → List PV} {P R rk : Nat → Nat} {W : List Nat} {es : Ents} {ts : List Nat} {inv : PV → PV}
theorem free_run {H : Heap} {n : Nat} {nv wv c0 nm : PV} (hS : H.get idS = some (srow (.ptr idV 0 3 0 0) nv wv c0 nm up pl)) (hIV : H.get idV = some (.arr 0 3 [[tv, uv, sv]])) (huv : ∀ H n, lenX .slice H n uv = some ⟨.int .i64 0, H, n, .no⟩) (next : Int) :
    Gf 79 [.ptr idS 0 7 0 0, .int .i64 next] H n = some (.nils, H, n) := by
  have e2 : ∀ x4 x5 x6 x7 x8 x9 x10 x15 x16 x17 x18 x19 x20 x21 x22 x14, codeL Gf (.loop B_79_2) ⟨[.ptr idS 0 7 0 0, .int .i64 next, .nils, .nils, x4, x5, x6, x7, x8, x9, x10, uv, .int .i64 0, .int .i64 0, x14, x15, x16, x17, x18, x19, x20, x21, x22], H, n⟩ =
      some (.exit 0, ⟨[.ptr idS 0 7 0 0, .int .i64 next, .nils, .nils, x4, x5, x6, x7, x8, x9, x10, uv, .int .i64 0, .int .i64 0, .bool false, x15, x16, x17, x18, x19, x20, x21, x22], H, n⟩) := by
    intros
    refine codeL_loop_end ?_ (by simp)
    simp (disch := omega) only [go_sem, Int.reduceLT, B_79_2]
  have e1 : ∀ x4 x5 x6 x8 x9 x10 x14 x18 x19 x20 x21 x22 x17, codeL Gf (.loop B_79_1) ⟨[.ptr idS 0 7 0 0, .int .i64 next, .nils, .nils, x4, x5, x6, .nils, x8, x9, x10, uv, .int .i64 0, .int .i64 0, x14, .int .i64 0, .int .i64 0, x17, x18, x19, x20, x21, x22], H, n⟩ =
      some (.exit 2, ⟨[.ptr idS 0 7 0 0, .int .i64 next, .nils, .nils, x4, x5, x6, .nils, x8, x9, x10, uv, .int .i64 0, .int .i64 0, x14, .int .i64 0, .int .i64 0, .bool false, x18, x19, x20, x21, x22], H, n⟩) := by
    intros
    refine codeL_loop_end ?_ (by simp)
    simp (disch := omega) only [go_sem, Int.reduceLT, B_79_1]
  have e0 : ∀ x4 x5 x6 x8 x9 x10 x14 x15 x16 x17 x21 x22, codeL Gf (.loop B_79_0) ⟨[.ptr idS 0 7 0 0, .int .i64 next, .nils, .nils, x4, x5, x6, .nils, x8, x9, x10, uv, .int .i64 0, .int .i64 0, x14, x15, x16, x17, .nils, .int .i64 0, .int .i64 0, x21, x22], H, n⟩ =
      some (.exit 4, ⟨[.ptr idS 0 7 0 0, .int .i64 next, .nils, .nils, x4, x5, x6, .nils, x8, x9, x10, uv, .int .i64 0, .int .i64 0, x14, x15, x16, x17, .nils, .int .i64 0, .int .i64 0, .bool false, x22], H, n⟩) := by
    intros
    refine codeL_loop_end ?_ (by simp)
    simp (disch := omega) only [go_sem, Int.reduceLT, B_79_0]
  rw [R_79]
  simp (disch := omega) only [go_sem, G_79, hS, hIV, huv, e2, e1, sort_nil, comp_nil, e0]
def GUn (idS n : Nat) (W : List Nat) (H0 : Heap) (H : Heap) : Prop := H.get n = some (.arr 0 1 [[.ptr idS 0 7 0 0]]) ∧ H.get (n + 2) = some (.arr 0 1 [[.nils]]) ∧ ∀ id, id < n → (id ∉ W ∨ id = idS) → H.get id = H0.get id
theorem told_run {H : Heap} (st : Store H n idS W (.ptr idV 0 3 0 0) (.map idM) up pl cnt len D A U P R rk) (h0 : 0 < len) (hM : H.get idM = some (.map es clock)) (lM : idM < n) (wM : idM ∉ W) (hke : IKeys es) (hat : ∀ j, (h : j < ts.length) → imGet es ts[j] = some (.int .i64 (j : Nat)))
    (hts : ts.length ≤ len) (hl : len < 1000000) (htv : VW H 1 idT tv (irows ts)) (lT : idT < n) (wT : idT ∉ W) (hIV : H.get idV = some (.arr 0 3 [[tv, uv, sv]])) (lIV : idV < n) (wIV : idV ∉ W) (huv : ∀ H n, lenX .slice H n uv = some ⟨.int .i64 0, H, n, .no⟩)
    (mA : ∀ i, i < len → (A i).length < 1000000) (mU : ∀ i, i < len → (U i).length < 1000000) (hfin : ∀ j, j < ts.length → Fin' A R (R j)) (hnk : ∀ i, ts.length ≤ i → i < len → (D i).kind ≠ 1)
    (hun : ∀ i, i < len → ∀ u ∈ U i, (inv u).cells? = some [inv u] ∧ ∀ (H1 : Heap) (n1 : Nat), n + 6 ≤ n1 → GUn idS n W H H1 → ∃ (H' : Heap) (n' : Nat), Gf 80 [u, .ptr n 0 1 0 0, .ptr (n + 2) 0 1 0 0] H1 n1 = some (inv u, H', n') ∧ (∀ id, id < n1 → H'.get id = H1.get id) ∧ n1 ≤ n') (next : Int) :
    ∃ (sz : Nat → Nat × Nat) (sd : Nat → Nat) (val : Nat → Ty), (∀ r, Fin' A R r → sz r = szStep A R U sz r) ∧ (∀ j, j < ts.length → ∃ k, k < ts.length ∧ R k = R j ∧ sd (R j) = ts.getD k 0) ∧
      (∀ r, Fin' A R r → (D r).kind = 1 → val r = .mk 1 (sd r : Nat) ⟨#[]⟩ [] []) ∧ (∀ r, Fin' A R r → (D r).kind ≠ 1 → val r = .mk (D r).kind (D r).num (D r).name ((A r).map fun a => val (R a)) ((U r).map inv)) ∧
      ((∃ (H' : Heap) (n' : Nat) (mv : PV), Gf 29 [.ptr idS 0 7 0 0, .int .i64 next] H n = some (.tup [.agg [mv, .nils], .int .i64 0], H', n') ∧ BsO n n' H' mv (bsUp D R sd ts val ts.length) ∧ (∀ j, j < ts.length → skipB D R sd ts j = false → (sz (R j)).1 ≤ 256 ∧ (sz (R j)).2 ≤ 256) ∧ Same W n H H') ∨
       (∃ (H' : Heap) (n' : Nat), Gf 29 [.ptr idS 0 7 0 0, .int .i64 next] H n = some (.tup [.agg [.nils, .nils], .int .i64 122], H', n') ∧ (∃ j, j < ts.length ∧ skipB D R sd ts j = false ∧ ¬ ((sz (R j)).1 ≤ 256 ∧ (sz (R j)).2 ≤ 256)) ∧ Same W n H H')) := by
  obtain ⟨nv, wv, hS, hnv, _⟩ := st.row
  obtain ⟨idN, ver, wN, rfl, hN⟩ : ∃ idN ver, idN ∈ W ∧ nv = .view idN ver 6 0 len none ∧ H.get idN = some (.arr ver 6 (nrows len D P)) := by
    rcases hnv with ⟨e, _⟩ | h
    · omega
    · exact h
  have lN := st.lt _ wN
  have lS := st.lt _ st.own
  have dSN : idS ≠ idN := by
    rintro rfl
    rw [hN] at hS
    simp [srow] at hS
  have dM : idM ≠ idN := fun e => wM (e ▸ wN)
  have dT : idT ≠ idN := fun e => wT (e ▸ wN)
  have dV : idV ≠ idN := fun e => wIV (e ▸ wN)
  have dSV : idS ≠ idV := fun e => wIV (e ▸ st.own)
  generalize hH1 : (H.set n (.arr 0 1 [[.ptr idS 0 7 0 0]])).set (n + 1) (.arr 0 2 [[.nils, .nils]]) = H1
  have g1 : ∀ id, id < n → H1.get id = H.get id := fun id hid => by rw [← hH1, get_other _ _ (by omega), get_other _ _ (by omega)]
  have hb1 : H1.get n = some (.arr 0 1 [[.ptr idS 0 7 0 0]]) := by rw [← hH1, get_other _ _ (by omega), get_same]
  have hr1 : H1.get (n + 1) = some (.arr 0 2 [[.nils, .nils]]) := by rw [← hH1, get_same]
  have hS1 := (g1 _ lS).trans hS
  have hIV1 := (g1 _ lIV).trans hIV
  have e79 := free_run (n := n + 2) hS1 hIV1 huv next
  generalize hH2 : H1.set (n + 2) (.arr 0 1 [[.nils]]) = H2
  have hg2 : H2.get (n + 2) = some (.arr 0 1 [[.nils]]) := by rw [← hH2, get_same]
  have hg2s := set_self hg2
  generalize hH4 : (H2.set (n + 3) (.map [] 0)).set (n + 4) (.arr 0 1 [[.map (n + 3)]]) = H4
  have g2 : ∀ id, id < n + 2 → H2.get id = H1.get id := fun id hid => by rw [← hH2, get_other _ _ (by omega)]
  have g42 : ∀ id, id < n + 3 → H4.get id = H2.get id := fun id hid => by rw [← hH4, get_other _ _ (by omega), get_other _ _ (by omega)]
  have g4 : ∀ id, id < n + 2 → H4.get id = H1.get id := fun id hid => (g42 id (by omega)).trans (g2 id hid)
  have h54 : H4.get (n + 2) = some (.arr 0 1 [[.nils]]) := (g42 _ (by omega)).trans (by rw [← hH2, get_same])
  have hm4 : H4.get (n + 3) = some (.map [] 0) := by rw [← hH4, get_other _ _ (by omega), get_same]
  have h74 : H4.get (n + 4) = some (.arr 0 1 [[.map (n + 3)]]) := by rw [← hH4, get_same]
  have g04 : ∀ id, id < n → H4.get id = H.get id := fun id hid => (g4 id (by omega)).trans (g1 id hid)
  have stT : TpSt n idS idN ver len (.ptr idV 0 3 0 0) wv (.int .i64 cnt) (.map idM) up pl D A U R rk W (fun _ => True) H P :=
    ⟨hS, hN, st.ups, st.sto, trivial, lS, lN, wN, dSN, fun _ _ _ _ => trivial⟩
  have st4 := stT.keep (H' := H4) g04
  obtain ⟨va, ra, rfl, hHA⟩ := id htv
  have eA : (irows ts).length = ts.length := by simp [irows]
  have hlt : ∀ (H : Heap) (n : Nat), lenX .slice H n (.view idT va 1 0 (irows ts).length none) = some ⟨.int .i64 (ts.length : Nat), H, n, .no⟩ := by
    intro H n
    simp [lenX, irows]
  obtain ⟨H5, P5, es7, clock7, y8, y9, y10, y25, e5, st5, hm5, hs5, sm5⟩ := told_stands (n := n + 5) (nb := n) (i7b := n + 4) (i7m := n + 3) hke hat hts hl lM dM lT dT (Nat.le_refl _) (by omega) (by omega) (by omega) (by omega) (by omega) (by omega) (by omega)
    (x0 := .ptr idS 0 7 0 0) (x1 := .int .i64 next) (x3 := .ptr (n + 1) 0 2 0 0) (x4 := .int .i64 0) (x5 := .ptr (n + 2) 0 1 0 0) (x6 := .func 80 [] [.ptr n 0 1 0 0, .ptr (n + 2) 0 1 0 0]) (x11 := .tup []) (x12 := .tup []) (x13 := .tup []) (x14 := .tup []) (x15 := .tup []) (x16 := .tup []) (x17 := .tup []) (x18 := .tup []) (x19 := .tup []) (x20 := .tup []) (x26 := .tup []) (x27 := .tup []) (x28 := .tup []) (x29 := .tup []) (x30 := .tup []) (x31 := .tup []) (x32 := .tup []) (x33 := .tup []) (x34 := .tup []) (x35 := .tup []) (x36 := .tup [])
    ts.length 0 H4 P [] 0 (.tup []) (.tup []) (.tup []) (.tup []) (.tup []) rfl (Nat.zero_le _) st4 ((g4 n (by omega)).trans hb1) ((g04 _ lM).trans hM) (htv.same (g04 _ lT)) h74 hm4 ⟨.nil, fun j hj => by omega, fun i v hi => by simp [imGet] at hi⟩
  have k5 : ∀ id, id < n + 5 → id ≠ idN → id ≠ n + 3 → H5.get id = H4.get id := fun id a b c => sm5 id a (by simp [b, c])
  obtain ⟨sz, hsz⟩ := sz_ex A R U
  -- who stands
  have hsdx : ∀ r, ∃ s : Nat, ∀ j, j < ts.length → R j = r → imGet es7 r = some (.int .i64 (s : Nat)) ∧ ∃ k, k < ts.length ∧ R k = r ∧ s = ts.getD k 0 := by
    intro r
    by_cases h : ∃ j, j < ts.length ∧ R j = r
    · obtain ⟨j, hj, rfl⟩ := h
      obtain ⟨k, h1, h2, h3⟩ := hs5.inn j hj
      exact ⟨ts.getD k 0, fun j' hj' e => ⟨h3, k, h1, h2, rfl⟩⟩
    · exact ⟨0, fun j hj e => absurd ⟨j, hj, e⟩ h⟩
  obtain ⟨sd, hsd⟩ := Classical.axiomOfChoice hsdx
  obtain ⟨val, hv1, hv2⟩ := val_ex A R D U sd inv
  refine ⟨sz, sd, val, hsz, fun j hj => (hsd _ j hj rfl).2, hv1, hv2, ?_⟩
  generalize hH6 : H5.set (n + 5) (.map [] 0) = H6
  have g6 : ∀ id, id < n + 5 → H6.get id = H5.get id := fun id hid => by rw [← hH6, get_other _ _ (by omega)]
  have hk6 : H6.get (n + 5) = some (.map [] 0) := by rw [← hH6, get_same]
  have st6 := st5.keep (H' := H6) (fun id hid => g6 id (by omega))
  have k6 : ∀ id, id < n + 5 → id ≠ idN → id ≠ n + 3 → H6.get id = H4.get id := fun id a b c => (g6 id a).trans (k5 id a b c)
  have hb5 : H5.get n = some (.arr 0 1 [[.ptr idS 0 7 0 0]]) := (k5 n (by omega) (by omega) (by omega)).trans ((g4 n (by omega)).trans hb1)
  have hb4 : H4.get n = some (.arr 0 1 [[.ptr idS 0 7 0 0]]) := (g4 n (by omega)).trans hb1
  have hb6 : H6.get n = some (.arr 0 1 [[.ptr idS 0 7 0 0]]) := (g6 _ (by omega)).trans hb5
  have hS6 := st6.s
  have hIV6 : H6.get idV = some (.arr 0 3 [[.view idT va 1 0 (irows ts).length none, uv, sv]]) := (g6 _ (by omega)).trans ((k5 idV (by omega) dV (by omega)).trans ((g04 _ lIV).trans hIV))
  have hS4 := (g04 _ lS).trans hS
  have hIV4 := (g04 _ lIV).trans hIV
  have hr6 : H6.get (n + 1) = some (.arr 0 2 [[.nils, .nils]]) := (k6 _ (by omega) (by omega) (by omega)).trans ((g4 _ (by omega)).trans hr1)
  have hloop := told_types (nA := n) (lo := n + 6) (nb := n) (i5 := n + 2) (i7b := n + 4) (i7m := n + 3) (idK := n + 5) (idR := n + 1) (idT := idT) (tv := .view idT va 1 0 (irows ts).length none) (es := es) (clock := clock) (es7 := es7) (clock7 := clock7) (sz := sz) (val := val) (sd := sd) (inv := inv) (GU := GUn idS n W H) (ver := ver) (wv := wv) (c0 := .int .i64 cnt) (up := up) (pl := pl) (pv := .ptr idV 0 3 0 0) (rk := rk) (idS := idS) (idN := idN) (W := W)
    hke hat hts hl lM dM lT dT mA mU st.lt st.own (Nat.le_refl _) (by omega) (by omega) (by omega) (by omega) (by omega) (by omega) (by omega) (by omega) (by omega) (by simp) (by omega) hs5.keys (fun j hj => (hsd _ j hj rfl).1) hfin hsz (fun j hj hk => hv1 _ (hfin j hj) hk)
    (fun r hr1 hr2 hr3 => by
      by_cases h : r < ts.length
      · exact h
      · exact absurd hr3 (hnk r (by omega) hr1)) hv2
    (by
      rintro Ha Hb ⟨a1, a2, a3⟩ hsm
      refine ⟨(hsm _ (by omega) (by simp; omega)).trans a1, (hsm _ (by omega) (by simp; omega)).trans a2, fun id h1 h2 => (hsm id (by omega) ?_).trans (a3 id h1 h2)⟩
      simp only [List.mem_cons, List.not_mem_nil, or_false, not_or]
      refine ⟨?_, by omega, by omega⟩
      rcases h2 with h2 | rfl
      · rintro rfl; exact h2 wN
      · exact dSN)
    hun
    (x0 := .ptr idS 0 7 0 0) (x1 := .int .i64 next) (x4 := .int .i64 0) (x5 := .ptr (n + 2) 0 1 0 0) (x8 := y8) (x9 := y9) (x10 := y10) (x16 := .tup []) (x17 := .tup []) (x18 := .tup []) (x19 := .tup []) (x20 := .tup []) (x21 := .view idT va 1 0 (irows ts).length none) (x22 := .int .i64 ts.length) (x23 := .int .i64 ts.length) (x24 := .bool false) (x25 := y25) (x32 := .tup []) (x33 := .tup []) (x34 := .tup []) (x35 := .tup []) (x36 := .tup [])
    ts.length 0 H6 (n + 6) P5 [] 0 .nils (.tup []) (.tup []) (.tup []) (.tup []) (.tup []) (.tup []) (.tup []) rfl (Nat.zero_le _) (Nat.le_refl _) st6
    ⟨(g6 _ (by omega)).trans hb5, (k6 _ (by omega) dM (by omega)).trans ((g04 _ lM).trans hM), htv.same ((k6 _ (by omega) dT (by omega)).trans (g04 _ lT)), (k6 _ (by omega) (by omega) (by omega)).trans h74, (g6 _ (by omega)).trans hm5⟩ hk6 ⟨.nil, fun i v hi => by simp [imGet] at hi⟩
    ⟨(g6 _ (by omega)).trans hb5, (k6 _ (by omega) (by omega) (by omega)).trans h54, fun id h1 h2 => by
      by_cases e : id = idN
      · subst e
        rcases h2 with h2 | e
        · exact absurd wN h2
        · exact absurd e.symm dSN
      · rw [k6 id (by omega) e (by omega), g04 id h1]⟩ hr6 (.inl ⟨rfl, rfl⟩)
  simp only [toS] at e5
  have smW : ∀ H7 : Heap, Same [idN, n + 5, n + 1] (n + 6) H6 H7 → Same W n H H7 := fun H7 sm7 id a b => by
    have e : id ≠ idN := fun e => b (e ▸ wN)
    rw [sm7 id (by omega) (by simp [e]; omega), k6 id (by omega) e (by omega), g04 id a]
  rcases hloop with ⟨H7, n7, mv, y12, y13, y14, y15, y30, y31, e7, hr7, hbs, hall, sm7, hS7, ln7, _⟩ | ⟨H7, n7, T, e7, hr7, hex, sm7⟩
  · refine .inl ⟨H7, n7, mv, ?_, ?_, fun j hj hs => hall j (Nat.zero_le _) hj hs, smW _ sm7⟩
    · have hb7 : H7.get n = some (.arr 0 1 [[.ptr idS 0 7 0 0]]) := (sm7 n (by omega) (by simp; omega)).trans ((g6 _ (by omega)).trans hb5)
      have hIV7 : H7.get idV = some (.arr 0 3 [[.view idT va 1 0 (irows ts).length none, uv, sv]]) := (sm7 _ (by omega) (by simp; omega)).trans hIV6
      have hS7' := hS7.trans st6.s
      have mvc : mv.cells? = some [mv] := by
        rcases hbs with ⟨rfl, _⟩ | ⟨_, _, h, _⟩
        · rfl
        · exact h.cells
      have e0 : codeL Gf (.loop B_29_0) ⟨[.ptr idS 0 7 0 0, .int .i64 next, .ptr n 0 1 0 0, .ptr (n + 1) 0 2 0 0, .int .i64 0, .ptr (n + 2) 0 1 0 0, .func 80 [] [.ptr n 0 1 0 0, .ptr (n + 2) 0 1 0 0], .ptr (n + 4) 0 1 0 0, y8, y9, y10, .map (n + 5), y12, y13, y14, y15, .tup [], .tup [], .tup [], .tup [], .tup [], .view idT va 1 0 ts.length none, .int .i64 ts.length, .int .i64 ts.length, .bool false, y25, .view idT va 1 0 ts.length none, .int .i64 ts.length, .int .i64 ts.length, .bool false, y30, y31, uv, .int .i64 0, .int .i64 0, .tup [], .tup []], H7, n7⟩ =
          some (.exit 4, ⟨[.ptr idS 0 7 0 0, .int .i64 next, .ptr n 0 1 0 0, .ptr (n + 1) 0 2 0 0, .int .i64 0, .ptr (n + 2) 0 1 0 0, .func 80 [] [.ptr n 0 1 0 0, .ptr (n + 2) 0 1 0 0], .ptr (n + 4) 0 1 0 0, y8, y9, y10, .map (n + 5), y12, y13, y14, y15, .tup [], .tup [], .tup [], .tup [], .tup [], .view idT va 1 0 ts.length none, .int .i64 ts.length, .int .i64 ts.length, .bool false, y25, .view idT va 1 0 ts.length none, .int .i64 ts.length, .int .i64 ts.length, .bool false, y30, y31, uv, .int .i64 0, .int .i64 0, .bool false, .tup []], H7, n7⟩) := by
        refine codeL_loop_end ?_ (by simp)
        simp (disch := omega) only [go_sem, Int.reduceLT, B_29_0]
      have hset : H7.set (n + 1) (.arr 0 2 [[mv, .nils]]) = H7 := set_self hr7
      simp only [toS] at e7
      rw [eA] at e5 e7 hIV7 hIV6 hIV4 hlt
      rw [show ((0 : Nat) : Int) = 0 from rfl] at e5 e7
      rw [R_29]
      simp (disch := omega) only [go_sem, Nat.reduceAdd, Nat.reduceLeDiff, G_29, hH1, hb1, e79, hH2, hg2, hg2s, get_same, hH4, hb4, hS4, hIV4, hlt, e5, hH6, hb6, hS6, hIV6, e7, hb7, hS7', hIV7, huv, e0, hr7, hset]
    · rcases hbs with h | ⟨id, rows, h1, h2, h3, h4⟩
      · exact .inl h
      · exact .inr ⟨id, rows, h1, by omega, h3, h4.keep (fun _ _ => rfl) (fun j hj => ⟨by omega, hj.2.1, hj.2.2⟩)⟩
  · refine .inr ⟨H7, n7, ?_, hex, smW _ sm7⟩
    simp only [toS] at e7
    rw [eA] at e5 e7 hIV6 hIV4 hlt
    rw [show ((0 : Nat) : Int) = 0 from rfl] at e5 e7
    rw [R_29]
    simp (disch := omega) only [go_sem, Nat.reduceAdd, Nat.reduceLeDiff, G_29, hH1, hb1, e79, hH2, hg2, hg2s, get_same, hH4, hb4, hS4, hIV4, hlt, e5, hH6, hb6, hS6, hIV6, e7, hr7, List.cons_append, List.nil_append]
end
structure Uni (ps : List (Ty × Ty)) (ts : List Nat) (leaf : Int → Nat) (len : Nat) (D : Nat → Nd) (A : Nat → List Nat) (U : Nat → List PV) (R : Nat → Nat) : Prop where
  shut : Shut len D A U R
  hl : ts.length ≤ len
  hD : ∀ i, i < ts.length → (D i).kind = 1
  hA : ∀ i, i < ts.length → A i = []
  hU : ∀ i, i < len → U i = []
  nk : ∀ i, ts.length ≤ i → i < len → (D i).kind ≠ 1
  reps : ∀ p ∈ ps, ∃ rl rr, Rep len D A U leaf id rl p.1 ∧ Rep len D A U leaf id rr p.2 ∧ R rl = R rr
  fin : ∀ j, j < ts.length → Fin' A R (R j)
  lt : ∀ i, i < len → R i < len
  rr : ∀ i, i < len → R (R i) = R i
  sub : ∀ i, i < len → ∀ a ∈ A i, a < len
  min : ∀ σ, Solves leaf id σ ps → ∃ val, ValOk len D A U σ val ∧ ∀ i, i < len → val (R i) = val i
section
variable {K M B : Nat} {ps : List (Ty × Ty)} {xs : List (List PV)} {fl : Fl}
theorem unify_plain (hxl : xs.length = ps.length) (hxs : ∀ i, (h : i < ps.length) → ∃ rl rr, xs[i]? = some (rl ++ rr) ∧ TyR rl ps[i].1 ∧ TyR rr ps[i].2)
    (hfl : ∀ r ∈ xs, r.all flat = true) (hok : ∀ p ∈ ps, SideOk (fun _ => []) p.1 ∧ SideOk (fun _ => []) p.2 ∧ cost (fun _ => []) p.1 + cost (fun _ => []) p.2 ≤ K) (hlen : ps.length ≤ 512) (hK : K * ps.length < 900000)
    (hfew : ∀ tl : List Nat, tl.Nodup → (∀ x, x ∈ tl ↔ ∃ p ∈ ps, x ∈ p.1.pre.flatMap tvar ∨ x ∈ p.2.pre.flatMap tvar) → tl ≠ [] ∧ tl.length ≤ 512 ∧ tl.length + szs ps ≤ B)
    (hfit : ∀ p ∈ ps, ∀ V : Int → Prop, (∀ k : Nat, (k ∈ p.1.pre.flatMap tvar ∨ k ∈ p.2.pre.flatMap tvar) → V k) → Fit V (fun _ => False) p.1 ∧ Fit V (fun _ => False) p.2)
    (hcst : ∀ p ∈ ps, p.1.cst < 4000 ∧ p.2.cst < 4000) (hM : ∀ p ∈ ps, p.1.size ≤ M ∧ p.2.size ≤ M) (hM2 : M < 1000000) (hB2 : B < 900000) (hBM : B * M < 800000000) (hcm : ps.length * (1 + B * M) < 800000000000) (hLb : ps.length * (B * M) < 1000000000) (H : Heap) (n : Nat) :
    ∃ (ts : List Nat) (leaf : Int → Nat), ts.Nodup ∧ (∀ x, x ∈ ts ↔ ∃ p ∈ ps, x ∈ p.1.pre.flatMap tvar ∨ x ∈ p.2.pre.flatMap tvar) ∧ (∀ j, (h : j < ts.length) → leaf (ts[j] : Nat) = j) ∧
      ((∃ (H' : Heap) (n' : Nat), Gf 9 [.data 10 xs fl, .nils, .int .i64 0] H n = some (.tup [.agg [.nils, .nils], .int .i64 121], H', n') ∧ ¬ ∃ σ, Solves leaf id σ ps) ∨
       (∃ (len : Nat) (D : Nat → Nd) (A : Nat → List Nat) (U : Nat → List PV) (R : Nat → Nat) (sz : Nat → Nat × Nat) (sd : Nat → Nat) (val : Nat → Ty), Uni ps ts leaf len D A U R ∧ (∀ r, Fin' A R r → sz r = szStep A R U sz r) ∧ (∀ j, j < ts.length → ∃ k, k < ts.length ∧ R k = R j ∧ sd (R j) = ts.getD k 0) ∧
          (∀ r, Fin' A R r → (D r).kind = 1 → val r = .mk 1 (sd r : Nat) ⟨#[]⟩ [] []) ∧ (∀ r, Fin' A R r → (D r).kind ≠ 1 → val r = .mk (D r).kind (D r).num (D r).name ((A r).map fun a => val (R a)) ((U r).map id)) ∧
          ((∃ (H' : Heap) (n' lo : Nat) (mv : PV), Gf 9 [.data 10 xs fl, .nils, .int .i64 0] H n = some (.tup [.agg [mv, .nils], .int .i64 0], H', n') ∧ BsO lo n' H' mv (bsUp D R sd ts val ts.length) ∧ ∀ j, j < ts.length → skipB D R sd ts j = false → (sz (R j)).1 ≤ 256 ∧ (sz (R j)).2 ≤ 256) ∨
           (∃ (H' : Heap) (n' : Nat), Gf 9 [.data 10 xs fl, .nils, .int .i64 0] H n = some (.tup [.agg [.nils, .nils], .int .i64 122], H', n') ∧ ∃ j, j < ts.length ∧ skipB D R sd ts j = false ∧ ¬ ((sz (R j)).1 ≤ 256 ∧ (sz (R j)).2 ≤ 256))))) := by
  -- the box
  generalize hH1 : H.set n (.arr 0 2 [[.nils, .nils]]) = H1
  have hn1 : H1.get n = some (.arr 0 2 [[.nils, .nils]]) := by rw [← hH1, get_same]
  have hul0 : ∀ (ul : List Nat), (∀ x, x ∈ ul ↔ ∃ p ∈ ps, x ∈ p.1.pre.flatMap (nodeU fun _ => []) ∨ x ∈ p.2.pre.flatMap (nodeU fun _ => [])) → ul = [] := by
    intro ul h
    cases ul with
    | nil => rfl
    | cons y ul =>
      obtain ⟨p, _, hp⟩ := (h y).1 (by simp)
      simp [nodeU] at hp
  obtain ⟨H2, n2, Wa, tv, uv, ts, ul, l, e26, hacc, hnd, _, hts, hul, sm26, ln26⟩ := gathered_run (fl := fl) (uvs := fun _ => []) hxl hxs hfl hok hlen hK (fun tl h1 h2 => (hfew tl h1 h2).2.1) (fun ul h1 h2 => by rw [hul0 ul h2]; simp) H1 (n + 1)
  have hul' := hul0 ul hul
  subst hul'
  obtain ⟨hne, hl512, hB⟩ := hfew ts hnd hts
  have hn2 : H2.get n = some (.arr 0 2 [[.nils, .nils]]) := (sm26 n (by omega)).trans hn1
  have hIV := hacc.a
  have old := hacc.old
  have lIV : n + 1 + 1 < n2 := ln26
  have nums : ∀ {v : PV} {l : List Nat}, Sln Wa H2 v l → Nums H2 n2 v l := fun h => by
    rcases h with c | ⟨id, h1, h2⟩
    · exact .inl c
    · exact .inr ⟨id, old _ h1, h2⟩
  have huv : ∀ H n, lenX .slice H n uv = some ⟨.int .i64 0, H, n, .no⟩ := fun H n => (nums hacc.u).len H n
  obtain ⟨H3, n3, W3, pl, es, clock, D3, A3, U3, P3, R3, rk3, e27, laid, sm27, w27, ln27⟩ := lay27 hIV lIV (nums hacc.t) (nums hacc.u) hnd (by omega) (by simp)
  have hn3 : H3.get n = some (.arr 0 2 [[.nils, .nils]]) := (sm27 n (by omega)).trans hn2
  have hIV3 := (sm27 _ lIV).trans hIV
  generalize hleaf : (fun v : Int => match imGet es v with | some (.int _ k) => k.toNat | _ => 0) = leaf
  have hleafj : ∀ j, (h : j < ts.length) → leaf (ts[j] : Nat) = j := fun j h => by
    rw [← hleaf]
    simp [laid.at_ j h]
  refine ⟨ts, leaf, hnd, hts, hleafj, ?_⟩
  generalize hV : (fun v : Int => ∃ j, ∃ h : j < ts.length, v = (ts[j] : Nat)) = V
  have hVm : ∀ x ∈ ts, V (x : Nat) := fun x hx => by
    rw [← hV]
    obtain ⟨j, hj, e⟩ := List.getElem_of_mem hx
    exact ⟨j, hj, by rw [e]⟩
  have htv3 : (tv = .nils ∧ ts = []) ∨ ∃ idT, idT < n3 ∧ idT ∉ W3 ∧ VW H3 1 idT tv (irows ts) := by
    rcases nums hacc.t with c | ⟨id, h1, h2⟩
    · exact .inl c
    · exact .inr ⟨id, by omega, fun hm => by have := w27 _ hm; omega, h2.same (sm27 _ h1)⟩
  have wIV3 : n + 1 + 1 ∉ W3 := fun hm => by have := w27 _ hm; omega
  have hbase : LayBase H3 n3 W3 n2 es clock pl (prows [] 0) :=
    ⟨laid.map, laid.lM, laid.wM, laid.keys, by
      rcases laid.place with c | ⟨id, c1, c2, _, _, c5⟩
      · exact .inl c
      · exact .inr ⟨id, c1, c2, c5⟩⟩
  rcases agreed_run (inn := id) (leaf := leaf) (V := V) (Q := fun _ => False) (idV := n + 1 + 1) (prows := prows [] 0) (M := M) (B := B) (fun u hu => hu.elim) (fun v hv => by
      rw [← hV] at hv
      obtain ⟨j, hj, rfl⟩ := hv
      rw [hleafj j hj]
      exact ⟨laid.at_ j hj, hj⟩) (.inr ⟨xs, fl, rfl, hxl, hxs⟩) (fun p hp => hfit p hp V (fun k hk => hVm k ((hts k).2 ⟨p, hp, hk⟩))) hcst hM hM2 hB hB2 hBM hcm (by omega) hLb laid.st laid.node hbase laid.at_ hIV3 (by omega) wIV3 htv3
      (fun nb Ha na W cnt len D A U P R rk L ag _ _ _ _ => ⟨fun _ _ => True, fun _ _ _ _ _ _ _ => trivial, trivial, fun p hp => by
        obtain ⟨i, j, hi, _, hu, _⟩ := ag.lu p hp
        obtain ⟨v, hv, _⟩ := ag.un i hi _ hu
        exact hv.elim⟩) with
    ⟨H4, n4, W4, cnt4, len4, D4, A4, U4, P4, R4, rk4, L4, e28, ag, hfin, sm28, w28, ln28, hlen4⟩ | ⟨H4, n4, e28, hno, sm28⟩
  · refine .inr ?_
    have hU0 : ∀ i, i < len4 → U4 i = [] := fun i hi => by
      cases h : U4 i with
      | nil => rfl
      | cons u l =>
        obtain ⟨v, hv, _⟩ := ag.un i hi u (by rw [h]; simp)
        exact hv.elim
    have hlp : 0 < ts.length := by
      cases ts with
      | nil => exact absurd rfl hne
      | cons a l => simp
    have out : ∀ x, x < n3 → x ∉ W3 → x ∉ W4 := fun x h1 h2 hm => by rcases w28 x hm with e | e; exact h2 e; omega
    obtain ⟨idT, lT, wT, hT⟩ : ∃ idT, idT < n3 ∧ idT ∉ W3 ∧ VW H3 1 idT tv (irows ts) := by
      rcases htv3 with ⟨_, e⟩ | h
      · exact absurd e hne
      · exact h
    have hIV4 := (sm28 _ (by omega) wIV3).trans hIV3
    have wn3 : n ∉ W3 := fun hm => by have := w27 _ hm; omega
    have hn4 : H4.get n = some (.arr 0 2 [[.nils, .nils]]) := (sm28 n (by omega) wn3).trans hn3
    obtain ⟨sz, sd, val, hsz, hsd, hv1, hv2, hout⟩ := told_run (inv := id) (ts := ts) ag.st (by have := ag.hl0; omega) ag.base.hm ag.base.lm ag.base.wm ag.base.keys laid.at_ ag.hl0 (by omega) (hT.same (sm28 _ lT wT)) (by omega) (out _ lT wT) hIV4 (by omega) (out _ (by omega) wIV3) huv
      (fun i hi => by have := ag.bA i hi; omega) (fun i hi => by have := ag.bU i hi; omega) hfin ag.nk (fun i hi u hu => by rw [hU0 i hi] at hu; simp at hu) 0
    refine ⟨len4, D4, A4, U4, R4, sz, sd, val, ⟨ag.shut, ag.hl0, ag.hD, ag.hA, hU0, ag.nk, ag.reps, hfin, fun i hi => (ag.st.ups i hi).2.1, fun i hi => ag.st.ups.rr hi, ag.st.sto.sub, fun σ hσ => (ag.min σ hσ).1⟩, hsz, hsd, hv1, hv2, ?_⟩
    have hn5 : ∀ H5 : Heap, Same W4 n4 H4 H5 → H5.get n = some (.arr 0 2 [[.nils, .nils]]) := fun H5 sm => (sm n (by omega) (out _ (by omega) wn3)).trans hn4
    rcases hout with ⟨H5, n5, mv, e29, hbs, hall, sm29⟩ | ⟨H5, n5, e29, hex, sm29⟩
    · refine .inl ⟨H5.set n (.arr 0 2 [[mv, .nils]]), n5, n4, mv, ?_, ?_, hall⟩
      · have hn5 := hn5 _ sm29
        have mvc : mv.cells? = some [mv] := by
          rcases hbs with ⟨rfl, _⟩ | ⟨_, _, h, _⟩
          · rfl
          · exact h.cells
        rw [R_9]
        simp (disch := omega) only [go_sem, Nat.reduceAdd, Nat.reduceMul, Nat.reduceLeDiff, Int.reduceLT, G_9, hH1, e26, hIV, huv, e27, e28, e29, hn5, get_same]
      · rcases hbs with h | ⟨id, rows, h1, h2, h3, h4⟩
        · exact .inl h
        · exact .inr ⟨id, rows, h1.same (get_other _ _ (by omega)), h2, h3, h4.keep (fun j hj => get_other _ _ (by omega)) (fun j hj => hj)⟩
    · refine .inr ⟨H5.set n (.arr 0 2 [[.nils, .nils]]), n5, ?_, hex⟩
      have hn5 := hn5 _ sm29
      rw [R_9]
      simp (disch := omega) only [go_sem, Nat.reduceAdd, Nat.reduceMul, Nat.reduceLeDiff, Int.reduceLT, G_9, hH1, e26, hIV, huv, e27, e28, e29, hn5, get_same]
  · have wn3 : n ∉ W3 := fun hm => by have := w27 _ hm; omega
    have hn4 : H4.get n = some (.arr 0 2 [[.nils, .nils]]) := (sm28 n (by omega) wn3).trans hn3
    refine .inl ⟨H4.set n (.arr 0 2 [[.nils, .nils]]), n4, ?_, hno⟩
    rw [R_9]
    simp (disch := omega) only [go_sem, Nat.reduceAdd, Nat.reduceMul, Nat.reduceLeDiff, Int.reduceLT, G_9, hH1, e26, hIV, huv, e27, e28, hn4, get_same]
end
abbrev vrow (k : Nat) : List PV := [.int .i64 1, .int .i64 k, .str ⟨#[]⟩, .nils, .nils]
abbrev trow (k : Nat) (fl : Fl) : List PV := [.int .i64 6, .int .i64 0, .str ⟨#[]⟩, .data 5 [vrow k, vrow k] fl, .nils]
def rowsF (fl : Fl) (l : List Nat) : List (List PV) := l.map fun k => vrow (k + 1) ++ trow k fl
def ordL (even : Bool) (n : Nat) : List Nat := if even then List.range n else (List.range n).reverse
theorem pureV_mono {a b : CallF} (h : a.le b) {f : FuncId} {as : List PV} {r : PV} (hr : pureV a f as = some r) : pureV b f as = some r := by
  rw [pureV_eq] at hr ⊢
  cases hc : a f as [] 0 with
  | none => rw [hc] at hr; cases hr
  | some x => rw [h _ _ _ _ _ hc]; rw [hc] at hr; exact hr
theorem v_run (k : Nat) : pureV Gf 8 [.int .i64 k] = some (.agg (vrow k)) := by
  rw [pureV_eq, R_8]
  simp (disch := omega) only [go_sem, Nat.reduceAdd, Nat.reduceLeDiff, G_8, get_same]
theorem num_run (k : Int) : pureV Gf 11 [.int .i64 k] = some (.int .i64 k) := by
  rw [pureV_eq, R_11]
  simp (disch := omega) only [go_sem, G_11]
theorem copy_nils : pureV Gf 44 [.nils] = some .nils := by
  have e : codeL Gf (.loop B_44_0) ⟨[.nils, .nils, .nils, .int .i64 0, .tup []], [], 0⟩ = some (.exit 0, ⟨[.nils, .nils, .nils, .int .i64 0, .bool false], [], 0⟩) := by
    refine codeL_loop_end ?_ (by simp)
    simp (disch := omega) only [go_sem, Int.reduceLT, B_44_0]
  rw [pureV_eq, R_44]
  simp (disch := omega) only [go_sem, G_44, e]
theorem copy_nilu : pureV Gf 45 [.nils] = some .nils := by
  have e : codeL Gf (.loop B_45_0) ⟨[.nils, .nils, .nils, .int .i64 0, .tup []], [], 0⟩ = some (.exit 0, ⟨[.nils, .nils, .nils, .int .i64 0, .bool false], [], 0⟩) := by
    refine codeL_loop_end ?_ (by simp)
    simp (disch := omega) only [go_sem, Int.reduceLT, B_45_0]
  rw [pureV_eq, R_45]
  simp (disch := omega) only [go_sem, G_45, e]
theorem copy_v (k : Nat) : pureV Gf 21 [.agg (vrow k)] = some (.agg (vrow k)) := by
  rw [pureV_eq, R_21]
  simp (disch := omega) only [go_sem, Nat.reduceAdd, Nat.reduceLeDiff, G_21, get_same, get_other, copy_nils, copy_nilu]
theorem copy_vv (k : Nat) (fl : Fl) : pureV Gf 44 [.data 5 [vrow k, vrow k] fl] = some (.data 5 [vrow k, vrow k] .part) := by
  have h0 : idxAddrV 5 (.data 5 [vrow k, vrow k] fl) (.int .i64 0) = some (.dp fl.isTmp (vrow k) 0) := idxAddr_data 5 _ fl .i64 0 _ rfl
  have h1 : idxAddrV 5 (.data 5 [vrow k, vrow k] fl) (.int .i64 1) = some (.dp fl.isTmp (vrow k) 0) := idxAddr_data 5 _ fl .i64 1 _ rfl
  have hl : ∀ H n, lenX .slice H n (.data 5 [vrow k, vrow k] fl) = some ⟨.int .i64 2, H, n, .no⟩ := fun H n => rfl
  have e : codeL Gf (.loop B_44_0) ⟨[.data 5 [vrow k, vrow k] fl, .nils, .nils, .int .i64 0, .tup []], [], 0⟩ =
      some (.exit 0, ⟨[.data 5 [vrow k, vrow k] fl, .nils, .view 0 1 5 0 2 none, .int .i64 2, .bool false], [(0, .arr 1 5 [vrow k, vrow k])], 1⟩) := by
    have s1 : codeL Gf B_44_0 ⟨[.data 5 [vrow k, vrow k] fl, .nils, .nils, .int .i64 0, .tup []], [], 0⟩ = some (.normal, ⟨[.data 5 [vrow k, vrow k] fl, .nils, .view 0 0 5 0 1 none, .int .i64 1, .bool true], Heap.set [] 0 (.arr 0 5 [vrow k]), 1⟩) := by
      simp (disch := omega) only [go_sem, Nat.reduceAdd, Nat.reduceBEq, Nat.reduceLT, Int.reduceLT, Int.reduceAdd, B_44_0, h0, hl, copy_v]
    have s2 : codeL Gf B_44_0 ⟨[.data 5 [vrow k, vrow k] fl, .nils, .view 0 0 5 0 1 none, .int .i64 1, .bool true], Heap.set [] 0 (.arr 0 5 [vrow k]), 1⟩ = some (.normal, ⟨[.data 5 [vrow k, vrow k] fl, .nils, .view 0 1 5 0 2 none, .int .i64 2, .bool true], Heap.set [] 0 (.arr 1 5 [vrow k, vrow k]), 1⟩) := by
      have hg := appO_grow1 5 80 0 0 1 [] (Heap.set [] 0 (.arr 0 5 [vrow k])) 1 (vrow k) [vrow k] rfl (by decide)
      simp (disch := omega) only [go_sem, Nat.reduceAdd, Nat.reduceBEq, Nat.reduceLT, Int.reduceLT, Int.reduceAdd, B_44_0, h1, hl, copy_v, get_same, hg]
    rw [codeL_loop_iff s1, codeL_loop_iff s2]
    refine codeL_loop_end ?_ (by simp)
    simp (disch := omega) only [go_sem, Int.reduceLT, B_44_0, hl]
    rfl
  rw [pureV_eq, R_44]
  simp (disch := omega) only [go_sem, G_44, e]
  rfl
theorem copy_t (k : Nat) : pureV Gf 21 [.agg (trow k .full)] = some (.agg (trow k .part)) := by
  rw [pureV_eq, R_21]
  simp (disch := omega) only [go_sem, Nat.reduceAdd, Nat.reduceLeDiff, G_21, get_same, get_other, copy_vv, copy_nilu]
theorem copy_p (k j : Nat) : pureV Gf 30 [.agg (vrow j ++ trow k .full)] = some (.agg (vrow j ++ trow k .part)) := by
  rw [pureV_eq, R_30]
  simp only [List.cons_append, List.nil_append]
  simp (disch := omega) only [go_sem, Nat.reduceAdd, Nat.reduceLeDiff, G_30, get_same, get_other, copy_v, copy_t]
abbrev vT (k : Nat) : Ty := .mk 1 k ⟨#[]⟩ [] []
abbrev tT (k : Nat) : Ty := .mk 6 0 ⟨#[]⟩ [vT k, vT k] []
theorem usR_nil : UsR .nils [] := ⟨.inl ⟨rfl, rfl⟩, fun v h => by simp at h⟩
theorem vrow_R (k : Nat) : TyR (vrow k) (vT k) := .mk 1 k _ .nils .nils [] [] .nil usR_nil
theorem trow_R (k : Nat) (fl : Fl) : TyR (trow k fl) (tT k) := .mk 6 0 _ _ .nils _ [] (.data _ _ fl (.cons _ _ _ _ (vrow_R k) (.cons _ _ _ _ (vrow_R k) .nil))) usR_nil
theorem tys_len {a : PV} {ts : List Ty} (h : TysR a ts) (H : Heap) (n : Nat) : lenX .slice H n a = some ⟨.int .i64 (ts.length : Nat), H, n, .no⟩ := by
  cases h with
  | nil => rfl
  | data xs ts fl hx => simp [lenX, hx.len]
theorem us_len {u : PV} {us : List PV} (h : UsR u us) (H : Heap) (n : Nat) : lenX .slice H n u = some ⟨.int .i64 (us.length : Nat), H, n, .no⟩ := by
  rcases h.1 with ⟨rfl, rfl⟩ | ⟨fl, rfl⟩
  · rfl
  · simp [lenX, urows]
theorem few214 (k : Nat) (hk : k < 1000) : pureV Gf 214 [.int .i64 k] = some (.bool true) := by
  rw [pureV_eq, R_214]
  simp (disch := omega) only [go_sem, G_214]
theorem v_ok (k : Nat) (hk : k < 1000) : NodeOk (vT k) where
  shape row h := by
    obtain ⟨a, u, rfl, hta, hus⟩ := h.five
    have ca := tys_cells hta
    have cu := us_cells hus
    have la := tys_len hta
    have lu := us_len hus
    simp only [Ty.args, Ty.units, List.length_nil] at la lu
    have l0 : ((0 : Nat) : Int) = 0 := rfl
    have hbe : ((ByteArray.mk #[]).toList == (ByteArray.mk #[]).toList) = true := by simp
    rw [pureV_eq, R_165]
    simp only [Ty.kind, Ty.num, Ty.name]
    simp (disch := omega) only [go_sem, Nat.reduceAdd, Nat.reduceMul, Nat.reduceLeDiff, G_165, get_same, la, lu, few214 k hk, l0, hbe]
  units u h := by simp [Ty.units] at h
theorem t_ok (k : Nat) : NodeOk (tT k) where
  shape row h := by
    obtain ⟨a, u, rfl, hta, hus⟩ := h.five
    have ca := tys_cells hta
    have cu := us_cells hus
    have la := tys_len hta
    have lu := us_len hus
    simp only [Ty.args, Ty.units, List.length_nil, List.length_cons] at la lu
    have l0 : ((0 : Nat) : Int) = 0 := rfl
    have l2 : ((2 : Nat) : Int) = 2 := rfl
    have hbe : ((ByteArray.mk #[]).toList == (ByteArray.mk #[]).toList) = true := by simp
    rw [pureV_eq, R_165]
    simp only [Ty.kind, Ty.num, Ty.name]
    simp (disch := omega) only [go_sem, Nat.reduceAdd, Nat.reduceMul, Nat.reduceLeDiff, G_165, get_same, la, lu, l0, l2, hbe]
  units u h := by simp [Ty.units] at h
theorem v_side (k : Nat) (hk : k < 1000) : SideOk (fun _ => []) (vT k) where
  ok := by
    have hp : (vT k).pre = [vT k] := rfl
    refine ⟨fun s hs => ?_, by rw [hp]; simp, by rw [hp]; simp [usum, Ty.units]⟩
    rw [hp] at hs
    simp only [List.mem_singleton] at hs
    subst hs
    exact v_ok k hk
  vars := by
    have hp : (vT k).pre = [vT k] := rfl
    rw [hp]
    refine ⟨fun t ht _ => ?_, fun t ht u hu => ?_, by simp, by simp [nodeU, Ty.units], fun t ht => ?_⟩ <;> (simp only [List.mem_singleton] at ht; subst ht)
    · exact ⟨k, rfl⟩
    · simp [Ty.units] at hu
    · simp [Ty.units]
  few := by simp [nodeU, Ty.units, Ty.pre, Ty.pres]
theorem t_side (k : Nat) (hk : k < 1000) : SideOk (fun _ => []) (tT k) where
  ok := by
    have hp : (tT k).pre = [tT k, vT k, vT k] := rfl
    refine ⟨fun s hs => ?_, by rw [hp]; simp, by rw [hp]; simp [usum, Ty.units]⟩
    rw [hp] at hs
    simp only [List.mem_cons, List.not_mem_nil, or_false] at hs
    rcases hs with rfl | rfl | rfl
    · exact t_ok k
    · exact v_ok k hk
    · exact v_ok k hk
  vars := by
    have hp : (tT k).pre = [tT k, vT k, vT k] := rfl
    rw [hp]
    refine ⟨fun t ht h1 => ?_, fun t ht u hu => ?_, by simp, by simp [nodeU, Ty.units], fun t ht => ?_⟩ <;> (simp only [List.mem_cons, List.not_mem_nil, or_false] at ht; rcases ht with rfl | rfl | rfl)
    · simp [Ty.kind] at h1
    · exact ⟨k, rfl⟩
    · exact ⟨k, rfl⟩
    all_goals first | (simp [Ty.units] at hu; done) | simp [Ty.units]
  few := by simp [nodeU, Ty.units, Ty.pre, Ty.pres]
theorem nodup_few : ∀ (m : Nat) (l : List Nat), l.Nodup → (∀ x ∈ l, x < m) → l.length ≤ m
  | 0, l, _, h => by
    cases l with
    | nil => simp
    | cons a l => have := h a (by simp); omega
  | m + 1, l, hd, h => by
    have h1 := nodup_few m (l.erase m) (hd.erase m) (fun x hx => by
      have h2 := h x (List.mem_of_mem_erase hx)
      have h3 : x ≠ m := fun e => by
        subst e
        exact (hd.not_mem_erase) hx
      omega)
    rw [List.length_erase] at h1
    split at h1 <;> omega
def RowsN (H : Heap) (n : Nat) (v : PV) (rows : List (List PV)) : Prop := (v = .nils ∧ rows = []) ∨ v = .data 10 rows .full ∨ ∃ id, id < n ∧ VW H 10 id v rows
theorem rowsF_len (fl : Fl) (l : List Nat) : (rowsF fl l).length = l.length := by simp [rowsF]
theorem rowsF_take (fl : Fl) (l : List Nat) (t : Nat) (h : t < l.length) : rowsF fl (l.take (t + 1)) = rowsF fl (l.take t) ++ [vrow (l[t] + 1) ++ trow l[t] fl] := by
  rw [List.take_succ_eq_append_getElem h, rowsF, rowsF, List.map_append]; rfl
theorem RowsN.len {H0 : Heap} {n0 : Nat} {v : PV} {rows : List (List PV)} (h : RowsN H0 n0 v rows) (H : Heap) (n : Nat) : lenX .slice H n v = some ⟨.int .i64 (rows.length : Nat), H, n, .no⟩ := by
  rcases h with ⟨rfl, rfl⟩ | rfl | ⟨id, _, ver, rest, rfl, _⟩
  · rfl
  · simp [lenX]
  · simp [lenX]
theorem copies_loop {lo : Nat} {v : PV} {l : List Nat} (hl : l.length < 1000000) : ∀ (d i : Nat) (H : Heap) (n : Nat) (acc x4 : PV), l.length - i = d → i ≤ l.length → lo ≤ n → RowsN H lo v (rowsF .full l) → ((acc = .nils ∧ i = 0) ∨ ∃ id, lo ≤ id ∧ id < n ∧ VW H 10 id acc (rowsF .part (l.take i))) →
    ∃ (H' : Heap) (n' : Nat) (acc' : PV), codeL Gf (.loop B_10_0) ⟨[v, .nils, acc, .int .i64 i, x4], H, n⟩ = some (.exit 0, ⟨[v, .nils, acc', .int .i64 l.length, .bool false], H', n'⟩) ∧
      ((acc' = .nils ∧ l.length = 0) ∨ ∃ id, lo ≤ id ∧ id < n' ∧ VW H' 10 id acc' (rowsF .part l)) ∧ (∀ id, id < lo → H'.get id = H.get id) ∧ n ≤ n' := by
  intro d
  induction d with
  | zero =>
    intro i H n acc x4 hd hi hn hv hacc
    have e : i = l.length := by omega
    subst e
    have hlen := hv.len
    rw [rowsF_len] at hlen
    refine ⟨H, n, acc, codeL_loop_end ?_ (by simp), by simpa using hacc, fun _ _ => rfl, Nat.le_refl _⟩
    simp (disch := omega) only [go_sem, B_10_0, hlen]
  | succ d ih =>
    intro i H n acc x4 hd hi hn hv hacc
    have hil : i < l.length := by omega
    have hlen := hv.len
    rw [rowsF_len] at hlen
    have hs : (acc = .nils ∧ rowsF .part (l.take i) = []) ∨ ∃ id, VW H 10 id acc (rowsF .part (l.take i)) ∧ id < n := by
      rcases hacc with ⟨h1, rfl⟩ | ⟨id, _, h2, h3⟩
      · exact .inl ⟨h1, rfl⟩
      · exact .inr ⟨id, h3, h2⟩
    obtain ⟨v3, H3, n3, w, e3, hv3, lw, g3, ln3, hw⟩ := appOne (vrow (l[i] + 1) ++ trow l[i] .part) [] hs (bytes := 160) (by rw [rowsF_len, List.length_take]; omega)
    have hwlo : lo ≤ w := by
      rcases hw with ⟨h, _, _⟩ | hw
      · omega
      · rcases hacc with ⟨h1, _⟩ | ⟨id, h1, _, h3⟩
        · obtain ⟨_, _, e, _⟩ := hw
          rw [h1] at e; cases e
        · have a := hw.vid
          rw [h3.vid] at a
          have := Option.some.inj a
          omega
    have hv' : RowsN H3 lo v (rowsF .full l) := by
      rcases hv with h | h | ⟨id, h1, h2⟩
      · exact .inl h
      · exact .inr (.inl h)
      · exact .inr (.inr ⟨id, h1, h2.same (g3 _ (by omega))⟩)
    rw [← rowsF_take .part l i hil] at hv3
    obtain ⟨H', n', acc', e4, h4, h5, h6⟩ := ih (i + 1) H3 n3 v3 (.bool true) (by rw [Nat.sub_add_eq, hd]; rfl) hil (by omega) hv' (.inr ⟨w, hwlo, lw, hv3⟩)
    refine ⟨H', n', acc', ?_, h4, fun id hid => (h5 id hid).trans (g3 id (by omega)), by omega⟩
    rw [← e4]
    refine codeL_loop_iff ?_
    have hrow : (rowsF .full l)[i]? = some (vrow (l[i] + 1) ++ trow l[i] .full) := by simp [rowsF, hil]
    have cp := copy_p l[i] (l[i] + 1)
    simp only [List.cons_append, List.nil_append] at hrow cp e3
    rcases hv with ⟨_, h⟩ | rfl | ⟨id, h1, ver, rest, rfl, hH⟩
    · rw [rowsF, List.map_eq_nil_iff] at h
      rw [h] at hil
      simp at hil
    · have hix := idxAddr_data 10 (rowsF .full l) .full .i64 i _ hrow
      simp (disch := omega) only [go_sem, Nat.reduceAdd, Nat.reduceBEq, Nat.reduceLT, B_10_0, hlen, hix, cp, e3, cast_add1]
    · have hrow' : (rowsF .full l ++ rest)[i]? = some [.int .i64 1, .int .i64 (l[i] + 1 : Nat), .str ⟨#[]⟩, .nils, .nils, .int .i64 6, .int .i64 0, .str ⟨#[]⟩, .data 5 [vrow l[i], vrow l[i]] .full, .nils] := by
        rw [List.getElem?_append_left (by rw [rowsF_len]; exact hil)]; exact hrow
      rw [rowsF_len] at hlen ⊢
      simp (disch := omega) only [go_sem, Nat.reduceAdd, Nat.reduceBEq, Nat.reduceLT, B_10_0, hlen, hH, hrow', cp, e3, cast_add1]
theorem copies_run {H : Heap} {n : Nat} {v : PV} {l : List Nat} (hl : l.length < 1000000) (h0 : 0 < l.length) (hv : RowsN H n v (rowsF .full l)) :
    ∃ (H' : Heap) (n' : Nat) (v' : PV) (id : Nat), Gf 10 [v] H n = some (v', H', n') ∧ n ≤ id ∧ id < n' ∧ VW H' 10 id v' (rowsF .part l) ∧ (∀ id, id < n → H'.get id = H.get id) := by
  obtain ⟨H', n', acc', e, h1, h2, h3⟩ := copies_loop hl l.length 0 H n .nils (.tup []) rfl (Nat.zero_le _) (Nat.le_refl _) hv (.inl ⟨rfl, rfl⟩)
  rcases h1 with ⟨_, h⟩ | ⟨id, h4, h5, h6⟩
  · omega
  · refine ⟨H', n', acc', id, ?_, h4, h5, h6, h2⟩
    rw [show ((0 : Nat) : Int) = 0 from rfl] at e
    rw [R_10]
    simp (disch := omega) only [go_sem, G_10, e]
theorem thaw_pairs {H : Heap} {id : Nat} {v : PV} {rows : List (List PV)} (h : VW H 10 id v rows) (hf : rows.all (fun x => x.all flat) = true) : thawC true H [v, .nils, .int .i64 0] false = some ([.data 10 rows .tmp, .nils, .int .i64 0], [id]) := by
  obtain ⟨ver, rest, rfl, hH⟩ := h
  have e : (List.drop 0 (rows ++ rest)).take rows.length = rows := by simp
  have h1 : ∀ d, thaw true H (d + 2) (.view id ver 10 0 rows.length none) = some (.data 10 rows .tmp, [id]) := fun d => by
    simp only [thaw, hH, e]
    simp [thawLL, hf]
  have h2 : thaw true H 4095 (.view id ver 10 0 rows.length none) = some (.data 10 rows .tmp, [id]) := h1 4093
  have h3 : thawL true H 4095 [.nils, .int .i64 0] = some ([.nils, .int .i64 0], []) := by
    show thawL true H (4094 + 1) [.nils, .int .i64 0] = _
    rfl
  rw [thawC_false, thawL_cons, h2, h3]
  rfl
def dps (l : List Nat) : List (Ty × Ty) := l.map fun k => (vT (k + 1), tT k)
def psX (l : List Nat) (e : Bool) (n : Nat) : List (Ty × Ty) := dps l ++ (if e then [(vT 0, vT n)] else [])
def xsX (l : List Nat) (e : Bool) (n : Nat) : List (List PV) := rowsF .part l ++ (if e then [vrow 0 ++ vrow n] else [])
theorem v_tvar (k : Nat) : (vT k).pre.flatMap tvar = [k] := by simp [Ty.pre, Ty.pres, tvar, Ty.kind, Ty.num]
theorem t_tvar (k : Nat) : (tT k).pre.flatMap tvar = [k, k] := by simp [Ty.pre, Ty.pres, tvar, Ty.kind, Ty.num]
theorem v_cost (k : Nat) : cost (fun _ => []) (vT k) = 256 := by simp [cost, Ty.pre, Ty.pres, nodeU, Ty.units]
theorem t_cost (k : Nat) : cost (fun _ => []) (tT k) = 256 := by simp [cost, Ty.pre, Ty.pres, nodeU, Ty.units]
theorem v_size (k : Nat) : (vT k).size = 1 := rfl
theorem t_size (k : Nat) : (tT k).size = 3 := rfl
theorem szs_dps : ∀ l : List Nat, szs (dps l) = 4 * l.length
  | [] => rfl
  | k :: l => by
    have := szs_dps l
    simp only [dps, List.map_cons, szs, v_size, t_size, List.length_cons] at this ⊢
    omega
theorem psX_mem {l : List Nat} {e : Bool} {n : Nat} {p : Ty × Ty} (h : p ∈ psX l e n) : (∃ k ∈ l, p = (vT (k + 1), tT k)) ∨ (e = true ∧ p = (vT 0, vT n)) := by
  simp only [psX, List.mem_append, dps, List.mem_map] at h
  rcases h with ⟨k, hk, rfl⟩ | h
  · exact .inl ⟨k, hk, rfl⟩
  · cases e with
    | true => simp at h; exact .inr ⟨rfl, h⟩
    | false => simp at h
section
variable {l : List Nat} {e : Bool} {n : Nat}
theorem psX_vars (hm : ∀ k, k ∈ l ↔ k < n) (h1 : 1 ≤ n) (x : Nat) : (∃ p ∈ psX l e n, x ∈ p.1.pre.flatMap tvar ∨ x ∈ p.2.pre.flatMap tvar) ↔ x ≤ n := by
  constructor
  · rintro ⟨p, hp, h⟩
    rcases psX_mem hp with ⟨k, hk, rfl⟩ | ⟨_, rfl⟩
    · have := (hm k).1 hk
      simp only [v_tvar, t_tvar, List.mem_cons, List.not_mem_nil, or_false] at h
      omega
    · simp only [v_tvar, List.mem_cons, List.not_mem_nil, or_false] at h
      omega
  · intro h
    by_cases h0 : x = 0
    · exact ⟨(vT 1, tT 0), List.mem_append_left _ (List.mem_map.2 ⟨0, (hm 0).2 h1, rfl⟩), .inr (by rw [t_tvar, h0]; simp)⟩
    · exact ⟨(vT (x - 1 + 1), tT (x - 1)), List.mem_append_left _ (List.mem_map.2 ⟨x - 1, (hm _).2 (by omega), rfl⟩), .inl (by rw [v_tvar]; simp; omega)⟩
theorem psX_len (hll : l.length = n) : (psX l e n).length ≤ n + 1 := by
  cases e <;> simp [psX, dps] <;> omega
theorem xsX_at (i : Nat) (h : i < (psX l e n).length) : ∃ rl rr, (xsX l e n)[i]? = some (rl ++ rr) ∧ TyR rl (psX l e n)[i].1 ∧ TyR rr (psX l e n)[i].2 := by
  by_cases hi : i < l.length
  · refine ⟨vrow (l[i] + 1), trow l[i] .part, ?_, ?_, ?_⟩
    · rw [xsX, List.getElem?_append_left (by rw [rowsF_len]; exact hi)]
      simp [rowsF, hi]
    · have : (psX l e n)[i] = (vT (l[i] + 1), tT l[i]) := by
        simp only [psX]
        rw [List.getElem_append_left (by simpa [dps] using hi)]
        simp [dps]
      rw [this]
      exact vrow_R _
    · have : (psX l e n)[i] = (vT (l[i] + 1), tT l[i]) := by
        simp only [psX]
        rw [List.getElem_append_left (by simpa [dps] using hi)]
        simp [dps]
      rw [this]
      exact trow_R _ _
  · cases e with
    | false => simp [psX, dps] at h; omega
    | true =>
      have hl : i = l.length := by simp [psX, dps] at h; omega
      subst hl
      have : (psX l true n)[l.length] = (vT 0, vT n) := by simp [psX, dps]
      refine ⟨vrow 0, vrow n, ?_, by rw [this]; exact vrow_R 0, by rw [this]; exact vrow_R n⟩
      simp [xsX, rowsF]
theorem dbl_uni (hm : ∀ k, k ∈ l ↔ k < n) (hll : l.length = n) (h1 : 1 ≤ n) (h2 : n ≤ 400) :
    ∃ (ts : List Nat) (leaf : Int → Nat), ts.Nodup ∧ (∀ x, x ∈ ts ↔ x ≤ n) ∧ (∀ j, (h : j < ts.length) → leaf (ts[j] : Nat) = j) ∧
      ((∃ (H' : Heap) (n' : Nat), Gf 9 [.data 10 (xsX l e n) .tmp, .nils, .int .i64 0] [] 0 = some (.tup [.agg [.nils, .nils], .int .i64 121], H', n') ∧ ¬ ∃ σ, Solves leaf id σ (psX l e n)) ∨
       (∃ (len : Nat) (D : Nat → Nd) (A : Nat → List Nat) (U : Nat → List PV) (R : Nat → Nat) (sz : Nat → Nat × Nat) (sd : Nat → Nat) (val : Nat → Ty), Uni (psX l e n) ts leaf len D A U R ∧ (∀ r, Fin' A R r → sz r = szStep A R U sz r) ∧ (∀ j, j < ts.length → ∃ k, k < ts.length ∧ R k = R j ∧ sd (R j) = ts.getD k 0) ∧
          (∀ r, Fin' A R r → (D r).kind = 1 → val r = .mk 1 (sd r : Nat) ⟨#[]⟩ [] []) ∧ (∀ r, Fin' A R r → (D r).kind ≠ 1 → val r = .mk (D r).kind (D r).num (D r).name ((A r).map fun a => val (R a)) ((U r).map id)) ∧
          ((∃ (H' : Heap) (n' lo : Nat) (mv : PV), Gf 9 [.data 10 (xsX l e n) .tmp, .nils, .int .i64 0] [] 0 = some (.tup [.agg [mv, .nils], .int .i64 0], H', n') ∧ BsO lo n' H' mv (bsUp D R sd ts val ts.length) ∧ ∀ j, j < ts.length → skipB D R sd ts j = false → (sz (R j)).1 ≤ 256 ∧ (sz (R j)).2 ≤ 256) ∨
           (∃ (H' : Heap) (n' : Nat), Gf 9 [.data 10 (xsX l e n) .tmp, .nils, .int .i64 0] [] 0 = some (.tup [.agg [.nils, .nils], .int .i64 122], H', n') ∧ ∃ j, j < ts.length ∧ skipB D R sd ts j = false ∧ ¬ ((sz (R j)).1 ≤ 256 ∧ (sz (R j)).2 ≤ 256))))) := by
  have hpl := psX_len (e := e) hll
  have hszs : szs (psX l e n) ≤ 1602 := by
    cases e with
    | false => simp only [psX, Bool.false_eq_true, if_false, List.append_nil, szs_dps]; omega
    | true => simp only [psX, if_true, szs_snoc, szs_dps, v_size]; omega
  have hall : ∀ p ∈ psX l e n, (∃ k, k ≤ 400 ∧ p = (vT (k + 1), tT k)) ∨ p = (vT 0, vT n) := fun p hp => by
    rcases psX_mem hp with ⟨k, hk, h⟩ | ⟨_, h⟩
    · exact .inl ⟨k, by have := (hm k).1 hk; omega, h⟩
    · exact .inr h
  have := unify_plain (K := 512) (M := 3) (B := 4000) (ps := psX l e n) (xs := xsX l e n) (fl := .tmp) (by cases e <;> simp [xsX, psX, rowsF, dps]) (fun i h => xsX_at i h)
    (fun r hr => by
      simp only [xsX, List.mem_append, rowsF, List.mem_map] at hr
      rcases hr with ⟨k, _, rfl⟩ | hr
      · simp [flat, Fl.isTmp]
      · cases e with
        | false => simp at hr
        | true => simp at hr; subst hr; simp [flat])
    (fun p hp => by
      rcases hall p hp with ⟨k, hk, rfl⟩ | rfl
      · exact ⟨v_side _ (by omega), t_side _ (by omega), by simp only [v_cost, t_cost]; omega⟩
      · exact ⟨v_side _ (by omega), v_side _ (by omega), by simp only [v_cost]; omega⟩)
    (by omega) (by omega)
    (fun tl hd hx => by
      have hx' : ∀ x, x ∈ tl ↔ x ≤ n := fun x => (hx x).trans (psX_vars hm h1 x)
      have hle := nodup_few (n + 1) tl hd (fun x h => by have := (hx' x).1 h; omega)
      refine ⟨fun h0 => ?_, by omega, by omega⟩
      have := (hx' 0).2 (Nat.zero_le _)
      rw [h0] at this
      simp at this)
    (fun p hp V hV => by
      rcases hall p hp with ⟨k, hk, rfl⟩ | rfl
      · refine ⟨.var _ rfl (hV _ (.inl (by rw [v_tvar]; simp))), .node _ (by show (6 : Int) ≠ 1; decide) (by show (6 : Int) ≠ 8; decide) (fun u hu => by simp [Ty.units] at hu) (fun s hs => ?_)⟩
        simp only [Ty.args, List.mem_cons, List.not_mem_nil, or_false, or_self] at hs
        subst hs
        exact .var _ rfl (hV k (.inr (by rw [t_tvar]; simp)))
      · exact ⟨.var _ rfl (hV _ (.inl (by rw [v_tvar]; simp))), .var _ rfl (hV _ (.inr (by rw [v_tvar]; simp)))⟩)
    (fun p hp => by
      rcases hall p hp with ⟨k, hk, rfl⟩ | rfl
      · exact ⟨by simp [Ty.cst, Ty.csts], by simp [Ty.cst, Ty.csts]⟩
      · exact ⟨by simp [Ty.cst, Ty.csts], by simp [Ty.cst, Ty.csts]⟩)
    (fun p hp => by
      rcases hall p hp with ⟨k, hk, rfl⟩ | rfl
      · exact ⟨by rw [v_size]; decide, by rw [t_size]; decide⟩
      · exact ⟨by rw [v_size]; decide, by rw [v_size]; decide⟩)
    (by decide) (by decide) (by decide) (by omega) (by omega) [] 0
  obtain ⟨ts, leaf, hnd, hts, hleaf, h⟩ := this
  exact ⟨ts, leaf, hnd, fun x => (hts x).trans (psX_vars hm h1 x), hleaf, h⟩
end
section
variable {l : List Nat} {e : Bool} {n len : Nat} {ts : List Nat} {leaf : Int → Nat} {D : Nat → Nd} {A : Nat → List Nat} {U : Nat → List PV} {R : Nat → Nat} {sz : Nat → Nat × Nat}
theorem rep_v {r k : Nat} (h : Rep len D A U leaf id r (vT k)) : r = leaf k ∧ r < len := by
  cases h with
  | var _ h1 h2 h3 => exact ⟨rfl, h2⟩
  | node _ _ h1 => exact absurd rfl h1
theorem rep_t {r k : Nat} (h : Rep len D A U leaf id r (tT k)) : r < len ∧ (D r).kind = 6 ∧ A r = [leaf k, leaf k] := by
  cases h with
  | var _ h1 => exact absurd h1 (by show (6 : Int) ≠ 1; decide)
  | node _ _ h1 h2 h3 h4 h5 h6 h7 =>
    refine ⟨h2, h3, ?_⟩
    simp only [Ty.args] at h7
    generalize A r = as at h7
    cases h7 with
    | cons a as t ts g1 g2 =>
      cases g2 with
      | cons b bs t' ts' g3 g4 =>
        cases g4
        rw [(rep_v g1).1, (rep_v g3).1]
theorem chain_at (hU : Uni (psX l e n) ts leaf len D A U R) {k : Nat} (hk : k ∈ l) : ∃ a b, A (R (leaf (k + 1 : Nat))) = [a, b] ∧ R a = R (leaf k) ∧ R b = R (leaf k) ∧ (D (R (leaf (k + 1 : Nat)))).kind = 6 ∧ leaf (k + 1 : Nat) < len := by
  obtain ⟨rl, rr, h1, h2, h3⟩ := hU.reps (vT (k + 1), tT k) (List.mem_append_left _ (List.mem_map.2 ⟨k, hk, rfl⟩))
  obtain ⟨rfl, l1⟩ := rep_v h1
  obtain ⟨l2, k2, a2⟩ := rep_t h2
  have hR := hU.lt _ l1
  have hRR := hU.rr _ l1
  have hk1 : (D (R (leaf (k + 1 : Nat)))).kind ≠ 1 := fun h => by
    rw [h3] at h
    have := hU.shut.var _ l2 h
    rw [k2] at this
    exact absurd this (by decide)
  obtain ⟨⟨q1, _, _, q4, _⟩, q6⟩ := hU.shut.clo _ _ hR l2 (by rw [hRR]; exact h3) hk1 (by rw [k2]; decide)
  rw [a2] at q4 q6
  match hA : A (R (leaf (k + 1 : Nat))), q4 with
  | [a, b], _ =>
    rw [hA] at q6
    refine ⟨a, b, rfl, q6 (a, leaf k) (by simp), q6 (b, leaf k) (by simp), by rw [q1]; exact k2, l1⟩
def gg : Nat → Nat
  | 0 => 1
  | k + 1 => min (min (1 + gg k) 257 + gg k) 257
theorem szAdd_ge (f : Nat → Nat × Nat) : ∀ (l : List Nat) (p : Nat × Nat), min p.1 257 ≤ (szAdd f l p).1
  | [], p => Nat.min_le_left _ _
  | a :: r, p => by
    have := szAdd_ge f r (min (p.1 + (f a).1) 257, min (p.2 + (f a).2) 257)
    simp only [szAdd]
    simp only at this
    omega
theorem chain_size (hU : Uni (psX l e n) ts leaf len D A U R) (hm : ∀ k, k ∈ l ↔ k < n) (hleaf : ∀ x, x ≤ n → leaf x < ts.length) (hsz : ∀ r, Fin' A R r → sz r = szStep A R U sz r) : ∀ k, k ≤ n → gg k ≤ (sz (R (leaf k))).1
  | 0, h => by
    rw [hsz _ (hU.fin _ (hleaf 0 h))]
    have := szAdd_ge (fun a => sz (R a)) (A (R (leaf (0 : Nat)))) (1, min (U (R (leaf (0 : Nat)))).length 257)
    simp only [szStep, gg]
    simp only at this
    omega
  | k + 1, h => by
    have ih := chain_size hU hm hleaf hsz k (by omega)
    obtain ⟨a, b, h1, h2, h3, _, _⟩ := chain_at hU ((hm k).2 (by omega))
    rw [hsz _ (hU.fin _ (hleaf (k + 1 : Nat) h))]
    simp only [szStep, h1, szAdd, h2, h3, gg]
    omega
theorem ring_none (hU : Uni (psX l true n) ts leaf len D A U R) (hm : ∀ k, k ∈ l ↔ k < n) (h1 : 1 ≤ n) (hleaf : ∀ x, x ≤ n → leaf x < ts.length) : False := by
  have hz : R (leaf (0 : Nat)) = R (leaf n) := by
    obtain ⟨rl, rr, g1, g2, g3⟩ := hU.reps (vT 0, vT n) (List.mem_append_right _ (by simp))
    rw [(rep_v g1).1, (rep_v g2).1] at g3
    exact g3
  have key : ∀ r, Fin' A R r → ∀ k, k ≤ n → r ≠ R (leaf k) := by
    intro r hr
    induction hr with
    | mk r hf ih =>
      have go : ∀ k, k < n → r ≠ R (leaf (k + 1 : Nat)) := fun k hk e => by
        obtain ⟨a, b, q1, q2, _⟩ := chain_at hU ((hm k).2 hk)
        exact ih a (by rw [e, q1]; simp) k (by omega) q2
      intro k hk e
      cases k with
      | zero =>
        obtain ⟨m, rfl⟩ : ∃ m, n = m + 1 := ⟨n - 1, by omega⟩
        exact go m (by omega) (e.trans hz)
      | succ k => exact go k (by omega) e
  exact key _ (hU.fin _ (hleaf 0 (Nat.zero_le _))) 0 (Nat.zero_le _) rfl
def dT (c : Int) : Nat → Ty
  | 0 => .mk c 0 ⟨#[]⟩ [] []
  | k + 1 => .mk 6 0 ⟨#[]⟩ [dT c k, dT c k] []
theorem chain_solves (c : Int) (hm : ∀ k, k ∈ l ↔ k < n) (hleaf : ∀ x : Nat, x ≤ n → ts.getD (leaf x) 0 = x) : Solves leaf id (fun i => dT c (ts.getD i 0)) (psX l false n) := by
  intro p hp
  rcases psX_mem hp with ⟨k, hk, rfl⟩ | ⟨h, _⟩
  · have hk := (hm k).1 hk
    have e1 : (vT (k + 1)).sub (fun v => dT c (ts.getD (leaf v) 0)) id = dT c (ts.getD (leaf (k + 1 : Nat)) 0) := by simp [Ty.sub]
    have e2 : (tT k).sub (fun v => dT c (ts.getD (leaf v) 0)) id = .mk 6 0 ⟨#[]⟩ [dT c (ts.getD (leaf k) 0), dT c (ts.getD (leaf k) 0)] [] := by simp [Ty.sub, Ty.subs]
    rw [e1, e2, hleaf _ (by omega), hleaf _ (by omega)]
    rfl
  · cases h
theorem leaf_at (hts : ∀ x, x ∈ ts ↔ x ≤ n) (hleaf : ∀ j, (h : j < ts.length) → leaf (ts[j] : Nat) = j) (x : Nat) (hx : x ≤ n) : leaf x < ts.length ∧ ts.getD (leaf x) 0 = x := by
  obtain ⟨j, hj, e⟩ := List.getElem_of_mem ((hts x).2 hx)
  have h2 := hleaf j hj
  rw [e] at h2
  rw [h2]
  exact ⟨hj, by simp [hj, e]⟩
theorem dbl_ring (hm : ∀ k, k ∈ l ↔ k < n) (hll : l.length = n) (h1 : 1 ≤ n) (h2 : n ≤ 400) : pureV Gf 9 [.data 10 (xsX l true n) .tmp, .nils, .int .i64 0] = some (.tup [.agg [.nils, .nils], .int .i64 121]) := by
  obtain ⟨ts, leaf, _, hts, hleaf, ⟨H', n', he, _⟩ | ⟨len, D, A, U, R, sz, sd, val, hU, _⟩⟩ := dbl_uni (e := true) hm hll h1 h2
  · rw [pureV_eq, he]; rfl
  · exact (ring_none hU hm h1 (fun x hx => (leaf_at hts hleaf x hx).1)).elim
theorem dbl_many (hm : ∀ k, k ∈ l ↔ k < n) (hll : l.length = n) (h1 : 8 ≤ n) (h2 : n ≤ 400) : pureV Gf 9 [.data 10 (xsX l false n) .tmp, .nils, .int .i64 0] = some (.tup [.agg [.nils, .nils], .int .i64 122]) := by
  obtain ⟨ts, leaf, _, hts, hleaf, ⟨H', n', he, hno⟩ | ⟨len, D, A, U, R, sz, sd, val, hU, hsz, hsd, hv1, hv2, ⟨H', n', lo, mv, he, _, hall⟩ | ⟨H', n', he, _⟩⟩⟩ := dbl_uni (e := false) hm hll (by omega) h2
  · exact absurd ⟨_, chain_solves 3 hm (fun x hx => (leaf_at hts hleaf x hx).2)⟩ hno
  · exfalso
    have hl8 := (leaf_at hts hleaf 8 (by omega)).1
    have hs := chain_size hU hm (fun x hx => (leaf_at hts hleaf x hx).1) hsz 8 (by omega)
    obtain ⟨a, b, _, _, _, hk, _⟩ := chain_at hU ((hm 7).2 (by omega))
    have hskip : skipB D R sd ts (leaf (8 : Nat)) = false := by
      have : (D (R (leaf (8 : Nat)))).kind = 6 := hk
      rw [skipB, this]; rfl
    have := hall _ hl8 hskip
    have hg : gg 8 = 257 := by decide
    omega
  · rw [pureV_eq, he]; rfl
end
theorem thawLL_all (t : Bool) (H : Heap) (d : Nat) (l : List (List PV)) (h : l.all (fun x => x.all flat) = true) : thawLL t H (d + 1) l = some (l, []) := by unfold thawLL; simp only [h, if_true]
theorem thawLL_cons {t : Bool} {H : Heap} {d : Nat} {p : List PV} {r : List (List PV)} {y : List PV} {ys : List (List PV)} {is js : List Nat} (h1 : thawL t H (d + 1) p = some (y, is)) (h2 : thawLL t H (d + 1) r = some (ys, js)) : ∃ ks, thawLL t H (d + 2) (p :: r) = some (y :: ys, ks) := by
  by_cases h : (p :: r).all (fun x => x.all flat) = true
  · refine ⟨[], ?_⟩
    rw [thawLL_all t H _ _ h]
    simp only [List.all_cons, Bool.and_eq_true] at h
    rw [thawL_all t H _ _ h.1] at h1
    rw [thawLL_all t H _ _ h.2] at h2
    cases h1; cases h2
    rfl
  · refine ⟨is ++ js, ?_⟩
    conv => lhs; unfold thawLL
    rw [if_neg h]
    simp only [h1, h2]
def UnitsOk (t : Ty) : Prop := ∀ s ∈ t.pre, ∀ u ∈ s.units, flat u = true ∧ PV.sameF 1000 u u = true
theorem UsO.thaw {ok : Nat → Prop} {H : Heap} {u : PV} {us : List PV} (h : UsO ok H u us) (hu : ∀ u ∈ us, flat u = true ∧ PV.sameF 1000 u u = true) (d : Nat) : ∃ v is, thaw false H (d + 2) u = some (v, is) ∧ UsR v us ∧ flat v = true := by
  rcases h with ⟨rfl, rfl⟩ | ⟨id, _, ver, rest, e, hH⟩
  · exact ⟨.nils, [], rfl, ⟨.inl ⟨rfl, rfl⟩, fun v h => by simp at h⟩, rfl⟩
  · refine ⟨.data 1 (urows us) .part, [id], thaw_VW e hH ?_, ⟨.inr ⟨.part, rfl⟩, hu⟩, rfl⟩
    simp only [urows, List.all_map, List.all_eq_true]
    intro v hv
    simp [(hu v hv).1]
section
variable {ok : Nat → Prop} {H : Heap}
mutual
theorem TyO.thaw : ∀ {x : List PV} {t : Ty}, TyO ok H x t → UnitsOk t → ∀ d, t.cst ≤ d → ∃ y is, thawL false H d x = some (y, is) ∧ TyR y t ∧ y.all flat = true
  | _, _, .mk k n s a u as us h1 h2, hu, d, hd => by
    simp only [Ty.cst] at hd
    obtain ⟨e, rfl⟩ : ∃ e, d = e + 12 := ⟨d - 12, by omega⟩
    obtain ⟨a', is, g1, g2, g3⟩ := TysO.thaw h1 (fun t ht => hu t (by rw [Ty.pre_eq]; exact List.mem_cons_of_mem _ ht)) (e + 7) (by omega)
    obtain ⟨u', js, g4, g5, g6⟩ := h2.thaw (fun v hv => hu (.mk k n s as us) (by rw [Ty.pre_eq]; exact List.mem_cons_self) v hv) (e + 5)
    refine ⟨[.int .i64 k, .int .i64 n, .str s, a', u'], is ++ js, ?_, .mk k n s a' u' as us g2 g5, by
      simp only [List.all_cons, List.all_nil, g3, g6, Bool.and_true]
      rfl⟩
    rw [thawL_cons, thawL_cons, thawL_cons, thawL_cons, thawL_cons, thawL_nil, thaw_int, thaw_int, thaw_str, g1, g4]
    simp [thawCons]
theorem TysO.thaw : ∀ {v : PV} {ts : List Ty}, TysO ok H v ts → (∀ s ∈ Ty.pres ts, ∀ u ∈ s.units, flat u = true ∧ PV.sameF 1000 u u = true) → ∀ d, Ty.csts ts ≤ d → ∃ y is, thaw false H (d + 1) v = some (y, is) ∧ TysR y ts ∧ flat y = true
  | _, _, .nil, _, d, _ => ⟨.nils, [], rfl, .nil, rfl⟩
  | _, _, .view id v rows ts h1 h2 h3, hu, d, hd => by
    obtain ⟨ver, rest, rfl, hH⟩ := h2
    obtain ⟨ys, is, g1, g2⟩ := TyLO.thaw h3 hu d hd
    refine ⟨.data 5 ys .part, id :: is, ?_, .data ys ts .part g2, rfl⟩
    have e : (List.drop 0 (rows ++ rest)).take rows.length = rows := by simp
    simp only [thaw, hH, e, g1]
    simp
theorem TyLO.thaw : ∀ {xs : List (List PV)} {ts : List Ty}, TyLO ok H xs ts → (∀ s ∈ Ty.pres ts, ∀ u ∈ s.units, flat u = true ∧ PV.sameF 1000 u u = true) → ∀ d, Ty.csts ts ≤ d → ∃ ys is, thawLL false H d xs = some (ys, is) ∧ TyLR ys ts
  | _, _, .nil, _, d, hd => by
    simp only [Ty.csts] at hd
    obtain ⟨e, rfl⟩ : ∃ e, d = e + 1 := ⟨d - 1, by omega⟩
    exact ⟨[], [], by simp [thawLL], .nil⟩
  | _, _, .cons x xs t ts h1 h2, hu, d, hd => by
    simp only [Ty.csts] at hd
    have hc : 0 < t.cst := by cases t; simp only [Ty.cst]; omega
    obtain ⟨e, rfl⟩ : ∃ e, d = e + 2 := ⟨d - 2, by omega⟩
    obtain ⟨y, is, g1, g2, _⟩ := TyO.thaw h1 (fun s hs => hu s (List.mem_append_left _ hs)) (e + 1) (by omega)
    obtain ⟨ys, js, g3, g4⟩ := TyLO.thaw h2 (fun s hs => hu s (List.mem_append_right _ hs)) (e + 1) (by omega)
    obtain ⟨ks, g5⟩ := thawLL_cons g1 g3
    exact ⟨y :: ys, ks, g5, .cons _ _ _ _ g2 g4⟩
end
end
inductive BdR : List (List PV) → List (Nat × Ty) → Prop
  | nil : BdR [] []
  | cons (k : Nat) (x : List PV) (xs : List (List PV)) (t : Ty) (ts : List (Nat × Ty)) : TyR x t → x.all flat = true → BdR xs ts → BdR ((.int .i64 k :: x) :: xs) ((k, t) :: ts)
def BsR (v : PV) (bs : List (Nat × Ty)) : Prop := (v = .nils ∧ bs = []) ∨ ∃ rows, v = .data 6 rows .part ∧ BdR rows bs
theorem BdO.thaw {ok : Nat → Prop} {H : Heap} {c : Nat} : ∀ {xs : List (List PV)} {bs : List (Nat × Ty)}, BdO ok H xs bs → (∀ b ∈ bs, UnitsOk b.2 ∧ b.2.cst ≤ c) → ∀ d, bs.length + c + 9 ≤ d → ∃ ys is, thawLL false H d xs = some (ys, is) ∧ BdR ys bs
  | _, _, .nil, _, d, hd => by
    obtain ⟨e, rfl⟩ : ∃ e, d = e + 1 := ⟨d - 1, by omega⟩
    exact ⟨[], [], by simp [thawLL], .nil⟩
  | _, _, .cons k x xs t ts h1 h2, hu, d, hd => by
    simp only [List.length_cons] at hd
    obtain ⟨e, rfl⟩ : ∃ e, d = e + 9 := ⟨d - 9, by omega⟩
    obtain ⟨q1, q2⟩ := hu (k, t) (by simp)
    simp only at q1 q2
    obtain ⟨y, is, g1, g2, g7⟩ := h1.thaw q1 (e + 7) (by omega)
    obtain ⟨ys, js, g3, g4⟩ := BdO.thaw h2 (fun b hb => hu b (List.mem_cons_of_mem _ hb)) (e + 8) (by omega)
    have g6 : thawL false H (e + 7 + 1) (.int .i64 k :: x) = some (.int .i64 k :: y, is) := by
      have : thawL false H (e + 5 + 3) (.int .i64 k :: x) = _ := thawL_cons false H (e + 5) _ _
      rw [show e + 7 + 1 = e + 5 + 3 from rfl, this, thaw_int, show e + 5 + 2 = e + 7 from rfl, g1]
      simp [thawCons]
    obtain ⟨ks, g5⟩ := thawLL_cons g6 g3
    exact ⟨(.int .i64 k :: y) :: ys, ks, g5, .cons _ _ _ _ _ g2 g7 g4⟩
theorem BsO.thaw {lo n : Nat} {H : Heap} {v : PV} {bs : List (Nat × Ty)} {c : Nat} (h : BsO lo n H v bs) (hu : ∀ b ∈ bs, UnitsOk b.2 ∧ b.2.cst ≤ c) (d : Nat) (hd : bs.length + c + 9 ≤ d) : ∃ y is, Vm.thaw false H (d + 1) v = some (y, is) ∧ BsR y bs := by
  rcases h with ⟨rfl, rfl⟩ | ⟨id, rows, ⟨ver, rest, rfl, hH⟩, _, _, hr⟩
  · exact ⟨.nils, [], rfl, .inl ⟨rfl, rfl⟩⟩
  · obtain ⟨ys, is, g1, g2⟩ := hr.thaw hu d hd
    refine ⟨.data 6 ys .part, id :: is, ?_, .inr ⟨ys, rfl, g2⟩⟩
    have e : (List.drop 0 (rows ++ rest)).take rows.length = rows := by simp
    simp only [Vm.thaw, hH, e, g1]
    simp
theorem told_thaw {lo n : Nat} {H : Heap} {v : PV} {bs : List (Nat × Ty)} {c : Nat} (h : BsO lo n H v bs) (hu : ∀ b ∈ bs, UnitsOk b.2 ∧ b.2.cst ≤ c) (hd : bs.length + c ≤ 4000) (e : Int) : ∃ y, thawFst (thaw false H 4096 (.tup [.agg [v, .nils], .int .i64 e])) = some (.tup [.agg [y, .nils], .int .i64 e]) ∧ BsR y bs := by
  obtain ⟨y, is, g1, g2⟩ := h.thaw hu 4091 (by omega)
  refine ⟨y, ?_, g2⟩
  have g0 : thaw false H (4090 + 2) v = some (y, is) := g1
  rw [thaw_tup, thawL_cons, thaw_agg, thawL_cons, g0, thawL_cons]
  rfl
def findB : List (Nat × Ty) → Nat → Option Ty
  | [], _ => none
  | b :: bs, n => if b.1 = n then some b.2 else findB bs n
theorem findB_app (a b : List (Nat × Ty)) (n : Nat) : findB (a ++ b) n = (findB a n).or (findB b n) := by
  induction a with
  | nil => rfl
  | cons x a ih =>
    simp only [List.cons_append, findB]
    split
    · rfl
    · exact ih
theorem BdR.len {xs : List (List PV)} {bs : List (Nat × Ty)} (h : BdR xs bs) : xs.length = bs.length := by
  induction h with
  | nil => rfl
  | cons k x xs t ts _ _ _ ih => simp [ih]
theorem BdR.at_ {xs : List (List PV)} {bs : List (Nat × Ty)} (h : BdR xs bs) : ∀ i, (hi : i < bs.length) → ∃ x, xs[i]? = some (.int .i64 bs[i].1 :: x) ∧ TyR x bs[i].2 ∧ x.all flat = true := by
  induction h with
  | nil => intro i hi; simp at hi
  | cons k x xs t ts h1 h2 _ ih =>
    intro i hi
    cases i with
    | zero => exact ⟨x, rfl, h1, h2⟩
    | succ i => simpa using ih i (by simpa using hi)
theorem at_loop {rows : List (List PV)} {bs : List (Nat × Ty)} (hb : BdR rows bs) (hl : bs.length < 1000000) (m : Nat) : ∀ (d i : Nat) (x4 x5 : PV), bs.length - i = d → i ≤ bs.length →
    (findB (bs.drop i) m = none ∧ ∃ y5, codeL Gf (.loop B_32_0) ⟨[.data 6 rows .part, .int .i64 m, .ptr 0 0 5 0 0, .int .i64 i, x4, x5], Heap.set [] 0 (.arr 0 5 [[.int .i64 0, .int .i64 0, .str ⟨#[]⟩, .nils, .nils]]), 1⟩ =
        some (.exit 0, ⟨[.data 6 rows .part, .int .i64 m, .ptr 0 0 5 0 0, .int .i64 bs.length, .bool false, y5], Heap.set [] 0 (.arr 0 5 [[.int .i64 0, .int .i64 0, .str ⟨#[]⟩, .nils, .nils]]), 1⟩)) ∨
    (∃ (t : Ty) (row : List PV) (T : List PV), findB (bs.drop i) m = some t ∧ TyR row t ∧ row.all flat = true ∧ codeL Gf (.loop B_32_0) ⟨[.data 6 rows .part, .int .i64 m, .ptr 0 0 5 0 0, .int .i64 i, x4, x5], Heap.set [] 0 (.arr 0 5 [[.int .i64 0, .int .i64 0, .str ⟨#[]⟩, .nils, .nils]]), 1⟩ =
        some (.ret, ⟨[.data 6 rows .part, .int .i64 m, .ptr 0 0 5 0 0] ++ T, Heap.set [] 0 (.arr 0 5 [row]), 1⟩)) := by
  intro d
  have hlen : ∀ H n, lenX .slice H n (.data 6 rows .part) = some ⟨.int .i64 (bs.length : Nat), H, n, .no⟩ := fun H n => by simp [lenX, hb.len]
  induction d with
  | zero =>
    intro i x4 x5 hd hi
    have e : i = bs.length := by omega
    subst e
    refine .inl ⟨by simp [findB], x5, codeL_loop_end ?_ (by simp)⟩
    simp (disch := omega) only [go_sem, B_32_0, hlen]
  | succ d ih =>
    intro i x4 x5 hd hi
    have hil : i < bs.length := by omega
    obtain ⟨x, hx, hR, hfl⟩ := hb.at_ i hil
    obtain ⟨a, u, hrow, hta, hus⟩ := id hR.five
    have ca := tys_cells hta
    have cu := us_cells hus
    have hix := idxAddr_data 6 rows .part .i64 i _ hx
    have hdr : bs.drop i = bs[i] :: bs.drop (i + 1) := List.drop_eq_getElem_cons hil
    by_cases hk : bs[i].1 = m
    · refine .inr ⟨bs[i].2, x, [.int .i64 i, .bool true, .bool true], by rw [hdr]; simp [findB, hk], hR, hfl, codeL_loop_end ?_ (by simp)⟩
      subst hrow
      have hb : ((bs[i].1 : Int) == (m : Int)) = true := by simp [hk]
      simp (disch := omega) only [go_sem, Nat.reduceAdd, Nat.reduceLeDiff, B_32_0, hlen, hix, hb, get_same, List.cons_append, List.nil_append]
    · have hf : findB (bs.drop i) m = findB (bs.drop (i + 1)) m := by rw [hdr]; simp [findB, hk]
      have hb : ((bs[i].1 : Int) == (m : Int)) = false := by
        simp only [beq_eq_false_iff_ne]; omega
      have hstep : ∀ x4 x5, codeL Gf B_32_0 ⟨[.data 6 rows .part, .int .i64 m, .ptr 0 0 5 0 0, .int .i64 i, x4, x5], Heap.set [] 0 (.arr 0 5 [[.int .i64 0, .int .i64 0, .str ⟨#[]⟩, .nils, .nils]]), 1⟩ =
          some (.normal, ⟨[.data 6 rows .part, .int .i64 m, .ptr 0 0 5 0 0, .int .i64 (i + 1 : Nat), .bool true, .bool false], Heap.set [] 0 (.arr 0 5 [[.int .i64 0, .int .i64 0, .str ⟨#[]⟩, .nils, .nils]]), 1⟩) := by
        intro x4 x5
        subst hrow
        simp (disch := omega) only [go_sem, B_32_0, hlen, hix, hb, cast_add1]
      rw [hf, codeL_loop_iff (hstep x4 x5)]
      exact ih (i + 1) (.bool true) (.bool false) (by rw [Nat.sub_add_eq, hd]; rfl) hil
theorem at_run {rows : List (List PV)} {bs : List (Nat × Ty)} (hb : BdR rows bs) (hl : bs.length < 1000000) {m : Nat} {t : Ty} (hf : findB bs m = some t) : ∃ row, pureV Gf 32 [.data 6 rows .part, .int .i64 m] = some (.agg row) ∧ TyR row t ∧ row.all flat = true := by
  rcases at_loop hb hl m bs.length 0 (.tup []) (.tup []) rfl (Nat.zero_le _) with ⟨h, _⟩ | ⟨t', row, T, h1, h2, h4, h3⟩
  · rw [List.drop_zero] at h; rw [h] at hf; cases hf
  · rw [List.drop_zero, hf] at h1
    cases h1
    refine ⟨row, ?_, h2, h4⟩
    rw [show ((0 : Nat) : Int) = 0 from rfl] at h3
    obtain ⟨a, u, hrow, _⟩ := id h2.five
    subst hrow
    simp only [List.cons_append, List.nil_append] at h3
    have ht : ∀ H, thaw false H 4096 (.agg [.int .i64 t.kind, .int .i64 t.num, .str t.name, a, u]) = some (.agg [.int .i64 t.kind, .int .i64 t.num, .str t.name, a, u], []) := fun H => by
      rw [thaw_agg, thawL_all _ _ _ _ h4]; rfl
    rw [pureV_eq, R_32]
    simp (disch := omega) only [go_sem, Nat.reduceAdd, G_32, h3, get_same, ht]
theorem put_run {rows : List (List PV)} {bs : List (Nat × Ty)} (hb : BdR rows bs) (hl : bs.length < 1000000) {m : Nat} {t : Ty} (hf : findB bs m = some t) : ∃ row, pureV Gf 13 [.agg (vrow m), .agg [.data 6 rows .part, .nils]] = some (.agg row) ∧ TyR row t ∧ row.all flat = true := by
  obtain ⟨row, e, h1, h2⟩ := at_run hb hl hf
  refine ⟨row, ?_, h1, h2⟩
  obtain ⟨a, u, hrow, hta, hus⟩ := id h1.five
  have ca := tys_cells hta
  have cu := us_cells hus
  subst hrow
  have ht : ∀ H, thaw false H 4096 (.agg [.int .i64 t.kind, .int .i64 t.num, .str t.name, a, u]) = some (.agg [.int .i64 t.kind, .int .i64 t.num, .str t.name, a, u], []) := fun H => by
    rw [thaw_agg, thawL_all _ _ _ _ h2]; rfl
  rw [pureV_eq, R_13]
  simp (disch := omega) only [go_sem, Nat.reduceAdd, Nat.reduceLeDiff, G_13, get_same, get_other, e, ht]
def Ty.nodes (t : Ty) : Nat := t.pre.length
def nodesL (ts : List Ty) : Nat := (Ty.pres ts).length
theorem nodes_mk (k n : Int) (s : ByteArray) (as : List Ty) (us : List PV) : (Ty.mk k n s as us).nodes = nodesL as + 1 := by simp [Ty.nodes, Ty.pre, nodesL]
theorem nodesL_cons (t : Ty) (ts : List Ty) : nodesL (t :: ts) = t.nodes + nodesL ts := by simp [Ty.nodes, Ty.pres, nodesL]
theorem nodes_loop {a u : PV} {k m : Int} {s : ByteArray} {as : List Ty} (ha : TysR a as) (hs : ∀ t ∈ as, ∀ row, TyR row t → pureV Gf 31 [.agg row] = some (.int .i64 t.nodes)) (hl : as.length < 1000000) (x0 : PV) :
    ∀ (d i acc : Nat) (x5 : PV), as.length - i = d → i ≤ as.length → acc + nodesL (as.drop i) < 1000000 →
      codeL Gf (.loop B_31_0) ⟨[x0, .ptr 0 0 5 0 0, .int .i64 0, .int .i64 acc, .int .i64 i, x5], Heap.set [] 0 (.arr 0 5 [[.int .i64 k, .int .i64 m, .str s, a, u]]), 1⟩ =
        some (.exit 0, ⟨[x0, .ptr 0 0 5 0 0, .int .i64 0, .int .i64 (acc + nodesL (as.drop i) : Nat), .int .i64 as.length, .bool false], Heap.set [] 0 (.arr 0 5 [[.int .i64 k, .int .i64 m, .str s, a, u]]), 1⟩) := by
  intro d
  have hlen := tys_len ha
  induction d with
  | zero =>
    intro i acc x5 hd hi hb
    have e : i = as.length := by omega
    subst e
    rw [List.drop_length]
    refine codeL_loop_end ?_ (by simp)
    simp (disch := omega) only [go_sem, B_31_0, get_same, hlen, show nodesL [] = 0 from rfl, Nat.add_zero]
  | succ d ih =>
    intro i acc x5 hd hi hb
    have hil : i < as.length := by omega
    have hdr : as.drop i = as[i] :: as.drop (i + 1) := List.drop_eq_getElem_cons hil
    rw [hdr, nodesL_cons] at hb ⊢
    have := ih (i + 1) (acc + as[i].nodes) (.bool true) (by rw [Nat.sub_add_eq, hd]; rfl) hil (by omega)
    rw [Nat.add_assoc] at this
    rw [← this]
    refine codeL_loop_iff ?_
    cases ha with
    | nil => simp at hil
    | data xs ts fl hx =>
      obtain ⟨row, hr, hR⟩ := hx.at i hil
      have hix := idxAddr_data 5 xs fl .i64 i _ hr
      have e31 := hs as[i] (List.getElem_mem _) row hR
      have htw := fun H => thaw_row hR H
      obtain ⟨a1, u1, hrow, hta, hus⟩ := id hR.five
      have ca := tys_cells hta
      have cu := us_cells hus
      subst hrow
      simp (disch := omega) only [go_sem, B_31_0, get_same, hlen, hix, htw, e31, cast_addN, cast_add1]
theorem nodes_run : ∀ (c : Nat) (t : Ty), t.size ≤ c → t.nodes < 1000000 → ∀ row, TyR row t → pureV Gf 31 [.agg row] = some (.int .i64 t.nodes) := by
  intro c
  induction c with
  | zero => intro t h; have := t.size_pos; omega
  | succ c ih =>
    intro t hc hn row hR
    obtain ⟨k, m, s, as, us⟩ := t
    obtain ⟨a, u, hrow, hta, hus⟩ := id hR.five
    have ca := tys_cells hta
    have cu := us_cells hus
    simp only [Ty.args, Ty.kind, Ty.num, Ty.name] at hta hrow
    rw [nodes_mk] at hn ⊢
    have hlen : ∀ ts : List Ty, ts.length ≤ nodesL ts := fun ts => by
      induction ts with
      | nil => simp
      | cons t ts ih =>
        rw [nodesL_cons, List.length_cons]
        have : 0 < t.nodes := by rw [Ty.nodes, Ty.pre_eq]; simp
        omega
    have hmem : ∀ (ts : List Ty), ∀ t ∈ ts, t.nodes ≤ nodesL ts := fun ts => by
      induction ts with
      | nil => intro t ht; simp at ht
      | cons x ts ih =>
        intro t ht
        rw [nodesL_cons]
        rcases List.mem_cons.1 ht with rfl | ht
        · omega
        · have := ih t ht; omega
    have hll := hlen as
    have e := nodes_loop (u := u) (k := k) (m := m) (s := s) hta (fun t ht row h => ih t (by have := Ty.size_mem ht; simp only [Ty.size] at hc; omega) (by have := hmem as t ht; omega) row h) (by omega) (.agg row) as.length 0 1 (.tup []) rfl (Nat.zero_le _) (by rw [List.drop_zero]; omega)
    rw [List.drop_zero, show ((0 : Nat) : Int) = 0 from rfl, show ((1 : Nat) : Int) = 1 from rfl, Nat.add_comm 1] at e
    rw [pureV_eq, R_31]
    subst hrow
    simp (disch := omega) only [go_sem, Nat.reduceAdd, G_31, e]
theorem size_of {t : Ty} (hn : t.nodes < 1000000) {row : List PV} (hR : TyR row t) : pureV Gf 12 [.agg row] = some (.int .i64 t.nodes) := by
  have e := nodes_run t.size t (Nat.le_refl _) hn row hR
  have htw := fun H => thaw_row hR H
  obtain ⟨a, u, hrow, hta, hus⟩ := id hR.five
  have ca := tys_cells hta
  have cu := us_cells hus
  subst hrow
  rw [pureV_eq, R_12]
  simp (disch := omega) only [go_sem, Nat.reduceAdd, G_12, get_same, htw, e]
section
variable {l : List Nat} {n len : Nat} {ts : List Nat} {leaf : Int → Nat} {D : Nat → Nd} {A : Nat → List Nat} {U : Nat → List PV} {R : Nat → Nat} {sz : Nat → Nat × Nat} {sd : Nat → Nat} {val : Nat → Ty}
theorem root_zero (hU : Uni (psX l false n) ts leaf len D A U R) (hm : ∀ k, k ∈ l ↔ k < n) (hleaf : ∀ x : Nat, x ≤ n → leaf x < ts.length ∧ ts.getD (leaf x) 0 = x) : (D (R (leaf (0 : Nat)))).kind = 1 := by
  have h0 := (hleaf 0 (Nat.zero_le _)).1
  have hl := hU.hl
  have key : ∀ c : Int, (D (R (leaf (0 : Nat)))).kind ≠ 1 → (D (R (leaf (0 : Nat)))).kind = c := fun c hk => by
    obtain ⟨v, hv, hr⟩ := hU.min _ (chain_solves c hm (fun x hx => (hleaf x hx).2))
    have h1 := hr (leaf (0 : Nat)) (by omega)
    rw [hv.var _ (by omega) (hU.hD _ h0), (hleaf 0 (Nat.zero_le _)).2, hv.node _ (hU.lt _ (by omega)) hk] at h1
    simp only [dT, Ty.mk.injEq] at h1
    exact h1.1
  by_cases hk : (D (R (leaf (0 : Nat)))).kind = 1
  · exact hk
  · have h3 := key 3 hk
    have h4 := key 4 hk
    rw [h3] at h4
    exact absurd h4 (by decide)
theorem few_size (hU : Uni (psX l false n) ts leaf len D A U R) (hm : ∀ k, k ∈ l ↔ k < n) (hleaf : ∀ x : Nat, x ≤ n → leaf x < ts.length ∧ ts.getD (leaf x) 0 = x) (hsz : ∀ r, Fin' A R r → sz r = szStep A R U sz r) : ∀ k, k ≤ n → sz (R (leaf k)) = (gg k, 0)
  | 0, h => by
    have h0 := (hleaf 0 h).1
    have hl := hU.hl
    have hr := hU.lt (leaf (0 : Nat)) (by omega)
    have hA : A (R (leaf (0 : Nat))) = [] := hU.hA _ (by
      by_cases hc : R (leaf (0 : Nat)) < ts.length
      · exact hc
      · exact absurd (root_zero hU hm hleaf) (hU.nk _ (by omega) hr))
    rw [hsz _ (hU.fin _ h0), szStep, hA, hU.hU _ hr]
    rfl
  | k + 1, h => by
    have ih := few_size hU hm hleaf hsz k (by omega)
    have h0 := (hleaf (k + 1) h).1
    have hl := hU.hl
    obtain ⟨a, b, h1, h2, h3, _, h5⟩ := chain_at hU ((hm k).2 (by omega))
    rw [hsz _ (hU.fin _ h0), szStep, h1, hU.hU _ (hU.lt _ h5)]
    simp only [szAdd, h2, h3, ih, gg, List.length_nil]
    simp
theorem few_val (hU : Uni (psX l false n) ts leaf len D A U R) (hm : ∀ k, k ∈ l ↔ k < n) (hleaf : ∀ x : Nat, x ≤ n → leaf x < ts.length ∧ ts.getD (leaf x) 0 = x)
    (hv1 : ∀ r, Fin' A R r → (D r).kind = 1 → val r = .mk 1 (sd r : Nat) ⟨#[]⟩ [] []) (hv2 : ∀ r, Fin' A R r → (D r).kind ≠ 1 → val r = .mk (D r).kind (D r).num (D r).name ((A r).map fun a => val (R a)) ((U r).map id)) :
    ∀ k, k ≤ n → (val (R (leaf k))).nodes + 1 = 2 ^ (k + 1) ∧ 1002 ≤ (val (R (leaf k))).cst ∧ (val (R (leaf k))).cst ≤ 1010 + 10 * k ∧ UnitsOk (val (R (leaf k)))
  | 0, h => by
    rw [hv1 _ (hU.fin _ (hleaf 0 h).1) (root_zero hU hm hleaf)]
    refine ⟨by rw [nodes_mk]; rfl, by simp [Ty.cst, Ty.csts], by simp [Ty.cst, Ty.csts], fun s hs u hu => ?_⟩
    simp only [Ty.pre, Ty.pres, List.mem_singleton] at hs
    subst hs
    simp [Ty.units] at hu
  | k + 1, h => by
    obtain ⟨i1, i2, i3, i4⟩ := few_val hU hm hleaf hv1 hv2 k (by omega)
    obtain ⟨a, b, h1, h2, h3, h4, h5⟩ := chain_at hU ((hm k).2 (by omega))
    rw [hv2 _ (hU.fin _ (hleaf (k + 1) h).1) (by rw [h4]; decide), h1, hU.hU _ (hU.lt _ h5)]
    simp only [List.map_cons, List.map_nil, h2, h3]
    generalize val (R (leaf k)) = T at i1 i2 i3 i4
    refine ⟨?_, by simp only [Ty.cst, Ty.csts, List.length_nil]; omega, by simp only [Ty.cst, Ty.csts, List.length_nil]; omega, fun s hs u hu => ?_⟩
    · rw [nodes_mk, nodesL_cons, nodesL_cons, show nodesL [] = 0 from rfl, Nat.pow_succ 2 (k + 1)]
      omega
    · simp only [Ty.pre, Ty.pres, List.append_nil, List.mem_cons, List.mem_append] at hs
      rcases hs with rfl | hs | hs
      · simp [Ty.units] at hu
      · exact i4 s hs u hu
      · exact i4 s hs u hu
theorem bsUp_mem : ∀ t b, b ∈ bsUp D R sd ts val t → ∃ j, j < t ∧ b = (ts.getD j 0, val (R j))
  | 0, b, h => by simp [bsUp] at h
  | t + 1, b, h => by
    simp only [bsUp, List.mem_append] at h
    rcases h with h | h
    · obtain ⟨j, h1, h2⟩ := bsUp_mem t b h
      exact ⟨j, by omega, h2⟩
    · split at h
      · simp at h
      · simp at h
        exact ⟨t, by omega, h⟩
theorem bsUp_find {j m : Nat} (hsk : skipB D R sd ts j = false) (hj : ts.getD j 0 = m) (hun : ∀ t, t < ts.length → ts.getD t 0 = m → t = j) : ∀ t, t ≤ ts.length → (t ≤ j → findB (bsUp D R sd ts val t) m = none) ∧ (j < t → findB (bsUp D R sd ts val t) m = some (val (R j)))
  | 0, _ => ⟨fun _ => rfl, fun h => by omega⟩
  | t + 1, ht => by
    obtain ⟨h1, h2⟩ := bsUp_find hsk hj hun t (by omega)
    simp only [bsUp, findB_app]
    refine ⟨fun h => ?_, fun h => ?_⟩
    · rw [h1 (by omega)]
      have hne : ts.getD t 0 ≠ m := fun e => by have := hun t (by omega) e; omega
      split
      · rfl
      · simp only [findB, if_neg hne, Option.none_or]
    · by_cases e : j = t
      · subst e
        rw [h1 (Nat.le_refl _), hsk]
        simp only [Bool.false_eq_true, if_false, findB, hj, if_true, Option.none_or]
      · rw [h2 (by omega)]; rfl
theorem dbl_few (hm : ∀ k, k ∈ l ↔ k < n) (hll : l.length = n) (h1 : 1 ≤ n) (h2 : n ≤ 7) :
    ∃ (rows : List (List PV)) (row : List PV) (t : Ty), pureV Gf 9 [.data 10 (xsX l false n) .tmp, .nils, .int .i64 0] = some (.tup [.agg [.data 6 rows .part, .nils], .int .i64 0]) ∧ pureV Gf 13 [.agg (vrow n), .agg [.data 6 rows .part, .nils]] = some (.agg row) ∧ TyR row t ∧ row.all flat = true ∧
      pureV Gf 12 [.agg row] = some (.int .i64 (2 ^ (n + 1) - 1 : Nat)) := by
  obtain ⟨ts, leaf, hnd, hts, hleaf, ⟨H', n', he, hno⟩ | ⟨len, D, A, U, R, sz, sd, val, hU, hsz, hsd, hv1, hv2, hout⟩⟩ := dbl_uni (e := false) hm hll h1 (by omega)
  · exact absurd ⟨_, chain_solves 3 hm (fun x hx => (leaf_at hts hleaf x hx).2)⟩ hno
  · have hla := leaf_at hts hleaf
    have hidx : ∀ j, j < ts.length → ts.getD j 0 ≤ n ∧ leaf (ts.getD j 0 : Nat) = j := fun j hj => by
      have e : ts.getD j 0 = ts[j] := by simp [hj]
      rw [e]
      exact ⟨(hts _).1 (List.getElem_mem _), hleaf j hj⟩
    have hle := nodup_few (n + 1) ts hnd (fun x h => by have := (hts x).1 h; omega)
    rcases hout with ⟨H', n', lo, mv, he, hbs, _⟩ | ⟨H', n', _, j, hj, _, hlg⟩
    · have hP := few_val hU hm hla hv1 hv2
      obtain ⟨y, g1, g2⟩ := told_thaw (c := 1080) hbs (fun b hb => by
        obtain ⟨j, hj, rfl⟩ := bsUp_mem _ _ hb
        obtain ⟨a1, a2⟩ := hidx j hj
        obtain ⟨_, _, q3, q4⟩ := hP _ a1
        rw [a2] at q3 q4
        exact ⟨q4, by simp only; omega⟩) (by have := bsUp_len D R sd ts val ts.length; omega) 0
      obtain ⟨b1, b2⟩ := hla n (Nat.le_refl _)
      have hsk : skipB D R sd ts (leaf n) = false := by
        obtain ⟨m, rfl⟩ : ∃ m, n = m + 1 := ⟨n - 1, by omega⟩
        obtain ⟨_, _, _, _, _, h4, _⟩ := chain_at hU ((hm m).2 (by omega))
        rw [skipB, h4]; rfl
      have hf := (bsUp_find (val := val) hsk b2 (fun t ht e => by have := (hidx t ht).2; rw [e] at this; exact this.symm) ts.length (Nat.le_refl _)).2 b1
      rcases g2 with ⟨_, e0⟩ | ⟨rows, rfl, hB⟩
      · rw [e0] at hf; cases hf
      · have hbl := bsUp_len D R sd ts val ts.length
        obtain ⟨row, e13, hR, hfl⟩ := put_run hB (by omega) hf
        obtain ⟨q1, _⟩ := hP n (Nat.le_refl _)
        have hp : 2 ^ (n + 1) ≤ 2 ^ 8 := Nat.pow_le_pow_right (by decide) (by omega)
        have hnn : (val (R (leaf n))).nodes = 2 ^ (n + 1) - 1 := by omega
        refine ⟨rows, row, _, ?_, e13, hR, hfl, ?_⟩
        · rw [pureV_eq, he, pureR_some]; exact g1
        · rw [size_of (by omega) hR, hnn]
    · exfalso
      obtain ⟨a1, a2⟩ := hidx j hj
      have hs := few_size hU hm hla hsz _ a1
      rw [a2] at hs
      rw [hs] at hlg
      have hg : ∀ x, x < 8 → gg x ≤ 256 := by decide
      exact hlg ⟨hg _ (by omega), by simp⟩
end
def daS (x0 x1 x2 x3 x4 x5 x6 x7 x8 x9 x10 x11 x12 x13 x14 : PV) : List PV := [x0, x1, x2, x3, x4, x5, x6, x7, x8, x9, x10, x11, x12, x13, x14]
theorem RowsN.keep {H H' : Heap} {n n' : Nat} {v : PV} {rows : List (List PV)} (h : RowsN H n v rows) (hk : ∀ id, id < n → H'.get id = H.get id) (hn : n ≤ n') : RowsN H' n' v rows := by
  rcases h with h | h | ⟨id, h1, h2⟩
  · exact .inl h
  · exact .inr (.inl h)
  · exact .inr (.inr ⟨id, by omega, h2.same (hk _ h1)⟩)
theorem full_app {rows m : List (List PV)} {H : Heap} {n : Nat} (rd : List Nat) (hm : m ≠ []) (hb : (rows.length + m.length) * 160 ≤ 140737488355328) : appendV 10 160 (.data 10 rows .full) m rd H n = some ⟨.view n 0 10 0 (rows.length + m.length) none, H.set n (.arr 0 10 (rows ++ m)), n + 1, ⟨rd, [n], false⟩⟩ := by
  have hb' : (rows.length + m.length) * 160 ≤ room := hb
  have he : m.isEmpty = false := by cases m <;> simp_all
  simp [appendV, he, hb']
theorem RowsN.back {H : Heap} {n : Nat} {v : PV} {rows : List (List PV)} (h : RowsN H n v rows) (row : List PV) (hb : rows.length < 1000000) :
    ∃ (v' : PV) (H' : Heap) (n' : Nat) (fp : Fp), appendV 10 160 v [row] [] H n = some ⟨v', H', n', fp⟩ ∧ RowsN H' n' v' (rows ++ [row]) ∧ n ≤ n' := by
  rcases h with ⟨rfl, rfl⟩ | rfl | ⟨id, h1, h2⟩
  · obtain ⟨v', H', n', w, e, g1, g2, _, g4, _⟩ := appOne (k := 10) (bytes := 160) (n := n) (H := H) (rows := []) row [] (.inl ⟨rfl, rfl⟩) (by simp)
    exact ⟨v', H', n', _, e, .inr (.inr ⟨w, g2, g1⟩), g4⟩
  · refine ⟨_, _, _, _, full_app [] (by simp) (by simp; omega), .inr (.inr ⟨n, by omega, 0, [], by simp, by rw [get_same]; simp⟩), by omega⟩
  · obtain ⟨v', H', n', w, e, g1, g2, _, g4, _⟩ := appOne (k := 10) (bytes := 160) row [] (.inr ⟨id, h2, h1⟩) (by omega)
    exact ⟨v', H', n', _, e, .inr (.inr ⟨w, g2, g1⟩), g4⟩
theorem RowsN.front {H : Heap} {n : Nat} {v : PV} {rows : List (List PV)} (h : RowsN H n v rows) (row : List PV) (hb : rows.length < 1000000) :
    ∃ (v' : PV) (H' : Heap) (n' : Nat) (fp : Fp), appendX 10 160 (.data 10 [row] .full) v H n = some ⟨v', H', n', fp⟩ ∧ RowsN H' n' v' (row :: rows) ∧ n ≤ n' := by
  have go : ∀ rd : List Nat, ∃ (v' : PV) (H' : Heap) (n' : Nat) (fp : Fp), appendV 10 160 (.data 10 [row] .full) rows rd H n = some ⟨v', H', n', fp⟩ ∧ RowsN H' n' v' (row :: rows) ∧ n ≤ n' := fun rd => by
    cases rows with
    | nil => exact ⟨.data 10 [row] .full, H, n, ⟨rd, [], false⟩, by simp [appendV], .inr (.inl rfl), Nat.le_refl _⟩
    | cons r rows =>
      refine ⟨_, _, _, _, full_app rd (by simp) (by simp only [List.length_cons, List.length_nil] at hb ⊢; omega), .inr (.inr ⟨n, by omega, 0, [], by simp; omega, by rw [get_same]; simp⟩), by omega⟩
  rcases h with ⟨rfl, rfl⟩ | rfl | ⟨id, h1, ver, rest, rfl, hH⟩
  · obtain ⟨v', H', n', fp, e, g⟩ := go []
    exact ⟨v', H', n', fp, by rw [← e]; simp [appendX], g⟩
  · obtain ⟨v', H', n', fp, e, g⟩ := go []
    exact ⟨v', H', n', fp, by rw [← e]; simp [appendX, elems, appElems], g⟩
  · obtain ⟨v', H', n', fp, e, g⟩ := go [id]
    have el : elems H (.view id ver 10 0 rows.length none) = some (10, rows, [id]) := by simp [elems, hH]
    exact ⟨v', H', n', fp, by rw [← e]; simp [appendX, el, appElems], g⟩
theorem ordL_len (e : Bool) (n : Nat) : (ordL e n).length = n := by cases e <;> simp [ordL]
theorem ordL_mem (e : Bool) (n k : Nat) : k ∈ ordL e n ↔ k < n := by cases e <;> simp [ordL]
theorem ordL_true (n : Nat) (fl : Fl) : rowsF fl (ordL true (n + 1)) = rowsF fl (ordL true n) ++ [vrow (n + 1) ++ trow n fl] := by
  simp [ordL, rowsF, List.range_succ]
theorem ordL_false (n : Nat) (fl : Fl) : rowsF fl (ordL false (n + 1)) = (vrow (n + 1) ++ trow n fl) :: rowsF fl (ordL false n) := by
  simp [ordL, rowsF, List.range_succ]
theorem pairs_loop3 {zs : List (List PV)} {fl : Fl} {i n : Nat} {x : Int} {e : Bool} (hz : zs[i]? = some [.int .i64 x]) (he : (x.tmod 2 == 0) = e) (hn : n ≤ 400) {x1 x7 x8 x9 x10 x13 x14 : PV} :
    ∀ (d k : Nat) (H : Heap) (m : Nat) (acc x6 x11 x12 : PV), n - k = d → k ≤ n → RowsN H m acc (rowsF .full (ordL e k)) →
      ∃ (H' : Heap) (m' : Nat) (acc' y6 y12 : PV), codeL Gf (.loop B_3_0) ⟨daS (.data 1 zs fl) x1 (.int .i64 i) (.int .i64 n) acc (.int .i64 k) x6 x7 x8 x9 x10 x11 x12 x13 x14, H, m⟩ =
          some (.exit 2, ⟨daS (.data 1 zs fl) x1 (.int .i64 i) (.int .i64 n) acc' (.int .i64 n) y6 x7 x8 x9 x10 (.bool false) y12 x13 x14, H', m'⟩) ∧ RowsN H' m' acc' (rowsF .full (ordL e n)) ∧ m ≤ m' := by
  intro d
  induction d with
  | zero =>
    intro k H m acc x6 x11 x12 hd hk hr
    have : k = n := by omega
    subst this
    refine ⟨H, m, acc, x6, x12, codeL_loop_end ?_ (by simp), hr, Nat.le_refl _⟩
    simp (disch := omega) only [go_sem, B_3_0, daS]
  | succ d ih =>
    intro k H m acc x6 x11 x12 hd hk hr
    have hkn : k < n := by omega
    generalize hH1 : H.set m (.arr 0 10 [vrow (k + 1) ++ trow k .full]) = H1
    have hm1 : H1.get m = some (.arr 0 10 [vrow (k + 1) ++ trow k .full]) := by rw [← hH1, get_same]
    have hr1 := hr.keep (H' := H1) (n' := m + 1) (fun id hid => by rw [← hH1]; exact get_other _ _ (by omega)) (by omega)
    have hlen : (rowsF .full (ordL e k)).length < 1000000 := by rw [rowsF_len, ordL_len]; omega
    have hix := idxAddr_data 1 zs fl .i64 i _ hz
    have vr1 := v_run (k + 1)
    have vr0 := v_run k
    simp only [List.cons_append, List.nil_append] at hH1 hm1
    cases e with
    | true =>
      obtain ⟨v', H2, n2, fp, ea, hr2, ln2⟩ := hr1.back (vrow (k + 1) ++ trow k .full) hlen
      rw [← ordL_true] at hr2
      obtain ⟨H', m', acc', y6, y12, e1, g1, g2⟩ := ih (k + 1) H2 n2 v' (.ptr m 0 10 0 0) (.bool true) (.bool true) (by rw [Nat.sub_add_eq, hd]; rfl) hkn hr2
      refine ⟨H', m', acc', y6, y12, ?_, g1, by omega⟩
      rw [← e1]
      refine codeL_loop_iff ?_
      simp only [List.cons_append, List.nil_append] at ea
      simp (disch := omega) only [go_sem, Nat.reduceAdd, Nat.reduceLeDiff, Nat.reduceBEq, Nat.reduceLT, B_3_0, daS, cast_add1, vr1, vr0, get_same, hH1, hm1, hix, he, ea]
    | false =>
      obtain ⟨v', H2, n2, fp, ea, hr2, ln2⟩ := hr1.front (vrow (k + 1) ++ trow k .full) hlen
      rw [← ordL_false] at hr2
      obtain ⟨H', m', acc', y6, y12, e1, g1, g2⟩ := ih (k + 1) H2 n2 v' (.ptr m 0 10 0 0) (.bool true) (.bool false) (by rw [Nat.sub_add_eq, hd]; rfl) hkn hr2
      refine ⟨H', m', acc', y6, y12, ?_, g1, by omega⟩
      rw [← e1]
      refine codeL_loop_iff ?_
      simp only [List.cons_append, List.nil_append] at ea
      simp (disch := omega) only [go_sem, Nat.reduceAdd, Nat.reduceLeDiff, Nat.reduceBEq, Nat.reduceLT, B_3_0, daS, cast_add1, vr1, vr0, get_same, hH1, hm1, hix, he, ea]
theorem within_run (x : Int) : ∃ m : Nat, m < 400 ∧ pureV Gf 7 [.int .i64 x, .int .i64 400] = some (.int .i64 m) := by
  refine ⟨((x % 18446744073709551616) % 400).toNat, ?_, ?_⟩
  · omega
  · have h1 : 0 ≤ x % 18446744073709551616 := Int.emod_nonneg _ (by decide)
    have h2 := Int.emod_nonneg (x % 18446744073709551616) (show (400 : Int) ≠ 0 by decide)
    have h3 := Int.emod_lt_of_pos (x % 18446744073709551616) (show (0 : Int) < 400 by decide)
    have hb : binV .rem (.int .u64 (x % 18446744073709551616)) (.int .u64 400) = some (.int .u64 (x % 18446744073709551616 % 400)) := by
      simp [binV, intV, Int.tmod_eq_emod_of_nonneg h1]
    have hw : IntKind.u64.wrap 400 = 400 := wrapu64 (by decide) (by decide)
    have hc : ((x % 18446744073709551616 % 400).toNat : Int) = x % 18446744073709551616 % 400 := Int.toNat_of_nonneg h2
    rw [pureV_eq, R_7, hc]
    simp (disch := omega) only [go_sem, G_7, wrapu64_mod, hw, hb]
theorem shl_few : ∀ n : Nat, n ≤ 7 → binV .shl (.int .i64 1) (.int .i64 (n + 1 : Nat)) = some (.int .i64 (2 ^ (n + 1) : Nat))
  | 0, _ => rfl | 1, _ => rfl | 2, _ => rfl | 3, _ => rfl | 4, _ => rfl | 5, _ => rfl | 6, _ => rfl | 7, _ => rfl
  | n + 8, h => by omega
theorem flat_rowsF (l : List Nat) : (rowsF .part l).all (fun x => x.all flat) = true := by
  simp [rowsF, flat, Fl.isTmp]
theorem VW.flat {H : Heap} {k id : Nat} {v : PV} {xs : List (List PV)} (h : VW H k id v xs) : Vm.flat v = false := by
  obtain ⟨_, _, rfl, _⟩ := h; rfl
theorem first_run {e : Bool} {n : Nat} (h1 : 1 ≤ n) (h2 : n ≤ 400) : ∃ (mv : PV) (er : Int), mv.cells? = some [mv] ∧ pureV Gf 9 [.data 10 (rowsF .part (ordL e n)) .tmp, .nils, .int .i64 0] = some (.tup [.agg [mv, .nils], .int .i64 er]) ∧
    ((8 ≤ n ∧ er = 122) ∨ (n ≤ 7 ∧ er = 0 ∧ flat mv = true ∧ ∃ (row : List PV) (t : Ty), pureV Gf 13 [.agg (vrow n), .agg [mv, .nils]] = some (.agg row) ∧ TyR row t ∧ row.all flat = true ∧ pureV Gf 12 [.agg row] = some (.int .i64 (2 ^ (n + 1) - 1 : Nat)))) := by
  have hx : xsX (ordL e n) false n = rowsF .part (ordL e n) := by simp [xsX]
  by_cases h : n ≤ 7
  · obtain ⟨rows, row, t, g1, g2, g3, g4, g5⟩ := dbl_few (ordL_mem e n) (ordL_len e n) h1 h
    rw [hx] at g1
    exact ⟨.data 6 rows .part, 0, rfl, g1, .inr ⟨h, rfl, rfl, row, t, g2, g3, g4, g5⟩⟩
  · have g1 := dbl_many (ordL_mem e n) (ordL_len e n) (by omega) h2
    rw [hx] at g1
    exact ⟨.nils, 122, rfl, g1, .inl ⟨by omega, rfl⟩⟩
theorem second_run {e : Bool} {n : Nat} (h1 : 1 ≤ n) (h2 : n ≤ 400) : pureV Gf 9 [.data 10 (rowsF .part (ordL e n) ++ [[.int .i64 1, .int .i64 (0 : Nat), .str ⟨#[]⟩, .nils, .nils, .int .i64 1, .int .i64 n, .str ⟨#[]⟩, .nils, .nils]]) .tmp, .nils, .int .i64 0] = some (.tup [.agg [.nils, .nils], .int .i64 121]) := by
  have g1 := dbl_ring (ordL_mem e n) (ordL_len e n) h1 h2
  exact g1
theorem round_run {zs : List (List PV)} {fl : Fl} {i : Nat} {x : Int} (hz : zs[i]? = some [.int .i64 x]) (hi : i < zs.length) (h12 : i < 12) (x3 x4 x5 x6 x7 x8 x9 x10 x11 x12 x13 x14 : PV) (H : Heap) (m : Nat) :
    ∃ (H' : Heap) (m' : Nat) (y3 y4 y5 y6 y7 y8 y9 y10 y11 y12 y13 y14 : PV), codeL Gf B_3_1 ⟨daS (.data 1 zs fl) (.bool false) (.int .i64 i) x3 x4 x5 x6 x7 x8 x9 x10 x11 x12 x13 x14, H, m⟩ =
      some (.normal, ⟨daS (.data 1 zs fl) (.bool false) (.int .i64 (i + 1 : Nat)) y3 y4 y5 y6 y7 y8 y9 y10 y11 y12 y13 y14, H', m'⟩) := by
  have hix := idxAddr_data 1 zs fl .i64 i _ hz
  obtain ⟨k, hk, e7⟩ := within_run x
  have hn : (1 : Int) + (k : Int) = ((1 + k : Nat) : Int) := by simp
  generalize hnn : 1 + k = n at hn
  have h1 : 1 ≤ n := by omega
  have h2 : n ≤ 400 := by omega
  generalize he : (x.tmod 2 == 0) = e
  obtain ⟨H1, m1, acc, y6, y12, e5, hacc, lm1⟩ := pairs_loop3 (fl := fl) hz he h2 (x1 := .bool false) (x7 := x7) (x8 := x8) (x9 := x9) (x10 := .bool true) (x13 := x13) (x14 := x14) n 0 H m .nils x6 x11 x12 rfl (Nat.zero_le _) (.inl ⟨rfl, by cases e <;> rfl⟩)
  have hol : (ordL e n).length < 1000000 := by rw [ordL_len]; omega
  have hol0 : 0 < (ordL e n).length := by rw [ordL_len]; omega
  obtain ⟨H2, m2, v2, w2, ec1, lw2, lw2', hv2, hk2⟩ := copies_run hol hol0 hacc
  have ht2 := thaw_pairs hv2 (flat_rowsF _)
  obtain ⟨mv, er, cmv, e9, hcase⟩ := first_run (e := e) h1 h2
  generalize hH3 : H2.set m2 (.arr 0 2 [[mv, .nils]]) = H3
  have hm3 : H3.get m2 = some (.arr 0 2 [[mv, .nils]]) := by rw [← hH3, get_same]
  have hacc3 : RowsN H3 (m2 + 1) acc (rowsF .full (ordL e n)) := hacc.keep (fun id hid => by rw [← hH3, get_other _ _ (by omega), hk2 id hid]) (by omega)
  obtain ⟨H4, m4, v4, w4, ec2, lw4, lw4', hv4, hk4⟩ := copies_run hol hol0 hacc3
  obtain ⟨v5, H5, m5, w5, e10, hv5, lw5, g5, lm5, _⟩ := appOne (k := 10) (bytes := 160) [.int .i64 1, .int .i64 (0 : Nat), .str ⟨#[]⟩, .nils, .nils, .int .i64 1, .int .i64 n, .str ⟨#[]⟩, .nils, .nils] [] (.inr ⟨w4, hv4, lw4'⟩) (by rw [rowsF_len, ordL_len]; omega)
  have ht5 := thaw_pairs hv5 (by rw [List.all_append, flat_rowsF]; simp [flat])
  have hf2 := hv2.flat
  have hf5 := hv5.flat
  have e11 := second_run (e := e) h1 h2
  have vr0 := v_run 0
  have vrn := v_run n
  rw [show ((0 : Nat) : Int) = 0 from rfl] at e5 vr0
  simp only [daS] at e5
  refine ⟨H5.set m5 (.arr 0 2 [[.nils, .nils]]), m5 + 1, .int .i64 n, acc, .int .i64 n, y6, .ptr m2 0 2 0 0, .int .i64 er, .int .i64 121, .bool true, .bool false, y12, .bool false, .bool false, ?_⟩
  rcases hcase with ⟨h8, rfl⟩ | ⟨h7, rfl, hfm, row, t, e13, hR, hfl, e12⟩
  · simp (disch := omega) only [go_sem, Nat.reduceAdd, Nat.reduceMul, Nat.reduceLeDiff, Nat.reduceBEq, Nat.reduceLT, B_3_1, daS, hix, e7, hn, e5, ec1, hf2, ht2, e9, get_same, hH3, num_run, ec2, vr0, vrn, e10, hf5, ht5, e11, cast_add1]
  · have hP1 : 2 ^ (n + 1) ≤ 2 ^ 8 := Nat.pow_le_pow_right (by decide) (by omega)
    have hP0 : 0 < 2 ^ (n + 1) := Nat.pow_pos (by decide)
    have hsh := shl_few n h7
    generalize 2 ^ (n + 1) = P at hP1 hP0 hsh e12
    have ht13 : thawC true H3 [.agg (vrow n), .agg [mv, .nils]] false = some ([.agg (vrow n), .agg [mv, .nils]], []) := by
      have q1 : thaw true H3 4095 (.agg (vrow n)) = some (.agg (vrow n), []) := by rw [thaw_agg, thawL_all _ _ _ _ (by rfl)]; rfl
      have q2 : thaw true H3 4094 (.agg [mv, .nils]) = some (.agg [mv, .nils], []) := by rw [thaw_agg, thawL_all _ _ _ _ (by simp only [List.all_cons, List.all_nil, hfm]; rfl)]; rfl
      rw [thawC_false, thawL_cons, q1, thawL_cons, q2]
      rfl
    have htw := thaw_row hR H3
    have hPn : ((P - 1 : Nat) : Int) = (P : Int) - 1 := by omega
    rw [hPn] at e12
    simp (disch := omega) only [go_sem, Nat.reduceAdd, Nat.reduceMul, Nat.reduceLeDiff, Nat.reduceBEq, Nat.reduceLT, B_3_1, daS, hix, e7, hn, e5, ec1, hf2, ht2, e9, get_same, hH3, hm3, num_run, ec2, vr0, vrn, e10, hf5, ht5, e11, cast_add1, ht13, e13, htw, e12, hsh]
theorem wakes_few : pureV (evalF Genv 60) 14 [] = some (.bool true) := by kernel_rfl
theorem wakes_run : pureV Gf 14 [] = some (.bool true) := pureV_mono (lim_le Genv 60) wakes_few
theorem rounds_run {zs : List (List PV)} {fl : Fl} (hz : ∀ i, i < zs.length → ∃ x, zs[i]? = some [.int .i64 x]) : ∀ (d i : Nat) (x3 x4 x5 x6 x7 x8 x9 x10 x11 x12 x13 x14 : PV) (H : Heap) (m : Nat), 12 - i = d → i ≤ 12 →
    ∃ (H' : Heap) (m' i' : Nat) (y3 y4 y5 y6 y7 y8 y9 y10 y11 y12 y13 y14 : PV), codeL Gf (.loop B_3_1) ⟨daS (.data 1 zs fl) (.bool false) (.int .i64 i) x3 x4 x5 x6 x7 x8 x9 x10 x11 x12 x13 x14, H, m⟩ =
      some (.exit 0, ⟨daS (.data 1 zs fl) (.bool false) (.int .i64 i') y3 y4 y5 y6 y7 y8 y9 y10 y11 y12 y13 y14, H', m'⟩) := by
  intro d
  have hlen : ∀ H n, lenX .slice H n (.data 1 zs fl) = some ⟨.int .i64 (zs.length : Nat), H, n, .no⟩ := fun H n => by simp [lenX]
  induction d with
  | zero =>
    intro i x3 x4 x5 x6 x7 x8 x9 x10 x11 x12 x13 x14 H m hd hi
    have : i = 12 := by omega
    subst this
    refine ⟨H, m, 12, x3, x4, x5, x6, x7, x8, x9, .bool false, x11, x12, x13, x14, codeL_loop_end ?_ (by simp)⟩
    by_cases h : 12 < zs.length
    · simp (disch := omega) only [go_sem, B_3_1, daS, hlen]
    · simp (disch := omega) only [go_sem, B_3_1, daS, hlen]
  | succ d ih =>
    intro i x3 x4 x5 x6 x7 x8 x9 x10 x11 x12 x13 x14 H m hd hi
    by_cases h : i < zs.length
    · obtain ⟨x, hx⟩ := hz i h
      obtain ⟨H1, m1, y3, y4, y5, y6, y7, y8, y9, y10, y11, y12, y13, y14, e1⟩ := round_run (fl := fl) hx h (by omega) x3 x4 x5 x6 x7 x8 x9 x10 x11 x12 x13 x14 H m
      rw [codeL_loop_iff e1]
      exact ih (i + 1) y3 y4 y5 y6 y7 y8 y9 y10 y11 y12 y13 y14 H1 m1 (by omega) (by omega)
    · refine ⟨H, m, i, x3, x4, x5, x6, x7, x8, x9, .bool false, x11, x12, x13, x14, codeL_loop_end ?_ (by simp)⟩
      simp (disch := omega) only [go_sem, B_3_1, daS, hlen]
theorem law_run {zs : List (List PV)} {fl : Fl} (hz : ∀ i, i < zs.length → ∃ x, zs[i]? = some [.int .i64 x]) : ∃ H n, Gf 3 [.data 1 zs fl] [] 0 = some (.bool true, H, n) := by
  obtain ⟨H', m', i', y3, y4, y5, y6, y7, y8, y9, y10, y11, y12, y13, y14, e⟩ := rounds_run (fl := fl) hz 12 0 (.tup []) (.tup []) (.tup []) (.tup []) (.tup []) (.tup []) (.tup []) (.tup []) (.tup []) (.tup []) (.tup []) (.tup []) [] 0 rfl (by omega)
  refine ⟨H', m', ?_⟩
  rw [show ((0 : Nat) : Int) = 0 from rfl] at e
  simp only [daS] at e
  rw [R_3]
  simp (disch := omega) only [go_sem, G_3, e, wakes_run]
theorem law_nil : ∃ H n, Gf 3 [.nils] [] 0 = some (.bool true, H, n) := by
  have e : codeL Gf (.loop B_3_1) ⟨daS .nils (.bool false) (.int .i64 0) (.tup []) (.tup []) (.tup []) (.tup []) (.tup []) (.tup []) (.tup []) (.tup []) (.tup []) (.tup []) (.tup []) (.tup []), [], 0⟩ =
      some (.exit 0, ⟨daS .nils (.bool false) (.int .i64 0) (.tup []) (.tup []) (.tup []) (.tup []) (.tup []) (.tup []) (.tup []) (.bool false) (.tup []) (.tup []) (.tup []) (.tup []), [], 0⟩) := by
    refine codeL_loop_end ?_ (by simp)
    simp (disch := omega) only [go_sem, Int.reduceLT, B_3_1, daS]
  refine ⟨[], 0, ?_⟩
  simp only [daS] at e
  rw [R_3]
  simp (disch := omega) only [go_sem, G_3, e, wakes_run]
end Go.Vm
