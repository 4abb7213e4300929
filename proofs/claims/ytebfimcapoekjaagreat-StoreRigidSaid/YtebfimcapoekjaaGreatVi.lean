/-
  Structs held against each other; maps: what the evaluator says of them is what the model does.
-/
import Derived.Test.YtebfimcapoekjaaGreatVh
import Derived.ChangeKeysEq
namespace Go.Vm

/-- numbers, texts, truths -/
def ckOf : TypeDesc → Option CK
  | .int _ => some .int
  | .string => some .str
  | .bool => some .bool
  | _ => none

def tyCk (P : Program) (t : TypeId) : Option CK := (P.underlying t).bind ckOf

/-- fields that are numbers, texts, truths, one behind the other -/
def flatFields (P : Program) : List Field → Nat → Option (List CK)
  | [], _ => some []
  | f :: fs, j =>
    if f.offset = j ∧ f.name ≠ "_" then
      match tyCk P f.type, flatFields P fs (j + 1) with
      | some k, some ks => some (k :: ks)
      | _, _ => none
    else none

section
variable {P : Program} {M : Mem} {φ : Places} {G : Objs} {H : Heap} {n : Nat}

theorem tyCk_some {t : TypeId} {k : CK} (h : tyCk P t = some k) : ∃ d, P.underlying t = some d ∧ ckOf d = some k := by
  unfold tyCk at h
  cases hu : P.underlying t with
  | none => simp [hu] at h
  | some d => exact ⟨d, rfl, by simpa [hu] using h⟩

theorem ck_agg {t : TypeId} {k : CK} (h : tyCk P t = some k) : tyAgg P t = some false := by
  obtain ⟨d, hd, hk⟩ := tyCk_some h
  cases d <;> simp [ckOf] at hk <;> simp [tyAgg, hd, isAggD]

theorem part_cell {t : TypeId} {vs : Array Value} {j : Nat} (h : tyAgg P t = some false) (hj : j < vs.size) (w : World) : (part t vs j).run P w = .ok (vs.getD j undef) w := by
  obtain ⟨u, hu1, hu2⟩ : ∃ u, vs[j]? = some u ∧ u = vs.getD j undef := ⟨_, Array.getElem?_eq_getElem hj, by simp [Array.getD, hj]⟩
  rw [← hu2]
  simp [part, run_isAgg' h, hu1]

theorem eqFields_sound (w : World) {d : Nat} {xs ys : Array Value} : ∀ (fs : List Field) (j : Nat) (ks : List CK) (a b : List PV) (r : Bool), flatFields P fs j = some ks → cellsEq ks a b = some r → a.length = ks.length → b.length = ks.length →
    (∀ i, i < a.length → j + i < xs.size ∧ Rv M φ (a.getD i .any) (xs.getD (j + i) undef)) → (∀ i, i < b.length → j + i < ys.size ∧ Rv M φ (b.getD i .any) (ys.getD (j + i) undef)) →
    (Op.eqFields (d + 1) xs ys fs).run P w = .ok r w
  | [], j, ks, a, b, r, hf, h, ha, hb, _, _ => by
    simp only [flatFields] at hf
    cases hf
    have ha' : a = [] := List.eq_nil_of_length_eq_zero ha
    have hb' : b = [] := List.eq_nil_of_length_eq_zero hb
    subst ha'
    subst hb'
    simp [cellsEq] at h
    subst h
    rfl
  | f :: fs, j, ks, a, b, r, hf, h, ha, hb, hxa, hyb => by
    simp only [flatFields] at hf
    split at hf
    · rename_i hc
      obtain ⟨hoff, hname⟩ := hc
      split at hf
      · rename_i k ks' hk hks
        cases hf
        obtain ⟨dd, hu, hck⟩ := tyCk_some hk
        cases a with
        | nil => simp at ha
        | cons x a =>
        cases b with
        | nil => simp at hb
        | cons y b =>
        have h0 := hxa 0 (by simp)
        have g0 := hyb 0 (by simp)
        simp only [Nat.add_zero, List.getD_cons_zero] at h0 g0
        have hp1 := part_cell (P := P) (vs := xs) (j := j) (ck_agg hk) h0.1 w
        have hp2 := part_cell (P := P) (vs := ys) (j := j) (ck_agg hk) g0.1 w
        have ih := fun r' (h' : cellsEq ks' a b = some r') => eqFields_sound w (d := d) (xs := xs) (ys := ys) fs (j + 1) ks' a b r' hks h' (by simpa using ha) (by simpa using hb)
          (fun i hi => by have := hxa (i + 1) (by simpa using hi); simpa [Nat.add_assoc, Nat.add_comm 1 i] using this)
          (fun i hi => by have := hyb (i + 1) (by simpa using hi); simpa [Nat.add_assoc, Nat.add_comm 1 i] using this)
        have key : ∀ (e : Bool), (Op.equalIn (d + 1) f.type (xs.getD j undef) (ys.getD j undef)).run P w = .ok e w → (if e = true then cellsEq ks' a b else some false) = some r →
            (Op.eqFields (d + 1) xs ys (f :: fs)).run P w = .ok r w := by
          intro e he hr
          simp only [Op.eqFields, hoff]
          rw [if_pos hname]
          simp only [Sem.run_bind, hp1, hp2, he, Result.andThen_ok]
          cases e with
          | true => simp at hr; simpa using ih r hr
          | false => simp at hr; subst hr; simp
        obtain ⟨_, hx⟩ := h0
        obtain ⟨_, hy⟩ := g0
        unfold cellsEq at h
        split at h
        · rename_i e1 _ _; cases e1
        · rename_i e1 e2 e3
          cases e1
          cases e2
          cases e3
          split at h
          · rename_i hkk
            subst hkk
            generalize hxe : xs.getD j undef = xv at hx key
            generalize hye : ys.getD j undef = yv at hy key
            cases hx
            cases hy
            cases dd <;> simp [ckOf] at hck
            exact key _ (run_equalIn_int w d f.type _ _ _ _ hu) h
          · cases h
        · rename_i e1 e2 e3
          cases e1
          cases e2
          cases e3
          generalize hxe : xs.getD j undef = xv at hx key
          generalize hye : ys.getD j undef = yv at hy key
          cases hx
          cases hy
          cases dd <;> simp [ckOf] at hck
          exact key _ (run_equalIn_string w d f.type _ _ hu) (by rw [← beq_toListBytes]; exact h)
        · rename_i e1 e2 e3
          cases e1
          cases e2
          cases e3
          generalize hxe : xs.getD j undef = xv at hx key
          generalize hye : ys.getD j undef = yv at hy key
          cases hx
          cases hy
          cases dd <;> simp [ckOf] at hck
          exact key _ (run_equalIn_bool' w d f.type _ _ hu) h
        · cases h
      · cases hf
    · cases hf

theorem eqAgg_sound {w : World} {t : TypeId} {fs : Array Field} {ks : List CK} {neg : Bool} {op : BinOp} {a b : List PV} {u v : Value} {r : Bool} (hu : P.underlying t = some (.struct fs)) (hf : flatFields P fs.toList 0 = some ks)
    (hs : P.stoodInHeld t = false) (h : cellsEq ks a b = some r) (ha : a.length = ks.length) (hb : b.length = ks.length) (hau : Rv M φ (.agg a) u) (hbv : Rv M φ (.agg b) v) (hop : op = if neg then .neq else .eql) :
    (binOp op t u v).run P w = .ok (.bool (if neg then !r else r)) w := by
  have hfo : P.fieldsOf t = fs := by simp [Program.fieldsOf, hu]
  cases hau with
  | agg _ us a1 a2 a3 =>
  cases hbv with
  | agg _ vs b1 b2 b3 =>
  have heq : (Op.equalIn 10000 t (.agg us) (.agg vs)).run P w = .ok r w := by
    rw [run_equalIn_struct w 9999 t us vs (by rw [hfo]; exact hu) hs, hfo]
    exact eqFields_sound (M := M) (φ := φ) w (d := 9998) fs.toList 0 ks a b r hf h ha hb (fun i hi => by rw [Nat.zero_add]; exact ⟨by omega, a3 i hi⟩) (fun i hi => by rw [Nat.zero_add]; exact ⟨by omega, b3 i hi⟩)
  cases neg with
  | true => simp at hop; subst hop; rw [run_neq_struct w t us vs, heq]; simp
  | false => simp at hop; subst hop; rw [run_eql_struct w t us vs, heq]; simp

/-- keys of maps that are numbers, texts, truths -/
theorem keyEq_sound {p q : PV} {u v : Value} {r : Bool} {d : TypeDesc} {ck : CK} (h : keyEq ck p q = some r) (hp : Rv M φ p u) (hq : Rv M φ q v) (hd : ckOf d = some ck) :
    Instr.sameNow d u v = some r ∧ (r = true → Instr.sameBits 10000 v u = true) := by
  unfold keyEq at h
  split at h
  · cases hp; cases hq
    cases d <;> simp [ckOf] at hd
    split at h
    · rename_i hk
      cases h
      exact ⟨by simp [Instr.sameNow, hk], fun e => by simp at e; simp [Instr.sameBits, hk, e]⟩
    · cases h
  · cases hp; cases hq
    cases d <;> simp [ckOf] at hd
    cases h
    refine ⟨by simp [Instr.sameNow], fun e => ?_⟩
    rw [beq_toListBytes] at e
    have e2 := eq_of_beq e
    simp only [Instr.sameBits]
    rw [beq_toListBytes, e2]
    simp
  · cases hp; cases hq
    cases d <;> simp [ckOf] at hd
    cases h
    exact ⟨by simp [Instr.sameNow], fun e => by simp at e; simp [Instr.sameBits, e]⟩
  · cases d <;> simp [ckOf] at hd
  · cases h

/-- entries of a map -/
def EntR (M : Mem) (φ : Places) (es : List (PV × PV × Nat)) (en : List MapEntry) : Prop :=
  en.length = es.length ∧ ∀ j, j < es.length → Rv M φ (es.getD j (.any, .any, 0)).1 (en.getD j default).key ∧ Rv M φ (es.getD j (.any, .any, 0)).2.1 (en.getD j default).val ∧
    (es.getD j (.any, .any, 0)).2.2 = (en.getD j default).born

theorem EntR.tail {e : PV × PV × Nat} {es : List (PV × PV × Nat)} {x : MapEntry} {en : List MapEntry} (h : EntR M φ (e :: es) (x :: en)) : EntR M φ es en :=
  ⟨by simpa using h.1, fun j hj => by have := h.2 (j + 1) (by simpa using hj); simpa using this⟩

theorem findNow_sound {d : TypeDesc} {ck : CK} (hd : ckOf d = some ck) {p : PV} {u : Value} (hp : Rv M φ p u) : ∀ {es : List (PV × PV × Nat)} {en : List MapEntry} {i : Nat} {r : Option Nat}, findKey ck p es i = some r → EntR M φ es en →
    (r = none → Instr.findNow d u en i = some none) ∧
    (∀ m, r = some m → i ≤ m ∧ m - i < es.length ∧ Instr.findNow d u en i = some (some (m, (en.getD (m - i) default).val)) ∧ Instr.sameBits 10000 (en.getD (m - i) default).key u = true)
  | [], en, i, r, h, he => by
    simp only [findKey] at h
    cases h
    have : en = [] := List.eq_nil_of_length_eq_zero he.1
    subst this
    refine ⟨fun _ => rfl, fun m hm => ?_⟩
    cases hm
  | e :: es, [], i, r, h, he => by have := he.1; simp at this
  | e :: es, x :: en, i, r, h, he => by
    have h0 := he.2 0 (by simp)
    simp only [List.getD_cons_zero] at h0
    simp only [findKey] at h
    split at h
    · rename_i hk
      cases h
      obtain ⟨k1, k2⟩ := keyEq_sound hk hp h0.1 hd
      refine ⟨(fun hc => by cases hc), fun m hm => ?_⟩
      cases hm
      exact ⟨Nat.le_refl _, by simp, by simp [Instr.findNow, k1], by simpa using k2 rfl⟩
    · rename_i hk
      obtain ⟨k1, k2⟩ := keyEq_sound hk hp h0.1 hd
      obtain ⟨f1, f2⟩ := findNow_sound hd hp h he.tail
      refine ⟨fun hn => by simp [Instr.findNow, k1, f1 hn], fun m hm => ?_⟩
      obtain ⟨g1, g2, g3, g4⟩ := f2 m hm
      have e1 : m - i = (m - (i + 1)) + 1 := by omega
      refine ⟨by omega, by simp; omega, ?_, ?_⟩
      · simp only [Instr.findNow, k1, g3]; rw [e1]; simp
      · rw [e1]; simpa using g4
    · cases h

theorem checkKey_run {t : TypeId} {d : TypeDesc} {ck : CK} (hu : P.underlying t = some d) (hd : ckOf d = some ck) (b : Bool) (v : Value) (w : World) : (Instr.checkKey b 10000 t v).run P w = .ok () w := by
  rw [show (10000 : Nat) = 9999 + 1 from rfl, Instr.checkKey]
  cases d <;> simp [ckOf] at hd <;> simp [run_underlying' hu]

/-- a type whose values may be keys -/
def KeyOk (P : Program) (kt : TypeId) (ck : CK) : Prop :=
  (∃ d, P.underlying kt = some d ∧ ckOf d = some ck) ∨
  ∃ len e i k, P.underlying kt = some (.array len e) ∧ P.info? e = some i ∧ i.size = 1 ∧ P.underlying e = some (.int k) ∧ ck = .arr len

def trKey (P : Program) (t : TypeId) : Option CK :=
  match P.underlying t with
  | some (.array len e) =>
    match P.info? e, P.underlying e with
    | some i, some (.int _) => if i.size = 1 then some (.arr len) else none
    | _, _ => none
  | some d => ckOf d
  | none => none

theorem trKey_ok {t : TypeId} {ck : CK} (h : trKey P t = some ck) : KeyOk P t ck := by
  unfold trKey at h
  split at h
  · rename_i len e hu
    split at h
    · rename_i i k hi hk
      split at h
      · rename_i hs
        cases h
        exact .inr ⟨len, e, i, k, hu, hi, hs, hk, rfl⟩
      · cases h
    · cases h
  · rename_i d _ hu
    exact .inl ⟨d, hu, h⟩
  · cases h

theorem cellsEq_int_cons {ks : List CK} {x y : PV} {a b : List PV} {r : Bool} (h : cellsEq (.int :: ks) (x :: a) (y :: b) = some r) :
    ∃ k m n, x = .int k m ∧ y = .int k n ∧ (if m == n then cellsEq ks a b else some false) = some r := by
  cases x <;> first | (simp [cellsEq] at h; done) | skip
  cases y <;> first | (simp [cellsEq] at h; done) | skip
  rename_i k m k' n
  simp only [cellsEq] at h
  split at h
  · rename_i hk
    subst hk
    exact ⟨k, m, n, rfl, rfl, h⟩
  · cases h

theorem keyEq_arr {N : Nat} {p q : PV} {r : Bool} (h : keyEq (.arr N) p q = some r) : ∃ a b, p = .agg a ∧ q = .agg b ∧ a.length = N ∧ b.length = N ∧ cellsEq (List.replicate N .int) a b = some r := by
  cases p <;> first | (simp [keyEq] at h; done) | skip
  cases q <;> first | (simp [keyEq] at h; done) | skip
  rename_i a b
  simp only [keyEq] at h
  split at h
  · rename_i hc
    exact ⟨a, b, rfl, rfl, hc.1, hc.2, h⟩
  · cases h

theorem cellsEq_ints : ∀ (m : Nat) (a b : List PV), cellsEq (List.replicate m .int) a b = some true → a.length = m → b.length = m → a = b ∧ ∀ i, i < m → ∃ k n, a.getD i .any = .int k n
  | 0, a, b, h, ha, hb => by
    have ha' : a = [] := List.eq_nil_of_length_eq_zero ha
    have hb' : b = [] := List.eq_nil_of_length_eq_zero hb
    subst ha' hb'
    exact ⟨rfl, fun i hi => by omega⟩
  | m + 1, a, b, h, ha, hb => by
    cases a with
    | nil => simp at ha
    | cons x a =>
    cases b with
    | nil => simp at hb
    | cons y b =>
    rw [List.replicate_succ] at h
    obtain ⟨k, u, v, rfl, rfl, h2⟩ := cellsEq_int_cons h
    split at h2
    · rename_i e
      have e' := eq_of_beq e
      subst e'
      obtain ⟨h3, h4⟩ := cellsEq_ints m a b h2 (by simpa using ha) (by simpa using hb)
      refine ⟨by rw [h3], fun i hi => ?_⟩
      cases i with
      | zero => exact ⟨k, u, by simp⟩
      | succ i => simpa using h4 i (by omega)
    · cases h2

theorem part_int {e : TypeId} {k : IntKind} (hu : P.underlying e = some (.int k)) {vs : Array Value} {j : Nat} (hj : j < vs.size) (w : World) : (part e vs j).run P w = .ok (vs.getD j undef) w :=
  part_cell (by simp [tyAgg, hu, isAggD]) hj w

theorem eqItems_sound (w : World) {e : TypeId} {k : IntKind} (hu : P.underlying e = some (.int k)) {d : Nat} {xs ys : Array Value} : ∀ (m j : Nat) (a b : List PV) (r : Bool), cellsEq (List.replicate m .int) a b = some r → a.length = m → b.length = m →
    (∀ i, i < m → j + i < xs.size ∧ Rv M φ (a.getD i .any) (xs.getD (j + i) undef)) → (∀ i, i < m → j + i < ys.size ∧ Rv M φ (b.getD i .any) (ys.getD (j + i) undef)) →
    (Op.eqItems (d + 1) e 1 xs ys (List.range' j m)).run P w = .ok r w
  | 0, j, a, b, r, h, ha, hb, _, _ => by
    have ha' : a = [] := List.eq_nil_of_length_eq_zero ha
    have hb' : b = [] := List.eq_nil_of_length_eq_zero hb
    subst ha' hb'
    simp [cellsEq] at h
    subst h
    rfl
  | m + 1, j, a, b, r, h, ha, hb, hxa, hyb => by
    cases a with
    | nil => simp at ha
    | cons x a =>
    cases b with
    | nil => simp at hb
    | cons y b =>
    have h0 := hxa 0 (by omega)
    have g0 := hyb 0 (by omega)
    simp only [Nat.add_zero, List.getD_cons_zero] at h0 g0
    obtain ⟨h01, h02⟩ := h0
    obtain ⟨g01, g02⟩ := g0
    have hp1 := part_int (P := P) hu h01 w
    have hp2 := part_int (P := P) hu g01 w
    have ih := fun r' (h' : cellsEq (List.replicate m .int) a b = some r') => eqItems_sound w hu (d := d) m (j + 1) a b r' h' (by simpa using ha) (by simpa using hb)
      (fun i hi => by have := hxa (i + 1) (by omega); simpa [Nat.add_assoc, Nat.add_comm 1 i] using this)
      (fun i hi => by have := hyb (i + 1) (by omega); simpa [Nat.add_assoc, Nat.add_comm 1 i] using this)
    rw [List.replicate_succ] at h
    obtain ⟨kk, u, v, rfl, rfl, h2⟩ := cellsEq_int_cons h
    generalize hxe : xs.getD j undef = xv at h02 hp1
    generalize hye : ys.getD j undef = yv at g02 hp2
    cases h02
    cases g02
    simp only [List.range'_succ, Op.eqItems, Nat.mul_one, Sem.run_bind, hp1, hp2, Result.andThen_ok]
    by_cases huv : (u == v) = true
    · rw [if_pos huv] at h2
      rw [run_equalIn_int w d e _ _ _ _ hu]
      simp [huv]
      simpa using ih r h2
    · rw [if_neg huv] at h2
      cases h2
      rw [run_equalIn_int w d e _ _ _ _ hu]
      simp [huv]

theorem checkKey_loop {e : TypeId} {k : IntKind} (hu : P.underlying e = some (.int k)) (b : Bool) {us : Array Value} (w : World) : ∀ (is : List Nat), (∀ i ∈ is, i < us.size) → tySize P e = some 1 →
    ((forIn is PUnit.unit (fun i (_ : PUnit) => do
      Instr.checkKey b 9999 e (← part e us (i * (← sizeOf e)))
      pure (ForInStep.yield PUnit.unit)) : Sem PUnit)).run P w = .ok PUnit.unit w
  | [], _, _ => by simp
  | i :: is, h, hs => by
    have hp := part_int (P := P) hu (h i (by simp)) w
    have hc : (Instr.checkKey b 9999 e (us.getD i undef)).run P w = .ok () w := by
      rw [show (9999 : Nat) = 9998 + 1 from rfl, Instr.checkKey]
      simp [run_underlying' hu]
    have ih := checkKey_loop hu b w is (fun j hj => h j (by simp [hj])) hs
    simp only [List.forIn_cons, Sem.run_bind, run_sizeOf' hs, Result.andThen_ok, Nat.mul_one, hp, hc, Sem.run_pure]
    exact ih

theorem findAsking_sound {kt e : TypeId} {len : Nat} {i : TypeInfo} {k : IntKind} (hu : P.underlying kt = some (.array len e)) (hi : P.info? e = some i) (hs : i.size = 1) (he : P.underlying e = some (.int k)) {p : PV} {u : Value} (hp : Rv M φ p u) (w : World) :
    ∀ {es : List (PV × PV × Nat)} {en : List MapEntry} {j : Nat} {r : Option Nat}, findKey (.arr len) p es j = some r → EntR M φ es en →
    (r = none → (Instr.findAsking kt u en j).run P w = .ok none w) ∧
    (∀ m, r = some m → j ≤ m ∧ m - j < es.length ∧ (Instr.findAsking kt u en j).run P w = .ok (some (m, (en.getD (m - j) default).val)) w ∧ Instr.sameBits 10000 (en.getD (m - j) default).key u = true)
  | [], en, j, r, h, hen => by
    simp only [findKey] at h
    cases h
    have : en = [] := List.eq_nil_of_length_eq_zero hen.1
    subst this
    refine ⟨fun _ => by simp [Instr.findAsking], fun m hm => by cases hm⟩
  | e0 :: es, [], j, r, h, hen => by have := hen.1; simp at this
  | e0 :: es, x :: en, j, r, h, hen => by
    have h0 := hen.2 0 (by simp)
    simp only [List.getD_cons_zero] at h0
    have hc1 : P.cellsOf e = 1 := by simp [Program.cellsOf, hi, hs]
    have heq : ∀ b, keyEq (.arr len) p e0.1 = some b → (Op.equal kt u x.key).run P w = .ok b w ∧ (b = true → Instr.sameBits 10000 x.key u = true) := by
      intro b hb
      have hx := h0.1
      generalize e0.1 = q at hb hx
      obtain ⟨a, c, rfl, rfl, l1, l2, hb⟩ := keyEq_arr hb
      cases hp with
      | agg _ us a1 a2 a3 =>
      generalize x.key = xk at hx ⊢
      cases hx with
      | agg _ vs b1 b2 b3 =>
      constructor
      · have hq : (Op.equalIn 10000 kt (.agg us) (.agg vs)).run P w = .ok b w := by
          rw [show (10000 : Nat) = 9999 + 1 from rfl, run_equalIn_array w 9999 us vs hu hi, hc1, List.range_eq_range', show (9999 : Nat) = 9998 + 1 from rfl]
          exact eqItems_sound (M := M) (φ := φ) w he (d := 9998) len 0 a c b hb l1 l2 (fun i hi => by rw [Nat.zero_add]; exact ⟨by omega, a3 i (by omega)⟩) (fun i hi => by rw [Nat.zero_add]; exact ⟨by omega, b3 i (by omega)⟩)
        exact hq
      · intro hbt
        subst hbt
        obtain ⟨hac, hints⟩ := cellsEq_ints len a c hb l1 l2
        subst hac
        have huv : ∀ i, i < us.size → Instr.sameBits 9999 (vs.getD i undef) (us.getD i undef) = true := by
          intro i hi
          have q1 := a3 i (by omega)
          have q2 := b3 i (by omega)
          obtain ⟨k, n, hkn⟩ := hints i (by omega)
          rw [hkn] at q1 q2
          generalize us.getD i undef = u1 at q1 ⊢
          generalize vs.getD i undef = v1 at q2 ⊢
          cases q1; cases q2
          simp [Instr.sameBits]
        rw [show (10000 : Nat) = 9999 + 1 from rfl]
        simp only [Instr.sameBits, Bool.and_eq_true, beq_iff_eq]
        refine ⟨by omega, ?_⟩
        rw [List.all_eq_true]
        intro pr hpr
        obtain ⟨i, hi, hget⟩ := List.getElem_of_mem hpr
        simp only [List.length_zip, Array.length_toList] at hi
        rw [← hget]
        simp only [List.getElem_zip, Array.getElem_toList]
        have := huv i (by omega)
        simpa [Array.getD, show i < us.size by omega, show i < vs.size by omega] using this
    simp only [findKey] at h
    split at h
    · rename_i hk
      cases h
      obtain ⟨k1, k2⟩ := heq _ hk
      refine ⟨(fun hc => by cases hc), fun m hm => ?_⟩
      cases hm
      exact ⟨Nat.le_refl _, by simp, by simp [Instr.findAsking, k1], by simpa using k2 rfl⟩
    · rename_i hk
      obtain ⟨k1, k2⟩ := heq _ hk
      obtain ⟨f1, f2⟩ := findAsking_sound hu hi hs he hp w h hen.tail
      refine ⟨fun hn => by simp [Instr.findAsking, k1, f1 hn], fun m hm => ?_⟩
      obtain ⟨g1, g2, g3, g4⟩ := f2 m hm
      have e1 : m - j = (m - (j + 1)) + 1 := by omega
      refine ⟨by omega, by simp; omega, ?_, ?_⟩
      · simp only [Instr.findAsking, Sem.run_bind, k1, Result.andThen_ok, Bool.false_eq_true, if_false, g3]; rw [e1]; simp
      · rw [e1]; simpa using g4
    · cases h

theorem findKey_run {t : TypeId} {d : TypeDesc} {u : Value} {en : List MapEntry} {x : Option (Nat × Value)} (hu : P.underlying t = some d) (h : Instr.findNow d u en 0 = some x) (w : World) :
    (Instr.findKey t u en).run P w = .ok x w := by
  simp [Instr.findKey, run_underlying' hu, h]

/-- a key among entries -/
theorem findIn_full {kt : TypeId} {ck : CK} (hk : KeyOk P kt ck) {p : PV} {u : Value} (hp : Rv M φ p u) {es : List (PV × PV × Nat)} {en : List MapEntry} {r : Option Nat} (h : findIn ck p es = some r) (he : EntR M φ es en) (w : World) :
    (∀ b, (Instr.checkKey b 10000 kt u).run P w = .ok () w) ∧ (r = none → (Instr.findKey kt u en).run P w = .ok none w) ∧
    (∀ m, r = some m → m < es.length ∧ (Instr.findKey kt u en).run P w = .ok (some (m, (en.getD m default).val)) w ∧ Instr.sameBits 10000 (en.getD m default).key u = true) := by
  unfold findIn at h
  split at h
  · rename_i hok
    rcases hk with ⟨d, hd, hck⟩ | ⟨len, e, i, k, hu, hi, hs, hke, rfl⟩
    · obtain ⟨f1, f2⟩ := findNow_sound hck hp h he
      refine ⟨fun b => checkKey_run hd hck b u w, fun hn => ?_, fun m hm => ?_⟩
      · simp [Instr.findKey, run_underlying' hd, f1 hn]
      · obtain ⟨_, g2, g3, g4⟩ := f2 m hm
        simp only [Nat.sub_zero] at g2 g3 g4
        exact ⟨g2, by simp [Instr.findKey, run_underlying' hd, g3], g4⟩
    · obtain ⟨f1, f2⟩ := findAsking_sound hu hi hs hke hp w h he
      unfold keyOk at hok
      split at hok
      · rename_i n' a e1
        cases e1
        simp only [Bool.and_eq_true, beq_iff_eq] at hok
        cases hp with
        | agg _ us a1 a2 a3 =>
        have hts : tySize P e = some 1 := by simp [tySize, hi, hs]
        refine ⟨fun b => ?_, fun hn => ?_, fun m hm => ?_⟩
        · rw [show (10000 : Nat) = 9999 + 1 from rfl, Instr.checkKey]
          simp only [Sem.run_bind, run_underlying' hu, Result.andThen_ok]
          simp only [Std.Legacy.Range.forIn_eq_forIn_range', Std.Legacy.Range.size, Nat.sub_zero, Nat.add_one_sub_one, Nat.div_one]
          have := checkKey_loop (P := P) hke b (us := us) w (List.range' 0 len) (fun i hi => by simp at hi; omega) hts
          simp at this ⊢
          rw [this]; rfl
        · have hfn : Instr.findNow (.array len e) (.agg us) en 0 = some none ∨ Instr.findNow (.array len e) (.agg us) en 0 = none := by
            cases en with
            | nil => exact .inl rfl
            | cons x en => right; simp [Instr.findNow, Instr.sameNow]
          rcases hfn with hf | hf
          · simp [Instr.findKey, run_underlying' hu, hf]
          · simp [Instr.findKey, run_underlying' hu, hf, f1 hn]
        · obtain ⟨_, g2, g3, g4⟩ := f2 m hm
          simp only [Nat.sub_zero] at g2 g3 g4
          have hfn : Instr.findNow (.array len e) (.agg us) en 0 = none := by
            cases en with
            | nil => have := he.1; simp at this; omega
            | cons x en => simp [Instr.findNow, Instr.sameNow]
          exact ⟨g2, by simp [Instr.findKey, run_underlying' hu, hfn, g3], g4⟩
      · cases hok
      · rename_i hne _
        exact absurd rfl (hne len)
  · cases h

theorem check_nil {kt : TypeId} {ck : CK} (hk : KeyOk P kt ck) {p : PV} {u : Value} (hp : Rv M φ p u) (h : keyOk ck p = true) (w : World) :
    (∀ b, (Instr.checkKey b 10000 kt u).run P w = .ok () w) ∧ (Instr.findKey kt u []).run P w = .ok none w := by
  obtain ⟨h1, h2, _⟩ := findIn_full hk hp (es := []) (en := []) (r := none) (by simp [findIn, h, findKey]) ⟨rfl, fun j hj => by simp at hj⟩ w
  exact ⟨h1, h2 rfl⟩

theorem objr_map {w : World} {id : Nat} {es : List (PV × PV × Nat)} {clock : Nat} (h : ObjR M φ id w (.map es clock)) :
    ∃ l en, φ id 0 = some l ∧ (∀ v, 0 < v → φ id v = none) ∧ w.heap[l.block]? = some (.map en clock) ∧ EntR M φ es en.toList := by
  cases h with
  | map _ _ l en h1 h2 h3 h4 h5 =>
    refine ⟨l, en, h1, h2, h3, by simpa using h4, fun j hj => ?_⟩
    have := h5 j hj
    have e : en.toList.getD j default = en.getD j default := by simp [List.getD_eq_getElem?_getD, Array.getD_eq_getD_getElem?]
    rw [e]; exact this

theorem map_objr {w : World} {id : Nat} {es : List (PV × PV × Nat)} {clock : Nat} {l : Loc} {en : Array MapEntry} (h1 : φ id 0 = some l) (h2 : ∀ v, 0 < v → φ id v = none) (h3 : w.heap[l.block]? = some (.map en clock))
    (h : EntR M φ es en.toList) : ObjR M φ id w (.map es clock) := by
  refine .map es clock l en h1 h2 h3 (by simpa using h.1) (fun j hj => ?_)
  have e : en.toList.getD j default = en.getD j default := by simp [List.getD_eq_getElem?_getD, Array.getD_eq_getD_getElem?]
  rw [← e]; exact h.2 j hj

theorem mkMap_sound {w : World} {t : TypeId} {r : Res} {ρ : Src → PV} {cf : CallF} (h : evalOp cf .mkMap ρ H n = some r) (hr : Ready M φ G w H n r) :
    ∃ v w', (Instr.makeMap t none).run P w = .ok v w' ∧ Post M φ G n w r v w' := by
  simp only [evalOp] at h
  cases h
  have hn : ∀ v, φ n v = none := fun v => hr.fresh n (Nat.le_refl _) (.inr (by simp)) v
  refine ⟨.map (some w.heap.size), w.alloc (.map #[] 0), by simp [Instr.makeMap], ?_⟩
  refine Post.new (rd := []) (l' := ⟨w.heap.size, 0, 0, 0⟩) hr.wr rfl hn _ rfl ?_ (.map n _ (φ.set_at n 0 _))
  exact map_objr (φ.set_at n 0 _) (fun v hv => by rw [φ.set_ver n 0 _ n v (by omega)]; exact hn v) (heap_new _ _) ⟨rfl, fun j hj => by simp at hj⟩

theorem getObj_map {w : World} {b : Nat} {en : Array MapEntry} {clock : Nat} (h : w.heap[b]? = some (.map en clock)) : (getObj b).run P w = .ok (.map en clock) w := by
  simp [getObj, Sem.run, h]

theorem setObj_map {w : World} {b : Nat} {en : Array MapEntry} {clock : Nat} {o : Go.Obj} (h : w.heap[b]? = some (.map en clock)) : (setObj b o).run P w = .ok () { w with heap := w.heap.setIfInBounds b o } := by
  simp [setObj, Sem.run, h]

theorem heap_set_at {w : World} {b : Nat} {o x : Go.Obj} (h : w.heap[b]? = some x) : ({ w with heap := w.heap.setIfInBounds b o } : World).heap[b]? = some o := by
  have := (Array.getElem?_eq_some_iff.1 h).1
  simp [this]

theorem heap_set_ne {w : World} {b c : Nat} {o : Go.Obj} (h : c ≠ b) : ({ w with heap := w.heap.setIfInBounds b o } : World).heap[c]? = w.heap[c]? := by
  simp [Ne.symm h]

theorem lookup_sound {w : World} {ck : CK} {t kt et : TypeId} {i : TypeInfo} {z : Value} {zero : PV} {x key : Src} {vx vk : Value} {ok : Bool} {r : Res} {ρ : Src → PV} {cf : CallF}
    (h : evalOp cf (.lookup ck zero x key ok) ρ H n = some r) (hr : Ready M φ G w H n r) (hx : Rv M φ (ρ x) vx) (hk : Rv M φ (ρ key) vk) (hu : P.underlying t = some (.map kt et)) (hkk : KeyOk P kt ck)
    (hi : P.info? et = some i) (hz : i.zero = some z) (hzr : Rv M φ zero z) : ∃ v w', (Instr.lookup t vx vk ok).run P w = .ok v w' ∧ Post M φ G n w r v w' := by
  have pair : ∀ (p : PV) (v : Value) (b : Bool), Rv M φ p v → Rv M φ (if ok then .tup [p, .bool b] else p) (if ok then .tuple #[v, .bool b] else v) := by
    intro p v b hp
    cases ok with
    | false => simpa using hp
    | true =>
      refine .tup _ _ rfl (fun j hj => ?_)
      match j, hj with
      | 0, _ => simpa using hp
      | 1, _ => exact .bool b
  simp only [evalOp] at h
  split at h
  · rename_i hρ
    rw [hρ] at hx
    cases hx
    split at h
    · rename_i hko
      cases h
      refine ⟨_, w, ?_, Post.pure (rd := []) hr.wr (pair zero z false hzr)⟩
      obtain ⟨hck, hfk⟩ := check_nil hkk hk hko w
      simp [Instr.lookup, run_underlying' hu, hck, hfk, run_zero' hi hz]
    · cases h
  · rename_i id hρ
    rw [hρ] at hx
    split at h
    · rename_i es clock hH
      have hat : ∀ (r' : PV), r = ⟨r', H, n, ⟨[id], [], false⟩⟩ → G id = some (.map es clock) := by
        intro r' e; rw [hr.same id (by rw [e]; exact .inr (.inl (by simp))), hH]
      have hmain : ∀ (r' : PV) (v : Value), r = ⟨r', H, n, ⟨[id], [], false⟩⟩ → (∀ (en : Array MapEntry), EntR M φ es en.toList → (∀ b, (Instr.checkKey b 10000 kt vk).run P w = .ok () w) ∧ ∃ x, (Instr.findKey kt vk en.toList).run P w = .ok x w ∧
          ((x.isSome = true ∧ ∃ m v', x = some (m, v') ∧ Rv M φ r' (if ok then .tuple #[v', .bool true] else v')) ∨ x = none ∧ Rv M φ r' (if ok then .tuple #[z, .bool false] else z))) →
          ∃ v w', (Instr.lookup t vx vk ok).run P w = .ok v w' ∧ Post M φ G n w r v w' := by
        intro r' v e hf
        have hG := hat r' e
        cases hx with
        | map _ l hl =>
        obtain ⟨l2, en, g1, g2, g3, g4⟩ := objr_map (hr.wr.obj id _ hG)
        obtain rfl : l = l2 := Option.some.inj (hl.symm.trans g1)
        obtain ⟨hck, x, hfk, hx2⟩ := hf en g4
        rcases hx2 with ⟨_, m, v', rfl, hrv⟩ | ⟨rfl, hrv⟩
        · refine ⟨_, w, ?_, by rw [e]; exact Post.pure (rd := [id]) hr.wr hrv⟩
          simp [Instr.lookup, run_underlying' hu, getObj_map g3, hck, hfk]
        · refine ⟨_, w, ?_, by rw [e]; exact Post.pure (rd := [id]) hr.wr hrv⟩
          simp [Instr.lookup, run_underlying' hu, getObj_map g3, hck, hfk, run_zero' hi hz]
      split at h
      · rename_i m hfind
        cases h
        refine hmain _ undef rfl (fun en hen => ?_)
        obtain ⟨hck, _, f2⟩ := findIn_full hkk hk hfind hen w
        obtain ⟨g2, g3, _⟩ := f2 m rfl
        refine ⟨hck, _, g3, .inl ⟨rfl, m, _, rfl, ?_⟩⟩
        exact pair _ _ true (by have := (hen.2 m (by omega)).2.1; simpa using this)
      · rename_i hfind
        cases h
        refine hmain _ undef rfl (fun en hen => ?_)
        obtain ⟨hck, f1, _⟩ := findIn_full hkk hk hfind hen w
        exact ⟨hck, none, f1 rfl, .inr ⟨rfl, pair zero z false hzr⟩⟩
      · cases h
    · cases h
  · cases h

theorem getD_modify {en : Array MapEntry} {m j : Nat} {f : MapEntry → MapEntry} (hj : j < en.size) : (en.modify m f).toList.getD j default = if j = m then f (en.toList.getD j default) else en.toList.getD j default := by
  simp only [List.getD_eq_getElem?_getD, Array.getElem?_toList, Array.getElem?_modify]
  by_cases h : m = j
  · subst h; simp [hj]
  · simp [h, Ne.symm h]

theorem getD_set_es {es : List (PV × PV × Nat)} {m j : Nat} {e : PV × PV × Nat} (hm : m < es.length) : (es.set m e).getD j (.any, .any, 0) = if j = m then e else es.getD j (.any, .any, 0) := by
  simp only [List.getD_eq_getElem?_getD, List.getElem?_set]
  by_cases h : m = j
  · subst h; simp [hm]
  · simp [h, Ne.symm h]

theorem EntR.modify {es : List (PV × PV × Nat)} {en : Array MapEntry} {m : Nat} {e : PV × PV × Nat} {f : MapEntry → MapEntry} (h : EntR M φ es en.toList) (hm : m < es.length)
    (hk : Rv M φ e.1 (f (en.toList.getD m default)).key) (hv : Rv M φ e.2.1 (f (en.toList.getD m default)).val) (hb : e.2.2 = (f (en.toList.getD m default)).born) : EntR M φ (es.set m e) (en.modify m f).toList := by
  have hs : en.size = es.length := by simpa using h.1
  refine ⟨by simpa using h.1, fun j hj => ?_⟩
  simp only [List.length_set] at hj
  rw [getD_modify (by omega), getD_set_es hm]
  by_cases hjm : j = m
  · subst hjm; simp only [if_true]; exact ⟨hk, hv, hb⟩
  · simp only [hjm, if_false]; exact h.2 j hj

theorem EntR.push {es : List (PV × PV × Nat)} {en : Array MapEntry} {e : PV × PV × Nat} {x : MapEntry} (h : EntR M φ es en.toList) (hk : Rv M φ e.1 x.key) (hv : Rv M φ e.2.1 x.val) (hb : e.2.2 = x.born) :
    EntR M φ (es ++ [e]) (en.push x).toList := by
  have hs : en.size = es.length := by simpa using h.1
  refine ⟨by simp [hs], fun j hj => ?_⟩
  simp only [List.length_append, List.length_singleton] at hj
  simp only [Array.toList_push, List.getD_eq_getElem?_getD]
  by_cases hjm : j < es.length
  · rw [List.getElem?_append_left hjm, List.getElem?_append_left (by simpa [hs] using hjm)]
    have := h.2 j hjm
    simpa only [List.getD_eq_getElem?_getD] using this
  · have hj' : j = es.length := by omega
    subst hj'
    rw [List.getElem?_append_right (Nat.le_refl _), List.getElem?_append_right (by simp [hs])]
    simp [hs]
    exact ⟨hk, hv, hb⟩

theorem mapSet_sound {w : World} {ck : CK} {t kt et : TypeId} {m k v : Src} {vm vk vv : Value} {r : Res} {ρ : Src → PV} {cf : CallF}
    (h : evalOp cf (.mapSet ck m k v) ρ H n = some r) (hr : Ready M φ G w H n r) (hm : Rv M φ (ρ m) vm) (hk : Rv M φ (ρ k) vk) (hv : Rv M φ (ρ v) vv) (hu : P.underlying t = some (.map kt et)) (hkk : KeyOk P kt ck) :
    ∃ w', (Instr.mapUpdate t vm vk vv).run P w = .ok () w' ∧ Post M φ G n w r undef w' := by
  simp only [evalOp] at h
  split at h
  · rename_i id hρ
    rw [hρ] at hm
    cases hm with
    | map _ l hl =>
    split at h
    · rename_i es clock hH
      have hat : ∀ (r' : PV) (H' : Heap), r = ⟨r', H', n, ⟨[], [id], false⟩⟩ → G id = some (.map es clock) := by
        intro r' H' e; rw [hr.same id (by rw [e]; exact .inr (.inr (by simp))), hH]
      split at h
      · rename_i i hfind
        cases h
        have hG := hat _ _ rfl
        obtain ⟨l2, en, g1, g2, g3, g4⟩ := objr_map (hr.wr.obj id _ hG)
        obtain rfl : l = l2 := Option.some.inj (hl.symm.trans g1)
        obtain ⟨hck, _, f2⟩ := findIn_full hkk hk hfind g4 w
        obtain ⟨h2, hfk, h4⟩ := f2 i rfl
        have hi : i < en.size := by have := g4.1; simp at this; omega
        have hkey : ((en[i]?).map (·.key)).getD vk = (en.toList.getD i default).key := by simp [List.getD_eq_getElem?_getD, hi]
        refine ⟨{ w with heap := w.heap.setIfInBounds l.block (.map (en.modify i fun e => { e with key := vk, val := vv }) clock) }, ?_, ?_⟩
        · simp only [Instr.mapUpdate, Sem.run_bind, run_underlying' hu, Result.andThen_ok, getObj_map g3, hck, hfk, hkey, Instr.keyThatStays, h4, if_true, Sem.run_pure, setObj_map g3]
        · refine Post.turn (l := l) (rd := []) hr.wr hG rfl g1 ?_ rfl rfl rfl (by simp) (fun b hb => heap_set_ne hb) (.tup [] _ rfl (fun j hj => by simp at hj))
          exact map_objr g1 g2 (heap_set_at g3) (g4.modify h2 hk hv (g4.2 i h2).2.2)
      · rename_i hfind
        cases h
        have hG := hat _ _ rfl
        obtain ⟨l2, en, g1, g2, g3, g4⟩ := objr_map (hr.wr.obj id _ hG)
        obtain rfl : l = l2 := Option.some.inj (hl.symm.trans g1)
        obtain ⟨hck, f1, _⟩ := findIn_full hkk hk hfind g4 w
        have hfk := f1 rfl
        refine ⟨{ w with heap := w.heap.setIfInBounds l.block (.map (en.push { key := vk, val := vv, born := clock }) (clock + 1)) }, ?_, ?_⟩
        · simp only [Instr.mapUpdate, Sem.run_bind, run_underlying' hu, Result.andThen_ok, getObj_map g3, hck, hfk, setObj_map g3]
        · refine Post.turn (l := l) (rd := []) hr.wr hG rfl g1 ?_ rfl rfl rfl (by simp) (fun b hb => heap_set_ne hb) (.tup [] _ rfl (fun j hj => by simp at hj))
          exact map_objr g1 g2 (heap_set_at g3) (g4.push hk hv rfl)
      · cases h
    · cases h
  · cases h

theorem pair_rv {p q : PV} {u v : Value} (hp : Rv M φ p u) (hq : Rv M φ q v) : Rv M φ (.tup [p, q]) (.tuple #[u, v]) := by
  refine .tup _ _ rfl (fun j hj => ?_)
  match j, hj with
  | 0, _ => simpa using hp
  | 1, _ => simpa using hq

theorem mapEntry_sound {w : World} {ck : CK} {t kt et : TypeId} {i : TypeInfo} {z : Value} {zero : PV} {m k : Src} {vm vk : Value} {r : Res} {ρ : Src → PV} {cf : CallF}
    (h : evalOp cf (.mapEntry ck zero m k) ρ H n = some r) (hr : Ready M φ G w H n r) (hm : Rv M φ (ρ m) vm) (hk : Rv M φ (ρ k) vk) (hu : P.underlying t = some (.map kt et)) (hkk : KeyOk P kt ck)
    (hi : P.info? et = some i) (hz : i.zero = some z) (hzr : Rv M φ zero z) : ∃ v w', (Instr.mapEntry t vm vk).run P w = .ok v w' ∧ Post M φ G n w r v w' := by
  simp only [evalOp] at h
  split at h
  · rename_i id hρ
    rw [hρ] at hm
    cases hm with
    | map _ l hl =>
    split at h
    · rename_i es clock hH
      have hat : ∀ (r' : PV) (H' : Heap), r = ⟨r', H', n, ⟨[], [id], false⟩⟩ → G id = some (.map es clock) := by
        intro r' H' e; rw [hr.same id (by rw [e]; exact .inr (.inr (by simp))), hH]
      split at h
      · rename_i x hfind
        cases h
        have hG := hat _ _ rfl
        obtain ⟨l2, en, g1, g2, g3, g4⟩ := objr_map (hr.wr.obj id _ hG)
        obtain rfl : l = l2 := Option.some.inj (hl.symm.trans g1)
        obtain ⟨hck, _, f2⟩ := findIn_full hkk hk hfind g4 w
        obtain ⟨h2, hfk, h4⟩ := f2 x rfl
        have hi : x < en.size := by have := g4.1; simp at this; omega
        have hkey : ((en[x]?).map (·.key)).getD vk = (en.toList.getD x default).key := by simp [List.getD_eq_getElem?_getD, hi]
        have hborn : ((en[x]?).map (fun e => (e.born : Int))).getD 0 = (en.toList.getD x default).born := by simp [List.getD_eq_getElem?_getD, hi]
        refine ⟨.tuple #[(en.toList.getD x default).val, goInt ((en.toList.getD x default).born)], { w with heap := w.heap.setIfInBounds l.block (.map (en.modify x fun e => { e with key := vk }) clock) }, ?_, ?_⟩
        · simp only [Instr.mapEntry, Sem.run_bind, run_underlying' hu, Result.andThen_ok, getObj_map g3, hck, hfk, hkey, hborn, Instr.keyThatStays, h4, if_true, Sem.run_pure, setObj_map g3]
        · refine Post.turn (l := l) (rd := []) hr.wr hG rfl g1 ?_ rfl rfl rfl (by simp) (fun b hb => heap_set_ne hb) (pair_rv (g4.2 x h2).2.1 (by rw [(g4.2 x h2).2.2]; exact .int _ _))
          exact map_objr g1 g2 (heap_set_at g3) (g4.modify h2 hk (g4.2 x h2).2.1 (g4.2 x h2).2.2)
      · rename_i hfind
        cases h
        have hG := hat _ _ rfl
        obtain ⟨l2, en, g1, g2, g3, g4⟩ := objr_map (hr.wr.obj id _ hG)
        obtain rfl : l = l2 := Option.some.inj (hl.symm.trans g1)
        obtain ⟨hck, f1, _⟩ := findIn_full hkk hk hfind g4 w
        have hfk := f1 rfl
        refine ⟨.tuple #[z, goInt clock], { w with heap := w.heap.setIfInBounds l.block (.map (en.push { key := vk, val := z, born := clock }) (clock + 1)) }, ?_, ?_⟩
        · simp only [Instr.mapEntry, Sem.run_bind, run_underlying' hu, Result.andThen_ok, getObj_map g3, hck, hfk, run_zero' hi hz, setObj_map g3, Sem.run_pure]
        · refine Post.turn (l := l) (rd := []) hr.wr hG rfl g1 ?_ rfl rfl rfl (by simp) (fun b hb => heap_set_ne hb) (pair_rv hzr (.int _ _))
          exact map_objr g1 g2 (heap_set_at g3) (g4.push hk hzr rfl)
      · cases h
    · cases h
  · cases h

theorem entrySet_sound {w : World} {t : TypeId} {m s v : Src} {vm vs vv : Value} {r : Res} {ρ : Src → PV} {cf : CallF} (h : evalOp cf (.entrySet m s v) ρ H n = some r) (hr : Ready M φ G w H n r) (hm : Rv M φ (ρ m) vm) (hs : Rv M φ (ρ s) vs) (hv : Rv M φ (ρ v) vv) :
    ∃ w', (Instr.entryStore t vm vs vv).run P w = .ok () w' ∧ Post M φ G n w r undef w' := by
  simp only [evalOp] at h
  split at h
  · rename_i id kk b hρ hρ2
    rw [hρ] at hm
    rw [hρ2] at hs
    cases hs
    cases hm with
    | map _ l hl =>
    split at h
    · rename_i es clock hH
      split at h
      · rename_i i hfind
        cases h
        have hG : G id = some (.map es clock) := by rw [hr.same id (.inr (.inr (by simp))), hH]
        obtain ⟨l2, en, g1, g2, g3, g4⟩ := objr_map (hr.wr.obj id _ hG)
        obtain rfl : l = l2 := Option.some.inj (hl.symm.trans g1)
        obtain ⟨hi, hp1, hp2⟩ := List.findIdx?_eq_some_iff_getElem.1 hfind
        have hsz : en.size = es.length := by simpa using g4.1
        have hborn : ∀ j (hj : j < es.length), (es[j]).2.2 = (en.toList.getD j default).born := by
          intro j hj
          have := (g4.2 j hj).2.2
          simpa [List.getD_eq_getElem?_getD, hj] using this
        have hf : en.findIdx? (fun e => (e.born : Int) == b) = some i := by
          rw [Array.findIdx?_eq_some_iff_getElem]
          refine ⟨by omega, ?_, fun j hj => ?_⟩
          · have := hborn i hi
            simp only [List.getD_eq_getElem?_getD, Array.getElem?_toList, Array.getElem?_eq_getElem (show i < en.size by omega), Option.getD_some] at this
            rw [← this]; exact hp1
          · have := hborn j (by omega)
            simp only [List.getD_eq_getElem?_getD, Array.getElem?_toList, Array.getElem?_eq_getElem (show j < en.size by omega), Option.getD_some] at this
            have h2 := hp2 j hj
            rw [← this]; exact h2
        refine ⟨{ w with heap := w.heap.setIfInBounds l.block (.map (en.modify i fun e => { e with val := vv }) clock) }, ?_, ?_⟩
        · simp [Instr.entryStore, getObj_map g3, asInt, asIntOf, hf, setObj_map g3]
        · refine Post.turn (l := l) (rd := []) hr.wr hG rfl g1 ?_ rfl rfl rfl (by simp) (fun b hb => heap_set_ne hb) (.tup [] _ rfl (fun j hj => by simp at hj))
          exact map_objr g1 g2 (heap_set_at g3) (g4.modify hi (g4.2 i hi).1 hv (g4.2 i hi).2.2)
      · cases h
    · cases h
  · cases h

theorem range_sound {w : World} {t : TypeId} {m : Src} {vm : Value} {r : Res} {ρ : Src → PV} {cf : CallF} {k e : TypeId} (hu : P.underlying t = some (.map k e)) (h : evalOp cf (.range m) ρ H n = some r) (hr : Ready M φ G w H n r) (hm : Rv M φ (ρ m) vm) :
    ∃ v w', (Instr.range t vm).run P w = .ok v w' ∧ Post M φ G n w r v w' := by
  simp only [evalOp] at h
  split at h
  · rename_i id hρ
    rw [hρ] at hm
    cases hm with
    | map _ l hl =>
    split at h
    · rename_i clock hH
      cases h
      have hG : G id = some (.map [] clock) := by rw [hr.same id (.inr (.inl (by simp))), hH]
      have hn : ∀ v, φ n v = none := fun v => hr.fresh n (Nat.le_refl _) (.inr (by simp)) v
      obtain ⟨l2, en, g1, g2, g3, g4⟩ := objr_map (hr.wr.obj id _ hG)
      obtain rfl : l = l2 := Option.some.inj (hl.symm.trans g1)
      refine ⟨.pointer (some ⟨w.heap.size, 0, none⟩), w.alloc (.mapIter (some l.block) clock #[] clock), by simp [Instr.range, run_underlying' hu, getObj_map g3], ?_⟩
      have hne : id ≠ n := fun e => by subst e; rw [hn 0] at hl; cases hl
      refine Post.new (rd := [id]) (l' := ⟨w.heap.size, 0, 1, 1⟩) hr.wr rfl hn _ rfl ?_ (.ptr n 0 1 0 0 ⟨w.heap.size, 0, 1, 1⟩ (φ.set_at n 0 _) rfl)
      refine .miter (some id) clock [] clock ⟨w.heap.size, 0, 1, 1⟩ (some l.block) (φ.set_at n 0 _) (fun v hv => by rw [φ.set_ver n 0 _ n v (by omega)]; exact hn v) (heap_new _ _) ⟨fun h => (by cases h), rfl⟩ ?_
      intro mid hmid
      cases hmid
      exact ⟨l, by rw [φ.set_other n 0 _ id 0 hne]; exact hl, rfl⟩
    · cases h
  · cases h

theorem next_sound {w : World} {t : TypeId} {it : Src} {vi : Value} {r : Res} {ρ : Src → PV} {cf : CallF} (h : evalOp cf (.next it) ρ H n = some r) (hr : Ready M φ G w H n r) (hi : Rv M φ (ρ it) vi) :
    ∃ v w', (Instr.next vi false t).run P w = .ok v w' ∧ Post M φ G n w r v w' := by
  simp only [evalOp] at h
  split at h
  · rename_i id hρ
    rw [hρ] at hi
    cases hi with
    | ptr _ _ _ _ _ l hl hk =>
    split at h
    · rename_i m since seen stepped hH
      split at h
      · rename_i clock hH2
        cases h
        have hG : G id = some (.miter (some m) since seen stepped) := by rw [hr.same id (.inr (.inl (by simp))), hH]
        have hG2 : G m = some (.map [] clock) := by rw [hr.same m (.inr (.inl (by simp))), hH2]
        obtain ⟨l2, en, g1, g2, g3, g4⟩ := objr_map (hr.wr.obj m _ hG2)
        have ho := hr.wr.obj id _ hG
        cases ho with
        | miter _ _ _ _ l3 m' o1 o2 o3 o4 o5 =>
        obtain rfl : l = l3 := Option.some.inj (hl.symm.trans o1)
        obtain ⟨lm, p1, p2⟩ := o5 m rfl
        obtain rfl : l2 = lm := Option.some.inj (g1.symm.trans p1)
        subst p2
        have hen : en = #[] := by have := g4.1; simp at this; exact this
        subst hen
        have hit : (getObj l.block).run P w = .ok (.mapIter (some l2.block) since seen.toArray stepped) w := by simp [getObj, Sem.run, o3]
        refine ⟨.tuple #[.bool false], w, ?_, Post.pure (rd := [id, m]) hr.wr (.tup _ _ rfl (fun j hj => ?_))⟩
        · simp [Instr.next, cellOf, o4.2, hit, getObj_map g3, Question.forced]
        · match j, hj with
          | 0, _ => exact .bool false
      · cases h
    · cases h
  · cases h

end
end Go.Vm
