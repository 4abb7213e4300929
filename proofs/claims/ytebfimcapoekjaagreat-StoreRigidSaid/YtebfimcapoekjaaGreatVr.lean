/-
  REGIONS: whatever the order that its edges allow, a region comes to what it comes to in the order of the text.
-/
import Derived.Test.YtebfimcapoekjaaGreatVq
namespace Go.Vm

/-- the slots that an operation looks at -/
def looks (o : Oper) : List Nat := o.op.operands.toList.filterMap fun | .tmp t => some t | _ => none

def dstAt (ops : Array Oper) (j : Nat) : Option Nat := (ops[j]?).bind (·.dst)

def slotR (ops : Array Oper) (live : List Nat) (i : Nat) (s : Nat) : Option Src :=
  if (looks (ops.getD i default)).contains s then
    match (List.range i).find? (fun j => dstAt ops j == some s) with
    | some j => some (.t j)
    | none => (live.idxOf? s).map .x
  else none

def regOps (P : Program) (live : List Nat) (hints : List Nat) (ts : List TypeId) (ops : Array Oper) : List IOper :=
  (List.range ops.size).map fun i => { op := trOp P (trO (slotR ops live i)) (hints.getD i 0) ts (ops.getD i default), guard := (ops.getD i default).guard }

def regOut (live : List Nat) (ops : Array Oper) : List (Nat × Src) :=
  (List.range live.length).filterMap fun p => ((List.range ops.size).find? (fun j => dstAt ops j == live[p]?)).map fun j => (p, .t j)

def dstsOk (ntmps : Nat) (ops : Array Oper) : Bool :=
  (List.range ops.size).all fun j => (match dstAt ops j with | some d => d < ntmps | none => true) && (List.range j).all fun i => (dstAt ops i).isNone || dstAt ops i != dstAt ops j

def guardsOk (ops : Array Oper) : Bool :=
  (List.range ops.size).all fun i => match (ops.getD i default).guard with | some (g, _) => g < i && (dstAt ops g).isSome | none => true

/-- masks of what comes ahead -/
def masksOk (ops : Array Oper) (ms : List Nat) : Bool :=
  (List.range ops.size).all fun i =>
    ((ops.getD i default).after.toList.all fun e => !Region.binds .any e || e.on < i) &&
    (List.range ops.size).all fun k => !(ms.getD i 0).testBit k ||
      (ops.getD i default).after.toList.any fun e => Region.binds .any e && (e.on == k || (ms.getD e.on 0).testBit k)

/-- slots are written and looked at in the order of the masks -/
def orderOk (ops : Array Oper) (ms : List Nat) : Bool :=
  (List.range ops.size).all fun j =>
    (match (ops.getD j default).guard with | some (g, _) => (ms.getD j 0).testBit g | none => true) &&
    (List.range j).all fun i => (ms.getD j 0).testBit i ||
      ((match dstAt ops i with | some d => !(looks (ops.getD j default)).contains d | none => true) && (match dstAt ops j with | some d => !(looks (ops.getD i default)).contains d | none => true))

def trRegion (P : Program) (live : List Nat) (ntmps : Nat) (hints : List Nat) (ts : List TypeId) (ops : Array Oper) (draw : Bool) : Option IReg :=
  if dstsOk ntmps ops && guardsOk ops then
    if draw then
      if masksOk ops (Region.before ops).toList && orderOk ops (Region.before ops).toList then some ⟨regOps P live hints ts ops, regOut live ops, some (Region.before ops).toList⟩ else none
    else some ⟨regOps P live hints ts ops, regOut live ops, none⟩
  else none

theorem dstsOk_spec {ntmps : Nat} {ops : Array Oper} (h : dstsOk ntmps ops = true) : (∀ j d, dstAt ops j = some d → d < ntmps) ∧ ∀ i j d, dstAt ops i = some d → dstAt ops j = some d → i = j := by
  simp only [dstsOk, List.all_eq_true, List.mem_range, Bool.and_eq_true, Bool.or_eq_true, Option.isNone_iff_eq_none, bne_iff_ne, ne_eq] at h
  have hlt : ∀ j d, dstAt ops j = some d → j < ops.size := by
    intro j d hj
    unfold dstAt at hj
    rcases Nat.lt_or_ge j ops.size with h | h
    · exact h
    · simp [Array.getElem?_eq_none h] at hj
  refine ⟨fun j d hj => ?_, fun i j d hi hj => ?_⟩
  · have := (h j (hlt j d hj)).1
    rw [hj] at this; simpa using this
  · rcases Nat.lt_trichotomy i j with hij | hij | hij
    · have := (h j (hlt j d hj)).2 i hij
      rw [hi, hj] at this; simp at this
    · exact hij
    · have := (h i (hlt i d hi)).2 j hij
      rw [hi, hj] at this; simp at this

theorem guardsOk_spec {ops : Array Oper} (h : guardsOk ops = true) {i g : Nat} {b : Bool} (hi : i < ops.size) (hg : (ops.getD i default).guard = some (g, b)) : g < i ∧ ∃ d, dstAt ops g = some d := by
  simp only [guardsOk, List.all_eq_true, List.mem_range] at h
  have := h i hi
  rw [hg] at this
  simp only [Bool.and_eq_true, decide_eq_true_eq, Option.isSome_iff_exists] at this
  exact this

theorem slotR_spec {ops : Array Oper} {live : List Nat} {i s : Nat} {io : Src} (h : slotR ops live i s = some io) :
    s ∈ looks (ops.getD i default) ∧ ((∃ j, j < i ∧ dstAt ops j = some s ∧ io = .t j) ∨ ((∀ j, j < i → dstAt ops j ≠ some s) ∧ ∃ p, live[p]? = some s ∧ io = .x p)) := by
  unfold slotR at h
  split at h
  · rename_i hc
    refine ⟨by simpa using hc, ?_⟩
    split at h
    · rename_i j hj
      cases h
      have h1 := List.find?_some hj
      have h2 := List.mem_of_find?_eq_some hj
      exact .inl ⟨j, by simpa using h2, by simpa using h1, rfl⟩
    · rename_i hj
      simp only [Option.map_eq_some_iff] at h
      obtain ⟨p, hp, rfl⟩ := h
      refine .inr ⟨fun j hj' he => ?_, p, ?_, rfl⟩
      · have := List.find?_eq_none.1 hj j (by simpa using hj')
        simp [he] at this
      · have := List.of_findIdx?_eq_some hp
        cases hl : live[p]? with
        | none => simp [hl] at this
        | some x => simp [hl] at this; rw [this]
  · cases h

theorem getD_array {α : Type} [Inhabited α] (ops : Array α) (i : Nat) (h : i < ops.size) : ops[i]? = some (ops.getD i default) := by
  simp [Array.getD, h]

theorem getD_map_range {α : Type} (N i : Nat) (f : Nat → α) (d : α) (h : i < N) : ((List.range N).map f).getD i d = f i := by
  simp [List.getD_eq_getElem?_getD, h]

/-- what a region's run in the order of the text has told -/
structure Told (cf : CallF) (S : List PV) (ops : List IOper) (T : List PV) (L : List Fp) (Hs : Nat → Heap) (ns : Nat → Nat) : Prop where
  len : T.length = ops.length
  step : ∀ i, i < ops.length → StepAt cf S (ops.getD i default) (T.take i) (T.getD i .any) (Hs i) (Hs (i + 1)) (ns i) (ns (i + 1)) (L.getD i .no)

theorem Told.frame {cf : CallF} {S : List PV} {ops : List IOper} {T : List PV} {L : List Fp} {Hs : Nat → Heap} {ns : Nat → Nat} (h : Told cf S ops T L Hs ns) (hcf : Rising cf) {i : Nat} (hi : i < ops.length) :
    (∀ id, ¬ (L.getD i .no).on id → (Hs (i + 1)).get id = (Hs i).get id) ∧ ns i ≤ ns (i + 1) ∧ ∀ id, id < ns i → (Hs i).get id = none → (Hs (i + 1)).get id = none := by
  rcases h.step i hi with ⟨_, h1⟩ | ⟨_, _, h1, h2, _⟩
  · exact evalOp_frame hcf h1
  · exact ⟨fun id _ => by rw [h1], by omega, fun id _ hn => by rw [h1]; exact hn⟩

theorem Told.mono {cf : CallF} {S : List PV} {ops : List IOper} {T : List PV} {L : List Fp} {Hs : Nat → Heap} {ns : Nat → Nat} (h : Told cf S ops T L Hs ns) (hcf : Rising cf) : ∀ {i j : Nat}, i ≤ j → j ≤ ops.length → ns i ≤ ns j := by
  intro i j hij hj
  induction j with
  | zero => have : i = 0 := by omega
            subst this; exact Nat.le_refl _
  | succ j ih =>
    rcases Nat.lt_or_ge i (j + 1) with h1 | h1
    · exact Nat.le_trans (ih (by omega) (by omega)) (h.frame hcf (by omega)).2.1
    · have : i = j + 1 := by omega
      subst this; exact Nat.le_refl _

theorem Told.same {cf : CallF} {S : List PV} {ops : List IOper} {T : List PV} {L : List Fp} {Hs : Nat → Heap} {ns : Nat → Nat} (h : Told cf S ops T L Hs ns) (hcf : Rising cf) (id : Nat) : ∀ {i j : Nat}, i ≤ j → j ≤ ops.length →
    (∀ k, i ≤ k → k < j → ¬ (L.getD k .no).on id) → (Hs j).get id = (Hs i).get id := by
  intro i j hij hj hno
  induction j with
  | zero => have : i = 0 := by omega
            subst this; rfl
  | succ j ih =>
    rcases Nat.lt_or_ge i (j + 1) with h1 | h1
    · rw [(h.frame hcf (by omega)).1 id (hno j (by omega) (by omega))]
      exact ih (by omega) (by omega) (fun k hk hk' => hno k hk (by omega))
    · have : i = j + 1 := by omega
      subst this; rfl

theorem Told.none {cf : CallF} {S : List PV} {ops : List IOper} {T : List PV} {L : List Fp} {Hs : Nat → Heap} {ns : Nat → Nat} (h : Told cf S ops T L Hs ns) (hcf : Rising cf) (id : Nat) (hid : id < ns 0) (h0 : (Hs 0).get id = none) :
    ∀ {j : Nat}, j ≤ ops.length → (Hs j).get id = none := by
  intro j hj
  induction j with
  | zero => exact h0
  | succ j ih =>
    have := h.mono hcf (i := 0) (j := j) (Nat.zero_le _) (by omega)
    exact (h.frame hcf (by omega)).2.2 id (by omega) (ih (by omega))

theorem lastOn (f : Nat → Prop) : ∀ i, (∀ j, j < i → ¬ f j) ∨ ∃ j, j < i ∧ f j ∧ ∀ k, j < k → k < i → ¬ f k
  | 0 => .inl (fun j hj => by omega)
  | i + 1 => by
    by_cases h : f i
    · exact .inr ⟨i, by omega, h, fun k h1 h2 => by omega⟩
    · rcases lastOn f i with h1 | ⟨j, h1, h2, h3⟩
      · exact .inl (fun j hj => by rcases Nat.lt_or_ge j i with h' | h'; · exact h1 j h'
                                   · have : j = i := by omega
                                     subst this; exact h)
      · refine .inr ⟨j, by omega, h2, fun k hk1 hk2 => ?_⟩
        rcases Nat.lt_or_ge k i with h' | h'
        · exact h3 k hk1 h'
        · have : k = i := by omega
          subst this; exact h

/-- where a region's run stands, when the operations D are done -/
structure Inv (M₀ : Mem) (φ₀ : Places) (G₀ : Objs) (n₀ : Nat) (w₀ : World) (live : List Nat) (ntmps : Nat) (S : List PV) (ops : Array Oper) (T : List PV) (L : List Fp) (Hs : Nat → Heap) (ns : Nat → Nat)
    (D : Nat → Prop) (a : Act) (w : World) (M : Mem) (φ : Places) (G : Objs) : Prop where
  size : ntmps ≤ a.tmps.size
  defers : a.defers = []
  slots : ∀ j, D j → ∀ d, dstAt ops j = some d → Rv M φ (T.getD j .any) (a.tmps.getD d undef)
  live : ∀ p s, live[p]? = some s → (∀ j, D j → dstAt ops j ≠ some s) → Rv M φ (S.getD p .any) (a.tmps.getD s undef)
  wr : WR M φ G w
  ext : Ext M₀ φ₀ G₀ n₀ w₀ M φ G n₀ w
  old : ∀ id, (∀ j, D j → ¬ (L.getD j .no).on id) → G id = (Hs 0).get id
  new : ∀ id j, D j → (L.getD j .no).on id → (∀ k, D k → (L.getD k .no).on id → k ≤ j) → G id = (Hs (j + 1)).get id
  fresh : ∀ id ver, ns 0 ≤ id → φ id ver ≠ none → ∃ j, D j ∧ (L.getD j .no).on id ∧ id < ns (j + 1)
  low : ∀ id ver, id < ns 0 → (Hs 0).get id = none → φ id ver = φ₀ id ver

theorem getD_put {a : Act} {dst : Option Nat} {v : Value} {s : Nat} (h : ∀ d, dst = some d → d ≠ s) : (a.put dst v).tmps.getD s undef = a.tmps.getD s undef := by
  cases dst with
  | none => rfl
  | some d =>
    show (a.tmps.setIfInBounds d v).getD s undef = _
    simp only [Array.getD_eq_getD_getElem?, Array.getElem?_setIfInBounds_ne (h d rfl)]

theorem getD_put_same {a : Act} {d : Nat} {v : Value} (h : d < a.tmps.size) : (a.put (some d) v).tmps.getD d undef = v := by
  show (a.tmps.setIfInBounds d v).getD d undef = v
  simp [Array.getD_eq_getD_getElem?, h]

theorem put_size {a : Act} {dst : Option Nat} {v : Value} : (a.put dst v).tmps.size = a.tmps.size := by cases dst <;> simp [Act.put]
theorem put_defers {a : Act} {dst : Option Nat} {v : Value} : (a.put dst v).defers = a.defers := by cases dst <;> rfl

section
variable {P : Program} {cf : CallF} {M₀ : Mem} {φ₀ : Places} {G₀ : Objs} {n₀ : Nat} {w₀ : World} {lv : List Nat} {ntmps : Nat} {S : List PV} {ops : Array Oper} {hints : List Nat} {ts : List TypeId} {T : List PV} {L : List Fp}
  {Hs : Nat → Heap} {ns : Nat → Nat} {D : Nat → Prop} {a : Act} {w : World} {M : Mem} {φ : Places} {G : Objs}

/-- one operation more -/
theorem inv_op_of {Q : Exit → Act → World → Prop} (hcf : FSound P cf) (hrise : Rising cf) (hd : dstsOk ntmps ops = true) (hg : guardsOk ops = true) (ht : Told cf S (regOps P lv hints ts ops) T L Hs ns)
    (hinv : Inv M₀ φ₀ G₀ n₀ w₀ lv ntmps S ops T L Hs ns D a w M φ G) {i : Nat} (hi : i < ops.size) (hDi : ¬ D i) (hDlt : ∀ j, D j → j < ops.size)
    (h1 : ∀ j s, j < i → dstAt ops j = some s → s ∈ looks (ops.getD i default) → D j) (h2 : ∀ k s, D k → i < k → dstAt ops k = some s → s ∉ looks (ops.getD i default))
    (h3 : ∀ g b, (ops.getD i default).guard = some (g, b) → D g) (h4 : ∀ k id, D k → i < k → (L.getD k .no).on id → ¬ (L.getD i .no).on id)
    (hx : evalOp cf ((regOps P lv hints ts ops).getD i default).op (Src.ev S (T.take i)) (Hs i) (ns i) = some ⟨T.getD i .any, Hs (i + 1), ns (i + 1), L.getD i .no⟩ →
      ∃ H1 n1 r1, evalOp cf ((regOps P lv hints ts ops).getD i default).op (Src.ev S (T.take i)) H1 n1 = some r1 ∧ Ready M φ G w H1 n1 r1 ∧
        ∀ v w', Post M φ G n1 w r1 v w' → Post M φ G (ns i) w ⟨T.getD i .any, Hs (i + 1), ns (i + 1), L.getD i .no⟩ v w')
    {K : Act → World → Prop} (hK : ∀ a' w' M' φ' G', Inv M₀ φ₀ G₀ n₀ w₀ lv ntmps S ops T L Hs ns (fun j => D j ∨ j = i) a' w' M' φ' G' → K a' w') : wpOp P ops Q i K a w := by
  obtain ⟨hd1, hd2⟩ := dstsOk_spec hd
  have hlen : (regOps P lv hints ts ops).length = ops.size := by simp [regOps]
  have hTlen : T.length = ops.size := by rw [ht.len, hlen]
  have hoi := getD_array ops i hi
  have hstep := ht.step i (by rw [hlen]; exact hi)
  have hopi : (regOps P lv hints ts ops).getD i default = { op := trOp P (trO (slotR ops lv i)) (hints.getD i 0) ts (ops.getD i default), guard := (ops.getD i default).guard } := by
    unfold regOps; exact getD_map_range _ _ _ _ hi
  rw [hopi] at hstep hx
  unfold StepAt at hstep
  simp only at hstep
  have hTtake : ∀ j, j < i → (T.take i).getD j .any = T.getD j .any := by
    intro j hj
    simp [List.getD_eq_getElem?_getD, hj]
  have hdsti : dstAt ops i = (ops.getD i default).dst := by unfold dstAt; rw [hoi]; rfl
  generalize ho : ops.getD i default = o at *
  -- the guard
  have hguard : ∀ b, wants (T.take i) o.guard = some b → Region.wanted o (yielded ops a.tmps) = b := by
    intro b hb
    unfold wants at hb
    unfold Region.wanted
    split at hb
    · rename_i hgn
      rw [hgn]; cases hb; rfl
    · rename_i g want hgs
      obtain ⟨hgi, d, hdg⟩ := guardsOk_spec hg hi (by rw [ho]; exact hgs)
      have hDg := h3 g want hgs
      have hrv := hinv.slots g hDg d hdg
      rw [hTtake g hgi] at hb
      have hyield : yielded ops a.tmps g = match a.tmps.getD d undef with | .bool x => some x | _ => none := by
        have hlt : d < a.tmps.size := Nat.lt_of_lt_of_le (hd1 g d hdg) hinv.size
        have hdg' : (ops[g]?).bind (·.dst) = some d := hdg
        simp only [yielded, hdg', Option.bind_some]
        rw [Array.getElem?_eq_getElem hlt]
        simp only [Array.getD, hlt, dite_true]
        show (match (some a.tmps[d]) with | some (.bool b) => some b | _ => none) = (match a.tmps[d] with | .bool x => some x | _ => none)
        cases a.tmps[d] <;> rfl
      rw [hgs]
      simp only [hyield]
      generalize T.getD g .any = tg at hb hrv
      generalize a.tmps.getD d undef = vg at hrv ⊢
      split at hb
      · cases hrv
        cases hb
        simp
      · cases hrv
        cases hb
        simp
      · cases hb
  unfold wpOp
  rw [hoi]
  simp only
  rcases hstep with ⟨hw, hev⟩ | ⟨hw, ht0, hH, hn, hL⟩
  · -- done
    rw [hguard true hw]
    simp only [if_true]
    left
    -- operands
    have htr : ∀ x io, trO (slotR ops lv i) x = some io → Rv M φ (Src.ev S (T.take i) io) (a.eval x) := by
      intro x io hx
      cases x with
      | tmp s =>
        simp only [trO] at hx
        obtain ⟨hs, hcase⟩ := slotR_spec hx
        rw [ho] at hs
        rcases hcase with ⟨j, hj, hdj, rfl⟩ | ⟨hno, p, hp, rfl⟩
        · simp only [Src.ev, Act.eval]
          rw [hTtake j hj]
          exact hinv.slots j (h1 j s hj hdj hs) s hdj
        · simp only [Src.ev, Act.eval]
          refine hinv.live p s hp (fun k hk hdk => ?_)
          rcases Nat.lt_trichotomy k i with hki | hki | hki
          · exact hno k hki hdk
          · subst hki; exact hDi hk
          · exact h2 k s hk hki hdk hs
      | const v =>
        simp only [trO, Option.map_eq_some_iff] at hx
        obtain ⟨p, hp, rfl⟩ := hx
        exact cvV_sound hp
      | global g =>
        simp only [trO, Option.some.injEq] at hx
        subst hx
        exact .any _
      | func f =>
        simp only [trO, Option.some.injEq] at hx
        subst hx
        exact .func f [] [] #[] #[] rfl rfl (fun j hj => by simp at hj) (fun j hj => by simp at hj)
    obtain ⟨H1, n1, r1, hev1, hready, hback⟩ := hx hev
    have hsound := op_sound (P := P) (M := M) (φ := φ) (G := G) (w := w) (H := H1) (n := n1) (σ := a.eval) hcf (fun v => rfl) htr hev1 hready
    replace hsound := OpSem.mono hsound hback
    -- what is left
    have hpost : ∀ v w', Post M φ G (ns i) w ⟨T.getD i .any, Hs (i + 1), ns (i + 1), L.getD i .no⟩ v w' → K (a.put o.dst v) w' := by
      rintro v w' ⟨M', φ', G', p1, p2, p3, p4, p5, p6, p7, p8⟩
      refine hK _ _ M' φ' G' ⟨by rw [put_size]; exact hinv.size, by rw [put_defers]; exact hinv.defers, ?_, ?_, p2, (hinv.ext.trans (p3.count_any (Nat.le_refl n₀))), ?_, ?_, ?_, ?_⟩
      · intro j hj d hdj
        rcases hj with hj | rfl
        · rw [getD_put (fun d' hd' => ?_)]
          · exact (hinv.slots j hj d hdj).mono p3.mem p3.places
          · intro e
            subst e
            have := hd2 i j _ (by rw [hdsti]; exact hd') hdj
            subst this; exact hDi hj
        · have e : o.dst = some d := by rw [← hdsti]; exact hdj
          rw [e, getD_put_same (Nat.lt_of_lt_of_le (hd1 _ _ hdj) hinv.size)]
          exact p1
      · intro p s hp hno
        rw [getD_put (fun d' hd' => ?_)]
        · exact (hinv.live p s hp (fun j hj => hno j (.inl hj))).mono p3.mem p3.places
        · intro e
          subst e
          exact hno i (.inr rfl) (by rw [hdsti]; exact hd')
      · intro id hno
        rw [p5 id (hno i (.inr rfl))]
        exact hinv.old id (fun j hj => hno j (.inl hj))
      · intro id j hj hon hmax
        by_cases honi : (L.getD i .no).on id
        · rw [p4 id honi]
          -- i is the last
          have hij := hmax i (.inr rfl) honi
          rcases hj with hj | rfl
          · rcases Nat.lt_or_ge i j with hlt | hge
            · exact absurd honi (h4 j id hj hlt hon)
            · have : j = i := by omega
              subst this; exact absurd hj hDi
          · rfl
        · rw [p5 id honi]
          rcases hj with hj | rfl
          · exact hinv.new id j hj hon (fun k hk => hmax k (.inl hk))
          · exact absurd hon honi
      · intro id ver hid hne
        by_cases hold : φ id ver = none
        · have honi : (L.getD i .no).on id := by
            rcases Classical.em ((L.getD i .no).on id) with h | h
            · exact h
            · rw [p6 id ver h] at hne; exact absurd hold hne
          refine ⟨i, .inr rfl, honi, ?_⟩
          rcases Nat.lt_or_ge id (ns (i + 1)) with h | h
          · exact h
          · exact absurd (p7 id ver h hold) hne
        · obtain ⟨j, hj, hon, hlt⟩ := hinv.fresh id ver hid hold
          exact ⟨j, .inl hj, hon, hlt⟩
      · intro id ver hid hno
        have h0i := ht.mono hrise (i := 0) (j := i) (Nat.zero_le _) (by rw [hlen]; omega)
        by_cases honi : (L.getD i .no).on id
        · -- an object that is turned was there
          by_cases hGn : G id = none
          · rw [p8 id ver (by omega) hGn]
            exact hinv.low id ver hid hno
          · exfalso
            rcases Classical.em (∃ j, D j ∧ (L.getD j .no).on id) with hex | hnn
            · obtain ⟨j, hj, hon, hmax⟩ : ∃ j, D j ∧ (L.getD j .no).on id ∧ ∀ k, D k → (L.getD k .no).on id → k ≤ j := by
                rcases lastOn (fun j => D j ∧ (L.getD j .no).on id) ops.size with h | ⟨j, h1, h2, h3⟩
                · obtain ⟨j, hj, hon⟩ := hex
                  exact absurd ⟨hj, hon⟩ (h j (hDlt j hj))
                · refine ⟨j, h2.1, h2.2, fun k hk hon => ?_⟩
                  rcases Nat.lt_or_ge j k with h | h
                  · exact absurd ⟨hk, hon⟩ (h3 k h (hDlt k hk))
                  · exact h
              rw [hinv.new id j hj hon hmax] at hGn
              exact hGn (ht.none hrise id hid hno (by rw [hlen]; have := hDlt j hj; omega))
            · rw [hinv.old id (fun j hj hon => hnn ⟨j, hj, hon⟩)] at hGn
              exact hGn hno
        · rw [p6 id ver honi]
          exact hinv.low id ver hid hno
    unfold OpSem at hsound
    unfold Oper.wp Oper.upon
    split at hsound
    · rename_i v w' hrun
      rw [hrun]
      exact hpost v w' hsound
    · rename_i w' hrun
      rw [hrun]
      exact hpost undef w' hsound
    · rename_i f args w' hrun
      rw [hrun]
      refine hsound.mono ?_
      rintro e w'' ⟨v, rfl, hp⟩
      exact hpost v w'' hp
    · exact hsound.elim
  · -- left out
    rw [hguard false hw]
    simp only [Bool.false_eq_true, if_false]
    have hno : ∀ id, ¬ (L.getD i .no).on id := by intro id; rw [hL]; simp [Fp.on, Fp.no]
    refine hK _ _ M φ G ⟨by rw [put_size]; exact hinv.size, by rw [put_defers]; exact hinv.defers, ?_, ?_, hinv.wr, hinv.ext, ?_, ?_, ?_, hinv.low⟩
    · intro j hj d hdj
      rcases hj with hj | rfl
      · rw [getD_put (fun d' hd' => ?_)]
        · exact hinv.slots j hj d hdj
        · intro e
          subst e
          have := hd2 i j _ (by rw [hdsti]; exact hd') hdj
          subst this; exact hDi hj
      · have e : o.dst = some d := by rw [← hdsti]; exact hdj
        rw [e, getD_put_same (Nat.lt_of_lt_of_le (hd1 _ _ hdj) hinv.size), ht0]
        exact .tup [] #[] rfl (fun j hj => by simp at hj)
    · intro p s hp hno'
      rw [getD_put (fun d' hd' => ?_)]
      · exact hinv.live p s hp (fun j hj => hno' j (.inl hj))
      · intro e
        subst e
        exact hno' i (.inr rfl) (by rw [hdsti]; exact hd')
    · intro id hno'
      exact hinv.old id (fun j hj => hno' j (.inl hj))
    · intro id j hj hon hmax
      rcases hj with hj | rfl
      · exact hinv.new id j hj hon (fun k hk => hmax k (.inl hk))
      · exact absurd hon (hno id)
    · intro id ver hid hne
      obtain ⟨j, hj, hon, hlt⟩ := hinv.fresh id ver hid hne
      exact ⟨j, .inl hj, hon, hlt⟩

/-- one operation more: nobody who has done his part ahead of it, or not yet, turns what it looks at -/
theorem inv_op {Q : Exit → Act → World → Prop} (hcf : FSound P cf) (hrise : Rising cf) (hd : dstsOk ntmps ops = true) (hg : guardsOk ops = true) (ht : Told cf S (regOps P lv hints ts ops) T L Hs ns)
    (hinv : Inv M₀ φ₀ G₀ n₀ w₀ lv ntmps S ops T L Hs ns D a w M φ G) {i : Nat} (hi : i < ops.size) (hDi : ¬ D i) (hDlt : ∀ j, D j → j < ops.size)
    (h1 : ∀ j s, j < i → dstAt ops j = some s → s ∈ looks (ops.getD i default) → D j) (h2 : ∀ k s, D k → i < k → dstAt ops k = some s → s ∉ looks (ops.getD i default))
    (h3 : ∀ g b, (ops.getD i default).guard = some (g, b) → D g) (h4 : ∀ k id, D k → i < k → (L.getD k .no).on id → ¬ (L.getD i .no).at id) (h5 : ∀ j id, j < i → ¬ D j → (L.getD j .no).on id → ¬ (L.getD i .no).at id)
    {K : Act → World → Prop} (hK : ∀ a' w' M' φ' G', Inv M₀ φ₀ G₀ n₀ w₀ lv ntmps S ops T L Hs ns (fun j => D j ∨ j = i) a' w' M' φ' G' → K a' w') : wpOp P ops Q i K a w := by
  have hlen : (regOps P lv hints ts ops).length = ops.size := by simp [regOps]
  refine inv_op_of hcf hrise hd hg ht hinv hi hDi hDlt h1 h2 h3 (fun k id hk hik hon hoi => h4 k id hk hik hon ?_) (fun hev => ⟨_, _, _, hev, ?_, fun v w' h => h⟩) hK
  · rcases hoi with h | h
    · exact .inl h
    · exact .inr (.inr h)
  · have hsame : ∀ id, (L.getD i .no).at id → G id = (Hs i).get id := by
      intro id hat
      rcases lastOn (fun j => (L.getD j .no).on id) i with hnone | ⟨j, hj, hon, hlast⟩
      · rw [ht.same hrise id (Nat.zero_le i) (by rw [hlen]; omega) (fun k _ hk => hnone k hk)]
        refine hinv.old id (fun k hk hon => ?_)
        rcases Nat.lt_trichotomy k i with hki | hki | hki
        · exact hnone k hki hon
        · subst hki; exact hDi hk
        · exact h4 k id hk hki hon hat
      · rw [ht.same hrise id (i := j + 1) (by omega) (by rw [hlen]; omega) (fun k hk1 hk2 => hlast k (by omega) hk2)]
        have hDj : D j := by
          rcases Classical.em (D j) with h | h
          · exact h
          · exact absurd hat (h5 j id hj h hon)
        refine hinv.new id j hDj hon (fun k hk honk => ?_)
        rcases Nat.lt_trichotomy k i with hki | hki | hki
        · rcases Nat.lt_or_ge j k with hjk | hjk
          · exact absurd honk (hlast k hjk hki)
          · exact hjk
        · subst hki; exact absurd hk hDi
        · exact absurd hat (h4 k id hk hki honk)
    have hfresh : ∀ id, ns i ≤ id → (L.getD i .no).on id → ∀ ver, φ id ver = none := by
      intro id hid hon ver
      rcases Classical.em (φ id ver = none) with h | h
      · exact h
      · exfalso
        have h0i := ht.mono hrise (i := 0) (j := i) (Nat.zero_le _) (by rw [hlen]; omega)
        obtain ⟨j, hDj, honj, hlt⟩ := hinv.fresh id ver (by omega) h
        rcases Nat.lt_trichotomy j i with hji | hji | hji
        · have := ht.mono hrise (i := j + 1) (j := i) (by omega) (by rw [hlen]; omega)
          omega
        · subst hji; exact hDi hDj
        · refine h4 j id hDj hji honj ?_
          rcases hon with h | h
          · exact .inl h
          · exact .inr (.inr h)
    exact ⟨hinv.wr, hsame, hfresh⟩

/-- one operation more: it sees the same, wherever it is done -/
theorem inv_read {Q : Exit → Act → World → Prop} (hcf : FSound P cf) (hrise : Rising cf) (hd : dstsOk ntmps ops = true) (hg : guardsOk ops = true) (ht : Told cf S (regOps P lv hints ts ops) T L Hs ns)
    (hinv : Inv M₀ φ₀ G₀ n₀ w₀ lv ntmps S ops T L Hs ns D a w M φ G) {i : Nat} (hi : i < ops.size) (hDi : ¬ D i) (hDlt : ∀ j, D j → j < ops.size)
    (h1 : ∀ j s, j < i → dstAt ops j = some s → s ∈ looks (ops.getD i default) → D j) (h2 : ∀ k s, D k → i < k → dstAt ops k = some s → s ∉ looks (ops.getD i default))
    (h3 : ∀ g b, (ops.getD i default).guard = some (g, b) → D g) {x : Nat} (hL : L.getD i .no = ⟨[x], [], false⟩)
    (hall : ∀ m, (m = 0 ∨ ∃ j, m = j + 1 ∧ D j ∧ (L.getD j .no).on x) → ∃ H' n', evalOp cf ((regOps P lv hints ts ops).getD i default).op (Src.ev S (T.take i)) (Hs m) (ns m) = some ⟨T.getD i .any, H', n', ⟨[x], [], false⟩⟩)
    {K : Act → World → Prop} (hK : ∀ a' w' M' φ' G', Inv M₀ φ₀ G₀ n₀ w₀ lv ntmps S ops T L Hs ns (fun j => D j ∨ j = i) a' w' M' φ' G' → K a' w') : wpOp P ops Q i K a w := by
  have hlen : (regOps P lv hints ts ops).length = ops.size := by simp [regOps]
  have hoff : ∀ id, ¬ (⟨[x], [], false⟩ : Fp).on id := by intro id; simp [Fp.on]
  have hnoon : ∀ id, ¬ (L.getD i .no).on id := by intro id; rw [hL]; exact hoff id
  refine inv_op_of hcf hrise hd hg ht hinv hi hDi hDlt h1 h2 h3 (fun k id _ _ _ => hnoon id) (fun hev => ?_) hK
  obtain ⟨m, hm, hGm⟩ : ∃ m, (m = 0 ∨ ∃ j, m = j + 1 ∧ D j ∧ (L.getD j .no).on x) ∧ G x = (Hs m).get x := by
    rcases lastOn (fun j => D j ∧ (L.getD j .no).on x) ops.size with hno | ⟨j, hj, hon, hlast⟩
    · exact ⟨0, .inl rfl, hinv.old x (fun j hj hon => hno j (hDlt j hj) ⟨hj, hon⟩)⟩
    · refine ⟨j + 1, .inr ⟨j, rfl, hon.1, hon.2⟩, hinv.new x j hon.1 hon.2 (fun k hk honk => ?_)⟩
      rcases Nat.lt_or_ge j k with h | h
      · exact absurd ⟨hk, honk⟩ (hlast k h (hDlt k hk))
      · exact h
  obtain ⟨H', n', hev1⟩ := hall m hm
  refine ⟨_, _, _, hev1, ⟨hinv.wr, fun id hat => ?_, fun id _ hon => absurd hon (hoff id)⟩, ?_⟩
  · simp [Fp.at] at hat
    rw [hat]; exact hGm
  · rintro v w' ⟨M', φ', G', p1, p2, p3, p4, p5, p6, p7, p8⟩
    have hmono := (ht.frame hrise (i := i) (by rw [hlen]; exact hi)).2.1
    exact ⟨M', φ', G', p1, p2, p3.count_any hmono, fun id hon => absurd hon (hnoon id), fun id _ => p5 id (hoff id), fun id ver _ => p6 id ver (hoff id),
      fun id ver _ hn => by rw [p6 id ver (hoff id)]; exact hn, fun id ver _ _ => p6 id ver (hoff id)⟩

end
end Go.Vm
