/-
  A part of the proof: Sp Sq Sr Ss St Su Sv Sw Ja Qa Qb Qc Qd Qe Qf Qg Pa Pb Pc Pd Pe.
-/
import Derived.Test.YtebfimcapoekjaaGreatMd
namespace Go.Vm
set_option maxRecDepth 100000
def Nums (H : Heap) (n : Nat) (v : PV) (l : List Nat) : Prop := (v = .nils ∧ l = []) ∨ ∃ id, id < n ∧ VW H 1 id v (irows l)
theorem Nums.len {H : Heap} {n : Nat} {v : PV} {l : List Nat} (h : Nums H n v l) (H' : Heap) (n' : Nat) : lenX .slice H' n' v = some ⟨.int .i64 (l.length : Nat), H', n', .no⟩ := by
  rcases h with ⟨rfl, rfl⟩ | ⟨id, _, ver, rest, rfl, _⟩
  · rfl
  · simp [lenX, irows]
theorem Nums.same {H H' : Heap} {n n' : Nat} {v : PV} {l : List Nat} (h : Nums H n v l) (hs : ∀ id, id < n → H'.get id = H.get id) (hn : n ≤ n') : Nums H' n' v l := by
  rcases h with h | ⟨id, h1, h2⟩
  · exact .inl h
  · exact .inr ⟨id, by omega, h2.same (hs id h1)⟩
structure Laid (H : Heap) (n idS idM idU : Nat) (W : List Nat) (pv pl : PV) (ts us : List Nat) (es : Ents) (clock : Nat) (D : Nat → Nd) (A : Nat → List Nat) (U : Nat → List PV) (P R rk : Nat → Nat) : Prop where
  st : Store H n idS W pv (.map idM) (.ptr idU 0 3 0 0) pl 0 ts.length D A U P R rk
  node : ∀ i, i < ts.length → D i = vnode ∧ A i = [] ∧ U i = [] ∧ R i = i
  map : H.get idM = some (.map es clock)
  keys : IKeys es
  at_ : ∀ j, (h : j < ts.length) → imGet es ts[j] = some (.int .i64 (j : Nat))
  lM : idM < n
  wM : idM ∉ W
  lU : idU < n
  wU : idU ∉ W
  dUM : idU ≠ idM
  un : ∃ a b, H.get idU = some (.arr 0 3 [[.map a, .map b, .int .i64 us.length]]) ∧ H.get a = some (.map [] 0) ∧ H.get b = some (.map [] 0) ∧ a < n ∧ b < n ∧ a ∉ W ∧ b ∉ W ∧ a ≠ b ∧ a ≠ idM ∧ b ≠ idM ∧ a ≠ idU ∧ b ≠ idU
  place : (pl = .nils ∧ prows us us.length = []) ∨ ∃ id, id < n ∧ id ∉ W ∧ id ≠ idM ∧ id ≠ idU ∧ VW H 2 id pl (prows us us.length)
theorem lay27 {H : Heap} {n idV : Nat} {tv uv sv : PV} {ts us : List Nat} (hV : H.get idV = some (.arr 0 3 [[tv, uv, sv]])) (lV : idV < n) (ht : Nums H n tv ts) (hu : Nums H n uv us) (hnd : ts.Nodup) (hl1 : ts.length < 100000) (hl2 : us.length < 100000) :
    ∃ (H' : Heap) (n' : Nat) (W : List Nat) (pl : PV) (es : Ents) (clock : Nat) (D : Nat → Nd) (A : Nat → List Nat) (U : Nat → List PV) (P R rk : Nat → Nat),
      Gf 27 [.ptr idV 0 3 0 0] H n = some (.ptr (n + 4) 0 7 0 0, H', n') ∧ Laid H' n' (n + 4) n (n + 3) W (.ptr idV 0 3 0 0) pl ts us es clock D A U P R rk ∧ (∀ id, id < n → H'.get id = H.get id) ∧ (∀ x ∈ W, n ≤ x) ∧ n ≤ n' := by
  -- the struct
  generalize hH1 : ((((H.set n (.map [] 0)).set (n + 1) (.map [] 0)).set (n + 2) (.map [] 0)).set (n + 3) (.arr 0 3 [[.map (n + 1), .map (n + 2), .int .i64 0]])).set (n + 4) (srow (.ptr idV 0 3 0 0) .nils .nils (.int .i64 0) (.map n) (.ptr (n + 3) 0 3 0 0) .nils) = H1
  have h1 : ∀ id, id < n → H1.get id = H.get id := fun id hid => by
    rw [← hH1, get_other _ _ (by omega), get_other _ _ (by omega), get_other _ _ (by omega), get_other _ _ (by omega), get_other _ _ (by omega)]
  have hS1 : H1.get (n + 4) = some (srow (.ptr idV 0 3 0 0) .nils .nils (.int .i64 (0 : Nat)) (.map n) (.ptr (n + 3) 0 3 0 0) .nils) := by rw [← hH1, get_same]; rfl
  have hU1 : H1.get (n + 3) = some (.arr 0 3 [[.map (n + 1), .map (n + 2), .int .i64 0]]) := by rw [← hH1, get_other _ _ (by omega), get_same]
  have hB1 : H1.get (n + 2) = some (.map [] 0) := by rw [← hH1, get_other _ _ (by omega), get_other _ _ (by omega), get_same]
  have hA1 : H1.get (n + 1) = some (.map [] 0) := by rw [← hH1, get_other _ _ (by omega), get_other _ _ (by omega), get_other _ _ (by omega), get_same]
  have hM1 : H1.get n = some (.map [] 0) := by rw [← hH1, get_other _ _ (by omega), get_other _ _ (by omega), get_other _ _ (by omega), get_other _ _ (by omega), get_same]
  have st1 : Store H1 (n + 5) (n + 4) [n + 4] (.ptr idV 0 3 0 0) (.map n) (.ptr (n + 3) 0 3 0 0) .nils 0 0 (fun _ => vnode) (fun _ => []) (fun _ => []) id id (fun _ => 0) :=
    ⟨⟨.nils, .nils, hS1, .inl ⟨rfl, rfl⟩, .inl rfl⟩, by simp, by simp, fun i hi => by omega, ⟨fun i hi => by omega, fun i hi => by omega, fun i hi => by omega, fun i hi => by omega⟩⟩
  have hV1 : H1.get idV = some (.arr 0 3 [[tv, uv, sv]]) := (h1 _ lV).trans hV
  -- the types' variables
  have types : ∃ (H' : Heap) (n' : Nat) (W' : List Nat) (es' : Ents) (clock' : Nat) (D' : Nat → Nd) (A' : Nat → List Nat) (U' : Nat → List PV) (P' R' rk' : Nat → Nat) (y3 y9 : PV),
      codeL Gf (.loop B_27_1) ⟨lvS (.ptr idV 0 3 0 0) .nilp (.ptr (n + 4) 0 7 0 0) (.tup []) (.tup []) (.tup []) tv (.int .i64 ts.length) (.int .i64 0) (.tup []) (.tup []) (.tup []) (.tup []) (.tup []), H1, n + 5⟩ =
        some (.exit 0, ⟨lvS (.ptr idV 0 3 0 0) .nilp (.ptr (n + 4) 0 7 0 0) y3 (.tup []) (.tup []) tv (.int .i64 ts.length) (.int .i64 ts.length) y9 (.tup []) (.tup []) (.tup []) (.tup []), H', n'⟩) ∧
      Store H' n' (n + 4) W' (.ptr idV 0 3 0 0) (.map n) (.ptr (n + 3) 0 3 0 0) .nils 0 ts.length D' A' U' P' R' rk' ∧ (∀ i, i < ts.length → D' i = vnode ∧ A' i = [] ∧ U' i = [] ∧ R' i = i) ∧ H'.get n = some (.map es' clock') ∧ IKeys es' ∧
      (∀ j, (h : j < ts.length) → imGet es' ts[j] = some (.int .i64 (j : Nat))) ∧ Same [n, n + 4] (n + 5) H1 H' ∧ (∀ x ∈ W', x = n + 4 ∨ n + 5 ≤ x) ∧ n + 5 ≤ n' := by
    rcases ht with ⟨rfl, rfl⟩ | ⟨idT, lT, hT⟩
    · refine ⟨H1, n + 5, [n + 4], [], 0, _, _, _, _, _, _, .tup [], .bool false, codeL_loop_end ?_ (by simp), st1, fun i hi => by simp at hi, hM1, .nil, fun j hj => by simp at hj, .refl _ _ _, fun x hx => by simp at hx; exact .inl hx, Nat.le_refl _⟩
      simp (disch := omega) only [go_sem, B_27_1, lvS]
      rfl
    · obtain ⟨H', n', W', es', clock', D', A', U', P', R', rk', y3, g1, g2, g3, g4, g5, g6, g7, g8, g9⟩ := lay_vars (x0 := .ptr idV 0 3 0 0) (x1 := .nilp) (x4 := .tup []) (x5 := .tup []) (x10 := .tup []) (x11 := .tup []) (x12 := .tup []) (x13 := .tup []) hnd hl1 ts.length 0 H1 (n + 5) [n + 4] [] 0 _ _ _ _ _ _ (.tup []) (.tup []) rfl (Nat.zero_le _) st1 (fun i hi => by omega) hM1 .nil (fun j _ hj => by omega) (by omega) (by simp) (hT.same (h1 _ lT)) (by omega) (by simp; omega) (by omega)
      rw [show ((0 : Nat) : Int) = 0 from rfl] at g1
      exact ⟨H', n', W', es', clock', D', A', U', P', R', rk', y3, _, g1, g2, g3, g4, g5, g6, g7, fun x hx => by rcases g8 x hx with e | e; exact .inl (by simpa using e); exact .inr e, g9⟩
  obtain ⟨H2, n2, W2, es2, clock2, D2, A2, U2, P2, R2, rk2, y3, y9, e2, st2, hnode, hM2, hk2, hat2, sm2, w2, ln2⟩ := types
  have hV2 : H2.get idV = some (.arr 0 3 [[tv, uv, sv]]) := (sm2 _ (by omega) (by simp; omega)).trans hV1
  have hU2 : H2.get (n + 3) = some (.arr 0 3 [[.map (n + 1), .map (n + 2), .int .i64 (0 : Nat)]]) := (sm2 _ (by omega) (by simp)).trans hU1
  have wW2 : ∀ x, x < n + 4 → x ∉ W2 := fun x hx hm => by rcases w2 x hm with e | e <;> omega
  -- the units' variables
  have units : ∃ (H' : Heap) (n' : Nat) (pl' y4 y5 y13 : PV), codeL Gf (.loop B_27_0) ⟨lvS (.ptr idV 0 3 0 0) .nilp (.ptr (n + 4) 0 7 0 0) y3 (.tup []) (.tup []) tv (.int .i64 ts.length) (.int .i64 ts.length) y9 uv (.int .i64 us.length) (.int .i64 0) (.tup []), H2, n2⟩ =
        some (.exit 2, ⟨lvS (.ptr idV 0 3 0 0) .nilp (.ptr (n + 4) 0 7 0 0) y3 y4 y5 tv (.int .i64 ts.length) (.int .i64 ts.length) y9 uv (.int .i64 us.length) (.int .i64 us.length) y13, H', n'⟩) ∧
      Store H' n' (n + 4) W2 (.ptr idV 0 3 0 0) (.map n) (.ptr (n + 3) 0 3 0 0) pl' 0 ts.length D2 A2 U2 P2 R2 rk2 ∧ H'.get (n + 3) = some (.arr 0 3 [[.map (n + 1), .map (n + 2), .int .i64 us.length]]) ∧ ((pl' = .nils ∧ prows us us.length = []) ∨ ∃ id, n2 ≤ id ∧ id < n' ∧ id ∉ W2 ∧ VW H' 2 id pl' (prows us us.length)) ∧
      (∀ id, id < n2 → id ≠ n + 3 → id ≠ n + 4 → H'.get id = H2.get id) ∧ n2 ≤ n' := by
    rcases hu with ⟨rfl, rfl⟩ | ⟨idQ, lQ, hQ⟩
    · refine ⟨H2, n2, .nils, .tup [], .tup [], .bool false, codeL_loop_end ?_ (by simp), st2, hU2, .inl ⟨rfl, by simp [prows]⟩, fun _ _ _ _ => rfl, Nat.le_refl _⟩
      simp (disch := omega) only [go_sem, B_27_0, lvS]
      rfl
    · obtain ⟨H', n', pl', y4, y5, g1, g2, g3, g4, g5, g6⟩ := lay_place (x0 := .ptr idV 0 3 0 0) (x1 := .nilp) (x3 := y3) (x6 := tv) (x7 := .int .i64 ts.length) (x8 := .int .i64 ts.length) (x9 := y9) (idU := n + 3) (idQ := idQ) (n0 := n2) hl2 (wW2 _ (by omega)) (wW2 _ (by omega)) (by omega) (fun i hi => ⟨(hnode i hi).1, (hnode i hi).2.1, (hnode i hi).2.2.1⟩)
        us.length 0 H2 n2 .nils (.tup []) (.tup []) (.tup []) rfl (Nat.zero_le _) st2 hU2 (.inl ⟨rfl, by simp [prows]⟩) (by omega) (Nat.le_refl _) ((hQ.same (h1 _ lQ)).same (sm2 _ (by omega) (by simp; omega))) (by omega) st2.lt
      rw [show ((0 : Nat) : Int) = 0 from rfl] at g1
      exact ⟨H', n', pl', y4, y5, _, g1, g2, g3, g4, g5, g6⟩
  obtain ⟨H3, n3, pl, y4, y5, y13, e3, st3, hU3, hpl, hs3, ln3⟩ := units
  refine ⟨H3, n3, W2, pl, es2, clock2, D2, A2, U2, P2, R2, rk2, ?_, ⟨st3, hnode, (hs3 _ (by omega) (by omega) (by omega)).trans hM2, hk2, hat2, by omega, wW2 _ (by omega), by omega, wW2 _ (by omega), by omega, ?_, ?_⟩, fun id hid => ?_, fun x hx => ?_, by omega⟩
  · simp only [lvS] at e2 e3
    have eu := units_new (H := H.set n (.map [] 0)) (n := n + 1) (next := 0)
    rw [R_27]
    simp (disch := omega) only [go_sem, Nat.reduceAdd, Nat.reduceLeDiff, G_27, eu, hH1, hV1, ht.len, e2, hV2, hu.len, e3]
  · refine ⟨n + 1, n + 2, hU3, (hs3 _ (by omega) (by omega) (by omega)).trans ((sm2 _ (by omega) (by simp)).trans hA1), (hs3 _ (by omega) (by omega) (by omega)).trans ((sm2 _ (by omega) (by simp)).trans hB1), by omega, by omega, wW2 _ (by omega), wW2 _ (by omega), by omega, by omega, by omega, by omega, by omega⟩
  · rcases hpl with c | ⟨id, c1, c2, c3, c4⟩
    · exact .inl c
    · exact .inr ⟨id, c2, c3, by omega, by omega, c4⟩
  · rw [hs3 _ (by omega) (by omega) (by omega), sm2 _ (by omega) (by simp; omega), h1 _ hid]
  · rcases w2 x hx with e | e <;> omega
theorem same_up : ∀ (d : Nat), (∀ (e : Nat) (x y : PV), d ≤ e → PV.sameF d x y = true → PV.sameF e x y = true) ∧ (∀ (e : Nat) (x y : List PV), d ≤ e → PV.sameFL d x y = true → PV.sameFL e x y = true) ∧
    (∀ (e : Nat) (x y : List (List PV)), d ≤ e → PV.sameFLL d x y = true → PV.sameFLL e x y = true)
  | 0 => ⟨fun e x y _ h => by simp [PV.sameF] at h, fun e x y _ h => by simp [PV.sameFL] at h, fun e x y _ h => by simp [PV.sameFLL] at h⟩
  | d + 1 => by
    obtain ⟨i1, i2, i3⟩ := same_up d
    refine ⟨fun e x y he h => ?_, fun e x y he h => ?_, fun e x y he h => ?_⟩
    · obtain ⟨e, rfl⟩ : ∃ e', e = e' + 1 := ⟨e - 1, by omega⟩
      have hd : d ≤ e := by omega
      unfold PV.sameF at h ⊢
      split at h
      · exact i2 e _ _ hd h
      · simp only [Bool.and_eq_true] at h ⊢; exact ⟨h.1, i3 e _ _ hd h.2⟩
      · simp only [Bool.and_eq_true] at h ⊢; exact ⟨h.1, i2 e _ _ hd h.2⟩
      · simp only [Bool.and_eq_true] at h ⊢; exact ⟨h.1, i1 e _ _ hd h.2⟩
      · simp only [Bool.and_eq_true] at h ⊢; exact ⟨⟨h.1.1, i2 e _ _ hd h.1.2⟩, i2 e _ _ hd h.2⟩
      · exact h
      · exact h
    · obtain ⟨e, rfl⟩ : ∃ e', e = e' + 1 := ⟨e - 1, by omega⟩
      have hd : d ≤ e := by omega
      match x, y with
      | [], [] => rfl
      | [], _ :: _ => simp [PV.sameFL] at h
      | _ :: _, [] => simp [PV.sameFL] at h
      | a :: x, b :: y =>
        simp only [PV.sameFL, Bool.and_eq_true] at h ⊢
        exact ⟨i1 e _ _ hd h.1, i2 e _ _ hd h.2⟩
    · obtain ⟨e, rfl⟩ : ∃ e', e = e' + 1 := ⟨e - 1, by omega⟩
      have hd : d ≤ e := by omega
      match x, y with
      | [], [] => rfl
      | [], _ :: _ => simp [PV.sameFLL] at h
      | _ :: _, [] => simp [PV.sameFLL] at h
      | a :: x, b :: y =>
        simp only [PV.sameFLL, Bool.and_eq_true] at h ⊢
        exact ⟨i2 e _ _ hd h.1, i3 e _ _ hd h.2⟩
mutual
def Ty.cst : Ty → Nat
  | .mk _ _ _ as us => 8 + max (us.length + 1002) (Ty.csts as)
def Ty.csts : List Ty → Nat
  | [] => 1
  | t :: ts => 1 + max t.cst (Ty.csts ts)
end
theorem same_urows : ∀ {us : List PV}, (∀ v ∈ us, PV.sameF 1000 v v = true) → ∀ d, us.length + 1002 ≤ d → PV.sameFLL d (urows us) (urows us) = true
  | [], _, d, hd => by
    obtain ⟨d, rfl⟩ : ∃ d', d = d' + 1 := ⟨d - 1, by omega⟩
    simp [urows, PV.sameFLL]
  | v :: us, h, d, hd => by
    obtain ⟨d, rfl⟩ : ∃ d', d = d' + 3 := ⟨d - 3, by simp at hd; omega⟩
    simp only [List.length_cons] at hd
    have e : urows (v :: us) = [v] :: urows us := rfl
    rw [e]
    simp only [PV.sameFLL, PV.sameFL, Bool.and_true, Bool.and_eq_true]
    exact ⟨(same_up 1000).1 _ _ _ (by omega) (h v (by simp)), same_urows (fun w hw => h w (by simp [hw])) (d + 2) (by omega)⟩
mutual
theorem same_row : ∀ {row : List PV} {t : Ty}, TyR row t → ∀ d, t.cst ≤ d → PV.sameFL d row row = true
  | _, _, .mk k n s a u as us h1 h2, d, hd => by
    simp only [Ty.cst] at hd
    obtain ⟨d, rfl⟩ : ∃ d', d = d' + 8 := ⟨d - 8, by omega⟩
    have ha : PV.sameF (d + 4) a a = true := same_args h1 (d + 3) (by omega)
    have hu : PV.sameF (d + 3) u u = true := by
      obtain ⟨h3, h4⟩ := h2
      rcases h3 with ⟨rfl, _⟩ | ⟨fl, rfl⟩
      · simp [PV.sameF, PV.same]
      · simp only [PV.sameF, decide_true, Bool.true_and]
        exact same_urows (fun v hv => (h4 v hv).2) (d + 2) (by omega)
    have e1 : PV.sameF (d + 7) (.int .i64 k) (.int .i64 k) = true := by simp [PV.sameF, PV.same]
    have e2 : PV.sameF (d + 6) (.int .i64 n) (.int .i64 n) = true := by simp [PV.sameF, PV.same]
    have e3 : PV.sameF (d + 5) (.str s) (.str s) = true := by simp [PV.sameF]
    simp only [PV.sameFL, e1, e2, e3, ha, hu, Bool.and_self]
theorem same_args : ∀ {a : PV} {as : List Ty}, TysR a as → ∀ d, Ty.csts as ≤ d → PV.sameF (d + 1) a a = true
  | _, _, .nil, d, _ => by simp [PV.sameF, PV.same]
  | _, _, .data xs ts fl h, d, hd => by
    simp only [PV.sameF, decide_true, Bool.true_and]
    exact same_rows h d hd
theorem same_rows : ∀ {xs : List (List PV)} {ts : List Ty}, TyLR xs ts → ∀ d, Ty.csts ts ≤ d → PV.sameFLL d xs xs = true
  | _, _, .nil, d, hd => by
    simp only [Ty.csts] at hd
    obtain ⟨d, rfl⟩ : ∃ d', d = d' + 1 := ⟨d - 1, by omega⟩
    simp [PV.sameFLL]
  | _, _, .cons x xs t ts h1 h2, d, hd => by
    simp only [Ty.csts] at hd
    obtain ⟨d, rfl⟩ : ∃ d', d = d' + 1 := ⟨d - 1, by omega⟩
    simp only [PV.sameFLL, Bool.and_eq_true]
    exact ⟨same_row h1 d (by omega), same_rows h2 d (by omega)⟩
end
theorem same_tyAgg {row : List PV} {t : Ty} (h : TyR row t) (hc : t.cst < 4000) : PV.sameF deep (.agg row) (.agg row) = true := by
  unfold deep
  simp only [PV.sameF]
  exact same_row h 4095 (by omega)
mutual
def Ty.sub (τ : Int → Ty) (inn : PV → PV) : Ty → Ty
  | .mk k n s as us => if k = 1 then τ n else .mk k n s (Ty.subs τ inn as) (us.map inn)
def Ty.subs (τ : Int → Ty) (inn : PV → PV) : List Ty → List Ty
  | [] => []
  | t :: ts => t.sub τ inn :: Ty.subs τ inn ts
end
structure ValOk (len : Nat) (D : Nat → Nd) (A : Nat → List Nat) (U : Nat → List PV) (σ val : Nat → Ty) : Prop where
  var : ∀ i, i < len → (D i).kind = 1 → val i = σ i
  node : ∀ i, i < len → (D i).kind ≠ 1 → val i = .mk (D i).kind (D i).num (D i).name ((A i).map val) (U i)
section
variable {len len' : Nat} {D D' : Nat → Nd} {A A' : Nat → List Nat} {U U' : Nat → List PV} {σ val : Nat → Ty} {leaf : Int → Nat} {inn : PV → PV}
mutual
theorem Rep.val (hv : ValOk len D A U σ val) : ∀ {r : Nat} {t : Ty}, Rep len D A U leaf inn r t → val r = t.sub (fun v => σ (leaf v)) inn
  | _, .mk k n s as us, .var _ h1 h2 h3 => by
    simp only [Ty.kind, Ty.num] at h1 h2 h3
    simp only [Ty.num, Ty.sub, h1, if_true]
    exact hv.var _ h2 h3
  | r, .mk k n s as us, .node _ _ h1 h2 h3 h4 h5 h6 h7 => by
    simp only [Ty.kind, Ty.num, Ty.name, Ty.args, Ty.units] at h1 h3 h4 h5 h6 h7
    simp only [Ty.sub, h1, if_false]
    rw [hv.node r h2 (by rw [h3]; exact h1), h3, h4, h5, h6, RepL.val hv h7]
theorem RepL.val (hv : ValOk len D A U σ val) : ∀ {rs : List Nat} {ts : List Ty}, RepL len D A U leaf inn rs ts → rs.map val = Ty.subs (fun v => σ (leaf v)) inn ts
  | _, _, .nil => rfl
  | _, _, .cons a as t ts h1 h2 => by
    simp only [List.map_cons, Ty.subs]
    rw [Rep.val hv h1, RepL.val hv h2]
end
theorem val_cong (hv : ValOk len D A U σ val) : Cong len D A U (fun i j => val i = val j) where
  eqv := ⟨fun _ => rfl, Eq.symm, Eq.trans⟩
  cmp i j hi hj e k1 k2 := by
    rw [hv.node i hi k1, hv.node j hj k2] at e
    simp only [Ty.mk.injEq] at e
    obtain ⟨e1, e2, e3, e4, e5⟩ := e
    refine ⟨⟨e1, e2, by rw [e3], by simpa using congrArg List.length e4, by rw [e5]⟩, ?_⟩
    have : ∀ (l m : List Nat), l.map val = m.map val → ∀ p ∈ l.zip m, val p.1 = val p.2 := by
      intro l
      induction l with
      | nil => intro m _ p hp; simp at hp
      | cons x l ih =>
        intro m h p hp
        cases m with
        | nil => simp at hp
        | cons y m =>
          simp only [List.map_cons, List.cons.injEq] at h
          rcases List.mem_cons.1 hp with rfl | hp
          · exact h.1
          · exact ih m h.2 p hp
    exact this _ _ e4
theorem val_ext (hv : ValOk len D A U σ val) (g : Grown len D A U len' D' A' U') (hn : ∀ i, len ≤ i → i < len' → (D' i).kind ≠ 1 ∧ ∀ a ∈ A' i, a < i) (hs : ∀ i, i < len → ∀ a ∈ A i, a < len) :
    ∃ val', ValOk len' D' A' U' σ val' ∧ ∀ i, i < len → val' i = val i := by
  have key : ∀ d, len + d ≤ len' → ∃ val', ValOk (len + d) D' A' U' σ val' ∧ ∀ i, i < len → val' i = val i := by
    intro d
    induction d with
    | zero =>
      intro _
      exact ⟨val, ⟨fun i hi hk => by rw [g.D i hi] at hk; exact hv.var i hi hk, fun i hi hk => by rw [g.D i hi] at hk ⊢; rw [g.A i hi, g.U i hi]; exact hv.node i hi hk⟩, fun _ _ => rfl⟩
    | succ d ih =>
      intro hd
      obtain ⟨v, h1, h2⟩ := ih (by omega)
      obtain ⟨n1, n2⟩ := hn (len + d) (by omega) (by omega)
      refine ⟨ext v (len + d) (.mk (D' (len + d)).kind (D' (len + d)).num (D' (len + d)).name ((A' (len + d)).map v) (U' (len + d))), ⟨fun i hi hk => ?_, fun i hi hk => ?_⟩, fun i hi => by rw [ext_lt _ _ (by omega)]; exact h2 i hi⟩
      · by_cases e : i = len + d
        · subst e; exact absurd hk n1
        · rw [ext_lt _ _ (by omega)]; exact h1.var i (by omega) hk
      · have hmap : ∀ a, (∀ x ∈ A' a, x < len + d) → (A' a).map (ext v (len + d) (.mk (D' (len + d)).kind (D' (len + d)).num (D' (len + d)).name ((A' (len + d)).map v) (U' (len + d)))) = (A' a).map v := by
          intro a ha
          exact List.map_congr_left fun x hx => ext_lt _ _ (ha x hx)
        by_cases e : i = len + d
        · subst e; rw [ext_at, hmap _ n2]
        · rw [ext_lt _ _ (by omega), h1.node i (by omega) hk, hmap]
          intro x hx
          by_cases hi2 : i < len
          · rw [g.A i hi2] at hx; have := hs i hi2 x hx; omega
          · have := (hn i (by omega) (by omega)).2 x hx; omega
  obtain ⟨v, h1, h2⟩ := key (len' - len) (by have := g.le; omega)
  rw [show len + (len' - len) = len' by have := g.le; omega] at h1
  exact ⟨v, h1, h2⟩
end
section
variable {idS idM clock cnt len0 len n : Nat} {es : Ents} {pv up pl : PV} {prows : List (List PV)} {leaf : Int → Nat} {inn : PV → PV} {H : Heap} {W : List Nat} {D : Nat → Nd} {A : Nat → List Nat} {U : Nat → List PV} {P R rk : Nat → Nat}
structure LayBase (H : Heap) (n : Nat) (W : List Nat) (idM : Nat) (es : Ents) (clock : Nat) (pl : PV) (prows : List (List PV)) : Prop where
  hm : H.get idM = some (.map es clock)
  lm : idM < n
  wm : idM ∉ W
  keys : IKeys es
  place : (pl = .nils ∧ prows = []) ∨ ∃ id, id < n ∧ id ∉ W ∧ VW H 2 id pl prows
theorem LayBase.same {H' : Heap} {n' : Nat} {W' : List Nat} (h : LayBase H n W idM es clock pl prows) (hs : Same W n H H') (hw : ∀ x ∈ W', x ∈ W ∨ n ≤ x) (hn : n ≤ n') : LayBase H' n' W' idM es clock pl prows where
  hm := (hs _ h.lm h.wm).trans h.hm
  lm := by have := h.lm; omega
  wm hm := by have := h.lm; rcases hw _ hm with e | e; exact h.wm e; omega
  keys := h.keys
  place := by
    rcases h.place with c | ⟨id, c1, c2, c3⟩
    · exact .inl c
    · exact .inr ⟨id, by omega, fun hm => by rcases hw _ hm with e | e; exact c2 e; omega, c3.same (hs _ c1 c2)⟩
theorem typ_run {V : Int → Prop} {Q : PV → Prop} (hQ : ∀ u, Q u → InnOk idS pv (.map idM) up pl prows inn u) (hV : ∀ v, V v → imGet es v = some (.int .i64 (leaf v : Nat)) ∧ leaf v < len0) {row : List PV} {t : Ty} (hrow : TyR row t) (hfit : Fit V Q t)
    (hl0 : len0 ≤ len) (hD : ∀ i, i < len0 → (D i).kind = 1) (st : Store H n idS W pv (.map idM) up pl cnt len D A U P R rk) (hE : LayBase H n W idM es clock pl prows) (hsz : len + t.size < 1000000) :
    ∃ (r : Nat) (H' : Heap) (n' : Nat) (W' : List Nat) (len' : Nat) (D' : Nat → Nd) (A' : Nat → List Nat) (U' : Nat → List PV) (P' R' rk' : Nat → Nat), Gf 73 [.ptr idS 0 7 0 0, .agg row] H n = some (.int .i64 r, H', n') ∧
      LayOut (fun u => ∃ v, Q v ∧ u = inn v) idS pv (.map idM) up pl cnt t.size H n W len D A U R H' n' W' len' D' A' U' P' R' rk' ∧ Rep len' D' A' U' leaf inn r t := by
  obtain ⟨a, u, rfl, hta, hus⟩ := id hrow.five
  have ca := tys_cells hta
  have cu := us_cells hus
  have lS := st.lt _ st.own
  have lM := hE.lm
  generalize hB : (H.set n (.arr 0 1 [[.ptr idS 0 7 0 0]])).set (n + 1) (.arr 0 5 [[.int .i64 t.kind, .int .i64 t.num, .str t.name, a, u]]) = HB
  have hlo1 := (LayOut.refl (UP := fun u => ∃ v, Q v ∧ u = inn v) st).fresh (H1 := HB) (n1 := n + 2) (fun id hid => by rw [← hB, get_other _ _ (by omega), get_other _ _ (by omega)]) (by omega)
  have hb1 : HB.get n = some (.arr 0 1 [[.ptr idS 0 7 0 0]]) := by rw [← hB, get_other _ _ (by omega), get_same]
  have ht1 : HB.get (n + 1) = some (.arr 0 5 [[.int .i64 t.kind, .int .i64 t.num, .str t.name, a, u]]) := by rw [← hB, get_same]
  have hE1 := hE.same hlo1.sm hlo1.w hlo1.ln
  have hnW : n ∉ W := fun hm => by have := st.lt _ hm; omega
  obtain ⟨r, H2, n2, W2, len2, D2, A2, U2, P2, R2, rk2, e1, hlo2, hrep⟩ := lay_run (UP := fun u => ∃ v, Q v ∧ u = inn v) (nb := n) (fun u hu => ⟨u, hu, rfl⟩) hQ hV t.size t (Nat.le_refl _) hfit _ HB (n + 2) W len D A U P R rk hrow hl0 hD hlo1.st ⟨hb1, by omega, hnW, hE1.hm, hE1.lm, hE1.wm, hE1.keys, hE1.place⟩ hsz
  refine ⟨r, H2, n2, W2, len2, D2, A2, U2, P2, R2, rk2, ?_, by simpa using hlo1.trans hlo2, hrep⟩
  rw [R_73]
  simp (disch := omega) only [go_sem, Nat.reduceAdd, Nat.reduceMul, Nat.reduceLeDiff, G_73, hB, hb1, ht1, e1]
end
theorem appV {k bytes n : Nat} {s : PV} {rows m : List (List PV)} {H : Heap} (rd : List Nat) (hs : (s = .nils ∧ rows = []) ∨ ∃ id, VW H k id s rows ∧ id < n)
    (hb : (rows.length + m.length) * bytes ≤ 140737488355328) :
    ∃ (v' : PV) (H' : Heap) (n' : Nat) (fp : Fp) (w : Nat), appendV k bytes s m rd H n = some ⟨v', H', n', fp⟩ ∧ ((v' = .nils ∧ rows ++ m = []) ∨ (VW H' k w v' (rows ++ m) ∧ w < n')) ∧ (∀ j, j ≠ w → H'.get j = H.get j) ∧ n ≤ n' ∧ (w = n ∨ VW H k w s rows) := by
  cases m with
  | nil =>
    rcases hs with ⟨rfl, rfl⟩ | ⟨id, ⟨ver, rest, rfl, hH⟩, hid⟩
    · exact ⟨.nils, H, n, ⟨rd, [], false⟩, n, by simp [appendV], .inl ⟨rfl, rfl⟩, fun _ _ => rfl, Nat.le_refl _, .inl rfl⟩
    · refine ⟨.view id ver k 0 rows.length none, H.set id (.arr ver k (rows ++ rest)), n, ⟨rd, [id], false⟩, id, ?_, .inr ⟨⟨ver, rest, by simp, by rw [get_same]; simp⟩, hid⟩, fun j hj => get_other _ _ (Ne.symm hj), Nat.le_refl _, .inr ⟨ver, rest, rfl, hH⟩⟩
      rw [appendV_view, hH, appO_over k bytes id ver rows.length [] rd H n (rows ++ rest) (by simp)]
      simp [overwrite]
  | cons r m =>
    rcases hs with ⟨rfl, rfl⟩ | ⟨id, ⟨ver, rest, rfl, hH⟩, hid⟩
    · have hb0 : (r :: m).length * bytes ≤ 140737488355328 := by simpa using hb
      have hb' : (r :: m).length * bytes ≤ room := hb0
      exact ⟨.view n 0 k 0 (r :: m).length none, H.set n (.arr 0 k (r :: m)), n + 1, ⟨rd, [n], false⟩, n, by simp only [appendV, List.isEmpty_cons, Bool.false_eq_true, if_false, if_pos hb'], .inr ⟨⟨0, [], by simp, by rw [get_same]; simp⟩, by omega⟩, fun j hj => get_other _ _ (Ne.symm hj), by omega, .inl rfl⟩
    · by_cases hfit : rows.length + (r :: m).length ≤ (rows ++ rest).length
      · refine ⟨.view id ver k 0 (rows.length + (r :: m).length) none, H.set id (.arr ver k (overwrite (rows ++ rest) rows.length (r :: m))), n, ⟨rd, [id], false⟩, id, ?_, .inr ⟨⟨ver, rest.drop (r :: m).length, by simp, ?_⟩, hid⟩, fun j hj => get_other _ _ (Ne.symm hj), Nat.le_refl _, .inr ⟨ver, rest, rfl, hH⟩⟩
        · rw [appendV_view, hH, appO_over k bytes id ver rows.length (r :: m) rd H n (rows ++ rest) hfit]
        · rw [get_same]
          simp [overwrite]
      · refine ⟨.view id (ver + 1) k 0 (rows.length + (r :: m).length) none, H.set id (.arr (ver + 1) k (rows ++ (r :: m))), n, ⟨rd, [id], false⟩, id, ?_, .inr ⟨⟨ver + 1, [], by simp, by rw [get_same]; simp⟩, hid⟩, fun j hj => get_other _ _ (Ne.symm hj), Nat.le_refl _, .inr ⟨ver, rest, rfl, hH⟩⟩
        have hb' : (rows.length + (r :: m).length) * bytes ≤ room := hb
        rw [appendV_view, hH]
        have e : ¬ (ver ≠ ver ∨ k ≠ k ∨ ¬ (rows.length ≤ (rows ++ rest).length)) := by simp
        simp only [appO, if_neg e, if_neg hfit, if_pos hb']
        rw [List.take_left']
        rfl
theorem appX {k bytes n : Nat} {s x : PV} {rows m : List (List PV)} {H : Heap} (hk : k ≠ 0) (hby : bytes ≠ 0) (hs : (s = .nils ∧ rows = []) ∨ ∃ id, VW H k id s rows ∧ id < n) (hx : (x = .nils ∧ m = []) ∨ ∃ id, VW H k id x m)
    (hb : (rows.length + m.length) * bytes ≤ 140737488355328) :
    ∃ (v' : PV) (H' : Heap) (n' : Nat) (fp : Fp) (w : Nat), appendX k bytes s x H n = some ⟨v', H', n', fp⟩ ∧ ((v' = .nils ∧ rows ++ m = []) ∨ (VW H' k w v' (rows ++ m) ∧ w < n')) ∧ (∀ j, j ≠ w → H'.get j = H.get j) ∧ n ≤ n' ∧ (w = n ∨ VW H k w s rows) := by
  have hel : ∃ rd, appendX k bytes s x H n = appendV k bytes s m rd H n := by
    rcases hx with ⟨rfl, rfl⟩ | ⟨id, ver, rest, rfl, hH⟩
    · exact ⟨[], by simp [appendX, hk, hby]⟩
    · refine ⟨[id], ?_⟩
      have : elems H (.view id ver k 0 m.length none) = some (k, m, [id]) := by simp [elems, hH]
      simp [appendX, hk, hby, this, appElems]
  obtain ⟨rd, hel⟩ := hel
  rw [hel]
  exact appV rd hs hb
def PrR (v : PV) (ps : List (Ty × Ty)) : Prop := (v = .nils ∧ ps = []) ∨ ∃ xs fl, v = .data 10 xs fl ∧ xs.length = ps.length ∧ ∀ i, (h : i < ps.length) → ∃ rl rr, xs[i]? = some (rl ++ rr) ∧ TyR rl ps[i].1 ∧ TyR rr ps[i].2
theorem PrR.len {v : PV} {ps : List (Ty × Ty)} (h : PrR v ps) (H : Heap) (n : Nat) : lenX .slice H n v = some ⟨.int .i64 (ps.length : Nat), H, n, .no⟩ := by
  rcases h with ⟨rfl, rfl⟩ | ⟨xs, fl, rfl, e, _⟩
  · rfl
  · simp [lenX, e]
structure AgSt (idS idM : Nat) (es : Ents) (clock : Nat) (pv up pl : PV) (prows : List (List PV)) (leaf : Int → Nat) (inn : PV → PV) (Q : PV → Prop) (nv M : Nat)
    (H : Heap) (n : Nat) (W : List Nat) (cnt len : Nat) (D : Nat → Nd) (A : Nat → List Nat) (U : Nat → List PV) (P R rk : Nat → Nat) (done : List (Ty × Ty)) (L : List (PV × PV)) : Prop where
  st : Store H n idS W pv (.map idM) up pl cnt len D A U P R rk
  base : LayBase H n W idM es clock pl prows
  shut : Shut len D A U R
  hl0 : nv ≤ len
  hD : ∀ i, i < nv → (D i).kind = 1
  hA : ∀ i, i < nv → A i = []
  nk : ∀ i, nv ≤ i → i < len → (D i).kind ≠ 1
  reps : ∀ p ∈ done, ∃ rl rr, Rep len D A U leaf inn rl p.1 ∧ Rep len D A U leaf inn rr p.2 ∧ R rl = R rr
  min : ∀ σ : Nat → Ty, (∀ p ∈ done, p.1.sub (fun v => σ (leaf v)) inn = p.2.sub (fun v => σ (leaf v)) inn) → (∃ val, ValOk len D A U σ val ∧ ∀ i, i < len → val (R i) = val i) ∧ ∀ p ∈ L, p.1 = p.2
  bA : ∀ i, i < len → (A i).length ≤ M
  bU : ∀ i, i < len → (U i).length ≤ M
  un : ∀ i, i < len → ∀ u ∈ U i, ∃ v, Q v ∧ u = inn v
  lu : ∀ p ∈ L, ∃ i j, i < len ∧ j < len ∧ p.1 ∈ U i ∧ p.2 ∈ U j
theorem Shut.lay {len len' : Nat} {D D' : Nat → Nd} {A A' : Nat → List Nat} {U U' : Nat → List PV} {R R' : Nat → Nat} (h : Shut len D A U R) (g : Grown len D A U len' D' A' U') (h1 : ∀ i, i < len → R' i = R i) (h2 : ∀ i, len ≤ i → i < len' → R' i = i)
    (hs : ∀ i, i < len → ∀ a ∈ A i, a < len) (hR : ∀ i, i < len → R i < len) : Shut len' D' A' U' R' where
  clo i j hi hj e k1 k2 := by
    by_cases c1 : i < len <;> by_cases c2 : j < len
    · rw [h1 i c1, h1 j c2] at e
      rw [g.D i c1] at k1; rw [g.D j c2] at k2
      obtain ⟨g1, g2⟩ := h.clo i j c1 c2 e k1 k2
      refine ⟨?_, fun p hp => ?_⟩
      · simp only [Head, g.D i c1, g.D j c2, g.A i c1, g.A j c2, g.U i c1, g.U j c2]; exact g1
      · rw [g.A i c1, g.A j c2] at hp
        obtain ⟨l1, l2⟩ := List.of_mem_zip (show (p.1, p.2) ∈ _ from hp)
        rw [h1 _ (hs i c1 _ l1), h1 _ (hs j c2 _ l2)]
        exact g2 p hp
    · rw [h1 i c1, h2 j (by omega) hj] at e
      have := hR i c1
      omega
    · rw [h1 j c2, h2 i (by omega) hi] at e
      have := hR j c2
      omega
    · rw [h2 i (by omega) hi, h2 j (by omega) hj] at e
      subst e
      refine ⟨⟨rfl, rfl, rfl, rfl, rfl⟩, fun p hp => ?_⟩
      have : ∀ (l : List Nat), ∀ p ∈ l.zip l, p.1 = p.2 := by
        intro l
        induction l with
        | nil => intro p hp; simp at hp
        | cons x l ih =>
          intro p hp
          rcases List.mem_cons.1 hp with rfl | hp
          · rfl
          · exact ih p hp
      rw [this _ p hp]
  var i hi hk := by
    by_cases c : i < len
    · rw [h1 i c, g.D _ (hR i c)] at hk
      rw [g.D i c]
      exact h.var i c hk
    · rw [h2 i (by omega) hi] at hk; exact hk
def agS (x0 x1 x2 x3 x4 x5 x6 x7 x8 x9 x10 x11 x12 x13 x14 x15 x16 x17 x18 x19 x20 x21 x22 x23 x24 : PV) : List PV := [x0, x1, x2, x3, x4, x5, x6, x7, x8, x9, x10, x11, x12, x13, x14, x15, x16, x17, x18, x19, x20, x21, x22, x23, x24]
def agT : ICode := B_28_2.b.b.a.a.b.b
theorem agT_eq : B_28_2 = .seq B_28_2.a (.seq B_28_2.b.a (.seq (.block 1 (.seq B_28_2.b.b.a.a.a (.seq B_28_2.b.b.a.a.b.a agT))) B_28_2.b.b.b)) := rfl
section
variable {H H2 H3 H4 : Heap} {n n2 n3 n4 idS nb t m i k : Nat} {ok : Bool} {x0 x1 x2 x4 x5 x6 x7 x8 x9 x10 x12 x14 x15 x16 x17 x18 x19 x20 x21 x22 x23 x24 a1 u1 a2 u2 y : PV} {k1 m1 k2 m2 : Int} {s1 s2 : ByteArray} {xs : List (List PV)} {fl : Fl}
theorem ag_take {z : PV} (hx : xs[t]? = some [.int .i64 k1, .int .i64 m1, .str s1, a1, u1, .int .i64 k2, .int .i64 m2, .str s2, a2, u2]) (ht : t < m) (hm : m < 1000000) (hb : H.get nb = some (.arr 0 1 [[.ptr idS 0 7 0 0]])) (lb : nb < n)
    (c1 : a1.cells? = some [a1]) (c2 : u1.cells? = some [u1]) (c3 : a2.cells? = some [a2]) (c4 : u2.cells? = some [u2])
    (e1 : Gf 73 [.ptr idS 0 7 0 0, .agg [.int .i64 k1, .int .i64 m1, .str s1, a1, u1]] (H.set n (.arr 0 10 [[.int .i64 k1, .int .i64 m1, .str s1, a1, u1, .int .i64 k2, .int .i64 m2, .str s2, a2, u2]])) (n + 1) = some (.int .i64 i, H2, n2))
    (hb2 : H2.get nb = some (.arr 0 1 [[.ptr idS 0 7 0 0]])) (hp2 : H2.get n = some (.arr 0 10 [[.int .i64 k1, .int .i64 m1, .str s1, a1, u1, .int .i64 k2, .int .i64 m2, .str s2, a2, u2]]))
    (e2 : Gf 73 [.ptr idS 0 7 0 0, .agg [.int .i64 k2, .int .i64 m2, .str s2, a2, u2]] H2 n2 = some (.int .i64 k, H3, n3)) (hb3 : H3.get nb = some (.arr 0 1 [[.ptr idS 0 7 0 0]]))
    (e3 : Gf 72 [.ptr idS 0 7 0 1, .int .i64 i, .int .i64 k] H3 n3 = some (.tup [y, z], H4, n4))
    (hs : PV.sameF deep (.agg [.int .i64 k2, .int .i64 m2, .str s2, a2, u2]) (.agg [.int .i64 k2, .int .i64 m2, .str s2, a2, u2]) = true) :
    codeL Gf B_28_2 ⟨agS x0 x1 x2 (.ptr nb 0 1 0 0) x4 x5 x6 x7 x8 x9 x10 (.data 10 xs fl) (.int .i64 m) (.int .i64 t) x14 x15 x16 x17 x18 x19 x20 x21 x22 x23 x24, H, n⟩ =
      contC Gf B_28_2.b.b.b (contB 1 (codeL Gf agT ⟨agS x0 x1 x2 (.ptr nb 0 1 0 0) x4 x5 (.ptr n 0 10 0 0) y z x9 x10 (.data 10 xs fl) (.int .i64 m) (.int .i64 t) (.bool true) x15 x16 x17 x18 x19 x20 x21 x22 x23 x24, H4, n4⟩)) := by
  have hix : idxAddrV 10 (.data 10 xs fl) (.int .i64 (t : Nat)) = some (.dp fl.isTmp [.int .i64 k1, .int .i64 m1, .str s1, a1, u1, .int .i64 k2, .int .i64 m2, .str s2, a2, u2] 0) := idxAddr_data 10 _ fl .i64 t _ hx
  rw [agT_eq]
  simp (disch := omega) only [go_sem, Nat.reduceAdd, Nat.reduceMul, Nat.reduceLeDiff, B_28_2, ICode.a, ICode.b, agS, hix, hb, get_same, get_other, e1, hb2, hp2, e2, e3]
  rw [ordIf_ok]
  · simp (disch := omega) only [go_sem]
  · refine orderly_mix (by simp [M_28_0]) 3136 rfl _ K_28_0 ?_
    have f0 : ∀ (T : List PV) (L : List Fp), T.getD 0 .any = .ptr idS 0 7 0 0 → wbits L 1 = 3136 → L.length = 17 → L.getD 0 .no = ⟨[nb], [], false⟩ → freeRead Gf [x0, x1, x2, .ptr nb 0 1 0 0, x4, x5, .ptr n 0 10 0 0, x7, x8, x9, x10, .data 10 xs fl, .int .i64 m, .int .i64 t, .bool true, x15, x16, x17, x18, x19, x20, x21, x22, x23, x24]
        [⟨.load false 1 (.x 3), none⟩, ⟨.nilChk (.t 0), none⟩, ⟨.fieldAddr 1 (.t 1), none⟩, ⟨.load false 1 (.x 3), none⟩, ⟨.fieldAddr 0 (.x 6), none⟩, ⟨.load true 5 (.t 4), none⟩, ⟨.call 1 (.c (.func 73 [] [])) [.t 3, .t 5], none⟩, ⟨.load false 1 (.x 3), none⟩, ⟨.fieldAddr 5 (.x 6), none⟩, ⟨.load true 5 (.t 8), none⟩, ⟨.call 1 (.c (.func 73 [] [])) [.t 7, .t 9], none⟩, ⟨.call 1 (.c (.func 72 [] [])) [.t 2, .t 6, .t 10], none⟩, ⟨.mv (.t 11), none⟩, ⟨.extract (.t 12) 0, none⟩, ⟨.extract (.t 12) 1, none⟩, ⟨.mv (.t 13), none⟩, ⟨.mv (.t 14), none⟩]
        (H.set n (.arr 0 10 [[.int .i64 k1, .int .i64 m1, .str s1, a1, u1, .int .i64 k2, .int .i64 m2, .str s2, a2, u2]])) (n + 1) T L M_28_0 0 = true := by
      intro T L hT hW hl hL
      refine free_of [6, 10] 3136 hW (by rw [hl]; simp) rfl hL ?_ ?_
      · simp (disch := omega) only [go_sem, freeAt, hb, get_other, hT]
      · intro j hj
        simp only [List.mem_cons, List.not_mem_nil, or_false] at hj
        rcases hj with rfl | rfl
        · simp (disch := omega) only [go_sem, Nat.reduceAdd, freeAt, hb, get_same, get_other, hT, e1, hb2]
        · simp (disch := omega) only [go_sem, Nat.reduceAdd, freeAt, hb, get_same, get_other, hT, e1, hb2, hp2, e2, hb3]
    intro x hx
    simp only [List.mem_cons, List.not_mem_nil, or_false] at hx
    rcases hx with rfl | rfl | rfl | rfl | rfl | rfl | rfl | rfl | rfl
    · exact .inl rfl
    · exact .inl rfl
    · exact .inr (.inl (f0 _ _ rfl rfl rfl rfl))
    · refine .inr (.inr (free_of [6] 3136 rfl (by simp) rfl rfl ?_ ?_))
      · simp (disch := omega) only [go_sem, freeAt, hb, get_other]
      · intro j hj
        simp only [List.mem_cons, List.not_mem_nil, or_false] at hj
        subst hj
        simp (disch := omega) only [go_sem, Nat.reduceAdd, freeAt, hb, get_same, get_other, e1, hb2]
    · exact .inl rfl
    · refine .inr (.inr (free_of [6] 3136 rfl (by simp) rfl rfl ?_ ?_))
      · simp (disch := omega) only [go_sem, freeAt, get_same, hs]
      · intro j hj
        simp only [List.mem_cons, List.not_mem_nil, or_false] at hj
        subst hj
        simp (disch := omega) only [go_sem, Nat.reduceAdd, freeAt, hb, get_same, get_other, e1, hp2, hs]
    · exact .inl rfl
    · exact .inl rfl
    · exact .inr (.inl (f0 _ _ rfl rfl rfl rfl))
theorem ag_fail : contC Gf B_28_2.b.b.b (contB 1 (codeL Gf agT ⟨agS x0 x1 x2 (.ptr nb 0 1 0 0) x4 x5 x6 y (.bool false) x9 x10 x12 (.int .i64 m) (.int .i64 t) x14 x15 x16 x17 x18 x19 x20 x21 x22 x23 x24, H, n⟩)) =
    some (.ret, ⟨agS x0 x1 x2 (.ptr nb 0 1 0 0) (.bool false) x5 x6 y (.bool false) x9 x10 x12 (.int .i64 m) (.int .i64 t) x14 (.bool true) x16 x17 x18 x19 x20 x21 x22 x23 x24, H, n⟩) := by
  simp (disch := omega) only [go_sem, B_28_2, agT, ICode.a, ICode.b, agS]
theorem ag_next {v' : PV} {fp : Fp} (happ : appendX 2 48 x5 y H n = some ⟨v', H2, n2, fp⟩) (ht : t < m) (hm : m < 1000000) : contC Gf B_28_2.b.b.b (contB 1 (codeL Gf agT ⟨agS x0 x1 x2 (.ptr nb 0 1 0 0) x4 x5 x6 y (.bool true) x9 x10 x12 (.int .i64 m) (.int .i64 t) x14 x15 x16 x17 x18 x19 x20 x21 x22 x23 x24, H, n⟩)) =
    some (.normal, ⟨agS x0 x1 x2 (.ptr nb 0 1 0 0) x4 v' x6 y (.bool true) x9 x10 x12 (.int .i64 m) (.int .i64 (t + 1 : Nat)) x14 (.bool false) x16 x17 x18 x19 x20 x21 x22 x23 x24, H2, n2⟩) := by
  obtain ⟨rd, wr, al⟩ := fp
  simp (disch := omega) only [go_sem, B_28_2, agT, ICode.a, ICode.b, agS, happ, cast_add1]
end
def szs : List (Ty × Ty) → Nat
  | [] => 0
  | p :: ps => p.1.size + p.2.size + szs ps
theorem szs_snoc : ∀ (l : List (Ty × Ty)) (p : Ty × Ty), szs (l ++ [p]) = szs l + (p.1.size + p.2.size)
  | [], p => by simp [szs]
  | q :: l, p => by simp only [List.cons_append, szs, szs_snoc l p]; omega
theorem szs_take_le (l : List (Ty × Ty)) : ∀ t, szs (l.take t) ≤ szs l := by
  induction l with
  | nil => intro t; simp
  | cons x l ih =>
    intro t
    cases t with
    | zero => simp [szs]
    | succ t => simp only [List.take_succ_cons, szs]; have := ih t; omega
theorem szs_mem {p : Ty × Ty} : ∀ {l : List (Ty × Ty)}, p ∈ l → p.1.size + p.2.size ≤ szs l
  | [], h => by simp at h
  | q :: l, h => by
    simp only [szs]
    rcases List.mem_cons.1 h with rfl | h
    · omega
    · have := szs_mem h; omega
def Solves (leaf : Int → Nat) (inn : PV → PV) (σ : Nat → Ty) (ps : List (Ty × Ty)) : Prop := ∀ p ∈ ps, p.1.sub (fun v => σ (leaf v)) inn = p.2.sub (fun v => σ (leaf v)) inn
section
variable {idS idM clock nv M B nb : Nat} {es : Ents} {pv up pl : PV} {prows : List (List PV)} {leaf : Int → Nat} {inn : PV → PV} {V : Int → Prop} {Q : PV → Prop} {xv : PV} {ps : List (Ty × Ty)}
theorem ag_pairs (hQ : ∀ u, Q u → InnOk idS pv (.map idM) up pl prows inn u) (hV : ∀ v, V v → imGet es v = some (.int .i64 (leaf v : Nat)) ∧ leaf v < nv) (hps : PrR xv ps) (hfit : ∀ p ∈ ps, Fit V Q p.1 ∧ Fit V Q p.2) (hcst : ∀ p ∈ ps, p.1.cst < 4000 ∧ p.2.cst < 4000)
    (hM : ∀ p ∈ ps, p.1.size ≤ M ∧ p.2.size ≤ M) (hM2 : M < 1000000) (hB : nv + szs ps ≤ B) (hB2 : B < 900000) (hBM : B * M < 800000000) (hcm : ps.length * (1 + B * M) < 800000000000) (hlen : ps.length < 100000)
    {H0 : Heap} {n0 : Nat} {W0 : List Nat} (hbase : LayBase H0 n0 W0 idM es clock pl prows) (hnb : H0.get nb = some (.arr 0 1 [[.ptr idS 0 7 0 0]])) (lnb : nb < n0) (wnb : nb ∉ W0) {x0 x1' x2 x4 : PV} :
    ∀ (d t : Nat) (H : Heap) (n : Nat) (W : List Nat) (cnt len : Nat) (D : Nat → Nd) (A : Nat → List Nat) (U : Nat → List PV) (P R rk : Nat → Nat) (L : List (PV × PV)) (x5 x6 x7 x8 x9 x10 x14 x15 x16 x17 x18 x19 x20 x21 x22 x23 x24 : PV), ps.length - t = d → t ≤ ps.length →
      AgSt idS idM es clock pv up pl prows leaf inn Q nv M H n W cnt len D A U P R rk (ps.take t) L → Same W0 n0 H0 H → (∀ x ∈ W, x ∈ W0 ∨ n0 ≤ x) → n0 ≤ n → len ≤ nv + szs (ps.take t) → cnt ≤ t * (1 + B * M) → L.length ≤ t * (B * M) →
      ((x5 = .nils ∧ L = []) ∨ ∃ w, n0 ≤ w ∧ w < n ∧ w ∉ W ∧ VW H 2 w x5 (L.map lrow) ∧ Sto H n ([w] ++ W) len D A U) →
      (∃ (H' : Heap) (n' : Nat) (W' : List Nat) (cnt' len' : Nat) (D' : Nat → Nd) (A' : Nat → List Nat) (U' : Nat → List PV) (P' R' rk' : Nat → Nat) (L' : List (PV × PV)) (y5 y6 y7 y8 y15 : PV),
        codeL Gf (.loop B_28_2) ⟨agS x0 x1' x2 (.ptr nb 0 1 0 0) x4 x5 x6 x7 x8 x9 x10 xv (.int .i64 ps.length) (.int .i64 t) x14 x15 x16 x17 x18 x19 x20 x21 x22 x23 x24, H, n⟩ =
          some (.exit 0, ⟨agS x0 x1' x2 (.ptr nb 0 1 0 0) x4 y5 y6 y7 y8 x9 x10 xv (.int .i64 ps.length) (.int .i64 ps.length) (.bool false) y15 x16 x17 x18 x19 x20 x21 x22 x23 x24, H', n'⟩) ∧
        AgSt idS idM es clock pv up pl prows leaf inn Q nv M H' n' W' cnt' len' D' A' U' P' R' rk' ps L' ∧ Same W0 n0 H0 H' ∧ (∀ x ∈ W', x ∈ W0 ∨ n0 ≤ x) ∧ n0 ≤ n' ∧ len' ≤ nv + szs ps ∧ L'.length ≤ ps.length * (B * M) ∧
        ((y5 = .nils ∧ L' = []) ∨ ∃ w, n0 ≤ w ∧ w < n' ∧ w ∉ W' ∧ VW H' 2 w y5 (L'.map lrow) ∧ Sto H' n' ([w] ++ W') len' D' A' U')) ∨
      (∃ (H' : Heap) (n' : Nat) (T : List PV), codeL Gf (.loop B_28_2) ⟨agS x0 x1' x2 (.ptr nb 0 1 0 0) x4 x5 x6 x7 x8 x9 x10 xv (.int .i64 ps.length) (.int .i64 t) x14 x15 x16 x17 x18 x19 x20 x21 x22 x23 x24, H, n⟩ =
          some (.ret, ⟨[x0, x1', x2, .ptr nb 0 1 0 0, .bool false] ++ T, H', n'⟩) ∧ (¬ ∃ σ, Solves leaf inn σ ps) ∧ Same W0 n0 H0 H') := by
  intro d
  induction d with
  | zero =>
    intro t H n W cnt len D A U P R rk L x5 x6 x7 x8 x9 x10 x14 x15 x16 x17 x18 x19 x20 x21 x22 x23 x24 hd ht hag sm0 w0 ln0 hlenb hcnt hL hx5
    have e : t = ps.length := by omega
    subst e
    rw [List.take_length] at hag hlenb
    refine .inl ⟨H, n, W, cnt, len, D, A, U, P, R, rk, L, x5, x6, x7, x8, x15, codeL_loop_end ?_ (by simp), hag, sm0, w0, ln0, hlenb, hL, hx5⟩
    simp (disch := omega) only [go_sem, B_28_2, agS]
  | succ d ih =>
    intro t H n W cnt len D A U P R rk L x5 x6 x7 x8 x9 x10 x14 x15 x16 x17 x18 x19 x20 x21 x22 x23 x24 hd ht hag sm0 w0 ln0 hlenb hcnt hL hx5
    have htl : t < ps.length := by omega
    have hmem : ps[t] ∈ ps := List.getElem_mem _
    obtain ⟨xs, fl, rfl, hxl, hrows⟩ : ∃ xs fl, xv = .data 10 xs fl ∧ xs.length = ps.length ∧ ∀ i, (h : i < ps.length) → ∃ rl rr, xs[i]? = some (rl ++ rr) ∧ TyR rl ps[i].1 ∧ TyR rr ps[i].2 := by
      rcases hps with ⟨_, rfl⟩ | h
      · simp at htl
      · exact h
    obtain ⟨rl, rr, hrow, hRl, hRr⟩ := hrows t htl
    obtain ⟨a1, u1, rfl, ha1, hu1⟩ := id hRl.five
    obtain ⟨a2, u2, rfl, ha2, hu2⟩ := id hRr.five
    have hsame := same_tyAgg hRr (hcst _ hmem).2
    obtain ⟨hf1, hf2⟩ := hfit _ hmem
    obtain ⟨hs1, hs2⟩ := hM _ hmem
    have hszt := szs_snoc (ps.take t) ps[t]
    rw [← List.take_succ_eq_append_getElem htl] at hszt
    have hle := szs_take_le ps (t + 1)
    obtain ⟨st, base, shut, hl0, hD, hA, nk, reps, min, bA, bU, un, lu⟩ := hag
    have lt := st.lt
    have lS := lt _ st.own
    -- the pair's copy
    have lo0 := (LayOut.refl (UP := fun u => ∃ v, Q v ∧ u = inn v) st).fresh (H1 := H.set n (.arr 0 10 [[.int .i64 ps[t].1.kind, .int .i64 ps[t].1.num, .str ps[t].1.name, a1, u1, .int .i64 ps[t].2.kind, .int .i64 ps[t].2.num, .str ps[t].2.name, a2, u2]])) (n1 := n + 1) (fun id hid => get_other _ _ (by omega)) (by omega)
    have base1 := base.same lo0.sm lo0.w lo0.ln
    obtain ⟨i, H2, n2, W2, len2, D2, A2, U2, P2, R2, rk2, e1, lo1, rep1⟩ := typ_run hQ hV hRl hf1 hl0 hD lo0.st base1 (by omega)
    have base2 := base1.same lo1.sm lo1.w lo1.ln
    have hll1 := lo1.ll
    obtain ⟨k, H3, n3, W3, len3, D3, A3, U3, P3, R3, rk3, e2, lo2, rep2⟩ := typ_run hQ hV hRr hf2 (by have := lo1.gr.le; omega) (fun i hi => by rw [lo1.gr.D i (by omega)]; exact hD i hi) lo1.st base2 (by omega)
    have loA := (lo0.trans lo1).trans lo2
    have hll2 := loA.ll
    have hgr := loA.gr
    have hle3 := hgr.le
    have rep1' := rep1.grown lo2.gr
    have shut3 : Shut len3 D3 A3 U3 R3 := shut.lay hgr loA.r1 loA.r2 st.sto.sub (fun i hi => (st.ups i hi).2.1)
    have bA3 : ∀ i, i < len3 → (A3 i).length ≤ M ∧ (U3 i).length ≤ M := by
      intro i hi
      by_cases c : i < len
      · rw [hgr.A i c, hgr.U i c]; exact ⟨bA i c, bU i c⟩
      · by_cases c2 : i < len2
        · rw [lo2.gr.A i c2, lo2.gr.U i c2]
          have := lo1.ba i (by have := lo0.gr.le; omega) c2
          omega
        · have := lo2.ba i (by omega) hi
          omega
    have hB3 : len3 * M ≤ B * M := Nat.mul_le_mul_right M (by omega)
    have hcb : t * (1 + B * M) + (1 + B * M) ≤ ps.length * (1 + B * M) := by
      have := Nat.mul_le_mul_right (1 + B * M) (show t + 1 ≤ ps.length from htl)
      rwa [Nat.add_mul, Nat.one_mul] at this
    have hnbH : H.get nb = some (.arr 0 1 [[.ptr idS 0 7 0 0]]) := (sm0 _ lnb wnb).trans hnb
    have wnbW : nb ∉ W := fun hm => by rcases w0 _ hm with e | e; exact wnb e; omega
    have hnb2 : H2.get nb = some (.arr 0 1 [[.ptr idS 0 7 0 0]]) := by rw [(lo0.trans lo1).sm _ (by omega) wnbW]; exact hnbH
    have hnb3 : H3.get nb = some (.arr 0 1 [[.ptr idS 0 7 0 0]]) := by rw [loA.sm _ (by omega) wnbW]; exact hnbH
    have hnW : n ∉ W := fun hm => by have := lt _ hm; omega
    have hp2 : H2.get n = some (.arr 0 10 [[.int .i64 ps[t].1.kind, .int .i64 ps[t].1.num, .str ps[t].1.name, a1, u1, .int .i64 ps[t].2.kind, .int .i64 ps[t].2.num, .str ps[t].2.name, a2, u2]]) := by rw [lo1.sm _ (by omega) hnW, get_same]
    -- what stands for them, if it is to be solved
    have hval : ∀ σ : Nat → Ty, Solves leaf inn σ (ps.take (t + 1)) → (∃ val, ValOk len3 D3 A3 U3 σ val ∧ (∀ j, j < len3 → val (R3 j) = val j) ∧ val i = val k) ∧ ∀ p ∈ L, p.1 = p.2 := by
      intro σ hσ
      rw [List.take_succ_eq_append_getElem htl] at hσ
      obtain ⟨⟨val, hv1, hv2⟩, hv3⟩ := min σ (fun p hp => hσ p (List.mem_append_left _ hp))
      obtain ⟨val', hw1, hw2⟩ := val_ext hv1 hgr loA.nw st.sto.sub
      refine ⟨⟨val', hw1, fun j hj => ?_, ?_⟩, hv3⟩
      · by_cases c : j < len
        · rw [loA.r1 j c, hw2 _ (st.ups j c).2.1, hw2 j c]; exact hv2 j c
        · rw [loA.r2 j (by omega) hj]
      · rw [rep1'.val hw1, rep2.val hw1]
        exact hσ _ (List.mem_append_right _ (List.mem_singleton.2 rfl))
    rcases equal_run (a := i) (b := k) loA.st shut3 rep1'.lt rep2.lt (by omega) (fun j hj => (bA3 j hj).1) (fun j hj => (bA3 j hj).2) hM2 hM2 (by omega) (by omega) (by omega) with
      ⟨H4, n4, cnt4, W4, P4, R4, rk4, y, Ln, e3, st4, shut4, inv, gave, sm4, w4, ln4, hcnt4, hLn⟩ | ⟨H4, n4, e3, hno, sm4⟩
    · -- they are one
      have hap5 : ∃ w, ((x5 = .nils ∧ L = []) ∨ (n0 ≤ w ∧ w < n4 ∧ w ∉ W4 ∧ VW H4 2 w x5 (L.map lrow) ∧ Sto H4 n4 ([w] ++ W4) len3 D3 A3 U3)) := by
        rcases hx5 with c | ⟨w, c1, c2, c3, c4, c5⟩
        · exact ⟨0, .inl c⟩
        · have g0 := loA.fx [w] (fun x hx => by simp at hx; omega) c5
          have g1 : w ∉ W3 := fun hm => by rcases loA.w _ hm with e | e; exact c3 e; omega
          have lnA := loA.ln
          refine ⟨w, .inr ⟨c1, by omega, fun hm => by rcases w4 _ hm with e | e; exact g1 e; omega, (c4.same (loA.sm _ c2 c3)).same (sm4 _ (by omega) g1), ?_⟩⟩
          exact (g0.same (sm4.mono (fun x hx => by simp [hx]) (Nat.le_refl _))).wider (fun x hx => by
            rcases List.mem_append.1 hx with e | e
            · exact .inl (by simp at e; simp [e])
            · rcases w4 _ e with e | e
              · exact .inl (by simp [e])
              · exact .inr e) ln4
      obtain ⟨w5, hap5⟩ := hap5
      have hs5 : (x5 = .nils ∧ L.map lrow = []) ∨ ∃ id, VW H4 2 id x5 (L.map lrow) ∧ id < n4 := by
        rcases hap5 with ⟨c1, c2⟩ | ⟨_, c2, _, c4, _⟩
        · exact .inl ⟨c1, by rw [c2]; rfl⟩
        · exact .inr ⟨w5, c4, c2⟩
      have hgave : (y = .nils ∧ Ln.map lrow = []) ∨ ∃ id, VW H4 2 id y (Ln.map lrow) := by
        rcases gave with ⟨c1, c2⟩ | ⟨id, c⟩
        · exact .inl ⟨c1, by rw [c2]; rfl⟩
        · exact .inr ⟨id, c⟩
      have hLl : t * (B * M) + B * M ≤ ps.length * (B * M) := by
        have := Nat.mul_le_mul_right (B * M) (show t + 1 ≤ ps.length from htl)
        rwa [Nat.add_mul, Nat.one_mul] at this
      have hLp : ps.length * (B * M) ≤ ps.length * (1 + B * M) := Nat.mul_le_mul_left _ (by omega)
      obtain ⟨v', H5, n5, fp, w6, happ, hv', hs6, ln5, hw6⟩ := appX (k := 2) (bytes := 48) (by decide) (by decide) hs5 hgave (by simp only [List.length_map]; omega)
      have hw6' : n0 ≤ w6 ∧ w6 ∉ W4 ∧ Sto H4 n4 ([w6] ++ W4) len3 D3 A3 U3 := by
        have lnA := loA.ln
        rcases hw6 with rfl | hv
        · exact ⟨by omega, fun hm => by have := st4.lt _ hm; omega, st4.sto.wider (fun x hx => by simp at hx; rcases hx with rfl | hx; exact .inr (Nat.le_refl _); exact .inl hx) (Nat.le_refl _)⟩
        · rcases hap5 with ⟨c1, _⟩ | ⟨c1, c2, c3, c4, c5⟩
          · obtain ⟨_, _, e, _⟩ := hv; rw [c1] at e; cases e
          · have e : w6 = w5 := by
              obtain ⟨_, _, e1, _⟩ := hv
              obtain ⟨_, _, e2, _⟩ := c4
              rw [e1] at e2; cases e2; rfl
            rw [e]; exact ⟨c1, c3, c5⟩
      have st5 : Store H5 n5 idS W4 pv (.map idM) up pl cnt4 len3 D3 A3 U3 P4 R4 rk4 := st4.beside hw6'.2.1 hw6'.2.2 hs6 ln5
      have lnA := loA.ln
      have sm05 : Same W0 n0 H0 H5 := by
        have g1 : Same W0 n0 H0 H3 := sm0.step loA.sm w0 ln0
        have g2 : Same W0 n0 H0 H4 := g1.step sm4 (fun x hx => by
          rcases loA.w x hx with e | e
          · exact w0 x e
          · exact .inr (by omega)) (by omega)
        exact fun id h1 h2 => (hs6 id (by omega)).trans (g2 id h1 h2)
      have w05 : ∀ x ∈ W4, x ∈ W0 ∨ n0 ≤ x := fun x hx => by
        rcases w4 x hx with e | e
        · rcases loA.w x e with e | e
          · exact w0 x e
          · exact .inr (by omega)
        · exact .inr (by omega)
      have hmin5 : ∀ σ : Nat → Ty, (∀ p ∈ ps.take (t + 1), p.1.sub (fun v => σ (leaf v)) inn = p.2.sub (fun v => σ (leaf v)) inn) → (∃ val, ValOk len3 D3 A3 U3 σ val ∧ ∀ j, j < len3 → val (R4 j) = val j) ∧ ∀ p ∈ L ++ Ln, p.1 = p.2 := by
        intro σ hσ
        obtain ⟨⟨val, g1, g2, g3⟩, g4⟩ := hval σ hσ
        obtain ⟨m1, _, m3⟩ := inv.min _ (val_cong g1) (fun j hj => (g2 j hj).symm) g3
        refine ⟨⟨val, g1, fun j hj => (m1 j hj).symm⟩, fun p hp => ?_⟩
        rcases List.mem_append.1 hp with hp | hp
        · exact g4 p hp
        · obtain ⟨a, b, c, h1, h2, h3, h4, h5, h6, h7⟩ := m3 p hp
          have h8 := h3
          rw [g1.node a h1 h4, g1.node b h2 h5] at h8
          simp only [Ty.mk.injEq] at h8
          rw [h8.2.2.2.2] at h6
          exact Option.some.inj (h6.symm.trans h7)
      have hag5 : AgSt idS idM es clock pv up pl prows leaf inn Q nv M H5 n5 W4 cnt4 len3 D3 A3 U3 P4 R4 rk4 (ps.take (t + 1)) (L ++ Ln) :=
        ⟨st5, hbase.same sm05 w05 (by omega), shut4, by omega, fun j hj => by rw [hgr.D j (by omega)]; exact hD j hj, fun j hj => by rw [hgr.A j (by omega)]; exact hA j hj,
          fun j h1 h2 => by
            by_cases c : j < len
            · rw [hgr.D j c]; exact nk j h1 c
            · exact (loA.nw j (by omega) h2).1,
          fun p hp => by
            rw [List.take_succ_eq_append_getElem htl] at hp
            rcases List.mem_append.1 hp with hp | hp
            · obtain ⟨rl, rr, r1, r2, r3⟩ := reps p hp
              exact ⟨rl, rr, r1.grown hgr, r2.grown hgr, inv.ref _ _ (by have := r1.lt; omega) (by have := r2.lt; omega) (by rw [loA.r1 _ r1.lt, loA.r1 _ r2.lt]; exact r3)⟩
            · simp at hp
              subst hp
              exact ⟨i, k, rep1', rep2, shut_ab st4.ups inv⟩,
          hmin5, fun j hj => (bA3 j hj).1, fun j hj => (bA3 j hj).2,
          fun j hj => by
            by_cases c : j < len
            · rw [hgr.U j c]; exact un j c
            · exact loA.uq j (by omega) hj,
          fun p hp => by
            rcases List.mem_append.1 hp with hp | hp
            · obtain ⟨a, b, c1, c2, c3, c4⟩ := lu p hp
              exact ⟨a, b, by omega, by omega, by rw [hgr.U a c1]; exact c3, by rw [hgr.U b c2]; exact c4⟩
            · exact inv.lu p hp⟩
      have hx5' : (v' = .nils ∧ L ++ Ln = []) ∨ ∃ w, n0 ≤ w ∧ w < n5 ∧ w ∉ W4 ∧ VW H5 2 w v' ((L ++ Ln).map lrow) ∧ Sto H5 n5 ([w] ++ W4) len3 D3 A3 U3 := by
        rcases hv' with ⟨c1, c2⟩ | ⟨c1, c2⟩
        · refine .inl ⟨c1, ?_⟩
          rw [← List.map_append] at c2
          exact List.map_eq_nil_iff.1 c2
        · exact .inr ⟨w6, hw6'.1, c2, hw6'.2.1, by rw [List.map_append]; exact c1, (hw6'.2.2.same (fun id _ h2 => hs6 id (by simp at h2; exact h2.1))).wider (fun x hx => .inl hx) ln5⟩
      have hstep := (ag_take (x0 := x0) (x1 := x1') (x2 := x2) (x4 := x4) (x5 := x5) (x6 := x6) (x7 := x7) (x8 := x8) (x9 := x9) (x10 := x10) (x14 := x14) (x15 := x15) (x16 := x16) (x17 := x17) (x18 := x18) (x19 := x19) (x20 := x20) (x21 := x21) (x22 := x22) (x23 := x23) (x24 := x24)
        (xs := xs) (fl := fl) (m := ps.length) hrow htl (by omega) hnbH (by omega) (tys_cells ha1) (us_cells hu1) (tys_cells ha2) (us_cells hu2) e1 hnb2 hp2 e2 hnb3 e3 hsame).trans (ag_next happ htl (by omega))
      have hres := ih (t + 1) H5 n5 W4 cnt4 len3 D3 A3 U3 P4 R4 rk4 (L ++ Ln) v' (.ptr n 0 10 0 0) y (.bool true) x9 x10 (.bool true) (.bool false) x16 x17 x18 x19 x20 x21 x22 x23 x24 (by omega) (by omega) hag5 sm05 w05 (by omega) (by omega)
        (by rw [Nat.add_mul, Nat.one_mul]; omega) (by rw [Nat.add_mul, Nat.one_mul, List.length_append]; omega) hx5'
      rw [← codeL_loop_iff hstep] at hres
      exact hres
    · -- they can't be one
      have hstep := (ag_take (x0 := x0) (x1 := x1') (x2 := x2) (x4 := x4) (x5 := x5) (x6 := x6) (x7 := x7) (x8 := x8) (x9 := x9) (x10 := x10) (x14 := x14) (x15 := x15) (x16 := x16) (x17 := x17) (x18 := x18) (x19 := x19) (x20 := x20) (x21 := x21) (x22 := x22) (x23 := x23) (x24 := x24)
        (xs := xs) (fl := fl) (m := ps.length) hrow htl (by omega) hnbH (by omega) (tys_cells ha1) (us_cells hu1) (tys_cells ha2) (us_cells hu2) e1 hnb2 hp2 e2 hnb3 e3 hsame).trans ag_fail
      have lnA := loA.ln
      refine .inr ⟨H4, n4, _, codeL_loop_end hstep (by simp), ?_, (sm0.step loA.sm w0 ln0).step sm4 (fun x hx => by
        rcases loA.w x hx with e | e
        · exact w0 x e
        · exact .inr (by omega)) (by omega)⟩
      rintro ⟨σ, hσ⟩
      obtain ⟨⟨val, g1, g2, g3⟩, _⟩ := hval σ (fun p hp => hσ p (List.mem_of_mem_take hp))
      exact hno ⟨_, val_cong g1, fun j hj => (g2 j hj).symm, g3⟩
end
section
variable {idS idM idT nb : Nat} {es : Ents} {clock cnt len nv : Nat} {pv up pl tv : PV} {D : Nat → Nd} {A : Nat → List Nat} {U : Nat → List PV} {R : Nat → Nat} {W : List Nat} {ts : List Nat} {x0 x1 x2 x4 x5 x6 x7 x8 x10 x11 x12 x13 x14 x15 x21 x22 x23 x24 : PV}
theorem ag_rings (hkeys : IKeys es) (hat : ∀ j, (h : j < ts.length) → imGet es ts[j] = some (.int .i64 (j : Nat))) (hl : len < 1000000) (hnv : ts.length ≤ len) (mA : ∀ i, i < len → (A i).length < 1000000) (wM : idM ∉ W) (wB : nb ∉ W) (wT : idT ∉ W) :
    ∀ (d t : Nat) (H : Heap) (n : Nat) (P rk : Nat → Nat) (x9 x19 x20 : PV), ts.length - t = d → t ≤ ts.length → Store H n idS W pv (.map idM) up pl cnt len D A U P R rk → H.get idM = some (.map es clock) → idM < n → H.get nb = some (.arr 0 1 [[.ptr idS 0 7 0 0]]) → nb < n →
      VW H 1 idT tv (irows ts) → idT < n → (∀ j, j < t → Fin' A R (R j)) →
      (∃ (H' : Heap) (n' : Nat) (P' rk' : Nat → Nat) (y9 y20 : PV), codeL Gf (.loop B_28_1) ⟨agS x0 x1 x2 (.ptr nb 0 1 0 0) x4 x5 x6 x7 x8 x9 x10 x11 x12 x13 x14 x15 tv (.int .i64 ts.length) (.int .i64 t) x19 x20 x21 x22 x23 x24, H, n⟩ =
          some (.exit 2, ⟨agS x0 x1 x2 (.ptr nb 0 1 0 0) x4 x5 x6 x7 x8 y9 x10 x11 x12 x13 x14 x15 tv (.int .i64 ts.length) (.int .i64 ts.length) (.bool false) y20 x21 x22 x23 x24, H', n'⟩) ∧
        Store H' n' idS W pv (.map idM) up pl cnt len D A U P' R rk' ∧ Same W n H H' ∧ n ≤ n' ∧ ∀ j, j < ts.length → Fin' A R (R j)) ∨
      (∃ (H' : Heap) (n' : Nat) (T : List PV), codeL Gf (.loop B_28_1) ⟨agS x0 x1 x2 (.ptr nb 0 1 0 0) x4 x5 x6 x7 x8 x9 x10 x11 x12 x13 x14 x15 tv (.int .i64 ts.length) (.int .i64 t) x19 x20 x21 x22 x23 x24, H, n⟩ =
          some (.ret, ⟨[x0, x1, x2, .ptr nb 0 1 0 0, .bool false] ++ T, H', n'⟩) ∧ (¬ ∃ dep : Nat → Nat, ∀ r, r < len → R r = r → ∀ a ∈ A r, dep (R a) < dep r) ∧ Same W n H H') := by
  intro d
  induction d with
  | zero =>
    intro t H n P rk x9 x19 x20 hd ht st hM lM hb lb hV lT hfin
    have e : t = ts.length := by omega
    subst e
    refine .inl ⟨H, n, P, rk, x9, x20, codeL_loop_end ?_ (by simp), st, .refl _ _ _, Nat.le_refl _, hfin⟩
    simp (disch := omega) only [go_sem, B_28_1, agS]
  | succ d ih =>
    intro t H n P rk x9 x19 x20 hd ht st hM lM hb lb hV lT hfin
    have htl : t < ts.length := by omega
    obtain ⟨va, ra, rfl, hHA⟩ := id hV
    have eA : (irows ts).length = ts.length := by simp [irows]
    have hra := irows_at htl ra
    obtain ⟨nv0, wv0, hS, _, _⟩ := id st.row
    have hlk : (imGet es ((ts[t] : Nat) : Int)).getD (.int .i64 0) = .int .i64 (t : Nat) := by rw [hat t htl]; rfl
    obtain ⟨b, H1, n1, P1, e1, st1, sm1, ln1, hfin1, hdep1⟩ := ring_store (i := t) st (by omega) hl mA
    cases b with
    | true =>
      refine .inr ⟨H1, n1, _, codeL_loop_end (e := .ret) (s' := ⟨agS x0 x1 x2 (.ptr nb 0 1 0 0) (.bool false) x5 x6 x7 x8 (.int .i64 ts[t]) x10 x11 x12 x13 x14 x15 (.view idT va 1 0 (irows ts).length none) (.int .i64 ts.length) (.int .i64 t) (.bool true) (.bool true) x21 x22 x23 x24, H1, n1⟩) ?_ (by simp), ?_, sm1⟩
      · rw [eA]
        simp (disch := omega) only [go_sem, Nat.reduceAdd, Nat.reduceMul, Nat.reduceLeDiff, B_28_1, agS, hHA, hra, hb, hS, hM, lookO_im hkeys, hlk, e1]
      · rintro ⟨dep, h⟩
        have := hdep1 dep h
        cases this
    | false =>
      have hstep : codeL Gf B_28_1 ⟨agS x0 x1 x2 (.ptr nb 0 1 0 0) x4 x5 x6 x7 x8 x9 x10 x11 x12 x13 x14 x15 (.view idT va 1 0 (irows ts).length none) (.int .i64 ts.length) (.int .i64 t) x19 x20 x21 x22 x23 x24, H, n⟩ =
          some (.normal, ⟨agS x0 x1 x2 (.ptr nb 0 1 0 0) x4 x5 x6 x7 x8 (.int .i64 ts[t]) x10 x11 x12 x13 x14 x15 (.view idT va 1 0 (irows ts).length none) (.int .i64 ts.length) (.int .i64 (t + 1 : Nat)) (.bool true) (.bool false) x21 x22 x23 x24, H1, n1⟩) := by
        rw [eA]
        simp (disch := omega) only [go_sem, Nat.reduceAdd, Nat.reduceMul, Nat.reduceLeDiff, B_28_1, agS, hHA, hra, hb, hS, hM, lookO_im hkeys, hlk, e1, cast_add1]
      rcases ih (t + 1) H1 n1 P1 rk (.int .i64 ts[t]) (.bool true) (.bool false) (by omega) (by omega) st1 ((sm1 _ lM wM).trans hM) (by omega) ((sm1 _ lb wB).trans hb) (by omega) (hV.same (sm1 _ lT wT)) (by omega) (fun j hj => by
        by_cases e : j = t
        · subst e; exact hfin1 rfl
        · exact hfin j (by omega)) with ⟨H', n', P', rk', y9, y20, g1, g2, g3, g4, g5⟩ | ⟨H', n', T, g1, g2, g3⟩
      · exact .inl ⟨H', n', P', rk', y9, y20, by rw [codeL_loop_iff hstep]; exact g1, g2, sm1.trans g3 ln1, by omega, g5⟩
      · exact .inr ⟨H', n', T, by rw [codeL_loop_iff hstep]; exact g1, g2, sm1.trans g3 ln1⟩
end
theorem Ty.size_mk {k n : Int} {s : ByteArray} {as : List Ty} {us : List PV} {t : Ty} (h : t ∈ as) : t.size < (Ty.mk k n s as us).size := by
  have := Ty.size_mem h
  simp only [Ty.size]; omega
theorem dep_of {len : Nat} {D : Nat → Nd} {A : Nat → List Nat} {U : Nat → List PV} {R : Nat → Nat} {σ val : Nat → Ty} (hv : ValOk len D A U σ val) (hR : ∀ i, i < len → val (R i) = val i) (hA : ∀ i, i < len → (D i).kind = 1 → A i = []) (hs : ∀ i, i < len → ∀ a ∈ A i, a < len) :
    ∃ dep : Nat → Nat, ∀ r, r < len → R r = r → ∀ a ∈ A r, dep (R a) < dep r := by
  refine ⟨fun r => (val r).size, fun r hr _ a ha => ?_⟩
  by_cases hk : (D r).kind = 1
  · rw [hA r hr hk] at ha; simp at ha
  · simp only
    rw [hR a (hs r hr a ha), hv.node r hr hk]
    exact Ty.size_mk (List.mem_map_of_mem ha)
section
variable {nb : Nat} {y : PV} {L : List (PV × PV)}
theorem units_all_ok {w : Nat} (hl : L.length < 1000000000) (G : Heap → Nat → Prop) (hG : ∀ (H H' : Heap) (n n' : Nat), G H n → (∀ id, id < n → H'.get id = H.get id) → n ≤ n' → G H' n')
    (hf : ∀ p ∈ L, ∀ (H : Heap) (n : Nat), G H n → ∃ (H' : Heap) (n' : Nat), Gf 77 [.agg [p.1, p.2], .ptr nb 0 1 0 0] H n = some (.bool false, H', n') ∧ (∀ id, id < n → H'.get id = H.get id) ∧ n ≤ n') :
    ∀ (d t : Nat) (H : Heap) (n : Nat) (x3 x6 x7 : PV), L.length - t = d → t ≤ L.length → G H n → VW H 2 w y (L.map lrow) → w < n →
      ∃ (H' : Heap) (n' : Nat) (T : List PV), codeL Gf (.loop B_135_0) ⟨[y, .func 77 [] [.ptr nb 0 1 0 0], .int .i64 0, x3, .int .i64 L.length, .int .i64 t, x6, x7], H, n⟩ =
        some (.exit 0, ⟨[y, .func 77 [] [.ptr nb 0 1 0 0], .int .i64 0] ++ T, H', n'⟩) ∧ (∀ id, id < n → H'.get id = H.get id) ∧ n ≤ n' := by
  intro d
  induction d with
  | zero =>
    intro t H n x3 x6 x7 hd ht hGH hV lw
    have e : t = L.length := by omega
    subst e
    refine ⟨H, n, [x3, .int .i64 L.length, .int .i64 L.length, .bool false, x7], codeL_loop_end ?_ (by simp), fun _ _ => rfl, Nat.le_refl _⟩
    simp (disch := omega) only [go_sem, B_135_0]
  | succ d ih =>
    intro t H n x3 x6 x7 hd ht hGH hV lw
    have htl : t < L.length := by omega
    obtain ⟨va, ra, rfl, hHA⟩ := id hV
    have eA : (L.map lrow).length = L.length := by simp
    have hra : (L.map lrow ++ ra)[t]? = some [L[t].1, L[t].2] := by
      rw [List.getElem?_append_left (by simpa using htl)]; simp [lrow, htl]
    obtain ⟨H1, n1, e1, h1, h2⟩ := hf L[t] (List.getElem_mem _) H n hGH
    obtain ⟨H', n', T, g1, g2, g3⟩ := ih (t + 1) H1 n1 (.int .i64 t) (.bool true) (.bool false) (by omega) (by omega) (hG _ _ _ _ hGH h1 h2) (hV.same (h1 _ lw)) (by omega)
    refine ⟨H', n', T, ?_, fun id hid => (g2 id (by omega)).trans (h1 id hid), by omega⟩
    rw [← g1]
    refine codeL_loop_iff ?_
    rw [eA]
    simp (disch := omega) only [go_sem, B_135_0, hHA, hra, e1, cast_add1]
theorem units_none {H : Heap} {n n0 : Nat} {w : Nat} (hl : L.length < 1000000000) (G : Heap → Nat → Prop) (hG : ∀ (H H' : Heap) (n n' : Nat), G H n → (∀ id, id < n → H'.get id = H.get id) → n ≤ n' → G H' n')
    (hf : ∀ p ∈ L, ∀ (H : Heap) (n : Nat), G H n → ∃ (H' : Heap) (n' : Nat), Gf 77 [.agg [p.1, p.2], .ptr nb 0 1 0 0] H n = some (.bool false, H', n') ∧ (∀ id, id < n → H'.get id = H.get id) ∧ n ≤ n')
    (hGH : G H n) (hy : (y = .nils ∧ L = []) ∨ (w < n ∧ VW H 2 w y (L.map lrow))) :
    ∃ (H' : Heap) (n' : Nat), Gf 76 [y, .func 77 [] [.ptr nb 0 1 0 0]] H n = some (.bool false, H', n') ∧ (∀ id, id < n → H'.get id = H.get id) ∧ n ≤ n' := by
  rcases hy with ⟨rfl, rfl⟩ | ⟨lw, hV⟩
  · refine ⟨H, n, ?_, fun _ _ => rfl, Nat.le_refl _⟩
    have hend : codeL Gf (.loop B_135_0) ⟨[.nils, .func 77 [] [.ptr nb 0 1 0 0], .int .i64 0, .tup [], .int .i64 0, .int .i64 0, .tup [], .tup []], H, n⟩ =
        some (.exit 0, ⟨[.nils, .func 77 [] [.ptr nb 0 1 0 0], .int .i64 0, .tup [], .int .i64 0, .int .i64 0, .bool false, .tup []], H, n⟩) :=
      codeL_loop_end (by simp (disch := omega) only [go_sem, Int.reduceLT, B_135_0]) (by simp)
    have h135 : Gf 135 [.nils, .func 77 [] [.ptr nb 0 1 0 0]] H n = some (.int .i64 (-1), H, n) := by
      rw [R_135]
      simp (disch := omega) only [go_sem, Int.reduceNeg, G_135, hend]
    rw [R_76]
    simp (disch := omega) only [go_sem, Int.reduceNeg, G_76, h135]
  · obtain ⟨H', n', T, g1, g2, g3⟩ := units_all_ok hl G hG hf L.length 0 H n (.tup []) (.tup []) (.tup []) rfl (Nat.zero_le _) hGH hV lw
    refine ⟨H', n', ?_, g2, g3⟩
    obtain ⟨va, ra, rfl, _⟩ := id hV
    have eA : (L.map lrow).length = L.length := by simp
    rw [eA] at g1 ⊢
    rw [show ((0 : Nat) : Int) = 0 from rfl] at g1
    have h135 : Gf 135 [.view w va 2 0 L.length none, .func 77 [] [.ptr nb 0 1 0 0]] H n = some (.int .i64 (-1), H', n') := by
      rw [R_135]
      simp (disch := omega) only [go_sem, Int.reduceNeg, G_135, g1]
    rw [R_76]
    simp (disch := omega) only [go_sem, Int.reduceNeg, G_76, h135]
end
theorem Store.fresh {idS : Nat} {pv nm up pl : PV} {H H1 : Heap} {n n1 cnt len : Nat} {W : List Nat} {D : Nat → Nd} {A : Nat → List Nat} {U : Nat → List PV} {P R rk : Nat → Nat} (st : Store H n idS W pv nm up pl cnt len D A U P R rk)
    (hs : ∀ id, id < n → H1.get id = H.get id) (hn : n ≤ n1) : Store H1 n1 idS W pv nm up pl cnt len D A U P R rk :=
  ((LayOut.refl (UP := fun _ => True) st).fresh hs hn).st
section
variable {idS idM clock nv M B idV : Nat} {es : Ents} {up pl : PV} {prows : List (List PV)} {leaf : Int → Nat} {inn : PV → PV} {V : Int → Prop} {Q : PV → Prop} {xv tv uv sv : PV} {ps : List (Ty × Ty)} {ts : List Nat}
theorem AgSt.fresh {pv : PV} {H H1 : Heap} {n n1 cnt len : Nat} {W : List Nat} {D : Nat → Nd} {A : Nat → List Nat} {U : Nat → List PV} {P R rk : Nat → Nat} {dn : List (Ty × Ty)} {L : List (PV × PV)} (h : AgSt idS idM es clock pv up pl prows leaf inn Q nv M H n W cnt len D A U P R rk dn L)
    (hs : ∀ id, id < n → H1.get id = H.get id) (hn : n ≤ n1) : AgSt idS idM es clock pv up pl prows leaf inn Q nv M H1 n1 W cnt len D A U P R rk dn L :=
  { h with st := h.st.fresh hs hn, base := h.base.same (fun id h1 _ => hs id h1) (fun _ hx => .inl hx) hn }
theorem AgSt.turn {pv : PV} {H H1 : Heap} {n n1 cnt len : Nat} {W : List Nat} {D : Nat → Nd} {A : Nat → List Nat} {U : Nat → List PV} {P R rk P1 rk1 : Nat → Nat} {dn : List (Ty × Ty)} {L : List (PV × PV)} (h : AgSt idS idM es clock pv up pl prows leaf inn Q nv M H n W cnt len D A U P R rk dn L)
    (st : Store H1 n1 idS W pv (.map idM) up pl cnt len D A U P1 R rk1) (hs : Same W n H H1) (hn : n ≤ n1) : AgSt idS idM es clock pv up pl prows leaf inn Q nv M H1 n1 W cnt len D A U P1 R rk1 dn L :=
  { h with st := st, base := h.base.same hs (fun _ hx => .inl hx) hn }
theorem agreed_run {H0 : Heap} {n0 : Nat} {W0 : List Nat} {D0 : Nat → Nd} {A0 : Nat → List Nat} {U0 : Nat → List PV} {P0 R0 rk0 : Nat → Nat}
    (hQ : ∀ u, Q u → InnOk idS (.ptr idV 0 3 0 0) (.map idM) up pl prows inn u) (hV : ∀ v, V v → imGet es v = some (.int .i64 (leaf v : Nat)) ∧ leaf v < ts.length) (hps : PrR xv ps) (hfit : ∀ p ∈ ps, Fit V Q p.1 ∧ Fit V Q p.2) (hcst : ∀ p ∈ ps, p.1.cst < 4000 ∧ p.2.cst < 4000)
    (hM : ∀ p ∈ ps, p.1.size ≤ M ∧ p.2.size ≤ M) (hM2 : M < 1000000) (hB : ts.length + szs ps ≤ B) (hB2 : B < 900000) (hBM : B * M < 800000000) (hcm : ps.length * (1 + B * M) < 800000000000) (hlen : ps.length < 100000) (hLb : ps.length * (B * M) < 1000000000)
    (st : Store H0 n0 idS W0 (.ptr idV 0 3 0 0) (.map idM) up pl 0 ts.length D0 A0 U0 P0 R0 rk0) (hnode : ∀ i, i < ts.length → D0 i = vnode ∧ A0 i = [] ∧ U0 i = [] ∧ R0 i = i) (hbase : LayBase H0 n0 W0 idM es clock pl prows)
    (hat : ∀ j, (h : j < ts.length) → imGet es ts[j] = some (.int .i64 (j : Nat))) (hIV : H0.get idV = some (.arr 0 3 [[tv, uv, sv]])) (lIV : idV < n0) (wIV : idV ∉ W0) (htv : (tv = .nils ∧ ts = []) ∨ ∃ idT, idT < n0 ∧ idT ∉ W0 ∧ VW H0 1 idT tv (irows ts))
    (hclos : ∀ (nb : Nat) (H : Heap) (n : Nat) (W : List Nat) (cnt len : Nat) (D : Nat → Nd) (A : Nat → List Nat) (U : Nat → List PV) (P R rk : Nat → Nat) (L : List (PV × PV)), AgSt idS idM es clock (.ptr idV 0 3 0 0) up pl prows leaf inn Q ts.length M H n W cnt len D A U P R rk ps L →
      (∀ j, j < ts.length → Fin' A R (R j)) → Same W0 n0 H0 H → H.get nb = some (.arr 0 1 [[.ptr idS 0 7 0 0]]) → nb < n → ∃ G : Heap → Nat → Prop, (∀ (H H' : Heap) (n n' : Nat), G H n → (∀ id, id < n → H'.get id = H.get id) → n ≤ n' → G H' n') ∧ G H n ∧
        ∀ p ∈ L, ∀ (H : Heap) (n : Nat), G H n → ∃ (H' : Heap) (n' : Nat), Gf 77 [.agg [p.1, p.2], .ptr nb 0 1 0 0] H n = some (.bool false, H', n') ∧ (∀ id, id < n → H'.get id = H.get id) ∧ n ≤ n') :
    (∃ (H' : Heap) (n' : Nat) (W' : List Nat) (cnt' len' : Nat) (D' : Nat → Nd) (A' : Nat → List Nat) (U' : Nat → List PV) (P' R' rk' : Nat → Nat) (L' : List (PV × PV)), Gf 28 [.ptr idS 0 7 0 0, xv, .nils] H0 n0 = some (.bool true, H', n') ∧
      AgSt idS idM es clock (.ptr idV 0 3 0 0) up pl prows leaf inn Q ts.length M H' n' W' cnt' len' D' A' U' P' R' rk' ps L' ∧ (∀ j, j < ts.length → Fin' A' R' (R' j)) ∧ Same W0 n0 H0 H' ∧ (∀ x ∈ W', x ∈ W0 ∨ n0 ≤ x) ∧ n0 ≤ n' ∧ len' ≤ B) ∨
    (∃ (H' : Heap) (n' : Nat), Gf 28 [.ptr idS 0 7 0 0, xv, .nils] H0 n0 = some (.bool false, H', n') ∧ (¬ ∃ σ, Solves leaf inn σ ps) ∧ Same W0 n0 H0 H') := by
  have lS := st.lt _ st.own
  -- the box
  generalize hH1 : H0.set n0 (.arr 0 1 [[.ptr idS 0 7 0 0]]) = H1
  have h1 : ∀ id, id < n0 → H1.get id = H0.get id := fun id hid => by rw [← hH1]; exact get_other _ _ (by omega)
  have hb1 : H1.get n0 = some (.arr 0 1 [[.ptr idS 0 7 0 0]]) := by rw [← hH1, get_same]
  have st1 := st.fresh (H1 := H1) (n1 := n0 + 1) h1 (by omega)
  have base1 : LayBase H1 (n0 + 1) W0 idM es clock pl prows := hbase.same (fun id h _ => h1 id h) (fun _ hx => .inl hx) (by omega)
  have nbW : n0 ∉ W0 := fun hm => by have := st.lt _ hm; omega
  have hag1 : AgSt idS idM es clock (.ptr idV 0 3 0 0) up pl prows leaf inn Q ts.length M H1 (n0 + 1) W0 0 ts.length D0 A0 U0 P0 R0 rk0 (ps.take 0) [] := by
    refine ⟨st1, base1, ⟨fun i j hi hj e _ _ => ?_, fun i hi _ => by rw [(hnode i hi).1]; rfl⟩, Nat.le_refl _, fun i hi => by rw [(hnode i hi).1]; rfl, fun i hi => (hnode i hi).2.1, fun i h1 h2 => by omega, fun p hp => by simp at hp,
      fun σ _ => ⟨⟨σ, ⟨fun i hi _ => rfl, fun i hi hk => absurd (by rw [(hnode i hi).1]; rfl) hk⟩, fun i hi => by rw [(hnode i hi).2.2.2]⟩, fun p hp => by simp at hp⟩, fun i hi => by rw [(hnode i hi).2.1]; simp, fun i hi => by rw [(hnode i hi).2.2.1]; simp,
      fun i hi u hu => by rw [(hnode i hi).2.2.1] at hu; simp at hu, fun p hp => by simp at hp⟩
    rw [(hnode i hi).2.2.2, (hnode j hj).2.2.2] at e
    subst e
    refine ⟨⟨rfl, rfl, rfl, rfl, rfl⟩, fun p hp => ?_⟩
    rw [(hnode i hi).2.1] at hp
    simp at hp
  rcases ag_pairs (nb := n0) (x0 := .ptr idS 0 7 0 0) (x1' := xv) (x2 := .nils) (x4 := .bool false) hQ hV hps hfit hcst hM hM2 hB hB2 hBM hcm hlen base1 hb1 (by omega) nbW ps.length 0 H1 (n0 + 1) W0 0 ts.length D0 A0 U0 P0 R0 rk0 [] .nils (.tup []) (.tup []) (.tup []) (.tup []) (.tup []) (.tup []) (.tup []) (.tup []) (.tup []) (.tup []) (.tup []) (.tup []) (.tup []) (.tup []) (.tup []) (.tup []) rfl (Nat.zero_le _) hag1 (.refl _ _ _) (fun _ hx => .inl hx) (Nat.le_refl _) (by omega) (by omega) (by simp) (.inl ⟨rfl, rfl⟩) with
    ⟨H2, n2, W2, cnt2, len2, D2, A2, U2, P2, R2, rk2, L2, y5, y6, y7, y8, y15, e2, ag2, sm2, w2, ln2, hlen2, hL2, hy5⟩ | ⟨H2, n2, T, e2, hno, sm2⟩
  · have sm02 : Same W0 n0 H0 H2 := fun id a b => (sm2 id (by omega) b).trans (h1 id a)
    have hb2 : H2.get n0 = some (.arr 0 1 [[.ptr idS 0 7 0 0]]) := (sm2 _ (by omega) nbW).trans hb1
    have hIV2 : H2.get idV = some (.arr 0 3 [[tv, uv, sv]]) := (sm02 _ lIV wIV).trans hIV
    have wn : ∀ x, x < n0 → x ∉ W0 → x ∉ W2 := fun x a b hm => by rcases w2 x hm with e | e; exact b e; omega
    obtain ⟨nv2, wv2, hS2, _, _⟩ := ag2.st.row
    have hlt : ∀ H n, lenX .slice H n tv = some ⟨.int .i64 (ts.length : Nat), H, n, .no⟩ := by
      intro H n
      rcases htv with ⟨rfl, rfl⟩ | ⟨idT, _, _, v, r, rfl, _⟩
      · rfl
      · simp [lenX, irows]
    -- rings
    have rings : (∃ (H' : Heap) (n' : Nat) (P' rk' : Nat → Nat) (y9 y19 y20 : PV), codeL Gf (.loop B_28_1) ⟨agS (.ptr idS 0 7 0 0) xv .nils (.ptr n0 0 1 0 0) (.bool false) y5 y6 y7 y8 (.tup []) (.tup []) xv (.int .i64 ps.length) (.int .i64 ps.length) (.bool false) y15 tv (.int .i64 ts.length) (.int .i64 0) (.tup []) (.tup []) (.tup []) (.tup []) (.tup []) (.tup []), H2, n2⟩ =
          some (.exit 2, ⟨agS (.ptr idS 0 7 0 0) xv .nils (.ptr n0 0 1 0 0) (.bool false) y5 y6 y7 y8 y9 (.tup []) xv (.int .i64 ps.length) (.int .i64 ps.length) (.bool false) y15 tv (.int .i64 ts.length) (.int .i64 ts.length) y19 y20 (.tup []) (.tup []) (.tup []) (.tup []), H', n'⟩) ∧
        Store H' n' idS W2 (.ptr idV 0 3 0 0) (.map idM) up pl cnt2 len2 D2 A2 U2 P' R2 rk' ∧ Same W2 n2 H2 H' ∧ n2 ≤ n' ∧ ∀ j, j < ts.length → Fin' A2 R2 (R2 j)) ∨
      (∃ (H' : Heap) (n' : Nat) (T : List PV), codeL Gf (.loop B_28_1) ⟨agS (.ptr idS 0 7 0 0) xv .nils (.ptr n0 0 1 0 0) (.bool false) y5 y6 y7 y8 (.tup []) (.tup []) xv (.int .i64 ps.length) (.int .i64 ps.length) (.bool false) y15 tv (.int .i64 ts.length) (.int .i64 0) (.tup []) (.tup []) (.tup []) (.tup []) (.tup []) (.tup []), H2, n2⟩ =
          some (.ret, ⟨[.ptr idS 0 7 0 0, xv, .nils, .ptr n0 0 1 0 0, .bool false] ++ T, H', n'⟩) ∧ (¬ ∃ dep : Nat → Nat, ∀ r, r < len2 → R2 r = r → ∀ a ∈ A2 r, dep (R2 a) < dep r) ∧ Same W2 n2 H2 H') := by
      rcases htv with ⟨rfl, rfl⟩ | ⟨idT, lT, wT, hT⟩
      · refine .inl ⟨H2, n2, P2, rk2, .tup [], .bool false, .tup [], codeL_loop_end ?_ (by simp), ag2.st, .refl _ _ _, Nat.le_refl _, fun j hj => by simp at hj⟩
        simp (disch := omega) only [go_sem, B_28_1, agS]
        rfl
      · have := ag_rings (x0 := .ptr idS 0 7 0 0) (x1 := xv) (x2 := .nils) (x4 := .bool false) (x5 := y5) (x6 := y6) (x7 := y7) (x8 := y8) (x10 := .tup []) (x11 := xv) (x12 := .int .i64 ps.length) (x13 := .int .i64 ps.length) (x14 := .bool false) (x15 := y15) (x21 := .tup []) (x22 := .tup []) (x23 := .tup []) (x24 := .tup [])
          (nb := n0) hbase.keys hat (by omega) ag2.hl0 (fun i hi => by have := ag2.bA i hi; omega) (wn _ hbase.lm hbase.wm) (fun hm => by rcases w2 _ hm with e | e; exact nbW e; omega) (wn _ lT wT) ts.length 0 H2 n2 P2 rk2 (.tup []) (.tup []) (.tup []) rfl (Nat.zero_le _) ag2.st ag2.base.hm ag2.base.lm hb2 (by omega) (hT.same (sm02 _ lT wT)) (by omega) (fun j hj => by omega)
        rw [show ((0 : Nat) : Int) = 0 from rfl] at this
        rcases this with ⟨H', n', P', rk', y9, y20, g1, g2, g3, g4, g5⟩ | h
        · exact .inl ⟨H', n', P', rk', y9, _, y20, g1, g2, g3, g4, g5⟩
        · exact .inr h
    rcases rings with ⟨H3, n3, P3, rk3, y9, y19, y20, e3, st3, sm3, ln3, hfin⟩ | ⟨H3, n3, T, e3, hdep, sm3⟩
    · have ag3 := ag2.turn st3 sm3 ln3
      have sm03 : Same W0 n0 H0 H3 := sm02.step sm3 (fun x hx => by rcases w2 x hx with e | e; exact .inl e; exact .inr (by omega)) (by omega)
      have nbW2 : n0 ∉ W2 := fun hm => by rcases w2 _ hm with e | e; exact nbW e; omega
      have hb3 : H3.get n0 = some (.arr 0 1 [[.ptr idS 0 7 0 0]]) := (sm3 _ (by omega) nbW2).trans hb2
      obtain ⟨G, hG1, hG2, hG3⟩ := hclos n0 H3 n3 W2 cnt2 len2 D2 A2 U2 P3 R2 rk3 L2 ag3 hfin sm03 hb3 (by omega)
      have hyy : ∃ w, (y5 = .nils ∧ L2 = []) ∨ (w < n3 ∧ VW H3 2 w y5 (L2.map lrow)) := by
        rcases hy5 with c | ⟨w, c1, c2, c3, c4, _⟩
        · exact ⟨0, .inl c⟩
        · exact ⟨w, .inr ⟨by omega, c4.same (sm3 _ c2 c3)⟩⟩
      obtain ⟨w, hyy⟩ := hyy
      obtain ⟨H4, n4, e4, hs4, ln4⟩ := units_none (nb := n0) (n0 := n0) (by omega) G hG1 hG3 hG2 hyy
      refine .inl ⟨H4, n4, W2, cnt2, len2, D2, A2, U2, P3, R2, rk3, L2, ?_, ag3.fresh hs4 ln4, hfin, fun id a b => (hs4 id (by omega)).trans (sm03 id a b), fun x hx => by rcases w2 x hx with e | e; exact .inl e; exact .inr (by omega), by omega, by omega⟩
      have hend : codeL Gf (.loop B_28_0) ⟨agS (.ptr idS 0 7 0 0) xv .nils (.ptr n0 0 1 0 0) (.bool false) y5 y6 y7 y8 y9 (.tup []) xv (.int .i64 ps.length) (.int .i64 ps.length) (.bool false) y15 tv (.int .i64 ts.length) (.int .i64 ts.length) y19 y20 .nils (.int .i64 0) (.int .i64 0) (.tup []), H3, n3⟩ =
          some (.exit 4, ⟨agS (.ptr idS 0 7 0 0) xv .nils (.ptr n0 0 1 0 0) (.bool false) y5 y6 y7 y8 y9 (.tup []) xv (.int .i64 ps.length) (.int .i64 ps.length) (.bool false) y15 tv (.int .i64 ts.length) (.int .i64 ts.length) y19 y20 .nils (.int .i64 0) (.int .i64 0) (.bool false), H3, n3⟩) :=
        codeL_loop_end (by simp (disch := omega) only [go_sem, Int.reduceLT, B_28_0, agS]) (by simp)
      simp only [agS] at e2 e3 hend
      rw [show ((0 : Nat) : Int) = 0 from rfl] at e2
      rw [R_28]
      simp (disch := omega) only [go_sem, G_28, hH1, hps.len, e2, hb2, hS2, hIV2, hlt, e3, hend, e4]
    · refine .inr ⟨H3, n3, ?_, ?_, sm02.step sm3 (fun x hx => by rcases w2 x hx with e | e; exact .inl e; exact .inr (by omega)) (by omega)⟩
      · simp only [agS] at e2 e3
        rw [show ((0 : Nat) : Int) = 0 from rfl] at e2
        rw [R_28]
        simp (disch := omega) only [go_sem, G_28, hH1, hps.len, e2, hb2, hS2, hIV2, hlt, e3]
      · rintro ⟨σ, hσ⟩
        obtain ⟨⟨val, g1, g2⟩, _⟩ := ag2.min σ hσ
        exact hdep (dep_of g1 g2 (fun i hi hk => by
          by_cases c : i < ts.length
          · exact ag2.hA i c
          · exact absurd hk (ag2.nk i (by omega) hi)) ag2.st.sto.sub)
  · refine .inr ⟨H2, n2, ?_, hno, fun id a b => (sm2 id (by omega) b).trans (h1 id a)⟩
    simp only [agS] at e2
    rw [show ((0 : Nat) : Int) = 0 from rfl] at e2
    rw [R_28]
    simp (disch := omega) only [go_sem, G_28, hH1, hps.len, e2]
end
section
variable {A : Nat → List Nat} {R : Nat → Nat} {U : Nat → List PV}
def szAdd (f : Nat → Nat × Nat) : List Nat → Nat × Nat → Nat × Nat
  | [], p => p
  | a :: r, p => szAdd f r (min (p.1 + (f a).1) 257, min (p.2 + (f a).2) 257)
def szStep (A : Nat → List Nat) (R : Nat → Nat) (U : Nat → List PV) (sz : Nat → Nat × Nat) (r : Nat) : Nat × Nat := szAdd (fun a => sz (R a)) (A r) (1, min (U r).length 257)
theorem szAdd_congr {f g : Nat → Nat × Nat} : ∀ (l : List Nat) (p : Nat × Nat), (∀ a ∈ l, f a = g a) → szAdd f l p = szAdd g l p
  | [], _, _ => rfl
  | a :: r, p, h => by
    simp only [szAdd, h a (by simp)]
    exact szAdd_congr r _ (fun b hb => h b (List.mem_cons_of_mem _ hb))
inductive SzR (A : Nat → List Nat) (R : Nat → Nat) (U : Nat → List PV) : Nat → Nat × Nat → Prop
  | mk (r : Nat) (f : Nat → Nat × Nat) : (∀ a ∈ A r, SzR A R U (R a) (f a)) → SzR A R U r (szAdd f (A r) (1, min (U r).length 257))
theorem SzR.fn {r : Nat} {p : Nat × Nat} (h : SzR A R U r p) : ∀ {q : Nat × Nat}, SzR A R U r q → p = q := by
  induction h with
  | mk r f h ih =>
    intro q hq
    cases hq with
    | mk _ g hg => exact szAdd_congr _ _ (fun a ha => ih a ha (hg a ha))
theorem SzR.ex {r : Nat} (h : Fin' A R r) : ∃ p, SzR A R U r p := by
  induction h with
  | mk r h ih =>
    have : ∀ a, ∃ p, a ∈ A r → SzR A R U (R a) p := fun a => by
      by_cases ha : a ∈ A r
      · obtain ⟨p, hp⟩ := ih a ha
        exact ⟨p, fun _ => hp⟩
      · exact ⟨(0, 0), fun h => absurd h ha⟩
    obtain ⟨f, hf⟩ := Classical.axiomOfChoice this
    exact ⟨_, .mk r f hf⟩
theorem sz_ex (A : Nat → List Nat) (R : Nat → Nat) (U : Nat → List PV) : ∃ sz : Nat → Nat × Nat, ∀ r, Fin' A R r → sz r = szStep A R U sz r := by
  have : ∀ r, ∃ p, Fin' A R r → SzR A R U r p := fun r => by
    by_cases h : Fin' A R r
    · obtain ⟨p, hp⟩ := SzR.ex (U := U) h
      exact ⟨p, fun _ => hp⟩
    · exact ⟨(0, 0), fun e => absurd e h⟩
  obtain ⟨sz, hsz⟩ := Classical.axiomOfChoice this
  refine ⟨sz, fun r hr => (hsz r hr).fn ?_⟩
  cases hr with
  | mk _ h => exact .mk r _ (fun a ha => hsz (R a) (h a ha))
theorem szAdd_le (f : Nat → Nat × Nat) : ∀ (l : List Nat) (p : Nat × Nat), p.1 ≤ 257 → p.2 ≤ 257 → (szAdd f l p).1 ≤ 257 ∧ (szAdd f l p).2 ≤ 257
  | [], p, h1, h2 => ⟨h1, h2⟩
  | a :: r, p, _, _ => by
    simp only [szAdd]
    exact szAdd_le f r _ (Nat.min_le_right _ _) (Nat.min_le_right _ _)
end
theorem set_self : ∀ {H : Heap} {id : Nat} {o : Obj}, H.get id = some o → H.set id o = H
  | [], _, _, h => by simp [Heap.get] at h
  | (i, x) :: r, id, o, h => by
    simp only [Heap.get] at h
    simp only [Heap.set]
    by_cases e : i = id
    · subst e; simp only [if_true, Option.some.injEq] at h; simp [h]
    · simp only [e, if_false] at h ⊢; rw [set_self h]
abbrev so (ver : Nat) (rest : List (List PV)) (l : List Nat) : Obj := .arr ver 1 (irows l ++ rest)
abbrev sv (id ver len : Nat) : PV := .view id ver 1 0 len none
def swp (l : List Nat) (i j : Nat) : List Nat := (l.set i (l.getD j 0)).set j (l.getD i 0)
theorem swp_perm {l : List Nat} {i j : Nat} (hi : i < l.length) (hj : j < l.length) : (swp l i j).Perm l := by
  have := List.set_set_perm hi hj
  simpa [swp, List.getD, hi, hj] using this
theorem swp_len (l : List Nat) (i j : Nat) : (swp l i j).length = l.length := by simp [swp]
theorem iat {l : List Nat} {i : Nat} (h : i < l.length) (rest : List (List PV)) : (irows l ++ rest)[i]? = some [.int .i64 (l.getD i 0 : Nat)] := by
  rw [irows_at h]; simp [List.getD, h]
theorem iat2 {l : List Nat} {i j : Nat} (hi : i < l.length) (hj : j < l.length) (rest : List (List PV)) : ((irows l ++ rest).set i [.int .i64 (l.getD j 0 : Nat)])[j]? = some [.int .i64 (l.getD j 0 : Nat)] := by
  by_cases e : i = j
  · subst e; rw [List.getElem?_set_self (by simp [irows]; omega)]
  · rw [List.getElem?_set_ne e, iat hj]
theorem rows_swp {l : List Nat} {i j : Nat} (hi : i < l.length) (hj : j < l.length) (rest : List (List PV)) :
    ((irows l ++ rest).set i [.int .i64 (l.getD j 0 : Nat)]).set j [.int .i64 (l.getD i 0 : Nat)] = irows (swp l i j) ++ rest := by
  have hi' : i < (irows l).length := by simpa [irows] using hi
  have hj' : j < (irows l).length := by simpa [irows] using hj
  rw [List.set_append_left _ _ hi', List.set_append_left _ _ (by simpa using hj')]
  simp [irows, swp]
theorem nan_run (a : Int) : pureV Gf 226 [.int .i64 a] = some (.bool false) := by
  rw [pureV_eq, R_226]
  simp (disch := omega) only [go_sem, G_226]
theorem less_run (a b : Int) : pureV Gf 180 [.int .i64 a, .int .i64 b] = some (.bool (decide (a < b))) := by
  rw [pureV_eq, R_180]
  simp (disch := omega) only [go_sem, G_180, nan_run]
section
variable {id ver n len : Nat} {rest : List (List PV)} {a b i : Nat} {x5 : PV}
theorem ins_inner (hlen : len < 1000000000) : ∀ (d j : Nat) (H : Heap) (l : List Nat) (x6 : PV), j - a = d → a ≤ j → j < len → l.length = len → H.get id = some (so ver rest l) →
    ∃ (l' : List Nat) (j' : Nat), l'.Perm l ∧ codeL Gf (.loop B_174_0) ⟨[sv id ver len, .int .i64 a, .int .i64 b, .int .i64 i, .int .i64 j, x5, x6], H, n⟩ =
      some (.exit 2, ⟨[sv id ver len, .int .i64 a, .int .i64 b, .int .i64 i, .int .i64 j', x5, .bool false], H.set id (so ver rest l'), n⟩) := by
  intro d
  induction d with
  | zero =>
    intro j H l x6 hd ha hj hl hH
    have e : a = j := by omega
    subst e
    refine ⟨l, a, .refl _, ?_⟩
    rw [set_self hH]
    refine codeL_loop_end ?_ (by simp)
    simp (disch := omega) only [go_sem, Nat.reduceAdd, Nat.reduceMul, Nat.reduceLeDiff, B_174_0]
  | succ d ih =>
    intro j H l x6 hd ha hj hl hH
    have h1 := iat (l := l) (i := j) (by omega) rest
    have h2 := iat (l := l) (i := j - 1) (by omega) rest
    have h3 := rows_swp (l := l) (i := j) (j := j - 1) (by omega) (by omega) rest
    have h4 := iat2 (l := l) (i := j) (j := j - 1) (by omega) (by omega) rest
    cases hlt : decide (((l.getD j 0 : Nat) : Int) < ((l.getD (j - 1) 0 : Nat) : Int)) with
    | false =>
      refine ⟨l, j, .refl _, ?_⟩
      rw [set_self hH]
      refine codeL_loop_end ?_ (by simp)
      simp (disch := omega) only [go_sem, Nat.reduceAdd, Nat.reduceMul, Nat.reduceLeDiff, B_174_0, hH, cast_sub1, h1, h2, less_run, hlt]
    | true =>
      obtain ⟨l', j', p, e⟩ := ih (j - 1) (H.set id (so ver rest (swp l j (j - 1)))) (swp l j (j - 1)) (.bool true) (by omega) (by omega) (by omega) (by rw [swp_len]; exact hl) (get_same _ _ _)
      refine ⟨l', j', p.trans (swp_perm (by omega) (by omega)), ?_⟩
      rw [set_set] at e
      rw [← e]
      refine codeL_loop_iff ?_
      simp (disch := omega) only [go_sem, Nat.reduceAdd, Nat.reduceMul, Nat.reduceLeDiff, B_174_0, hH, cast_sub1, h1, h2, less_run, hlt, get_same, set_set, h3, h4]
theorem ins_outer (hlen : len < 1000000000) (hb : b ≤ len) : ∀ (d i : Nat) (H : Heap) (l : List Nat) (x4 x5 x6 : PV), b - i = d → a ≤ i → l.length = len → H.get id = some (so ver rest l) →
    ∃ (l' : List Nat) (T : List PV), l'.Perm l ∧ codeL Gf (.loop B_174_1) ⟨[sv id ver len, .int .i64 a, .int .i64 b, .int .i64 i, x4, x5, x6], H, n⟩ = some (.exit 0, ⟨T, H.set id (so ver rest l'), n⟩) := by
  intro d
  induction d with
  | zero =>
    intro i H l x4 x5 x6 hd ha hl hH
    refine ⟨l, [sv id ver len, .int .i64 a, .int .i64 b, .int .i64 i, x4, .bool false, x6], .refl _, ?_⟩
    rw [set_self hH]
    refine codeL_loop_end ?_ (by simp)
    simp (disch := omega) only [go_sem, B_174_1]
  | succ d ih =>
    intro i H l x4 x5 x6 hd ha hl hH
    obtain ⟨l1, j1, p1, e1⟩ := ins_inner (n := n) (a := a) (b := b) (i := i) (x5 := .bool true) hlen (i - a) i H l x6 rfl ha (by omega) hl hH
    obtain ⟨l', T, p2, e2⟩ := ih (i + 1) (H.set id (so ver rest l1)) l1 (.int .i64 j1) (.bool true) (.bool false) (by omega) (by omega) (p1.length_eq.trans hl) (get_same _ _ _)
    refine ⟨l', T, p2.trans p1, ?_⟩
    rw [set_set] at e2
    rw [← e2]
    refine codeL_loop_iff ?_
    simp (disch := omega) only [go_sem, B_174_1, e1, cast_add1]
theorem ins_run (hlen : len < 1000000000) (hb : b ≤ len) {H : Heap} {l : List Nat} (hl : l.length = len) (hH : H.get id = some (so ver rest l)) (ha : a ≤ b) :
    ∃ l' : List Nat, l'.Perm l ∧ Gf 174 [sv id ver len, .int .i64 a, .int .i64 b] H n = some (.tup [], H.set id (so ver rest l'), n) := by
  obtain ⟨l', T, p, e⟩ := ins_outer (n := n) (a := a) hlen hb (b - (a + 1)) (a + 1) H l (.tup []) (.tup []) (.tup []) rfl (by omega) hl hH
  refine ⟨l', p, ?_⟩
  rw [R_174]
  simp (disch := omega) only [go_sem, G_174, cast_add1, e]
theorem cast_dbl (r : Nat) : 2 * (r : Int) + 1 = ((2 * r + 1 : Nat) : Int) := by omega
theorem cast_addN (i j : Nat) : (i : Int) + (j : Int) = ((i + j : Nat) : Int) := by omega
variable {hi first lo : Nat}
theorem sift_loop (hlen : len < 1000000000) (hf : first + hi ≤ len) : ∀ (d r : Nat) (H : Heap) (l : List Nat) (x5 x6 x7 x8 : PV), hi - r ≤ d → r < 1000000000 → l.length = len → H.get id = some (so ver rest l) →
    ∃ (l' : List Nat) (T : List PV) (e : Ex), (e = .exit 0 ∨ e = .ret) ∧ l'.Perm l ∧
      codeL Gf (.loop B_221_0) ⟨[sv id ver len, .int .i64 lo, .int .i64 hi, .int .i64 first, .int .i64 r, x5, x6, x7, x8], H, n⟩ = some (e, ⟨T, H.set id (so ver rest l'), n⟩) := by
  intro d
  induction d with
  | zero =>
    intro r H l x5 x6 x7 x8 hd hr hl hH
    refine ⟨l, [sv id ver len, .int .i64 lo, .int .i64 hi, .int .i64 first, .int .i64 r, .int .i64 (2 * r + 1 : Nat), .bool true, x7, x8], _, .inl rfl, .refl _, ?_⟩
    rw [set_self hH]
    refine codeL_loop_end ?_ (by simp)
    simp (disch := omega) only [go_sem, B_221_0, cast_dbl]
  | succ d ih =>
    intro r H l x5 x6 x7 x8 hd hr hl hH
    by_cases hc : hi ≤ 2 * r + 1
    · refine ⟨l, [sv id ver len, .int .i64 lo, .int .i64 hi, .int .i64 first, .int .i64 r, .int .i64 (2 * r + 1 : Nat), .bool true, x7, x8], _, .inl rfl, .refl _, ?_⟩
      rw [set_self hH]
      refine codeL_loop_end ?_ (by simp)
      simp (disch := omega) only [go_sem, B_221_0, cast_dbl]
    · -- which child
      have key : ∃ (c : Nat) (y7 : Bool), r < c ∧ c < hi ∧ (c = if y7 then 2 * r + 2 else 2 * r + 1) ∧ (y7 = true → 2 * r + 1 + 1 < hi) ∧ (y7 = (decide (2 * r + 1 + 1 < hi) && decide (((l.getD (first + (2 * r + 1)) 0 : Nat) : Int) < ((l.getD (first + (2 * r + 1) + 1) 0 : Nat) : Int)))) := by
        cases h7 : (decide (2 * r + 1 + 1 < hi) && decide (((l.getD (first + (2 * r + 1)) 0 : Nat) : Int) < ((l.getD (first + (2 * r + 1) + 1) 0 : Nat) : Int))) with
        | false => exact ⟨2 * r + 1, false, by omega, by omega, rfl, by simp, rfl⟩
        | true =>
          simp only [Bool.and_eq_true, decide_eq_true_eq] at h7
          exact ⟨2 * r + 2, true, by omega, by omega, rfl, fun _ => h7.1, rfl⟩
      obtain ⟨c, y7, c1, c2, c3, c4, c5⟩ := key
      have g1 := iat (l := l) (i := first + (2 * r + 1)) (by omega) rest
      have g3 := iat (l := l) (i := first + r) (by omega) rest
      have g4 := iat (l := l) (i := first + c) (by omega) rest
      have g5 := rows_swp (l := l) (i := first + r) (j := first + c) (by omega) (by omega) rest
      have g6 := iat2 (l := l) (i := first + r) (j := first + c) (by omega) (by omega) rest
      obtain ⟨l', T, e, he, p, e'⟩ := ih c (H.set id (so ver rest (swp l (first + r) (first + c)))) (swp l (first + r) (first + c)) (.int .i64 c) (.bool false) (.bool y7) (.bool false) (by omega) (by omega) (by rw [swp_len]; exact hl) (get_same _ _ _)
      rw [set_set] at e'
      cases hs : decide (((l.getD (first + r) 0 : Nat) : Int) < ((l.getD (first + c) 0 : Nat) : Int)) with
      | false =>
        refine ⟨l, [sv id ver len, .int .i64 lo, .int .i64 hi, .int .i64 first, .int .i64 r, .int .i64 c, .bool false, .bool y7, .bool true], _, .inr rfl, .refl _, ?_⟩
        rw [set_self hH]
        refine codeL_loop_end ?_ (by simp)
        cases y7 with
        | false =>
          simp only [Bool.false_eq_true, if_false] at c3
          subst c3
          by_cases h8 : 2 * r + 1 + 1 < hi
          · have g2 := iat (l := l) (i := first + (2 * r + 1) + 1) (by omega) rest
            have h9 : decide (((l.getD (first + (2 * r + 1)) 0 : Nat) : Int) < ((l.getD (first + (2 * r + 1) + 1) 0 : Nat) : Int)) = false := by simpa [h8] using c5.symm
            simp (disch := omega) only [go_sem, Nat.reduceAdd, Nat.reduceMul, Nat.reduceLeDiff, B_221_0, cast_dbl, cast_add1, cast_addN, hH, g1, g2, g3, less_run, h9, hs]
          · simp (disch := omega) only [go_sem, Nat.reduceAdd, Nat.reduceMul, Nat.reduceLeDiff, B_221_0, cast_dbl, cast_add1, cast_addN, hH, g1, g3, less_run, hs]
        | true =>
          simp only [if_true] at c3
          subst c3
          have h8 := c4 rfl
          have g2 := iat (l := l) (i := first + (2 * r + 1) + 1) (by omega) rest
          have h9 : decide (((l.getD (first + (2 * r + 1)) 0 : Nat) : Int) < ((l.getD (first + (2 * r + 1) + 1) 0 : Nat) : Int)) = true := by simpa [h8] using c5.symm
          simp (disch := omega) only [go_sem, Nat.reduceAdd, Nat.reduceMul, Nat.reduceLeDiff, B_221_0, cast_dbl, cast_add1, cast_addN, hH, g1, g2, g3, g4, less_run, h9, hs]
      | true =>
        refine ⟨l', T, e, he, p.trans (swp_perm (by omega) (by omega)), ?_⟩
        rw [← e']
        refine codeL_loop_iff ?_
        cases y7 with
        | false =>
          simp only [Bool.false_eq_true, if_false] at c3
          subst c3
          by_cases h8 : 2 * r + 1 + 1 < hi
          · have g2 := iat (l := l) (i := first + (2 * r + 1) + 1) (by omega) rest
            have h9 : decide (((l.getD (first + (2 * r + 1)) 0 : Nat) : Int) < ((l.getD (first + (2 * r + 1) + 1) 0 : Nat) : Int)) = false := by simpa [h8] using c5.symm
            simp (disch := omega) only [go_sem, Nat.reduceAdd, Nat.reduceMul, Nat.reduceLeDiff, B_221_0, cast_dbl, cast_add1, cast_addN, hH, g1, g2, g3, less_run, h9, hs, get_same, set_set, g5, g6]
          · simp (disch := omega) only [go_sem, Nat.reduceAdd, Nat.reduceMul, Nat.reduceLeDiff, B_221_0, cast_dbl, cast_add1, cast_addN, hH, g1, g3, less_run, hs, get_same, set_set, g5, g6]
        | true =>
          simp only [if_true] at c3
          subst c3
          have h8 := c4 rfl
          have g2 := iat (l := l) (i := first + (2 * r + 1) + 1) (by omega) rest
          have h9 : decide (((l.getD (first + (2 * r + 1)) 0 : Nat) : Int) < ((l.getD (first + (2 * r + 1) + 1) 0 : Nat) : Int)) = true := by simpa [h8] using c5.symm
          simp (disch := omega) only [go_sem, Nat.reduceAdd, Nat.reduceMul, Nat.reduceLeDiff, B_221_0, cast_dbl, cast_add1, cast_addN, hH, g1, g2, g3, g4, less_run, h9, hs, get_same, set_set, g5, g6]
theorem sift_run (hlen : len < 1000000000) (hf : first + hi ≤ len) (hlo : lo ≤ hi) {H : Heap} {l : List Nat} (hl : l.length = len) (hH : H.get id = some (so ver rest l)) :
    ∃ l' : List Nat, l'.Perm l ∧ Gf 221 [sv id ver len, .int .i64 lo, .int .i64 hi, .int .i64 first] H n = some (.tup [], H.set id (so ver rest l'), n) := by
  obtain ⟨l', T, e, he, p, e'⟩ := sift_loop (n := n) (lo := lo) hlen hf (hi - lo) lo H l (.tup []) (.tup []) (.tup []) (.tup []) (Nat.le_refl _) (by omega) hl hH
  refine ⟨l', p, ?_⟩
  rw [R_221]
  rcases he with rfl | rfl
  · simp (disch := omega) only [go_sem, G_221, e']
  · simp (disch := omega) only [go_sem, G_221, e']
theorem heap_loop1 (hlen : len < 1000000000) (hf : a + hi ≤ len) {x2 x4 x7 x9 : PV} : ∀ (t : Nat) (k : Int) (H : Heap) (l : List Nat) (x8 : PV), k = t - 1 → t ≤ hi → l.length = len → H.get id = some (so ver rest l) →
    ∃ l' : List Nat, l'.Perm l ∧ codeL Gf (.loop B_175_1) ⟨[sv id ver len, .int .i64 a, x2, .int .i64 a, x4, .int .i64 hi, .int .i64 k, x7, x8, x9], H, n⟩ =
      some (.exit 0, ⟨[sv id ver len, .int .i64 a, x2, .int .i64 a, x4, .int .i64 hi, .int .i64 (-1), x7, .bool false, x9], H.set id (so ver rest l'), n⟩) := by
  intro t
  induction t with
  | zero =>
    intro k H l x8 hk ht hl hH
    have : k = -1 := by omega
    subst this
    refine ⟨l, .refl _, ?_⟩
    rw [set_self hH]
    refine codeL_loop_end ?_ (by simp)
    simp (disch := omega) only [go_sem, Int.reduceNeg, B_175_1]
  | succ t ih =>
    intro k H l x8 hk ht hl hH
    have : k = (t : Int) := by omega
    subst this
    obtain ⟨l1, p1, e1⟩ := sift_run (n := n) (lo := t) hlen hf (by omega) hl hH
    obtain ⟨l', p2, e2⟩ := ih ((t : Int) - 1) (H.set id (so ver rest l1)) l1 (.bool true) rfl (by omega) (p1.length_eq.trans hl) (get_same _ _ _)
    refine ⟨l', p2.trans p1, ?_⟩
    rw [set_set] at e2
    rw [← e2]
    refine codeL_loop_iff ?_
    simp (disch := omega) only [go_sem, B_175_1, e1]
theorem heap_loop2 (hlen : len < 1000000000) (hf : a + hi ≤ len) {x2 x5 x6 x8 : PV} : ∀ (t : Nat) (k : Int) (H : Heap) (l : List Nat) (x9 : PV), k = t - 1 → t ≤ hi → l.length = len → H.get id = some (so ver rest l) →
    ∃ (l' : List Nat) (T : List PV), l'.Perm l ∧ codeL Gf (.loop B_175_0) ⟨[sv id ver len, .int .i64 a, x2, .int .i64 a, .int .i64 0, x5, x6, .int .i64 k, x8, x9], H, n⟩ = some (.exit 2, ⟨T, H.set id (so ver rest l'), n⟩) := by
  intro t
  induction t with
  | zero =>
    intro k H l x9 hk ht hl hH
    have : k = -1 := by omega
    subst this
    refine ⟨l, [sv id ver len, .int .i64 a, x2, .int .i64 a, .int .i64 0, x5, x6, .int .i64 (-1), x8, .bool false], .refl _, ?_⟩
    rw [set_self hH]
    refine codeL_loop_end ?_ (by simp)
    simp (disch := omega) only [go_sem, Int.reduceNeg, B_175_0]
  | succ t ih =>
    intro k H l x9 hk ht hl hH
    have : k = (t : Int) := by omega
    subst this
    have g1 := iat (l := l) (i := a) (by omega) rest
    have g2 := iat (l := l) (i := a + t) (by omega) rest
    have g5 := rows_swp (l := l) (i := a) (j := a + t) (by omega) (by omega) rest
    have g6 := iat2 (l := l) (i := a) (j := a + t) (by omega) (by omega) rest
    obtain ⟨l1, p1, e1⟩ := sift_run (n := n) (lo := 0) (hi := t) (first := a) hlen (by omega) (by omega) (H := H.set id (so ver rest (swp l a (a + t)))) (l := swp l a (a + t)) (by rw [swp_len]; exact hl) (get_same _ _ _)
    obtain ⟨l', T, p2, e2⟩ := ih ((t : Int) - 1) (H.set id (so ver rest l1)) l1 (.bool true) rfl (by omega) (by rw [p1.length_eq, swp_len]; exact hl) (get_same _ _ _)
    refine ⟨l', T, p2.trans (p1.trans (swp_perm (by omega) (by omega))), ?_⟩
    rw [set_set] at e1 e2
    rw [show ((0 : Nat) : Int) = 0 from rfl] at e1
    rw [← e2]
    refine codeL_loop_iff ?_
    simp (disch := omega) only [go_sem, Nat.reduceAdd, Nat.reduceMul, Nat.reduceLeDiff, B_175_0, hH, cast_addN, g1, g2, get_same, set_set, g5, g6, e1]
theorem heap_run (hlen : len < 1000000000) (hb : b ≤ len) (hab : a < b) {H : Heap} {l : List Nat} (hl : l.length = len) (hH : H.get id = some (so ver rest l)) :
    ∃ l' : List Nat, l'.Perm l ∧ Gf 175 [sv id ver len, .int .i64 a, .int .i64 b] H n = some (.tup [], H.set id (so ver rest l'), n) := by
  have e0 : (b : Int) - (a : Int) = ((b - a : Nat) : Int) := by omega
  have e00 : ((b - a : Nat) : Int) - 1 = ((b - a - 1 : Nat) : Int) := by omega
  have e01 : (((b - a - 1 : Nat) : Int)).tdiv 2 = (((b - a - 1) / 2 : Nat) : Int) := rfl
  obtain ⟨l1, p1, e1⟩ := heap_loop1 (n := n) (a := a) (hi := b - a) (x2 := .int .i64 b) (x4 := .int .i64 0) (x7 := .tup []) (x9 := .tup []) hlen (by omega) ((b - a - 1) / 2 + 1) (((b - a - 1) / 2 : Nat) : Int) H l (.tup []) (by omega) (by omega) hl hH
  obtain ⟨l2, T, p2, e2⟩ := heap_loop2 (n := n) (a := a) (hi := b - a) (x2 := .int .i64 b) (x5 := .int .i64 (b - a : Nat)) (x6 := .int .i64 (-1)) (x8 := .bool false) hlen (by omega) (b - a) ((b - a - 1 : Nat) : Int) (H.set id (so ver rest l1)) l1 (.tup []) (by omega) (by omega) (p1.length_eq.trans hl) (get_same _ _ _)
  rw [set_set] at e2
  refine ⟨l2, p2.trans p1, ?_⟩
  rw [R_175]
  simp (disch := omega) only [go_sem, Int.reduceNeg, G_175, e0, e00, e01, e1, e2]
end
section
variable {id ver n len : Nat} {rest : List (List PV)} {a b : Nat}
theorem rev_loop (hlen : len < 1000000000) {x1 x2 : PV} : ∀ (d i : Nat) (k : Int) (H : Heap) (l : List Nat) (x5 : PV), (k - i).toNat ≤ d → k < len → -1 ≤ k → i < 1000000000 → l.length = len → H.get id = some (so ver rest l) →
    ∃ (l' : List Nat) (T : List PV), l'.Perm l ∧ codeL Gf (.loop B_178_0) ⟨[sv id ver len, x1, x2, .int .i64 i, .int .i64 k, x5], H, n⟩ = some (.exit 0, ⟨T, H.set id (so ver rest l'), n⟩) := by
  intro d
  induction d with
  | zero =>
    intro i k H l x5 hd hk hk1 hi hl hH
    refine ⟨l, [sv id ver len, x1, x2, .int .i64 i, .int .i64 k, .bool false], .refl _, ?_⟩
    rw [set_self hH]
    refine codeL_loop_end ?_ (by simp)
    simp (disch := omega) only [go_sem, B_178_0]
  | succ d ih =>
    intro i k H l x5 hd hk hk1 hi hl hH
    by_cases hc : (i : Int) < k
    · obtain ⟨j, rfl⟩ : ∃ j : Nat, k = j := ⟨k.toNat, by omega⟩
      have g1 := iat (l := l) (i := i) (by omega) rest
      have g2 := iat (l := l) (i := j) (by omega) rest
      have g5 := rows_swp (l := l) (i := i) (j := j) (by omega) (by omega) rest
      have g6 := iat2 (l := l) (i := i) (j := j) (by omega) (by omega) rest
      obtain ⟨l', T, p, e⟩ := ih (i + 1) ((j : Int) - 1) (H.set id (so ver rest (swp l i j))) (swp l i j) (.bool true) (by omega) (by omega) (by omega) (by omega) (by rw [swp_len]; exact hl) (get_same _ _ _)
      refine ⟨l', T, p.trans (swp_perm (by omega) (by omega)), ?_⟩
      rw [set_set] at e
      rw [← e]
      refine codeL_loop_iff ?_
      simp (disch := omega) only [go_sem, Nat.reduceAdd, Nat.reduceMul, Nat.reduceLeDiff, B_178_0, hH, g1, g2, get_same, set_set, g5, g6, cast_add1]
    · refine ⟨l, [sv id ver len, x1, x2, .int .i64 i, .int .i64 k, .bool false], .refl _, ?_⟩
      rw [set_self hH]
      refine codeL_loop_end ?_ (by simp)
      simp (disch := omega) only [go_sem, B_178_0]
theorem rev_run (hlen : len < 1000000000) (hb : b ≤ len) (ha : a ≤ b) {H : Heap} {l : List Nat} (hl : l.length = len) (hH : H.get id = some (so ver rest l)) :
    ∃ l' : List Nat, l'.Perm l ∧ Gf 178 [sv id ver len, .int .i64 a, .int .i64 b] H n = some (.tup [], H.set id (so ver rest l'), n) := by
  obtain ⟨l', T, p, e⟩ := rev_loop (n := n) (x1 := .int .i64 a) (x2 := .int .i64 b) hlen _ a ((b : Int) - 1) H l (.tup []) (Nat.le_refl _) (by omega) (by omega) (by omega) hl hH
  refine ⟨l', p, ?_⟩
  rw [R_178]
  simp (disch := omega) only [go_sem, G_178, e]
theorem two_run (hlen : len < 1000000000) {i j nb s : Nat} {H : Heap} {l : List Nat} (hl : l.length = len) (hH : H.get id = some (so ver rest l)) (hi : i < len) (hj : j < len) (hB : H.get nb = some (.arr 0 1 [[.int .i64 s]])) (hs : s < 100) (hne : nb ≠ id) :
    ∃ (i' j' s' : Nat), (i' = i ∧ j' = j ∨ i' = j ∧ j' = i) ∧ s' ≤ s + 1 ∧ Gf 252 [sv id ver len, .int .i64 i, .int .i64 j, .ptr nb 0 1 0 0] H n = some (.tup [.int .i64 i', .int .i64 j'], H.set nb (.arr 0 1 [[.int .i64 s']]), n) := by
  have g1 := iat (l := l) (i := i) (by omega) rest
  have g2 := iat (l := l) (i := j) (by omega) rest
  cases hlt : decide (((l.getD j 0 : Nat) : Int) < ((l.getD i 0 : Nat) : Int)) with
  | true =>
    refine ⟨j, i, s + 1, .inr ⟨rfl, rfl⟩, Nat.le_refl _, ?_⟩
    rw [R_252]
    simp (disch := omega) only [go_sem, Nat.reduceAdd, Nat.reduceMul, Nat.reduceLeDiff, G_252, hH, g1, g2, less_run, hlt, hB, cast_add1]
  | false =>
    refine ⟨i, j, s, .inl ⟨rfl, rfl⟩, Nat.le_succ _, ?_⟩
    rw [set_self hB]
    rw [R_252]
    simp (disch := omega) only [go_sem, Nat.reduceAdd, Nat.reduceMul, Nat.reduceLeDiff, G_252, hH, g1, g2, less_run, hlt]
theorem med_run (hlen : len < 1000000000) {i j k nb s : Nat} {H : Heap} {l : List Nat} (hl : l.length = len) (hH : H.get id = some (so ver rest l)) (hi : i < len) (hj : j < len) (hk : k < len) (hB : H.get nb = some (.arr 0 1 [[.int .i64 s]])) (hs : s < 90) (hne : nb ≠ id) :
    ∃ (m s' : Nat), (m = i ∨ m = j ∨ m = k) ∧ s' ≤ s + 3 ∧ Gf 225 [sv id ver len, .int .i64 i, .int .i64 j, .int .i64 k, .ptr nb 0 1 0 0] H n = some (.int .i64 m, H.set nb (.arr 0 1 [[.int .i64 s']]), n) := by
  obtain ⟨i1, j1, s1, c1, d1, e1⟩ := two_run (n := n) hlen hl hH hi hj hB (by omega) hne
  have hi1 : i1 < len := by omega
  have hj1 : j1 < len := by omega
  obtain ⟨j2, k2, s2, c2, d2, e2⟩ := two_run (n := n) (H := H.set nb (.arr 0 1 [[.int .i64 s1]])) hlen hl (by rw [get_other _ _ hne]; exact hH) hj1 hk (get_same _ _ _) (by omega) hne
  have hj2 : j2 < len := by omega
  obtain ⟨i3, j3, s3, c3, d3, e3⟩ := two_run (n := n) (H := H.set nb (.arr 0 1 [[.int .i64 s2]])) hlen hl (by rw [get_other _ _ hne]; exact hH) hi1 hj2 (get_same _ _ _) (by omega) hne
  rw [set_set] at e2 e3
  refine ⟨j3, s3, by omega, by omega, ?_⟩
  rw [R_225]
  simp (disch := omega) only [go_sem, G_225, e1, e2, e3]
theorem med3_run (hlen : len < 1000000000) {i nb s : Nat} {H : Heap} {l : List Nat} (hl : l.length = len) (hH : H.get id = some (so ver rest l)) (h1 : 1 ≤ i) (hi : i + 1 < len) (hB : H.get nb = some (.arr 0 1 [[.int .i64 s]])) (hs : s < 90) (hne : nb ≠ id) :
    ∃ (m s' : Nat), i - 1 ≤ m ∧ m ≤ i + 1 ∧ s' ≤ s + 3 ∧ Gf 224 [sv id ver len, .int .i64 i, .ptr nb 0 1 0 0] H n = some (.int .i64 m, H.set nb (.arr 0 1 [[.int .i64 s']]), n) := by
  obtain ⟨m, s', c, d, e⟩ := med_run (n := n) (i := i - 1) (j := i) (k := i + 1) hlen hl hH (by omega) (by omega) (by omega) hB hs hne
  refine ⟨m, s', by omega, by omega, d, ?_⟩
  rw [R_224]
  simp (disch := omega) only [go_sem, G_224, cast_sub1, cast_add1, e]
theorem piv_run (hlen : len < 1000000000) (hb : b ≤ len) (hab : a + 12 < b) {H : Heap} {l : List Nat} (hl : l.length = len) (hH : H.get id = some (so ver rest l)) (hid : id < n) :
    ∃ (m : Nat) (h s : Nat), a ≤ m ∧ m < b ∧ h ≤ 2 ∧ Gf 177 [sv id ver len, .int .i64 a, .int .i64 b] H n = some (.tup [.int .i64 m, .int .i64 h], H.set n (.arr 0 1 [[.int .i64 s]]), n + 1) := by
  have e0 : (b : Int) - (a : Int) = ((b - a : Nat) : Int) := by omega
  have e1 : (((b - a : Nat) : Int)).tdiv 4 = (((b - a) / 4 : Nat) : Int) := rfl
  have e2 : (((b - a) / 4 : Nat) : Int) * 1 = (((b - a) / 4 : Nat) : Int) := by omega
  have e3 : (((b - a) / 4 : Nat) : Int) * 2 = (((b - a) / 4 * 2 : Nat) : Int) := by omega
  have e4 : (((b - a) / 4 : Nat) : Int) * 3 = (((b - a) / 4 * 3 : Nat) : Int) := by omega
  have hne : n ≠ id := by omega
  have hH1 : (H.set n (.arr 0 1 [[.int .i64 0]])).get id = some (so ver rest l) := by rw [get_other _ _ hne]; exact hH
  have fin2 : ∀ s : Nat, s < 100 → (s = 0 ∨ s = 12 ∨ (s ≠ 0 ∧ s ≠ 12)) := by intro s _; omega
  by_cases h50 : 50 ≤ b - a
  · obtain ⟨m1, s1, c1, c1', d1, f1⟩ := med3_run (n := n + 1) (i := a + (b - a) / 4) (s := 0) (H := H.set n (.arr 0 1 [[.int .i64 0]])) hlen hl hH1 (by omega) (by omega) (get_same _ _ _) (by omega) hne
    obtain ⟨m2, s2, c2, c2', d2, f2⟩ := med3_run (n := n + 1) (i := a + (b - a) / 4 * 2) (s := s1) (H := H.set n (.arr 0 1 [[.int .i64 s1]])) hlen hl (by rw [get_other _ _ hne]; exact hH) (by omega) (by omega) (get_same _ _ _) (by omega) hne
    obtain ⟨m3, s3, c3, c3', d3, f3⟩ := med3_run (n := n + 1) (i := a + (b - a) / 4 * 3) (s := s2) (H := H.set n (.arr 0 1 [[.int .i64 s2]])) hlen hl (by rw [get_other _ _ hne]; exact hH) (by omega) (by omega) (get_same _ _ _) (by omega) hne
    obtain ⟨m4, s4, c4, d4, f4⟩ := med_run (n := n + 1) (i := m1) (j := m2) (k := m3) (s := s3) (H := H.set n (.arr 0 1 [[.int .i64 s3]])) hlen hl (by rw [get_other _ _ hne]; exact hH) (by omega) (by omega) (by omega) (get_same _ _ _) (by omega) hne
    rw [set_set] at f1 f2 f3 f4
    rcases fin2 s4 (by omega) with h | h | h
    · subst h
      refine ⟨m4, 1, 0, by omega, by omega, by omega, ?_⟩
      rw [R_177]
      simp (disch := omega) only [go_sem, G_177, e0, e1, e2, e3, e4, cast_addN, get_same, f1, f2, f3, f4]
      rfl
    · subst h
      refine ⟨m4, 2, 12, by omega, by omega, by omega, ?_⟩
      rw [R_177]
      simp (disch := omega) only [go_sem, G_177, e0, e1, e2, e3, e4, cast_addN, get_same, f1, f2, f3, f4]
      rfl
    · refine ⟨m4, 0, s4, by omega, by omega, by omega, ?_⟩
      rw [R_177]
      simp (disch := omega) only [go_sem, G_177, e0, e1, e2, e3, e4, cast_addN, get_same, f1, f2, f3, f4]
      rfl
  · obtain ⟨m4, s4, c4, d4, f4⟩ := med_run (n := n + 1) (i := a + (b - a) / 4) (j := a + (b - a) / 4 * 2) (k := a + (b - a) / 4 * 3) (s := 0) (H := H.set n (.arr 0 1 [[.int .i64 0]])) hlen hl hH1 (by omega) (by omega) (by omega) (get_same _ _ _) (by omega) hne
    rw [set_set] at f4
    rcases fin2 s4 (by omega) with h | h | h
    · subst h
      refine ⟨m4, 1, 0, by omega, by omega, by omega, ?_⟩
      rw [R_177]
      simp (disch := omega) only [go_sem, G_177, e0, e1, e2, e3, e4, cast_addN, get_same, f4]
      rfl
    · omega
    · refine ⟨m4, 0, s4, by omega, by omega, by omega, ?_⟩
      rw [R_177]
      simp (disch := omega) only [go_sem, G_177, e0, e1, e2, e3, e4, cast_addN, get_same, f4]
      rfl
end
theorem wrapu8 {x : Int} (h0 : 0 ≤ x) (h1 : x < 256) : IntKind.u8.wrap x = x := by
  have e : IntKind.u8.bits = 8 := rfl
  have e2 : IntKind.u8.signed = false := rfl
  unfold IntKind.wrap
  simp only [e, e2, Bool.false_and, Bool.false_eq_true, if_false]
  have h : (2 : Int) ^ 8 = 256 := by decide
  simp only [h]
  omega
def lenTab : PV := .str ⟨#[0, 1, 2, 2, 3, 3, 3, 3, 4, 4, 4, 4, 4, 4, 4, 4, 5, 5, 5, 5, 5, 5, 5, 5, 5, 5, 5, 5, 5, 5, 5, 5, 6, 6, 6, 6, 6, 6, 6, 6, 6, 6, 6, 6, 6, 6, 6, 6, 6, 6, 6, 6, 6, 6, 6, 6, 6, 6, 6, 6, 6, 6, 6, 6, 7, 7, 7, 7, 7, 7, 7, 7, 7, 7, 7, 7, 7, 7, 7, 7, 7, 7, 7, 7, 7, 7, 7, 7, 7, 7, 7, 7, 7, 7, 7, 7, 7, 7, 7, 7, 7, 7, 7, 7, 7, 7, 7, 7, 7, 7, 7, 7, 7, 7, 7, 7, 7, 7, 7, 7, 7, 7, 7, 7, 7, 7, 7, 7, 8, 8, 8, 8, 8, 8, 8, 8, 8, 8, 8, 8, 8, 8, 8, 8, 8, 8, 8, 8, 8, 8, 8, 8, 8, 8, 8, 8, 8, 8, 8, 8, 8, 8, 8, 8, 8, 8, 8, 8, 8, 8, 8, 8, 8, 8, 8, 8, 8, 8, 8, 8, 8, 8, 8, 8, 8, 8, 8, 8, 8, 8, 8, 8, 8, 8, 8, 8, 8, 8, 8, 8, 8, 8, 8, 8, 8, 8, 8, 8, 8, 8, 8, 8, 8, 8, 8, 8, 8, 8, 8, 8, 8, 8, 8, 8, 8, 8, 8, 8, 8, 8, 8, 8, 8, 8, 8, 8, 8, 8, 8, 8, 8, 8, 8, 8, 8, 8, 8, 8, 8, 8, 8, 8, 8, 8, 8, 8]⟩
def lk (x : Nat) : Nat := if x = 0 then 0 else Nat.log2 x + 1
def tabOk (x : Nat) : Bool := match idxStrV lenTab (.int .u8 x) with
  | some (.int .u8 y) => decide (y = (lk x : Int))
  | _ => false
theorem tab_all : (List.range 256).all tabOk = true := by decide +kernel
theorem tab_at {x : Nat} (h : x < 256) : idxStrV lenTab (.int .u8 x) = some (.int .u8 (lk x : Nat)) := by
  have := List.all_eq_true.1 tab_all x (List.mem_range.2 h)
  simp only [tabOk] at this
  split at this
  · rename_i y e; rw [e]; simp only [decide_eq_true_eq] at this; rw [this]
  · simp at this
theorem lk_le {x : Nat} : x < 2 ^ lk x := by
  unfold lk
  split
  · omega
  · exact Nat.lt_log2_self
theorem lk_ge {x : Nat} (h : 0 < x) : 2 ^ lk x ≤ 2 * x := by
  unfold lk
  rw [if_neg (by omega), Nat.pow_succ]
  have := Nat.log2_self_le (n := x) (by omega)
  omega
theorem lk_lt {x : Nat} (h : x < 256) : lk x ≤ 8 := by
  unfold lk
  split
  · omega
  · have := (Nat.log2_lt (by omega)).2 (show x < 2 ^ 8 by omega)
    omega
theorem len_run (x : Nat) (h : x < 65536) : ∃ k : Nat, pureV Gf 184 [.int .u64 x] = some (.int .i64 k) ∧ k ≤ 16 ∧ x < 2 ^ k ∧ (0 < x → 2 ^ k ≤ 2 * x) := by
  by_cases hc : x < 256
  · have ht := tab_at hc
    have h8 := lk_lt hc
    refine ⟨lk x, ?_, by omega, lk_le, lk_ge⟩
    rw [pureV_eq, R_184]
    simp (disch := omega) only [go_sem, G_184, wrapu8]
    generalize hz : idxStrV _ _ = z
    have hz' := hz.symm.trans ht
    subst hz'
    simp (disch := omega) only [go_sem]
    simp
  · have hq : binV .shr (.int .u64 x) (.int .u64 8) = some (.int .u64 (x / 256 : Nat)) := by
      show some (PV.int .u64 ((x : Int).fdiv (2 ^ 8))) = _
      rw [Int.fdiv_eq_ediv_of_nonneg _ (by decide)]
      congr
    have ht := tab_at (x := x / 256) (by omega)
    have h8 := lk_lt (x := x / 256) (by omega)
    have h9 := lk_le (x := x / 256)
    have h10 := lk_ge (x := x / 256) (by omega)
    refine ⟨8 + lk (x / 256), ?_, by omega, ?_, fun _ => ?_⟩
    · rw [pureV_eq, R_184]
      simp (disch := omega) only [go_sem, Int.reduceAdd, G_184, wrapu8, hq]
      generalize hz : idxStrV _ _ = z
      have hz' := hz.symm.trans ht
      subst hz'
      simp (disch := omega) only [go_sem]
      congr 2
    · rw [Nat.pow_add]; omega
    · rw [Nat.pow_add]; omega
theorem blen_run (x : Nat) (h : x < 65536) : ∃ k : Nat, pureV Gf 126 [.int .u64 x] = some (.int .i64 k) ∧ k ≤ 16 ∧ x < 2 ^ k ∧ (0 < x → 2 ^ k ≤ 2 * x) := by
  obtain ⟨k, e, r⟩ := len_run x h
  refine ⟨k, ?_, r⟩
  rw [pureV_eq, R_126]
  simp (disch := omega) only [go_sem, G_126, e]
theorem shl1 {k : Nat} (h : k ≤ 16) : binV .shl (.int .u64 1) (.int .i64 k) = some (.int .u64 (2 ^ k : Nat)) := by
  have : (List.range 17).all (fun k => match binV .shl (.int .u64 1) (.int .i64 (k : Nat)) with
    | some (.int .u64 y) => decide (y = (2 ^ k : Nat))
    | _ => false) = true := by decide +kernel
  have := List.all_eq_true.1 this k (List.mem_range.2 (by omega))
  split at this
  · rename_i y e; rw [e]; simp only [decide_eq_true_eq] at this; rw [this]
  · simp at this
theorem pow_run (x : Nat) (h : x < 65536) (h0 : 0 < x) : ∃ m : Nat, pureV Gf 222 [.int .i64 x] = some (.int .u64 m) ∧ x < m ∧ m ≤ 2 * x := by
  obtain ⟨k, e, k1, k2, k3⟩ := blen_run x h
  refine ⟨2 ^ k, ?_, k2, k3 h0⟩
  rw [pureV_eq, R_222]
  simp (disch := omega) only [go_sem, G_222, wrapu64, e, shl1]
theorem rnd_run {nb n : Nat} {H : Heap} {s : Int} (hB : H.get nb = some (.arr 0 1 [[.int .u64 s]])) : ∃ s' : Int, Gf 223 [.ptr nb 0 1 0 0] H n = some (.int .u64 s', H.set nb (.arr 0 1 [[.int .u64 s']]), n) := by
  obtain ⟨a1, h1⟩ : ∃ z, binV .shl (.int .u64 s) (.int .u64 13) = some (.int .u64 z) := ⟨_, rfl⟩
  obtain ⟨a2, h2⟩ : ∃ z, binV .xor (.int .u64 s) (.int .u64 a1) = some (.int .u64 z) := ⟨_, rfl⟩
  obtain ⟨b1, h3⟩ : ∃ z, binV .shr (.int .u64 a2) (.int .u64 7) = some (.int .u64 z) := ⟨_, rfl⟩
  obtain ⟨b2, h4⟩ : ∃ z, binV .xor (.int .u64 a2) (.int .u64 b1) = some (.int .u64 z) := ⟨_, rfl⟩
  obtain ⟨c1, h5⟩ : ∃ z, binV .shl (.int .u64 b2) (.int .u64 17) = some (.int .u64 z) := ⟨_, rfl⟩
  obtain ⟨c2, h6⟩ : ∃ z, binV .xor (.int .u64 b2) (.int .u64 c1) = some (.int .u64 z) := ⟨_, rfl⟩
  refine ⟨c2, ?_⟩
  rw [R_223]
  simp (disch := omega) only [go_sem, Nat.reduceAdd, Nat.reduceMul, Nat.reduceLeDiff, G_223, hB, get_same, set_set, h1, h2, h3, h4, h5, h6]
theorem and_run (a : Int) (m : Nat) (h0 : 0 < m) (h : m < 1000000) : ∃ k : Nat, k < m ∧ binV .and (.int .u64 a) (.int .u64 (m - 1 : Nat)) = some (.int .u64 k) := by
  have hle : (BitVec.ofInt 64 a &&& BitVec.ofInt 64 ((m - 1 : Nat) : Int)).toNat ≤ m - 1 := by
    rw [BitVec.toNat_and]
    refine Nat.le_trans Nat.and_le_right ?_
    rw [BitVec.toNat_ofInt]
    omega
  refine ⟨(BitVec.ofInt 64 a &&& BitVec.ofInt 64 ((m - 1 : Nat) : Int)).toNat, by omega, ?_⟩
  show some (PV.int .u64 (IntKind.u64.wrap ((BitVec.ofInt 64 a &&& BitVec.ofInt 64 ((m - 1 : Nat) : Int)).toNat : Int))) = _
  rw [wrapu64 (by omega) (by omega)]
section
variable {id ver n len : Nat} {rest : List (List PV)} {a b : Nat}
theorem brk_loop (hlen : len < 10000) (hb : b ≤ len) {x1 x2 x8 : PV} {nb m : Nat} (hab : a + 8 ≤ b) (hm : b - a < m) (hm2 : m ≤ 2 * (b - a)) (hne : nb ≠ id) : ∀ (d i : Nat) (H : Heap) (l : List Nat) (s : Int) (x7 x9 x10 : PV),
    a + (b - a) / 4 * 2 + 2 - i = d → a ≤ i → l.length = len → H.get id = some (so ver rest l) → H.get nb = some (.arr 0 1 [[.int .u64 s]]) →
    ∃ (l' : List Nat) (T : List PV) (H' : Heap), l'.Perm l ∧ codeL Gf (.loop B_176_0) ⟨[sv id ver len, .int .i64 a, .int .i64 b, .int .i64 (b - a : Nat), .ptr nb 0 1 0 0, .int .u64 m, .int .i64 i, x7, x8, x9, x10], H, n⟩ = some (.exit 0, ⟨T, H', n⟩) ∧
      H'.get id = some (so ver rest l') ∧ ∀ j, j ≠ id → j ≠ nb → H'.get j = H.get j := by
  have e1 : (((b - a : Nat) : Int)).tdiv 4 = (((b - a) / 4 : Nat) : Int) := rfl
  have e3 : (((b - a) / 4 : Nat) : Int) * 2 = (((b - a) / 4 * 2 : Nat) : Int) := by omega
  have e4 : ∀ k : Nat, m ≠ 0 → ((m : Int) - 1) = ((m - 1 : Nat) : Int) := by intro k hk; omega
  intro d
  induction d with
  | zero =>
    intro i H l s x7 x9 x10 hd hi hl hH hB
    refine ⟨l, [sv id ver len, .int .i64 a, .int .i64 b, .int .i64 (b - a : Nat), .ptr nb 0 1 0 0, .int .u64 m, .int .i64 i, x7, x8, .bool false, x10], H, .refl _, ?_, hH, fun _ _ _ => rfl⟩
    refine codeL_loop_end ?_ (by simp)
    simp (disch := omega) only [go_sem, B_176_0, e1, e3, cast_addN]
  | succ d ih =>
    intro i H l s x7 x9 x10 hd hi hl hH hB
    obtain ⟨s', hr⟩ := rnd_run (n := n) hB
    obtain ⟨k, hk, ha⟩ := and_run s' m (by omega) (by omega)
    have hem := e4 0 (by omega)
    have key : ∀ (q : Nat) (y10 : Bool), q < b - a → codeL Gf (.loop B_176_0) ⟨[sv id ver len, .int .i64 a, .int .i64 b, .int .i64 (b - a : Nat), .ptr nb 0 1 0 0, .int .u64 m, .int .i64 i, x7, x8, x9, x10], H, n⟩ =
        codeL Gf (.loop B_176_0) ⟨[sv id ver len, .int .i64 a, .int .i64 b, .int .i64 (b - a : Nat), .ptr nb 0 1 0 0, .int .u64 m, .int .i64 (i + 1 : Nat), .int .i64 q, x8, .bool true, .bool y10], (H.set nb (.arr 0 1 [[.int .u64 s']])).set id (so ver rest (swp l i (a + q))), n⟩ →
        ∃ (l' : List Nat) (T : List PV) (H' : Heap), l'.Perm l ∧ codeL Gf (.loop B_176_0) ⟨[sv id ver len, .int .i64 a, .int .i64 b, .int .i64 (b - a : Nat), .ptr nb 0 1 0 0, .int .u64 m, .int .i64 i, x7, x8, x9, x10], H, n⟩ = some (.exit 0, ⟨T, H', n⟩) ∧
          H'.get id = some (so ver rest l') ∧ ∀ j, j ≠ id → j ≠ nb → H'.get j = H.get j := by
      intro q y10 hq he
      obtain ⟨l', T, H', p, g1, g2, g3⟩ := ih (i + 1) ((H.set nb (.arr 0 1 [[.int .u64 s']])).set id (so ver rest (swp l i (a + q)))) (swp l i (a + q)) s' (.int .i64 q) (.bool true) (.bool y10) (by omega) (by omega) (by rw [swp_len]; exact hl) (get_same _ _ _) (by rw [get_other _ _ (Ne.symm hne), get_same])
      exact ⟨l', T, H', p.trans (swp_perm (by omega) (by omega)), he.trans g1, g2, fun j h1 h2 => by rw [g3 j h1 h2, get_other _ _ (Ne.symm h1), get_other _ _ (Ne.symm h2)]⟩
    have hH1 : (H.set nb (.arr 0 1 [[.int .u64 s']])).get id = some (so ver rest l) := by rw [get_other _ _ hne]; exact hH
    have g1 := iat (l := l) (i := i) (by omega) rest
    have w : ∀ k : Nat, k < 1000000 → IntKind.i64.wrap (k : Int) = (k : Int) := fun k hk => wrap64 (by omega) (by omega)
    by_cases hc : b - a ≤ k
    · have ek : (k : Int) - ((b - a : Nat) : Int) = ((k - (b - a) : Nat) : Int) := by omega
      have g2 := iat (l := l) (i := a + (k - (b - a))) (by omega) rest
      have g5 := rows_swp (l := l) (i := i) (j := a + (k - (b - a))) (by omega) (by omega) rest
      have g6 := iat2 (l := l) (i := i) (j := a + (k - (b - a))) (by omega) (by omega) rest
      refine key (k - (b - a)) true (by omega) (codeL_loop_iff ?_)
      simp (disch := omega) only [go_sem, Nat.reduceAdd, Nat.reduceMul, Nat.reduceLeDiff, B_176_0, e1, e3, cast_addN, cast_add1, hr, hem, wrapu64, ha, w, ek, hH1, g1, g2, get_same, set_set, g5, g6]
    · have g2 := iat (l := l) (i := a + k) (by omega) rest
      have g5 := rows_swp (l := l) (i := i) (j := a + k) (by omega) (by omega) rest
      have g6 := iat2 (l := l) (i := i) (j := a + k) (by omega) (by omega) rest
      refine key k false (by omega) (codeL_loop_iff ?_)
      simp (disch := omega) only [go_sem, Nat.reduceAdd, Nat.reduceMul, Nat.reduceLeDiff, B_176_0, e1, e3, cast_addN, cast_add1, hr, hem, wrapu64, ha, w, hH1, g1, g2, get_same, set_set, g5, g6]
theorem brk_run (hlen : len < 10000) (hb : b ≤ len) (hab : a + 12 < b) {H : Heap} {l : List Nat} (hl : l.length = len) (hH : H.get id = some (so ver rest l)) (hid : id < n) :
    ∃ (l' : List Nat) (H' : Heap), l'.Perm l ∧ Gf 176 [sv id ver len, .int .i64 a, .int .i64 b] H n = some (.tup [], H', n + 1) ∧ H'.get id = some (so ver rest l') ∧ Same [id] n H H' := by
  have e0 : (b : Int) - (a : Int) = ((b - a : Nat) : Int) := by omega
  have e1 : (((b - a : Nat) : Int)).tdiv 4 = (((b - a) / 4 : Nat) : Int) := rfl
  have e3 : (((b - a) / 4 : Nat) : Int) * 2 = (((b - a) / 4 * 2 : Nat) : Int) := by omega
  have e5 : ((a + (b - a) / 4 * 2 : Nat) : Int) - 1 = ((a + (b - a) / 4 * 2 - 1 : Nat) : Int) := by omega
  have hne : n ≠ id := by omega
  obtain ⟨m, em, m1, m2⟩ := pow_run (b - a) (by omega) (by omega)
  obtain ⟨l', T, H', p, g1, g2, g3⟩ := brk_loop (n := n + 1) (x1 := .tup []) (x2 := .tup []) (x8 := .bool true) (nb := n) hlen hb (by omega) m1 m2 hne _ (a + (b - a) / 4 * 2 - 1) (H.set n (.arr 0 1 [[.int .u64 (b - a : Nat)]])) l (b - a : Nat) (.tup []) (.tup []) (.tup []) rfl (by omega) hl (by rw [get_other _ _ hne]; exact hH) (get_same _ _ _)
  refine ⟨l', H', p, ?_, g2, fun j h1 h2 => ?_⟩
  · rw [R_176]
    simp (disch := omega) only [go_sem, Nat.reduceLeDiff, G_176, e0, e1, e3, e5, cast_addN, wrapu64, get_same, set_set, em, g1]
  · rw [g3 j (by simpa using h2) (by omega), get_other _ _ (by omega)]
end
theorem contB_54 {s : St} : contB 5 (some (.exit 4, s)) = some (.exit 4, s) := rfl
theorem contB_76 {s : St} : contB 7 (some (.exit 6, s)) = some (.exit 6, s) := rfl
section
variable {id ver n len : Nat} {rest : List (List PV)} {a b : Nat}
theorem pe_up (hlen : len < 10000) {x2 x3 x4 x8 x9 : PV} {j : Nat} (ha : a < len) (hj : j < len) : ∀ (d i : Nat) (H : Heap) (l : List Nat) (x7 : PV), j + 1 - i = d → i ≤ len → l.length = len → H.get id = some (so ver rest l) →
    ∃ i' : Nat, i ≤ i' ∧ (i' = i ∨ i' ≤ j + 1) ∧ codeL Gf (.loop B_181_1) ⟨[sv id ver len, .int .i64 a, x2, x3, x4, .int .i64 i, .int .i64 j, x7, x8, x9], H, n⟩ = some (.exit 2, ⟨[sv id ver len, .int .i64 a, x2, x3, x4, .int .i64 i', .int .i64 j, .bool false, x8, x9], H, n⟩) := by
  intro d
  induction d with
  | zero =>
    intro i H l x7 hd hi hl hH
    refine ⟨i, Nat.le_refl _, .inl rfl, codeL_loop_end ?_ (by simp)⟩
    simp (disch := omega) only [go_sem, Nat.reduceAdd, Nat.reduceMul, Nat.reduceLeDiff, B_181_1]
  | succ d ih =>
    intro i H l x7 hd hi hl hH
    have h1 := iat (l := l) (i := a) (by omega) rest
    have h2 := iat (l := l) (i := i) (by omega) rest
    cases hlt : decide (((l.getD a 0 : Nat) : Int) < ((l.getD i 0 : Nat) : Int)) with
    | true =>
      refine ⟨i, Nat.le_refl _, .inl rfl, codeL_loop_end ?_ (by simp)⟩
      simp (disch := omega) only [go_sem, Nat.reduceAdd, Nat.reduceMul, Nat.reduceLeDiff, B_181_1, hH, h1, h2, less_run, hlt]
    | false =>
      obtain ⟨i', g1, g2, g3⟩ := ih (i + 1) H l (.bool true) (by omega) (by omega) hl hH
      refine ⟨i', by omega, by omega, ?_⟩
      rw [← g3]
      refine codeL_loop_iff ?_
      simp (disch := omega) only [go_sem, Nat.reduceAdd, Nat.reduceMul, Nat.reduceLeDiff, B_181_1, hH, h1, h2, less_run, hlt, cast_add1]
theorem pe_down (hlen : len < 10000) {x2 x3 x4 x7 x9 : PV} {i : Nat} (ha : a < len) (hi : 1 ≤ i) : ∀ (d j : Nat) (H : Heap) (l : List Nat) (x8 : PV), j + 1 - i = d → j < len → l.length = len → H.get id = some (so ver rest l) →
    ∃ j' : Nat, j' ≤ j ∧ (j' = j ∨ i ≤ j' + 1) ∧ codeL Gf (.loop B_181_0) ⟨[sv id ver len, .int .i64 a, x2, x3, x4, .int .i64 i, .int .i64 j, x7, x8, x9], H, n⟩ = some (.exit 4, ⟨[sv id ver len, .int .i64 a, x2, x3, x4, .int .i64 i, .int .i64 j', x7, .bool false, x9], H, n⟩) := by
  intro d
  induction d with
  | zero =>
    intro j H l x8 hd hj hl hH
    refine ⟨j, Nat.le_refl _, .inl rfl, codeL_loop_end ?_ (by simp)⟩
    simp (disch := omega) only [go_sem, Nat.reduceAdd, Nat.reduceMul, Nat.reduceLeDiff, B_181_0]
  | succ d ih =>
    intro j H l x8 hd hj hl hH
    have h1 := iat (l := l) (i := a) (by omega) rest
    have h2 := iat (l := l) (i := j) (by omega) rest
    cases hlt : decide (((l.getD a 0 : Nat) : Int) < ((l.getD j 0 : Nat) : Int)) with
    | false =>
      refine ⟨j, Nat.le_refl _, .inl rfl, codeL_loop_end ?_ (by simp)⟩
      simp (disch := omega) only [go_sem, Nat.reduceAdd, Nat.reduceMul, Nat.reduceLeDiff, B_181_0, hH, h1, h2, less_run, hlt]
    | true =>
      obtain ⟨j', g1, g2, g3⟩ := ih (j - 1) H l (.bool true) (by omega) (by omega) hl hH
      refine ⟨j', by omega, by omega, ?_⟩
      rw [← g3]
      refine codeL_loop_iff ?_
      simp (disch := omega) only [go_sem, Nat.reduceAdd, Nat.reduceMul, Nat.reduceLeDiff, B_181_0, hH, h1, h2, less_run, hlt, cast_sub1]
theorem pa_up1 (hlen : len < 10000) {x2 x3 x4 x5 x9 x10 x11 x12 x13 : PV} {j : Nat} (ha : a < len) (hj : j < len) : ∀ (d i : Nat) (H : Heap) (l : List Nat) (x8 : PV), j + 1 - i = d → i ≤ len → l.length = len → H.get id = some (so ver rest l) →
    ∃ i' : Nat, i ≤ i' ∧ (i' = i ∨ i' ≤ j + 1) ∧ codeL Gf (.loop B_182_4) ⟨[sv id ver len, .int .i64 a, x2, x3, x4, x5, .int .i64 i, .int .i64 j, x8, x9, x10, x11, x12, x13], H, n⟩ = some (.exit 0, ⟨[sv id ver len, .int .i64 a, x2, x3, x4, x5, .int .i64 i', .int .i64 j, .bool false, x9, x10, x11, x12, x13], H, n⟩) := by
  intro d
  induction d with
  | zero =>
    intro i H l x8 hd hi hl hH
    refine ⟨i, Nat.le_refl _, .inl rfl, codeL_loop_end ?_ (by simp)⟩
    simp (disch := omega) only [go_sem, Nat.reduceAdd, Nat.reduceMul, Nat.reduceLeDiff, B_182_4]
  | succ d ih =>
    intro i H l x8 hd hi hl hH
    have h1 := iat (l := l) (i := a) (by omega) rest
    have h2 := iat (l := l) (i := i) (by omega) rest
    cases hlt : decide (((l.getD i 0 : Nat) : Int) < ((l.getD a 0 : Nat) : Int)) with
    | false =>
      refine ⟨i, Nat.le_refl _, .inl rfl, codeL_loop_end ?_ (by simp)⟩
      simp (disch := omega) only [go_sem, Nat.reduceAdd, Nat.reduceMul, Nat.reduceLeDiff, B_182_4, hH, h1, h2, less_run, hlt]
    | true =>
      obtain ⟨i', g1, g2, g3⟩ := ih (i + 1) H l (.bool true) (by omega) (by omega) hl hH
      refine ⟨i', by omega, by omega, ?_⟩
      rw [← g3]
      refine codeL_loop_iff ?_
      simp (disch := omega) only [go_sem, Nat.reduceAdd, Nat.reduceMul, Nat.reduceLeDiff, B_182_4, hH, h1, h2, less_run, hlt, cast_add1]
theorem pa_down1 (hlen : len < 10000) {x2 x3 x4 x5 x8 x10 x11 x12 x13 : PV} {i : Nat} (ha : a < len) (hi : 1 ≤ i) : ∀ (d j : Nat) (H : Heap) (l : List Nat) (x9 : PV), j + 1 - i = d → j < len → l.length = len → H.get id = some (so ver rest l) →
    ∃ j' : Nat, j' ≤ j ∧ (j' = j ∨ i ≤ j' + 1) ∧ codeL Gf (.loop B_182_3) ⟨[sv id ver len, .int .i64 a, x2, x3, x4, x5, .int .i64 i, .int .i64 j, x8, x9, x10, x11, x12, x13], H, n⟩ = some (.exit 2, ⟨[sv id ver len, .int .i64 a, x2, x3, x4, x5, .int .i64 i, .int .i64 j', x8, .bool false, x10, x11, x12, x13], H, n⟩) := by
  intro d
  induction d with
  | zero =>
    intro j H l x9 hd hj hl hH
    refine ⟨j, Nat.le_refl _, .inl rfl, codeL_loop_end ?_ (by simp)⟩
    simp (disch := omega) only [go_sem, Nat.reduceAdd, Nat.reduceMul, Nat.reduceLeDiff, B_182_3]
  | succ d ih =>
    intro j H l x9 hd hj hl hH
    have h1 := iat (l := l) (i := a) (by omega) rest
    have h2 := iat (l := l) (i := j) (by omega) rest
    cases hlt : decide (((l.getD j 0 : Nat) : Int) < ((l.getD a 0 : Nat) : Int)) with
    | true =>
      refine ⟨j, Nat.le_refl _, .inl rfl, codeL_loop_end ?_ (by simp)⟩
      simp (disch := omega) only [go_sem, Nat.reduceAdd, Nat.reduceMul, Nat.reduceLeDiff, B_182_3, hH, h1, h2, less_run, hlt]
    | false =>
      obtain ⟨j', g1, g2, g3⟩ := ih (j - 1) H l (.bool true) (by omega) (by omega) hl hH
      refine ⟨j', by omega, by omega, ?_⟩
      rw [← g3]
      refine codeL_loop_iff ?_
      simp (disch := omega) only [go_sem, Nat.reduceAdd, Nat.reduceMul, Nat.reduceLeDiff, B_182_3, hH, h1, h2, less_run, hlt, cast_sub1]
theorem pa_up2 (hlen : len < 10000) {x2 x3 x4 x5 x8 x9 x10 x12 x13 : PV} {j : Nat} (ha : a < len) (hj : j < len) : ∀ (d i : Nat) (H : Heap) (l : List Nat) (x11 : PV), j + 1 - i = d → i ≤ len → l.length = len → H.get id = some (so ver rest l) →
    ∃ i' : Nat, i ≤ i' ∧ (i' = i ∨ i' ≤ j + 1) ∧ codeL Gf (.loop B_182_1) ⟨[sv id ver len, .int .i64 a, x2, x3, x4, x5, .int .i64 i, .int .i64 j, x8, x9, x10, x11, x12, x13], H, n⟩ = some (.exit 6, ⟨[sv id ver len, .int .i64 a, x2, x3, x4, x5, .int .i64 i', .int .i64 j, x8, x9, x10, .bool false, x12, x13], H, n⟩) := by
  intro d
  induction d with
  | zero =>
    intro i H l x11 hd hi hl hH
    refine ⟨i, Nat.le_refl _, .inl rfl, codeL_loop_end ?_ (by simp)⟩
    simp (disch := omega) only [go_sem, Nat.reduceAdd, Nat.reduceMul, Nat.reduceLeDiff, B_182_1]
  | succ d ih =>
    intro i H l x11 hd hi hl hH
    have h1 := iat (l := l) (i := a) (by omega) rest
    have h2 := iat (l := l) (i := i) (by omega) rest
    cases hlt : decide (((l.getD i 0 : Nat) : Int) < ((l.getD a 0 : Nat) : Int)) with
    | false =>
      refine ⟨i, Nat.le_refl _, .inl rfl, codeL_loop_end ?_ (by simp)⟩
      simp (disch := omega) only [go_sem, Nat.reduceAdd, Nat.reduceMul, Nat.reduceLeDiff, B_182_1, hH, h1, h2, less_run, hlt]
    | true =>
      obtain ⟨i', g1, g2, g3⟩ := ih (i + 1) H l (.bool true) (by omega) (by omega) hl hH
      refine ⟨i', by omega, by omega, ?_⟩
      rw [← g3]
      refine codeL_loop_iff ?_
      simp (disch := omega) only [go_sem, Nat.reduceAdd, Nat.reduceMul, Nat.reduceLeDiff, B_182_1, hH, h1, h2, less_run, hlt, cast_add1]
theorem pa_down2 (hlen : len < 10000) {x2 x3 x4 x5 x8 x9 x10 x11 x13 : PV} {i : Nat} (ha : a < len) (hi : 1 ≤ i) : ∀ (d j : Nat) (H : Heap) (l : List Nat) (x12 : PV), j + 1 - i = d → j < len → l.length = len → H.get id = some (so ver rest l) →
    ∃ j' : Nat, j' ≤ j ∧ (j' = j ∨ i ≤ j' + 1) ∧ codeL Gf (.loop B_182_0) ⟨[sv id ver len, .int .i64 a, x2, x3, x4, x5, .int .i64 i, .int .i64 j, x8, x9, x10, x11, x12, x13], H, n⟩ = some (.exit 8, ⟨[sv id ver len, .int .i64 a, x2, x3, x4, x5, .int .i64 i, .int .i64 j', x8, x9, x10, x11, .bool false, x13], H, n⟩) := by
  intro d
  induction d with
  | zero =>
    intro j H l x12 hd hj hl hH
    refine ⟨j, Nat.le_refl _, .inl rfl, codeL_loop_end ?_ (by simp)⟩
    simp (disch := omega) only [go_sem, Nat.reduceAdd, Nat.reduceMul, Nat.reduceLeDiff, B_182_0]
  | succ d ih =>
    intro j H l x12 hd hj hl hH
    have h1 := iat (l := l) (i := a) (by omega) rest
    have h2 := iat (l := l) (i := j) (by omega) rest
    cases hlt : decide (((l.getD j 0 : Nat) : Int) < ((l.getD a 0 : Nat) : Int)) with
    | true =>
      refine ⟨j, Nat.le_refl _, .inl rfl, codeL_loop_end ?_ (by simp)⟩
      simp (disch := omega) only [go_sem, Nat.reduceAdd, Nat.reduceMul, Nat.reduceLeDiff, B_182_0, hH, h1, h2, less_run, hlt]
    | false =>
      obtain ⟨j', g1, g2, g3⟩ := ih (j - 1) H l (.bool true) (by omega) (by omega) hl hH
      refine ⟨j', by omega, by omega, ?_⟩
      rw [← g3]
      refine codeL_loop_iff ?_
      simp (disch := omega) only [go_sem, Nat.reduceAdd, Nat.reduceMul, Nat.reduceLeDiff, B_182_0, hH, h1, h2, less_run, hlt, cast_sub1]
theorem pe_loop (hlen : len < 10000) (hb : b ≤ len) {x2 x3 x4 : PV} (ha : a < len) : ∀ (d i j : Nat) (H : Heap) (l : List Nat) (x7 x8 x9 : PV), j + 1 - i ≤ d → a + 1 ≤ i → i ≤ b → a ≤ j → j < b → l.length = len → H.get id = some (so ver rest l) →
    ∃ (l' : List Nat) (i' j' : Nat) (y1 y2 y3 : PV), l'.Perm l ∧ a + 1 ≤ i' ∧ i' ≤ b ∧ a ≤ j' ∧ j' < b ∧ codeL Gf (.loop B_181_2) ⟨[sv id ver len, .int .i64 a, x2, x3, x4, .int .i64 i, .int .i64 j, x7, x8, x9], H, n⟩ = some (.exit 0, ⟨[sv id ver len, .int .i64 a, x2, x3, x4, .int .i64 i', .int .i64 j', y1, y2, y3], H.set id (so ver rest l'), n⟩) := by
  intro d
  induction d with
  | zero =>
    intro i j H l x7 x8 x9 hd h1 h2 h3 h4 hl hH
    obtain ⟨i1, u1, u2, u3⟩ := pe_up (n := n) (x2 := x2) (x3 := x3) (x4 := x4) (x8 := x8) (x9 := x9) hlen (j := j) ha (by omega) _ i H l x7 rfl (by omega) hl hH
    obtain ⟨j1, d1, d2, d3⟩ := pe_down (n := n) (x2 := x2) (x3 := x3) (x4 := x4) (x7 := .bool false) (x9 := x9) hlen (i := i1) ha (by omega) _ j H l x8 rfl (by omega) hl hH
    refine ⟨l, i1, j1, .bool false, .bool false, .bool true, .refl _, by omega, by omega, by omega, by omega, codeL_loop_end ?_ (by simp)⟩
    rw [set_self hH]
    simp (disch := omega) only [go_sem, B_181_2, u3, d3]
  | succ d ih =>
    intro i j H l x7 x8 x9 hd h1 h2 h3 h4 hl hH
    obtain ⟨i1, u1, u2, u3⟩ := pe_up (n := n) (x2 := x2) (x3 := x3) (x4 := x4) (x8 := x8) (x9 := x9) hlen (j := j) ha (by omega) _ i H l x7 rfl (by omega) hl hH
    obtain ⟨j1, d1, d2, d3⟩ := pe_down (n := n) (x2 := x2) (x3 := x3) (x4 := x4) (x7 := .bool false) (x9 := x9) hlen (i := i1) ha (by omega) _ j H l x8 rfl (by omega) hl hH
    by_cases hc : j1 < i1
    · refine ⟨l, i1, j1, .bool false, .bool false, .bool true, .refl _, by omega, by omega, by omega, by omega, codeL_loop_end ?_ (by simp)⟩
      rw [set_self hH]
      simp (disch := omega) only [go_sem, B_181_2, u3, d3]
    · have g1 := iat (l := l) (i := i1) (by omega) rest
      have g2 := iat (l := l) (i := j1) (by omega) rest
      have g5 := rows_swp (l := l) (i := i1) (j := j1) (by omega) (by omega) rest
      have g6 := iat2 (l := l) (i := i1) (j := j1) (by omega) (by omega) rest
      obtain ⟨l', i', j', y1, y2, y3, p, r1, r2, r3, r4, r5⟩ := ih (i1 + 1) (j1 - 1) (H.set id (so ver rest (swp l i1 j1))) (swp l i1 j1) (.bool false) (.bool false) (.bool false) (by omega) (by omega) (by omega) (by omega) (by omega) (by rw [swp_len]; exact hl) (get_same _ _ _)
      refine ⟨l', i', j', y1, y2, y3, p.trans (swp_perm (by omega) (by omega)), r1, r2, r3, r4, ?_⟩
      rw [set_set] at r5
      rw [← r5]
      refine codeL_loop_iff ?_
      simp (disch := omega) only [go_sem, Nat.reduceAdd, Nat.reduceMul, Nat.reduceLeDiff, B_181_2, u3, d3, hH, g1, g2, get_same, set_set, g5, g6, cast_add1, cast_sub1]
theorem pa_loop (hlen : len < 10000) (hb : b ≤ len) {x2 x3 x4 x5 x8 x9 x10 : PV} (ha : a < len) : ∀ (d i j : Nat) (H : Heap) (l : List Nat) (x11 x12 x13 : PV), j + 1 - i ≤ d → a + 1 ≤ i → i ≤ b → a ≤ j → j < b → l.length = len → H.get id = some (so ver rest l) →
    ∃ (l' : List Nat) (i' j' : Nat) (y1 y2 y3 : PV), l'.Perm l ∧ a + 1 ≤ i' ∧ i' ≤ b ∧ a ≤ j' ∧ j' < b ∧ codeL Gf (.loop B_182_2) ⟨[sv id ver len, .int .i64 a, x2, x3, x4, x5, .int .i64 i, .int .i64 j, x8, x9, x10, x11, x12, x13], H, n⟩ = some (.exit 4, ⟨[sv id ver len, .int .i64 a, x2, x3, x4, x5, .int .i64 i', .int .i64 j', x8, x9, x10, y1, y2, y3], H.set id (so ver rest l'), n⟩) := by
  intro d
  induction d with
  | zero =>
    intro i j H l x11 x12 x13 hd h1 h2 h3 h4 hl hH
    obtain ⟨i1, u1, u2, u3⟩ := pa_up2 (n := n) (x2 := x2) (x3 := x3) (x4 := x4) (x5 := x5) (x8 := x8) (x9 := x9) (x10 := x10) (x12 := x12) (x13 := x13) hlen (j := j) ha (by omega) _ i H l x11 rfl (by omega) hl hH
    obtain ⟨j1, d1, d2, d3⟩ := pa_down2 (n := n) (x2 := x2) (x3 := x3) (x4 := x4) (x5 := x5) (x8 := x8) (x9 := x9) (x10 := x10) (x11 := .bool false) (x13 := x13) hlen (i := i1) ha (by omega) _ j H l x12 rfl (by omega) hl hH
    refine ⟨l, i1, j1, .bool false, .bool false, .bool true, .refl _, by omega, by omega, by omega, by omega, codeL_loop_end ?_ (by simp)⟩
    rw [set_self hH]
    simp (disch := omega) only [go_sem, B_182_2, contB_54, u3, d3]
  | succ d ih =>
    intro i j H l x11 x12 x13 hd h1 h2 h3 h4 hl hH
    obtain ⟨i1, u1, u2, u3⟩ := pa_up2 (n := n) (x2 := x2) (x3 := x3) (x4 := x4) (x5 := x5) (x8 := x8) (x9 := x9) (x10 := x10) (x12 := x12) (x13 := x13) hlen (j := j) ha (by omega) _ i H l x11 rfl (by omega) hl hH
    obtain ⟨j1, d1, d2, d3⟩ := pa_down2 (n := n) (x2 := x2) (x3 := x3) (x4 := x4) (x5 := x5) (x8 := x8) (x9 := x9) (x10 := x10) (x11 := .bool false) (x13 := x13) hlen (i := i1) ha (by omega) _ j H l x12 rfl (by omega) hl hH
    by_cases hc : j1 < i1
    · refine ⟨l, i1, j1, .bool false, .bool false, .bool true, .refl _, by omega, by omega, by omega, by omega, codeL_loop_end ?_ (by simp)⟩
      rw [set_self hH]
      simp (disch := omega) only [go_sem, B_182_2, contB_54, u3, d3]
    · have g1 := iat (l := l) (i := i1) (by omega) rest
      have g2 := iat (l := l) (i := j1) (by omega) rest
      have g5 := rows_swp (l := l) (i := i1) (j := j1) (by omega) (by omega) rest
      have g6 := iat2 (l := l) (i := i1) (j := j1) (by omega) (by omega) rest
      obtain ⟨l', i', j', y1, y2, y3, p, r1, r2, r3, r4, r5⟩ := ih (i1 + 1) (j1 - 1) (H.set id (so ver rest (swp l i1 j1))) (swp l i1 j1) (.bool false) (.bool false) (.bool false) (by omega) (by omega) (by omega) (by omega) (by omega) (by rw [swp_len]; exact hl) (get_same _ _ _)
      refine ⟨l', i', j', y1, y2, y3, p.trans (swp_perm (by omega) (by omega)), r1, r2, r3, r4, ?_⟩
      rw [set_set] at r5
      rw [← r5]
      refine codeL_loop_iff ?_
      simp (disch := omega) only [go_sem, Nat.reduceAdd, Nat.reduceMul, Nat.reduceLeDiff, B_182_2, u3, d3, hH, g1, g2, get_same, set_set, g5, g6, cast_add1, cast_sub1]
theorem pe_run (hlen : len < 10000) (hb : b ≤ len) {pv : Nat} (h1 : a ≤ pv) (h2 : pv < b) {H : Heap} {l : List Nat} (hl : l.length = len) (hH : H.get id = some (so ver rest l)) :
    ∃ (l' : List Nat) (i' : Nat), l'.Perm l ∧ a + 1 ≤ i' ∧ i' ≤ b ∧ Gf 181 [sv id ver len, .int .i64 a, .int .i64 b, .int .i64 pv] H n = some (.int .i64 i', H.set id (so ver rest l'), n) := by
  have g1 := iat (l := l) (i := a) (by omega) rest
  have g2 := iat (l := l) (i := pv) (by omega) rest
  have g5 := rows_swp (l := l) (i := a) (j := pv) (by omega) (by omega) rest
  have g6 := iat2 (l := l) (i := a) (j := pv) (by omega) (by omega) rest
  obtain ⟨l', i', j', y1, y2, y3, p, r1, r2, r3, r4, r5⟩ := pe_loop (n := n) (a := a) (b := b) (x2 := .int .i64 b) (x3 := .int .i64 pv) (x4 := .int .i64 0) hlen hb (by omega) _ (a + 1) (b - 1) (H.set id (so ver rest (swp l a pv))) (swp l a pv) (.tup []) (.tup []) (.tup []) (Nat.le_refl _) (by omega) (by omega) (by omega) (by omega) (by rw [swp_len]; exact hl) (get_same _ _ _)
  rw [set_set] at r5
  refine ⟨l', i', p.trans (swp_perm (by omega) (by omega)), r1, r2, ?_⟩
  rw [R_181]
  simp (disch := omega) only [go_sem, Nat.reduceAdd, Nat.reduceMul, Nat.reduceLeDiff, G_181, hH, g1, g2, get_same, set_set, g5, g6, cast_add1, cast_sub1, r5]
theorem pa_run (hlen : len < 10000) (hb : b ≤ len) {pv : Nat} (h1 : a ≤ pv) (h2 : pv < b) {H : Heap} {l : List Nat} (hl : l.length = len) (hH : H.get id = some (so ver rest l)) :
    ∃ (l' : List Nat) (j' : Nat) (c : Bool), l'.Perm l ∧ a ≤ j' ∧ j' < b ∧ Gf 182 [sv id ver len, .int .i64 a, .int .i64 b, .int .i64 pv] H n = some (.tup [.int .i64 j', .bool c], H.set id (so ver rest l'), n) := by
  have g1 := iat (l := l) (i := a) (by omega) rest
  have g2 := iat (l := l) (i := pv) (by omega) rest
  have g5 := rows_swp (l := l) (i := a) (j := pv) (by omega) (by omega) rest
  have g6 := iat2 (l := l) (i := a) (j := pv) (by omega) (by omega) rest
  have hl1 : (swp l a pv).length = len := by rw [swp_len]; exact hl
  have p1 : (swp l a pv).Perm l := swp_perm (by omega) (by omega)
  obtain ⟨i1, u1, u2, u3⟩ := pa_up1 (n := n) (x2 := .int .i64 b) (x3 := .int .i64 pv) (x4 := .int .i64 0) (x5 := .bool false) (x9 := .tup []) (x10 := .tup []) (x11 := .tup []) (x12 := .tup []) (x13 := .tup []) hlen (a := a) (j := b - 1) (by omega) (by omega) _ (a + 1) (H.set id (so ver rest (swp l a pv))) (swp l a pv) (.tup []) rfl (by omega) hl1 (get_same _ _ _)
  obtain ⟨j1, d1, d2, d3⟩ := pa_down1 (n := n) (x2 := .int .i64 b) (x3 := .int .i64 pv) (x4 := .int .i64 0) (x5 := .bool false) (x8 := .bool false) (x10 := .tup []) (x11 := .tup []) (x12 := .tup []) (x13 := .tup []) hlen (a := a) (i := i1) (by omega) (by omega) _ (b - 1) (H.set id (so ver rest (swp l a pv))) (swp l a pv) (.tup []) rfl (by omega) hl1 (get_same _ _ _)
  generalize hq : swp l a pv = q at *
  by_cases hc : j1 < i1
  · have k1 := iat (l := q) (i := j1) (by omega) rest
    have k2 := iat (l := q) (i := a) (by omega) rest
    have k5 := rows_swp (l := q) (i := j1) (j := a) (by omega) (by omega) rest
    have k6 := iat2 (l := q) (i := j1) (j := a) (by omega) (by omega) rest
    refine ⟨swp q j1 a, j1, true, (swp_perm (by omega) (by omega)).trans p1, by omega, by omega, ?_⟩
    rw [R_182]
    simp (disch := omega) only [go_sem, Nat.reduceAdd, Nat.reduceMul, Nat.reduceLeDiff, G_182, hH, g1, g2, get_same, set_set, g5, g6, cast_add1, cast_sub1, u3, d3, k1, k2, k5, k6]
  · have k1 := iat (l := q) (i := i1) (by omega) rest
    have k2 := iat (l := q) (i := j1) (by omega) rest
    have k5 := rows_swp (l := q) (i := i1) (j := j1) (by omega) (by omega) rest
    have k6 := iat2 (l := q) (i := i1) (j := j1) (by omega) (by omega) rest
    obtain ⟨l', i', j', y1, y2, y3, p, r1, r2, r3, r4, r5⟩ := pa_loop (n := n) (a := a) (b := b) (x2 := .int .i64 b) (x3 := .int .i64 pv) (x4 := .int .i64 0) (x5 := .bool false) (x8 := .bool false) (x9 := .bool false) (x10 := .bool false) hlen hb (by omega) _ (i1 + 1) (j1 - 1) (H.set id (so ver rest (swp q i1 j1))) (swp q i1 j1) (.tup []) (.tup []) (.tup []) (Nat.le_refl _) (by omega) (by omega) (by omega) (by omega) (by rw [swp_len]; exact hl1) (get_same _ _ _)
    rw [set_set] at r5
    have hl2 : l'.length = len := by rw [p.length_eq, swp_len]; exact hl1
    have m1 := iat (l := l') (i := j') (by omega) rest
    have m2 := iat (l := l') (i := a) (by omega) rest
    have m5 := rows_swp (l := l') (i := j') (j := a) (by omega) (by omega) rest
    have m6 := iat2 (l := l') (i := j') (j := a) (by omega) (by omega) rest
    refine ⟨swp l' j' a, j', false, (swp_perm (by omega) (by omega)).trans (p.trans ((swp_perm (by omega) (by omega)).trans p1)), by omega, by omega, ?_⟩
    rw [R_182]
    simp (disch := omega) only [go_sem, Nat.reduceAdd, Nat.reduceMul, Nat.reduceLeDiff, G_182, hH, g1, g2, get_same, set_set, g5, g6, cast_add1, cast_sub1, u3, d3, k1, k2, k5, k6, r5, m1, m2, m5, m6]
end
def hdC : ICode → ICode
  | .seq a _ => a
  | c => c
def tlC : ICode → ICode
  | .seq _ b => b
  | c => c
def bdC : ICode → ICode
  | .block _ c => c
  | c => c
structure Srt (id ver : Nat) (rest : List (List PV)) (n : Nat) (H : Heap) (l : List Nat) (n' : Nat) (H' : Heap) (l' : List Nat) : Prop where
  perm : l'.Perm l
  get : H'.get id = some (so ver rest l')
  same : Same [id] n H H'
  le : n ≤ n'
section
variable {id ver n len : Nat} {rest : List (List PV)} {a b : Nat}
theorem Srt.refl {H : Heap} {l : List Nat} (h : H.get id = some (so ver rest l)) : Srt id ver rest n H l n H l := ⟨.refl _, h, .refl _ _ _, Nat.le_refl _⟩
theorem Srt.trans {H H' H'' : Heap} {l l' l'' : List Nat} {n' n'' : Nat} (h : Srt id ver rest n H l n' H' l') (g : Srt id ver rest n' H' l' n'' H'' l'') : Srt id ver rest n H l n'' H'' l'' :=
  ⟨g.perm.trans h.perm, g.get, h.same.trans g.same h.le, Nat.le_trans h.le g.le⟩
theorem Srt.here {H : Heap} {l l' : List Nat} (p : l'.Perm l) : Srt id ver rest n H l n (H.set id (so ver rest l')) l' :=
  ⟨p, get_same _ _ _, (Same.refl _ _ _).set _ (.inl (by simp)), Nat.le_refl _⟩
theorem Srt.new {H : Heap} {l : List Nat} {o : Obj} (h : H.get id = some (so ver rest l)) (hid : id < n) : Srt id ver rest n H l (n + 1) (H.set n o) l :=
  ⟨.refl _, by rw [get_other _ _ (by omega)]; exact h, (Same.refl _ _ _).set _ (.inr (Nat.le_refl n)), by omega⟩
-- a part that is in order, or nearly
section
variable {x3 x5 x6 x7 x8 x9 x10 x11 x12 x13 x14 x15 x16 x17 : PV}
theorem pi_up (hlen : len < 10000) (hb : b ≤ len) : ∀ (d i : Nat) (H : Heap) (l : List Nat) (x9 : PV), b - i = d → 1 ≤ i → i ≤ b → l.length = len → H.get id = some (so ver rest l) →
    ∃ i' : Nat, i ≤ i' ∧ i' ≤ b ∧ codeL Gf (.loop B_179_2) ⟨[sv id ver len, .int .i64 a, .int .i64 b, x3, .int .i64 i, x5, x6, x7, x8, x9, x10, x11, x12, x13, x14, x15, x16, x17], H, n⟩ =
      some (.exit 2, ⟨[sv id ver len, .int .i64 a, .int .i64 b, x3, .int .i64 i', x5, x6, x7, x8, .bool false, x10, x11, x12, x13, x14, x15, x16, x17], H, n⟩) := by
  intro d
  induction d with
  | zero =>
    intro i H l x9 hd h1 hi hl hH
    refine ⟨i, Nat.le_refl _, hi, codeL_loop_end ?_ (by simp)⟩
    simp (disch := omega) only [go_sem, Nat.reduceAdd, Nat.reduceMul, Nat.reduceLeDiff, B_179_2]
  | succ d ih =>
    intro i H l x9 hd h1 hi hl hH
    have g1 := iat (l := l) (i := i) (by omega) rest
    have g2 := iat (l := l) (i := i - 1) (by omega) rest
    cases hlt : decide (((l.getD i 0 : Nat) : Int) < ((l.getD (i - 1) 0 : Nat) : Int)) with
    | true =>
      refine ⟨i, Nat.le_refl _, hi, codeL_loop_end ?_ (by simp)⟩
      simp (disch := omega) only [go_sem, Nat.reduceAdd, Nat.reduceMul, Nat.reduceLeDiff, B_179_2, hH, g1, g2, cast_sub1, less_run, hlt]
    | false =>
      obtain ⟨i', r1, r2, r3⟩ := ih (i + 1) H l (.bool true) (by omega) (by omega) (by omega) hl hH
      refine ⟨i', by omega, r2, ?_⟩
      rw [← r3]
      refine codeL_loop_iff ?_
      simp (disch := omega) only [go_sem, Nat.reduceAdd, Nat.reduceMul, Nat.reduceLeDiff, B_179_2, hH, g1, g2, cast_sub1, cast_add1, less_run, hlt]
theorem pi_left (hlen : len < 10000) {x4 : PV} : ∀ (j : Nat) (H : Heap) (l : List Nat) (x13 x14 : PV), j < len → l.length = len → H.get id = some (so ver rest l) →
    ∃ (l' : List Nat) (y6 y13 y14 : PV), l'.Perm l ∧ codeL Gf (.loop B_179_1) ⟨[sv id ver len, .int .i64 a, .int .i64 b, x3, x4, x5, .int .i64 j, x7, x8, x9, x10, x11, x12, x13, x14, x15, x16, x17], H, n⟩ =
      some (.exit 4, ⟨[sv id ver len, .int .i64 a, .int .i64 b, x3, x4, x5, y6, x7, x8, x9, x10, x11, x12, y13, y14, x15, x16, x17], H.set id (so ver rest l'), n⟩) := by
  intro j
  induction j with
  | zero =>
    intro H l x13 x14 hj hl hH
    refine ⟨l, .int .i64 (0 : Nat), .bool false, x14, .refl _, codeL_loop_end ?_ (by simp)⟩
    rw [set_self hH]
    simp (disch := omega) only [go_sem, B_179_1]
  | succ j ih =>
    intro H l x13 x14 hj hl hH
    have e0 : ((j + 1 : Nat) : Int) - 1 = (j : Int) := by omega
    have g1 := iat (l := l) (i := j + 1) (by omega) rest
    have g2 := iat (l := l) (i := j) (by omega) rest
    have g5 := rows_swp (l := l) (i := j + 1) (j := j) (by omega) (by omega) rest
    have g6 := iat2 (l := l) (i := j + 1) (j := j) (by omega) (by omega) rest
    cases hlt : decide (((l.getD (j + 1) 0 : Nat) : Int) < ((l.getD j 0 : Nat) : Int)) with
    | false =>
      refine ⟨l, .int .i64 (j + 1 : Nat), .bool true, .bool true, .refl _, codeL_loop_end ?_ (by simp)⟩
      rw [set_self hH]
      simp (disch := omega) only [go_sem, Nat.reduceAdd, Nat.reduceMul, Nat.reduceLeDiff, B_179_1, contB_54, hH, e0, g1, g2, less_run, hlt]
    | true =>
      obtain ⟨l', y6, y13, y14, p, r⟩ := ih (H.set id (so ver rest (swp l (j + 1) j))) (swp l (j + 1) j) (.bool true) (.bool false) (by omega) (by rw [swp_len]; exact hl) (get_same _ _ _)
      refine ⟨l', y6, y13, y14, p.trans (swp_perm (by omega) (by omega)), ?_⟩
      rw [set_set] at r
      rw [← r]
      refine codeL_loop_iff ?_
      simp (disch := omega) only [go_sem, Nat.reduceAdd, Nat.reduceMul, Nat.reduceLeDiff, B_179_1, hH, e0, g1, g2, less_run, hlt, get_same, set_set, g5, g6]
theorem pi_right (hlen : len < 10000) (hb : b ≤ len) {x4 : PV} : ∀ (d j : Nat) (H : Heap) (l : List Nat) (x16 x17 : PV), b - j = d → 1 ≤ j → j < 10000 → l.length = len → H.get id = some (so ver rest l) →
    ∃ (l' : List Nat) (y7 y16 y17 : PV), l'.Perm l ∧ codeL Gf (.loop B_179_0) ⟨[sv id ver len, .int .i64 a, .int .i64 b, x3, x4, x5, x6, .int .i64 j, x8, x9, x10, x11, x12, x13, x14, x15, x16, x17], H, n⟩ =
      some (.exit 6, ⟨[sv id ver len, .int .i64 a, .int .i64 b, x3, x4, x5, x6, y7, x8, x9, x10, x11, x12, x13, x14, x15, y16, y17], H.set id (so ver rest l'), n⟩) := by
  intro d
  induction d with
  | zero =>
    intro j H l x16 x17 hd h1 hj hl hH
    refine ⟨l, .int .i64 j, .bool false, x17, .refl _, codeL_loop_end ?_ (by simp)⟩
    rw [set_self hH]
    simp (disch := omega) only [go_sem, B_179_0]
  | succ d ih =>
    intro j H l x16 x17 hd h1 hj hl hH
    have g1 := iat (l := l) (i := j) (by omega) rest
    have g2 := iat (l := l) (i := j - 1) (by omega) rest
    have g5 := rows_swp (l := l) (i := j) (j := j - 1) (by omega) (by omega) rest
    have g6 := iat2 (l := l) (i := j) (j := j - 1) (by omega) (by omega) rest
    cases hlt : decide (((l.getD j 0 : Nat) : Int) < ((l.getD (j - 1) 0 : Nat) : Int)) with
    | false =>
      refine ⟨l, .int .i64 j, .bool true, .bool true, .refl _, codeL_loop_end ?_ (by simp)⟩
      rw [set_self hH]
      simp (disch := omega) only [go_sem, Nat.reduceAdd, Nat.reduceMul, Nat.reduceLeDiff, B_179_0, contB_76, hH, cast_sub1, g1, g2, less_run, hlt]
    | true =>
      obtain ⟨l', y7, y16, y17, p, r⟩ := ih (j + 1) (H.set id (so ver rest (swp l j (j - 1)))) (swp l j (j - 1)) (.bool true) (.bool false) (by omega) (by omega) (by omega) (by rw [swp_len]; exact hl) (get_same _ _ _)
      refine ⟨l', y7, y16, y17, p.trans (swp_perm (by omega) (by omega)), ?_⟩
      rw [set_set] at r
      rw [← r]
      refine codeL_loop_iff ?_
      simp (disch := omega) only [go_sem, Nat.reduceAdd, Nat.reduceMul, Nat.reduceLeDiff, B_179_0, hH, cast_sub1, cast_add1, g1, g2, less_run, hlt, get_same, set_set, g5, g6]
theorem pi_loop (hlen : len < 10000) (hb : b ≤ len) (hab : a + 12 < b) : ∀ (d k i : Nat) (H : Heap) (l : List Nat) (x6 x7 x8 x9 x10 x11 x12 x13 x14 x15 x16 x17 : PV), 5 - k = d → k ≤ 5 → a + 1 ≤ i → i ≤ b → l.length = len → H.get id = some (so ver rest l) →
    ∃ (l' : List Nat) (e : Ex) (c : Bool) (T : List PV), (e = .exit 0 ∨ e = .ret) ∧ l'.Perm l ∧
      codeL Gf (.loop B_179_3) ⟨[sv id ver len, .int .i64 a, .int .i64 b, .bool false, .int .i64 i, .int .i64 k, x6, x7, x8, x9, x10, x11, x12, x13, x14, x15, x16, x17], H, n⟩ =
        some (e, ⟨[sv id ver len, .int .i64 a, .int .i64 b, .bool c] ++ T, H.set id (so ver rest l'), n⟩) := by
  intro d
  induction d with
  | zero =>
    intro k i H l x6 x7 x8 x9 x10 x11 x12 x13 x14 x15 x16 x17 hd hk h1 h2 hl hH
    have : k = 5 := by omega
    subst this
    refine ⟨l, .exit 0, false, [.int .i64 i, .int .i64 5, x6, x7, .bool false, x9, x10, x11, x12, x13, x14, x15, x16, x17], .inl rfl, .refl _, codeL_loop_end ?_ (by simp)⟩
    rw [set_self hH]
    simp (disch := omega) only [go_sem, B_179_3]
    rfl
  | succ d ih =>
    intro k i H l x6 x7 x8 x9 x10 x11 x12 x13 x14 x15 x16 x17 hd hk h1 h2 hl hH
    obtain ⟨i1, u1, u2, u3⟩ := pi_up (n := n) (a := a) (x3 := .bool false) (x5 := .int .i64 k) (x6 := x6) (x7 := x7) (x8 := .bool true) (x10 := x10) (x11 := x11) (x12 := x12) (x13 := x13) (x14 := x14) (x15 := x15) (x16 := x16) (x17 := x17) hlen hb _ i H l x9 rfl (by omega) h2 hl hH
    by_cases hib : i1 = b
    · subst hib
      refine ⟨l, .ret, true, [.int .i64 i1, .int .i64 k, x6, x7, .bool true, .bool false, .bool true, x11, x12, x13, x14, x15, x16, x17], .inr rfl, .refl _, codeL_loop_end ?_ (by simp)⟩
      rw [set_self hH]
      simp (disch := omega) only [go_sem, B_179_3, u3]
    · by_cases h50 : b - a < 50
      · refine ⟨l, .ret, false, [.int .i64 i1, .int .i64 k, x6, x7, .bool true, .bool false, .bool false, .bool true, x12, x13, x14, x15, x16, x17], .inr rfl, .refl _, codeL_loop_end ?_ (by simp)⟩
        rw [set_self hH]
        simp (disch := omega) only [go_sem, B_179_3, u3]
      · have g1 := iat (l := l) (i := i1) (by omega) rest
        have g2 := iat (l := l) (i := i1 - 1) (by omega) rest
        have g5 := rows_swp (l := l) (i := i1) (j := i1 - 1) (by omega) (by omega) rest
        have g6 := iat2 (l := l) (i := i1) (j := i1 - 1) (by omega) (by omega) rest
        have p1 : (swp l i1 (i1 - 1)).Perm l := swp_perm (by omega) (by omega)
        have hl1 : (swp l i1 (i1 - 1)).length = len := by rw [swp_len]; exact hl
        generalize hq : swp l i1 (i1 - 1) = q at *
        by_cases c1 : 2 ≤ i1 - a
        · obtain ⟨q1, y6, y13, y14, p2, r2⟩ := pi_left (n := n) (a := a) (b := b) (x3 := .bool false) (x4 := .int .i64 i1) (x5 := .int .i64 k) (x7 := x7) (x8 := .bool true) (x9 := .bool false) (x10 := .bool false) (x11 := .bool false) (x12 := .bool true) (x15 := x15) (x16 := x16) (x17 := x17) hlen (i1 - 1) (H.set id (so ver rest q)) q x13 x14 (by omega) hl1 (get_same _ _ _)
          rw [set_set] at r2
          have hl2 : q1.length = len := p2.length_eq.trans hl1
          by_cases c2 : 2 ≤ b - i1
          · obtain ⟨q2, y7, y16, y17, p3, r3⟩ := pi_right (n := n) (a := a) (b := b) (x3 := .bool false) (x4 := .int .i64 i1) (x5 := .int .i64 k) (x6 := y6) (x8 := .bool true) (x9 := .bool false) (x10 := .bool false) (x11 := .bool false) (x12 := .bool true) (x13 := y13) (x14 := y14) (x15 := .bool true) hlen hb _ (i1 + 1) (H.set id (so ver rest q1)) q1 x16 x17 rfl (by omega) (by omega) hl2 (get_same _ _ _)
            rw [set_set] at r3
            obtain ⟨l', e, c, T, he, p4, r4⟩ := ih (k + 1) i1 (H.set id (so ver rest q2)) q2 y6 y7 (.bool true) (.bool false) (.bool false) (.bool false) (.bool true) y13 y14 (.bool true) y16 y17 (by omega) (by omega) (by omega) u2 (p3.length_eq.trans hl2) (get_same _ _ _)
            rw [set_set] at r4
            refine ⟨l', e, c, T, he, p4.trans (p3.trans (p2.trans p1)), ?_⟩
            rw [← r4]
            refine codeL_loop_iff ?_
            simp (disch := omega) only [go_sem, Nat.reduceAdd, Nat.reduceMul, Nat.reduceLeDiff, B_179_3, u3, hH, cast_sub1, cast_add1, g1, g2, get_same, set_set, g5, g6, r2, r3]
          · obtain ⟨l', e, c, T, he, p4, r4⟩ := ih (k + 1) i1 (H.set id (so ver rest q1)) q1 y6 x7 (.bool true) (.bool false) (.bool false) (.bool false) (.bool true) y13 y14 (.bool false) x16 x17 (by omega) (by omega) (by omega) u2 hl2 (get_same _ _ _)
            rw [set_set] at r4
            refine ⟨l', e, c, T, he, p4.trans (p2.trans p1), ?_⟩
            rw [← r4]
            refine codeL_loop_iff ?_
            simp (disch := omega) only [go_sem, Nat.reduceAdd, Nat.reduceMul, Nat.reduceLeDiff, B_179_3, u3, hH, cast_sub1, cast_add1, g1, g2, get_same, set_set, g5, g6, r2]
        · obtain ⟨q2, y7, y16, y17, p3, r3⟩ := pi_right (n := n) (a := a) (b := b) (x3 := .bool false) (x4 := .int .i64 i1) (x5 := .int .i64 k) (x6 := x6) (x8 := .bool true) (x9 := .bool false) (x10 := .bool false) (x11 := .bool false) (x12 := .bool false) (x13 := x13) (x14 := x14) (x15 := .bool true) hlen hb _ (i1 + 1) (H.set id (so ver rest q)) q x16 x17 rfl (by omega) (by omega) hl1 (get_same _ _ _)
          rw [set_set] at r3
          obtain ⟨l', e, c, T, he, p4, r4⟩ := ih (k + 1) i1 (H.set id (so ver rest q2)) q2 x6 y7 (.bool true) (.bool false) (.bool false) (.bool false) (.bool false) x13 x14 (.bool true) y16 y17 (by omega) (by omega) (by omega) u2 (p3.length_eq.trans hl1) (get_same _ _ _)
          rw [set_set] at r4
          refine ⟨l', e, c, T, he, p4.trans (p3.trans p1), ?_⟩
          rw [← r4]
          refine codeL_loop_iff ?_
          simp (disch := omega) only [go_sem, Nat.reduceAdd, Nat.reduceMul, Nat.reduceLeDiff, B_179_3, u3, hH, cast_sub1, cast_add1, g1, g2, get_same, set_set, g5, g6, r3]
theorem pi_run (hlen : len < 10000) (hb : b ≤ len) (hab : a + 12 < b) {H : Heap} {l : List Nat} (hl : l.length = len) (hH : H.get id = some (so ver rest l)) :
    ∃ (l' : List Nat) (c : Bool), l'.Perm l ∧ Gf 179 [sv id ver len, .int .i64 a, .int .i64 b] H n = some (.bool c, H.set id (so ver rest l'), n) := by
  obtain ⟨l', e, c, T, he, p, r⟩ := pi_loop (n := n) hlen hb hab 5 0 (a + 1) H l (.tup []) (.tup []) (.tup []) (.tup []) (.tup []) (.tup []) (.tup []) (.tup []) (.tup []) (.tup []) (.tup []) (.tup []) rfl (by omega) (by omega) (by omega) hl hH
  rw [show ((0 : Nat) : Int) = 0 from rfl] at r
  rcases he with rfl | rfl
  · refine ⟨l', false, p, ?_⟩
    rw [R_179]
    simp (disch := omega) only [go_sem, G_179, cast_add1, r]
  · refine ⟨l', c, p, ?_⟩
    rw [R_179]
    simp (disch := omega) only [go_sem, G_179, cast_add1, r]
end
end
def Q0 : ICode := hdC (bdC B_125_0)
def U1 : ICode := tlC (bdC B_125_0)
def Q1 : ICode := hdC U1
def U2 : ICode := tlC U1
def Q2 : ICode := hdC U2
def U3 : ICode := tlC U2
def Q3 : ICode := hdC U3
def U4 : ICode := tlC U3
def Q4 : ICode := hdC U4
def U5 : ICode := tlC U4
def Q5 : ICode := hdC U5
def U6 : ICode := tlC U5
def Q6 : ICode := hdC U6
def U7 : ICode := tlC U6
def Q7 : ICode := hdC U7
def U8 : ICode := tlC U7
def Q8 : ICode := hdC U8
def U9 : ICode := tlC U8
def Q9 : ICode := hdC U9
def U10 : ICode := tlC U9
def Q10 : ICode := hdC U10
def U11 : ICode := tlC U10
def Q11 : ICode := hdC U11
def U12 : ICode := tlC U11
def Q12 : ICode := hdC U12
def Q13 : ICode := tlC U12
theorem pdq_body : B_125_0 = .block 1 (.seq Q0 (.seq Q1 (.seq Q2 (.seq Q3 (.seq Q4 (.seq Q5 (.seq Q6 (.seq Q7 (.seq Q8 (.seq Q9 (.seq Q10 (.seq Q11 (.seq Q12 Q13))))))))))))) := rfl
section
variable {id ver n len : Nat} {rest : List (List PV)} {a b : Nat}
theorem q0 (hb : b < 10000) (hab : a ≤ b) {x3 x4 x5 x6 x7 x8 x9 x10 x11 x12 x13 x14 x15 x16 x17 x18 x19 x20 x21 x22 : PV} {H : Heap} : codeL Gf Q0 ⟨[sv id ver len, .int .i64 a, .int .i64 b, x3, x4, x5, x6, x7, x8, x9, x10, x11, x12, x13, x14, x15, x16, x17, x18, x19, x20, x21, x22], H, n⟩ = some (.normal, ⟨[sv id ver len, .int .i64 a, .int .i64 b, x3, x4, x5, .int .i64 (b - a : Nat), x7, x8, x9, x10, x11, x12, x13, x14, x15, x16, x17, x18, x19, x20, x21, x22], H, n⟩) := by
  have e0 : (b : Int) - (a : Int) = ((b - a : Nat) : Int) := by omega
  simp (disch := omega) only [go_sem, Q0, hdC, bdC, B_125_0, e0]
theorem q1_ret (hlen : len < 10000) (hb : b ≤ len) (hab : a ≤ b) (hs : b - a ≤ 12) {x3 x4 x5 x7 x8 x9 x10 x11 x12 x13 x14 x15 x16 x17 x18 x19 x20 x21 x22 : PV} {H : Heap} {l : List Nat} (hl : l.length = len) (hH : H.get id = some (so ver rest l)) :
    ∃ (l' : List Nat) (T : List PV), l'.Perm l ∧ codeL Gf Q1 ⟨[sv id ver len, .int .i64 a, .int .i64 b, x3, x4, x5, .int .i64 (b - a : Nat), x7, x8, x9, x10, x11, x12, x13, x14, x15, x16, x17, x18, x19, x20, x21, x22], H, n⟩ = some (.ret, ⟨T, H.set id (so ver rest l'), n⟩) := by
  obtain ⟨l', p, e⟩ := ins_run (n := n) (by omega) hb hl hH hab
  refine ⟨l', [sv id ver len, .int .i64 a, .int .i64 b, x3, x4, x5, .int .i64 (b - a : Nat), x7, x8, x9, x10, x11, x12, x13, x14, .bool true, x16, x17, x18, x19, x20, x21, x22], p, ?_⟩
  simp (disch := omega) only [go_sem, Q1, hdC, tlC, bdC, B_125_0, U1, e]
theorem q1_go (hlen : len < 10000) (hb : b ≤ len) (hs : ¬ b - a ≤ 12) {x3 x4 x5 x7 x8 x9 x10 x11 x12 x13 x14 x15 x16 x17 x18 x19 x20 x21 x22 : PV} {H : Heap} :
    codeL Gf Q1 ⟨[sv id ver len, .int .i64 a, .int .i64 b, x3, x4, x5, .int .i64 (b - a : Nat), x7, x8, x9, x10, x11, x12, x13, x14, x15, x16, x17, x18, x19, x20, x21, x22], H, n⟩ = some (.normal, ⟨[sv id ver len, .int .i64 a, .int .i64 b, x3, x4, x5, .int .i64 (b - a : Nat), x7, x8, x9, x10, x11, x12, x13, x14, .bool false, x16, x17, x18, x19, x20, x21, x22], H, n⟩) := by
  simp (disch := omega) only [go_sem, Q1, hdC, tlC, bdC, B_125_0, U1]
theorem q2_ret (hlen : len < 10000) (hb : b ≤ len) (hab : a < b) {x4 x5 x6 x7 x8 x9 x10 x11 x12 x13 x14 x15 x16 x17 x18 x19 x20 x21 x22 : PV} {H : Heap} {l : List Nat} (hl : l.length = len) (hH : H.get id = some (so ver rest l)) :
    ∃ (l' : List Nat) (T : List PV), l'.Perm l ∧ codeL Gf Q2 ⟨[sv id ver len, .int .i64 a, .int .i64 b, .int .i64 (0 : Nat), x4, x5, x6, x7, x8, x9, x10, x11, x12, x13, x14, x15, x16, x17, x18, x19, x20, x21, x22], H, n⟩ = some (.ret, ⟨T, H.set id (so ver rest l'), n⟩) := by
  obtain ⟨l', p, e⟩ := heap_run (n := n) (by omega) hb hab hl hH
  refine ⟨l', [sv id ver len, .int .i64 a, .int .i64 b, .int .i64 (0 : Nat), x4, x5, x6, x7, x8, x9, x10, x11, x12, x13, x14, x15, .bool true, x17, x18, x19, x20, x21, x22], p, ?_⟩
  simp (disch := omega) only [go_sem, Q2, hdC, tlC, bdC, B_125_0, U1, U2, e]
theorem q2_go {c : Nat} (hc : c ≠ 0) {x4 x5 x6 x7 x8 x9 x10 x11 x12 x13 x14 x15 x16 x17 x18 x19 x20 x21 x22 : PV} {H : Heap} :
    codeL Gf Q2 ⟨[sv id ver len, .int .i64 a, .int .i64 b, .int .i64 c, x4, x5, x6, x7, x8, x9, x10, x11, x12, x13, x14, x15, x16, x17, x18, x19, x20, x21, x22], H, n⟩ = some (.normal, ⟨[sv id ver len, .int .i64 a, .int .i64 b, .int .i64 c, x4, x5, x6, x7, x8, x9, x10, x11, x12, x13, x14, x15, .bool false, x17, x18, x19, x20, x21, x22], H, n⟩) := by
  simp (disch := omega) only [go_sem, Q2, hdC, tlC, bdC, B_125_0, U1, U2]
theorem q3 (hlen : len < 10000) (hb : b ≤ len) (hab : a + 12 < b) (hid : id < n) {c : Nat} {w : Bool} (hc : c ≠ 0) (hc2 : c < 10000) {x5 x6 x7 x8 x9 x10 x11 x12 x13 x14 x15 x16 x17 x18 x19 x20 x21 x22 : PV} {H : Heap} {l : List Nat} (hl : l.length = len) (hH : H.get id = some (so ver rest l)) :
    ∃ (c' n' : Nat) (y17 : PV) (H' : Heap) (l' : List Nat), c' ≤ c ∧ codeL Gf Q3 ⟨[sv id ver len, .int .i64 a, .int .i64 b, .int .i64 c, .bool w, x5, x6, x7, x8, x9, x10, x11, x12, x13, x14, x15, x16, x17, x18, x19, x20, x21, x22], H, n⟩ = some (.normal, ⟨[sv id ver len, .int .i64 a, .int .i64 b, (.int .i64 c'), .bool w, x5, x6, x7, x8, x9, x10, x11, x12, x13, x14, x15, x16, y17, x18, x19, x20, x21, x22], H', n'⟩) ∧ Srt id ver rest n H l n' H' l' := by
  cases w with
  | true =>
    refine ⟨c, n, .bool false, H, l, Nat.le_refl _, ?_, .refl hH⟩
    simp (disch := omega) only [go_sem, Q3, hdC, tlC, bdC, B_125_0, U1, U2, U3]
  | false =>
    obtain ⟨l', H', p, e, g1, g2⟩ := brk_run hlen hb hab hl hH hid
    refine ⟨c - 1, n + 1, .bool true, H', l', by omega, ?_, ⟨p, g1, g2, by omega⟩⟩
    simp (disch := omega) only [go_sem, Q3, hdC, tlC, bdC, B_125_0, U1, U2, U3, e, cast_sub1]
theorem q4 (hlen : len < 10000) (hb : b ≤ len) (hab : a + 12 < b) (hid : id < n) {x3 x4 x5 x6 x7 x8 x9 x10 x11 x12 x13 x14 x15 x16 x17 x18 x19 x20 x21 x22 : PV} {H : Heap} {l : List Nat} (hl : l.length = len) (hH : H.get id = some (so ver rest l)) :
    ∃ (m h : Nat) (H' : Heap), a ≤ m ∧ m < b ∧ h ≤ 2 ∧ codeL Gf Q4 ⟨[sv id ver len, .int .i64 a, .int .i64 b, x3, x4, x5, x6, x7, x8, x9, x10, x11, x12, x13, x14, x15, x16, x17, x18, x19, x20, x21, x22], H, n⟩ = some (.normal, ⟨[sv id ver len, .int .i64 a, .int .i64 b, x3, x4, x5, x6, .int .i64 m, .int .i64 h, x9, x10, x11, x12, x13, x14, x15, x16, x17, x18, x19, x20, x21, x22], H', n + 1⟩) ∧ Srt id ver rest n H l (n + 1) H' l := by
  obtain ⟨m, h, s, h1, h2, h3, e⟩ := piv_run (n := n) (by omega) hb hab hl hH hid
  refine ⟨m, h, H.set n (.arr 0 1 [[.int .i64 s]]), h1, h2, h3, ?_, .new hH hid⟩
  simp (disch := omega) only [go_sem, Q4, hdC, tlC, bdC, B_125_0, U1, U2, U3, U4, e]
theorem q5 (hlen : len < 10000) (hb : b ≤ len) (hab : a ≤ b) {m h : Nat} (h1 : a ≤ m) (h2 : m < b) (h3 : h ≤ 2) {x3 x4 x5 x6 x9 x10 x11 x12 x13 x14 x15 x16 x17 x18 x19 x20 x21 x22 : PV} {H : Heap} {l : List Nat} (hl : l.length = len) (hH : H.get id = some (so ver rest l)) :
    ∃ (m' h' : Nat) (y18 : PV) (H' : Heap) (l' : List Nat), a ≤ m' ∧ m' < b ∧ h' ≤ 1 ∧ codeL Gf Q5 ⟨[sv id ver len, .int .i64 a, .int .i64 b, x3, x4, x5, x6, .int .i64 m, .int .i64 h, x9, x10, x11, x12, x13, x14, x15, x16, x17, x18, x19, x20, x21, x22], H, n⟩ = some (.normal, ⟨[sv id ver len, .int .i64 a, .int .i64 b, x3, x4, x5, x6, .int .i64 m', .int .i64 h', x9, x10, x11, x12, x13, x14, x15, x16, x17, y18, x19, x20, x21, x22], H', n⟩) ∧ Srt id ver rest n H l n H' l' := by
  by_cases hh : h = 2
  · subst hh
    obtain ⟨l', p, e⟩ := rev_run (n := n) (by omega) hb hab hl hH
    have e1 : (b : Int) - 1 - ((m : Int) - (a : Int)) = ((b - 1 - (m - a) : Nat) : Int) := by omega
    refine ⟨b - 1 - (m - a), 1, .bool true, _, l', by omega, by omega, by omega, ?_, .here p⟩
    simp (disch := omega) only [go_sem, Q5, hdC, tlC, bdC, B_125_0, U1, U2, U3, U4, U5, e, e1]
    rfl
  · refine ⟨m, h, .bool false, H, l, h1, h2, by omega, ?_, .refl hH⟩
    simp (disch := omega) only [go_sem, Q5, hdC, tlC, bdC, B_125_0, U1, U2, U3, U4, U5]
theorem q6 (hlen : len < 10000) (hb : b ≤ len) (hab : a + 12 < b) {h : Nat} {w v : Bool} (h3 : h ≤ 1) {x3 x6 x7 x9 x10 x11 x12 x13 x14 x15 x16 x17 x18 x19 x20 x21 x22 : PV} {H : Heap} {l : List Nat} (hl : l.length = len) (hH : H.get id = some (so ver rest l)) :
    ∃ (H' : Heap) (l' : List Nat), Srt id ver rest n H l n H' l' ∧ ((∃ y19 y20 : PV, codeL Gf Q6 ⟨[sv id ver len, .int .i64 a, .int .i64 b, x3, .bool w, .bool v, x6, x7, .int .i64 h, x9, x10, x11, x12, x13, x14, x15, x16, x17, x18, x19, x20, x21, x22], H, n⟩ = some (.normal, ⟨[sv id ver len, .int .i64 a, .int .i64 b, x3, .bool w, .bool v, x6, x7, .int .i64 h, x9, x10, x11, x12, x13, x14, x15, x16, x17, x18, y19, y20, x21, x22], H', n⟩)) ∨
      ∃ T : List PV, codeL Gf Q6 ⟨[sv id ver len, .int .i64 a, .int .i64 b, x3, .bool w, .bool v, x6, x7, .int .i64 h, x9, x10, x11, x12, x13, x14, x15, x16, x17, x18, x19, x20, x21, x22], H, n⟩ = some (.ret, ⟨T, H', n⟩)) := by
  obtain ⟨l', c, p, e⟩ := pi_run (n := n) hlen hb hab hl hH
  cases w with
  | false =>
    refine ⟨H, l, .refl hH, .inl ⟨.bool false, x20, ?_⟩⟩
    simp (disch := omega) only [go_sem, Q6, hdC, tlC, bdC, B_125_0, U1, U2, U3, U4, U5, U6]
  | true =>
    cases v with
    | false =>
      refine ⟨H, l, .refl hH, .inl ⟨.bool false, x20, ?_⟩⟩
      simp (disch := omega) only [go_sem, Q6, hdC, tlC, bdC, B_125_0, U1, U2, U3, U4, U5, U6]
    | true =>
      by_cases hh : h = 1
      · subst hh
        cases c with
        | true =>
          refine ⟨_, l', .here p, .inr ⟨[sv id ver len, .int .i64 a, .int .i64 b, x3, .bool true, .bool true, x6, x7, .int .i64 (1 : Nat), x9, x10, x11, x12, x13, x14, x15, x16, x17, x18, .bool true, .bool true, x21, x22], ?_⟩⟩
          simp (disch := omega) only [go_sem, Q6, hdC, tlC, bdC, B_125_0, U1, U2, U3, U4, U5, U6, e]
        | false =>
          refine ⟨_, l', .here p, .inl ⟨.bool true, .bool false, ?_⟩⟩
          simp (disch := omega) only [go_sem, Q6, hdC, tlC, bdC, B_125_0, U1, U2, U3, U4, U5, U6, e]
      · refine ⟨H, l, .refl hH, .inl ⟨.bool false, x20, ?_⟩⟩
        simp (disch := omega) only [go_sem, Q6, hdC, tlC, bdC, B_125_0, U1, U2, U3, U4, U5, U6]
theorem q7 (hlen : len < 10000) (hb : b ≤ len) {m : Nat} (h1 : a ≤ m) (h2 : m < b) {x3 x4 x5 x6 x8 x9 x10 x11 x12 x13 x14 x15 x16 x17 x18 x19 x20 x21 x22 : PV} {H : Heap} {l : List Nat} (hl : l.length = len) (hH : H.get id = some (so ver rest l)) :
    (∃ y21 : PV, codeL Gf Q7 ⟨[sv id ver len, .int .i64 a, .int .i64 b, x3, x4, x5, x6, .int .i64 m, x8, x9, x10, x11, x12, x13, x14, x15, x16, x17, x18, x19, x20, x21, x22], H, n⟩ = some (.normal, ⟨[sv id ver len, .int .i64 a, .int .i64 b, x3, x4, x5, x6, .int .i64 m, x8, x9, x10, x11, x12, x13, x14, x15, x16, x17, x18, x19, x20, y21, x22], H, n⟩)) ∨
      ∃ (a' : Nat) (H' : Heap) (l' : List Nat), a + 1 ≤ a' ∧ a' ≤ b ∧ Srt id ver rest n H l n H' l' ∧ codeL Gf Q7 ⟨[sv id ver len, .int .i64 a, .int .i64 b, x3, x4, x5, x6, .int .i64 m, x8, x9, x10, x11, x12, x13, x14, x15, x16, x17, x18, x19, x20, x21, x22], H, n⟩ = some (.exit 1, ⟨[sv id ver len, .int .i64 a', .int .i64 b, x3, x4, x5, x6, .int .i64 m, x8, .int .i64 a', x10, x11, x12, x13, x14, x15, x16, x17, x18, x19, x20, .bool true, x22], H', n⟩) := by
  by_cases ha : a = 0
  · subst ha
    refine .inl ⟨.bool false, ?_⟩
    simp (disch := omega) only [go_sem, Nat.reduceAdd, Nat.reduceMul, Nat.reduceLeDiff, Q7, hdC, tlC, bdC, B_125_0, U1, U2, U3, U4, U5, U6, U7]
  · have g1 := iat (l := l) (i := a - 1) (by omega) rest
    have g2 := iat (l := l) (i := m) (by omega) rest
    cases hlt : decide (((l.getD (a - 1) 0 : Nat) : Int) < ((l.getD m 0 : Nat) : Int)) with
    | true =>
      refine .inl ⟨.bool false, ?_⟩
      simp (disch := omega) only [go_sem, Nat.reduceAdd, Nat.reduceMul, Nat.reduceLeDiff, Q7, hdC, tlC, bdC, B_125_0, U1, U2, U3, U4, U5, U6, U7, cast_sub1, hH, g1, g2, less_run, hlt]
    | false =>
      obtain ⟨l', i', p, r1, r2, e⟩ := pe_run (n := n) hlen hb h1 h2 hl hH
      refine .inr ⟨i', _, l', r1, r2, .here p, ?_⟩
      simp (disch := omega) only [go_sem, Nat.reduceAdd, Nat.reduceMul, Nat.reduceLeDiff, Q7, hdC, tlC, bdC, B_125_0, U1, U2, U3, U4, U5, U6, U7, cast_sub1, hH, g1, g2, less_run, hlt, e]
theorem q8 (hlen : len < 10000) (hb : b ≤ len) {m : Nat} (h1 : a ≤ m) (h2 : m < b) {x3 x4 x5 x6 x8 x9 x10 x11 x12 x13 x14 x15 x16 x17 x18 x19 x20 x21 x22 : PV} {H : Heap} {l : List Nat} (hl : l.length = len) (hH : H.get id = some (so ver rest l)) :
    ∃ (j : Nat) (c : Bool) (H' : Heap) (l' : List Nat), a ≤ j ∧ j < b ∧ Srt id ver rest n H l n H' l' ∧ codeL Gf Q8 ⟨[sv id ver len, .int .i64 a, .int .i64 b, x3, x4, x5, x6, .int .i64 m, x8, x9, x10, x11, x12, x13, x14, x15, x16, x17, x18, x19, x20, x21, x22], H, n⟩ = some (.normal, ⟨[sv id ver len, .int .i64 a, .int .i64 b, x3, x4, x5, x6, .int .i64 m, x8, x9, .int .i64 j, .bool c, x12, x13, x14, x15, x16, x17, x18, x19, x20, x21, x22], H', n⟩) := by
  obtain ⟨l', j, c, p, r1, r2, e⟩ := pa_run (n := n) hlen hb h1 h2 hl hH
  refine ⟨j, c, _, l', r1, r2, .here p, ?_⟩
  simp (disch := omega) only [go_sem, Q8, hdC, tlC, bdC, B_125_0, U1, U2, U3, U4, U5, U6, U7, U8, e]
theorem q9 {c : Bool} {x3 x4 x5 x6 x7 x8 x9 x10 x12 x13 x14 x15 x16 x17 x18 x19 x20 x21 x22 : PV} {H : Heap} : codeL Gf Q9 ⟨[sv id ver len, .int .i64 a, .int .i64 b, x3, x4, x5, x6, x7, x8, x9, x10, .bool c, x12, x13, x14, x15, x16, x17, x18, x19, x20, x21, x22], H, n⟩ = some (.normal, ⟨[sv id ver len, .int .i64 a, .int .i64 b, x3, x4, .bool c, x6, x7, x8, x9, x10, .bool c, x12, x13, x14, x15, x16, x17, x18, x19, x20, x21, x22], H, n⟩) := by
  simp (disch := omega) only [go_sem, Q9, hdC, tlC, bdC, B_125_0, U1, U2, U3, U4, U5, U6, U7, U8, U9]
theorem q10 (hb : b < 10000) {j : Nat} (h1 : a ≤ j) (h2 : j < b) {x3 x4 x5 x6 x7 x8 x9 x11 x12 x13 x14 x15 x16 x17 x18 x19 x20 x21 x22 : PV} {H : Heap} : codeL Gf Q10 ⟨[sv id ver len, .int .i64 a, .int .i64 b, x3, x4, x5, x6, x7, x8, x9, .int .i64 j, x11, x12, x13, x14, x15, x16, x17, x18, x19, x20, x21, x22], H, n⟩ = some (.normal, ⟨[sv id ver len, .int .i64 a, .int .i64 b, x3, x4, x5, x6, x7, x8, x9, .int .i64 j, x11, .int .i64 (j - a : Nat), .int .i64 (b - j : Nat), x14, x15, x16, x17, x18, x19, x20, x21, x22], H, n⟩) := by
  have e0 : (j : Int) - (a : Int) = ((j - a : Nat) : Int) := by omega
  have e1 : (b : Int) - (j : Int) = ((b - j : Nat) : Int) := by omega
  simp (disch := omega) only [go_sem, Q10, hdC, tlC, bdC, B_125_0, U1, U2, U3, U4, U5, U6, U7, U8, U9, U10, e0, e1]
theorem q11 (hb : b < 10000) {x3 x4 x5 x7 x8 x9 x10 x11 x12 x13 x14 x15 x16 x17 x18 x19 x20 x21 x22 : PV} {H : Heap} : codeL Gf Q11 ⟨[sv id ver len, .int .i64 a, .int .i64 b, x3, x4, x5, .int .i64 (b - a : Nat), x7, x8, x9, x10, x11, x12, x13, x14, x15, x16, x17, x18, x19, x20, x21, x22], H, n⟩ = some (.normal, ⟨[sv id ver len, .int .i64 a, .int .i64 b, x3, x4, x5, .int .i64 (b - a : Nat), x7, x8, x9, x10, x11, x12, x13, .int .i64 ((b - a) / 8 : Nat), x15, x16, x17, x18, x19, x20, x21, x22], H, n⟩) := by
  have e1 : (((b - a : Nat) : Int)).tdiv 8 = (((b - a) / 8 : Nat) : Int) := rfl
  simp (disch := omega) only [go_sem, Q11, hdC, tlC, bdC, B_125_0, U1, U2, U3, U4, U5, U6, U7, U8, U9, U10, U11, e1]
theorem q12 {p q : Nat} {x3 x4 x5 x6 x7 x8 x9 x10 x11 x14 x15 x16 x17 x18 x19 x20 x21 x22 : PV} {H : Heap} : codeL Gf Q12 ⟨[sv id ver len, .int .i64 a, .int .i64 b, x3, x4, x5, x6, x7, x8, x9, x10, x11, .int .i64 p, .int .i64 q, x14, x15, x16, x17, x18, x19, x20, x21, x22], H, n⟩ = some (.normal, ⟨[sv id ver len, .int .i64 a, .int .i64 b, x3, x4, x5, x6, x7, x8, x9, x10, x11, .int .i64 p, .int .i64 q, x14, x15, x16, x17, x18, x19, x20, x21, .bool (decide ((p : Int) < q))], H, n⟩) := by
  simp (disch := omega) only [go_sem, Q12, hdC, tlC, bdC, B_125_0, U1, U2, U3, U4, U5, U6, U7, U8, U9, U10, U11, U12]
theorem q13_left {n' j c p r : Nat} (hj : j < 10000) {x4 x5 x6 x7 x8 x9 x11 x13 x15 x16 x17 x18 x19 x20 x21 : PV} {H H' : Heap} (e : Gf 125 [sv id ver len, .int .i64 a, .int .i64 j, .int .i64 c] H n = some (.tup [], H', n')) :
    codeL Gf Q13 ⟨[sv id ver len, .int .i64 a, .int .i64 b, .int .i64 c, x4, x5, x6, x7, x8, x9, .int .i64 j, x11, .int .i64 p, x13, .int .i64 r, x15, x16, x17, x18, x19, x20, x21, .bool true], H, n⟩ = some (.normal, ⟨[sv id ver len, .int .i64 (j + 1 : Nat), .int .i64 b, .int .i64 c, .bool (decide ((p : Int) ≥ r)), x5, x6, x7, x8, x9, .int .i64 j, x11, .int .i64 p, x13, .int .i64 r, x15, x16, x17, x18, x19, x20, x21, .bool true], H', n'⟩) := by
  simp (disch := omega) only [go_sem, Q13, tlC, bdC, B_125_0, U1, U2, U3, U4, U5, U6, U7, U8, U9, U10, U11, U12, e, cast_add1]
theorem q13_right {n' j c p r : Nat} (hj : j < 10000) {x4 x5 x6 x7 x8 x9 x11 x12 x15 x16 x17 x18 x19 x20 x21 : PV} {H H' : Heap} (e : Gf 125 [sv id ver len, .int .i64 (j + 1 : Nat), .int .i64 b, .int .i64 c] H n = some (.tup [], H', n')) :
    codeL Gf Q13 ⟨[sv id ver len, .int .i64 a, .int .i64 b, .int .i64 c, x4, x5, x6, x7, x8, x9, .int .i64 j, x11, x12, .int .i64 p, .int .i64 r, x15, x16, x17, x18, x19, x20, x21, .bool false], H, n⟩ = some (.normal, ⟨[sv id ver len, .int .i64 a, .int .i64 j, .int .i64 c, .bool (decide ((p : Int) ≥ r)), x5, x6, x7, x8, x9, .int .i64 j, x11, x12, .int .i64 p, .int .i64 r, x15, x16, x17, x18, x19, x20, x21, .bool false], H', n'⟩) := by
  simp (disch := omega) only [go_sem, Q13, tlC, bdC, B_125_0, U1, U2, U3, U4, U5, U6, U7, U8, U9, U10, U11, U12, e, cast_add1]
theorem pdq_loop (hlen : len < 10000) : ∀ (d a b c n : Nat) (w v : Bool) (H : Heap) (l : List Nat) (x6 x7 x8 x9 x10 x11 x12 x13 x14 x15 x16 x17 x18 x19 x20 x21 x22 : PV), b - a ≤ d → a ≤ b → b ≤ len → c < 10000 → id < n → l.length = len → H.get id = some (so ver rest l) →
    ∃ (n' : Nat) (H' : Heap) (l' : List Nat) (T : List PV), Srt id ver rest n H l n' H' l' ∧ codeL Gf (.loop B_125_0) ⟨[sv id ver len, .int .i64 a, .int .i64 b, .int .i64 c, .bool w, .bool v, x6, x7, x8, x9, x10, x11, x12, x13, x14, x15, x16, x17, x18, x19, x20, x21, x22], H, n⟩ = some (.ret, ⟨T, H', n'⟩) := by
  intro d
  induction d with
  | zero =>
    intro a b c n w v H l x6 x7 x8 x9 x10 x11 x12 x13 x14 x15 x16 x17 x18 x19 x20 x21 x22 hd hab hb hc hid hl hH
    obtain ⟨l', T, p, e⟩ := q1_ret (n := n) (x3 := .int .i64 c) (x4 := .bool w) (x5 := .bool v) (x7 := x7) (x8 := x8) (x9 := x9) (x10 := x10) (x11 := x11) (x12 := x12) (x13 := x13) (x14 := x14) (x15 := x15) (x16 := x16) (x17 := x17) (x18 := x18) (x19 := x19) (x20 := x20) (x21 := x21) (x22 := x22) hlen hb hab (by omega) hl hH
    refine ⟨n, _, l', T, .here p, codeL_loop_end ?_ (by simp)⟩
    rw [pdq_body]
    simp (disch := omega) only [go_sem, q0, e]
  | succ d ih =>
    intro a b c n w v H l x6 x7 x8 x9 x10 x11 x12 x13 x14 x15 x16 x17 x18 x19 x20 x21 x22 hd hab hb hc hid hl hH
    by_cases hs : b - a ≤ 12
    · obtain ⟨l', T, p, e⟩ := q1_ret (n := n) (x3 := .int .i64 c) (x4 := .bool w) (x5 := .bool v) (x7 := x7) (x8 := x8) (x9 := x9) (x10 := x10) (x11 := x11) (x12 := x12) (x13 := x13) (x14 := x14) (x15 := x15) (x16 := x16) (x17 := x17) (x18 := x18) (x19 := x19) (x20 := x20) (x21 := x21) (x22 := x22) hlen hb hab hs hl hH
      refine ⟨n, _, l', T, .here p, codeL_loop_end ?_ (by simp)⟩
      rw [pdq_body]
      simp (disch := omega) only [go_sem, q0, e]
    have hab2 : a + 12 < b := by omega
    by_cases hc0 : c = 0
    · subst hc0
      obtain ⟨l', T, p, e⟩ := q2_ret (n := n) (a := a) (x4 := .bool w) (x5 := .bool v) (x6 := .int .i64 (b - a : Nat)) (x15 := .bool false) (x7 := x7) (x8 := x8) (x9 := x9) (x10 := x10) (x11 := x11) (x12 := x12) (x13 := x13) (x14 := x14) (x16 := x16) (x17 := x17) (x18 := x18) (x19 := x19) (x20 := x20) (x21 := x21) (x22 := x22) hlen hb (by omega) hl hH
      refine ⟨n, _, l', T, .here p, codeL_loop_end ?_ (by simp)⟩
      rw [pdq_body]
      simp (disch := omega) only [go_sem, q0, q1_go, e]
    -- calls of the like
    have rec125 : ∀ (a1 b1 c1 n1 : Nat) (H1 : Heap) (l1 : List Nat), b1 - a1 ≤ d → a1 ≤ b1 → b1 ≤ len → c1 < 10000 → id < n1 → l1.length = len → H1.get id = some (so ver rest l1) →
        ∃ (n2 : Nat) (H2 : Heap) (l2 : List Nat), Srt id ver rest n1 H1 l1 n2 H2 l2 ∧ Gf 125 [sv id ver len, .int .i64 a1, .int .i64 b1, .int .i64 c1] H1 n1 = some (.tup [], H2, n2) := by
      intro a1 b1 c1 n1 H1 l1 k1 k2 k3 k4 k5 k6 k7
      obtain ⟨n2, H2, l2, T, r1, r2⟩ := ih a1 b1 c1 n1 true true H1 l1 (.tup []) (.tup []) (.tup []) (.tup []) (.tup []) (.tup []) (.tup []) (.tup []) (.tup []) (.tup []) (.tup []) (.tup []) (.tup []) (.tup []) (.tup []) (.tup []) (.tup []) k1 k2 k3 k4 k5 k6 k7
      refine ⟨n2, H2, l2, r1, ?_⟩
      rw [R_125]
      simp (disch := omega) only [go_sem, G_125, r2]
    obtain ⟨c3, n3, y17, H3, l3, k3, e3, s3⟩ := q3 (n := n) (x5 := .bool v) (x6 := .int .i64 (b - a : Nat)) (x15 := .bool false) (x16 := .bool false) (x7 := x7) (x8 := x8) (x9 := x9) (x10 := x10) (x11 := x11) (x12 := x12) (x13 := x13) (x14 := x14) (x17 := x17) (x18 := x18) (x19 := x19) (x20 := x20) (x21 := x21) (x22 := x22) (w := w) hlen hb hab2 hid hc0 hc hl hH
    have hl3 : l3.length = len := s3.perm.length_eq.trans hl
    have hid3 : id < n3 := by have := s3.le; omega
    obtain ⟨m4, h4, H4, m41, m42, m43, e4, s4⟩ := q4 (n := n3) (x3 := .int .i64 c3) (x4 := .bool w) (x5 := .bool v) (x6 := .int .i64 (b - a : Nat)) (x15 := .bool false) (x16 := .bool false) (x17 := y17) (x7 := x7) (x8 := x8) (x9 := x9) (x10 := x10) (x11 := x11) (x12 := x12) (x13 := x13) (x14 := x14) (x18 := x18) (x19 := x19) (x20 := x20) (x21 := x21) (x22 := x22) hlen hb hab2 hid3 hl3 s3.get
    obtain ⟨m5, h5, y18, H5, l5, m51, m52, m53, e5, s5⟩ := q5 (n := n3 + 1) (x3 := .int .i64 c3) (x4 := .bool w) (x5 := .bool v) (x6 := .int .i64 (b - a : Nat)) (x15 := .bool false) (x16 := .bool false) (x17 := y17) (x9 := x9) (x10 := x10) (x11 := x11) (x12 := x12) (x13 := x13) (x14 := x14) (x18 := x18) (x19 := x19) (x20 := x20) (x21 := x21) (x22 := x22) hlen hb hab m41 m42 m43 hl3 s4.get
    have hl5 : l5.length = len := s5.perm.length_eq.trans hl3
    have s45 := (s3.trans s4).trans s5
    obtain ⟨H6, l6, s6, h6⟩ := q6 (n := n3 + 1) (h := h5) (w := w) (v := v) (x3 := .int .i64 c3) (x6 := .int .i64 (b - a : Nat)) (x7 := .int .i64 m5) (x15 := .bool false) (x16 := .bool false) (x17 := y17) (x18 := y18) (x9 := x9) (x10 := x10) (x11 := x11) (x12 := x12) (x13 := x13) (x14 := x14) (x19 := x19) (x20 := x20) (x21 := x21) (x22 := x22) hlen hb hab2 m53 hl5 s5.get
    have hl6 : l6.length = len := s6.perm.length_eq.trans hl5
    have s46 := s45.trans s6
    rcases h6 with ⟨y19, y20, e6⟩ | ⟨T, e6⟩
    · rcases q7 (n := n3 + 1) (a := a) (b := b) (m := m5) (x3 := .int .i64 c3) (x4 := .bool w) (x5 := .bool v) (x6 := .int .i64 (b - a : Nat)) (x8 := .int .i64 h5) (x15 := .bool false) (x16 := .bool false) (x17 := y17) (x18 := y18) (x19 := y19) (x20 := y20) (x9 := x9) (x10 := x10) (x11 := x11) (x12 := x12) (x13 := x13) (x14 := x14) (x21 := x21) (x22 := x22) hlen hb m51 m52 hl6 s6.get with ⟨y21, e7⟩ | ⟨a7, H7, l7, k71, k72, s7, e7⟩
      · obtain ⟨j, c8, H8, l8, k81, k82, s8, e8⟩ := q8 (n := n3 + 1) (a := a) (b := b) (m := m5) (x3 := .int .i64 c3) (x4 := .bool w) (x5 := .bool v) (x6 := .int .i64 (b - a : Nat)) (x8 := .int .i64 h5) (x15 := .bool false) (x16 := .bool false) (x17 := y17) (x18 := y18) (x19 := y19) (x20 := y20) (x21 := y21) (x9 := x9) (x10 := x10) (x11 := x11) (x12 := x12) (x13 := x13) (x14 := x14) (x22 := x22) hlen hb m51 m52 hl6 s6.get
        have hl8 : l8.length = len := s8.perm.length_eq.trans hl6
        have s48 := s46.trans s8
        by_cases hlr : ((j - a : Nat) : Int) < ((b - j : Nat) : Int)
        · have hlr' := dec_t hlr
          obtain ⟨n9, H9, l9, s9, e9⟩ := rec125 a j c3 (n3 + 1) H8 l8 (by omega) k81 (by omega) (by omega) (by omega) hl8 s8.get
          obtain ⟨n', H', l', T, s10, e10⟩ := ih (j + 1) b c3 n9 (decide (((j - a : Nat) : Int) ≥ ((b - a) / 8 : Nat))) c8 H9 l9 (.int .i64 (b - a : Nat)) (.int .i64 m5) (.int .i64 h5) x9 (.int .i64 j) (.bool c8) (.int .i64 (j - a : Nat)) (.int .i64 (b - j : Nat)) (.int .i64 ((b - a) / 8 : Nat)) (.bool false) (.bool false) y17 y18 y19 y20 y21 (.bool true) (by omega) (by omega) hb (by omega) (by have := s9.le; omega) (s9.perm.length_eq.trans hl8) s9.get
          refine ⟨n', H', l', T, (s48.trans s9).trans s10, ?_⟩
          rw [← e10]
          refine codeL_loop_iff ?_
          rw [pdq_body]
          simp (disch := omega) only [go_sem, q0, q1_go, q2_go, e3, e4, e5, e6, e7, e8, q9, q10, q11, q12, hlr', q13_left (j := j) (by omega) e9]
        · have hlr' := dec_f hlr
          obtain ⟨n9, H9, l9, s9, e9⟩ := rec125 (j + 1) b c3 (n3 + 1) H8 l8 (by omega) (by omega) hb (by omega) (by omega) hl8 s8.get
          obtain ⟨n', H', l', T, s10, e10⟩ := ih a j c3 n9 (decide (((b - j : Nat) : Int) ≥ ((b - a) / 8 : Nat))) c8 H9 l9 (.int .i64 (b - a : Nat)) (.int .i64 m5) (.int .i64 h5) x9 (.int .i64 j) (.bool c8) (.int .i64 (j - a : Nat)) (.int .i64 (b - j : Nat)) (.int .i64 ((b - a) / 8 : Nat)) (.bool false) (.bool false) y17 y18 y19 y20 y21 (.bool false) (by omega) k81 (by omega) (by omega) (by have := s9.le; omega) (s9.perm.length_eq.trans hl8) s9.get
          refine ⟨n', H', l', T, (s48.trans s9).trans s10, ?_⟩
          rw [← e10]
          refine codeL_loop_iff ?_
          rw [pdq_body]
          simp (disch := omega) only [go_sem, q0, q1_go, q2_go, e3, e4, e5, e6, e7, e8, q9, q10, q11, q12, hlr', q13_right (j := j) (by omega) e9]
      · have hl7 : l7.length = len := s7.perm.length_eq.trans hl6
        obtain ⟨n', H', l', T, s10, e10⟩ := ih a7 b c3 (n3 + 1) w v H7 l7 (.int .i64 (b - a : Nat)) (.int .i64 m5) (.int .i64 h5) (.int .i64 a7) x10 x11 x12 x13 x14 (.bool false) (.bool false) y17 y18 y19 y20 (.bool true) x22 (by omega) k72 hb (by omega) (by omega) hl7 s7.get
        refine ⟨n', H', l', T, (s46.trans s7).trans s10, ?_⟩
        rw [← e10]
        refine codeL_loop_iff ?_
        rw [pdq_body]
        simp (disch := omega) only [go_sem, q0, q1_go, q2_go, e3, e4, e5, e6, e7]
    · refine ⟨n3 + 1, H6, l6, T, s46, codeL_loop_end ?_ (by simp)⟩
      rw [pdq_body]
      simp (disch := omega) only [go_sem, q0, q1_go, q2_go, e3, e4, e5, e6]
theorem sort_run (hlen : len < 10000) (hid : id < n) {H : Heap} {l : List Nat} (hl : l.length = len) (hH : H.get id = some (so ver rest l)) :
    ∃ (n' : Nat) (H' : Heap) (l' : List Nat), Srt id ver rest n H l n' H' l' ∧ Gf 67 [sv id ver len] H n = some (.tup [], H', n') := by
  obtain ⟨k, ek, k1, _, _⟩ := blen_run len (by omega)
  obtain ⟨n', H', l', T, s, e⟩ := pdq_loop hlen len 0 len k n true true H l (.tup []) (.tup []) (.tup []) (.tup []) (.tup []) (.tup []) (.tup []) (.tup []) (.tup []) (.tup []) (.tup []) (.tup []) (.tup []) (.tup []) (.tup []) (.tup []) (.tup []) (by omega) (by omega) (Nat.le_refl _) (by omega) hid hl hH
  rw [show ((0 : Nat) : Int) = 0 from rfl] at e
  have e125 : Gf 125 [sv id ver len, .int .i64 0, .int .i64 len, .int .i64 k] H n = some (.tup [], H', n') := by
    rw [R_125]
    simp (disch := omega) only [go_sem, G_125, e]
  refine ⟨n', H', l', s, ?_⟩
  rw [R_67]
  simp (disch := omega) only [go_sem, G_67, wrapu64, ek, e125]
theorem sort_nil {H : Heap} : Gf 67 [.nils] H n = some (.tup [], H, n) := by
  obtain ⟨k, ek, k1, _, _⟩ := blen_run 0 (by omega)
  rw [show ((0 : Nat) : Int) = 0 from rfl] at ek
  have w0 : IntKind.u64.wrap 0 = 0 := rfl
  have e174 : Gf 174 [.nils, .int .i64 0, .int .i64 0] H n = some (.tup [], H, n) := by
    rw [R_174]
    have : codeL Gf (.loop B_174_1) ⟨[.nils, .int .i64 0, .int .i64 0, .int .i64 1, .tup [], .tup [], .tup []], H, n⟩ = some (.exit 0, ⟨[.nils, .int .i64 0, .int .i64 0, .int .i64 1, .tup [], .bool false, .tup []], H, n⟩) := by
      refine codeL_loop_end ?_ (by simp)
      simp (disch := omega) only [go_sem, Int.reduceLT, B_174_1]
    simp (disch := omega) only [go_sem, Int.reduceAdd, G_174, this]
  have e125 : Gf 125 [.nils, .int .i64 0, .int .i64 0, .int .i64 k] H n = some (.tup [], H, n) := by
    rw [R_125]
    have : codeL Gf (.loop B_125_0) ⟨[.nils, .int .i64 0, .int .i64 0, .int .i64 k, .bool true, .bool true, .tup [], .tup [], .tup [], .tup [], .tup [], .tup [], .tup [], .tup [], .tup [], .tup [], .tup [], .tup [], .tup [], .tup [], .tup [], .tup [], .tup []], H, n⟩ =
        some (.ret, ⟨[.nils, .int .i64 0, .int .i64 0, .int .i64 k, .bool true, .bool true, .int .i64 0, .tup [], .tup [], .tup [], .tup [], .tup [], .tup [], .tup [], .tup [], .bool true, .tup [], .tup [], .tup [], .tup [], .tup [], .tup [], .tup []], H, n⟩) := by
      refine codeL_loop_end ?_ (by simp)
      simp (disch := omega) only [go_sem, Int.reduceLE, Int.reduceSub, B_125_0, e174]
    simp (disch := omega) only [go_sem, G_125, this]
  rw [R_67]
  simp (disch := omega) only [go_sem, G_67, w0, ek, e125]
end
theorem sliceV_view {k id ver off len lo hi : Nat} (h1 : lo ≤ hi) (h2 : hi ≤ len) : sliceV k (.view id ver k off len none) lo hi none = some (.view id ver k (off + lo) (hi - lo) none) := by
  simp [sliceV, h1, h2]
def clearO (k : Nat) (zero : List PV) (id ver off len : Nat) (H : Heap) (n : Nat) : Option Obj → Option Res
  | some (.arr ver' k'' xs) => if ver = ver' ∧ k = k'' ∧ off + len ≤ xs.length ∧ zero.length = k then some ⟨.tup [], H.set id (.arr ver k (overwrite xs off (List.replicate len zero))), n, ⟨[], [id], false⟩⟩ else none
  | _ => none
def clearV (k : Nat) (zero : List PV) (H : Heap) (n : Nat) : PV → Option Res
  | .nils => some ⟨.tup [], H, n, .no⟩
  | .view id ver k' off len _ => if k = k' then clearO k zero id ver off len H n (H.get id) else none
  | _ => none
theorem op_clear {cf : CallF} {ρ : Src → PV} {H : Heap} {n : Nat} (k : Nat) (zero : List PV) (x : Src) : evalOp cf (.clear k zero x) ρ H n = clearV k zero H n (ρ x) := by
  simp only [evalOp, clearV]
  cases ρ x <;> try rfl
  rename_i id ver k' off len cap
  by_cases hk : k = k'
  · subst hk
    simp only [if_true]
    cases H.get id with
    | none => rfl
    | some o => cases o <;> simp [clearO]
  · simp only [hk, if_false]
    cases H.get id with
    | none => rfl
    | some o => cases o <;> simp
theorem clearV_view {k id ver off len : Nat} {zero : List PV} {xs : List (List PV)} {H : Heap} {n : Nat} {cap : Option Nat} (hH : H.get id = some (.arr ver k xs)) (h1 : off + len ≤ xs.length) (h2 : zero.length = k) :
    clearV k zero H n (.view id ver k off len cap) = some ⟨.tup [], H.set id (.arr ver k (overwrite xs off (List.replicate len zero))), n, ⟨[], [id], false⟩⟩ := by
  simp [clearV, hH, clearO, h1, h2]
section
variable {id ver n len : Nat} {rest : List (List PV)}
theorem rows_set {l : List Nat} {i v : Nat} (hi : i < l.length) (rest : List (List PV)) : (irows l ++ rest).set i [.int .i64 (v : Int)] = irows (l.set i v) ++ rest := by
  have hi' : i < (irows l).length := by simpa [irows] using hi
  rw [List.set_append_left _ _ hi']
  simp [irows]
theorem comp_in (hlen : len < 10000) {x1 x5 x6 x7 : PV} {l : List Nat} (hl : l.length = len) {i0 : Nat} (h0 : 1 ≤ i0) (h0l : i0 < len) : ∀ (d k i : Nat) (H : Heap) (c : List Nat) (x8 x9 : PV), len - (i0 + k) = d → i0 + k ≤ len → 1 ≤ k → 1 ≤ i → i ≤ i0 + k - 1 → c.length = len → H.get id = some (so ver rest c) →
    (∀ q, i0 + k - 1 ≤ q → c.getD q 0 = l.getD q 0) → (∀ x, x ∈ c.take i ↔ x ∈ l.take (i0 + k)) →
    ∃ (i' : Nat) (c' : List Nat) (y9 : PV), codeL Gf (.loop B_120_0) ⟨[sv id ver len, x1, .int .i64 i, .view id ver 1 i0 (len - i0) none, .int .i64 k, x5, x6, x7, x8, x9], H, n⟩ =
        some (.exit 2, ⟨[sv id ver len, x1, .int .i64 i', .view id ver 1 i0 (len - i0) none, .int .i64 (len - i0 : Nat), x5, x6, x7, .bool false, y9], H.set id (so ver rest c'), n⟩) ∧
      i ≤ i' ∧ i' ≤ len ∧ c'.length = len ∧ (∀ x, x ∈ c'.take i' ↔ x ∈ l) := by
  intro d
  induction d with
  | zero =>
    intro k i H c x8 x9 hd hk k1 i1 ik hc hH hq hx
    have e : k = len - i0 := by omega
    subst e
    refine ⟨i, c, x9, ?_, Nat.le_refl _, by omega, hc, fun x => ?_⟩
    · rw [set_self hH]
      refine codeL_loop_end ?_ (by simp)
      simp (disch := omega) only [go_sem, B_120_0]
    · rw [hx x, List.take_of_length_le (by omega)]
  | succ d ih =>
    intro k i H c x8 x9 hd hk k1 i1 ik hc hH hq hx
    have g1 := iat (l := c) (i := i0 + k) (by omega) rest
    have g2 := iat (l := c) (i := i0 + (k - 1)) (by omega) rest
    have e1 : i0 + k - 1 = i0 + (k - 1) := by omega
    have q1 := hq (i0 + k) (by omega)
    have q2 := hq (i0 + (k - 1)) (by omega)
    have ht : l.take (i0 + (k + 1)) = l.take (i0 + k) ++ [l.getD (i0 + k) 0] := by
      rw [show i0 + (k + 1) = i0 + k + 1 by omega, List.take_add_one]
      have : l[i0 + k]? = some l[i0 + k] := List.getElem?_eq_getElem (by omega)
      simp [List.getD, this]
    cases hne : ((c.getD (i0 + k) 0 : Nat) : Int) != ((c.getD (i0 + (k - 1)) 0 : Nat) : Int) with
    | true =>
      have g3 := rows_set (l := c) (i := i) (v := c.getD (i0 + k) 0) (by omega) rest
      have g4 := iat (l := c) (i := i) (by omega) rest
      obtain ⟨i', c', y9, r1, r2, r3, r4, r5⟩ := ih (k + 1) (i + 1) (H.set id (so ver rest (c.set i (c.getD (i0 + k) 0)))) (c.set i (c.getD (i0 + k) 0)) (.bool true) (.bool true) (by omega) (by omega) (by omega) (by omega) (by omega) (by simpa using hc) (get_same _ _ _)
        (fun q hq' => by
          have : (c.set i (c.getD (i0 + k) 0)).getD q 0 = c.getD q 0 := by simp [List.getD, List.getElem?_set_ne (show i ≠ q by omega)]
          rw [this]; exact hq q (by omega))
        (fun x => by
          have : (c.set i (c.getD (i0 + k) 0)).take (i + 1) = c.take i ++ [c.getD (i0 + k) 0] := by
            rw [List.take_add_one, List.take_set_of_le (Nat.le_refl _)]
            simp [List.getElem?_set_self (show i < c.length by omega)]
          rw [this, ht, List.mem_append, List.mem_append, hx x, q1])
      rw [set_set] at r1
      refine ⟨i', c', y9, ?_, by omega, r3, r4, r5⟩
      rw [← r1]
      refine codeL_loop_iff ?_
      simp (disch := omega) only [go_sem, Nat.reduceAdd, Nat.reduceMul, Nat.reduceLeDiff, B_120_0, hH, cast_sub1, cast_add1, g1, g2, g3, g4, hne]
    | false =>
      have heq : c.getD (i0 + k) 0 = c.getD (i0 + (k - 1)) 0 := by
        have := hne
        simp only [bne_eq_false_iff_eq] at this
        omega
      obtain ⟨i', c', y9, r1, r2, r3, r4, r5⟩ := ih (k + 1) i H c (.bool true) (.bool false) (by omega) (by omega) (by omega) (by omega) (by omega) hc hH (fun q hq' => hq q (by omega))
        (fun x => by
          rw [hx x, ht, List.mem_append]
          refine ⟨.inl, fun h => h.elim (fun h => h) (fun h => ?_)⟩
          rw [List.mem_singleton] at h
          subst h
          rw [← q1, heq, q2]
          have hlt : i0 + (k - 1) < (l.take (i0 + k)).length := by rw [List.length_take]; omega
          have : (l.take (i0 + k))[i0 + (k - 1)] = l.getD (i0 + (k - 1)) 0 := by
            have h2 : l[i0 + (k - 1)]? = some l[i0 + (k - 1)] := List.getElem?_eq_getElem (by omega)
            simp [List.getD, h2]
          rw [← this]
          exact List.getElem_mem hlt)
      refine ⟨i', c', y9, ?_, r2, r3, r4, r5⟩
      rw [← r1]
      refine codeL_loop_iff ?_
      simp (disch := omega) only [go_sem, Nat.reduceAdd, Nat.reduceMul, Nat.reduceLeDiff, B_120_0, hH, cast_sub1, cast_add1, g1, g2, hne]
theorem comp_loop (hlen : len < 10000) {x3 x4 x5 : PV} {l : List Nat} (hl : l.length = len) : ∀ (d i : Nat) (H : Heap) (x6 x7 x8 x9 : PV), len - i = d → 1 ≤ i → i ≤ len → H.get id = some (so ver rest l) →
    ∃ (e : Ex) (T : List PV) (y : PV) (rest' : List (List PV)) (l' : List Nat) (H' : Heap), codeL Gf (.loop B_120_1) ⟨[sv id ver len, .nils, .int .i64 i, x3, x4, x5, x6, x7, x8, x9], H, n⟩ = some (e, ⟨[sv id ver len, y] ++ T, H', n⟩) ∧
      ((e = .exit 0 ∧ H' = H ∧ l' = l) ∨ (e = .ret ∧ y = .view id ver 1 0 l'.length none ∧ H' = H.set id (.arr ver 1 (irows l' ++ rest')))) ∧ (∀ x, x ∈ l' ↔ x ∈ l) ∧ l'.length ≤ len := by
  intro d
  induction d with
  | zero =>
    intro i H x6 x7 x8 x9 hd h1 hi hH
    have e : i = len := by omega
    subst e
    refine ⟨.exit 0, [.int .i64 i, x3, x4, x5, .bool false, x7, x8, x9], .nils, rest, l, H, codeL_loop_end ?_ (by simp), .inl ⟨rfl, rfl, rfl⟩, fun _ => Iff.rfl, by omega⟩
    simp (disch := omega) only [go_sem, B_120_1]
  | succ d ih =>
    intro i H x6 x7 x8 x9 hd h1 hi hH
    have g1 := iat (l := l) (i := i) (by omega) rest
    have g2 := iat (l := l) (i := i - 1) (by omega) rest
    cases heq : ((l.getD i 0 : Nat) : Int) == ((l.getD (i - 1) 0 : Nat) : Int) with
    | false =>
      obtain ⟨e, T, y, rest', l', H', r1, r2⟩ := ih (i + 1) H (.bool true) (.bool false) x8 x9 (by omega) (by omega) (by omega) hH
      refine ⟨e, T, y, rest', l', H', ?_, r2⟩
      rw [← r1]
      refine codeL_loop_iff ?_
      simp (disch := omega) only [go_sem, Nat.reduceAdd, Nat.reduceMul, Nat.reduceLeDiff, B_120_1, hH, cast_sub1, cast_add1, g1, g2, heq]
    | true =>
      have he2 : l.getD i 0 = l.getD (i - 1) 0 := by
        have := heq
        simp only [beq_iff_eq] at this
        omega
      obtain ⟨i', c', y9, r1, r2, r3, r4, r5⟩ := comp_in (n := n) (id := id) (ver := ver) (rest := rest) (x1 := .nils) (x5 := x5) (x6 := .bool true) (x7 := .bool true) hlen hl (i0 := i) h1 (by omega) _ 1 i H l x8 x9 rfl (by omega) (by omega) h1 (by omega) hl hH (fun _ _ => rfl)
        (fun x => by
          have ht : l.take (i + 1) = l.take i ++ [l.getD i 0] := by
            rw [List.take_add_one]
            have : l[i]? = some l[i] := List.getElem?_eq_getElem (by omega)
            simp [List.getD, this]
          rw [ht, List.mem_append]
          refine ⟨.inl, fun h => h.elim (fun h => h) (fun h => ?_)⟩
          rw [List.mem_singleton] at h
          subst h
          rw [he2]
          have hlt : i - 1 < (l.take i).length := by rw [List.length_take]; omega
          have : (l.take i)[i - 1] = l.getD (i - 1) 0 := by
            have h2 : l[i - 1]? = some l[i - 1] := List.getElem?_eq_getElem (by omega)
            simp [List.getD, h2]
          rw [← this]
          exact List.getElem_mem hlt)
      have hlt : (c'.take i').length = i' := by rw [List.length_take]; omega
      have hov : overwrite (irows c' ++ rest) i' (List.replicate (len - i') [PV.int .i64 0]) = irows (c'.take i') ++ (List.replicate (len - i') [PV.int .i64 0] ++ rest) := by
        have e1 : (irows c' ++ rest).take i' = irows (c'.take i') := by
          rw [List.take_append_of_le_length (by simp [irows]; omega)]
          simp [irows, List.map_take]
        have e2 : (irows c' ++ rest).drop (i' + (len - i')) = rest := by
          rw [show i' + (len - i') = (irows c').length by simp [irows]; omega, List.drop_left']
          rfl
        simp only [overwrite, List.length_replicate, e1, e2]
      refine ⟨.ret, [.int .i64 i', .view id ver 1 i (len - i) none, .int .i64 (len - i : Nat), x5, .bool true, .bool true, .bool false, y9], .view id ver 1 0 i' none, List.replicate (len - i') [PV.int .i64 0] ++ rest, c'.take i', H.set id (.arr ver 1 (irows (c'.take i') ++ (List.replicate (len - i') [PV.int .i64 0] ++ rest))), ?_, .inr ⟨rfl, by rw [hlt], rfl⟩, r5, by omega⟩
      refine codeL_loop_end ?_ (by simp)
      rw [show ((1 : Nat) : Int) = 1 from rfl] at r1
      have hcl := clearV_view (k := 1) (id := id) (ver := ver) (off := i') (len := len - i') (zero := [.int .i64 0]) (xs := irows c' ++ rest) (H := H.set id (so ver rest c')) (n := n) (cap := none) (get_same _ _ _) (by simp [irows]; omega) rfl
      rw [hov] at hcl
      simp (disch := omega) only [go_sem, Nat.reduceAdd, Nat.reduceMul, Nat.reduceLeDiff, B_120_1, hH, cast_sub1, g1, g2, heq, r1, Option.map_none, Option.map_some, Option.isSome_none, boundV_none, sliceV_view, Nat.zero_add, Nat.sub_zero, op_clear, hcl, set_set]
theorem comp_run (hlen : len < 10000) {l : List Nat} (hl : l.length = len) {H : Heap} (hH : H.get id = some (so ver rest l)) :
    ∃ (l' : List Nat) (H' : Heap) (y : PV), Gf 120 [sv id ver len] H n = some (y, H', n) ∧ VW H' 1 id y (irows l') ∧ Same [id] n H H' ∧ (∀ x, x ∈ l' ↔ x ∈ l) ∧ l'.length ≤ len := by
  by_cases h2 : len < 2
  · refine ⟨l, H, sv id ver len, ?_, ⟨ver, rest, by simp [irows, hl], hH⟩, .refl _ _ _, fun _ => Iff.rfl, by omega⟩
    rw [R_120]
    simp (disch := omega) only [go_sem, G_120]
  · obtain ⟨e, T, y, rest', l', H', r1, r2, r3⟩ := comp_loop (n := n) (id := id) (ver := ver) (rest := rest) (x3 := .tup []) (x4 := .tup []) (x5 := .bool false) hlen hl _ 1 H (.tup []) (.tup []) (.tup []) (.tup []) rfl (by omega) (by omega) hH
    rw [show ((1 : Nat) : Int) = 1 from rfl] at r1
    rcases r2 with ⟨rfl, rfl, rfl⟩ | ⟨rfl, rfl, rfl⟩
    · refine ⟨l', H', sv id ver len, ?_, ⟨ver, rest, by simp [irows, hl], hH⟩, .refl _ _ _, r3⟩
      rw [R_120]
      simp (disch := omega) only [go_sem, G_120, r1]
    · refine ⟨l', _, .view id ver 1 0 l'.length none, ?_, ⟨ver, rest', by simp [irows], by rw [get_same]⟩, (Same.refl _ _ _).set _ (.inl (by simp)), r3⟩
      rw [R_120]
      simp (disch := omega) only [go_sem, G_120, r1]
theorem comp_nil {H : Heap} : Gf 120 [.nils] H n = some (.nils, H, n) := by
  rw [R_120]
  simp (disch := omega) only [go_sem, Int.reduceLT, G_120]
end
mutual
def Ty.pre : Ty → List Ty
  | .mk k n s as us => .mk k n s as us :: Ty.pres as
def Ty.pres : List Ty → List Ty
  | [] => []
  | t :: ts => t.pre ++ Ty.pres ts
end
theorem Ty.pre_eq (t : Ty) : t.pre = t :: Ty.pres t.args := by cases t; rfl
theorem cells_nilf : PV.nilf.cells? = some [.nilf] := rfl
structure Stp (W : List Nat) (n : Nat) (H : Heap) (W' : List Nat) (n' : Nat) (H' : Heap) : Prop where
  same : Same W n H H'
  sub : ∀ x ∈ W', x ∈ W ∨ n ≤ x
  le : n ≤ n'
theorem Stp.refl (W : List Nat) (n : Nat) (H : Heap) : Stp W n H W n H := ⟨.refl _ _ _, fun _ h => .inl h, Nat.le_refl _⟩
theorem Stp.trans {W W' W'' : List Nat} {n n' n'' : Nat} {H H' H'' : Heap} (h : Stp W n H W' n' H') (g : Stp W' n' H' W'' n'' H'') : Stp W n H W'' n'' H'' where
  same := h.same.step g.same h.sub h.le
  sub x hx := by
    have := h.le
    rcases g.sub x hx with e | e
    · exact h.sub x e
    · exact .inr (by omega)
  le := Nat.le_trans h.le g.le
theorem Stp.fresh {W : List Nat} {n n' : Nat} {H H' : Heap} (h : ∀ id, id < n → H'.get id = H.get id) (hn : n ≤ n') : Stp W n H W n' H' := ⟨fun id a _ => h id a, fun _ h => .inl h, hn⟩
theorem Stp.out {W W' : List Nat} {n n' id : Nat} {H H' : Heap} (h : Stp W n H W' n' H') (h1 : id < n) (h2 : id ∉ W) : id ∉ W' := fun hm => by
  rcases h.sub id hm with e | e
  · exact h2 e
  · omega
theorem Stp.get {W W' : List Nat} {n n' id : Nat} {H H' : Heap} {o : Option Obj} (h : Stp W n H W' n' H') (h1 : id < n) (h2 : id ∉ W) (e : H.get id = o) : H'.get id = o := (h.same id h1 h2).trans e
structure Vst (g : FuncId) (first caps : List PV) (tot : List Ty) (I : List Ty → List Nat → Nat → Heap → Prop) : Prop where
  step : ∀ (t : Ty) (row : List PV) (vis : List Ty) (W : List Nat) (n : Nat) (H : Heap), TyR row t → vis ++ [t] <+: tot → I vis W n H →
    ∃ (H' : Heap) (n' : Nat) (W' : List Nat), Gf g (first ++ [.agg row] ++ caps) H n = some (.bool true, H', n') ∧ I (vis ++ [t]) W' n' H' ∧ Stp W n H W' n' H'
  keep : ∀ (vis : List Ty) (W : List Nat) (n : Nat) (H : Heap) (n' : Nat) (H' : Heap), I vis W n H → (∀ id, id < n → H'.get id = H.get id) → n ≤ n' → I vis W n' H'
  old : ∀ (vis : List Ty) (W : List Nat) (n : Nat) (H : Heap), I vis W n H → ∀ x ∈ W, x < n
abbrev selfO (nb ns : Nat) : Obj := .arr 0 1 [[.func 169 [] [.ptr nb 0 1 0 0, .ptr ns 0 1 0 0]]]
structure Wlk (g : FuncId) (first caps : List PV) (nb ns : Nat) (W : List Nat) (n : Nat) (H : Heap) : Prop where
  b : H.get nb = some (.arr 0 1 [[.func g first caps]])
  s : H.get ns = some (selfO nb ns)
  lb : nb < n
  ls : ns < n
  wb : nb ∉ W
  ws : ns ∉ W
section
variable {g : FuncId} {first caps : List PV} {tot : List Ty} {I : List Ty → List Nat → Nat → Heap → Prop} {nb ns : Nat}
theorem Wlk.stp {W W' : List Nat} {n n' : Nat} {H H' : Heap} (h : Wlk g first caps nb ns W n H) (t : Stp W n H W' n' H') : Wlk g first caps nb ns W' n' H' :=
  ⟨t.get h.lb h.wb h.b, t.get h.ls h.ws h.s, Nat.lt_of_lt_of_le h.lb t.le, Nat.lt_of_lt_of_le h.ls t.le, t.out h.lb h.wb, t.out h.ls h.ws⟩
theorem walk_args {xs : List (List PV)} {ts : List Ty} {fl : Fl} (hx : TyLR xs ts) (hlen : ts.length < 1000000)
    (rec : ∀ t ∈ ts, ∀ (row : List PV) (vis : List Ty) (W : List Nat) (n : Nat) (H : Heap), TyR row t → vis ++ t.pre <+: tot → I vis W n H → Wlk g first caps nb ns W n H →
      ∃ (H' : Heap) (n' : Nat) (W' : List Nat), Gf 169 [.agg row, .ptr nb 0 1 0 0, .ptr ns 0 1 0 0] H n = some (.bool true, H', n') ∧ I (vis ++ t.pre) W' n' H' ∧ Stp W n H W' n' H')
    (hV : Vst g first caps tot I) : ∀ (d i : Nat) (vis : List Ty) (W : List Nat) (n : Nat) (H : Heap) (x3 x6 x7 : PV), ts.length - i = d → i ≤ ts.length → vis ++ Ty.pres (ts.drop i) <+: tot → I vis W n H → Wlk g first caps nb ns W n H →
      ∃ (H' : Heap) (n' : Nat) (W' : List Nat) (T : List PV), codeL Gf (.loop B_218_0) ⟨[.data 5 xs fl, .func 171 [] [.ptr ns 0 1 0 0], .int .i64 0, x3, .int .i64 ts.length, .int .i64 i, x6, x7], H, n⟩ = some (.exit 0, ⟨[.data 5 xs fl, .func 171 [] [.ptr ns 0 1 0 0], .int .i64 0] ++ T, H', n'⟩) ∧
        I (vis ++ Ty.pres (ts.drop i)) W' n' H' ∧ Stp W n H W' n' H' := by
  intro d
  induction d with
  | zero =>
    intro i vis W n H x3 x6 x7 hd hi hp hI hw
    have : i = ts.length := by omega
    subst this
    refine ⟨H, n, W, [x3, .int .i64 ts.length, .int .i64 ts.length, .bool false, x7], codeL_loop_end ?_ (by simp), by simpa [Ty.pres] using hI, .refl _ _ _⟩
    simp (disch := omega) only [go_sem, B_218_0]
  | succ d ih =>
    intro i vis W n H x3 x6 x7 hd hi hp hI hw
    have hil : i < ts.length := by omega
    obtain ⟨row, hat, hrow⟩ := hx.at i hil
    have hdr : ts.drop i = ts[i] :: ts.drop (i + 1) := List.drop_eq_getElem_cons hil
    rw [hdr, Ty.pres, ← List.append_assoc] at hp
    have hp1 : vis ++ (ts[i]).pre <+: tot := (List.prefix_append _ _).trans hp
    obtain ⟨a, u, hrw, hta, hus⟩ := hrow.five
    have ca := tys_cells hta
    have cu := us_cells hus
    generalize hH1 : H.set n (.arr 0 5 [row]) = H1
    have h1 : ∀ id, id < n → H1.get id = H.get id := fun id hid => by rw [← hH1]; exact get_other _ _ (by omega)
    have st1 : Stp W n H W (n + 1) H1 := .fresh h1 (by omega)
    have hw1 := hw.stp st1
    have hs1 := hw1.s
    have hn1 : H1.get n = some (.arr 0 5 [row]) := by rw [← hH1, get_same]
    obtain ⟨H2, n2, W2, e2, hI2, st2⟩ := rec ts[i] (List.getElem_mem hil) row vis W (n + 1) H1 hrow hp1 (hV.keep _ _ _ _ _ _ hI h1 (by omega)) hw1
    have e171 : Gf 171 [.agg row, .ptr ns 0 1 0 0] H n = some (.bool false, H2, n2) := by
      rw [R_171]
      subst hrw
      simp (disch := omega) only [go_sem, Nat.reduceAdd, G_171, hH1, hs1, hn1, e2]
    obtain ⟨H3, n3, W3, T, e3, hI3, st3⟩ := ih (i + 1) (vis ++ (ts[i]).pre) W2 n2 H2 (.int .i64 i) (.bool true) (.bool false) (by omega) (by omega) hp hI2 ((hw.stp st1).stp st2)
    refine ⟨H3, n3, W3, T, ?_, ?_, (st1.trans st2).trans st3⟩
    · rw [← e3]
      refine codeL_loop_iff ?_
      subst hrw
      have hix : idxAddrV 5 (.data 5 xs fl) (.int .i64 (i : Nat)) = some (.dp fl.isTmp [.int .i64 ts[i].kind, .int .i64 ts[i].num, .str ts[i].name, a, u] 0) := idxAddr_data 5 _ fl .i64 i _ hat
      simp (disch := omega) only [go_sem, B_218_0, hix, e171, cast_add1]
    · rw [hdr]
      simpa [Ty.pres, List.append_assoc] using hI3
theorem walk_run (hV : Vst g first caps tot I) : ∀ (d : Nat) (t : Ty), t.size ≤ d → d < 1000000 → ∀ (row : List PV) (vis : List Ty) (W : List Nat) (n : Nat) (H : Heap), TyR row t → vis ++ t.pre <+: tot → I vis W n H → Wlk g first caps nb ns W n H →
    ∃ (H' : Heap) (n' : Nat) (W' : List Nat), Gf 169 [.agg row, .ptr nb 0 1 0 0, .ptr ns 0 1 0 0] H n = some (.bool true, H', n') ∧ I (vis ++ t.pre) W' n' H' ∧ Stp W n H W' n' H' := by
  intro d
  induction d with
  | zero => intro t h; have := t.size_pos; omega
  | succ d ih =>
    intro t hsz hd row vis W n H hrow hp hI hw
    obtain ⟨a, u, hrw, hta, hus⟩ := id hrow.five
    have ca := tys_cells hta
    have cu := us_cells hus
    have hszs : Ty.sizes t.args ≤ d := by cases t; simp only [Ty.size, Ty.args] at hsz ⊢; omega
    have hll := Ty.sizes_len t.args
    generalize hH1 : H.set n (.arr 0 5 [row]) = H1
    have h1 : ∀ id, id < n → H1.get id = H.get id := fun id hid => by rw [← hH1]; exact get_other _ _ (by omega)
    have st1 : Stp W n H W (n + 1) H1 := .fresh h1 (by omega)
    have hw1 := hw.stp st1
    have hs1 := hw1.s
    have hb1 := hw1.b
    have hn1 : H1.get n = some (.arr 0 5 [row]) := by rw [← hH1, get_same]
    have hnW : n ∉ W := fun hm => by have := hV.old _ _ _ _ hI _ hm; omega
    have hpre := Ty.pre_eq t
    obtain ⟨H2, n2, W2, e2, hI2, st2⟩ := hV.step t row vis W (n + 1) H1 hrow ((by rw [hpre]; simp : vis ++ [t] <+: vis ++ t.pre).trans hp) (hV.keep _ _ _ _ _ _ hI h1 (by omega))
    have hn2 : H2.get n = some (.arr 0 5 [row]) := st2.get (by omega) hnW hn1
    have hw2 := hw1.stp st2
    have fin : ∃ (H' : Heap) (n' : Nat) (W' : List Nat), Gf 218 [a, .func 171 [] [.ptr ns 0 1 0 0]] H2 n2 = some (.int .i64 (-1), H', n') ∧ I (vis ++ t.pre) W' n' H' ∧ Stp W2 n2 H2 W' n' H' := by
      rw [hpre]
      generalize ha : t.args = as at hta hszs hll
      cases hta with
      | nil =>
        refine ⟨H2, n2, W2, ?_, by simpa [Ty.pres] using hI2, .refl _ _ _⟩
        rw [R_218]
        have : codeL Gf (.loop B_218_0) ⟨[.nils, .func 171 [] [.ptr ns 0 1 0 0], .int .i64 0, .tup [], .int .i64 0, .int .i64 0, .tup [], .tup []], H2, n2⟩ = some (.exit 0, ⟨[.nils, .func 171 [] [.ptr ns 0 1 0 0], .int .i64 0, .tup [], .int .i64 0, .int .i64 0, .bool false, .tup []], H2, n2⟩) := by
          refine codeL_loop_end ?_ (by simp)
          simp (disch := omega) only [go_sem, Int.reduceLT, B_218_0]
        simp (disch := omega) only [go_sem, Int.reduceNeg, G_218, this]
      | data xs ts fl hx =>
        obtain ⟨H3, n3, W3, T, e3, hI3, st3⟩ := walk_args (xs := xs) (ts := as) (fl := fl) hx (by omega)
          (fun s hs row vis W n H k1 k2 k3 k4 => ih s (by have := Ty.size_mem hs; omega) (by omega) row vis W n H k1 k2 k3 k4)
          hV _ 0 (vis ++ [t]) W2 n2 H2 (.tup []) (.tup []) (.tup []) rfl (by omega) (by rw [hpre, ha] at hp; simpa [List.append_assoc] using hp) hI2 hw2
        rw [show ((0 : Nat) : Int) = 0 from rfl] at e3
        refine ⟨H3, n3, W3, ?_, by simpa [List.append_assoc] using hI3, st3⟩
        have hlx : lenX .slice H2 n2 (.data 5 xs fl) = some ⟨.int .i64 (as.length : Nat), H2, n2, .no⟩ := by simp [lenX, hx.len]
        rw [R_218]
        simp (disch := omega) only [go_sem, Int.reduceNeg, G_218, hlx, e3]
    obtain ⟨H3, n3, W3, e3, hI3, st3⟩ := fin
    have e170 : Gf 170 [a, .func 171 [] [.ptr ns 0 1 0 0]] H2 n2 = some (.bool false, H3, n3) := by
      rw [R_170]
      simp (disch := omega) only [go_sem, Int.reduceNeg, G_170, e3]
    refine ⟨H3, n3, W3, ?_, hI3, (st1.trans st2).trans st3⟩
    rw [R_169]
    subst hrw
    simp (disch := omega) only [go_sem, Nat.reduceAdd, G_169, hH1, hb1, hn1, e2, hn2, e170]
theorem walk118 (hV : Vst g first caps tot I) {t : Ty} (hsz : t.size < 1000000) {row : List PV} {vis : List Ty} {W : List Nat} {n : Nat} {H : Heap} (hrow : TyR row t) (hp : vis ++ t.pre <+: tot) (hI : I vis W n H) :
    ∃ (H' : Heap) (n' : Nat) (W' : List Nat), Gf 118 [.agg row, .func g first caps] H n = some (.bool true, H', n') ∧ I (vis ++ t.pre) W' n' H' ∧ Stp W n H W' n' H' := by
  obtain ⟨a, u, hrw, hta, hus⟩ := id hrow.five
  have ca := tys_cells hta
  have cu := us_cells hus
  generalize hH1 : ((H.set n (.arr 0 5 [row])).set (n + 1) (.arr 0 1 [[.func g first caps]])).set (n + 1 + 1) (selfO (n + 1) (n + 1 + 1)) = H1
  have h1 : ∀ id, id < n → H1.get id = H.get id := fun id hid => by rw [← hH1, get_other _ _ (by omega), get_other _ _ (by omega), get_other _ _ (by omega)]
  have hn0 : H1.get n = some (.arr 0 5 [row]) := by rw [← hH1, get_other _ _ (by omega), get_other _ _ (by omega), get_same]
  have hn1 : H1.get (n + 1) = some (.arr 0 1 [[.func g first caps]]) := by rw [← hH1, get_other _ _ (by omega), get_same]
  have hn2 : H1.get (n + 1 + 1) = some (selfO (n + 1) (n + 1 + 1)) := by rw [← hH1, get_same]
  have hW := hV.old _ _ _ _ hI
  have st1 : Stp W n H W (n + 1 + 1 + 1) H1 := .fresh h1 (by omega)
  obtain ⟨H2, n2, W2, e2, hI2, st2⟩ := walk_run hV t.size t (Nat.le_refl _) hsz row vis W (n + 1 + 1 + 1) H1 hrow hp (hV.keep _ _ _ _ _ _ hI h1 (by omega)) ⟨hn1, hn2, by omega, by omega, fun hm => by have := hW _ hm; omega, fun hm => by have := hW _ hm; omega⟩
  refine ⟨H2, n2, W2, ?_, hI2, st1.trans st2⟩
  rw [R_118]
  subst hrw
  simp (disch := omega) only [go_sem, Nat.reduceAdd, Nat.reduceLeDiff, G_118, get_same, set_set, cells_nilf, hH1, hn0, hn2, e2]
end
theorem thaw_args {a : PV} {ts : List Ty} (h : TysR a ts) (H : Heap) (d : Nat) : thaw true H (d + 1) a = some (a, []) := by
  cases h with
  | nil => rfl
  | data xs ts fl hx => simp [thaw]
theorem thaw_units {a : PV} {us : List PV} (h : UsR a us) (H : Heap) (d : Nat) : thaw true H (d + 1) a = some (a, []) := by
  rcases h.1 with ⟨rfl, _⟩ | ⟨fl, rfl⟩
  · rfl
  · simp [thaw]
theorem thaw_row {row : List PV} {t : Ty} (h : TyR row t) (H : Heap) : thawC true H [.agg row] false = some ([.agg row], []) := by
  obtain ⟨a, u, rfl, hta, hus⟩ := h.five
  show thawL true H 4096 [.agg [.int .i64 t.kind, .int .i64 t.num, .str t.name, a, u]] = _
  simp only [thawL_cons, thaw_agg, thaw_int, thaw_str, thawL_nil, thaw_args hta, thaw_units hus, thawCons, thawAgg, List.append_nil]
structure NodeOk (t : Ty) : Prop where
  shape : ∀ row, TyR row t → pureV Gf 165 [.agg row] = some (.bool true)
  units : ∀ u ∈ t.units, pureV Gf 168 [u] = some (.bool true)
def usum : List Ty → Nat
  | [] => 0
  | t :: ts => t.units.length + usum ts
theorem usum_append : ∀ a b : List Ty, usum (a ++ b) = usum a + usum b
  | [], b => by simp [usum]
  | x :: a, b => by simp only [List.cons_append, usum, usum_append a b]; omega
theorem units_ok {us : List PV} {u : PV} (hu : UsR u us) (hok : ∀ u ∈ us, pureV Gf 168 [u] = some (.bool true)) (hl : us.length < 1000000) (H : Heap) (n : Nat) : Gf 166 [u, .func 167 [] []] H n = some (.bool false, H, n) := by
  have e167 : ∀ v ∈ us, Gf 167 [v] H n = some (.bool false, H, n) := by
    intro v hv
    have hf := (hu.2 v hv).1
    rw [R_167]
    simp (disch := omega) only [go_sem, G_167, hf, hok v hv]
  have e216 : Gf 216 [u, .func 167 [] []] H n = some (.int .i64 (-1), H, n) := by
    rw [R_216]
    rcases hu.1 with ⟨rfl, rfl⟩ | ⟨fl, rfl⟩
    · have : codeL Gf (.loop B_216_0) ⟨[.nils, .func 167 [] [], .int .i64 0, .tup [], .int .i64 0, .int .i64 0, .tup [], .tup []], H, n⟩ = some (.exit 0, ⟨[.nils, .func 167 [] [], .int .i64 0, .tup [], .int .i64 0, .int .i64 0, .bool false, .tup []], H, n⟩) := by
        refine codeL_loop_end ?_ (by simp)
        simp (disch := omega) only [go_sem, Int.reduceLT, B_216_0]
      simp (disch := omega) only [go_sem, Int.reduceNeg, G_216, this]
    · have loop : ∀ (d i : Nat) (x3 x6 x7 : PV), us.length - i = d → i ≤ us.length → ∃ T : List PV, codeL Gf (.loop B_216_0) ⟨[.data 1 (urows us) fl, .func 167 [] [], .int .i64 0, x3, .int .i64 us.length, .int .i64 i, x6, x7], H, n⟩ = some (.exit 0, ⟨[.data 1 (urows us) fl, .func 167 [] [], .int .i64 0] ++ T, H, n⟩) := by
        intro d
        induction d with
        | zero =>
          intro i x3 x6 x7 hd hi
          refine ⟨[x3, .int .i64 us.length, .int .i64 i, .bool false, x7], codeL_loop_end ?_ (by simp)⟩
          simp (disch := omega) only [go_sem, B_216_0]
        | succ d ih =>
          intro i x3 x6 x7 hd hi
          have hil : i < us.length := by omega
          obtain ⟨T, e⟩ := ih (i + 1) (.int .i64 i) (.bool true) (.bool false) (by omega) (by omega)
          refine ⟨T, ?_⟩
          rw [← e]
          refine codeL_loop_iff ?_
          have hrow := urows_at hil []
          rw [List.append_nil] at hrow
          have hix : idxAddrV 1 (.data 1 (urows us) fl) (.int .i64 (i : Nat)) = some (.dp fl.isTmp [us[i]] 0) := idxAddr_data 1 _ fl .i64 i _ hrow
          have hv := e167 us[i] (List.getElem_mem hil)
          simp (disch := omega) only [go_sem, B_216_0, hix, hv, cast_add1]
      obtain ⟨T, e⟩ := loop _ 0 (.tup []) (.tup []) (.tup []) rfl (Nat.zero_le _)
      rw [show ((0 : Nat) : Int) = 0 from rfl] at e
      have hlx : lenX .slice H n (.data 1 (urows us) fl) = some ⟨.int .i64 (us.length : Nat), H, n, .no⟩ := by simp [lenX, urows]
      simp (disch := omega) only [go_sem, Int.reduceNeg, G_216, hlx, e]
  rw [R_166]
  simp (disch := omega) only [go_sem, Int.reduceNeg, G_166, e216]
structure Cnt (ac cl : Nat) (vis : List Ty) (W : List Nat) (n : Nat) (H : Heap) : Prop where
  a : H.get ac = some (.arr 0 2 [[.int .i64 vis.length, .int .i64 (usum vis)]])
  c : H.get cl = some (.arr 0 1 [[.func 163 [.ptr ac 0 2 0 0] []]])
  la : ac < n
  lc : cl < n
  ne : ac ≠ cl
  w : W = [ac]
theorem check_vst {ac cl : Nat} {tot : List Ty} (hok : ∀ t ∈ tot, NodeOk t) (hn : tot.length ≤ 256) (hu : usum tot ≤ 256) : Vst 164 [] [.ptr cl 0 1 0 0] tot (Cnt ac cl) where
  keep vis W n H n' H' h hk hl := ⟨(hk _ h.la).trans h.a, (hk _ h.lc).trans h.c, by have := h.la; omega, by have := h.lc; omega, h.ne, h.w⟩
  old vis W n H h x hx := by
    rw [h.w] at hx
    simp only [List.mem_singleton] at hx
    subst hx
    exact h.la
  step t row vis W n H hrow hp h := by
    obtain ⟨a, u, hrw, hta, hus⟩ := id hrow.five
    have ca := tys_cells hta
    have cu := us_cells hus
    have lc := h.lc
    have la := h.la
    have ne := h.ne
    have hin : t ∈ tot := hp.subset (by simp)
    have ok := hok t hin
    have hlen := hp.length_le
    have hus2 : usum vis + t.units.length ≤ 256 := by
      obtain ⟨r, hr⟩ := hp
      rw [← hr, usum_append, usum_append] at hu
      simp only [usum] at hu
      omega
    simp only [List.length_append, List.length_singleton] at hlen
    have e165 := ok.shape row hrow
    generalize hH1 : H.set n (.arr 0 5 [row]) = H1
    have h1 : ∀ id, id < n → H1.get id = H.get id := fun id hid => by rw [← hH1]; exact get_other _ _ (by omega)
    have hn1 : H1.get n = some (.arr 0 5 [row]) := by rw [← hH1, get_same]
    have hc1 := (h1 _ lc).trans h.c
    have ha1 := (h1 _ la).trans h.a
    generalize hH2 : H1.set (n + 1) (.arr 0 5 [row]) = H2
    have h2 : ∀ id, id < n + 1 → H2.get id = H1.get id := fun id hid => by rw [← hH2]; exact get_other _ _ (by omega)
    have hn2 : H2.get (n + 1) = some (.arr 0 5 [row]) := by rw [← hH2, get_same]
    have ha2 := (h2 _ (by omega)).trans ha1
    generalize hH3 : H2.set ac (.arr 0 2 [[.int .i64 (vis.length + 1 : Nat), .int .i64 (usum vis + t.units.length : Nat)]]) = H3
    have hlu : ∀ H n, lenX .slice H n u = some ⟨.int .i64 (t.units.length : Nat), H, n, .no⟩ := by
      intro H n
      rcases hus.1 with ⟨rfl, e⟩ | ⟨fl, rfl⟩
      · rw [e]; rfl
      · simp [lenX, urows]
    have hm1 : H2.set ac (.arr 0 2 [[.int .i64 (vis.length + 1 : Nat), .int .i64 (usum vis)]]) = H2.set ac (.arr 0 2 [[.int .i64 (vis.length + 1 : Nat), .int .i64 (usum vis)]]) := rfl
    have hg3 : H3.get ac = some (.arr 0 2 [[.int .i64 (vis.length + 1 : Nat), .int .i64 (usum vis + t.units.length : Nat)]]) := by rw [← hH3, get_same]
    have e163 : Gf 163 [.ptr ac 0 2 0 0, .agg row] H1 (n + 1) = some (.bool true, H3, n + 1 + 1) := by
      have hn3 : (H2.set ac (.arr 0 2 [[.int .i64 (vis.length + 1 : Nat), .int .i64 (usum vis)]])).get (n + 1) = some (.arr 0 5 [row]) := by rw [get_other _ _ (by omega)]; exact hn2
      rw [R_163]
      subst hrw
      simp (disch := omega) only [go_sem, Nat.reduceAdd, Nat.reduceMul, Nat.reduceLeDiff, G_163, hH2, ha2, get_same, set_set, hn3, hlu, cast_add1, cast_addN, hH3, hg3]
    have hn4 : H3.get n = some (.arr 0 5 [row]) := by rw [← hH3, get_other _ _ (by omega), h2 _ (by omega)]; exact hn1
    have e166 := units_ok hus ok.units (by omega) H3 (n + 1 + 1)
    refine ⟨H3, n + 1 + 1, W, ?_, ⟨?_, ?_, by omega, by omega, ne, h.w⟩, ?_⟩
    · rw [List.nil_append]
      show Gf 164 [.agg row, .ptr cl 0 1 0 0] H n = _
      have htw := thaw_row hrow H1
      rw [R_164]
      subst hrw
      simp (disch := omega) only [go_sem, Nat.reduceAdd, G_164, flat_agg, htw, hH1, hn1, hc1, e165, e163, hn4, e166]
    · rw [← hH3, get_same]; simp [usum_append, usum]
    · rw [← hH3, get_other _ _ ne, h2 _ (by omega)]; exact hc1
    · refine ⟨fun id hid hw => ?_, fun _ h => .inl h, by omega⟩
      rw [h.w, List.mem_singleton] at hw
      rw [← hH3, get_other _ _ (Ne.symm hw), h2 _ (by omega), h1 _ hid]
mutual
theorem Ty.pre_size : ∀ t : Ty, t.pre.length + usum t.pre = t.size
  | .mk k n s as us => by
    have := Ty.pres_size as
    simp only [Ty.pre, List.length_cons, usum, Ty.units, Ty.size]; omega
theorem Ty.pres_size : ∀ ts : List Ty, (Ty.pres ts).length + usum (Ty.pres ts) = Ty.sizes ts
  | [] => rfl
  | t :: ts => by
    have := Ty.pre_size t
    have := Ty.pres_size ts
    simp only [Ty.pres, List.length_append, usum_append, Ty.sizes]; omega
end
structure TyOk (t : Ty) : Prop where
  node : ∀ s ∈ t.pre, NodeOk s
  nodes : t.pre.length ≤ 256
  units : usum t.pre ≤ 256
theorem ok_run {t : Ty} (h : TyOk t) {row : List PV} (hrow : TyR row t) (H : Heap) (n : Nat) :
    ∃ (H' : Heap) (n' : Nat), Gf 117 [.agg row] H n = some (.bool true, H', n') ∧ (∀ id, id < n → H'.get id = H.get id) ∧ n ≤ n' := by
  obtain ⟨a, u, hrw, hta, hus⟩ := id hrow.five
  have ca := tys_cells hta
  have cu := us_cells hus
  have hsz := Ty.pre_size t
  have h1 := h.nodes
  have h2 := h.units
  generalize hH1 : ((H.set n (.arr 0 5 [row])).set (n + 1) (.arr 0 2 [[.int .i64 0, .int .i64 0]])).set (n + 1 + 1) (.arr 0 1 [[.func 163 [.ptr (n + 1) 0 2 0 0] []]]) = H1
  have g1 : ∀ id, id < n → H1.get id = H.get id := fun id hid => by rw [← hH1, get_other _ _ (by omega), get_other _ _ (by omega), get_other _ _ (by omega)]
  have hn0 : H1.get n = some (.arr 0 5 [row]) := by rw [← hH1, get_other _ _ (by omega), get_other _ _ (by omega), get_same]
  have hn1 : H1.get (n + 1) = some (.arr 0 2 [[.int .i64 0, .int .i64 0]]) := by rw [← hH1, get_other _ _ (by omega), get_same]
  have hn2 : H1.get (n + 1 + 1) = some (.arr 0 1 [[.func 163 [.ptr (n + 1) 0 2 0 0] []]]) := by rw [← hH1, get_same]
  obtain ⟨H2, n2, W2, e2, _, st2⟩ := walk118 (check_vst (ac := n + 1) (cl := n + 1 + 1) h.node h1 h2) (by omega) (vis := []) (W := [n + 1]) (n := n + 1 + 1 + 1) (H := H1) hrow (List.prefix_refl _) ⟨hn1, hn2, by omega, by omega, by omega, rfl⟩
  refine ⟨H2, n2, ?_, fun id hid => (st2.same id (by omega) (by simp; omega)).trans (g1 id hid), by have := st2.le; omega⟩
  rw [R_117]
  subst hrw
  simp (disch := omega) only [go_sem, Nat.reduceAdd, Nat.reduceLeDiff, G_117, get_same, set_set, cells_nilf, hH1, hn0, e2]
theorem check_run {t : Ty} (h : TyOk t) {row : List PV} (hrow : TyR row t) : pureV Gf 62 [.agg row] = some (.int .i64 0) := by
  obtain ⟨a, u, hrw, hta, hus⟩ := id hrow.five
  have ca := tys_cells hta
  have cu := us_cells hus
  have hn0 : (Heap.set [] 0 (.arr 0 5 [row])).get 0 = some (.arr 0 5 [row]) := get_same _ _ _
  generalize hH1 : Heap.set [] 0 (.arr 0 5 [row]) = H1 at hn0
  obtain ⟨H2, n2, e2, _, _⟩ := ok_run h hrow H1 (0 + 1)
  rw [pureV_eq, R_62]
  subst hrw
  simp (disch := omega) only [go_sem, Nat.reduceAdd, G_62, hH1, hn0, e2]
def PV.vid : PV → Option Nat
  | .view id .. => some id
  | _ => none
theorem VW.vid {H : Heap} {k id : Nat} {v : PV} {xs : List (List PV)} (h : VW H k id v xs) : v.vid = some id := by
  obtain ⟨_, _, rfl, _⟩ := h; rfl
def Sln (W : List Nat) (H : Heap) (v : PV) (l : List Nat) : Prop := (v = .nils ∧ l = []) ∨ ∃ id, id ∈ W ∧ VW H 1 id v (irows l)
structure Acc (ac : Nat) (o : Obj) (W : List Nat) (n : Nat) (H : Heap) (tv uv : PV) (tl ul : List Nat) : Prop where
  a : H.get ac = some o
  wa : ac ∈ W
  t : Sln W H tv tl
  u : Sln W H uv ul
  sep : ∀ i, tv.vid = some i → uv.vid ≠ some i
  na : ∀ i, tv.vid = some i ∨ uv.vid = some i → i ≠ ac
  old : ∀ x ∈ W, x < n
theorem Sln.same {W W' : List Nat} {H H' : Heap} {v : PV} {l : List Nat} (h : Sln W H v l) (hw : ∀ x ∈ W, x ∈ W') (hk : ∀ i, v.vid = some i → H'.get i = H.get i) : Sln W' H' v l := by
  rcases h with c | ⟨id, h1, h2⟩
  · exact .inl c
  · exact .inr ⟨id, hw _ h1, h2.same (hk _ h2.vid)⟩
section
variable {ac n : Nat} {o : Obj} {W : List Nat} {H : Heap} {tv uv : PV} {tl ul : List Nat}
theorem Acc.keep (h : Acc ac o W n H tv uv tl ul) {n' : Nat} {H' : Heap} (hk : ∀ id, id < n → H'.get id = H.get id) (hn : n ≤ n') : Acc ac o W n' H' tv uv tl ul where
  a := (hk _ (h.old _ h.wa)).trans h.a
  wa := h.wa
  t := by
    rcases h.t with c | ⟨id, h1, h2⟩
    · exact .inl c
    · exact .inr ⟨id, h1, h2.same (hk _ (h.old _ h1))⟩
  u := by
    rcases h.u with c | ⟨id, h1, h2⟩
    · exact .inl c
    · exact .inr ⟨id, h1, h2.same (hk _ (h.old _ h1))⟩
  sep := h.sep
  na := h.na
  old x hx := by have := h.old x hx; omega
theorem Acc.swap (h : Acc ac o W n H tv uv tl ul) : Acc ac o W n H uv tv ul tl where
  a := h.a
  wa := h.wa
  t := h.u
  u := h.t
  sep i hi hj := h.sep i hj hi
  na i hi := h.na i hi.symm
  old := h.old
theorem irows_append (a b : List Nat) : irows (a ++ b) = irows a ++ irows b := by simp [irows]
theorem Acc.addT (h : Acc ac o W n H tv uv tl ul) (m : List Nat) (rd : List Nat) (hb : tl.length + m.length ≤ 1000000) :
    ∃ (v' : PV) (H1 : Heap) (n' : Nat) (fp : Fp) (W' : List Nat), appendV 1 8 tv (irows m) rd H n = some ⟨v', H1, n', fp⟩ ∧ H1.get ac = some o ∧ v'.cells? = some [v'] ∧ (∀ id, id < n → id ∉ W → H1.get id = H.get id) ∧ n ≤ n' ∧
      ∀ o' : Obj, Acc ac o' W' n' (H1.set ac o') v' uv (tl ++ m) ul ∧ Stp W n H W' n' (H1.set ac o') := by
  have hs : (tv = .nils ∧ irows tl = []) ∨ ∃ id, VW H 1 id tv (irows tl) ∧ id < n := by
    rcases h.t with ⟨rfl, rfl⟩ | ⟨id, h1, h2⟩
    · exact .inl ⟨rfl, rfl⟩
    · exact .inr ⟨id, h2, h.old _ h1⟩
  obtain ⟨v', H1, n', fp, w, e, g1, g2, g3, g4⟩ := appV (k := 1) (bytes := 8) (m := irows m) rd hs (by simp [irows]; omega)
  have hac := h.old _ h.wa
  have hwac : w ≠ ac := by
    rcases g4 with rfl | g4
    · omega
    · exact h.na _ (.inl g4.vid)
  have hwW : w ∈ W ∨ w = n := by
    rcases g4 with rfl | g4
    · exact .inr rfl
    · rcases h.t with ⟨rfl, _⟩ | ⟨id, h1, h2⟩
      · obtain ⟨_, _, c, _⟩ := g4; cases c
      · have := g4.vid.symm.trans h2.vid
        simp only [Option.some.injEq] at this
        subst this
        exact .inl h1
  have hwu : ∀ i, uv.vid = some i → i ≠ w := by
    intro i hi e
    subst e
    rcases g4 with rfl | g4
    · rcases h.u with ⟨rfl, _⟩ | ⟨id, h1, h2⟩
      · cases hi
      · have := h2.vid.symm.trans hi
        simp only [Option.some.injEq] at this
        subst this
        have := h.old _ h1
        omega
    · exact h.sep _ g4.vid hi
  have hvw : ∀ i, v'.vid = some i → i = w := by
    intro i hi
    rcases g1 with ⟨rfl, _⟩ | ⟨g1, _⟩
    · cases hi
    · have := g1.vid.symm.trans hi
      simp only [Option.some.injEq] at this
      exact this.symm
  have hold : ∀ id, id < n → id ∉ W → H1.get id = H.get id := fun id h1 h2 => g2 _ (fun e => by
    subst e
    rcases hwW with c | c
    · exact h2 c
    · omega)
  have hold2 : ∀ (o' : Obj) (id : Nat), id < n → id ∉ W → (H1.set ac o').get id = H.get id := fun o' id h1 h2 => by
    rw [get_other _ _ (show ac ≠ id from fun e => h2 (e ▸ h.wa)), hold id h1 h2]
  have hu' : ∀ (o' : Obj) (W' : List Nat), (∀ x ∈ W, x ∈ W') → Sln W' (H1.set ac o') uv ul := fun o' W' hw => h.u.same hw (fun i hi => by rw [get_other _ _ (Ne.symm (h.na i (.inr hi))), g2 _ (hwu i hi)])
  rcases g1 with ⟨rfl, g1⟩ | ⟨g1, g5⟩
  · refine ⟨.nils, H1, n', fp, W, e, (g2 _ (Ne.symm hwac)).trans h.a, rfl, hold, g3, fun o' => ⟨⟨get_same _ _ _, h.wa, .inl ⟨rfl, ?_⟩, hu' o' W (fun _ h => h), fun i hi => (nomatch hi), fun i hi => ?_, fun x hx => by have := h.old x hx; omega⟩, ⟨hold2 o', fun _ h => .inl h, g3⟩⟩⟩
    · have : irows (tl ++ m) = [] := by rw [irows_append]; exact g1
      simpa [irows] using this
    · rcases hi with hi | hi
      · cases hi
      · exact h.na i (.inr hi)
  · refine ⟨v', H1, n', fp, w :: W, e, (g2 _ (Ne.symm hwac)).trans h.a, g1.cells, hold, g3, fun o' => ⟨⟨get_same _ _ _, List.mem_cons_of_mem _ h.wa, .inr ⟨w, by simp, ?_⟩, hu' o' _ (fun x hx => List.mem_cons_of_mem _ hx), fun i hi hj => hwu i hj (hvw i hi), fun i hi => ?_, fun x hx => ?_⟩, ⟨hold2 o', fun x hx => ?_, g3⟩⟩⟩
    · rw [irows_append]
      exact g1.same (get_other _ _ (Ne.symm hwac))
    · rcases hi with hi | hi
      · rw [hvw i hi]; exact hwac
      · exact h.na i (.inr hi)
    · rcases List.mem_cons.1 hx with rfl | hx
      · exact g5
      · have := h.old x hx; omega
    · rcases List.mem_cons.1 hx with rfl | hx
      · rcases hwW with c | c
        · exact .inl c
        · exact .inr (by omega)
      · exact .inl hx
end
def IR (r : PV) (l : List Nat) : Prop := (r = .nils ∧ l = []) ∨ ∃ fl, r = .data 1 (irows l) fl
def tvar (t : Ty) : List Nat := if t.kind = 1 then [t.num.toNat] else []
def nodeU (uvs : PV → List Nat) (t : Ty) : List Nat := t.units.flatMap uvs
theorem IR.app {r : PV} {l : List Nat} (h : IR r l) (s : PV) (H : Heap) (n : Nat) : appendX 1 8 s r H n = appendV 1 8 s (irows l) [] H n := by
  rcases h with ⟨rfl, rfl⟩ | ⟨fl, rfl⟩
  · rw [appendX_nils]; rfl
  · simp [appendX, elems, appElems]
section
variable {ac nb : Nat} {uvs : PV → List Nat} {tl : List Nat}
theorem vars_units {us : List PV} {fl : Fl} (hU : ∀ u ∈ us, ∃ r, pureV Gf 66 [u] = some r ∧ IR r (uvs u)) (hf : ∀ u ∈ us, flat u = true) (hl : us.length < 1000000) {x1 x2 x3 : PV} :
    ∀ (d i : Nat) (ul : List Nat) (W : List Nat) (n : Nat) (H : Heap) (tv uv x4 x5 x9 : PV), us.length - i = d → i ≤ us.length → ul.length + (us.flatMap uvs).length ≤ 1000000 → Acc ac (.arr 0 2 [[tv, uv]]) W n H tv uv tl (ul ++ (us.take i).flatMap uvs) →
      ∃ (H' : Heap) (n' : Nat) (W' : List Nat) (uv' y4 y5 y9 : PV), codeL Gf (.loop B_119_0) ⟨[.ptr ac 0 2 0 0, x1, x2, x3, x4, x5, .data 1 (urows us) fl, .int .i64 us.length, .int .i64 i, x9], H, n⟩ =
          some (.exit 0, ⟨[.ptr ac 0 2 0 0, x1, x2, x3, y4, y5, .data 1 (urows us) fl, .int .i64 us.length, .int .i64 us.length, y9], H', n'⟩) ∧
        Acc ac (.arr 0 2 [[tv, uv']]) W' n' H' tv uv' tl (ul ++ us.flatMap uvs) ∧ Stp W n H W' n' H' := by
  intro d
  induction d with
  | zero =>
    intro i ul W n H tv uv x4 x5 x9 hd hi hb hA
    have : i = us.length := by omega
    subst this
    rw [List.take_length] at hA
    refine ⟨H, n, W, uv, x4, x5, .bool false, codeL_loop_end ?_ (by simp), hA, .refl _ _ _⟩
    simp (disch := omega) only [go_sem, B_119_0]
  | succ d ih =>
    intro i ul W n H tv uv x4 x5 x9 hd hi hb hA
    have hil : i < us.length := by omega
    have hin := List.getElem_mem hil
    obtain ⟨r, er, hr⟩ := hU us[i] hin
    have hfl := hf us[i] hin
    have htake : us.take (i + 1) = us.take i ++ [us[i]] := by rw [List.take_add_one]; simp [hil]
    have hlt : ((us.take (i + 1)).flatMap uvs).length ≤ (us.flatMap uvs).length := by
      have : us.flatMap uvs = (us.take (i + 1)).flatMap uvs ++ (us.drop (i + 1)).flatMap uvs := by rw [← List.flatMap_append, List.take_append_drop]
      rw [this, List.length_append]; omega
    rw [htake, List.flatMap_append, List.length_append] at hlt
    simp only [List.flatMap_cons, List.flatMap_nil, List.append_nil] at hlt
    obtain ⟨v', H1, n', fp, W', e, g1, g2, g3, g4, g5⟩ := hA.swap.addT (uvs us[i]) [] (by rw [List.length_append]; omega)
    obtain ⟨hA2, st2⟩ := g5 (.arr 0 2 [[tv, v']])
    have hA3 := hA2.swap
    rw [List.append_assoc] at hA3
    obtain ⟨H', n2, W2, uv', y4, y5, y9, e2, hA4, st4⟩ := ih (i + 1) ul W' n' _ tv v' us[i] x5 (.bool true) (by omega) (by omega) hb (by rw [htake, List.flatMap_append]; simpa using hA3)
    have hrow := urows_at hil []
    rw [List.append_nil] at hrow
    have hix : idxAddrV 1 (.data 1 (urows us) fl) (.int .i64 (i : Nat)) = some (.dp fl.isTmp [us[i]] 0) := idxAddr_data 1 _ fl .i64 i _ hrow
    have ha := hA.a
    have happ := hr.app uv H n
    rw [e] at happ
    refine ⟨H', n2, W2, uv', y4, y5, y9, ?_, hA4, st2.trans st4⟩
    rw [← e2]
    refine codeL_loop_iff ?_
    have hk : pairsLeft 1024 M_119_1 0 = [] := rfl
    obtain ⟨rd, wr, al⟩ := fp
    cases wr <;> cases al <;> simp (disch := omega) only [go_sem, Nat.reduceAdd, Nat.reduceMul, Nat.reduceLeDiff, B_119_0, hix, ha, hfl, er, happ, g1, g2, cast_add1, hk]
structure VarsOk (uvs : PV → List Nat) (tot : List Ty) : Prop where
  num : ∀ t ∈ tot, t.kind = 1 → ∃ k : Nat, t.num = k
  un : ∀ t ∈ tot, ∀ u ∈ t.units, ∃ r, pureV Gf 66 [u] = some r ∧ IR r (uvs u)
  lt : tot.length ≤ 100000
  lu : (tot.flatMap (nodeU uvs)).length ≤ 100000
  us : ∀ t ∈ tot, t.units.length ≤ 100000
theorem vars_vst {tot : List Ty} (hok : VarsOk uvs tot) : Vst 119 [.ptr ac 0 2 0 0] [] tot (fun vis W n H => ∃ tv uv, Acc ac (.arr 0 2 [[tv, uv]]) W n H tv uv (vis.flatMap tvar) (vis.flatMap (nodeU uvs))) where
  keep vis W n H n' H' h hk hl := by
    obtain ⟨tv, uv, h⟩ := h
    exact ⟨tv, uv, h.keep hk hl⟩
  old vis W n H h := by
    obtain ⟨tv, uv, h⟩ := h
    exact h.old
  step t row vis W n H hrow hp h := by
    obtain ⟨tv, uv, hA⟩ := h
    obtain ⟨a, u, hrw, hta, hus⟩ := id hrow.five
    have ca := tys_cells hta
    have cu := us_cells hus
    have hin : t ∈ tot := hp.subset (by simp)
    have hul := hok.us t hin
    have hlen := hp.length_le
    simp only [List.length_append, List.length_singleton] at hlen
    have htl : ∀ v : List Ty, (v.flatMap tvar).length ≤ v.length := by
      intro v
      induction v with
      | nil => simp
      | cons x v ih =>
        have hx : (tvar x).length ≤ 1 := by unfold tvar; split <;> simp
        simp only [List.flatMap_cons, List.length_append, List.length_cons]; omega
    have hlu : (vis.flatMap (nodeU uvs)).length + (t.units.flatMap uvs).length ≤ 1000000 := by
      obtain ⟨r, hr⟩ := hp
      have := hok.lu
      rw [← hr] at this
      simp only [List.flatMap_append, List.length_append, List.flatMap_cons, List.flatMap_nil, List.append_nil, nodeU] at this ⊢
      omega
    have hvl := htl vis
    have hlt := hok.lt
    generalize hH1 : H.set n (.arr 0 5 [row]) = H1
    have h1 : ∀ id, id < n → H1.get id = H.get id := fun id hid => by rw [← hH1]; exact get_other _ _ (by omega)
    have hn1 : H1.get n = some (.arr 0 5 [row]) := by rw [← hH1, get_same]
    have st1 : Stp W n H W (n + 1) H1 := .fresh h1 (by omega)
    have hA1 := hA.keep h1 (Nat.le_succ n)
    have hnW : n ∉ W := fun hm => by have := hA.old _ hm; omega
    have ha1 := hA1.a
    have units : ∀ (H2 : Heap) (n2 : Nat) (W2 : List Nat) (tv2 x5 : PV) (TL : List Nat), Acc ac (.arr 0 2 [[tv2, uv]]) W2 n2 H2 tv2 uv TL (vis.flatMap (nodeU uvs)) →
        ∃ (H3 : Heap) (n3 : Nat) (W3 : List Nat) (uv3 y4 y5 y9 : PV), codeL Gf (.loop B_119_0) ⟨[.ptr ac 0 2 0 0, .agg row, .ptr n 0 5 0 0, .bool false, .tup [], x5, u, .int .i64 t.units.length, .int .i64 0, .tup []], H2, n2⟩ =
            some (.exit 0, ⟨[.ptr ac 0 2 0 0, .agg row, .ptr n 0 5 0 0, .bool false, y4, y5, u, .int .i64 t.units.length, .int .i64 t.units.length, y9], H3, n3⟩) ∧
          Acc ac (.arr 0 2 [[tv2, uv3]]) W3 n3 H3 tv2 uv3 TL ((vis ++ [t]).flatMap (nodeU uvs)) ∧ Stp W2 n2 H2 W3 n3 H3 := by
      intro H2 n2 W2 tv2 x5 TL hA2
      rcases hus.1 with ⟨rfl, eu⟩ | ⟨fl, rfl⟩
      · refine ⟨H2, n2, W2, uv, .tup [], x5, .bool false, codeL_loop_end ?_ (by simp), by simpa [nodeU, eu] using hA2, .refl _ _ _⟩
        rw [eu]
        simp (disch := omega) only [go_sem, B_119_0, List.length_nil]
        rfl
      · obtain ⟨H3, n3, W3, uv3, y4, y5, y9, e3, hA3, st3⟩ := vars_units (ac := ac) (uvs := uvs) (tl := TL) (us := t.units) (fl := fl) (x1 := .agg row) (x2 := .ptr n 0 5 0 0) (x3 := .bool false) (hok.un t hin) (fun v hv => (hus.2 v hv).1) (by omega) _ 0 (vis.flatMap (nodeU uvs)) W2 n2 H2 tv2 uv (.tup []) x5 (.tup []) rfl (Nat.zero_le _) hlu (by simpa using hA2)
        exact ⟨H3, n3, W3, uv3, y4, y5, y9, e3, by simpa [nodeU] using hA3, st3⟩
    have hlen2 : ∀ H n, lenX .slice H n u = some ⟨.int .i64 (t.units.length : Nat), H, n, .no⟩ := by
      intro H n
      rcases hus.1 with ⟨rfl, e⟩ | ⟨fl, rfl⟩
      · rw [e]; rfl
      · simp [lenX, urows]
    by_cases hk : t.kind = 1
    · obtain ⟨k, hnum⟩ := hok.num t hin hk
      have htv : (vis ++ [t]).flatMap tvar = vis.flatMap tvar ++ [k] := by simp [tvar, hk, hnum]
      obtain ⟨v', H2, n2, fp, W2, e2, g1, g2, g3, g4, g5⟩ := hA1.addT [k] [] (by simp only [List.length_singleton]; omega)
      obtain ⟨hA2, st2⟩ := g5 (.arr 0 2 [[v', uv]])
      obtain ⟨H3, n3, W3, uv3, y4, y5, y9, e3, hA3, st3⟩ := units _ _ _ _ (.bool true) _ hA2
      have hn2 := st2.get (by omega) hnW hn1
      refine ⟨H3, n3, W3, ?_, ⟨v', uv3, by rw [htv]; exact hA3⟩, (st1.trans st2).trans st3⟩
      show Gf 119 [.ptr ac 0 2 0 0, .agg row] H n = _
      have e2' : appendV 1 8 tv [[.int .i64 t.num]] [] H1 (n + 1) = some ⟨v', H2, n2, fp⟩ := by rw [hnum]; exact e2
      have hkk : (t.kind == 1) = true := by rw [hk]; rfl
      have hpl : pairsLeft 2048 M_119_0 0 = [] := rfl
      rw [R_119]
      subst hrw
      obtain ⟨rd, wr, al⟩ := fp
      cases wr <;> cases al <;> simp (disch := omega) only [go_sem, Nat.reduceAdd, Nat.reduceMul, Nat.reduceLeDiff, Nat.reduceBEq, Nat.reduceLT, G_119, hH1, hn1, hkk, ha1, e2', g1, g2, hn2, hlen2, e3, hpl]
    · have htv : (vis ++ [t]).flatMap tvar = vis.flatMap tvar := by simp [tvar, hk]
      obtain ⟨H3, n3, W3, uv3, y4, y5, y9, e3, hA3, st3⟩ := units _ _ _ _ (.bool false) _ hA1
      refine ⟨H3, n3, W3, ?_, ⟨tv, uv3, by rw [htv]; exact hA3⟩, st1.trans st3⟩
      show Gf 119 [.ptr ac 0 2 0 0, .agg row] H n = _
      have hkk : (t.kind == 1) = false := by simpa using hk
      rw [R_119]
      subst hrw
      simp (disch := omega) only [go_sem, Nat.reduceAdd, G_119, hH1, hn1, hkk, hlen2, e3]
end
section
variable {ac n : Nat} {o : Obj} {W : List Nat} {H : Heap} {tv uv : PV} {tl ul : List Nat}
theorem Acc.turn (h : Acc ac o W n H tv uv tl ul) {id n' : Nat} {H' : Heap} {tv' : PV} {tl' : List Nat} (hv : tv.vid = some id) (hw : id ∈ W) (hs : Same [id] n H H') (hn : n ≤ n') (ht : VW H' 1 id tv' (irows tl')) : Acc ac o W n' H' tv' uv tl' ul where
  a := (hs _ (h.old _ h.wa) (by simpa using (h.na _ (.inl hv)).symm)).trans h.a
  wa := h.wa
  t := .inr ⟨id, hw, ht⟩
  u := by
    rcases h.u with c | ⟨j, h1, h2⟩
    · exact .inl c
    · refine .inr ⟨j, h1, h2.same (hs _ (h.old _ h1) ?_)⟩
      simp only [List.mem_singleton]
      rintro rfl
      exact h.sep _ hv h2.vid
  sep i hi := by
    have := ht.vid.symm.trans hi
    simp only [Option.some.injEq] at this
    subst this
    exact h.sep _ hv
  na i hi := by
    rcases hi with hi | hi
    · have := ht.vid.symm.trans hi
      simp only [Option.some.injEq] at this
      subst this
      exact h.na _ (.inl hv)
    · exact h.na i (.inr hi)
  old x hx := by have := h.old x hx; omega
theorem Acc.sort (h : Acc ac o W n H tv uv tl ul) (hl : tl.length < 10000) :
    ∃ (H' : Heap) (n' : Nat) (tl' : List Nat), tl'.Perm tl ∧ Gf 67 [tv] H n = some (.tup [], H', n') ∧ Acc ac o W n' H' tv uv tl' ul ∧ Stp W n H W n' H' := by
  rcases h.t with ⟨rfl, rfl⟩ | ⟨id, hw, ht⟩
  · exact ⟨H, n, [], .refl _, sort_nil, h, .refl _ _ _⟩
  · have hv := ht.vid
    have lt := h.old _ hw
    obtain ⟨ver, rest, rfl, hH⟩ := ht
    have e : (irows tl).length = tl.length := by simp [irows]
    obtain ⟨n', H', l', s, e1⟩ := sort_run (n := n) (id := id) (ver := ver) (rest := rest) (len := tl.length) hl lt rfl hH
    refine ⟨H', n', l', s.perm, by rw [e]; exact e1, h.turn hv hw s.same s.le ⟨ver, rest, by simp [irows, s.perm.length_eq], s.get⟩, ⟨fun i h1 h2 => s.same i h1 ?_, fun _ h => .inl h, s.le⟩⟩
    simp only [List.mem_singleton]
    rintro rfl
    exact h2 hw
theorem Acc.comp (h : Acc ac o W n H tv uv tl ul) (hl : tl.length < 10000) :
    ∃ (H' : Heap) (tv' : PV) (tl' : List Nat), (∀ x, x ∈ tl' ↔ x ∈ tl) ∧ tl'.length ≤ tl.length ∧ Gf 120 [tv] H n = some (tv', H', n) ∧ Acc ac o W n H' tv' uv tl' ul ∧ Stp W n H W n H' := by
  rcases h.t with ⟨rfl, rfl⟩ | ⟨id, hw, ht⟩
  · exact ⟨H, .nils, [], fun _ => Iff.rfl, Nat.le_refl _, comp_nil, h, .refl _ _ _⟩
  · have hv := ht.vid
    have lt := h.old _ hw
    obtain ⟨ver, rest, rfl, hH⟩ := ht
    have e : (irows tl).length = tl.length := by simp [irows]
    obtain ⟨l', H', y, e1, g1, g2, g3, g4⟩ := comp_run (n := n) (id := id) (ver := ver) (rest := rest) (len := tl.length) hl rfl hH
    refine ⟨H', y, l', g3, g4, by rw [e]; exact e1, h.turn hv hw g2 (Nat.le_refl _) g1, ⟨fun i h1 h2 => g2 i h1 ?_, fun _ h => .inl h, Nat.le_refl _⟩⟩
    simp only [List.mem_singleton]
    rintro rfl
    exact h2 hw
end
theorem thaw_sln {W : List Nat} {H : Heap} {v : PV} {l : List Nat} (h : Sln W H v l) (d : Nat) : ∃ r is, thaw false H (d + 2) v = some (r, is) ∧ IR r l := by
  rcases h with ⟨rfl, rfl⟩ | ⟨id, _, ver, rest, rfl, hH⟩
  · exact ⟨.nils, [], rfl, .inl ⟨rfl, rfl⟩⟩
  · refine ⟨.data 1 (irows l) .part, [id], ?_, .inr ⟨_, rfl⟩⟩
    have e : (irows l).length = l.length := by simp [irows]
    have h1 : (((irows l ++ rest).drop 0).take (irows l).length) = irows l := by simp
    have h2 : thawLL false H (d + 1) (irows l) = some (irows l, []) := by
      unfold thawLL
      rw [if_pos]
      simp only [irows, List.all_eq_true, List.mem_map]
      rintro x ⟨a, _, rfl⟩ y hy
      simp only [List.mem_singleton] at hy
      subst hy
      rfl
    unfold thaw
    simp only [hH]
    rw [if_pos (by simp), h1, h2]
    rfl
theorem sln_same {W : List Nat} {H : Heap} {v : PV} {l : List Nat} (h : Sln W H v l) : PV.sameF deep v v = true := by
  rcases h with ⟨rfl, rfl⟩ | ⟨id, _, ver, rest, rfl, hH⟩
  · unfold deep PV.sameF
    simp [PV.same]
  · exact same_view _ _ _ _ _ _
theorem vars_run {uvs : PV → List Nat} {t : Ty} (h : TyOk t) (hv : VarsOk uvs t.pre) (hn : (t.pre.flatMap (nodeU uvs)).length < 10000) {row : List PV} (hrow : TyR row t) :
    ∃ (r1 r2 : PV) (l1 l2 : List Nat), pureV Gf 63 [.agg row] = some (.tup [r1, r2]) ∧ IR r1 l1 ∧ IR r2 l2 ∧ (∀ x, x ∈ l1 ↔ x ∈ t.pre.flatMap tvar) ∧ (∀ x, x ∈ l2 ↔ x ∈ t.pre.flatMap (nodeU uvs)) ∧ l1.length ≤ 256 ∧ l2.length ≤ (t.pre.flatMap (nodeU uvs)).length := by
  obtain ⟨a, u, hrw, hta, hus⟩ := id hrow.five
  have ca := tys_cells hta
  have cu := us_cells hus
  have hsz := Ty.pre_size t
  have hk1 := h.nodes
  have hk2 := h.units
  have hn0 : (Heap.set [] 0 (.arr 0 5 [row])).get 0 = some (.arr 0 5 [row]) := get_same _ _ _
  generalize hH1 : Heap.set [] 0 (.arr 0 5 [row]) = H1 at hn0
  obtain ⟨H2, n2, e2, k2, l2⟩ := ok_run h hrow H1 (0 + 1)
  have hn2 := (k2 0 (by omega)).trans hn0
  generalize hH3 : H2.set n2 (.arr 0 2 [[.nils, .nils]]) = H3
  have hn3 : H3.get 0 = some (.arr 0 5 [row]) := by rw [← hH3, get_other _ _ (by omega)]; exact hn2
  have hA : Acc n2 (.arr 0 2 [[.nils, .nils]]) [n2] (n2 + 1) H3 .nils .nils [] [] := ⟨by rw [← hH3, get_same], by simp, .inl ⟨rfl, rfl⟩, .inl ⟨rfl, rfl⟩, fun _ hi => (nomatch hi), fun _ hi => (by rcases hi with hi | hi <;> cases hi), fun x hx => by simp at hx; omega⟩
  obtain ⟨H4, n4, W4, e4, ⟨tv, uv, hA4⟩, st4⟩ := walk118 (vars_vst (ac := n2) hv) (by omega) (vis := []) (W := [n2]) (n := n2 + 1) (H := H3) hrow (List.prefix_refl _) ⟨.nils, .nils, hA⟩
  rw [List.nil_append] at hA4
  have htl : (t.pre.flatMap tvar).length ≤ 256 := by
    have : ∀ v : List Ty, (v.flatMap tvar).length ≤ v.length := by
      intro v
      induction v with
      | nil => simp
      | cons x v ih =>
        have hx : (tvar x).length ≤ 1 := by unfold tvar; split <;> simp
        simp only [List.flatMap_cons, List.length_append, List.length_cons]; omega
    have := this t.pre
    omega
  obtain ⟨H5, n5, tl5, p5, e5, hA5, st5⟩ := hA4.sort (by omega)
  obtain ⟨H6, n6, ul6, p6, e6, hA6, st6⟩ := hA5.swap.sort (by omega)
  have hA6' := hA6.swap
  have pl5 := p5.length_eq
  have pl6 := p6.length_eq
  obtain ⟨H7, tv7, tl7, s7, q7, e7, hA7, st7⟩ := hA6'.comp (by omega)
  obtain ⟨H8, uv8, ul8, s8, q8, e8, hA8, st8⟩ := hA7.swap.comp (by omega)
  have hA8' := hA8.swap
  obtain ⟨r1, i1, t1, ir1⟩ := thaw_sln hA8'.t 4092
  obtain ⟨r2, i2, t2, ir2⟩ := thaw_sln hA8'.u 4091
  have ha4 := hA4.a
  have ha5 := hA5.a
  have ha6 := hA6.a
  have ha7 := hA7.a
  refine ⟨r1, r2, tl7, ul8, ?_, ir1, ir2, fun x => by rw [s7, p5.mem_iff], fun x => by rw [s8, p6.mem_iff], by omega, by omega⟩
  rw [pureV_eq, R_63]
  subst hrw
  simp (disch := omega) only [go_sem, Nat.reduceAdd, Nat.reduceMul, Nat.reduceLeDiff, G_63, hH1, hn0, e2, hH3, hn3, e4, ha4, e5, ha5, e6, ha6, e7, ha7, e8]
  rw [ordIf_ok]
  · simp (disch := omega) only [go_sem, Nat.reduceAdd]
    rw [t1, t2]
    rfl
  · refine orderly_mix (by simp [M_63_0]) 528 rfl _ K_63_0 ?_
    intro x hx
    simp only [List.mem_cons, List.not_mem_nil, or_false] at hx
    rcases hx with rfl | rfl | rfl | rfl
    · exact .inl rfl
    · exact .inl rfl
    · exact .inl rfl
    · refine .inr (.inr (free_of [4] 528 rfl (by simp) rfl rfl ?_ ?_))
      · simp (disch := omega) only [go_sem, freeAt, ha6]
        exact sln_same hA6'.u
      · intro j hj
        simp only [List.mem_cons, List.not_mem_nil, or_false] at hj
        subst hj
        simp (disch := omega) only [go_sem, Nat.reduceAdd, freeAt, ha6, ha7, e7]
        exact sln_same hA6'.u
end Go.Vm
