/-
  EACH OPERATION WITHOUT A CALL, ITS VALUE ALONE: what the evaluator says of it is what the model does.
-/
import Derived.Test.YtebfimcapoekjaaGreatVd
namespace Go.Vm

section
variable {P : Program} {M : Mem} {φ : Places} {G : Objs} {w : World} {H : Heap} {n : Nat}

def toV : PV → Value
  | .int k m => .int k m
  | .bool b => .bool b
  | .str s => .string s
  | _ => undef

theorem int_sound {op : BinOp} {k : IntKind} {a b : Int} {r : PV} {t : TypeId} (h : intV op k a b = some r) (hs : op ≠ .shl ∧ op ≠ .shr) :
    ∃ v, (binOp op t (.int k a) (.int k b)).run P w = .ok v w ∧ Rv M φ r v := by
  refine ⟨toV r, ?_⟩
  cases op <;> simp only [intV] at h <;> first
    | (cases h; exact ⟨by simp [binOp, Op.intArith, Op.intBits, Op.intCmp, toV], by constructor⟩)
    | (split at h
       · cases h
       · rename_i hb; cases h; exact ⟨by simp [binOp, Op.intDiv, hb, toV], by constructor⟩)
    | (cases h; done)
    | (simp at hs)

theorem shift_sound {op : BinOp} {k k' : IntKind} {a b : Int} {r : PV} {t : TypeId} (h : shiftV op k a b = some r) :
    ∃ v, (binOp op t (.int k a) (.int k' b)).run P w = .ok v w ∧ Rv M φ r v := by
  refine ⟨toV r, ?_⟩
  unfold shiftV at h
  split at h
  · cases h
  · rename_i hb
    cases op <;> simp only [] at h <;> first
      | (cases h; exact ⟨by simp [binOp, Op.shift, hb, toV], by constructor⟩)
      | cases h

theorem str_sound {op : BinOp} {a b : ByteArray} {r : PV} {t : TypeId} (h : strV op a b = some r) :
    ∃ v, (binOp op t (.string a) (.string b)).run P w = .ok v w ∧ Rv M φ r v := by
  refine ⟨toV r, ?_⟩
  cases op <;> simp only [strV] at h <;> first
    | (cases h; exact ⟨by simp [binOp, Op.stringOp, toV], by constructor⟩)
    | (cases h; done)

theorem bin_sound {op : BinOp} {p q r : PV} {a b : Value} {t : TypeId} (h : binV op p q = some r) (ha : Rv M φ p a) (hb : Rv M φ q b) :
    ∃ v, (binOp op t a b).run P w = .ok v w ∧ Rv M φ r v := by
  unfold binV at h
  split at h
  · rename_i k x k' y
    cases ha; cases hb
    by_cases hs : op ≠ .shl ∧ op ≠ .shr
    · have h' : (if k = k' then intV op k x y else none) = some r := by
        cases op <;> first | exact h | simp at hs
      split at h'
      · rename_i e; subst e; exact int_sound h' hs
      · cases h'
    · have h' : shiftV op k x y = some r := by
        cases op <;> first | exact h | simp at hs
      exact shift_sound h'
  · cases ha; cases hb; exact str_sound h
  · cases h

theorem guard_plain {op : BinOp} {p q r : PV} {a b : Value} {t : TypeId} {x y : Operand} (h : binV op p q = some r) (ha : Rv M φ p a) (hb : Rv M φ q b) :
    (eqGuard op t x y a b).run P w = .ok () w := by
  unfold binV at h
  split at h
  · cases ha; cases hb
    unfold eqGuard
    split <;> rfl
  · cases ha; cases hb
    unfold eqGuard
    split <;> rfl
  · cases h

def eqKind : TypeDesc → Option EqK
  | .bool => some .bool
  | .slice _ => some .slice
  | .map .. => some .map
  | .func .. => some .func
  | .pointer _ => some .ptr
  | _ => none

theorem nilEq_sound {kd : EqK} {p q : PV} {r : Bool} {a b : Value} {t : TypeId} {d : TypeDesc} (h : nilEq kd p q = some r) (ha : Rv M φ p a) (hb : Rv M φ q b)
    (hd : P.underlying t = some d) (hk : eqKind d = some kd) : (Op.equal t a b).run P w = .ok r w ∧ ∀ op x y, (eqGuard op t x y a b).run P w = .ok () w := by
  have hu : ∀ w, (underlying t).run P w = .ok d w := fun w => run_underlying' hd
  unfold nilEq at h
  split at h <;> first | (cases h; done) | skip
  all_goals
    cases h
    cases ha
    cases hb
    cases d <;> simp only [eqKind] at hk <;> first | (cases hk; done) | skip
    refine ⟨by rw [Op.equal, show Op.maxDepth = 9999 + 1 from rfl, Op.equalIn]; simp only [Sem.run_bind, hu, Result.andThen_ok]; rfl, fun op x y => ?_⟩
    unfold eqGuard
    split <;> rfl

theorem eqK_sound {kd : EqK} {neg : Bool} {op : BinOp} {p q : PV} {r : Bool} {a b : Value} {t : TypeId} {d : TypeDesc} (h : nilEq kd p q = some r) (ha : Rv M φ p a) (hb : Rv M φ q b)
    (hd : P.underlying t = some d) (hk : eqKind d = some kd) (hop : op = if neg then .neq else .eql) : (binOp op t a b).run P w = .ok (.bool (if neg then !r else r)) w := by
  have h0 := (nilEq_sound (w := w) h ha hb hd hk).1
  unfold nilEq at h
  cases neg <;> simp only [Bool.false_eq_true, if_false, if_true] at hop <;> subst hop
  all_goals
    split at h <;> first | (cases h; done) | skip
    all_goals
      cases ha
      cases hb
      simp [binOp, h0]

theorem un_sound {op : UnOp} {p r : PV} {a : Value} (h : unV op p = some r) (ha : Rv M φ p a) : ∃ v, (Op.unary op a).run P w = .ok v w ∧ Rv M φ r v := by
  refine ⟨toV r, ?_⟩
  unfold unV at h
  split at h <;> first
    | (cases h; cases ha; exact ⟨by simp [Op.unary, Op.intArith, Op.intBits, toV], by constructor⟩)
    | cases h

theorem conv_sound {k k' : IntKind} {src dst : TypeId} {m : Int} {ds : TypeDesc} (hs : P.underlying src = some ds) (hd : P.underlying dst = some (.int k)) :
    (convert src dst (.int k' m)).run P w = .ok (.int k (k.wrap m)) w := by
  cases ds <;> simp [convert, run_underlying' hs, run_underlying' hd, Conv.intToInt]

theorem convStr_sound {src dst : TypeId} {s : ByteArray} {ds : TypeDesc} (hs : P.underlying src = some ds) (hd : P.underlying dst = some .string) :
    (convert src dst (.string s)).run P w = .ok (.string s) w := by
  cases ds <;> simp [convert, run_underlying' hs, run_underlying' hd]

/-- an address within what is not written -/
theorem field_dp {t : Bool} {cs : List PV} {o off : Nat} {v : Value} (h : Rv M φ (.dp t cs o) v) :
    ∃ a, v = .pointer (some a) ∧ Rv M φ (.dp t cs (o + off)) (.pointer (some (a.add off))) := by
  cases h with
  | dp _ _ _ b o' vs h0 h1 h2 h3 =>
    refine ⟨_, rfl, ?_⟩
    rw [cellOf_add, Nat.add_assoc]
    exact .dp t cs (o + off) b o' vs h0 h1 h2 h3

theorem field_ptr {id ver k i o off : Nat} {v : Value} (h : Rv M φ (.ptr id ver k i o) v) :
    ∃ a, v = .pointer (some a) ∧ Rv M φ (.ptr id ver k i (o + off)) (.pointer (some (a.add off))) := by
  cases h with
  | ptr _ _ _ _ _ l h1 h2 =>
    refine ⟨_, rfl, ?_⟩
    rw [cellOf_add, Nat.add_assoc]
    exact .ptr id ver k i (o + off) l h1 h2

theorem fieldPlace_run {a : Addr} {f : Field} {s : Nat} (hs : tySize P f.type = some s) (h0 : s ≠ 0) : (fieldPlace a f).run P w = .ok (a.add f.offset) w := by
  simp [fieldPlace, run_sizeOf' hs, h0]

theorem fieldAt_run {s : TypeId} {i : Nat} {a : Addr} {fs : Array Field} {f : Field} {sz : Nat} (hu : P.underlying s = some (.struct fs)) (hf : fs[i]? = some f)
    (hs : tySize P f.type = some sz) (h0 : sz ≠ 0) : (Instr.fieldAt s (.pointer (some a)) i).run P w = .ok (.pointer (some (a.add f.offset))) w := by
  simp [Instr.fieldAt, run_underlying' hu, hf, Instr.sureAddr, fieldPlace_run hs h0]

theorem part_sound {cs : List PV} {vs : Array Value} {off size : Nat} {g : Bool} {p : PV} {t : TypeId} (h : Rv M φ (.agg cs) (.agg vs)) (hp : partAt g cs off size = some p)
    (hg : tyAgg P t = some g) (hs : tySize P t = some size) : ∃ v, (part t vs off).run P w = .ok v w ∧ Rv M φ p v := by
  cases h with
  | agg _ _ h1 h2 h3 =>
    unfold partAt at hp
    split at hp
    · rename_i hlen
      cases g with
      | true =>
        simp only [if_true, Option.some.injEq] at hp
        subst hp
        refine ⟨.agg (vs.extract off (off + size)), by simp [part, run_isAgg' hg, run_sizeOf' hs], ?_⟩
        have hsz : ((cs.drop off).take size).length = size := by simp; omega
        have hget : ∀ j, j < size → (vs.extract off (off + size)).getD j undef = vs.getD (off + j) undef := by
          intro j hj
          have hlt : off + j < vs.size := by omega
          have hlt2 : j < (vs.extract off (off + size)).size := by simp; omega
          have hm : j < min (off + size) vs.size - off := by omega
          simp [Array.getD_eq_getD_getElem?, hlt, hm]
        refine .agg _ _ (by simp; omega) ?_ ?_
        · intro j hj
          rw [hsz] at hj
          rw [hget j hj]; exact h2 _ (by omega)
        · intro j hj
          rw [hsz] at hj
          rw [hget j hj, getD_take_drop hj]; exact h3 _ (by omega)
      | false =>
        simp only [Bool.false_eq_true, if_false] at hp
        split at hp
        · cases hp
          have hlt : off < vs.size := by omega
          obtain ⟨u, hu1, hu2⟩ : ∃ u, vs[off]? = some u ∧ u = vs.getD off undef := ⟨_, Array.getElem?_eq_getElem hlt, by simp [Array.getD, hlt]⟩
          exact ⟨u, by simp [part, run_isAgg' hg, hu1], by rw [hu2]; exact h3 off (by omega)⟩
        · cases hp
    · cases hp

theorem idx_data {k j : Nat} {xs : List (List PV)} {fl : Fl} {v : Value} (h : Rv M φ (.data k xs fl) v) (hj : j < xs.length) :
    ∃ b o cap, v = .slice (some (cellOf b o)) xs.length cap ∧ Rv M φ (.dp fl.isTmp (xs.getD j []) 0) (.pointer (some (cellOf b (o + j * k)))) := by
  cases h with
  | data _ _ _ b o cap vs h0 h1 h2 h3 h4 h5 h6 =>
    refine ⟨b, o, cap, rfl, ?_⟩
    have hk := h3 j hj
    refine .dp fl.isTmp (xs.getD j []) 0 b (o + j * k) (vs j) (h0 _ (getD_mem hj)) ?_ ?_ ?_
    · intro i hi; rw [hk] at hi; rw [Nat.add_assoc]; exact h4 j i hj hi
    · intro i hi; rw [hk] at hi; exact h5 j i hj hi
    · intro i hi; rw [hk] at hi; exact h6 j i hj hi

theorem idx_view {id ver k off len j : Nat} {cap : Option Nat} {v : Value} (h : Rv M φ (.view id ver k off len cap) v) (hj : j < len) :
    ∃ a cv, v = .slice (some a) len cv ∧ Rv M φ (.ptr id ver k (off + j) 0) (.pointer (some (a.add (j * k)))) := by
  cases h with
  | view _ _ _ _ _ _ l a cv h1 h2 h3 h4 h5 h6 h7 h8 =>
    refine ⟨a, cv, rfl, ?_⟩
    rw [h6 (by omega), cellOf_add]
    have e : (l.base + off) * k + j * k = (l.base + (off + j)) * k + 0 := by rw [← Nat.add_mul, Nat.add_assoc]; omega
    rw [e]
    exact .ptr id ver k (off + j) 0 l h1 h2

theorem indexAt_slice {t e : TypeId} {a : Addr} {len cap k : Nat} {kk : IntKind} {j : Int} (hu : P.underlying t = some (.slice e)) (hs : tySize P e = some k) (h0 : 0 ≤ j) (hj : j.toNat < len) :
    (Instr.indexAt t (.slice (some a) len cap) (.int kk j)).run P w = .ok (.pointer (some (a.add (j.toNat * k)))) w := by
  have : j < len := by omega
  simp [Instr.indexAt, asIntOf, run_underlying' hu, run_sizeOf' hs, h0, this]

theorem indexAt_array {t e : TypeId} {a : Addr} {len k : Nat} {kk : IntKind} {j : Int} (hu : P.underlying t = some (.array len e)) (hs : tySize P e = some k) (h0 : 0 ≤ j) (hj : j.toNat < len) :
    (Instr.indexAt t (.pointer (some a)) (.int kk j)).run P w = .ok (.pointer (some (a.add (j.toNat * k)))) w := by
  have : j < len := by omega
  simp [Instr.indexAt, asIntOf, run_underlying' hu, run_sizeOf' hs, h0, this, Instr.sureAddr]

/-- a bound of a slice expression, as it is read -/
def BoundR (d a : Nat) (v : Option Value) : Prop := v = none ∧ a = d ∨ ∃ k m, v = some (.int k m) ∧ 0 ≤ m ∧ a = Int.toNat m

theorem bound_sound {ρ : Src → PV} {d a : Nat} {x : Option Src} {v : Option Value} (h : bound ρ d x = some a)
    (hv : x = none ∧ v = none ∨ ∃ y u, x = some y ∧ v = some u ∧ Rv M φ (ρ y) u) : BoundR d a v := by
  rcases hv with ⟨rfl, rfl⟩ | ⟨y, u, rfl, rfl, hr⟩
  · simp only [bound, Option.some.injEq] at h; exact .inl ⟨rfl, h.symm⟩
  · simp only [bound] at h
    split at h
    · rename_i k m hy
      rw [hy] at hr
      cases hr
      split at h
      · rename_i h0; cases h; exact .inr ⟨k, m, rfl, h0, rfl⟩
      · cases h
    · cases h

theorem sliceBound_run {k : IntKind} {m : Int} {y : Nat} {code : BoundsCode} (h0 : 0 ≤ m) (h : m.toNat ≤ y) : (Instr.sliceBound (.int k m) y code).run P w = .ok m.toNat w := by
  have : m ≤ y := by omega
  simp [Instr.sliceBound, asIntOf, h0, this]

theorem bounds_run {isSlice : Bool} {len cap a b m : Nat} {lo hi mx : Option Value} (hlo : BoundR 0 a lo) (hhi : BoundR len b hi) (hmx : BoundR cap m mx) (hh : hi = none → mx = none)
    (h1 : a ≤ b) (h2 : b ≤ m) (h3 : m ≤ cap) : (Instr.sliceBounds isSlice len cap lo hi mx).run P w = .ok (a, b, m) w := by
  rcases hmx with ⟨rfl, rfl⟩ | ⟨k3, m3, rfl, g3, rfl⟩
  · rcases hhi with ⟨rfl, rfl⟩ | ⟨k2, m2, rfl, g2, rfl⟩
    · rcases hlo with ⟨rfl, rfl⟩ | ⟨k1, m1, rfl, g1, rfl⟩
      · simp [Instr.sliceBounds]
      · simp [Instr.sliceBounds, sliceBound_run g1 h1]
    · rcases hlo with ⟨rfl, rfl⟩ | ⟨k1, m1, rfl, g1, rfl⟩
      · simp [Instr.sliceBounds, sliceBound_run g2 h2]
      · simp [Instr.sliceBounds, sliceBound_run g2 h2, sliceBound_run g1 h1]
  · rcases hhi with ⟨rfl, rfl⟩ | ⟨k2, m2, rfl, g2, rfl⟩
    · exact absurd (hh rfl) (by simp)
    · rcases hlo with ⟨rfl, rfl⟩ | ⟨k1, m1, rfl, g1, rfl⟩
      · simp [Instr.sliceBounds, sliceBound_run g3 h3, sliceBound_run g2 h2]
      · simp [Instr.sliceBounds, sliceBound_run g3 h3, sliceBound_run g2 h2, sliceBound_run g1 h1]

theorem slice_run {t e : TypeId} {x : Option Addr} {len cap a b m k : Nat} {lo hi mx : Option Value} (hu : P.underlying t = some (.slice e)) (hs : tySize P e = some k)
    (hlo : BoundR 0 a lo) (hhi : BoundR len b hi) (hmx : BoundR cap m mx) (hh : hi = none → mx = none) (h1 : a ≤ b) (h2 : b ≤ m) (h3 : m ≤ cap) :
    (Instr.sliceAt t (.slice x len cap) lo hi mx).run P w = .ok (.slice (if m = a then x else x.map (·.add (a * k))) (b - a) (m - a)) w := by
  simp [Instr.sliceAt, Instr.slice, run_underlying' hu, run_sizeOf' hs, bounds_run hlo hhi hmx hh h1 h2 h3]

theorem substr_run {t : TypeId} {s : ByteArray} {a b : Nat} {lo hi : Option Value} (hu : P.underlying t = some .string)
    (hlo : BoundR 0 a lo) (hhi : BoundR s.size b hi) (h1 : a ≤ b) (h2 : b ≤ s.size) :
    (Instr.sliceAt t (.string s) lo hi none).run P w = .ok (.string (s.extract a b)) w := by
  have := bounds_run (P := P) (w := w) (isSlice := false) hlo hhi (.inl ⟨rfl, rfl⟩) (fun _ => rfl) h1 h2 (Nat.le_refl _)
  simp [Instr.sliceAt, Instr.slice, run_underlying' hu, this]

theorem data_sub {k lo c : Nat} {xs : List (List PV)} {fl fl' : Fl} {b o cap' : Nat} {vs : Nat → Nat → Value} (h0 : ∀ x ∈ xs, ∀ c ∈ x, Cl fl.isTmp c)
    (h3 : ∀ i, i < xs.length → (xs.getD i []).length = k) (h4 : ∀ i j, i < xs.length → j < k → M fl.isTmp (cellOf b (o + (i * k + j))) = some (vs i j))
    (h5 : ∀ i j, i < xs.length → j < k → one (vs i j) = true) (h6 : ∀ i j, i < xs.length → j < k → Rv M φ ((xs.getD i []).getD j .any) (vs i j))
    (hc : lo + c ≤ xs.length) (htmp : fl'.isTmp = fl.isTmp) (hcap : c ≤ cap') (hfull : fl' = .full → cap' = c) :
    Rv M φ (.data k ((xs.drop lo).take c) fl') (.slice (some (cellOf b (o + lo * k))) c cap') := by
  have hlen : ((xs.drop lo).take c).length = c := by simp; omega
  have hget : ∀ i, i < c → ((xs.drop lo).take c).getD i [] = xs.getD (lo + i) [] := by
    intro i hi
    simp [List.getD_eq_getElem?_getD, hi, List.getElem?_drop]
  have := Rv.data (M := M) (φ := φ) k ((xs.drop lo).take c) fl' b (o + lo * k) cap' (fun i j => vs (lo + i) j) (by
      intro x hx c' hc'; rw [htmp]; exact h0 x (List.mem_of_mem_drop (List.mem_of_mem_take hx)) c' hc') (by omega) (by intro e; rw [hlen]; exact hfull e)
    (fun i hi => by rw [hlen] at hi; rw [hget i hi]; exact h3 _ (by omega))
    (fun i j hi hj => by
      rw [hlen] at hi; rw [htmp]
      have := h4 (lo + i) j (by omega) hj
      rw [Nat.add_mul] at this
      have e : o + (lo * k + i * k + j) = o + lo * k + (i * k + j) := by omega
      rw [← e]; exact this)
    (fun i j hi hj => by rw [hlen] at hi; exact h5 _ _ (by omega) hj)
    (fun i j hi hj => by rw [hlen] at hi; rw [hget i hi]; exact h6 _ _ (by omega) hj)
  rw [hlen] at this
  exact this

theorem Fl.sub_tmp (fl : Fl) (b : Bool) : (fl.sub b).isTmp = fl.isTmp := by cases fl <;> cases b <;> rfl
theorem Fl.cut_tmp (fl : Fl) (b : Bool) : (fl.cut b).isTmp = fl.isTmp := by cases fl <;> cases b <;> rfl
theorem Fl.sub_full {fl : Fl} {b : Bool} (h : fl.sub b = .full) : fl = .full ∧ b = true := by cases fl <;> cases b <;> simp_all [Fl.sub]
theorem Fl.cut_full {fl : Fl} {b : Bool} (h : fl.cut b = .full) : b = true := by cases fl <;> cases b <;> simp_all [Fl.cut]

theorem slice_sound {t e : TypeId} {k l a b m0 : Nat} {p r : PV} {v : Value} {lo hi mx : Option Value} (hu : P.underlying t = some (.slice e)) (hs : tySize P e = some k)
    (hl : lenV p = some l) (hv : Rv M φ p v) (hr : sliceV k p a b (mx.map fun _ => m0) = some r) (hlo : BoundR 0 a lo) (hhi : BoundR l b hi) (hmx : mx = none ∨ BoundR 0 m0 mx)
    (hh : hi = none → mx = none) : ∃ u, (Instr.sliceAt t v lo hi mx).run P w = .ok u w ∧ Rv M φ r u := by
  have hmx' : ∀ cap, mx = none → BoundR cap cap mx := fun cap e => .inl ⟨e, rfl⟩
  have hmx'' : ∀ cap, mx ≠ none → BoundR cap m0 mx := by
    intro cap e
    rcases hmx with h | h
    · exact absurd h e
    · rcases h with ⟨h, _⟩ | h
      · exact absurd h e
      · exact .inr h
  cases hv <;> simp only [sliceV] at hr <;> first | (cases hr; done) | skip
  case nils =>
    simp only [lenV, Option.some.injEq] at hl
    subst hl
    split at hr
    · rename_i hc
      cases hr
      obtain ⟨rfl, rfl, hm⟩ := hc
      cases mx with
      | none =>
        exact ⟨_, slice_run hu hs hlo hhi (hmx' 0 rfl) hh (Nat.le_refl _) (Nat.le_refl _) (Nat.le_refl _), by simp; exact .nils⟩
      | some x =>
        simp at hm
        subst hm
        exact ⟨_, slice_run hu hs hlo hhi (hmx'' 0 (by simp)) hh (Nat.le_refl _) (Nat.le_refl _) (Nat.le_refl _), by simp; exact .nils⟩
    · cases hr
  case data k' xs fl b' o cap vs h0 h1 h2 h3 h4 h5 h6 =>
    simp only [lenV, Option.some.injEq] at hl
    subst hl
    split at hr
    · rename_i hc
      obtain ⟨rfl, hab, hb⟩ := hc
      have hlow : (xs.drop a).take (b - a) = (xs.drop a).take (b - a) := rfl
      cases mx with
      | none =>
        simp only [Option.map_none, Option.some.injEq] at hr
        subst hr
        refine ⟨_, slice_run hu hs hlo hhi (hmx' cap rfl) hh hab (by omega) (Nat.le_refl _), ?_⟩
        have hflag : (fl.sub (b == xs.length)).isTmp = fl.isTmp := by
          exact Fl.sub_tmp _ _
        have hfull : (fl.sub (b == xs.length)) = .full → cap - a = b - a := by
          intro e
          obtain ⟨e1, e2⟩ := Fl.sub_full e
          have := h2 e1
          simp at e2
          omega
        by_cases hca : cap = a
        · have hzero : b - a = 0 := by omega
          rw [if_pos hca]
          have := data_sub (M := M) (φ := φ) (k := k) (lo := 0) (c := 0) (xs := (xs.drop a).take (b - a)) (fl := fl) (fl' := fl.sub (b == xs.length)) (b := b') (o := o) (cap' := cap - a) (vs := vs)
            (fun x hx c hc => h0 x (List.mem_of_mem_drop (List.mem_of_mem_take hx)) c hc) (fun i hi => by simp [hzero] at hi) (fun i j hi _ => by simp [hzero] at hi) (fun i j hi _ => by simp [hzero] at hi) (fun i j hi _ => by simp [hzero] at hi)
            (by omega) hflag (by omega) (by intro e; have := hfull e; omega)
          simpa [hzero] using this
        · rw [if_neg hca]
          have := data_sub (M := M) (φ := φ) (k := k) (lo := a) (c := b - a) (fl := fl) (fl' := fl.sub (b == xs.length)) (cap' := cap - a) h0 h3 h4 h5 h6 (by omega) hflag (by omega) hfull
          simpa [cellOf_add] using this
      | some x =>
        simp only [Option.map_some] at hr
        split at hr
        · rename_i hm
          cases hr
          refine ⟨_, slice_run hu hs hlo hhi (hmx'' cap (by simp)) hh hab hm.1 (by omega), ?_⟩
          have hflag : (fl.cut (m0 == b)).isTmp = fl.isTmp := by
            exact Fl.cut_tmp _ _
          have hfull : (fl.cut (m0 == b)) = .full → m0 - a = b - a := by
            intro e
            have := Fl.cut_full e
            simp at this
            omega
          by_cases hca : m0 = a
          · have hzero : b - a = 0 := by omega
            rw [if_pos hca]
            have := data_sub (M := M) (φ := φ) (k := k) (lo := 0) (c := 0) (xs := (xs.drop a).take (b - a)) (fl := fl) (fl' := fl.cut (m0 == b)) (b := b') (o := o) (cap' := m0 - a) (vs := vs)
              (fun x hx c hc => h0 x (List.mem_of_mem_drop (List.mem_of_mem_take hx)) c hc) (fun i hi => by simp [hzero] at hi) (fun i j hi _ => by simp [hzero] at hi) (fun i j hi _ => by simp [hzero] at hi) (fun i j hi _ => by simp [hzero] at hi)
              (by omega) hflag (by omega) (by intro e; have := hfull e; omega)
            simpa [hzero] using this
          · rw [if_neg hca]
            have := data_sub (M := M) (φ := φ) (k := k) (lo := a) (c := b - a) (fl := fl) (fl' := fl.cut (m0 == b)) (cap' := m0 - a) h0 h3 h4 h5 h6 (by omega) hflag (by omega) hfull
            simpa [cellOf_add] using this
        · cases hr
    · cases hr
  case view id ver k' off len cap lc ad cv h1 h2 h3 h4 h5 h6 h7 h8 =>
    simp only [lenV, Option.some.injEq] at hl
    subst hl
    split at hr
    · rename_i hc
      obtain ⟨rfl, hab⟩ := hc
      have key : ∀ (m : Nat) (cap' : Option Nat), BoundR cv m mx → b ≤ m → m ≤ cv → (∀ c, cap' = some c → m - a = c) → (cap' = none → m = cv ∧ cap = none) →
          ∃ u, (Instr.sliceAt t (.slice (some ad) len cv) lo hi mx).run P w = .ok u w ∧ Rv M φ (.view id ver k (off + a) (b - a) cap') u := by
        intro m cap' hm hbm hmc hc1 hc2
        have hrun := slice_run (P := P) (w := w) (x := some ad) hu hs hlo hhi hm hh hab hbm hmc
        have key2 : ∃ ad', (if m = a then some ad else (some ad).map (·.add (a * k))) = some ad' ∧ (m - a ≠ 0 → ad' = cellOf lc.block ((lc.base + (off + a)) * k)) ∧ ad'.spot = none := by
          by_cases hma : m = a
          · exact ⟨ad, by simp [hma], fun hne => absurd (by omega) hne, h8⟩
          · have hadd : ad.add (a * k) = cellOf lc.block ((lc.base + (off + a)) * k) := by rw [h6 (by omega), cellOf_add, ← Nat.add_mul, Nat.add_assoc]
            exact ⟨ad.add (a * k), by simp [hma], fun _ => hadd, by rw [hadd]; rfl⟩
        obtain ⟨ad', e1, e2, e3'⟩ := key2
        rw [e1] at hrun
        refine ⟨_, hrun, .view id ver k (off + a) (b - a) cap' lc ad' (m - a) h1 h2 (by omega) hc1 ?_ e2 (by omega) e3'⟩
        intro hn
        obtain ⟨e3, e4⟩ := hc2 hn
        have := h5 e4
        omega
      split at hr
      · rename_i hmn
        have hmx0 : mx = none := by simpa using hmn
        split at hr
        · cases hr
          exact key cv none (hmx' cv hmx0) (by omega) (Nat.le_refl _) (fun c e => by cases e) (fun _ => ⟨rfl, rfl⟩)
        · cases hr
      · rename_i c hmn
        have hmx0 : mx = none := by simpa using hmn
        have hcv := h4 c rfl
        split at hr
        · cases hr
          exact key cv (some (c - a)) (hmx' cv hmx0) (by omega) (Nat.le_refl _) (fun c' e => by cases e; omega) (fun e => by cases e)
        · cases hr
      · rename_i m c hmn
        have hmx0 : mx ≠ none := by intro e; simp [e] at hmn
        have hm0 : m0 = m := by cases mx <;> simp at hmn; exact hmn
        subst hm0
        have hcv := h4 c rfl
        split at hr
        · rename_i hm
          cases hr
          exact key m0 (some (m0 - a)) (hmx'' cv hmx0) hm.1 (by omega) (fun c' e => by cases e; rfl) (fun e => by cases e)
        · cases hr
      · rename_i m hmn
        have hmx0 : mx ≠ none := by intro e; simp [e] at hmn
        have hm0 : m0 = m := by cases mx <;> simp at hmn; exact hmn
        subst hm0
        split at hr
        · rename_i hm
          cases hr
          exact key m0 (some (m0 - a)) (hmx'' cv hmx0) hm.1 (by omega) (fun c' e => by cases e; rfl) (fun e => by cases e)
        · cases hr
    · cases hr

end
end Go.Vm
