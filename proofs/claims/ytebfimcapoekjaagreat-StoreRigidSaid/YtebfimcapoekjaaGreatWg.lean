/-
  StoreRigid: the whole.
-/
import Derived.Test.YtebfimcapoekjaaGreatWf
import Derived.Test.YtebfimcapoekjaaGreatWe0
import Derived.Test.YtebfimcapoekjaaGreatWe1
import Derived.Test.YtebfimcapoekjaaGreatWe2
import Derived.Test.YtebfimcapoekjaaGreatWe3
import Derived.Test.YtebfimcapoekjaaGreatWe4
import Derived.Test.YtebfimcapoekjaaGreatWe5
namespace Go.Vm
set_option maxRecDepth 100000

theorem few (a : Int) (h0 : 0 ≤ a) (h1 : a < 5) : a = 0 ∨ a = 1 ∨ a = 2 ∨ a = 3 ∨ a = 4 := by omega

theorem pairs_all (a b : Int) (ha : 0 ≤ a) (ha' : a < 5) (hb : 0 ≤ b) (hb' : b < 5) : bothTold a b = true := by
  rcases few a ha ha' with rfl | rfl | rfl | rfl | rfl <;> rcases few b hb hb' with rfl | rfl | rfl | rfl | rfl
  · exact pair_0_0
  · exact pair_0_1
  · exact pair_0_2
  · exact pair_0_3
  · exact pair_0_4
  · exact pair_1_0
  · exact pair_1_1
  · exact pair_1_2
  · exact pair_1_3
  · exact pair_1_4
  · exact pair_2_0
  · exact pair_2_1
  · exact pair_2_2
  · exact pair_2_3
  · exact pair_2_4
  · exact pair_3_0
  · exact pair_3_1
  · exact pair_3_2
  · exact pair_3_3
  · exact pair_3_4
  · exact pair_4_0
  · exact pair_4_1
  · exact pair_4_2
  · exact pair_4_3
  · exact pair_4_4

theorem units_all (a : Int) (ha : 0 ≤ a) (ha' : a < 5) : pureV rigidF 17 [.agg [.int .i64 2, .int .i64 a, .str ⟨#[]⟩]] = some (unitR a) := by
  rcases few a ha ha' with rfl | rfl | rfl | rfl | rfl
  · exact unit_run_0
  · exact unit_run_1
  · exact unit_run_2
  · exact unit_run_3
  · exact unit_run_4

theorem within_range (x : Int) : 0 ≤ IntKind.i64.wrap ((IntKind.u64.wrap x).tmod 5) ∧ IntKind.i64.wrap ((IntKind.u64.wrap x).tmod 5) < 5 := by
  have h0 : 0 ≤ IntKind.u64.wrap x := by
    unfold IntKind.wrap IntKind.bits IntKind.signed
    simp only [Bool.false_and, Bool.false_eq_true, if_false]
    exact Int.emod_nonneg _ (by decide)
  have h1 : (IntKind.u64.wrap x).tmod 5 = (IntKind.u64.wrap x) % 5 := Int.tmod_eq_emod_of_nonneg h0
  rw [h1, wrap64_small _ (Int.emod_nonneg _ (by decide)) (by have := Int.emod_lt_of_pos (IntKind.u64.wrap x) (show (0 : Int) < 5 by decide); omega)]
  exact ⟨Int.emod_nonneg _ (by decide), Int.emod_lt_of_pos _ (by decide)⟩

theorem rigid_rounds (k : Nat) (xs : List (List PV)) (fl : Fl) (hxs : ∀ i, i < xs.length → ∃ x, xs[i]? = some [.int .i64 x]) : ∀ (m i : Nat), i ≤ 12 → 12 - i < m → ∀ (c d e f o p q r : PV) (H : Heap) (n : Nat),
    ∃ i' c' d' e' f' o' p' q' r' H' n', iter (fun s => evalC rigidF k (loopOf F_4.body) s) m ⟨rigS xs fl (i : Nat) c d e f o p q r, H, n⟩ = some (.exit 0, ⟨rigS xs fl i' c' d' e' f' o' p' q' r', H', n'⟩)
  | 0, i, _, hm, c, d, e, f, o, p, q, r, H, n => by omega
  | m + 1, i, hi, hm, c, d, e, f, o, p, q, r, H, n => by
    by_cases hgo : i + 1 < xs.length ∧ i < 12
    · obtain ⟨x, hx⟩ := hxs i (by omega)
      obtain ⟨y, hy⟩ := hxs (i + 1) hgo.1
      obtain ⟨a1, a2⟩ := within_range x
      obtain ⟨b1, b2⟩ := within_range y
      obtain ⟨c', d', e', f', o', p', q', r', H', n', hr⟩ := round_go k xs fl i hgo.1 hgo.2 c d e f o p q r H n x y _ _ hx hy rfl rfl (units_all _ a1 a2) (units_all _ b1 b2) (pairs_all _ _ a1 a2 b1 b2)
      obtain ⟨i', c'', d'', e'', f'', o'', p'', q'', r'', H'', n'', hr2⟩ := rigid_rounds k xs fl hxs m (i + 1) (by omega) (by omega) c' d' e' f' o' p' q' r' H' n'
      refine ⟨i', c'', d'', e'', f'', o'', p'', q'', r'', H'', n'', ?_⟩
      simp only [iter, hr]
      exact hr2
    · obtain ⟨p', hr⟩ := round_stop k xs fl i hgo (by omega) c d e f o p q r H n
      refine ⟨i, c, d, e, f, o, p', q, r, H, n, ?_⟩
      simp only [iter, hr]

theorem F4_shape : F_4.body = .seq (.reg ⟨[⟨.mv (.c (.bool false)), none⟩], [(1, .t 0)], none⟩) (.seq (.seq (.reg ⟨[⟨.mv (.c (.int .i64 0)), none⟩], [(2, .t 0)], none⟩) (.block 0 (.loop (loopOf F_4.body))))
    (.seq (.reg ⟨[⟨.call 0 (.c (.func 14 [] [])) [], none⟩, ⟨.mv (.t 0), none⟩], [(1, .t 1)], none⟩) .ret)) := rfl

theorem start_run (xs : List (List PV)) (fl : Fl) : start F_4.live [.data 1 xs fl] = [.data 1 xs fl, .tup [], .tup [], .tup [], .tup [], .tup [], .tup [], .tup [], .tup [], .tup [], .tup []] := by rfl

theorem prog_run : rigidEnv.prog 4 = some F_4 := rfl
theorem ext_run : rigidEnv.ext 4 = none := rfl
theorem res_run : F_4.results = [.val (.x 1)] := rfl

/-- the law's text around its rounds -/
theorem around (cf : CallF) (B : ICode) (z : PV) (S' : List PV) (H' : Heap) (n' : Nat) (hr : iter (fun s => evalC cf 59 B s) 59 ⟨[z, .bool false, .int .i64 0, (.tup []) , (.tup []), (.tup []), (.tup []), (.tup []), (.tup []), (.tup []), (.tup [])], [], 0⟩ = some (.exit 0, ⟨S', H', n'⟩))
    (hw : ∀ H n, callV cf 0 14 [] H n = some ⟨.bool true, H, n, ⟨[], [], false⟩⟩) :
    evalC cf 59 (.seq (.reg ⟨[⟨.mv (.c (.bool false)), none⟩], [(1, .t 0)], none⟩) (.seq (.seq (.reg ⟨[⟨.mv (.c (.int .i64 0)), none⟩], [(2, .t 0)], none⟩) (.block 0 (.loop B)))
      (.seq (.reg ⟨[⟨.call 0 (.c (.func 14 [] [])) [], none⟩, ⟨.mv (.t 0), none⟩], [(1, .t 1)], none⟩) .ret)))
      ⟨[z, .tup [], .tup [], .tup [], .tup [], .tup [], .tup [], .tup [], .tup [], .tup [], .tup []], [], 0⟩ = some (.ret, ⟨S'.set 1 (.bool true), H', n'⟩) := by
  simp [evalC, evalR, evalOps, evalOp, wants, Src.ev, setAll, hr, hw]

theorem body_run (xs : List (List PV)) (fl : Fl) (hxs : ∀ i, i < xs.length → ∃ x, xs[i]? = some [.int .i64 x]) :
    ∃ S' H' n', evalC rigidF 59 F_4.body ⟨start F_4.live [.data 1 xs fl], [], 0⟩ = some (.ret, ⟨S', H', n'⟩) ∧ S'.getD 1 .any = .bool true := by
  obtain ⟨i', c', d', e', f', o', p', q', r', H', n', hr⟩ := rigid_rounds 59 xs fl hxs 59 0 (by omega) (by omega) (.tup []) (.tup []) (.tup []) (.tup []) (.tup []) (.tup []) (.tup []) (.tup []) [] 0
  rw [start_run, F4_shape]
  exact ⟨_, _, _, around rigidF _ (.data 1 xs fl) _ H' n' hr (fun H n => callV_flat rfl wake_run), rfl⟩

theorem evalF_step {E : Env} {k : Nat} {f : FuncId} {args : List PV} {H : Heap} {n : Nat} {I : IFunc} {s : St} {vs : List PV} (h1 : E.ext f = none) (h2 : E.prog f = some I) (h3 : evalC (evalF E k) k I.body ⟨start I.live args, H, n⟩ = some (.ret, s)) (h4 : evalResults s.S s.H I.results = some vs) :
    evalF E (k + 1) f args H n = some (tupled vs, s.H, s.n) := by
  simp only [evalF.eq_2, h1, h2, h3, h4]

theorem rigid_true (xs : List (List PV)) (fl : Fl) (hxs : ∀ i, i < xs.length → ∃ x, xs[i]? = some [.int .i64 x]) : ∃ H n, evalF rigidEnv (59 + 1) 4 [.data 1 xs fl] [] 0 = some (.bool true, H, n) := by
  obtain ⟨S', H', n', h, h1⟩ := body_run xs fl hxs
  refine ⟨H', n', evalF_step (vs := [.bool true]) ext_run prog_run h ?_⟩
  rw [res_run]
  simp only [evalResults, evalRes, Src.ev, h1]
theorem nil_stop (k : Nat) (c d e f o p q r : PV) (H : Heap) (n : Nat) :
    evalC rigidF k (loopOf F_4.body) ⟨[.nils, .bool false, .int .i64 0, c, d, e, f, o, p, q, r], H, n⟩ = some (.exit 0, ⟨[.nils, .bool false, .int .i64 0, c, d, e, f, o, .bool false, q, r], H, n⟩) := by
  have hw : IntKind.i64.wrap ((0 : Int) + 1) = 1 := by rfl
  simp [F_4, loopOf, evalC, evalR, evalOps, evalOp, wants, Src.ev, setAll, binV, intV, show IntKind.i64.wrap 1 = 1 from rfl]

theorem nil_true : ∃ H n, evalF rigidEnv (59 + 1) 4 [.nils] [] 0 = some (.bool true, H, n) := by
  have hst : start F_4.live [.nils] = [.nils, .tup [], .tup [], .tup [], .tup [], .tup [], .tup [], .tup [], .tup [], .tup [], .tup []] := by rfl
  have hb : evalC rigidF 59 F_4.body ⟨start F_4.live [.nils], [], 0⟩ = some (.ret, ⟨[.nils, .bool true, .int .i64 0, .tup [], .tup [], .tup [], .tup [], .tup [], .bool false, .tup [], .tup []], [], 0⟩) := by
    rw [hst, F4_shape]
    refine around rigidF _ .nils [.nils, .bool false, .int .i64 0, .tup [], .tup [], .tup [], .tup [], .tup [], .bool false, .tup [], .tup []] [] 0 ?_ (fun H n => callV_flat rfl wake_run)
    rw [show (59 : Nat) = 58 + 1 from rfl, iter]
    simp only [nil_stop]
  refine ⟨[], 0, evalF_step (vs := [.bool true]) ext_run prog_run hb ?_⟩
  rw [res_run]
  rfl
end Go.Vm
