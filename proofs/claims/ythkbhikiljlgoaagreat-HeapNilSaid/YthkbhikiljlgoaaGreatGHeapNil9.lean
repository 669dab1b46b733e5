/- The statement HeapNil: whatever comes in, the law returns true, and each argument reads as it did. No condition. Layer 7: a nil heap has no pages. -/
import Derived.Test.YthkbhikiljlgoaaGreatGHeapNil8
import Derived.Test.YthkbhikiljlgoaaGreatGHeapNil0
import Derived.Deep.RegionHeld3
set_option linter.unusedVariables false
set_option linter.unusedSimpArgs false
namespace Go.Proofs.YthkbhikiljlgoaaGreat
open Go.ChangeShapes Go.WideShapes Go.ChangeAt Go.RowKit Go.Deep

set_option maxHeartbeats 8000000 in
set_option maxRecDepth 20000 in
theorem heapNil_walk (pages order : Int) (s : Option Addr) (xs : List Int) (n c : Nat) (w : World) (hp : I64 pages) (ho : I64 order) (hn : n = xs.length) (hmax : xs.length ≤ maxLen) (hr : RdV w s (ints xs)) (_hok : ∀ k ∈ xs, I64 k) :
    Calls Tryz.prog 4 #[.int .i64 pages, .int .i64 order, .slice s n c] w fun e w' => e = .returned (.bool true) ∧ Bel w w' := by
  subst hn
  have hx1 : xs.length ≤ 9223372036854775807 := by unfold maxLen at hmax; omega
  by_cases c0 : 5 < (xs.length : Int)
  · clear hr
    go_enter Tryz.func4, Tryz.ntmps4
    go_wp2_with fail
    refine (awake07 _).mono ?_; rintro e w' ⟨rfl, hB⟩
    go_wp2
    go_ret
    exact ⟨rfl, hB⟩
  have hl : xs.length ≤ 5 := by omega
  obtain ⟨fr, hfr⟩ : ∃ fr : Int, (if xs = [] then 0 else 6) = fr := ⟨_, rfl⟩
  have hfc : (xs.length = 0 ∧ fr = 0) ∨ ((0 : Int) < xs.length ∧ fr = 6) := by
    cases xs with
    | nil => left; exact ⟨rfl, by simpa using hfr.symm⟩
    | cons x l => right; exact ⟨by simp, by simpa using hfr.symm⟩
  have HFREE : Hid (∀ V, Bel w V → Calls Tryz.prog 10 #[.pointer none, .slice s xs.length c] V fun e V' => e = .returned (.int .i64 fr) ∧ Bel V V') := Lib.hid (fun V hV => by
    have := heap0_Free s xs xs.length c V rfl (by omega) (hr.bel hV)
    rw [hfr] at this; exact this)
  obtain ⟨want, HMAKE, hwc⟩ : ∃ want : Int, Hid (∀ V, Calls Tryz.prog 12 #[.pointer none, .int .i64 pages, .int .i64 order] V fun e V' => e = .returned (.tuple #[spV sp0, .int .i64 want]) ∧ Bel V V') ∧
      ((pages < 1 ∧ want = 1) ∨ (¬ pages < 1 ∧ order < -1 ∧ want = 1) ∨ (¬ pages < 1 ∧ ¬ order < -1 ∧ 3 < order ∧ want = 1) ∨ (¬ pages < 1 ∧ ¬ order < -1 ∧ ¬ 3 < order ∧ want = 3)) := by
    by_cases hb : pages < 1 ∨ order < -1 ∨ 4 ≤ order
    · exact ⟨1, Lib.hid (fun V => heap_Make_bad _ pages order V hp ho hb), by omega⟩
    · exact ⟨3, Lib.hid (fun V => heap0_Make pages order V hp ho hb), by omega⟩
  simp only [spV, sp0] at HMAKE
  clear hr hfr
  obtain ⟨m, hm⟩ : ∃ m, xs.length = m := ⟨_, rfl⟩
  rw [hm] at hfc HFREE c0 hx1 hl ⊢
  clear hm hmax _hok
  go_enter Tryz.func4, Tryz.ntmps4
  rcases hwc with ⟨p1, rfl⟩ | ⟨p1, p2, rfl⟩ | ⟨p1, p2, p3, rfl⟩ | ⟨p1, p2, p3, rfl⟩
  all_goals
    rcases hfc with ⟨rfl, rfl⟩ | ⟨f1, rfl⟩
    all_goals
      go_wp2_with fail
      refine (HMAKE.out _).mono ?_
      rintro e w1 ⟨rfl, hB1⟩
      have HB1 := Lib.hid (hB1.alloc (.cells #[.int .i64 0, .int .i64 0, .int .i64 0, .int .i64 0] 43))
      have gx := blk_alloc w1 (.cells #[.int .i64 0, .int .i64 0, .int .i64 0, .int .i64 0] 43)
      clear hB1
      go_wp2_with fail
      generalize w1.alloc (.cells #[.int .i64 0, .int .i64 0, .int .i64 0, .int .i64 0] 43) = W1 at HB1 gx ⊢
      refine (heap0_Span pages _).mono ?_
      rintro e w2 ⟨rfl, hB2⟩
      have HB2 := Lib.hid ((HB1.out.trans hB2).alloc (.cells #[.int .i64 0, .int .i64 0, .int .i64 0, .int .i64 0] 43))
      have gx2 := blk_alloc_old (.cells #[.int .i64 0, .int .i64 0, .int .i64 0, .int .i64 0] 43) ((hB2.block _ (heap_lt gx)).trans gx)
      simp only [spV, sp0]
      clear hB2 gx
      go_wp2_with fail
      generalize w2.alloc (.cells #[.int .i64 0, .int .i64 0, .int .i64 0, .int .i64 0] 43) = W2 at HB2 gx2 ⊢
      refine (heap0_At pages _).mono ?_
      rintro e w3 ⟨rfl, hB3⟩
      have HB3 := Lib.hid ((HB2.out.trans hB3).alloc (.cells #[.int .i64 0, .int .i64 0, .int .i64 0, .int .i64 0] 43))
      have gx3 := blk_alloc_old (.cells #[.int .i64 0, .int .i64 0, .int .i64 0, .int .i64 0] 43) ((hB3.block _ (heap_lt gx2)).trans gx2)
      have l0 := heap_lt ((hB3.block _ (heap_lt gx2)).trans gx2)
      obtain ⟨v0, v1, v2, v3⟩ := four_cells ((hB3.block _ (heap_lt gx2)).trans gx2)
      simp only [spV, sp0]
      obtain ⟨t0, t1, t2, t3⟩ := four_cells gx3
      clear hB3 gx2
      go_wp2_with fail
      generalize w3.alloc (.cells #[.int .i64 0, .int .i64 0, .int .i64 0, .int .i64 0] 43) = W3 at HB3 t0 t1 t2 t3 ⊢
      obtain ⟨bx, hbx⟩ : ∃ bx, w1.heap.size = bx := ⟨_, rfl⟩
      rw [hbx] at t0 t1 t2 t3 ⊢
      have keep : ∀ V, Bel W3 V → (V.cell? ⟨bx, 0, none⟩ = some (.int .i64 0) ∧ V.cell? ⟨bx, 1, none⟩ = some (.int .i64 0) ∧ V.cell? ⟨bx, 2, none⟩ = some (.int .i64 0) ∧ V.cell? ⟨bx, 3, none⟩ = some (.int .i64 0)) := fun V h => ⟨h.cell t0, h.cell t1, h.cell t2, h.cell t3⟩
      have HK := Lib.hid keep
      have HC1 := Lib.hid (fun V (hV : Bel W3 V) => (HFREE.out V (HB3.out.trans hV)).mono (fun e V' h => (⟨h.1, hV.trans h.2, keep V' (hV.trans h.2)⟩ : e = .returned (.int .i64 _) ∧ Bel W3 V' ∧ _)))
      have HC2 := Lib.hid (fun V (hV : Bel W3 V) => (heap0_Spans V).mono (fun e V' h => (⟨h.1, h.2 ▸ hV, keep V' (h.2 ▸ hV)⟩ : e = .returned (.slice none 0 0) ∧ Bel W3 V' ∧ _)))
      have HC3 := Lib.hid (fun V (hV : Bel W3 V) => (heap0_Runs V).mono (fun e V' h => (⟨h.1, h.2 ▸ hV, keep V' (h.2 ▸ hV)⟩ : e = .returned (.slice none 0 0) ∧ Bel W3 V' ∧ _)))
      have HC4 := Lib.hid (fun V (hV : Bel W3 V) => (heap0_Size V).mono (fun e V' h => (⟨h.1, h.2 ▸ hV, keep V' (h.2 ▸ hV)⟩ : e = .returned (.int .i64 0) ∧ Bel W3 V' ∧ _)))
      have HC5 := Lib.hid (fun V (hV : Bel W3 V) => (awake07 V).mono (fun e V' h => (⟨h.1, hV.trans h.2, keep V' (hV.trans h.2)⟩ : e = .returned (.bool true) ∧ Bel W3 V' ∧ _)))
      clear keep
      refine (HC1.out _ (Bel.refl _)).mono ?_
      rintro e u1 ⟨rfl, hb1, _⟩
      have HB5 := Lib.hid hb1
      clear hb1
      go_wp2_with fail
      refine (HC2.out _ HB5.out).mono ?_
      rintro e u2 ⟨rfl, hb2, _⟩
      have HB6 := Lib.hid hb2
      clear hb2
      go_wp2_with fail
      refine (HC3.out _ HB6.out).mono ?_
      rintro e u3 ⟨rfl, hb3, _⟩
      have HB7 := Lib.hid hb3
      clear hb3
      go_wp2_with fail
      refine (HC4.out _ HB7.out).mono ?_
      rintro e u4 ⟨rfl, hb4, _⟩
      have HB8 := Lib.hid hb4
      clear hb4
      go_wp2_with fail
      refine (HC5.out _ HB8.out).mono ?_
      rintro e u5 ⟨rfl, hb5, _⟩
      have HB9 := Lib.hid hb5
      clear hb5
      go_wp2
      go_ret
      exact ⟨rfl, HB3.out.trans HB9.out⟩
end Go.Proofs.YthkbhikiljlgoaaGreat

namespace Go.Proofs.YthkbhikiljlgoaaGreat.heapNil
open Go.ChangeShapes Go.WideShapes Go.ChangeAt Go.RowKit
set_option linter.unusedVariables false

set_option maxRecDepth 100000 in
theorem lifted (os : Os) (started : os.Started) (H : Type) (enc : TypeId × Value → H) :
    ReturnsInHanded {} Tryz.checked os 4 .any (Rows.heapNilSpec.pre6 enc Tryz.prog Tryz.f4 Rows.heapNilRow.domain false) (Rows.heapNilSpec.post enc Tryz.prog Tryz.f4 false true false false) := by
  refine returnsInHanded_of_change (C := Tryz.checked) lk_own started (by kernel_rfl) Tryz.func4
    (ChangeSpec.witness6 (enc := enc) (C := Tryz.checked) false ⟨#[], #[.int .i64 0, .int .i64 0, .slice none 0 0], []⟩ 8 (by kernel_rfl) (by kernel_rfl) (by kernel_rfl) (by kernel_rfl)) ?_
  intro W base args ds gs before hval0 hW hcnd _
  have hval : ∀ (j : Nat) t v, Tryz.f4.params[j]? = some t → args[j]? = some v → Value.okWide Tryz.prog W .any base t v := hval0
  have hW' := hW
  obtain ⟨p, q, hA0, hV, rfl, hfz, hnd⟩ := hW
  have hA : DataW.TrodAll enc Tryz.prog W 0 (fun _ => true) true Tryz.f4.params.toList args.toList ds p := hA0
  rw [Tryz.params4] at hA hval
  obtain ⟨v0, vs0, d0, ds0, p0, q0, hargs, rfl, rfl, h0, r_0⟩ := trodAll_cons hA
  obtain ⟨v1, vs1, d1, ds1, p1, q1, rfl, rfl, rfl, h1, r_1⟩ := trodAll_cons r_0
  obtain ⟨v2, vs2, d2, ds2, p2, q2, rfl, rfl, rfl, h2, r_2⟩ := trodAll_cons r_1
  obtain ⟨rfl, rfl, rfl⟩ := trodAll_nil r_2
  obtain rfl : args = #[v0, v1, v2] := by cases args; simp_all
  obtain ⟨rfl, rfl⟩ := trodVars_none hV
  obtain ⟨a0, rfl, rfl, rfl, w0⟩ := open_int Tryz.underlying3 (hval 0 3 v0 rfl rfl) h0
  obtain ⟨a1, rfl, rfl, rfl, w1⟩ := open_int Tryz.underlying3 (hval 1 3 v1 rfl rfl) h1
  obtain ⟨s2, l2, c2, rfl⟩ := okWide_slice Tryz.underlying35 (hval 2 35 v2 rfl rfl)
  have k2 := h2
  have lt2 : ∀ x ∈ p2, x.block < W.heap.size := by obtain ⟨m, hm⟩ := k2; exact DataW.trod_lt m _ _ _ hm
  obtain ⟨x2, e2, m2, r2, f2⟩ := arg_nums Tryz.underlying35 Tryz.underlying3 (by kernel_rfl) h2
  clear hA0 hval0
  refine (heapNil_walk a0 a1 s2 x2 l2 c2 W (i64_of_wf w0) (i64_of_wf w1) e2 m2 r2 (fun x hx => i64_of_wf (f2 x hx))).mono fun e W' ⟨he, bel⟩ => ?_
  subst he
  exact ⟨_, rfl, _, _, _, [], _, [], hW', trodAll_mk1 (shut_bool Tryz.underlying4 _), (trodAll_cons_mk (shut_int Tryz.underlying3 w0) (trodAll_cons_mk (shut_int Tryz.underlying3 w1) (trodAll_cons_mk (Below.trod lk_laid (by kernel_rfl) (of_decide_eq_true (by kernel_rfl)) k2 bel lt2) trodAll_mk0))), rfl, Below.frame bel _, fun h => by cases h⟩

theorem over : Rows.heapNilRow.holds Tryz.pinned (OpenSpec.ofChange Rows.heapNilSpec) :=
  OpenClaim.holds_of_wide 4 Tryz.f4 rfl rfl rfl rfl rfl rfl rfl ⟨rfl, rfl, rfl, rfl, rfl⟩ rfl rfl rfl rfl rfl (by kernel_rfl) Tryz.func4 (by kernel_rfl)
    (of_decide_eq_true (by kernel_rfl)) (by unfold Func.isWrapper; first | (rw [if_pos (by decide +kernel)]; kernel_rfl) | (rw [if_neg (by decide +kernel)]; exact ⟨rfl, rfl⟩))
    (fun os started H enc _ => lifted os started H enc)

theorem proved : Rows.HeapNilSaid := over
#print axioms proved
end Go.Proofs.YthkbhikiljlgoaaGreat.heapNil
