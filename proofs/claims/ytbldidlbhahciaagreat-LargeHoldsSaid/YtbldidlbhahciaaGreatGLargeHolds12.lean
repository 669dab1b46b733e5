/- The library's iterator from the last span to the first. A keeper that the law made. append to a row of one's own, as a step of a region that draws, and of one that doesn't: any element. A live heap, told by plain functions. The reference of layer 10: Fits. The reference of layer 10: Hold. -/
import Derived.Test.YtbldidlbhahciaaGreatGLargeHolds11
import Derived.Test.YtbldidlbhahciaaGreatGLargeHolds10
import Derived.Test.YtbldidlbhahciaaGreatGLargeHolds0
import Derived.Test.YtbldidlbhahciaaGreatGLargeHolds4
import Derived.Maps.AppendAt
import Derived.Deep.AppendLies
import Derived.Deep.RegionLaw
import Derived.RangeFuncNested
import Derived.RangeFuncBox
import Derived.RangeFuncBound
import Derived.RangeFuncCalls
import Derived.RangeFuncLeaves
import Derived.Shelf.Abstract
import Derived.Shelf.RegionOpen
import Derived.WalkKit
import Derived.OwnWalkIn
import Derived.TacticsInMore
import Derived.LoopNIn
import Derived.LoopIn
set_option linter.unusedVariables false
set_option linter.unusedSimpArgs false
namespace Go.Proofs.YtbldidlbhahciaaGreat
open Go.RowKit

set_option maxHeartbeats 2000000 in
set_option maxRecDepth 20000 in
theorem ref10_Hold_on {w : World} {st : KS} {p : KP} (R : RefK w st p) :
    Calls Tryz.prog 45 #[kV st p, .bool true] w fun e w' => ∃ p', e = .returned (.tuple #[kV (st.hold true) p', .bool st.held]) ∧ KPost w st p (st.hold true) p' w' := by
  have hfl : st.hold true = ⟨st.h, st.kept, st.waits, true⟩ := rfl
  rw [hfl]
  obtain ⟨g, fc, a, c, ka, kc, wa, wn⟩ := p
  have hb1 := ((Bel.refl w).alloc (.cells (kCells st ⟨g, fc, a, c, ka, kc, wa, wn⟩) 46)).alloc (.cells k0Cells 46)
  have g0 := blk_alloc_old (.cells k0Cells 46) (blk_alloc w (.cells (kCells st ⟨g, fc, a, c, ka, kc, wa, wn⟩) 46))
  have g1 := blk_alloc (w.alloc (.cells (kCells st ⟨g, fc, a, c, ka, kc, wa, wn⟩) 46)) (.cells k0Cells 46)
  rw [World.size_alloc] at g1
  simp only [kV, kCells, k0Cells] at g0 g1 hb1 ⊢
  obtain ⟨q0, q1, q2, q3, q4, q5, q6⟩ := seven_cells g0
  obtain ⟨f0, f1, f2, f3, f4, f5, f6⟩ := seven_frozen g0
  obtain ⟨y0, y1, y2, y3, y4, y5, y6⟩ := seven_cells g1
  obtain ⟨k0, k1, k2, k3, k4, k5, k6⟩ := seven_frozen g1
  have HR := Lib.hid R
  clear R
  go_enter Tryz.func45, Tryz.ntmps45
  have hfin : ∀ X Y, KPost w st ⟨g, fc, a, c, ka, kc, wa, wn⟩ ⟨st.h, st.kept, st.waits, true⟩ ⟨g, fc, a, c, ka, kc, wa, wn⟩ ((w.alloc X).alloc Y) := fun X Y => by
    have r2 := ((Bel.refl w).alloc X).alloc Y
    exact ⟨⟨HR.out.heap.bel r2, HR.out.kept.bel r2, HR.out.waits.bel r2, HR.out.kcap, HR.out.wcap, HR.out.knil, HR.out.wnil⟩, r2, .refl _ _ _, .refl _ _ _, .refl _ _ _⟩
  have HFIN := Lib.hid hfin
  clear hfin hb1 g0 g1
  go_wp2
  have gF := blk_alloc (w.alloc (.cells #[.int .i64 (st.h.P : Int), .slice (some ⟨g, 0, none⟩) 1024 fc, .slice a st.h.S.length c, .int .i64 (st.h.last : Int), .slice ka st.kept.length kc, .slice wa st.waits.length wn, .bool true] 46)) (.cells #[.int .i64 (st.h.P : Int), .slice (some ⟨g, 0, none⟩) 1024 fc, .slice a st.h.S.length c, .int .i64 (st.h.last : Int), .slice ka st.kept.length kc, .slice wa st.waits.length wn, .bool true] 46)
  rw [World.size_alloc] at gF
  obtain ⟨y0, y1, y2, y3, y4, y5, y6⟩ := seven_cells gF
  refine bodyPost_ret (v := .tuple #[kV ⟨st.h, st.kept, st.waits, true⟩ ⟨g, fc, a, c, ka, kc, wa, wn⟩, .bool st.held]) (by simp [kV, kCells, results, Tryz.results45, go_sem, y0, y1, y2, y3, y4, y5, y6]) rfl ?_
  exact ⟨_, rfl, HFIN.out _ _⟩
set_option maxHeartbeats 2000000 in
set_option maxRecDepth 20000 in
theorem ref10_Hold_off {w : World} {st : KS} {p : KP} (R : RefK w st p) (I : KInv st) (hl : st.h.last ≤ 4096) :
    Calls Tryz.prog 45 #[kV st p, .bool false] w fun e w' => ∃ p', e = .returned (.tuple #[kV (st.hold false) p', .bool st.held]) ∧ KPost w st p (st.hold false) p' w' := by
  have hn := I.nd
  simp only [List.append_nil, List.map_append, List.nodup_append] at hn
  have hdrop := drop_frees I.ok (L := st.waits) (fun s hs => (I.mem s (by simp [hs])).1) hn.2.1
  have hkl : st.waits.length ≤ 4096 := by have := I.count; omega
  have hwf : ∀ k ∈ idsOf st.waits, (Lit.int .i64 k).wf = true := fun k hk => by
    obtain ⟨s, hs, rfl⟩ := List.mem_map.1 hk
    have := I.ok.span (I.mem s (by simp [hs])).1
    exact wf_i64 (by omega) (by omega)
  have hidl : (idsOf st.waits).length = st.waits.length := by simp [idsOf]
  have hfl : st.hold false = ⟨freesH st.h st.waits, st.kept, [], false⟩ := rfl
  rw [hfl]
  obtain ⟨h', hh'⟩ : ∃ h', freesH st.h st.waits = h' := ⟨_, rfl⟩
  rw [hh'] at hdrop ⊢
  obtain ⟨g, fc, a, c, ka, kc, wa, wn⟩ := p
  have hb1 := ((Bel.refl w).alloc (.cells (kCells st ⟨g, fc, a, c, ka, kc, wa, wn⟩) 46)).alloc (.cells k0Cells 46)
  have g0 := blk_alloc_old (.cells k0Cells 46) (blk_alloc w (.cells (kCells st ⟨g, fc, a, c, ka, kc, wa, wn⟩) 46))
  have g1 := blk_alloc (w.alloc (.cells (kCells st ⟨g, fc, a, c, ka, kc, wa, wn⟩) 46)) (.cells k0Cells 46)
  rw [World.size_alloc] at g1
  simp only [kV, kCells, k0Cells] at g0 g1 hb1 ⊢
  obtain ⟨q0, q1, q2, q3, q4, q5, q6⟩ := seven_cells g0
  obtain ⟨f0, f1, f2, f3, f4, f5, f6⟩ := seven_frozen g0
  have HR := Lib.hid R
  have hwaits := R.waits
  clear R hn
  go_enter Tryz.func45, Tryz.ntmps45
  go_wp2_with fail
  clear q0 q1 q2 q3 q4 q5 q6 f0 f1 f2 f3 f4 f5 f6 g0 g1 hb1
  have hb1 := ((Bel.refl w).alloc (.cells #[.int .i64 (st.h.P : Int), .slice (some ⟨g, 0, none⟩) 1024 fc, .slice a st.h.S.length c, .int .i64 (st.h.last : Int), .slice ka st.kept.length kc, .slice wa st.waits.length wn, .bool false] 46)).alloc (.cells #[.int .i64 0, .slice none 0 0, .slice none 0 0, .int .i64 0, .slice none 0 0, .slice none 0 0, .bool false] 46)
  have g0 := blk_alloc_old (.cells #[.int .i64 0, .slice none 0 0, .slice none 0 0, .int .i64 0, .slice none 0 0, .slice none 0 0, .bool false] 46) (blk_alloc w (.cells #[.int .i64 (st.h.P : Int), .slice (some ⟨g, 0, none⟩) 1024 fc, .slice a st.h.S.length c, .int .i64 (st.h.last : Int), .slice ka st.kept.length kc, .slice wa st.waits.length wn, .bool false] 46))
  have g1 := blk_alloc (w.alloc (.cells #[.int .i64 (st.h.P : Int), .slice (some ⟨g, 0, none⟩) 1024 fc, .slice a st.h.S.length c, .int .i64 (st.h.last : Int), .slice ka st.kept.length kc, .slice wa st.waits.length wn, .bool false] 46)) (.cells #[.int .i64 0, .slice none 0 0, .slice none 0 0, .int .i64 0, .slice none 0 0, .slice none 0 0, .bool false] 46)
  rw [World.size_alloc] at g1
  generalize (w.alloc (.cells #[.int .i64 (st.h.P : Int), .slice (some ⟨g, 0, none⟩) 1024 fc, .slice a st.h.S.length c, .int .i64 (st.h.last : Int), .slice ka st.kept.length kc, .slice wa st.waits.length wn, .bool false] 46)).alloc (.cells #[.int .i64 0, .slice none 0 0, .slice none 0 0, .int .i64 0, .slice none 0 0, .slice none 0 0, .bool false] 46) = W at g0 g1 hb1 ⊢
  obtain ⟨q0, q1, q2, q3, q4, q5, q6⟩ := seven_cells g0
  have l0 := heap_lt g0
  have l1 := heap_lt g1
  have keep : ∀ V, Bel W V → V.cell? ⟨w.heap.size, 0, none⟩ = some (.int .i64 (st.h.P : Int)) ∧ V.cell? ⟨w.heap.size, 1, none⟩ = some (.slice (some ⟨g, 0, none⟩) 1024 fc) ∧ V.cell? ⟨w.heap.size, 2, none⟩ = some (.slice a st.h.S.length c) ∧ V.cell? ⟨w.heap.size, 3, none⟩ = some (.int .i64 (st.h.last : Int)) ∧ V.cell? ⟨w.heap.size, 5, none⟩ = some (.slice wa st.waits.length wn) := fun V hV => ⟨hV.cell q0, hV.cell q1, hV.cell q2, hV.cell q3, hV.cell q5⟩
  have HNUM : Hid (∀ V, Bel W V → Calls Tryz.prog 19 #[.slice wa st.waits.length wn] V fun e V' => ∃ b d, e = .returned (.slice b st.waits.length d) ∧ RdV V' b (ints (idsOf st.waits)) ∧ Bel W V' ∧
      (V'.cell? ⟨w.heap.size, 0, none⟩ = some (.int .i64 (st.h.P : Int)) ∧ V'.cell? ⟨w.heap.size, 1, none⟩ = some (.slice (some ⟨g, 0, none⟩) 1024 fc) ∧ V'.cell? ⟨w.heap.size, 2, none⟩ = some (.slice a st.h.S.length c) ∧ V'.cell? ⟨w.heap.size, 3, none⟩ = some (.int .i64 (st.h.last : Int)) ∧ V'.cell? ⟨w.heap.size, 5, none⟩ = some (.slice wa st.waits.length wn))) := Lib.hid (fun V hV =>
    (ref10_Numbers wa st.waits _ wn V rfl (by omega) (hwaits.bel (hb1.trans hV))).mono fun e V' ⟨v, h1, h2, h3⟩ => by
      obtain ⟨b, d, rfl, hr, _⟩ := own_slice h2
      exact ⟨b, d, by rw [h1, hidl], hr, hV.trans h3, keep _ (hV.trans h3)⟩)
  have HDR : Hid (∀ V b d, Bel W V → RdV V b (ints (idsOf st.waits)) → Calls Tryz.prog 71 #[.agg #[.int .i64 (st.h.P : Int), .slice (some ⟨g, 0, none⟩) 1024 fc, .slice a st.h.S.length c, .int .i64 (st.h.last : Int)], .slice b st.waits.length d] V fun e V' =>
      ∃ g' fc' a' c', e = .returned (.tuple #[.agg #[.int .i64 (h'.P : Int), .slice (some ⟨g', 0, none⟩) 1024 fc', .slice a' h'.S.length c', .int .i64 (h'.last : Int)], .int .i64 0]) ∧ GPost W a st.h.S h' g' fc' a' c' V' ∧
      (V'.cell? ⟨w.heap.size, 0, none⟩ = some (.int .i64 (st.h.P : Int)) ∧ V'.cell? ⟨w.heap.size, 1, none⟩ = some (.slice (some ⟨g, 0, none⟩) 1024 fc) ∧ V'.cell? ⟨w.heap.size, 2, none⟩ = some (.slice a st.h.S.length c) ∧ V'.cell? ⟨w.heap.size, 3, none⟩ = some (.int .i64 (st.h.last : Int)) ∧ V'.cell? ⟨w.heap.size, 5, none⟩ = some (.slice wa st.waits.length wn))) := Lib.hid (fun V b d hV hr =>
    (refG_Drop I.ok (HR.out.heap.bel (hb1.trans hV)) b (idsOf st.waits) st.waits.length d hidl.symm (by omega) hr hwf hl).mono fun e V' ⟨g', fc', a', c', h1, h2, h3, h4⟩ => by
      rw [hdrop] at h1 h2 h4
      exact ⟨g', fc', a', c', h1, ⟨h2, hV.trans h3, h4.elim (fun h => .inl h) (fun ⟨q, h5, h6⟩ => .inr ⟨q, h5, by have := hV.size; omega⟩)⟩, keep _ (hV.trans h3)⟩)
  have HG := Lib.hid (And.intro hb1 (And.intro g0 g1))
  clear keep hwaits hdrop I hb1 g0 g1
  go_cut [] (fun wx => DropMid w st ⟨g, fc, a, c, ka, kc, wa, wn⟩ h' w.heap.size (.slice ka st.kept.length kc, .slice wa st.waits.length wn, .bool false) wx)
  case first =>
    go_region_law (first
      | (go_simp; go_at_call 19; (with_reducible refine (HNUM.out _ ?b1).mono ?_); (case b1 => repeat (first | exact Bel.refl _ | apply Bel.drew | apply Bel.alloc)); rintro e w7 ⟨b7, d7, rfl, hr7, hB7, u0, u1, u2, u3, u4⟩)
      | (go_simp; go_at_call 71; (with_reducible refine (HDR.out _ _ _ ?b2 ?b3).mono ?_); (case b2 => with_reducible assumption); (case b3 => with_reducible assumption); rintro e w8 ⟨g8, fc8, a8, c8, rfl, hP8, _⟩; (have gB8 := hP8.2.1.blk HG.out.2.1); obtain ⟨t0, t1, t2, t3, t4, t5, t6⟩ := seven_cells gB8; obtain ⟨f0, f1, f2, f3, f4, f5, f6⟩ := seven_frozen gB8))
    all_goals
      go_wp2_with fail
      go_meet
      exact DropMid.of HR.out HG.out.1 HG.out.2.1 HG.out.2.2 hP8 rfl
  case rest =>
    obtain ⟨g', fc', a', c', gB, gB1, hR', hBw, hfr, hne⟩ := hcut
    obtain ⟨t0, t1, t2, t3, t4, t5, t6⟩ := seven_cells gB
    obtain ⟨f0, f1, f2, f3, f4, f5, f6⟩ := seven_frozen gB
    obtain ⟨y0, y1, y2, y3, y4, y5, y6⟩ := seven_cells gB1
    obtain ⟨k0, k1, k2, k3, k4, k5, k6⟩ := seven_frozen gB1
    have m0 := heap_lt gB
    have m1 := heap_lt gB1
    have hfin : ∀ x4 x0 z1 z2 z3 z4 z5 z6 W9, W9 = ((((((((wc.setCell ⟨w.heap.size, 5, none⟩ x4).setCell ⟨w.heap.size + 1, 0, none⟩ x0).setCell ⟨w.heap.size + 1, 1, none⟩ z1).setCell ⟨w.heap.size + 1, 2, none⟩ z2).setCell ⟨w.heap.size + 1, 3, none⟩ z3).setCell ⟨w.heap.size + 1, 4, none⟩ z4).setCell ⟨w.heap.size + 1, 5, none⟩ z5).setCell ⟨w.heap.size + 1, 6, none⟩ z6).alloc (.cells #[] 33) →
        KPost w st ⟨g, fc, a, c, ka, kc, wa, wn⟩ ⟨h', st.kept, [], false⟩ ⟨g', fc', a', c', ka, kc, some ⟨wc.heap.size, 0, none⟩, 0⟩ W9 := by
      intro x4 x0 z1 z2 z3 z4 z5 z6 W9 e9
      have hF0 := ((Fr.setCell (S := fun k => k = w.heap.size ∨ k = w.heap.size + 1) (p := ⟨w.heap.size, 5, none⟩) (Fr.refl _ wc) (.inl (Or.inl rfl)) x4).trans' ((fr_seven _ (w.heap.size + 1) x0 z1 z2 z3 z4 z5 z6).mono (fun _ h => .inr h))).alloc (.cells #[] 33)
      rw [← e9] at hF0
      obtain ⟨r1, r2⟩ := gfin hR' gB gB1 (by decide) (by decide) hne hBw (Nat.le_refl _) hF0
      exact ⟨⟨r1, HR.out.kept.bel r2, .inl rfl, HR.out.kcap, Nat.le_refl _, HR.out.knil, (fun h => by cases h)⟩, r2, hfr, .refl _ _ _, .inr ⟨_, rfl, hBw.size⟩⟩
    have HFIN := Lib.hid hfin
    clear hfin hR' hBw hfr hne gB gB1
    go_wp2
    refine bodyPost_ret (v := .tuple #[kV ⟨h', st.kept, [], false⟩ ⟨g', fc', a', c', ka, kc, some ⟨wc.heap.size, 0, none⟩, 0⟩, .bool st.held]) (by simp [kV, kCells, results, Tryz.results45, go_sem, y0, y1, y2, y3, y4, y5, y6, m0, m1]) rfl ?_
    exact ⟨_, rfl, HFIN.out _ _ _ _ _ _ _ _ _ rfl⟩
end Go.Proofs.YtbldidlbhahciaaGreat

namespace Go.Proofs.YtbldidlbhahciaaGreat
open Go.RowKit

set_option maxHeartbeats 1000000 in
theorem ref10_power (n : Int) (w : World) (hn : I64 n) : Calls Tryz.prog 53 #[.int .i64 n] w fun e w' => e = .returned (.bool (isB n)) ∧ w = w' := by
  obtain ⟨n0, n1⟩ := hn
  go_enter Tryz.func53, Tryz.ntmps53
  go_wp2_with fail
  go_loop [0] (fun v => ∃ m : Int, v = .int .i64 m ∧ m ≤ 9223372036854775807 ∧ -9223372036854775808 ≤ m ∧ isB n = isB m) (fun v => (intOf v).toNat)
  case atStart => exact ⟨n, rfl, n1, n0, rfl⟩
  case round =>
    obtain ⟨m, rfl, m1, m0, he⟩ := hrel
    by_cases h1 : 1 < m
    · have hr : m.tmod 2 = m % 2 := Int.tmod_eq_emod_of_nonneg (by omega)
      have hq : m.tdiv 2 = m / 2 := Int.tdiv_eq_ediv_of_nonneg (by omega)
      obtain ⟨r, hr2⟩ : ∃ r, m % 2 = r := ⟨_, rfl⟩
      obtain ⟨q, hq2⟩ : ∃ q, m / 2 = q := ⟨_, rfl⟩
      have z1 : IntKind.i64.wrap q = q := IntWalk.i64_in _ (by omega)
      have z2 : IntKind.i64.wrap r = r := IntWalk.i64_in _ (by omega)
      rw [hr2] at hr
      rw [hq2] at hq
      by_cases h2 : r = 0
      · have e1 : (r == 0) = true := by simpa using h2
        have HE : Hid (isB n = isB q) := Lib.hid (by rw [he, isB_half (by omega) (by omega) (by omega), hq2])
        have hqb : q < m ∧ 0 ≤ q := by omega
        clear hr2 hq2 h2 he
        go_wp2
        go_round
        case rel => exact ⟨q, rfl, by omega, by omega, HE.out⟩
        case measure => simp [intOf]; omega
      · have e1 : (r == 0) = false := by simpa using h2
        have HE : Hid (isB n = (m == 1)) := Lib.hid (by rw [he, isB_odd (by omega) (by omega) (by omega)]; symm; simp; omega)
        clear hr2 hq2 h2 he
        go_wp2
        go_ret
        exact ⟨ret_b HE.out, rfl⟩
    · have HE : Hid (isB n = (m == 1)) := Lib.hid (by rw [he, isB_low (by omega), Bool.eq_iff_iff]; simp)
      clear he
      go_wp2
      go_ret
      exact ⟨ret_b HE.out, rfl⟩
theorem fitsF_pow {j : Nat} (h2 : 2 ≤ j) (h : j < 63) : fitsF (2 ^ j) = true := by
  unfold fitsF
  have h4 : (2 : Int) ^ 2 ≤ 2 ^ j := pow_mono h2
  rw [isB_pow h]
  have : (4 : Int) ≤ 2 ^ j := by have : (2 : Int) ^ 2 = 4 := by decide
                                 omega
  simp [this]
set_option maxHeartbeats 1000000 in
theorem ref10_Fits (n : Int) (w : World) (hn : I64 n) : Calls Tryz.prog 23 #[.int .i64 n] w fun e w' => e = .returned (.bool (fitsF n)) ∧ w = w' := by
  have hP := Lib.hid (ref10_power n w hn)
  obtain ⟨n0, n1⟩ := hn
  go_enter Tryz.func23, Tryz.ntmps23
  go_wp2_with fail
  go_loop [3] (fun v => ∃ (j : Nat) (m : Int), v = .int .i64 m ∧ 2 ≤ j ∧ j ≤ 11 ∧ m = 2 ^ j ∧ Hid (∀ i, 2 ≤ i → i < j → n ≠ 2 ^ i)) (fun v => 2048 - (intOf v).toNat)
  case atStart => exact ⟨2, 4, rfl, by omega, by omega, by decide, Lib.hid (fun i h1 h2 => by omega)⟩
  case round =>
    obtain ⟨j, m, rfl, hj, hj1, hm, HN⟩ := hrel
    by_cases hle : j ≤ 10
    · have hb : m ≤ 1024 := by
        rw [hm]
        have : (2 : Int) ^ j ≤ 2 ^ 10 := pow_mono hle
        have : (2 : Int) ^ 10 = 1024 := by decide
        omega
      have hpos : 0 < m := by rw [hm]; exact pow_pos' j
      by_cases he : m = n
      · have HE : Hid (fitsF n = true) := Lib.hid (by rw [← he, hm]; exact fitsF_pow hj (by omega))
        have e1 : (m == n) = true := by simpa using he
        clear he hm
        go_wp2
        go_ret
        exact ⟨ret_b HE.out, rfl⟩
      · have e1 : (m == n) = false := by simpa using he
        have z1 : IntKind.i64.wrap (2 * m) = 2 * m := IntWalk.i64_in _ (by omega)
        have HM : Hid (2 * m = 2 ^ (j + 1)) := Lib.hid (by rw [pow_succ', hm])
        have HNX : Hid (∀ i, 2 ≤ i → i < j + 1 → n ≠ 2 ^ i) := Lib.hid (fun i h1 h2 h3 => by
          by_cases h4 : i < j
          · exact HN.out i h1 h4 h3
          · have : i = j := by omega
            subst this
            rw [← hm] at h3; exact he h3.symm)
        clear he hm
        go_wp2
        go_round
        case rel => exact ⟨j + 1, 2 * m, rfl, by omega, by omega, HM.out, HNX⟩
        case measure => simp [intOf]; omega
    · obtain rfl : j = 11 := by omega
      have hm2 : m = 2048 := by rw [hm]; decide
      subst hm2
      by_cases hbig : 1024 < n
      · have HE : Hid (fitsF n = isB n) := Lib.hid (by unfold fitsF; have : (4 : Int) ≤ n := by omega
                                                       simp [this])
        clear hm
        go_wp2_with fail
        refine hP.out.mono ?_
        rintro e w' ⟨rfl, rfl⟩
        go_wp2
        go_ret
        exact ⟨ret_b HE.out, rfl⟩
      · have HE : Hid (fitsF n = false) := Lib.hid (by
          rw [← Bool.not_eq_true]
          intro h9
          unfold fitsF at h9
          simp only [Bool.and_eq_true, decide_eq_true_eq] at h9
          obtain ⟨k, hk, e⟩ := (isB_iff (n := n) (by omega)).1 h9.2
          have h2k : 2 ≤ k := by
            rcases Nat.lt_or_ge k 2 with h | h
            · have : (2 : Int) ^ k ≤ 2 ^ 1 := pow_mono (by omega)
              have : (2 : Int) ^ 1 = 2 := by decide
              omega
            · exact h
          have hk11 : k < 11 := by
            rcases Nat.lt_or_ge k 11 with h | h
            · exact h
            · have : (2 : Int) ^ 11 ≤ 2 ^ k := pow_mono h
              have : (2 : Int) ^ 11 = 2048 := by decide
              omega
          exact HN.out k h2k hk11 e)
        clear hm
        go_wp2
        go_ret
        exact ⟨ret_b HE.out, rfl⟩
end Go.Proofs.YtbldidlbhahciaaGreat

namespace Go.Proofs.YtbldidlbhahciaaGreat
open Go.RowKit

/-- A heap that the law made, with blocks that are not its own. -/
def LiveG (w0 : World) (N : Nat → Prop) (w : World) (hb bi : Nat) (h : Hp) : Prop := ∃ L ids, LiveH w0 N w hb bi L ids h.S h.last ∧ ids.length = h.P
/-- What an act on it leaves. -/
def LivePostG (w0 : World) (N : Nat → Prop) (w : World) (hb bi : Nat) (h : Hp) (w' : World) : Prop := LiveG w0 N w' hb bi h ∧ Fr (fun k => ¬ N k) w w'
theorem LiveG.then_bel {w0 w w' : World} {N : Nat → Prop} {hb bi : Nat} {h : Hp} (H : LiveG w0 N w hb bi h) (k : Bel w w') : LiveG w0 N w' hb bi h := by
  obtain ⟨L, ids, h1, h2⟩ := H
  exact ⟨L, ids, h1.then_bel k, h2⟩
theorem LiveG.ok {w0 w : World} {N : Nat → Prop} {hb bi : Nat} {h : Hp} (H : LiveG w0 N w hb bi h) : HpOk h := by
  obtain ⟨L, ids, h1, h2⟩ := H
  exact ⟨L, ids, h1.inv, h2⟩
theorem LiveG.bel {w0 w : World} {N : Nat → Prop} {hb bi : Nat} {h : Hp} (H : LiveG w0 N w hb bi h) : Bel w0 w := by
  obtain ⟨L, ids, h1, h2⟩ := H
  exact h1.bel
theorem LiveG.keep {w0 w : World} {N : Nat → Prop} {hb bi : Nat} {h : Hp} (H : LiveG w0 N w hb bi h) : ∀ k, N k → k < w.heap.size := by
  obtain ⟨L, ids, h1, h2⟩ := H
  exact h1.keep
theorem LiveG.watch {w0 w w' : World} {N : Nat → Prop} {hb bi : Nat} {h : Hp} (H : LiveG w0 N w hb bi h) (k : Bel w w') (M : Nat → Prop) (hM : ∀ i, M i → w.heap.size ≤ i ∧ i < w'.heap.size) : LiveG w0 (fun i => N i ∨ M i) w' hb bi h := by
  obtain ⟨L, ids, h1, h2⟩ := H
  exact ⟨L, ids, h1.watch k M hM, h2⟩
theorem LiveG.forget {w0 w : World} {N N' : Nat → Prop} {hb bi : Nat} {h : Hp} (H : LiveG w0 N w hb bi h) (hN : ∀ k, N' k → N k) : LiveG w0 N' w hb bi h := by
  obtain ⟨L, ids, h1, h2⟩ := H
  exact ⟨L, ids, h1.forget hN, h2⟩
theorem LiveG.fr {w0 w w' : World} {N Q : Nat → Prop} {hb bi : Nat} {h : Hp} (H : LiveG w0 N w hb bi h) (k : Fr Q w w') (hQ : ∀ i, Q i → N i ∧ w0.heap.size ≤ i) : LiveG w0 N w' hb bi h := by
  obtain ⟨L, ids, h1, h2⟩ := H
  exact ⟨L, ids, h1.fr k hQ, h2⟩
/-- A block of a type that a heap's blocks don't have. -/
def notHeap (T : Nat) : Prop := T ≠ 74 ∧ T ≠ 110 ∧ T ≠ 31 ∧ T ≠ 113 ∧ T ≠ 3
theorem LiveG.add {w0 w : World} {N : Nat → Prop} {hb bi g T : Nat} {h : Hp} {cur : Array Value} {fz : Nat × Nat} (H : LiveG w0 N w hb bi h) (hg : w.heap[g]? = some (.cells cur T fz)) (hT : notHeap T) : LiveG w0 (fun i => N i ∨ i = g) w hb bi h := by
  obtain ⟨L, ids, H, hl⟩ := H
  obtain ⟨rb, v, bx, bm, h1, h2⟩ := H.at_
  obtain ⟨t1, t2, t3, t4, t5⟩ := hT
  refine ⟨L, ids, ⟨⟨rb, v, bx, bm, h1, fun k hk => ⟨(h2 k hk).1, ?_⟩⟩, H.bel, fun k hk => ?_⟩, hl⟩
  · rintro (h9 | h9)
    · exact (h2 k hk).2 h9
    · subst h9
      rcases hk with e | e | e | e | e | e
      · subst e; rw [h1.hd] at hg; simp at hg; exact t1 hg.2.1.symm
      · subst e; rw [h1.free.hd] at hg; simp at hg; exact t2 hg.2.1.symm
      · obtain ⟨c2, hc2⟩ := own_type h1.free.own e; rw [hc2] at hg; simp at hg; exact t3 hg.2.1.symm
      · subst e; rw [h1.index.hd] at hg; simp at hg; exact t4 hg.2.1.symm
      · subst e; rw [h1.index.nums] at hg; simp at hg; exact t5 hg.2.1.symm
      · subst e
        obtain ⟨es, ck, hm⟩ := h1.spans.map?
        rw [hm] at hg; simp at hg
  · rcases hk with hk | hk
    · exact H.keep k hk
    · subst hk; exact heap_lt hg
/-- Another one's map isn't a heap's if it is younger than it. -/
theorem liveG_new {w w' : World} {n : Nat} {e : Ending} (h : NewH w n e w') : ∃ hb bi, e = .returned (.tuple #[.pointer (some ⟨hb, 0, none⟩), .int .i64 0]) ∧ LiveG w (fun _ => False) w' hb bi (hpNew n) := by
  obtain ⟨hb, bi, e, h1⟩ := liveH_new h
  exact ⟨hb, bi, e, _, _, h1, by simp [hpNew]⟩
theorem LiveG.Make {w0 w : World} {N : Nat → Prop} {hb bi : Nat} {h : Hp} (H : LiveG w0 N w hb bi h) (n ord : Int) (hn : I64 n) (ho : I64 ord) (hl : h.last < 65536) :
    ∀ V, Bel w V → Calls Tryz.prog 33 #[.pointer (some ⟨hb, 0, none⟩), .int .i64 n, .int .i64 ord] V fun e V' => e = .returned (.tuple #[spV (h.make n ord).2.1, .int .i64 (h.make n ord).2.2]) ∧ LivePostG w0 N w hb bi (h.make n ord).1 V' := by
  obtain ⟨L, ids, h1, h2⟩ := H
  obtain ⟨s, en, L', ids', S', last', hR, hC⟩ := liveH_Make h1 n ord hn ho hl
  obtain ⟨e1, e2⟩ := hR.is h1.inv h2
  rw [e1]
  exact fun V hV => (hC V hV).mono fun e V' ⟨a, b⟩ => ⟨a, ⟨L', ids', b.1, e2⟩, b.2⟩
theorem LiveG.Free {w0 w : World} {N : Nat → Prop} {hb bi : Nat} {h : Hp} (H : LiveG w0 N w hb bi h) (l : List Int) (hl : l.length ≤ 1024) (hok : ∀ k ∈ l, (Lit.int .i64 k).wf = true) :
    ∀ V a c, Bel w V → RdV V a (ints l) → Calls Tryz.prog 64 #[.pointer (some ⟨hb, 0, none⟩), .slice a l.length c] V fun e V' => e = .returned (.int .i64 (h.drop l).2) ∧ LivePostG w0 N w hb bi (h.drop l).1 V' := by
  obtain ⟨L, ids, h1, h2⟩ := H
  intro V a c hV hr
  refine (liveH_Free h1 l hl hok V a c hV hr).mono ?_
  rintro e V' ⟨en, L', ids', S', hR, rfl, hP⟩
  obtain ⟨e1, e2⟩ := hR.is h2
  rw [e1]
  exact ⟨rfl, ⟨L', ids', hP.1, e2⟩, hP.2⟩
theorem LiveG.Runs {w0 w : World} {N : Nat → Prop} {hb bi : Nat} {h : Hp} (H : LiveG w0 N w hb bi h) :
    ∀ V, Bel w V → Calls Tryz.prog 27 #[.pointer (some ⟨hb, 0, none⟩)] V (NewRuns V h.free) := by
  obtain ⟨L, ids, h1, h2⟩ := H
  rw [← h1.inv.eq_free h2]
  exact liveH_Runs h1
theorem LiveG.Spans {w0 w : World} {N : Nat → Prop} {hb bi : Nat} {h : Hp} (H : LiveG w0 N w hb bi h) :
    ∀ V, Bel w V → Calls Tryz.prog 21 #[.pointer (some ⟨hb, 0, none⟩)] V (RisenSpans V h.S) := by
  obtain ⟨L, ids, h1, h2⟩ := H
  exact liveH_Spans h1
theorem LiveG.Span {w0 w : World} {N : Nat → Prop} {hb bi : Nat} {h : Hp} (H : LiveG w0 N w hb bi h) (k : Int) (hk : (Lit.int .i64 k).wf = true) :
    ∀ V, Bel w V → Calls Tryz.prog 61 #[.pointer (some ⟨hb, 0, none⟩), .int .i64 k] V fun e V' => e = .returned (.tuple #[spV ((getS h.S k).getD sp0), .bool (getS h.S k).isSome]) ∧ Bel V V' := by
  obtain ⟨L, ids, h1, h2⟩ := H
  obtain ⟨rb, v, bx, bm, h1, h2⟩ := h1.at_
  exact fun V hV => heap_Span V (h1.bel hV) k hk
end Go.Proofs.YtbldidlbhahciaaGreat

namespace Go.Proofs.YtbldidlbhahciaaGreat
open Go.RowKit

theorem run_app_own {w : World} (t ty e : TypeId) (i : TypeInfo) (z : Value) (size bytes : Nat) (ht : Tryz.prog.underlying t = some (.slice e)) (hi : Tryz.prog.info? e = some i) (hz : i.zero = some z)
    (hsize : i.size = size) (hby : i.bytes = bytes) (hzs : z.cells.size = size) (hsz : 0 < size) (base : Nat) (v : Value) (n : Nat) (xs : List Value) (hown : w.ownsRow base e size v n xs)
    (ad : Addr) (m c : Nat) (news : List Value) (hl : news.length = m * size) (hnews : ∀ j u, news[j]? = some u → w.cell? (ad.add j) = some u) (h1 : ∀ u ∈ news, u.oneCell' = true)
    (h63 : n + m ≤ maxLen) (hbytes : (n + m) * bytes ≤ 140737488355328) (hbase : base ≤ w.heap.size) (hm : 0 < m) :
    ∃ g cap w', (Builtin.append_ #[t, t] ty #[v, .slice (some ad) m c]).run Tryz.prog w = .ok (.slice (some ⟨g, 0, none⟩) (n + m) cap) w' ∧ w'.ownsRow base e size (.slice (some ⟨g, 0, none⟩) (n + m) cap) (n + m) (xs ++ news) ∧ w.grownBy w' v.ownBlock ∧ (v.ownBlock = some g ∨ g = w.heap.size) := by
  obtain ⟨v', w', h1, h2, h3, h4, h5⟩ := run_append_own_at (P := Tryz.prog) w base t ty e i z size bytes ht hi hz hsize hby hzs hsz v n xs hown ad m c news hl hnews h1 h63 hbytes hbase
  rcases h2.2 with ⟨h9, _⟩ | ⟨g, cap, cur, h9, _⟩
  · rw [h9] at h4
    have := (h4.1 rfl).2
    omega
  · subst h9
    refine ⟨g, cap, w', h1, h2, h3, ?_⟩
    rcases h5 with h5 | h5
    · left; simpa [Value.ownBlock] using h5.symm
    · right; simpa [Value.ownBlock] using h5
theorem step_app_own {w : World} {ops : Array Oper} {o : Oper} {a : Act} {K : Act → World → Prop} {Q : Exit → Act → World → Prop} {E : Prop} (hgd : o.guard = none) (s x : Operand) (t e : TypeId)
    (ho : o.op = .call { callee := .builtin .append, args := #[s, x], argTypes := #[t, t] }) (i : TypeInfo) (z : Value) (size bytes : Nat) (ht : Tryz.prog.underlying t = some (.slice e)) (hi : Tryz.prog.info? e = some i) (hz : i.zero = some z)
    (hsize : i.size = size) (hby : i.bytes = bytes) (hzs : z.cells.size = size) (hsz : 0 < size) (base : Nat) (v : Value) (n : Nat) (xs : List Value) (hs : a.eval s = v) (hown : w.ownsRow base e size v n xs)
    (ad : Addr) (m c : Nat) (news : List Value) (hx : a.eval x = .slice (some ad) m c) (hl : news.length = m * size) (hnews : ∀ j u, news[j]? = some u → w.cell? (ad.add j) = some u) (h1 : ∀ u ∈ news, u.oneCell' = true)
    (h63 : n + m ≤ maxLen) (hbytes : (n + m) * bytes ≤ 140737488355328) (hbase : base ≤ w.heap.size) (hm : 0 < m) (nm : Nat) (hnm : n + m = nm) (ys : List Value) (hys : xs ++ news = ys)
    (h : ∀ g cap w', w'.ownsRow base e size (.slice (some ⟨g, 0, none⟩) nm cap) nm ys → w.grownBy w' v.ownBlock → (v.ownBlock = some g ∨ g = w.heap.size) → K (a.put o.dst (.slice (some ⟨g, 0, none⟩) nm cap)) w') :
    if Region.wanted o (yielded ops a.tmps) = true then Oper.wp Tryz.prog o a w K Q else E := by
  subst hs hnm hys
  have hw : Region.wanted o (yielded ops a.tmps) = true := by simp [Region.wanted, hgd]
  rw [if_pos hw]
  obtain ⟨g, cap, w', e1, e2, e3, e4⟩ := run_app_own (w := w) t o.type e i z size bytes ht hi hz hsize hby hzs hsz base (a.eval s) n xs hown ad m c news hl hnews h1 h63 hbytes hbase hm
  unfold Oper.wp execOp
  simp only [ho, resolve, invoke, builtin, Sem.run_bind, Sem.run_pure, Result.andThen_ok, List.map_toArray, List.map_cons, List.map_nil, hx, e1]
  exact h g cap w' e2 e3 e4
theorem wpList_app_own {w : World} {ops : Array Oper} {rest : List Oper} {o : Oper} {a : Act} {Q : Exit → Act → World → Prop} (hgd : o.guard = none) (s x : Operand) (t e : TypeId)
    (ho : o.op = .call { callee := .builtin .append, args := #[s, x], argTypes := #[t, t] }) (i : TypeInfo) (z : Value) (size bytes : Nat) (ht : Tryz.prog.underlying t = some (.slice e)) (hi : Tryz.prog.info? e = some i) (hz : i.zero = some z)
    (hsize : i.size = size) (hby : i.bytes = bytes) (hzs : z.cells.size = size) (hsz : 0 < size) (base : Nat) (v : Value) (n : Nat) (xs : List Value) (hs : a.eval s = v) (hown : w.ownsRow base e size v n xs)
    (ad : Addr) (m c : Nat) (news : List Value) (hx : a.eval x = .slice (some ad) m c) (hl : news.length = m * size) (hnews : ∀ j u, news[j]? = some u → w.cell? (ad.add j) = some u) (h1 : ∀ u ∈ news, u.oneCell' = true)
    (h63 : n + m ≤ maxLen) (hbytes : (n + m) * bytes ≤ 140737488355328) (hbase : base ≤ w.heap.size) (hm : 0 < m) (nm : Nat) (hnm : n + m = nm) (ys : List Value) (hys : xs ++ news = ys)
    (h : ∀ g cap w', w'.ownsRow base e size (.slice (some ⟨g, 0, none⟩) nm cap) nm ys → w.grownBy w' v.ownBlock → (v.ownBlock = some g ∨ g = w.heap.size) → wpList Tryz.prog ops Q rest (a.put o.dst (.slice (some ⟨g, 0, none⟩) nm cap)) w') :
    wpList Tryz.prog ops Q (o :: rest) a w := by
  subst hs hnm hys
  refine wpList_plain hgd fun K hK => ?_
  obtain ⟨g, cap, w', e1, e2, e3, e4⟩ := run_app_own (w := w) t o.type e i z size bytes ht hi hz hsize hby hzs hsz base (a.eval s) n xs hown ad m c news hl hnews h1 h63 hbytes hbase hm
  unfold Oper.wp execOp
  simp only [ho, resolve, invoke, builtin, Sem.run_bind, Sem.run_pure, Result.andThen_ok, List.map_toArray, List.map_cons, List.map_nil, hx, e1]
  exact hK _ _ (h g cap w' e2 e3 e4)
end Go.Proofs.YtbldidlbhahciaaGreat

namespace Go.Proofs.YtbldidlbhahciaaGreat
open Go.RowKit

/-- Spans in a row of one's own. -/
def RowSp (base : Nat) (w : World) (v : Value) (L : List Sp) : Prop := w.ownsRow base 33 4 v L.length (spCellsOf L)
/-- Blocks of a keeper, and others that aren't its heap's. -/
def kN (N : Nat → Prop) (k : Nat) (kv wv : Value) : Nat → Prop := fun i => N i ∨ i = k ∨ kv.ownBlock = some i ∨ wv.ownBlock = some i
/-- A keeper: its struct is block k. -/
structure KAt (w0 : World) (N : Nat → Prop) (w : World) (k hb bi : Nat) (kv wv : Value) (st : KS) : Prop where
  hd : w.heap[k]? = some (.cells #[.pointer (some ⟨hb, 0, none⟩), kv, wv, .bool st.held] 76 (0, 0))
  kept : RowSp w0.heap.size w kv st.kept
  waits : RowSp w0.heap.size w wv st.waits
  apart : ∀ g, kv.ownBlock = some g → wv.ownBlock ≠ some g
  nN : ∀ i, i = k ∨ kv.ownBlock = some i ∨ wv.ownBlock = some i → ¬ N i
  heap : LiveG w0 (kN N k kv wv) w hb bi st.h
  lo : w0.heap.size ≤ k
  inv : KInv st
def LiveK (w0 : World) (N : Nat → Prop) (w : World) (k hb bi : Nat) (st : KS) : Prop := ∃ kv wv, KAt w0 N w k hb bi kv wv st
def LivePostK (w0 : World) (N : Nat → Prop) (w : World) (k hb bi : Nat) (st : KS) (w' : World) : Prop := LiveK w0 N w' k hb bi st ∧ Fr (fun i => ¬ N i) w w'
theorem RowSp.bel {base : Nat} {w w' : World} {v : Value} {L : List Sp} (h : RowSp base w v L) (k : Bel w w') : RowSp base w' v L := own_bel h k
theorem RowSp.fr {S : Nat → Prop} {base : Nat} {w w' : World} {v : Value} {L : List Sp} (h : RowSp base w v L) (k : Fr S w w') (hS : ∀ b, v.ownBlock = some b → ¬ S b) : RowSp base w' v L := own_fr h k (fun b _ hb => hS b hb)
theorem RowSp.in {base : Nat} {w : World} {v : Value} {L : List Sp} (h : RowSp base w v L) : ∃ a c, v = .slice a L.length c ∧ SpansIn w a L ∧ (∀ p, a = some p → base ≤ p.block) ∧ (∀ p, a = some p → v.ownBlock = some p.block) := by
  obtain ⟨a, c, rfl, hr, _, hp⟩ := own_slice2 h
  refine ⟨a, c, rfl, .of_row hr, hp, fun p hp => ?_⟩
  rcases h.2 with ⟨h3, _⟩ | ⟨g, cap, cur, h3, _⟩
  · simp at h3; rw [h3.1] at hp; cases hp
  · simp at h3; rw [h3.1] at hp; cases hp; simp [Value.ownBlock, h3.1]
theorem KAt.then_bel {w0 w w' : World} {N : Nat → Prop} {k hb bi : Nat} {kv wv : Value} {st : KS} (H : KAt w0 N w k hb bi kv wv st) (h : Bel w w') : KAt w0 N w' k hb bi kv wv st :=
  ⟨h.blk H.hd, H.kept.bel h, H.waits.bel h, H.apart, H.nN, H.heap.then_bel h, H.lo, H.inv⟩
theorem LiveK.then_bel {w0 w w' : World} {N : Nat → Prop} {k hb bi : Nat} {st : KS} (H : LiveK w0 N w k hb bi st) (h : Bel w w') : LiveK w0 N w' k hb bi st := by
  obtain ⟨kv, wv, H⟩ := H
  exact ⟨kv, wv, H.then_bel h⟩
theorem KAt.bel {w0 w : World} {N : Nat → Prop} {k hb bi : Nat} {kv wv : Value} {st : KS} (H : KAt w0 N w k hb bi kv wv st) : Bel w0 w := H.heap.bel
theorem LiveK.bel {w0 w : World} {N : Nat → Prop} {k hb bi : Nat} {st : KS} (H : LiveK w0 N w k hb bi st) : Bel w0 w := by
  obtain ⟨kv, wv, H⟩ := H
  exact H.bel
theorem LiveK.inv {w0 w : World} {N : Nat → Prop} {k hb bi : Nat} {st : KS} (H : LiveK w0 N w k hb bi st) : KInv st := by
  obtain ⟨kv, wv, H⟩ := H
  exact H.inv
theorem LivePostK.from {w0 w W w' : World} {N : Nat → Prop} {k hb bi : Nat} {st : KS} (H : LivePostK w0 N W k hb bi st w') (h : Bel w W) : LivePostK w0 N w k hb bi st w' :=
  ⟨H.1, (Fr.of_bel h).trans' H.2⟩
theorem LivePostK.then_bel {w0 w W w' : World} {N : Nat → Prop} {k hb bi : Nat} {st : KS} (H : LivePostK w0 N w k hb bi st W) (h : Bel W w') : LivePostK w0 N w k hb bi st w' :=
  ⟨H.1.then_bel h, H.2.then_bel h⟩
theorem LivePostK.same {w0 w w' : World} {N : Nat → Prop} {k hb bi : Nat} {st : KS} (H : LiveK w0 N w k hb bi st) (h : Bel w w') : LivePostK w0 N w k hb bi st w' :=
  ⟨H.then_bel h, Fr.of_bel h⟩
theorem LivePostK.trans {w0 w w1 w2 : World} {N : Nat → Prop} {k hb bi : Nat} {st st' : KS} (H : LivePostK w0 N w k hb bi st w1) (h : LivePostK w0 N w1 k hb bi st' w2) : LivePostK w0 N w k hb bi st' w2 :=
  ⟨h.1, H.2.trans' h.2⟩
theorem row_type {base : Nat} {w : World} {v : Value} {L : List Sp} (h : RowSp base w v L) {g : Nat} (hg : v.ownBlock = some g) : ∃ cur, w.heap[g]? = some (.cells cur 33 (0, 0)) := own_type h hg
theorem notHeap_span : notHeap 33 := by unfold notHeap; decide
theorem notHeap_keeper : notHeap 76 := by unfold notHeap; decide
/-- The struct isn't among its rows' blocks. -/
theorem KAt.ne {w0 w : World} {N : Nat → Prop} {k hb bi : Nat} {kv wv : Value} {st : KS} (H : KAt w0 N w k hb bi kv wv st) : kv.ownBlock ≠ some k ∧ wv.ownBlock ≠ some k := by
  constructor
  · intro e
    obtain ⟨cur, hc⟩ := row_type H.kept e
    rw [H.hd] at hc; simp at hc
  · intro e
    obtain ⟨cur, hc⟩ := row_type H.waits e
    rw [H.hd] at hc; simp at hc
/-- Its heap has turned, then its own blocks. -/
theorem KAt.upd2 {w0 w w1 w' : World} {N : Nat → Prop} {k hb bi : Nat} {kv wv kv' wv' : Value} {st st' : KS} (H : KAt w0 N w k hb bi kv wv st) (hP : LivePostG w0 (kN N k kv wv) w hb bi st'.h w1)
    (hF : Fr (fun i => i = k ∨ kv.ownBlock = some i ∨ wv.ownBlock = some i) w1 w') (hd : w'.heap[k]? = some (.cells #[.pointer (some ⟨hb, 0, none⟩), kv', wv', .bool st'.held] 76 (0, 0)))
    (hk : RowSp w0.heap.size w' kv' st'.kept) (hw : RowSp w0.heap.size w' wv' st'.waits) (ha : ∀ g, kv'.ownBlock = some g → wv'.ownBlock ≠ some g)
    (hk2 : ∀ g, kv'.ownBlock = some g → kv.ownBlock = some g ∨ wv.ownBlock = some g ∨ w1.heap.size ≤ g) (hw2 : ∀ g, wv'.ownBlock = some g → kv.ownBlock = some g ∨ wv.ownBlock = some g ∨ w1.heap.size ≤ g) (hi : KInv st') : LivePostK w0 N w k hb bi st' w' := by
  have hold : ∀ i, N i → i < w1.heap.size := fun i hi => Nat.lt_of_lt_of_le (H.heap.keep i (.inl hi)) hP.2.size
  have hlo : ∀ i, (i = k ∨ kv.ownBlock = some i ∨ wv.ownBlock = some i) → w0.heap.size ≤ i := fun i hi => by
    rcases hi with rfl | hi | hi
    · exact H.lo
    · exact (World.ownsRow.lt H.kept i hi).1
    · exact (World.ownsRow.lt H.waits i hi).1
  have h1 : LiveG w0 (kN N k kv wv) w' hb bi st'.h := hP.1.fr hF (fun i hi => ⟨.inr hi, hlo i hi⟩)
  have hnew : ∀ i, (kv'.ownBlock = some i ∨ wv'.ownBlock = some i) → ¬ N i := fun i hi hN => by
    have h9 : kv.ownBlock = some i ∨ wv.ownBlock = some i ∨ w1.heap.size ≤ i := by
      rcases hi with hi | hi
      · exact hk2 i hi
      · exact hw2 i hi
    rcases h9 with h9 | h9 | h9
    · exact H.nN i (.inr (.inl h9)) hN
    · exact H.nN i (.inr (.inr h9)) hN
    · have := hold i hN; omega
  refine ⟨⟨kv', wv', hd, hk, hw, ha, fun i hi => ?_, ?_, H.lo, hi⟩, (hP.2.mono (fun i hi hN => hi (.inl hN))).trans' (hF.mono (fun i hi => H.nN i hi))⟩
  · rcases hi with rfl | hi
    · exact H.nN _ (.inl rfl)
    · exact hnew i hi
  · -- the heap's blocks are none of these
    have h2 : ∀ (v : Value) {M : Nat → Prop}, (∀ g, v.ownBlock = some g → ∃ cur, w'.heap[g]? = some (.cells cur 33 (0, 0))) → LiveG w0 M w' hb bi st'.h → LiveG w0 (fun i => M i ∨ v.ownBlock = some i) w' hb bi st'.h := fun v M hv hM => by
      cases hb2 : v.ownBlock with
      | none => exact hM.forget (fun i hi => by rcases hi with hi | hi; exact hi; cases hi)
      | some g =>
        obtain ⟨cur, hc⟩ := hv g hb2
        exact (hM.add hc notHeap_span).forget (fun i hi => by rcases hi with hi | hi; exact .inl hi; cases hi; exact .inr rfl)
    have h3 := h2 wv' (fun g hg => row_type hw hg) (h2 kv' (fun g hg => row_type hk hg) h1)
    exact h3.forget (fun i hi => by
      rcases hi with hi | hi | hi | hi
      · exact .inl (.inl (.inl hi))
      · exact .inl (.inl (.inr (.inl hi)))
      · exact .inl (.inr hi)
      · exact .inr hi)
/-- Its own blocks have turned. -/
theorem KAt.upd {w0 w w' : World} {N : Nat → Prop} {k hb bi : Nat} {kv wv kv' wv' : Value} {st st' : KS} (H : KAt w0 N w k hb bi kv wv st)
    (hF : Fr (fun i => i = k ∨ kv.ownBlock = some i ∨ wv.ownBlock = some i) w w') (hd : w'.heap[k]? = some (.cells #[.pointer (some ⟨hb, 0, none⟩), kv', wv', .bool st'.held] 76 (0, 0)))
    (hk : RowSp w0.heap.size w' kv' st'.kept) (hw : RowSp w0.heap.size w' wv' st'.waits) (ha : ∀ g, kv'.ownBlock = some g → wv'.ownBlock ≠ some g)
    (hk2 : ∀ g, kv'.ownBlock = some g → kv.ownBlock = some g ∨ wv.ownBlock = some g ∨ w.heap.size ≤ g) (hw2 : ∀ g, wv'.ownBlock = some g → kv.ownBlock = some g ∨ wv.ownBlock = some g ∨ w.heap.size ≤ g) (hh : st'.h = st.h) (hi : KInv st') : LivePostK w0 N w k hb bi st' w' :=
  H.upd2 (w1 := w) ⟨by rw [hh]; exact H.heap, Fr.refl _ _⟩ hF hd hk hw ha hk2 hw2 hi
/-- Its heap has turned. -/
theorem KAt.turn {w0 w w' : World} {N : Nat → Prop} {k hb bi : Nat} {kv wv : Value} {st : KS} {h' : Hp} (H : KAt w0 N w k hb bi kv wv st) (hP : LivePostG w0 (kN N k kv wv) w hb bi h' w') (hi : KInv ⟨h', st.kept, st.waits, st.held⟩) :
    KAt w0 N w' k hb bi kv wv ⟨h', st.kept, st.waits, st.held⟩ ∧ Fr (fun i => ¬ N i) w w' := by
  refine ⟨⟨hP.2.heap H.hd (fun h => h (.inr (.inl rfl))), H.kept.fr hP.2 (fun b hb h => h (.inr (.inr (.inl hb)))), H.waits.fr hP.2 (fun b hb h => h (.inr (.inr (.inr hb)))), H.apart, H.nN, hP.1, H.lo, hi⟩, hP.2.mono (fun i hi hN => hi (.inl hN))⟩
/-- It was just made. -/
theorem KAt.made {w0 w : World} {N : Nat → Prop} {hb bi : Nat} {h : Hp} (H : LiveG w0 N w hb bi h) (hN : ∀ i, N i → i < w.heap.size) :
    KAt w0 N (w.alloc (.cells #[.pointer (some ⟨hb, 0, none⟩), .slice none 0 0, .slice none 0 0, .bool false] 76)) w.heap.size hb bi (.slice none 0 0) (.slice none 0 0) (ksNew h) := by
  have hb1 := (Bel.refl w).alloc (.cells #[.pointer (some ⟨hb, 0, none⟩), .slice none 0 0, .slice none 0 0, .bool false] 76)
  refine ⟨blk_alloc _ _, World.ownsRow_nil _ _ _ _, World.ownsRow_nil _ _ _ _, fun g hg => by simp [Value.ownBlock] at hg, fun i hi hNi => ?_, ?_, H.bel.size, ksNew_inv H.ok⟩
  · rcases hi with rfl | hi | hi
    · have := hN _ hNi; omega
    · simp [Value.ownBlock] at hi
    · simp [Value.ownBlock] at hi
  · exact (H.watch hb1 (fun i => i = w.heap.size) (fun i hi => by subst hi; simp)).forget (fun i hi => by
      rcases hi with hi | hi | hi | hi
      · exact .inl hi
      · exact .inr hi
      · simp [Value.ownBlock] at hi
      · simp [Value.ownBlock] at hi)
/-- Others' blocks are watched. -/
theorem KAt.watch {w0 w w' : World} {N : Nat → Prop} {k hb bi : Nat} {kv wv : Value} {st : KS} (H : KAt w0 N w k hb bi kv wv st) (h : Bel w w') (M : Nat → Prop) (hM : ∀ i, M i → w.heap.size ≤ i ∧ i < w'.heap.size) : KAt w0 (fun i => N i ∨ M i) w' k hb bi kv wv st := by
  have H' := H.then_bel h
  refine ⟨H'.hd, H'.kept, H'.waits, H'.apart, fun i hi => ?_, ?_, H'.lo, H'.inv⟩
  · rintro (h9 | h9)
    · exact H.nN i hi h9
    · have h8 := (hM i h9).1
      rcases hi with rfl | hi | hi
      · have := heap_lt H.hd; omega
      · have := (World.ownsRow.lt H.kept i hi).2; omega
      · have := (World.ownsRow.lt H.waits i hi).2; omega
  · exact (H.heap.watch h M hM).forget (fun i hi => by
      rcases hi with (hi | hi) | hi | hi | hi
      · exact .inl (.inl hi)
      · exact .inr hi
      · exact .inl (.inr (.inl hi))
      · exact .inl (.inr (.inr (.inl hi)))
      · exact .inl (.inr (.inr (.inr hi))))
theorem LiveK.watch {w0 w w' : World} {N : Nat → Prop} {k hb bi : Nat} {st : KS} (H : LiveK w0 N w k hb bi st) (h : Bel w w') (M : Nat → Prop) (hM : ∀ i, M i → w.heap.size ≤ i ∧ i < w'.heap.size) : LiveK w0 (fun i => N i ∨ M i) w' k hb bi st := by
  obtain ⟨kv, wv, H⟩ := H
  exact ⟨kv, wv, H.watch h M hM⟩
theorem LiveK.forget {w0 w : World} {N N' : Nat → Prop} {k hb bi : Nat} {st : KS} (H : LiveK w0 N w k hb bi st) (hN : ∀ i, N' i → N i) : LiveK w0 N' w k hb bi st := by
  obtain ⟨kv, wv, H⟩ := H
  exact ⟨kv, wv, H.hd, H.kept, H.waits, H.apart, fun i hi h9 => H.nN i hi (hN i h9), H.heap.forget (fun i hi => by rcases hi with hi | hi; exact .inl (hN i hi); exact .inr hi), H.lo, H.inv⟩
theorem LiveK.keep {w0 w : World} {N : Nat → Prop} {k hb bi : Nat} {st : KS} (H : LiveK w0 N w k hb bi st) : ∀ i, N i → i < w.heap.size := by
  obtain ⟨kv, wv, H⟩ := H
  exact fun i hi => H.heap.keep i (.inl hi)
theorem LiveK.fr {w0 w w' : World} {N Q : Nat → Prop} {k hb bi : Nat} {st : KS} (H : LiveK w0 N w k hb bi st) (h : Fr Q w w') (hQ : ∀ i, Q i → N i ∧ w0.heap.size ≤ i) : LiveK w0 N w' k hb bi st := by
  obtain ⟨kv, wv, H⟩ := H
  exact ⟨kv, wv, h.heap H.hd (fun hq => H.nN _ (.inl rfl) (hQ _ hq).1), H.kept.fr h (fun b hb hq => H.nN _ (.inr (.inl hb)) (hQ _ hq).1), H.waits.fr h (fun b hb hq => H.nN _ (.inr (.inr hb)) (hQ _ hq).1), H.apart, H.nN, H.heap.fr h (fun i hi => ⟨.inl (hQ i hi).1, (hQ i hi).2⟩), H.lo, H.inv⟩
/-- A block of another type isn't its own. -/
theorem LiveK.add {w0 w : World} {N : Nat → Prop} {k hb bi g T : Nat} {st : KS} {cur : Array Value} {fz : Nat × Nat} (H : LiveK w0 N w k hb bi st) (hg : w.heap[g]? = some (.cells cur T fz)) (hT : notHeap T) (h1 : T ≠ 76) (h2 : T ≠ 33) : LiveK w0 (fun i => N i ∨ i = g) w k hb bi st := by
  obtain ⟨kv, wv, H⟩ := H
  refine ⟨kv, wv, H.hd, H.kept, H.waits, H.apart, fun i hi => ?_, ?_, H.lo, H.inv⟩
  · rintro (h9 | h9)
    · exact H.nN i hi h9
    · subst h9
      rcases hi with rfl | hi | hi
      · rw [H.hd] at hg; simp at hg; exact h1 hg.2.1.symm
      · obtain ⟨c, hc⟩ := row_type H.kept hi; rw [hc] at hg; simp at hg; exact h2 hg.2.1.symm
      · obtain ⟨c, hc⟩ := row_type H.waits hi; rw [hc] at hg; simp at hg; exact h2 hg.2.1.symm
  · exact (H.heap.add hg hT).forget (fun i hi => by
      rcases hi with (hi | hi) | hi
      · exact .inl (.inl hi)
      · exact .inr hi
      · exact .inl (.inr hi))
/-- The law's own act on its heap. -/
theorem LiveK.heapMake {w0 w : World} {N : Nat → Prop} {k hb bi : Nat} {st : KS} (H : LiveK w0 N w k hb bi st) (n ord : Int) (hn : I64 n) (ho : I64 ord) (hl : st.h.last < 65536) :
    ∀ V, Bel w V → Calls Tryz.prog 33 #[.pointer (some ⟨hb, 0, none⟩), .int .i64 n, .int .i64 ord] V fun e V' => e = .returned (.tuple #[spV (st.h.make n ord).2.1, .int .i64 (st.h.make n ord).2.2]) ∧ LivePostK w0 N w k hb bi ⟨(st.h.make n ord).1, st.kept, st.waits, st.held⟩ V' := by
  obtain ⟨kv, wv, H⟩ := H
  exact fun V hV => (H.heap.Make n ord hn ho hl V hV).mono fun e V' ⟨a, b⟩ => by
    obtain ⟨c, d⟩ := H.turn b (H.inv.made n ord)
    exact ⟨a, ⟨kv, wv, c⟩, d⟩
theorem LiveK.heapSpans {w0 w : World} {N : Nat → Prop} {k hb bi : Nat} {st : KS} (H : LiveK w0 N w k hb bi st) :
    ∀ V, Bel w V → Calls Tryz.prog 21 #[.pointer (some ⟨hb, 0, none⟩)] V (RisenSpans V st.h.S) := by
  obtain ⟨kv, wv, H⟩ := H
  exact H.heap.Spans
theorem LiveK.heapRuns {w0 w : World} {N : Nat → Prop} {k hb bi : Nat} {st : KS} (H : LiveK w0 N w k hb bi st) :
    ∀ V, Bel w V → Calls Tryz.prog 27 #[.pointer (some ⟨hb, 0, none⟩)] V (NewRuns V st.h.free) := by
  obtain ⟨kv, wv, H⟩ := H
  exact H.heap.Runs
end Go.Proofs.YtbldidlbhahciaaGreat

namespace Go.Proofs.YtbldidlbhahciaaGreat
open Go.RowKit Go.Shelf
attribute [local go_sem] Oper.semAt_some

/-- A span from behind. -/
def backF (zs : List Sp) (x : Fin zs.length) : Sp := zs[zs.length - 1 - x.1]'(by have := x.2; omega)
def backV (zs : List Sp) (x : Fin zs.length) : Array Value := #[.int .i64 ((zs.length : Int) - 1 - x.1), .agg #[.int .i64 (backF zs x).1, .int .i64 (backF zs x).2.1.1, .int .i64 (backF zs x).2.1.2, .int .i64 (backF zs x).2.2]]
theorem fin_take {n k : Nat} (h : k < n) : (List.finRange n).take (k + 1) = (List.finRange n).take k ++ [⟨k, h⟩] := by
  rw [List.take_succ_eq_append_getElem (by simpa using h)]
  simp
theorem SpansIn.below {n₀ : Nat} {A B : World} {a : Option Addr} {zs : List Sp} (h : SpansIn A a zs) (k : Go.RowKit.Below n₀ A B) (hb : ∀ p, a = some p → p.block < n₀) : SpansIn B a zs := by
  rcases h with h | ⟨b, o, e, h⟩
  · exact .inl h
  · exact .inr ⟨b, o, e, fun i hi j v hv => (k.cell (p := ⟨b, o + i * 4 + j, none⟩) (hb ⟨b, o, none⟩ e)).trans (h i hi j v hv)⟩
set_option maxRecDepth 100000 in
set_option maxHeartbeats 4000000 in
theorem back1_in (F : Fence) (n : Nat) (h7 : F.fn 58) (hro : F.round = none) (hn : 1 ≤ n) (l Bs n₀ cap : Nat) (a : Option Addr) (zs : List Sp) (hreach : zs.length ≤ 65536) (hBn : Bs < n₀) (hb : ∀ p, a = some p → p.block < n₀) (J Jx : List (Fin zs.length) → World → Prop)
    (hY : ∀ pre x W, J pre W → pre.length < zs.length → YieldAt F (n - 1) Tryz.prog l (backV zs x) W fun e W' =>
      (e = .returned (.bool true) ∧ J (pre ++ [x]) W' ∧ Below n₀ W W') ∨ (e = .returned (.bool false) ∧ Jx (pre ++ [x]) W'))
    (W : World) (hBs : W.cell? ⟨Bs, 0, none⟩ = some (.slice a zs.length cap)) (hin : SpansIn W a zs) (h0 : J [] W) :
    CallsIn F n Tryz.prog 58 #[.func (.yield l) #[] #[], .pointer (some ⟨Bs, 0, none⟩)] W fun e W' => (∃ v, e = .returned v) ∧
      ((∃ ys, ys = List.finRange zs.length ∧ J ys W') ∨ (∃ pre, (∃ k, k ≤ zs.length ∧ pre = (List.finRange zs.length).take k) ∧ Jx pre W')) := by
  have HIN := Lib.hid hin
  clear hin
  have z0 : IntKind.i64.wrap ((zs.length : Int) - 1) = (zs.length : Int) - 1 := IntWalk.i64_in _ (by omega)
  refine callsIn_of_wp Tryz.func58 rfl h7 ?_ hro
  simp only [Tryz.ntmps58, List.size_toArray, List.length_cons, List.length_nil, Nat.reduceAdd, Nat.reduceSub, Array.replicate_succ, Array.replicate_zero, List.push_toArray, List.append_toArray, List.nil_append, List.cons_append]
  gi_wp2
  gi_loopw [3] (fun i wr => ∃ k : Nat, k ≤ zs.length ∧ i = .int .i64 ((zs.length : Int) - 1 - k) ∧ J ((List.finRange zs.length).take k) wr ∧ Below n₀ W wr)
    (fun i _ => (intOf i + 1).toNat)
  case atStart => exact ⟨0, Nat.zero_le _, by simp, h0, Below.refl _ _⟩
  case round =>
    obtain ⟨k, hk, rfl, hJs, hnx⟩ := hrel
    have hbs := (hnx.cell (p := ⟨Bs, 0, none⟩) hBn).trans hBs
    by_cases hlt : k < zs.length
    · obtain ⟨b, o, rfl, p0, p1, p2, p3⟩ := (HIN.out.below hnx hb).at (zs.length - 1 - k) (by omega)
      obtain ⟨j, hj⟩ : ∃ j, zs.length - 1 - k = j := ⟨_, rfl⟩
      have hji : (zs.length : Int) - 1 - k = (j : Int) := by omega
      have hjl : j < zs.length := by omega
      have hbk : backV zs ⟨k, hlt⟩ = #[.int .i64 (j : Int), .agg #[.int .i64 zs[j].1, .int .i64 zs[j].2.1.1, .int .i64 zs[j].2.1.2, .int .i64 zs[j].2.2]] := by
        unfold backV backF
        simp only [hj]
        rw [hji]
      simp only [hj] at p0 p1 p2 p3
      rw [hji]
      obtain ⟨x, hx⟩ : ∃ x, zs[j] = x := ⟨_, rfl⟩
      rw [hx] at p0 p1 p2 p3 hbk
      obtain ⟨x1, ⟨x2, x3⟩, x4⟩ := x
      dsimp only at p0 p1 p2 p3
      obtain ⟨fn, tmps, assign, body, hy, hR⟩ := hY _ ⟨k, hlt⟩ _ hJs (by simp; omega)
      rw [hbk] at hy
      have z1 : IntKind.i64.wrap ((j : Int) - 1) = (j : Int) - 1 := IntWalk.i64_in _ (by omega)
      gi_wp2
      refine hR.mono ?_
      rintro e W3 (⟨rfl, hJ3, hk3⟩ | ⟨rfl, hJx3⟩)
      · gi_wp2
        go_roundw
        case rel => exact ⟨k + 1, by omega, by congr 1; omega, by rw [fin_take hlt]; exact hJ3, hnx.trans hk3⟩
        case measure => first | (simp [intOf]; done) | (simp [intOf]; omega)
      · gi_wp2
        refine bodyPost_ret (results_none rfl _ _ _) rfl ?_
        exact ⟨⟨_, rfl⟩, .inr ⟨_, ⟨k + 1, by omega, by rw [fin_take hlt]⟩, hJx3⟩⟩
    · obtain rfl : k = zs.length := by omega
      have hneg : ¬ (0 : Int) ≤ (zs.length : Int) - 1 - zs.length := by omega
      gi_wp2
      go_end0
      have e9 : (List.finRange zs.length).take zs.length = List.finRange zs.length := List.take_of_length_le (by simp)
      rw [e9] at hJs
      exact ⟨⟨_, rfl⟩, .inl hJs⟩
theorem back_stops (F : Fence) (n : Nat) (h7 : F.fn 58) (hro : F.round = none) (hn : 1 ≤ n) (Bs n₀ cap : Nat) (a : Option Addr) (zs : List Sp) (hreach : zs.length ≤ 65536) (w : World) (hBn : Bs < n₀) (hn₀ : n₀ ≤ w.heap.size) (hb : ∀ p, a = some p → p.block < n₀)
    (hBs : w.cell? ⟨Bs, 0, none⟩ = some (.slice a zs.length cap)) (hin : SpansIn w a zs) :
    SeqStopsK F n Tryz.prog 58 #[.pointer (some ⟨Bs, 0, none⟩)] (backV zs) (Go.RowKit.Below n₀) (fun ys => ys = List.finRange zs.length) (fun pre => ∃ k, k ≤ zs.length ∧ pre = (List.finRange zs.length).take k) zs.length w := fun l J Jx W hW hJ _ hY h0 => by
  have hk := hW.mono hn₀
  refine (back1_in F n h7 hro hn l Bs n₀ cap a zs hreach hBn hb J Jx hY W ((hk.cell (p := ⟨Bs, 0, none⟩) hBn).trans hBs) (hin.below hk hb) h0).mono ?_
  rintro e W' ⟨he, ⟨ys, rfl, hj⟩ | ⟨pre, ⟨k, hk, rfl⟩, hj⟩⟩
  · exact ⟨he, .inl ⟨_, rfl, hj⟩⟩
  · exact ⟨he, .inr ⟨_, ⟨k, hk, rfl⟩, hj⟩⟩
theorem backward_call (a : Option Addr) (m c : Nat) (w : World) :
    Calls Tryz.prog 31 #[.slice a m c] w fun e w' => e = .returned (.func (.func 58) #[] #[.pointer (some ⟨w.heap.size, 0, none⟩)]) ∧ w' = w.alloc (.cells #[.slice a m c] 42) := by
  go_enter Tryz.func31, Tryz.ntmps31
  go_wp2
  go_ret
  exact ⟨rfl, rfl⟩
end Go.Proofs.YtbldidlbhahciaaGreat
