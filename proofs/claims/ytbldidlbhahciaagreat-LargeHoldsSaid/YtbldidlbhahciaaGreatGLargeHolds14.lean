/- Rows of numbers: the reference's In and Ints, the library's Contains and Index. Package large: Take, of a keeper. A region that draws its order, in a round of a range over a function. The reference of layer 10: what Give's third loop keeps. The reference of layer 10: Take. Package large: Take. -/
import Derived.Test.YtbldidlbhahciaaGreatGLargeHolds12
import Derived.Test.YtbldidlbhahciaaGreatGLargeHolds13
import Derived.Test.YtbldidlbhahciaaGreatGLargeHolds0
import Derived.Test.YtbldidlbhahciaaGreatGLargeHolds6
import Derived.RangeFuncCalls
import Derived.Shelf.RegionOpen
import Derived.OrdersHeld
import Derived.Deep.QuietTactic
import Derived.BigQuiet
set_option linter.unusedVariables false
set_option linter.unusedSimpArgs false
namespace Go.Proofs.YtbldidlbhahciaaGreat
open Go.RowKit Go.Shelf

theorem take_bad {st : KS} {n : Int} (h : fitsF n = false) : st.take n = (st, sp0, 1) := by unfold KS.take; rw [if_neg (by simp [h])]
theorem take_kept {st : KS} {n : Int} {i : Nat} (h : fitsF n = true) (hl : lastI st.kept n = some i) : st.take n = (⟨st.h, outSp st.kept i, st.waits, st.held⟩, st.kept[i]?.getD sp0, 0) := by unfold KS.take; rw [if_pos h, hl]
theorem take_make {st : KS} {n : Int} (h : fitsF n = true) (hl : lastI st.kept n = none) : st.take n = (⟨(st.h.make n (-1)).1, st.kept, st.waits, st.held⟩, (st.h.make n (-1)).2) := by unfold KS.take; rw [if_pos h, hl]
/-- Take's boxes. -/
structure TBox (w : World) (B : Nat) (W : World) (p : Option Addr) (n : Int) : Prop where
  bel : Bel w W
  size : w.heap.size = B
  b0 : W.heap[B]? = some (.cells #[.pointer p] 28 (0, 0))
  b1 : W.heap[B + 1]? = some (.cells #[.int .i64 n] 3 (0, 0))
  b2 : W.heap[B + 1 + 1]? = some (.cells #[.int .i64 0, .int .i64 0, .int .i64 0, .int .i64 0] 33 (0, 0))
  b3 : W.heap[B + 1 + 1 + 1]? = some (.cells #[.int .i64 0] 24 (0, 0))
theorem TBox.then {w : World} {B : Nat} {W V : World} {p : Option Addr} {n : Int} (h : TBox w B W p n) (k : Bel W V) : TBox w B V p n := ⟨h.bel.trans k, h.size, k.blk h.b0, k.blk h.b1, k.blk h.b2, k.blk h.b3⟩
def tboxW (w : World) (p : Option Addr) (n : Int) : World := (((w.alloc (.cells #[.pointer p] 28)).alloc (.cells #[.int .i64 n] 3)).alloc (.cells #[.int .i64 0, .int .i64 0, .int .i64 0, .int .i64 0] 33)).alloc (.cells #[.int .i64 0] 24)
theorem TBox.start (w : World) (p : Option Addr) (n : Int) : TBox w w.heap.size (tboxW w p n) p n := by
  have g0 := blk_alloc w (.cells #[.pointer p] 28)
  have g1 := blk_alloc (w.alloc (.cells #[.pointer p] 28)) (.cells #[.int .i64 n] 3)
  have g2 := blk_alloc ((w.alloc (.cells #[.pointer p] 28)).alloc (.cells #[.int .i64 n] 3)) (.cells #[.int .i64 0, .int .i64 0, .int .i64 0, .int .i64 0] 33)
  have g3 := blk_alloc (((w.alloc (.cells #[.pointer p] 28)).alloc (.cells #[.int .i64 n] 3)).alloc (.cells #[.int .i64 0, .int .i64 0, .int .i64 0, .int .i64 0] 33)) (.cells #[.int .i64 0] 24)
  simp only [World.size_alloc] at g1 g2 g3
  exact ⟨((((Bel.refl w).alloc _).alloc _).alloc _).alloc _, rfl, blk_alloc_old _ (blk_alloc_old _ (blk_alloc_old _ g0)), blk_alloc_old _ (blk_alloc_old _ g1), blk_alloc_old _ g2, g3⟩
/-- A world with five cells of two new boxes written. -/
theorem take_set {w : World} {B : Nat} {W : World} {x1 x2 x3 x4 e0 a b c d : Value} {T2 T3 : Nat} (hB : w.heap.size = B) (h : Bel w W) (b2 : W.heap[B + 1 + 1]? = some (.cells #[a, b, c, d] T2 (0, 0))) (b3 : W.heap[B + 1 + 1 + 1]? = some (.cells #[e0] T3 (0, 0))) (v : Value) :
    ∃ W9, W9 = ((((W.setCell ⟨B + 1 + 1, 0, none⟩ x1).setCell ⟨B + 1 + 1, 1, none⟩ x2).setCell ⟨B + 1 + 1, 2, none⟩ x3).setCell ⟨B + 1 + 1, 3, none⟩ x4).setCell ⟨B + 1 + 1 + 1, 0, none⟩ v ∧
      W9.heap[B + 1 + 1]? = some (.cells #[x1, x2, x3, x4] T2 (0, 0)) ∧ W9.heap[B + 1 + 1 + 1]? = some (.cells #[v] T3 (0, 0)) ∧ Bel w W9 ∧ Fr (fun i => i = B + 1 + 1 ∨ i = B + 1 + 1 + 1) W W9 := by
  have hF := (fr_four W (B + 1 + 1) x1 x2 x3 x4).mono (S' := fun i => i = B + 1 + 1 ∨ i = B + 1 + 1 + 1) (fun i hi => .inl hi)
  have b3' := (fr_four W (B + 1 + 1) x1 x2 x3 x4).heap b3 (by omega)
  have h9 := blk_setCell b3' 0 v
  have hF2 := hF.setCell (p := ⟨B + 1 + 1 + 1, 0, none⟩) (.inl (.inr rfl)) v
  refine ⟨_, rfl, blk_setCell_other (four_set b2 _ _ _ _) (show B + 1 + 1 ≠ B + 1 + 1 + 1 by omega) _, by simpa using h9, ?_, hF2⟩
  exact Fr.bel ((Fr.of_bel h).trans' hF2) (fun i hi => by rcases hi with hi | hi <;> omega)
set_option maxHeartbeats 1000000 in
set_option maxRecDepth 20000 in
/-- Of a size that none has; of no keeper. -/
theorem large_Take_bad (p : Option Addr) (n : Int) (w : World) (hn : I64 n) (h : fitsF n = false) :
    Calls Tryz.prog 11 #[.pointer p, .int .i64 n] w fun e w' => e = .returned (.tuple #[spV sp0, .int .i64 1]) ∧ Bel w w' := by
  have HF : Hid (∀ V, Calls Tryz.prog 30 #[.int .i64 n] V fun e V' => e = .returned (.bool false) ∧ Bel V V') := Lib.hid (fun V => by have := large_fits n V hn; rw [h] at this; exact this)
  have HT := Lib.hid (TBox.start w p n)
  unfold tboxW at HT
  go_enter Tryz.func11, Tryz.ntmps11
  go_wp2_with fail
  refine (HF.out _).mono ?_
  rintro e w1 ⟨rfl, hB⟩
  have HT1 := Lib.hid (HT.out.then hB)
  clear hB HT HF
  obtain ⟨B, hB⟩ : ∃ B, w.heap.size = B := ⟨_, rfl⟩
  rw [hB] at HT1 ⊢
  obtain ⟨c0, c1, c2, c3⟩ := four_cells HT1.out.b2
  obtain ⟨f0, f1, f2, f3⟩ := four_frozen HT1.out.b2
  have d0 : w1.cell? ⟨B + 1 + 1 + 1, 0, none⟩ = some (.int .i64 0) := blk_cell HT1.out.b3 0
  have k0 := blk_frozen HT1.out.b3 0
  obtain ⟨W9, e9, g2, g3, hB9, _⟩ := take_set (x1 := .int .i64 0) (x2 := .int .i64 0) (x3 := .int .i64 0) (x4 := .int .i64 0) HT1.out.size HT1.out.bel HT1.out.b2 HT1.out.b3 (.int .i64 1)
  have HE := Lib.hid (And.intro e9 (And.intro g2 (And.intro g3 hB9)))
  clear e9 g2 g3 hB9
  go_wp2
  rw [← HE.out.1]
  obtain ⟨r0, r1, r2, r3⟩ := four_cells HE.out.2.1
  have r4 : W9.cell? ⟨B + 1 + 1 + 1, 0, none⟩ = some (.int .i64 1) := blk_cell HE.out.2.2.1 0
  refine bodyPost_ret (v := .tuple #[spV sp0, .int .i64 1]) (by simp [spV, sp0, results, Tryz.results11, go_sem, r0, r1, r2, r3, r4]) rfl ?_
  exact ⟨rfl, HE.out.2.2.2⟩
set_option maxHeartbeats 1000000 in
set_option maxRecDepth 20000 in
theorem large_Take_nil (n : Int) (w : World) (hn : I64 n) (h : fitsF n = true) :
    Calls Tryz.prog 11 #[.pointer none, .int .i64 n] w fun e w' => e = .returned (.tuple #[spV sp0, .int .i64 3]) ∧ Bel w w' := by
  have HF : Hid (∀ V, Calls Tryz.prog 30 #[.int .i64 n] V fun e V' => e = .returned (.bool true) ∧ Bel V V') := Lib.hid (fun V => by have := large_fits n V hn; rw [h] at this; exact this)
  have HT := Lib.hid (TBox.start w none n)
  unfold tboxW at HT
  go_enter Tryz.func11, Tryz.ntmps11
  go_wp2_with fail
  refine (HF.out _).mono ?_
  rintro e w1 ⟨rfl, hB⟩
  have HT1 := Lib.hid (HT.out.then hB)
  clear hB HT HF
  obtain ⟨B, hB⟩ : ∃ B, w.heap.size = B := ⟨_, rfl⟩
  rw [hB] at HT1 ⊢
  obtain ⟨c0, c1, c2, c3⟩ := four_cells HT1.out.b2
  obtain ⟨f0, f1, f2, f3⟩ := four_frozen HT1.out.b2
  have d0 : w1.cell? ⟨B + 1 + 1 + 1, 0, none⟩ = some (.int .i64 0) := blk_cell HT1.out.b3 0
  have k0 := blk_frozen HT1.out.b3 0
  have p0 : w1.cell? ⟨B, 0, none⟩ = some (.pointer none) := blk_cell HT1.out.b0 0
  obtain ⟨W9, e9, g2, g3, hB9, _⟩ := take_set (x1 := .int .i64 0) (x2 := .int .i64 0) (x3 := .int .i64 0) (x4 := .int .i64 0) HT1.out.size HT1.out.bel HT1.out.b2 HT1.out.b3 (.int .i64 3)
  have HE := Lib.hid (And.intro e9 (And.intro g2 (And.intro g3 hB9)))
  clear e9 g2 g3 hB9
  go_wp2
  rw [← HE.out.1]
  obtain ⟨r0, r1, r2, r3⟩ := four_cells HE.out.2.1
  have r4 : W9.cell? ⟨B + 1 + 1 + 1, 0, none⟩ = some (.int .i64 3) := blk_cell HE.out.2.2.1 0
  refine bodyPost_ret (v := .tuple #[spV sp0, .int .i64 3]) (by simp [spV, sp0, results, Tryz.results11, go_sem, r0, r1, r2, r3, r4]) rfl ?_
  exact ⟨rfl, HE.out.2.2.2⟩
end Go.Proofs.YtbldidlbhahciaaGreat

namespace Go.Proofs.YtbldidlbhahciaaGreat
open Go.RowKit

set_option maxHeartbeats 2000000 in
set_option maxRecDepth 20000 in
theorem ref10_Take_bad {w : World} {st : KS} {p : KP} (R : RefK w st p) (n : Int) (hn : I64 n) (hf : fitsF n = false) :
    Calls Tryz.prog 43 #[kV st p, .int .i64 n] w fun e w' => ∃ p', e = .returned (.tuple #[kV st p', spV sp0, .int .i64 1]) ∧ KPost w st p st p' w' := by
  obtain ⟨g, fc, a, c, ka, kc, wa, wn⟩ := p
  have HF : Hid (∀ V, Calls Tryz.prog 23 #[.int .i64 n] V fun e V' => e = .returned (.bool false) ∧ V = V') := Lib.hid (fun V => by have := ref10_Fits n V hn; rw [hf] at this; exact this)
  have g0 := blk_alloc_old (.cells #[.int .i64 0, .int .i64 0, .int .i64 0, .int .i64 0] 33) (blk_alloc_old (.cells k0Cells 46) (blk_alloc w (.cells (kCells st ⟨g, fc, a, c, ka, kc, wa, wn⟩) 46)))
  simp only [kV, kCells, k0Cells] at g0 ⊢
  obtain ⟨q0, q1, q2, q3, q4, q5, q6⟩ := seven_cells g0
  have HFIN : Hid (∀ X Y Z, KPost w st ⟨g, fc, a, c, ka, kc, wa, wn⟩ st ⟨g, fc, a, c, ka, kc, wa, wn⟩ (((w.alloc X).alloc Y).alloc Z)) := Lib.hid (fun X Y Z => KPost.same R (((Bel.refl w).alloc X |>.alloc Y).alloc Z))
  clear R g0
  go_enter Tryz.func43, Tryz.ntmps43
  go_wp2_with fail
  refine (HF.out _).mono ?_
  rintro e w1 ⟨rfl, rfl⟩
  go_wp2
  have gF1 := blk_alloc_old (.cells #[.int .i64 0, .int .i64 0, .int .i64 0, .int .i64 0] 33) (blk_alloc (w.alloc (.cells #[.int .i64 (st.h.P : Int), .slice (some ⟨g, 0, none⟩) 1024 fc, .slice a st.h.S.length c, .int .i64 (st.h.last : Int), .slice ka st.kept.length kc, .slice wa st.waits.length wn, .bool st.held] 46)) (.cells #[.int .i64 (st.h.P : Int), .slice (some ⟨g, 0, none⟩) 1024 fc, .slice a st.h.S.length c, .int .i64 (st.h.last : Int), .slice ka st.kept.length kc, .slice wa st.waits.length wn, .bool st.held] 46))
  rw [World.size_alloc] at gF1
  have gF2 := blk_alloc ((w.alloc (.cells #[.int .i64 (st.h.P : Int), .slice (some ⟨g, 0, none⟩) 1024 fc, .slice a st.h.S.length c, .int .i64 (st.h.last : Int), .slice ka st.kept.length kc, .slice wa st.waits.length wn, .bool st.held] 46)).alloc (.cells #[.int .i64 (st.h.P : Int), .slice (some ⟨g, 0, none⟩) 1024 fc, .slice a st.h.S.length c, .int .i64 (st.h.last : Int), .slice ka st.kept.length kc, .slice wa st.waits.length wn, .bool st.held] 46)) (.cells #[.int .i64 0, .int .i64 0, .int .i64 0, .int .i64 0] 33)
  rw [World.size_alloc, World.size_alloc] at gF2
  obtain ⟨y0, y1, y2, y3, y4, y5, y6⟩ := seven_cells gF1
  obtain ⟨z0, z1, z2, z3⟩ := four_cells gF2
  refine bodyPost_ret (v := .tuple #[kV st ⟨g, fc, a, c, ka, kc, wa, wn⟩, spV sp0, .int .i64 1]) (by simp [kV, kCells, spV, sp0, results, Tryz.results43, go_sem, y0, y1, y2, y3, y4, y5, y6, z0, z1, z2, z3]) rfl ?_
  exact ⟨_, rfl, HFIN.out _ _ _⟩
set_option maxHeartbeats 4000000 in
set_option maxRecDepth 20000 in
theorem ref10_Take_in {w : World} {st : KS} {p : KP} (R : RefK w st p) (I : KInv st) (n : Int) (hn : I64 n) (hf : fitsF n = true) (hl : st.h.last ≤ 4096) :
    Calls Tryz.prog 43 #[kV st p, .int .i64 n] w fun e w' => ∃ p', e = .returned (.tuple #[kV (st.take n).1 p', spV (st.take n).2.1, .int .i64 (st.take n).2.2]) ∧ KPost w st p (st.take n).1 p' w' := by
  have hkl : st.kept.length ≤ 4096 := by have := I.count; omega
  have hok := I.ok
  obtain ⟨g, fc, a, c, ka, kc, wa, wn⟩ := p
  have HF : Hid (∀ V, Calls Tryz.prog 23 #[.int .i64 n] V fun e V' => e = .returned (.bool true) ∧ V = V') := Lib.hid (fun V => by have := ref10_Fits n V hn; rw [hf] at this; exact this)
  have hb1 := (((Bel.refl w).alloc (.cells (kCells st ⟨g, fc, a, c, ka, kc, wa, wn⟩) 46)).alloc (.cells k0Cells 46)).alloc (.cells #[.int .i64 0, .int .i64 0, .int .i64 0, .int .i64 0] 33)
  have g0 := blk_alloc_old (.cells #[.int .i64 0, .int .i64 0, .int .i64 0, .int .i64 0] 33) (blk_alloc_old (.cells k0Cells 46) (blk_alloc w (.cells (kCells st ⟨g, fc, a, c, ka, kc, wa, wn⟩) 46)))
  have g1 := blk_alloc_old (.cells #[.int .i64 0, .int .i64 0, .int .i64 0, .int .i64 0] 33) (blk_alloc (w.alloc (.cells (kCells st ⟨g, fc, a, c, ka, kc, wa, wn⟩) 46)) (.cells k0Cells 46))
  have g2 := blk_alloc ((w.alloc (.cells (kCells st ⟨g, fc, a, c, ka, kc, wa, wn⟩) 46)).alloc (.cells k0Cells 46)) (.cells #[.int .i64 0, .int .i64 0, .int .i64 0, .int .i64 0] 33)
  simp only [World.size_alloc] at g1 g2
  simp only [kV, kCells, k0Cells] at g0 g1 g2 hb1 ⊢
  obtain ⟨q0, q1, q2, q3, q4, q5, q6⟩ := seven_cells g0
  have HR := Lib.hid R
  have HS := Lib.hid R.kept
  have hkc := R.kcap
  have z0 : IntKind.i64.wrap ((st.kept.length : Int) - 1) = (st.kept.length : Int) - 1 := IntWalk.i64_in _ (by omega)
  clear R
  go_enter Tryz.func43, Tryz.ntmps43
  go_wp2_with fail
  refine (HF.out _).mono ?_
  rintro e w1 ⟨rfl, rfl⟩
  go_wp2_with fail
  generalize ((w.alloc (.cells #[.int .i64 (st.h.P : Int), .slice (some ⟨g, 0, none⟩) 1024 fc, .slice a st.h.S.length c, .int .i64 (st.h.last : Int), .slice ka st.kept.length kc, .slice wa st.waits.length wn, .bool st.held] 46)).alloc (.cells #[.int .i64 0, .slice none 0 0, .slice none 0 0, .int .i64 0, .slice none 0 0, .slice none 0 0, .bool false] 46)).alloc (.cells #[.int .i64 0, .int .i64 0, .int .i64 0, .int .i64 0] 33) = W at g0 g1 g2 hb1 q0 q1 q2 q3 q4 q5 q6 ⊢
  have l0 := heap_lt g0
  have l1 := heap_lt g1
  have l2 := heap_lt g2
  have HG := Lib.hid (And.intro hb1 (And.intro g0 (And.intro g1 g2)))
  clear hb1 g0 g1 g2 z0
  go_loopw [7] (fun kk wr => ∃ j : Int, kk = .int .i64 j ∧ -1 ≤ j ∧ j < st.kept.length ∧ W = wr ∧ Hid (∀ q (hq : q < st.kept.length), j < q → st.kept[q].2.1.2 ≠ n)) (fun kk wr => (intOf kk + 1).toNat)
  case atStart => exact ⟨_, rfl, by omega, by omega, by trivial, Lib.hid (fun q hq h => by omega)⟩
  case round =>
    obtain ⟨j, rfl, hj0, hj1, rfl, HNE⟩ := hrel
    by_cases hj : 0 ≤ j
    · obtain ⟨i, rfl⟩ := Int.eq_ofNat_of_zero_le hj
      have hi : i < st.kept.length := by omega
      obtain ⟨b, o, rfl, p0, p1, p2, p3⟩ := (HS.out.bel HG.out.1).at i hi
      obtain ⟨x, hx⟩ : ∃ x, st.kept[i] = x := ⟨_, rfl⟩
      rw [hx] at p0 p1 p2 p3
      obtain ⟨x1, ⟨x2, x3⟩, x4⟩ := x
      dsimp only at p0 p1 p2 p3
      by_cases he : x3 = n
      · subst he
        have hli := lastI_some (n := x3) hi (by rw [hx]) (fun q hq h => HNE.out q hq (by omega))
        have HTK : Hid (st.take x3 = (⟨st.h, outSp st.kept i, st.waits, st.held⟩, (x1, (x2, x3), x4), 0)) := Lib.hid (by
          rw [take_kept hf hli, List.getElem?_eq_getElem hi, hx]; rfl)
        have HW := Lib.hid (ref10_without (some ⟨b, o, none⟩) st.kept st.kept.length kc i (W.alloc (.cells #[.int .i64 x1, .int .i64 x2, .int .i64 x3, .int .i64 x4] 33)) rfl hi hkc hkl (HS.out.bel (HG.out.1.alloc _)))
        have hol : (outSp st.kept i).length = st.kept.length - 1 := by unfold outSp; simp; omega
        clear hx hli
        go_wp2_with fail
        refine HW.out.mono ?_
        rintro e w3 ⟨g6, cap6, rfl, hs6, hz6, hy6, hc6, hB6⟩
        have hBW : Bel W w3 := ((Bel.refl W).alloc _).trans hB6
        have k0 := hBW.blk HG.out.2.1
        have k1 := hBW.blk HG.out.2.2.1
        have k2 := hBW.blk HG.out.2.2.2
        have k3 := hB6.blk (blk_alloc W (.cells #[.int .i64 x1, .int .i64 x2, .int .i64 x3, .int .i64 x4] 33))
        simp only [World.size_alloc] at hz6
        have hfin : ∀ r4 y0 y1 y2 y3 y4 y5 y6 s0 s1 s2 s3 W9, W9 = ((((((((((((w3.setCell ⟨w.heap.size, 4, none⟩ r4).setCell ⟨w.heap.size + 1, 0, none⟩ y0).setCell ⟨w.heap.size + 1, 1, none⟩ y1).setCell ⟨w.heap.size + 1, 2, none⟩ y2).setCell ⟨w.heap.size + 1, 3, none⟩ y3).setCell ⟨w.heap.size + 1, 4, none⟩ y4).setCell ⟨w.heap.size + 1, 5, none⟩ y5).setCell ⟨w.heap.size + 1, 6, none⟩ y6).setCell ⟨w.heap.size + 1 + 1, 0, none⟩ s0).setCell ⟨w.heap.size + 1 + 1, 1, none⟩ s1).setCell ⟨w.heap.size + 1 + 1, 2, none⟩ s2).setCell ⟨w.heap.size + 1 + 1, 3, none⟩ s3).drew →
            KPost w st ⟨g, fc, a, c, some ⟨b, o, none⟩, kc, wa, wn⟩ ⟨st.h, outSp st.kept i, st.waits, st.held⟩ ⟨g, fc, a, c, some ⟨g6, 0, none⟩, cap6, wa, wn⟩ W9 := by
          intro r4 y0 y1 y2 y3 y4 y5 y6 s0 s1 s2 s3 W9 e9
          have hF0 := (((Fr.setCell (S := fun k => k = w.heap.size ∨ k = w.heap.size + 1 ∨ k = w.heap.size + 1 + 1) (p := ⟨w.heap.size, 4, none⟩) (Fr.refl _ w3) (.inl (Or.inl rfl)) r4).trans' ((fr_seven _ (w.heap.size + 1) y0 y1 y2 y3 y4 y5 y6).mono (fun _ h => .inr (.inl h)))).trans' ((fr_four _ (w.heap.size + 1 + 1) s0 s1 s2 s3).mono (fun _ h => .inr (.inr h)))).drew
          rw [← e9] at hF0
          have r2 := Fr.bel ((Fr.of_bel (HG.out.1.trans hBW)).trans' hF0) (fun k hk => by rcases hk with hk | hk | hk <;> (subst hk; omega))
          exact ⟨⟨HR.out.heap.bel r2, hs6.fr7 hF0 (fun q hq h => by cases hq; dsimp only at h; omega), HR.out.waits.bel r2, hc6, HR.out.wcap, (fun h => by cases h), HR.out.wnil⟩, r2, .refl _ _ _, .inr ⟨_, rfl, by show w.heap.size ≤ g6; omega⟩, .refl _ _ _⟩
        have HFIN := Lib.hid hfin
        obtain ⟨t0, t1, t2, t3, t4, t5, t6⟩ := seven_cells k0
        obtain ⟨f0, f1, f2, f3, f4, f5, f6⟩ := seven_frozen k0
        obtain ⟨y0, y1, y2, y3, y4, y5, y6⟩ := seven_cells k1
        obtain ⟨u0, u1, u2, u3, u4, u5, u6⟩ := seven_frozen k1
        obtain ⟨v0, v1, v2, v3⟩ := four_cells k2
        obtain ⟨n0, n1, n2, n3⟩ := four_frozen k2
        obtain ⟨s0, s1, s2, s3⟩ := four_cells k3
        have m0 := heap_lt k0
        have m1 := heap_lt k1
        have m2 := heap_lt k2
        have m3 := heap_lt k3
        clear hfin hs6 hz6 hy6 hc6 hB6 hBW k0 k1 k2 k3 HW HNE
        go_wp2_with fail
        go_region
        go_wp2
        refine bodyPost_ret (v := .tuple #[kV ⟨st.h, outSp st.kept i, st.waits, st.held⟩ ⟨g, fc, a, c, some ⟨g6, 0, none⟩, cap6, wa, wn⟩, spV (x1, (x2, x3), x4), .int .i64 0]) (by simp [kV, kCells, spV, hol, results, Tryz.results43, go_sem, y0, y1, y2, y3, y4, y5, y6, v0, v1, v2, v3, m0, m1, m2]) rfl ?_
        exact ⟨⟨g, fc, a, c, some ⟨g6, 0, none⟩, cap6, wa, wn⟩, (by rw [HTK.out] <;> rfl), (by rw [HTK.out]; exact HFIN.out _ _ _ _ _ _ _ _ _ _ _ _ _ rfl)⟩
      · have e1 : (x3 == n) = false := by simpa using he
        have z1 : IntKind.i64.wrap ((i : Int) - 1) = (i : Int) - 1 := IntWalk.i64_in _ (by omega)
        have HNX : Hid (∀ q (hq : q < st.kept.length), (i : Int) - 1 < q → st.kept[q].2.1.2 ≠ n) := Lib.hid (fun q hq h => by
          by_cases h9 : (i : Int) < q
          · exact HNE.out q hq h9
          · obtain rfl : q = i := by omega
            rw [hx]; exact he)
        clear hx he p0 p1 p3
        go_wp2
        go_roundw
        case rel => exact ⟨_, rfl, by omega, by omega, by trivial, HNX⟩
        case measure => simp [intOf]; try omega
    · obtain rfl : j = -1 := by omega
      have hli : lastI st.kept n = none := lastI_none (fun s hs => by
        obtain ⟨q, hq, rfl⟩ := List.getElem_of_mem hs
        exact HNE.out q hq (by omega))
      have HTK := Lib.hid (take_make (st := st) hf hli)
      have HMK := Lib.hid (fun V (hV : Bel W V) => refG_Make hok (HR.out.heap.bel (HG.out.1.trans hV)) n (-1) hn ⟨by omega, by omega⟩ hl)
      obtain ⟨r, hr⟩ : ∃ r, st.h.make n (-1) = r := ⟨_, rfl⟩
      rw [hr] at HMK HTK
      obtain ⟨h', ⟨x1, ⟨x2, x3⟩, x4⟩, en⟩ := r
      have HM : Hid (Calls Tryz.prog 47 #[.agg #[.int .i64 (st.h.P : Int), .slice (some ⟨g, 0, none⟩) 1024 fc, .slice a st.h.S.length c, .int .i64 (st.h.last : Int)], .int .i64 n, .int .i64 (-1)] W fun e V' => ∃ g' fc' a' c', e = .returned (.tuple #[.agg #[.int .i64 (h'.P : Int), .slice (some ⟨g', 0, none⟩) 1024 fc', .slice a' h'.S.length c', .int .i64 (h'.last : Int)], .agg #[.int .i64 x1, .int .i64 x2, .int .i64 x3, .int .i64 x4], .int .i64 en]) ∧ GPost W a st.h.S h' g' fc' a' c' V') := Lib.hid (HMK.out W (Bel.refl _))
      clear HMK hr hli HNE
      go_wp2_with fail
      refine HM.out.mono ?_
      clear HM
      rintro e w8 ⟨g8, fc8, a8, c8, rfl, hP8⟩
      have k0 := hP8.2.1.blk HG.out.2.1
      have k1 := hP8.2.1.blk HG.out.2.2.1
      have k2 := hP8.2.1.blk HG.out.2.2.2
      obtain ⟨t0, t1, t2, t3, t4, t5, t6⟩ := seven_cells k0
      obtain ⟨f0, f1, f2, f3, f4, f5, f6⟩ := seven_frozen k0
      obtain ⟨y0, y1, y2, y3, y4, y5, y6⟩ := seven_cells k1
      obtain ⟨u0, u1, u2, u3, u4, u5, u6⟩ := seven_frozen k1
      obtain ⟨v0, v1, v2, v3⟩ := four_cells k2
      obtain ⟨n0, n1, n2, n3⟩ := four_frozen k2
      have m0 := heap_lt k0
      have m1 := heap_lt k1
      have m2 := heap_lt k2
      have HP8 := Lib.hid (And.intro hP8 (And.intro k0 (And.intro k1 k2)))
      clear hP8 k0 k1 k2
      go_wp2_with fail
      have hF1 := fr_four w8 w.heap.size (.int .i64 (h'.P : Int)) (.slice (some ⟨g8, 0, none⟩) 1024 fc8) (.slice a8 h'.S.length c8) (.int .i64 (h'.last : Int))
      have j0 : ((((w8.setCell ⟨w.heap.size, 0, none⟩ (.int .i64 (h'.P : Int))).setCell ⟨w.heap.size, 1, none⟩ (.slice (some ⟨g8, 0, none⟩) 1024 fc8)).setCell ⟨w.heap.size, 2, none⟩ (.slice a8 h'.S.length c8)).setCell ⟨w.heap.size, 3, none⟩ (.int .i64 (h'.last : Int))).heap[w.heap.size]? = some (.cells #[.int .i64 (h'.P : Int), .slice (some ⟨g8, 0, none⟩) 1024 fc8, .slice a8 h'.S.length c8, .int .i64 (h'.last : Int), .slice ka st.kept.length kc, .slice wa st.waits.length wn, .bool st.held] 46 (0, 0)) := by
        have h1 := blk_setCell HP8.out.2.1 0 (.int .i64 (h'.P : Int))
        have h2 := blk_setCell h1 1 (.slice (some ⟨g8, 0, none⟩) 1024 fc8)
        have h3 := blk_setCell h2 2 (.slice a8 h'.S.length c8)
        have h4 := blk_setCell h3 3 (.int .i64 (h'.last : Int))
        simpa using h4
      have j1 := hF1.heap HP8.out.2.2.1 (by show ¬ w.heap.size + 1 = w.heap.size; omega)
      have j2 := hF1.heap HP8.out.2.2.2 (by show ¬ w.heap.size + 1 + 1 = w.heap.size; omega)
      have jR := GPost.store HR.out.heap HP8.out.1 hF1 (fun q hq => by subst hq; exact ⟨Nat.le_refl _, l0, _, _, HP8.out.2.1, by decide⟩)
      have jB : Bel w _ := Fr.bel ((Fr.of_bel (HG.out.1.trans HP8.out.1.2.1)).trans' hF1) (fun k hk => by subst hk; exact Nat.le_refl _)
      have jne : ∀ q, a8 = some q → h'.S ≠ [] → q.block ≠ w.heap.size + 1 ∧ q.block ≠ w.heap.size + 1 + 1 := fun q hq hS => by
        rcases HP8.out.1.2.2 with ⟨h3, h4⟩ | ⟨p9, h4, h5⟩
        · have := HR.out.heap.lt (h4 hS) q (by rw [← hq]; exact h3.symm); omega
        · rw [hq] at h4; cases h4; omega
      have jfr : Fresh w a st.h.S a8 h'.S := Fresh.old HP8.out.1.2.2 HG.out.1.size
      have js : ((((w8.setCell ⟨w.heap.size, 0, none⟩ (.int .i64 (h'.P : Int))).setCell ⟨w.heap.size, 1, none⟩ (.slice (some ⟨g8, 0, none⟩) 1024 fc8)).setCell ⟨w.heap.size, 2, none⟩ (.slice a8 h'.S.length c8)).setCell ⟨w.heap.size, 3, none⟩ (.int .i64 (h'.last : Int))).heap.size = w8.heap.size := by simp
      have JNE := Lib.hid (And.intro jne jfr)
      clear t0 t1 t2 t3 t4 t5 t6 f0 f1 f2 f3 f4 f5 f6 y0 y1 y2 y3 y4 y5 y6 u0 u1 u2 u3 u4 u5 u6 v0 v1 v2 v3 n0 n1 n2 n3 HP8 hF1 jne jfr
      generalize (((w8.setCell ⟨w.heap.size, 0, none⟩ (.int .i64 (h'.P : Int))).setCell ⟨w.heap.size, 1, none⟩ (.slice (some ⟨g8, 0, none⟩) 1024 fc8)).setCell ⟨w.heap.size, 2, none⟩ (.slice a8 h'.S.length c8)).setCell ⟨w.heap.size, 3, none⟩ (.int .i64 (h'.last : Int)) = w9 at j0 j1 j2 jR jB js ⊢
      rw [← js] at m0 m1 m2 ⊢
      have i0 := blk_alloc_old (.cells #[.int .i64 x1, .int .i64 x2, .int .i64 x3, .int .i64 x4] 33) (blk_alloc_old (.cells #[.int .i64 (h'.P : Int), .slice (some ⟨g8, 0, none⟩) 1024 fc8, .slice a8 h'.S.length c8, .int .i64 (h'.last : Int)] 44) j0)
      have i1 := blk_alloc_old (.cells #[.int .i64 x1, .int .i64 x2, .int .i64 x3, .int .i64 x4] 33) (blk_alloc_old (.cells #[.int .i64 (h'.P : Int), .slice (some ⟨g8, 0, none⟩) 1024 fc8, .slice a8 h'.S.length c8, .int .i64 (h'.last : Int)] 44) j1)
      have i2 := blk_alloc_old (.cells #[.int .i64 x1, .int .i64 x2, .int .i64 x3, .int .i64 x4] 33) (blk_alloc_old (.cells #[.int .i64 (h'.P : Int), .slice (some ⟨g8, 0, none⟩) 1024 fc8, .slice a8 h'.S.length c8, .int .i64 (h'.last : Int)] 44) j2)
      have i3 := blk_alloc (w9.alloc (.cells #[.int .i64 (h'.P : Int), .slice (some ⟨g8, 0, none⟩) 1024 fc8, .slice a8 h'.S.length c8, .int .i64 (h'.last : Int)] 44)) (.cells #[.int .i64 x1, .int .i64 x2, .int .i64 x3, .int .i64 x4] 33)
      rw [World.size_alloc] at i3
      have iR := jR.bel (((Bel.refl w9).alloc (.cells #[.int .i64 (h'.P : Int), .slice (some ⟨g8, 0, none⟩) 1024 fc8, .slice a8 h'.S.length c8, .int .i64 (h'.last : Int)] 44)).alloc (.cells #[.int .i64 x1, .int .i64 x2, .int .i64 x3, .int .i64 x4] 33))
      have iB := (jB.alloc (.cells #[.int .i64 (h'.P : Int), .slice (some ⟨g8, 0, none⟩) 1024 fc8, .slice a8 h'.S.length c8, .int .i64 (h'.last : Int)] 44)).alloc (.cells #[.int .i64 x1, .int .i64 x2, .int .i64 x3, .int .i64 x4] 33)
      obtain ⟨D, hD⟩ : ∃ D, w9.heap.size = D := ⟨_, rfl⟩
      rw [hD] at i3 m0 m1 m2 ⊢
      clear j0 j1 j2 jR jB js
      generalize (w9.alloc (.cells #[.int .i64 (h'.P : Int), .slice (some ⟨g8, 0, none⟩) 1024 fc8, .slice a8 h'.S.length c8, .int .i64 (h'.last : Int)] 44)).alloc (.cells #[.int .i64 x1, .int .i64 x2, .int .i64 x3, .int .i64 x4] 33) = W2 at i0 i1 i2 i3 iR iB ⊢
      clear hD
      have hfin : ∀ y0 y1 y2 y3 y4 y5 y6 s0 s1 s2 s3 W9, W9 = (((((((((((W2.setCell ⟨w.heap.size + 1, 0, none⟩ y0).setCell ⟨w.heap.size + 1, 1, none⟩ y1).setCell ⟨w.heap.size + 1, 2, none⟩ y2).setCell ⟨w.heap.size + 1, 3, none⟩ y3).setCell ⟨w.heap.size + 1, 4, none⟩ y4).setCell ⟨w.heap.size + 1, 5, none⟩ y5).setCell ⟨w.heap.size + 1, 6, none⟩ y6).setCell ⟨w.heap.size + 1 + 1, 0, none⟩ s0).setCell ⟨w.heap.size + 1 + 1, 1, none⟩ s1).setCell ⟨w.heap.size + 1 + 1, 2, none⟩ s2).setCell ⟨w.heap.size + 1 + 1, 3, none⟩ s3).drew →
          KPost w st ⟨g, fc, a, c, ka, kc, wa, wn⟩ ⟨h', st.kept, st.waits, st.held⟩ ⟨g8, fc8, a8, c8, ka, kc, wa, wn⟩ W9 := by
        intro y0 y1 y2 y3 y4 y5 y6 s0 s1 s2 s3 W9 e9
        have hF0 := (((fr_seven W2 (w.heap.size + 1) y0 y1 y2 y3 y4 y5 y6).mono (S' := fun k => k = w.heap.size + 1 ∨ k = w.heap.size + 1 + 1) (fun _ h => .inl h)).trans' ((fr_four _ (w.heap.size + 1 + 1) s0 s1 s2 s3).mono (fun _ h => .inr h))).drew
        rw [← e9] at hF0
        obtain ⟨r1, r2⟩ := gfin (B := w.heap.size + 1) iR i1 i2 (by decide) (by decide) (fun q hq hS => ⟨(JNE.out.1 q hq hS).2, (JNE.out.1 q hq hS).1⟩) iB (Nat.le_succ _) hF0
        exact ⟨⟨r1, HR.out.kept.bel r2, HR.out.waits.bel r2, HR.out.kcap, HR.out.wcap, HR.out.knil, HR.out.wnil⟩, r2, JNE.out.2, .refl _ _ _, .refl _ _ _⟩
      have HFIN := Lib.hid hfin
      obtain ⟨t0, t1, t2, t3, t4, t5, t6⟩ := seven_cells i0
      obtain ⟨y0, y1, y2, y3, y4, y5, y6⟩ := seven_cells i1
      obtain ⟨u0, u1, u2, u3, u4, u5, u6⟩ := seven_frozen i1
      obtain ⟨v0, v1, v2, v3⟩ := four_cells i2
      obtain ⟨n0, n1, n2, n3⟩ := four_frozen i2
      obtain ⟨s0, s1, s2, s3⟩ := four_cells i3
      have m3 := heap_lt i3
      clear hfin i0 i1 i2 i3 iR iB
      go_region
      go_wp2
      refine bodyPost_ret (v := .tuple #[kV ⟨h', st.kept, st.waits, st.held⟩ ⟨g8, fc8, a8, c8, ka, kc, wa, wn⟩, spV (x1, (x2, x3), x4), .int .i64 en]) (by simp [kV, kCells, spV, results, Tryz.results43, go_sem, y0, y1, y2, y3, y4, y5, y6, v0, v1, v2, v3, m0, m1, m2]) rfl ?_
      exact ⟨⟨g8, fc8, a8, c8, ka, kc, wa, wn⟩, (by rw [HTK.out] <;> rfl), (by rw [HTK.out]; exact HFIN.out _ _ _ _ _ _ _ _ _ _ _ _ rfl)⟩
theorem ref10_Take {w : World} {st : KS} {p : KP} (R : RefK w st p) (I : KInv st) (n : Int) (hn : I64 n) (hl : st.h.last ≤ 4096) :
    Calls Tryz.prog 43 #[kV st p, .int .i64 n] w fun e w' => ∃ p', e = .returned (.tuple #[kV (st.take n).1 p', spV (st.take n).2.1, .int .i64 (st.take n).2.2]) ∧ KPost w st p (st.take n).1 p' w' := by
  cases hf : fitsF n with
  | true => exact ref10_Take_in R I n hn hf hl
  | false => rw [take_bad hf]; exact ref10_Take_bad R n hn hf
end Go.Proofs.YtbldidlbhahciaaGreat

namespace Go.Proofs.YtbldidlbhahciaaGreat
open Go.RowKit

/-- A row lies in none of two boxes. -/
def OffB (B : Nat) (a : Option Addr) (S : List Sp) : Prop := ∀ q, a = some q → S ≠ [] → q.block ≠ B ∧ q.block ≠ B + 1
theorem Fresh.trans {w W : World} {a0 a a' : Option Addr} {S0 S S' : List Sp} (h : Fresh w a0 S0 a S) (h' : Fresh W a S a' S') (hw : w.heap.size ≤ W.heap.size) : Fresh w a0 S0 a' S' := by
  rcases h' with ⟨rfl, h2⟩ | ⟨q, h1, h2⟩
  · rcases h with ⟨rfl, h3⟩ | ⟨q, h3, h4⟩
    · exact .inl ⟨rfl, fun h => h3 (h2 h)⟩
    · exact .inr ⟨q, h3, h4⟩
  · exact .inr ⟨q, h1, Nat.le_trans hw h2⟩
theorem OffB.fresh {W : World} {B : Nat} {a a' : Option Addr} {S S' : List Sp} (h : OffB B a S) (f : Fresh W a S a' S') (hB : B + 1 < W.heap.size) : OffB B a' S' := by
  intro q hq hS
  rcases f with ⟨rfl, h2⟩ | ⟨q', h1, h2⟩
  · exact h q hq (h2 hS)
  · rw [hq] at h1; cases h1; omega
theorem KPend.inv {k : KS} {l : List Sp} (H : KPend k l) : KInv k := by
  refine ⟨H.ok, fun t ht => H.mem t ?_, H.nd.sublist (List.Sublist.map _ ?_), H.free⟩
  · simp only [List.append_nil] at ht
    exact List.mem_append_left _ ht
  · simp
theorem RefG.store1 {wc wx : World} {B : Nat} {g fc c : Nat} {a : Option Addr} {h : Hp} {cs : Array Value} {T : TypeId} (R : RefG wc g fc a c h) (gB : wc.heap[B]? = some (.cells cs T (0, 0))) (hT : T ≠ 4) (o : OffB B a h.S) (hF : Fr (fun j => j = B) wc wx) : RefG wx g fc a c h := by
  refine R.fr hF (fun hq => ?_) (fun q hq hS e => (o q hq hS).1 e)
  obtain ⟨cur, hg⟩ := R.blk
  rw [hq, gB] at hg
  simp only [Option.some.injEq, Obj.cells.injEq] at hg
  exact hT hg.2.1
theorem SpansIn.store1 {wc wx : World} {B : Nat} {a : Option Addr} {S : List Sp} (R : SpansIn wc a S) (o : OffB B a S) (hF : Fr (fun j => j = B) wc wx) : SpansIn wx a S := by
  by_cases he : S = []
  · exact .inl he
  · exact R.fr7 hF (fun q hq e => (o q hq he).1 e)
structure Give3 (w : World) (B : Nat) (st : KS) (p0 : KP) (L : List Sp) (i : Nat) (k : KS) (p : KP) (wr : World) : Prop where
  is : (L.take i).foldl KS.give1 st = k
  box : wr.heap[B]? = some (.cells (kCells k p) 46 (0, 0))
  out : wr.heap[B + 1]? = some (.cells k0Cells 46 (0, 0))
  ref : RefK wr k p
  pend : KPend k (L.drop i)
  bel : Bel w wr
  fa : Fresh w p0.a st.h.S p.a k.h.S
  fk : Fresh w p0.ka st.kept p.ka k.kept
  fw : Fresh w p0.wa st.waits p.wa k.waits
  oa : OffB B p.a k.h.S
  ok : OffB B p.ka k.kept
  ow : OffB B p.wa k.waits
  last : k.h.last = st.h.last
  lo : w.heap.size ≤ B
theorem Give3.step {w wr wc wx : World} {B : Nat} {st : KS} {p0 : KP} {L : List Sp} {i : Nat} {k k' : KS} {p p' : KP} (H : Give3 w B st p0 L i k p wr) (hlt : i < L.length) (hk : k.give1 L[i] = k') (hB : Bel wr wc) (hF : Fr (fun j => j = B) wc wx)
    (box : wx.heap[B]? = some (.cells (kCells k' p') 46 (0, 0))) (ref : RefK wx k' p') (fa : Fresh wr p.a k.h.S p'.a k'.h.S) (fk : Fresh wr p.ka k.kept p'.ka k'.kept) (fw : Fresh wr p.wa k.waits p'.wa k'.waits) : Give3 w B st p0 L (i + 1) k' p' wx := by
  have hd : L.drop i = L[i] :: L.drop (i + 1) := List.drop_eq_getElem_cons hlt
  have hp := H.pend
  rw [hd] at hp
  have hs := H.bel.size
  have hb := heap_lt H.out
  refine ⟨?_, box, hF.heap (hB.blk H.out) (by show ¬ B + 1 = B; omega), ref, ?_, Fr.bel ((Fr.of_bel (H.bel.trans hB)).trans' hF) (fun j hj => by subst hj; exact H.lo), H.fa.trans fa hs, H.fk.trans fk hs, H.fw.trans fw hs, H.oa.fresh fa hb, H.ok.fresh fk hb, H.ow.fresh fw hb, ?_, H.lo⟩
  · rw [List.take_succ_eq_append_getElem hlt, List.foldl_append, H.is, ← hk]; rfl
  · rw [← hk]; exact hp.give1
  · rw [← hk, give1_last, H.last]
/-- It waits. -/
theorem Give3.held {w wr wc wx : World} {B : Nat} {st : KS} {p0 : KP} {L : List Sp} {i : Nat} {k : KS} {p : KP} {g2 cap : Nat} (H : Give3 w B st p0 L i k p wr) (hlt : i < L.length) (hh : k.held = true) (hB : Bel wr wc) (hF : Fr (fun j => j = B) wc wx)
    (box : wx.heap[B]? = some (.cells (kCells ⟨k.h, k.kept, k.waits ++ [L[i]], k.held⟩ { p with wa := some ⟨g2, 0, none⟩, wc := cap }) 46 (0, 0))) (hs : SpansIn wx (some ⟨g2, 0, none⟩) (k.waits ++ [L[i]])) (hg : wr.heap.size ≤ g2) (hc : k.waits.length + 1 ≤ cap) :
    Give3 w B st p0 L (i + 1) ⟨k.h, k.kept, k.waits ++ [L[i]], k.held⟩ { p with wa := some ⟨g2, 0, none⟩, wc := cap } wx := by
  refine H.step hlt (by unfold KS.give1; rw [if_pos hh]) hB hF box ⟨(H.ref.heap.bel hB).store1 (hB.blk H.box) (by decide) H.oa hF, (H.ref.kept.bel hB).store1 H.ok hF, hs, H.ref.kcap, ?_, H.ref.knil, fun h => by cases h⟩ (.refl _ _ _) (.refl _ _ _) (.inr ⟨_, rfl, hg⟩)
  rw [List.length_append]; exact hc
/-- It is kept. -/
theorem Give3.keep {w wr wc wx : World} {B : Nat} {st : KS} {p0 : KP} {L : List Sp} {i : Nat} {k : KS} {p : KP} {g2 cap : Nat} (H : Give3 w B st p0 L i k p wr) (hlt : i < L.length) (hh : k.held = false) (hcn : cntK k.kept L[i].2.1.2 < 2) (hB : Bel wr wc) (hF : Fr (fun j => j = B) wc wx)
    (box : wx.heap[B]? = some (.cells (kCells ⟨k.h, k.kept ++ [L[i]], k.waits, k.held⟩ { p with ka := some ⟨g2, 0, none⟩, kc := cap }) 46 (0, 0))) (hs : SpansIn wx (some ⟨g2, 0, none⟩) (k.kept ++ [L[i]])) (hg : wr.heap.size ≤ g2) (hc : k.kept.length + 1 ≤ cap) :
    Give3 w B st p0 L (i + 1) ⟨k.h, k.kept ++ [L[i]], k.waits, k.held⟩ { p with ka := some ⟨g2, 0, none⟩, kc := cap } wx := by
  refine H.step hlt (by unfold KS.give1; rw [if_neg (by simp [hh]), if_pos hcn]) hB hF box ⟨(H.ref.heap.bel hB).store1 (hB.blk H.box) (by decide) H.oa hF, hs, (H.ref.waits.bel hB).store1 H.ow hF, ?_, H.ref.wcap, (fun h => by cases h), H.ref.wnil⟩ (.refl _ _ _) (.inr ⟨_, rfl, hg⟩) (.refl _ _ _)
  rw [List.length_append]; exact hc
/-- It goes. -/
theorem Give3.drop {w wr wc w8 wx : World} {B : Nat} {st : KS} {p0 : KP} {L : List Sp} {i : Nat} {k : KS} {p : KP} {g8 fc8 c8 : Nat} {a8 : Option Addr} (H : Give3 w B st p0 L i k p wr) (hlt : i < L.length) (hh : k.held = false) (hcn : ¬ cntK k.kept L[i].2.1.2 < 2) (hB : Bel wr wc)
    (P : GPost wc p.a k.h.S (k.h.drop [L[i].1]).1 g8 fc8 a8 c8 w8) (e : wx = (((w8.setCell ⟨B, 0, none⟩ (.int .i64 ((k.h.drop [L[i].1]).1.P : Int))).setCell ⟨B, 1, none⟩ (.slice (some ⟨g8, 0, none⟩) 1024 fc8)).setCell ⟨B, 2, none⟩ (.slice a8 (k.h.drop [L[i].1]).1.S.length c8)).setCell ⟨B, 3, none⟩ (.int .i64 ((k.h.drop [L[i].1]).1.last : Int))) :
    Give3 w B st p0 L (i + 1) ⟨(k.h.drop [L[i].1]).1, k.kept, k.waits, k.held⟩ { p with g := g8, fc := fc8, a := a8, c := c8 } wx := by
  have hF := fr_four w8 B (.int .i64 ((k.h.drop [L[i].1]).1.P : Int)) (.slice (some ⟨g8, 0, none⟩) 1024 fc8) (.slice a8 (k.h.drop [L[i].1]).1.S.length c8) (.int .i64 ((k.h.drop [L[i].1]).1.last : Int))
  rw [← e] at hF
  have hB8 := hB.trans P.2.1
  have k8 := hB8.blk H.box
  have hl := heap_lt H.out
  have hf : Fresh wr p.a k.h.S a8 (k.h.drop [L[i].1]).1.S := Fresh.old P.2.2 hB.size
  refine H.step hlt (by unfold KS.give1; rw [if_neg (by simp [hh]), if_neg hcn]) hB8 hF ?_ ⟨P.1.store1 k8 (by decide) (H.oa.fresh hf hl) hF, (H.ref.kept.bel hB8).store1 H.ok hF, (H.ref.waits.bel hB8).store1 H.ow hF, H.ref.kcap, H.ref.wcap, H.ref.knil, H.ref.wnil⟩ hf (.refl _ _ _) (.refl _ _ _)
  rw [e]
  unfold kCells at k8 ⊢
  have h1 := blk_setCell k8 0 (.int .i64 ((k.h.drop [L[i].1]).1.P : Int))
  have h2 := blk_setCell h1 1 (.slice (some ⟨g8, 0, none⟩) 1024 fc8)
  have h3 := blk_setCell h2 2 (.slice a8 (k.h.drop [L[i].1]).1.S.length c8)
  have h4 := blk_setCell h3 3 (.int .i64 ((k.h.drop [L[i].1]).1.last : Int))
  simpa using h4
/-- The end. -/
theorem Give3.fin {w wr W9 : World} {B : Nat} {st : KS} {p0 : KP} {L : List Sp} {k : KS} {p : KP} (H : Give3 w B st p0 L L.length k p wr) (hF : Fr (fun j => j = B + 1) wr W9) : L.foldl KS.give1 st = k ∧ KPost w st p0 k p W9 := by
  have h1 := H.is
  rw [List.take_length] at h1
  refine ⟨h1, ⟨?_, ?_, ?_, H.ref.kcap, H.ref.wcap, H.ref.knil, H.ref.wnil⟩, Fr.bel ((Fr.of_bel H.bel).trans' hF) (fun j hj => by subst hj; have := H.lo; omega), H.fa, H.fk, H.fw⟩
  · refine H.ref.heap.fr hF (fun hq => ?_) (fun q hq hS e => (H.oa q hq hS).2 e)
    obtain ⟨cur, hg⟩ := H.ref.heap.blk
    rw [hq, H.out] at hg
    simp only [Option.some.injEq, Obj.cells.injEq] at hg
    exact absurd hg.2.1 (by decide)
  · by_cases he : k.kept = []
    · exact .inl he
    · exact H.ref.kept.fr7 hF (fun q hq e => (H.ok q hq he).2 e)
  · by_cases he : k.waits = []
    · exact .inl he
    · exact H.ref.waits.fr7 hF (fun q hq e => (H.ow q hq he).2 e)
end Go.Proofs.YtbldidlbhahciaaGreat

namespace Go.Proofs.YtbldidlbhahciaaGreat
open Go.RowKit

theorem oper_round {l n : Nat} {o : Oper} {a : Act} {w : World} {K : Act → World → Prop} {Q : Exit → Act → World → Prop} (hd : ∀ c, o.op ≠ .defer c) (h : o.wp Tryz.prog a w K Q) : o.wpIn (Fence.wide.inRound l) n Tryz.prog a w K Q := by
  unfold Oper.wp at h
  unfold Oper.wpIn
  refine ⟨fun _ _ => trivial, ?_⟩
  rw [show (Fence.wide.inRound l).round = some l from rfl, Oper.semAt_some l _ _ hd]
  generalize (execOp a.eval o).run Tryz.prog w = r at *
  cases r with
  | ok x w' =>
    cases x
    case enter f args => exact ⟨fun e => (by cases e), CallsIn.inRound l (callsIn_wide.2 h)⟩
    case row row args => exact ⟨fun e => (by cases e), fun c cs _ => let ⟨v, w', r, s⟩ := h c cs; ⟨v, w', r, stepsIn_wide.2 s⟩⟩
    all_goals first | exact h | exact h.elim
  | halt x w' =>
    cases x <;> exact h
theorem wpAny_round {l n : Nat} {md : Region.Mode} {ops : Array Oper} {Q : Exit → Act → World → Prop} (hQ : ¬ LetsOut Q) (hops : ∀ (i : Nat) (o : Oper), ops[i]? = some o → ∀ c, o.op ≠ .defer c) :
    ∀ (fuel : Nat) (listed : Array Bool) (a : Act) (w : World), wpAny Tryz.prog md ops Q fuel listed a w → wpAnyIn (Fence.wide.inRound l) n Tryz.prog md ops Q fuel listed a w
  | 0, _, _, _, h => h
  | fuel + 1, listed, a, w, h => by
    refine ⟨h.1, fun i hi => ?_⟩
    have h1 := h.2 i hi
    unfold wpOp at h1
    unfold wpOpIn
    split
    · rename_i ho
      simp only [ho] at h1
      exact wpAny_round hQ hops fuel _ _ _ h1
    · rename_i o ho
      simp only [ho] at h1
      split
      · rename_i hw
        simp only [hw, if_true] at h1
        rcases h1 with h1 | ⟨_, h1⟩
        · exact oper_round (hops i o ho) (Oper.wp_mono (fun a w h => wpAny_round hQ hops fuel _ a w h) h1)
        · exact absurd h1 hQ
      · rename_i hw
        simp only [hw, if_false] at h1
        exact ⟨fun _ _ => trivial, wpAny_round hQ hops fuel _ _ _ h1⟩
def noDefer (ops : Array Oper) : Bool := ops.all fun o => match o.op with | .defer _ => false | _ => true
theorem noDefer_spec {ops : Array Oper} (h : noDefer ops = true) : ∀ (i : Nat) (o : Oper), ops[i]? = some o → ∀ c, o.op ≠ .defer c := fun i o ho c hc => by
  obtain ⟨hi, e⟩ := Array.getElem?_eq_some_iff.1 ho
  have h9 := (Array.all_eq_true.1 h) i hi
  rw [e, hc] at h9
  cases h9
theorem region_round {l n id : Nat} {ops : Array Oper} {Q : Exit → Act → World → Prop} {a : Act} {w : World} {S : World → Prop} (hm : Tryz.prog.follows .mixedOrders = true) (hQ : ¬ LetsOut Q) (hops : noDefer ops = true)
    (h : wpAnyH Tryz.prog .any ops Q S ops.size (Array.replicate ops.size false) a w.drew) : (Code.region id ops true).wpIn (Fence.wide.inRound l) n Tryz.prog Q a w :=
  wpIn_region_any hm (wpAny_round hQ (noDefer_spec hops) _ _ _ _ (wpAny_of_held _ _ _ _ h))
end Go.Proofs.YtbldidlbhahciaaGreat

namespace Go.Proofs.YtbldidlbhahciaaGreat
open Go.RowKit Go.Shelf
attribute [local go_sem] Oper.semAt_some

theorem fr_grownBy {w w' : World} {row : Option Nat} (h : w.grownBy w' row) : Fr (fun k => row = some k) w w' := fr_row7 h
/-- A span that was kept is taken: what memory holds. -/
structure TakenAt (w0 w : World) (k hb B : Nat) (kv wv : Value) (st : KS) (i : Nat) (s : Sp) (W : World) : Prop where
  fr : Fr (fun j => j = k ∨ kv.ownBlock = some j ∨ wv.ownBlock = some j) w W
  hd : ∃ kv', W.heap[k]? = some (.cells #[.pointer (some ⟨hb, 0, none⟩), kv', wv, .bool st.held] 76 (0, 0)) ∧ RowSp w0.heap.size W kv' (outSp st.kept i) ∧ kv'.ownBlock = kv.ownBlock
  waits : RowSp w0.heap.size W wv st.waits
  b2 : W.heap[B + 1 + 1]? = some (.cells #[.int .i64 s.1, .int .i64 s.2.1.1, .int .i64 s.2.1.2, .int .i64 s.2.2] 33 (0, 0))
  b3 : W.heap[B + 1 + 1 + 1]? = some (.cells #[.int .i64 0] 24 (0, 0))
theorem heap_grown {w w' : World} {row : Option Nat} {k T : Nat} {cs : Array Value} {fz : Nat × Nat} (h : w.grownBy w' row) (hr : ∀ r, row = some r → ∃ o : Obj, w.heap[r]? = some o ∧ o.isCells = false) (hk : w.heap[k]? = some (.cells cs T fz)) : w'.heap[k]? = some (.cells cs T fz) := by
  refine (fr_grownBy h).heap hk (fun e => ?_)
  obtain ⟨o, ho, hc⟩ := hr k e
  rw [hk] at ho; cases ho; cases hc
theorem rowSp_grown {w w' : World} {row : Option Nat} {base : Nat} {v : Value} {L : List Sp} (h : w.grownBy w' row) (hr : ∀ r, row = some r → ∃ o : Obj, w.heap[r]? = some o ∧ o.isCells = false) (hR : RowSp base w v L) : RowSp base w' v L := by
  refine hR.fr (fr_grownBy h) (fun b hb e => ?_)
  obtain ⟨o, ho, hc⟩ := hr b e
  obtain ⟨cur, hcur⟩ := row_type hR hb
  rw [hcur] at ho; cases ho; cases hc
theorem TakenAt.grown {w0 w : World} {k hb B : Nat} {kv wv : Value} {st : KS} {i : Nat} {s : Sp} {W W' : World} (h : TakenAt w0 w k hb B kv wv st i s W) {row : Option Nat} (hg : W.grownBy W' row) (hr : ∀ r, row = some r → w.heap.size ≤ r ∧ ∃ o : Obj, W.heap[r]? = some o ∧ o.isCells = false) : TakenAt w0 w k hb B kv wv st i s W' := by
  obtain ⟨kv', h1, h2, h3⟩ := h.hd
  have hr2 := fun r e => (hr r e).2
  exact ⟨h.fr.trans (fr_grownBy hg) (fun j hj => .inr (hr j hj).1), ⟨kv', heap_grown hg hr2 h1, rowSp_grown hg hr2 h2, h3⟩, rowSp_grown hg hr2 h.waits, heap_grown hg hr2 h.b2, heap_grown hg hr2 h.b3⟩
theorem TakenAt.post {w0 w : World} {N : Nat → Prop} {k hb bi B : Nat} {kv wv : Value} {st : KS} {i : Nat} {s : Sp} {W : World} {n : Int} (H : KAt w0 N w k hb bi kv wv st) (h : TakenAt w0 w k hb B kv wv st i s W) (hf : fitsF n = true) (hl : lastI st.kept n = some i) :
    LivePostK w0 N w k hb bi (st.take n).1 W := by
  obtain ⟨kv', h1, h2, h3⟩ := h.hd
  have hi := H.inv.take n
  rw [take_kept hf hl] at hi ⊢
  exact H.upd (st' := ⟨st.h, outSp st.kept i, st.waits, st.held⟩) h.fr h1 h2 h.waits (fun g hg => by rw [h3] at hg; exact H.apart g hg) (fun g hg => by rw [h3] at hg; exact .inl hg) (fun g hg => .inr (.inl hg)) rfl hi
/-- Five cells of two new boxes are written. -/
theorem take_setF {Q : Nat → Prop} {w : World} {B : Nat} {W : World} {x1 x2 x3 x4 e0 a b c d : Value} {T2 T3 : Nat} (hB : w.heap.size = B) (h : Fr Q w W) (b2 : W.heap[B + 1 + 1]? = some (.cells #[a, b, c, d] T2 (0, 0))) (b3 : W.heap[B + 1 + 1 + 1]? = some (.cells #[e0] T3 (0, 0))) (v : Value) :
    ∃ W9, W9 = ((((W.setCell ⟨B + 1 + 1, 0, none⟩ x1).setCell ⟨B + 1 + 1, 1, none⟩ x2).setCell ⟨B + 1 + 1, 2, none⟩ x3).setCell ⟨B + 1 + 1, 3, none⟩ x4).setCell ⟨B + 1 + 1 + 1, 0, none⟩ v ∧
      W9.heap[B + 1 + 1]? = some (.cells #[x1, x2, x3, x4] T2 (0, 0)) ∧ W9.heap[B + 1 + 1 + 1]? = some (.cells #[v] T3 (0, 0)) ∧ Fr Q w W9 ∧ Fr (fun i => i = B + 1 + 1 ∨ i = B + 1 + 1 + 1) W W9 := by
  have hF := (fr_four W (B + 1 + 1) x1 x2 x3 x4).mono (S' := fun i => i = B + 1 + 1 ∨ i = B + 1 + 1 + 1) (fun i hi => .inl hi)
  have b3' := (fr_four W (B + 1 + 1) x1 x2 x3 x4).heap b3 (by omega)
  have h9 := blk_setCell b3' 0 v
  have hF2 := hF.setCell (p := ⟨B + 1 + 1 + 1, 0, none⟩) (.inl (.inr rfl)) v
  exact ⟨_, rfl, blk_setCell_other (four_set b2 _ _ _ _) (show B + 1 + 1 ≠ B + 1 + 1 + 1 by omega) _, by simpa using h9, h.trans hF2 (fun i hi => .inr (by rcases hi with hi | hi <;> omega)), hF2⟩
theorem fr_keeps {Q : Nat → Prop} {B : Nat} {W W' : World} (h : Fr Q W W') (hQ : ∀ i, Q i → i < B) : KeepsFrom B W W' :=
  ⟨h.size, fun k o hB hk _ => (h.block k (heap_lt hk) (fun hq => by have := hQ k hq; omega)).trans hk⟩
theorem below_of_bel {B : Nat} {W W' : World} (h : Bel W W') (hB : B ≤ W.heap.size) : Below B W W' := Below.mono h hB
/-- Which one it was. -/
theorem back_last {K : List Sp} {n : Int} {j : Nat} {init : List (Fin K.length)} {x : Fin K.length} (e : init ++ [x] = (List.finRange K.length).take j) (hj : j ≤ K.length) (h1 : ∀ y ∈ init, (backF K y).2.1.2 ≠ n) (h2 : (backF K x).2.1.2 = n) :
    lastI K n = some (K.length - 1 - x.1) ∧ K[K.length - 1 - x.1]?.getD sp0 = backF K x := by
  obtain ⟨m, rfl⟩ : ∃ m, j = m + 1 := by
    cases j with
    | zero => simp at e
    | succ m => exact ⟨m, rfl⟩
  have hm : m < K.length := hj
  rw [fin_take hm] at e
  obtain ⟨rfl, e2⟩ := List.append_inj' e rfl
  simp only [List.cons.injEq, and_true] at e2
  subst e2
  dsimp only
  have hi : K.length - 1 - m < K.length := by omega
  refine ⟨lastI_some hi h2 (fun q hq hlt => ?_), by rw [List.getElem?_eq_getElem hi]; rfl⟩
  have h3 := h1 ⟨K.length - 1 - q, by omega⟩ (by
    rw [List.mem_take_iff_getElem]
    exact ⟨K.length - 1 - q, by simp; omega, by simp⟩)
  unfold backF at h3
  have e9 : K.length - 1 - (K.length - 1 - q) = q := by omega
  simp only [e9] at h3
  exact h3
theorem back_none {K : List Sp} {n : Int} (h : ∀ y ∈ List.finRange K.length, (backF K y).2.1.2 ≠ n) : lastI K n = none := by
  refine lastI_none (fun s hs => ?_)
  obtain ⟨q, hq, rfl⟩ := List.getElem_of_mem hs
  have h3 := h ⟨K.length - 1 - q, by omega⟩ (List.mem_finRange _)
  unfold backF at h3
  have e9 : K.length - 1 - (K.length - 1 - q) = q := by omega
  simp only [e9] at h3
  exact h3
set_option maxHeartbeats 8000000 in
set_option maxRecDepth 100000 in
theorem large_Take_in {w0 w : World} {N : Nat → Prop} {k hb bi : Nat} {st : KS} (H : LiveK w0 N w k hb bi st) (n : Int) (hn : I64 n) (hfit : fitsF n = true) (hsm : st.h.last < 65536) (m : Nat) (hm : 9 ≤ m) :
    CallsIn Fence.wide m Tryz.prog 11 #[.pointer (some ⟨k, 0, none⟩), .int .i64 n] w fun e w' => e = .returned (.tuple #[spV (st.take n).2.1, .int .i64 (st.take n).2.2]) ∧ LivePostK w0 N w k hb bi (st.take n).1 w' := by
  obtain ⟨kv, wv, H⟩ := H
  have hcnt := H.inv.count
  have HF : Hid (∀ V, Calls Tryz.prog 30 #[.int .i64 n] V fun e V' => e = .returned (.bool true) ∧ Bel V V') := Lib.hid (fun V => by have := large_fits n V hn; rw [hfit] at this; exact this)
  have HT := Lib.hid (TBox.start w (some ⟨k, 0, none⟩) n)
  unfold tboxW at HT
  have HH := Lib.hid H
  obtain ⟨a, c, rfl, hin, hab, hown⟩ := H.kept.in
  have HIN := Lib.hid (And.intro hin hown)
  clear H hin hab hown
  refine callsIn_of_wp_marks Tryz.func11 rfl trivial ?_ rfl
  simp only [Tryz.ntmps11, List.size_toArray, List.length_cons, List.length_nil, Nat.reduceAdd, Nat.reduceSub, Array.replicate_succ, Array.replicate_zero, List.push_toArray, List.append_toArray, List.nil_append, List.cons_append]
  gi_wp2_with fail
  refine ⟨trivial, fun h => (by cases h), (callsIn_wide.2 (HF.out _)).mono ?_⟩
  clear HF
  rintro e w1 ⟨rfl, hB1⟩
  have HT1 := Lib.hid (HT.out.then hB1)
  clear HT hB1
  obtain ⟨B, hB⟩ : ∃ B, w.heap.size = B := ⟨_, rfl⟩
  rw [hB] at HT1 ⊢
  have p0 : w1.cell? ⟨B, 0, none⟩ = some (.pointer (some ⟨k, 0, none⟩)) := blk_cell HT1.out.b0 0
  obtain ⟨q0, q1, q2, q3⟩ := four_cells (HT1.out.bel.blk HH.out.hd)
  gi_wp2_with fail
  refine ⟨trivial, fun h => (by cases h), (callsIn_wide.2 (backward_call a st.kept.length c w1)).mono ?_⟩
  rintro e w2 ⟨rfl, hw2⟩
  have hB2 : Bel w1 w2 := by rw [hw2]; exact (Bel.refl _).alloc _
  have g4 : w2.heap[w1.heap.size]? = some (.cells #[.slice a st.kept.length c] 42 (0, 0)) := by rw [hw2]; exact blk_alloc _ _
  have hsz2 : w2.heap.size = w1.heap.size + 1 := by rw [hw2]; simp
  have HT2 := Lib.hid (HT1.out.then hB2)
  obtain ⟨Bs, hBs⟩ : ∃ Bs, w1.heap.size = Bs := ⟨_, rfl⟩
  rw [hBs] at g4 hsz2 ⊢
  have HG := Lib.hid (And.intro g4 hsz2)
  clear hw2 hB2 g4 hsz2 p0 q0 q1 q2 q3 HT1
  gi_wp2_with fail
  have hwB : w.heap.size ≤ w2.heap.size := HT2.out.bel.size
  have hBs2 : Bs < w2.heap.size := heap_lt HG.out.1
  refine wpIn_rangeFunc_ownH rfl (by omega) (gf := 58) (lb := #[.pointer (some ⟨Bs, 0, none⟩)]) rfl trivial (enters_of Tryz.func58 (by kernel_rfl) rfl)
    (back_stops Fence.wide (m - 1) trivial rfl (by omega) Bs w2.heap.size c a st.kept (by omega) w2 hBs2 (Nat.le_refl _) (fun p hp => Nat.lt_of_lt_of_le (World.ownsRow.lt HH.out.kept _ (HIN.out.2 p hp)).2 hwB) (blk_cell HG.out.1 0) (HIN.out.1.bel HT2.out.bel)) belowK_t (belowK_b (Nat.le_refl _)) (Below.refl _ _) (fun _ => rfl)
    (fun pre W => (∀ y ∈ pre, (backF st.kept y).2.1.2 ≠ n) ∧ Go.RowKit.Below w2.heap.size w2 W)
    (fun cd pre W => cd = .ret ∧ ∃ init x, pre = init ++ [x] ∧ (∀ y ∈ init, (backF st.kept y).2.1.2 ≠ n) ∧ (backF st.kept x).2.1.2 = n ∧ TakenAt w0 w k hb B (.slice a st.kept.length c) wv st (st.kept.length - 1 - x.1) (backF st.kept x) W)
    (OwnFrom.and (ownFrom_pure _ _) (ownFrom_below (Nat.le_refl _) (Nat.le_refl _)))
    (fun cd s X Y row hs hg hr => by
      obtain ⟨h1, init, x, h2, h3, h4, h5⟩ := hs
      exact ⟨h1, init, x, h2, h3, h4, h5.grown hg (fun r e => ⟨Nat.le_trans hwB (hr r e).1, (hr r e).2⟩)⟩)
    ⟨by simp, Below.refl _ _⟩
    (fun x a' W => ∃ Bx, w2.heap.size ≤ Bx ∧ W.heap[Bx]? = some (.cells #[.int .i64 (backF st.kept x).1, .int .i64 (backF st.kept x).2.1.1, .int .i64 (backF st.kept x).2.1.2, .int .i64 (backF st.kept x).2.2] 33 (0, 0)) ∧ a' = { tmps := #[.pointer (some ⟨k, 0, none⟩), .int .i64 n, .pointer (some ⟨B, 0, none⟩), .pointer (some ⟨B + 1, 0, none⟩), .pointer (some ⟨B + 1 + 1, 0, none⟩), .pointer (some ⟨B + 1 + 1 + 1, 0, none⟩), .int .i64 ((st.kept.length : Int) - 1 - x.1), .pointer (some ⟨Bx, 0, none⟩), .bool false, .int .i64 n, .bool true, .bool false, undef, .bool false, .pointer (some ⟨k, 0, none⟩), .bool false, undef, .pointer (some ⟨k, 0, none⟩), .pointer (some ⟨k, 0, none⟩), .pointer (some ⟨k, 1, none⟩), .slice a st.kept.length c, .func (.func 58) #[] #[.pointer (some ⟨Bs, 0, none⟩)], .int .i64 ((st.kept.length : Int) - 1 - x.1), .agg #[.int .i64 (backF st.kept x).1, .int .i64 (backF st.kept x).2.1.1, .int .i64 (backF st.kept x).2.1.2, .int .i64 (backF st.kept x).2.2], undef, undef, undef, undef, undef, undef, undef, undef, undef, undef, undef, undef, undef, undef, undef, undef, undef, undef, undef, undef, undef, undef, undef, undef, undef], defers := [] })
    (fun x a' _ X Y row hs hg hr => by
      obtain ⟨Bx, h1, h2, h3⟩ := hs
      exact ⟨Bx, h1, heap_grown hg (fun r e => (hr r e).2) h2, h3⟩)
    ?assign ?body ?done ?stop
  case assign =>
    rintro l pre x W K ⟨hpre, hB1⟩ hK
    unfold backV
    gi_wp2
    exact hK _ _ ((KeepsOthers.alloc _ _).from _) ((Below.refl _ W).alloc hB1.size _) ⟨hpre, hB1.alloc hB1.size _⟩ ⟨W.heap.size, hB1.size, blk_alloc W _, rfl⟩
  case body =>
    rintro l pre x a' W hl ⟨r, hr⟩ ⟨hpre, hB1⟩ ⟨Bx, hBx, bX, rfl⟩ hlt
    have hd : 1 ≤ m - 1 - 1 := by omega
    have hmx : Tryz.prog.follows .mixedOrders = true := by kernel_rfl
    have hBW : Bel w2 W := hB1
    have HTW := Lib.hid (HT2.out.then hBW)
    obtain ⟨x0, x1, x2, x3⟩ := four_cells bX
    have n0 : W.cell? ⟨B + 1, 0, none⟩ = some (.int .i64 n) := blk_cell HTW.out.b1 0
    obtain ⟨i, hi⟩ : ∃ i, st.kept.length - 1 - x.1 = i := ⟨_, rfl⟩
    have hil : i < st.kept.length := by have := x.2; omega
    have hii : (st.kept.length : Int) - 1 - (x.1 : Int) = (i : Int) := by have := x.2; omega
    rw [hii]
    have HI := Lib.hid hi
    obtain ⟨s, hs⟩ : ∃ s, backF st.kept x = s := ⟨_, rfl⟩
    rw [hs] at bX x0 x1 x2 x3 ⊢
    obtain ⟨s1, ⟨s2, s3⟩, s4⟩ := s
    dsimp only at bX x0 x1 x2 x3 ⊢
    have HS := Lib.hid hs
    clear hs hi
    by_cases he : s3 = n
    · rw [he] at bX x2
      rw [he] at HS ⊢
      have p0 : W.cell? ⟨B, 0, none⟩ = some (.pointer (some ⟨k, 0, none⟩)) := blk_cell HTW.out.b0 0
      have hkd := HTW.out.bel.blk HH.out.hd
      obtain ⟨q0, q1, q2, q3⟩ := four_cells hkd
      obtain ⟨ne1, ne2⟩ := HH.out.ne
      obtain ⟨bg, og, rfl, _⟩ := HIN.out.1.at i hil
      have hrow := HH.out.kept.bel HTW.out.bel
      have hog : og = 0 := by
        rcases hrow.2 with ⟨h3, _⟩ | ⟨g9, cap9, cur9, h3, _⟩
        · simp at h3
        · simp at h3; exact h3.1.2
      subst hog
      have hbg := HIN.out.2 _ rfl
      have hbk : bg ≠ k := fun e => ne1 (by rw [hbg, e])
      have hbgw : bg < w.heap.size := (World.ownsRow.lt HH.out.kept _ hbg).2
      have hkw : k < w.heap.size := heap_lt HH.out.hd
      have hWw := HTW.out.size
      have HD := Lib.hid (delete_sp bg c w0.heap.size st.kept i W hil (by omega) hrow)
      have HDD : Hid (∀ V, Bel W V → Calls Tryz.prog 32 #[.slice (some ⟨bg, 0, none⟩) st.kept.length c, .int .i64 i, .int .i64 ((i : Int) + 1)] V fun e V' => e = .returned (.slice (some ⟨bg, 0, none⟩) (st.kept.length - 1) c) ∧ V'.ownsRow w0.heap.size 33 4 (.slice (some ⟨bg, 0, none⟩) (st.kept.length - 1) c) (outSp st.kept i).length (spCellsOf (outSp st.kept i)) ∧ Fr (fun j => j = bg) W V' ∧ V'.cell? ⟨B, 0, none⟩ = some (.pointer (some ⟨k, 0, none⟩)) ∧ V'.cell? ⟨k, 1, none⟩ = some (.slice (some ⟨bg, 0, none⟩) st.kept.length c) ∧ V'.frozen? ⟨k, 1, none⟩ = false) := Lib.hid (fun V hV => (delete_sp bg c w0.heap.size st.kept i V hil (by omega) (hrow.bel hV)).mono fun e V' ⟨h1, h2, h3⟩ => by
        have hF := (Fr.of_bel (S := fun j => j = bg) hV).trans' h3
        exact ⟨h1, h2, hF, hF.cell p0 (by show ¬ B = bg; omega), hF.cell q1 (by show ¬ k = bg; exact fun e => hbk e.symm), blk_frozen (hF.heap hkd (by show ¬ k = bg; exact fun e => hbk e.symm)) 1⟩)
      have z1 : IntKind.i64.wrap ((i : Int) + 1) = (i : Int) + 1 := IntWalk.i64_in _ (by omega)
      clear hrow HD hr
      gi_wp2_with fail
      have hBk : B ≠ k := by omega
      refine region_round (S := fun w' => w'.cell? ⟨B, 0, none⟩ = some (.pointer (some ⟨k, 0, none⟩))) hmx (by rintro ⟨a9, w9, h9⟩; exact h9) (by kernel_rfl) ?_
      have hHeld : W.drew.cell? ⟨B, 0, none⟩ = some (.pointer (some ⟨k, 0, none⟩)) := p0
      have hq1 : W.drew.cell? ⟨k, 1, none⟩ = some (.slice (some ⟨bg, 0, none⟩) st.kept.length c) := q1
      refine wpAnyH_take (i := 5) (v := .int .i64 i) rfl (by kernel_rfl) (by kernel_rfl) (by kernel_rfl) (fun _ _ _ h => h) (Or.inl ⟨by rfl, fun w hSw => by (try dsimp only at hSw); go_simp⟩) hHeld ?_
      try simp only [Act.put, List.setIfInBounds_toArray, List.set_cons_zero, List.set_cons_succ]
      refine wpAnyH_take (i := 6) (v := .int .i64 i) rfl (by kernel_rfl) (by kernel_rfl) (by kernel_rfl) (fun _ _ _ h => h) (Or.inl ⟨by rfl, fun w hSw => by (try dsimp only at hSw); go_simp⟩) hHeld ?_
      try simp only [Act.put, List.setIfInBounds_toArray, List.set_cons_zero, List.set_cons_succ]
      refine wpAnyH_take (i := 7) (v := .int .i64 ((i : Int) + 1)) rfl (by kernel_rfl) (by kernel_rfl) (by kernel_rfl) (fun _ _ _ h => h) (Or.inl ⟨by rfl, fun w hSw => by (try dsimp only at hSw); go_simp⟩) hHeld ?_
      try simp only [Act.put, List.setIfInBounds_toArray, List.set_cons_zero, List.set_cons_succ]
      refine wpAnyH_take (i := 0) (v := .pointer (some ⟨k, 0, none⟩)) rfl (by kernel_rfl) (by kernel_rfl) (by kernel_rfl) (fun _ _ _ h => h) (Or.inl ⟨by rfl, fun w hSw => by (try dsimp only at hSw); go_simp⟩) hHeld ?_
      try simp only [Act.put, List.setIfInBounds_toArray, List.set_cons_zero, List.set_cons_succ]
      refine wpAnyH_take (i := 1) (v := .pointer (some ⟨k, 0, none⟩)) rfl (by kernel_rfl) (by kernel_rfl) (by kernel_rfl) (fun _ _ _ h => h) (Or.inl ⟨by rfl, fun w hSw => by (try dsimp only at hSw); go_simp⟩) hHeld ?_
      try simp only [Act.put, List.setIfInBounds_toArray, List.set_cons_zero, List.set_cons_succ]
      refine wpAnyH_take (i := 2) (v := .pointer (some ⟨k, 0, none⟩)) rfl (by kernel_rfl) (by kernel_rfl) (by kernel_rfl) (fun _ _ _ h => h) (Or.inl ⟨by rfl, fun w hSw => by (try dsimp only at hSw); go_simp⟩) hHeld ?_
      try simp only [Act.put, List.setIfInBounds_toArray, List.set_cons_zero, List.set_cons_succ]
      refine wpAnyH_take (i := 3) (v := .pointer (some ⟨k, 1, none⟩)) rfl (by kernel_rfl) (by kernel_rfl) (by kernel_rfl) (fun _ _ _ h => h) (Or.inl ⟨by rfl, fun w hSw => by (try dsimp only at hSw); go_simp⟩) hHeld ?_
      try simp only [Act.put, List.setIfInBounds_toArray, List.set_cons_zero, List.set_cons_succ]
      refine wpAnyH_ready (rs := [4]) (by kernel_rfl) (by simp) (AllReadyH.cons rfl (fun K hK => ?_) AllReadyH.nil)
      go_simp
      refine hK.out _ _ hHeld (fun _ => ?_)
      clear hK K
      try simp only [Act.put, List.setIfInBounds_toArray, List.set_cons_zero, List.set_cons_succ]
      refine wpAnyH_ready (rs := [8]) (by kernel_rfl) (by simp) (AllReadyH.cons rfl (fun K hK => ?_) AllReadyH.nil)
      go_simp
      go_at_call 32
      refine (HDD.out _ (Bel.refl W).drew).mono ?_
      rintro e W3 ⟨rfl, hown3, hF3, hp3, hq3, hf3⟩
      refine hK.out _ _ hp3 (fun hHeld3 => ?_)
      clear hK K
      try simp only [Act.put, List.setIfInBounds_toArray, List.set_cons_zero, List.set_cons_succ]
      refine wpAnyH_take (i := 9) (v := .pointer (some ⟨k, 0, none⟩)) rfl (by kernel_rfl) (by kernel_rfl) (by kernel_rfl) (fun _ _ _ h => h) (Or.inl ⟨by rfl, fun w hSw => by (try dsimp only at hSw); go_simp⟩) hHeld3 ?_
      try simp only [Act.put, List.setIfInBounds_toArray, List.set_cons_zero, List.set_cons_succ]
      refine wpAnyH_take (i := 10) (v := .pointer (some ⟨k, 1, none⟩)) rfl (by kernel_rfl) (by kernel_rfl) (by kernel_rfl) (fun _ _ _ h => h) (Or.inl ⟨by rfl, fun w hSw => by (try dsimp only at hSw); go_simp⟩) hHeld3 ?_
      try simp only [Act.put, List.setIfInBounds_toArray, List.set_cons_zero, List.set_cons_succ]
      refine wpAnyH_ready (rs := [11]) (by kernel_rfl) (by simp) (AllReadyH.cons rfl (fun K hK => ?_) AllReadyH.nil)
      go_simp
      refine hK.out _ _ ?_ (fun _ => ?_)
      · exact (Fr.setCell (S := fun j => j = k) (p := ⟨k, 1, none⟩) (Fr.refl _ _) (.inl rfl) _).cell hp3 hBk
      clear hK K
      try simp only [Act.put, List.setIfInBounds_toArray, List.set_cons_zero, List.set_cons_succ]
      refine wpAnyH_done (by kernel_rfl) ?_ _
      have hnk : ∀ j, w.heap.size ≤ j → ¬ (j = k ∨ (Value.slice (some ⟨bg, 0, none⟩) st.kept.length c).ownBlock = some j ∨ wv.ownBlock = some j) := fun j hj h => by
        rcases h with h | h | h
        · omega
        · rw [hbg] at h; cases h; omega
        · have := (World.ownsRow.lt HH.out.waits _ h).2; omega
      have hF4 : Fr (fun j => j = k ∨ (Value.slice (some ⟨bg, 0, none⟩) st.kept.length c).ownBlock = some j ∨ wv.ownBlock = some j) W (W3.setCell ⟨k, 1, none⟩ (.slice (some ⟨bg, 0, none⟩) (st.kept.length - 1) c)) :=
        (hF3.mono (fun j hj => by subst hj; exact .inr (.inl hbg))).setCell (p := ⟨k, 1, none⟩) (.inl (.inl rfl)) _
      have hF4w := (Fr.of_bel HTW.out.bel).trans' hF4
      have hd4 := blk_setCell (hF3.heap hkd (by show ¬ k = bg; exact fun e => hbk e.symm)) 1 (.slice (some ⟨bg, 0, none⟩) (st.kept.length - 1) c)
      have hol : (outSp st.kept i).length = st.kept.length - 1 := by unfold outSp; simp; omega
      have hrow4 : RowSp w0.heap.size (W3.setCell ⟨k, 1, none⟩ (.slice (some ⟨bg, 0, none⟩) (st.kept.length - 1) c)) (.slice (some ⟨bg, 0, none⟩) (st.kept.length - 1) c) (outSp st.kept i) :=
        RowSp.cell (base := w0.heap.size) (L := outSp st.kept i) _ hown3 (by simpa [Value.ownBlock] using hbk)
      have hwv4 : RowSp w0.heap.size (W3.setCell ⟨k, 1, none⟩ (.slice (some ⟨bg, 0, none⟩) (st.kept.length - 1) c)) wv st.waits :=
        ((HH.out.waits.bel HTW.out.bel).fr hF3 (fun b hb h => by subst h; exact HH.out.apart _ hbg hb)).cell _ ne2
      have b2' := hF4.heap HTW.out.b2 (hnk _ (by omega))
      have b3' := hF4.heap HTW.out.b3 (hnk _ (by omega))
      have hBx1 := hF4.heap bX (hnk _ (by omega))
      obtain ⟨y0, y1, y2, y3⟩ := four_cells hBx1
      obtain ⟨c0, c1, c2, c3⟩ := four_cells b2'
      obtain ⟨f0, f1, f2, f3⟩ := four_frozen b2'
      obtain ⟨W9, e9, g2, g3, hF9, hF9b⟩ := take_setF (x1 := .int .i64 s1) (x2 := .int .i64 s2) (x3 := .int .i64 n) (x4 := .int .i64 s4) HTW.out.size hF4w b2' b3' (.int .i64 0)
      have hkp : KeepsFrom w2.heap.size W (W3.setCell ⟨k, 1, none⟩ (.slice (some ⟨bg, 0, none⟩) (st.kept.length - 1) c)) := fr_keeps hF4 (fun j hj => by
        rcases Nat.lt_or_ge j w2.heap.size with h | h
        · exact h
        · exact absurd hj (hnk j (by omega)))
      have hkp9 : KeepsFrom w2.heap.size W W9 := hkp.trans (fr_keeps hF9b (fun j hj => by have := HTW.out.size; have := heap_lt HT2.out.b3; rcases hj with hj | hj <;> omega))
      have hnk2 : ∀ j, j < w.heap.size → ¬ (j = B + 1 + 1 ∨ j = B + 1 + 1 + 1) := fun j hj h => by rcases h with h | h <;> omega
      have HE := Lib.hid (And.intro e9 (And.intro hkp9 (show TakenAt w0 w k hb B (.slice (some ⟨bg, 0, none⟩) st.kept.length c) wv st i (s1, (s2, n), s4) W9 from ⟨hF9, ⟨.slice (some ⟨bg, 0, none⟩) (st.kept.length - 1) c, hF9b.heap (by simpa using hd4) (hnk2 _ hkw), hrow4.fr hF9b (fun b hb => by simp [Value.ownBlock] at hb; subst hb; exact hnk2 _ hbgw), by rw [hbg]; simp [Value.ownBlock]⟩, hwv4.fr hF9b (fun b hb => hnk2 _ (World.ownsRow.lt HH.out.waits _ hb).2), g2, g3⟩)))
      have d0 : (W3.setCell ⟨k, 1, none⟩ (.slice (some ⟨bg, 0, none⟩) (st.kept.length - 1) c)).cell? ⟨B + 1 + 1 + 1, 0, none⟩ = some (.int .i64 0) := blk_cell b3' 0
      have k0 := blk_frozen b3' 0
      have HPRE := Lib.hid hpre
      clear e9 hkp hkp9 g2 g3 hF9 hF9b hF4 hF4w hd4 hrow4 hwv4 b2' b3' hBx1 hown3 hF3 hp3 hq3 hf3 hkd x0 x1 x2 x3 n0 p0 q0 q1 q2 q3 hpre
      gi_wp2
      rw [← HE.out.1]
      exact ⟨HE.out.2.1, rfl, pre, x, rfl, HPRE.out, by rw [HS.out], by rw [HI.out, HS.out]; exact HE.out.2.2⟩
    · have e1 : (s3 == n) = false := by simpa using he
      have HE : Hid (∀ y ∈ pre ++ [x], (backF st.kept y).2.1.2 ≠ n) := Lib.hid (fun y hy => by
        rcases List.mem_append.1 hy with hy | hy
        · exact hpre y hy
        · simp at hy; subst hy; rw [HS.out]; exact he)
      gi_wp2
      exact ⟨KeepsFrom.refl _ _, Below.refl _ _, HE.out, hB1⟩
  case stop =>
    rintro D cd pre W hD ⟨j, hj, hpre⟩ ⟨rfl, init, x, hx, h1, h2, hT⟩ hK
    obtain ⟨hl, hs⟩ := back_last (hx.symm.trans hpre) hj h1 h2
    have hT2 := hT.grown (grownBy_putObj' W D (.deferred none)) (fun r e => by cases e; exact ⟨by omega, _, hK, rfl⟩)
    have hPost := hT2.post HH.out hfit hl
    have hE : (st.take n).2 = (backF st.kept x, 0) := by rw [take_kept hfit hl, hs]
    have HE := Lib.hid (And.intro hPost (And.intro hE hT2))
    clear hx hpre h1 h2 hT hl hs hT2 hPost hE
    gi_wp2
    obtain ⟨r0, r1, r2, r3⟩ := four_cells HE.out.2.2.b2
    have r4 : (W.putObj D (.deferred none)).cell? ⟨B + 1 + 1 + 1, 0, none⟩ = some (.int .i64 0) := blk_cell HE.out.2.2.b3 0
    refine ⟨by simp, .inl ⟨_, _, rfl, run_takeDeferred hK, ?_⟩⟩
    rw [HE.out.2.1]
    refine ⟨.tuple #[spV (backF st.kept x), .int .i64 0], ?_, rfl, HE.out.1⟩
    simp [spV, results, Tryz.results11, go_sem, r0, r1, r2, r3, r4]
  case done =>
    rintro D xs W hD rfl ⟨hne, hBW⟩ hK
    have hl := back_none hne
    have HTK := Lib.hid (take_make (st := st) hfit hl)
    have hB9 : Bel w2 W := hBW
    have HTW := Lib.hid (HT2.out.then hB9)
    have hlive : LiveK w0 (fun i => N i ∨ (w.heap.size ≤ i ∧ i < W.heap.size)) W k hb bi st := LiveK.watch ⟨_, _, HH.out⟩ HTW.out.bel (fun i => w.heap.size ≤ i ∧ i < W.heap.size) (fun i hi => hi)
    have p0 : W.cell? ⟨B, 0, none⟩ = some (.pointer (some ⟨k, 0, none⟩)) := blk_cell HTW.out.b0 0
    have n0 : W.cell? ⟨B + 1, 0, none⟩ = some (.int .i64 n) := blk_cell HTW.out.b1 0
    have hkd := HTW.out.bel.blk HH.out.hd
    obtain ⟨q0, q1, q2, q3⟩ := four_cells hkd
    have hkw : k < w.heap.size := heap_lt HH.out.hd
    have hWw := HTW.out.size
    have hb3 := heap_lt HTW.out.b3
    have hDW := heap_lt hK
    have HMK := Lib.hid (LiveK.heapMake hlive n (-1) hn ⟨by omega, by omega⟩ hsm)
    have hpost : (st.take n).1 = ⟨(st.h.make n (-1)).1, st.kept, st.waits, st.held⟩ := by rw [HTK.out]
    have hpost2 : (st.take n).2 = (st.h.make n (-1)).2 := by rw [HTK.out]
    obtain ⟨r, hr⟩ : ∃ r, st.h.make n (-1) = r := ⟨_, rfl⟩
    rw [hr] at HMK hpost hpost2
    obtain ⟨h', ⟨s1, ⟨s2, s3⟩, s4⟩, en⟩ := r
    dsimp only at HMK hpost hpost2
    have HPO := Lib.hid (And.intro hpost hpost2)
    have HM : Hid (∀ V, Bel W V → Calls Tryz.prog 33 #[.pointer (some ⟨hb, 0, none⟩), .int .i64 n, .int .i64 (-1)] V fun e V' => e = .returned (.tuple #[.agg #[.int .i64 s1, .int .i64 s2, .int .i64 s3, .int .i64 s4], .int .i64 en]) ∧ LivePostK w0 (fun i => N i ∨ (w.heap.size ≤ i ∧ i < W.heap.size)) W k hb bi ⟨h', st.kept, st.waits, st.held⟩ V' ∧ V'.heap[B + 1 + 1]? = some (.cells #[.int .i64 0, .int .i64 0, .int .i64 0, .int .i64 0] 33 (0, 0)) ∧ V'.heap[B + 1 + 1 + 1]? = some (.cells #[.int .i64 0] 24 (0, 0)) ∧ V'.heap[D]? = some (.deferred (some [])) ∧ V'.cell? ⟨B, 0, none⟩ = some (.pointer (some ⟨k, 0, none⟩)) ∧ V'.cell? ⟨B + 1, 0, none⟩ = some (.int .i64 n) ∧ V'.cell? ⟨k, 0, none⟩ = some (.pointer (some ⟨hb, 0, none⟩))) := Lib.hid (fun V hV => (HMK.out V hV).mono fun e V' ⟨h1, h2⟩ => by
      have hkeep : ∀ {i : Nat} {o : Obj}, W.heap[i]? = some o → w.heap.size ≤ i → V'.heap[i]? = some o := fun {i o} ho hi => h2.2.heap ho (fun h => h (.inr ⟨hi, heap_lt ho⟩))
      exact ⟨h1, h2, hkeep HTW.out.b2 (by omega), hkeep HTW.out.b3 (by omega), hkeep hK (by omega), blk_cell (hkeep HTW.out.b0 (by omega)) 0, blk_cell (hkeep HTW.out.b1 (by omega)) 0, by obtain ⟨_, _, h9⟩ := h2.1; exact blk_cell h9.hd 0⟩)
    clear HMK hpost hpost2 hr hne hl hB9 hBW
    gi_wp2_with fail
    refine wpIn_wide.2 ?_
    go_region_held3 (fun w' => w'.cell? ⟨B, 0, none⟩ = some (.pointer (some ⟨k, 0, none⟩)) ∧ w'.cell? ⟨B + 1, 0, none⟩ = some (.int .i64 n) ∧ w'.cell? ⟨k, 0, none⟩ = some (.pointer (some ⟨hb, 0, none⟩)))
      (first | (with_reducible exact hS7) | (refine hS9 _ ?_; (repeat (first | (with_reducible exact Fr.refl _ _) | (refine Fr.setCell ?_ (.inl (.inl rfl)) _) | (refine Fr.setCell ?_ (.inl (.inr rfl)) _))); done) | go_keep)
      (first
      | (go_at_call 33; (with_reducible refine (HM.out _ ?b1).mono ?_); (case b1 => repeat (first | exact Bel.refl _ | apply Bel.drew)); rintro e V7 ⟨rfl, hL7, g2, g3, gD, hS7⟩; obtain ⟨c0, c1, c2, c3⟩ := four_cells g2; obtain ⟨f0, f1, f2, f3⟩ := four_frozen g2; have d0 := blk_cell g3 0; have k0 := blk_frozen g3 0; simp only [List.getElem?_toArray, List.getElem?_cons_zero] at d0; have hS9 : ∀ V, Fr (fun i => i = B + 1 + 1 ∨ i = B + 1 + 1 + 1) V7 V → V.cell? ⟨B, 0, none⟩ = some (.pointer (some ⟨k, 0, none⟩)) ∧ V.cell? ⟨B + 1, 0, none⟩ = some (.int .i64 n) ∧ V.cell? ⟨k, 0, none⟩ = some (.pointer (some ⟨hb, 0, none⟩)) := fun V hV => ⟨hV.cell hS7.1 (by rintro (h | h) <;> (dsimp only at h; omega)), hV.cell hS7.2.1 (by rintro (h | h) <;> (dsimp only at h; omega)), hV.cell hS7.2.2 (by rintro (h | h) <;> (dsimp only at h; omega))⟩))
    all_goals
      obtain ⟨W9, e9, j2, j3, hF9, hF9b⟩ := take_setF (Q := fun i => ¬ N i) (x1 := .int .i64 s1) (x2 := .int .i64 s2) (x3 := .int .i64 s3) (x4 := .int .i64 s4) HTW.out.size ((Fr.of_bel HTW.out.bel).trans' (hL7.2.mono (fun i hi h => hi (.inl h)))) g2 g3 (.int .i64 en)
      have hDB : ¬ (D = B + 1 + 1 ∨ D = B + 1 + 1 + 1) := fun h => by
        rcases h with h | h
        · rw [h, HTW.out.b2] at hK; simp at hK
        · rw [h, HTW.out.b3] at hK; simp at hK
      have hD9 := hF9b.heap gD hDB
      have hL9 := hL7.1.fr hF9b (fun i hi => ⟨.inr (by rcases hi with hi | hi <;> omega), by have := HH.out.bel.size; rcases hi with hi | hi <;> omega⟩)
      have hg9 := grownBy_putObj' W9 D (.deferred none)
      have hr9 : ∀ r, some D = some r → ∃ o : Obj, W9.heap[r]? = some o ∧ o.isCells = false := fun r e => by cases e; exact ⟨_, hD9, rfl⟩
      have hL10 := hL9.fr (fr_grownBy hg9) (fun i hi => by cases hi; exact ⟨.inr ⟨by omega, hDW⟩, by have := HH.out.bel.size; omega⟩)
      have hF10 : Fr (fun i => ¬ N i) w (W9.putObj D (.deferred none)) := hF9.trans (fr_grownBy hg9) (fun i hi => .inr (by cases hi; omega))
      have HE := Lib.hid (And.intro e9 (And.intro hD9 (And.intro (heap_grown hg9 hr9 j2) (And.intro (heap_grown hg9 hr9 j3) (show LivePostK w0 N w k hb bi ⟨h', st.kept, st.waits, st.held⟩ (W9.putObj D (.deferred none)) from ⟨hL10.forget (fun i hi => .inl hi), hF10⟩)))))
      clear e9 j2 j3 hF9 hF9b hD9 hL9 hg9 hr9 hL10 hF10 hL7 g2 g3 gD hS7 hS9 c0 c1 c2 c3 f0 f1 f2 f3 d0 k0
      gi_wp2
      rw [← HE.out.1]
      obtain ⟨r0, r1, r2, r3⟩ := four_cells HE.out.2.2.1
      have r4 : (W9.putObj D (.deferred none)).cell? ⟨B + 1 + 1 + 1, 0, none⟩ = some (.int .i64 en) := blk_cell HE.out.2.2.2.1 0
      refine ⟨by simp, .inl ⟨_, _, rfl, run_takeDeferred HE.out.2.1, ?_⟩⟩
      rw [HPO.out.1, HPO.out.2]
      refine ⟨.tuple #[spV (s1, (s2, s3), s4), .int .i64 en], ?_, rfl, HE.out.2.2.2.2⟩
      simp [spV, results, Tryz.results11, go_sem, r0, r1, r2, r3, r4]
theorem large_Take {w0 w : World} {N : Nat → Prop} {k hb bi : Nat} {st : KS} (H : LiveK w0 N w k hb bi st) (n : Int) (hn : I64 n) (hsm : st.h.last < 65536) :
    Calls Tryz.prog 11 #[.pointer (some ⟨k, 0, none⟩), .int .i64 n] w fun e w' => e = .returned (.tuple #[spV (st.take n).2.1, .int .i64 (st.take n).2.2]) ∧ LivePostK w0 N w k hb bi (st.take n).1 w' := by
  cases hf : fitsF n with
  | true => exact callsIn_wide.1 (large_Take_in H n hn hf hsm 9 (Nat.le_refl _))
  | false =>
    rw [take_bad hf]
    exact (large_Take_bad _ n w hn hf).mono fun e w' ⟨h1, h2⟩ => ⟨h1, LivePostK.same H h2⟩
end Go.Proofs.YtbldidlbhahciaaGreat

namespace Go.Proofs.YtbldidlbhahciaaGreat
open Go.RowKit

theorem ref_Ints (a b : Option Addr) (xs ys : List Int) (n c m d : Nat) (w : World) (hn : n = xs.length) (hm : m = ys.length) (hl : xs.length ≤ maxLen) (hl' : ys.length ≤ maxLen)
    (ha : RdV w a (xs.map (.int .i64))) (hb : RdV w b (ys.map (.int .i64))) :
    Calls Tryz.prog 14 #[.slice a n c, .slice b m d] w fun e w' => e = .returned (.bool (decide (xs = ys))) ∧ Bel w w' := by
  subst hn hm
  unfold maxLen at hl hl'
  by_cases hlen : xs.length = ys.length
  · have e1 : (((xs.length : Int)) != (ys.length : Int)) = false := by rw [bne_eq_false_iff_eq]; omega
    have hlen2 : xs.length ≤ ys.length := by omega
    have HL := Lib.hid hlen
    clear hlen
    go_enter Tryz.func14, Tryz.ntmps14
    go_wp2_with fail
    go_loopw [13] (fun k W => ∃ i : Nat, i ≤ xs.length ∧ k = .int .i64 i ∧ Bel w W ∧ Hid (xs.take i = ys.take i)) (fun k _ => xs.length - (intOf k).toNat)
    case atStart => exact ⟨0, Nat.zero_le _, rfl, Bel.refl _, Lib.hid rfl⟩
    case round =>
      obtain ⟨i, hi, rfl, hB, HT⟩ := hrel
      by_cases hlt : i < xs.length
      · obtain ⟨b1, o1, rfl, hc1⟩ := (ha.bel hB).at i hlt
        obtain ⟨b2, o2, rfl, hc2⟩ := (hb.bel hB).at i (by omega)
        have HA := Lib.hid ha
        have HB := Lib.hid hb
        clear ha hb
        have hlt2 : i < ys.length := by omega
        have i0 : (0 : Int) ≤ i := by omega
        have i1 : (i : Int) < xs.length := by omega
        have i2 : (i : Int) < ys.length := by omega
        by_cases heq : xs[i] = ys[i]
        · have H2 : Hid (xs.take (i + 1) = ys.take (i + 1)) := Lib.hid (by
            rw [List.take_succ_eq_append_getElem hlt, List.take_succ_eq_append_getElem hlt2, HT.out, heq])
          have hq : (xs[i] != ys[i]) = false := by rw [bne_eq_false_iff_eq]; exact heq
          have HE := Lib.hid heq
          clear heq
          go_wp2_with fail
          go_quiet (fail)
          go_wp2
          go_roundw
          case rel => exact ⟨i + 1, by omega, by go_num, hB.drewN _, H2⟩
          case measure => simp [intOf]; omega
        · have hq : (xs[i] != ys[i]) = true := by rw [bne_iff_ne]; exact heq
          have H2 : Hid (decide (xs = ys) = false) := Lib.hid (by
            rw [decide_eq_false_iff_not]; intro h; subst h; exact heq rfl)
          clear heq
          go_wp2_with fail
          go_quiet (fail)
          go_wp2
          go_ret
          exact ⟨ret_b H2.out, hB.drewN _⟩
      · have H2 : Hid (decide (xs = ys) = true) := Lib.hid (by
          have := HT.out
          rw [List.take_of_length_le (by omega), List.take_of_length_le (by have := HL.out; omega)] at this
          simp [this])
        go_wp2
        go_ret
        exact ⟨ret_b H2.out, hB⟩
  · have e1 : (((xs.length : Int)) != (ys.length : Int)) = true := by rw [bne_iff_ne]; omega
    have H2 : Hid (decide (xs = ys) = false) := Lib.hid (by rw [decide_eq_false_iff_not]; intro h; subst h; exact hlen rfl)
    clear hlen
    go_enter Tryz.func14, Tryz.ntmps14
    go_wp2
    go_ret
    exact ⟨ret_b H2.out, Bel.refl _⟩

theorem RdV.take {w : World} {a : Option Addr} {xs : List Int} (h : RdV w a (xs.map (.int .i64))) (i : Nat) : RdV w a ((xs.take i).map (.int .i64)) := by
  rcases h with h | ⟨b, o, e, h⟩
  · left; rw [List.map_eq_nil_iff] at h; subst h; simp
  · refine .inr ⟨b, o, e, fun j hj => ?_⟩
    have hj2 : j < xs.length := by simp at hj; omega
    rw [h j (by simpa using hj2)]
    simp
theorem mem_iff_any (xs : List Int) (n : Int) : decide (n ∈ xs) = xs.any (fun x => x == n) := by
  rw [Bool.eq_iff_iff]
  simp
theorem ref3_In (a : Option Addr) (xs : List Int) (x : Int) (n c : Nat) (w : World) (hn : n = xs.length) (hl : xs.length ≤ maxLen) (hrd : RdV w a (xs.map (.int .i64))) :
    Calls Tryz.prog 69 #[.slice a n c, .int .i64 x] w fun e w' => e = .returned (.bool (decide (x ∈ xs))) ∧ w = w' := by
  subst hn
  unfold maxLen at hl
  go_enter Tryz.func69, Tryz.ntmps69
  go_wp2
  go_loop [8] (fun k => ∃ m : Nat, m ≤ xs.length ∧ k = .int .i64 m ∧ Hid (∀ j (hj : j < m) (hj' : j < xs.length), xs[j] ≠ x)) (fun k => xs.length - (intOf k).toNat)
  case atStart => exact ⟨0, Nat.zero_le _, rfl, Lib.hid (fun j hj => by omega)⟩
  case round =>
    obtain ⟨m, hm, rfl, H0⟩ := hrel
    by_cases hlt : m < xs.length
    · obtain ⟨b, o, rfl, hc⟩ := hrd.at m hlt
      have HR := Lib.hid hrd
      clear hrd
      by_cases hx : xs[m] = x
      · have hq : (xs[m] == x) = true := by rw [beq_iff_eq]; exact hx
        have H2 : Hid (decide (x ∈ xs) = true) := Lib.hid (by rw [decide_eq_true_eq, ← hx]; exact List.getElem_mem _)
        clear hx
        go_wp2
        go_ret
        exact ⟨ret_b H2.out, rfl⟩
      · have hq : (xs[m] == x) = false := by rw [beq_eq_false_iff_ne]; exact hx
        have HX := Lib.hid hx
        clear hx
        go_wp2
        go_round
        case rel => exact ⟨m + 1, by omega, by go_num, Lib.hid (fun j hj hj' => by
          rcases Nat.lt_or_ge j m with h | h
          · exact H0.out j h hj'
          · obtain rfl : j = m := by omega
            exact HX.out)⟩
        case measure => simp [intOf]; omega
    · have H2 : Hid (decide (x ∈ xs) = false) := Lib.hid (by
        rw [decide_eq_false_iff_not]
        intro h
        obtain ⟨j, hj, e⟩ := List.getElem_of_mem h
        exact H0.out j (by omega) hj e)
      go_wp2
      go_ret
      exact ⟨ret_b H2.out, rfl⟩

end Go.Proofs.YtbldidlbhahciaaGreat
