/- Layer 10: while it is held no span goes. The twin of layer 7: Same. Layer 10: what the law's loop keeps. Layer 10: acts that came in. Layer 10: the law's own act. -/
import Derived.Test.YtbldidlbhahciaaGreatGLargeHolds15
import Derived.Test.YtbldidlbhahciaaGreatGLargeHolds16
import Derived.Test.YtbldidlbhahciaaGreatGLargeHolds9
import Derived.Test.YtbldidlbhahciaaGreatGLargeHolds7
import Derived.Test.YtbldidlbhahciaaGreatGLargeHolds14
import Derived.Deep.RegionHeld3
set_option linter.unusedVariables false
set_option linter.unusedSimpArgs false
namespace Go.Proofs.YtbldidlbhahciaaGreat
open Go.RowKit

theorem ref10_Hold {w : World} {st : KS} {p : KP} (R : RefK w st p) (I : KInv st) (on : Bool) (hl : st.h.last ≤ 4096) :
    Calls Tryz.prog 45 #[kV st p, .bool on] w fun e w' => ∃ p', e = .returned (.tuple #[kV (st.hold on) p', .bool st.held]) ∧ KPost w st p (st.hold on) p' w' := by
  cases on
  · exact ref10_Hold_off R I hl
  · exact ref10_Hold_on R
set_option maxHeartbeats 8000000 in
set_option maxRecDepth 20000 in
theorem does10_take {w0 w : World} {N : Nat → Prop} {k hb bi : Nat} {st : KS} {p : KP} (H : LiveK w0 N w k hb bi st) (R : RefK w st p) (hi : InN N p st) (n order : Int) (on : Bool) (ia : Option Addr) (il ic : Nat) (hn : I64 n) (hl : st.h.last ≤ 4000) :
    Calls Tryz.prog 16 #[.pointer (some ⟨hb, 0, none⟩), .pointer (some ⟨k, 0, none⟩), kV st p, .agg #[.int .i64 0, .int .i64 n, .int .i64 order, .bool on, .slice ia il ic]] w fun e w' => ∃ p', e = .returned (.tuple #[.bool true, kV (st.take n).1 p']) ∧ DoesPost w0 N w k hb bi st p (st.take n).1 p' w' := by
  obtain ⟨g, fc, a, c, ka, kc, wa, wn⟩ := p
  have I := H.inv
  have b0 := (((Bel.refl w).alloc (.cells (kCells st ⟨g, fc, a, c, ka, kc, wa, wn⟩) 46)).alloc (.cells #[.int .i64 0, .int .i64 n, .int .i64 order, .bool on, .slice ia il ic] 50)).alloc (.cells k0Cells 46)
  have g0 := blk_alloc_old (.cells k0Cells 46) (blk_alloc_old (.cells #[.int .i64 0, .int .i64 n, .int .i64 order, .bool on, .slice ia il ic] 50) (blk_alloc w (.cells (kCells st ⟨g, fc, a, c, ka, kc, wa, wn⟩) 46)))
  have g1 := blk_alloc_old (.cells k0Cells 46) (blk_alloc (w.alloc (.cells (kCells st ⟨g, fc, a, c, ka, kc, wa, wn⟩) 46)) (.cells #[.int .i64 0, .int .i64 n, .int .i64 order, .bool on, .slice ia il ic] 50))
  have g2 := blk_alloc ((w.alloc (.cells (kCells st ⟨g, fc, a, c, ka, kc, wa, wn⟩) 46)).alloc (.cells #[.int .i64 0, .int .i64 n, .int .i64 order, .bool on, .slice ia il ic] 50)) (.cells k0Cells 46)
  simp only [World.size_alloc] at g0 g1 g2
  have HTK : Hid (∀ W, Bel w W → Calls Tryz.prog 43 #[kV st ⟨g, fc, a, c, ka, kc, wa, wn⟩, .int .i64 n] W fun e V => ∃ p', e = .returned (.tuple #[kV (st.take n).1 p', spV (st.take n).2.1, .int .i64 (st.take n).2.2]) ∧ KPost W st ⟨g, fc, a, c, ka, kc, wa, wn⟩ (st.take n).1 p' V) := Lib.hid (fun W h => ref10_Take (R.bel h) I n hn (by omega))
  have HPK : Hid (∀ M V, LiveK w0 M V k hb bi st → Calls Tryz.prog 11 #[.pointer (some ⟨k, 0, none⟩), .int .i64 n] V fun e V' => e = .returned (.tuple #[spV (st.take n).2.1, .int .i64 (st.take n).2.2]) ∧ LivePostK w0 M V k hb bi (st.take n).1 V') := Lib.hid (fun M V hL => large_Take hL n hn (by omega))
  obtain ⟨r, hr⟩ : ∃ r, st.take n = r := ⟨_, rfl⟩
  rw [hr] at HTK HPK ⊢
  obtain ⟨st', ⟨s1, ⟨s2, s3⟩, s4⟩, en⟩ := r
  clear hr
  simp only [kV, kCells, k0Cells] at g0 g1 g2 b0 ⊢
  have HH := Lib.hid H
  have HR := Lib.hid R
  have HI := Lib.hid hi
  clear H R hi
  go_enter Tryz.func16, Tryz.ntmps16
  go_upto_region 1 with fail
  generalize ((w.alloc (.cells #[.int .i64 (st.h.P : Int), .slice (some ⟨g, 0, none⟩) 1024 fc, .slice a st.h.S.length c, .int .i64 (st.h.last : Int), .slice ka st.kept.length kc, .slice wa st.waits.length wn, .bool st.held] 46)).alloc (.cells #[.int .i64 0, .int .i64 n, .int .i64 order, .bool on, .slice ia il ic] 50)).alloc (.cells #[.int .i64 0, .slice none 0 0, .slice none 0 0, .int .i64 0, .slice none 0 0, .slice none 0 0, .bool false] 46) = W0 at b0 g0 g1 g2 ⊢
  obtain ⟨B, hB⟩ : ∃ B, w.heap.size = B := ⟨_, rfl⟩
  rw [hB] at g0 g1 g2 ⊢
  have HT : Hid (Calls Tryz.prog 43 #[.agg #[.int .i64 (st.h.P : Int), .slice (some ⟨g, 0, none⟩) 1024 fc, .slice a st.h.S.length c, .int .i64 (st.h.last : Int), .slice ka st.kept.length kc, .slice wa st.waits.length wn, .bool st.held], .int .i64 n] W0 fun e V => ∃ p' : KP, e = .returned (.tuple #[.agg #[.int .i64 (st'.h.P : Int), .slice (some ⟨p'.g, 0, none⟩) 1024 p'.fc, .slice p'.a st'.h.S.length p'.c, .int .i64 (st'.h.last : Int), .slice p'.ka st'.kept.length p'.kc, .slice p'.wa st'.waits.length p'.wc, .bool st'.held], .agg #[.int .i64 s1, .int .i64 s2, .int .i64 s3, .int .i64 s4], .int .i64 en]) ∧ KPost W0 st ⟨g, fc, a, c, ka, kc, wa, wn⟩ st' p' V) := Lib.hid (HTK.out _ b0)
  have HPR : Hid (∀ W1 V p', KPost W0 st ⟨g, fc, a, c, ka, kc, wa, wn⟩ st' p' W1 → Bel W1 V → Calls Tryz.prog 11 #[.pointer (some ⟨k, 0, none⟩), .int .i64 n] V fun e V' => e = .returned (.tuple #[.agg #[.int .i64 s1, .int .i64 s2, .int .i64 s3, .int .i64 s4], .int .i64 en]) ∧ LivePostK w0 (wN N w.heap.size V.heap.size p'.g) V k hb bi st' V') := Lib.hid (fun W1 V p' hP hV => HPK.out _ _ (both_live HH.out b0 hP hV))
  have HB := Lib.hid (And.intro b0 (And.intro g0 (And.intro g1 g2)))
  obtain ⟨q0, q1, q2, q3, q4, q5, q6⟩ := seven_cells g0
  have z0 : W0.cell? ⟨B + 1, 0, none⟩ = some (.int .i64 0) := blk_cell g1 0
  have z1 : W0.cell? ⟨B + 1, 1, none⟩ = some (.int .i64 n) := blk_cell g1 1
  clear b0 g0 g1 g2 I HTK HPK
  go_wp2_with fail
  refine HT.out.mono ?_
  clear HT
  rintro e W1 ⟨⟨g', fc', a', c', ka', kc', wa', wn'⟩, rfl, hP⟩
  have HP := Lib.hid hP
  have k1 := hP.bel.blk HB.out.2.2.1
  have k2 := hP.bel.blk HB.out.2.2.2
  have m1 := heap_lt k1
  have m0 : B < W1.heap.size := by omega
  have u1 : W1.cell? ⟨B + 1, 1, none⟩ = some (.int .i64 n) := blk_cell k1 1
  clear hP q0 q1 q2 q3 q4 q5 q6 z0 z1
  go_wp2_with fail
  have a0 := blk_alloc_old (.cells #[.int .i64 s1, .int .i64 s2, .int .i64 s3, .int .i64 s4] 33) (blk_alloc_old (.cells #[.int .i64 (st'.h.P : Int), .slice (some ⟨g', 0, none⟩) 1024 fc', .slice a' st'.h.S.length c', .int .i64 (st'.h.last : Int), .slice ka' st'.kept.length kc', .slice wa' st'.waits.length wn', .bool st'.held] 46) k2)
  have a1 := blk_alloc_old (.cells #[.int .i64 s1, .int .i64 s2, .int .i64 s3, .int .i64 s4] 33) (blk_alloc W1 (.cells #[.int .i64 (st'.h.P : Int), .slice (some ⟨g', 0, none⟩) 1024 fc', .slice a' st'.h.S.length c', .int .i64 (st'.h.last : Int), .slice ka' st'.kept.length kc', .slice wa' st'.waits.length wn', .bool st'.held] 46))
  have a2 := blk_alloc (W1.alloc (.cells #[.int .i64 (st'.h.P : Int), .slice (some ⟨g', 0, none⟩) 1024 fc', .slice a' st'.h.S.length c', .int .i64 (st'.h.last : Int), .slice ka' st'.kept.length kc', .slice wa' st'.waits.length wn', .bool st'.held] 46)) (.cells #[.int .i64 s1, .int .i64 s2, .int .i64 s3, .int .i64 s4] 33)
  have hV := ((Bel.refl W1).alloc (.cells #[.int .i64 (st'.h.P : Int), .slice (some ⟨g', 0, none⟩) 1024 fc', .slice a' st'.h.S.length c', .int .i64 (st'.h.last : Int), .slice ka' st'.kept.length kc', .slice wa' st'.waits.length wn', .bool st'.held] 46)).alloc (.cells #[.int .i64 s1, .int .i64 s2, .int .i64 s3, .int .i64 s4] 33)
  rw [World.size_alloc] at a2
  clear k1 k2 u1 m1 m0
  obtain ⟨D, hD⟩ : ∃ D, W1.heap.size = D := ⟨_, rfl⟩
  rw [hD] at a1 a2 ⊢
  have hDB : B + 3 ≤ D := by have h1 := heap_lt HB.out.2.2.2; have h2 := HP.out.bel.size; omega
  generalize (W1.alloc (.cells #[.int .i64 (st'.h.P : Int), .slice (some ⟨g', 0, none⟩) 1024 fc', .slice a' st'.h.S.length c', .int .i64 (st'.h.last : Int), .slice ka' st'.kept.length kc', .slice wa' st'.waits.length wn', .bool st'.held] 46)).alloc (.cells #[.int .i64 s1, .int .i64 s2, .int .i64 s3, .int .i64 s4] 33) = V at a0 a1 a2 hV ⊢
  refine (HPR.out _ _ _ HP.out hV).mono ?_
  clear HPR
  rintro e V' ⟨rfl, hL⟩
  have hVs := heap_lt a2
  have keep : ∀ {j : Nat} {o : Obj}, V.heap[j]? = some o → B ≤ j → V'.heap[j]? = some o := fun h h2 => hL.2.heap h (fun h9 => h9 (.inr (.inl ⟨by omega, heap_lt h⟩)))
  have i0 := keep a0 (by omega)
  have i1 := keep a1 (by omega)
  have i2 := keep a2 (by omega)
  have HL := Lib.hid (And.intro hV (And.intro hL i0))
  clear keep a0 a1 a2 hV hL hD
  have e0 := blk_alloc_old (.cells #[.int .i64 s1, .int .i64 s2, .int .i64 s3, .int .i64 s4] 33) i0
  have e1 := blk_alloc_old (.cells #[.int .i64 s1, .int .i64 s2, .int .i64 s3, .int .i64 s4] 33) i1
  have e2 := blk_alloc_old (.cells #[.int .i64 s1, .int .i64 s2, .int .i64 s3, .int .i64 s4] 33) i2
  have e3 := blk_alloc V' (.cells #[.int .i64 s1, .int .i64 s2, .int .i64 s3, .int .i64 s4] 33)
  have hX := (Bel.refl V').alloc (.cells #[.int .i64 s1, .int .i64 s2, .int .i64 s3, .int .i64 s4] 33)
  clear i0 i1 i2
  go_upto_region 5 with fail
  generalize V'.alloc (.cells #[.int .i64 s1, .int .i64 s2, .int .i64 s3, .int .i64 s4] 33) = V2 at e0 e1 e2 e3 hX ⊢
  have HFIN : Hid (∀ y0 y1 y2 y3 y4 y5 y6 W9, W9 = (((((((V2.setCell ⟨B + 1 + 1, 0, none⟩ y0).setCell ⟨B + 1 + 1, 1, none⟩ y1).setCell ⟨B + 1 + 1, 2, none⟩ y2).setCell ⟨B + 1 + 1, 3, none⟩ y3).setCell ⟨B + 1 + 1, 4, none⟩ y4).setCell ⟨B + 1 + 1, 5, none⟩ y5).setCell ⟨B + 1 + 1, 6, none⟩ y6).drew → DoesPost w0 N w k hb bi st ⟨g, fc, a, c, ka, kc, wa, wn⟩ st' ⟨g', fc', a', c', ka', kc', wa', wn'⟩ W9) := Lib.hid (fun y0 y1 y2 y3 y4 y5 y6 W9 e9 => by
    have hF := ((Fr.of_bel hX).trans' (fr_seven V2 (B + 1 + 1) y0 y1 y2 y3 y4 y5 y6)).drew
    rw [← e9] at hF
    exact does_fin HH.out HR.out HI.out HB.out.1 HP.out HL.out.1 HL.out.2.1 hF (fun i hi => by subst hi; exact ⟨by omega, heap_lt HB.out.2.2.2, _, _, HL.out.2.2, by decide⟩))
  obtain ⟨y0, y1, y2, y3, y4, y5, y6⟩ := seven_cells e0
  obtain ⟨f0, f1, f2, f3, f4, f5, f6⟩ := seven_frozen e0
  obtain ⟨q0, q1, q2, q3, q4, q5, q6⟩ := seven_cells e1
  obtain ⟨s0', s1', s2', s3'⟩ := four_cells e2
  obtain ⟨x0', x1', x2', x3'⟩ := four_cells e3
  have l0 := heap_lt e0
  clear hX e0 e1 e2 e3
  go_region
  go_wp2
  refine bodyPost_ret (v := .tuple #[.bool true, kV st' ⟨g', fc', a', c', ka', kc', wa', wn'⟩]) (by simp [kV, kCells, results, Tryz.results16, go_sem, y0, y1, y2, y3, y4, y5, y6, l0]) rfl ?_
  exact ⟨⟨g', fc', a', c', ka', kc', wa', wn'⟩, rfl, HFIN.out _ _ _ _ _ _ _ _ rfl⟩
set_option maxHeartbeats 8000000 in
set_option maxRecDepth 20000 in
theorem does10_give {w0 w : World} {N : Nat → Prop} {k hb bi : Nat} {st : KS} {p : KP} (H : LiveK w0 N w k hb bi st) (R : RefK w st p) (hi : InN N p st) (n order : Int) (on : Bool) (ia : Option Addr) (ids : List Int) (ic : Nat) (hll : ids.length ≤ 1024) (hcap : ids.length ≤ ic) (hrd : RdV w ia (ints ids)) (hwf : ∀ x ∈ ids, (Lit.int .i64 x).wf = true) (hl : st.h.last ≤ 4000) :
    Calls Tryz.prog 16 #[.pointer (some ⟨hb, 0, none⟩), .pointer (some ⟨k, 0, none⟩), kV st p, .agg #[.int .i64 1, .int .i64 n, .int .i64 order, .bool on, .slice ia ids.length ic]] w fun e w' => ∃ p', e = .returned (.tuple #[.bool true, kV (st.give ids).1 p']) ∧ DoesPost w0 N w k hb bi st p (st.give ids).1 p' w' := by
  obtain ⟨g, fc, a, c, ka, kc, wa, wn⟩ := p
  have I := H.inv
  have b0 := (((Bel.refl w).alloc (.cells (kCells st ⟨g, fc, a, c, ka, kc, wa, wn⟩) 46)).alloc (.cells #[.int .i64 1, .int .i64 n, .int .i64 order, .bool on, .slice ia ids.length ic] 50)).alloc (.cells k0Cells 46)
  have g0 := blk_alloc_old (.cells k0Cells 46) (blk_alloc_old (.cells #[.int .i64 1, .int .i64 n, .int .i64 order, .bool on, .slice ia ids.length ic] 50) (blk_alloc w (.cells (kCells st ⟨g, fc, a, c, ka, kc, wa, wn⟩) 46)))
  have g1 := blk_alloc_old (.cells k0Cells 46) (blk_alloc (w.alloc (.cells (kCells st ⟨g, fc, a, c, ka, kc, wa, wn⟩) 46)) (.cells #[.int .i64 1, .int .i64 n, .int .i64 order, .bool on, .slice ia ids.length ic] 50))
  have g2 := blk_alloc ((w.alloc (.cells (kCells st ⟨g, fc, a, c, ka, kc, wa, wn⟩) 46)).alloc (.cells #[.int .i64 1, .int .i64 n, .int .i64 order, .bool on, .slice ia ids.length ic] 50)) (.cells k0Cells 46)
  simp only [World.size_alloc] at g0 g1 g2
  have HTK : Hid (∀ W, Bel w W → Calls Tryz.prog 44 #[kV st ⟨g, fc, a, c, ka, kc, wa, wn⟩, .slice ia ids.length ic] W fun e V => ∃ p', e = .returned (.tuple #[kV (st.give ids).1 p', .int .i64 (st.give ids).2]) ∧ KPost W st ⟨g, fc, a, c, ka, kc, wa, wn⟩ (st.give ids).1 p' V) := Lib.hid (fun W h => ref10_Give (R.bel h) I ia ids ic hll hcap (hrd.bel h) hwf (by omega))
  have HPK : Hid (∀ M V, Bel w V → LiveK w0 M V k hb bi st → Calls Tryz.prog 12 #[.pointer (some ⟨k, 0, none⟩), .slice ia ids.length ic] V fun e V' => e = .returned (.int .i64 (st.give ids).2) ∧ LivePostK w0 M V k hb bi (st.give ids).1 V') := Lib.hid (fun M V hwV hL => large_Give hL ia ids ic hll (hrd.bel hwV) hwf (by omega))
  obtain ⟨st', hr⟩ : ∃ r, (st.give ids).1 = r := ⟨_, rfl⟩
  rw [hr] at HTK HPK ⊢
  clear hr
  obtain ⟨en, hen⟩ : ∃ r, (st.give ids).2 = r := ⟨_, rfl⟩
  rw [hen] at HTK HPK
  clear hen hrd hwf
  have hil : ids.length ≤ 9223372036854775807 := by omega
  simp only [kV, kCells, k0Cells] at g0 g1 g2 b0 ⊢
  have HH := Lib.hid H
  have HR := Lib.hid R
  have HI := Lib.hid hi
  clear H R hi
  go_enter Tryz.func16, Tryz.ntmps16
  go_upto_region 1 with fail
  generalize ((w.alloc (.cells #[.int .i64 (st.h.P : Int), .slice (some ⟨g, 0, none⟩) 1024 fc, .slice a st.h.S.length c, .int .i64 (st.h.last : Int), .slice ka st.kept.length kc, .slice wa st.waits.length wn, .bool st.held] 46)).alloc (.cells #[.int .i64 1, .int .i64 n, .int .i64 order, .bool on, .slice ia ids.length ic] 50)).alloc (.cells #[.int .i64 0, .slice none 0 0, .slice none 0 0, .int .i64 0, .slice none 0 0, .slice none 0 0, .bool false] 46) = W0 at b0 g0 g1 g2 ⊢
  obtain ⟨B, hB⟩ : ∃ B, w.heap.size = B := ⟨_, rfl⟩
  rw [hB] at g0 g1 g2 ⊢
  have HT : Hid (Calls Tryz.prog 44 #[.agg #[.int .i64 (st.h.P : Int), .slice (some ⟨g, 0, none⟩) 1024 fc, .slice a st.h.S.length c, .int .i64 (st.h.last : Int), .slice ka st.kept.length kc, .slice wa st.waits.length wn, .bool st.held], .slice ia ids.length ic] W0 fun e V => ∃ p' : KP, e = .returned (.tuple #[.agg #[.int .i64 (st'.h.P : Int), .slice (some ⟨p'.g, 0, none⟩) 1024 p'.fc, .slice p'.a st'.h.S.length p'.c, .int .i64 (st'.h.last : Int), .slice p'.ka st'.kept.length p'.kc, .slice p'.wa st'.waits.length p'.wc, .bool st'.held], (.int .i64 en)]) ∧ KPost W0 st ⟨g, fc, a, c, ka, kc, wa, wn⟩ st' p' V) := Lib.hid (HTK.out _ b0)
  have HPR : Hid (∀ W1 V p', KPost W0 st ⟨g, fc, a, c, ka, kc, wa, wn⟩ st' p' W1 → Bel W1 V → Calls Tryz.prog 12 #[.pointer (some ⟨k, 0, none⟩), .slice ia ids.length ic] V fun e V' => e = .returned (.int .i64 en) ∧ LivePostK w0 (wN N w.heap.size V.heap.size p'.g) V k hb bi st' V') := Lib.hid (fun W1 V p' hP hV => HPK.out _ _ (b0.trans (hP.bel.trans hV)) (both_live HH.out b0 hP hV))
  have HB := Lib.hid (And.intro b0 (And.intro g0 (And.intro g1 g2)))
  obtain ⟨q0, q1, q2, q3, q4, q5, q6⟩ := seven_cells g0
  have z0 : W0.cell? ⟨B + 1, 0, none⟩ = some (.int .i64 1) := blk_cell g1 0
  have z1 : W0.cell? ⟨B + 1, 1, none⟩ = some (.int .i64 n) := blk_cell g1 1
  have z2 : W0.cell? ⟨B + 1, 2, none⟩ = some (.int .i64 order) := blk_cell g1 2
  have z3 : W0.cell? ⟨B + 1, 3, none⟩ = some (.bool on) := blk_cell g1 3
  have z4 : W0.cell? ⟨B + 1, 4, none⟩ = some (.slice ia ids.length ic) := blk_cell g1 4
  clear b0 g0 g1 g2 I HTK HPK
  go_wp2_with fail
  refine HT.out.mono ?_
  clear HT
  rintro e W1 ⟨⟨g', fc', a', c', ka', kc', wa', wn'⟩, rfl, hP⟩
  have HP := Lib.hid hP
  have k1 := hP.bel.blk HB.out.2.2.1
  have k2 := hP.bel.blk HB.out.2.2.2
  clear hP q0 q1 q2 q3 q4 q5 q6 z0 z1 z2 z3 z4
  go_wp2_with fail
  have a0 := blk_alloc_old (.cells #[.int .i64 (st'.h.P : Int), .slice (some ⟨g', 0, none⟩) 1024 fc', .slice a' st'.h.S.length c', .int .i64 (st'.h.last : Int), .slice ka' st'.kept.length kc', .slice wa' st'.waits.length wn', .bool st'.held] 46) k2
  have a3 := blk_alloc_old (.cells #[.int .i64 (st'.h.P : Int), .slice (some ⟨g', 0, none⟩) 1024 fc', .slice a' st'.h.S.length c', .int .i64 (st'.h.last : Int), .slice ka' st'.kept.length kc', .slice wa' st'.waits.length wn', .bool st'.held] 46) k1
  have a1 := blk_alloc W1 (.cells #[.int .i64 (st'.h.P : Int), .slice (some ⟨g', 0, none⟩) 1024 fc', .slice a' st'.h.S.length c', .int .i64 (st'.h.last : Int), .slice ka' st'.kept.length kc', .slice wa' st'.waits.length wn', .bool st'.held] 46)
  have hV := (Bel.refl W1).alloc (.cells #[.int .i64 (st'.h.P : Int), .slice (some ⟨g', 0, none⟩) 1024 fc', .slice a' st'.h.S.length c', .int .i64 (st'.h.last : Int), .slice ka' st'.kept.length kc', .slice wa' st'.waits.length wn', .bool st'.held] 46)
  clear k1 k2
  obtain ⟨D, hD⟩ : ∃ D, W1.heap.size = D := ⟨_, rfl⟩
  rw [hD] at a1 ⊢
  have hDB : B + 3 ≤ D := by have h1 := heap_lt HB.out.2.2.2; have h2 := HP.out.bel.size; omega
  generalize W1.alloc (.cells #[.int .i64 (st'.h.P : Int), .slice (some ⟨g', 0, none⟩) 1024 fc', .slice a' st'.h.S.length c', .int .i64 (st'.h.last : Int), .slice ka' st'.kept.length kc', .slice wa' st'.waits.length wn', .bool st'.held] 46) = V at a0 a1 a3 hV ⊢
  have hVs := heap_lt a1
  have n1 : D ≠ B + 1 + 1 := by omega
  have n2 : B + 1 + 1 ≠ D := by omega
  have HS : Hid (∀ U, U.heap[D]? = some (.cells #[.int .i64 (st'.h.P : Int), .slice (some ⟨g', 0, none⟩) 1024 fc', .slice a' st'.h.S.length c', .int .i64 (st'.h.last : Int), .slice ka' st'.kept.length kc', .slice wa' st'.waits.length wn', .bool st'.held] 46 (0, 0)) → U.heap[B + 1]? = some (.cells #[.int .i64 1, .int .i64 n, .int .i64 order, .bool on, .slice ia ids.length ic] 50 (0, 0)) → (fun V : World => V.cell? ⟨B + 1, 4, none⟩ = some (.slice ia ids.length ic) ∧ V.cell? ⟨D, 0, none⟩ = some (.int .i64 (st'.h.P : Int)) ∧ V.cell? ⟨D, 1, none⟩ = some (.slice (some ⟨g', 0, none⟩) 1024 fc') ∧ V.cell? ⟨D, 2, none⟩ = some (.slice a' st'.h.S.length c') ∧ V.cell? ⟨D, 3, none⟩ = some (.int .i64 (st'.h.last : Int)) ∧ V.cell? ⟨D, 4, none⟩ = some (.slice ka' st'.kept.length kc') ∧ V.cell? ⟨D, 5, none⟩ = some (.slice wa' st'.waits.length wn') ∧ V.cell? ⟨D, 6, none⟩ = some (.bool st'.held)) U) := Lib.hid (fun U h1 h3 => ⟨blk_cell h3 4, blk_cell h1 0, blk_cell h1 1, blk_cell h1 2, blk_cell h1 3, blk_cell h1 4, blk_cell h1 5, blk_cell h1 6⟩)
  have HPV : Hid (∀ U, Bel V U → Calls Tryz.prog 12 #[.pointer (some ⟨k, 0, none⟩), .slice ia ids.length ic] U fun e V' => e = .returned (.int .i64 en) ∧ Bel V U ∧ LivePostK w0 (wN N w.heap.size U.heap.size g') U k hb bi st' V' ∧ V'.heap[B + 1 + 1]? = some (.cells #[.int .i64 0, .slice none 0 0, .slice none 0 0, .int .i64 0, .slice none 0 0, .slice none 0 0, .bool false] 46 (0, 0)) ∧ (fun V : World => V.cell? ⟨B + 1, 4, none⟩ = some (.slice ia ids.length ic) ∧ V.cell? ⟨D, 0, none⟩ = some (.int .i64 (st'.h.P : Int)) ∧ V.cell? ⟨D, 1, none⟩ = some (.slice (some ⟨g', 0, none⟩) 1024 fc') ∧ V.cell? ⟨D, 2, none⟩ = some (.slice a' st'.h.S.length c') ∧ V.cell? ⟨D, 3, none⟩ = some (.int .i64 (st'.h.last : Int)) ∧ V.cell? ⟨D, 4, none⟩ = some (.slice ka' st'.kept.length kc') ∧ V.cell? ⟨D, 5, none⟩ = some (.slice wa' st'.waits.length wn') ∧ V.cell? ⟨D, 6, none⟩ = some (.bool st'.held)) V') := Lib.hid (fun U hU => (HPR.out _ _ _ HP.out (hV.trans hU)).mono fun e V' ⟨h1, hL⟩ => by
    have hs := hU.size
    have keep : ∀ {j : Nat} {o : Obj}, V.heap[j]? = some o → B ≤ j → V'.heap[j]? = some o := fun h h2 => hL.2.heap (hU.blk h) (fun h9 => h9 (.inr (.inl ⟨by omega, by have := heap_lt h; omega⟩)))
    exact ⟨h1, hU, hL, keep a0 (by omega), HS.out V' (keep a1 (by omega)) (keep a3 (by omega))⟩)
  have hS0 := HS.out V a1 a3
  have HA := Lib.hid (And.intro a0 (And.intro a1 a3))
  have HV := Lib.hid hV
  clear a0 a1 a3 hV HPR HS hD
  go_region_held3 (fun V : World => V.cell? ⟨B + 1, 4, none⟩ = some (.slice ia ids.length ic) ∧ V.cell? ⟨D, 0, none⟩ = some (.int .i64 (st'.h.P : Int)) ∧ V.cell? ⟨D, 1, none⟩ = some (.slice (some ⟨g', 0, none⟩) 1024 fc') ∧ V.cell? ⟨D, 2, none⟩ = some (.slice a' st'.h.S.length c') ∧ V.cell? ⟨D, 3, none⟩ = some (.int .i64 (st'.h.last : Int)) ∧ V.cell? ⟨D, 4, none⟩ = some (.slice ka' st'.kept.length kc') ∧ V.cell? ⟨D, 5, none⟩ = some (.slice wa' st'.waits.length wn') ∧ V.cell? ⟨D, 6, none⟩ = some (.bool st'.held))
    (first | (with_reducible exact hS7) | (with_reducible exact hS0) | go_keep)
    (first | (go_at_call 12; (with_reducible refine (HPV.out _ ?b1).mono ?_); (case b1 => repeat (first | exact Bel.refl _ | apply Bel.drew | apply Bel.alloc)); rintro e V2 ⟨rfl, hU, hL, e0, hS7⟩; obtain ⟨y0, y1, y2, y3, y4, y5, y6⟩ := seven_cells e0; obtain ⟨f0, f1, f2, f3, f4, f5, f6⟩ := seven_frozen e0; have l0 := heap_lt e0))
  have HL := Lib.hid (And.intro (HV.out.trans hU) (And.intro hL e0))
  have hX := Bel.refl V2
  have HFIN : Hid (∀ y0 y1 y2 y3 y4 y5 y6 W9, W9 = (((((((V2.setCell ⟨B + 1 + 1, 0, none⟩ y0).setCell ⟨B + 1 + 1, 1, none⟩ y1).setCell ⟨B + 1 + 1, 2, none⟩ y2).setCell ⟨B + 1 + 1, 3, none⟩ y3).setCell ⟨B + 1 + 1, 4, none⟩ y4).setCell ⟨B + 1 + 1, 5, none⟩ y5).setCell ⟨B + 1 + 1, 6, none⟩ y6) → DoesPost w0 N w k hb bi st ⟨g, fc, a, c, ka, kc, wa, wn⟩ st' ⟨g', fc', a', c', ka', kc', wa', wn'⟩ W9) := Lib.hid (fun y0 y1 y2 y3 y4 y5 y6 W9 e9 => by
    have hF := ((Fr.of_bel hX).trans' (fr_seven V2 (B + 1 + 1) y0 y1 y2 y3 y4 y5 y6))
    rw [← e9] at hF
    exact does_fin HH.out HR.out HI.out HB.out.1 HP.out HL.out.1 HL.out.2.1 hF (fun i hi => by subst hi; exact ⟨by omega, heap_lt HB.out.2.2.2, _, _, HL.out.2.2, by decide⟩))
  clear hL e0 hX hU
  go_wp2
  refine bodyPost_ret (v := .tuple #[.bool true, kV st' ⟨g', fc', a', c', ka', kc', wa', wn'⟩]) (by simp [kV, kCells, results, Tryz.results16, go_sem, y0, y1, y2, y3, y4, y5, y6, l0]) rfl ?_
  exact ⟨⟨g', fc', a', c', ka', kc', wa', wn'⟩, rfl, HFIN.out _ _ _ _ _ _ _ _ rfl⟩
set_option maxHeartbeats 8000000 in
set_option maxRecDepth 20000 in
theorem does10_hold {w0 w : World} {N : Nat → Prop} {k hb bi : Nat} {st : KS} {p : KP} (H : LiveK w0 N w k hb bi st) (R : RefK w st p) (hi : InN N p st) (n order : Int) (on : Bool) (ia : Option Addr) (il ic : Nat) (hl : st.h.last ≤ 4000) :
    Calls Tryz.prog 16 #[.pointer (some ⟨hb, 0, none⟩), .pointer (some ⟨k, 0, none⟩), kV st p, .agg #[.int .i64 2, .int .i64 n, .int .i64 order, .bool on, .slice ia il ic]] w fun e w' => ∃ p', e = .returned (.tuple #[.bool true, kV (st.hold on) p']) ∧ DoesPost w0 N w k hb bi st p (st.hold on) p' w' := by
  obtain ⟨g, fc, a, c, ka, kc, wa, wn⟩ := p
  have I := H.inv
  have b0 := (((Bel.refl w).alloc (.cells (kCells st ⟨g, fc, a, c, ka, kc, wa, wn⟩) 46)).alloc (.cells #[.int .i64 2, .int .i64 n, .int .i64 order, .bool on, .slice ia il ic] 50)).alloc (.cells k0Cells 46)
  have g0 := blk_alloc_old (.cells k0Cells 46) (blk_alloc_old (.cells #[.int .i64 2, .int .i64 n, .int .i64 order, .bool on, .slice ia il ic] 50) (blk_alloc w (.cells (kCells st ⟨g, fc, a, c, ka, kc, wa, wn⟩) 46)))
  have g1 := blk_alloc_old (.cells k0Cells 46) (blk_alloc (w.alloc (.cells (kCells st ⟨g, fc, a, c, ka, kc, wa, wn⟩) 46)) (.cells #[.int .i64 2, .int .i64 n, .int .i64 order, .bool on, .slice ia il ic] 50))
  have g2 := blk_alloc ((w.alloc (.cells (kCells st ⟨g, fc, a, c, ka, kc, wa, wn⟩) 46)).alloc (.cells #[.int .i64 2, .int .i64 n, .int .i64 order, .bool on, .slice ia il ic] 50)) (.cells k0Cells 46)
  simp only [World.size_alloc] at g0 g1 g2
  have HTK : Hid (∀ W, Bel w W → Calls Tryz.prog 45 #[kV st ⟨g, fc, a, c, ka, kc, wa, wn⟩, .bool on] W fun e V => ∃ p', e = .returned (.tuple #[kV (st.hold on) p', .bool st.held]) ∧ KPost W st ⟨g, fc, a, c, ka, kc, wa, wn⟩ (st.hold on) p' V) := Lib.hid (fun W h => ref10_Hold (R.bel h) I on (by omega))
  have HPK : Hid (∀ M V, Bel w V → LiveK w0 M V k hb bi st → Calls Tryz.prog 24 #[.pointer (some ⟨k, 0, none⟩), .bool on] V fun e V' => e = .returned (.bool st.held) ∧ LivePostK w0 M V k hb bi (st.hold on) V') := Lib.hid (fun M V hwV hL => large_Hold hL on (by omega))
  obtain ⟨st', hr⟩ : ∃ r, (st.hold on) = r := ⟨_, rfl⟩
  rw [hr] at HTK HPK ⊢
  clear hr
  simp only [kV, kCells, k0Cells] at g0 g1 g2 b0 ⊢
  have HH := Lib.hid H
  have HR := Lib.hid R
  have HI := Lib.hid hi
  clear H R hi
  go_enter Tryz.func16, Tryz.ntmps16
  go_upto_region 1 with fail
  generalize ((w.alloc (.cells #[.int .i64 (st.h.P : Int), .slice (some ⟨g, 0, none⟩) 1024 fc, .slice a st.h.S.length c, .int .i64 (st.h.last : Int), .slice ka st.kept.length kc, .slice wa st.waits.length wn, .bool st.held] 46)).alloc (.cells #[.int .i64 2, .int .i64 n, .int .i64 order, .bool on, .slice ia il ic] 50)).alloc (.cells #[.int .i64 0, .slice none 0 0, .slice none 0 0, .int .i64 0, .slice none 0 0, .slice none 0 0, .bool false] 46) = W0 at b0 g0 g1 g2 ⊢
  obtain ⟨B, hB⟩ : ∃ B, w.heap.size = B := ⟨_, rfl⟩
  rw [hB] at g0 g1 g2 ⊢
  have HT : Hid (Calls Tryz.prog 45 #[.agg #[.int .i64 (st.h.P : Int), .slice (some ⟨g, 0, none⟩) 1024 fc, .slice a st.h.S.length c, .int .i64 (st.h.last : Int), .slice ka st.kept.length kc, .slice wa st.waits.length wn, .bool st.held], .bool on] W0 fun e V => ∃ p' : KP, e = .returned (.tuple #[.agg #[.int .i64 (st'.h.P : Int), .slice (some ⟨p'.g, 0, none⟩) 1024 p'.fc, .slice p'.a st'.h.S.length p'.c, .int .i64 (st'.h.last : Int), .slice p'.ka st'.kept.length p'.kc, .slice p'.wa st'.waits.length p'.wc, .bool st'.held], (.bool st.held)]) ∧ KPost W0 st ⟨g, fc, a, c, ka, kc, wa, wn⟩ st' p' V) := Lib.hid (HTK.out _ b0)
  have HPR : Hid (∀ W1 V p', KPost W0 st ⟨g, fc, a, c, ka, kc, wa, wn⟩ st' p' W1 → Bel W1 V → Calls Tryz.prog 24 #[.pointer (some ⟨k, 0, none⟩), .bool on] V fun e V' => e = .returned (.bool st.held) ∧ LivePostK w0 (wN N w.heap.size V.heap.size p'.g) V k hb bi st' V') := Lib.hid (fun W1 V p' hP hV => HPK.out _ _ (b0.trans (hP.bel.trans hV)) (both_live HH.out b0 hP hV))
  have HB := Lib.hid (And.intro b0 (And.intro g0 (And.intro g1 g2)))
  obtain ⟨q0, q1, q2, q3, q4, q5, q6⟩ := seven_cells g0
  have z0 : W0.cell? ⟨B + 1, 0, none⟩ = some (.int .i64 2) := blk_cell g1 0
  have z1 : W0.cell? ⟨B + 1, 1, none⟩ = some (.int .i64 n) := blk_cell g1 1
  have z2 : W0.cell? ⟨B + 1, 2, none⟩ = some (.int .i64 order) := blk_cell g1 2
  have z3 : W0.cell? ⟨B + 1, 3, none⟩ = some (.bool on) := blk_cell g1 3
  clear b0 g0 g1 g2 I HTK HPK
  go_wp2_with fail
  refine HT.out.mono ?_
  clear HT
  rintro e W1 ⟨⟨g', fc', a', c', ka', kc', wa', wn'⟩, rfl, hP⟩
  have HP := Lib.hid hP
  have k1 := hP.bel.blk HB.out.2.2.1
  have k2 := hP.bel.blk HB.out.2.2.2
  clear hP q0 q1 q2 q3 q4 q5 q6 z0 z1 z2 z3
  go_wp2_with fail
  have a0 := blk_alloc_old (.cells #[.int .i64 (st'.h.P : Int), .slice (some ⟨g', 0, none⟩) 1024 fc', .slice a' st'.h.S.length c', .int .i64 (st'.h.last : Int), .slice ka' st'.kept.length kc', .slice wa' st'.waits.length wn', .bool st'.held] 46) k2
  have a3 := blk_alloc_old (.cells #[.int .i64 (st'.h.P : Int), .slice (some ⟨g', 0, none⟩) 1024 fc', .slice a' st'.h.S.length c', .int .i64 (st'.h.last : Int), .slice ka' st'.kept.length kc', .slice wa' st'.waits.length wn', .bool st'.held] 46) k1
  have a1 := blk_alloc W1 (.cells #[.int .i64 (st'.h.P : Int), .slice (some ⟨g', 0, none⟩) 1024 fc', .slice a' st'.h.S.length c', .int .i64 (st'.h.last : Int), .slice ka' st'.kept.length kc', .slice wa' st'.waits.length wn', .bool st'.held] 46)
  have hV := (Bel.refl W1).alloc (.cells #[.int .i64 (st'.h.P : Int), .slice (some ⟨g', 0, none⟩) 1024 fc', .slice a' st'.h.S.length c', .int .i64 (st'.h.last : Int), .slice ka' st'.kept.length kc', .slice wa' st'.waits.length wn', .bool st'.held] 46)
  clear k1 k2
  obtain ⟨D, hD⟩ : ∃ D, W1.heap.size = D := ⟨_, rfl⟩
  rw [hD] at a1 ⊢
  have hDB : B + 3 ≤ D := by have h1 := heap_lt HB.out.2.2.2; have h2 := HP.out.bel.size; omega
  generalize W1.alloc (.cells #[.int .i64 (st'.h.P : Int), .slice (some ⟨g', 0, none⟩) 1024 fc', .slice a' st'.h.S.length c', .int .i64 (st'.h.last : Int), .slice ka' st'.kept.length kc', .slice wa' st'.waits.length wn', .bool st'.held] 46) = V at a0 a1 a3 hV ⊢
  have hVs := heap_lt a1
  have n1 : D ≠ B + 1 + 1 := by omega
  have n2 : B + 1 + 1 ≠ D := by omega
  have HS : Hid (∀ U, U.heap[D]? = some (.cells #[.int .i64 (st'.h.P : Int), .slice (some ⟨g', 0, none⟩) 1024 fc', .slice a' st'.h.S.length c', .int .i64 (st'.h.last : Int), .slice ka' st'.kept.length kc', .slice wa' st'.waits.length wn', .bool st'.held] 46 (0, 0)) → U.heap[B + 1]? = some (.cells #[.int .i64 2, .int .i64 n, .int .i64 order, .bool on, .slice ia il ic] 50 (0, 0)) → (fun V : World => V.cell? ⟨B + 1, 3, none⟩ = some (.bool on) ∧ V.cell? ⟨D, 0, none⟩ = some (.int .i64 (st'.h.P : Int)) ∧ V.cell? ⟨D, 1, none⟩ = some (.slice (some ⟨g', 0, none⟩) 1024 fc') ∧ V.cell? ⟨D, 2, none⟩ = some (.slice a' st'.h.S.length c') ∧ V.cell? ⟨D, 3, none⟩ = some (.int .i64 (st'.h.last : Int)) ∧ V.cell? ⟨D, 4, none⟩ = some (.slice ka' st'.kept.length kc') ∧ V.cell? ⟨D, 5, none⟩ = some (.slice wa' st'.waits.length wn') ∧ V.cell? ⟨D, 6, none⟩ = some (.bool st'.held)) U) := Lib.hid (fun U h1 h3 => ⟨blk_cell h3 3, blk_cell h1 0, blk_cell h1 1, blk_cell h1 2, blk_cell h1 3, blk_cell h1 4, blk_cell h1 5, blk_cell h1 6⟩)
  have HPV : Hid (∀ U, Bel V U → Calls Tryz.prog 24 #[.pointer (some ⟨k, 0, none⟩), .bool on] U fun e V' => e = .returned (.bool st.held) ∧ Bel V U ∧ LivePostK w0 (wN N w.heap.size U.heap.size g') U k hb bi st' V' ∧ V'.heap[B + 1 + 1]? = some (.cells #[.int .i64 0, .slice none 0 0, .slice none 0 0, .int .i64 0, .slice none 0 0, .slice none 0 0, .bool false] 46 (0, 0)) ∧ (fun V : World => V.cell? ⟨B + 1, 3, none⟩ = some (.bool on) ∧ V.cell? ⟨D, 0, none⟩ = some (.int .i64 (st'.h.P : Int)) ∧ V.cell? ⟨D, 1, none⟩ = some (.slice (some ⟨g', 0, none⟩) 1024 fc') ∧ V.cell? ⟨D, 2, none⟩ = some (.slice a' st'.h.S.length c') ∧ V.cell? ⟨D, 3, none⟩ = some (.int .i64 (st'.h.last : Int)) ∧ V.cell? ⟨D, 4, none⟩ = some (.slice ka' st'.kept.length kc') ∧ V.cell? ⟨D, 5, none⟩ = some (.slice wa' st'.waits.length wn') ∧ V.cell? ⟨D, 6, none⟩ = some (.bool st'.held)) V') := Lib.hid (fun U hU => (HPR.out _ _ _ HP.out (hV.trans hU)).mono fun e V' ⟨h1, hL⟩ => by
    have hs := hU.size
    have keep : ∀ {j : Nat} {o : Obj}, V.heap[j]? = some o → B ≤ j → V'.heap[j]? = some o := fun h h2 => hL.2.heap (hU.blk h) (fun h9 => h9 (.inr (.inl ⟨by omega, by have := heap_lt h; omega⟩)))
    exact ⟨h1, hU, hL, keep a0 (by omega), HS.out V' (keep a1 (by omega)) (keep a3 (by omega))⟩)
  have hS0 := HS.out V a1 a3
  have HA := Lib.hid (And.intro a0 (And.intro a1 a3))
  have HV := Lib.hid hV
  clear a0 a1 a3 hV HPR HS hD
  go_region_held3 (fun V : World => V.cell? ⟨B + 1, 3, none⟩ = some (.bool on) ∧ V.cell? ⟨D, 0, none⟩ = some (.int .i64 (st'.h.P : Int)) ∧ V.cell? ⟨D, 1, none⟩ = some (.slice (some ⟨g', 0, none⟩) 1024 fc') ∧ V.cell? ⟨D, 2, none⟩ = some (.slice a' st'.h.S.length c') ∧ V.cell? ⟨D, 3, none⟩ = some (.int .i64 (st'.h.last : Int)) ∧ V.cell? ⟨D, 4, none⟩ = some (.slice ka' st'.kept.length kc') ∧ V.cell? ⟨D, 5, none⟩ = some (.slice wa' st'.waits.length wn') ∧ V.cell? ⟨D, 6, none⟩ = some (.bool st'.held))
    (first | (with_reducible exact hS7) | (with_reducible exact hS0) | go_keep)
    (first | (go_at_call 24; (with_reducible refine (HPV.out _ ?b1).mono ?_); (case b1 => repeat (first | exact Bel.refl _ | apply Bel.drew | apply Bel.alloc)); rintro e V2 ⟨rfl, hU, hL, e0, hS7⟩; obtain ⟨y0, y1, y2, y3, y4, y5, y6⟩ := seven_cells e0; obtain ⟨f0, f1, f2, f3, f4, f5, f6⟩ := seven_frozen e0; have l0 := heap_lt e0))
  have HL := Lib.hid (And.intro (HV.out.trans hU) (And.intro hL e0))
  have hX := Bel.refl V2
  have HFIN : Hid (∀ y0 y1 y2 y3 y4 y5 y6 W9, W9 = (((((((V2.setCell ⟨B + 1 + 1, 0, none⟩ y0).setCell ⟨B + 1 + 1, 1, none⟩ y1).setCell ⟨B + 1 + 1, 2, none⟩ y2).setCell ⟨B + 1 + 1, 3, none⟩ y3).setCell ⟨B + 1 + 1, 4, none⟩ y4).setCell ⟨B + 1 + 1, 5, none⟩ y5).setCell ⟨B + 1 + 1, 6, none⟩ y6) → DoesPost w0 N w k hb bi st ⟨g, fc, a, c, ka, kc, wa, wn⟩ st' ⟨g', fc', a', c', ka', kc', wa', wn'⟩ W9) := Lib.hid (fun y0 y1 y2 y3 y4 y5 y6 W9 e9 => by
    have hF := ((Fr.of_bel hX).trans' (fr_seven V2 (B + 1 + 1) y0 y1 y2 y3 y4 y5 y6))
    rw [← e9] at hF
    exact does_fin HH.out HR.out HI.out HB.out.1 HP.out HL.out.1 HL.out.2.1 hF (fun i hi => by subst hi; exact ⟨by omega, heap_lt HB.out.2.2.2, _, _, HL.out.2.2, by decide⟩))
  clear hL e0 hX hU
  go_wp2
  refine bodyPost_ret (v := .tuple #[.bool true, kV st' ⟨g', fc', a', c', ka', kc', wa', wn'⟩]) (by simp [kV, kCells, results, Tryz.results16, go_sem, y0, y1, y2, y3, y4, y5, y6, l0]) rfl ?_
  exact ⟨⟨g', fc', a', c', ka', kc', wa', wn'⟩, rfl, HFIN.out _ _ _ _ _ _ _ _ rfl⟩
set_option maxHeartbeats 8000000 in
set_option maxRecDepth 20000 in
theorem does10_flush {w0 w : World} {N : Nat → Prop} {k hb bi : Nat} {st : KS} {p : KP} (H : LiveK w0 N w k hb bi st) (R : RefK w st p) (hi : InN N p st) (n order : Int) (on : Bool) (ia : Option Addr) (il ic : Nat) (hl : st.h.last ≤ 4000) :
    Calls Tryz.prog 16 #[.pointer (some ⟨hb, 0, none⟩), .pointer (some ⟨k, 0, none⟩), kV st p, .agg #[.int .i64 3, .int .i64 n, .int .i64 order, .bool on, .slice ia il ic]] w fun e w' => ∃ p', e = .returned (.tuple #[.bool true, kV st.flush p']) ∧ DoesPost w0 N w k hb bi st p st.flush p' w' := by
  obtain ⟨g, fc, a, c, ka, kc, wa, wn⟩ := p
  have I := H.inv
  have b0 := (((Bel.refl w).alloc (.cells (kCells st ⟨g, fc, a, c, ka, kc, wa, wn⟩) 46)).alloc (.cells #[.int .i64 3, .int .i64 n, .int .i64 order, .bool on, .slice ia il ic] 50)).alloc (.cells k0Cells 46)
  have g0 := blk_alloc_old (.cells k0Cells 46) (blk_alloc_old (.cells #[.int .i64 3, .int .i64 n, .int .i64 order, .bool on, .slice ia il ic] 50) (blk_alloc w (.cells (kCells st ⟨g, fc, a, c, ka, kc, wa, wn⟩) 46)))
  have g1 := blk_alloc_old (.cells k0Cells 46) (blk_alloc (w.alloc (.cells (kCells st ⟨g, fc, a, c, ka, kc, wa, wn⟩) 46)) (.cells #[.int .i64 3, .int .i64 n, .int .i64 order, .bool on, .slice ia il ic] 50))
  have g2 := blk_alloc ((w.alloc (.cells (kCells st ⟨g, fc, a, c, ka, kc, wa, wn⟩) 46)).alloc (.cells #[.int .i64 3, .int .i64 n, .int .i64 order, .bool on, .slice ia il ic] 50)) (.cells k0Cells 46)
  simp only [World.size_alloc] at g0 g1 g2
  have HTK : Hid (∀ W, Bel w W → Calls Tryz.prog 46 #[kV st ⟨g, fc, a, c, ka, kc, wa, wn⟩] W fun e V => ∃ p', e = .returned (.tuple #[kV st.flush p', .int .i64 st.kept.length]) ∧ KPost W st ⟨g, fc, a, c, ka, kc, wa, wn⟩ st.flush p' V) := Lib.hid (fun W h => ref10_Flush (R.bel h) I (by omega))
  have HPK : Hid (∀ M V, Bel w V → LiveK w0 M V k hb bi st → Calls Tryz.prog 25 #[.pointer (some ⟨k, 0, none⟩)] V fun e V' => e = .returned (.int .i64 st.kept.length) ∧ LivePostK w0 M V k hb bi st.flush V') := Lib.hid (fun M V hwV hL => large_Flush hL (by omega))
  obtain ⟨st', hr⟩ : ∃ r, st.flush = r := ⟨_, rfl⟩
  rw [hr] at HTK HPK ⊢
  clear hr
  simp only [kV, kCells, k0Cells] at g0 g1 g2 b0 ⊢
  have HH := Lib.hid H
  have HR := Lib.hid R
  have HI := Lib.hid hi
  clear H R hi
  go_enter Tryz.func16, Tryz.ntmps16
  go_upto_region 1 with fail
  generalize ((w.alloc (.cells #[.int .i64 (st.h.P : Int), .slice (some ⟨g, 0, none⟩) 1024 fc, .slice a st.h.S.length c, .int .i64 (st.h.last : Int), .slice ka st.kept.length kc, .slice wa st.waits.length wn, .bool st.held] 46)).alloc (.cells #[.int .i64 3, .int .i64 n, .int .i64 order, .bool on, .slice ia il ic] 50)).alloc (.cells #[.int .i64 0, .slice none 0 0, .slice none 0 0, .int .i64 0, .slice none 0 0, .slice none 0 0, .bool false] 46) = W0 at b0 g0 g1 g2 ⊢
  obtain ⟨B, hB⟩ : ∃ B, w.heap.size = B := ⟨_, rfl⟩
  rw [hB] at g0 g1 g2 ⊢
  have HT : Hid (Calls Tryz.prog 46 #[.agg #[.int .i64 (st.h.P : Int), .slice (some ⟨g, 0, none⟩) 1024 fc, .slice a st.h.S.length c, .int .i64 (st.h.last : Int), .slice ka st.kept.length kc, .slice wa st.waits.length wn, .bool st.held]] W0 fun e V => ∃ p' : KP, e = .returned (.tuple #[.agg #[.int .i64 (st'.h.P : Int), .slice (some ⟨p'.g, 0, none⟩) 1024 p'.fc, .slice p'.a st'.h.S.length p'.c, .int .i64 (st'.h.last : Int), .slice p'.ka st'.kept.length p'.kc, .slice p'.wa st'.waits.length p'.wc, .bool st'.held], (.int .i64 st.kept.length)]) ∧ KPost W0 st ⟨g, fc, a, c, ka, kc, wa, wn⟩ st' p' V) := Lib.hid (HTK.out _ b0)
  have HPR : Hid (∀ W1 V p', KPost W0 st ⟨g, fc, a, c, ka, kc, wa, wn⟩ st' p' W1 → Bel W1 V → Calls Tryz.prog 25 #[.pointer (some ⟨k, 0, none⟩)] V fun e V' => e = .returned (.int .i64 st.kept.length) ∧ LivePostK w0 (wN N w.heap.size V.heap.size p'.g) V k hb bi st' V') := Lib.hid (fun W1 V p' hP hV => HPK.out _ _ (b0.trans (hP.bel.trans hV)) (both_live HH.out b0 hP hV))
  have HB := Lib.hid (And.intro b0 (And.intro g0 (And.intro g1 g2)))
  obtain ⟨q0, q1, q2, q3, q4, q5, q6⟩ := seven_cells g0
  have z0 : W0.cell? ⟨B + 1, 0, none⟩ = some (.int .i64 3) := blk_cell g1 0
  clear b0 g0 g1 g2 I HTK HPK
  go_wp2_with fail
  refine HT.out.mono ?_
  clear HT
  rintro e W1 ⟨⟨g', fc', a', c', ka', kc', wa', wn'⟩, rfl, hP⟩
  have HP := Lib.hid hP
  have k1 := hP.bel.blk HB.out.2.2.1
  have k2 := hP.bel.blk HB.out.2.2.2
  clear hP q0 q1 q2 q3 q4 q5 q6 z0
  go_wp2_with fail
  have a0 := blk_alloc_old (.cells #[.int .i64 (st'.h.P : Int), .slice (some ⟨g', 0, none⟩) 1024 fc', .slice a' st'.h.S.length c', .int .i64 (st'.h.last : Int), .slice ka' st'.kept.length kc', .slice wa' st'.waits.length wn', .bool st'.held] 46) k2
  have a3 := blk_alloc_old (.cells #[.int .i64 (st'.h.P : Int), .slice (some ⟨g', 0, none⟩) 1024 fc', .slice a' st'.h.S.length c', .int .i64 (st'.h.last : Int), .slice ka' st'.kept.length kc', .slice wa' st'.waits.length wn', .bool st'.held] 46) k1
  have a1 := blk_alloc W1 (.cells #[.int .i64 (st'.h.P : Int), .slice (some ⟨g', 0, none⟩) 1024 fc', .slice a' st'.h.S.length c', .int .i64 (st'.h.last : Int), .slice ka' st'.kept.length kc', .slice wa' st'.waits.length wn', .bool st'.held] 46)
  have hV := (Bel.refl W1).alloc (.cells #[.int .i64 (st'.h.P : Int), .slice (some ⟨g', 0, none⟩) 1024 fc', .slice a' st'.h.S.length c', .int .i64 (st'.h.last : Int), .slice ka' st'.kept.length kc', .slice wa' st'.waits.length wn', .bool st'.held] 46)
  clear k1 k2
  obtain ⟨D, hD⟩ : ∃ D, W1.heap.size = D := ⟨_, rfl⟩
  rw [hD] at a1 ⊢
  have hDB : B + 3 ≤ D := by have h1 := heap_lt HB.out.2.2.2; have h2 := HP.out.bel.size; omega
  generalize W1.alloc (.cells #[.int .i64 (st'.h.P : Int), .slice (some ⟨g', 0, none⟩) 1024 fc', .slice a' st'.h.S.length c', .int .i64 (st'.h.last : Int), .slice ka' st'.kept.length kc', .slice wa' st'.waits.length wn', .bool st'.held] 46) = V at a0 a1 a3 hV ⊢
  have hVs := heap_lt a1
  have n1 : D ≠ B + 1 + 1 := by omega
  have n2 : B + 1 + 1 ≠ D := by omega
  have HS : Hid (∀ U, U.heap[D]? = some (.cells #[.int .i64 (st'.h.P : Int), .slice (some ⟨g', 0, none⟩) 1024 fc', .slice a' st'.h.S.length c', .int .i64 (st'.h.last : Int), .slice ka' st'.kept.length kc', .slice wa' st'.waits.length wn', .bool st'.held] 46 (0, 0)) → U.heap[B + 1]? = some (.cells #[.int .i64 3, .int .i64 n, .int .i64 order, .bool on, .slice ia il ic] 50 (0, 0)) → (fun V : World => V.cell? ⟨D, 0, none⟩ = some (.int .i64 (st'.h.P : Int)) ∧ V.cell? ⟨D, 1, none⟩ = some (.slice (some ⟨g', 0, none⟩) 1024 fc') ∧ V.cell? ⟨D, 2, none⟩ = some (.slice a' st'.h.S.length c') ∧ V.cell? ⟨D, 3, none⟩ = some (.int .i64 (st'.h.last : Int)) ∧ V.cell? ⟨D, 4, none⟩ = some (.slice ka' st'.kept.length kc') ∧ V.cell? ⟨D, 5, none⟩ = some (.slice wa' st'.waits.length wn') ∧ V.cell? ⟨D, 6, none⟩ = some (.bool st'.held)) U) := Lib.hid (fun U h1 h3 => ⟨blk_cell h1 0, blk_cell h1 1, blk_cell h1 2, blk_cell h1 3, blk_cell h1 4, blk_cell h1 5, blk_cell h1 6⟩)
  have HPV : Hid (∀ U, Bel V U → Calls Tryz.prog 25 #[.pointer (some ⟨k, 0, none⟩)] U fun e V' => e = .returned (.int .i64 st.kept.length) ∧ Bel V U ∧ LivePostK w0 (wN N w.heap.size U.heap.size g') U k hb bi st' V' ∧ V'.heap[B + 1 + 1]? = some (.cells #[.int .i64 0, .slice none 0 0, .slice none 0 0, .int .i64 0, .slice none 0 0, .slice none 0 0, .bool false] 46 (0, 0)) ∧ (fun V : World => V.cell? ⟨D, 0, none⟩ = some (.int .i64 (st'.h.P : Int)) ∧ V.cell? ⟨D, 1, none⟩ = some (.slice (some ⟨g', 0, none⟩) 1024 fc') ∧ V.cell? ⟨D, 2, none⟩ = some (.slice a' st'.h.S.length c') ∧ V.cell? ⟨D, 3, none⟩ = some (.int .i64 (st'.h.last : Int)) ∧ V.cell? ⟨D, 4, none⟩ = some (.slice ka' st'.kept.length kc') ∧ V.cell? ⟨D, 5, none⟩ = some (.slice wa' st'.waits.length wn') ∧ V.cell? ⟨D, 6, none⟩ = some (.bool st'.held)) V') := Lib.hid (fun U hU => (HPR.out _ _ _ HP.out (hV.trans hU)).mono fun e V' ⟨h1, hL⟩ => by
    have hs := hU.size
    have keep : ∀ {j : Nat} {o : Obj}, V.heap[j]? = some o → B ≤ j → V'.heap[j]? = some o := fun h h2 => hL.2.heap (hU.blk h) (fun h9 => h9 (.inr (.inl ⟨by omega, by have := heap_lt h; omega⟩)))
    exact ⟨h1, hU, hL, keep a0 (by omega), HS.out V' (keep a1 (by omega)) (keep a3 (by omega))⟩)
  have hS0 := HS.out V a1 a3
  have HA := Lib.hid (And.intro a0 (And.intro a1 a3))
  have HV := Lib.hid hV
  clear a0 a1 a3 hV HPR HS hD
  go_region_held3 (fun V : World => V.cell? ⟨D, 0, none⟩ = some (.int .i64 (st'.h.P : Int)) ∧ V.cell? ⟨D, 1, none⟩ = some (.slice (some ⟨g', 0, none⟩) 1024 fc') ∧ V.cell? ⟨D, 2, none⟩ = some (.slice a' st'.h.S.length c') ∧ V.cell? ⟨D, 3, none⟩ = some (.int .i64 (st'.h.last : Int)) ∧ V.cell? ⟨D, 4, none⟩ = some (.slice ka' st'.kept.length kc') ∧ V.cell? ⟨D, 5, none⟩ = some (.slice wa' st'.waits.length wn') ∧ V.cell? ⟨D, 6, none⟩ = some (.bool st'.held))
    (first | (with_reducible exact hS7) | (with_reducible exact hS0) | go_keep)
    (first | (go_at_call 25; (with_reducible refine (HPV.out _ ?b1).mono ?_); (case b1 => repeat (first | exact Bel.refl _ | apply Bel.drew | apply Bel.alloc)); rintro e V2 ⟨rfl, hU, hL, e0, hS7⟩; obtain ⟨y0, y1, y2, y3, y4, y5, y6⟩ := seven_cells e0; obtain ⟨f0, f1, f2, f3, f4, f5, f6⟩ := seven_frozen e0; have l0 := heap_lt e0))
  have HL := Lib.hid (And.intro (HV.out.trans hU) (And.intro hL e0))
  have hX := Bel.refl V2
  have HFIN : Hid (∀ y0 y1 y2 y3 y4 y5 y6 W9, W9 = (((((((V2.setCell ⟨B + 1 + 1, 0, none⟩ y0).setCell ⟨B + 1 + 1, 1, none⟩ y1).setCell ⟨B + 1 + 1, 2, none⟩ y2).setCell ⟨B + 1 + 1, 3, none⟩ y3).setCell ⟨B + 1 + 1, 4, none⟩ y4).setCell ⟨B + 1 + 1, 5, none⟩ y5).setCell ⟨B + 1 + 1, 6, none⟩ y6) → DoesPost w0 N w k hb bi st ⟨g, fc, a, c, ka, kc, wa, wn⟩ st' ⟨g', fc', a', c', ka', kc', wa', wn'⟩ W9) := Lib.hid (fun y0 y1 y2 y3 y4 y5 y6 W9 e9 => by
    have hF := ((Fr.of_bel hX).trans' (fr_seven V2 (B + 1 + 1) y0 y1 y2 y3 y4 y5 y6))
    rw [← e9] at hF
    exact does_fin HH.out HR.out HI.out HB.out.1 HP.out HL.out.1 HL.out.2.1 hF (fun i hi => by subst hi; exact ⟨by omega, heap_lt HB.out.2.2.2, _, _, HL.out.2.2, by decide⟩))
  clear hL e0 hX hU
  go_wp2
  refine bodyPost_ret (v := .tuple #[.bool true, kV st' ⟨g', fc', a', c', ka', kc', wa', wn'⟩]) (by simp [kV, kCells, results, Tryz.results16, go_sem, y0, y1, y2, y3, y4, y5, y6, l0]) rfl ?_
  exact ⟨⟨g', fc', a', c', ka', kc', wa', wn'⟩, rfl, HFIN.out _ _ _ _ _ _ _ _ rfl⟩
set_option maxHeartbeats 8000000 in
set_option maxRecDepth 20000 in
theorem does10_make {w0 w : World} {N : Nat → Prop} {k hb bi : Nat} {st : KS} {p : KP} (H : LiveK w0 N w k hb bi st) (R : RefK w st p) (hi : InN N p st) (kind n order : Int) (on : Bool) (ia : Option Addr) (il ic : Nat) (hn : I64 n) (ho : I64 order) (h0 : kind ≠ 0) (h1 : kind ≠ 1) (h2 : kind ≠ 2) (h3 : kind ≠ 3) (hl : st.h.last ≤ 4000) :
    Calls Tryz.prog 16 #[.pointer (some ⟨hb, 0, none⟩), .pointer (some ⟨k, 0, none⟩), kV st p, .agg #[.int .i64 kind, .int .i64 n, .int .i64 order, .bool on, .slice ia il ic]] w fun e w' => ∃ p', e = .returned (.tuple #[.bool true, kV ⟨(st.h.make n order).1, st.kept, st.waits, st.held⟩ p']) ∧ DoesPost w0 N w k hb bi st p ⟨(st.h.make n order).1, st.kept, st.waits, st.held⟩ p' w' := by
  obtain ⟨g, fc, a, c, ka, kc, wa, wn⟩ := p
  have I := H.inv
  have b0 := (((Bel.refl w).alloc (.cells (kCells st ⟨g, fc, a, c, ka, kc, wa, wn⟩) 46)).alloc (.cells #[.int .i64 kind, .int .i64 n, .int .i64 order, .bool on, .slice ia il ic] 50)).alloc (.cells k0Cells 46)
  have g0 := blk_alloc_old (.cells k0Cells 46) (blk_alloc_old (.cells #[.int .i64 kind, .int .i64 n, .int .i64 order, .bool on, .slice ia il ic] 50) (blk_alloc w (.cells (kCells st ⟨g, fc, a, c, ka, kc, wa, wn⟩) 46)))
  have g1 := blk_alloc_old (.cells k0Cells 46) (blk_alloc (w.alloc (.cells (kCells st ⟨g, fc, a, c, ka, kc, wa, wn⟩) 46)) (.cells #[.int .i64 kind, .int .i64 n, .int .i64 order, .bool on, .slice ia il ic] 50))
  have g2 := blk_alloc ((w.alloc (.cells (kCells st ⟨g, fc, a, c, ka, kc, wa, wn⟩) 46)).alloc (.cells #[.int .i64 kind, .int .i64 n, .int .i64 order, .bool on, .slice ia il ic] 50)) (.cells k0Cells 46)
  simp only [World.size_alloc] at g0 g1 g2
  have HTK : Hid (∀ W, Bel w W → Calls Tryz.prog 47 #[.agg #[.int .i64 (st.h.P : Int), .slice (some ⟨g, 0, none⟩) 1024 fc, .slice a st.h.S.length c, .int .i64 (st.h.last : Int)], .int .i64 n, .int .i64 order] W fun e V => ∃ g' fc' a' c', e = .returned (.tuple #[gV (st.h.make n order).1 g' fc' a' c', spV (st.h.make n order).2.1, .int .i64 (st.h.make n order).2.2]) ∧ KPost W st ⟨g, fc, a, c, ka, kc, wa, wn⟩ ⟨(st.h.make n order).1, st.kept, st.waits, st.held⟩ ⟨g', fc', a', c', ka, kc, wa, wn⟩ V) := Lib.hid (fun W h => (refG_Make I.ok (R.heap.bel h) n order hn ho (by omega)).mono fun e V ⟨g', fc', a', c', h1, h2⟩ => ⟨g', fc', a', c', h1, KPost.made (R.bel h) h2⟩)
  have HPK : Hid (∀ M V, LiveK w0 M V k hb bi st → Calls Tryz.prog 33 #[.pointer (some ⟨hb, 0, none⟩), .int .i64 n, .int .i64 order] V fun e V' => e = .returned (.tuple #[spV (st.h.make n order).2.1, .int .i64 (st.h.make n order).2.2]) ∧ LivePostK w0 M V k hb bi ⟨(st.h.make n order).1, st.kept, st.waits, st.held⟩ V') := Lib.hid (fun M V hL => hL.heapMake n order hn ho (by omega) V (Bel.refl _))
  obtain ⟨r, hr⟩ : ∃ r, st.h.make n order = r := ⟨_, rfl⟩
  rw [hr] at HTK HPK ⊢
  obtain ⟨h', ⟨s1, ⟨s2, s3⟩, s4⟩, en⟩ := r
  clear hr
  have c0 : (kind == 0) = false := by simpa using h0
  have c1 : (kind == 1) = false := by simpa using h1
  have c2 : (kind == 2) = false := by simpa using h2
  have c3 : (kind == 3) = false := by simpa using h3
  clear h0 h1 h2 h3
  simp only [kV, kCells, k0Cells] at g0 g1 g2 b0 ⊢
  have HH := Lib.hid H
  have HR := Lib.hid R
  have HI := Lib.hid hi
  clear H R hi
  go_enter Tryz.func16, Tryz.ntmps16
  go_upto_region 1 with fail
  generalize ((w.alloc (.cells #[.int .i64 (st.h.P : Int), .slice (some ⟨g, 0, none⟩) 1024 fc, .slice a st.h.S.length c, .int .i64 (st.h.last : Int), .slice ka st.kept.length kc, .slice wa st.waits.length wn, .bool st.held] 46)).alloc (.cells #[.int .i64 kind, .int .i64 n, .int .i64 order, .bool on, .slice ia il ic] 50)).alloc (.cells #[.int .i64 0, .slice none 0 0, .slice none 0 0, .int .i64 0, .slice none 0 0, .slice none 0 0, .bool false] 46) = W0 at b0 g0 g1 g2 ⊢
  obtain ⟨B, hB⟩ : ∃ B, w.heap.size = B := ⟨_, rfl⟩
  rw [hB] at g0 g1 g2 ⊢
  have HT : Hid (Calls Tryz.prog 47 #[.agg #[.int .i64 (st.h.P : Int), .slice (some ⟨g, 0, none⟩) 1024 fc, .slice a st.h.S.length c, .int .i64 (st.h.last : Int)], .int .i64 n, .int .i64 order] W0 fun e V => ∃ g' fc' a' c', e = .returned (.tuple #[.agg #[.int .i64 (h'.P : Int), .slice (some ⟨g', 0, none⟩) 1024 fc', .slice a' h'.S.length c', .int .i64 (h'.last : Int)], .agg #[.int .i64 s1, .int .i64 s2, .int .i64 s3, .int .i64 s4], .int .i64 en]) ∧ KPost W0 st ⟨g, fc, a, c, ka, kc, wa, wn⟩ ⟨h', st.kept, st.waits, st.held⟩ ⟨g', fc', a', c', ka, kc, wa, wn⟩ V) := Lib.hid (HTK.out _ b0)
  have HPR : Hid (∀ W1 V p', KPost W0 st ⟨g, fc, a, c, ka, kc, wa, wn⟩ ⟨h', st.kept, st.waits, st.held⟩ p' W1 → Bel W1 V → Calls Tryz.prog 33 #[.pointer (some ⟨hb, 0, none⟩), .int .i64 n, .int .i64 order] V fun e V' => e = .returned (.tuple #[.agg #[.int .i64 s1, .int .i64 s2, .int .i64 s3, .int .i64 s4], .int .i64 en]) ∧ LivePostK w0 (wN N w.heap.size V.heap.size p'.g) V k hb bi ⟨h', st.kept, st.waits, st.held⟩ V') := Lib.hid (fun W1 V p' hP hV => HPK.out _ _ (both_live HH.out b0 hP hV))
  have HB := Lib.hid (And.intro b0 (And.intro g0 (And.intro g1 g2)))
  obtain ⟨q0, q1, q2, q3, q4, q5, q6⟩ := seven_cells g0
  have z0 : W0.cell? ⟨B + 1, 0, none⟩ = some (.int .i64 kind) := blk_cell g1 0
  have z1 : W0.cell? ⟨B + 1, 1, none⟩ = some (.int .i64 n) := blk_cell g1 1
  have z2 : W0.cell? ⟨B + 1, 2, none⟩ = some (.int .i64 order) := blk_cell g1 2
  clear b0 g0 g1 g2 I HTK HPK
  go_wp2_with fail
  refine HT.out.mono ?_
  clear HT
  rintro e W1 ⟨g', fc', a', c', rfl, hP⟩
  have HP := Lib.hid hP
  have k0 := hP.bel.blk HB.out.2.1
  have k1 := hP.bel.blk HB.out.2.2.1
  have k2 := hP.bel.blk HB.out.2.2.2
  have m1 := heap_lt k1
  have m0 : B < W1.heap.size := by omega
  have u1 : W1.cell? ⟨B + 1, 1, none⟩ = some (.int .i64 n) := blk_cell k1 1
  have u2 : W1.cell? ⟨B + 1, 2, none⟩ = some (.int .i64 order) := blk_cell k1 2
  clear hP q0 q1 q2 q3 q4 q5 q6 z0 z1 z2
  go_wp2_with fail
  have a0 := blk_alloc_old (.cells #[.int .i64 s1, .int .i64 s2, .int .i64 s3, .int .i64 s4] 33) (blk_alloc_old (.cells #[.int .i64 (h'.P : Int), .slice (some ⟨g', 0, none⟩) 1024 fc', .slice a' h'.S.length c', .int .i64 (h'.last : Int)] 44) k2)
  have a3 := blk_alloc_old (.cells #[.int .i64 s1, .int .i64 s2, .int .i64 s3, .int .i64 s4] 33) (blk_alloc_old (.cells #[.int .i64 (h'.P : Int), .slice (some ⟨g', 0, none⟩) 1024 fc', .slice a' h'.S.length c', .int .i64 (h'.last : Int)] 44) k0)
  have a1 := blk_alloc_old (.cells #[.int .i64 s1, .int .i64 s2, .int .i64 s3, .int .i64 s4] 33) (blk_alloc W1 (.cells #[.int .i64 (h'.P : Int), .slice (some ⟨g', 0, none⟩) 1024 fc', .slice a' h'.S.length c', .int .i64 (h'.last : Int)] 44))
  have a2 := blk_alloc (W1.alloc (.cells #[.int .i64 (h'.P : Int), .slice (some ⟨g', 0, none⟩) 1024 fc', .slice a' h'.S.length c', .int .i64 (h'.last : Int)] 44)) (.cells #[.int .i64 s1, .int .i64 s2, .int .i64 s3, .int .i64 s4] 33)
  have hV := ((Bel.refl W1).alloc (.cells #[.int .i64 (h'.P : Int), .slice (some ⟨g', 0, none⟩) 1024 fc', .slice a' h'.S.length c', .int .i64 (h'.last : Int)] 44)).alloc (.cells #[.int .i64 s1, .int .i64 s2, .int .i64 s3, .int .i64 s4] 33)
  rw [World.size_alloc] at a2
  clear k0 k1 k2 u1 u2 m1 m0
  obtain ⟨D, hD⟩ : ∃ D, W1.heap.size = D := ⟨_, rfl⟩
  rw [hD] at a1 a2 ⊢
  have hDB : B + 3 ≤ D := by have h1 := heap_lt HB.out.2.2.2; have h2 := HP.out.bel.size; omega
  generalize (W1.alloc (.cells #[.int .i64 (h'.P : Int), .slice (some ⟨g', 0, none⟩) 1024 fc', .slice a' h'.S.length c', .int .i64 (h'.last : Int)] 44)).alloc (.cells #[.int .i64 s1, .int .i64 s2, .int .i64 s3, .int .i64 s4] 33) = V at a0 a1 a2 a3 hV ⊢
  refine (HPR.out _ _ _ HP.out hV).mono ?_
  clear HPR
  rintro e V' ⟨rfl, hL⟩
  have hVs := heap_lt a2
  have keep : ∀ {j : Nat} {o : Obj}, V.heap[j]? = some o → B ≤ j → V'.heap[j]? = some o := fun h h2 => hL.2.heap h (fun h9 => h9 (.inr (.inl ⟨by omega, heap_lt h⟩)))
  have i0 := keep a0 (by omega)
  have i1 := keep a1 (by omega)
  have i2 := keep a2 (by omega)
  have i3 := keep a3 (by omega)
  have HL := Lib.hid (And.intro hV (And.intro hL (And.intro i0 i3)))
  clear keep a0 a1 a2 a3 hV hL hD
  have e0 := blk_alloc_old (.cells #[.int .i64 s1, .int .i64 s2, .int .i64 s3, .int .i64 s4] 33) i0
  have e1 := blk_alloc_old (.cells #[.int .i64 s1, .int .i64 s2, .int .i64 s3, .int .i64 s4] 33) i1
  have e2 := blk_alloc_old (.cells #[.int .i64 s1, .int .i64 s2, .int .i64 s3, .int .i64 s4] 33) i2
  have e4 := blk_alloc_old (.cells #[.int .i64 s1, .int .i64 s2, .int .i64 s3, .int .i64 s4] 33) i3
  have e3 := blk_alloc V' (.cells #[.int .i64 s1, .int .i64 s2, .int .i64 s3, .int .i64 s4] 33)
  have hX := (Bel.refl V').alloc (.cells #[.int .i64 s1, .int .i64 s2, .int .i64 s3, .int .i64 s4] 33)
  clear i0 i1 i2 i3
  go_upto_region 17 with fail
  generalize V'.alloc (.cells #[.int .i64 s1, .int .i64 s2, .int .i64 s3, .int .i64 s4] 33) = V3 at e0 e1 e2 e3 e4 hX ⊢
  obtain ⟨j0, j1, j2, j3⟩ := four_cells e1
  obtain ⟨p0, p1, p2, p3, p4, p5, p6⟩ := seven_cells e4
  obtain ⟨o0, o1, o2, o3, o4, o5, o6⟩ := seven_frozen e4
  have l4 := heap_lt e4
  go_upto_region 18 with fail
  have hF4 := fr_four V3 B (.int .i64 (h'.P : Int)) (.slice (some ⟨g', 0, none⟩) 1024 fc') (.slice a' h'.S.length c') (.int .i64 (h'.last : Int))
  have r0 := hF4.heap e0 (by show ¬ B + 1 + 1 = B; omega)
  have r2 := hF4.heap e2 (by show ¬ D + 1 = B; omega)
  have r3 := hF4.heap e3 (by show ¬ V'.heap.size = B; have := heap_lt HL.out.2.2.2; omega)
  have r1 : ((((V3.setCell ⟨B, 0, none⟩ (.int .i64 (h'.P : Int))).setCell ⟨B, 1, none⟩ (.slice (some ⟨g', 0, none⟩) 1024 fc')).setCell ⟨B, 2, none⟩ (.slice a' h'.S.length c')).setCell ⟨B, 3, none⟩ (.int .i64 (h'.last : Int))).heap[B]? = some (.cells #[.int .i64 (h'.P : Int), .slice (some ⟨g', 0, none⟩) 1024 fc', .slice a' h'.S.length c', .int .i64 (h'.last : Int), .slice ka st.kept.length kc, .slice wa st.waits.length wn, .bool st.held] 46 (0, 0)) := by
    have h1 := blk_setCell e4 0 (.int .i64 (h'.P : Int))
    have h2 := blk_setCell h1 1 (.slice (some ⟨g', 0, none⟩) 1024 fc')
    have h3 := blk_setCell h2 2 (.slice a' h'.S.length c')
    have h4 := blk_setCell h3 3 (.int .i64 (h'.last : Int))
    simpa using h4
  have hX4 := (Fr.of_bel hX).trans' hF4
  clear hX hF4 e0 e1 e2 e3 e4 j0 j1 j2 j3 p0 p1 p2 p3 p4 p5 p6 o0 o1 o2 o3 o4 o5 o6 l4
  generalize (((V3.setCell ⟨B, 0, none⟩ (.int .i64 (h'.P : Int))).setCell ⟨B, 1, none⟩ (.slice (some ⟨g', 0, none⟩) 1024 fc')).setCell ⟨B, 2, none⟩ (.slice a' h'.S.length c')).setCell ⟨B, 3, none⟩ (.int .i64 (h'.last : Int)) = V2 at r0 r1 r2 r3 hX4 ⊢
  have HFIN : Hid (∀ y0 y1 y2 y3 y4 y5 y6 W9, W9 = (((((((V2.setCell ⟨B + 1 + 1, 0, none⟩ y0).setCell ⟨B + 1 + 1, 1, none⟩ y1).setCell ⟨B + 1 + 1, 2, none⟩ y2).setCell ⟨B + 1 + 1, 3, none⟩ y3).setCell ⟨B + 1 + 1, 4, none⟩ y4).setCell ⟨B + 1 + 1, 5, none⟩ y5).setCell ⟨B + 1 + 1, 6, none⟩ y6).drew → DoesPost w0 N w k hb bi st ⟨g, fc, a, c, ka, kc, wa, wn⟩ ⟨h', st.kept, st.waits, st.held⟩ ⟨g', fc', a', c', ka, kc, wa, wn⟩ W9) := Lib.hid (fun y0 y1 y2 y3 y4 y5 y6 W9 e9 => by
    have hF := ((hX4.mono (S' := fun i => i = B ∨ i = B + 1 + 1) (fun _ h => .inl h)).trans' ((fr_seven V2 (B + 1 + 1) y0 y1 y2 y3 y4 y5 y6).mono (fun _ h => .inr h))).drew
    rw [← e9] at hF
    have hlt := heap_lt HB.out.2.2.2
    exact does_fin HH.out HR.out HI.out HB.out.1 HP.out HL.out.1 HL.out.2.1 hF (fun i hi => by
      rcases hi with hi | hi
      · subst hi; exact ⟨by omega, by omega, _, _, HL.out.2.2.2, by decide⟩
      · subst hi; exact ⟨by omega, hlt, _, _, HL.out.2.2.1, by decide⟩))
  obtain ⟨y0, y1, y2, y3, y4, y5, y6⟩ := seven_cells r0
  obtain ⟨f0, f1, f2, f3, f4, f5, f6⟩ := seven_frozen r0
  obtain ⟨q0, q1, q2, q3, q4, q5, q6⟩ := seven_cells r1
  obtain ⟨s0', s1', s2', s3'⟩ := four_cells r2
  obtain ⟨x0', x1', x2', x3'⟩ := four_cells r3
  have l0 := heap_lt r0
  clear hX4 r0 r1 r2 r3
  go_region
  go_wp2
  refine bodyPost_ret (v := .tuple #[.bool true, kV ⟨h', st.kept, st.waits, st.held⟩ ⟨g', fc', a', c', ka, kc, wa, wn⟩]) (by simp [kV, kCells, results, Tryz.results16, go_sem, y0, y1, y2, y3, y4, y5, y6, l0]) rfl ?_
  exact ⟨⟨g', fc', a', c', ka, kc, wa, wn⟩, rfl, HFIN.out _ _ _ _ _ _ _ _ rfl⟩
theorem does10 {w0 w : World} {N : Nat → Prop} {k hb bi : Nat} {st : KS} {p : KP} (H : LiveK w0 N w k hb bi st) (R : RefK w st p) (hi : InN N p st) (x : Act10) (hx : Ok10 w x) (hll : x.ids.length ≤ 1024) (hl : st.h.last ≤ 4000) :
    Calls Tryz.prog 16 #[.pointer (some ⟨hb, 0, none⟩), .pointer (some ⟨k, 0, none⟩), kV st p, .agg #[.int .i64 x.kind, .int .i64 x.n, .int .i64 x.order, .bool x.on, .slice x.ia x.ids.length x.ic]] w fun e w' => ∃ p', e = .returned (.tuple #[.bool true, kV (st.act x) p']) ∧ DoesPost w0 N w k hb bi st p (st.act x) p' w' := by
  obtain ⟨kind, n, order, on, ia, ids, ic⟩ := x
  obtain ⟨hk, hn, ho, hm, hc, hr, hw⟩ := hx
  dsimp only at *
  unfold KS.act
  dsimp only
  by_cases h0 : kind = 0
  · subst h0; rw [if_pos rfl]; exact does10_take H R hi n order on ia _ ic hn hl
  by_cases h1 : kind = 1
  · subst h1; rw [if_neg (by decide), if_pos rfl]; exact does10_give H R hi n order on ia ids ic hll hc hr hw hl
  by_cases h2 : kind = 2
  · subst h2; rw [if_neg (by decide), if_neg (by decide), if_pos rfl]; exact does10_hold H R hi n order on ia _ ic hl
  by_cases h3 : kind = 3
  · subst h3; rw [if_neg (by decide), if_neg (by decide), if_neg (by decide), if_pos rfl]; exact does10_flush H R hi n order on ia _ ic hl
  · rw [if_neg h0, if_neg h1, if_neg h2, if_neg h3]; exact does10_make H R hi kind n order on ia _ ic hn ho h0 h1 h2 h3 hl
end Go.Proofs.YtbldidlbhahciaaGreat

namespace Go.Proofs.YtbldidlbhahciaaGreat
open Go.ChangeShapes Go.WideShapes Go.ChangeAt Go.RowKit Go.Deep

/-- The acts that came in. -/
structure Acts10 (W : World) (a : Option Addr) (n : Nat) (xs : List Act10) : Prop where
  len : n = xs.length
  max : xs.length ≤ maxLen
  rd : RdR W a 5 (xs.map c10)
  ok : ∀ x ∈ xs, Ok10 W x
def sh10 : Sh := .slice (.struct (.pair (.int .i64) (.pair (.int .i64) (.pair (.int .i64) (.pair .bool (.pair (.slice (.int .i64)) .unit))))))
theorem acts10 {W : World} {a : Option Addr} {n c : Nat} (h : RdC W sh10 [.slice a n c]) : ∃ xs, Acts10 W a n xs := by
  obtain ⟨a', c', rows, he, hl, hr, hR, _⟩ := h
  simp only [List.cons.injEq, Value.slice.injEq, and_true] at he
  obtain ⟨rfl, rfl, rfl⟩ := he
  obtain ⟨xs, rfl, hx⟩ := choose_list (f := c10) (p := Ok10 W) rows (fun r hrm => by
    obtain ⟨_, _, rfl, ⟨k, rfl, hk⟩, _, _, rfl, ⟨n, rfl, hn⟩, _, _, rfl, ⟨o, rfl, ho⟩, _, _, rfl, ⟨d, rfl⟩, _, _, rfl, hs, rfl⟩ := hr r hrm
    obtain ⟨wa, wc, ns, rfl, h1, h2, h3, h4⟩ := rd_nums hs
    exact ⟨⟨k, n, o, d, wa, ns, wc⟩, rfl, ⟨i64_of_wf hk, i64_of_wf hn, i64_of_wf ho, h1, h4, h2, h3⟩⟩)
  exact ⟨xs, by simp, by simpa using hl, hR, hx⟩
theorem sh10_is : sh10.isT Tryz.prog (.inl 40) :=
  ⟨_, Tryz.underlying40, by kernel_rfl, by decide, _, Tryz.underlying50, by kernel_rfl,
    rfl, by kernel_rfl, Tryz.underlying3, rfl, by kernel_rfl, Tryz.underlying3, rfl, by kernel_rfl, Tryz.underlying3, rfl, by kernel_rfl, Tryz.underlying4, rfl, by kernel_rfl, ⟨_, Tryz.underlying22, by kernel_rfl, by decide, Tryz.underlying3⟩, trivial⟩
theorem arg_acts10 {H : Type} {enc : TypeId × Value → H} {W : World} {a : Option Addr} {len cap : Nat} {d : DataW H} {ps : List MemPlace}
    (h : DataW.Trod enc Tryz.prog W 0 (fun _ => true) true 40 (.slice a len cap) d ps) : ∃ xs, Acts10 W a len xs :=
  acts10 (arg_shape sh10 sh10_is h)
end Go.Proofs.YtbldidlbhahciaaGreat

namespace Go.Proofs.YtbldidlbhahciaaGreat
open Go.RowKit

def OffK (B : Nat) (p : KP) (st : KS) : Prop := (∀ q, p.a = some q → st.h.S ≠ [] → q.block ≠ B) ∧ (∀ q, p.ka = some q → st.kept ≠ [] → q.block ≠ B) ∧ (∀ q, p.wa = some q → st.waits ≠ [] → q.block ≠ B)
structure Way10 (w : World) (B k hb bi : Nat) (i : Nat) (wr : World) (N : Nat → Prop) (st : KS) (p : KP) : Prop where
  live : LiveK w N wr k hb bi st
  ref : RefK wr st p
  inn : InN N p st
  box : wr.heap[B]? = some (.cells (kCells st p) 46 (0, 0))
  nB : N B
  wB : w.heap.size ≤ B
  off : OffK B p st
  last : st.h.last ≤ i
/-- Behind the act: the next one in a box of its own. -/
structure Mid10 (w : World) (B k hb bi : Nat) (st st' : KS) (p p' : KP) (D : Nat) (N' : Nat → Prop) (wx : World) : Prop where
  live : LiveK w N' wx k hb bi st'
  ref : RefK wx st' p'
  inn : InN N' p' st'
  nB : N' B
  old : wx.heap[B]? = some (.cells (kCells st p) 46 (0, 0))
  box : wx.heap[D]? = some (.cells (kCells st' p') 46 (0, 0))
  off : OffK B p' st'
  ne : D ≠ B
theorem DoesPost.own {w0 V V' : World} {N : Nat → Prop} {lo k hb bi j : Nat} {st st' : KS} {p p' : KP} {o : Obj} (P : DoesPost w0 (fun j => N j ∨ (lo ≤ j ∧ j < V.heap.size)) V k hb bi st p st' p' V') (h : V.heap[j]? = some o) (hl : lo ≤ j) : V'.heap[j]? = some o :=
  P.fr.heap h (fun hn => hn (.inr ⟨hl, heap_lt h⟩))
theorem RefK.store {V V' : World} {Q : Nat → Prop} {st : KS} {p : KP} (R : RefK V st p) (h : Fr Q V V') (hg : ∀ i, Q i → ∃ cs T, V.heap[i]? = some (.cells cs T (0, 0)) ∧ T ≠ 4) (ho : ∀ i, Q i → OffK i p st) : RefK V' st p := by
  refine ⟨R.heap.fr h (fun hq => ?_) (fun q hq hS hb => (ho _ hb).1 q hq hS rfl), R.kept.frS h (fun q hq hS hb => (ho _ hb).2.1 q hq hS rfl), R.waits.frS h (fun q hq hS hb => (ho _ hb).2.2 q hq hS rfl), R.kcap, R.wcap, R.knil, R.wnil⟩
  obtain ⟨cur, h0⟩ := R.heap.blk
  obtain ⟨cs, T, h1, h2⟩ := hg _ hq
  rw [h0] at h1
  simp only [Option.some.injEq, Obj.cells.injEq] at h1
  exact h2 h1.2.1.symm
theorem Way10.mid {w wr V V' wx : World} {N Q : Nat → Prop} {B k hb bi i D : Nat} {st st' : KS} {p p' : KP} (H : Way10 w B k hb bi i wr N st p) (hV : Bel wr V) (P : DoesPost w (fun j => N j ∨ (wr.heap.size ≤ j ∧ j < V.heap.size)) V k hb bi st p st' p' V') (hF : Fr Q V' wx)
    (hQ : ∀ i, Q i → wr.heap.size ≤ i ∧ i < V.heap.size ∧ ∃ cs T, V'.heap[i]? = some (.cells cs T (0, 0)) ∧ T ≠ 4) (gD : wx.heap[D]? = some (.cells (kCells st' p') 46 (0, 0))) (hD : wr.heap.size ≤ D) : ∃ N', Mid10 w B k hb bi st st' p p' D N' wx := by
  obtain ⟨N', hN, hL, hI⟩ := P.live
  have hB := heap_lt H.box
  have hwB := H.wB
  have hww := H.live.bel.size
  have hvs := hV.size
  have off : ∀ {a a' : Option Addr} {S S' : List Sp}, Fresh V a S a' S' → (S ≠ [] → ∀ q, a = some q → q.block < wr.heap.size) → ∀ i, wr.heap.size ≤ i → i < V.heap.size → ∀ q, a' = some q → S' ≠ [] → q.block ≠ i := fun f h i h1 h2 q hq hS => by
    rcases f with ⟨rfl, h3⟩ | ⟨q', h3, h4⟩
    · have := h (h3 hS) q hq; omega
    · rw [hq] at h3; cases h3; omega
  have offB : ∀ {a a' : Option Addr} {S S' : List Sp}, Fresh V a S a' S' → (∀ q, a = some q → S ≠ [] → q.block ≠ B) → ∀ q, a' = some q → S' ≠ [] → q.block ≠ B := fun f h q hq hS => by
    rcases f with ⟨rfl, h3⟩ | ⟨q', h3, h4⟩
    · exact h q hq (h3 hS)
    · rw [hq] at h3; cases h3; omega
  refine ⟨N', hL.fr hF (fun i hi => ⟨hN _ (.inr ⟨(hQ i hi).1, (hQ i hi).2.1⟩), Nat.le_trans hww (hQ i hi).1⟩), P.ref.store hF (fun i hi => (hQ i hi).2.2) (fun i hi => ⟨off P.fa H.ref.heap.lt i (hQ i hi).1 (hQ i hi).2.1, off P.fk H.ref.kept.lt i (hQ i hi).1 (hQ i hi).2.1, off P.fw H.ref.waits.lt i (hQ i hi).1 (hQ i hi).2.1⟩), hI, hN _ (.inl H.nB), ?_, gD, ⟨offB P.fa H.off.1, offB P.fk H.off.2.1, offB P.fw H.off.2.2⟩, by omega⟩
  exact hF.heap (P.fr.heap (hV.blk H.box) (fun h => h (.inl H.nB))) (fun hq => by have := (hQ B hq).1; omega)
theorem Mid10.way {w wx W2 : World} {N' : Nat → Prop} {B k hb bi i D : Nat} {st st' : KS} {p p' : KP} (H : Mid10 w B k hb bi st st' p p' D N' wx) (hw : w.heap.size ≤ B) (hl : st'.h.last ≤ i) (hF : Fr (fun j => j = B) wx W2) (hB : W2.heap[B]? = some (.cells (kCells st' p') 46 (0, 0))) : Way10 w B k hb bi i W2 N' st' p' :=
  ⟨H.live.fr hF (fun i hi => by subst hi; exact ⟨H.nB, hw⟩), H.ref.store hF (fun i hi => by subst hi; exact ⟨_, _, H.old, by decide⟩) (fun i hi => by subst hi; exact H.off), H.inn, hB, H.nB, hw, H.off, hl⟩
/-- The spans of a heap, in order. -/
theorem HpOk.sorted {h : Hp} (H : HpOk h) : SortedSpans h.S (bucketS h.S h.P) ∧ ∀ zs, SortedSpans h.S zs → zs = bucketS h.S h.P := by
  obtain ⟨L, ids, hi, hl⟩ := H
  exact ⟨by rw [← hl]; exact bucket_all hi, fun zs hz => by rw [← hl]; exact (bucket_eq hi hz).symm⟩
theorem seven_set {w : World} {R T : Nat} {x0 x1 x2 x3 x4 x5 x6 : Value} (h : w.heap[R]? = some (.cells #[x0, x1, x2, x3, x4, x5, x6] T (0, 0))) (a b c d e f g : Value) :
    (((((((w.setCell ⟨R, 0, none⟩ a).setCell ⟨R, 1, none⟩ b).setCell ⟨R, 2, none⟩ c).setCell ⟨R, 3, none⟩ d).setCell ⟨R, 4, none⟩ e).setCell ⟨R, 5, none⟩ f).setCell ⟨R, 6, none⟩ g).heap[R]? = some (.cells #[a, b, c, d, e, f, g] T (0, 0)) := by
  have h1 := blk_setCell h 0 a
  have h2 := blk_setCell h1 1 b
  have h3 := blk_setCell h2 2 c
  have h4 := blk_setCell h3 3 d
  have h5 := blk_setCell h4 4 e
  have h6 := blk_setCell h5 5 f
  have h7 := blk_setCell h6 6 g
  simpa using h7
end Go.Proofs.YtbldidlbhahciaaGreat

namespace Go.Proofs.YtbldidlbhahciaaGreat
open Go.RowKit

set_option maxRecDepth 20000 in
theorem ref7_same (a b : Option Addr) (zs : List Sp) (c d : Nat) (w : World) (hl : zs.length ≤ 65536) (ha : SpansIn w a zs) (hb : SpansIn w b zs) :
    Calls Tryz.prog 20 #[.slice a zs.length c, .slice b zs.length d] w fun e w' => e = .returned (.bool true) ∧ Bel w w' := by
  have HA := Lib.hid ha
  have HB := Lib.hid hb
  clear ha hb
  go_enter Tryz.func20, Tryz.ntmps20
  go_wp2_with fail
  go_loopw [13] (fun k wr => ∃ i : Nat, i ≤ zs.length ∧ k = .int .i64 i ∧ Bel w wr) (fun k wr => zs.length - (intOf k).toNat)
  case atStart => exact ⟨0, Nat.zero_le _, rfl, Bel.refl _⟩
  case round =>
    obtain ⟨i, hi, rfl, hB⟩ := hrel
    by_cases hlt : i < zs.length
    · obtain ⟨b1, o1, rfl, p0, p1, p2, p3⟩ := (HA.out.bel hB).at i hlt
      obtain ⟨b2, o2, rfl, q0, q1, q2, q3⟩ := (HB.out.bel hB).at i hlt
      obtain ⟨x, hx⟩ : ∃ x, zs[i] = x := ⟨_, rfl⟩
      rw [hx] at p0 p1 p2 p3 q0 q1 q2 q3
      obtain ⟨x1, ⟨x2, x3⟩, x4⟩ := x
      dsimp only at p0 p1 p2 p3 q0 q1 q2 q3
      have HBB := Lib.hid hB
      clear hB hx
      go_wp2_with fail
      go_region
      go_wp2
      go_roundw
      case rel => exact ⟨i + 1, by omega, by go_num, HBB.out.drew⟩
      case measure => simp [intOf]; omega
    · obtain rfl : i = zs.length := by omega
      go_wp2
      go_ret
      exact ⟨rfl, hB⟩
end Go.Proofs.YtbldidlbhahciaaGreat

namespace Go.Proofs.YtbldidlbhahciaaGreat
open Go.RowKit

theorem gives_heap : ∀ (l : List Sp) (k : KS), k.held = true → (l.foldl KS.give1 k).h = k.h
  | [], _, _ => rfl
  | s :: l, k, h => by
    have e : k.give1 s = ⟨k.h, k.kept, k.waits ++ [s], k.held⟩ := by unfold KS.give1; rw [if_pos h]
    rw [List.foldl_cons, e]; exact gives_heap l ⟨k.h, k.kept, k.waits ++ [s], k.held⟩ h
theorem make_grows (h : Hp) (n ord : Int) : h.S.length ≤ (h.make n ord).1.S.length := by
  unfold Hp.make
  split
  · exact Nat.le_refl _
  · split
    · exact Nat.le_refl _
    · simp
theorem act_spans (st : KS) (x : Act10) (h1 : st.held = true) (h2 : (st.act x).held = true) (h3 : x.kind ≠ 3) : st.h.S.length ≤ (st.act x).h.S.length := by
  unfold KS.act at h2 ⊢
  by_cases k0 : x.kind = 0
  · rw [if_pos k0] at h2 ⊢
    unfold KS.take
    split
    · split
      · exact Nat.le_refl _
      · exact make_grows _ _ _
    · exact Nat.le_refl _
  rw [if_neg k0] at h2 ⊢
  by_cases k1 : x.kind = 1
  · rw [if_pos k1] at h2 ⊢
    unfold KS.give
    split
    · split
      · exact Nat.le_refl _
      · dsimp only; rw [gives_heap _ _ h1]; exact Nat.le_refl _
    · exact Nat.le_refl _
  rw [if_neg k1] at h2 ⊢
  by_cases k2 : x.kind = 2
  · rw [if_pos k2] at h2 ⊢
    unfold KS.hold at h2 ⊢
    split
    · exact Nat.le_refl _
    · rename_i h9
      rw [if_neg h9] at h2; cases h2
  rw [if_neg k2, if_neg h3]
  exact make_grows _ _ _
theorem act_waits {st : KS} (H : KInv st) (x : Act10) (h : (st.act x).held = false) : (st.act x).waits = [] := (H.act x).free h
theorem risen_len {w : World} {S : List Sp} {e : Ending} {w' : World} (h : RisenSpans w S e w') : ∃ a c, e = .returned (.slice a S.length c) ∧ Bel w w' := by
  obtain ⟨a, c, zs, rfl, hz, _, hB, _⟩ := h
  exact ⟨a, c, by rw [hz.1.length_eq], hB⟩
set_option maxHeartbeats 40000000 in
set_option maxRecDepth 20000 in
theorem largeHolds_walk (pages : Int) (sa : Option Addr) (xs : List Act10) (m0 c0 : Nat) (w : World) (hp : I64 pages) (hA : Acts10 w sa m0 xs) :
    Calls Tryz.prog 5 #[.int .i64 pages, .slice sa m0 c0] w fun e w' => e = .returned (.bool true) ∧ Bel w w' := by
  obtain ⟨rfl, hl, hrd, hok⟩ := hA
  have hl2 : xs.length ≤ 9223372036854775807 := by unfold maxLen at hl; omega
  by_cases hpg : pages < 4 ∨ 1024 < pages
  · have HNB := Lib.hid (heap_New_bad pages w hp hpg)
    clear hrd hok hpg
    by_cases c0 : 100 < pages
    · go_enter Tryz.func5, Tryz.ntmps5
      go_wp2_with fail
      refine HNB.out.mono ?_; rintro e w1 ⟨rfl, rfl⟩
      go_wp2_with fail
      refine (awake10 _).mono ?_; rintro e w' ⟨rfl, hB⟩
      go_wp2
      go_ret
      exact ⟨rfl, hB⟩
    by_cases c1 : 100 < (xs.length : Int)
    all_goals
      go_enter Tryz.func5, Tryz.ntmps5
      go_wp2_with fail
      refine HNB.out.mono ?_; rintro e w1 ⟨rfl, rfl⟩
      go_wp2_with fail
      refine (awake10 _).mono ?_; rintro e w' ⟨rfl, hB⟩
      go_wp2
      go_ret
      exact ⟨rfl, hB⟩
  obtain ⟨P, rfl⟩ := Int.eq_ofNat_of_zero_le (show 0 ≤ pages by omega)
  have hP : 4 ≤ P ∧ P ≤ 1024 := by omega
  have HNEW := Lib.hid (heap_New P w hP.1 hP.2)
  have HRD := Lib.hid hrd
  have HOK := Lib.hid hok
  clear hrd hok hpg
  by_cases c3 : 100 < (P : Int)
  · go_enter Tryz.func5, Tryz.ntmps5
    go_wp2_with fail
    refine HNEW.out.mono ?_; rintro e w1 hN
    obtain ⟨hb, bi, rfl, hL⟩ := liveG_new hN
    have HB := Lib.hid hL.bel
    clear hN hL
    go_wp2_with fail
    refine (awake10 _).mono ?_; rintro e w' ⟨rfl, hB⟩
    go_wp2
    go_ret
    exact ⟨rfl, HB.out.trans hB⟩
  by_cases c4 : 100 < (xs.length : Int)
  · go_enter Tryz.func5, Tryz.ntmps5
    go_wp2_with fail
    refine HNEW.out.mono ?_; rintro e w1 hN
    obtain ⟨hb, bi, rfl, hL⟩ := liveG_new hN
    have HB := Lib.hid hL.bel
    clear hN hL
    go_wp2_with fail
    refine (awake10 _).mono ?_; rintro e w' ⟨rfl, hB⟩
    go_wp2
    go_ret
    exact ⟨rfl, HB.out.trans hB⟩
  have c2 : xs.length ≤ 100 := by omega
  go_enter Tryz.func5, Tryz.ntmps5
  go_wp2_with fail
  refine HNEW.out.mono ?_; rintro e w1 hN
  obtain ⟨hb, bi, rfl, hL⟩ := liveG_new hN
  have HL0 := Lib.hid hL
  clear hN hL HNEW
  go_wp2_with fail
  refine (large_New HL0.out).mono ?_
  rintro e w2 ⟨k, rfl, hL2, hB2⟩
  have HL2 := Lib.hid hL2
  clear hL2 hB2 HL0
  go_wp2_with fail
  refine (ref7_New P _ hP.1 hP.2).mono ?_
  rintro e w3 ⟨g, fc, rfl, hO, hB3⟩
  simp only [hV]
  have hB0 := ((Bel.refl w2).alloc (.cells #[.int .i64 0, .slice none 0 0, .slice none 0 0, .int .i64 0, .slice none 0 0, .slice none 0 0, .bool false] 46)).trans hB3
  have gb := hB3.blk (blk_alloc w2 (.cells #[.int .i64 0, .slice none 0 0, .slice none 0 0, .int .i64 0, .slice none 0 0, .slice none 0 0, .bool false] 46))
  have hR3 : RefG w3 g fc none 0 (hpNew P) := ⟨_, ⟨hO, .inl rfl, fun _ => ⟨rfl, rfl⟩, Nat.le_refl _⟩, by rw [HpOk.empty (hpNew_ok hP.1 hP.2) rfl]; exact twin_start hP.1 hP.2⟩
  obtain ⟨B, hB⟩ : ∃ B, w2.heap.size = B := ⟨_, rfl⟩
  rw [hB] at gb ⊢
  have l0 := heap_lt gb
  have hwB : w.heap.size ≤ B := by have := HL2.out.bel.size; omega
  obtain ⟨q0, q1, q2, q3, q4, q5, q6⟩ := seven_cells gb
  obtain ⟨f0, f1, f2, f3, f4, f5, f6⟩ := seven_frozen gb
  have HW0 : Hid (∀ W0, W0 = (((w3.setCell ⟨B, 0, none⟩ (.int .i64 (P : Int))).setCell ⟨B, 1, none⟩ (.slice (some ⟨g, 0, none⟩) 1024 fc)).setCell ⟨B, 2, none⟩ (.slice none 0 0)).setCell ⟨B, 3, none⟩ (.int .i64 ((0 : Nat) : Int)) → ∃ N st p, Way10 w B k hb bi 0 W0 N st p) := Lib.hid (fun W0 e0 => by
    have hF := fr_four w3 B (.int .i64 (P : Int)) (.slice (some ⟨g, 0, none⟩) 1024 fc) (.slice none 0 0) (.int .i64 ((0 : Nat) : Int))
    rw [← e0] at hF
    obtain ⟨cur, hg⟩ := hR3.blk
    have RK : Fr (fun k => k = B) w3 W0 → RefK W0 (ksNew (hpNew P)) ⟨g, fc, none, 0, none, 0, none, 0⟩ := fun hF => by
      have hRK : RefK w3 (ksNew (hpNew P)) ⟨g, fc, none, 0, none, 0, none, 0⟩ := ⟨hR3, .inl rfl, .inl rfl, Nat.le_refl _, Nat.le_refl _, (fun _ => ⟨rfl, rfl⟩), (fun _ => ⟨rfl, rfl⟩)⟩
      exact hRK.store hF (fun i hi => by subst hi; exact ⟨_, _, gb, by decide⟩) (fun i hi => ⟨(fun q hq _ => by cases hq), (fun q hq _ => by cases hq), (fun q hq _ => by cases hq)⟩)
    have hL3 := (HL2.out.watch hB0 (fun i => w2.heap.size ≤ i ∧ i < w3.heap.size) (fun i hi => hi)).add hg notHeap_bool (by decide) (by decide)
    have hbox : W0.heap[B]? = some (.cells (kCells (ksNew (hpNew P)) ⟨g, fc, none, 0, none, 0, none, 0⟩) 46 (0, 0)) := by
      rw [e0]
      have h1 := blk_setCell gb 0 (.int .i64 (P : Int))
      have h2 := blk_setCell h1 1 (.slice (some ⟨g, 0, none⟩) 1024 fc)
      have h3 := blk_setCell h2 2 (.slice none 0 0)
      have h4 := blk_setCell h3 3 (.int .i64 ((0 : Nat) : Int))
      exact h4
    refine ⟨_, ksNew (hpNew P), ⟨g, fc, none, 0, none, 0, none, 0⟩, hL3.fr hF (fun i hi => by subst hi; exact ⟨.inl (.inr ⟨by omega, l0⟩), hwB⟩), ?_, ?_, hbox, ?_, hwB, ?_, Nat.le_refl _⟩
    · exact RK hF
    · exact ⟨.inr rfl, (fun q hq _ => by cases hq), (fun q hq _ => by cases hq), (fun q hq _ => by cases hq)⟩
    · exact .inl (.inr ⟨by omega, l0⟩)
    · exact ⟨(fun q hq _ => by cases hq), (fun q hq _ => by cases hq), (fun q hq _ => by cases hq)⟩)
  clear hO hB3 hB0 gb hR3 hB
  go_wp2_with fail
  have HW1 := Lib.hid (HW0.out _ rfl)
  clear HW0 q0 q1 q2 q3 q4 q5 q6 f0 f1 f2 f3 f4 f5 f6
  generalize (((w3.setCell ⟨B, 0, none⟩ (.int .i64 (P : Int))).setCell ⟨B, 1, none⟩ (.slice (some ⟨g, 0, none⟩) 1024 fc)).setCell ⟨B, 2, none⟩ (.slice none 0 0)).setCell ⟨B, 3, none⟩ (.int .i64 ((0 : Nat) : Int)) = W0 at HW1 ⊢
  clear l0
  go_loopw [9] (fun kk wr => ∃ i : Nat, i ≤ xs.length ∧ kk = .int .i64 i ∧ Hid (∃ N st p, Way10 w B k hb bi i wr N st p)) (fun kk wr => xs.length - (intOf kk).toNat)
  case atStart => exact ⟨0, Nat.zero_le _, rfl, HW1⟩
  case round =>
    clear HW1
    obtain ⟨i, hi, rfl, HX⟩ := hrel
    obtain ⟨N, st, ⟨g, fc, a, c, ka, kc, wa, wn⟩, hX⟩ := HX.out
    have HY := Lib.hid hX
    have hbx := hX.box
    simp only [kCells] at hbx
    obtain ⟨y0, y1, y2, y3, y4, y5, y6⟩ := seven_cells hbx
    have hlB := heap_lt hbx
    clear HX hX
    by_cases hlt : i < xs.length
    · obtain ⟨b, o, rfl, hra⟩ := (HRD.out.bel HY.out.live.bel).at i hlt
      obtain ⟨b', o', e', hra0⟩ := HRD.out.at i hlt
      cases e'
      have hx := HOK.out xs[i] (List.getElem_mem _)
      generalize xs[i] = x at hra hra0 hx
      have q0 : wr.cell? ⟨b, o + i * 5, none⟩ = some (.int .i64 x.kind) := hra 0 _ rfl
      have q1 : wr.cell? ⟨b, o + i * 5 + 1, none⟩ = some (.int .i64 x.n) := hra 1 _ rfl
      have q2 : wr.cell? ⟨b, o + i * 5 + 2, none⟩ = some (.int .i64 x.order) := hra 2 _ rfl
      have q3 : wr.cell? ⟨b, o + i * 5 + 3, none⟩ = some (.bool x.on) := hra 3 _ rfl
      have q4 : wr.cell? ⟨b, o + i * 5 + 4, none⟩ = some (.slice x.ia x.ids.length x.ic) := hra 4 _ rfl
      have hxl : x.ids.length ≤ 9223372036854775807 := by have := hx.len; unfold maxLen at this; omega
      have hlb : b < w.heap.size := World.block_lt_of_cell? w ⟨b, o + i * 5 + 1, none⟩ (hra0 1 _ rfl)
      have HXO := Lib.hid hx
      have d0 : (i : Int) < xs.length := by omega
      have HKA : Hid (∀ V, Bel w V → (V.cell? ⟨b, o + i * 5, none⟩ = some (.int .i64 x.kind) ∧ V.cell? ⟨b, o + i * 5 + 1, none⟩ = some (.int .i64 x.n) ∧ V.cell? ⟨b, o + i * 5 + 2, none⟩ = some (.int .i64 x.order) ∧ V.cell? ⟨b, o + i * 5 + 3, none⟩ = some (.bool x.on) ∧ V.cell? ⟨b, o + i * 5 + 4, none⟩ = some (.slice x.ia x.ids.length x.ic))) := Lib.hid (fun V hV => ⟨hV.cell (hra0 0 _ rfl), hV.cell (hra0 1 _ rfl), hV.cell (hra0 2 _ rfl), hV.cell (hra0 3 _ rfl), hV.cell (hra0 4 _ rfl)⟩)
      clear hra hra0 hx
      by_cases c5 : 20 < (x.ids.length : Int)
      · go_wp2_with fail
        refine (awake10 _).mono ?_; rintro e w' ⟨rfl, hB⟩
        go_wp2
        go_ret
        exact ⟨rfl, HY.out.live.bel.trans hB⟩
      have HDOES : Hid (∀ V, Bel wr V → Calls Tryz.prog 16 #[.pointer (some ⟨hb, 0, none⟩), .pointer (some ⟨k, 0, none⟩), .agg #[.int .i64 (st.h.P : Int), .slice (some ⟨g, 0, none⟩) 1024 fc, .slice a st.h.S.length c, .int .i64 (st.h.last : Int), .slice ka st.kept.length kc, .slice wa st.waits.length wn, .bool st.held], .agg #[.int .i64 x.kind, .int .i64 x.n, .int .i64 x.order, .bool x.on, .slice x.ia x.ids.length x.ic]] V fun e V' => ∃ st' p', st' = st.act x ∧ e = .returned (.tuple #[.bool true, .agg #[.int .i64 (st'.h.P : Int), .slice (some ⟨p'.g, 0, none⟩) 1024 p'.fc, .slice p'.a st'.h.S.length p'.c, .int .i64 (st'.h.last : Int), .slice p'.ka st'.kept.length p'.kc, .slice p'.wa st'.waits.length p'.wc, .bool st'.held]]) ∧ Bel wr V ∧ DoesPost w (fun j => N j ∨ (wr.heap.size ≤ j ∧ j < V.heap.size)) V k hb bi st ⟨g, fc, a, c, ka, kc, wa, wn⟩ st' p' V' ∧ (V'.cell? ⟨B, 0, none⟩ = some (.int .i64 (st.h.P : Int)) ∧ V'.cell? ⟨B, 1, none⟩ = some (.slice (some ⟨g, 0, none⟩) 1024 fc) ∧ V'.cell? ⟨B, 2, none⟩ = some (.slice a st.h.S.length c) ∧ V'.cell? ⟨B, 3, none⟩ = some (.int .i64 (st.h.last : Int)) ∧ V'.cell? ⟨B, 4, none⟩ = some (.slice ka st.kept.length kc) ∧ V'.cell? ⟨B, 5, none⟩ = some (.slice wa st.waits.length wn) ∧ V'.cell? ⟨B, 6, none⟩ = some (.bool st.held) ∧ V'.cell? ⟨b, o + i * 5, none⟩ = some (.int .i64 x.kind) ∧ V'.cell? ⟨b, o + i * 5 + 1, none⟩ = some (.int .i64 x.n) ∧ V'.cell? ⟨b, o + i * 5 + 2, none⟩ = some (.int .i64 x.order) ∧ V'.cell? ⟨b, o + i * 5 + 3, none⟩ = some (.bool x.on) ∧ V'.cell? ⟨b, o + i * 5 + 4, none⟩ = some (.slice x.ia x.ids.length x.ic))) := Lib.hid (fun V hV => by
        refine (does10 (HY.out.live.watch hV (fun j => wr.heap.size ≤ j ∧ j < V.heap.size) (fun j hj => hj)) (HY.out.ref.bel hV) (HY.out.inn.mono (fun j hj => .inl hj)) x ?_ (by omega) (by have := HY.out.last; omega)).mono ?_
        · have := HXO.out
          exact ⟨this.kind, this.n, this.order, this.len, this.cap, this.rd.bel (HY.out.live.bel.trans hV), this.ok⟩
        · rintro e V' ⟨p', h1, h2⟩
          have h3 := h2.fr.heap (hV.blk hbx) (fun h => h (.inl HY.out.nB))
          obtain ⟨N9, _, h4, _⟩ := h2.live
          obtain ⟨z0, z1, z2, z3, z4, z5, z6⟩ := seven_cells h3
          exact ⟨_, p', rfl, h1, hV, h2, z0, z1, z2, z3, z4, z5, z6, HKA.out V' h4.bel⟩)
      have HKP : Hid (∀ V, Bel wr V → (V.cell? ⟨B, 0, none⟩ = some (.int .i64 (st.h.P : Int)) ∧ V.cell? ⟨B, 1, none⟩ = some (.slice (some ⟨g, 0, none⟩) 1024 fc) ∧ V.cell? ⟨B, 2, none⟩ = some (.slice a st.h.S.length c) ∧ V.cell? ⟨B, 3, none⟩ = some (.int .i64 (st.h.last : Int)) ∧ V.cell? ⟨B, 4, none⟩ = some (.slice ka st.kept.length kc) ∧ V.cell? ⟨B, 5, none⟩ = some (.slice wa st.waits.length wn) ∧ V.cell? ⟨B, 6, none⟩ = some (.bool st.held) ∧ V.cell? ⟨b, o + i * 5, none⟩ = some (.int .i64 x.kind) ∧ V.cell? ⟨b, o + i * 5 + 1, none⟩ = some (.int .i64 x.n) ∧ V.cell? ⟨b, o + i * 5 + 2, none⟩ = some (.int .i64 x.order) ∧ V.cell? ⟨b, o + i * 5 + 3, none⟩ = some (.bool x.on) ∧ V.cell? ⟨b, o + i * 5 + 4, none⟩ = some (.slice x.ia x.ids.length x.ic))) := Lib.hid (fun V hV => ⟨hV.cell y0, hV.cell y1, hV.cell y2, hV.cell y3, hV.cell y4, hV.cell y5, hV.cell y6, HKA.out V (HY.out.live.bel.trans hV)⟩)
      have HSPN := Lib.hid (fun V (hV : Bel wr V) => HY.out.live.heapSpans V hV)
      have hsl : st.h.S.length ≤ 9223372036854775807 := by have := HY.out.live.inv.ok.count; have := HY.out.last; omega
      go_wp2_with fail
      refine (HSPN.out _ (Bel.refl _)).mono ?_
      rintro e w5 h5
      obtain ⟨a5, c5', rfl, hB5⟩ := risen_len h5
      have hbx5 := hB5.blk hbx
      have hw5 := HKP.out w5 hB5
      have hs5 := hB5.size
      have l1 : B < w5.heap.size := by omega
      have l3 : b < w5.heap.size := by have := HY.out.live.bel.size; omega
      have HB5 := Lib.hid hB5
      clear h5 hB5 y0 y1 y2 y3 y4 y5 y6 q0 q1 q2 q3 q4 HSPN
      obtain ⟨y0, y1, y2, y3, y4, y5, y6, q0, q1, q2, q3, q4⟩ := hw5
      obtain ⟨f0, f1, f2, f3, f4, f5, f6⟩ := seven_frozen hbx5
      go_wp2_with fail
      have HNXT : Hid (∀ V p' W9, Bel wr V → DoesPost w (fun j => N j ∨ (wr.heap.size ≤ j ∧ j < V.heap.size)) V k hb bi st ⟨g, fc, a, c, ka, kc, wa, wn⟩ (st.act x) p' W9 → ∃ N', ∀ W2, W2 = ((((((W9.setCell ⟨B, 0, none⟩ (.int .i64 ((st.act x).h.P : Int))).setCell ⟨B, 1, none⟩ (.slice (some ⟨p'.g, 0, none⟩) 1024 p'.fc)).setCell ⟨B, 2, none⟩ (.slice p'.a (st.act x).h.S.length p'.c)).setCell ⟨B, 3, none⟩ (.int .i64 ((st.act x).h.last : Int))).setCell ⟨B, 4, none⟩ (.slice p'.ka (st.act x).kept.length p'.kc)).setCell ⟨B, 5, none⟩ (.slice p'.wa (st.act x).waits.length p'.wc)).setCell ⟨B, 6, none⟩ (.bool (st.act x).held) → Way10 w B k hb bi (i + 1) W2 N' (st.act x) p') := Lib.hid (fun V p' W9 hV hD => by
        obtain ⟨N9, h1, h2, h3⟩ := hD.live
        have hold := hD.fr.heap (hV.blk HY.out.box) (fun h => h (.inl HY.out.nB))
        have offB : ∀ {a a' : Option Addr} {S S' : List Sp}, Fresh V a S a' S' → (∀ q, a = some q → S ≠ [] → q.block ≠ B) → ∀ q, a' = some q → S' ≠ [] → q.block ≠ B := fun f h q hq hS => by
          rcases f with ⟨rfl, h3⟩ | ⟨q', h3, h4⟩
          · exact h q hq (h3 hS)
          · rw [hq] at h3; cases h3; have := hV.size; omega
        refine ⟨N9, fun W2 e2 => ?_⟩
        have hF := fr_seven W9 B (.int .i64 ((st.act x).h.P : Int)) (.slice (some ⟨p'.g, 0, none⟩) 1024 p'.fc) (.slice p'.a (st.act x).h.S.length p'.c) (.int .i64 ((st.act x).h.last : Int)) (.slice p'.ka (st.act x).kept.length p'.kc) (.slice p'.wa (st.act x).waits.length p'.wc) (.bool (st.act x).held)
        rw [← e2] at hF
        have hoff : OffK B p' (st.act x) := ⟨offB hD.fa HY.out.off.1, offB hD.fk HY.out.off.2.1, offB hD.fw HY.out.off.2.2⟩
        have hl9 := act_last st x
        have hl8 := HY.out.last
        simp only [kCells] at hold
        exact ⟨h2.fr hF (fun i hi => by subst hi; exact ⟨h1 _ (.inl HY.out.nB), HY.out.wB⟩), hD.ref.store hF (fun i hi => by subst hi; exact ⟨_, _, hold, by decide⟩) (fun i hi => by subst hi; exact hoff), h3, by rw [e2]; exact seven_set hold _ _ _ _ _ _ _, h1 _ (.inl HY.out.nB), HY.out.wB, hoff, by omega⟩)
      go_cut [] (fun wx => ∃ p' N', Way10 w B k hb bi (i + 1) wx N' (st.act x) p')
      case first =>
        go_region_law (first
          | (go_simp; go_at_call 16; (with_reducible refine (HDOES.out _ ?b1).mono ?_); (case b1 => first | exact HB5.out | exact HB5.out.drew); rintro e w7 ⟨_, p', rfl, rfl, hV7, hD7, z0, z1, z2, z3, z4, z5, z6, hS7⟩; have gB7 := hD7.fr.heap (hV7.blk hbx) (fun h => h (.inl HY.out.nB)); obtain ⟨e0, e1, e2, e3, e4, e5, e6⟩ := seven_frozen gB7; have l9 := heap_lt gB7))
        all_goals
          go_wp2_with fail
          go_meet
          obtain ⟨N9, h9⟩ := HNXT.out _ p' w7 hV7 hD7
          exact ⟨p', N9, h9 _ rfl⟩
      case rest =>
        obtain ⟨p', N', hW⟩ := hcut
        have HW9 := Lib.hid hW
        have hbx6 := hW.box
        simp only [kCells] at hbx6
        obtain ⟨z0, z1, z2, z3, z4, z5, z6⟩ := seven_cells hbx6
        obtain ⟨q0, q1, q2, q3, q4⟩ := HKA.out wc hW.live.bel
        have HSP2 := Lib.hid (fun V (hV : Bel wc V) => hW.live.heapSpans V hV)
        have HNX : Hid (∀ V, Bel wc V → ∃ N st p, Way10 w B k hb bi (i + 1) V N st p) := Lib.hid (fun V hV => ⟨N', st.act x, p', hW.live.then_bel hV, hW.ref.bel hV, hW.inn, hV.blk hW.box, hW.nB, hW.wB, hW.off, hW.last⟩)
        have hsl2 : (st.act x).h.S.length ≤ 9223372036854775807 := by have := hW.live.inv.ok.count; have := hW.last; omega
        clear hW hbx6 y0 y1 y2 y3 y4 y5 y6 f0 f1 f2 f3 f4 f5 f6 HNXT HDOES hbx5
        rcases Bool.eq_false_or_eq_true st.held with hh1 | hh1 <;> rcases Bool.eq_false_or_eq_true (st.act x).held with hh2 | hh2
        · by_cases hk3 : x.kind = 3
          · have e3 : (x.kind != 3) = false := by simp [hk3]
            clear hk3
            rw [hh2] at z6
            have HN9 := Lib.hid (HNX.out _ (Bel.refl _))
            go_wp2
            go_roundw
            case rel =>
              (repeat (apply Exists.intro)); refine ⟨⟨i + 1, by omega, rfl, HN9⟩, ?_⟩
              (repeat' apply And.intro) <;> first | rfl | go_num
            case measure => simp [intOf]; omega
          · have e3 : (x.kind != 3) = true := by simp [hk3]
            have hns : ¬ ((st.act x).h.S.length : Int) < (st.h.S.length : Int) := by have := act_spans st x hh1 hh2 hk3; omega
            rw [hh2] at z6
            go_wp2_with fail
            refine (HSP2.out _ (Bel.refl _)).mono ?_
            rintro e w6 h6
            obtain ⟨a6, c6, rfl, hB6⟩ := risen_len h6
            have z6' := hB6.cell z6
            have HN9 := Lib.hid (HNX.out _ hB6)
            clear h6 hB6
            go_wp2
            go_roundw
            case rel =>
              (repeat (apply Exists.intro)); refine ⟨⟨i + 1, by omega, rfl, HN9⟩, ?_⟩
              (repeat' apply And.intro) <;> first | rfl | go_num
            case measure => simp [intOf]; omega
        · rw [hh2] at z6
          have HWT := Lib.hid (large_Waits HW9.out.live (by rw [act_waits HY.out.live.inv x hh2]; simp))
          have hw0 := act_waits HY.out.live.inv x hh2
          go_wp2_with fail
          refine HWT.out.mono ?_
          rintro e w6 ⟨v6, rfl, h6, hB6⟩
          obtain ⟨a6, c6, rfl, _, _⟩ := own_slice h6
          rw [hw0]
          simp only [idsOf, List.map_nil, List.length_nil]
          have HN9 := Lib.hid (HNX.out _ hB6)
          clear h6 hB6
          go_wp2
          go_roundw
          case rel =>
            (repeat (apply Exists.intro)); refine ⟨⟨i + 1, by omega, rfl, HN9⟩, ?_⟩
            (repeat' apply And.intro) <;> first | rfl | go_num
          case measure => simp [intOf]; omega
        · rw [hh2] at z6
          have HN9 := Lib.hid (HNX.out _ (Bel.refl _))
          go_wp2
          go_roundw
          case rel =>
            (repeat (apply Exists.intro)); refine ⟨⟨i + 1, by omega, rfl, HN9⟩, ?_⟩
            (repeat' apply And.intro) <;> first | rfl | go_num
          case measure => simp [intOf]; omega
        · rw [hh2] at z6
          have HWT := Lib.hid (large_Waits HW9.out.live (by rw [act_waits HY.out.live.inv x hh2]; simp))
          have hw0 := act_waits HY.out.live.inv x hh2
          go_wp2_with fail
          refine HWT.out.mono ?_
          rintro e w6 ⟨v6, rfl, h6, hB6⟩
          obtain ⟨a6, c6, rfl, _, _⟩ := own_slice h6
          rw [hw0]
          simp only [idsOf, List.map_nil, List.length_nil]
          have HN9 := Lib.hid (HNX.out _ hB6)
          clear h6 hB6
          go_wp2
          go_roundw
          case rel =>
            (repeat (apply Exists.intro)); refine ⟨⟨i + 1, by omega, rfl, HN9⟩, ?_⟩
            (repeat' apply And.intro) <;> first | rfl | go_num
          case measure => simp [intOf]; omega
    · obtain rfl : i = xs.length := by omega
      have HBW := Lib.hid HY.out.live.bel
      go_wp2_with fail
      refine (awake10 _).mono ?_; rintro e w' ⟨rfl, hB⟩
      go_wp2
      go_ret
      exact ⟨rfl, HBW.out.trans hB⟩
end Go.Proofs.YtbldidlbhahciaaGreat
