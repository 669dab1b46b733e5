/- Package runs: Take, Has; nil free runs. -/
import Derived.Test.YthkbhikiljlgoaaWRuns7
import Derived.Deep.RegionHeld3
import Derived.Deep.DeepCutAuto
namespace Go.Proofs.Ythkbhikiljlgoaa
open Go.RowKit

/-- What Take answers: the runs, the run that was taken, whether there was one. -/
def takeR (L : List Rn) (n : Int) : List Rn × Rn × Bool := if 0 < (bestF L n).2 then (cutF L ((bestF L n).1, n), ((bestF L n).1, n), true) else (L, (0, 0), false)
theorem best_or (L : List Rn) (n : Int) (hL : Canon 1024 L) : (bestF L n = (0, 0) ∧ (n < 1 ∨ ∀ r ∈ L, r.2 < n)) ∨ (1 ≤ n ∧ bestF L n ∈ L ∧ n ≤ (bestF L n).2 ∧ 0 < (bestF L n).2 ∧ there 1024 ((bestF L n).1, n) = true ∧ L.any (hasR ((bestF L n).1, n)) = true) := by
  by_cases hn : n < 1
  · exact .inl ⟨by unfold bestF; rw [if_pos hn], .inl hn⟩
  · have hb : bestF L n = bestP n L (0, 0) := by unfold bestF; rw [if_neg hn]
    rcases best_spec (n := n) (by omega) L.length L (Nat.le_refl _) with ⟨e, h⟩ | ⟨i, hi, _, e, h1, _, _⟩
    · rw [List.take_length] at e
      exact .inl ⟨by rw [hb, e], .inr (fun r hr => by obtain ⟨j, hj, rfl⟩ := List.getElem_of_mem hr; exact h j hj hj)⟩
    · rw [List.take_length] at e
      have hk := hL.ok _ (List.getElem_mem hi)
      refine .inr ⟨by omega, ?_, ?_, ?_, ?_, ?_⟩
      · rw [hb, e]; exact List.getElem_mem hi
      · rw [hb, e]; exact h1
      · rw [hb, e]; omega
      · rw [hb, e, there_iff]; dsimp only; omega
      · rw [hb, e]
        refine List.any_eq_true.2 ⟨_, List.getElem_mem hi, ?_⟩
        rw [hasR_iff]; dsimp only; omega
theorem footR_fr {S : Nat → Prop} {w w' : World} {b : Nat} {v : Value} {L : List Rn} (h : FreeAt w b v L) (k : Bel w w') : FreeAt w' b v L := h.bel k
theorem RPost.from {w w1 w' : World} {b : Nat} {v : Value} {L : List Rn} (h : RPost w1 b v L w') (k : Bel w w1) : RPost w b v L w' := by
  obtain ⟨v', h1, h2, h3⟩ := h
  exact ⟨v', h1, fun g hg => by rcases h2 g hg with h | h; exact .inl h; exact .inr (Nat.le_trans k.size h), (Fr.of_bel k).trans' h3⟩
theorem RPost.done {w W w' : World} {b : Nat} {v : Value} {L : List Rn} (h : RPost W b v L w') (k : Bel w W) {R : Nat} (hR : w.heap.size ≤ R) (hR2 : R < W.heap.size) (hb : b < w.heap.size) (hv : ∀ g, v.ownBlock = some g → g < w.heap.size) (x y : Value) : RPost w b v L ((w'.setCell ⟨R, 0, none⟩ x).setCell ⟨R, 1, none⟩ y) := by
  obtain ⟨v', h1, h2, h3⟩ := h
  refine ⟨v', h1.fr (S := fun k => k = R) (Fr.setCell (p := ⟨R, 1, none⟩) (Fr.setCell (p := ⟨R, 0, none⟩) (Fr.refl (fun k => k = R) w') (.inl rfl) x) (.inl rfl) y) (by omega) (fun g hg he => ?_), fun g hg => ?_, fr_two ((Fr.of_bel k).trans' h3) hR x y⟩
  · rcases h2 g hg with h | h
    · have := hv g h; omega
    · omega
  · rcases h2 g hg with h | h
    · exact .inl h
    · exact .inr (Nat.le_trans k.size h)
theorem RPost.then_bel {w w' w'' : World} {b : Nat} {v : Value} {L : List Rn} (h : RPost w b v L w') (k : Bel w' w'') : RPost w b v L w'' := by
  obtain ⟨v', h1, h2, h3⟩ := h
  exact ⟨v', h1.bel k, h2, h3.then_bel k⟩

set_option maxHeartbeats 1000000 in
set_option maxRecDepth 20000 in
theorem runs_Take (b : Nat) (v : Value) (L : List Rn) (n : Int) (w : World) (h : FreeAt w b v L) (hn : I64 n) :
    Calls Try.prog 22 #[.pointer (some ⟨b, 0, none⟩), .int .i64 n] w fun e w' =>
      e = .returned (.tuple #[.agg #[.int .i64 (takeR L n).2.1.1, .int .i64 (takeR L n).2.1.2], .bool (takeR L n).2.2]) ∧ RPost w b v (takeR L n).1 w' := by
  have gR := blk_alloc w (.cells #[.int .i64 0, .int .i64 0] 33)
  have HB0 : Hid (Bel w (w.alloc (.cells #[.int .i64 0, .int .i64 0] 33))) := Lib.hid ((Bel.refl _).alloc _)
  have HBE := Lib.hid (runs_Best (.pointer (some ⟨b, 0, none⟩)) L n _ (.inr ⟨b, v, rfl, h.bel HB0.out⟩) hn)
  have HF := Lib.hid h
  have hbw := heap_lt h.hd
  have hnn := hn
  obtain ⟨n0, n1⟩ := hn
  have HG := Lib.hid gR
  clear gR h
  rcases best_or L n HF.out.canon with ⟨hb, _⟩ | ⟨hn1, hmem, hle, hpos, hth, hany⟩
  · have HT : Hid (takeR L n = (L, (0, 0), false)) := Lib.hid (by unfold takeR; rw [hb, if_neg (by decide)])
    rw [hb] at HBE
    clear hb
    go_enter Try.func22, Try.ntmps22
    go_wp2_with fail
    refine HBE.out.mono ?_
    rintro e w1 ⟨rfl, hB1⟩
    have HB1 := Lib.hid (HB0.out.trans hB1)
    have gR1 := (Fr.of_bel (S := fun _ => False) hB1).heap HG.out (fun h => h)
    obtain ⟨c0, c1, f0, f1⟩ := two_cells gR1
    have hlt1 := heap_lt gR1
    have g9 := blk_alloc_old (.cells #[.int .i64 0, .int .i64 0] 33) (two_set gR1 (.int .i64 0) (.int .i64 0)).2.2
    have hP : RPost w b v L (((w1.setCell ⟨w.heap.size, 0, none⟩ (.int .i64 0)).setCell ⟨w.heap.size, 1, none⟩ (.int .i64 0)).alloc (.cells #[.int .i64 0, .int .i64 0] 33)) := RPost.same HF.out ((bel_two HB1.out (Nat.le_refl _) _ _).alloc _)
    have HE := Lib.hid (And.intro g9 hP)
    clear hB1 gR1 g9 hP
    go_wp2
    generalize ((w1.setCell ⟨w.heap.size, 0, none⟩ (.int .i64 0)).setCell ⟨w.heap.size, 1, none⟩ (.int .i64 0)).alloc (.cells #[.int .i64 0, .int .i64 0] 33) = W9 at HE ⊢
    obtain ⟨r0, r1, _, _⟩ := two_cells HE.out.1
    refine bodyPost_ret (v := .tuple #[.agg #[.int .i64 0, .int .i64 0], .bool false]) (by simp [results, Try.results22, go_sem, r0, r1]) rfl ?_
    exact ⟨by rw [HT.out], by rw [HT.out]; exact HE.out.2⟩
  · have HT : Hid (takeR L n = (cutF L ((bestF L n).1, n), ((bestF L n).1, n), true)) := Lib.hid (by unfold takeR; rw [if_pos hpos])
    have HP : Hid (cutR L ((bestF L n).1, n) = (cutF L ((bestF L n).1, n), 0)) := Lib.hid (cutR_ok hth hany)
    obtain ⟨y, hy⟩ : ∃ y, bestF L n = y := ⟨_, rfl⟩
    rw [hy] at HBE HT HP hpos hle hth
    have hk := HF.out.canon.ok _ hmem
    rw [hy] at hk
    obtain ⟨y1, y2⟩ := y
    dsimp only at HBE HT HP hpos hle hk hth
    obtain ⟨k0, k1, k2⟩ := hk
    clear hmem hany hy hth
    go_enter Try.func22, Try.ntmps22
    go_wp2_with fail
    refine HBE.out.mono ?_
    rintro e w1 ⟨rfl, hB1⟩
    have d0 : decide (0 < y2) = true := decide_eq_true hpos
    rw [d0]
    have HB1 := Lib.hid (HB0.out.trans hB1)
    have gR1 := (Fr.of_bel (S := fun _ => False) hB1).heap HG.out (fun h => h)
    have hlt1 := heap_lt gR1
    have HGR1 := Lib.hid gR1
    clear hB1 gR1
    have gX := blk_alloc w1 (.cells #[.int .i64 y1, .int .i64 n] 33)
    have gR2 := blk_alloc_old (.cells #[.int .i64 y1, .int .i64 n] 33) HGR1.out
    have HB2 := Lib.hid (HB1.out.alloc (.cells #[.int .i64 y1, .int .i64 n] 33))
    have hlt2 : w1.heap.size < (w1.alloc (.cells #[.int .i64 y1, .int .i64 n] 33)).heap.size := by simp
    have C : ∀ V, Bel (w1.alloc (.cells #[.int .i64 y1, .int .i64 n] 33)) V → Calls Try.prog 39 #[.pointer (some ⟨b, 0, none⟩), .agg #[.int .i64 y1, .int .i64 n]] V fun e V' => e = .returned (.int .i64 0) ∧ RPost (w1.alloc (.cells #[.int .i64 y1, .int .i64 n] 33)) b v (cutF L (y1, n)) V' ∧ V'.heap[w1.heap.size]? = some (.cells #[.int .i64 y1, .int .i64 n] 33 (0, 0)) ∧ V'.heap[w.heap.size]? = some (.cells #[.int .i64 0, .int .i64 0] 33 (0, 0)) := fun V hV => by
      have hFV := HF.out.bel (HB2.out.trans hV)
      refine (runs_Cut b v L (y1, n) V hFV ⟨by omega, by omega⟩ hnn).mono ?_
      rintro e V' ⟨rfl, hp⟩
      rw [HP.out] at hp ⊢
      have hnf : ∀ k, w.heap.size ≤ k → ¬ footR b v k := fun k hk hf => by have := HF.out.lt hf; omega
      obtain ⟨v', p1, p2, p3⟩ := hp
      refine ⟨rfl, RPost.from ⟨v', p1, p2, p3⟩ hV, ?_, ?_⟩
      · exact p3.heap ((Fr.of_bel (S := fun _ => False) hV).heap gX (fun h => h)) (hnf _ (by omega))
      · exact p3.heap ((Fr.of_bel (S := fun _ => False) hV).heap gR2 (fun h => h)) (hnf _ (by omega))
    have HC := Lib.hid C
    obtain ⟨x0, x1, _, _⟩ := two_cells gX
    have HFV : Hid (∀ g, v.ownBlock = some g → g < w.heap.size) := Lib.hid (fun g hg => HF.out.lt (.inr hg))
    clear C gX gR2
    go_wp2_with fail
    generalize w1.alloc (.cells #[.int .i64 y1, .int .i64 n] 33) = W2 at HC HB2 x0 x1 hlt2 ⊢
    go_region_law (first | (go_simp; go_at_call 39; (with_reducible refine (HC.out _ ?b1).mono ?_); (case b1 => repeat (first | exact Bel.refl _ | apply Bel.drew | apply Bel.alloc)); rintro e w4 ⟨rfl, hP4, hX4, hR4⟩; obtain ⟨z0, z1, _, _⟩ := two_cells hX4; obtain ⟨s0, s1, s2, s3⟩ := two_cells hR4))
    all_goals
      go_wp2
      have g9 := (two_set hR4 (.int .i64 y1) (.int .i64 n)).2.2
      have hP9 := hP4.done HB2.out (Nat.le_refl _) (by omega) hbw HFV.out (.int .i64 y1) (.int .i64 n)
      obtain ⟨r0, r1, _, _⟩ := two_cells g9
      refine bodyPost_ret (v := .tuple #[.agg #[.int .i64 y1, .int .i64 n], .bool true]) (by simp [results, Try.results22, go_sem, r0, r1]) rfl ?_
      exact ⟨by rw [HT.out], by rw [HT.out]; first | exact hP9 | exact hP9.then_bel (Bel.refl _).drew⟩
end Go.Proofs.Ythkbhikiljlgoaa
