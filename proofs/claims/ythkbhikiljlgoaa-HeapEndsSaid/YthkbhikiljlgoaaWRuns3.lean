/- Package runs: Best, Has. -/
import Derived.Test.YthkbhikiljlgoaaWRuns2
namespace Go.Proofs.Ythkbhikiljlgoaa
open Go.RowKit

/-- Best's blocks: its result, the best one as yet. -/
structure BestBox (w wr : World) (b : Rn) : Prop where
  r : wr.heap[w.heap.size]? = some (.cells #[.int .i64 0, .int .i64 0] 33 (0, 0))
  b : wr.heap[w.heap.size + 1]? = some (.cells #[.int .i64 b.1, .int .i64 b.2] 33 (0, 0))
  bel : Bel w wr
theorem bestF_ok {L : List Rn} (hL : Canon 1024 L) (n : Int) (k : Nat) : 0 ≤ (bestP n (L.take k) (0, 0)).1 ∧ 0 ≤ (bestP n (L.take k) (0, 0)).2 ∧ (bestP n (L.take k) (0, 0)).1 + (bestP n (L.take k) (0, 0)).2 ≤ 1024 := by
  suffices h : ∀ (l : List Rn) (b : Rn), (∀ r ∈ l, 0 ≤ r.1 ∧ 1 ≤ r.2 ∧ r.1 + r.2 ≤ 1024) → (0 ≤ b.1 ∧ 0 ≤ b.2 ∧ b.1 + b.2 ≤ 1024) → 0 ≤ (bestP n l b).1 ∧ 0 ≤ (bestP n l b).2 ∧ (bestP n l b).1 + (bestP n l b).2 ≤ 1024 from
    h _ _ (fun r hr => hL.ok r (List.mem_of_mem_take hr)) ⟨by simp, by simp, by simp⟩
  intro l
  induction l with
  | nil => intro b _ hb; exact hb
  | cons x l ih =>
    intro b hl hb
    refine ih _ (fun r hr => hl r (by simp [hr])) ?_
    split
    · have := hl x (by simp); omega
    · exact hb
set_option maxHeartbeats 1000000 in
set_option maxRecDepth 20000 in
theorem runs_Best (p : Value) (L : List Rn) (n : Int) (w : World) (h : FreeP w p L) (hn : I64 n) :
    Calls Try.prog 38 #[p, .int .i64 n] w fun e w' => e = .returned (.tuple #[.agg #[.int .i64 (bestF L n).1, .int .i64 (bestF L n).2], .bool (decide (0 < (bestF L n).2))]) ∧ Bel w w' := by
  obtain ⟨n0, n1⟩ := hn
  have gR := blk_alloc w (.cells #[.int .i64 0, .int .i64 0] 33)
  obtain ⟨r0, r1, r2⟩ := two_set gR (.int .i64 0) (.int .i64 0)
  rcases h with ⟨rfl, rfl⟩ | ⟨b, v, rfl, h⟩
  · have hb : bestF [] n = (0, 0) := by unfold bestF; split <;> rfl
    rw [hb]
    go_enter Try.func38, Try.ntmps38
    go_wp2
    refine bodyPost_ret (v := .tuple #[.agg #[.int .i64 0, .int .i64 0], .bool false]) (by simp [results, Try.results38, go_sem, r0, r1]) rfl ?_
    exact ⟨rfl, (Bel.refl _).alloc _⟩
  by_cases c1 : n < 1
  · have hb : bestF L n = (0, 0) := by unfold bestF; rw [if_pos c1]
    rw [hb]
    go_enter Try.func38, Try.ntmps38
    go_wp2
    refine bodyPost_ret (v := .tuple #[.agg #[.int .i64 0, .int .i64 0], .bool false]) (by simp [results, Try.results38, go_sem, r0, r1]) rfl ?_
    exact ⟨rfl, (Bel.refl _).alloc _⟩
  have hb : bestF L n = bestP n L (0, 0) := by unfold bestF; rw [if_neg c1]
  rw [hb]
  have hlen : L.length ≤ 1024 := h.canon.len (q := 1024)
  have HOK := Lib.hid (bestF_ok h.canon n)
  have HK := Lib.hid h.canon
  obtain ⟨a, c, rfl, hr⟩ := h.runs
  have hc : w.cell? ⟨b, 0, none⟩ = some (.slice a L.length c) := by rw [blk_cell h.hd]; rfl
  have HR := Lib.hid hr
  have hbl := heap_lt h.hd
  have HB0 : Hid (BestBox w ((w.alloc (.cells #[.int .i64 0, .int .i64 0] 33)).alloc (.cells #[.int .i64 0, .int .i64 0] 33)) (0, 0)) := Lib.hid ⟨blk_alloc_old _ gR, by
    have := blk_alloc (w.alloc (.cells #[.int .i64 0, .int .i64 0] 33)) (.cells #[.int .i64 0, .int .i64 0] 33)
    rwa [World.size_alloc] at this, ((Bel.refl _).alloc _).alloc _⟩
  clear h hr hb gR r0 r1 r2
  go_enter Try.func38, Try.ntmps38
  go_wp2_with fail
  go_loopw [21] (fun k wr => ∃ i : Nat, i ≤ L.length ∧ k = .int .i64 i ∧ Hid (BestBox w wr (bestP n (L.take i) (0, 0)))) (fun k _ => L.length - (intOf k).toNat)
  case atStart => exact ⟨0, Nat.zero_le _, rfl, HB0⟩
  case round =>
    obtain ⟨i, hi, rfl, HH⟩ := hrel
    have hbl := heap_lt HH.out.b
    obtain ⟨b0, b1, b2, b3⟩ := two_cells HH.out.b
    by_cases hlt : i < L.length
    · obtain ⟨g, o, rfl, p0, p1⟩ := (HR.out.bel HH.out.bel).at i hlt
      have hst := bestP_snoc n (L.take i) L[i] (0, 0)
      rw [← List.take_succ_eq_append_getElem hlt] at hst
      have hk := HK.out.ok _ (List.getElem_mem hlt)
      have hok := HOK.out i
      obtain ⟨x, hx⟩ : ∃ x, L[i] = x := ⟨_, rfl⟩
      rw [hx] at p0 p1 hst hk
      obtain ⟨x1, x2⟩ := x
      obtain ⟨y, hy⟩ : ∃ y, bestP n (L.take i) (0, 0) = y := ⟨_, rfl⟩
      rw [hy] at hst b0 b1 HH hok
      obtain ⟨y1, y2⟩ := y
      dsimp only at p0 p1 hst hk b0 b1 hok
      by_cases c : n ≤ x2 ∧ (y2 = 0 ∨ x2 < y2)
      · rw [if_pos c] at hst
        have HST := Lib.hid hst
        have HN : Hid (BestBox w (((wr.setCell ⟨w.heap.size + 1, 0, none⟩ (.int .i64 x1)).setCell ⟨w.heap.size + 1, 1, none⟩ (.int .i64 x2)).alloc (.cells #[.int .i64 x1, .int .i64 x2] 33)) (x1, x2)) := Lib.hid (by
          refine ⟨blk_alloc_old _ ?_, blk_alloc_old _ (two_set HH.out.b _ _).2.2, (bel_two HH.out.bel (by omega) _ _).alloc _⟩
          exact blk_setCell_other (blk_setCell_other HH.out.r (show w.heap.size ≠ w.heap.size + 1 by omega) _) (show w.heap.size ≠ w.heap.size + 1 by omega) _)
        obtain ⟨c1, c2⟩ := c
        clear hst hx hy
        rcases c2 with c2 | c2
        · subst c2
          go_wp2
          go_roundw
          case rel => exact ⟨i + 1, by omega, by go_num, by rw [HST.out]; exact HN⟩
          case measure => simp [intOf]; omega
        · have c3 : ¬ y2 = 0 := by omega
          go_wp2
          go_roundw
          case rel => exact ⟨i + 1, by omega, by go_num, by rw [HST.out]; exact HN⟩
          case measure => simp [intOf]; omega
      · rw [if_neg c] at hst
        have HST := Lib.hid hst
        have HN : Hid (BestBox w (wr.alloc (.cells #[.int .i64 x1, .int .i64 x2] 33)) (y1, y2)) := Lib.hid ⟨blk_alloc_old _ HH.out.r, blk_alloc_old _ HH.out.b, HH.out.bel.alloc _⟩
        clear hst hx hy
        by_cases c2 : n ≤ x2
        · have c3 : ¬ y2 = 0 := fun h => c ⟨c2, .inl h⟩
          have c4 : ¬ x2 < y2 := fun h => c ⟨c2, .inr h⟩
          clear c
          go_wp2
          go_roundw
          case rel => exact ⟨i + 1, by omega, by go_num, by rw [HST.out]; exact HN⟩
          case measure => simp [intOf]; omega
        · clear c
          go_wp2
          go_roundw
          case rel => exact ⟨i + 1, by omega, by go_num, by rw [HST.out]; exact HN⟩
          case measure => simp [intOf]; omega
    · obtain rfl : i = L.length := by omega
      rw [List.take_length] at HH b0 b1
      obtain ⟨y, hy⟩ : ∃ y, bestP n L (0, 0) = y := ⟨_, rfl⟩
      rw [hy] at HH b0 b1
      have HY := Lib.hid hy
      clear hy
      obtain ⟨y1, y2⟩ := y
      dsimp only at b0 b1
      obtain ⟨e0, e1, e2, e3⟩ := two_cells HH.out.r
      obtain ⟨r0, r1, _⟩ := two_set HH.out.r (.int .i64 y1) (.int .i64 y2)
      have HR01 := Lib.hid (And.intro r0 r1)
      clear r0 r1
      go_wp2_with fail
      go_region
      go_wp2
      have r0 := HR01.out.1
      have r1 := HR01.out.2
      refine bodyPost_ret (v := .tuple #[.agg #[.int .i64 y1, .int .i64 y2], .bool (decide (0 < y2))]) (by simp [results, Try.results38, go_sem, r0, r1]) rfl ?_
      exact ⟨by rw [HY.out], (bel_two HH.out.bel (Nat.le_refl _) _ _).drew⟩
end Go.Proofs.Ythkbhikiljlgoaa
