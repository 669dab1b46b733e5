/- slices.SortedFunc over a slice of runs; apart. -/
import Derived.Test.YthkbhikiljlgoaaSort
import Derived.Test.YthkbhikiljlgoaaIter2
import Derived.Shelf.SlSortCmp.NoneTotal
import Derived.Deep.QuietTactic
import Derived.BigQuiet
namespace Go.Proofs.Ythkbhikiljlgoaa
open Go.RowKit Go.Shelf Go.Sort

theorem collect_runs (Bs : Nat) (sv : Value) (zs : List Rn) (hlen : zs.length ≤ 65536) (w : World) (hBs : Bs < w.heap.size) (hc : w.cell? ⟨Bs, 0, none⟩ = some sv) (hI : RunsAt w.heap.size w sv zs) :
    Calls Try.prog 71 #[.func (.func 72) #[] #[.pointer (some ⟨Bs, 0, none⟩)]] w (Collected w zs) := by
  have hcon : Calls Try.prog 92 #[.slice none 0 0, .func (.func 72) #[] #[.pointer (some ⟨Bs, 0, none⟩)]] w (Collected w zs) :=
    (callsIn_wide (n := 3)).1 (appendSeq_in _ 3 trivial trivial rfl (by omega) Bs sv zs hlen w hBs hc hI)
  have HC := Lib.hid hcon
  clear hcon
  go_enter Try.func71, Try.ntmps71
  go_wp2_with fail
  refine HC.out.mono ?_
  rintro e w' ⟨v, rfl, h1, h2, h3⟩
  obtain ⟨a, c, rfl, _⟩ := own_slice h1
  go_wp2
  go_ret
  exact ⟨_, rfl, h1, h2, h3⟩

set_option maxRecDepth 20000 in
theorem apart_cmp (x y : BRn) (W : World) : Calls Try.prog 60 #[.agg #[.int .i64 x.1.1, .int .i64 x.1.2], .agg #[.int .i64 y.1.1, .int .i64 y.1.2]] W fun e w' => e = .returned (.int .i64 (cfB x y)) ∧ ∃ q os', w' = grow (W.drewN q) os' := by
  obtain ⟨⟨x1, x2⟩, hx0, hx1⟩ := x
  obtain ⟨⟨y1, y2⟩, hy0, hy1⟩ := y
  dsimp only at *
  go_enter Try.func60, Try.ntmps60
  go_wp2
  go_ret
  exact ⟨rfl, 0, _, by rw [alloc_eq_grow, alloc_eq_grow, grow_grow]; rfl⟩
theorem apart_enters : Enters 60 := enters_of Try.func60 (by kernel_rfl) rfl

/-- Runs in a row, rising. -/
def RisenRuns (w : World) (zs : List Rn) (e : Ending) (w' : World) : Prop := ∃ a c zs', e = .returned (.slice a zs'.length c) ∧ SortedRuns zs zs' ∧ RdV w' a (cellsOf zs') ∧ Bel w w'
set_option maxRecDepth 20000 in
theorem sorted_func (Bs : Nat) (sv : Value) (zs : List Rn) (hlen : zs.length ≤ 65536) (hb : ∀ x ∈ zs, 0 ≤ x.1 ∧ x.1 ≤ 1024) (w : World) (hBs : Bs < w.heap.size) (hc : w.cell? ⟨Bs, 0, none⟩ = some sv) (hI : RunsAt w.heap.size w sv zs) :
    Calls Try.prog 58 #[.func (.func 72) #[] #[.pointer (some ⟨Bs, 0, none⟩)], .func (.func 60) #[] #[]] w (RisenRuns w zs) := by
  go_enter Try.func58, Try.ntmps58
  go_wp2_with fail
  refine (collect_runs Bs sv zs hlen _ hBs hc hI).mono ?_
  rintro e w1 ⟨v, rfl, hown, hnil, hB⟩
  by_cases h0 : zs = []
  · obtain rfl := hnil.2 h0
    subst h0
    have hcon : ∀ W, Calls Try.prog 52 #[.slice none 0 0, .func (.func 60) #[] #[]] W fun e w' => e = .returned (.tuple #[]) ∧ w' = W := fun W => AnyF.slices_SortFunc_none Try.sortRuns none 0 _ W
    have HC := Lib.hid hcon
    clear hcon hc hI hown hnil
    go_wp2_with fail
    refine (HC.out _).mono ?_
    rintro e w2 ⟨rfl, rfl⟩
    go_wp2
    go_ret
    exact ⟨none, 0, [], rfl, ⟨List.Perm.refl _, fun i j h hj => by simp at hj⟩, .inl rfl, hB⟩
  · obtain ⟨g, cap, cu, rfl, hg0, hg1, hcap, _, hcs, htk⟩ : ∃ g cap cu, v = .slice (some ⟨g, 0, none⟩) zs.length cap ∧ w.heap.size ≤ g ∧ w1.heap[g]? = some (.cells cu 33 (0, 0)) ∧ zs.length ≤ cap ∧ cap ≤ maxLen ∧ cu.size = cap * 2 ∧ cu.toList.take (zs.length * 2) = cellsOf zs := by
      rcases hown.2 with ⟨h1, h2⟩ | ⟨g, cap, cur, h1, h2, h3, h4, h5, h6, h7⟩
      · exact (h0 (hnil.1 h1)).elim
      · exact ⟨g, cap, cur, h1, h2, h3, h4, h5, h6, h7⟩
    have hcell : ∀ t, t < zs.length * 2 → w1.cell? ⟨g, t, none⟩ = (cellsOf zs)[t]? := fun t ht => by
      rw [blk_cell hg1, ← htk, List.getElem?_take, if_pos ht]
      simp
    have hcon := sort_runs ltB 60 apart_enters g cap zs w1 hb hlen apart_cmp (fun i hi => ⟨by rw [hcell _ (by omega)]; exact (cellsOf_get zs i hi).1, by rw [hcell _ (by omega)]; exact (cellsOf_get zs i hi).2⟩) (fun i => blk_frozen hg1 i) (heap_lt hg1)
    have HC := Lib.hid hcon
    clear hcon hc hI hown hnil hcell htk hg1 hcs
    go_wp2_with fail
    refine HC.out.mono ?_
    rintro e w2 ⟨rfl, zs', hs, hr, hF⟩
    have hl : zs'.length = zs.length := hs.1.length_eq
    go_wp2
    go_ret
    exact ⟨some ⟨g, 0, none⟩, cap, zs', by rw [hl]; rfl, hs, hr, Fr.bel ((Fr.of_bel (S := fun k => k = g) hB).trans' hF) (fun k e => by omega)⟩

theorem values_call (a : Option Addr) (n c : Nat) (w : World) :
    Calls Try.prog 59 #[.slice a n c] w fun e w' => e = .returned (.func (.func 72) #[] #[.pointer (some ⟨w.heap.size, 0, none⟩)]) ∧ w.alloc (.cells #[.slice a n c] 38) = w' := by
  go_enter Try.func59, Try.ntmps59
  go_wp2
  go_ret
  exact ⟨rfl, rfl⟩
/-- Whether no page is in two runs. -/
def ApartIs (w : World) (zs : List Rn) (e : Ending) (w' : World) : Prop := ∃ b : Bool, e = .returned (.bool b) ∧ (b = true ↔ zs.Pairwise Apart) ∧ Bel w w'
set_option maxHeartbeats 1000000 in
set_option maxRecDepth 20000 in
theorem index_apart (a : Option Addr) (n c : Nat) (zs : List Rn) (hn : n = zs.length) (hlen : zs.length ≤ 65536) (hb : ∀ x ∈ zs, 0 ≤ x.1 ∧ 1 ≤ x.2 ∧ x.1 + x.2 ≤ 1024) (w : World) (hI : RunsAt w.heap.size w (.slice a n c) zs) :
    Calls Try.prog 42 #[.slice a n c] w (ApartIs w zs) := by
  subst hn
  have hB0 := (Bel.refl w).alloc (.cells #[.slice a zs.length c] 38)
  have hcon := sorted_func w.heap.size (.slice a zs.length c) zs hlen (fun x hx => by have := hb x hx; omega) (w.alloc (.cells #[.slice a zs.length c] 38)) (by simp) (by rw [blk_cell (blk_alloc _ _)]; rfl) (by
    rcases hI.below hB0 with h | ⟨b, o, cap, e, h1, h2⟩
    · exact .inl h
    · exact .inr ⟨b, o, cap, e, by rw [World.size_alloc]; omega, h2⟩)
  have HC := Lib.hid hcon
  have HB := Lib.hid hb
  clear hcon hI hb
  go_enter Try.func42, Try.ntmps42
  go_wp2_with fail
  refine (values_call a zs.length c w).mono ?_
  rintro e w1 ⟨rfl, rfl⟩
  go_wp2_with fail
  refine HC.out.mono ?_
  rintro e w2 ⟨av, cv, zs', rfl, hs, hr, hB2⟩
  have hl' : zs'.length = zs.length := hs.1.length_eq
  have hb' : ∀ x ∈ zs', 0 ≤ x.1 ∧ 1 ≤ x.2 ∧ x.1 + x.2 ≤ 1024 := fun x hx => HB.out x (hs.1.mem_iff.1 hx)
  have hle : zs'.length ≤ 65536 := by omega
  have HS := Lib.hid hs
  have HR := Lib.hid hr
  have HB' := Lib.hid hb'
  have HBB := Lib.hid (hB0.trans hB2)
  clear HC HB hs hr hb' hB2 hB0 hl' hlen
  go_wp2_with fail
  go_loopw [4] (fun k wr => ∃ i : Nat, 1 ≤ i ∧ (i ≤ zs'.length ∨ i = 1) ∧ k = .int .i64 i ∧ Hid (∀ j (h : j + 1 < i) (h' : j + 1 < zs'.length), (zs'[j]'(by omega)).1 + (zs'[j]'(by omega)).2 ≤ zs'[j + 1].1) ∧ Bel w2 wr) (fun k wr => zs'.length + 1 - (intOf k).toNat)
  case atStart => exact ⟨1, by omega, .inr rfl, rfl, Lib.hid (fun j h => by omega), Bel.refl _⟩
  case round =>
    obtain ⟨i, hi1, hi2, rfl, H0, hB3⟩ := hrel
    by_cases hlt : i < zs'.length
    · obtain ⟨m, rfl⟩ : ∃ m, i = m + 1 := ⟨i - 1, by omega⟩
      obtain ⟨g, o, rfl, hcells⟩ : ∃ g o, av = some ⟨g, o, none⟩ ∧ ∀ t (h : t < (cellsOf zs').length), w2.cell? ⟨g, o + t, none⟩ = some (cellsOf zs')[t] := by
        rcases HR.out with h | ⟨g, o, e, h⟩
        · have := cellsOf_length zs'; rw [h] at this; simp at this; omega
        · exact ⟨g, o, e, h⟩
      have hcell : ∀ t v, (cellsOf zs')[t]? = some v → wr.cell? ⟨g, o + t, none⟩ = some v := fun t v hv => by
        obtain ⟨h1, h2⟩ := List.getElem?_eq_some_iff.1 hv
        rw [← h2]; exact hB3.cell (hcells t h1)
      have ha := cellsOf_get zs' m (by omega)
      have hbb := cellsOf_get zs' (m + 1) hlt
      obtain ⟨x, hx⟩ : ∃ x, zs'[m]'(by omega) = x := ⟨_, rfl⟩
      obtain ⟨y, hy⟩ : ∃ y, zs'[m + 1] = y := ⟨_, rfl⟩
      have hxr := HB'.out _ (List.getElem_mem (l := zs') (n := m) (by omega))
      have hyr := HB'.out _ (List.getElem_mem (l := zs') (n := m + 1) hlt)
      rw [hx] at ha hxr
      rw [hy] at hbb hyr
      have q0 := hcell _ _ ha.1
      have q1 : wr.cell? ⟨g, o + m * 2 + 1, none⟩ = some (.int .i64 x.2) := hcell _ _ ha.2
      have p0 := hcell _ _ hbb.1
      have e1 : ((m + 1 : Nat) : Int) = (m : Int) + 1 := by omega
      rw [e1]
      have HXY := Lib.hid (And.intro hx hy)
      have HB3 := Lib.hid hB3
      obtain ⟨x0, x1, x2⟩ := hxr
      obtain ⟨y0, y1, y2⟩ := hyr
      have t0 : (m : Int) + 1 < zs'.length := by omega
      have t1 : (m : Int) < zs'.length := by omega
      have t2 : (0 : Int) ≤ (m : Int) + 1 := by omega
      have t3 : ((m : Int) + 1).toNat = m + 1 := by omega
      have t4 : IntKind.i64.wrap ((m : Int) + 1 - 1) = m := by rw [show (m : Int) + 1 - 1 = m by omega]; exact IntWalk.i64_in _ (by omega)
      clear hcells hcell ha hbb hx hy hB3 e1
      by_cases hov : y.1 < x.1 + x.2
      · have HNO : Hid (¬ zs.Pairwise Apart) := Lib.hid (fun hp => by
          have h1 := (apart_perm HS.out.1).2 hp
          have h2 := chain_of_apart (fun r hr => (HB'.out r hr).2.1) (fun i j h hj => HS.out.2 i j h hj) h1 m hlt
          rw [HXY.out.1, HXY.out.2] at h2
          omega)
        go_wp2_with fail
        go_region
        go_wp2
        go_ret
        exact ⟨false, rfl, by simpa using HNO.out, HBB.out.trans HB3.out.drew⟩
      · go_wp2_with fail
        go_region
        go_wp2
        go_roundw
        case rel =>
          refine ⟨m + 1 + 1, by omega, .inl (by omega), by go_num, Lib.hid (fun j h h' => ?_), HB3.out.drew⟩
          rcases Nat.lt_or_ge (j + 1) (m + 1) with h9 | h9
          · exact H0.out j h9 h'
          · obtain rfl : j = m := by omega
            rw [HXY.out.1, HXY.out.2]
            omega
        case measure => simp [intOf]; omega
    · go_wp2
      go_ret
      refine ⟨true, rfl, ⟨fun _ => (apart_perm HS.out.1).1 (apart_of_chain (fun r hr => (HB'.out r hr).2.1) (fun j h => H0.out j (by omega) h)), fun _ => rfl⟩, HBB.out.trans hB3⟩
end Go.Proofs.Ythkbhikiljlgoaa
