/- slices.Replace of one run by at most two. -/
import Derived.Test.YthkbhikiljlgoaaCopyK
import Derived.Lib.Overlaps
import Derived.Lib.AppendZerosOnto
import Derived.Laws.Externs
import Derived.Deep.QuietTactic
import Derived.BigQuiet
namespace Go.Proofs.Ythkbhikiljlgoaa
open Go.RowKit Go.Lib

theorem cellsOf_cons (x : Rn) (L : List Rn) : cellsOf (x :: L) = [.int .i64 x.1, .int .i64 x.2] ++ cellsOf L := by simp [cellsOf, rnCells]
theorem cellsOf_take : ∀ (L : List Rn) (i : Nat), (cellsOf L).take (i * 2) = cellsOf (L.take i)
  | [], i => by simp [cellsOf]
  | x :: L, 0 => by simp [cellsOf]
  | x :: L, i + 1 => by
    rw [List.take_succ_cons, cellsOf_cons, cellsOf_cons, ← cellsOf_take L i, show (i + 1) * 2 = i * 2 + 2 by omega]
    rfl
theorem cellsOf_drop : ∀ (L : List Rn) (i : Nat), (cellsOf L).drop (i * 2) = cellsOf (L.drop i)
  | [], i => by simp [cellsOf]
  | x :: L, 0 => by simp [cellsOf]
  | x :: L, i + 1 => by
    rw [List.drop_succ_cons, cellsOf_cons, ← cellsOf_drop L i, show (i + 1) * 2 = i * 2 + 2 by omega]
    rfl
/-- With one run replaced. -/
def replF (L : List Rn) (i : Nat) (R : List Rn) : List Rn := L.take i ++ R ++ L.drop (i + 1)
theorem replF_length {L : List Rn} {i : Nat} {R : List Rn} (h : i < L.length) : (replF L i R).length = L.length - 1 + R.length := by unfold replF; simp; omega
theorem cellsOf_replF (L : List Rn) (i : Nat) (R : List Rn) : cellsOf (replF L i R) = (cellsOf L).take (i * 2) ++ cellsOf R ++ (cellsOf L).drop ((i + 1) * 2) := by
  unfold replF; rw [cellsOf_append, cellsOf_append, cellsOf_take, cellsOf_drop]
/-- What is left by Replace. -/
def ReplPost (w : World) (g : Nat) (L' : List Rn) (e : Ending) (w' : World) : Prop :=
  ∃ v, e = .returned v ∧ w'.ownsRow 0 33 2 v L'.length (cellsOf L') ∧ (∀ k, v.ownBlock = some k → k = g ∨ w.heap.size ≤ k) ∧ Fr (fun k => k = g) w w'
/-- A block of runs. -/
structure RunBlk (w : World) (g cap : Nat) (L : List Rn) (cur : List Value) : Prop where
  blk : w.heap[g]? = some (.cells cur.toArray 33 (0, 0))
  len : L.length ≤ cap
  max : cap ≤ maxLen
  size : cur.length = cap * 2
  cells : cur.take (L.length * 2) = cellsOf L
theorem RunBlk.of_own {w : World} {base g cap : Nat} {L : List Rn} (h : w.ownsRow base 33 2 (.slice (some ⟨g, 0, none⟩) L.length cap) L.length (cellsOf L)) : ∃ cur, RunBlk w g cap L cur := by
  rcases h.2 with ⟨h1, _⟩ | ⟨g', cap', cur, h1, h2, h3, h4, h5, h6, h7⟩
  · simp at h1
  · simp at h1; obtain ⟨rfl, rfl⟩ := h1
    exact ⟨cur.toList, by simpa using h3, h4, h5, by simpa using h6, h7⟩
theorem RunBlk.own {w : World} {g cap : Nat} {L : List Rn} {cur : List Value} (h : RunBlk w g cap L cur) : w.ownsRow 0 33 2 (.slice (some ⟨g, 0, none⟩) L.length cap) L.length (cellsOf L) :=
  ⟨cellsOf_length L, .inr ⟨g, cap, cur.toArray, rfl, Nat.zero_le _, h.blk, h.len, h.max, by simpa using h.size, by simpa using h.cells⟩⟩
theorem RunBlk.cut {w : World} {g cap : Nat} {L : List Rn} {cur : List Value} (h : RunBlk w g cap L cur) (i : Nat) (hi : i ≤ L.length) : RunBlk w g cap (L.take i) cur :=
  ⟨h.blk, by have := h.len; simp; omega, h.max, h.size, by
    rw [List.length_take, Nat.min_eq_left hi, ← cellsOf_take, ← h.cells, List.take_take, Nat.min_eq_left (by omega)]⟩

set_option maxRecDepth 20000 in
theorem replace_end (g cap : Nat) (L : List Rn) (i : Nat) (cur : List Value) (a : Option Addr) (R : List Rn) (c : Nat) (w : World) (h : RunBlk w g cap L cur) (hi : i + 1 = L.length) (hl : L.length ≤ 1024) (hr : RunsIn w a R) (hR : R.length ≤ 2) (h0 : R ≠ []) :
    Calls Try.prog 56 #[.slice (some ⟨g, 0, none⟩) L.length cap, .int .i64 i, .int .i64 ((i : Int) + 1), .slice a R.length c] w (ReplPost w g (replF L i R)) := by
  have hc := h.len
  have hmx := h.max
  unfold maxLen at hmx
  have hpos : 0 < R.length := List.length_pos_iff.2 h0
  obtain ⟨ga, oa, rfl, _, _⟩ := hr.at 0 hpos
  obtain ⟨i0, hi0, hz0, hz1, hz2⟩ := info_parts info_run
  have e1 : ((i : Int) == (i : Int) + 1) = false := by simp; omega
  have e2 : ((i : Int) + 1 == (L.length : Int)) = true := by simp; omega
  have e3 : ((i : Int) + 1).toNat = i + 1 := by omega
  have hcut := (h.cut i (by omega)).own
  have hrep : replF L i R = L.take i ++ R := by unfold replF; rw [List.drop_eq_nil_of_le (by omega), List.append_nil]
  have htl : (L.take i).length = i := by simp; omega
  obtain ⟨T, hT⟩ : ∃ T, L.take i = T := ⟨_, rfl⟩
  rw [hT] at hcut hrep htl
  have hcl := cellsOf_length T
  rw [htl] at hcut
  have HREP := Lib.hid hrep
  have HOW := Lib.hid hcut
  have HT := Lib.hid htl
  rw [htl] at hcl
  have HNEW := Lib.hid (runsIn_cells hr)
  have HONE := Lib.hid (cellsOf_one R)
  have hnl := cellsOf_length R
  have e4 : ¬ ((i + R.length : Nat) : Int) < (L.length : Int) := by omega
  have e5 : ¬ (i : Int) + (R.length : Int) < (L.length : Int) := by omega
  clear hcut hrep hr h hT htl h0
  by_cases hfit : i + R.length ≤ cap
  · go_enter Try.func56, Try.ntmps56
    go_wp2_with (at_builtin; refine wpList_append_fits _ rfl _ _ 38 rfl 0 33 i0 2 Try.underlying38 hi0 hz1 g i cap (cellsOf T) rfl HOW.out ⟨ga, oa, none⟩ R.length c (cellsOf R) rfl hnl HNEW.out HONE.out hfit ?_)
    intro w4 hown4 hgrow
    have HN : Hid (ReplPost w g (replF L i R) (.returned (.slice (some ⟨g, 0, none⟩) (i + R.length) cap)) w4) := Lib.hid ⟨_, rfl, by rw [HREP.out, List.length_append, cellsOf_append, HT.out]; exact hown4, fun k hk => .inl (by simpa [Value.ownBlock] using hk.symm), fr_grown hgrow⟩
    clear hown4 hgrow
    go_wp2
    go_ret
    exact HN.out
  · have HRD : Hid (RdV w (some ⟨g, 0, none⟩) (cellsOf T)) := Lib.hid (by
      obtain ⟨a9, c9, e9, hr9, _⟩ := own_slice HOW.out
      cases e9; exact hr9)
    go_enter Try.func56, Try.ntmps56
    go_wp2_with (at_builtin; refine wpList_append_grows _ rfl _ _ 38 rfl 33 i0 (.agg #[.int .i64 0, .int .i64 0]) 2 16 Try.underlying38 hi0 hz0 hz1 hz2 rfl (by decide) (some ⟨g, 0, none⟩) i cap (cellsOf T) rfl ?h1 hcl ?h2 ⟨ga, oa, none⟩ R.length c (cellsOf R) rfl hnl HNEW.out HONE.out ?h3 ?h4 ?h5 ?_)
    try (case h1 => rintro ⟨⟩)
    case h2 => intro j u hj; have h9 := RdV.cells HRD.out j u hj; rw [addr_add, Nat.zero_add] at h9; exact h9
    case h3 => omega
    case h4 => unfold maxLen; omega
    case h5 => omega
    intro v' w4 hown4 hgrow
    have hv : ∀ k, v'.ownBlock = some k → w.heap.size ≤ k := fun k hk => by
      rcases hown4.2 with ⟨h1, _⟩ | ⟨g', cap', cur, h1, h2, _⟩
      · rw [h1] at hk; simp [Value.ownBlock] at hk
      · rw [h1] at hk; simp [Value.ownBlock] at hk; omega
    obtain ⟨av, cv, rfl, _⟩ := own_slice hown4
    have HN : Hid (ReplPost w g (replF L i R) (.returned (.slice av (i + R.length) cv)) w4) := Lib.hid ⟨_, rfl, by rw [HREP.out, List.length_append, cellsOf_append, HT.out]; exact own_base hown4 (Nat.zero_le _), fun k hk => .inr (hv k hk), Fr.of_bel (bel_grown hgrow)⟩
    clear hown4 hgrow hv
    go_wp2
    go_ret
    exact HN.out
/-- The library's clear, its run being known. -/
theorem zero_run (w : World) : (zeroValue 33).run Try.prog w = .ok (.agg #[.int .i64 0, .int .i64 0]) w := by kernel_rfl
theorem size_run : (Try.prog.info? 33).map (·.size) = some 2 := by kernel_rfl
set_option maxRecDepth 20000 in
theorem replace_end0 (g cap : Nat) (L : List Rn) (i : Nat) (cur : List Value) (w : World) (h : RunBlk w g cap L cur) (hi : i + 1 = L.length) (hl : L.length ≤ 1024) :
    Calls Try.prog 56 #[.slice (some ⟨g, 0, none⟩) L.length cap, .int .i64 i, .int .i64 ((i : Int) + 1), .slice none 0 0] w (ReplPost w g (replF L i [])) := by
  have hc := h.len
  have hmx := h.max
  unfold maxLen at hmx
  obtain ⟨i0, hi0, hz0, hz1, hz2⟩ := info_parts info_run
  have e1 : ((i : Int) == (i : Int) + 1) = false := by simp; omega
  have e2 : ((i : Int) + 1 == (L.length : Int)) = true := by simp; omega
  have e3 : ((i : Int) + 1).toNat = i + 1 := by omega
  have e4 : (i : Int) < (L.length : Int) := by omega
  have hcutb := h.cut i (by omega)
  have hcut := hcutb.own
  have hrep : replF L i [] = L.take i := by unfold replF; rw [List.drop_eq_nil_of_le (by omega), List.append_nil, List.append_nil]
  have htl : (L.take i).length = i := by simp; omega
  obtain ⟨T, hT⟩ : ∃ T, L.take i = T := ⟨_, rfl⟩
  rw [hT] at hcut hrep htl hcutb
  rw [htl] at hcut
  obtain ⟨w4, zs, hclr, hzl, hg4, hF4, _⟩ := clear_blkK (W := w) (t := 38) (ty := 0) (K := 2) (g := g) (o := i * 2) (n := L.length - i) (dc := cap - i) Try.underlying38 zero_run rfl (by intro v hv; simp [Value.cells] at hv; rcases hv with rfl | rfl <;> rfl) h.blk (by rw [h.size]; omega) (by omega)
  have hsz := h.size
  have hN : ReplPost w g (replF L i []) (.returned (.slice (some ⟨g, 0, none⟩) i cap)) w4 := ⟨_, rfl, by
    rw [hrep, htl]
    have h9 : RunBlk w4 g cap T (splice cur (i * 2) zs) := ⟨hg4, hcutb.len, hcutb.max, by rw [splice_length _ _ _ (by omega)]; exact hsz, by
      rw [htl, splice_out _ _ _ _ (Nat.le_refl _) (by omega)]
      have := hcutb.cells
      rw [htl] at this; exact this⟩
    have := h9.own
    rw [htl] at this; exact this, fun k hk => .inl (by simpa [Value.ownBlock] using hk.symm), hF4⟩
  have HOW := Lib.hid hcut
  have HN := Lib.hid hN
  clear hcut hcutb hrep h hT hg4 hF4 hN
  have e9 : ¬ cap = i := by omega
  go_enter Try.func56, Try.ntmps56
  go_wp2_with (at_builtin; refine wpList_append_own_none rfl _ _ 38 rfl 0 33 i0 2 Try.underlying38 hi0 _ i (cellsOf T) rfl HOW.out rfl ?_)
  go_wp2
  go_ret
  exact HN.out
theorem RunBlk.bel {w w' : World} {g cap : Nat} {L : List Rn} {cur : List Value} (h : RunBlk w g cap L cur) (k : Bel w w') : RunBlk w' g cap L cur :=
  ⟨(k.block g (heap_lt h.blk)).trans h.blk, h.len, h.max, h.size, h.cells⟩
/-- The cells from a run on. -/
theorem RunBlk.from {w : World} {g cap : Nat} {L : List Rn} {cur : List Value} (h : RunBlk w g cap L cur) (i : Nat) : RdV w (some ⟨g, i * 2, none⟩) (cellsOf (L.drop i)) := by
  refine .inr ⟨g, i * 2, rfl, fun j hj => ?_⟩
  have hlen := cellsOf_length (L.drop i)
  rw [List.length_drop] at hlen
  have hc := h.len
  have hs := h.size
  rw [blk_cell h.blk]
  have h1 : (cellsOf (L.drop i))[j]? = cur[i * 2 + j]? := by
    rw [← cellsOf_drop, ← h.cells, List.getElem?_drop, List.getElem?_take, if_pos (by omega)]
  rw [List.getElem?_eq_getElem hj] at h1
  rw [h1]; simp
set_option maxHeartbeats 1000000 in
set_option maxRecDepth 20000 in
theorem replace_mid0 (g cap : Nat) (L : List Rn) (i m : Nat) (cur : List Value) (w : World) (h : RunBlk w g cap L cur) (hi : L.length = i + 1 + m) (hm : 0 < m) (hl : L.length ≤ 1024) :
    Calls Try.prog 56 #[.slice (some ⟨g, 0, none⟩) (i + 1 + m) cap, .int .i64 i, .int .i64 ((i : Int) + 1), .slice none 0 0] w (ReplPost w g (replF L i [])) := by
  have hc := h.len
  have hmx := h.max
  unfold maxLen at hmx
  rw [hi] at hc hl
  have e1 : ((i : Int) == (i : Int) + 1) = false := by simp; omega
  have e2 : ((i : Int) + 1 == (((i + 1 + m : Nat)) : Int)) = false := by simp; omega
  have e2' : ((i : Int) + 1 == (i : Int) + 1 + (m : Int)) = false := by simp; omega
  have e3 : ((i : Int) + 1).toNat = i + 1 := by omega
  have hcp0 : ∀ W d dl dc, (Builtin.copy_ #[38, 38] 3 #[.slice d dl dc, .slice none 0 0]).run Try.prog W = .ok (.int .i64 0) W := fun W d dl dc => copy_zeroK Try.underlying38 size_run (by simp)
  have HB := Lib.hid h
  clear h
  go_enter Try.func56, Try.ntmps56
  go_wp2_with fail
  go_quiet (fail)
  go_wp2_with fail
  have HB1 := Lib.hid (HB.out.bel (Bel.drewN (Bel.refl w) nq))
  have HBB := Lib.hid (Bel.drewN (Bel.refl w) nq)
  generalize w.drewN nq = w1 at HB1 HBB ⊢
  have e6 : IntKind.i64.wrap (i : Int) = i := IntWalk.i64_in _ (by omega)
  have e7 : ¬ cap = i := by omega
  have e8 : ¬ cap = i + 1 := by omega
  have e9 : i + m - i = m := by omega
  have e10 : i + 1 + m - (i + 1) = m := by omega
  have e11 : (i : Int) ≤ (i : Int) + m := by omega
  have e12 : (i : Int) + 1 ≤ (i : Int) + 1 + m := by omega
  have e13 : (0 : Int) ≤ (i : Int) + 1 := by omega
  have e14 : i + 1 + m - (i + m) = 1 := by omega
  have e15 : ¬ cap = i + m := by omega
  have e16 : (i : Int) + m ≤ (i : Int) + 1 + m := by omega
  have e17 : (0 : Int) ≤ (i : Int) + m := by omega
  have e18 : ((i : Int) + m).toNat = i + m := by omega
  have hlr : (cellsOf (L.drop (i + 1))).length = m * 2 := by rw [cellsOf_length, List.length_drop]; omega
  have hsz := HB.out.size
  obtain ⟨w2, hcp, hg2, hF2, hs2⟩ := copy_blkK (W := w1.drew) (dT := 38) (sT := 38) (ty := 3) (K := 2) (g := g) (o := i * 2) (n := m) (dl := m) (sl := m) (dc := cap - i) (sc := cap - (i + 1)) Try.underlying38 size_run (HB1.out.bel (Bel.refl _).drew).blk (Nat.min_self m) ((HB1.out.bel (Bel.refl _).drew).from (i + 1)) hlr (by omega) (cellsOf_one _) hm (by omega)
  obtain ⟨w3, zs, hclr, hzl, hg3, hF3, _⟩ := clear_blkK (W := w2) (t := 38) (ty := 0) (K := 2) (g := g) (o := (i + m) * 2) (n := 1) (dc := cap - (i + m)) Try.underlying38 zero_run rfl (by intro v hv; simp [Value.cells] at hv; rcases hv with rfl | rfl <;> rfl) hg2 (by rw [splice_length _ _ _ (by omega)]; omega) (by decide)
  have hN : ReplPost w g (replF L i []) (.returned (.slice (some ⟨g, 0, none⟩) (i + m) cap)) w3 := by
    have hrl : (replF L i []).length = i + m := by rw [replF_length (by omega), hi]; simp only [List.length_nil]; omega
    refine ⟨_, rfl, ?_, fun k hk => .inl (by simpa [Value.ownBlock] using hk.symm), ((Fr.of_bel HBB.out.drew).trans' hF2).trans' hF3⟩
    have h9 : RunBlk w3 g cap (replF L i []) (splice (splice cur (i * 2) (cellsOf (L.drop (i + 1)))) ((i + m) * 2) zs) := ⟨hg3, by omega, HB.out.max, by
      rw [splice_length _ _ _ (by rw [splice_length _ _ _ (by omega)]; omega), splice_length _ _ _ (by omega)]; exact hsz, by
      rw [hrl, splice_out _ _ _ _ (Nat.le_refl _) (by rw [splice_length _ _ _ (by omega)]; omega), cellsOf_replF]
      rw [splice_end _ _ _ _ (by omega) (by omega), cellsOf_drop, ← HB.out.cells, List.take_take, Nat.min_eq_left (by omega)]
      simp [cellsOf]⟩
    have := h9.own
    rw [hrl] at this; rw [hrl]; exact this
  have HN := Lib.hid hN
  clear hN hg2 hF2 hg3 hF3 hs2
  go_region
  go_wp2
  go_ret
  exact HN.out
set_option maxHeartbeats 1000000 in
set_option maxRecDepth 20000 in
theorem replace_mid1 (g cap : Nat) (L : List Rn) (i m : Nat) (cur : List Value) (ga oa c : Nat) (x : Rn) (w : World) (h : RunBlk w g cap L cur) (hi : L.length = i + 1 + m) (hm : 0 < m) (hl : L.length ≤ 1024) (hr : RunsIn w (some ⟨ga, oa, none⟩) [x]) :
    Calls Try.prog 56 #[.slice (some ⟨g, 0, none⟩) (i + 1 + m) cap, .int .i64 i, .int .i64 ((i : Int) + 1), .slice (some ⟨ga, oa, none⟩) 1 c] w (ReplPost w g (replF L i [x])) := by
  have hc := h.len
  have hmx := h.max
  unfold maxLen at hmx
  rw [hi] at hc hl
  have e1 : ((i : Int) == (i : Int) + 1) = false := by simp; omega
  have e2 : ((i : Int) + 1 == (((i + 1 + m : Nat)) : Int)) = false := by simp; omega
  have e2' : ((i : Int) + 1 == (i : Int) + 1 + (m : Int)) = false := by simp; omega
  have e3 : ((i : Int) + 1).toNat = i + 1 := by omega
  have e6 : IntKind.i64.wrap (i : Int) = i := IntWalk.i64_in _ (by omega)
  have e7 : ¬ cap = i := by omega
  have e8 : ¬ cap = i + 1 := by omega
  have e9 : i + 1 + m - i = 1 + m := by omega
  have e10 : i + 1 + m - (i + 1) = m := by omega
  have e11 : (i : Int) ≤ (i : Int) + 1 + m := by omega
  have e12 : (i : Int) + 1 ≤ (i : Int) + 1 + m := by omega
  have e13 : (0 : Int) ≤ (i : Int) + 1 := by omega
  have e17 : (0 : Int) ≤ (i : Int) + 1 + m := by omega
  have e18 : ((i : Int) + 1 + m).toNat = i + 1 + m := by omega
  have e19 : ¬ (cap : Int) < (i : Int) + 1 + m := by omega
  have hclr : ∀ W a dc, (Builtin.clear_ #[38] 0 #[.slice a 0 dc]).run Try.prog W = .ok (.tuple #[]) W := fun W a dc => clear_zeroK Try.underlying38 zero_run
  have hc1 : (cellsOf [x]).length = 1 * 2 := rfl
  have HB := Lib.hid h
  have HR := Lib.hid hr
  have hsz := h.size
  have hlr : (cellsOf (L.drop (i + 1))).length = m * 2 := by rw [cellsOf_length, List.length_drop]; omega
  have hcellsL := h.cells
  clear h hr
  go_enter Try.func56, Try.ntmps56
  go_wp2_with fail
  go_quiet (fail)
  have HB1 := Lib.hid (HB.out.bel (Bel.drewN (Bel.refl w) nq))
  have HR1 := Lib.hid (HR.out.bel (Bel.drewN (Bel.refl w) nq))
  have HBB := Lib.hid (Bel.drewN (Bel.refl w) nq)
  generalize w.drewN nq = w1 at HB1 HR1 HBB ⊢
  obtain ⟨w2, hcp, hg2, hF2, hs2⟩ := copy_blkK (W := w1) (dT := 38) (sT := 38) (ty := 3) (K := 2) (g := g) (o := i * 2) (n := 1) (dl := 1 + m) (sl := 1) (dc := cap - i) (sc := c) Try.underlying38 size_run HB1.out.blk (Nat.min_eq_left (by omega)) (.inr ⟨ga, oa, rfl, fun j hj => by
    have := runsIn_cells HR1.out j _ (List.getElem?_eq_getElem hj)
    rwa [addr_add] at this⟩ : RdV w1 (some ⟨ga, oa, none⟩) (cellsOf [x])) hc1 (by omega) (cellsOf_one _) (by decide) (by decide)
  have hsl : (splice cur (i * 2) (cellsOf [x])).length = cur.length := splice_length _ _ _ (by omega)
  have hrd2 : RdV w2.drew (some ⟨g, (i + 1) * 2, none⟩) (cellsOf (L.drop (i + 1))) := by
    refine .inr ⟨g, (i + 1) * 2, rfl, fun j hj => ?_⟩
    rw [blk_cell (w := w2.drew) hg2, List.getElem?_toArray, splice_get _ _ _ (by omega), if_neg (by omega)]
    have h1 : (cellsOf (L.drop (i + 1)))[j]? = cur[(i + 1) * 2 + j]? := by
      rw [← cellsOf_drop, ← hcellsL, List.getElem?_drop, List.getElem?_take, if_pos (by omega)]
    rw [← h1, List.getElem?_eq_getElem hj]
  obtain ⟨w3, hcp2, hg3, hF3, hs3⟩ := copy_blkK (W := w2.drew) (dT := 38) (sT := 38) (ty := 3) (K := 2) (g := g) (o := (i + 1) * 2) (n := m) (dl := m) (sl := m) (dc := cap - (i + 1)) (sc := cap - (i + 1)) Try.underlying38 size_run (show w2.drew.heap[g]? = _ from hg2) (Nat.min_self m) hrd2 hlr (by omega) (cellsOf_one _) hm (by decide)
  have hN : ReplPost w g (replF L i [x]) (.returned (.slice (some ⟨g, 0, none⟩) (i + 1 + m) cap)) w3 := by
    have hrl : (replF L i [x]).length = i + 1 + m := by rw [replF_length (by omega), hi]; simp only [List.length_singleton]; omega
    refine ⟨_, rfl, ?_, fun k hk => .inl (by simpa [Value.ownBlock] using hk.symm), ((Fr.of_bel HBB.out).trans' hF2).drew.trans' hF3⟩
    have h9 : RunBlk w3 g cap (replF L i [x]) (splice (splice cur (i * 2) (cellsOf [x])) ((i + 1) * 2) (cellsOf (L.drop (i + 1)))) := ⟨hg3, by omega, HB.out.max, by
      rw [splice_length _ _ _ (by omega), hsl]; exact hsz, by
      rw [hrl, splice_end _ _ _ _ (by omega) (by omega), splice_end _ _ _ _ (by omega) (by omega), cellsOf_replF, cellsOf_drop, ← hcellsL, List.take_take, Nat.min_eq_left (by omega)]⟩
    have := h9.own
    rw [hrl] at this; rw [hrl]; exact this
  have HN := Lib.hid hN
  clear hN hg2 hF2 hg3 hF3 hs2 hs3 hrd2 hsl
  go_wp2_with fail
  go_region
  go_wp2
  all_goals
    go_ret
    first | exact HN.out | (subst_vars; exact HN.out)
theorem blk_shape {w : World} {b : Nat} {cs : Array Value} {T : Nat} {fz : Nat × Nat} (h : w.heap[b]? = some (.cells cs T fz)) : w.shape? b = some (T, cs.size) := by
  simp [World.shape?, h]
/-- The library's overlaps at two blocks. -/
theorem overlaps_apart (w : World) (g o la ca gb lb cb : Nat) (cs ds : Array Value) (hne : g ≠ gb) (hg : w.heap[g]? = some (.cells cs 33 (0, 0))) (hb : w.heap[gb]? = some (.cells ds 33 (0, 0))) (h0 : ds.size ≠ 0) :
    (callFunc 68 #[.slice (some ⟨g, o, none⟩) la ca, .slice (some ⟨gb, 0, none⟩) lb cb]).run Try.prog w = .ok (.value (.bool false)) w := by
  rw [run_callFunc_extern Try.func68 (by kernel_rfl) (by kernel_rfl) (by kernel_rfl) (e := Extern.SlicesOverlaps.overlaps #[38, 38] #[4]) (by kernel_rfl),
    Lib.run_overlaps_apart w 38 4 33 Try.underlying38 2 Try.sizeOf33 ⟨g, o, none⟩ ⟨gb, 0, none⟩ la ca lb cb hne _ _ _ _ (blk_shape hg) (blk_shape hb) h0 (blk_frozen hg _) (blk_frozen hg _)]
  rfl
set_option maxHeartbeats 1000000 in
set_option maxRecDepth 20000 in
theorem replace_mid2 (g cap : Nat) (L : List Rn) (i m : Nat) (cur : List Value) (ga c : Nat) (x y : Rn) (w : World) (h : RunBlk w g cap L cur) (hi : L.length = i + 1 + m) (hm : 0 < m) (hl : L.length ≤ 1024) (cR : List Value) (hR : RunBlk w ga c [x, y] cR) (hne : g ≠ ga) (hroom : i + 2 + m ≤ cap) :
    Calls Try.prog 56 #[.slice (some ⟨g, 0, none⟩) (i + 1 + m) cap, .int .i64 i, .int .i64 ((i : Int) + 1), .slice (some ⟨ga, 0, none⟩) 2 c] w (ReplPost w g (replF L i [x, y])) := by
  have hc := h.len
  have hmx := h.max
  unfold maxLen at hmx
  rw [hi] at hc hl
  have e1 : ((i : Int) == (i : Int) + 1) = false := by simp; omega
  have e2 : ((i : Int) + 1 == (((i + 1 + m : Nat)) : Int)) = false := by simp; omega
  have e2' : ((i : Int) + 1 == (i : Int) + 1 + (m : Int)) = false := by simp; omega
  have e3 : ((i : Int) + 1).toNat = i + 1 := by omega
  have e3' : ((i : Int) + 2).toNat = i + 2 := by omega
  have e6 : IntKind.i64.wrap ((i : Int) + 2) = (i : Int) + 2 := IntWalk.i64_in _ (by omega)
  have e7 : ¬ cap = i := by omega
  have e8 : ¬ cap = i + 1 := by omega
  have e8' : ¬ cap = i + 2 := by omega
  have e9 : i + 2 + m - i = 2 + m := by omega
  have e10 : i + 1 + m - (i + 1) = m := by omega
  have e10' : i + 2 + m - (i + 2) = m := by omega
  have e11 : (i : Int) ≤ (i : Int) + 2 + m := by omega
  have e12 : (i : Int) + 1 ≤ (i : Int) + 1 + m := by omega
  have e12' : (i : Int) + 2 ≤ (i : Int) + 2 + m := by omega
  have e13 : (0 : Int) ≤ (i : Int) + 1 := by omega
  have e13' : (0 : Int) ≤ (i : Int) + 2 := by omega
  have e17 : (0 : Int) ≤ (i : Int) + 2 + m := by omega
  have e18 : ((i : Int) + 2 + m).toNat = i + 2 + m := by omega
  have e19 : ¬ (cap : Int) < (i : Int) + 2 + m := by omega
  have e20 : ¬ (i : Int) + 2 ≤ (i : Int) + 1 := by omega
  have hc1 : (cellsOf [x, y]).length = 2 * 2 := rfl
  have HB := Lib.hid h
  have HR := Lib.hid hR
  have hsz := h.size
  have hlr : (cellsOf (L.drop (i + 1))).length = m * 2 := by rw [cellsOf_length, List.length_drop]; omega
  have hcellsL := h.cells
  clear h hR
  go_enter Try.func56, Try.ntmps56
  go_wp2_with fail
  go_quiet (fail)
  have HB1 := Lib.hid (HB.out.bel (Bel.drewN (Bel.refl w) nq))
  have HR1 := Lib.hid (HR.out.bel (Bel.drewN (Bel.refl w) nq))
  have HBB := Lib.hid (Bel.drewN (Bel.refl w) nq)
  generalize w.drewN nq = w1 at HB1 HR1 HBB ⊢
  have hov := overlaps_apart w1 g ((i + 2) * 2) m (cap - (i + 2)) ga 2 c _ _ hne HB1.out.blk HR1.out.blk (by have h8 := HR1.out.size; have h9 : 2 ≤ c := HR1.out.len; rw [List.size_toArray]; omega)
  obtain ⟨w2, hcp, hg2, hF2, hs2⟩ := copy_blkK (W := w1.drew) (dT := 38) (sT := 38) (ty := 3) (K := 2) (g := g) (o := (i + 2) * 2) (n := m) (dl := m) (sl := m) (dc := cap - (i + 2)) (sc := cap - (i + 1)) Try.underlying38 size_run (HB1.out.bel (Bel.refl _).drew).blk (Nat.min_self m) ((HB1.out.bel (Bel.refl _).drew).from (i + 1)) hlr (by omega) (cellsOf_one _) hm (by decide)
  have hsl : (splice cur ((i + 2) * 2) (cellsOf (L.drop (i + 1)))).length = cur.length := splice_length _ _ _ (by omega)
  have hrd2 : RdV w2 (some ⟨ga, 0, none⟩) (cellsOf [x, y]) := by
    obtain ⟨a9, c9, e9, hr9, _⟩ := own_slice HR1.out.own
    cases e9
    exact (hr9.bel (Bel.refl _).drew).fr hF2 (by rintro p ⟨⟩ h9; exact hne h9.symm)
  obtain ⟨w3, hcp2, hg3, hF3, hs3⟩ := copy_blkK (W := w2) (dT := 38) (sT := 38) (ty := 3) (K := 2) (g := g) (o := i * 2) (n := 2) (dl := 2 + m) (sl := 2) (dc := cap - i) (sc := c) Try.underlying38 size_run hg2 (Nat.min_eq_left (by omega)) hrd2 hc1 (by omega) (cellsOf_one _) (by decide) (by decide)
  have hN : ReplPost w g (replF L i [x, y]) (.returned (.slice (some ⟨g, 0, none⟩) (i + 2 + m) cap)) w3 := by
    have hrl : (replF L i [x, y]).length = i + 2 + m := by rw [replF_length (by omega), hi]; simp only [List.length_cons, List.length_nil]; omega
    refine ⟨_, rfl, ?_, fun k hk => .inl (by simpa [Value.ownBlock] using hk.symm), ((Fr.of_bel HBB.out.drew).trans' hF2).trans' hF3⟩
    have h9 : RunBlk w3 g cap (replF L i [x, y]) (splice (splice cur ((i + 2) * 2) (cellsOf (L.drop (i + 1)))) (i * 2) (cellsOf [x, y])) := ⟨hg3, by omega, HB.out.max, by
      rw [splice_length _ _ _ (by omega), hsl]; exact hsz, by
      rw [hrl, take_splice _ _ _ _ (by omega) (by omega), splice_end _ _ _ _ (by omega) (by omega), cellsOf_replF]
      have hA : (cur.take ((i + 2) * 2)).length = (i + 2) * 2 := by simp; omega
      unfold splice
      rw [List.take_append_of_le_length (by omega), List.take_take, Nat.min_eq_left (by omega), hc1, show i * 2 + 2 * 2 = (i + 2) * 2 by omega, List.drop_left' hA, cellsOf_drop, ← hcellsL, List.take_take, Nat.min_eq_left (by omega)]⟩
    have := h9.own
    rw [hrl] at this; rw [hrl]; exact this
  have HN := Lib.hid hN
  clear hN hg2 hF2 hg3 hF3 hs2 hs3 hrd2 hsl
  go_wp2_with fail
  go_region
  go_wp2
  all_goals
    go_ret
    first | exact HN.out | (subst_vars; exact HN.out)
set_option maxHeartbeats 1000000 in
set_option maxRecDepth 20000 in
theorem replace_mid3 (g cap : Nat) (L : List Rn) (i m : Nat) (cur : List Value) (ga c : Nat) (x y : Rn) (w : World) (h : RunBlk w g cap L cur) (hi : L.length = i + 1 + m) (hm : 0 < m) (hl : L.length ≤ 1024) (cR : List Value) (hR : RunBlk w ga c [x, y] cR) (hroom : cap < i + 2 + m) :
    Calls Try.prog 56 #[.slice (some ⟨g, 0, none⟩) (i + 1 + m) cap, .int .i64 i, .int .i64 ((i : Int) + 1), .slice (some ⟨ga, 0, none⟩) 2 c] w (ReplPost w g (replF L i [x, y])) := by
  have hc := h.len
  obtain ⟨i0, hi0, hz0, hz1, hz2⟩ := info_parts info_run
  rw [hi] at hc hl
  obtain rfl : cap = i + 1 + m := by omega
  have e1 : ((i : Int) == (i : Int) + 1) = false := by simp; omega
  have e2 : ((i : Int) + 1 == (((i + 1 + m : Nat)) : Int)) = false := by simp; omega
  have e2' : ((i : Int) + 1 == (i : Int) + 1 + (m : Int)) = false := by simp; omega
  have e3 : ((i : Int) + 1).toNat = i + 1 := by omega
  have e3' : ((i : Int) + 2).toNat = i + 2 := by omega
  have e6 : IntKind.i64.wrap ((i : Int) + 2) = (i : Int) + 2 := IntWalk.i64_in _ (by omega)
  have e7 : ¬ i + 1 + m = i := by omega
  have e8 : ¬ i + 1 + m = i + 1 := by omega
  have e10 : i + 1 + m - (i + 1) = m := by omega
  have e12 : (i : Int) + 1 ≤ (i : Int) + 1 + m := by omega
  have e13 : (0 : Int) ≤ (i : Int) + 1 := by omega
  have e13' : (0 : Int) ≤ (i : Int) + 2 := by omega
  have e17 : (0 : Int) ≤ (i : Int) + 2 + m := by omega
  have e19 : (i : Int) + 1 + m < (i : Int) + 2 + m := by omega
  have e21 : (i : Int) + 2 + m - i = ((2 + m : Nat) : Int) := by omega
  have e22 : IntKind.i64.wrap ((2 + m : Nat) : Int) = ((2 + m : Nat) : Int) := IntWalk.i64_in _ (by omega)
  have hc1 : (cellsOf [x, y]).length = 2 * 2 := rfl
  have HB := Lib.hid h
  have HR := Lib.hid hR
  have hsz := h.size
  have hlr : (cellsOf (L.drop (i + 1))).length = m * 2 := by rw [cellsOf_length, List.length_drop]; omega
  have hcellsL := h.cells
  clear h hR
  go_enter Try.func56, Try.ntmps56
  go_wp2_with fail
  go_quiet (fail)
  have HB1 := Lib.hid (HB.out.bel (Bel.drewN (Bel.refl w) nq))
  have HR1 := Lib.hid (HR.out.bel (Bel.drewN (Bel.refl w) nq))
  have HBB := Lib.hid (Bel.drewN (Bel.refl w) nq)
  generalize w.drewN nq = w1 at HB1 HR1 HBB ⊢
  have hol : (Builtin.firstCells i0.size i (.slice (some ⟨g, 0, none⟩) i (i + 1 + m))).run Try.prog w1.drew = .ok ((cellsOf L).take (i * 2)).toArray w1.drew := by
    rw [hz1]
    refine run_firstCells_some w1.drew 2 i ⟨g, 0, none⟩ i (i + 1 + m) _ (by rw [List.length_take, cellsOf_length]; omega) (fun j u hj => ?_)
    rw [addr_add, Nat.zero_add, blk_cell (w := w1.drew) HB1.out.blk, List.getElem?_toArray]
    rw [List.getElem?_take] at hj
    split at hj
    · rw [← hcellsL, List.getElem?_take] at hj
      split at hj
      · exact hj
      · cases hj
    · cases hj
  have hrun : ∀ ty, (Builtin.append_ #[38, 3] ty #[.slice (some ⟨g, 0, none⟩) i (i + 1 + m), .int .i64 ((2 + m : Nat) : Int)]).run Try.prog w1 = _ := fun ty =>
    run_append_grow_zeros w1 38 3 ty 33 i0 (.agg #[.int .i64 0, .int .i64 0]) .i64 .i64 Try.underlying38 Try.underlying3 hi0 hz0 (some ⟨g, 0, none⟩) i (i + 1 + m) _ hol (2 + m) (by omega) (by omega) (by omega) (by omega) (by rw [hz2]; omega) (by
      rw [hz2]
      have := nextslicecap_le (need := i + (2 + m)) (old := i + 1 + m) (by omega)
      omega)
  have hge := grownCap_ge w1 (i + (2 + m)) (i + 1 + m) 33
  have hle := grownCap_le_maxLen w1 (i + (2 + m)) (i + 1 + m) 33 (by unfold maxLen; omega)
  generalize grownCap w1 (i + (2 + m)) (i + 1 + m) 33 = G at hrun hge hle
  have hz2' : (Value.agg #[.int .i64 0, .int .i64 0]).cells.size = 2 := rfl
  obtain ⟨N0, hN0, hNl, hNt⟩ : ∃ N0 : List Value, ((cellsOf L).take (i * 2)).toArray ++ Builtin.zeroCells (Value.agg #[.int .i64 0, .int .i64 0]).cells (2 + m) ++ Builtin.zeroCells (Value.agg #[.int .i64 0, .int .i64 0]).cells (G - (i + (2 + m))) = N0.toArray ∧ N0.length = G * 2 ∧ N0.take (i * 2) = (cellsOf L).take (i * 2) := by
    refine ⟨(((cellsOf L).take (i * 2)).toArray ++ Builtin.zeroCells (Value.agg #[.int .i64 0, .int .i64 0]).cells (2 + m) ++ Builtin.zeroCells (Value.agg #[.int .i64 0, .int .i64 0]).cells (G - (i + (2 + m)))).toList, by simp, ?_, ?_⟩
    · rw [Array.length_toList, Array.size_append, Array.size_append, size_zeroCells, size_zeroCells, hz2', List.size_toArray, List.length_take, cellsOf_length]; omega
    · rw [Array.toList_append, Array.toList_append, List.append_assoc]
      exact List.take_left' (by rw [List.length_take, cellsOf_length]; omega)
  rw [hN0] at hrun
  have hsz1 : w1.drew.heap.size = w1.heap.size := rfl
  have hgl : g < w1.heap.size := heap_lt HB1.out.blk
  have hgal : ga < w1.heap.size := heap_lt HR1.out.blk
  obtain ⟨w3, hw3⟩ : ∃ w3, w1.drew.alloc (.cells N0.toArray 33) = w3 := ⟨_, rfl⟩
  have hB3 : Bel w1 w3 := by rw [← hw3]; exact (Bel.refl w1).drew.alloc _
  have hng : w3.heap[w1.heap.size]? = some (.cells N0.toArray 33 (0, 0)) := by rw [← hw3]; exact blk_alloc w1.drew _
  rw [hw3] at hrun
  have hrR : RdV w3 (some ⟨ga, 0, none⟩) (cellsOf [x, y]) := by
    obtain ⟨a9, c9, e9, hr9, _⟩ := own_slice HR1.out.own
    cases e9
    exact hr9.bel hB3
  obtain ⟨w4, hcp, hg4, hF4, hs4⟩ := copy_blkK (W := w3) (dT := 38) (sT := 38) (ty := 3) (K := 2) (g := w1.heap.size) (o := i * 2) (n := 2) (dl := 2 + m) (sl := 2) (dc := G - i) (sc := c) Try.underlying38 size_run hng (Nat.min_eq_left (by omega)) hrR hc1 (by omega) (cellsOf_one _) (by decide) (by decide)
  have hsl : (splice N0 (i * 2) (cellsOf [x, y])).length = N0.length := splice_length _ _ _ (by omega)
  have hB4 : Bel w1 w4.drew := (Fr.bel ((Fr.of_bel (S := fun k => k = w1.heap.size) hB3).trans' hF4) (fun k e => by omega)).drew
  obtain ⟨w5, hcp2, hg5, hF5, hs5⟩ := copy_blkK (W := w4.drew) (dT := 38) (sT := 38) (ty := 3) (K := 2) (g := w1.heap.size) (o := (i + 2) * 2) (n := m) (dl := m) (sl := m) (dc := G - (i + 2)) (sc := m) Try.underlying38 size_run (show w4.drew.heap[w1.heap.size]? = _ from hg4) (Nat.min_self m) ((HB1.out.bel hB4).from (i + 1)) hlr (by omega) (cellsOf_one _) hm (by decide)
  have hN : ReplPost w g (replF L i [x, y]) (.returned (.slice (some ⟨w1.heap.size, 0, none⟩) (i + (2 + m)) G)) w5 := by
    have hrl : (replF L i [x, y]).length = i + (2 + m) := by rw [replF_length (by omega), hi]; simp only [List.length_cons, List.length_nil]; omega
    have hB5 : Bel w w5 := HBB.out.trans (Fr.bel ((Fr.of_bel (S := fun k => k = w1.heap.size) hB4).trans' hF5) (fun k e => by omega))
    refine ⟨_, rfl, ?_, fun k hk => .inr (by have h8 := HBB.out.size; simp [Value.ownBlock] at hk; omega), Fr.of_bel hB5⟩
    have h9 : RunBlk w5 w1.heap.size G (replF L i [x, y]) (splice (splice N0 (i * 2) (cellsOf [x, y])) ((i + 2) * 2) (cellsOf (L.drop (i + 1)))) := ⟨hg5, by omega, hle, by
      rw [splice_length _ _ _ (by omega), hsl, hNl], by
      rw [hrl, splice_end _ _ _ _ (by omega) (by omega), splice_end _ _ _ _ (by omega) (by omega), hNt, cellsOf_replF, cellsOf_drop]⟩
    have := h9.own
    rw [hrl] at this; rw [hrl]; exact this
  have HN := Lib.hid hN
  have HRUN := Lib.hid hrun
  have f1 : ¬ G = i := by omega
  have f2 : ¬ G = i + 2 := by omega
  have f3 : i + (2 + m) - (i + 2) = m := by omega
  have f4 : (i : Int) ≤ (i : Int) + (2 + (m : Int)) := by omega
  have f5 : (i : Int) + 2 ≤ (i : Int) + (2 + (m : Int)) := by omega
  clear hN hg4 hF4 hg5 hF5 hs4 hs5 hsl hB4 hrR hng hB3 hw3 hrun hol hNt hNl hN0
  go_wp2_with (at_builtin; refine wpList_append_run _ rfl _ _ _ _ rfl _ _ rfl rfl _ _ (HRUN.out _) ?_)
  go_region
  go_wp2
  go_ret
  exact HN.out
/-- Replace of one run by at most two others, which are one's own. -/
theorem replace_runs (v : Value) (L : List Rn) (i : Nat) (vR : Value) (R : List Rn) (w : World) (hi : i < L.length) (hl : L.length ≤ 1024) (hown : w.ownsRow 0 33 2 v L.length (cellsOf L)) (hR : w.ownsRow 0 33 2 vR R.length (cellsOf R))
    (hRl : R.length ≤ 2) (hne : ∀ k, v.ownBlock = some k → vR.ownBlock ≠ some k) (hnil : R = [] → vR = .slice none 0 0) :
    Calls Try.prog 56 #[v, .int .i64 i, .int .i64 ((i : Int) + 1), vR] w fun e w' =>
      ∃ v', e = .returned v' ∧ w'.ownsRow 0 33 2 v' (replF L i R).length (cellsOf (replF L i R)) ∧ (∀ k, v'.ownBlock = some k → v.ownBlock = some k ∨ w.heap.size ≤ k) ∧ Fr (fun k => v.ownBlock = some k) w w' := by
  obtain ⟨g, cap, rfl⟩ : ∃ g cap, v = .slice (some ⟨g, 0, none⟩) L.length cap := by
    rcases hown.2 with ⟨_, h2⟩ | ⟨g, cap, cur, h1, _⟩
    · omega
    · exact ⟨g, cap, h1⟩
  obtain ⟨cur, hB⟩ := RunBlk.of_own hown
  have key : ∀ e w', ReplPost w g (replF L i R) e w' → ∃ v', e = .returned v' ∧ w'.ownsRow 0 33 2 v' (replF L i R).length (cellsOf (replF L i R)) ∧ (∀ k, v'.ownBlock = some k → (Value.slice (some ⟨g, 0, none⟩) L.length cap).ownBlock = some k ∨ w.heap.size ≤ k) ∧ Fr (fun k => (Value.slice (some ⟨g, 0, none⟩) L.length cap).ownBlock = some k) w w' := by
    rintro e w' ⟨v', h1, h2, h3, h4⟩
    exact ⟨v', h1, h2, fun k hk => by rcases h3 k hk with h | h; exact .inl (by rw [h]; rfl); exact .inr h, h4.mono (fun k h => by rw [h]; rfl)⟩
  have hRr : R ≠ [] → ∃ gr cr, vR = .slice (some ⟨gr, 0, none⟩) R.length cr ∧ g ≠ gr := by
    intro h0
    rcases hR.2 with ⟨_, h2⟩ | ⟨g', cap', cur', h1, _⟩
    · exact (h0 (List.eq_nil_of_length_eq_zero h2)).elim
    · exact ⟨g', cap', h1, fun h => hne g rfl (by rw [h1, h]; rfl)⟩
  by_cases hend : i + 1 = L.length
  · by_cases h0 : R = []
    · subst h0
      obtain rfl := hnil rfl
      exact (replace_end0 g cap L i cur w hB hend hl).mono key
    · obtain ⟨gr, cr, rfl, hg⟩ := hRr h0
      obtain ⟨a9, c9, e9, hr9, _⟩ := own_slice hR
      cases e9
      exact (replace_end g cap L i cur _ R cr w hB hend hl (RunsIn.of_row hr9) hRl h0).mono key
  · obtain ⟨m, hm⟩ : ∃ m, L.length = i + 1 + m := ⟨L.length - (i + 1), by omega⟩
    have hm0 : 0 < m := by omega
    have ea : (Value.slice (some ⟨g, 0, none⟩) L.length cap) = .slice (some ⟨g, 0, none⟩) (i + 1 + m) cap := by rw [hm]
    by_cases h0 : R = []
    · subst h0
      obtain rfl := hnil rfl
      have := replace_mid0 g cap L i m cur w hB hm hm0 hl
      rw [← ea] at this
      exact this.mono key
    · obtain ⟨gr, cr, rfl, hg⟩ := hRr h0
      obtain ⟨x, hx⟩ | ⟨x, y, hx⟩ : (∃ x, R = [x]) ∨ ∃ x y, R = [x, y] := by
        match R, h0, hRl with
        | [x], _, _ => exact .inl ⟨x, rfl⟩
        | [x, y], _, _ => exact .inr ⟨x, y, rfl⟩
      · subst hx
        obtain ⟨a9, c9, e9, hr9, _⟩ := own_slice hR
        cases e9
        have := replace_mid1 g cap L i m cur gr 0 cr x w hB hm hm0 hl (RunsIn.of_row hr9)
        rw [← ea] at this
        exact this.mono key
      · subst hx
        obtain ⟨cuR, hBR⟩ := RunBlk.of_own (L := [x, y]) hR
        by_cases hroom : i + 2 + m ≤ cap
        · have := replace_mid2 g cap L i m cur gr cr x y w hB hm hm0 hl cuR hBR hg hroom
          rw [← ea] at this
          exact this.mono key
        · have := replace_mid3 g cap L i m cur gr cr x y w hB hm hm0 hl cuR hBR (by omega)
          rw [← ea] at this
          exact this.mono key
end Go.Proofs.Ythkbhikiljlgoaa
