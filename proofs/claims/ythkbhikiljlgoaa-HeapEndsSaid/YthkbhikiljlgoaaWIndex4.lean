/- Package index: fill. -/
import Derived.Test.YthkbhikiljlgoaaWIndex3
namespace Go.Proofs.Ythkbhikiljlgoaa
open Go.RowKit

theorem IndexAt.set {w : World} {bx bi : Nat} {ids : List Int} (h : IndexAt w bx bi ids) (k : Nat) {v : Int} (hv : I64 v) : IndexAt (w.setCell ⟨bi, k, none⟩ (.int .i64 v)) bx bi (setW ids k v) := by
  refine ⟨h.ne, ?_, ?_, by rw [setW_length]; exact h.small, fun x hx => ?_⟩
  · rw [setW_length]; exact blk_setCell_other h.hd h.ne _
  · have := blk_setCell h.nums k (.int .i64 v)
    rw [this]
    congr 2
    simp [ints, setW, List.map_set]
  · rcases List.mem_or_eq_of_mem_set hx with h1 | h1
    · exact h.ok x h1
    · rw [h1]; exact hv
theorem fill_none (a : Option Addr) (c : Nat) (id : Int) (w : World) :
    Calls Try.prog 34 #[.slice a 0 c, .int .i64 id] w fun e w' => e = .returned (.tuple #[]) ∧ w = w' := by
  go_enter Try.func34, Try.ntmps34
  go_wp2_with fail
  go_loopw [9] (fun k wr => k = .int .i64 0 ∧ w = wr) (fun _ _ => 0)
  case atStart => exact ⟨rfl, rfl⟩
  case round =>
    obtain ⟨rfl, rfl⟩ := hrel
    go_wp2
    go_end0
    exact ⟨rfl, rfl⟩

set_option maxHeartbeats 1000000 in
set_option maxRecDepth 20000 in
theorem index_fill (bx bi : Nat) (ids : List Int) (id : Int) (a : Option Addr) (rs : List Rn) (n c : Nat) (w : World) (h : IndexAt w bx bi ids) (hn : n = rs.length) (hl : rs.length ≤ 65536) (hr : RdV w a (rs.map (partV bi ids.length))) (hab : ∀ p, a = some p → p.block ≠ bi)
    (ht : AllThere ids.length rs) (hid : I64 id) :
    Calls Try.prog 34 #[.slice a n c, .int .i64 id] w fun e w' => e = .returned (.tuple #[]) ∧ IndexAt w' bx bi (fillA ids id rs) ∧ Fr (fun k => k = bi) w w' := by
  subst hn
  have hsm := h.small
  have HI := Lib.hid h
  have HR := Lib.hid hr
  have HT := Lib.hid ht
  clear h hr ht
  go_enter Try.func34, Try.ntmps34
  go_wp2_with fail
  go_loopw [9] (fun k wr => ∃ i : Nat, i ≤ rs.length ∧ k = .int .i64 i ∧ IndexAt wr bx bi (fillA ids id (rs.take i)) ∧ Fr (fun k => k = bi) w wr) (fun k wr => rs.length - (intOf k).toNat)
  case atStart => exact ⟨0, Nat.zero_le _, rfl, by rw [List.take_zero, fillA_nil]; exact HI.out, Fr.refl _ _⟩
  case round =>
    obtain ⟨i, hi, rfl, hA, hF⟩ := hrel
    by_cases hlt : i < rs.length
    · obtain ⟨b, o, rfl, q0⟩ := (HR.out.fr hF hab).at (f := partV bi ids.length) (xs := rs) i hlt
      have hth := there_iff.1 (HT.out rs[i] (List.getElem_mem _))
      have hst : rs.take (i + 1) = rs.take i ++ [rs[i]] := List.take_succ_eq_append_getElem hlt
      generalize rs[i] = r at q0 hth hst
      obtain ⟨s, m⟩ := r
      obtain ⟨t0, t1, t2, t3⟩ := hth
      dsimp only at t0 t1 t2 t3
      obtain ⟨s, rfl⟩ := Int.eq_ofNat_of_zero_le t0
      obtain ⟨m, rfl⟩ := Int.eq_ofNat_of_zero_le (show 0 ≤ m by omega)
      have q : wr.cell? ⟨b, o + i, none⟩ = some (.slice (some ⟨bi, s, none⟩) m (ids.length - s)) := q0
      have HST := Lib.hid hst
      have HA := Lib.hid hA
      have HF := Lib.hid hF
      have f1 : s + m ≤ ids.length := by omega
      clear q0 hst hA hF t0 t1 t2 t3
      go_wp2_with fail
      clear q
      go_loopw [15] (fun k wr => ∃ j : Nat, j ≤ m ∧ k = .int .i64 j ∧ IndexAt wr bx bi (fillA ids id (rs.take i ++ [((s : Int), (j : Int))])) ∧ Fr (fun k => k = bi) w wr) (fun k wr => m - (intOf k).toNat)
      case atStart => exact ⟨0, Nat.zero_le _, rfl, by rw [fillA_zero]; exact HA.out, HF.out⟩
      case round =>
        obtain ⟨j, hj, rfl, hA2, hF2⟩ := hrel
        by_cases hlt2 : j < m
        · have hln : (fillA ids id (rs.take i ++ [((s : Int), (j : Int))])).length = ids.length := fillA_length _ _ _
          have hcell := hA2.num (s + j) (by rw [hln]; omega)
          have hfz := blk_frozen hA2.nums (s + j)
          have hstep := fillA_step (ids := ids) (id := id) (s := s) (i := j) (L := rs.take i) (by omega) (by omega)
          have hset := hA2.set (s + j) hid
          rw [show ((s + j : Nat) : Int) = (s : Int) + j by omega, hstep] at hset
          have HSET := Lib.hid hset
          have HF2 := Lib.hid hF2
          generalize (fillA ids id (rs.take i ++ [((s : Int), (j : Int))]))[s + j]'(by rw [hln]; omega) = y at hcell
          clear hA2 hF2 hstep hset hln
          go_wp2
          go_roundw
          case rel => exact ⟨j + 1, by omega, by go_num, HSET.out, HF2.out.setCell (.inl rfl) _⟩
          case measure => simp [intOf]; omega
        · obtain rfl : j = m := by omega
          go_wp2
          go_roundw
          case rel => exact ⟨i + 1, by omega, by go_num, by rw [HST.out]; exact hA2, hF2⟩
          case measure => simp [intOf]; omega
    · obtain rfl : i = rs.length := by omega
      rw [List.take_length] at hA
      go_wp2
      go_end0
      exact ⟨rfl, hA, hF⟩
end Go.Proofs.Ythkbhikiljlgoaa
