/- Package index: Drop. -/
import Derived.Test.YthkbhikiljlgoaaWIndex4
import Derived.Test.YthkbhikiljlgoaaWSlJ
import Derived.Test.YthkbhikiljlgoaaPIndex2
namespace Go.Proofs.Ythkbhikiljlgoaa
open Go.RowKit

theorem IndexAt.part {w : World} {bx bi : Nat} {ids : List Int} (h : IndexAt w bx bi ids) {r : Rn} (ht : there ids.length r = true) : RdV w (some ⟨bi, r.1.toNat, none⟩) (ints (partN ids r)) := by
  obtain ⟨s, m⟩ := r
  obtain ⟨t0, t1, t2, t3⟩ := there_iff.1 ht
  dsimp only at t0 t1 t2 t3
  obtain ⟨s, rfl⟩ := Int.eq_ofNat_of_zero_le t0
  obtain ⟨m, rfl⟩ := Int.eq_ofNat_of_zero_le (show 0 ≤ m by omega)
  have hl : s + m ≤ ids.length := by omega
  refine .inr ⟨bi, s, rfl, fun t ht2 => ?_⟩
  have ht3 : t < m := by simpa [ints, partN_length hl] using ht2
  rw [h.num (s + t) (by omega)]
  have h1 := partN_get (ids := ids) (s := s) ht3 hl
  have h2 : (ints (partN ids ((s : Int), (m : Int))))[t]? = some (.int .i64 (wd ids ((s + t : Nat) : Int))) := by
    unfold ints; rw [List.getElem?_map, h1]; rfl
  rw [List.getElem?_eq_getElem ht2] at h2
  rw [h2]
  unfold wd
  rw [Int.toNat_natCast, List.getD_eq_getElem?_getD, List.getElem?_eq_getElem (by omega)]
  rfl
/-- What an act on an index leaves. -/
def IPost (w : World) (bx bi : Nat) (r : List Int × Int) (e : Ending) (w' : World) : Prop := e = .returned (.int .i64 r.2) ∧ IndexAt w' bx bi r.1 ∧ Fr (fun k => k = bi) w w'

theorem IndexAt.same {w : World} {bx bi bi' : Nat} {ids ids' : List Int} (h : IndexAt w bx bi ids) (h' : IndexAt w bx bi' ids') : bi' = bi := by
  have := h.hd.symm.trans h'.hd
  simp at this
  exact this.1.symm
/-- Behind what was thrown, and caught. -/
theorem thrown_end {w w1 : World} {bx bi : Nat} {ids : List Int} (h : IndexAt w bx bi ids) (hB : Bel w w1) (v : Value) (o : Obj) :
    IndexAt ((w1.setCell ⟨w.heap.size, 0, none⟩ v).alloc o) bx bi ids ∧ Fr (fun k => k = bi) w ((w1.setCell ⟨w.heap.size, 0, none⟩ v).alloc o) := by
  have hbx := heap_lt h.hd
  have hbi := heap_lt h.nums
  have hF : Fr (fun _ => False) w ((w1.setCell ⟨w.heap.size, 0, none⟩ v).alloc o) := ((Fr.of_bel hB).setCell (.inr (Nat.le_refl _)) v).alloc o
  have hB2 := Fr.bel hF (fun k h => h.elim)
  exact ⟨h.bel hB2, Fr.of_bel hB2⟩

set_option maxHeartbeats 2000000 in
set_option maxRecDepth 20000 in
theorem index_Drop (bx bi : Nat) (ids : List Int) (a : Option Addr) (rs : List Rn) (n c : Nat) (w : World) (h : IndexAt w bx bi ids) (hn : n = rs.length) (hl : rs.length ≤ 65536) (hr : RunsIn w a rs) (hi64 : ∀ r ∈ rs, I64 r.1 ∧ I64 r.2) :
    Calls Try.prog 20 #[.pointer (some ⟨bx, 0, none⟩), .slice a n c] w (IPost w bx bi (putF ids 0 rs true)) := by
  subst hn
  have hbx := heap_lt h.hd
  have hbi := heap_lt h.nums
  have hsm := h.small
  have hB0 : Bel w (w.alloc (.cells #[.int .i64 0] 24)) := (Bel.refl _).alloc _
  have hcon := index_all (.pointer (some ⟨bx, 0, none⟩)) ids a rs rs.length c (w.alloc (.cells #[.int .i64 0] 24)) (.inr ⟨bx, bi, rfl, h.bel hB0⟩) rfl hl (hr.bel hB0) hi64
  have g0 := blk_alloc w (.cells #[.int .i64 0] 24)
  have HC := Lib.hid hcon
  have HI := Lib.hid h
  have HB0 := Lib.hid hB0
  have HG := Lib.hid g0
  clear hcon h hr hB0 hi64 g0
  go_enter_defers Try.func20, Try.ntmps20
  go_wp2_with fail
  refine HC.out.mono ?_
  rintro e w1 (⟨hat, v, bi', rfl, ⟨hown, hB1⟩, hpe⟩ | ⟨hno, rfl, hB1⟩)
  · obtain ⟨bx', e1, hI1⟩ : ∃ bx', Value.pointer (some ⟨bx, 0, none⟩) = .pointer (some ⟨bx', 0, none⟩) ∧ IndexAt (w.alloc (.cells #[.int .i64 0] 24)) bx' bi' ids := by
      rcases hpe with ⟨h, _⟩ | h
      · cases h
      · exact h
    cases e1
    have hbb : bi' = bi := (HI.out.bel HB0.out).same hI1
    subst hbb
    obtain ⟨av, cv, rfl, hrv, _, hpv⟩ := own_slice2 hown
    rw [World.size_alloc] at hpv
    have hs1 := hB1.size
    have HRV := Lib.hid hrv
    have HB1 := Lib.hid hB1
    have HAT := Lib.hid hat
    clear hown hrv hB1 hat hpe hI1 HC
    go_wp2_with fail
    go_loopw [13] (fun k wr => ∃ i : Nat, i ≤ rs.length ∧ k = .int .i64 i ∧ Bel w1 wr ∧ Hid (∀ j (h : j < i) (h' : j < rs.length), (0 : Int) ∉ partN ids rs[j])) (fun k wr => rs.length - (intOf k).toNat)
    case atStart => exact ⟨0, Nat.zero_le _, rfl, Bel.refl _, Lib.hid (fun j h => by omega)⟩
    case round =>
      obtain ⟨i, hi, rfl, hB2, H0⟩ := hrel
      have HB2 := Lib.hid ((HB0.out.trans HB1.out).trans hB2)
      by_cases hlt : i < rs.length
      · obtain ⟨b, o, rfl, q0⟩ := (HRV.out.bel hB2).at (f := partV bi' ids.length) (xs := rs) i hlt
        have hth := HAT.out rs[i] (List.getElem_mem _)
        have hcon := contains_int (some ⟨bi', rs[i].1.toNat, none⟩) (partN ids rs[i]) 0 rs[i].2.toNat (ids.length - rs[i].1.toNat) wr (by
          have h1 := there_iff.1 hth
          unfold partN; simp; omega) (by unfold partN maxLen; simp; omega) ((HI.out.bel HB2.out).part hth)
        by_cases hz : (0 : Int) ∈ partN ids rs[i]
        · have HP := Lib.hid (drop_bad (id := 0) HAT.out (fun h => (each_iff HAT.out).1 h _ (List.getElem_mem hlt) hz))
          rw [decide_eq_true hz] at hcon
          have HCON := Lib.hid hcon
          have q : wr.cell? ⟨b, o + i, none⟩ = some (.slice (some ⟨bi', rs[i].1.toNat, none⟩) rs[i].2.toNat (ids.length - rs[i].1.toNat)) := q0
          have hg1 := (Fr.of_bel (S := fun _ => False) (HB1.out.trans hB2)).heap HG.out (fun h => h)
          generalize rs[i] = r at q HCON
          clear q0 hth hcon hz
          go_wp2_with fail
          refine HCON.out.mono ?_
          rintro e w3 ⟨rfl, rfl⟩
          go_wp2_with fail
          refine (must_not 9 wr).mono ?_
          rintro e w3 ⟨rfl, rfl⟩
          go_wp2
          refine leaves_cons (f := 30) (args := #[.pointer (some ⟨w.heap.size, 0, none⟩)]) (by simp) (by simp [go_sem]) ?_
          refine (icaught_out 9 w.heap.size (.int .i64 0) _ [] (heap_lt hg1) (blk_cell hg1 0) (blk_frozen hg1 0)).mono ?_
          rintro e u' w'' ⟨rfl, rfl, rfl⟩
          have hte := thrown_end HI.out HB2.out (.int .i64 9) (.cells #[.int .i64 9] 95)
          have hcc := cell_set_same (blk_cell hg1 0) (.int .i64 9)
          have hsz := heap_lt hg1
          rw [HP.out]
          simp [Leaves, settle, results, Try.results20, go_sem, hcc, hsz]
          exact ⟨rfl, hte.1, hte.2⟩
        · have hH1 : Hid (∀ j (h : j < i + 1) (h' : j < rs.length), (0 : Int) ∉ partN ids rs[j]) := Lib.hid (fun j h h' => by
            rcases Nat.lt_or_ge j i with h9 | h9
            · exact H0.out j h9 h'
            · obtain rfl : j = i := by omega
              exact hz)
          rw [decide_eq_false hz] at hcon
          have HCON := Lib.hid hcon
          have HBB := Lib.hid hB2
          have q : wr.cell? ⟨b, o + i, none⟩ = some (.slice (some ⟨bi', rs[i].1.toNat, none⟩) rs[i].2.toNat (ids.length - rs[i].1.toNat)) := q0
          generalize rs[i] = r at q HCON
          clear q0 hth hcon hz hB2
          go_wp2_with fail
          refine HCON.out.mono ?_
          rintro e w3 ⟨rfl, rfl⟩
          go_wp2_with fail
          refine (must_holds 9 wr).mono ?_
          rintro e w3 ⟨rfl, rfl⟩
          go_wp2
          go_roundw
          case rel => exact ⟨i + 1, by omega, by go_num, HBB.out, hH1⟩
          case measure => simp [intOf]; omega
      · obtain rfl : i = rs.length := by omega
        have HP := Lib.hid (drop_ok (id := 0) HAT.out ((each_iff HAT.out).2 (fun r hr => by obtain ⟨j, hj, rfl⟩ := List.getElem_of_mem hr; exact H0.out j (by omega) hj)))
        have hcon := index_fill bx bi' ids 0 av rs rs.length cv wr (HI.out.bel HB2.out) rfl hl (HRV.out.bel hB2) (fun p hp => by have := hpv p hp; omega) HAT.out ⟨by omega, by omega⟩
        have HCON := Lib.hid hcon
        have hg1 := (Fr.of_bel (S := fun _ => False) (HB1.out.trans hB2)).heap HG.out (fun h => h)
        have HG1 := Lib.hid hg1
        clear hcon hB2 hg1
        go_wp2_with fail
        refine HCON.out.mono ?_
        rintro e w3 ⟨rfl, hI3, hF3⟩
        have hg3 := hF3.heap HG1.out (by show ¬ w.heap.size = bi'; omega)
        have hF4 := ((Fr.of_bel (S := fun k => k = bi') HB2.out).trans' hF3).setCell (p := ⟨w.heap.size, 0, none⟩) (.inr (Nat.le_refl _)) (.int .i64 0)
        have hI4 : IndexAt (w3.setCell ⟨w.heap.size, 0, none⟩ (.int .i64 0)) bx bi' (fillA ids 0 rs) := hI3.fr (S := fun k => k = w.heap.size) (Fr.setCell (S := fun k => k = w.heap.size) (Fr.refl _ _) (.inl rfl) _) (by omega) (by omega)
        have hc3 := blk_cell hg3 0
        have hf3 := blk_frozen hg3 0
        have hcc := cell_set_same hc3 (.int .i64 0)
        have HEND := Lib.hid (And.intro hI4 hF4)
        clear hI3 hF3 hI4 hF4 hg3
        go_wp2
        refine leaves_cons (f := 30) (args := #[.pointer (some ⟨w.heap.size, 0, none⟩)]) (by simp) (by simp [go_sem]) ?_
        refine (icaught_idle _ _).mono ?_
        rintro e u' w'' ⟨rfl, rfl, rfl⟩
        rw [HP.out]
        simp [Leaves, settle, results, Try.results20, go_sem, hcc]
        exact ⟨rfl, HEND.out.1, HEND.out.2⟩
  · have hg1 := (Fr.of_bel (S := fun _ => False) hB1).heap HG.out (fun h => h)
    have hP := putF_out (id := 0) (drop := true) (by simp) hno
    rw [hP]
    go_wp2
    refine leaves_cons (f := 30) (args := #[.pointer (some ⟨w.heap.size, 0, none⟩)]) (by simp) (by simp [go_sem]) ?_
    refine (icaught_out 2 w.heap.size (.int .i64 0) _ [] (heap_lt hg1) (blk_cell hg1 0) (blk_frozen hg1 0)).mono ?_
    rintro e u' w'' ⟨rfl, rfl, rfl⟩
    have hte := thrown_end HI.out (HB0.out.trans hB1) (.int .i64 2) (.cells #[.int .i64 2] 95)
    have hcc := cell_set_same (blk_cell hg1 0) (.int .i64 2)
    have hsz := heap_lt hg1
    simp [Leaves, settle, results, Try.results20, go_sem, hcc, hsz]
    exact ⟨rfl, hte.1, hte.2⟩
end Go.Proofs.Ythkbhikiljlgoaa
