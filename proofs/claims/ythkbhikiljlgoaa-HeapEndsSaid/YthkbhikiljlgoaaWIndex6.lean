/- Package index: Set. -/
import Derived.Test.YthkbhikiljlgoaaWIndex5
namespace Go.Proofs.Ythkbhikiljlgoaa
open Go.RowKit

theorem RunsIn.at5 {w : World} {a : Option Addr} {rs : List Rn} {n c : Nat} (h : RunsIn w a rs) (hn : n = rs.length) : RunsAt w.heap.size w (.slice a n c) rs := by
  subst hn
  rcases h with rfl | ⟨b, o, rfl, h⟩
  · exact .inl ⟨a, c, rfl, rfl⟩
  · by_cases h0 : rs = []
    · subst h0; exact .inl ⟨_, c, rfl, rfl⟩
    · have hp : 0 < rs.length := List.length_pos_iff.2 h0
      refine .inr ⟨b, o, c, rfl, World.block_lt_of_cell? w _ (h 0 hp).1, fun j hj => ?_⟩
      have := h j hj
      rw [List.getElem?_eq_getElem hj]
      exact this
theorem set1_asks (xs : List Int) (w : World) : AsksI (fun w w' => w = w') 41 #[] (fun n => n != 0) xs w := by
  rintro W rfl x hx
  go_enter Try.func41, Try.ntmps41
  go_wp2
  go_ret
  exact ⟨rfl, rfl⟩
theorem set1_enters : Enters 41 := enters_of Try.func41 (by kernel_rfl) rfl

set_option maxHeartbeats 2000000 in
set_option maxRecDepth 20000 in
theorem index_Set (bx bi : Nat) (ids : List Int) (id : Int) (a : Option Addr) (rs : List Rn) (n c : Nat) (w : World) (h : IndexAt w bx bi ids) (hn : n = rs.length) (hl : rs.length ≤ 65536) (hr : RunsIn w a rs) (hi64 : ∀ r ∈ rs, I64 r.1 ∧ I64 r.2) (hid : I64 id) :
    Calls Try.prog 23 #[.pointer (some ⟨bx, 0, none⟩), .int .i64 id, .slice a n c] w (IPost w bx bi (putF ids id rs false)) := by
  subst hn
  have hbx := heap_lt h.hd
  have hbi := heap_lt h.nums
  have hsm := h.small
  have hB0 : Bel w (w.alloc (.cells #[.int .i64 0] 24)) := (Bel.refl _).alloc _
  have hcon := index_all (.pointer (some ⟨bx, 0, none⟩)) ids a rs rs.length c (w.alloc (.cells #[.int .i64 0] 24)) (.inr ⟨bx, bi, rfl, h.bel hB0⟩) rfl hl (hr.bel hB0) hi64
  have g0 := blk_alloc w (.cells #[.int .i64 0] 24)
  have HC := Lib.hid hcon
  have HI := Lib.hid h
  have HB0 := Lib.hid hB0
  have HG := Lib.hid g0
  have HR := Lib.hid hr
  obtain ⟨id0, id1⟩ := hid
  clear hcon h hr hB0 hi64 g0
  by_cases c1 : id < 1
  · have HP := Lib.hid (putF_arg (ids := ids) (rs := rs) c1)
    have d1 : decide (1 ≤ id) = false := by rw [decide_eq_false_iff_not]; omega
    have hg1 := HG.out
    go_enter_defers Try.func23, Try.ntmps23
    go_wp2_with fail
    refine (must_not 1 _).mono ?_
    rintro e w3 ⟨rfl, rfl⟩
    go_wp2
    refine leaves_cons (f := 30) (args := #[.pointer (some ⟨w.heap.size, 0, none⟩)]) (by simp) (by simp [go_sem]) ?_
    refine (icaught_out 1 w.heap.size (.int .i64 0) _ [] (heap_lt hg1) (blk_cell hg1 0) (blk_frozen hg1 0)).mono ?_
    rintro e u' w'' ⟨rfl, rfl, rfl⟩
    have hcc := cell_set_same (blk_cell hg1 0) (.int .i64 1)
    have hsz := heap_lt hg1
    rw [HP.out]
    simp [Leaves, settle, results, Try.results23, go_sem, hcc]
    exact ⟨rfl, HI.out.bel (((Bel.refl w).alloc _).alloc _), Fr.of_bel (((Bel.refl w).alloc _).alloc _)⟩
  have d1 : decide (1 ≤ id) = true := by rw [decide_eq_true_eq]; omega
  have hid1 : 1 ≤ id := by omega
  go_enter_defers Try.func23, Try.ntmps23
  go_wp2_with fail
  refine (must_holds 1 _).mono ?_
  rintro e w3 ⟨rfl, rfl⟩
  go_wp2_with fail
  refine HC.out.mono ?_
  rintro e w1 (⟨hat, v, bi', rfl, ⟨hown, hB1⟩, hpe⟩ | ⟨hno, rfl, hB1⟩)
  · obtain ⟨bx', e1, hI1⟩ : ∃ bx', Value.pointer (some ⟨bx, 0, none⟩) = .pointer (some ⟨bx', 0, none⟩) ∧ IndexAt (w.alloc (.cells #[.int .i64 0] 24)) bx' bi' ids := by
      rcases hpe with ⟨h, _⟩ | h
      · cases h
      · exact h
    cases e1
    have hbb : bi' = bi := (HI.out.bel HB0.out).same hI1
    subst hbb
    obtain ⟨av, cv, rfl, hrv, _, hpv⟩ := own_slice2 hown
    rw [World.size_alloc] at hpv
    have hs1 := hB1.size
    have HRV := Lib.hid hrv
    have HB1 := Lib.hid hB1
    have HAT := Lib.hid hat
    clear hown hrv hB1 hat hpe hI1 HC
    go_wp2_with fail
    go_loopw [18] (fun k wr => ∃ i : Nat, i ≤ rs.length ∧ k = .int .i64 i ∧ Bel w1 wr ∧ Hid (∀ j (h : j < i) (h' : j < rs.length), (partN ids rs[j]).any (fun n => n != 0) = false)) (fun k wr => rs.length - (intOf k).toNat)
    case atStart => exact ⟨0, Nat.zero_le _, rfl, Bel.refl _, Lib.hid (fun j h => by omega)⟩
    case round =>
      obtain ⟨i, hi, rfl, hB2, H0⟩ := hrel
      have HB2 := Lib.hid ((HB0.out.trans HB1.out).trans hB2)
      by_cases hlt : i < rs.length
      · obtain ⟨b, o, rfl, q0⟩ := (HRV.out.bel hB2).at (f := partV bi' ids.length) (xs := rs) i hlt
        have hth := HAT.out rs[i] (List.getElem_mem _)
        have hcon := containsFunc_int quiet_eq 41 set1_enters #[] (fun n => n != 0) (some ⟨bi', rs[i].1.toNat, none⟩) (partN ids rs[i]) rs[i].2.toNat (ids.length - rs[i].1.toNat) wr (by
          have h1 := there_iff.1 hth
          unfold partN; simp; omega) (by unfold partN maxLen; simp; omega) ((HI.out.bel HB2.out).part hth) (set1_asks _ _)
        by_cases hz : (partN ids rs[i]).any (fun n => n != 0) = true
        · have HP := Lib.hid (set_bad hid1 HAT.out (fun h => by have := (none_iff HAT.out).1 h.1 _ (List.getElem_mem hlt); rw [hz] at this; cases this))
          rw [hz] at hcon
          have HCON := Lib.hid hcon
          have q : wr.cell? ⟨b, o + i, none⟩ = some (.slice (some ⟨bi', rs[i].1.toNat, none⟩) rs[i].2.toNat (ids.length - rs[i].1.toNat)) := q0
          have hg1 := (Fr.of_bel (S := fun _ => False) (HB1.out.trans hB2)).heap HG.out (fun h => h)
          generalize rs[i] = r at q HCON
          clear q0 hth hcon hz
          go_wp2_with fail
          refine HCON.out.mono ?_
          rintro e w3 ⟨rfl, rfl⟩
          go_wp2_with fail
          refine (must_not 9 wr).mono ?_
          rintro e w3 ⟨rfl, rfl⟩
          go_wp2
          refine leaves_cons (f := 30) (args := #[.pointer (some ⟨w.heap.size, 0, none⟩)]) (by simp) (by simp [go_sem]) ?_
          refine (icaught_out 9 w.heap.size (.int .i64 0) _ [] (heap_lt hg1) (blk_cell hg1 0) (blk_frozen hg1 0)).mono ?_
          rintro e u' w'' ⟨rfl, rfl, rfl⟩
          have hte := thrown_end HI.out HB2.out (.int .i64 9) (.cells #[.int .i64 9] 95)
          have hcc := cell_set_same (blk_cell hg1 0) (.int .i64 9)
          have hsz := heap_lt hg1
          rw [HP.out]
          simp [Leaves, settle, results, Try.results23, go_sem, hcc, hsz]
          exact ⟨rfl, hte.1, hte.2⟩
        · have hH1 : Hid (∀ j (h : j < i + 1) (h' : j < rs.length), (partN ids rs[j]).any (fun n => n != 0) = false) := Lib.hid (fun j h h' => by
            rcases Nat.lt_or_ge j i with h9 | h9
            · exact H0.out j h9 h'
            · obtain rfl : j = i := by omega
              simpa using hz)
          rw [show (partN ids rs[i]).any (fun n => n != 0) = false by simpa using hz] at hcon
          have HCON := Lib.hid hcon
          have HBB := Lib.hid hB2
          have q : wr.cell? ⟨b, o + i, none⟩ = some (.slice (some ⟨bi', rs[i].1.toNat, none⟩) rs[i].2.toNat (ids.length - rs[i].1.toNat)) := q0
          generalize rs[i] = r at q HCON
          clear q0 hth hcon hz hB2
          go_wp2_with fail
          refine HCON.out.mono ?_
          rintro e w3 ⟨rfl, rfl⟩
          go_wp2_with fail
          refine (must_holds 9 wr).mono ?_
          rintro e w3 ⟨rfl, rfl⟩
          go_wp2
          go_roundw
          case rel => exact ⟨i + 1, by omega, by go_num, HBB.out, hH1⟩
          case measure => simp [intOf]; omega
      · obtain rfl : i = rs.length := by omega
        have hnone := (none_iff HAT.out).2 (fun r hr => by obtain ⟨j, hj, rfl⟩ := List.getElem_of_mem hr; exact H0.out j (by omega) hj)
        have hcon := index_apart a rs.length c rs rfl hl (fun r hr => by have := there_iff.1 (HAT.out r hr); omega) wr ((HR.out.bel HB2.out).at5 rfl)
        have HAP := Lib.hid hcon
        have HNO := Lib.hid hnone
        have hg1 := (Fr.of_bel (S := fun _ => False) (HB1.out.trans hB2)).heap HG.out (fun h => h)
        have HG0 := Lib.hid hg1
        have HBZ := Lib.hid hB2
        clear hcon hnone hB2 hg1
        go_wp2_with fail
        refine HAP.out.mono ?_
        rintro e wz ⟨bq, rfl, hiff, hBz⟩
        have HB2' := Lib.hid (HB2.out.trans hBz)
        have hB2 := HBZ.out.trans hBz
        cases bq
        · have HP := Lib.hid (set_bad (ids := ids) hid1 HAT.out (fun h => by have := hiff.2 h.2; cases this))
          have hg1 := (Fr.of_bel (S := fun _ => False) hBz).heap HG0.out (fun h => h)
          clear hiff hBz hB2
          go_wp2_with fail
          refine (must_not 9 wz).mono ?_
          rintro e w3 ⟨rfl, rfl⟩
          go_wp2
          refine leaves_cons (f := 30) (args := #[.pointer (some ⟨w.heap.size, 0, none⟩)]) (by simp) (by simp [go_sem]) ?_
          refine (icaught_out 9 w.heap.size (.int .i64 0) _ [] (heap_lt hg1) (blk_cell hg1 0) (blk_frozen hg1 0)).mono ?_
          rintro e u' w'' ⟨rfl, rfl, rfl⟩
          have hte := thrown_end HI.out HB2'.out (.int .i64 9) (.cells #[.int .i64 9] 95)
          have hcc := cell_set_same (blk_cell hg1 0) (.int .i64 9)
          have hsz := heap_lt hg1
          rw [HP.out]
          simp [Leaves, settle, results, Try.results23, go_sem, hcc, hsz]
          exact ⟨rfl, hte.1, hte.2⟩
        have HP := Lib.hid (set_ok (ids := ids) hid1 HAT.out HNO.out (hiff.1 rfl))
        clear hiff
        go_wp2_with fail
        refine (must_holds 9 wz).mono ?_
        rintro e w3 ⟨rfl, rfl⟩
        have hcon := index_fill bx bi' ids id av rs rs.length cv wz (HI.out.bel HB2'.out) rfl hl (HRV.out.bel hB2) (fun p hp => by have := hpv p hp; omega) HAT.out ⟨by omega, by omega⟩
        have HCON := Lib.hid hcon
        have hg1 := (Fr.of_bel (S := fun _ => False) (HB1.out.trans hB2)).heap HG.out (fun h => h)
        have HG1 := Lib.hid hg1
        clear hcon hB2 hg1
        go_wp2_with fail
        refine HCON.out.mono ?_
        rintro e w3 ⟨rfl, hI3, hF3⟩
        have hg3 := hF3.heap HG1.out (by show ¬ w.heap.size = bi'; omega)
        have hF4 := ((Fr.of_bel (S := fun k => k = bi') HB2'.out).trans' hF3).setCell (p := ⟨w.heap.size, 0, none⟩) (.inr (Nat.le_refl _)) (.int .i64 0)
        have hI4 : IndexAt (w3.setCell ⟨w.heap.size, 0, none⟩ (.int .i64 0)) bx bi' (fillA ids id rs) := hI3.fr (S := fun k => k = w.heap.size) (Fr.setCell (S := fun k => k = w.heap.size) (Fr.refl _ _) (.inl rfl) _) (by omega) (by omega)
        have hc3 := blk_cell hg3 0
        have hf3 := blk_frozen hg3 0
        have hcc := cell_set_same hc3 (.int .i64 0)
        have HEND := Lib.hid (And.intro hI4 hF4)
        clear hI3 hF3 hI4 hF4 hg3
        go_wp2
        refine leaves_cons (f := 30) (args := #[.pointer (some ⟨w.heap.size, 0, none⟩)]) (by simp) (by simp [go_sem]) ?_
        refine (icaught_idle _ _).mono ?_
        rintro e u' w'' ⟨rfl, rfl, rfl⟩
        rw [HP.out]
        simp [Leaves, settle, results, Try.results23, go_sem, hcc]
        exact ⟨rfl, HEND.out.1, HEND.out.2⟩
  · have hg1 := (Fr.of_bel (S := fun _ => False) hB1).heap HG.out (fun h => h)
    have hP := putF_out (id := id) (drop := false) (by rintro ⟨_, h⟩; omega) hno
    rw [hP]
    go_wp2
    refine leaves_cons (f := 30) (args := #[.pointer (some ⟨w.heap.size, 0, none⟩)]) (by simp) (by simp [go_sem]) ?_
    refine (icaught_out 2 w.heap.size (.int .i64 0) _ [] (heap_lt hg1) (blk_cell hg1 0) (blk_frozen hg1 0)).mono ?_
    rintro e u' w'' ⟨rfl, rfl, rfl⟩
    have hte := thrown_end HI.out (HB0.out.trans hB1) (.int .i64 2) (.cells #[.int .i64 2] 95)
    have hcc := cell_set_same (blk_cell hg1 0) (.int .i64 2)
    have hsz := heap_lt hg1
    simp [Leaves, settle, results, Try.results23, go_sem, hcc, hsz]
    exact ⟨rfl, hte.1, hte.2⟩
end Go.Proofs.Ythkbhikiljlgoaa
