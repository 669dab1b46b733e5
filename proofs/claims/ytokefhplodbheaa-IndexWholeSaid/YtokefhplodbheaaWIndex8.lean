/- Package index: Set at a nil index; Runs. -/
import Derived.Test.YtokefhplodbheaaWIndex7
namespace Go.Proofs.Ytokefhplodbheaa
open Go.RowKit

set_option maxHeartbeats 1000000 in
set_option maxRecDepth 20000 in
theorem index_Set_nil (id : Int) (a : Option Addr) (rs : List Rn) (n c : Nat) (w : World) (hn : n = rs.length) (hl : rs.length ≤ 65536) (hr : RunsIn w a rs) (hi64 : ∀ r ∈ rs, I64 r.1 ∧ I64 r.2) (hid : I64 id) :
    Calls Try.prog 12 #[.pointer none, .int .i64 id, .slice a n c] w fun e w' => e = .returned (.int .i64 (if id < 1 then 1 else if rs = [] then 0 else 2)) ∧ Bel w w' := by
  subst hn
  have hB0 : Bel w (w.alloc (.cells #[.int .i64 0] 33)) := (Bel.refl _).alloc _
  have hcon := index_all (.pointer none) [] a rs rs.length c (w.alloc (.cells #[.int .i64 0] 33)) (.inl ⟨rfl, rfl⟩) rfl hl (hr.bel hB0) hi64
  have g0 := blk_alloc w (.cells #[.int .i64 0] 33)
  have HC := Lib.hid hcon
  have HB0 := Lib.hid hB0
  have HG := Lib.hid g0
  obtain ⟨id0, id1⟩ := hid
  clear hcon hr hB0 hi64 g0
  by_cases c1 : id < 1
  · have d1 : decide (1 ≤ id) = false := by rw [decide_eq_false_iff_not]; omega
    have hg1 := HG.out
    go_enter_defers Try.func12, Try.ntmps12
    go_wp2_with fail
    refine (must_not 1 _).mono ?_
    rintro e w3 ⟨rfl, rfl⟩
    go_wp2
    refine leaves_cons (f := 21) (args := #[.pointer (some ⟨w.heap.size, 0, none⟩)]) (by simp) (by simp [go_sem]) ?_
    refine (icaught_out 1 w.heap.size (.int .i64 0) _ [] (heap_lt hg1) (blk_cell hg1 0) (blk_frozen hg1 0)).mono ?_
    rintro e u' w'' ⟨rfl, rfl, rfl⟩
    simp [Leaves, settle, results, Try.results12, go_sem, c1]
    exact ((Bel.refl w).alloc _).alloc _
  have d1 : decide (1 ≤ id) = true := by rw [decide_eq_true_eq]; omega
  go_enter_defers Try.func12, Try.ntmps12
  go_wp2_with fail
  refine (must_holds 1 _).mono ?_
  rintro e w3 ⟨rfl, rfl⟩
  go_wp2_with fail
  refine HC.out.mono ?_
  rintro e w1 (⟨hat, v, bi', rfl, ⟨hown, hB1⟩, hpe⟩ | ⟨hno, rfl, hB1⟩)
  · have h0 : rs = [] := by
      cases rs with
      | nil => rfl
      | cons r rs => have := there_iff.1 (hat r (by simp)); simp at this; omega
    subst h0
    obtain ⟨av, cv, rfl, _⟩ := own_slice hown
    have HB1 := Lib.hid (HB0.out.trans hB1)
    have hg1 := (Fr.of_bel (S := fun _ => False) hB1).heap HG.out (fun h => h)
    have HG1 := Lib.hid hg1
    clear hown hB1 hpe hat HC hg1
    go_wp2_with fail
    go_loopw [18] (fun k wr => k = .int .i64 0 ∧ w1 = wr) (fun _ _ => 0)
    case atStart => exact ⟨rfl, rfl⟩
    case round =>
      obtain ⟨rfl, rfl⟩ := hrel
      have hap := index_apart a 0 c [] rfl (by simp) (fun r hr => by simp at hr) w1 (.inl ⟨a, c, rfl, rfl⟩)
      have HAP := Lib.hid hap
      clear hap
      go_wp2_with fail
      refine HAP.out.mono ?_
      rintro e wz ⟨bq, rfl, hiff, hBz⟩
      obtain rfl : bq = true := hiff.2 List.Pairwise.nil
      have HG1 := Lib.hid ((Fr.of_bel (S := fun _ => False) hBz).heap HG1.out (fun h => h))
      have HB1 := Lib.hid (HB1.out.trans hBz)
      clear hBz hiff
      go_wp2_with fail
      refine (must_holds 9 wz).mono ?_
      rintro e w3 ⟨rfl, rfl⟩
      go_wp2_with fail
      refine (fill_none av cv id wz).mono ?_
      rintro e w3 ⟨rfl, rfl⟩
      have hc3 := blk_cell HG1.out 0
      have hf3 := blk_frozen HG1.out 0
      have hcc := cell_set_same hc3 (.int .i64 0)
      have hend : Bel w (wz.setCell ⟨w.heap.size, 0, none⟩ (.int .i64 0)) := Below.setCell HB1.out (Nat.le_refl _) _
      have HEND := Lib.hid hend
      clear hend
      go_wp2
      refine leaves_cons (f := 21) (args := #[.pointer (some ⟨w.heap.size, 0, none⟩)]) (by simp) (by simp [go_sem]) ?_
      refine (icaught_idle _ _).mono ?_
      rintro e u' w'' ⟨rfl, rfl, rfl⟩
      simp [Leaves, settle, results, Try.results12, go_sem, hcc, c1]
      exact HEND.out
  · have h0 : rs ≠ [] := fun h => hno (fun r hr => by rw [h] at hr; simp at hr)
    have hg1 := (Fr.of_bel (S := fun _ => False) hB1).heap HG.out (fun h => h)
    go_wp2
    refine leaves_cons (f := 21) (args := #[.pointer (some ⟨w.heap.size, 0, none⟩)]) (by simp) (by simp [go_sem]) ?_
    refine (icaught_out 2 w.heap.size (.int .i64 0) _ [] (heap_lt hg1) (blk_cell hg1 0) (blk_frozen hg1 0)).mono ?_
    rintro e u' w'' ⟨rfl, rfl, rfl⟩
    have hend : Bel w ((w1.setCell ⟨w.heap.size, 0, none⟩ (.int .i64 2)).alloc (.cells #[.int .i64 2] 62)) := Bel.alloc (Below.setCell (HB0.out.trans hB1) (Nat.le_refl _) _) _
    have hcc := cell_set_same (blk_cell hg1 0) (.int .i64 2)
    have hsz := heap_lt hg1
    simp [Leaves, settle, results, Try.results12, go_sem, hcc, hsz, h0, c1]
    exact hend

theorem index_Runs_nil (id : Int) (w : World) :
    Calls Try.prog 18 #[.pointer none, .int .i64 id] w fun e w' => e = .returned (.slice none 0 0) ∧ w = w' := by
  go_enter Try.func18, Try.ntmps18
  go_wp2_with fail
  refine (index_Pages (.pointer none) [] w (.inl ⟨rfl, rfl⟩)).mono ?_; rintro e w' ⟨rfl, rfl⟩
  go_wp2_with fail
  go_loopw [5, 9] (fun v k wr => v = .slice none 0 0 ∧ k = .int .i64 0 ∧ w = wr) (fun _ _ _ => 0)
  case atStart => exact ⟨rfl, rfl, rfl⟩
  case round =>
    obtain ⟨rfl, rfl, rfl⟩ := hrel
    go_wp2
    go_ret
    exact ⟨rfl, rfl⟩
end Go.Proofs.Ytokefhplodbheaa
