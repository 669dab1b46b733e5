/- Package runs: Has; what a nil one answers. -/
import Derived.Test.YtjmjdkimkgclaaaWRuns8
namespace Go.Proofs.Ytjmjdkimkgclaaa
open Go.RowKit

/-- Are all pages of a run free? -/
def hasF (L : List Rn) (x : Rn) : Bool := there 1024 x && L.any (hasR x)
set_option maxRecDepth 20000 in
theorem runs_Has (p : Value) (L : List Rn) (x : Rn) (w : World) (h : FreeP w p L) (h1 : I64 x.1) (h2 : I64 x.2) :
    Calls Try.prog 20 #[p, .agg #[.int .i64 x.1, .int .i64 x.2]] w fun e w' => e = .returned (.bool (hasF L x)) ∧ Bel w w' := by
  have HM := Lib.hid (may_one x (w.heap.size + 1) (w.alloc (.cells #[.int .i64 x.1, .int .i64 x.2] 29)) (.cells #[] 0) (by simp) h1 h2)
  have HB0 : Hid (Bel w ((w.alloc (.cells #[.int .i64 x.1, .int .i64 x.2] 29)).alloc (.cells #[.int .i64 x.1, .int .i64 x.2] 29))) := Lib.hid (((Bel.refl w).alloc _).alloc _)
  have HG0 := Lib.hid (blk_alloc w (.cells #[.int .i64 x.1, .int .i64 x.2] 29))
  have HF := Lib.hid h
  clear h
  by_cases c1 : there 1024 x = true
  · have HE : Hid (hasF L x = decide (0 ≤ idxF (hasR x) L)) := Lib.hid (by
      have h9 := idxF_ge (hasR x) L
      unfold hasF
      rw [c1, Bool.true_and, Bool.eq_iff_iff, decide_eq_true_eq]
      exact (eq_iff_iff.1 h9).symm)
    rw [c1] at HM
    have HFD := Lib.hid (fun W (hB : Bel w W) => runs_find p L x W (HF.out.bel hB) c1)
    obtain ⟨q, hq⟩ : ∃ q, idxF (hasR x) L = q := ⟨_, rfl⟩
    rw [hq] at HE HFD
    clear hq c1
    go_enter Try.func20, Try.ntmps20
    go_wp2_with fail
    refine HM.out.mono ?_
    rintro e w1 ⟨rfl, hB1⟩
    have HB1 := Lib.hid (HB0.out.trans hB1)
    have gx : w1.heap[w.heap.size]? = some (.cells #[.int .i64 x.1, .int .i64 x.2] 29 (0, 0)) := (Fr.of_bel (S := fun _ => False) ((Bel.alloc (Bel.refl _) (.cells #[.int .i64 x.1, .int .i64 x.2] 29)).trans hB1)).heap HG0.out (fun h => h)
    obtain ⟨q0, q1, _, _⟩ := two_cells gx
    clear hB1 gx
    go_wp2_with fail
    refine (HFD.out w1 HB1.out).mono ?_
    rintro e w2 ⟨rfl, hB2⟩
    have HB2 := Lib.hid (HB1.out.trans hB2)
    clear hB2 HFD HM HG0 HB0
    go_wp2
    go_ret
    exact ⟨by rw [HE.out]; rfl, HB2.out⟩
  · have HE : Hid (hasF L x = false) := Lib.hid (by unfold hasF; rw [Bool.not_eq_true] at c1; rw [c1]; rfl)
    rw [Bool.not_eq_true] at c1
    rw [c1] at HM
    go_enter Try.func20, Try.ntmps20
    go_wp2_with fail
    refine HM.out.mono ?_
    rintro e w1 ⟨rfl, hB1⟩
    have HB1 := Lib.hid (HB0.out.trans hB1)
    clear hB1 HM HG0 HB0
    go_wp2
    go_ret
    exact ⟨by rw [HE.out]; rfl, HB1.out⟩
set_option maxRecDepth 20000 in
theorem runs_Cut_nil (x : Rn) (w : World) (h1 : I64 x.1) (h2 : I64 x.2) :
    Calls Try.prog 15 #[.pointer none, .agg #[.int .i64 x.1, .int .i64 x.2]] w fun e w' => e = .returned (.int .i64 (cutR [] x).2) ∧ Bel w w' := by
  have HM := Lib.hid (may_one x (w.heap.size + 1) (w.alloc (.cells #[.int .i64 x.1, .int .i64 x.2] 29)) (.cells #[] 0) (by simp) h1 h2)
  have HB0 : Hid (Bel w ((w.alloc (.cells #[.int .i64 x.1, .int .i64 x.2] 29)).alloc (.cells #[.int .i64 x.1, .int .i64 x.2] 29))) := Lib.hid (((Bel.refl w).alloc _).alloc _)
  have HG0 := Lib.hid (blk_alloc w (.cells #[.int .i64 x.1, .int .i64 x.2] 29))
  by_cases c1 : there 1024 x = true
  · have HE : Hid (cutR [] x = ([], 9)) := Lib.hid (cutR_bad c1 (by simp))
    have HFD := Lib.hid (fun W => runs_find (.pointer none) [] x W (.inl ⟨rfl, rfl⟩) c1)
    have e0 : idxF (hasR x) [] = -1 := rfl
    rw [e0] at HFD
    rw [c1] at HM
    clear e0
    go_enter Try.func15, Try.ntmps15
    go_wp2_with fail
    refine HM.out.mono ?_
    rintro e w1 ⟨rfl, hB1⟩
    have HB1 := Lib.hid (HB0.out.trans hB1)
    have gx : w1.heap[w.heap.size]? = some (.cells #[.int .i64 x.1, .int .i64 x.2] 29 (0, 0)) := (Fr.of_bel (S := fun _ => False) ((Bel.alloc (Bel.refl _) (.cells #[.int .i64 x.1, .int .i64 x.2] 29)).trans hB1)).heap HG0.out (fun h => h)
    obtain ⟨q0, q1, _, _⟩ := two_cells gx
    clear hB1 gx
    go_wp2_with fail
    refine (HFD.out w1).mono ?_
    rintro e w2 ⟨rfl, hB2⟩
    have HB2 := Lib.hid (HB1.out.trans hB2)
    clear hB2 HFD HM HG0 HB0
    go_wp2
    go_ret
    exact ⟨by rw [HE.out]; rfl, HB2.out⟩
  · have HE : Hid (cutR [] x = ([], 2)) := Lib.hid (cutR_out c1)
    rw [Bool.not_eq_true] at c1
    rw [c1] at HM
    go_enter Try.func15, Try.ntmps15
    go_wp2_with fail
    refine HM.out.mono ?_
    rintro e w1 ⟨rfl, hB1⟩
    have HB1 := Lib.hid (HB0.out.trans hB1)
    clear hB1 HM HG0 HB0
    go_wp2
    go_ret
    exact ⟨by rw [HE.out]; rfl, HB1.out⟩
set_option maxRecDepth 20000 in
theorem runs_Take_nil (n : Int) (w : World) (hn : I64 n) :
    Calls Try.prog 17 #[.pointer none, .int .i64 n] w fun e w' => e = .returned (.tuple #[.agg #[.int .i64 0, .int .i64 0], .bool false]) ∧ Bel w w' := by
  have HG := Lib.hid (blk_alloc w (.cells #[.int .i64 0, .int .i64 0] 29))
  have HB0 : Hid (Bel w (w.alloc (.cells #[.int .i64 0, .int .i64 0] 29))) := Lib.hid ((Bel.refl _).alloc _)
  have hbe := runs_Best (.pointer none) [] n (w.alloc (.cells #[.int .i64 0, .int .i64 0] 29)) (.inl ⟨rfl, rfl⟩) hn
  have hb : bestF [] n = (0, 0) := by unfold bestF; split <;> rfl
  rw [hb] at hbe
  have HBE := Lib.hid hbe
  clear hbe hb
  go_enter Try.func17, Try.ntmps17
  go_wp2_with fail
  refine HBE.out.mono ?_
  rintro e w1 ⟨rfl, hB1⟩
  have HB1 := Lib.hid (HB0.out.trans hB1)
  have gR1 := (Fr.of_bel (S := fun _ => False) hB1).heap HG.out (fun h => h)
  obtain ⟨c0, c1, f0, f1⟩ := two_cells gR1
  have hlt1 := heap_lt gR1
  have g9 := blk_alloc_old (.cells #[.int .i64 0, .int .i64 0] 29) (two_set gR1 (.int .i64 0) (.int .i64 0)).2.2
  have HE := Lib.hid (And.intro g9 ((bel_two HB1.out (Nat.le_refl _) (.int .i64 0) (.int .i64 0)).alloc (.cells #[.int .i64 0, .int .i64 0] 29)))
  clear hB1 gR1 g9
  go_wp2
  generalize ((w1.setCell ⟨w.heap.size, 0, none⟩ (.int .i64 0)).setCell ⟨w.heap.size, 1, none⟩ (.int .i64 0)).alloc (.cells #[.int .i64 0, .int .i64 0] 29) = W9 at HE ⊢
  obtain ⟨r0, r1, _, _⟩ := two_cells HE.out.1
  refine bodyPost_ret (v := .tuple #[.agg #[.int .i64 0, .int .i64 0], .bool false]) (by simp [results, Try.results17, go_sem, r0, r1]) rfl ?_
  exact ⟨rfl, HE.out.2⟩
end Go.Proofs.Ytjmjdkimkgclaaa
