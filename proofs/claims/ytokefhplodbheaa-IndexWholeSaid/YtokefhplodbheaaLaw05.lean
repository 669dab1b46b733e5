/- Layer 5: awake; a nil index. -/
import Derived.Test.YtokefhplodbheaaWIndex8
import Derived.Test.YtokefhplodbheaaSame
import Derived.Test.YtokefhplodbheaaArgRuns
namespace Go.Proofs.Ytokefhplodbheaa
open Go.ChangeShapes Go.WideShapes Go.ChangeAt Go.RowKit Go.Deep

theorem awake_ids : putF (List.replicate (pagesF 8) 0) 3 [(2, 3)] false = ([0, 0, 3, 3, 3, 0, 0, 0], 0) := by
  have hat : AllThere (List.replicate (pagesF 8) (0 : Int)).length [(2, 3)] := by
    intro r hr; simp at hr; subst hr; decide
  rw [set_ok (by omega) hat ((none_iff hat).2 (fun r hr => by simp at hr; subst hr; decide)) (by simp)]
  decide
theorem awake_runs : runsF [0, 0, 3, 3, 3, 0, 0, 0] 0 = [(0, 2), (5, 3)] := by decide
theorem awake_of : ofF [0, 0, 3, 3, 3, 0, 0, 0] (pageI 256) = 3 := by decide
theorem dec_selfR (xs : List Rn) : decide (xs = xs) = true := decide_eq_true rfl

set_option maxRecDepth 20000 in
theorem awake05 (w : World) : Calls Try.prog 7 #[] w fun e w' => e = .returned (.bool true) ∧ Bel w w' := by
  have HA1 := Lib.hid awake_ids
  have HA2 := Lib.hid awake_runs
  have HA3 := Lib.hid awake_of
  go_enter Try.func7, Try.ntmps7
  go_wp2_with fail
  refine (index_New 8 w ⟨by omega, by omega⟩).mono ?_
  rintro e w1 ⟨bx, rfl, hlt, hI, hB⟩
  have HI := Lib.hid hI
  have HB := Lib.hid hB
  clear hI hB
  go_wp2_with fail
  refine (index_Set bx w.heap.size _ 3 (some ⟨w1.heap.size, 0, none⟩) [(2, 3)] 1 1 _ (HI.out.bel ((Bel.refl _).alloc _)) rfl (by simp) (RunsIn.of_row (RdV.new w1 #[.int .i64 2, .int .i64 3] 44)) (by intro r hr; simp at hr; subst hr; exact ⟨⟨by omega, by omega⟩, ⟨by omega, by omega⟩⟩) ⟨by omega, by omega⟩).mono ?_
  rintro e w2 ⟨rfl, hI2, hF2⟩
  rw [HA1.out] at hI2 ⊢
  have HI2 := Lib.hid hI2
  have HB2 : Hid (Bel w w2) := Lib.hid (Fr.bel ((Fr.of_bel (S := fun k => k = w.heap.size) (HB.out.alloc _)).trans' hF2) (fun k e => by omega))
  clear hI2 hF2
  go_wp2_with fail
  refine (index_Runs bx w.heap.size _ 0 w2 HI2.out ⟨by omega, by omega⟩).mono ?_
  rintro e w3 ⟨v, rfl, hown, hB3⟩
  rw [HA2.out] at hown
  obtain ⟨av, cv, rfl, hr3, _⟩ := own_slice hown
  have HR3 := Lib.hid (RunsIn.of_row hr3)
  have HB3 := Lib.hid hB3
  clear hown hr3 hB3
  go_wp2_with fail
  refine (ref5_Same av (some ⟨w3.heap.size, 0, none⟩) [(0, 2), (5, 3)] [(0, 2), (5, 3)] 2 cv 2 2 _ rfl rfl (by simp) (by simp) (HR3.out.bel ((Bel.refl _).alloc _)) (RunsIn.of_row (RdV.new w3 #[.int .i64 0, .int .i64 2, .int .i64 5, .int .i64 3] 44))).mono ?_
  rintro e w4 ⟨rfl, hB4⟩
  rw [dec_selfR]
  have HB4 := Lib.hid ((HB3.out.alloc _).trans hB4)
  clear hB4
  go_wp2_with fail
  refine (index_At _ _ 256 w4 (.inr ⟨bx, _, rfl, HI2.out.bel HB4.out⟩) ⟨by omega, by omega⟩).mono ?_
  rintro e w5 ⟨rfl, rfl⟩
  rw [HA3.out]
  go_wp2
  go_ret
  exact ⟨rfl, HB2.out.trans HB4.out⟩

theorem ofF_nil (p : Int) : ofF [] p = 0 := by unfold ofF; rw [if_neg (by rintro ⟨h1, h2⟩; rw [List.length_nil] at h2; omega)]
set_option maxHeartbeats 1000000 in
set_option maxRecDepth 20000 in
theorem indexNil_walk (id page : Int) (s : Option Addr) (rs : List Rn) (n c : Nat) (w : World) (hid : I64 id) (hpg : I64 page) (hR : Runs05 w s n rs) :
    Calls Try.prog 5 #[.int .i64 id, .int .i64 page, .slice s n c] w fun e w' => e = .returned (.bool true) ∧ Bel w w' := by
  obtain ⟨rfl, hl, hrd, hok⟩ := hR
  have hl2 : rs.length ≤ 9223372036854775807 := by unfold maxLen at hl; omega
  have hidd := hid
  have hpgg := hpg
  obtain ⟨id0, id1⟩ := hid
  by_cases c0 : 5 < (rs.length : Int)
  · go_enter Try.func5, Try.ntmps5
    go_wp2_with fail
    refine (awake05 _).mono ?_; rintro e w' ⟨rfl, hB⟩
    go_wp2
    go_ret
    exact ⟨rfl, hB⟩
  have c1 : rs.length ≤ 65536 := by omega
  have HRD := Lib.hid hrd
  have HOK := Lib.hid hok
  have HF1 := Lib.hid (ofF_nil page)
  have HF2 := Lib.hid (ofF_nil (pageI page))
  clear hrd hok
  obtain ⟨k, hk0, hk1⟩ : ∃ k : Int, (if rs = [] then (0 : Int) else 2) = k ∧ ((0 < (rs.length : Int) ∧ k = 2) ∨ (¬ 0 < (rs.length : Int) ∧ k = 0)) := by
    by_cases h : rs = []
    · refine ⟨0, by rw [if_pos h], .inr ⟨by rw [h]; simp, rfl⟩⟩
    · refine ⟨2, by rw [if_neg h], .inl ⟨by have := List.length_pos_iff.2 h; omega, rfl⟩⟩
  have HD : Hid (∀ W, Bel w W → Calls Try.prog 11 #[.pointer none, .slice s rs.length c] W fun e w' => e = .returned (.int .i64 k) ∧ Bel W w') := Lib.hid (fun W hb => by
    have := index_Drop_nil s rs rs.length c W rfl c1 (HRD.out.bel hb) HOK.out
    rw [hk0] at this; exact this)
  have HS : Hid (∀ W, Bel w W → Calls Try.prog 12 #[.pointer none, .int .i64 id, .slice s rs.length c] W fun e w' => e = .returned (.int .i64 (if id < 1 then 1 else k)) ∧ Bel W w') := Lib.hid (fun W hb => by
    have := index_Set_nil id s rs rs.length c W rfl c1 (HRD.out.bel hb) HOK.out hidd
    rw [hk0] at this; exact this)
  clear hk0
  by_cases c2 : id < 1
  · rw [if_pos c2] at HS
    rcases hk1 with ⟨hp, rfl⟩ | ⟨hp, rfl⟩
    all_goals
      go_enter Try.func5, Try.ntmps5
      go_wp2_with fail
      refine (HD.out w (Bel.refl _)).mono ?_; rintro e w1 ⟨rfl, hB1⟩
      have HB1 := Lib.hid hB1
      clear hB1
      go_wp2_with fail
      refine (HS.out w1 HB1.out).mono ?_; rintro e w2 ⟨rfl, hB2⟩
      go_wp2_with fail
      refine (awake05 _).mono ?_; rintro e w' ⟨rfl, hB⟩
      go_wp2
      go_ret
      exact ⟨rfl, (HB1.out.trans hB2).trans hB⟩
  · rw [if_neg c2] at HS
    rcases hk1 with ⟨hp, rfl⟩ | ⟨hp, rfl⟩
    all_goals
      go_enter Try.func5, Try.ntmps5
      go_wp2_with fail
      refine (HD.out w (Bel.refl _)).mono ?_; rintro e w1 ⟨rfl, hB1⟩
      have HB1 := Lib.hid hB1
      clear hB1
      go_wp2_with fail
      refine (HS.out w1 HB1.out).mono ?_; rintro e w2 ⟨rfl, hB2⟩
      have HB2 := Lib.hid hB2
      clear hB2
      go_wp2_with fail
      refine (index_Pages (.pointer none) [] w2 (.inl ⟨rfl, rfl⟩)).mono ?_; rintro e w3 ⟨rfl, rfl⟩
      go_wp2_with fail
      refine (index_Of (.pointer none) [] page w2 (.inl ⟨rfl, rfl⟩) hpgg).mono ?_; rintro e w3 ⟨rfl, rfl⟩
      rw [HF1.out]
      go_wp2_with fail
      refine (index_At (.pointer none) [] page w2 (.inl ⟨rfl, rfl⟩) hpgg).mono ?_; rintro e w3 ⟨rfl, rfl⟩
      rw [HF2.out]
      go_wp2_with fail
      refine (index_Runs_nil id w2).mono ?_; rintro e w3 ⟨rfl, rfl⟩
      go_wp2_with fail
      refine (awake05 _).mono ?_; rintro e w' ⟨rfl, hB⟩
      go_wp2
      go_ret
      exact ⟨rfl, (HB1.out.trans HB2.out).trans hB⟩
end Go.Proofs.Ytokefhplodbheaa
