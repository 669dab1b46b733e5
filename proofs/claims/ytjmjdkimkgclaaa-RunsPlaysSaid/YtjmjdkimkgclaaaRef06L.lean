/- The slow twin of layer 6: List. -/
import Derived.Test.YtjmjdkimkgclaaaRef06
namespace Go.Proofs.Ytjmjdkimkgclaaa
open Go.RowKit

/-- Pages as numbers: 1 where it holds. -/
def idsF (f : Int → Bool) : List Int := (List.range 1024).map fun (p : Nat) => if f p then 1 else 0
theorem listP_idsF (f : Int → Bool) : listP f = runsF (idsF f) 1 := rfl
theorem idsF_length (f : Int → Bool) : (idsF f).length = 1024 := listP_len f
theorem idsF_wd (f : Int → Bool) {p : Nat} (h : p < 1024) : wd (idsF f) (p : Int) = 1 ↔ f (p : Int) = true := by
  have : wd (idsF f) (p : Int) = if f p then 1 else 0 := listP_wd f (by omega) (by omega)
  rw [this]
  cases f (p : Int) <;> simp
set_option maxHeartbeats 4000000 in
set_option maxRecDepth 20000 in
theorem ref6_List (v : Value) (f : Int → Bool) (w : World) (hf : BitsV w v f) :
    Calls Try.prog 19 #[v] w (NewRuns w (listP f)) := by
  obtain ⟨bf, of', cf, rfl, hra⟩ := hf
  have hRF : runsF (idsF f) 1 = runsP (idsF f) 1 1024 := by unfold runsF; rw [idsF_length]
  have HLP : Hid (listP f = runsP (idsF f) 1 1024) := Lib.hid (by rw [listP_idsF, hRF])
  have HW : Hid (∀ p : Nat, p < 1024 → (wd (idsF f) (p : Int) = 1 ↔ f (p : Int) = true)) := Lib.hid (fun p hp => idsF_wd f hp)
  obtain ⟨ids, hids⟩ : ∃ ids, idsF f = ids := ⟨_, rfl⟩
  rw [hids] at HLP HW
  have HRA := Lib.hid hra
  have HOW0 : Hid ((w.alloc (.cells #[] 29)).ownsRow w.heap.size 29 2 (.slice (some ⟨w.heap.size, 0, none⟩) 0 0) 0 []) := Lib.hid (World.ownsRow_made (e := 29) (size := 2) w #[] 0 (Nat.le_refl _) (by simp [maxLen]) (by simp))
  have hq2 : (Instr.buildSlice 22 0 #[]).run Try.prog w = .ok (.slice (some ⟨w.heap.size, 0, none⟩) 0 0) (w.alloc (.cells #[] 29)) := by kernel_rfl
  clear hra hids hRF
  go_enter Try.func19, Try.ntmps19
  go_wp2_with fail
  clear hq2
  go_loopw [3, 4] (fun v k wr => ∃ q : Nat, q ≤ 1025 ∧ k = .int .i64 q ∧ Hid (wr.ownsRow w.heap.size 29 2 v (runsP ids 1 (min q 1024)).length (cellsOf (runsP ids 1 (min q 1024))) ∧ Bel w wr ∧ (q = 0 ∨ q = 1025 ∨ wd ids ((q : Int) - 1) ≠ 1))) (fun v k wr => 1025 - (intOf k).toNat)
  case atStart => exact ⟨0, Nat.zero_le _, rfl, Lib.hid ⟨by rw [Nat.zero_min]; exact HOW0.out, (Bel.refl _).alloc _, .inl rfl⟩⟩
  case round =>
    obtain ⟨q, hq, rfl, HH⟩ := hrel
    have HB := Lib.hid HH.out.2.1
    have hsB := HB.out.size
    by_cases hlt : q < 1024
    · have hown := HH.out.1
      rw [Nat.min_eq_left (by omega)] at hown
      have HOW := Lib.hid hown
      have HQ0 : Hid (q = 0 ∨ wd ids ((q : Int) - 1) ≠ 1) := Lib.hid (by rcases HH.out.2.2 with h | h | h; exact .inl h; omega; exact .inr h)
      obtain ⟨av, cv, rfl, _⟩ := own_slice hown
      have hlen : (runsP ids 1 q).length ≤ 1024 := by have := runs_short5 (ids := ids) (id := 1) q; omega
      clear hown HH
      have ez : (q : Int) ≤ 1024 := by omega
      have z9 : (q : Int) < 1024 := by omega
      go_wp2_with fail
      go_loopw [5] (fun k wi => ∃ j : Nat, q + j ≤ 1024 ∧ k = .int .i64 j ∧ Hid (wr = wi ∧ ∀ i : Nat, i < j → wd ids ((q + i : Nat) : Int) = 1)) (fun k _ => 1024 - (intOf k).toNat)
      case atStart => exact ⟨0, by omega, rfl, Lib.hid ⟨rfl, fun i h => by omega⟩⟩
      case round =>
        obtain ⟨j, hj, rfl, HJ⟩ := hrel
        obtain rfl := HJ.out.1
        have ej : (j : Int) ≤ 1024 := by omega
        by_cases hgo : q + j < 1024 ∧ f ((q + j : Nat) : Int) = true
        · obtain ⟨hg1, hg2⟩ := hgo
          have hc := HB.out.cell (HRA.out (q + j) hg1)
          rw [hg2] at hc
          have z1 : (q : Int) + j < 1024 := by omega
          have z2 : ((q : Int) + j).toNat = q + j := by omega
          have HJ2 : Hid (wr = wr ∧ ∀ i : Nat, i < j + 1 → wd ids ((q + i : Nat) : Int) = 1) := Lib.hid ⟨rfl, fun i hi => by
            rcases Nat.lt_or_ge i j with h9 | h9
            · exact HJ.out.2 i h9
            · obtain rfl : i = j := by omega
              exact (HW.out _ hg1).2 hg2⟩
          clear hg2
          go_wp2
          go_roundw
          case rel => exact ⟨j + 1, by omega, by go_num, Lib.hid ⟨by first | rfl | trivial, HJ2.out.2⟩⟩
          case measure => simp [intOf]; omega
        · have hstop : (q + j = 1024) ∨ (q + j < 1024 ∧ f ((q + j : Nat) : Int) = false) := by
            rcases Nat.lt_or_ge (q + j) 1024 with h9 | h9
            · exact .inr ⟨h9, by rw [← Bool.not_eq_true]; exact fun h => hgo ⟨h9, h⟩⟩
            · exact .inl (by omega)
          have HWS : Hid (∀ t : Nat, t < 1024 → f (t : Int) = false → wd ids (t : Int) ≠ 1) := Lib.hid (fun t ht hf h => by rw [HW.out t ht, hf] at h; cases h)
          clear hgo
          cases j with
          | zero =>
            rcases hstop with h9 | ⟨h9, h8⟩
            · omega
            rw [Nat.add_zero] at h9 h8
            have hc := HB.out.cell (HRA.out q h9)
            rw [h8] at hc
            have h7 := HWS.out q h9 h8
            have HST := Lib.hid (runs_skip h7)
            have HQ2 : Hid (q + 1 = 0 ∨ q + 1 = 1025 ∨ wd ids (((q + 1 : Nat) : Int) - 1) ≠ 1) := Lib.hid (.inr (.inr (by rw [show (((q + 1 : Nat) : Int) - 1) = q by omega]; exact h7)))
            clear h8 h7 HQ0
            go_wp2
            go_roundw
            case rel => exact ⟨q + 1, by omega, by go_num, Lib.hid ⟨by rw [Nat.min_eq_left (by omega), HST.out]; exact HOW.out, HB.out, HQ2.out⟩⟩
            case measure => simp [intOf]; omega
          | succ j =>
            have hwh := runs_whole HQ0.out j HJ.out.2
            have HST : Hid (runsP ids 1 (min (q + (j + 1) + 1) 1024) = runsP ids 1 q ++ [((q : Int), ((j + 1 : Nat) : Int))]) := Lib.hid (by
              rcases hstop with h9 | ⟨h9, h8⟩
              · rw [Nat.min_eq_right (by omega), ← h9]; exact hwh
              · rw [Nat.min_eq_left (by omega), runs_skip (HWS.out _ h9 h8)]; exact hwh)
            have HQ2 : Hid (q + (j + 1) + 1 = 0 ∨ q + (j + 1) + 1 = 1025 ∨ wd ids (((q + (j + 1) + 1 : Nat) : Int) - 1) ≠ 1) := Lib.hid (by
              rcases hstop with h9 | ⟨h9, h8⟩
              · exact .inr (.inl (by omega))
              · exact .inr (.inr (by rw [show (((q + (j + 1) + 1 : Nat) : Int) - 1) = ((q + (j + 1) : Nat) : Int) by omega]; exact HWS.out _ h9 h8)))
            have hcd : (¬ (q : Int) + ((j : Int) + 1) < 1024) ∨ ((q : Int) + ((j : Int) + 1) < 1024 ∧ ((q : Int) + ((j : Int) + 1)).toNat = q + (j + 1) ∧ wr.cell? ⟨bf, of' + (q + (j + 1)), none⟩ = some (.bool false)) := by
              rcases hstop with h9 | ⟨h9, h8⟩
              · exact .inl (by omega)
              · refine .inr ⟨by omega, by omega, ?_⟩
                have hc := HB.out.cell (HRA.out (q + (j + 1)) h9)
                rw [h8] at hc; exact hc
            clear hwh hstop HQ0 HWS
            rcases hcd with z1 | ⟨z1, z2, hc⟩
            all_goals
              go_wp2_with (at_builtin; refine wpList_append_runs rfl _ _ rfl w.heap.size _ (runsP ids 1 q) rfl (HOW.out.alloc _) _ _ [((q : Int), ((j + 1 : Nat) : Int))] rfl ?d1 ?d2 ?d3 ?d4 ?_)
              case d1 => exact RunsIn.of_row (RdV.newAt _ #[.int .i64 (q : Int), .int .i64 ((j + 1 : Nat) : Int)] 29 _ (by simp))
              try (case d2 => rintro ⟨⟩)
              case d3 => first | omega | (simp; omega)
              case d4 => first | omega | (simp; omega)
              intro v' w4 hown4 hgrow
              have hB4 : Bel w w4 := bel_app HOW.out HB.out hgrow
              have HN : Hid (w4.ownsRow w.heap.size 29 2 v' (runsP ids 1 (min (q + (j + 1) + 1) 1024)).length (cellsOf (runsP ids 1 (min (q + (j + 1) + 1) 1024))) ∧ Bel w w4 ∧ (q + (j + 1) + 1 = 0 ∨ q + (j + 1) + 1 = 1025 ∨ wd ids (((q + (j + 1) + 1 : Nat) : Int) - 1) ≠ 1)) := Lib.hid (by
                rw [HST.out]
                exact ⟨by simpa using hown4, hB4, HQ2.out⟩)
              clear hown4 hgrow hB4
              go_wp2
              go_roundw
              case rel => exact ⟨q + (j + 1) + 1, by omega, by go_num, HN⟩
              case measure => simp [intOf]; omega
    · have hown := HH.out.1
      rw [Nat.min_eq_right (by omega)] at hown
      have z1 : (1024 : Int) ≤ q := by omega
      obtain ⟨av, cv, rfl, _⟩ := own_slice hown
      have HOW := Lib.hid hown
      clear hown HH
      go_wp2
      go_ret
      exact ⟨_, rfl, by rw [HLP.out]; exact HOW.out, HB.out⟩
end Go.Proofs.Ytjmjdkimkgclaaa
