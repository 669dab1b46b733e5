/- The slow twin of layer 5: Runs. -/
import Derived.Test.YtokefhplodbheaaRef05P
namespace Go.Proofs.Ytokefhplodbheaa
open Go.RowKit

theorem runs_short5 {ids : List Int} {id : Int} : ∀ (q : Nat), (runsP ids id q).length ≤ q
  | 0 => by simp [runsP]
  | q + 1 => by
    have ih := runs_short5 (ids := ids) (id := id) q
    unfold runsP
    split
    · omega
    · split
      · rw [List.length_append, List.length_dropLast, List.length_singleton]
        rename_i h
        have : runsP ids id q ≠ [] := by
          intro h9
          obtain ⟨q', rfl⟩ : ∃ q', q = q' + 1 := ⟨q - 1, by omega⟩
          have e1 : (((q' + 1 : Nat) : Int) - 1) = q' := by omega
          rw [e1] at h
          obtain ⟨L, s, n, e, _⟩ := runs_last h.2
          rw [h9] at e
          simp at e
        have := List.length_pos_iff.2 this
        omega
      · rw [List.length_append, List.length_singleton]; omega

set_option maxHeartbeats 4000000 in
set_option maxRecDepth 20000 in
theorem ref5_Runs (a : Option Addr) (ids : List Int) (id : Int) (n c : Nat) (w : World) (hn : n = ids.length) (hsm : ids.length ≤ 1024) (hra : RdV w a (ints ids)) (hid : I64 id) :
    Calls Try.prog 19 #[.slice a n c, .int .i64 id] w (NewRuns w (runsF ids id)) := by
  subst hn
  obtain ⟨id0, id1⟩ := hid
  obtain ⟨i0, hi0, hz0, hz1, hz2⟩ := info_parts info_run
  have hq2 : (Instr.buildSlice 28 0 #[]).run Try.prog w = .ok (.slice (some ⟨w.heap.size, 0, none⟩) 0 0) (w.alloc (.cells #[] 44)) := by kernel_rfl
  have HRA := Lib.hid hra
  have HOW0 : Hid ((w.alloc (.cells #[] 44)).ownsRow w.heap.size 44 2 (.slice (some ⟨w.heap.size, 0, none⟩) 0 0) 0 []) := Lib.hid (World.ownsRow_made (e := 44) (size := 2) w #[] 0 (Nat.le_refl _) (by simp [maxLen]) (by simp))
  clear hra
  go_enter Try.func19, Try.ntmps19
  go_wp2_with fail
  clear hq2
  go_loopw [5, 6] (fun v k wr => ∃ q : Nat, q ≤ ids.length + 1 ∧ k = .int .i64 q ∧ wr.ownsRow w.heap.size 44 2 v (runsP ids id (min q ids.length)).length (cellsOf (runsP ids id (min q ids.length))) ∧ Bel w wr ∧ Hid (q = 0 ∨ q = ids.length + 1 ∨ wd ids ((q : Int) - 1) ≠ id)) (fun v k wr => ids.length + 1 - (intOf k).toNat)
  case atStart => exact ⟨0, Nat.zero_le _, rfl, by rw [Nat.zero_min]; exact HOW0.out, (Bel.refl _).alloc _, Lib.hid (.inl rfl)⟩
  case round =>
    obtain ⟨q, hq, rfl, hown, hB, HQ⟩ := hrel
    by_cases hlt : q < ids.length
    · rw [Nat.min_eq_left (by omega)] at hown
      have HOW := Lib.hid hown
      have HB := Lib.hid hB
      have HQ0 : Hid (q = 0 ∨ wd ids ((q : Int) - 1) ≠ id) := Lib.hid (by rcases HQ.out with h | h | h; exact .inl h; omega; exact .inr h)
      clear hown hB HQ
      go_wp2_with fail
      go_loopw [7] (fun k wi => ∃ j : Nat, q + j ≤ ids.length ∧ k = .int .i64 j ∧ wr = wi ∧ Hid (∀ i : Nat, i < j → wd ids ((q + i : Nat) : Int) = id)) (fun k wr => ids.length - (intOf k).toNat)
      case atStart => exact ⟨0, by omega, rfl, rfl, Lib.hid (fun i h => by omega)⟩
      case round =>
        obtain ⟨j, hj, rfl, rfl, HJ⟩ := hrel
        obtain ⟨b, o, rfl, hra⟩ := (HRA.out.bel HB.out).at (f := fun x => .int .i64 x) (xs := ids) q hlt
        clear hra
        have ez : (q : Int) ≤ 1024 := by omega
        have ej : (j : Int) ≤ 1024 := by omega
        by_cases hgo : q + j < ids.length ∧ wd ids ((q + j : Nat) : Int) = id
        · obtain ⟨hg1, hg2⟩ := hgo
          obtain ⟨_, _, e9, hc⟩ := (HRA.out.bel HB.out).at (f := fun x => .int .i64 x) (xs := ids) (q + j) hg1
          cases e9
          have hw : ids[q + j] = wd ids ((q + j : Nat) : Int) := by unfold wd; rw [Int.toNat_natCast]; simp [List.getD_eq_getElem?_getD, hg1]
          rw [hw, hg2] at hc
          have z1 : (q : Int) + j < ids.length := by omega
          have z2 : ((q : Int) + j).toNat = q + j := by omega
          have b3 : (id == id) = true := by simp
          have HJ2 : Hid (∀ i : Nat, i < j + 1 → wd ids ((q + i : Nat) : Int) = id) := Lib.hid (fun i hi => by
            rcases Nat.lt_or_ge i j with h9 | h9
            · exact HJ.out i h9
            · obtain rfl : i = j := by omega
              exact hg2)
          clear hw hg2
          go_wp2
          go_roundw
          case rel => exact ⟨j + 1, by omega, by go_num, by first | rfl | trivial, HJ2⟩
          case measure => simp [intOf]; omega
        · have hstop : (q + j = ids.length) ∨ (q + j < ids.length ∧ wd ids ((q + j : Nat) : Int) ≠ id) := by
            rcases Nat.lt_or_ge (q + j) ids.length with h9 | h9
            · exact .inr ⟨h9, fun h => hgo ⟨h9, h⟩⟩
            · exact .inl (by omega)
          clear hgo
          cases j with
          | zero =>
            rcases hstop with h9 | ⟨h9, h8⟩
            · omega
            rw [Nat.add_zero] at h9 h8
            obtain ⟨_, _, e9, hc⟩ := (HRA.out.bel HB.out).at (f := fun x => .int .i64 x) (xs := ids) q h9
            cases e9
            have hw : ids[q] = wd ids (q : Int) := by unfold wd; rw [Int.toNat_natCast]; simp [List.getD_eq_getElem?_getD, h9]
            rw [hw] at hc
            obtain ⟨y, hy⟩ : ∃ y, wd ids (q : Int) = y := ⟨_, rfl⟩
            have HST := Lib.hid (runs_skip h8)
            rw [hy] at hc h8
            have b3 : (y == id) = false := by simp [h8]
            have HQ2 : Hid (q + 1 = 0 ∨ q + 1 = ids.length + 1 ∨ wd ids (((q + 1 : Nat) : Int) - 1) ≠ id) := Lib.hid (.inr (.inr (by rw [show (((q + 1 : Nat) : Int) - 1) = q by omega, hy]; exact h8)))
            clear hw hy h8 HQ0
            go_wp2
            go_roundw
            case rel => exact ⟨q + 1, by omega, by go_num, by rw [Nat.min_eq_left (by omega), HST.out]; exact HOW.out, HB.out, HQ2⟩
            case measure => simp [intOf]; omega
          | succ j =>
            have hwh := runs_whole HQ0.out j HJ.out
            have HST : Hid (runsP ids id (min (q + (j + 1) + 1) ids.length) = runsP ids id q ++ [((q : Int), ((j + 1 : Nat) : Int))]) := Lib.hid (by
              rcases hstop with h9 | ⟨h9, h8⟩
              · rw [Nat.min_eq_right (by omega), ← h9]; exact hwh
              · rw [Nat.min_eq_left (by omega), runs_skip h8]; exact hwh)
            have HQ2 : Hid (q + (j + 1) + 1 = 0 ∨ q + (j + 1) + 1 = ids.length + 1 ∨ wd ids (((q + (j + 1) + 1 : Nat) : Int) - 1) ≠ id) := Lib.hid (by
              rcases hstop with h9 | ⟨h9, h8⟩
              · exact .inr (.inl (by omega))
              · exact .inr (.inr (by rw [show (((q + (j + 1) + 1 : Nat) : Int) - 1) = ((q + (j + 1) : Nat) : Int) by omega]; exact h8)))
            have hlen : (runsP ids id q).length ≤ 1024 := by have := runs_short5 (ids := ids) (id := id) q; omega
            clear hwh
            rcases hstop with h9 | ⟨h9, h8⟩
            · have z1 : ¬ (q : Int) + (j + 1) < ids.length := by omega
              go_wp2_with (at_builtin; refine wpList_append_own _ rfl _ _ 28 rfl w.heap.size 44 i0 (.agg #[.int .i64 0, .int .i64 0]) 2 16 Try.underlying28 hi0 hz0 hz1 hz2 rfl (by decide) _ _ _ rfl (HOW.out.alloc _) ⟨wr.heap.size, 0, none⟩ 1 1 [.int .i64 (q : Int), .int .i64 ((j + 1 : Nat) : Int)] rfl rfl ?f2 ?f3 ?f4 ?f5 ?f6 ?_)
              try (case f2 => exact cell_two_new _ _ _ _)
              case f3 => simp [Value.oneCell']
              case f4 => unfold maxLen; omega
              case f5 => omega
              case f6 => have := HB.out.size; first | omega | (simp; omega)
              intro v' w4 hown4 hgrow hnil
              have hB4 : Bel w w4 := bel_app HOW.out HB.out hgrow
              have HN : Hid (w4.ownsRow w.heap.size 44 2 v' (runsP ids id (min (q + (j + 1) + 1) ids.length)).length (cellsOf (runsP ids id (min (q + (j + 1) + 1) ids.length))) ∧ Bel w w4) := Lib.hid (by
                rw [HST.out, cellsOf_snoc, List.length_append]
                exact ⟨by simpa using hown4, hB4⟩)
              clear hown4 hgrow hnil hB4
              go_wp2
              go_roundw
              case rel => exact ⟨q + (j + 1) + 1, by omega, by go_num, HN.out.1, HN.out.2, HQ2⟩
              case measure => simp [intOf]; omega
            · obtain ⟨_, _, e9, hc⟩ := (HRA.out.bel HB.out).at (f := fun x => .int .i64 x) (xs := ids) (q + (j + 1)) h9
              cases e9
              have hw : ids[q + (j + 1)] = wd ids ((q + (j + 1) : Nat) : Int) := by unfold wd; rw [Int.toNat_natCast]; simp [List.getD_eq_getElem?_getD, h9]
              rw [hw] at hc
              obtain ⟨y, hy⟩ : ∃ y, wd ids ((q + (j + 1) : Nat) : Int) = y := ⟨_, rfl⟩
              rw [hy] at hc h8
              have b3 : (y == id) = false := by simp [h8]
              have z1 : (q : Int) + (j + 1) < ids.length := by omega
              have z2 : ((q : Int) + (j + 1)).toNat = q + (j + 1) := by omega
              clear hw hy h8 HQ0
              go_wp2_with (at_builtin; refine wpList_append_own _ rfl _ _ 28 rfl w.heap.size 44 i0 (.agg #[.int .i64 0, .int .i64 0]) 2 16 Try.underlying28 hi0 hz0 hz1 hz2 rfl (by decide) _ _ _ rfl (HOW.out.alloc _) ⟨wr.heap.size, 0, none⟩ 1 1 [.int .i64 (q : Int), .int .i64 ((j + 1 : Nat) : Int)] rfl rfl ?f2 ?f3 ?f4 ?f5 ?f6 ?_)
              try (case f2 => exact cell_two_new _ _ _ _)
              case f3 => simp [Value.oneCell']
              case f4 => unfold maxLen; omega
              case f5 => omega
              case f6 => have := HB.out.size; first | omega | (simp; omega)
              intro v' w4 hown4 hgrow hnil
              have hB4 : Bel w w4 := bel_app HOW.out HB.out hgrow
              have HN : Hid (w4.ownsRow w.heap.size 44 2 v' (runsP ids id (min (q + (j + 1) + 1) ids.length)).length (cellsOf (runsP ids id (min (q + (j + 1) + 1) ids.length))) ∧ Bel w w4) := Lib.hid (by
                rw [HST.out, cellsOf_snoc, List.length_append]
                exact ⟨by simpa using hown4, hB4⟩)
              clear hown4 hgrow hnil hB4
              go_wp2
              go_roundw
              case rel => exact ⟨q + (j + 1) + 1, by omega, by go_num, HN.out.1, HN.out.2, HQ2⟩
              case measure => simp [intOf]; omega
    · rw [Nat.min_eq_right (by omega)] at hown
      have z1 : (ids.length : Int) ≤ q := by omega
      obtain ⟨av, cv, rfl, _⟩ := own_slice hown
      go_wp2
      go_ret
      exact ⟨_, rfl, hown, hB⟩
end Go.Proofs.Ytokefhplodbheaa
