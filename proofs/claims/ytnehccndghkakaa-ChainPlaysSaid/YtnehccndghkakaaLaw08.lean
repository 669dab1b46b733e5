/- Layer 8: what holds of empty chains; awake. -/
import Derived.Test.YtnehccndghkakaaRef08O
namespace Go.Proofs.Ytnehccndghkakaa
open Go.RowKit Go.Deep

theorem right_nil (ws : List Int) : RightC ws 0 0 [] := ⟨rfl, List.nodup_nil, rfl⟩
theorem bel_fr {a b c : World} {bw : Nat} (h : Bel a b) (k : Fr (fun k => k = bw) b c) (hb : a.heap.size ≤ bw) : Bel a c :=
  Fr.bel ((Fr.of_bel (S := fun k => k = bw) h).trans k (fun _ h => .inl h)) (fun k e => by omega)
theorem all_inW {ws at_ : List Int} (h : ∀ x ∈ at_, 0 ≤ x ∧ x < ws.length) : at_.any (fun x => !inW ws x) = false := by
  rw [List.any_eq_false]
  intro x hx
  rw [Bool.not_eq_true', Bool.not_eq_false]
  exact inW_iff.2 (h x hx)
theorem awake_push : ∃ W, pushF (List.replicate (64 * 4) 0) 0 0 [5, 9] = ⟨W, 10, 2, 0⟩ ∧ ldW W 9 = 6 := by
  refine ⟨(pushW (List.replicate (64 * 4) 0) 0 [5, 9]).1, ?_, ?_⟩
  · rw [pushF_ok (right_nil _) (all_inW (by intro x hx; simp at hx; rw [List.length_replicate]; omega)) (by decide)]
    rfl
  · rw [ldW_wd (by omega) (by rw [pushW_length, List.length_replicate]; omega)]
    simp only [pushW]
    rw [wd_setW_same (by omega) (by rw [setW_length, List.length_replicate]; omega)]
    rfl
set_option maxRecDepth 20000 in
theorem awake08 (w : World) : Calls Try.prog 7 #[] w fun e w' => e = .returned (.bool true) ∧ Bel w w' := by
  obtain ⟨W, hW, hld⟩ := awake_push
  have HW := Lib.hid hW
  have HLD := Lib.hid hld
  have i1 : Hid (inB 256 255 1 = true) := Lib.hid (by decide)
  clear hW hld
  go_enter Try.func7, Try.ntmps7
  go_wp2_with fail
  refine (arena_New_ok 4 _ (by omega) (by omega)).mono ?_
  rintro e w1 ⟨ba, rfl, hlt, hA, hB⟩
  have hbw := heap_lt hA.words
  go_wp2_with fail
  refine (chain_Push ba w.heap.size _ 0 0 (some ⟨w1.heap.size, 0, none⟩) [5, 9] 2 _ (hA.bel ((Bel.refl _).alloc _)) ⟨by omega, by omega⟩ ⟨by omega, by omega⟩ (by simp) (by intro x hx; simp at hx; rcases hx with rfl | rfl <;> exact ⟨by omega, by omega⟩)
    (RdV.new w1 #[.int .i64 5, .int .i64 9] 3) (fun _ p hp => by cases hp; show w1.heap.size ≠ w.heap.size; omega)).mono ?_
  rintro e w2 ⟨rfl, hA2, hF2⟩
  rw [HW.out] at hA2 ⊢
  have hB2 : Bel w w2 := bel_fr (hB.alloc _) hF2 (Nat.le_refl _)
  have hA3 := hA2.bel ((Bel.refl w2).alloc (.cells #[.int .i64 10, .int .i64 2] 37))
  go_wp2_with fail
  refine (arena_Load _ _ 9 _ (.inr ⟨ba, _, rfl, hA3⟩) ⟨by omega, by omega⟩).mono ?_
  rintro e w3 ⟨rfl, hB3⟩
  rw [HLD.out]
  have g := (Fr.of_bel (S := fun _ => False) hB3).heap (blk_alloc w2 (.cells #[.int .i64 10, .int .i64 2] 37)) (fun h => h)
  obtain ⟨q0, q1, q2, q3⟩ := two_cells g
  go_wp2
  go_ret
  exact ⟨rfl, (hB2.alloc _).trans hB3⟩
end Go.Proofs.Ytnehccndghkakaa
