/- The library's Index and Contains at ints. -/
import Derived.Test.YthkbhikiljlgoaaWSlI
namespace Go.Proofs.Ythkbhikiljlgoaa
open Go.RowKit

theorem index_int (a : Option Addr) (xs : List Int) (x : Int) (n c : Nat) (w : World) (hn : n = xs.length) (hl : xs.length ≤ maxLen) (hrd : RdV w a (xs.map (.int .i64))) :
    Calls Try.prog 49 #[.slice a n c, .int .i64 x] w fun e w' => e = .returned (.int .i64 (idxF (fun y => x == y) xs)) ∧ w = w' := by
  subst hn
  unfold maxLen at hl
  go_enter Try.func49, Try.ntmps49
  go_wp2
  go_loop [8] (fun k => ∃ m : Nat, m ≤ xs.length ∧ k = .int .i64 m ∧ Hid (∀ j (hj : j < m) (hj' : j < xs.length), (x == xs[j]) = false)) (fun k => xs.length - (intOf k).toNat)
  case atStart => exact ⟨0, Nat.zero_le _, rfl, Lib.hid (fun j hj => by omega)⟩
  case round =>
    obtain ⟨m, hm, rfl, H0⟩ := hrel
    by_cases hlt : m < xs.length
    · obtain ⟨b, o, rfl, hc⟩ := hrd.at m hlt
      have HR := Lib.hid hrd
      clear hrd
      cases hq : x == xs[m]
      · have HX := Lib.hid hq
        go_wp2
        go_round
        case rel => exact ⟨m + 1, by omega, by go_num, Lib.hid (fun j hj hj' => by
          rcases Nat.lt_or_ge j m with h | h
          · exact H0.out j h hj'
          · obtain rfl : j = m := by omega
            exact HX.out)⟩
        case measure => simp [intOf]; omega
      · have H2 : Hid (idxF (fun y => x == y) xs = m) := Lib.hid (idxF_at _ xs m hlt (fun j hj => H0.out j hj (by omega)) hq)
        go_wp2
        go_ret
        exact ⟨ret_i H2.out, rfl⟩
    · have H2 : Hid (idxF (fun y => x == y) xs = -1) := Lib.hid (idxF_none _ xs (fun j hj => H0.out j (by omega) hj))
      go_wp2
      go_ret
      exact ⟨ret_i H2.out, rfl⟩

theorem contains_int (a : Option Addr) (xs : List Int) (x : Int) (n c : Nat) (w : World) (hn : n = xs.length) (hl : xs.length ≤ maxLen) (hrd : RdV w a (xs.map (.int .i64))) :
    Calls Try.prog 33 #[.slice a n c, .int .i64 x] w fun e w' => e = .returned (.bool (decide (x ∈ xs))) ∧ w = w' := by
  subst hn
  have H : Hid (decide (x ∈ xs) = decide (0 ≤ idxF (fun y => x == y) xs)) := Lib.hid (by
    have := idxF_ge (fun y => x == y) xs
    rw [Bool.eq_iff_iff, decide_eq_true_eq, decide_eq_true_eq]
    simp only [ge_iff_le, List.any_eq_true, beq_iff_eq, eq_iff_iff] at this
    rw [this]
    exact ⟨fun h => ⟨x, h, rfl⟩, fun ⟨y, h, e⟩ => e ▸ h⟩)
  go_enter Try.func33, Try.ntmps33
  go_wp2_with fail
  refine (index_int a xs x _ c w rfl hl hrd).mono ?_
  rintro e W' ⟨rfl, rfl⟩
  go_wp2
  go_ret
  exact ⟨ret_b H.out, rfl⟩
end Go.Proofs.Ythkbhikiljlgoaa
