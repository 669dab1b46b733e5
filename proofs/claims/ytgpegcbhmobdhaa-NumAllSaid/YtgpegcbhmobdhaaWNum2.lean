/- num.Is, stacks.Sizes, package policy, and the references of layers 1, 12 and 18: what they come to. -/
import Derived.Test.YtgpegcbhmobdhaaWNum
import Derived.Test.YtgpegcbhmobdhaaWSlI
namespace Go.Proofs.Ytgpegcbhmobdhaa
open Go.RowKit

theorem any_not {α : Type} (xs : List α) (p : α → Bool) : xs.any (fun x => !p x) = !xs.all p := by
  induction xs with
  | nil => rfl
  | cons x r ih => simp [ih, Bool.not_and]

theorem num_Is_lit (n : Int) (w : World) (h : I64 n) :
    Calls Try.prog 60 #[.int .i64 n] w fun e w' => e = .returned (.bool (!isB n)) ∧ w = w' := by
  go_enter Try.func60, Try.ntmps60
  go_wp2_with fail
  refine (num_is _ _ h).mono ?_; rintro e w' ⟨rfl, rfl⟩
  go_wp2
  go_ret
  exact ⟨rfl, rfl⟩
theorem ent_num_Is_lit : Enters 60 := enters_of Try.func60 (by kernel_rfl) rfl

theorem num_Is (a : Option Addr) (xs : List Int) (n c : Nat) (w : World) (hn : n = xs.length) (hl : xs.length ≤ maxLen) (hrd : RdV w a (ints xs)) (hx : ∀ x ∈ xs, I64 x) :
    Calls Try.prog 26 #[.slice a n c] w fun e w' => e = .returned (.bool (xs.all isB)) ∧ w = w' := by
  subst hn
  have H := Lib.hid (any_not xs isB)
  have E := ent_num_Is_lit
  go_enter Try.func26, Try.ntmps26
  go_wp2_with fail
  refine (containsFunc_int quiet_eq _ E #[] (fun x => !isB x) a xs _ c w rfl hl hrd ?_).mono ?_
  · rintro W rfl x hm; exact num_Is_lit x w (hx x hm)
  rintro e w' ⟨rfl, rfl⟩
  rw [H.out]
  go_wp2
  go_ret
  exact ⟨ret_b (by simp), rfl⟩

theorem sizes_lit (n : Int) (w : World) (h : I64 n) :
    Calls Try.prog 67 #[.int .i64 n] w fun e w' => e = .returned (.bool (decide (n < 16))) ∧ w = w' := by
  obtain ⟨h0, h1⟩ := h
  go_enter Try.func67, Try.ntmps67
  go_wp2
  go_ret
  exact ⟨rfl, rfl⟩
theorem ent_sizes_lit : Enters 67 := enters_of Try.func67 (by kernel_rfl) rfl

theorem all_and {α : Type} (xs : List α) (p q : α → Bool) : xs.all (fun x => p x && q x) = (xs.all p && xs.all q) := by
  induction xs with
  | nil => rfl
  | cons x r ih => simp [ih]; cases p x <;> cases q x <;> simp
theorem lt_not_le (x k : Int) : decide (x < k) = !decide (k ≤ x) := by
  by_cases h : x < k <;> simp [h] <;> omega

theorem stacks_Sizes (a : Option Addr) (xs : List Int) (n c : Nat) (w : World) (hn : n = xs.length) (hl : xs.length ≤ maxLen) (hrd : RdV w a (ints xs)) (hx : ∀ x ∈ xs, I64 x) :
    Calls Try.prog 62 #[.slice a n c] w fun e w' => e = .returned (.bool (xs.all szB)) ∧ w = w' := by
  subst hn
  have hs : xs.all szB = (xs.all isB && xs.all (fun x => decide (16 ≤ x))) := all_and xs isB _
  have hq : xs.any (fun x => decide (x < 16)) = !xs.all (fun x => decide (16 ≤ x)) := by
    rw [← any_not]; congr 1; funext x; exact lt_not_le x 16
  cases hb : xs.all isB
  · have H : Hid (xs.all szB = false) := Lib.hid (by rw [hs, hb]; rfl)
    have HB := Lib.hid hb
    clear hb hs hq
    go_enter Try.func62, Try.ntmps62
    go_wp2_with fail
    refine (num_Is a xs _ c w rfl hl hrd hx).mono ?_
    rintro e w' ⟨rfl, rfl⟩
    rw [HB.out]
    go_wp2
    go_ret
    exact ⟨ret_b H.out, rfl⟩
  · have H : Hid (xs.all szB = !xs.any (fun x => decide (x < 16))) := Lib.hid (by rw [hs, hb, hq]; simp)
    have HB := Lib.hid hb
    have E := ent_sizes_lit
    clear hb hs hq
    go_enter Try.func62, Try.ntmps62
    go_wp2_with fail
    refine (num_Is a xs _ c w rfl hl hrd hx).mono ?_
    rintro e w' ⟨rfl, rfl⟩
    rw [HB.out]
    go_wp2_with fail
    refine (containsFunc_int quiet_eq _ E #[] (fun x => decide (x < 16)) a xs _ c w rfl hl hrd ?_).mono ?_
    · rintro W rfl x hm; exact sizes_lit x w (hx x hm)
    rintro e w' ⟨rfl, rfl⟩
    go_wp2
    go_ret
    exact ⟨ret_b H.out, rfl⟩

theorem limit_lit (n : Int) (w : World) (h : I64 n) :
    Calls Try.prog 63 #[.int .i64 n] w fun e w' => e = .returned (.bool (decide (65536 < n))) ∧ w = w' := by
  obtain ⟨h0, h1⟩ := h
  go_enter Try.func63, Try.ntmps63
  go_wp2
  go_ret
  exact ⟨rfl, rfl⟩
theorem ent_limit_lit : Enters 63 := enters_of Try.func63 (by kernel_rfl) rfl

theorem policy_Limit (a : Option Addr) (xs : List Int) (n c : Nat) (w : World) (hn : n = xs.length) (hl : xs.length ≤ maxLen) (hrd : RdV w a (ints xs)) (hx : ∀ x ∈ xs, I64 x) :
    Calls Try.prog 39 #[.slice a n c] w fun e w' => e = .returned (.bool (xs.all limB)) ∧ w = w' := by
  subst hn
  have hs : xs.all limB = (xs.all szB && xs.all (fun x => decide (x ≤ 65536))) := all_and xs szB _
  have hq : xs.any (fun x => decide (65536 < x)) = !xs.all (fun x => decide (x ≤ 65536)) := by
    rw [← any_not]; congr 1; funext x; by_cases h : 65536 < x <;> simp [h] <;> omega
  cases hb : xs.all szB
  · have H : Hid (xs.all limB = false) := Lib.hid (by rw [hs, hb]; rfl)
    have HB := Lib.hid hb
    clear hb hs hq
    go_enter Try.func39, Try.ntmps39
    go_wp2_with fail
    refine (stacks_Sizes a xs _ c w rfl hl hrd hx).mono ?_
    rintro e w' ⟨rfl, rfl⟩
    rw [HB.out]
    go_wp2
    go_ret
    exact ⟨ret_b H.out, rfl⟩
  · have H : Hid (xs.all limB = !xs.any (fun x => decide (65536 < x))) := Lib.hid (by rw [hs, hb, hq]; simp)
    have HB := Lib.hid hb
    have E := ent_limit_lit
    clear hb hs hq
    go_enter Try.func39, Try.ntmps39
    go_wp2_with fail
    refine (stacks_Sizes a xs _ c w rfl hl hrd hx).mono ?_
    rintro e w' ⟨rfl, rfl⟩
    rw [HB.out]
    go_wp2_with fail
    refine (containsFunc_int quiet_eq _ E #[] (fun x => decide (65536 < x)) a xs _ c w rfl hl hrd ?_).mono ?_
    · rintro W rfl x hm; exact limit_lit x w (hx x hm)
    rintro e w' ⟨rfl, rfl⟩
    go_wp2
    go_ret
    exact ⟨ret_b H.out, rfl⟩

/-! ### the references -/
theorem ref_Is (n : Int) (w : World) (h : I64 n) :
    Calls Try.prog 28 #[.int .i64 n] w fun e w' => e = .returned (.bool (isB n)) ∧ w = w' := by
  obtain ⟨h0, h1⟩ := h
  go_enter Try.func28, Try.ntmps28
  go_wp2
  go_loop [0] (fun v => ∃ m : Int, v = .int .i64 m ∧ -9223372036854775808 ≤ m ∧ m ≤ 9223372036854775807 ∧ Hid (isB m = isB n)) (fun v => (intOf v).toNat)
  case atStart => exact ⟨n, rfl, h0, h1, Lib.hid rfl⟩
  case round =>
    obtain ⟨m, rfl, m0, m1, HB⟩ := hrel
    by_cases c : 1 < m
    · by_cases d : m % 2 = 0
      · have H : Hid (isB (m / 2) = isB n) := Lib.hid (by rw [← isB_half (by omega) (by omega) d]; exact HB.out)
        go_wp2
        go_round
        case rel => exact ⟨m / 2, rfl, by omega, by omega, H⟩
        case measure => simp [intOf]; omega
      · have H : Hid (isB n = (m == 1)) := Lib.hid (by rw [← HB.out, isB_odd (by omega) (by omega) d]; symm; rw [beq_eq_false_iff_ne]; omega)
        go_wp2
        go_ret
        exact ⟨ret_b H.out, rfl⟩
    · have H : Hid (isB n = (m == 1)) := Lib.hid (by rw [← HB.out, isB_low (by omega)]; rfl)
      go_wp2
      go_ret
      exact ⟨ret_b H.out, rfl⟩

theorem ref_Log (n : Int) (w : World) (h : I64 n) :
    Calls Try.prog 46 #[.int .i64 n] w fun e w' => e = .returned (.int .i64 (lgI n)) ∧ w = w' := by
  obtain ⟨h0, h1⟩ := h
  by_cases c : n < 1
  · have H := Lib.hid (show lgI n = -1 by simp [lgI, c])
    go_enter Try.func46, Try.ntmps46
    go_wp2
    go_ret
    exact ⟨ret_i H.out, rfl⟩
  · have hl : lgI n ≤ 63 := by
      unfold lgI; rw [if_neg c]; have := bl_bounds (n := n) (by omega) (by omega); omega
    go_enter Try.func46, Try.ntmps46
    go_wp2
    go_loop [0, 3] (fun v k => ∃ m j : Int, v = .int .i64 m ∧ k = .int .i64 j ∧ 1 ≤ m ∧ m ≤ 9223372036854775807 ∧ 0 ≤ j ∧ j ≤ 63 ∧ Hid (lgI n = lgI m + j)) (fun v _ => (intOf v).toNat)
    case atStart => exact ⟨n, 0, rfl, rfl, by omega, h1, by omega, by omega, Lib.hid (by omega)⟩
    case round =>
      obtain ⟨m, j, rfl, rfl, m0, m1, j0, j1, HB⟩ := hrel
      by_cases c : 1 < m
      · have e := lg_half (n := m) (by omega) (by omega)
        have e2 : 0 ≤ lgI (m / 2) := lg_nonneg (by omega) (by omega)
        have e3 := HB.out
        have H : Hid (lgI n = lgI (m / 2) + (j + 1)) := Lib.hid (by omega)
        have e4 : j + 1 ≤ 63 := by omega
        clear e e2 e3
        go_wp2
        go_round
        case rel => exact ⟨m / 2, j + 1, rfl, rfl, by omega, by omega, by omega, by omega, H⟩
        case measure => simp [intOf]; omega
      · have H : Hid (lgI n = j) := Lib.hid (by have := HB.out; rw [show m = 1 by omega, show lgI 1 = 0 by decide] at this; omega)
        go_wp2
        go_ret
        exact ⟨ret_i H.out, rfl⟩

theorem ref_Up (n : Int) (w : World) (h : I64 n) :
    Calls Try.prog 47 #[.int .i64 n] w fun e w' => e = .returned (.int .i64 (upI n)) ∧ w = w' := by
  obtain ⟨h0, h1⟩ := h
  go_enter Try.func47, Try.ntmps47
  go_wp2
  go_loop [3, 4] (fun v k => ∃ (x : Int) (j : Nat), v = .int .i64 x ∧ k = .int .i64 j ∧ 1 ≤ x ∧ x ≤ 4611686018427387904 ∧ j ≤ 63 ∧ Hid (x = 2 ^ min j 62 ∧ ∀ i, i < j → (2 : Int) ^ i < n)) (fun _ k => 64 - (intOf k).toNat)
  case atStart => exact ⟨1, 0, rfl, rfl, by omega, by omega, by omega, Lib.hid ⟨rfl, fun i hi => by omega⟩⟩
  case round =>
    obtain ⟨x, j, rfl, rfl, x0, x1, j1, HB⟩ := hrel
    by_cases c : j ≤ 62
    · by_cases d : n ≤ x
      · have H : Hid (upI n = x) := Lib.hid (by
          obtain ⟨e, hlt⟩ := HB.out
          rw [show min j 62 = j by omega] at e
          rw [e] at d ⊢
          exact up_first c d hlt)
        go_wp2
        go_ret
        exact ⟨ret_i H.out, rfl⟩
      · have e := HB.out
        have H2 : ∀ i, i < j + 1 → (2 : Int) ^ i < n := fun i hi => by
          rcases Nat.lt_or_ge i j with h | h
          · exact e.2 i h
          · obtain rfl : i = j := by omega
            have := e.1; rw [show min i 62 = i by omega] at this; omega
        by_cases f : j < 62
        · have hx : 2 * x ≤ 4611686018427387904 := by
            have e1 := e.1
            rw [show min j 62 = j by omega] at e1
            have := pow_mono (show j + 1 ≤ 62 by omega)
            rw [pow_succ', p62, ← e1] at this
            exact this
          have H : Hid (2 * x = 2 ^ min (j + 1) 62 ∧ ∀ i, i < j + 1 → (2 : Int) ^ i < n) := Lib.hid ⟨by
            have e1 := e.1
            rw [show min j 62 = j by omega] at e1
            rw [show min (j + 1) 62 = j + 1 by omega, pow_succ', e1], H2⟩
          clear e H2
          go_wp2
          go_round
          case rel => exact ⟨2 * x, j + 1, rfl, by go_num, by omega, by omega, by omega, H⟩
          case measure => simp [intOf]; omega
        · have H : Hid (x = 2 ^ min (j + 1) 62 ∧ ∀ i, i < j + 1 → (2 : Int) ^ i < n) := Lib.hid ⟨by
            have e1 := e.1
            rw [show min j 62 = 62 by omega] at e1
            rw [show min (j + 1) 62 = 62 by omega, e1], H2⟩
          clear e H2
          go_wp2
          go_round
          case rel => exact ⟨x, j + 1, rfl, by go_num, by omega, by omega, by omega, H⟩
          case measure => simp [intOf]; omega
    · have H : Hid (upI n = 0) := Lib.hid (up_none (by have := HB.out.2 62 (by omega); rw [p62] at this; exact this))
      go_wp2
      go_ret
      exact ⟨ret_i H.out, rfl⟩

theorem ref_Div (n b : Int) (w : World) (h : I64 n) (hb : I64 b) :
    Calls Try.prog 49 #[.int .i64 n, .int .i64 b] w fun e w' => e = .returned (.int .i64 (divI n b)) ∧ w = w' := by
  obtain ⟨h0, h1⟩ := h
  obtain ⟨h2, h3⟩ := hb
  by_cases c : n < 1
  · have H := Lib.hid (show divI n b = 0 by simp [divI, c])
    go_enter Try.func49, Try.ntmps49
    go_wp2
    go_ret
    exact ⟨ret_i H.out, rfl⟩
  · by_cases d : b < 1
    · have H := Lib.hid (show divI n b = 0 by simp [divI, d])
      go_enter Try.func49, Try.ntmps49
      go_wp2
      go_ret
      exact ⟨ret_i H.out, rfl⟩
    · have hs := (div_spec (n := n) (b := b) (by omega) (by omega)).2.2
      have e := divI_eq (n := n) (b := b) (by omega) (by omega)
      have d0 : 0 ≤ n / b := Int.ediv_nonneg (by omega) (by omega)
      have m0 := Int.emod_nonneg n (show b ≠ 0 by omega)
      have m1 := Int.emod_lt_of_pos n (show 0 < b by omega)
      by_cases f : 0 < n % b
      · rw [if_pos f] at e
        rw [e] at hs
        have H := Lib.hid e
        clear e
        go_enter Try.func49, Try.ntmps49
        go_wp2
        go_ret
        exact ⟨ret_i H.out, rfl⟩
      · rw [if_neg f] at e
        rw [e] at hs
        have H := Lib.hid e
        clear e
        go_enter Try.func49, Try.ntmps49
        go_wp2
        go_ret
        exact ⟨ret_i H.out, rfl⟩

theorem ref_Order (n : Int) (w : World) (h : I64 n) :
    Calls Try.prog 50 #[.int .i64 n] w fun e w' => e = .returned (.int .i64 (ordI n)) ∧ w = w' := by
  obtain ⟨h0, h1⟩ := h
  by_cases c16 : n = 16
  · subst c16
    go_enter Try.func50, Try.ntmps50
    go_wp2; go_ret; exact ⟨rfl, rfl⟩
  by_cases c32 : n = 32
  · subst c32
    go_enter Try.func50, Try.ntmps50
    go_wp2; go_ret; exact ⟨rfl, rfl⟩
  by_cases c64 : n = 64
  · subst c64
    go_enter Try.func50, Try.ntmps50
    go_wp2; go_ret; exact ⟨rfl, rfl⟩
  by_cases c128 : n = 128
  · subst c128
    go_enter Try.func50, Try.ntmps50
    go_wp2; go_ret; exact ⟨rfl, rfl⟩
  have H := Lib.hid (show ordI n = -1 by simp [ordI, c16, c32, c64, c128])
  go_enter Try.func50, Try.ntmps50
  go_wp2; go_ret; exact ⟨ret_i H.out, rfl⟩

theorem ref_Size (n : Int) (w : World) (h : I64 n) :
    Calls Try.prog 36 #[.int .i64 n] w fun e w' => e = .returned (.bool (szB n)) ∧ w = w' := by
  have hh := h
  obtain ⟨h0, h1⟩ := h
  by_cases c : 16 ≤ n
  · have H := Lib.hid (show szB n = isB n by simp [szB, c])
    go_enter Try.func36, Try.ntmps36
    go_wp2_with fail
    refine (ref_Is _ _ hh).mono ?_
    rintro e w' ⟨rfl, rfl⟩
    go_wp2
    go_ret
    exact ⟨ret_b H.out, rfl⟩
  · have H := Lib.hid (show szB n = false by simp [szB, c])
    go_enter Try.func36, Try.ntmps36
    go_wp2
    go_ret
    exact ⟨ret_b H.out, rfl⟩
end Go.Proofs.Ytgpegcbhmobdhaa
