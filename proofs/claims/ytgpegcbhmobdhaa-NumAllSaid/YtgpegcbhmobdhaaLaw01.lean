/- The laws of layer 1, walked: each returns true, and nothing that was there is changed. -/
import Derived.Test.YtgpegcbhmobdhaaWNum2
namespace Go.Proofs.Ytgpegcbhmobdhaa
open Go.RowKit

theorem awake01 (w : World) : Calls Try.prog 24 #[] w fun e w' => e = .returned (.bool true) ∧ Bel w w' := by
  have u17 : Hid (upI 17 = 32) := Lib.hid (by decide)
  have l3 : Hid (lgI 3 = 1) := Lib.hid (by decide)
  have i3 : Hid ([3].all isB = false) := Lib.hid (by decide)
  have o64 : Hid (ordI 64 = 2) := Lib.hid (by decide)
  go_enter Try.func24, Try.ntmps24
  go_wp2_with fail
  refine (num_Up 17 _ ⟨by omega, by omega⟩).mono ?_; rintro e w' ⟨rfl, rfl⟩
  rw [u17.out]
  go_wp2_with fail
  refine (num_Log 3 _ ⟨by omega, by omega⟩).mono ?_; rintro e w' ⟨rfl, rfl⟩
  rw [l3.out]
  go_wp2_with fail
  refine (num_Is _ [3] _ _ _ rfl (by simp [maxLen]) (RdV.new _ _ _) (by simp [I64])).mono ?_; rintro e w' ⟨rfl, rfl⟩
  rw [i3.out]
  go_wp2_with fail
  refine (num_Order 64 _ ⟨by omega, by omega⟩).mono ?_; rintro e w' ⟨rfl, rfl⟩
  rw [o64.out]
  go_wp2
  go_ret
  exact ⟨rfl, (Below.refl _ _).alloc (Nat.le_refl _) _⟩

theorem numIs_walk (n b : Int) (w : World) (hn : I64 n) (hb : I64 b) :
    Calls Try.prog 13 #[.int .i64 n, .int .i64 b] w fun e w' => e = .returned (.bool true) ∧ Bel w w' := by
  have e1 : Hid ([n].all isB = isB n) := Lib.hid (by simp)
  go_enter Try.func13, Try.ntmps13
  go_wp2_with fail
  refine (num_Log _ _ hn).mono ?_; rintro e w' ⟨rfl, rfl⟩
  go_wp2_with fail
  refine (ref_Log _ _ hn).mono ?_; rintro e w' ⟨rfl, rfl⟩
  go_wp2_with fail
  refine (num_Up _ _ hn).mono ?_; rintro e w' ⟨rfl, rfl⟩
  go_wp2_with fail
  refine (ref_Up _ _ hn).mono ?_; rintro e w' ⟨rfl, rfl⟩
  go_wp2_with fail
  refine (num_Is _ [n] _ _ _ rfl (by simp [maxLen]) (RdV.new _ _ _) (by simpa using hn)).mono ?_; rintro e w' ⟨rfl, rfl⟩
  rw [e1.out]
  go_wp2_with fail
  refine (ref_Is _ _ hn).mono ?_; rintro e w' ⟨rfl, rfl⟩
  go_wp2_with fail
  refine (num_Div _ _ _ hn hb).mono ?_; rintro e w' ⟨rfl, rfl⟩
  go_wp2_with fail
  refine (ref_Div _ _ _ hn hb).mono ?_; rintro e w' ⟨rfl, rfl⟩
  go_wp2_with fail
  refine (num_Order _ _ hn).mono ?_; rintro e w' ⟨rfl, rfl⟩
  go_wp2_with fail
  refine (ref_Order _ _ hn).mono ?_; rintro e w' ⟨rfl, rfl⟩
  go_wp2_with fail
  refine (awake01 _).mono ?_; rintro e w' ⟨rfl, hB⟩
  go_wp2
  go_ret
  exact ⟨rfl, (Bel.alloc (Bel.refl _) _).trans hB⟩

theorem numUps_walk (n : Int) (w : World) (hn : I64 n) :
    Calls Try.prog 5 #[.int .i64 n] w fun e w' => e = .returned (.bool true) ∧ Bel w w' := by
  have hh := hn
  obtain ⟨h0, h1⟩ := hn
  by_cases c : n < 1
  · go_enter Try.func5, Try.ntmps5
    go_wp2_with fail
    refine (awake01 _).mono ?_; rintro e w' ⟨rfl, hB⟩
    go_wp2
    go_ret
    exact ⟨rfl, hB⟩
  by_cases d : 2305843009213693952 < n
  · go_enter Try.func5, Try.ntmps5
    go_wp2_with fail
    refine (awake01 _).mono ?_; rintro e w' ⟨rfl, hB⟩
    go_wp2
    go_ret
    exact ⟨rfl, hB⟩
  have hu : n ≤ upI n ∧ upI n < 2 * n ∧ ∃ k, k ≤ 62 ∧ upI n = 2 ^ k := by
    rcases Int.lt_or_le n 2 with h | h
    · obtain rfl : n = 1 := by omega
      exact ⟨by decide, by decide, 0, by omega, by decide⟩
    · exact up_spec h (by omega)
  obtain ⟨u0, u1, k, hk, hu⟩ := hu
  have e1 : Hid ([upI n].all isB = true) := Lib.hid (by rw [hu]; simp [isB_pow (show k < 63 by omega)])
  have e2 : Hid (upI (upI n) = upI n) := Lib.hid (by rw [hu]; exact up_pow hk)
  have e3 : lgI n ≤ lgI (upI n) := lg_mono (by omega) u0 (by omega)
  have e4 : I64 (upI n) := ⟨by omega, by omega⟩
  have e5 : ((upI n) == upI n) = true := by simp
  clear hu
  go_enter Try.func5, Try.ntmps5
  go_wp2_with fail
  refine (num_Up _ _ hh).mono ?_; rintro e w' ⟨rfl, rfl⟩
  go_wp2_with fail
  refine (num_Is _ [upI n] _ _ _ rfl (by simp [maxLen]) (RdV.new _ _ _) (by simpa using e4)).mono ?_; rintro e w' ⟨rfl, rfl⟩
  rw [e1.out]
  go_wp2_with fail
  refine (num_Up _ _ e4).mono ?_; rintro e w' ⟨rfl, rfl⟩
  rw [e2.out]
  go_wp2_with fail
  refine (num_Log _ _ e4).mono ?_; rintro e w' ⟨rfl, rfl⟩
  go_wp2_with fail
  refine (num_Log _ _ hh).mono ?_; rintro e w' ⟨rfl, rfl⟩
  go_wp2_with fail
  refine (awake01 _).mono ?_; rintro e w' ⟨rfl, hB⟩
  go_wp2
  go_ret
  exact ⟨rfl, (Bel.alloc (Bel.refl _) _).trans hB⟩

theorem numDivs_walk (n b : Int) (w : World) (hn : I64 n) (hb : I64 b) :
    Calls Try.prog 14 #[.int .i64 n, .int .i64 b] w fun e w' => e = .returned (.bool true) ∧ Bel w w' := by
  have hh := hn
  have hbb := hb
  obtain ⟨h0, h1⟩ := hn
  obtain ⟨h2, h3⟩ := hb
  have d0 : Hid (divI 0 b = 0) := Lib.hid (by simp [divI])
  have d1 : Hid (divI n 0 = 0) := Lib.hid (by simp [divI])
  by_cases c : n < 1 ∨ b < 1 ∨ 1099511627776 < n ∨ 1048576 < b
  · have c1 : n < 1 ∨ (¬ n < 1 ∧ b < 1) ∨ (¬ n < 1 ∧ ¬ b < 1 ∧ 1099511627776 < n) ∨ (¬ n < 1 ∧ ¬ b < 1 ∧ ¬ 1099511627776 < n ∧ 1048576 < b) := by omega
    clear c
    rcases c1 with c | ⟨c1, c⟩ | ⟨c1, c2, c⟩ | ⟨c1, c2, c3, c⟩
    all_goals
      go_enter Try.func14, Try.ntmps14
      go_wp2_with fail
      refine (num_Div 0 b _ ⟨by omega, by omega⟩ hbb).mono ?_; rintro e w' ⟨rfl, rfl⟩
      rw [d0.out]
      go_wp2_with fail
      refine (num_Div n 0 _ hh ⟨by omega, by omega⟩).mono ?_; rintro e w' ⟨rfl, rfl⟩
      rw [d1.out]
      go_wp2_with fail
      refine (awake01 _).mono ?_; rintro e w' ⟨rfl, hB⟩
      go_wp2
      go_ret
      exact ⟨rfl, hB⟩
  · obtain ⟨s0, s1, s2, s3⟩ := div_spec (n := n) (b := b) (by omega) (by omega)
    have p0 : 0 ≤ divI n b * b := by omega
    have p1 : divI n b * b ≤ 1099512676352 := by omega
    have s4 : n ≤ divI n b * b := s0
    have c0 : ¬ n < 1 := by omega
    have c1 : ¬ b < 1 := by omega
    have c2 : ¬ 1099511627776 < n := by omega
    have c3 : ¬ 1048576 < b := by omega
    clear c s0
    obtain ⟨q, hq⟩ : ∃ q, divI n b * b = q := ⟨_, rfl⟩
    rw [hq] at s1 p0 p1 s4
    have hw : wrap64 (divI n b * b) = q := by rw [hq]; unfold wrap64; omega
    clear hq
    go_enter Try.func14, Try.ntmps14
    go_wp2_with fail
    refine (num_Div n b _ hh hbb).mono ?_; rintro e w' ⟨rfl, rfl⟩
    go_wp2_with fail
    refine (awake01 _).mono ?_; rintro e w' ⟨rfl, hB⟩
    go_wp2
    go_ret
    exact ⟨rfl, hB⟩

theorem numOrders_walk (n : Int) (w : World) (hn : I64 n) :
    Calls Try.prog 7 #[.int .i64 n] w fun e w' => e = .returned (.bool true) ∧ Bel w w' := by
  by_cases c16 : n = 16
  · subst c16
    have o : Hid (ordI 16 = 0) := Lib.hid (by decide)
    go_enter Try.func7, Try.ntmps7
    go_wp2_with fail
    refine (num_Order _ _ hn).mono ?_; rintro e w' ⟨rfl, rfl⟩
    rw [o.out]
    go_wp2_with fail
    refine (awake01 _).mono ?_; rintro e w' ⟨rfl, hB⟩
    go_wp2
    go_ret
    exact ⟨rfl, hB⟩
  by_cases c32 : n = 32
  · subst c32
    have o : Hid (ordI 32 = 1) := Lib.hid (by decide)
    go_enter Try.func7, Try.ntmps7
    go_wp2_with fail
    refine (num_Order _ _ hn).mono ?_; rintro e w' ⟨rfl, rfl⟩
    rw [o.out]
    go_wp2_with fail
    refine (awake01 _).mono ?_; rintro e w' ⟨rfl, hB⟩
    go_wp2
    go_ret
    exact ⟨rfl, hB⟩
  by_cases c64 : n = 64
  · subst c64
    have o : Hid (ordI 64 = 2) := Lib.hid (by decide)
    go_enter Try.func7, Try.ntmps7
    go_wp2_with fail
    refine (num_Order _ _ hn).mono ?_; rintro e w' ⟨rfl, rfl⟩
    rw [o.out]
    go_wp2_with fail
    refine (awake01 _).mono ?_; rintro e w' ⟨rfl, hB⟩
    go_wp2
    go_ret
    exact ⟨rfl, hB⟩
  by_cases c128 : n = 128
  · subst c128
    have o : Hid (ordI 128 = 3) := Lib.hid (by decide)
    go_enter Try.func7, Try.ntmps7
    go_wp2_with fail
    refine (num_Order _ _ hn).mono ?_; rintro e w' ⟨rfl, rfl⟩
    rw [o.out]
    go_wp2_with fail
    refine (awake01 _).mono ?_; rintro e w' ⟨rfl, hB⟩
    go_wp2
    go_ret
    exact ⟨rfl, hB⟩
  have o : Hid (ordI n = -1) := Lib.hid (by simp [ordI, c16, c32, c64, c128])
  go_enter Try.func7, Try.ntmps7
  go_wp2_with fail
  refine (num_Order _ _ hn).mono ?_; rintro e w' ⟨rfl, rfl⟩
  rw [o.out]
  go_wp2_with fail
  refine (awake01 _).mono ?_; rintro e w' ⟨rfl, hB⟩
  go_wp2
  go_ret
  exact ⟨ret_b (by simp [c16, c32, c64, c128]), hB⟩

theorem all_take_succ {α : Type} (p : α → Bool) (xs : List α) (m : Nat) (h : m < xs.length) : (xs.take (m + 1)).all p = ((xs.take m).all p && p xs[m]) := by
  have e : xs.take (m + 1) = xs.take m ++ [xs[m]] := List.take_succ_eq_append_getElem h
  rw [e, List.all_append]
  simp only [List.all_cons, List.all_nil, Bool.and_true]

theorem numAll_walk (a : Option Addr) (xs : List Int) (n c : Nat) (w : World) (hn : n = xs.length) (hl : xs.length ≤ maxLen) (hrd : RdV w a (xs.map (.int .i64))) (hx : ∀ x ∈ xs, I64 x) :
    Calls Try.prog 6 #[.slice a n c] w fun e w' => e = .returned (.bool true) ∧ Bel w w' := by
  subst hn
  have hl2 : xs.length ≤ 9223372036854775807 := by unfold maxLen at hl; omega
  by_cases c50 : 50 < xs.length
  · go_enter Try.func6, Try.ntmps6
    go_wp2_with fail
    refine (awake01 _).mono ?_; rintro e w' ⟨rfl, hB⟩
    go_wp2
    go_ret
    exact ⟨rfl, hB⟩
  · go_enter Try.func6, Try.ntmps6
    go_wp2_with fail
    go_loop [3, 4] (fun v k => ∃ m : Nat, m ≤ xs.length ∧ k = .int .i64 m ∧ v = .bool ((xs.take m).all isB)) (fun _ k => xs.length - (intOf k).toNat)
    case atStart => exact ⟨0, Nat.zero_le _, rfl, rfl⟩
    case round =>
      obtain ⟨m, hm, rfl, rfl⟩ := hrel
      by_cases hlt : m < xs.length
      · obtain ⟨b, o, rfl, hcell⟩ := hrd.at m hlt
        have H := all_take_succ isB xs m hlt
        have hxm := hx xs[m] (List.getElem_mem hlt)
        have HR := Lib.hid hrd
        clear hrd
        cases hall : (xs.take m).all isB
        · have H2 : Hid ((xs.take (m + 1)).all isB = false) := Lib.hid (by rw [H, hall]; rfl)
          clear H hall
          go_wp2
          go_round
          case rel => exact ⟨m + 1, by omega, by go_num, by rw [H2.out]⟩
          case measure => simp [intOf]; omega
        · have H2 : Hid ((xs.take (m + 1)).all isB = isB xs[m]) := Lib.hid (by rw [H, hall]; simp)
          clear H hall
          go_wp2_with fail
          refine (ref_Is _ _ hxm).mono ?_; rintro e w' ⟨rfl, rfl⟩
          go_wp2
          go_round
          case rel => exact ⟨m + 1, by omega, by go_num, by rw [H2.out]⟩
          case measure => simp [intOf]; omega
      · have H2 : Hid ((xs.take m).all isB = xs.all isB) := Lib.hid (by rw [List.take_of_length_le (by omega)])
        go_wp2_with fail
        refine (num_Is a xs _ c _ rfl hl hrd hx).mono ?_; rintro e w' ⟨rfl, rfl⟩
        rw [H2.out]
        go_wp2_with fail
        refine (awake01 _).mono ?_; rintro e w' ⟨rfl, hB⟩
        go_wp2
        go_ret
        exact ⟨rfl, hB⟩
end Go.Proofs.Ytgpegcbhmobdhaa
