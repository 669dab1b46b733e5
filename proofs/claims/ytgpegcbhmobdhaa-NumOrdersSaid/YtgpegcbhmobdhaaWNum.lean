/- The functions of layer 1 come to what XPNum says; the world is as it was. -/
import Derived.Test.YtgpegcbhmobdhaaWBits
import Derived.Test.YtgpegcbhmobdhaaPNum
import Derived.Test.YtgpegcbhmobdhaaBase
import Derived.Lib.Hide
namespace Go.Proofs.Ytgpegcbhmobdhaa
open Go.RowKit

theorem num_Log (n : Int) (w : World) (h : I64 n) :
    Calls Try.prog 27 #[.int .i64 n] w fun e w' => e = .returned (.int .i64 (lgI n)) ∧ w = w' := by
  obtain ⟨h0, h1⟩ := h
  by_cases c : n < 1
  · have H := Lib.hid (show lgI n = -1 by simp [lgI, c])
    go_enter Try.func27, Try.ntmps27
    go_wp2
    go_ret
    exact ⟨ret_i H.out, rfl⟩
  · have hb := bl_bounds (n := n) (by omega) (by omega)
    have hb1 : 1 ≤ (bl n : Int) := by omega
    have hb2 : (bl n : Int) ≤ 64 := by omega
    clear hb
    have H := Lib.hid (show lgI n = (bl n : Int) - 1 by simp [lgI, c])
    go_enter Try.func27, Try.ntmps27
    go_wp2_with (go_at_call 58; refine (bits_Len _ _ (by omega) (by omega)).mono ?_; rintro e w' ⟨rfl, rfl⟩; rw [show Lib.bitLen n.toNat = bl n from rfl])
    go_ret
    exact ⟨ret_i H.out, rfl⟩

theorem num_Up (n : Int) (w : World) (h : I64 n) :
    Calls Try.prog 25 #[.int .i64 n] w fun e w' => e = .returned (.int .i64 (upI n)) ∧ w = w' := by
  obtain ⟨h0, h1⟩ := h
  by_cases c : n < 2
  · have H := Lib.hid (show upI n = 1 by simp [upI, c])
    go_enter Try.func25, Try.ntmps25
    go_wp2
    go_ret
    exact ⟨ret_i H.out, rfl⟩
  · by_cases d : 4611686018427387904 < n
    · have H := Lib.hid (show upI n = 0 by simp [upI, c, d])
      go_enter Try.func25, Try.ntmps25
      go_wp2
      go_ret
      exact ⟨ret_i H.out, rfl⟩
    · have hb := up_spec (n := n) (by omega) (by omega)
      have hbl := bl_bounds (n := n - 1) (by omega) (by omega)
      have hu : upI n = 2 ^ bl (n - 1) := by simp [upI, c, d]
      have H : Hid (upI n = wrap64 (2 ^ min (bl (n - 1)) 64)) := Lib.hid (by
        rw [show min (bl (n - 1)) 64 = bl (n - 1) by omega, ← hu]; unfold wrap64; omega)
      clear hb hbl hu
      go_enter Try.func25, Try.ntmps25
      go_wp2_with (go_at_call 58; refine (bits_Len _ _ (by omega) (by omega)).mono ?_; rintro e w' ⟨rfl, rfl⟩; rw [show Lib.bitLen (n - 1).toNat = bl (n - 1) from rfl])
      go_ret
      exact ⟨ret_i H.out, rfl⟩

theorem num_is (n : Int) (w : World) (h : I64 n) :
    Calls Try.prog 61 #[.int .i64 n] w fun e w' => e = .returned (.bool (isB n)) ∧ w = w' := by
  obtain ⟨h0, h1⟩ := h
  by_cases c : 0 < n
  · have e := Lib.hid (and_pred c (by omega))
    go_enter Try.func61, Try.ntmps61
    go_wp2
    go_ret
    exact ⟨ret_b e.out.symm, rfl⟩
  · have H := Lib.hid (show isB n = false by simp [isB, c])
    go_enter Try.func61, Try.ntmps61
    go_wp2
    go_ret
    exact ⟨ret_b H.out, rfl⟩

theorem num_Div (n b : Int) (w : World) (h : I64 n) (hb : I64 b) :
    Calls Try.prog 48 #[.int .i64 n, .int .i64 b] w fun e w' => e = .returned (.int .i64 (divI n b)) ∧ w = w' := by
  obtain ⟨h0, h1⟩ := h
  obtain ⟨h2, h3⟩ := hb
  by_cases c : n < 1
  · have H := Lib.hid (show divI n b = 0 by simp [divI, c])
    go_enter Try.func48, Try.ntmps48
    go_wp2
    go_ret
    exact ⟨ret_i H.out, rfl⟩
  · by_cases d : b < 1
    · have H := Lib.hid (show divI n b = 0 by simp [divI, d])
      go_enter Try.func48, Try.ntmps48
      go_wp2
      go_ret
      exact ⟨ret_i H.out, rfl⟩
    · have hs := (div_spec (n := n) (b := b) (by omega) (by omega)).2.2
      have hd : divI n b = 1 + (n - 1) / b := by simp [divI, c, d]
      rw [hd] at hs
      have d0 : 0 ≤ (n - 1) / b := Int.ediv_nonneg (by omega) (by omega)
      have H := Lib.hid hd
      clear hd
      go_enter Try.func48, Try.ntmps48
      go_wp2
      go_ret
      exact ⟨ret_i H.out, rfl⟩

theorem num_Order (n : Int) (w : World) (h : I64 n) :
    Calls Try.prog 29 #[.int .i64 n] w fun e w' => e = .returned (.int .i64 (ordI n)) ∧ w = w' := by
  have hh := h
  obtain ⟨h0, h1⟩ := h
  have he := ord_eq h0 (show n < 9223372036854775808 by omega)
  have hl0 : -1 ≤ lgI n := by
    unfold lgI; split
    · omega
    · have := bl_bounds (n := n) (by omega) (by omega); omega
  have hl1 : lgI n ≤ 63 := by
    unfold lgI; split
    · omega
    · have := bl_bounds (n := n) (by omega) (by omega); omega
  have h16 : lgI 16 = 4 := by decide
  by_cases b : isB n = true
  · by_cases c : 0 ≤ lgI n - 4 ∧ lgI n - 4 < 4
    · rw [if_pos ⟨b, c⟩] at he
      have H := Lib.hid he
      have B := Lib.hid b
      have L := Lib.hid h16
      obtain ⟨c0, c1⟩ := c
      clear he b h16
      go_enter Try.func29, Try.ntmps29
      go_wp2_with fail
      refine (num_Log _ _ ⟨by omega, by omega⟩).mono ?_; rintro e w' ⟨rfl, rfl⟩
      go_wp2_with fail
      refine (num_Log _ _ ⟨by omega, by omega⟩).mono ?_; rintro e w' ⟨rfl, rfl⟩
      rw [L.out]
      go_wp2_with fail
      refine (num_is _ _ ⟨by omega, by omega⟩).mono ?_; rintro e w' ⟨rfl, rfl⟩
      rw [B.out]
      go_wp2
      go_ret
      exact ⟨ret_i H.out, rfl⟩
    · rw [if_neg (fun h => c h.2)] at he
      have H := Lib.hid he
      have B := Lib.hid b
      have L := Lib.hid h16
      clear he b h16
      by_cases c0 : lgI n - 4 < 0
      all_goals
        go_enter Try.func29, Try.ntmps29
        go_wp2_with fail
        refine (num_Log _ _ ⟨by omega, by omega⟩).mono ?_; rintro e w' ⟨rfl, rfl⟩
        go_wp2_with fail
        refine (num_Log _ _ ⟨by omega, by omega⟩).mono ?_; rintro e w' ⟨rfl, rfl⟩
        rw [L.out]
        go_wp2_with fail
        refine (num_is _ _ ⟨by omega, by omega⟩).mono ?_; rintro e w' ⟨rfl, rfl⟩
        rw [B.out]
        go_wp2
        go_ret
        exact ⟨ret_i H.out, rfl⟩
  · rw [if_neg (fun h => b h.1)] at he
    have H := Lib.hid he
    have B := Lib.hid (show isB n = false by simpa using b)
    have L := Lib.hid h16
    clear he b h16
    go_enter Try.func29, Try.ntmps29
    go_wp2_with fail
    refine (num_Log _ _ ⟨by omega, by omega⟩).mono ?_; rintro e w' ⟨rfl, rfl⟩
    go_wp2_with fail
    refine (num_Log _ _ ⟨by omega, by omega⟩).mono ?_; rintro e w' ⟨rfl, rfl⟩
    rw [L.out]
    go_wp2_with fail
    refine (num_is _ _ ⟨by omega, by omega⟩).mono ?_; rintro e w' ⟨rfl, rfl⟩
    rw [B.out]
    go_wp2
    go_ret
    exact ⟨ret_i H.out, rfl⟩
end Go.Proofs.Ytgpegcbhmobdhaa
