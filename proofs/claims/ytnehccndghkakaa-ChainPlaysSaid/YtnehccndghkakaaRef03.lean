/- Rows of numbers: the reference's In and Ints, the library's Contains and Index. -/
import Derived.Test.YtnehccndghkakaaFrame
import Derived.Deep.QuietTactic
import Derived.BigQuiet
namespace Go.Proofs.Ytnehccndghkakaa
open Go.RowKit

theorem ref_Ints (a b : Option Addr) (xs ys : List Int) (n c m d : Nat) (w : World) (hn : n = xs.length) (hm : m = ys.length) (hl : xs.length ≤ maxLen) (hl' : ys.length ≤ maxLen)
    (ha : RdV w a (xs.map (.int .i64))) (hb : RdV w b (ys.map (.int .i64))) :
    Calls Try.prog 16 #[.slice a n c, .slice b m d] w fun e w' => e = .returned (.bool (decide (xs = ys))) ∧ Bel w w' := by
  subst hn hm
  unfold maxLen at hl hl'
  by_cases hlen : xs.length = ys.length
  · have e1 : (((xs.length : Int)) != (ys.length : Int)) = false := by rw [bne_eq_false_iff_eq]; omega
    have hlen2 : xs.length ≤ ys.length := by omega
    have HL := Lib.hid hlen
    clear hlen
    go_enter Try.func16, Try.ntmps16
    go_wp2_with fail
    go_loopw [13] (fun k W => ∃ i : Nat, i ≤ xs.length ∧ k = .int .i64 i ∧ Bel w W ∧ Hid (xs.take i = ys.take i)) (fun k _ => xs.length - (intOf k).toNat)
    case atStart => exact ⟨0, Nat.zero_le _, rfl, Bel.refl _, Lib.hid rfl⟩
    case round =>
      obtain ⟨i, hi, rfl, hB, HT⟩ := hrel
      by_cases hlt : i < xs.length
      · obtain ⟨b1, o1, rfl, hc1⟩ := (ha.bel hB).at i hlt
        obtain ⟨b2, o2, rfl, hc2⟩ := (hb.bel hB).at i (by omega)
        have HA := Lib.hid ha
        have HB := Lib.hid hb
        clear ha hb
        have hlt2 : i < ys.length := by omega
        have i0 : (0 : Int) ≤ i := by omega
        have i1 : (i : Int) < xs.length := by omega
        have i2 : (i : Int) < ys.length := by omega
        by_cases heq : xs[i] = ys[i]
        · have H2 : Hid (xs.take (i + 1) = ys.take (i + 1)) := Lib.hid (by
            rw [List.take_succ_eq_append_getElem hlt, List.take_succ_eq_append_getElem hlt2, HT.out, heq])
          have hq : (xs[i] != ys[i]) = false := by rw [bne_eq_false_iff_eq]; exact heq
          have HE := Lib.hid heq
          clear heq
          go_wp2_with fail
          go_quiet (fail)
          go_wp2
          go_roundw
          case rel => exact ⟨i + 1, by omega, by go_num, hB.drewN _, H2⟩
          case measure => simp [intOf]; omega
        · have hq : (xs[i] != ys[i]) = true := by rw [bne_iff_ne]; exact heq
          have H2 : Hid (decide (xs = ys) = false) := Lib.hid (by
            rw [decide_eq_false_iff_not]; intro h; subst h; exact heq rfl)
          clear heq
          go_wp2_with fail
          go_quiet (fail)
          go_wp2
          go_ret
          exact ⟨ret_b H2.out, hB.drewN _⟩
      · have H2 : Hid (decide (xs = ys) = true) := Lib.hid (by
          have := HT.out
          rw [List.take_of_length_le (by omega), List.take_of_length_le (by have := HL.out; omega)] at this
          simp [this])
        go_wp2
        go_ret
        exact ⟨ret_b H2.out, hB⟩
  · have e1 : (((xs.length : Int)) != (ys.length : Int)) = true := by rw [bne_iff_ne]; omega
    have H2 : Hid (decide (xs = ys) = false) := Lib.hid (by rw [decide_eq_false_iff_not]; intro h; subst h; exact hlen rfl)
    clear hlen
    go_enter Try.func16, Try.ntmps16
    go_wp2
    go_ret
    exact ⟨ret_b H2.out, Bel.refl _⟩

theorem RdV.take {w : World} {a : Option Addr} {xs : List Int} (h : RdV w a (xs.map (.int .i64))) (i : Nat) : RdV w a ((xs.take i).map (.int .i64)) := by
  rcases h with h | ⟨b, o, e, h⟩
  · left; rw [List.map_eq_nil_iff] at h; subst h; simp
  · refine .inr ⟨b, o, e, fun j hj => ?_⟩
    have hj2 : j < xs.length := by simp at hj; omega
    rw [h j (by simpa using hj2)]
    simp
theorem mem_iff_any (xs : List Int) (n : Int) : decide (n ∈ xs) = xs.any (fun x => x == n) := by
  rw [Bool.eq_iff_iff]
  simp
theorem ref3_In (a : Option Addr) (xs : List Int) (x : Int) (n c : Nat) (w : World) (hn : n = xs.length) (hl : xs.length ≤ maxLen) (hrd : RdV w a (xs.map (.int .i64))) :
    Calls Try.prog 17 #[.slice a n c, .int .i64 x] w fun e w' => e = .returned (.bool (decide (x ∈ xs))) ∧ w = w' := by
  subst hn
  unfold maxLen at hl
  go_enter Try.func17, Try.ntmps17
  go_wp2
  go_loop [8] (fun k => ∃ m : Nat, m ≤ xs.length ∧ k = .int .i64 m ∧ Hid (∀ j (hj : j < m) (hj' : j < xs.length), xs[j] ≠ x)) (fun k => xs.length - (intOf k).toNat)
  case atStart => exact ⟨0, Nat.zero_le _, rfl, Lib.hid (fun j hj => by omega)⟩
  case round =>
    obtain ⟨m, hm, rfl, H0⟩ := hrel
    by_cases hlt : m < xs.length
    · obtain ⟨b, o, rfl, hc⟩ := hrd.at m hlt
      have HR := Lib.hid hrd
      clear hrd
      by_cases hx : xs[m] = x
      · have hq : (xs[m] == x) = true := by rw [beq_iff_eq]; exact hx
        have H2 : Hid (decide (x ∈ xs) = true) := Lib.hid (by rw [decide_eq_true_eq, ← hx]; exact List.getElem_mem _)
        clear hx
        go_wp2
        go_ret
        exact ⟨ret_b H2.out, rfl⟩
      · have hq : (xs[m] == x) = false := by rw [beq_eq_false_iff_ne]; exact hx
        have HX := Lib.hid hx
        clear hx
        go_wp2
        go_round
        case rel => exact ⟨m + 1, by omega, by go_num, Lib.hid (fun j hj hj' => by
          rcases Nat.lt_or_ge j m with h | h
          · exact H0.out j h hj'
          · obtain rfl : j = m := by omega
            exact HX.out)⟩
        case measure => simp [intOf]; omega
    · have H2 : Hid (decide (x ∈ xs) = false) := Lib.hid (by
        rw [decide_eq_false_iff_not]
        intro h
        obtain ⟨j, hj, e⟩ := List.getElem_of_mem h
        exact H0.out j (by omega) hj e)
      go_wp2
      go_ret
      exact ⟨ret_b H2.out, rfl⟩

theorem index_int (a : Option Addr) (xs : List Int) (x : Int) (n c : Nat) (w : World) (hn : n = xs.length) (hl : xs.length ≤ maxLen) (hrd : RdV w a (xs.map (.int .i64))) :
    Calls Try.prog 34 #[.slice a n c, .int .i64 x] w fun e w' => e = .returned (.int .i64 (idxF (fun y => x == y) xs)) ∧ w = w' := by
  subst hn
  unfold maxLen at hl
  go_enter Try.func34, Try.ntmps34
  go_wp2
  go_loop [8] (fun k => ∃ m : Nat, m ≤ xs.length ∧ k = .int .i64 m ∧ Hid (∀ j (hj : j < m) (hj' : j < xs.length), (x == xs[j]) = false)) (fun k => xs.length - (intOf k).toNat)
  case atStart => exact ⟨0, Nat.zero_le _, rfl, Lib.hid (fun j hj => by omega)⟩
  case round =>
    obtain ⟨m, hm, rfl, H0⟩ := hrel
    by_cases hlt : m < xs.length
    · obtain ⟨b, o, rfl, hc⟩ := hrd.at m hlt
      have HR := Lib.hid hrd
      clear hrd
      cases hq : x == xs[m]
      · have HX := Lib.hid hq
        go_wp2
        go_round
        case rel => exact ⟨m + 1, by omega, by go_num, Lib.hid (fun j hj hj' => by
          rcases Nat.lt_or_ge j m with h | h
          · exact H0.out j h hj'
          · obtain rfl : j = m := by omega
            exact HX.out)⟩
        case measure => simp [intOf]; omega
      · have H2 : Hid (idxF (fun y => x == y) xs = m) := Lib.hid (idxF_at _ xs m hlt (fun j hj => H0.out j hj (by omega)) hq)
        go_wp2
        go_ret
        exact ⟨ret_i H2.out, rfl⟩
    · have H2 : Hid (idxF (fun y => x == y) xs = -1) := Lib.hid (idxF_none _ xs (fun j hj => H0.out j (by omega) hj))
      go_wp2
      go_ret
      exact ⟨ret_i H2.out, rfl⟩

theorem contains_int (a : Option Addr) (xs : List Int) (x : Int) (n c : Nat) (w : World) (hn : n = xs.length) (hl : xs.length ≤ maxLen) (hrd : RdV w a (xs.map (.int .i64))) :
    Calls Try.prog 33 #[.slice a n c, .int .i64 x] w fun e w' => e = .returned (.bool (decide (x ∈ xs))) ∧ w = w' := by
  subst hn
  have H : Hid (decide (x ∈ xs) = decide (0 ≤ idxF (fun y => x == y) xs)) := Lib.hid (by
    have := idxF_ge (fun y => x == y) xs
    rw [Bool.eq_iff_iff, decide_eq_true_eq, decide_eq_true_eq]
    simp only [ge_iff_le, List.any_eq_true, beq_iff_eq, eq_iff_iff] at this
    rw [this]
    exact ⟨fun h => ⟨x, h, rfl⟩, fun ⟨y, h, e⟩ => e ▸ h⟩)
  go_enter Try.func33, Try.ntmps33
  go_wp2_with fail
  refine (index_int a xs x _ c w rfl hl hrd).mono ?_
  rintro e W' ⟨rfl, rfl⟩
  go_wp2
  go_ret
  exact ⟨ret_b H.out, rfl⟩
end Go.Proofs.Ytnehccndghkakaa
