/- The slow twin of layer 5: Same. -/
import Derived.Test.YthkbhikiljlgoaaRun
import Derived.Deep.QuietTactic
import Derived.BigQuiet
namespace Go.Proofs.Ythkbhikiljlgoaa
open Go.RowKit

set_option maxHeartbeats 1000000 in
set_option maxRecDepth 20000 in
theorem ref5_Same (a b : Option Addr) (xs ys : List Rn) (n c m d : Nat) (w : World) (hn : n = xs.length) (hm : m = ys.length) (hl : xs.length ≤ 65536) (hl' : ys.length ≤ 65536) (ha : RunsIn w a xs) (hb : RunsIn w b ys) :
    Calls Try.prog 13 #[.slice a n c, .slice b m d] w fun e w' => e = .returned (.bool (decide (xs = ys))) ∧ Bel w w' := by
  subst hn hm
  by_cases hne : xs.length = ys.length
  · have HA := Lib.hid ha
    have HB := Lib.hid hb
    have HNE := Lib.hid hne
    have e0 : ((xs.length : Int) != (ys.length : Int)) = false := by simp [hne]
    clear ha hb
    rw [← hne]
    rw [← hne] at e0 hl'
    clear hne
    go_enter Try.func13, Try.ntmps13
    go_wp2_with fail
    go_loopw [13] (fun k wr => ∃ i : Nat, i ≤ xs.length ∧ k = .int .i64 i ∧ xs.take i = ys.take i ∧ Bel w wr) (fun k wr => xs.length - (intOf k).toNat)
    case atStart => exact ⟨0, Nat.zero_le _, rfl, by simp, Bel.refl _⟩
    case round =>
      obtain ⟨i, hi, rfl, hpre, hB⟩ := hrel
      have HPRE := Lib.hid hpre
      clear hpre
      by_cases hlt : i < xs.length
      · have hlty : i < ys.length := by rw [← HNE.out]; exact hlt
        obtain ⟨b1, o1, rfl, p0, p1⟩ := (HA.out.bel hB).at i hlt
        obtain ⟨b2, o2, rfl, q0, q1⟩ := (HB.out.bel hB).at i hlty
        have hsx : xs.take (i + 1) = xs.take i ++ [xs[i]] := List.take_succ_eq_append_getElem hlt
        have hsy : ys.take (i + 1) = ys.take i ++ [ys[i]] := List.take_succ_eq_append_getElem hlty
        obtain ⟨x, hx⟩ : ∃ x, xs[i] = x := ⟨_, rfl⟩
        obtain ⟨y, hy⟩ : ∃ y, ys[i] = y := ⟨_, rfl⟩
        rw [hx] at p0 p1 hsx
        rw [hy] at q0 q1 hsy
        have hx' : xs[i]? = some x := by rw [List.getElem?_eq_getElem hlt, hx]
        have hy' : ys[i]? = some y := by rw [List.getElem?_eq_getElem hlty, hy]
        have HXY := Lib.hid (And.intro hx' hy')
        have HS := Lib.hid (And.intro hsx hsy)
        have HBB := Lib.hid hB
        obtain ⟨x1, x2⟩ := x
        obtain ⟨y1, y2⟩ := y
        dsimp only at p0 p1 q0 q1
        clear hx hy hx' hy' hsx hsy hB hlty
        have hcs : (x1 = y1 ∧ x2 = y2) ∨ (x1 ≠ y1 ∨ (x1 = y1 ∧ x2 ≠ y2)) := by omega
        rcases hcs with ⟨rfl, rfl⟩ | hcs
        · have e1 : (x1 != x1) = false := by simp
          have e2 : (x2 != x2) = false := by simp
          go_wp2_with fail
          go_region
          go_wp2
          go_roundw
          case rel => exact ⟨i + 1, by omega, by go_num, by rw [HS.out.1, HS.out.2, HPRE.out], HBB.out.drew⟩
          case measure => simp [intOf]; omega
        · have HNO : Hid (decide (xs = ys) = false) := Lib.hid (by
            rw [decide_eq_false_iff_not]
            intro h
            have h1 : xs[i]? = ys[i]? := by rw [h]
            rw [HXY.out.1, HXY.out.2] at h1
            have h2 := Option.some.inj h1
            have h3 := congrArg Prod.fst h2
            have h4 := congrArg Prod.snd h2
            dsimp only at h3 h4
            rcases hcs with h9 | ⟨_, h9⟩
            · exact h9 h3
            · exact h9 h4)
          rcases hcs with h9 | ⟨rfl, h9⟩
          · have e1 : (x1 == y1) = false := by simp [h9]
            go_wp2_with fail
            go_region
            go_wp2
            go_ret
            exact ⟨by rw [HNO.out]; rfl, HBB.out.drew⟩
          · have e1 : (x1 == x1) = true := by simp
            have e2 : (x2 == y2) = false := by simp [h9]
            go_wp2_with fail
            go_region
            go_wp2
            go_ret
            exact ⟨by rw [HNO.out]; rfl, HBB.out.drew⟩
      · obtain rfl : i = xs.length := by omega
        have HE : Hid (decide (xs = ys) = true) := Lib.hid (by
          rw [decide_eq_true_eq]
          have := HPRE.out
          rw [List.take_length, HNE.out, List.take_length] at this
          exact this)
        go_wp2
        go_ret
        exact ⟨by rw [HE.out]; rfl, hB⟩
  · have e0 : ((xs.length : Int) != (ys.length : Int)) = true := by rw [bne_iff_ne]; omega
    have HNO : Hid (decide (xs = ys) = false) := Lib.hid (by rw [decide_eq_false_iff_not]; intro h; exact hne (by rw [h]))
    go_enter Try.func13, Try.ntmps13
    go_wp2
    go_ret
    exact ⟨by rw [HNO.out]; rfl, Bel.refl _⟩
end Go.Proofs.Ythkbhikiljlgoaa
