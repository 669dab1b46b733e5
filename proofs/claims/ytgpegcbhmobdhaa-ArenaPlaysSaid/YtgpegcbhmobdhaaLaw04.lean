/- The laws of layer 4, walked (all but ArenaPlays): each returns true, and nothing that was there is changed. -/
import Derived.Test.YtgpegcbhmobdhaaWArena2
import Derived.Test.YtgpegcbhmobdhaaWBase
import Derived.Test.YtgpegcbhmobdhaaRef04
namespace Go.Proofs.Ytgpegcbhmobdhaa
open Go.RowKit

set_option maxRecDepth 20000 in
theorem awake04 (w : World) : Calls Try.prog 20 #[] w fun e w' => e = .returned (.bool true) ∧ Bel w w' := by
  have i1 : Hid (inB 256 255 1 = true) := Lib.hid (by decide)
  have i2 : Hid (inB 256 255 2 = false) := Lib.hid (by decide)
  have i3 : Hid (pageI 64 = 1) := Lib.hid (by decide)
  have i4 : Hid (((List.replicate (64 * 4) (0 : Int)).length : Int) = 256) := Lib.hid (by simp)
  go_enter Try.func20, Try.ntmps20
  go_wp2_with fail
  refine (arena_New_ok 4 _ (by omega) (by omega)).mono ?_
  rintro e w1 ⟨ba, rfl, hlt, hA, hB⟩
  have hP : ArenaP w1 (.pointer (some ⟨ba, 0, none⟩)) _ := .inr ⟨ba, _, rfl, hA⟩
  go_wp2_with fail
  refine (arena_Words _ _ _ hP).mono ?_; rintro e w2 ⟨rfl, rfl⟩
  rw [i4.out]
  go_wp2_with fail
  refine (arena_In _ _ 255 1 _ hP ⟨by omega, by omega⟩ ⟨by omega, by omega⟩).mono ?_; rintro e w2 ⟨rfl, rfl⟩
  rw [i4.out, i1.out]
  go_wp2_with fail
  refine (arena_In _ _ 255 2 _ hP ⟨by omega, by omega⟩ ⟨by omega, by omega⟩).mono ?_; rintro e w2 ⟨rfl, rfl⟩
  rw [i4.out, i2.out]
  go_wp2_with fail
  refine (arena_Page 64 _ ⟨by omega, by omega⟩).mono ?_; rintro e w2 ⟨rfl, rfl⟩
  rw [i3.out]
  go_wp2
  go_ret
  exact ⟨rfl, hB⟩

theorem arenaPages_walk (at_ page : Int) (w : World) (ha : I64 at_) (hp : I64 page) :
    Calls Try.prog 3 #[.int .i64 at_, .int .i64 page] w fun e w' => e = .returned (.bool true) ∧ Bel w w' := by
  have hha := ha
  have hhp := hp
  obtain ⟨a0, a1⟩ := ha
  obtain ⟨p0, p1⟩ := hp
  by_cases c : at_ < 0
  · have H1 : Hid (pageI at_ = -1) := Lib.hid (by simp [pageI, c])
    by_cases d : page < 0 ∨ 1024 < page
    · have H2 : Hid (baseI page = -1) := Lib.hid (by simp [baseI, d])
      have d2 : page < 0 ∨ (¬ page < 0 ∧ 1024 < page) := by omega
      clear d
      rcases d2 with d | ⟨d1, d⟩
      all_goals
        go_enter Try.func3, Try.ntmps3
        go_wp2_with fail
        refine (arena_Page _ _ hha).mono ?_; rintro e w2 ⟨rfl, rfl⟩
        rw [H1.out]
        go_wp2_with fail
        refine (arena_Base _ _ hhp).mono ?_; rintro e w2 ⟨rfl, rfl⟩
        rw [H2.out]
        go_wp2_with fail
        refine (awake04 _).mono ?_; rintro e w2 ⟨rfl, hB⟩
        go_wp2
        go_ret
        exact ⟨rfl, hB⟩
    · have d1 : ¬ page < 0 := by omega
      have d2 : ¬ 1024 < page := by omega
      have H2 : Hid (baseI page = page * 64) := Lib.hid (by simp [baseI, d1, d2])
      have H3 : Hid (pageI (page * 64) = page) := Lib.hid (by unfold pageI; rw [if_neg (by omega)]; omega)
      have H4 : Hid (pageI (page * 64 + 63) = page) := Lib.hid (by unfold pageI; rw [if_neg (by omega)]; omega)
      have e1 : (page * 64 == -1) = false := by rw [beq_eq_false_iff_ne]; omega
      have e2 : (page * 64 != 64 * page) = false := by rw [bne_eq_false_iff_eq]; omega
      have e3 : (page != page) = false := by simp
      clear d
      go_enter Try.func3, Try.ntmps3
      go_wp2_with fail
      refine (arena_Page _ _ hha).mono ?_; rintro e w2 ⟨rfl, rfl⟩
      rw [H1.out]
      go_wp2_with fail
      refine (arena_Base _ _ hhp).mono ?_; rintro e w2 ⟨rfl, rfl⟩
      rw [H2.out]
      go_wp2_with fail
      refine (arena_Page _ _ ⟨by omega, by omega⟩).mono ?_; rintro e w2 ⟨rfl, rfl⟩
      rw [H3.out]
      go_wp2_with fail
      refine (arena_Page _ _ ⟨by omega, by omega⟩).mono ?_; rintro e w2 ⟨rfl, rfl⟩
      rw [H4.out]
      go_wp2_with fail
      refine (awake04 _).mono ?_; rintro e w2 ⟨rfl, hB⟩
      go_wp2
      go_ret
      exact ⟨rfl, hB⟩
  · have H1 : Hid (pageI at_ = at_ / 64) := Lib.hid (by simp [pageI, c])
    have q0 : 0 ≤ at_ / 64 := by omega
    have q1 : at_ / 64 ≤ 9223372036854775807 := by omega
    by_cases d : page < 0 ∨ 1024 < page
    · have H2 : Hid (baseI page = -1) := Lib.hid (by simp [baseI, d])
      have d2 : page < 0 ∨ (¬ page < 0 ∧ 1024 < page) := by omega
      clear d
      rcases d2 with d | ⟨d1, d⟩
      all_goals
        go_enter Try.func3, Try.ntmps3
        go_wp2_with fail
        refine (arena_Page _ _ hha).mono ?_; rintro e w2 ⟨rfl, rfl⟩
        rw [H1.out]
        go_wp2_with fail
        refine (arena_Base _ _ hhp).mono ?_; rintro e w2 ⟨rfl, rfl⟩
        rw [H2.out]
        go_wp2_with fail
        refine (awake04 _).mono ?_; rintro e w2 ⟨rfl, hB⟩
        go_wp2
        go_ret
        exact ⟨rfl, hB⟩
    · have d1 : ¬ page < 0 := by omega
      have d2 : ¬ 1024 < page := by omega
      have H2 : Hid (baseI page = page * 64) := Lib.hid (by simp [baseI, d1, d2])
      have H3 : Hid (pageI (page * 64) = page) := Lib.hid (by unfold pageI; rw [if_neg (by omega)]; omega)
      have H4 : Hid (pageI (page * 64 + 63) = page) := Lib.hid (by unfold pageI; rw [if_neg (by omega)]; omega)
      have e1 : (page * 64 == -1) = false := by rw [beq_eq_false_iff_ne]; omega
      have e2 : (page * 64 != 64 * page) = false := by rw [bne_eq_false_iff_eq]; omega
      have e3 : (page != page) = false := by simp
      clear d
      go_enter Try.func3, Try.ntmps3
      go_wp2_with fail
      refine (arena_Page _ _ hha).mono ?_; rintro e w2 ⟨rfl, rfl⟩
      rw [H1.out]
      go_wp2_with fail
      refine (arena_Base _ _ hhp).mono ?_; rintro e w2 ⟨rfl, rfl⟩
      rw [H2.out]
      go_wp2_with fail
      refine (arena_Page _ _ ⟨by omega, by omega⟩).mono ?_; rintro e w2 ⟨rfl, rfl⟩
      rw [H3.out]
      go_wp2_with fail
      refine (arena_Page _ _ ⟨by omega, by omega⟩).mono ?_; rintro e w2 ⟨rfl, rfl⟩
      rw [H4.out]
      go_wp2_with fail
      refine (awake04 _).mono ?_; rintro e w2 ⟨rfl, hB⟩
      go_wp2
      go_ret
      exact ⟨rfl, hB⟩

set_option maxRecDepth 20000 in
theorem arenaNew_walk (pages : Int) (w : World) (hp : I64 pages) :
    Calls Try.prog 4 #[.int .i64 pages] w fun e w' => e = .returned (.bool true) ∧ Bel w w' := by
  have hhp := hp
  obtain ⟨p0, p1⟩ := hp
  by_cases c : pages < 4 ∨ 1024 < pages
  · have c2 : pages < 4 ∨ (¬ pages < 4 ∧ 1024 < pages) := by omega
    have HC := Lib.hid c
    clear c
    rcases c2 with c | ⟨c1, c⟩
    all_goals
      go_enter Try.func4, Try.ntmps4
      go_wp2_with fail
      refine (arena_New_out pages _ hhp HC.out).mono ?_; rintro e w2 ⟨rfl, rfl⟩
      go_wp2_with fail
      refine (arena_Words _ [] _ (.inl ⟨rfl, rfl⟩)).mono ?_; rintro e w2 ⟨rfl, rfl⟩
      go_wp2_with fail
      refine (awake04 _).mono ?_; rintro e w2 ⟨rfl, hB⟩
      go_wp2
      go_ret
      exact ⟨rfl, hB⟩
  · have c1 : ¬ pages < 4 := by omega
    have c2 : ¬ 1024 < pages := by omega
    obtain ⟨n, rfl⟩ := Int.eq_ofNat_of_zero_le (show 0 ≤ pages by omega)
    have hlen : ((List.replicate (64 * n) (0 : Int)).length : Int) = 64 * (n : Int) := by simp
    have HL := Lib.hid hlen
    have hin : inB (64 * (n : Int)) 0 (64 * (n : Int)) = true := inB_iff.2 ⟨by omega, by omega, by omega, by omega⟩
    have HI := Lib.hid hin
    have hrow : rowW (List.replicate (64 * n) (0 : Int)) 0 (64 * (n : Int)) = List.replicate (64 * n) 0 := by
      unfold rowW
      rw [hlen, hin]
      simp
      omega
    have HR := Lib.hid hrow
    clear c hlen hin hrow
    go_enter Try.func4, Try.ntmps4
    go_wp2_with fail
    refine (arena_New_ok n _ (by omega) (by omega)).mono ?_
    rintro e w1 ⟨ba, rfl, hlt, hA, hB⟩
    have hP : ArenaP w1 (.pointer (some ⟨ba, 0, none⟩)) _ := .inr ⟨ba, _, rfl, hA⟩
    go_wp2_with fail
    refine (arena_Words _ _ _ hP).mono ?_; rintro e w2 ⟨rfl, rfl⟩
    rw [HL.out]
    go_wp2_with fail
    refine (arena_Row _ _ 0 (64 * (n : Int)) _ hP ⟨by omega, by omega⟩ ⟨by omega, by omega⟩).mono ?_
    rintro e w2 ⟨v, rfl, hN, hB2⟩
    rw [HL.out, HI.out, okE_true]
    rw [HR.out] at hN
    obtain ⟨a, cp, rfl, hrd, hcap⟩ := own_slice hN
    rw [List.length_replicate] at hN hcap ⊢
    have hrd2 : RdV w2 a ((List.replicate (64 * n) (0 : Int)).map (.int .u64)) := hrd
    have HN := Lib.hid hN
    have HRD := Lib.hid hrd2
    have e1 : ((64 * n : Nat) : Int) = 64 * (n : Int) := by omega
    have e2 : (((64 * n : Nat) : Int) != 64 * (n : Int)) = false := by rw [bne_eq_false_iff_eq]; omega
    clear hN hrd hrd2 e1 hcap
    go_wp2_with fail
    go_loop [7] (fun k => ∃ i : Nat, i ≤ 64 * n ∧ k = .int .i64 i) (fun k => 64 * n - (intOf k).toNat)
    case atStart => exact ⟨0, Nat.zero_le _, rfl⟩
    case round =>
      obtain ⟨i, hi, rfl⟩ := hrel
      by_cases hlt2 : i < 64 * n
      · obtain ⟨b, o, rfl, hc⟩ := HRD.out.at i (by simpa using hlt2)
        rw [List.getElem_replicate] at hc
        go_wp2
        go_round
        case rel => exact ⟨i + 1, by omega, by go_num⟩
        case measure => simp [intOf]; omega
      · go_wp2_with fail
        refine (awake04 _).mono ?_; rintro e w3 ⟨rfl, hB3⟩
        go_wp2
        go_ret
        exact ⟨rfl, (hB.trans hB2).trans hB3⟩

end Go.Proofs.Ytgpegcbhmobdhaa
