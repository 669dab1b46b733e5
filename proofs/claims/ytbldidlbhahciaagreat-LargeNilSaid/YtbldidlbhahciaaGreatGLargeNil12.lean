/- The statement LargeNil: whatever comes in, the law returns true, and each argument reads as it did. No condition. Layer 10: a nil keeper has none. The reference of layer 10: Fits. Layer 10: awake. -/
import Derived.Test.YtbldidlbhahciaaGreatGLargeNil11
import Derived.Test.YtbldidlbhahciaaGreatGLargeNil9
import Derived.Test.YtbldidlbhahciaaGreatGLargeNil0
set_option linter.unusedVariables false
set_option linter.unusedSimpArgs false
namespace Go.Proofs.YtbldidlbhahciaaGreat
open Go.RowKit

/-! ### the example's states -/
theorem free_is {h : Hp} {L : List Rn} (hL : Canon 1024 L) (hp : ∀ p : Int, inL L p = true ↔ h.freeP p = true) : h.free = L := by
  refine canon_unique (q := 1024) _ _ (listP_canon _) hL (fun p => ?_)
  rw [hp]
  unfold Hp.free
  rw [inL_listP]
  constructor
  · exact fun h => h.2.2
  · intro h9
    have hh := (hp p).2 h9
    obtain ⟨r, hr, hi⟩ := List.any_eq_true.1 hh
    have h1 := hL.ok r hr
    have h2 := inR_iff.1 hi
    exact ⟨by omega, by omega, h9⟩
def S1 : List Sp := [(1, (0, 4), -1)]
def S2 : List Sp := [(1, (0, 4), -1), (2, (4, 4), -1)]
def S3 : List Sp := [(1, (0, 4), -1), (2, (4, 4), -1), (3, (8, 4), -1)]
theorem ex0 : (hpNew 12).free = [(0, 12)] := by
  refine free_is ⟨by intro r hr; simp at hr; subst hr; decide, by simp⟩ (fun p => ?_)
  unfold Hp.freeP hpNew
  simp [inL, inR]
theorem ex1 : (Hp.mk 12 S1 1).free = [(4, 8)] := by
  refine free_is ⟨by intro r hr; simp at hr; subst hr; decide, by simp⟩ (fun p => ?_)
  unfold Hp.freeP S1
  simp [inL, inR]
  omega
theorem ex2 : (Hp.mk 12 S2 2).free = [(8, 4)] := by
  refine free_is ⟨by intro r hr; simp at hr; subst hr; decide, by simp⟩ (fun p => ?_)
  unfold Hp.freeP S2
  simp [inL, inR]
  omega
theorem make_of {h : Hp} {F : List Rn} {n ord t m : Int} (hf : h.free = F) (hb : bestF F n = (t, m)) (hm : ¬ m ≤ 0) (hc : ¬ (n < 1 ∨ ord < -1 ∨ 4 ≤ ord)) : h.make n ord = (⟨h.P, h.S ++ [((h.last : Int) + 1, (t, n), ord)], h.last + 1⟩, ((h.last : Int) + 1, (t, n), ord), 0) := by
  unfold Hp.make
  rw [if_neg hc, hf, hb, if_neg hm]
theorem ex_take1 : (ksNew (hpNew 12)).take 4 = (⟨⟨12, S1, 1⟩, [], [], false⟩, (1, (0, 4), -1), 0) := by
  rw [take_make (by decide +kernel) rfl]
  show (_, ((hpNew 12).make 4 (-1)).2) = _
  rw [show (ksNew (hpNew 12)).h = hpNew 12 from rfl, make_of ex0 (t := 0) (m := 12) (by decide) (by decide) (by decide)]
  rfl
theorem ex_take2 : (KS.mk ⟨12, S1, 1⟩ [] [] false).take 4 = (⟨⟨12, S2, 2⟩, [], [], false⟩, (2, (4, 4), -1), 0) := by
  rw [take_make (by decide +kernel) rfl]
  show (KS.mk ((Hp.mk 12 S1 1).make 4 (-1)).1 _ _ _, ((Hp.mk 12 S1 1).make 4 (-1)).2) = _
  rw [make_of ex1 (t := 4) (m := 8) (by decide) (by decide) (by decide)]
  rfl
theorem ex_take3 : (KS.mk ⟨12, S2, 2⟩ [] [] false).take 4 = (⟨⟨12, S3, 3⟩, [], [], false⟩, (3, (8, 4), -1), 0) := by
  rw [take_make (by decide +kernel) rfl]
  show (KS.mk ((Hp.mk 12 S2 2).make 4 (-1)).1 _ _ _, ((Hp.mk 12 S2 2).make 4 (-1)).2) = _
  rw [make_of ex2 (t := 8) (m := 4) (by decide) (by decide) (by decide)]
  rfl
theorem ex_give : (KS.mk ⟨12, S3, 3⟩ [] [] false).give [1, 2, 3] = (⟨⟨12, S2, 3⟩, S2, [], false⟩, 0) := by
  have h1 : LargeIds (Hp.mk 12 S3 3) [1, 2, 3] := by decide +kernel
  have h2 : ¬ ([1, 2, 3].any (KS.mk ⟨12, S3, 3⟩ [] [] false).has = true) := by decide
  unfold KS.give
  rw [if_pos h1, if_neg h2]
  rfl
set_option maxHeartbeats 1000000 in
set_option maxRecDepth 20000 in
theorem awake10 (w : World) : Calls Tryz.prog 9 #[] w fun e w' => e = .returned (.bool true) ∧ Bel w w' := by
  go_enter Tryz.func9, Tryz.ntmps9
  go_wp2_with fail
  refine (heap_New 12 w (by omega) (by omega)).mono ?_
  rintro e w1 hN
  obtain ⟨hb, bi, rfl, hL⟩ := liveG_new hN
  have HL := Lib.hid hL
  clear hN hL
  go_wp2_with fail
  refine (large_New HL.out).mono ?_
  rintro e w2 ⟨k, rfl, hL2, hB2⟩
  have HT1 := Lib.hid (large_Take hL2 4 ⟨by omega, by omega⟩ (by decide))
  rw [ex_take1] at HT1
  clear hL2 hB2 HL
  simp only [spV] at HT1
  go_wp2_with fail
  refine HT1.out.mono ?_
  clear HT1
  rintro e w3 ⟨rfl, hL3⟩
  have hl3 := hL3.1.then_bel ((Bel.refl w3).alloc (.cells #[.int .i64 1, .int .i64 0, .int .i64 4, .int .i64 (-1)] 33))
  have g3 := blk_alloc w3 (.cells #[.int .i64 1, .int .i64 0, .int .i64 4, .int .i64 (-1)] 33)
  have hl3' := hl3.watch (Bel.refl _) (fun _ => False) (fun i h => h.elim)
  have hN3 := hL3.1.watch ((Bel.refl w3).alloc (.cells #[.int .i64 1, .int .i64 0, .int .i64 4, .int .i64 (-1)] 33)) (fun i => i = w3.heap.size) (fun i hi => by subst hi; simp)
  have HT2 := Lib.hid (large_Take hN3 4 ⟨by omega, by omega⟩ (by decide))
  rw [ex_take2] at HT2
  have HG3 := Lib.hid g3
  clear hL3 hl3 hl3' hN3 g3
  simp only [spV] at HT2
  go_wp2_with fail
  refine HT2.out.mono ?_
  clear HT2
  rintro e w4 ⟨rfl, hL4⟩
  have g34 := hL4.2.heap HG3.out (fun h => h (.inr rfl))
  have hN4 := hL4.1.watch ((Bel.refl w4).alloc (.cells #[.int .i64 2, .int .i64 4, .int .i64 4, .int .i64 (-1)] 33)) (fun i => i = w4.heap.size) (fun i hi => by subst hi; simp)
  have HT3 := Lib.hid (large_Take hN4 4 ⟨by omega, by omega⟩ (by decide))
  rw [ex_take3] at HT3
  have HG4 := Lib.hid (And.intro (blk_alloc_old (.cells #[.int .i64 2, .int .i64 4, .int .i64 4, .int .i64 (-1)] 33) g34) (blk_alloc w4 (.cells #[.int .i64 2, .int .i64 4, .int .i64 4, .int .i64 (-1)] 33)))
  clear hL4 hN4 g34 HG3
  simp only [spV] at HT3
  go_wp2_with fail
  refine HT3.out.mono ?_
  clear HT3
  rintro e w5 ⟨rfl, hL5⟩
  have g35 := hL5.2.heap HG4.out.1 (fun h => h (.inl (.inr rfl)))
  have g45 := hL5.2.heap HG4.out.2 (fun h => h (.inr rfl))
  obtain ⟨r0, _, _, _⟩ := four_cells (blk_alloc_old (.cells #[.int .i64 3, .int .i64 8, .int .i64 4, .int .i64 (-1)] 33) g35)
  obtain ⟨s0, _, _, _⟩ := four_cells (blk_alloc_old (.cells #[.int .i64 3, .int .i64 8, .int .i64 4, .int .i64 (-1)] 33) g45)
  obtain ⟨t0, _, _, _⟩ := four_cells (blk_alloc w5 (.cells #[.int .i64 3, .int .i64 8, .int .i64 4, .int .i64 (-1)] 33))
  have hb6 := ((Bel.refl w5).alloc (.cells #[.int .i64 3, .int .i64 8, .int .i64 4, .int .i64 (-1)] 33)).alloc (.cells #[.int .i64 1, .int .i64 2, .int .i64 3] 3)
  have HG := Lib.hid (large_Give (hL5.1.then_bel hb6) (some ⟨w5.heap.size + 1, 0, none⟩) [1, 2, 3] 3 (by decide) (by have := RdV.new (w5.alloc (.cells #[.int .i64 3, .int .i64 8, .int .i64 4, .int .i64 (-1)] 33)) #[.int .i64 1, .int .i64 2, .int .i64 3] 3; simpa [ints] using this) (by intro x hx; simp at hx; rcases hx with rfl | rfl | rfl <;> decide) (by decide))
  rw [ex_give] at HG
  clear hL5 hb6 g35 g45 HG4
  go_wp2_with fail
  refine HG.out.mono ?_
  clear HG
  rintro e w6 ⟨rfl, hL6⟩
  have HL6 := Lib.hid hL6.1
  have HK := Lib.hid (large_Kept hL6.1 4 (by decide))
  have hks : keptIds S2 4 = [1, 2] := by decide
  rw [show (KS.mk ⟨12, S2, 3⟩ S2 [] false).kept = S2 from rfl, hks] at HK
  clear hL6 hks
  go_wp2_with fail
  refine HK.out.mono ?_
  clear HK
  rintro e w7 ⟨v, rfl, ho, hB7⟩
  obtain ⟨a7, c7, rfl, hr7, _, _⟩ := own_slice2 ho
  have hb7 := (Bel.refl w7).alloc (.cells #[.int .i64 1, .int .i64 2] 3)
  have HI := Lib.hid (ref_Ints a7 (some ⟨w7.heap.size, 0, none⟩) [1, 2] [1, 2] 2 c7 2 2 (w7.alloc (.cells #[.int .i64 1, .int .i64 2] 3)) rfl rfl (by decide) (by decide) (hr7.bel hb7) (RdV.new w7 #[.int .i64 1, .int .i64 2] 3))
  rw [show decide (([1, 2] : List Int) = [1, 2]) = true from rfl] at HI
  have HL7 := Lib.hid (HL6.out.then_bel (hB7.trans hb7))
  clear ho hr7 hB7 hb7 HL6
  go_wp2_with fail
  refine HI.out.mono ?_
  clear HI
  rintro e w8 ⟨rfl, hB8⟩
  have HL8 := Lib.hid (HL7.out.then_bel hB8)
  clear hB8 HL7
  go_wp2_with fail
  refine (HL8.out.heapSpans _ (Bel.refl _)).mono ?_
  rintro e w9 ⟨a9, c9, zs, rfl, hz, _, hB9, _⟩
  have hzl : zs.length = 2 := by rw [hz.1.length_eq]; rfl
  have HE := Lib.hid (HL8.out.bel.trans hB9)
  clear hz hB9
  rw [hzl]
  go_wp2
  go_ret
  exact ⟨rfl, HE.out⟩
end Go.Proofs.YtbldidlbhahciaaGreat

namespace Go.Proofs.YtbldidlbhahciaaGreat
open Go.RowKit

set_option maxHeartbeats 1000000 in
theorem ref10_power (n : Int) (w : World) (hn : I64 n) : Calls Tryz.prog 53 #[.int .i64 n] w fun e w' => e = .returned (.bool (isB n)) ∧ w = w' := by
  obtain ⟨n0, n1⟩ := hn
  go_enter Tryz.func53, Tryz.ntmps53
  go_wp2_with fail
  go_loop [0] (fun v => ∃ m : Int, v = .int .i64 m ∧ m ≤ 9223372036854775807 ∧ -9223372036854775808 ≤ m ∧ isB n = isB m) (fun v => (intOf v).toNat)
  case atStart => exact ⟨n, rfl, n1, n0, rfl⟩
  case round =>
    obtain ⟨m, rfl, m1, m0, he⟩ := hrel
    by_cases h1 : 1 < m
    · have hr : m.tmod 2 = m % 2 := Int.tmod_eq_emod_of_nonneg (by omega)
      have hq : m.tdiv 2 = m / 2 := Int.tdiv_eq_ediv_of_nonneg (by omega)
      obtain ⟨r, hr2⟩ : ∃ r, m % 2 = r := ⟨_, rfl⟩
      obtain ⟨q, hq2⟩ : ∃ q, m / 2 = q := ⟨_, rfl⟩
      have z1 : IntKind.i64.wrap q = q := IntWalk.i64_in _ (by omega)
      have z2 : IntKind.i64.wrap r = r := IntWalk.i64_in _ (by omega)
      rw [hr2] at hr
      rw [hq2] at hq
      by_cases h2 : r = 0
      · have e1 : (r == 0) = true := by simpa using h2
        have HE : Hid (isB n = isB q) := Lib.hid (by rw [he, isB_half (by omega) (by omega) (by omega), hq2])
        have hqb : q < m ∧ 0 ≤ q := by omega
        clear hr2 hq2 h2 he
        go_wp2
        go_round
        case rel => exact ⟨q, rfl, by omega, by omega, HE.out⟩
        case measure => simp [intOf]; omega
      · have e1 : (r == 0) = false := by simpa using h2
        have HE : Hid (isB n = (m == 1)) := Lib.hid (by rw [he, isB_odd (by omega) (by omega) (by omega)]; symm; simp; omega)
        clear hr2 hq2 h2 he
        go_wp2
        go_ret
        exact ⟨ret_b HE.out, rfl⟩
    · have HE : Hid (isB n = (m == 1)) := Lib.hid (by rw [he, isB_low (by omega), Bool.eq_iff_iff]; simp)
      clear he
      go_wp2
      go_ret
      exact ⟨ret_b HE.out, rfl⟩
theorem fitsF_pow {j : Nat} (h2 : 2 ≤ j) (h : j < 63) : fitsF (2 ^ j) = true := by
  unfold fitsF
  have h4 : (2 : Int) ^ 2 ≤ 2 ^ j := pow_mono h2
  rw [isB_pow h]
  have : (4 : Int) ≤ 2 ^ j := by have : (2 : Int) ^ 2 = 4 := by decide
                                 omega
  simp [this]
set_option maxHeartbeats 1000000 in
theorem ref10_Fits (n : Int) (w : World) (hn : I64 n) : Calls Tryz.prog 23 #[.int .i64 n] w fun e w' => e = .returned (.bool (fitsF n)) ∧ w = w' := by
  have hP := Lib.hid (ref10_power n w hn)
  obtain ⟨n0, n1⟩ := hn
  go_enter Tryz.func23, Tryz.ntmps23
  go_wp2_with fail
  go_loop [3] (fun v => ∃ (j : Nat) (m : Int), v = .int .i64 m ∧ 2 ≤ j ∧ j ≤ 11 ∧ m = 2 ^ j ∧ Hid (∀ i, 2 ≤ i → i < j → n ≠ 2 ^ i)) (fun v => 2048 - (intOf v).toNat)
  case atStart => exact ⟨2, 4, rfl, by omega, by omega, by decide, Lib.hid (fun i h1 h2 => by omega)⟩
  case round =>
    obtain ⟨j, m, rfl, hj, hj1, hm, HN⟩ := hrel
    by_cases hle : j ≤ 10
    · have hb : m ≤ 1024 := by
        rw [hm]
        have : (2 : Int) ^ j ≤ 2 ^ 10 := pow_mono hle
        have : (2 : Int) ^ 10 = 1024 := by decide
        omega
      have hpos : 0 < m := by rw [hm]; exact pow_pos' j
      by_cases he : m = n
      · have HE : Hid (fitsF n = true) := Lib.hid (by rw [← he, hm]; exact fitsF_pow hj (by omega))
        have e1 : (m == n) = true := by simpa using he
        clear he hm
        go_wp2
        go_ret
        exact ⟨ret_b HE.out, rfl⟩
      · have e1 : (m == n) = false := by simpa using he
        have z1 : IntKind.i64.wrap (2 * m) = 2 * m := IntWalk.i64_in _ (by omega)
        have HM : Hid (2 * m = 2 ^ (j + 1)) := Lib.hid (by rw [pow_succ', hm])
        have HNX : Hid (∀ i, 2 ≤ i → i < j + 1 → n ≠ 2 ^ i) := Lib.hid (fun i h1 h2 h3 => by
          by_cases h4 : i < j
          · exact HN.out i h1 h4 h3
          · have : i = j := by omega
            subst this
            rw [← hm] at h3; exact he h3.symm)
        clear he hm
        go_wp2
        go_round
        case rel => exact ⟨j + 1, 2 * m, rfl, by omega, by omega, HM.out, HNX⟩
        case measure => simp [intOf]; omega
    · obtain rfl : j = 11 := by omega
      have hm2 : m = 2048 := by rw [hm]; decide
      subst hm2
      by_cases hbig : 1024 < n
      · have HE : Hid (fitsF n = isB n) := Lib.hid (by unfold fitsF; have : (4 : Int) ≤ n := by omega
                                                       simp [this])
        clear hm
        go_wp2_with fail
        refine hP.out.mono ?_
        rintro e w' ⟨rfl, rfl⟩
        go_wp2
        go_ret
        exact ⟨ret_b HE.out, rfl⟩
      · have HE : Hid (fitsF n = false) := Lib.hid (by
          rw [← Bool.not_eq_true]
          intro h9
          unfold fitsF at h9
          simp only [Bool.and_eq_true, decide_eq_true_eq] at h9
          obtain ⟨k, hk, e⟩ := (isB_iff (n := n) (by omega)).1 h9.2
          have h2k : 2 ≤ k := by
            rcases Nat.lt_or_ge k 2 with h | h
            · have : (2 : Int) ^ k ≤ 2 ^ 1 := pow_mono (by omega)
              have : (2 : Int) ^ 1 = 2 := by decide
              omega
            · exact h
          have hk11 : k < 11 := by
            rcases Nat.lt_or_ge k 11 with h | h
            · exact h
            · have : (2 : Int) ^ 11 ≤ 2 ^ k := pow_mono h
              have : (2 : Int) ^ 11 = 2048 := by decide
              omega
          exact HN.out k h2k hk11 e)
        clear hm
        go_wp2
        go_ret
        exact ⟨ret_b HE.out, rfl⟩
end Go.Proofs.YtbldidlbhahciaaGreat

namespace Go.Proofs.YtbldidlbhahciaaGreat
open Go.RowKit

set_option maxRecDepth 20000 in
theorem nil_Hold (on : Bool) (w : World) : Calls Tryz.prog 24 #[.pointer none, .bool on] w fun e w' => e = .returned (.bool false) ∧ w = w' := by
  go_enter Tryz.func24, Tryz.ntmps24
  go_wp2
  go_ret
  exact ⟨rfl, rfl⟩
set_option maxRecDepth 20000 in
theorem nil_Flush (w : World) : Calls Tryz.prog 25 #[.pointer none] w fun e w' => e = .returned (.int .i64 0) ∧ w = w' := by
  go_enter Tryz.func25, Tryz.ntmps25
  go_wp2
  go_ret
  exact ⟨rfl, rfl⟩
set_option maxRecDepth 20000 in
theorem nil_Kept (n : Int) (w : World) : Calls Tryz.prog 13 #[.pointer none, .int .i64 n] w fun e w' => e = .returned (.slice none 0 0) ∧ w = w' := by
  go_enter Tryz.func13, Tryz.ntmps13
  go_wp2
  go_ret
  exact ⟨rfl, rfl⟩
set_option maxRecDepth 20000 in
theorem nil_Waits (w : World) : Calls Tryz.prog 18 #[.pointer none] w fun e w' => e = .returned (.slice none 0 0) ∧ w = w' := by
  go_enter Tryz.func18, Tryz.ntmps18
  go_wp2
  go_ret
  exact ⟨rfl, rfl⟩
set_option maxHeartbeats 1000000 in
set_option maxRecDepth 20000 in
theorem nil_spans (a : Option Addr) (l : List Int) (n c : Nat) (w : World) (hn : n = l.length) (hl : l.length ≤ 1024) (hr : RdV w a (ints l)) :
    Calls Tryz.prog 34 #[.pointer none, .slice a n c] w fun e w' => e = .returned (.tuple #[.slice none 0 0, .bool (decide (l = []))]) ∧ w = w' := by
  subst hn
  cases l with
  | nil =>
    go_enter Tryz.func34, Tryz.ntmps34
    go_wp2_with fail
    go_loopw [6, 13] (fun u k wr => k = .int .i64 0 ∧ u = .slice none 0 0 ∧ wr = w) (fun u k wr => 0)
    case atStart => exact ⟨rfl, rfl, rfl⟩
    case round =>
      obtain ⟨rfl, rfl, rfl⟩ := hrel
      go_wp2
      go_ret2
      exact ⟨rfl, rfl⟩
  | cons x l =>
    obtain ⟨b, o, rfl, hra⟩ : ∃ b o, a = some ⟨b, o, none⟩ ∧ w.cell? ⟨b, o, none⟩ = some (.int .i64 x) := by
      rcases hr with h9 | ⟨b, o, e, h9⟩
      · simp [ints] at h9
      · exact ⟨b, o, e, by have := h9 0 (by simp [ints]); simpa [ints] using this⟩
    have d0 : (0 : Int) < (x :: l).length := by simp
    obtain ⟨m, hm⟩ : ∃ m, (x :: l).length = m := ⟨_, rfl⟩
    rw [hm] at d0 ⊢
    go_enter Tryz.func34, Tryz.ntmps34
    go_wp2_with fail
    go_loopw [6, 13] (fun u k wr => k = .int .i64 0 ∧ u = .slice none 0 0 ∧ wr = w) (fun u k wr => 0)
    case atStart => exact ⟨rfl, rfl, rfl⟩
    case round =>
      obtain ⟨rfl, rfl, rfl⟩ := hrel
      go_wp2
      go_ret2
      exact ⟨by simp, rfl⟩
set_option maxHeartbeats 1000000 in
set_option maxRecDepth 20000 in
theorem nil_Give (a : Option Addr) (l : List Int) (n c : Nat) (w : World) (hn : n = l.length) (hl : l.length ≤ 1024) (hr : RdV w a (ints l)) :
    Calls Tryz.prog 12 #[.pointer none, .slice a n c] w fun e w' => e = .returned (.int .i64 (if l = [] then 0 else 6)) ∧ Bel w w' := by
  subst hn
  have hb1 := (Bel.refl w).alloc (.cells #[.pointer none] 28)
  have HS := Lib.hid (nil_spans a l l.length c _ rfl hl (hr.bel hb1))
  have HB1 := Lib.hid hb1
  have gc := blk_cell (blk_alloc w (.cells #[.pointer none] 28)) 0
  by_cases hnil : l = []
  · rw [if_pos hnil]
    have hd : decide (l = []) = true := by simpa using hnil
    rw [hd] at HS
    have HC := Lib.hid (containsFunc_sp 36 give1_enters #[.pointer (some ⟨w.heap.size, 0, none⟩)] (fun _ => true) none [] 0 0 (w.alloc (.cells #[.pointer none] 28)) rfl (by simp) (.inl rfl) (fun W _ x hx => by simp at hx))
    clear hr hnil hd hb1
    go_enter Tryz.func12, Tryz.ntmps12
    go_wp2_with fail
    refine HS.out.mono ?_
    rintro e w1 ⟨rfl, rfl⟩
    go_wp2_with fail
    refine HC.out.mono ?_
    rintro e w1 ⟨rfl, hB⟩
    have HB2 := Lib.hid (HB1.out.trans hB)
    clear hB gc
    go_wp2_with fail
    go_loopw [22] (fun k wr => k = .int .i64 0 ∧ wr = w1) (fun k wr => 0)
    case atStart => exact ⟨rfl, rfl⟩
    case round =>
      obtain ⟨rfl, rfl⟩ := hrel
      go_wp2
      go_ret
      exact ⟨rfl, HB2.out⟩
  · rw [if_neg hnil]
    have hd : decide (l = []) = false := by simpa using hnil
    rw [hd] at HS
    clear hr hnil hd hb1
    go_enter Tryz.func12, Tryz.ntmps12
    go_wp2_with fail
    refine HS.out.mono ?_
    rintro e w1 ⟨rfl, rfl⟩
    go_wp2
    go_ret
    exact ⟨rfl, HB1.out⟩
def nilE (n : Int) : Int := if fitsF n = true then 3 else 1
theorem nil_Take (n : Int) (w : World) (hn : I64 n) : Calls Tryz.prog 11 #[.pointer none, .int .i64 n] w fun e w' => e = .returned (.tuple #[spV sp0, .int .i64 (nilE n)]) ∧ Bel w w' := by
  unfold nilE
  cases hf : fitsF n with
  | true => exact large_Take_nil n w hn hf
  | false => exact large_Take_bad none n w hn hf
set_option maxHeartbeats 4000000 in
set_option maxRecDepth 20000 in
theorem largeNil_walk (pages : Int) (sa : Option Addr) (l : List Int) (m0 c0 : Nat) (w : World) (hp : I64 pages) (hm : m0 = l.length) (hl : l.length ≤ maxLen) (hr : RdV w sa (ints l)) (hok : ∀ x ∈ l, I64 x) :
    Calls Tryz.prog 6 #[.int .i64 pages, .slice sa m0 c0] w fun e w' => e = .returned (.bool true) ∧ Bel w w' := by
  subst hm
  have hl2 : l.length ≤ 9223372036854775807 := by unfold maxLen at hl; omega
  by_cases c1 : 5 < (l.length : Int)
  · clear hr
    go_enter Tryz.func6, Tryz.ntmps6
    go_wp2_with fail
    refine (awake10 _).mono ?_; rintro e w' ⟨rfl, hB⟩
    go_wp2
    go_ret
    exact ⟨rfl, hB⟩
  have HF := Lib.hid (ref10_Fits pages w hp)
  have HT := Lib.hid (nil_Take pages w hp)
  have HG : Hid (∀ V, Bel w V → Calls Tryz.prog 12 #[.pointer none, .slice sa l.length c0] V fun e w' => e = .returned (.int .i64 (if l = [] then 0 else 6)) ∧ Bel w w') := Lib.hid (fun V hV => (nil_Give sa l l.length c0 V rfl (by omega) (hr.bel hV)).mono fun e w' ⟨h1, h2⟩ => ⟨h1, hV.trans h2⟩)
  have hrun := run_eql_sp 0 0 0 0 0 0 0 0
  rw [show decide (((0, (0, 0), 0) : Sp) = (0, (0, 0), 0)) = true from by decide] at hrun
  obtain ⟨q, hq⟩ : ∃ q, fitsF pages = q := ⟨_, rfl⟩
  have hnil : (nilE pages = if q = true then 3 else 1) := by unfold nilE; rw [hq]
  rw [hq] at HF
  obtain ⟨m, hmm⟩ : ∃ m, l.length = m := ⟨_, rfl⟩
  have hlm : l = [] ↔ m = 0 := by rw [← hmm]; exact List.length_eq_zero_iff.symm
  have hifs : (if l = [] then (0 : Int) else 6) = if m = 0 then 0 else 6 := by simp [hlm]
  rw [hifs] at HG
  rw [hnil] at HT
  rw [hmm] at HG hl2 c1 ⊢
  clear hr hq hnil hmm hlm hifs hl hok
  simp only [spV, sp0] at HT
  by_cases hm0 : m = 0
  · subst hm0
    simp only [if_true] at HG
    cases q
    all_goals
      simp only [if_true, Bool.false_eq_true, if_false] at HT
      go_enter Tryz.func6, Tryz.ntmps6
      go_wp2_with fail
      refine (large_New0 _).mono ?_; rintro e w1 ⟨rfl, rfl⟩
      go_wp2_with fail
      refine HF.out.mono ?_; rintro e w1 ⟨rfl, rfl⟩
      go_wp2_with fail
      refine HT.out.mono ?_; rintro e w2 ⟨rfl, hB2⟩
      have hb3 := hB2.alloc (.cells #[.int .i64 0, .int .i64 0, .int .i64 0, .int .i64 0] 33)
      obtain ⟨r0, r1, r2, r3⟩ := four_cells (blk_alloc w2 (.cells #[.int .i64 0, .int .i64 0, .int .i64 0, .int .i64 0] 33))
      have HG2 := Lib.hid (HG.out _ hb3)
      clear hB2 hb3
      go_wp2_with fail
      refine HG2.out.mono ?_; rintro e w3 ⟨rfl, hB3⟩
      have HB3 := Lib.hid hB3
      clear hB3 r0 r1 r2 r3
      go_wp2_with fail
      refine (nil_Hold _ _).mono ?_; rintro e w4 ⟨rfl, rfl⟩
      go_wp2_with fail
      refine (nil_Hold _ _).mono ?_; rintro e w4 ⟨rfl, rfl⟩
      go_wp2_with fail
      refine (nil_Flush _).mono ?_; rintro e w4 ⟨rfl, rfl⟩
      go_wp2_with fail
      refine (nil_Kept _ _).mono ?_; rintro e w4 ⟨rfl, rfl⟩
      go_wp2_with fail
      refine (nil_Waits _).mono ?_; rintro e w4 ⟨rfl, rfl⟩
      go_wp2_with fail
      refine (awake10 _).mono ?_; rintro e w' ⟨rfl, hB⟩
      go_wp2
      go_ret
      exact ⟨rfl, HB3.out.trans hB⟩
  · simp only [hm0, if_false] at HG
    have d0 : (0 : Int) < m := by omega
    cases q
    all_goals
      simp only [if_true, Bool.false_eq_true, if_false] at HT
      go_enter Tryz.func6, Tryz.ntmps6
      go_wp2_with fail
      refine (large_New0 _).mono ?_; rintro e w1 ⟨rfl, rfl⟩
      go_wp2_with fail
      refine HF.out.mono ?_; rintro e w1 ⟨rfl, rfl⟩
      go_wp2_with fail
      refine HT.out.mono ?_; rintro e w2 ⟨rfl, hB2⟩
      have hb3 := hB2.alloc (.cells #[.int .i64 0, .int .i64 0, .int .i64 0, .int .i64 0] 33)
      obtain ⟨r0, r1, r2, r3⟩ := four_cells (blk_alloc w2 (.cells #[.int .i64 0, .int .i64 0, .int .i64 0, .int .i64 0] 33))
      have HG2 := Lib.hid (HG.out _ hb3)
      clear hB2 hb3
      go_wp2_with fail
      refine HG2.out.mono ?_; rintro e w3 ⟨rfl, hB3⟩
      have HB3 := Lib.hid hB3
      clear hB3 r0 r1 r2 r3
      go_wp2_with fail
      refine (nil_Hold _ _).mono ?_; rintro e w4 ⟨rfl, rfl⟩
      go_wp2_with fail
      refine (nil_Hold _ _).mono ?_; rintro e w4 ⟨rfl, rfl⟩
      go_wp2_with fail
      refine (nil_Flush _).mono ?_; rintro e w4 ⟨rfl, rfl⟩
      go_wp2_with fail
      refine (nil_Kept _ _).mono ?_; rintro e w4 ⟨rfl, rfl⟩
      go_wp2_with fail
      refine (nil_Waits _).mono ?_; rintro e w4 ⟨rfl, rfl⟩
      go_wp2_with fail
      refine (awake10 _).mono ?_; rintro e w' ⟨rfl, hB⟩
      go_wp2
      go_ret
      exact ⟨rfl, HB3.out.trans hB⟩
end Go.Proofs.YtbldidlbhahciaaGreat

namespace Go.Proofs.YtbldidlbhahciaaGreat.largeNil
open Go.ChangeShapes Go.WideShapes Go.ChangeAt Go.RowKit
set_option linter.unusedVariables false

set_option maxRecDepth 100000 in
theorem lifted (os : Os) (started : os.Started) (H : Type) (enc : TypeId × Value → H) :
    ReturnsInHanded {} Tryz.checked os 6 .any (Rows.largeNilSpec.pre6 enc Tryz.prog Tryz.f6 Rows.largeNilRow.domain false) (Rows.largeNilSpec.post enc Tryz.prog Tryz.f6 false true false false) := by
  refine returnsInHanded_of_change (C := Tryz.checked) lk_own started (by kernel_rfl) Tryz.func6
    (ChangeSpec.witness6 (enc := enc) (C := Tryz.checked) false ⟨#[], #[.int .i64 0, .slice none 0 0], []⟩ 8 (by kernel_rfl) (by kernel_rfl) (by kernel_rfl) (by kernel_rfl)) ?_
  intro W base args ds gs before hval0 hW hcnd _
  have hval : ∀ (j : Nat) t v, Tryz.f6.params[j]? = some t → args[j]? = some v → Value.okWide Tryz.prog W .any base t v := hval0
  have hW' := hW
  obtain ⟨p, q, hA0, hV, rfl, hfz, hnd⟩ := hW
  have hA : DataW.TrodAll enc Tryz.prog W 0 (fun _ => true) true Tryz.f6.params.toList args.toList ds p := hA0
  rw [Tryz.params6] at hA hval
  obtain ⟨v0, vs0, d0, ds0, p0, q0, hargs, rfl, rfl, h0, r_0⟩ := trodAll_cons hA
  obtain ⟨v1, vs1, d1, ds1, p1, q1, rfl, rfl, rfl, h1, r_1⟩ := trodAll_cons r_0
  obtain ⟨rfl, rfl, rfl⟩ := trodAll_nil r_1
  obtain rfl : args = #[v0, v1] := by cases args; simp_all
  obtain ⟨rfl, rfl⟩ := trodVars_none hV
  obtain ⟨a0, rfl, rfl, rfl, w0⟩ := open_int Tryz.underlying3 (hval 0 3 v0 rfl rfl) h0
  obtain ⟨s1, l1, c1, rfl⟩ := okWide_slice Tryz.underlying22 (hval 1 22 v1 rfl rfl)
  have k1 := h1
  have lt1 : ∀ x ∈ p1, x.block < W.heap.size := by obtain ⟨m, hm⟩ := k1; exact DataW.trod_lt m _ _ _ hm
  obtain ⟨x1, e1, m1, r1, f1⟩ := arg_nums Tryz.underlying22 Tryz.underlying3 (by kernel_rfl) h1
  clear hA0 hval0
  refine (largeNil_walk a0 s1 x1 l1 c1 W (i64_of_wf w0) e1 m1 r1 (fun x hx => i64_of_wf (f1 x hx))).mono fun e W' ⟨he, bel⟩ => ?_
  subst he
  exact ⟨_, rfl, _, _, _, [], _, [], hW', trodAll_mk1 (shut_bool Tryz.underlying4 _), (trodAll_cons_mk (shut_int Tryz.underlying3 w0) (trodAll_cons_mk (Below.trod lk_laid (by kernel_rfl) (of_decide_eq_true (by kernel_rfl)) k1 bel lt1) trodAll_mk0)), rfl, Below.frame bel _, fun h => by cases h⟩

theorem over : Rows.largeNilRow.holds Tryz.pinned (OpenSpec.ofChange Rows.largeNilSpec) :=
  OpenClaim.holds_of_wide 6 Tryz.f6 rfl rfl rfl rfl rfl rfl rfl ⟨rfl, rfl, rfl, rfl, rfl⟩ rfl rfl rfl rfl rfl (by kernel_rfl) Tryz.func6 (by kernel_rfl)
    (of_decide_eq_true (by kernel_rfl)) (by unfold Func.isWrapper; first | (rw [if_pos (by decide +kernel)]; kernel_rfl) | (rw [if_neg (by decide +kernel)]; exact ⟨rfl, rfl⟩))
    (fun os started H enc _ => lifted os started H enc)

theorem proved : Rows.LargeNilSaid := over
#print axioms proved
end Go.Proofs.YtbldidlbhahciaaGreat.largeNil
