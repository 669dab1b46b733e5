/- The slow twin of layer 6: Best, Pages, Has. -/
import Derived.Test.YtjmjdkimkgclaaaRef06L
import Derived.Test.YtjmjdkimkgclaaaPBits2
import Derived.Test.YtjmjdkimkgclaaaWRuns9
namespace Go.Proofs.Ytjmjdkimkgclaaa
open Go.RowKit

set_option maxHeartbeats 1000000 in
set_option maxRecDepth 20000 in
theorem ref6_Pages (v : Value) (f : Int → Bool) (w : World) (hf : BitsV w v f) :
    Calls Try.prog 23 #[v] w fun e w' => e = .returned (.int .i64 (sumR (listP f))) ∧ w = w' := by
  obtain ⟨bf, of', cf, rfl, hra⟩ := hf
  have HS : Hid (sumR (listP f) = cntF f 1024) := Lib.hid (by
    rw [listP_idsF]
    have := sum_runs (ids := idsF f) (f := f) (N := 1024) (fun p hp => idsF_wd f hp) 1024 (Nat.le_refl _)
    unfold runsF
    rw [idsF_length]; exact this)
  have HC := Lib.hid (cntF_bound f)
  have HRA := Lib.hid hra
  clear hra
  go_enter Try.func23, Try.ntmps23
  go_wp2_with fail
  go_loopw [3, 7] (fun n k wr => ∃ i : Nat, i ≤ 1024 ∧ k = .int .i64 i ∧ n = .int .i64 (cntF f i) ∧ Hid (w = wr)) (fun _ k _ => 1024 - (intOf k).toNat)
  case atStart => exact ⟨0, Nat.zero_le _, rfl, rfl, Lib.hid rfl⟩
  case round =>
    obtain ⟨i, hi, rfl, rfl, HW⟩ := hrel
    obtain rfl := HW.out
    by_cases hlt : i < 1024
    · have hc := HRA.out i hlt
      obtain ⟨c0, c1⟩ := HC.out i
      have hst : cntF f (i + 1) = cntF f i + (if f (i : Int) then 1 else 0) := rfl
      have z9 : (i : Int) < 1024 := by omega
      obtain ⟨s, hs⟩ : ∃ s, cntF f i = s := ⟨_, rfl⟩
      rw [hs] at hst c0 c1 ⊢
      have c5 : IntKind.i64.wrap (s + 1) = s + 1 := IntWalk.i64_in _ (by omega)
      obtain ⟨q, hq⟩ : ∃ q, f (i : Int) = q := ⟨_, rfl⟩
      rw [hq] at hc hst
      cases q
      · have HST : Hid (cntF f (i + 1) = s) := Lib.hid (by rw [hst]; simp)
        clear hst hs hq
        go_wp2
        go_roundw
        case rel => exact ⟨i + 1, by omega, by go_num, by rw [HST.out], Lib.hid (by first | rfl | trivial)⟩
        case measure => simp [intOf]; omega
      · have HST : Hid (cntF f (i + 1) = s + 1) := Lib.hid (by rw [hst]; simp)
        clear hst hs hq
        go_wp2
        go_roundw
        case rel => exact ⟨i + 1, by omega, by go_num, by rw [HST.out], Lib.hid (by first | rfl | trivial)⟩
        case measure => simp [intOf]; omega
    · obtain rfl : i = 1024 := by omega
      go_wp2
      go_ret
      exact ⟨by rw [HS.out]; rfl, rfl⟩
set_option maxHeartbeats 1000000 in
set_option maxRecDepth 20000 in
theorem ref6_Has (v : Value) (f : Int → Bool) (x : Rn) (w : World) (hf : BitsV w v f) (h1 : I64 x.1) (h2 : I64 x.2) :
    Calls Try.prog 21 #[v, .agg #[.int .i64 x.1, .int .i64 x.2]] w fun e w' => e = .returned (.bool (hasF (listP f) x)) ∧ Bel w w' := by
  obtain ⟨bf, of', cf, rfl, hra⟩ := hf
  have HRA := Lib.hid hra
  have HM := Lib.hid (ref6_May x (w.alloc (.cells #[.int .i64 x.1, .int .i64 x.2] 29)) h1 h2)
  have HG0 := Lib.hid (blk_alloc w (.cells #[.int .i64 x.1, .int .i64 x.2] 29))
  have HB0 : Hid (Bel w (w.alloc (.cells #[.int .i64 x.1, .int .i64 x.2] 29))) := Lib.hid ((Bel.refl w).alloc _)
  clear hra
  by_cases c1 : there 1024 x = true
  · have HP : Hid (hasF (listP f) x = true ↔ ∀ p, x.1 ≤ p → p < x.1 + x.2 → f p = true) := Lib.hid (by unfold hasF; rw [c1, Bool.true_and]; exact has_pages c1)
    rw [c1] at HM
    obtain ⟨t0, t1, t2, t3⟩ := there_iff.1 c1
    obtain ⟨s, m⟩ := x
    dsimp only at t0 t1 t2 t3 HP HM HG0 HB0
    obtain ⟨s, rfl⟩ := Int.eq_ofNat_of_zero_le t0
    obtain ⟨m, rfl⟩ := Int.eq_ofNat_of_zero_le (show 0 ≤ m by omega)
    clear c1
    go_enter Try.func21, Try.ntmps21
    go_wp2_with fail
    refine HM.out.mono ?_
    rintro e w1 ⟨rfl, hB1⟩
    have HB1 := Lib.hid (HB0.out.trans hB1)
    have gx := (Fr.of_bel (S := fun _ => False) hB1).heap HG0.out (fun h => h)
    obtain ⟨q0, q1, _, _⟩ := two_cells gx
    have e1 : IntKind.i64.wrap ((s : Int) + m) = (s : Int) + m := IntWalk.i64_in _ (by omega)
    clear hB1 gx
    go_wp2_with fail
    go_loopw [5] (fun k wr => ∃ j : Nat, j ≤ m ∧ k = .int .i64 ((s : Int) + j) ∧ Hid (w1 = wr ∧ ∀ i : Nat, i < j → f ((s : Int) + i) = true)) (fun k _ => s + m - (intOf k).toNat)
    case atStart => exact ⟨0, Nat.zero_le _, by simp, Lib.hid ⟨rfl, fun i h => by omega⟩⟩
    case round =>
      obtain ⟨j, hj, rfl, HJ⟩ := hrel
      obtain rfl := HJ.out.1
      by_cases hlt : j < m
      · have hc := HB1.out.cell (HRA.out (s + j) (by omega))
        have ec : ((s + j : Nat) : Int) = (s : Int) + j := by omega
        rw [ec] at hc
        have d1 : (s : Int) + j < (s : Int) + m := by omega
        have d2 : (0 : Int) ≤ (s : Int) + j := by omega
        have d3 : (s : Int) + j < 1024 := by omega
        have d4 : ((s : Int) + j).toNat = s + j := by omega
        obtain ⟨q, hq⟩ : ∃ q, f ((s : Int) + j) = q := ⟨_, rfl⟩
        rw [hq] at hc
        cases q
        · have HE : Hid (hasF (listP f) ((s : Int), (m : Int)) = false) := Lib.hid (by
            rw [← Bool.not_eq_true, HP.out]
            intro h
            have := h ((s : Int) + j) (by omega) (by omega)
            rw [hq] at this; cases this)
          clear hq
          go_wp2
          go_ret
          exact ⟨by rw [HE.out]; rfl, HB1.out⟩
        · have HN : Hid (∀ i : Nat, i < j + 1 → f ((s : Int) + i) = true) := Lib.hid (fun i hi => by
            rcases Nat.lt_or_ge i j with h9 | h9
            · exact HJ.out.2 i h9
            · obtain rfl : i = j := by omega
              exact hq)
          clear hq
          go_wp2
          go_roundw
          case rel => exact ⟨j + 1, by omega, by go_num, Lib.hid ⟨by first | rfl | trivial, HN.out⟩⟩
          case measure => simp [intOf]; omega
      · obtain rfl : j = m := by omega
        have HE : Hid (hasF (listP f) ((s : Int), (j : Int)) = true) := Lib.hid (by
          rw [HP.out]
          intro p h1 h2
          have := HJ.out.2 (p - s).toNat (by omega)
          rw [show (s : Int) + ((p - s).toNat : Int) = p by omega] at this
          exact this)
        have d1 : ¬ (s : Int) + j < (s : Int) + j := by omega
        go_wp2
        go_ret
        exact ⟨by rw [HE.out]; rfl, HB1.out⟩
  · have HE : Hid (hasF (listP f) x = false) := Lib.hid (by unfold hasF; rw [Bool.not_eq_true] at c1; rw [c1]; rfl)
    rw [Bool.not_eq_true] at c1
    rw [c1] at HM
    go_enter Try.func21, Try.ntmps21
    go_wp2_with fail
    refine HM.out.mono ?_
    rintro e w1 ⟨rfl, hB1⟩
    have HB1 := Lib.hid (HB0.out.trans hB1)
    clear hB1
    go_wp2
    go_ret
    exact ⟨by rw [HE.out]; rfl, HB1.out⟩
set_option maxHeartbeats 1000000 in
set_option maxRecDepth 20000 in
theorem ref6_Best (v : Value) (f : Int → Bool) (n : Int) (w : World) (hf : BitsV w v f) (hn : I64 n) :
    Calls Try.prog 16 #[v, .int .i64 n] w fun e w' => e = .returned (.tuple #[.agg #[.int .i64 (bestF (listP f) n).1, .int .i64 (bestF (listP f) n).2], .bool (decide (0 < (bestF (listP f) n).2))]) ∧ Bel w w' := by
  obtain ⟨n0, n1⟩ := hn
  have HG := Lib.hid (blk_alloc w (.cells #[.int .i64 0, .int .i64 0] 29))
  have HB0 : Hid (Bel w (w.alloc (.cells #[.int .i64 0, .int .i64 0] 29))) := Lib.hid ((Bel.refl _).alloc _)
  have HL := Lib.hid (ref6_List v f _ (hf.bel HB0.out))
  have HCN := Lib.hid (listP_canon f)
  obtain ⟨L, hL⟩ : ∃ L, listP f = L := ⟨_, rfl⟩
  rw [hL] at HL HCN ⊢
  have hlen : L.length ≤ 1024 := HCN.out.len (q := 1024)
  clear hL hf
  go_enter Try.func16, Try.ntmps16
  go_wp2_with fail
  refine HL.out.mono ?_
  rintro e w1 hN
  obtain ⟨a, c, rfl, hr, hB⟩ := runsIn_new hN
  have HB1 := Lib.hid (HB0.out.trans hB)
  have gR := (Fr.of_bel (S := fun _ => False) hB).heap HG.out (fun h => h)
  have hlt1 := heap_lt gR
  have HGR := Lib.hid gR
  have HRW := Lib.hid hr
  clear hN hr hB gR HL HG HB0
  by_cases c1 : n < 1
  · have HE : Hid (bestF L n = (0, 0)) := Lib.hid (best_none (.inl c1))
    obtain ⟨s0, s1, s2, s3⟩ := two_cells HGR.out
    have g9 := blk_alloc_old (.cells #[.int .i64 0, .int .i64 0] 29) (two_set HGR.out (.int .i64 0) (.int .i64 0)).2.2
    have HEND := Lib.hid (And.intro g9 ((bel_two HB1.out (Nat.le_refl _) (.int .i64 0) (.int .i64 0)).alloc (.cells #[.int .i64 0, .int .i64 0] 29)))
    clear g9
    go_wp2
    generalize ((w1.setCell ⟨w.heap.size, 0, none⟩ (.int .i64 0)).setCell ⟨w.heap.size, 1, none⟩ (.int .i64 0)).alloc (.cells #[.int .i64 0, .int .i64 0] 29) = W9 at HEND ⊢
    obtain ⟨r0, r1, _, _⟩ := two_cells HEND.out.1
    refine bodyPost_ret (v := .tuple #[.agg #[.int .i64 0, .int .i64 0], .bool false]) (by simp [results, Try.results16, go_sem, r0, r1]) rfl ?_
    exact ⟨by rw [HE.out]; rfl, HEND.out.2⟩
  · have gX := blk_alloc w1 (.cells #[.int .i64 0, .int .i64 0] 29)
    have HGX := Lib.hid gX
    have HGR2 := Lib.hid (blk_alloc_old (.cells #[.int .i64 0, .int .i64 0] 29) HGR.out)
    have HR2 := Lib.hid (HRW.out.bel ((Bel.refl w1).alloc (.cells #[.int .i64 0, .int .i64 0] 29)))
    have HB2 := Lib.hid (HB1.out.alloc (.cells #[.int .i64 0, .int .i64 0] 29))
    have hwl : w1.heap.size < (w1.alloc (.cells #[.int .i64 0, .int .i64 0] 29)).heap.size := by simp
    clear gX HRW HGR HB1
    go_wp2_with fail
    generalize w1.alloc (.cells #[.int .i64 0, .int .i64 0] 29) = W2 at HGX HGR2 HR2 HB2 hwl ⊢
    have hn1 : 1 ≤ n := by omega
    go_loopw [8] (fun k wr => ∃ want : Int, n ≤ want ∧ (want ≤ 1025 ∨ want = n) ∧ k = .int .i64 want ∧ Hid (W2 = wr ∧ ∀ r ∈ L, ¬ (n ≤ r.2 ∧ r.2 < want))) (fun k _ => 1025 - (intOf k).toNat)
    case atStart => exact ⟨n, Int.le_refl _, .inr rfl, rfl, Lib.hid ⟨rfl, fun r hr h => by omega⟩⟩
    case round =>
      obtain ⟨want, hw1, hw2, rfl, HH⟩ := hrel
      obtain rfl := HH.out.1
      by_cases hlt : want ≤ 1024
      · go_wp2_with fail
        go_loopw [23] (fun k wr => ∃ i : Nat, i ≤ L.length ∧ k = .int .i64 i ∧ Hid (W2 = wr ∧ ∀ j (hj : j < i) (hj' : j < L.length), L[j].2 ≠ want)) (fun k _ => L.length - (intOf k).toNat)
        case atStart => exact ⟨0, Nat.zero_le _, rfl, Lib.hid ⟨rfl, fun j hj => by omega⟩⟩
        case round =>
          obtain ⟨i, hi, rfl, HI⟩ := hrel
          obtain rfl := HI.out.1
          by_cases hlt2 : i < L.length
          · obtain ⟨g, o, rfl, p0, p1⟩ := HR2.out.at i hlt2
            have hfd : L[i].2 = want → bestF L n = L[i] := fun h => best_found hn1 hlt2 (by omega) (by rw [h]; exact HH.out.2) (fun j hj => by rw [h]; exact HI.out.2 j hj (by omega))
            have hne : L[i].2 ≠ want → ∀ j (hj : j < i + 1) (hj' : j < L.length), L[j].2 ≠ want := fun h j hj hj' => by
              rcases Nat.lt_or_ge j i with h9 | h9
              · exact HI.out.2 j h9 hj'
              · obtain rfl : j = i := by omega
                exact h
            have hk := HCN.out.ok _ (List.getElem_mem hlt2)
            obtain ⟨x, hx⟩ : ∃ x, L[i] = x := ⟨_, rfl⟩
            rw [hx] at p0 p1 hfd hne hk
            obtain ⟨x1, x2⟩ := x
            dsimp only at p0 p1 hfd hne hk
            by_cases hq : x2 = want
            · have HE := Lib.hid (hfd hq)
              have d1 : (x2 == want) = true := by simp [hq]
              have d2 : decide (0 < x2) = true := decide_eq_true (by omega)
              obtain ⟨s0, s1, s2, s3⟩ := two_cells HGR2.out
              have g9 := (two_set HGR2.out (.int .i64 x1) (.int .i64 x2)).2.2
              have HEND := Lib.hid (And.intro g9 (bel_two HB2.out (Nat.le_refl _) (.int .i64 x1) (.int .i64 x2)))
              clear g9 hfd hne hx hq
              go_wp2
              obtain ⟨r0, r1, _, _⟩ := two_cells HEND.out.1
              refine bodyPost_ret (v := .tuple #[.agg #[.int .i64 x1, .int .i64 x2], .bool true]) (by simp [results, Try.results16, go_sem, r0, r1]) rfl ?_
              exact ⟨by rw [HE.out]; dsimp only; rw [d2], HEND.out.2⟩
            · have HNE := Lib.hid (hne hq)
              have d1 : (x2 == want) = false := by simp [hq]
              clear hfd hne hx
              go_wp2
              go_roundw
              case rel => exact ⟨i + 1, by omega, by go_num, Lib.hid ⟨by first | rfl | trivial, HNE.out⟩⟩
              case measure => simp [intOf]; omega
          · obtain rfl : i = L.length := by omega
            have HN : Hid (∀ r ∈ L, ¬ (n ≤ r.2 ∧ r.2 < want + 1)) := Lib.hid (fun r hr h => by
              obtain ⟨j, hj, rfl⟩ := List.getElem_of_mem hr
              have h8 := HI.out.2 j hj hj
              have h9 := HH.out.2 _ hr
              omega)
            have e1 : IntKind.i64.wrap (want + 1) = want + 1 := IntWalk.i64_in _ (by omega)
            go_wp2
            go_roundw
            case rel => exact ⟨want + 1, by omega, .inl (by omega), by go_num, Lib.hid ⟨by first | rfl | trivial, HN.out⟩⟩
            case measure => simp [intOf]; omega
      · have HE : Hid (bestF L n = (0, 0)) := Lib.hid (best_none (.inr (fun r hr => by
          have h8 := HH.out.2 r hr
          have h9 := HCN.out.ok r hr
          omega)))
        obtain ⟨b0, b1, _, _⟩ := two_cells HGX.out
        obtain ⟨s0, s1, s2, s3⟩ := two_cells HGR2.out
        have g9 := (two_set HGR2.out (.int .i64 0) (.int .i64 0)).2.2
        have HEND := Lib.hid (And.intro g9 (bel_two HB2.out (Nat.le_refl _) (.int .i64 0) (.int .i64 0)))
        clear g9
        go_wp2
        obtain ⟨r0, r1, _, _⟩ := two_cells HEND.out.1
        refine bodyPost_ret (v := .tuple #[.agg #[.int .i64 0, .int .i64 0], .bool false]) (by simp [results, Try.results16, go_sem, r0, r1]) rfl ?_
        exact ⟨by rw [HE.out]; rfl, HEND.out.2⟩
end Go.Proofs.Ytjmjdkimkgclaaa
