/- Layer 6: what is taken is the tightest run. -/
import Derived.Test.YtjmjdkimkgclaaaLaw06K
import Derived.Deep.RegionHeld3
import Derived.Deep.DeepCutAuto
import Derived.Deep.QuietTactic
import Derived.BigQuiet
namespace Go.Proofs.Ytjmjdkimkgclaaa
open Go.ChangeShapes Go.WideShapes Go.ChangeAt Go.RowKit Go.Deep

set_option maxHeartbeats 4000000 in
set_option maxRecDepth 20000 in
theorem runsTight_walk (s : Option Addr) (l : List Rn) (m0 c : Nat) (n : Int) (w : World) (hR : Runs05 w s m0 l) (hn : I64 n) :
    Calls Try.prog 5 #[.slice s m0 c, .int .i64 n] w fun e w' => e = .returned (.bool true) ∧ Bel w w' := by
  obtain ⟨rfl, hl, hrd, hok⟩ := hR
  have hl2 : l.length ≤ 9223372036854775807 := by unfold maxLen at hl; omega
  have hnn := hn
  obtain ⟨n0, n1⟩ := hn
  by_cases c0 : 20 < (l.length : Int)
  · go_enter Try.func5, Try.ntmps5
    go_wp2_with fail
    refine (awake06 _).mono ?_; rintro e w' ⟨rfl, hB⟩
    go_wp2
    go_ret
    exact ⟨rfl, hB⟩
  have c1 : l.length ≤ 1024 := by omega
  have HNEW := Lib.hid (runs_New s l l.length c w rfl c1 hrd hok)
  clear hrd hok
  go_enter Try.func5, Try.ntmps5
  go_wp2_with fail
  refine HNEW.out.mono ?_
  clear HNEW
  rintro e w1 ⟨p, rfl, hB, hp⟩
  obtain ⟨en, hen⟩ : ∃ en, (addR [] l).2 = en := ⟨_, rfl⟩
  rw [hen] at hp ⊢
  rcases hp with ⟨h9, rfl⟩ | ⟨h9, v, rfl, hF, hv⟩
  · have HB := Lib.hid hB
    have e1 : (en != 0) = true := by simpa using h9
    clear hB hen
    go_wp2_with fail
    refine (awake06 _).mono ?_; rintro e w' ⟨rfl, hB⟩
    go_wp2
    go_ret
    exact ⟨rfl, HB.out.trans hB⟩
  subst h9
  obtain ⟨L, hL⟩ : ∃ L, (addR [] l).1 = L := ⟨_, rfl⟩
  rw [hL] at hF
  have HL := Lib.hid (live_new hF hB hv)
  have hcan := hF.canon
  have HCAN := Lib.hid hcan
  have HLEN := Lib.hid (len_canon hcan)
  have hLl : L.length ≤ 1024 := hcan.len (q := 1024)
  have hsum := hcan.sum (by omega)
  obtain ⟨S, hS⟩ : ∃ S, sumR L = S := ⟨_, rfl⟩
  obtain ⟨s0, s1⟩ := hsum
  have htk := take_or L n hcan
  rw [hS] at htk s0 s1
  have HS := Lib.hid hS
  have hbw : w.heap.size < w1.heap.size := heap_lt hF.hd
  clear hF hB hv hL hen hcan hS
  obtain ⟨b, hb⟩ : ∃ b, w.heap.size = b := ⟨_, rfl⟩
  rw [hb] at HL hbw ⊢
  clear hb
  go_wp2_with fail
  refine (live_List HL.out _ (Bel.refl _)).mono ?_
  rintro e w2 ⟨a, ca, rfl, hra, hBa, hpa⟩
  have HL2 : Hid (LiveR w (fun i => False ∨ blkOf a i) w2 b v L) := Lib.hid (HL.out.watch hBa (blkOf a) (fun i ⟨p, e, hi⟩ => by subst hi; exact hpa p e))
  have HA := Lib.hid hra
  clear hra hBa hpa HL
  go_wp2_with fail
  refine (live_Pages HL2.out HS.out _ (Bel.refl _)).mono ?_
  rintro e w3 ⟨rfl, hB3⟩
  have HL3 := Lib.hid (HL2.out.then_bel hB3)
  have HA3 := Lib.hid (HA.out.bel hB3)
  clear hB3 HL2 HA
  rcases htk with ⟨hb0, htk⟩ | ⟨M, t, hbf0, htk, hhas, hsum, hadd, t0, t1⟩
  · have HBF := Lib.hid hb0
    clear hb0
    have HC := Lib.hid (live_Take HL3.out htk hnn _ (Bel.refl _))
    go_wp2_with fail
    refine HC.out.mono ?_
    rintro e w4 ⟨rfl, v4, hL4, hF4, _⟩
    have HA4 := Lib.hid ((HA3.out.watched hF4 (fun i hi => .inr hi)).bel ((Bel.refl _).alloc (.cells #[.int .i64 0, .int .i64 0] 29)))
    have HL4 := Lib.hid (hL4.watch ((Bel.refl _).alloc (.cells #[.int .i64 0, .int .i64 0] 29)) (fun i => i = w4.heap.size) (fun i hi => by subst hi; simp))
    have g4 := blk_alloc w4 (.cells #[.int .i64 0, .int .i64 0] 29)
    obtain ⟨x0, x1, _, _⟩ := two_cells g4
    have HG4 := Lib.hid g4
    clear hL4 hF4 HA3 HL3 HC htk g4
    go_wp2_with fail
    generalize w4.alloc (.cells #[.int .i64 0, .int .i64 0] 29) = w5 at HA4 HL4 x0 x1 HG4 ⊢
    obtain ⟨B0, hB0⟩ : ∃ B0, w4.heap.size = B0 := ⟨_, rfl⟩
    rw [hB0] at HL4 HG4 x0 x1 ⊢
    clear hB0
    go_loopw [11, 12] (fun k1 k2 wr => ∃ i : Nat, i ≤ L.length ∧ k2 = .int .i64 i ∧ ∃ k, k1 = .int .i64 k ∧ BestAt L n i k ∧ Hid (Bel w5 wr)) (fun k1 k2 wr => L.length - (intOf k2).toNat)
    case atStart => exact ⟨0, Nat.zero_le _, rfl, _, rfl, bestAt_start _ _, Lib.hid (Bel.refl _)⟩
    case round =>
      obtain ⟨i, hi, rfl, k, rfl, hbest, HH⟩ := hrel
      have hrg := hbest.range
      by_cases hlt : i < L.length
      · obtain ⟨ba, oa, rfl, p0, p1⟩ := (HA4.out.bel HH.out).at i hlt
        have HKEEP := Lib.hid (hbest.keep hlt)
        have HTAKE := Lib.hid (hbest.take hlt)
        have hcs : k = -1 ∨ ∃ (m : Nat) (hm : m < L.length), k = m ∧ wr.cell? ⟨ba, oa + m * 2 + 1, none⟩ = some (.int .i64 L[m].2) := by
          rcases hrg with h | ⟨h1, h2, h3⟩
          · exact .inl h
          · obtain ⟨m, rfl⟩ := Int.eq_ofNat_of_zero_le h1
            obtain ⟨_, _, e9, _, pm⟩ := (HA4.out.bel HH.out).at m (by omega)
            cases e9
            exact .inr ⟨m, by omega, rfl, pm⟩
        have hli : ∃ q, L[i].2 = q := ⟨_, rfl⟩
        obtain ⟨q, hq⟩ := hli
        have d0 : (i : Int) < L.length := by omega
        rw [hq] at p1 HKEEP HTAKE
        clear hbest hrg p0
        by_cases c2 : 1 ≤ n
        · have d1 : decide (1 ≤ n) = true := decide_eq_true c2
          by_cases c3 : n ≤ q
          · have d2 : decide (n ≤ q) = true := decide_eq_true c3
            rcases hcs with rfl | ⟨m, hm, rfl, pm⟩
            · have HT := Lib.hid (HTAKE.out c2 c3 (.inl (by omega)))
              clear HKEEP HTAKE
              go_wp2_with fail
              go_quiet (fail)
              have HQ := Lib.hid (HH.out.drewN nq)
              generalize wr.drewN nq = W9 at HQ ⊢
              go_wp2
              go_roundw
              case rel => exact ⟨i + 1, by omega, by go_num, _, rfl, HT.out, HQ⟩
              case measure => simp [intOf]; omega
            · have dm : (m : Int) < L.length := by omega
              have d3 : decide ((m : Int) < 0) = false := decide_eq_false (by omega)
              obtain ⟨z, hz⟩ : ∃ z, L[m].2 = z := ⟨_, rfl⟩
              have HZ : Hid (∃ hk : ((m : Int)).toNat < L.length, L[((m : Int)).toNat].2 = z) := Lib.hid ⟨by simpa using hm, by simpa using hz⟩
              rw [hz] at pm
              clear hz
              by_cases c4 : q < z
              · have d4 : decide (q < z) = true := decide_eq_true c4
                have HT := Lib.hid (HTAKE.out c2 c3 (.inr (by obtain ⟨h1, h2⟩ := HZ.out; exact ⟨h1, by omega⟩)))
                clear HKEEP HTAKE HZ
                go_wp2_with fail
                go_quiet (fail)
                have HQ := Lib.hid (HH.out.drewN nq)
                generalize wr.drewN nq = W9 at HQ ⊢
                go_wp2
                go_roundw
                case rel => exact ⟨i + 1, by omega, by go_num, _, rfl, HT.out, HQ⟩
                case measure => simp [intOf]; omega
              · have d4 : decide (q < z) = false := decide_eq_false c4
                have HT := Lib.hid (HKEEP.out (by rintro ⟨_, _, h | ⟨h1, h2⟩⟩; omega; obtain ⟨h3, h4⟩ := HZ.out; omega))
                clear HKEEP HTAKE HZ
                go_wp2_with fail
                go_quiet (fail)
                have HQ := Lib.hid (HH.out.drewN nq)
                generalize wr.drewN nq = W9 at HQ ⊢
                go_wp2
                go_roundw
                case rel => exact ⟨i + 1, by omega, by go_num, _, rfl, HT.out, HQ⟩
                case measure => simp [intOf]; omega
          · have d2 : decide (n ≤ q) = false := decide_eq_false c3
            have HT := Lib.hid (HKEEP.out (by rintro ⟨_, h, _⟩; exact c3 h))
            clear HKEEP HTAKE hcs
            go_wp2_with fail
            go_quiet (fail)
            have HQ := Lib.hid (HH.out.drewN nq)
            generalize wr.drewN nq = W9 at HQ ⊢
            go_wp2
            go_roundw
            case rel => exact ⟨i + 1, by omega, by go_num, _, rfl, HT.out, HQ⟩
            case measure => simp [intOf]; omega
        · have d1 : decide (1 ≤ n) = false := decide_eq_false c2
          have HT := Lib.hid (HKEEP.out (by rintro ⟨h, _⟩; exact c2 h))
          clear HKEEP HTAKE hcs
          go_wp2_with fail
          go_quiet (fail)
          have HQ := Lib.hid (HH.out.drewN nq)
          generalize wr.drewN nq = W9 at HQ ⊢
          go_wp2
          go_roundw
          case rel => exact ⟨i + 1, by omega, by go_num, _, rfl, HT.out, HQ⟩
          case measure => simp [intOf]; omega
      · obtain rfl : i = L.length := by omega
        rcases hbest.done with ⟨rfl, hbf⟩ | ⟨m, hm, rfl, hn1, hbf⟩
        · have HQ := Lib.hid HH.out
          clear hbf
          have HL9 := Lib.hid (HL4.out.then_bel HQ.out)
          obtain ⟨x0, x1, _, _⟩ := two_cells ((Fr.of_bel (S := fun _ => False) HQ.out).heap HG4.out (fun h => h))
          go_wp2_with fail
          refine (live_Pages HL9.out HS.out _ (Bel.refl _)).mono ?_
          rintro e w6 ⟨rfl, hB6⟩
          have HL6 := Lib.hid (HL9.out.then_bel hB6)
          clear hB6 HL9
          go_wp2_with fail
          refine (awake06 _).mono ?_; rintro e w' ⟨rfl, hB⟩
          go_wp2
          go_ret
          exact ⟨rfl, HL6.out.bel.trans hB⟩
        · exfalso
          have h1 := HCAN.out.ok _ (List.getElem_mem hm)
          rw [HBF.out] at hbf
          rw [← hbf] at h1
          dsimp only at h1
          omega
  · have HPOS : Hid (0 < (bestF L n).2) := Lib.hid (by
      refine Classical.byContradiction fun h => ?_
      unfold takeR at htk
      rw [if_neg h] at htk
      simp at htk)
    have HBF : Hid ((bestF L n).1 = t) := Lib.hid (by rw [hbf0])
    have HH9 := Lib.hid (And.intro hsum (And.intro hhas hadd))
    clear hbf0 hsum hhas hadd
    have HC := Lib.hid (live_Take HL3.out htk hnn _ (Bel.refl _))
    go_wp2_with fail
    refine HC.out.mono ?_
    rintro e w4 ⟨rfl, v4, hL4, hF4, _⟩
    have HA4 := Lib.hid ((HA3.out.watched hF4 (fun i hi => .inr hi)).bel ((Bel.refl _).alloc (.cells #[.int .i64 t, .int .i64 n] 29)))
    have HL4 := Lib.hid (hL4.watch ((Bel.refl _).alloc (.cells #[.int .i64 t, .int .i64 n] 29)) (fun i => i = w4.heap.size) (fun i hi => by subst hi; simp))
    have g4 := blk_alloc w4 (.cells #[.int .i64 t, .int .i64 n] 29)
    obtain ⟨x0, x1, _, _⟩ := two_cells g4
    have HG4 := Lib.hid g4
    clear hL4 hF4 HA3 HL3 HC htk g4
    go_wp2_with fail
    generalize w4.alloc (.cells #[.int .i64 t, .int .i64 n] 29) = w5 at HA4 HL4 x0 x1 HG4 ⊢
    obtain ⟨B0, hB0⟩ : ∃ B0, w4.heap.size = B0 := ⟨_, rfl⟩
    rw [hB0] at HL4 HG4 x0 x1 ⊢
    clear hB0
    go_loopw [11, 12] (fun k1 k2 wr => ∃ i : Nat, i ≤ L.length ∧ k2 = .int .i64 i ∧ ∃ k, k1 = .int .i64 k ∧ BestAt L n i k ∧ Hid (Bel w5 wr)) (fun k1 k2 wr => L.length - (intOf k2).toNat)
    case atStart => exact ⟨0, Nat.zero_le _, rfl, _, rfl, bestAt_start _ _, Lib.hid (Bel.refl _)⟩
    case round =>
      obtain ⟨i, hi, rfl, k, rfl, hbest, HH⟩ := hrel
      have hrg := hbest.range
      by_cases hlt : i < L.length
      · obtain ⟨ba, oa, rfl, p0, p1⟩ := (HA4.out.bel HH.out).at i hlt
        have HKEEP := Lib.hid (hbest.keep hlt)
        have HTAKE := Lib.hid (hbest.take hlt)
        have hcs : k = -1 ∨ ∃ (m : Nat) (hm : m < L.length), k = m ∧ wr.cell? ⟨ba, oa + m * 2 + 1, none⟩ = some (.int .i64 L[m].2) := by
          rcases hrg with h | ⟨h1, h2, h3⟩
          · exact .inl h
          · obtain ⟨m, rfl⟩ := Int.eq_ofNat_of_zero_le h1
            obtain ⟨_, _, e9, _, pm⟩ := (HA4.out.bel HH.out).at m (by omega)
            cases e9
            exact .inr ⟨m, by omega, rfl, pm⟩
        have hli : ∃ q, L[i].2 = q := ⟨_, rfl⟩
        obtain ⟨q, hq⟩ := hli
        have d0 : (i : Int) < L.length := by omega
        rw [hq] at p1 HKEEP HTAKE
        clear hbest hrg p0
        by_cases c2 : 1 ≤ n
        · have d1 : decide (1 ≤ n) = true := decide_eq_true c2
          by_cases c3 : n ≤ q
          · have d2 : decide (n ≤ q) = true := decide_eq_true c3
            rcases hcs with rfl | ⟨m, hm, rfl, pm⟩
            · have HT := Lib.hid (HTAKE.out c2 c3 (.inl (by omega)))
              clear HKEEP HTAKE
              go_wp2_with fail
              go_quiet (fail)
              have HQ := Lib.hid (HH.out.drewN nq)
              generalize wr.drewN nq = W9 at HQ ⊢
              go_wp2
              go_roundw
              case rel => exact ⟨i + 1, by omega, by go_num, _, rfl, HT.out, HQ⟩
              case measure => simp [intOf]; omega
            · have dm : (m : Int) < L.length := by omega
              have d3 : decide ((m : Int) < 0) = false := decide_eq_false (by omega)
              obtain ⟨z, hz⟩ : ∃ z, L[m].2 = z := ⟨_, rfl⟩
              have HZ : Hid (∃ hk : ((m : Int)).toNat < L.length, L[((m : Int)).toNat].2 = z) := Lib.hid ⟨by simpa using hm, by simpa using hz⟩
              rw [hz] at pm
              clear hz
              by_cases c4 : q < z
              · have d4 : decide (q < z) = true := decide_eq_true c4
                have HT := Lib.hid (HTAKE.out c2 c3 (.inr (by obtain ⟨h1, h2⟩ := HZ.out; exact ⟨h1, by omega⟩)))
                clear HKEEP HTAKE HZ
                go_wp2_with fail
                go_quiet (fail)
                have HQ := Lib.hid (HH.out.drewN nq)
                generalize wr.drewN nq = W9 at HQ ⊢
                go_wp2
                go_roundw
                case rel => exact ⟨i + 1, by omega, by go_num, _, rfl, HT.out, HQ⟩
                case measure => simp [intOf]; omega
              · have d4 : decide (q < z) = false := decide_eq_false c4
                have HT := Lib.hid (HKEEP.out (by rintro ⟨_, _, h | ⟨h1, h2⟩⟩; omega; obtain ⟨h3, h4⟩ := HZ.out; omega))
                clear HKEEP HTAKE HZ
                go_wp2_with fail
                go_quiet (fail)
                have HQ := Lib.hid (HH.out.drewN nq)
                generalize wr.drewN nq = W9 at HQ ⊢
                go_wp2
                go_roundw
                case rel => exact ⟨i + 1, by omega, by go_num, _, rfl, HT.out, HQ⟩
                case measure => simp [intOf]; omega
          · have d2 : decide (n ≤ q) = false := decide_eq_false c3
            have HT := Lib.hid (HKEEP.out (by rintro ⟨_, h, _⟩; exact c3 h))
            clear HKEEP HTAKE hcs
            go_wp2_with fail
            go_quiet (fail)
            have HQ := Lib.hid (HH.out.drewN nq)
            generalize wr.drewN nq = W9 at HQ ⊢
            go_wp2
            go_roundw
            case rel => exact ⟨i + 1, by omega, by go_num, _, rfl, HT.out, HQ⟩
            case measure => simp [intOf]; omega
        · have d1 : decide (1 ≤ n) = false := decide_eq_false c2
          have HT := Lib.hid (HKEEP.out (by rintro ⟨h, _⟩; exact c2 h))
          clear HKEEP HTAKE hcs
          go_wp2_with fail
          go_quiet (fail)
          have HQ := Lib.hid (HH.out.drewN nq)
          generalize wr.drewN nq = W9 at HQ ⊢
          go_wp2
          go_roundw
          case rel => exact ⟨i + 1, by omega, by go_num, _, rfl, HT.out, HQ⟩
          case measure => simp [intOf]; omega
      · obtain rfl : i = L.length := by omega
        rcases hbest.done with ⟨rfl, hbf⟩ | ⟨m, hm, rfl, hn1, hbf⟩
        · exfalso
          have h9 := HBF.out
          rw [hbf] at h9
          have := HPOS.out
          rw [hbf] at this
          exact absurd this (by decide)
        · have hlm : L[m].1 = t := by rw [← hbf, HBF.out]
          have hra := HA4.out.bel HH.out
          have HRA := Lib.hid hra
          obtain ⟨ba, oa, ea, p0, _⟩ := hra.at m hm
          rw [hlm] at p0
          have HL9 := Lib.hid (HL4.out.then_bel HH.out)
          have HXX : Hid (∀ V, Bel wr V → V.cell? ⟨B0, 0, none⟩ = some (.int .i64 t) ∧ V.cell? ⟨B0, 1, none⟩ = some (.int .i64 n)) := Lib.hid (fun V hV => by
            obtain ⟨q0, q1, _, _⟩ := two_cells ((Fr.of_bel (S := fun _ => False) (HH.out.trans hV)).heap HG4.out (fun h => h))
            exact ⟨q0, q1⟩)
          obtain ⟨x0, x1⟩ := HXX.out wr (Bel.refl _)
          have dm : (m : Int) < L.length := by omega
          have HS1 : Hid (∀ V, Bel wr V → V.cell? ⟨B0, 0, none⟩ = some (.int .i64 t) ∧ V.cell? ⟨B0, 1, none⟩ = some (.int .i64 n) ∧ V.cell? ⟨ba, oa + m * 2, none⟩ = some (.int .i64 t)) := Lib.hid (fun V hV => ⟨(HXX.out V hV).1, (HXX.out V hV).2, hV.cell p0⟩)
          have HSB : Hid (∀ V V' : World, (V.cell? ⟨B0, 0, none⟩ = some (.int .i64 t) ∧ V.cell? ⟨B0, 1, none⟩ = some (.int .i64 n) ∧ V.cell? ⟨ba, oa + m * 2, none⟩ = some (.int .i64 t)) → Bel V V' → V'.cell? ⟨B0, 0, none⟩ = some (.int .i64 t) ∧ V'.cell? ⟨B0, 1, none⟩ = some (.int .i64 n) ∧ V'.cell? ⟨ba, oa + m * 2, none⟩ = some (.int .i64 t)) := Lib.hid (fun V V' h k => ⟨k.cell h.1, k.cell h.2.1, k.cell h.2.2⟩)
          have C1 : Hid (∀ V, Bel wr V → Calls Try.prog 20 #[.pointer (some ⟨b, 0, none⟩), .agg #[.int .i64 t, .int .i64 n]] V fun e V' => e = .returned (.bool false) ∧ Bel wr V' ∧ V'.cell? ⟨B0, 0, none⟩ = some (.int .i64 t) ∧ V'.cell? ⟨B0, 1, none⟩ = some (.int .i64 n) ∧ V'.cell? ⟨ba, oa + m * 2, none⟩ = some (.int .i64 t)) := Lib.hid (fun V hV => (live_Has (x := (t, n)) HL9.out HH9.out.2.1 ⟨by omega, by omega⟩ hnn V hV).mono fun e V' h => ⟨h.1, h.2, HS1.out V' h.2⟩)
          have C2 : Hid (∀ V, Bel wr V → Calls Try.prog 22 #[.pointer (some ⟨b, 0, none⟩)] V fun e V' => e = .returned (.int .i64 (S - n)) ∧ Bel wr V' ∧ V'.cell? ⟨B0, 0, none⟩ = some (.int .i64 t) ∧ V'.cell? ⟨B0, 1, none⟩ = some (.int .i64 n) ∧ V'.cell? ⟨ba, oa + m * 2, none⟩ = some (.int .i64 t)) := Lib.hid (fun V hV => (live_Pages HL9.out HH9.out.1 V hV).mono fun e V' h => ⟨h.1, h.2, HS1.out V' h.2⟩)
          have C3 : Hid (∀ V g, V.heap.size = g → Bel wr V → Calls Try.prog 10 #[.pointer (some ⟨b, 0, none⟩), .slice (some ⟨g, 0, none⟩) 1 1] (V.alloc (.cells #[.int .i64 t, .int .i64 n] 29)) fun e V' => e = .returned (.int .i64 0) ∧ (∃ v, LiveR w (fun i => (False ∨ blkOf a i) ∨ i = B0) V' b v L) ∧ RunsIn V' a L ∧ V'.cell? ⟨B0, 0, none⟩ = some (.int .i64 t) ∧ V'.cell? ⟨B0, 1, none⟩ = some (.int .i64 n) ∧ V'.cell? ⟨ba, oa + m * 2, none⟩ = some (.int .i64 t)) := Lib.hid (fun V g hg hV => (live_Add1 (x := (t, n)) HL9.out HH9.out.2.2 ⟨by omega, by omega⟩ hnn V g hg hV).mono fun e V' ⟨h, v', h1, h2, _⟩ => ⟨h, ⟨v', h1⟩, HRA.out.watched h2 (fun i hi => .inl (.inr hi)), h2.cell x0 (fun h => h (.inr rfl)), h2.cell x1 (fun h => h (.inr rfl)), h2.cell p0 (fun h => h (.inl (.inr ⟨_, ea, rfl⟩)))⟩)
          have z9 : IntKind.i64.wrap (S - n) = S - n := IntWalk.i64_in _ (by have h1 := HPOS.out; have h2 := HCAN.out.ok _ (List.getElem_mem hm); omega)
          have C4 : Hid (∀ V8 v8, LiveR w (fun i => (False ∨ blkOf a i) ∨ i = B0) V8 b v8 L → RunsIn V8 a L → (V8.cell? ⟨B0, 0, none⟩ = some (.int .i64 t) ∧ V8.cell? ⟨B0, 1, none⟩ = some (.int .i64 n) ∧ V8.cell? ⟨ba, oa + m * 2, none⟩ = some (.int .i64 t)) → ∀ V, Bel V8 V → Calls Try.prog 12 #[.pointer (some ⟨b, 0, none⟩)] V fun e V' => ∃ aa cc, e = .returned (.slice aa L.length cc) ∧ RunsIn V' aa L ∧ RunsIn V' a L ∧ Bel w V' ∧ V'.cell? ⟨B0, 0, none⟩ = some (.int .i64 t) ∧ V'.cell? ⟨B0, 1, none⟩ = some (.int .i64 n) ∧ V'.cell? ⟨ba, oa + m * 2, none⟩ = some (.int .i64 t)) := Lib.hid (fun V8 v8 h8 ha8 hs8 V hV => (live_List h8 V hV).mono fun e V' ⟨aa, cc, h1, h2, h3, _⟩ => ⟨aa, cc, h1, h2, ha8.bel h3, h8.bel.trans h3, HSB.out _ _ hs8 h3⟩)
          have C5 : Hid (∀ Va aa cc cd, RunsIn Va aa L → RunsIn Va a L → Bel w Va → (Va.cell? ⟨B0, 0, none⟩ = some (.int .i64 t) ∧ Va.cell? ⟨B0, 1, none⟩ = some (.int .i64 n) ∧ Va.cell? ⟨ba, oa + m * 2, none⟩ = some (.int .i64 t)) → ∀ V, Bel Va V → Calls Try.prog 11 #[.slice aa L.length cc, .slice a L.length cd] V fun e V' => e = .returned (.bool true) ∧ Bel w V' ∧ V'.cell? ⟨B0, 0, none⟩ = some (.int .i64 t) ∧ V'.cell? ⟨B0, 1, none⟩ = some (.int .i64 n) ∧ V'.cell? ⟨ba, oa + m * 2, none⟩ = some (.int .i64 t)) := Lib.hid (fun Va aa cc cd h1 h2 h3 h4 V hV => (same_true HLEN.out (h1.bel hV) (h2.bel hV)).mono fun e V' h => ⟨h.1, h3.trans (hV.trans h.2), HSB.out _ _ h4 (hV.trans h.2)⟩)
          have C6 : Hid (∀ Vb, Bel w Vb → (Vb.cell? ⟨B0, 0, none⟩ = some (.int .i64 t) ∧ Vb.cell? ⟨B0, 1, none⟩ = some (.int .i64 n) ∧ Vb.cell? ⟨ba, oa + m * 2, none⟩ = some (.int .i64 t)) → ∀ V, Bel Vb V → Calls Try.prog 8 #[] V fun e V' => e = .returned (.bool true) ∧ Bel w V' ∧ V'.cell? ⟨B0, 0, none⟩ = some (.int .i64 t) ∧ V'.cell? ⟨B0, 1, none⟩ = some (.int .i64 n) ∧ V'.cell? ⟨ba, oa + m * 2, none⟩ = some (.int .i64 t)) := Lib.hid (fun Vb h3 h4 V hV => (awake06 V).mono fun e V' h => ⟨h.1, h3.trans (hV.trans h.2), HSB.out _ _ h4 (hV.trans h.2)⟩)
          subst ea
          clear hra hbf hlm hbest HXX
          go_wp2_with fail
          go_region_held3 (fun w' => w'.cell? ⟨B0, 0, none⟩ = some (.int .i64 t) ∧ w'.cell? ⟨B0, 1, none⟩ = some (.int .i64 n) ∧ w'.cell? ⟨ba, oa + m * 2, none⟩ = some (.int .i64 t))
            (first | exact hSc | exact hSb | exact hSa | exact hS8 | exact hS7 | exact hS6 | go_keep)
            (first
            | (go_at_call 22; (with_reducible refine (C2.out _ ?b1).mono ?_); (case b1 => repeat (first | assumption | exact Bel.refl _ | apply Bel.drew | apply Bel.alloc)); rintro e w6 ⟨rfl, hB6, hS6⟩)
            | (go_at_call 20; (with_reducible refine (C1.out _ ?b1).mono ?_); (case b1 => repeat (first | assumption | exact Bel.refl _ | apply Bel.drew | apply Bel.alloc)); rintro e w7 ⟨rfl, hB7, hS7⟩)
            | (go_at_call 10; (with_reducible refine (C3.out _ _ ?b0 ?b1).mono ?_); (case b0 => first | rfl | simp); (case b1 => repeat (first | assumption | exact Bel.refl _ | apply Bel.drew | apply Bel.alloc)); rintro e w8 ⟨rfl, ⟨v8, hL8⟩, hA8, hS8⟩)
            | (go_at_call 12; (with_reducible refine (C4.out _ _ hL8 hA8 hS8 _ ?b1).mono ?_); (case b1 => repeat (first | assumption | exact Bel.refl _ | apply Bel.drew | apply Bel.alloc)); rintro e wa ⟨aa, cc, rfl, hra, hAa, hBa, hSa⟩)
            | (go_at_call 11; (with_reducible refine (C5.out _ _ _ _ hra hAa hBa hSa _ ?b1).mono ?_); (case b1 => repeat (first | assumption | exact Bel.refl _ | apply Bel.drew | apply Bel.alloc)); rintro e wb ⟨rfl, hBb, hSb⟩)
            | (go_at_call 8; (with_reducible refine (C6.out _ hBb hSb _ ?b1).mono ?_); (case b1 => repeat (first | assumption | exact Bel.refl _ | apply Bel.drew | apply Bel.alloc)); rintro e wc ⟨rfl, hBc, hSc⟩))
          all_goals
            go_wp2
            go_ret
            exact ⟨rfl, by first | exact hBc | exact hBc.drew⟩
end Go.Proofs.Ytjmjdkimkgclaaa
