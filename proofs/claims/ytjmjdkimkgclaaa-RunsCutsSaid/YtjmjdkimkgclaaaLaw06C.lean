/- Layer 6: what is cut out, and added again. -/
import Derived.Test.YtjmjdkimkgclaaaLaw06K
import Derived.Deep.RegionHeld3
import Derived.Deep.DeepCutAuto
namespace Go.Proofs.Ytjmjdkimkgclaaa
open Go.ChangeShapes Go.WideShapes Go.ChangeAt Go.RowKit Go.Deep

set_option maxHeartbeats 4000000 in
set_option maxRecDepth 20000 in
theorem runsCuts_walk (s : Option Addr) (l : List Rn) (m c : Nat) (x : Rn) (w : World) (hR : Runs05 w s m l) (hx : I64 x.1 ∧ I64 x.2) :
    Calls Try.prog 7 #[.slice s m c, .agg #[.int .i64 x.1, .int .i64 x.2]] w fun e w' => e = .returned (.bool true) ∧ Bel w w' := by
  obtain ⟨rfl, hl, hrd, hok⟩ := hR
  have hl2 : l.length ≤ 9223372036854775807 := by unfold maxLen at hl; omega
  obtain ⟨hx1, hx2⟩ := hx
  by_cases c0 : 20 < (l.length : Int)
  · go_enter Try.func7, Try.ntmps7
    go_wp2_with fail
    refine (awake06 _).mono ?_; rintro e w' ⟨rfl, hB⟩
    go_wp2
    go_ret
    exact ⟨rfl, ((Bel.refl w).alloc _).trans hB⟩
  have c1 : l.length ≤ 1024 := by omega
  have HX : Hid (∀ W, Bel (w.alloc (.cells #[.int .i64 x.1, .int .i64 x.2] 29)) W → W.cell? ⟨w.heap.size, 0, none⟩ = some (.int .i64 x.1) ∧ W.cell? ⟨w.heap.size, 1, none⟩ = some (.int .i64 x.2)) := Lib.hid (fun W hB => by
    obtain ⟨q0, q1, _, _⟩ := two_cells ((Fr.of_bel (S := fun _ => False) hB).heap (blk_alloc w _) (fun h => h))
    exact ⟨q0, q1⟩)
  have HW0 : Hid (Bel w (w.alloc (.cells #[.int .i64 x.1, .int .i64 x.2] 29))) := Lib.hid ((Bel.refl w).alloc _)
  have HNEW := Lib.hid (runs_New s l l.length c _ rfl c1 (hrd.bel HW0.out) hok)
  clear hrd hok
  go_enter Try.func7, Try.ntmps7
  go_wp2_with fail
  refine HNEW.out.mono ?_
  clear HNEW
  generalize w.alloc (.cells #[.int .i64 x.1, .int .i64 x.2] 29) = W0 at HX HW0
  rintro e w1 ⟨p, rfl, hB, hp⟩
  obtain ⟨en, hen⟩ : ∃ en, (addR [] l).2 = en := ⟨_, rfl⟩
  rw [hen] at hp ⊢
  rcases hp with ⟨h9, rfl⟩ | ⟨h9, v, rfl, hF, hv⟩
  · have HB := Lib.hid hB
    have e1 : (en != 0) = true := by simpa using h9
    clear hB hen
    go_wp2_with fail
    refine (awake06 _).mono ?_; rintro e w' ⟨rfl, hB⟩
    go_wp2
    go_ret
    exact ⟨rfl, (HW0.out.trans HB.out).trans hB⟩
  subst h9
  obtain ⟨L, hL⟩ : ∃ L, (addR [] l).1 = L := ⟨_, rfl⟩
  rw [hL] at hF
  have HL := Lib.hid (live_new hF hB hv)
  have hcan := hF.canon
  have HLEN := Lib.hid (len_canon hcan)
  have hLl := hcan.len (q := 1024)
  have hsum := hcan.sum (by omega)
  obtain ⟨S, hS⟩ : ∃ S, sumR L = S := ⟨_, rfl⟩
  obtain ⟨s0, s1⟩ := hsum
  have hcut := cut_or L x hcan
  rw [hS] at hcut s0 s1
  have HS := Lib.hid hS
  clear hF hB hv hL hen hcan hS
  go_wp2_with fail
  refine (live_List HL.out _ (Bel.refl _)).mono ?_
  rintro e w2 ⟨a, ca, rfl, hra, hBa, hpa⟩
  have HL2 : Hid (LiveR W0 (fun i => False ∨ blkOf a i) w2 W0.heap.size v L) := Lib.hid (HL.out.watch hBa (blkOf a) (fun i ⟨p, e, hi⟩ => by subst hi; exact hpa p e))
  have HA := Lib.hid hra
  clear hra hBa hpa HL
  go_wp2_with fail
  refine (live_Pages HL2.out HS.out _ (Bel.refl _)).mono ?_
  rintro e w3 ⟨rfl, hB3⟩
  have HL3 := Lib.hid (HL2.out.then_bel hB3)
  have HA3 := Lib.hid (HA.out.bel hB3)
  clear hB3 HL2 HA
  obtain ⟨x0, x1⟩ := HX.out w3 HL3.out.bel
  rcases hcut with ⟨k, hcut, hk, hhas⟩ | ⟨hcut, hhas, hsum, hcut2, hadd⟩
  · have HC := Lib.hid (live_Cut HL3.out hcut hx1 hx2 _ (Bel.refl _))
    have HH := Lib.hid hhas
    have e1 : (k != 0) = true := by simpa using hk
    clear hcut hhas
    go_wp2_with fail
    refine HC.out.mono ?_
    rintro e w4 ⟨rfl, v4, hL4, hF4, _⟩
    have HA4 := Lib.hid (HA3.out.watched hF4 (fun i hi => .inr hi))
    have HL4 := Lib.hid hL4
    clear hL4 hF4 HA3 HL3 HC x0 x1
    go_wp2_with fail
    refine (live_List HL4.out _ (Bel.refl _)).mono ?_
    rintro e w5 ⟨a5, c5, rfl, hr5, hB5, _⟩
    have HR5 := Lib.hid hr5
    have HA5 := Lib.hid (HA4.out.bel hB5)
    have HL5 := Lib.hid (HL4.out.then_bel hB5)
    clear hr5 hB5 HA4 HL4
    go_wp2_with fail
    refine (same_true HLEN.out HR5.out HA5.out).mono ?_
    rintro e w6 ⟨rfl, hB6⟩
    have HL6 := Lib.hid (HL5.out.then_bel hB6)
    clear hB6 HL5 HA5 HR5
    obtain ⟨x0, x1⟩ := HX.out w6 HL6.out.bel
    go_wp2_with fail
    refine (live_Has HL6.out HH.out hx1 hx2 _ (Bel.refl _)).mono ?_
    rintro e w7 ⟨rfl, hB7⟩
    have HL7 := Lib.hid (HL6.out.then_bel hB7)
    clear hB7 HL6
    go_wp2_with fail
    refine (awake06 _).mono ?_; rintro e w' ⟨rfl, hB⟩
    go_wp2
    go_ret
    exact ⟨rfl, (HW0.out.trans HL7.out.bel).trans hB⟩
  · have hc2 : there 1024 x = true := by
      refine Classical.byContradiction fun h => ?_
      have := cutR_out (L := L) h
      rw [hcut] at this
      have := congrArg Prod.snd this
      simp at this
    have ht := there_iff.1 hc2
    have hth : 0 ≤ x.2 ∧ x.2 ≤ 1024 := by omega
    obtain ⟨M, hM⟩ : ∃ M, cutF L x = M := ⟨_, rfl⟩
    rw [hM] at hcut hhas hsum hcut2 hadd
    have HC := Lib.hid (live_Cut HL3.out hcut hx1 hx2 _ (Bel.refl _))
    have HH := Lib.hid (And.intro (show sumR M = IntKind.i64.wrap (S - x.2) by rw [hsum, IntWalk.i64_in _ (by omega)]) (And.intro hhas (And.intro hcut2 hadd)))
    clear hcut hhas hsum hcut2 hadd hM hc2 ht
    go_wp2_with fail
    refine HC.out.mono ?_
    rintro e w4 ⟨rfl, v4, hL4, hF4, _⟩
    have HA4 := Lib.hid (HA3.out.watched hF4 (fun i hi => .inr hi))
    have HL4 := Lib.hid hL4
    clear hL4 hF4 HA3 HL3 HC x0 x1
    obtain ⟨x0, x1⟩ := HX.out w4 HL4.out.bel
    have C1 : Hid (∀ V, Bel w4 V → Calls Try.prog 20 #[.pointer (some ⟨W0.heap.size, 0, none⟩), .agg #[.int .i64 x.1, .int .i64 x.2]] V fun e V' => e = .returned (.bool false) ∧ Bel w4 V' ∧ V'.cell? ⟨w.heap.size, 0, none⟩ = some (.int .i64 x.1) ∧ V'.cell? ⟨w.heap.size, 1, none⟩ = some (.int .i64 x.2)) := Lib.hid (fun V hV => (live_Has HL4.out HH.out.2.1 hx1 hx2 V hV).mono fun e V' h => ⟨h.1, h.2, HX.out V' (HL4.out.bel.trans h.2)⟩)
    have C2 : Hid (∀ V, Bel w4 V → Calls Try.prog 22 #[.pointer (some ⟨W0.heap.size, 0, none⟩)] V fun e V' => e = .returned (.int .i64 (IntKind.i64.wrap (S - x.2))) ∧ Bel w4 V' ∧ V'.cell? ⟨w.heap.size, 0, none⟩ = some (.int .i64 x.1) ∧ V'.cell? ⟨w.heap.size, 1, none⟩ = some (.int .i64 x.2)) := Lib.hid (fun V hV => (live_Pages HL4.out HH.out.1 V hV).mono fun e V' h => ⟨h.1, h.2, HX.out V' (HL4.out.bel.trans h.2)⟩)
    have C3 : Hid (∀ V, Bel w4 V → Calls Try.prog 15 #[.pointer (some ⟨W0.heap.size, 0, none⟩), .agg #[.int .i64 x.1, .int .i64 x.2]] V fun e V' => e = .returned (.int .i64 9) ∧ LivePost W0 (fun i => False ∨ blkOf a i) w4 W0.heap.size M V') := Lib.hid (live_Cut HL4.out HH.out.2.2.1 hx1 hx2)
    go_wp2_with fail
    go_region_law (first
      | (go_simp; go_at_call 20; (with_reducible refine (C1.out _ ?b1).mono ?_); (case b1 => repeat (first | assumption | exact Bel.refl _ | apply Bel.drew | apply Bel.alloc)); rintro e w5 ⟨rfl, hB5, y0, y1⟩)
      | (go_simp; go_at_call 22; (with_reducible refine (C2.out _ ?b1).mono ?_); (case b1 => repeat (first | assumption | exact Bel.refl _ | apply Bel.drew | apply Bel.alloc)); rintro e w6 ⟨rfl, hB6, z0, z1⟩)
      | (go_simp; go_at_call 15; (with_reducible refine (C3.out _ ?b1).mono ?_); (case b1 => repeat (first | assumption | exact Bel.refl _ | apply Bel.drew | apply Bel.alloc)); rintro e w7 ⟨rfl, v7, hL7, hF7, _⟩))
    all_goals
      have HL7 := Lib.hid hL7
      have HA7 := Lib.hid (HA4.out.watched hF7 (fun i hi => .inr hi))
      clear C1 C2 C3 hL7 hF7 x0 x1 y0 y1 z0 z1 hB5 hB6
      obtain ⟨x0, x1⟩ := HX.out w7 HL7.out.bel
      have HD := Lib.hid (live_Add1 HL7.out HH.out.2.2.2 hx1 hx2 w7 _ rfl (Bel.refl _))
      go_wp2_with fail
      refine HD.out.mono ?_
      rintro e w9 ⟨rfl, v9, hL9, hF9, _⟩
      have HA9 := Lib.hid (HA7.out.watched hF9 (fun i hi => .inr hi))
      have HL9 := Lib.hid hL9
      clear hL9 hF9 HD HA7 HL7 x0 x1
      go_wp2_with fail
      refine (live_List HL9.out _ (Bel.refl _)).mono ?_
      rintro e wa ⟨a5, c5, rfl, hr5, hB5, _⟩
      have HR5 := Lib.hid hr5
      have HA5 := Lib.hid (HA9.out.bel hB5)
      have HL5 := Lib.hid (HL9.out.then_bel hB5)
      clear hr5 hB5 HA9 HL9
      go_wp2_with fail
      refine (same_true HLEN.out HR5.out HA5.out).mono ?_
      rintro e wb ⟨rfl, hB6⟩
      have HL6 := Lib.hid (HL5.out.then_bel hB6)
      clear hB6 HL5 HA5 HR5
      go_wp2_with fail
      refine (awake06 _).mono ?_; rintro e w' ⟨rfl, hB⟩
      go_wp2
      go_ret
      exact ⟨rfl, (HW0.out.trans HL6.out.bel).trans hB⟩
end Go.Proofs.Ytjmjdkimkgclaaa
