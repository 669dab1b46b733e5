/- Layer 7: a span that is made, and freed at once. -/
import Derived.Test.YthkbhikiljlgoaaLaw07B
import Derived.Test.YthkbhikiljlgoaaLists
import Derived.Deep.RegionHeld3
import Derived.Deep.DeepCutAuto
namespace Go.Proofs.Ythkbhikiljlgoaa
open Go.ChangeShapes Go.WideShapes Go.ChangeAt Go.RowKit Go.Deep

theorem MakeR.last {ids ids' : List Int} {L L' : List Rn} {S S' : List Sp} {last last' : Nat} {n ord en : Int} {s : Sp} (h : MakeR ids L S last n ord s en L' ids' S' last') : last' ≤ last + 1 := by
  rcases h with ⟨_, _, _, _, _, _, h⟩ | ⟨_, _, _, _, _, _, _, _, _, h⟩ | ⟨_, _, _, t, _, _, _, _, _, _, h⟩ <;> omega
/-- Made, and freed at once. -/
theorem made_back {ids ids' ids'' : List Int} {L L' L'' : List Rn} {S S'' : List Sp} {last : Nat} {n ord t en : Int} (hi : HInv ids L S last) (hM : Made ids L S last n ord t L' ids')
    (hF : FreeR ids' L' (S ++ [((last : Int) + 1, (t, n), ord)]) (last + 1) [(last : Int) + 1] en L'' ids'' S'') : en = 0 ∧ L'' = L ∧ S'' = S := by
  have hg : getS (S ++ [((last : Int) + 1, (t, n), ord)]) ((last : Int) + 1) = some ((last : Int) + 1, (t, n), ord) := by
    rw [getS_snoc (s := ((last : Int) + 1, (t, n), ord)) hM.fresh, if_pos rfl]
  have hok : FreeOk (S ++ [((last : Int) + 1, (t, n), ord)]) [(last : Int) + 1] := ⟨fun k hk => by simp at hk; subst hk; rw [hg]; rfl, by simp⟩
  rcases hF with ⟨_, h1, h2, h3⟩ | ⟨h1, _⟩
  · refine ⟨h1, ?_, ?_⟩
    · have h4 := h2.add
      have e : runsOf (S ++ [((last : Int) + 1, (t, n), ord)]) [(last : Int) + 1] = [(t, n)] := by simp [runsOf, hg]
      rw [e, hM.back] at h4
      exact (Prod.mk.inj h4).1.symm
    · rw [h3, List.filter_append]
      have e1 : (S.filter fun s => !decide (s.1 ∈ [(last : Int) + 1])) = S := List.filter_eq_self.2 (fun s hs => by
        have := (hi.span s hs).2.1
        have : s.1 ≠ (last : Int) + 1 := by omega
        simp [this])
      rw [e1]; simp
  · exact absurd hok h1
set_option maxHeartbeats 4000000 in
set_option maxRecDepth 20000 in
theorem heapBack_walk (pages : Int) (sa : Option Addr) (xs : List Act07) (m0 c0 : Nat) (n : Int) (w : World) (hp : I64 pages) (hA : Acts07 w sa m0 xs) (hn : I64 n) :
    Calls Try.prog 5 #[.int .i64 pages, .slice sa m0 c0, .int .i64 n] w fun e w' => e = .returned (.bool true) ∧ Bel w w' := by
  obtain ⟨rfl, hl, hrd, hok⟩ := hA
  have hl2 : xs.length ≤ 9223372036854775807 := by unfold maxLen at hl; omega
  by_cases hpg : pages < 4 ∨ 1024 < pages
  · have HNB := Lib.hid (heap_New_bad pages w hp hpg)
    clear hrd hok hpg
    by_cases c1 : 50 < (xs.length : Int)
    all_goals
      go_enter Try.func5, Try.ntmps5
      go_wp2_with fail
      refine HNB.out.mono ?_; rintro e w1 ⟨rfl, rfl⟩
      go_wp2_with fail
      refine (awake07 _).mono ?_; rintro e w' ⟨rfl, hB⟩
      go_wp2
      go_ret
      exact ⟨rfl, hB⟩
  obtain ⟨P, rfl⟩ := Int.eq_ofNat_of_zero_le (show 0 ≤ pages by omega)
  have HNEW := Lib.hid (heap_New P w (by omega) (by omega))
  have HRD := Lib.hid hrd
  have HOK := Lib.hid hok
  clear hrd hok hpg
  by_cases c1 : 50 < (xs.length : Int)
  · go_enter Try.func5, Try.ntmps5
    go_wp2_with fail
    refine HNEW.out.mono ?_; rintro e w1 hN
    obtain ⟨h, bi, rfl, hL⟩ := liveH_new hN
    have HB := Lib.hid hL.bel
    clear hN hL
    go_wp2_with fail
    refine (awake07 _).mono ?_; rintro e w' ⟨rfl, hB⟩
    go_wp2
    go_ret
    exact ⟨rfl, HB.out.trans hB⟩
  have c2 : xs.length ≤ 50 := by omega
  go_enter Try.func5, Try.ntmps5
  go_wp2_with fail
  refine HNEW.out.mono ?_; rintro e w1 hN
  obtain ⟨h, bi, rfl, hL⟩ := liveH_new hN
  have HL0 := Lib.hid hL
  clear hN hL HNEW
  go_wp2_with fail
  go_loopw [9] (fun k wr => ∃ i : Nat, i ≤ xs.length ∧ k = .int .i64 i ∧ Hid (∃ L ids S last, LiveH w (fun _ => False) wr h bi L ids S last ∧ last ≤ i)) (fun k wr => xs.length - (intOf k).toNat)
  case atStart => exact ⟨0, Nat.zero_le _, rfl, Lib.hid ⟨_, _, _, _, HL0.out, Nat.le_refl _⟩⟩
  case round =>
    clear HL0
    obtain ⟨i, hi, rfl, HX⟩ := hrel
    obtain ⟨L, ids, S, last, hL, hlast⟩ := HX.out
    have HL := Lib.hid hL
    clear HX hL
    by_cases hlt : i < xs.length
    · obtain ⟨b, o, rfl, hra⟩ := (HRD.out.bel HL.out.bel).at i hlt
      obtain ⟨b', o', e', hra0⟩ := HRD.out.at i hlt
      cases e'
      have hx := HOK.out xs[i] (List.getElem_mem _)
      generalize xs[i] = x at hra hra0 hx
      have q0 : wr.cell? ⟨b, o + i * 4, none⟩ = some (.bool x.free) := hra 0 _ rfl
      have q1 : wr.cell? ⟨b, o + i * 4 + 1, none⟩ = some (.slice x.ia x.ids.length x.ic) := hra 1 _ rfl
      have q2 : wr.cell? ⟨b, o + i * 4 + 2, none⟩ = some (.int .i64 x.pages) := hra 2 _ rfl
      have q3 : wr.cell? ⟨b, o + i * 4 + 3, none⟩ = some (.int .i64 x.order) := hra 3 _ rfl
      have hxl : x.ids.length ≤ 9223372036854775807 := by have := hx.len; unfold maxLen at this; omega
      have HX := Lib.hid hx
      have d0 : (i : Int) < xs.length := by omega
      have HKC : Hid (∀ V, Bel w V → V.cell? ⟨b, o + i * 4 + 2, none⟩ = some (.int .i64 x.pages) ∧ V.cell? ⟨b, o + i * 4 + 3, none⟩ = some (.int .i64 x.order)) := Lib.hid (fun V hV => ⟨hV.cell (hra0 2 _ rfl), hV.cell (hra0 3 _ rfl)⟩)
      clear hra hra0 hx
      by_cases c4 : 10 < (x.ids.length : Int)
      · go_wp2_with fail
        refine (awake07 _).mono ?_; rintro e w' ⟨rfl, hB⟩
        go_wp2
        go_ret
        exact ⟨rfl, HL.out.bel.trans hB⟩
      obtain ⟨fr, hfr⟩ : ∃ fr, x.free = fr := ⟨_, rfl⟩
      rw [hfr] at q0
      clear hfr
      cases fr
      · obtain ⟨s, en, L', ids', S', last', hR, hC⟩ := liveH_Make HL.out x.pages x.order HX.out.pages HX.out.order (by omega)
        have HR := Lib.hid hR.last
        have HC : Hid (∀ V, Bel wr V → Calls Try.prog 9 #[.pointer (some ⟨h, 0, none⟩), .int .i64 x.pages, .int .i64 x.order] V fun e V' => e = .returned (.tuple #[spV s, .int .i64 en]) ∧ LivePostH w (fun _ => False) wr h bi L' ids' S' last' V' ∧ V'.cell? ⟨b, o + i * 4 + 2, none⟩ = some (.int .i64 x.pages) ∧ V'.cell? ⟨b, o + i * 4 + 3, none⟩ = some (.int .i64 x.order)) := Lib.hid (fun V hV => (hC V hV).mono fun e V' ⟨h1, h2⟩ => ⟨h1, h2, HKC.out V' h2.1.bel⟩)
        clear hC hR
        simp only [spV] at HC
        go_wp2_with fail
        go_region_held3 (fun w' => w'.cell? ⟨b, o + i * 4 + 2, none⟩ = some (.int .i64 x.pages) ∧ w'.cell? ⟨b, o + i * 4 + 3, none⟩ = some (.int .i64 x.order))
          (first | exact hS7 | go_keep)
          (first | (go_at_call 9; (with_reducible refine (HC.out _ ?b1).mono ?_); (case b1 => repeat (first | exact Bel.refl _ | apply Bel.drew | apply Bel.alloc)); rintro e w7 ⟨rfl, hL7, hS7⟩))
        have HL7 := Lib.hid hL7.1
        go_wp2
        go_roundw
        case rel => exact ⟨i + 1, by omega, by go_num, Lib.hid ⟨_, _, _, _, HL7.out, by have := HR.out; omega⟩⟩
        case measure => simp [intOf]; omega
      · have HF := Lib.hid (liveH_Free HL.out x.ids (by omega) HX.out.ok wr x.ia x.ic (Bel.refl _) (HX.out.rd.bel HL.out.bel))
        go_wp2_with fail
        refine HF.out.mono ?_
        rintro e w7 ⟨en, L', ids', S', _, rfl, hL7⟩
        have HL7 := Lib.hid hL7.1
        clear hL7
        go_wp2
        go_roundw
        case rel => exact ⟨i + 1, by omega, by go_num, Lib.hid ⟨_, _, _, _, HL7.out, by omega⟩⟩
        case measure => simp [intOf]; omega
    · obtain rfl : i = xs.length := by omega
      have HINV := Lib.hid HL.out.inv
      have HLEN : Hid (L.length ≤ 65536) := Lib.hid (by have h9 := HINV.out.canon; have := h9.len (q := 1024); omega)
      go_wp2_with fail
      refine (liveH_Runs HL.out _ (Bel.refl _)).mono ?_
      rintro e w2 hN
      obtain ⟨a, ca, rfl, hra, hBa, hpa⟩ := list_post (Bel.refl _) hN
      have HLa := Lib.hid (HL.out.watch hBa (blkOf a) (fun i ⟨p, e, hi⟩ => by subst hi; exact hpa p e))
      have HA := Lib.hid hra
      clear hN hra hBa hpa
      go_wp2_with fail
      refine (liveH_Spans HLa.out _ (Bel.refl _)).mono ?_
      rintro e w3 ⟨d, cd, zs, rfl, hz, hrz, hBz, hpz⟩
      have HLz := Lib.hid (HLa.out.watch hBz (blkOf d) (fun i ⟨p, e, hi⟩ => by subst hi; exact hpz p e))
      have HA3 := Lib.hid (HA.out.bel hBz)
      have HZ := Lib.hid (And.intro hz (SpansIn.of_row hrz))
      have HZL : Hid (zs.length ≤ 65536) := Lib.hid (by have := HINV.out.count; have := hz.1.length_eq; omega)
      clear hz hrz hBz hpz HLa HA
      obtain ⟨s, en, L', ids', S', last', hR, hC⟩ := liveH_Make HLz.out n 0 hn ⟨by omega, by omega⟩ (by omega)
      have HC := Lib.hid (hC w3 (Bel.refl _))
      have HR := Lib.hid hR
      obtain ⟨s1, ⟨s2, s3⟩, s4⟩ := s
      simp only [spV] at HC
      clear hC hR
      go_wp2_with fail
      refine HC.out.mono ?_
      clear HC
      rintro e w4 ⟨rfl, hL4, hF4⟩
      have HA4 := Lib.hid ((HA3.out.watched hF4 (fun i hi => .inl (.inr hi))).bel ((Bel.refl w4).alloc (.cells #[.int .i64 s1, .int .i64 s2, .int .i64 s3, .int .i64 s4] 35)))
      have HZ4 := Lib.hid ((HZ.out.2.watched hF4 (fun p hp => .inr ⟨p, hp, rfl⟩)).bel ((Bel.refl w4).alloc (.cells #[.int .i64 s1, .int .i64 s2, .int .i64 s3, .int .i64 s4] 35)))
      have HL4 := Lib.hid (hL4.then_bel ((Bel.refl w4).alloc (.cells #[.int .i64 s1, .int .i64 s2, .int .i64 s3, .int .i64 s4] 35)))
      obtain ⟨y0, y1, y2, y3⟩ := four_cells (blk_alloc w4 (.cells #[.int .i64 s1, .int .i64 s2, .int .i64 s3, .int .i64 s4] 35))
      clear hL4 hF4 HA3
      have hcs : (en ≠ 0 ∧ L' = L) ∨ (en = 0 ∧ ∃ t, Made ids L S last n 0 t L' ids' ∧ s1 = (last : Int) + 1 ∧ S' = S ++ [((last : Int) + 1, (t, n), 0)] ∧ last' = last + 1) := by
        rcases HR.out with ⟨_, _, h1, h2, _⟩ | ⟨_, _, _, _, _, h1, h2, _⟩ | ⟨_, _, _, t, hM, _, _, h1, h2, h3, h4⟩
        · exact .inl ⟨by omega, h2⟩
        · exact .inl ⟨by omega, h2⟩
        · rw [h1] at h3
          exact .inr ⟨h2, t, hM, by cases h1; rfl, h3, h4⟩
      clear HR
      rcases hcs with ⟨hen, rfl⟩ | ⟨rfl, t, hM, rfl, rfl, rfl⟩
      · have e1 : (en != 0) = true := by simpa using hen
        go_wp2_with fail
        generalize w4.alloc (.cells #[.int .i64 s1, .int .i64 s2, .int .i64 s3, .int .i64 s4] 35) = W4 at HA4 HZ4 HL4 ⊢
        refine (liveH_Runs HL4.out _ (Bel.refl _)).mono ?_
        rintro e w5 hN
        obtain ⟨a5, c5, rfl, hr5, hB5, _⟩ := list_post (Bel.refl _) hN
        have HR5 := Lib.hid hr5
        have HB5 := Lib.hid (HL4.out.bel.trans hB5)
        have HA5 := Lib.hid (HA4.out.bel hB5)
        clear hN hr5 hB5
        go_wp2_with fail
        refine (same_true HLEN.out HR5.out HA5.out).mono ?_
        rintro e w6 ⟨rfl, hB6⟩
        have HB6 := Lib.hid (HB5.out.trans hB6)
        clear hB6
        go_wp2_with fail
        refine (awake07 _).mono ?_; rintro e w' ⟨rfl, hB⟩
        go_wp2
        go_ret
        exact ⟨rfl, HB6.out.trans hB⟩
      · have HM := Lib.hid hM
        have hwf : (Lit.int .i64 ((last : Int) + 1)).wf = true := wf_i64 (by omega) (by omega)
        have HFR : Hid (∀ W, Bel (w4.alloc (.cells #[.int .i64 ((last : Int) + 1), .int .i64 s2, .int .i64 s3, .int .i64 s4] 35)) W → ∀ g, W.heap.size = g → Calls Try.prog 8 #[.pointer (some ⟨h, 0, none⟩), .slice (some ⟨g, 0, none⟩) 1 1] (W.alloc (.cells #[.int .i64 ((last : Int) + 1)] 3)) fun e V' => ∃ en L'' ids'' S'', FreeR ids' L' (S ++ [((last : Int) + 1, (t, n), 0)]) (last + 1) [(last : Int) + 1] en L'' ids'' S'' ∧ e = .returned (.int .i64 en) ∧ LivePostH w (fun i => ((False ∨ blkOf a i) ∨ blkOf d i)) (w4.alloc (.cells #[.int .i64 ((last : Int) + 1), .int .i64 s2, .int .i64 s3, .int .i64 s4] 35)) h bi L'' ids'' S'' (last + 1) V') := Lib.hid (fun W hW g hg => by
          subst hg
          exact liveH_Free HL4.out [(last : Int) + 1] (by simp) (by intro k hk; simp at hk; subst hk; exact hwf) _ (some ⟨W.heap.size, 0, none⟩) 1 (hW.alloc _) (RdV.new W #[.int .i64 ((last : Int) + 1)] 3))
        clear hM
        go_wp2_with fail
        have hg4 : (w4.alloc (.cells #[.int .i64 ((last : Int) + 1), .int .i64 s2, .int .i64 s3, .int .i64 s4] 35)).heap.size = w4.heap.size + 1 := by simp
        generalize w4.alloc (.cells #[.int .i64 ((last : Int) + 1), .int .i64 s2, .int .i64 s3, .int .i64 s4] 35) = W4 at HA4 HZ4 HL4 HFR hg4 ⊢
        refine (HFR.out W4 (Bel.refl _) _ (by first | exact hg4 | rfl)).mono ?_
        clear HFR
        rintro e w5 ⟨en, L'', ids'', S'', hF, rfl, hL5, hF5⟩
        obtain ⟨rfl, rfl, rfl⟩ := made_back HINV.out HM.out hF
        have HA5 := Lib.hid (HA4.out.watched hF5 (fun i hi => .inl (.inr hi)))
        have HZ5 := Lib.hid (HZ4.out.watched hF5 (fun p hp => .inr ⟨p, hp, rfl⟩))
        have HL5 := Lib.hid hL5
        clear hL5 hF5 hF
        go_wp2_with fail
        refine (liveH_Runs HL5.out _ (Bel.refl _)).mono ?_
        rintro e w6 hN
        obtain ⟨a6, c6, rfl, hr6, hB6, _⟩ := list_post (Bel.refl _) hN
        have HR6 := Lib.hid hr6
        have HL6 := Lib.hid (HL5.out.then_bel hB6)
        have HA6 := Lib.hid (HA5.out.bel hB6)
        have HZ6 := Lib.hid (HZ5.out.bel hB6)
        clear hN hr6 hB6
        go_wp2_with fail
        refine (same_true HLEN.out HR6.out HA6.out).mono ?_
        rintro e w7 ⟨rfl, hB7⟩
        have HL7 := Lib.hid (HL6.out.then_bel hB7)
        have HZ7 := Lib.hid (HZ6.out.bel hB7)
        clear hB7
        go_wp2_with fail
        refine (liveH_Spans HL7.out _ (Bel.refl _)).mono ?_
        rintro e w8 ⟨d8, c8, z8, rfl, hz8, hr8, hB8, _⟩
        have hze : z8 = zs := (sorted_unique HINV.out (List.Perm.refl _) HZ.out.1 hz8).symm
        subst hze
        have HR8 := Lib.hid (SpansIn.of_row hr8)
        have HL8 := Lib.hid (HL7.out.then_bel hB8)
        have HZ8 := Lib.hid (HZ7.out.bel hB8)
        clear hz8 hr8 hB8
        go_wp2_with fail
        refine (ref7_same _ _ _ _ _ _ HZL.out HR8.out HZ8.out).mono ?_
        rintro e w9 ⟨rfl, hB9⟩
        have HL9 := Lib.hid (HL8.out.then_bel hB9)
        clear hB9
        go_wp2_with fail
        refine (awake07 _).mono ?_; rintro e w' ⟨rfl, hB⟩
        go_wp2
        go_ret
        exact ⟨rfl, HL9.out.bel.trans hB⟩
end Go.Proofs.Ythkbhikiljlgoaa
