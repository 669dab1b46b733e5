/- Layer 8: what is pushed last is popped first: the walk. -/
import Derived.Test.YtnehccndghkakaaLaw08T
namespace Go.Proofs.Ytnehccndghkakaa
open Go.RowKit Go.Deep

set_option maxHeartbeats 8000000 in
set_option maxRecDepth 20000 in
theorem chainLast_walk (a : Option Addr) (l : List Int) (n c : Nat) (mark : Int) (w : World) (hC : IntsC w a n c l) (hm : 0 ≤ mark ∧ mark ≤ 18446744073709551615) :
    Calls Try.prog 5 #[.slice a n c, .int .u64 mark] w fun e w' => e = .returned (.bool true) ∧ Bel w w' := by
  obtain ⟨rfl, hl, hrd, hx, hcap⟩ := hC
  have hl2 : l.length ≤ 9223372036854775807 := by unfold maxLen at hl; omega
  obtain ⟨m0, m1⟩ := hm
  by_cases c0 : 100 < (l.length : Int)
  · go_enter Try.func5, Try.ntmps5
    go_wp2_with fail
    refine (awake08 _).mono ?_; rintro e w' ⟨rfl, hB⟩
    go_wp2
    go_ret
    exact ⟨rfl, hB⟩
  · have c1 : l.length ≤ 100 := by omega
    have hml : l.length ≤ maxLen := hl
    have HRD := Lib.hid hrd
    have hpb : ∀ p, l ≠ [] → a = some p → p.block < w.heap.size := fun p h0 hp => by
      obtain ⟨p', e, h⟩ := rdv_block hrd (by simp [ints]; exact h0)
      rw [hp] at e; cases e; exact h
    have HPB := Lib.hid hpb
    have HM0 := Lib.hid (markW_zero l mark)
    clear c0 hrd hpb hl
    go_enter Try.func5, Try.ntmps5
    go_wp2_with fail
    refine (arena_New_ok 4 _ (by omega) (by omega)).mono ?_
    rintro e w1 ⟨ba, rfl, hlt, hA, hB1⟩
    have hbw := heap_lt hA.words
    rw [← HM0.out] at hA
    have HA := Lib.hid hA
    have HB1 := Lib.hid hB1
    clear hA hB1 HM0
    go_wp2_with fail
    go_loopw [7] (fun k wr => ∃ i : Nat, i ≤ 256 ∧ k = .int .i64 i ∧ ArenaAt wr ba w.heap.size (markW l mark i) ∧ Bel w wr) (fun k wr => 256 - (intOf k).toNat)
    case atStart => exact ⟨0, by omega, rfl, HA.out, HB1.out⟩
    case round =>
      clear HA HB1
      obtain ⟨i, hi, rfl, hA, hB⟩ := hrel
      have hbr := heap_lt hA.words
      have hbar := heap_lt hA.hd
      have HA := Lib.hid hA
      have HB := Lib.hid hB
      clear hA hB
      by_cases hlt1 : i < 256
      · have CI := ref3_In a l i _ c wr rfl hml (HRD.out.bel HB.out)
        by_cases hin : (i : Int) ∈ l
        · have HS := Lib.hid (markW_in l mark i hin)
          rw [decide_eq_true hin] at CI
          have HCI := Lib.hid CI
          clear CI hin
          go_wp2_with fail
          refine HCI.out.mono ?_
          rintro e w2 ⟨rfl, rfl⟩
          go_wp2
          go_roundw
          case rel => exact ⟨i + 1, by omega, by go_num, by rw [HS.out]; exact HA.out, HB.out⟩
          case measure => simp [intOf]; omega
        · have HS := Lib.hid (markW_out l mark i hlt1 hin)
          have HST := Lib.hid (stW_one (W := markW l mark i) (x := i) (h := mark) (by omega) (by rw [markW_length]; omega))
          rw [decide_eq_false hin] at CI
          have HCI := Lib.hid CI
          clear CI hin
          go_wp2_with fail
          refine HCI.out.mono ?_
          rintro e w2 ⟨rfl, rfl⟩
          go_wp2_with fail
          refine (arena_Store ba w.heap.size _ [mark] i (some ⟨wr.heap.size, 0, none⟩) 1 1 _ (HA.out.bel ((Bel.refl _).alloc _)) ⟨by omega, by omega⟩ rfl (by simp [maxLen]) (RdV.new wr #[.int .u64 mark] 30) (by intro y hy; simp at hy; omega)).mono ?_
          rintro e w3 ⟨rfl, hA3, hF3⟩
          rw [HST.out, HS.out] at hA3
          have HA3 := Lib.hid hA3
          have HB3 := Lib.hid (bel_fr (HB.out.alloc _) hF3 (Nat.le_refl _))
          clear hA3 hF3
          generalize okE (inB (markW l mark i).length i (([mark] : List Int).length)) = ek
          go_wp2
          go_roundw
          case rel => exact ⟨i + 1, by omega, by go_num, HA3.out, HB3.out⟩
          case measure => simp [intOf]; omega
      · obtain rfl : i = 256 := by omega
        clear hlt1 hi
        have hL : (markW l mark 256).length = 256 := markW_length _ _ _
        have HO := Lib.hid (fun y (h0 : 0 ≤ y) (h1 : y < 256) (h2 : y ∉ l) => by
          have := wd_markW l mark y h0 h1
          rwa [if_neg h2] at this : ∀ y, 0 ≤ y → y < 256 → y ∉ l → wd (markW l mark 256) y = mark)
        have HL := Lib.hid hL
        clear hL
        generalize markW l mark 256 = M at HA HO HL
        by_cases good : (∀ x ∈ l, 0 ≤ x ∧ x < M.length) ∧ l.Nodup
        · obtain ⟨W1, h1, he, hr1, L1⟩ := push_empty good.1 good.2
          have HE := Lib.hid he
          have HND := Lib.hid good.2
          have HALL : Hid (∀ x ∈ l, 0 ≤ x ∧ x < 256) := Lib.hid (fun x hx => by have := good.1 x hx; have h9 := HL.out; omega)
          have hoth : ∀ y, 0 ≤ y → y < 256 → y ∉ l → wd W1 y = mark := fun y y0 y1 hy => by
            have e9 := pushF_ok (right_nil M) (all_inW good.1) (by simpa using good.2)
            rw [he] at e9
            have e8 := congrArg CR.ws e9
            dsimp only at e8
            rw [e8, pushW_other l M 0 y y0 (fun x hx => (good.1 x hx).1) hy]
            exact HO.out y y0 y1 hy
          have HP := Lib.hid (Popped.start hr1 (by rw [L1]; exact HL.out) hoth)
          have hi1 := right_i64 (by rw [L1, HL.out]; omega) hr1
          clear he good hr1 L1 hoth
          go_wp2_with fail
          refine (chain_Push ba w.heap.size M 0 0 a l c _ HA.out ⟨by omega, by omega⟩ ⟨by omega, by omega⟩ (by omega) hx (HRD.out.bel HB.out) (fun h0 p hp => by have := HPB.out p h0 hp; omega)).mono ?_
          rintro e w2 ⟨rfl, hA2, hF2⟩
          rw [HE.out] at hA2 ⊢
          have hs2 := hF2.size
          have HB2 := Lib.hid ((bel_fr HB.out hF2 (Nat.le_refl _)).alloc (.cells #[.int .i64 h1, .int .i64 l.length] 37))
          have hg := blk_alloc w2 (.cells #[.int .i64 h1, .int .i64 l.length] 37)
          have HA2 := Lib.hid (hA2.bel ((Bel.refl w2).alloc (.cells #[.int .i64 h1, .int .i64 l.length] 37)))
          obtain ⟨q0, q1, q2, q3⟩ := two_cells hg
          have HG := Lib.hid hg
          clear hA2 hF2 hg
          go_wp2_with fail
          generalize w2.alloc (.cells #[.int .i64 h1, .int .i64 l.length] 37) = W0 at HB2 HA2 HG q0 q1 q2 q3 ⊢
          go_loop [10] (fun k => ∃ i : Nat, i ≤ l.length ∧ k = .int .i64 i) (fun k => l.length - (intOf k).toNat)
          case atStart => exact ⟨0, Nat.zero_le _, rfl⟩
          case round =>
            obtain ⟨i, hi, rfl⟩ := hrel
            by_cases hlt2 : i < l.length
            · obtain ⟨bb, oo, rfl, hc⟩ := (HRD.out.bel HB2.out).at (f := fun x => .int .i64 x) (xs := l) i hlt2
              have hxr := HALL.out l[i] (List.getElem_mem _)
              generalize l[i] = x at hc hxr
              obtain ⟨x0, x1⟩ := hxr
              have x2 : ¬ 255 < x := by omega
              go_wp2
              go_round
              case rel => exact ⟨i + 1, by omega, by go_num⟩
              case measure => simp [intOf]; omega
            · obtain rfl : i = l.length := by omega
              go_wp2_with fail
              go_loopw [11] (fun k wr => ∃ i : Nat, i ≤ l.length ∧ k = .int .i64 i ∧ Bel W0 wr) (fun k wr => l.length - (intOf k).toNat)
              case atStart => exact ⟨0, Nat.zero_le _, rfl, Bel.refl _⟩
              case round =>
                obtain ⟨i, hi, rfl, hB3⟩ := hrel
                by_cases hlt3 : i < l.length
                · obtain ⟨bb, oo, rfl, hc⟩ := (HRD.out.bel (HB2.out.trans hB3)).at (f := fun x => .int .i64 x) (xs := l) i hlt3
                  have hrbw := HRD.out.bel (HB2.out.trans hB3)
                  have htl : (l.take i).length = i := by simp; omega
                  have hstep : l.take (i + 1) = l.take i ++ [l[i]] := List.take_succ_eq_append_getElem hlt3
                  obtain ⟨x, hxx⟩ : ∃ x, l[i] = x := ⟨_, rfl⟩
                  rw [hxx] at hc hstep
                  have C2 : ∀ nq, Calls Try.prog 17 #[.slice (some ⟨bb, oo, none⟩) i c, .int .i64 x] (wr.drewN nq) fun e w' => e = .returned (.bool (decide (x ∈ l.take i))) ∧ wr.drewN nq = w' := fun nq => by
                    have := ref3_In (some ⟨bb, oo, none⟩) (l.take i) x _ c (wr.drewN nq) rfl (by unfold maxLen; omega) ((RdV.take hrbw i).bel (Bel.drewN (Bel.refl _) _))
                    rwa [htl] at this
                  have HC2 := Lib.hid C2
                  have HST := Lib.hid hstep
                  have HBB := Lib.hid hB3
                  have HXX := Lib.hid hxx
                  have hid_ : (i : Int) ≤ c := by omega
                  clear C2 hstep hB3 hrbw hxx
                  have hni : x ∉ l.take i := fun hm => by
                    have := HND.out.sublist (List.take_sublist (i + 1) l)
                    rw [HST.out] at this
                    exact (List.nodup_append.1 this).2.2 x hm x (by simp) rfl
                  simp only [decide_eq_false hni] at HC2
                  clear hni
                  go_wp2_with fail
                  go_quiet (first | (go_at_call 17; with_reducible refine Calls.quiet_eq8 (HC2.out _)))
                  go_wp2
                  go_roundw
                  case rel => exact ⟨i + 1, by omega, by go_num, HBB.out.drewN _⟩
                  case measure => simp [intOf]; omega
                · obtain rfl : i = l.length := by omega
                  clear hi hlt3
                  have HB3 := Lib.hid (HB2.out.trans hB3)
                  have hg3 := (Fr.of_bel (S := fun _ => False) hB3).heap HG.out (fun h => h)
                  have HG3 := Lib.hid hg3
                  have HA3 := Lib.hid (HA2.out.bel hB3)
                  obtain ⟨s0, s1, s2, s3⟩ := two_cells hg3
                  have hsz3 := heap_lt hg3
                  clear hB3 hg3 q0 q1 q2 q3
                  go_wp2_with fail
                  clear s0 s1 s2 s3
                  go_loopw [12] (fun k wr => ∃ n : Nat, n ≤ l.length ∧ k = .int .i64 ((n : Int) - 1) ∧ ∃ P h, wr.heap[w2.heap.size]? = some (.cells #[.int .i64 h, .int .i64 n] 37 (0, 0)) ∧ ArenaAt wr ba w.heap.size P ∧ Popped l mark n P h ∧ Bel w wr) (fun k wr => (intOf k + 1).toNat)
                  case atStart => exact ⟨l.length, Nat.le_refl _, rfl, W1, h1, HG3.out, HA3.out, HP.out, HB3.out⟩
                  case round =>
                    clear HG3 HA3 HP HB3
                    obtain ⟨n, hn, rfl, P, h, hg, hA, hp, hB⟩ := hrel
                    have hszr := heap_lt hg
                    have HA := Lib.hid hA
                    have HG := Lib.hid hg
                    have HB := Lib.hid hB
                    cases n with
                    | zero =>
                      obtain ⟨rfl, hpop, hld⟩ := hp.last
                      have HPOP := Lib.hid hpop
                      have HLD := Lib.hid hld
                      have HPL := Lib.hid hp.len
                      obtain ⟨q0, q1, q2, q3⟩ := two_cells hg
                      clear hpop hld hp hg hA hB
                      go_wp2_with fail
                      refine (chain_Pop ba w.heap.size P 0 0 wr HA.out ⟨by omega, by omega⟩ ⟨by omega, by omega⟩).mono ?_
                      rintro e w5 ⟨rfl, hA5, hF5⟩
                      rw [HPOP.out] at hA5 ⊢
                      have hs5 := hF5.size
                      have HA6 := Lib.hid (hA5.bel ((Bel.refl w5).alloc (.cells #[.int .i64 0, .int .i64 0] 37)))
                      have HG6 : Hid ((w5.alloc (.cells #[.int .i64 0, .int .i64 0] 37)).heap[w2.heap.size]? = some (.cells #[.int .i64 0, .int .i64 0] 37 (0, 0))) := Lib.hid (blk_alloc_old _ (hF5.heap HG.out (by show ¬ w2.heap.size = w.heap.size; omega)))
                      have HB6 := Lib.hid ((bel_fr HB.out hF5 (Nat.le_refl _)).alloc (.cells #[.int .i64 0, .int .i64 0] 37))
                      clear hA5 hF5 q0 q1 q2 q3
                      go_wp2_with fail
                      generalize w5.alloc (.cells #[.int .i64 0, .int .i64 0] 37) = W6 at HA6 HG6 HB6 ⊢
                      go_loopw [19] (fun k wr => ∃ i : Nat, i ≤ 256 ∧ k = .int .i64 i ∧ Bel W6 wr) (fun k wr => 256 - (intOf k).toNat)
                      case atStart => exact ⟨0, by omega, rfl, Bel.refl _⟩
                      case round =>
                        obtain ⟨i, hi, rfl, hB7⟩ := hrel
                        have HB7 := Lib.hid hB7
                        clear hB7
                        by_cases hlt5 : i < 256
                        · have hld := HLD.out i hlt5
                          have hib : inB P.length i 1 = true := inB_iff.2 ⟨by omega, by omega, by rw [HPL.out]; omega, by rw [HPL.out]; omega⟩
                          have CL := arena_Load (.pointer (some ⟨ba, 0, none⟩)) P i wr (.inr ⟨ba, _, rfl, HA6.out.bel HB7.out⟩) ⟨by omega, by omega⟩
                          rw [hld, hib, okE_true] at CL
                          have CI : ∀ V, Bel W6 V → Calls Try.prog 17 #[.slice a l.length c, .int .i64 i] V fun e w' => e = .returned (.bool (decide ((i : Int) ∈ l))) ∧ V = w' := fun V hb => ref3_In a l i _ c V rfl hml (HRD.out.bel (HB6.out.trans hb))
                          by_cases hin : (i : Int) ∈ l
                          · rw [if_pos hin] at CL
                            simp only [decide_eq_true hin] at CI
                            have HCL := Lib.hid CL
                            have HCI := Lib.hid CI
                            clear CL CI hin hld hib
                            go_wp2_with fail
                            refine HCL.out.mono ?_
                            rintro e w8 ⟨rfl, hB8⟩
                            have HB8 := Lib.hid (HB7.out.trans hB8)
                            clear hB8
                            go_wp2_with fail
                            refine (HCI.out _ HB8.out).mono ?_
                            rintro e w9 ⟨rfl, rfl⟩
                            go_wp2_with fail
                            refine (HCI.out _ HB8.out).mono ?_
                            rintro e w9 ⟨rfl, rfl⟩
                            go_wp2
                            go_roundw
                            case rel => exact ⟨i + 1, by omega, by go_num, HB8.out⟩
                            case measure => simp [intOf]; omega
                          · rw [if_neg hin] at CL
                            simp only [decide_eq_false hin] at CI
                            have HCL := Lib.hid CL
                            have HCI := Lib.hid CI
                            have hmm : (mark != mark) = false := by simp
                            clear CL CI hin hld hib
                            go_wp2_with fail
                            refine HCL.out.mono ?_
                            rintro e w8 ⟨rfl, hB8⟩
                            have HB8 := Lib.hid (HB7.out.trans hB8)
                            clear hB8
                            go_wp2_with fail
                            refine (HCI.out _ HB8.out).mono ?_
                            rintro e w9 ⟨rfl, rfl⟩
                            go_wp2_with fail
                            refine (HCI.out _ HB8.out).mono ?_
                            rintro e w9 ⟨rfl, rfl⟩
                            go_wp2
                            go_roundw
                            case rel => exact ⟨i + 1, by omega, by go_num, HB8.out⟩
                            case measure => simp [intOf]; omega
                        · obtain rfl : i = 256 := by omega
                          obtain ⟨s0, s1, s2, s3⟩ := two_cells ((Fr.of_bel (S := fun _ => False) HB7.out).heap HG6.out (fun h => h))
                          go_wp2_with fail
                          refine (awake08 _).mono ?_; rintro e w' ⟨rfl, hB9⟩
                          go_wp2
                          go_ret
                          exact ⟨rfl, (HB6.out.trans HB7.out).trans hB9⟩
                    | succ m =>
                      have hlt4 : m < l.length := by omega
                      obtain ⟨ef, hp', i1, i2⟩ := hp.step hlt4 HND.out
                      have em : ((m + 1 : Nat) : Int) = (m : Int) + 1 := by omega
                      rw [em] at ef hg
                      have em2 : ((m : Int) + 1 - 1) = m := by omega
                      rw [em, em2]
                      obtain ⟨bb, oo, rfl, hc⟩ := (HRD.out.bel hB).at (f := fun x => .int .i64 x) (xs := l) m hlt4
                      obtain ⟨x, hxx⟩ : ∃ x, l[m] = x := ⟨_, rfl⟩
                      rw [hxx] at hc ef hp' i2
                      obtain ⟨k, hk⟩ : ∃ k, wd P x = k := ⟨_, rfl⟩
                      rw [hk] at ef hp' i2
                      have hbb : bb < w.heap.size := HPB.out ⟨bb, oo, none⟩ (by intro h; rw [h] at hlt4; simp at hlt4) rfl
                      have HEF := Lib.hid ef
                      have HPP := Lib.hid hp'
                      obtain ⟨q0, q1, q2, q3⟩ := two_cells hg
                      have e1 : (x != x) = false := by simp
                      have e2 : ((m : Int) != (m : Int)) = false := by simp
                      clear ef hp' hg hA hB hp hxx hk em em2
                      go_wp2_with fail
                      refine (chain_Pop ba w.heap.size P h ((m : Int) + 1) wr HA.out i1 ⟨by omega, by omega⟩).mono ?_
                      rintro e w5 ⟨rfl, hA5, hF5⟩
                      rw [HEF.out] at hA5 ⊢
                      have hs5 := hF5.size
                      have hc5 : (w5.alloc (.cells #[.int .i64 k, .int .i64 m] 37)).cell? ⟨bb, oo + m, none⟩ = some (.int .i64 x) := ((Bel.refl w5).alloc _).cell (hF5.cell hc (by show ¬ bb = w.heap.size; omega))
                      have hg5 : (w5.alloc (.cells #[.int .i64 k, .int .i64 m] 37)).heap[w2.heap.size]? = some (.cells #[.int .i64 h, .int .i64 ((m : Int) + 1)] 37 (0, 0)) := blk_alloc_old _ (hF5.heap HG.out (by show ¬ w2.heap.size = w.heap.size; omega))
                      have hgn := blk_alloc w5 (.cells #[.int .i64 k, .int .i64 m] 37)
                      have HA6 := Lib.hid (hA5.bel ((Bel.refl w5).alloc (.cells #[.int .i64 k, .int .i64 m] 37)))
                      have HB6 := Lib.hid ((bel_fr HB.out hF5 (Nat.le_refl _)).alloc (.cells #[.int .i64 k, .int .i64 m] 37))
                      have HG6 := Lib.hid hg5
                      clear hA5 hF5 q0 q1 q2 q3 hc
                      obtain ⟨q0, q1, q2, q3⟩ := two_cells hg5
                      obtain ⟨t0, t1, t2, t3⟩ := two_cells hgn
                      have hne5 : w2.heap.size ≠ w5.heap.size := by omega
                      clear hg5 hgn
                      go_wp2_with fail
                      go_roundw
                      case rel =>
                        exact ⟨m, by omega, rfl, setW P x 0, k, (two_set HG6.out _ _).2.2, arena_two HA6.out (by omega) (by omega) _ _, HPP.out, Fr.bel (fr_two (S := fun _ => False) (Fr.of_bel HB6.out) (R := w2.heap.size) (by omega) _ _) (fun k h => h.elim)⟩
                      case measure => simp [intOf]
        · obtain ⟨e0, he, hcs⟩ := push_empty_bad good
          have HE := Lib.hid he
          clear he good
          rcases hcs with ⟨rfl, hbad⟩ | ⟨rfl, hall, hnd⟩
          · have HBAD := Lib.hid hbad
            clear hbad
            go_wp2_with fail
            refine (chain_Push ba w.heap.size M 0 0 a l c _ HA.out ⟨by omega, by omega⟩ ⟨by omega, by omega⟩ (by omega) hx (HRD.out.bel HB.out) (fun h0 p hp => by have := HPB.out p h0 hp; omega)).mono ?_
            rintro e w2 ⟨rfl, hA2, hF2⟩
            rw [HE.out] at hA2 ⊢
            have hs2 := hF2.size
            have HB2 := Lib.hid ((bel_fr HB.out hF2 (Nat.le_refl _)).alloc (.cells #[.int .i64 0, .int .i64 0] 37))
            have hg := blk_alloc w2 (.cells #[.int .i64 0, .int .i64 0] 37)
            have HA2 := Lib.hid (hA2.bel ((Bel.refl w2).alloc (.cells #[.int .i64 0, .int .i64 0] 37)))
            obtain ⟨q0, q1, q2, q3⟩ := two_cells hg
            have HG := Lib.hid hg
            clear hA2 hF2 hg
            go_wp2_with fail
            generalize w2.alloc (.cells #[.int .i64 0, .int .i64 0] 37) = W0 at HB2 HA2 HG q0 q1 q2 q3 ⊢
            go_loop [10] (fun k => ∃ i : Nat, i ≤ l.length ∧ k = .int .i64 i ∧ Hid (∀ j (hj : j < i) (hj' : j < l.length), 0 ≤ l[j] ∧ l[j] < 256)) (fun k => l.length - (intOf k).toNat)
            case atStart => exact ⟨0, Nat.zero_le _, rfl, Lib.hid (fun j hj => by omega)⟩
            case round =>
              obtain ⟨i, hi, rfl, H0⟩ := hrel
              by_cases hlt2 : i < l.length
              · obtain ⟨bb, oo, rfl, hc⟩ := (HRD.out.bel HB2.out).at (f := fun x => .int .i64 x) (xs := l) i hlt2
                obtain ⟨x, hxx⟩ : ∃ x, l[i] = x := ⟨_, rfl⟩
                rw [hxx] at hc
                have hxi := hx l[i] (List.getElem_mem _)
                rw [hxx] at hxi
                have HXX := Lib.hid hxx
                clear hxx
                by_cases hr : 0 ≤ x ∧ x < 256
                · obtain ⟨x0, x1⟩ := hr
                  have x2 : ¬ 255 < x := by omega
                  go_wp2
                  go_round
                  case rel =>
                    refine ⟨i + 1, by omega, by go_num, Lib.hid (fun j hj hj' => ?_)⟩
                    rcases Nat.lt_or_ge j i with h | h
                    · exact H0.out j h hj'
                    · obtain rfl : j = i := by omega
                      rw [HXX.out]
                      exact ⟨x0, x1⟩
                  case measure => simp [intOf]; omega
                · have hcs : x < 0 ∨ (¬ x < 0 ∧ 255 < x) := by omega
                  clear hr
                  rcases hcs with x0 | ⟨x0, x1⟩
                  all_goals
                    go_wp2_with fail
                    refine (awake08 _).mono ?_; rintro e w' ⟨rfl, hB9⟩
                    go_wp2
                    go_ret
                    exact ⟨rfl, HB2.out.trans hB9⟩
              · exfalso
                obtain ⟨x, hxm, hxb⟩ := HBAD.out
                obtain ⟨j, hj, rfl⟩ := List.getElem_of_mem hxm
                have h8 := H0.out j (by omega) hj
                have h9 := HL.out
                exact hxb (by omega)
          · have HALL : Hid (∀ x ∈ l, 0 ≤ x ∧ x < 256) := Lib.hid (fun x hx => by have := hall x hx; have h9 := HL.out; omega)
            have HND0 := Lib.hid hnd
            clear hall hnd
            go_wp2_with fail
            refine (chain_Push ba w.heap.size M 0 0 a l c _ HA.out ⟨by omega, by omega⟩ ⟨by omega, by omega⟩ (by omega) hx (HRD.out.bel HB.out) (fun h0 p hp => by have := HPB.out p h0 hp; omega)).mono ?_
            rintro e w2 ⟨rfl, hA2, hF2⟩
            rw [HE.out] at hA2 ⊢
            have hs2 := hF2.size
            have HB2 := Lib.hid ((bel_fr HB.out hF2 (Nat.le_refl _)).alloc (.cells #[.int .i64 0, .int .i64 0] 37))
            have hg := blk_alloc w2 (.cells #[.int .i64 0, .int .i64 0] 37)
            have HA2 := Lib.hid (hA2.bel ((Bel.refl w2).alloc (.cells #[.int .i64 0, .int .i64 0] 37)))
            obtain ⟨q0, q1, q2, q3⟩ := two_cells hg
            have HG := Lib.hid hg
            clear hA2 hF2 hg
            go_wp2_with fail
            generalize w2.alloc (.cells #[.int .i64 0, .int .i64 0] 37) = W0 at HB2 HA2 HG q0 q1 q2 q3 ⊢
            go_loop [10] (fun k => ∃ i : Nat, i ≤ l.length ∧ k = .int .i64 i) (fun k => l.length - (intOf k).toNat)
            case atStart => exact ⟨0, Nat.zero_le _, rfl⟩
            case round =>
              obtain ⟨i, hi, rfl⟩ := hrel
              by_cases hlt2 : i < l.length
              · obtain ⟨bb, oo, rfl, hc⟩ := (HRD.out.bel HB2.out).at (f := fun x => .int .i64 x) (xs := l) i hlt2
                have hxr := HALL.out l[i] (List.getElem_mem _)
                generalize l[i] = x at hc hxr
                obtain ⟨x0, x1⟩ := hxr
                have x2 : ¬ 255 < x := by omega
                go_wp2
                go_round
                case rel => exact ⟨i + 1, by omega, by go_num⟩
                case measure => simp [intOf]; omega
              · obtain rfl : i = l.length := by omega
                go_wp2_with fail
                go_loopw [11] (fun k wr => ∃ i : Nat, i ≤ l.length ∧ k = .int .i64 i ∧ Bel W0 wr ∧ (l.take i).Nodup) (fun k wr => l.length - (intOf k).toNat)
                case atStart => exact ⟨0, Nat.zero_le _, rfl, Bel.refl _, by simp⟩
                case round =>
                  obtain ⟨i, hi, rfl, hB3, hnd⟩ := hrel
                  by_cases hlt3 : i < l.length
                  · obtain ⟨bb, oo, rfl, hc⟩ := (HRD.out.bel (HB2.out.trans hB3)).at (f := fun x => .int .i64 x) (xs := l) i hlt3
                    have hrbw := HRD.out.bel (HB2.out.trans hB3)
                    have htl : (l.take i).length = i := by simp; omega
                    have hstep : l.take (i + 1) = l.take i ++ [l[i]] := List.take_succ_eq_append_getElem hlt3
                    obtain ⟨x, hxx⟩ : ∃ x, l[i] = x := ⟨_, rfl⟩
                    rw [hxx] at hc hstep
                    have C2 : ∀ nq, Calls Try.prog 17 #[.slice (some ⟨bb, oo, none⟩) i c, .int .i64 x] (wr.drewN nq) fun e w' => e = .returned (.bool (decide (x ∈ l.take i))) ∧ wr.drewN nq = w' := fun nq => by
                      have := ref3_In (some ⟨bb, oo, none⟩) (l.take i) x _ c (wr.drewN nq) rfl (by unfold maxLen; omega) ((RdV.take hrbw i).bel (Bel.drewN (Bel.refl _) _))
                      rwa [htl] at this
                    have HC2 := Lib.hid C2
                    have HST := Lib.hid hstep
                    have HBB := Lib.hid hB3
                    have HXX := Lib.hid hxx
                    have hid_ : (i : Int) ≤ c := by omega
                    clear C2 hstep hB3 hrbw hxx
                    by_cases hni : x ∈ l.take i
                    · simp only [decide_eq_true hni] at HC2
                      clear hni
                      go_wp2_with fail
                      go_quiet (first | (go_at_call 17; with_reducible refine Calls.quiet_eq8 (HC2.out _)))
                      have hBq := Bel.drewN (Bel.refl wr) nq
                      generalize wr.drewN nq = wq at hBq ⊢
                      obtain ⟨s0, s1, s2, s3⟩ := two_cells ((Fr.of_bel (S := fun _ => False) (HBB.out.trans hBq)).heap HG.out (fun h => h))
                      go_wp2_with fail
                      refine (awake08 _).mono ?_; rintro e w' ⟨rfl, hB9⟩
                      go_wp2
                      go_ret
                      exact ⟨rfl, (HB2.out.trans (HBB.out.trans hBq)).trans hB9⟩
                    · have HN2 := Lib.hid hni
                      have HND := Lib.hid hnd
                      simp only [decide_eq_false hni] at HC2
                      clear hni hnd
                      go_wp2_with fail
                      go_quiet (first | (go_at_call 17; with_reducible refine Calls.quiet_eq8 (HC2.out _)))
                      go_wp2
                      go_roundw
                      case rel => exact ⟨i + 1, by omega, by go_num, HBB.out.drewN _, by rw [HST.out, List.nodup_append]; exact ⟨HND.out, by simp, fun y hy z hz e => by simp at hz; exact HN2.out (by rw [← hz, ← e]; exact hy)⟩⟩
                      case measure => simp [intOf]; omega
                  · obtain rfl : i = l.length := by omega
                    exfalso
                    rw [List.take_length] at hnd
                    exact HND0.out hnd
end Go.Proofs.Ytnehccndghkakaa
