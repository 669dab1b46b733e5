/- Layer 8: any row of acts on a chain. -/
import Derived.Test.YtnehccndghkakaaLaw08Q
import Derived.Test.YtnehccndghkakaaRef04
namespace Go.Proofs.Ytnehccndghkakaa
open Go.RowKit Go.Deep

theorem act_cells {w : World} {b : Nat} {x : Act08} (h : w.heap[b]? = some (.cells #[.int .i64 x.kind, .int .i64 x.at_, .int .u64 x.x, .slice x.la x.ll.length x.lc] 54 (0, 0))) : w.cell? ⟨b, 0, none⟩ = some (.int .i64 x.kind) ∧ w.cell? ⟨b, 1, none⟩ = some (.int .i64 x.at_) ∧ w.cell? ⟨b, 2, none⟩ = some (.int .u64 x.x) ∧ w.cell? ⟨b, 3, none⟩ = some (.slice x.la x.ll.length x.lc) :=
  ⟨blk_cell h 0, blk_cell h 1, blk_cell h 2, blk_cell h 3⟩
theorem all_chain {ws : List Int} {h n : Int} {l : List Int} (e : chL ws h n = some l) : ([(h, n)].all fun x => (chL ws x.1 x.2).isSome) = true := by simp [e]
theorem all_chain_no {ws : List Int} {h n : Int} (e : chL ws h n = none) : ([(h, n)].all fun x => (chL ws x.1 x.2).isSome) = false := by simp [e]

set_option maxHeartbeats 16000000 in
set_option maxRecDepth 20000 in
theorem chainPlays_walk (x0 : Int × Int) (s : Option Addr) (xs : List Act08) (n c : Nat) (w : World) (h0 : I64 x0.1 ∧ I64 x0.2) (hA : Acts08 w s n xs) :
    Calls Try.prog 6 #[.agg #[.int .i64 x0.1, .int .i64 x0.2], .slice s n c] w fun e w' => e = .returned (.bool true) ∧ Bel w w' := by
  obtain ⟨hd0, ln0⟩ := x0
  obtain ⟨i1, i2⟩ := h0
  dsimp only at i1 i2 ⊢
  obtain ⟨rfl, hl, hrd, hok⟩ := hA
  have hl2 : xs.length ≤ 9223372036854775807 := by unfold maxLen at hl; omega
  have HRD := Lib.hid hrd
  have HOK := Lib.hid hok
  clear hrd hok hl
  by_cases c0 : 60 < (xs.length : Int)
  · go_enter Try.func6, Try.ntmps6
    go_wp2_with fail
    refine (awake08 _).mono ?_; rintro e w' ⟨rfl, hB⟩
    go_wp2
    go_ret
    exact ⟨rfl, ((Bel.refl w).alloc _).trans hB⟩
  have hmk := fun W => run_make_u64 256 W (by omega)
  rw [show ((256 : Nat) : Int) = 256 by rfl] at hmk
  obtain ⟨cs, hcs⟩ : ∃ cs, (u64s (List.replicate 256 0)).toArray = cs := ⟨_, rfl⟩
  rw [hcs] at hmk
  have HCS := Lib.hid hcs
  clear hcs
  go_enter Try.func6, Try.ntmps6
  go_wp2_with fail
  refine (arena_New_ok 4 _ (by omega) (by omega)).mono ?_
  rintro e w1 ⟨ba, rfl, hlt, hA1, hB1⟩
  rw [World.size_alloc] at hA1 hlt
  have hba1 := heap_lt hA1.hd
  have hS : St08 w (w1.alloc (.cells cs 30)) ba (.slice (some ⟨w1.heap.size, 0, none⟩) 256 256) (List.replicate (64 * 4) 0) hd0 ln0 := by
    have hcell := RdV.new w1 cs 30
    rw [show cs.toList = u64s (List.replicate 256 0) by rw [← HCS.out]] at hcell
    exact ⟨by rw [List.length_replicate], hA1.bel ((Bel.refl _).alloc _), ⟨_, _, rfl, hcell, fun p hp => by cases hp; show w.heap.size + 2 ≤ w1.heap.size; omega⟩, (((Bel.refl w).alloc _).trans hB1).alloc _,
      blk_alloc_old _ ((Fr.of_bel (S := fun _ => False) hB1).heap (blk_alloc _ _) (fun h => h)), i1, i2⟩
  have HS := Lib.hid hS
  clear hS hA1 hB1
  go_wp2_with fail
  clear hmk
  go_loopw [7, 8] (fun m k wr => ∃ i : Nat, i ≤ xs.length ∧ k = .int .i64 i ∧ ∃ ws hd ln, St08 w wr ba m ws hd ln) (fun m k wr => xs.length - (intOf k).toNat)
  case atStart => exact ⟨0, Nat.zero_le _, rfl, _, _, _, HS.out⟩
  case round =>
    clear HS i1 i2
    obtain ⟨i, hi, rfl, ws, hd, ln, hT⟩ := hrel
    obtain ⟨am, cm, rfl, hrm, hnb⟩ := hT.m
    have hba := heap_lt hT.ar.hd
    have hbw := heap_lt hT.ar.words
    have i1 := hT.hd
    have i2 := hT.ln
    have HT := Lib.hid hT
    have HRM := Lib.hid hrm
    by_cases hlt2 : i < xs.length
    · obtain ⟨b, o, rfl, hra⟩ := (HRD.out.bel hT.bel).at i hlt2
      have hx := HOK.out xs[i] (List.getElem_mem _)
      generalize xs[i] = x at hra hx
      have q0 : wr.cell? ⟨b, o + i * 4, none⟩ = some (.int .i64 x.kind) := hra 0 _ rfl
      have q1 : wr.cell? ⟨b, o + i * 4 + 1, none⟩ = some (.int .i64 x.at_) := hra 1 _ rfl
      have q2 : wr.cell? ⟨b, o + i * 4 + 2, none⟩ = some (.int .u64 x.x) := hra 2 _ rfl
      have q3 : wr.cell? ⟨b, o + i * 4 + 3, none⟩ = some (.slice x.la x.ll.length x.lc) := hra 3 _ rfl
      have hxl : x.ll.length ≤ 9223372036854775807 := by have := hx.len; unfold maxLen at this; omega
      have hA1 := blk_alloc wr (.cells #[.int .i64 x.kind, .int .i64 x.at_, .int .u64 x.x, .slice x.la x.ll.length x.lc] 54)
      obtain ⟨p0, p1, p2, p3⟩ := act_cells hA1
      have g1 := blk_alloc_old (.cells #[.int .i64 x.kind, .int .i64 x.at_, .int .u64 x.x, .slice x.la x.ll.length x.lc] 54) hT.box
      have g2 := blk_alloc_old (.cells #[.int .i64 hd, .int .i64 ln] 37) g1
      have hA3 := blk_alloc_old (.cells #[.int .i64 hd, .int .i64 ln] 37) (blk_alloc_old (.cells #[.int .i64 hd, .int .i64 ln] 37) hA1)
      have g3 := blk_alloc_old (.cells #[.int .i64 hd, .int .i64 ln] 37) g2
      have gN := blk_alloc_old (.cells #[.int .i64 hd, .int .i64 ln] 37) (blk_alloc (wr.alloc (.cells #[.int .i64 x.kind, .int .i64 x.at_, .int .u64 x.x, .slice x.la x.ll.length x.lc] 54)) (.cells #[.int .i64 hd, .int .i64 ln] 37))
      have gO := blk_alloc ((wr.alloc (.cells #[.int .i64 x.kind, .int .i64 x.at_, .int .u64 x.x, .slice x.la x.ll.length x.lc] 54)).alloc (.cells #[.int .i64 hd, .int .i64 ln] 37)) (.cells #[.int .i64 hd, .int .i64 ln] 37)
      have hB0 : Bel wr (((wr.alloc (.cells #[.int .i64 x.kind, .int .i64 x.at_, .int .u64 x.x, .slice x.la x.ll.length x.lc] 54)).alloc (.cells #[.int .i64 hd, .int .i64 ln] 37)).alloc (.cells #[.int .i64 hd, .int .i64 ln] 37)) := (((Bel.refl wr).alloc _).alloc _).alloc _
      rw [World.size_alloc] at gN gO
      rw [World.size_alloc] at gO
      obtain ⟨b0, b1, _, _⟩ := two_cells g1
      obtain ⟨d0, d1, _, _⟩ := two_cells g2
      obtain ⟨r0, r1, r2, r3⟩ := act_cells hA3
      have HBT := Lib.hid hT.bel
      clear hra hT hrm hA1 g1 g2
      by_cases c4 : 20 < (x.ll.length : Int)
      · clear hA3 g3 gN gO hB0
        go_wp2_with fail
        refine (awake08 _).mono ?_; rintro e w' ⟨rfl, hB⟩
        go_wp2
        go_ret
        exact ⟨rfl, (HBT.out.alloc _).trans hB⟩
      have hK : x.kind = 0 ∨ x.kind = 1 ∨ x.kind = 2 ∨ (x.kind ≠ 0 ∧ x.kind ≠ 1 ∧ x.kind ≠ 2) := by omega
      have HK := Lib.hid hK
      have HX := Lib.hid hx
      have HA3 := Lib.hid hA3
      have HG3 := Lib.hid g3
      have HGN := Lib.hid gN
      have HGO := Lib.hid gO
      have HB0 := Lib.hid hB0
      have hs0 : wr.heap.size + 3 ≤ (((wr.alloc (.cells #[.int .i64 x.kind, .int .i64 x.at_, .int .u64 x.x, .slice x.la x.ll.length x.lc] 54)).alloc (.cells #[.int .i64 hd, .int .i64 ln] 37)).alloc (.cells #[.int .i64 hd, .int .i64 ln] 37)).heap.size := by rw [World.size_alloc, World.size_alloc, World.size_alloc]; omega
      clear hK hx hA3 g3 gN gO hB0
      go_upto_region 20 with fail
      clear q0 q1 q2 q3 p0 p1 p2 p3 b0 b1 d0 d1 r0 r1 r2 r3
      generalize (((wr.alloc (.cells #[.int .i64 x.kind, .int .i64 x.at_, .int .u64 x.x, .slice x.la x.ll.length x.lc] 54)).alloc (.cells #[.int .i64 hd, .int .i64 ln] 37)).alloc (.cells #[.int .i64 hd, .int .i64 ln] 37)) = W0 at HA3 HG3 HGN HGO HB0 hs0 ⊢
      have hl256 : ws.length = 256 := HT.out.len
      have HL := Lib.hid hl256
      have hw9 : ws ≠ [] := by intro h; rw [h] at hl256; simp at hl256
      have hal : ∀ V, Bel wr V → ∀ p, am = some p → p.block < V.heap.size := fun V hb p hp => by
        obtain ⟨p', e, h⟩ := rdv_block HRM.out (by simp [u64s]; exact hw9)
        rw [hp] at e; cases e
        have := hb.size
        omega
      have HAL := Lib.hid hal
      have hat := HX.out.at_
      clear hl256 hal
      rcases HK.out with k | k | k | k
      · have hk : x.kind = 0 := k
        have kk0 : (x.kind == 0) = true := by simpa using k
        clear k
        have HS0 := Lib.hid (sane_push x.ll (ws := ws) (hd := hd) (ln := ln) (by rw [HL.out]; omega) i1 i2)
        obtain ⟨r, hr⟩ : ∃ r, pushF ws hd ln x.ll = r := ⟨_, rfl⟩
        have CR : ∀ V, Bel wr V → Calls Try.prog 20 #[.slice am 256 cm, .agg #[.int .i64 hd, .int .i64 ln], .slice x.la x.ll.length x.lc] V (RCPost V am 256 r) := fun V hb => by
          have := ref8_Push am ws hd ln x.la x.ll cm x.lc V (by rw [HL.out]; omega) (HRM.out.bel hb) HT.out.ar.wf i1 i2 (HAL.out V hb) (by omega) HX.out.cap HX.out.ok (HX.out.rd.bel (HBT.out.trans hb))
          rw [HL.out, hr] at this
          exact this
        have CC : ∀ V, Bel w V → ArenaAt V ba (w.heap.size + 1) ws → Calls Try.prog 13 #[.pointer (some ⟨ba, 0, none⟩), .agg #[.int .i64 hd, .int .i64 ln], .slice x.la x.ll.length x.lc] V (CPost V ba (w.heap.size + 1) r) := fun V hb hA => by
          have := chain_Push ba (w.heap.size + 1) ws hd ln x.la x.ll x.lc V hA i1 i2 (by omega) HX.out.ok (HX.out.rd.bel hb) (fun h9 p hp => by obtain ⟨p', e, h⟩ := rdv_block HX.out.rd (by simp [ints]; exact h9); rw [hp] at e; cases e; omega)
          rw [hr] at this
          exact this
        rw [hr] at HS0
        obtain ⟨ws', hd', ln', e'⟩ := r
        obtain ⟨j1, j2, j3⟩ := HS0.out
        dsimp only at j1 j2 j3
        rw [HL.out] at j3
        have HJ3 := Lib.hid j3
        have HCR := Lib.hid CR
        have HCC := Lib.hid CC
        clear CR CC HS0 j3
        as_aux_lemma =>
          obtain ⟨f0, f1, _, _⟩ := two_cells HG3.out
          obtain ⟨_, _, _, r3⟩ := act_cells HA3.out
          go_wp2_with fail
          refine (HCR.out W0 HB0.out).mono ?_
          rintro e w1 ⟨am', cm', rfl, hr1, hp1, hB1⟩
          have hFB := Fr.of_bel (S := fun _ => False) hB1
          have gN1 := hFB.heap HGN.out (fun h => h)
          have gO1 := hFB.heap HGO.out (fun h => h)
          have gC1 := hFB.heap HG3.out (fun h => h)
          have hA1 := hFB.heap HA3.out (fun h => h)
          have hs1 := hB1.size
          have hF2 := fr_two' w1 (wr.heap.size + 1) (.int .i64 hd') (.int .i64 ln')
          have gN2 := (two_set gN1 (.int .i64 hd') (.int .i64 ln')).2.2
          have gC2 := hF2.heap gC1 (by show ¬ w.heap.size = wr.heap.size + 1; omega)
          have gO2 := hF2.heap gO1 (by show ¬ wr.heap.size + 1 + 1 = wr.heap.size + 1; omega)
          have hA2 := hF2.heap hA1 (by show ¬ wr.heap.size = wr.heap.size + 1; omega)
          have aN2 := arena_two (HT.out.ar.bel (HB0.out.trans hB1)) (R := wr.heap.size + 1) (by omega) (by omega) (.int .i64 hd') (.int .i64 ln')
          have hr2 := hr1.fr hF2 (fun p hp h => by rcases hp1 p hp with h9 | h9; (have := HAL.out wr (Bel.refl _) p (by rw [← h9, hp]); omega); omega)
          have hB2 : Bel w ((w1.setCell ⟨wr.heap.size + 1, 0, none⟩ (.int .i64 hd')).setCell ⟨wr.heap.size + 1, 1, none⟩ (.int .i64 ln')) :=
            Fr.bel (fr_two (S := fun _ => False) (Fr.of_bel ((HBT.out.trans HB0.out).trans hB1)) (R := wr.heap.size + 1) (by omega) _ _) (fun k h => h.elim)
          obtain ⟨t0, t1, t2, t3⟩ := two_cells gN1
          obtain ⟨y0, y1, _, _⟩ := two_cells gC2
          obtain ⟨_, _, _, v3⟩ := act_cells hA2
          have hnbm : ∀ p, am' = some p → w.heap.size + 2 ≤ p.block := fun p hp => by
            rcases hp1 p hp with h9 | h9
            · exact hnb p (by rw [← h9, hp])
            · omega
          have HNO : Hid (∀ p, am' = some p → p.block ≠ wr.heap.size + 1 + 1) := Lib.hid (fun p hp h => by
            rcases hp1 p hp with h9 | h9
            · have := HAL.out wr (Bel.refl _) p (by rw [← h9, hp]); omega
            · omega)
          have HH2 := Lib.hid (And.intro gN2 (And.intro gC2 (And.intro gO2 (And.intro aN2 (And.intro hr2 hB2)))))
          clear hFB gN1 gO1 gC1 hA1 hF2 gN2 gC2 gO2 hA2 aN2 hr2 hB2 hr1 hp1 hB1 f0 f1
          go_wp2_with fail
          refine (HCC.out _ HH2.out.2.2.2.2.2 HH2.out.2.2.2.1).mono ?_
          rintro e w3 ⟨rfl, hA3, hF3⟩
          have hs3 := hF3.size
          have hs3' : w1.heap.size ≤ w3.heap.size := by
            have e9 : ((w1.setCell ⟨wr.heap.size + 1, 0, none⟩ (.int .i64 hd')).setCell ⟨wr.heap.size + 1, 1, none⟩ (.int .i64 ln')).heap.size = w1.heap.size := by rw [World.size_setCell, World.size_setCell]
            omega
          have gN3 := hF3.heap HH2.out.1 (by show ¬ wr.heap.size + 1 = w.heap.size + 1; omega)
          have gC3 := hF3.heap HH2.out.2.1 (by show ¬ w.heap.size = w.heap.size + 1; omega)
          have gO3 := hF3.heap HH2.out.2.2.1 (by show ¬ wr.heap.size + 1 + 1 = w.heap.size + 1; omega)
          have hr3 := HH2.out.2.2.2.2.1.fr hF3 (fun p hp h => by have := hnbm p hp; omega)
          have hB3 := bel_fr HH2.out.2.2.2.2.2 hF3 (by omega)
          have hF4 := fr_two' w3 (wr.heap.size + 1 + 1) (.int .i64 hd') (.int .i64 ln')
          have gO4 := (two_set gO3 (.int .i64 hd') (.int .i64 ln')).2.2
          have gN4 := hF4.heap gN3 (by show ¬ wr.heap.size + 1 = wr.heap.size + 1 + 1; omega)
          have gC4 := hF4.heap gC3 (by show ¬ w.heap.size = wr.heap.size + 1 + 1; omega)
          have aN4 := arena_two hA3 (R := wr.heap.size + 1 + 1) (by omega) (by omega) (.int .i64 hd') (.int .i64 ln')
          have hr4 := hr3.fr hF4 (fun p hp h => by
            have h8 : p.block ≠ wr.heap.size + 1 + 1 := HNO.out p hp
            omega)
          have hB4 := Fr.bel (fr_two (S := fun _ => False) (Fr.of_bel hB3) (R := wr.heap.size + 1 + 1) (by omega) (.int .i64 hd') (.int .i64 ln')) (fun k h => h.elim)
          obtain ⟨t0', t1', t2', t3'⟩ := two_cells gO3
          clear t0 t1 t2 t3 y0 y1 hF3 gN3 gC3 gO3 hr3 hB3 hF4 hA3
          go_upto_region 29 with fail
          clear t0' t1' t2' t3'
          generalize (w3.setCell ⟨wr.heap.size + 1 + 1, 0, none⟩ (.int .i64 hd')).setCell ⟨wr.heap.size + 1 + 1, 1, none⟩ (.int .i64 ln') = W4 at gO4 gN4 gC4 aN4 hr4 hB4 ⊢
          obtain ⟨n0, n1, _, _⟩ := two_cells gN4
          obtain ⟨o0, o1, _, _⟩ := two_cells gO4
          obtain ⟨c0', c1', c2', c3'⟩ := two_cells gC4
          have e3 : (e' != e') = false := by simp
          have e1 : (hd' != hd') = false := by simp
          have e2 : (ln' != ln') = false := by simp

          have hF5 := fr_two' W4 w.heap.size (.int .i64 hd') (.int .i64 ln')
          have gC5 := (two_set gC4 (.int .i64 hd') (.int .i64 ln')).2.2
          have aN5 := arena_two aN4 (R := w.heap.size) (by omega) (by omega) (.int .i64 hd') (.int .i64 ln')
          have hr5 := hr4.fr hF5 (fun p hp h => by have := hnbm p hp; omega)
          have hB5 := Fr.bel (fr_two (S := fun _ => False) (Fr.of_bel hB4) (R := w.heap.size) (Nat.le_refl _) (.int .i64 hd') (.int .i64 ln')) (fun k h => h.elim)
          have HSt : Hid (St08 w ((W4.setCell ⟨w.heap.size, 0, none⟩ (.int .i64 hd')).setCell ⟨w.heap.size, 1, none⟩ (.int .i64 ln')) ba (.slice am' 256 cm') ws' hd' ln') := Lib.hid ⟨HJ3.out, aN5, ⟨_, _, rfl, hr5, hnbm⟩, hB5, gC5, j1, j2⟩
          obtain ⟨z0, z1, _, _⟩ := two_cells gC5
          clear gN4 gO4 gC4 hF5 gC5 aN5 hr5 hB5 aN4 hr4 hB4
          rcases chL_or ws' hd' ln' with ⟨l, hr, hch⟩ | ⟨hbad, hch⟩
          · have HR := Lib.hid hr
            have hsl := hr.small
            have HALL := Lib.hid (all_chain hch)
            have HJ3' := HJ3.out
            have hsl2 : l.length ≤ 256 := by omega
            have HJ := Lib.hid HJ3'
            clear hr hch hsl HJ3'
            go_wp2_with fail
            generalize (W4.setCell ⟨w.heap.size, 0, none⟩ (.int .i64 hd')).setCell ⟨w.heap.size, 1, none⟩ (.int .i64 ln') = W5 at HSt z0 z1 ⊢
            obtain ⟨_, _, e9, hrm5, _⟩ := HSt.out.m
            cases e9
            have CL := ref8_List_ok am' ws' hd' ln' l cm' W5 (by rw [HJ.out]; omega) hrm5 HSt.out.ar.wf HR.out
            rw [HJ.out] at CL
            have HCL := Lib.hid CL
            clear CL hrm5 n0 n1 o0 o1 c0' c1' c2' c3'
            refine HCL.out.mono ?_
            rintro e w6 ⟨v6, rfl, hN6, hB6⟩
            obtain ⟨a6, c6, rfl, hr6, _, _⟩ := own_slice2 hN6
            have HR6 := Lib.hid hr6
            have HB6 := Lib.hid hB6
            clear z0 z1
            obtain ⟨z0, z1, _, _⟩ := two_cells (HSt.out.then hB6).box
            clear hN6 hr6 hB6
            go_wp2_with fail
            refine (chain_List_ok _ ws' hd' ln' l w6 (.inr ⟨ba, _, rfl, (HSt.out.then HB6.out).ar⟩) HR.out).mono ?_
            rintro e w7 ⟨v7, rfl, hN7, hB7⟩
            obtain ⟨a7, c7, rfl, hr7, _, _⟩ := own_slice2 hN7
            have HR7 := Lib.hid hr7
            have HB67 := Lib.hid hB7
            have HB7 := Lib.hid (HB6.out.trans hB7)
            clear z0 z1
            obtain ⟨z0, z1, _, _⟩ := two_cells (HSt.out.then HB7.out).box
            clear hN7 hr7 hB7
            go_wp2_with fail
            refine (chain_Right (some ⟨ba, 0, none⟩) ws' (some ⟨w7.heap.size, 0, none⟩) [(hd', ln')] 1 1 _ (.inr ⟨ba, _, rfl, (HSt.out.then (HB7.out.alloc _)).ar⟩) rfl (by simp [maxLen]) (rdr_chain w7 hd' ln') (by intro y hy; simp at hy; subst hy; exact ⟨j1, j2⟩)).mono ?_
            rintro e w8 ⟨rfl, hB8⟩
            rw [HALL.out]
            have HB8 := Lib.hid (((Bel.refl w7).alloc (.cells #[.int .i64 hd', .int .i64 ln'] 37)).trans hB8)
            clear hB8 z0 z1
            go_wp2_with fail
            refine (ref_Ints a7 a6 l l _ c7 _ c6 w8 rfl rfl (by unfold maxLen; omega) (by unfold maxLen; omega) (HR7.out.bel HB8.out) (HR6.out.bel (HB67.out.trans HB8.out))).mono ?_
            rintro e w9 ⟨rfl, hB9⟩
            rw [dec_self]
            have HB9 := Lib.hid hB9
            clear hB9
            go_wp2
            go_roundw
            case rel => exact ⟨i + 1, by omega, by go_num, ws', hd', ln', HSt.out.then ((HB7.out.trans HB8.out).trans HB9.out)⟩
            case measure => simp [intOf]; omega
          · have HALL := Lib.hid (all_chain_no hch)
            have HBAD := Lib.hid hbad
            have HJ := HJ3
            clear hbad hch
            go_wp2_with fail
            generalize (W4.setCell ⟨w.heap.size, 0, none⟩ (.int .i64 hd')).setCell ⟨w.heap.size, 1, none⟩ (.int .i64 ln') = W5 at HSt z0 z1 ⊢
            obtain ⟨_, _, e9, hrm5, _⟩ := HSt.out.m
            cases e9
            have CL := ref8_List_bad am' ws' hd' ln' cm' W5 (by rw [HJ.out]; omega) hrm5 HSt.out.ar.wf j1 j2 HBAD.out
            rw [HJ.out] at CL
            have HCL := Lib.hid CL
            clear CL hrm5 n0 n1 o0 o1 c0' c1' c2' c3'
            refine HCL.out.mono ?_
            rintro e w6 ⟨l6, v6, rfl, hN6, hB6⟩
            have HB6 := Lib.hid hB6
            clear z0 z1
            obtain ⟨z0, z1, _, _⟩ := two_cells (HSt.out.then hB6).box
            clear hN6 hB6
            go_wp2_with fail
            refine (chain_List_bad _ ws' hd' ln' w6 (.inr ⟨ba, _, rfl, (HSt.out.then HB6.out).ar⟩) j1 j2 HBAD.out).mono ?_
            rintro e w7 ⟨rfl, hB7⟩
            have HB7 := Lib.hid (HB6.out.trans hB7)
            clear z0 z1
            obtain ⟨z0, z1, _, _⟩ := two_cells (HSt.out.then HB7.out).box
            clear hB7
            go_wp2_with fail
            refine (chain_Right (some ⟨ba, 0, none⟩) ws' (some ⟨w7.heap.size, 0, none⟩) [(hd', ln')] 1 1 _ (.inr ⟨ba, _, rfl, (HSt.out.then (HB7.out.alloc _)).ar⟩) rfl (by simp [maxLen]) (rdr_chain w7 hd' ln') (by intro y hy; simp at hy; subst hy; exact ⟨j1, j2⟩)).mono ?_
            rintro e w8 ⟨rfl, hB8⟩
            rw [HALL.out]
            have HB8 := Lib.hid (((Bel.refl w7).alloc (.cells #[.int .i64 hd', .int .i64 ln'] 37)).trans hB8)
            clear hB8 z0 z1
            go_wp2
            go_roundw
            case rel => exact ⟨i + 1, by omega, by go_num, ws', hd', ln', HSt.out.then (HB7.out.trans HB8.out)⟩
            case measure => simp [intOf]; omega
      · have k0 : x.kind ≠ 0 := by omega
        have kk0 : (x.kind == 0) = false := by rw [beq_eq_false_iff_ne]; exact k0
        have kk1 : (x.kind == 1) = true := by simpa using k
        clear k
        have HS0 := Lib.hid (sane_pop (ws := ws) (hd := hd) (ln := ln) (by rw [HL.out]; omega) i1 i2)
        obtain ⟨r, hr⟩ : ∃ r, popF ws hd ln = r := ⟨_, rfl⟩
        have CR : ∀ V, Bel wr V → Calls Try.prog 21 #[.slice am 256 cm, .agg #[.int .i64 hd, .int .i64 ln]] V (ROPost V am 256 r) := fun V hb => by
          have := ref8_Pop am ws hd ln cm V (by rw [HL.out]; omega) (HRM.out.bel hb) HT.out.ar.wf i1 i2 (HAL.out V hb)
          rw [HL.out, hr] at this
          exact this
        have CC : ∀ V, Bel w V → ArenaAt V ba (w.heap.size + 1) ws → Calls Try.prog 18 #[.pointer (some ⟨ba, 0, none⟩), .agg #[.int .i64 hd, .int .i64 ln]] V (PPost V ba (w.heap.size + 1) r) := fun V hb hA => by
          have := chain_Pop ba (w.heap.size + 1) ws hd ln V hA i1 i2
          rw [hr] at this
          exact this
        rw [hr] at HS0
        obtain ⟨⟨ws', hd', ln', e'⟩, pa⟩ := r
        obtain ⟨j1, j2, j3⟩ := HS0.out
        dsimp only at j1 j2 j3
        rw [HL.out] at j3
        have HJ3 := Lib.hid j3
        have HCR := Lib.hid CR
        have HCC := Lib.hid CC
        clear CR CC HS0 j3
        as_aux_lemma =>
          obtain ⟨f0, f1, _, _⟩ := two_cells HG3.out

          go_wp2_with fail
          refine (HCR.out W0 HB0.out).mono ?_
          rintro e w1 ⟨am', cm', rfl, hr1, hp1, hB1⟩
          have hFB := Fr.of_bel (S := fun _ => False) hB1
          have gN1 := hFB.heap HGN.out (fun h => h)
          have gO1 := hFB.heap HGO.out (fun h => h)
          have gC1 := hFB.heap HG3.out (fun h => h)
          have hA1 := hFB.heap HA3.out (fun h => h)
          have hs1 := hB1.size
          have hF2 := fr_two' w1 (wr.heap.size + 1) (.int .i64 hd') (.int .i64 ln')
          have gN2 := (two_set gN1 (.int .i64 hd') (.int .i64 ln')).2.2
          have gC2 := hF2.heap gC1 (by show ¬ w.heap.size = wr.heap.size + 1; omega)
          have gO2 := hF2.heap gO1 (by show ¬ wr.heap.size + 1 + 1 = wr.heap.size + 1; omega)
          have hA2 := hF2.heap hA1 (by show ¬ wr.heap.size = wr.heap.size + 1; omega)
          have aN2 := arena_two (HT.out.ar.bel (HB0.out.trans hB1)) (R := wr.heap.size + 1) (by omega) (by omega) (.int .i64 hd') (.int .i64 ln')
          have hr2 := hr1.fr hF2 (fun p hp h => by rcases hp1 p hp with h9 | h9; (have := HAL.out wr (Bel.refl _) p (by rw [← h9, hp]); omega); omega)
          have hB2 : Bel w ((w1.setCell ⟨wr.heap.size + 1, 0, none⟩ (.int .i64 hd')).setCell ⟨wr.heap.size + 1, 1, none⟩ (.int .i64 ln')) :=
            Fr.bel (fr_two (S := fun _ => False) (Fr.of_bel ((HBT.out.trans HB0.out).trans hB1)) (R := wr.heap.size + 1) (by omega) _ _) (fun k h => h.elim)
          obtain ⟨t0, t1, t2, t3⟩ := two_cells gN1
          obtain ⟨y0, y1, _, _⟩ := two_cells gC2

          have hnbm : ∀ p, am' = some p → w.heap.size + 2 ≤ p.block := fun p hp => by
            rcases hp1 p hp with h9 | h9
            · exact hnb p (by rw [← h9, hp])
            · omega
          have HNO : Hid (∀ p, am' = some p → p.block ≠ wr.heap.size + 1 + 1) := Lib.hid (fun p hp h => by
            rcases hp1 p hp with h9 | h9
            · have := HAL.out wr (Bel.refl _) p (by rw [← h9, hp]); omega
            · omega)
          have HH2 := Lib.hid (And.intro gN2 (And.intro gC2 (And.intro gO2 (And.intro aN2 (And.intro hr2 hB2)))))
          clear hFB gN1 gO1 gC1 hA1 hF2 gN2 gC2 gO2 hA2 aN2 hr2 hB2 hr1 hp1 hB1 f0 f1
          go_wp2_with fail
          refine (HCC.out _ HH2.out.2.2.2.2.2 HH2.out.2.2.2.1).mono ?_
          rintro e w3 ⟨rfl, hA3, hF3⟩
          have hs3 := hF3.size
          have hs3' : w1.heap.size ≤ w3.heap.size := by
            have e9 : ((w1.setCell ⟨wr.heap.size + 1, 0, none⟩ (.int .i64 hd')).setCell ⟨wr.heap.size + 1, 1, none⟩ (.int .i64 ln')).heap.size = w1.heap.size := by rw [World.size_setCell, World.size_setCell]
            omega
          have gN3 := hF3.heap HH2.out.1 (by show ¬ wr.heap.size + 1 = w.heap.size + 1; omega)
          have gC3 := hF3.heap HH2.out.2.1 (by show ¬ w.heap.size = w.heap.size + 1; omega)
          have gO3 := hF3.heap HH2.out.2.2.1 (by show ¬ wr.heap.size + 1 + 1 = w.heap.size + 1; omega)
          have hr3 := HH2.out.2.2.2.2.1.fr hF3 (fun p hp h => by have := hnbm p hp; omega)
          have hB3 := bel_fr HH2.out.2.2.2.2.2 hF3 (by omega)
          have hF4 := fr_two' w3 (wr.heap.size + 1 + 1) (.int .i64 hd') (.int .i64 ln')
          have gO4 := (two_set gO3 (.int .i64 hd') (.int .i64 ln')).2.2
          have gN4 := hF4.heap gN3 (by show ¬ wr.heap.size + 1 = wr.heap.size + 1 + 1; omega)
          have gC4 := hF4.heap gC3 (by show ¬ w.heap.size = wr.heap.size + 1 + 1; omega)
          have aN4 := arena_two hA3 (R := wr.heap.size + 1 + 1) (by omega) (by omega) (.int .i64 hd') (.int .i64 ln')
          have hr4 := hr3.fr hF4 (fun p hp h => by
            have h8 : p.block ≠ wr.heap.size + 1 + 1 := HNO.out p hp
            omega)
          have hB4 := Fr.bel (fr_two (S := fun _ => False) (Fr.of_bel hB3) (R := wr.heap.size + 1 + 1) (by omega) (.int .i64 hd') (.int .i64 ln')) (fun k h => h.elim)
          obtain ⟨t0', t1', t2', t3'⟩ := two_cells gO3
          clear t0 t1 t2 t3 y0 y1 hF3 gN3 gC3 gO3 hr3 hB3 hF4 hA3
          go_upto_region 29 with fail
          clear t0' t1' t2' t3'
          generalize (w3.setCell ⟨wr.heap.size + 1 + 1, 0, none⟩ (.int .i64 hd')).setCell ⟨wr.heap.size + 1 + 1, 1, none⟩ (.int .i64 ln') = W4 at gO4 gN4 gC4 aN4 hr4 hB4 ⊢
          obtain ⟨n0, n1, _, _⟩ := two_cells gN4
          obtain ⟨o0, o1, _, _⟩ := two_cells gO4
          obtain ⟨c0', c1', c2', c3'⟩ := two_cells gC4
          have e3 : (e' != e') = false := by simp
          have e1 : (hd' != hd') = false := by simp
          have e2 : (ln' != ln') = false := by simp
          have e4 : (pa != pa) = false := by simp
          have hF5 := fr_two' W4 w.heap.size (.int .i64 hd') (.int .i64 ln')
          have gC5 := (two_set gC4 (.int .i64 hd') (.int .i64 ln')).2.2
          have aN5 := arena_two aN4 (R := w.heap.size) (by omega) (by omega) (.int .i64 hd') (.int .i64 ln')
          have hr5 := hr4.fr hF5 (fun p hp h => by have := hnbm p hp; omega)
          have hB5 := Fr.bel (fr_two (S := fun _ => False) (Fr.of_bel hB4) (R := w.heap.size) (Nat.le_refl _) (.int .i64 hd') (.int .i64 ln')) (fun k h => h.elim)
          have HSt : Hid (St08 w ((W4.setCell ⟨w.heap.size, 0, none⟩ (.int .i64 hd')).setCell ⟨w.heap.size, 1, none⟩ (.int .i64 ln')) ba (.slice am' 256 cm') ws' hd' ln') := Lib.hid ⟨HJ3.out, aN5, ⟨_, _, rfl, hr5, hnbm⟩, hB5, gC5, j1, j2⟩
          obtain ⟨z0, z1, _, _⟩ := two_cells gC5
          clear gN4 gO4 gC4 hF5 gC5 aN5 hr5 hB5 aN4 hr4 hB4
          rcases chL_or ws' hd' ln' with ⟨l, hr, hch⟩ | ⟨hbad, hch⟩
          · have HR := Lib.hid hr
            have hsl := hr.small
            have HALL := Lib.hid (all_chain hch)
            have HJ3' := HJ3.out
            have hsl2 : l.length ≤ 256 := by omega
            have HJ := Lib.hid HJ3'
            clear hr hch hsl HJ3'
            go_wp2_with fail
            generalize (W4.setCell ⟨w.heap.size, 0, none⟩ (.int .i64 hd')).setCell ⟨w.heap.size, 1, none⟩ (.int .i64 ln') = W5 at HSt z0 z1 ⊢
            obtain ⟨_, _, e9, hrm5, _⟩ := HSt.out.m
            cases e9
            have CL := ref8_List_ok am' ws' hd' ln' l cm' W5 (by rw [HJ.out]; omega) hrm5 HSt.out.ar.wf HR.out
            rw [HJ.out] at CL
            have HCL := Lib.hid CL
            clear CL hrm5 n0 n1 o0 o1 c0' c1' c2' c3'
            refine HCL.out.mono ?_
            rintro e w6 ⟨v6, rfl, hN6, hB6⟩
            obtain ⟨a6, c6, rfl, hr6, _, _⟩ := own_slice2 hN6
            have HR6 := Lib.hid hr6
            have HB6 := Lib.hid hB6
            clear z0 z1
            obtain ⟨z0, z1, _, _⟩ := two_cells (HSt.out.then hB6).box
            clear hN6 hr6 hB6
            go_wp2_with fail
            refine (chain_List_ok _ ws' hd' ln' l w6 (.inr ⟨ba, _, rfl, (HSt.out.then HB6.out).ar⟩) HR.out).mono ?_
            rintro e w7 ⟨v7, rfl, hN7, hB7⟩
            obtain ⟨a7, c7, rfl, hr7, _, _⟩ := own_slice2 hN7
            have HR7 := Lib.hid hr7
            have HB67 := Lib.hid hB7
            have HB7 := Lib.hid (HB6.out.trans hB7)
            clear z0 z1
            obtain ⟨z0, z1, _, _⟩ := two_cells (HSt.out.then HB7.out).box
            clear hN7 hr7 hB7
            go_wp2_with fail
            refine (chain_Right (some ⟨ba, 0, none⟩) ws' (some ⟨w7.heap.size, 0, none⟩) [(hd', ln')] 1 1 _ (.inr ⟨ba, _, rfl, (HSt.out.then (HB7.out.alloc _)).ar⟩) rfl (by simp [maxLen]) (rdr_chain w7 hd' ln') (by intro y hy; simp at hy; subst hy; exact ⟨j1, j2⟩)).mono ?_
            rintro e w8 ⟨rfl, hB8⟩
            rw [HALL.out]
            have HB8 := Lib.hid (((Bel.refl w7).alloc (.cells #[.int .i64 hd', .int .i64 ln'] 37)).trans hB8)
            clear hB8 z0 z1
            go_wp2_with fail
            refine (ref_Ints a7 a6 l l _ c7 _ c6 w8 rfl rfl (by unfold maxLen; omega) (by unfold maxLen; omega) (HR7.out.bel HB8.out) (HR6.out.bel (HB67.out.trans HB8.out))).mono ?_
            rintro e w9 ⟨rfl, hB9⟩
            rw [dec_self]
            have HB9 := Lib.hid hB9
            clear hB9
            go_wp2
            go_roundw
            case rel => exact ⟨i + 1, by omega, by go_num, ws', hd', ln', HSt.out.then ((HB7.out.trans HB8.out).trans HB9.out)⟩
            case measure => simp [intOf]; omega
          · have HALL := Lib.hid (all_chain_no hch)
            have HBAD := Lib.hid hbad
            have HJ := HJ3
            clear hbad hch
            go_wp2_with fail
            generalize (W4.setCell ⟨w.heap.size, 0, none⟩ (.int .i64 hd')).setCell ⟨w.heap.size, 1, none⟩ (.int .i64 ln') = W5 at HSt z0 z1 ⊢
            obtain ⟨_, _, e9, hrm5, _⟩ := HSt.out.m
            cases e9
            have CL := ref8_List_bad am' ws' hd' ln' cm' W5 (by rw [HJ.out]; omega) hrm5 HSt.out.ar.wf j1 j2 HBAD.out
            rw [HJ.out] at CL
            have HCL := Lib.hid CL
            clear CL hrm5 n0 n1 o0 o1 c0' c1' c2' c3'
            refine HCL.out.mono ?_
            rintro e w6 ⟨l6, v6, rfl, hN6, hB6⟩
            have HB6 := Lib.hid hB6
            clear z0 z1
            obtain ⟨z0, z1, _, _⟩ := two_cells (HSt.out.then hB6).box
            clear hN6 hB6
            go_wp2_with fail
            refine (chain_List_bad _ ws' hd' ln' w6 (.inr ⟨ba, _, rfl, (HSt.out.then HB6.out).ar⟩) j1 j2 HBAD.out).mono ?_
            rintro e w7 ⟨rfl, hB7⟩
            have HB7 := Lib.hid (HB6.out.trans hB7)
            clear z0 z1
            obtain ⟨z0, z1, _, _⟩ := two_cells (HSt.out.then HB7.out).box
            clear hB7
            go_wp2_with fail
            refine (chain_Right (some ⟨ba, 0, none⟩) ws' (some ⟨w7.heap.size, 0, none⟩) [(hd', ln')] 1 1 _ (.inr ⟨ba, _, rfl, (HSt.out.then (HB7.out.alloc _)).ar⟩) rfl (by simp [maxLen]) (rdr_chain w7 hd' ln') (by intro y hy; simp at hy; subst hy; exact ⟨j1, j2⟩)).mono ?_
            rintro e w8 ⟨rfl, hB8⟩
            rw [HALL.out]
            have HB8 := Lib.hid (((Bel.refl w7).alloc (.cells #[.int .i64 hd', .int .i64 ln'] 37)).trans hB8)
            clear hB8 z0 z1
            go_wp2
            go_roundw
            case rel => exact ⟨i + 1, by omega, by go_num, ws', hd', ln', HSt.out.then (HB7.out.trans HB8.out)⟩
            case measure => simp [intOf]; omega
      · have k0 : x.kind ≠ 0 := by omega
        have k1 : x.kind ≠ 1 := by omega
        have kk0 : (x.kind == 0) = false := by rw [beq_eq_false_iff_ne]; exact k0
        have kk1 : (x.kind == 1) = false := by rw [beq_eq_false_iff_ne]; exact k1
        have kk2 : (x.kind == 2) = true := by simpa using k
        clear k
        have HS0 := Lib.hid (sane_rem x.at_ (ws := ws) (hd := hd) (ln := ln) (by rw [HL.out]; omega) i1 i2)
        obtain ⟨r, hr⟩ : ∃ r, remF ws hd ln x.at_ = r := ⟨_, rfl⟩
        have CR : ∀ V, Bel wr V → Calls Try.prog 22 #[.slice am 256 cm, .agg #[.int .i64 hd, .int .i64 ln], .int .i64 x.at_] V (RCPost V am 256 r) := fun V hb => by
          have := ref8_Remove am ws hd ln x.at_ cm V (by rw [HL.out]; omega) (HRM.out.bel hb) HT.out.ar.wf i1 i2 (HAL.out V hb) hat
          rw [HL.out, hr] at this
          exact this
        have CC : ∀ V, Bel w V → ArenaAt V ba (w.heap.size + 1) ws → Calls Try.prog 14 #[.pointer (some ⟨ba, 0, none⟩), .agg #[.int .i64 hd, .int .i64 ln], .int .i64 x.at_] V (CPost V ba (w.heap.size + 1) r) := fun V hb hA => by
          have := chain_Remove ba (w.heap.size + 1) ws hd ln x.at_ V hA i1 i2 hat
          rw [hr] at this
          exact this
        rw [hr] at HS0
        obtain ⟨ws', hd', ln', e'⟩ := r
        obtain ⟨j1, j2, j3⟩ := HS0.out
        dsimp only at j1 j2 j3
        rw [HL.out] at j3
        have HJ3 := Lib.hid j3
        have HCR := Lib.hid CR
        have HCC := Lib.hid CC
        clear CR CC HS0 j3
        as_aux_lemma =>
          obtain ⟨f0, f1, _, _⟩ := two_cells HG3.out
          obtain ⟨_, r1, _, _⟩ := act_cells HA3.out
          go_wp2_with fail
          refine (HCR.out W0 HB0.out).mono ?_
          rintro e w1 ⟨am', cm', rfl, hr1, hp1, hB1⟩
          have hFB := Fr.of_bel (S := fun _ => False) hB1
          have gN1 := hFB.heap HGN.out (fun h => h)
          have gO1 := hFB.heap HGO.out (fun h => h)
          have gC1 := hFB.heap HG3.out (fun h => h)
          have hA1 := hFB.heap HA3.out (fun h => h)
          have hs1 := hB1.size
          have hF2 := fr_two' w1 (wr.heap.size + 1) (.int .i64 hd') (.int .i64 ln')
          have gN2 := (two_set gN1 (.int .i64 hd') (.int .i64 ln')).2.2
          have gC2 := hF2.heap gC1 (by show ¬ w.heap.size = wr.heap.size + 1; omega)
          have gO2 := hF2.heap gO1 (by show ¬ wr.heap.size + 1 + 1 = wr.heap.size + 1; omega)
          have hA2 := hF2.heap hA1 (by show ¬ wr.heap.size = wr.heap.size + 1; omega)
          have aN2 := arena_two (HT.out.ar.bel (HB0.out.trans hB1)) (R := wr.heap.size + 1) (by omega) (by omega) (.int .i64 hd') (.int .i64 ln')
          have hr2 := hr1.fr hF2 (fun p hp h => by rcases hp1 p hp with h9 | h9; (have := HAL.out wr (Bel.refl _) p (by rw [← h9, hp]); omega); omega)
          have hB2 : Bel w ((w1.setCell ⟨wr.heap.size + 1, 0, none⟩ (.int .i64 hd')).setCell ⟨wr.heap.size + 1, 1, none⟩ (.int .i64 ln')) :=
            Fr.bel (fr_two (S := fun _ => False) (Fr.of_bel ((HBT.out.trans HB0.out).trans hB1)) (R := wr.heap.size + 1) (by omega) _ _) (fun k h => h.elim)
          obtain ⟨t0, t1, t2, t3⟩ := two_cells gN1
          obtain ⟨y0, y1, _, _⟩ := two_cells gC2
          obtain ⟨_, v1, _, _⟩ := act_cells hA2
          have hnbm : ∀ p, am' = some p → w.heap.size + 2 ≤ p.block := fun p hp => by
            rcases hp1 p hp with h9 | h9
            · exact hnb p (by rw [← h9, hp])
            · omega
          have HNO : Hid (∀ p, am' = some p → p.block ≠ wr.heap.size + 1 + 1) := Lib.hid (fun p hp h => by
            rcases hp1 p hp with h9 | h9
            · have := HAL.out wr (Bel.refl _) p (by rw [← h9, hp]); omega
            · omega)
          have HH2 := Lib.hid (And.intro gN2 (And.intro gC2 (And.intro gO2 (And.intro aN2 (And.intro hr2 hB2)))))
          clear hFB gN1 gO1 gC1 hA1 hF2 gN2 gC2 gO2 hA2 aN2 hr2 hB2 hr1 hp1 hB1 f0 f1
          go_wp2_with fail
          refine (HCC.out _ HH2.out.2.2.2.2.2 HH2.out.2.2.2.1).mono ?_
          rintro e w3 ⟨rfl, hA3, hF3⟩
          have hs3 := hF3.size
          have hs3' : w1.heap.size ≤ w3.heap.size := by
            have e9 : ((w1.setCell ⟨wr.heap.size + 1, 0, none⟩ (.int .i64 hd')).setCell ⟨wr.heap.size + 1, 1, none⟩ (.int .i64 ln')).heap.size = w1.heap.size := by rw [World.size_setCell, World.size_setCell]
            omega
          have gN3 := hF3.heap HH2.out.1 (by show ¬ wr.heap.size + 1 = w.heap.size + 1; omega)
          have gC3 := hF3.heap HH2.out.2.1 (by show ¬ w.heap.size = w.heap.size + 1; omega)
          have gO3 := hF3.heap HH2.out.2.2.1 (by show ¬ wr.heap.size + 1 + 1 = w.heap.size + 1; omega)
          have hr3 := HH2.out.2.2.2.2.1.fr hF3 (fun p hp h => by have := hnbm p hp; omega)
          have hB3 := bel_fr HH2.out.2.2.2.2.2 hF3 (by omega)
          have hF4 := fr_two' w3 (wr.heap.size + 1 + 1) (.int .i64 hd') (.int .i64 ln')
          have gO4 := (two_set gO3 (.int .i64 hd') (.int .i64 ln')).2.2
          have gN4 := hF4.heap gN3 (by show ¬ wr.heap.size + 1 = wr.heap.size + 1 + 1; omega)
          have gC4 := hF4.heap gC3 (by show ¬ w.heap.size = wr.heap.size + 1 + 1; omega)
          have aN4 := arena_two hA3 (R := wr.heap.size + 1 + 1) (by omega) (by omega) (.int .i64 hd') (.int .i64 ln')
          have hr4 := hr3.fr hF4 (fun p hp h => by
            have h8 : p.block ≠ wr.heap.size + 1 + 1 := HNO.out p hp
            omega)
          have hB4 := Fr.bel (fr_two (S := fun _ => False) (Fr.of_bel hB3) (R := wr.heap.size + 1 + 1) (by omega) (.int .i64 hd') (.int .i64 ln')) (fun k h => h.elim)
          obtain ⟨t0', t1', t2', t3'⟩ := two_cells gO3
          clear t0 t1 t2 t3 y0 y1 hF3 gN3 gC3 gO3 hr3 hB3 hF4 hA3
          go_upto_region 29 with fail
          clear t0' t1' t2' t3'
          generalize (w3.setCell ⟨wr.heap.size + 1 + 1, 0, none⟩ (.int .i64 hd')).setCell ⟨wr.heap.size + 1 + 1, 1, none⟩ (.int .i64 ln') = W4 at gO4 gN4 gC4 aN4 hr4 hB4 ⊢
          obtain ⟨n0, n1, _, _⟩ := two_cells gN4
          obtain ⟨o0, o1, _, _⟩ := two_cells gO4
          obtain ⟨c0', c1', c2', c3'⟩ := two_cells gC4
          have e3 : (e' != e') = false := by simp
          have e1 : (hd' != hd') = false := by simp
          have e2 : (ln' != ln') = false := by simp

          have hF5 := fr_two' W4 w.heap.size (.int .i64 hd') (.int .i64 ln')
          have gC5 := (two_set gC4 (.int .i64 hd') (.int .i64 ln')).2.2
          have aN5 := arena_two aN4 (R := w.heap.size) (by omega) (by omega) (.int .i64 hd') (.int .i64 ln')
          have hr5 := hr4.fr hF5 (fun p hp h => by have := hnbm p hp; omega)
          have hB5 := Fr.bel (fr_two (S := fun _ => False) (Fr.of_bel hB4) (R := w.heap.size) (Nat.le_refl _) (.int .i64 hd') (.int .i64 ln')) (fun k h => h.elim)
          have HSt : Hid (St08 w ((W4.setCell ⟨w.heap.size, 0, none⟩ (.int .i64 hd')).setCell ⟨w.heap.size, 1, none⟩ (.int .i64 ln')) ba (.slice am' 256 cm') ws' hd' ln') := Lib.hid ⟨HJ3.out, aN5, ⟨_, _, rfl, hr5, hnbm⟩, hB5, gC5, j1, j2⟩
          obtain ⟨z0, z1, _, _⟩ := two_cells gC5
          clear gN4 gO4 gC4 hF5 gC5 aN5 hr5 hB5 aN4 hr4 hB4
          rcases chL_or ws' hd' ln' with ⟨l, hr, hch⟩ | ⟨hbad, hch⟩
          · have HR := Lib.hid hr
            have hsl := hr.small
            have HALL := Lib.hid (all_chain hch)
            have HJ3' := HJ3.out
            have hsl2 : l.length ≤ 256 := by omega
            have HJ := Lib.hid HJ3'
            clear hr hch hsl HJ3'
            go_wp2_with fail
            generalize (W4.setCell ⟨w.heap.size, 0, none⟩ (.int .i64 hd')).setCell ⟨w.heap.size, 1, none⟩ (.int .i64 ln') = W5 at HSt z0 z1 ⊢
            obtain ⟨_, _, e9, hrm5, _⟩ := HSt.out.m
            cases e9
            have CL := ref8_List_ok am' ws' hd' ln' l cm' W5 (by rw [HJ.out]; omega) hrm5 HSt.out.ar.wf HR.out
            rw [HJ.out] at CL
            have HCL := Lib.hid CL
            clear CL hrm5 n0 n1 o0 o1 c0' c1' c2' c3'
            refine HCL.out.mono ?_
            rintro e w6 ⟨v6, rfl, hN6, hB6⟩
            obtain ⟨a6, c6, rfl, hr6, _, _⟩ := own_slice2 hN6
            have HR6 := Lib.hid hr6
            have HB6 := Lib.hid hB6
            clear z0 z1
            obtain ⟨z0, z1, _, _⟩ := two_cells (HSt.out.then hB6).box
            clear hN6 hr6 hB6
            go_wp2_with fail
            refine (chain_List_ok _ ws' hd' ln' l w6 (.inr ⟨ba, _, rfl, (HSt.out.then HB6.out).ar⟩) HR.out).mono ?_
            rintro e w7 ⟨v7, rfl, hN7, hB7⟩
            obtain ⟨a7, c7, rfl, hr7, _, _⟩ := own_slice2 hN7
            have HR7 := Lib.hid hr7
            have HB67 := Lib.hid hB7
            have HB7 := Lib.hid (HB6.out.trans hB7)
            clear z0 z1
            obtain ⟨z0, z1, _, _⟩ := two_cells (HSt.out.then HB7.out).box
            clear hN7 hr7 hB7
            go_wp2_with fail
            refine (chain_Right (some ⟨ba, 0, none⟩) ws' (some ⟨w7.heap.size, 0, none⟩) [(hd', ln')] 1 1 _ (.inr ⟨ba, _, rfl, (HSt.out.then (HB7.out.alloc _)).ar⟩) rfl (by simp [maxLen]) (rdr_chain w7 hd' ln') (by intro y hy; simp at hy; subst hy; exact ⟨j1, j2⟩)).mono ?_
            rintro e w8 ⟨rfl, hB8⟩
            rw [HALL.out]
            have HB8 := Lib.hid (((Bel.refl w7).alloc (.cells #[.int .i64 hd', .int .i64 ln'] 37)).trans hB8)
            clear hB8 z0 z1
            go_wp2_with fail
            refine (ref_Ints a7 a6 l l _ c7 _ c6 w8 rfl rfl (by unfold maxLen; omega) (by unfold maxLen; omega) (HR7.out.bel HB8.out) (HR6.out.bel (HB67.out.trans HB8.out))).mono ?_
            rintro e w9 ⟨rfl, hB9⟩
            rw [dec_self]
            have HB9 := Lib.hid hB9
            clear hB9
            go_wp2
            go_roundw
            case rel => exact ⟨i + 1, by omega, by go_num, ws', hd', ln', HSt.out.then ((HB7.out.trans HB8.out).trans HB9.out)⟩
            case measure => simp [intOf]; omega
          · have HALL := Lib.hid (all_chain_no hch)
            have HBAD := Lib.hid hbad
            have HJ := HJ3
            clear hbad hch
            go_wp2_with fail
            generalize (W4.setCell ⟨w.heap.size, 0, none⟩ (.int .i64 hd')).setCell ⟨w.heap.size, 1, none⟩ (.int .i64 ln') = W5 at HSt z0 z1 ⊢
            obtain ⟨_, _, e9, hrm5, _⟩ := HSt.out.m
            cases e9
            have CL := ref8_List_bad am' ws' hd' ln' cm' W5 (by rw [HJ.out]; omega) hrm5 HSt.out.ar.wf j1 j2 HBAD.out
            rw [HJ.out] at CL
            have HCL := Lib.hid CL
            clear CL hrm5 n0 n1 o0 o1 c0' c1' c2' c3'
            refine HCL.out.mono ?_
            rintro e w6 ⟨l6, v6, rfl, hN6, hB6⟩
            have HB6 := Lib.hid hB6
            clear z0 z1
            obtain ⟨z0, z1, _, _⟩ := two_cells (HSt.out.then hB6).box
            clear hN6 hB6
            go_wp2_with fail
            refine (chain_List_bad _ ws' hd' ln' w6 (.inr ⟨ba, _, rfl, (HSt.out.then HB6.out).ar⟩) j1 j2 HBAD.out).mono ?_
            rintro e w7 ⟨rfl, hB7⟩
            have HB7 := Lib.hid (HB6.out.trans hB7)
            clear z0 z1
            obtain ⟨z0, z1, _, _⟩ := two_cells (HSt.out.then HB7.out).box
            clear hB7
            go_wp2_with fail
            refine (chain_Right (some ⟨ba, 0, none⟩) ws' (some ⟨w7.heap.size, 0, none⟩) [(hd', ln')] 1 1 _ (.inr ⟨ba, _, rfl, (HSt.out.then (HB7.out.alloc _)).ar⟩) rfl (by simp [maxLen]) (rdr_chain w7 hd' ln') (by intro y hy; simp at hy; subst hy; exact ⟨j1, j2⟩)).mono ?_
            rintro e w8 ⟨rfl, hB8⟩
            rw [HALL.out]
            have HB8 := Lib.hid (((Bel.refl w7).alloc (.cells #[.int .i64 hd', .int .i64 ln'] 37)).trans hB8)
            clear hB8 z0 z1
            go_wp2
            go_roundw
            case rel => exact ⟨i + 1, by omega, by go_num, ws', hd', ln', HSt.out.then (HB7.out.trans HB8.out)⟩
            case measure => simp [intOf]; omega
      · obtain ⟨k0, k1, k2⟩ := k
        have kk0 : (x.kind == 0) = false := by rw [beq_eq_false_iff_ne]; exact k0
        have kk1 : (x.kind == 1) = false := by rw [beq_eq_false_iff_ne]; exact k1
        have kk2 : (x.kind == 2) = false := by rw [beq_eq_false_iff_ne]; exact k2
        have hxx := HX.out.xw
        obtain ⟨ws', hws⟩ : ∃ l, stW ws x.at_ [x.x] = l := ⟨_, rfl⟩
        have hl9 : ws'.length = 256 := by rw [← hws, stW_length]; exact HL.out
        have HJ3 := Lib.hid hl9
        have CR : ∀ V g, Bel wr V → RdV V (some ⟨g, 0, none⟩) (u64s [x.x]) → Calls Try.prog 10 #[.slice am 256 cm, .int .i64 x.at_, .slice (some ⟨g, 0, none⟩) 1 1] V (fun e V' => ∃ a' c', e = .returned (.tuple #[.slice a' 256 c', .int .i64 (okE (inB 256 x.at_ 1))]) ∧ RdV V' a' (u64s ws') ∧ (∀ p, a' = some p → a' = am ∨ V.heap.size ≤ p.block) ∧ Bel V V') := fun V g hb hg => by
          have := ref_Store am (some ⟨g, 0, none⟩) ws [x.x] x.at_ cm 1 V (by rw [HL.out]; omega) (by simp [maxLen]) hat (HRM.out.bel hb) hg hw9
          rw [HL.out] at this
          refine this.mono ?_
          rintro e V' ⟨a', c', rfl, h1, h2, h3⟩
          rw [HL.out]
          rw [hws] at h1
          exact ⟨a', c', rfl, h1, h2, h3⟩
        have CC : ∀ V g, RdV V (some ⟨g, 0, none⟩) (u64s [x.x]) → ArenaAt V ba (w.heap.size + 1) ws → Calls Try.prog 9 #[.pointer (some ⟨ba, 0, none⟩), .int .i64 x.at_, .slice (some ⟨g, 0, none⟩) 1 1] V (fun e V' => e = .returned (.int .i64 (okE (inB 256 x.at_ 1))) ∧ ArenaAt V' ba (w.heap.size + 1) ws' ∧ Fr (fun k => k = w.heap.size + 1) V V') := fun V g hg hA => by
          have := arena_Store ba (w.heap.size + 1) ws [x.x] x.at_ (some ⟨g, 0, none⟩) 1 1 V hA hat rfl (by simp [maxLen]) hg (by intro y hy; simp at hy; omega)
          rw [HL.out, hws] at this
          exact this
        have HCR := Lib.hid CR
        have HCC := Lib.hid CC
        have HNW : Hid (∀ W : World, RdV (W.alloc (.cells #[.int .u64 x.x] 30)) (some ⟨W.heap.size, 0, none⟩) (u64s [x.x])) := Lib.hid (fun W => RdV.new W #[.int .u64 x.x] 30)
        obtain ⟨e', he'⟩ : ∃ e', okE (inB 256 x.at_ 1) = e' := ⟨_, rfl⟩
        rw [he'] at HCR HCC
        have j1 := i1
        have j2 := i2
        clear CR CC hl9 hws k0 k1 k2 he'
        as_aux_lemma =>
          obtain ⟨_, r1, r2, _⟩ := act_cells HA3.out
          go_wp2_with fail
          refine (HCR.out _ _ (HB0.out.alloc _) (HNW.out _)).mono ?_
          rintro e w1 ⟨am', cm', rfl, hr1, hp1, hB1⟩
          have hB1' := ((Bel.refl W0).alloc _).trans hB1
          have hFB := Fr.of_bel (S := fun _ => False) hB1'
          have gN1 := hFB.heap HGN.out (fun h => h)
          have gO1 := hFB.heap HGO.out (fun h => h)
          have gC1 := hFB.heap HG3.out (fun h => h)
          have hA1 := hFB.heap HA3.out (fun h => h)
          have hs1 := hB1'.size
          obtain ⟨_, v1, v2, _⟩ := act_cells hA1
          have hnbm : ∀ p, am' = some p → w.heap.size + 2 ≤ p.block := fun p hp => by
            rcases hp1 p hp with h9 | h9
            · exact hnb p (by rw [← h9, hp])
            · rw [World.size_alloc] at h9; omega
          have aN1 := HT.out.ar.bel (HB0.out.trans hB1')
          have HH2 := Lib.hid (And.intro gN1 (And.intro gC1 (And.intro gO1 (And.intro aN1 (And.intro hr1 ((HBT.out.trans HB0.out).trans hB1'))))))
          clear hFB gN1 gO1 gC1 hA1 aN1 hr1 hp1 hB1 hB1' r1 r2
          go_wp2_with fail
          refine (HCC.out _ _ (HNW.out _) (HH2.out.2.2.2.1.bel ((Bel.refl _).alloc _))).mono ?_
          rintro e w3 ⟨rfl, hA3, hF3'⟩
          have hF3 : Fr (fun k => k = w.heap.size + 1) w1 w3 := (Fr.of_bel ((Bel.refl w1).alloc _)).trans' hF3'
          have gN4 := hF3.heap HH2.out.1 (by show ¬ wr.heap.size + 1 = w.heap.size + 1; omega)
          have gC4 := hF3.heap HH2.out.2.1 (by show ¬ w.heap.size = w.heap.size + 1; omega)
          have gO4 := hF3.heap HH2.out.2.2.1 (by show ¬ wr.heap.size + 1 + 1 = w.heap.size + 1; omega)
          have hr4 := HH2.out.2.2.2.2.1.fr hF3 (fun p hp h => by have := hnbm p hp; omega)
          have hB4 := bel_fr HH2.out.2.2.2.2.2 hF3 (by omega)
          have aN4 := hA3
          clear hF3 hF3' hA3 v1 v2
          go_upto_region 29 with fail
          generalize w3 = W4 at gO4 gN4 gC4 aN4 hr4 hB4 ⊢
          obtain ⟨n0, n1, _, _⟩ := two_cells gN4
          obtain ⟨o0, o1, _, _⟩ := two_cells gO4
          obtain ⟨c0', c1', c2', c3'⟩ := two_cells gC4
          have e3 : (e' != e') = false := by simp
          have e1 : (hd != hd) = false := by simp
          have e2 : (ln != ln) = false := by simp

          have hF5 := fr_two' W4 w.heap.size (.int .i64 hd) (.int .i64 ln)
          have gC5 := (two_set gC4 (.int .i64 hd) (.int .i64 ln)).2.2
          have aN5 := arena_two aN4 (R := w.heap.size) (by omega) (by omega) (.int .i64 hd) (.int .i64 ln)
          have hr5 := hr4.fr hF5 (fun p hp h => by have := hnbm p hp; omega)
          have hB5 := Fr.bel (fr_two (S := fun _ => False) (Fr.of_bel hB4) (R := w.heap.size) (Nat.le_refl _) (.int .i64 hd) (.int .i64 ln)) (fun k h => h.elim)
          have HSt : Hid (St08 w ((W4.setCell ⟨w.heap.size, 0, none⟩ (.int .i64 hd)).setCell ⟨w.heap.size, 1, none⟩ (.int .i64 ln)) ba (.slice am' 256 cm') ws' hd ln) := Lib.hid ⟨HJ3.out, aN5, ⟨_, _, rfl, hr5, hnbm⟩, hB5, gC5, j1, j2⟩
          obtain ⟨z0, z1, _, _⟩ := two_cells gC5
          clear gN4 gO4 gC4 hF5 gC5 aN5 hr5 hB5 aN4 hr4 hB4
          rcases chL_or ws' hd ln with ⟨l, hr, hch⟩ | ⟨hbad, hch⟩
          · have HR := Lib.hid hr
            have hsl := hr.small
            have HALL := Lib.hid (all_chain hch)
            have HJ3' := HJ3.out
            have hsl2 : l.length ≤ 256 := by omega
            have HJ := Lib.hid HJ3'
            clear hr hch hsl HJ3'
            go_wp2_with fail
            generalize (W4.setCell ⟨w.heap.size, 0, none⟩ (.int .i64 hd)).setCell ⟨w.heap.size, 1, none⟩ (.int .i64 ln) = W5 at HSt z0 z1 ⊢
            obtain ⟨_, _, e9, hrm5, _⟩ := HSt.out.m
            cases e9
            have CL := ref8_List_ok am' ws' hd ln l cm' W5 (by rw [HJ.out]; omega) hrm5 HSt.out.ar.wf HR.out
            rw [HJ.out] at CL
            have HCL := Lib.hid CL
            clear CL hrm5 n0 n1 o0 o1 c0' c1' c2' c3'
            refine HCL.out.mono ?_
            rintro e w6 ⟨v6, rfl, hN6, hB6⟩
            obtain ⟨a6, c6, rfl, hr6, _, _⟩ := own_slice2 hN6
            have HR6 := Lib.hid hr6
            have HB6 := Lib.hid hB6
            clear z0 z1
            obtain ⟨z0, z1, _, _⟩ := two_cells (HSt.out.then hB6).box
            clear hN6 hr6 hB6
            go_wp2_with fail
            refine (chain_List_ok _ ws' hd ln l w6 (.inr ⟨ba, _, rfl, (HSt.out.then HB6.out).ar⟩) HR.out).mono ?_
            rintro e w7 ⟨v7, rfl, hN7, hB7⟩
            obtain ⟨a7, c7, rfl, hr7, _, _⟩ := own_slice2 hN7
            have HR7 := Lib.hid hr7
            have HB67 := Lib.hid hB7
            have HB7 := Lib.hid (HB6.out.trans hB7)
            clear z0 z1
            obtain ⟨z0, z1, _, _⟩ := two_cells (HSt.out.then HB7.out).box
            clear hN7 hr7 hB7
            go_wp2_with fail
            refine (chain_Right (some ⟨ba, 0, none⟩) ws' (some ⟨w7.heap.size, 0, none⟩) [(hd, ln)] 1 1 _ (.inr ⟨ba, _, rfl, (HSt.out.then (HB7.out.alloc _)).ar⟩) rfl (by simp [maxLen]) (rdr_chain w7 hd ln) (by intro y hy; simp at hy; subst hy; exact ⟨j1, j2⟩)).mono ?_
            rintro e w8 ⟨rfl, hB8⟩
            rw [HALL.out]
            have HB8 := Lib.hid (((Bel.refl w7).alloc (.cells #[.int .i64 hd, .int .i64 ln] 37)).trans hB8)
            clear hB8 z0 z1
            go_wp2_with fail
            refine (ref_Ints a7 a6 l l _ c7 _ c6 w8 rfl rfl (by unfold maxLen; omega) (by unfold maxLen; omega) (HR7.out.bel HB8.out) (HR6.out.bel (HB67.out.trans HB8.out))).mono ?_
            rintro e w9 ⟨rfl, hB9⟩
            rw [dec_self]
            have HB9 := Lib.hid hB9
            clear hB9
            go_wp2
            go_roundw
            case rel => exact ⟨i + 1, by omega, by go_num, ws', hd, ln, HSt.out.then ((HB7.out.trans HB8.out).trans HB9.out)⟩
            case measure => simp [intOf]; omega
          · have HALL := Lib.hid (all_chain_no hch)
            have HBAD := Lib.hid hbad
            have HJ := HJ3
            clear hbad hch
            go_wp2_with fail
            generalize (W4.setCell ⟨w.heap.size, 0, none⟩ (.int .i64 hd)).setCell ⟨w.heap.size, 1, none⟩ (.int .i64 ln) = W5 at HSt z0 z1 ⊢
            obtain ⟨_, _, e9, hrm5, _⟩ := HSt.out.m
            cases e9
            have CL := ref8_List_bad am' ws' hd ln cm' W5 (by rw [HJ.out]; omega) hrm5 HSt.out.ar.wf j1 j2 HBAD.out
            rw [HJ.out] at CL
            have HCL := Lib.hid CL
            clear CL hrm5 n0 n1 o0 o1 c0' c1' c2' c3'
            refine HCL.out.mono ?_
            rintro e w6 ⟨l6, v6, rfl, hN6, hB6⟩
            have HB6 := Lib.hid hB6
            clear z0 z1
            obtain ⟨z0, z1, _, _⟩ := two_cells (HSt.out.then hB6).box
            clear hN6 hB6
            go_wp2_with fail
            refine (chain_List_bad _ ws' hd ln w6 (.inr ⟨ba, _, rfl, (HSt.out.then HB6.out).ar⟩) j1 j2 HBAD.out).mono ?_
            rintro e w7 ⟨rfl, hB7⟩
            have HB7 := Lib.hid (HB6.out.trans hB7)
            clear z0 z1
            obtain ⟨z0, z1, _, _⟩ := two_cells (HSt.out.then HB7.out).box
            clear hB7
            go_wp2_with fail
            refine (chain_Right (some ⟨ba, 0, none⟩) ws' (some ⟨w7.heap.size, 0, none⟩) [(hd, ln)] 1 1 _ (.inr ⟨ba, _, rfl, (HSt.out.then (HB7.out.alloc _)).ar⟩) rfl (by simp [maxLen]) (rdr_chain w7 hd ln) (by intro y hy; simp at hy; subst hy; exact ⟨j1, j2⟩)).mono ?_
            rintro e w8 ⟨rfl, hB8⟩
            rw [HALL.out]
            have HB8 := Lib.hid (((Bel.refl w7).alloc (.cells #[.int .i64 hd, .int .i64 ln] 37)).trans hB8)
            clear hB8 z0 z1
            go_wp2
            go_roundw
            case rel => exact ⟨i + 1, by omega, by go_num, ws', hd, ln, HSt.out.then (HB7.out.trans HB8.out)⟩
            case measure => simp [intOf]; omega
    · obtain rfl : i = xs.length := by omega
      have hra := row_all HT.out.len
      have CW := arena_Row (.pointer (some ⟨ba, 0, none⟩)) ws 0 256 wr (.inr ⟨ba, _, rfl, HT.out.ar⟩) ⟨by omega, by omega⟩ ⟨by omega, by omega⟩
      have HCW := Lib.hid CW
      have HRA := Lib.hid hra
      have HL := Lib.hid HT.out.len
      have hls : ws.length ≤ 65536 := HT.out.ar.small
      clear CW hra hT hrm
      go_wp2_with fail
      refine HCW.out.mono ?_
      rintro e w2 ⟨v, rfl, hN, hB2⟩
      rw [HRA.out.1] at hN
      rw [HRA.out.2, okE_true]
      obtain ⟨a2, c2, rfl, hr2, _, _⟩ := own_slice2 hN
      have HR2 := Lib.hid hr2
      have HB2 := Lib.hid hB2
      clear hN hr2 hB2
      go_wp2_with fail
      refine (ref_Same a2 am ws ws _ c2 _ cm w2 rfl HL.out.symm (by unfold maxLen; omega) (by unfold maxLen; omega) HR2.out (HRM.out.bel HB2.out)).mono ?_
      rintro e w3 ⟨rfl, hB3⟩
      rw [dec_self]
      go_wp2_with fail
      refine (awake08 _).mono ?_; rintro e w' ⟨rfl, hB⟩
      go_wp2
      go_ret
      exact ⟨rfl, ((HT.out.bel.trans HB2.out).trans hB3).trans hB⟩
end Go.Proofs.Ytnehccndghkakaa
