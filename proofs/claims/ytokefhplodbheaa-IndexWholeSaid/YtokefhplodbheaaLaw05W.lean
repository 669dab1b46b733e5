/- Layer 5: the runs of all numbers are all pages, each once. -/
import Derived.Test.YtokefhplodbheaaLaw05P
import Derived.Test.YtokefhplodbheaaPSeen
namespace Go.Proofs.Ytokefhplodbheaa
open Go.ChangeShapes Go.WideShapes Go.ChangeAt Go.RowKit Go.Deep

/-- A block of numbers. -/
def Blk5 (w : World) (g : Nat) (xs : List Int) : Prop := w.heap[g]? = some (.cells (ints xs).toArray 3 (0, 0))
theorem Blk5.bel {w w' : World} {g : Nat} {xs : List Int} (h : Blk5 w g xs) (k : Bel w w') : Blk5 w' g xs := (k.block g (heap_lt h)).trans h
theorem Blk5.cell {w : World} {g : Nat} {xs : List Int} (h : Blk5 w g xs) {t : Nat} (ht : t < xs.length) : w.cell? ⟨g, t, none⟩ = some (.int .i64 (wd xs (t : Int))) := by
  rw [blk_cell h, List.getElem?_toArray]; exact out_get ht
theorem Blk5.set {w : World} {g : Nat} {xs : List Int} (h : Blk5 w g xs) (t : Nat) (v : Int) : Blk5 (w.setCell ⟨g, t, none⟩ (.int .i64 v)) g (setW xs t v) := by
  have := blk_setCell h t (.int .i64 v)
  rw [List.setIfInBounds_toArray, out_set] at this
  exact this

set_option maxHeartbeats 4000000 in
set_option maxRecDepth 20000 in
theorem indexWhole_walk (pages : Int) (s : Option Addr) (xs : List Act05) (n c : Nat) (w : World) (hp : I64 pages) (hA : Acts05 w s n xs) :
    Calls Try.prog 4 #[.int .i64 pages, .slice s n c] w fun e w' => e = .returned (.bool true) ∧ Bel w w' := by
  obtain ⟨rfl, hl, hrd, hok⟩ := hA
  have hx1 : xs.length ≤ 9223372036854775807 := by unfold maxLen at hl; omega
  by_cases c0 : 100 < (xs.length : Int)
  · clear hrd hok
    go_enter Try.func4, Try.ntmps4
    go_wp2_with fail
    refine (awake05 _).mono ?_; rintro e w' ⟨rfl, hB⟩
    go_wp2
    go_ret
    exact ⟨rfl, hB⟩
  have c1 : xs.length ≤ 100 := by omega
  have HRD := Lib.hid hrd
  have HOK := Lib.hid hok
  clear c0 hrd hok hl
  go_enter Try.func4, Try.ntmps4
  go_wp2_with fail
  refine (index_New pages w hp).mono ?_
  rintro e w1 ⟨bx, rfl, hlt, hI1, hB1⟩
  have HI1 := Lib.hid hI1
  have HB1 := Lib.hid hB1
  clear hI1 hB1
  go_wp2_with fail
  go_loopw [6] (fun k wr => ∃ i : Nat, i ≤ xs.length ∧ k = .int .i64 i ∧ ∃ ids, Hid ((∀ v ∈ ids, 0 ≤ v ∧ v ≤ 9) ∧ IndexAt wr bx w.heap.size ids ∧ Bel w wr)) (fun k wr => xs.length - (intOf k).toNat)
  case atStart => exact ⟨0, Nat.zero_le _, rfl, List.replicate (pagesF pages) 0, Lib.hid ⟨fun v hv => by simp at hv; omega, HI1.out, HB1.out⟩⟩
  case round =>
    clear HI1 HB1
    obtain ⟨i, hi, rfl, ids, HH⟩ := hrel
    by_cases hlt2 : i < xs.length
    · have hra := (HRD.out.bel HH.out.2.2).at i hlt2
      obtain ⟨b, o, rfl, hra⟩ := hra
      obtain ⟨b', o', e', hra0⟩ := HRD.out.at i hlt2
      cases e'
      have hx := HOK.out xs[i] (List.getElem_mem _)
      generalize xs[i] = x at hra hx hra0
      have q0 : wr.cell? ⟨b, o + i * 3, none⟩ = some (.bool x.drop) := hra 0 _ rfl
      have q1 : wr.cell? ⟨b, o + i * 3 + 1, none⟩ = some (.int .i64 x.id) := hra 1 _ rfl
      have q2 : wr.cell? ⟨b, o + i * 3 + 2, none⟩ = some (.slice x.ra x.rs.length x.rc) := hra 2 _ rfl
      have hbb : b < w.heap.size := World.block_lt_of_cell? w ⟨b, o + i * 3 + 1, none⟩ (hra0 1 _ rfl)
      have hxl : x.rs.length ≤ 9223372036854775807 := by have := hx.len; unfold maxLen at this; omega
      have HX := Lib.hid hx
      clear hra hra0 hx
      by_cases c4 : 20 < (x.rs.length : Int)
      · go_wp2_with fail
        refine (awake05 _).mono ?_; rintro e w' ⟨rfl, hB9⟩
        go_wp2
        go_ret
        exact ⟨rfl, HH.out.2.2.trans hB9⟩
      by_cases c5 : 9 < x.id
      · go_wp2_with fail
        refine (awake05 _).mono ?_; rintro e w' ⟨rfl, hB9⟩
        go_wp2
        go_ret
        exact ⟨rfl, HH.out.2.2.trans hB9⟩
      obtain ⟨d, hd⟩ : ∃ d, x.drop = d := ⟨_, rfl⟩
      rw [hd] at q0
      clear hd
      cases d
      · have C : ∀ V, Bel wr V → Calls Try.prog 12 #[.pointer (some ⟨bx, 0, none⟩), .int .i64 x.id, .slice x.ra x.rs.length x.rc] V (fun e V' => (∃ en, e = .returned (.int .i64 en)) ∧ (∃ ids', (∀ v ∈ ids', 0 ≤ v ∧ v ≤ 9) ∧ IndexAt V' bx w.heap.size ids') ∧ Fr (fun k => k = w.heap.size) wr V') := fun V hb => by
          refine (index_Set bx w.heap.size ids x.id x.ra x.rs x.rs.length x.rc V (HH.out.2.1.bel hb) rfl (by omega) (HX.out.rd.bel (HH.out.2.2.trans hb)) HX.out.ok HX.out.id).mono ?_
          rintro e V' ⟨rfl, h1, h2⟩
          exact ⟨⟨_, rfl⟩, ⟨_, set_range HH.out.1 (by omega), h1⟩, (Fr.of_bel hb).trans' h2⟩
        have HC := Lib.hid C
        have HK : Hid (∀ V, Fr (fun k => k = w.heap.size) wr V → V.cell? ⟨b, o + i * 3 + 1, none⟩ = some (.int .i64 x.id) ∧ V.cell? ⟨b, o + i * 3 + 2, none⟩ = some (.slice x.ra x.rs.length x.rc)) :=
          Lib.hid (fun V hF => ⟨hF.cell q1 (by show ¬ b = w.heap.size; omega), hF.cell q2 (by show ¬ b = w.heap.size; omega)⟩)
        clear C
        go_wp2_with fail
        go_region_held3 (fun w' => w'.cell? ⟨b, o + i * 3 + 1, none⟩ = some (.int .i64 x.id) ∧ w'.cell? ⟨b, o + i * 3 + 2, none⟩ = some (.slice x.ra x.rs.length x.rc))
          (first | exact HK.out _ hF8 | go_keep)
          (first | (go_at_call 12; (with_reducible refine (HC.out _ ?b1).mono ?_); (case b1 => repeat (first | exact Bel.refl _ | apply Bel.drew | apply Bel.alloc)); rintro e w8 ⟨⟨en, rfl⟩, ⟨ids', hr8, hI8⟩, hF8⟩))
        go_wp2
        go_roundw
        case rel => exact ⟨i + 1, by omega, by go_num, ids', Lib.hid ⟨hr8, hI8, Fr.bel ((Fr.of_bel (S := fun k => k = w.heap.size) HH.out.2.2).trans' hF8) (fun k e => by omega)⟩⟩
        case measure => simp [intOf]; omega
      · have hcon := index_Drop bx w.heap.size ids x.ra x.rs x.rs.length x.rc wr HH.out.2.1 rfl (by omega) (HX.out.rd.bel HH.out.2.2) HX.out.ok
        have HC := Lib.hid hcon
        clear hcon
        go_wp2_with fail
        refine HC.out.mono ?_
        rintro e w8 ⟨rfl, hI8, hF8⟩
        have HI8 := Lib.hid hI8
        have HB8 : Hid (Bel w w8) := Lib.hid (Fr.bel ((Fr.of_bel (S := fun k => k = w.heap.size) HH.out.2.2).trans' hF8) (fun k e => by omega))
        have HR8 : Hid (∀ v ∈ (putF ids 0 x.rs true).1, 0 ≤ v ∧ v ≤ 9) := Lib.hid (drop_range HH.out.1)
        generalize putF ids 0 x.rs true = pp at HI8 HR8
        clear hI8 hF8 HC
        go_wp2
        go_roundw
        case rel => exact ⟨i + 1, by omega, by go_num, pp.1, Lib.hid ⟨HR8.out, HI8.out, HB8.out⟩⟩
        case measure => simp [intOf]; omega
    · obtain rfl : i = xs.length := by omega
      obtain ⟨W0, rfl⟩ : ∃ W0, W0 = wr := ⟨_, rfl⟩
      have HI := Lib.hid HH.out.2.1
      have HR := Lib.hid HH.out.1
      have HB := Lib.hid HH.out.2.2
      have hsm : ids.length ≤ 1024 := HI.out.small
      have hbx := heap_lt HI.out.hd
      have hbi := heap_lt HI.out.nums
      have hm := run_make_int ids.length W0 (by omega)
      have HS0 : Hid (Blk5 (W0.alloc (.cells (ints (List.replicate ids.length 0)).toArray 3)) W0.heap.size (seenF ids 0 0)) := Lib.hid (by
        rw [← seen_first (fun v hv => (HR.out v hv).1)]; exact blk_alloc _ _)
      obtain ⟨cs, hcs⟩ : ∃ cs, (ints (List.replicate ids.length 0)).toArray = cs := ⟨_, rfl⟩
      rw [hcs] at hm HS0
      clear HH hcs
      go_wp2_with fail
      refine (index_Pages (.pointer (some ⟨bx, 0, none⟩)) ids W0 (.inr ⟨bx, w.heap.size, rfl, HI.out⟩)).mono ?_
      rintro e w9 ⟨rfl, rfl⟩
      go_wp2_with fail
      clear hm
      go_loopw [8] (fun k wv => ∃ t : Nat, t ≤ 10 ∧ k = .int .i64 t ∧ Hid (Blk5 wv W0.heap.size (seenF ids t 0) ∧ Bel W0 wv)) (fun k wv => 10 - (intOf k).toNat)
      case atStart => exact ⟨0, by omega, rfl, Lib.hid ⟨HS0.out, (Bel.refl _).alloc _⟩⟩
      case round =>
        obtain ⟨t, ht, rfl, HV⟩ := hrel
        obtain ⟨wv, rfl⟩ : ∃ wv, wv = wr := ⟨_, rfl⟩
        by_cases hlt3 : t < 10
        · have c6 : (t : Int) ≤ 9 := by omega
          go_wp2_with fail
          refine (index_Runs bx w.heap.size ids t wv (HI.out.bel HV.out.2) ⟨by omega, by omega⟩).mono ?_
          rintro e w2 ⟨v, rfl, hown, hB2⟩
          obtain ⟨av, cv, rfl, hr2, _, hpv⟩ := own_slice2 hown
          have hbs := heap_lt HV.out.1
          have hll := HI.out.len t
          have HV2 : Hid (Blk5 w2 W0.heap.size (seenF ids t (startAt (runsF ids t) ids.length 0)) ∧ RunsIn w2 av (runsF ids t) ∧ Bel W0 w2) := Lib.hid ⟨by rw [seen_start]; exact HV.out.1.bel hB2, RunsIn.of_row hr2, HV.out.2.trans hB2⟩
          have HPV : Hid (∀ p, av = some p → p.block ≠ W0.heap.size) := Lib.hid (fun p hp => by have := hpv p hp; omega)
          obtain ⟨L, hL⟩ : ∃ L, runsF ids t = L := ⟨_, rfl⟩
          have HCN : Hid (Canon ids.length L) := Lib.hid (hL ▸ runsF_canon ids t)
          have HSBA : Hid (∀ i (hi : i < L.length), seenF ids t (startAt L ids.length (i + 1)) = seenF ids t (L[i].1 + L[i].2)) := Lib.hid (by subst hL; exact fun i hi => seen_behind hi)
          have HRWA : Hid (∀ i (hi : i < L.length) (p : Int), L[i].1 ≤ p → p < L[i].1 + L[i].2 → 0 ≤ p ∧ p < ids.length ∧ wd ids p = t) := Lib.hid (by subst hL; exact fun i hi p h1 h2 => run_word hi h1 h2)
          rw [hL] at HV2 hll ⊢
          clear hL hown hr2 hpv HV hB2 hbs
          go_wp2_with fail
          go_loopw [10] (fun k wi => ∃ i : Nat, i ≤ L.length ∧ k = .int .i64 i ∧ Hid (Blk5 wi W0.heap.size (seenF ids t (startAt L ids.length i)) ∧ RunsIn wi av L ∧ Bel W0 wi)) (fun k wi => L.length - (intOf k).toNat)
          case atStart => exact ⟨0, Nat.zero_le _, rfl, HV2⟩
          case round =>
            clear HV2
            obtain ⟨i, hi4, rfl, HX⟩ := hrel
            obtain ⟨wi, rfl⟩ : ∃ wi, wi = wr := ⟨_, rfl⟩
            by_cases hlt4 : i < L.length
            · obtain ⟨b, o, rfl, p0, p1⟩ := HX.out.2.1.at i hlt4
              have hk := HCN.out.ok _ (List.getElem_mem hlt4)
              have HSB := Lib.hid (HSBA.out i hlt4)
              have HRW := Lib.hid (HRWA.out i hlt4)
              have hst : startAt L ids.length i = L[i].1 := by unfold startAt; rw [dif_pos hlt4]
              have HVS := Lib.hid HX.out.1
              have HVR := Lib.hid HX.out.2.1
              have HVB := Lib.hid HX.out.2.2
              rw [hst] at HVS
              have hcs : i = 0 ∨ ∃ (i' : Nat) (r' : Rn), i = i' + 1 ∧ wi.cell? ⟨b, o + i' * 2, none⟩ = some (.int .i64 r'.1) ∧ wi.cell? ⟨b, o + i' * 2 + 1, none⟩ = some (.int .i64 r'.2) ∧ r'.1 + r'.2 < L[i].1 ∧ 0 ≤ r'.1 ∧ 1 ≤ r'.2 := by
                cases i with
                | zero => exact .inl rfl
                | succ i' =>
                  obtain ⟨_, _, e9, pp0, pp1⟩ := HX.out.2.1.at i' (by omega)
                  cases e9
                  have h1 := HCN.out.ok _ (List.getElem_mem (show i' < L.length by omega))
                  exact .inr ⟨i', L[i'], rfl, pp0, pp1, HCN.out.next hlt4, h1.1, h1.2.1⟩
              obtain ⟨r, hr0⟩ : ∃ r, L[i] = r := ⟨_, rfl⟩
              rw [hr0] at p0 p1 hk HVS hcs HSB HRW
              obtain ⟨s, m⟩ := r
              dsimp only at p0 p1 hk HVS hcs HSB HRW
              obtain ⟨k0, k1, k2⟩ := hk
              obtain ⟨s, rfl⟩ := Int.eq_ofNat_of_zero_le k0
              obtain ⟨m, rfl⟩ := Int.eq_ofNat_of_zero_le (show 0 ≤ m by omega)
              have y1 : ¬ (m : Int) < 1 := by omega
              have y2 : ¬ (s : Int) < 0 := by omega
              have y3 : ¬ (ids.length : Int) < (s : Int) + m := by omega
              have y4 : (s : Int) + m ≤ 1024 := by omega
              clear hst HX
              rcases hcs with h0 | ⟨i', ⟨s', m'⟩, h0, pp0, pp1, g1, g2, g3⟩
              · subst h0
                simp only [Nat.zero_mul, Nat.add_zero] at p0 p1
                have z1 : IntKind.i64.wrap ((s : Int) + m) = (s : Int) + m := IntWalk.i64_in _ (by omega)
                have d1 : decide ((m : Int) < 1) = false := decide_eq_false (by omega)
                have d2 : decide ((s : Int) < 0) = false := decide_eq_false (by omega)
                have d3 : decide ((ids.length : Int) < (s : Int) + m) = false := decide_eq_false (by omega)
                go_wp2_with fail
                go_quiet (fail)
                have HV9 : Hid (Blk5 (wi.drewN nq) W0.heap.size (seenF ids t (s : Int)) ∧ RunsIn (wi.drewN nq) (some ⟨b, o, none⟩) L ∧ Bel W0 (wi.drewN nq)) := Lib.hid ⟨HVS.out.bel (Bel.drewN (Bel.refl _) nq), RunsIn.bel HVR.out (Bel.drewN (Bel.refl _) nq), HVB.out.drewN nq⟩
                have p0 := Bel.cell (Bel.drewN (Bel.refl _) nq) p0
                have p1 := Bel.cell (Bel.drewN (Bel.refl _) nq) p1
                generalize wi.drewN nq = W9 at HV9 p0 p1 ⊢
                go_wp2_with fail
                go_loopw [11] (fun k wi => ∃ j : Nat, j ≤ m ∧ k = .int .i64 ((s : Int) + j) ∧ Hid (Blk5 wi W0.heap.size (seenF ids t ((s : Int) + j)) ∧ RunsIn wi (some ⟨b, o, none⟩) L ∧ Bel W0 wi)) (fun k wi => s + m - (intOf k).toNat)
                case atStart => exact ⟨0, Nat.zero_le _, by simp, Lib.hid ⟨by rw [show (s : Int) + ((0 : Nat) : Int) = s by omega]; exact HV9.out.1, HV9.out.2.1, HV9.out.2.2⟩⟩
                case round =>
                  obtain ⟨j, hj, rfl, HJ⟩ := hrel
                  obtain ⟨wi, rfl⟩ : ∃ wi, wi = wr := ⟨_, rfl⟩
                  obtain ⟨_, _, e9, q0, q1⟩ := HJ.out.2.1.at 0 hlt4
                  cases e9
                  rw [hr0] at q0 q1
                  dsimp only at q0 q1
                  simp only [Nat.zero_mul, Nat.add_zero] at q0 q1
                  have z1 : IntKind.i64.wrap ((s : Int) + m) = (s : Int) + m := IntWalk.i64_in _ (by omega)
                  have z2 : (0 : Int) ≤ (s : Int) + j := by omega
                  have z3 : (s : Int) + j ≤ ids.length := by omega
                  by_cases hlt5 : j < m
                  · have z4 : (s : Int) + j < ids.length := by omega
                    have z5 : ((s : Int) + j).toNat = s + j := by omega
                    have z6 : (s : Int) + j < (s : Int) + m := by omega
                    obtain ⟨_, _, hwt⟩ := HRW.out ((s : Int) + j) (by omega) z6
                    have hsl : (seenF ids t ((s : Int) + j)).length = ids.length := seenF_length _ _ _
                    have hB5 : Blk5 wi.drew W0.heap.size (seenF ids t ((s : Int) + j)) := HJ.out.1.bel (Bel.refl _).drew
                    have hcell := hB5.cell (t := s + j) (by rw [hsl]; omega)
                    have hfz := blk_frozen hB5 (s + j)
                    have hset := hB5.set (s + j) 1
                    have ec : ((s + j : Nat) : Int) = (s : Int) + j := by omega
                    rw [ec, seen_at z2 z4 hwt] at hcell
                    rw [ec, seen_step z2 z4 hwt] at hset
                    have HSET := Lib.hid hset
                    have HB9 : Hid (Bel W0 (wi.drew.setCell ⟨W0.heap.size, s + j, none⟩ (.int .i64 1))) := Lib.hid (Below.setCell HJ.out.2.2.drew (Nat.le_refl _) _)
                    have HR9 : Hid (RunsIn (wi.drew.setCell ⟨W0.heap.size, s + j, none⟩ (.int .i64 1)) (some ⟨b, o, none⟩) L) := Lib.hid ((HJ.out.2.1.bel (Bel.refl _).drew).fr (Fr.setCell (S := fun k => k = W0.heap.size) (Fr.refl _ _) (.inl rfl) _) (fun p hp => HPV.out p hp))
                    have HOF : Hid (ofF ids ((s : Int) + j) = t) := Lib.hid (by unfold ofF; rw [if_pos ⟨z2, z4⟩]; exact hwt)
                    clear hB5 hset hsl hwt ec
                    go_wp2_with fail
                    go_region
                    go_wp2_with fail
                    refine (index_Of (.pointer (some ⟨bx, 0, none⟩)) ids ((s : Int) + j) _ (.inr ⟨bx, w.heap.size, rfl, HI.out.bel HB9.out⟩) ⟨by omega, by omega⟩).mono ?_
                    rintro e w9 ⟨rfl, rfl⟩
                    rw [HOF.out]
                    go_wp2
                    go_roundw
                    case rel => exact ⟨j + 1, by omega, by go_num, Lib.hid ⟨by rw [show (s : Int) + ((j + 1 : Nat) : Int) = (s : Int) + j + 1 by omega]; exact HSET.out, HR9.out, HB9.out⟩⟩
                    case measure => simp [intOf]; omega
                  · obtain rfl : j = m := by omega
                    have z6 : ¬ (s : Int) + j < (s : Int) + j := by omega
                    go_wp2_with fail
                    go_region
                    go_wp2
                    go_roundw
                    case rel => exact ⟨0 + 1, by omega, by go_num, Lib.hid ⟨by rw [HSB.out]; exact HJ.out.1.bel (Bel.refl _).drew, RunsIn.bel HJ.out.2.1 (Bel.refl _).drew, HJ.out.2.2.drew⟩⟩
                    case measure => simp [intOf]; omega
              · subst h0
                dsimp only at pp0 pp1 g1 g2 g3
                have y5 : (0 : Int) < (i' : Int) + 1 := by omega
                have y6 : ¬ (s : Int) ≤ s' + m' := by omega
                have y9 : (i' : Int) ≤ 1024 := by omega
                have y8 : (i' : Int) < L.length := by omega
                have y10 : (i' : Int) + 1 < L.length := by omega
                have z1 : IntKind.i64.wrap ((s : Int) + m) = (s : Int) + m := IntWalk.i64_in _ (by omega)
                have z1' : IntKind.i64.wrap (s' + m') = s' + m' := IntWalk.i64_in _ (by omega)
                have d1 : decide ((m : Int) < 1) = false := decide_eq_false (by omega)
                have d2 : decide ((s : Int) < 0) = false := decide_eq_false (by omega)
                have d3 : decide ((ids.length : Int) < (s : Int) + m) = false := decide_eq_false (by omega)
                have d4 : decide ((0 : Int) < (i' : Int) + 1) = true := decide_eq_true (by omega)
                have d5 : decide ((s : Int) ≤ s' + m') = false := decide_eq_false (by omega)
                go_wp2_with fail
                go_quiet (fail)
                have HV9 : Hid (Blk5 (wi.drewN nq) W0.heap.size (seenF ids t (s : Int)) ∧ RunsIn (wi.drewN nq) (some ⟨b, o, none⟩) L ∧ Bel W0 (wi.drewN nq)) := Lib.hid ⟨HVS.out.bel (Bel.drewN (Bel.refl _) nq), RunsIn.bel HVR.out (Bel.drewN (Bel.refl _) nq), HVB.out.drewN nq⟩
                have p0 := Bel.cell (Bel.drewN (Bel.refl _) nq) p0
                have p1 := Bel.cell (Bel.drewN (Bel.refl _) nq) p1
                generalize wi.drewN nq = W9 at HV9 p0 p1 ⊢
                go_wp2_with fail
                go_loopw [11] (fun k wi => ∃ j : Nat, j ≤ m ∧ k = .int .i64 ((s : Int) + j) ∧ Hid (Blk5 wi W0.heap.size (seenF ids t ((s : Int) + j)) ∧ RunsIn wi (some ⟨b, o, none⟩) L ∧ Bel W0 wi)) (fun k wi => s + m - (intOf k).toNat)
                case atStart => exact ⟨0, Nat.zero_le _, by simp, Lib.hid ⟨by rw [show (s : Int) + ((0 : Nat) : Int) = s by omega]; exact HV9.out.1, HV9.out.2.1, HV9.out.2.2⟩⟩
                case round =>
                  obtain ⟨j, hj, rfl, HJ⟩ := hrel
                  obtain ⟨wi, rfl⟩ : ∃ wi, wi = wr := ⟨_, rfl⟩
                  obtain ⟨_, _, e9, q0, q1⟩ := HJ.out.2.1.at (i' + 1) hlt4
                  cases e9
                  rw [hr0] at q0 q1
                  dsimp only at q0 q1
                  have z1 : IntKind.i64.wrap ((s : Int) + m) = (s : Int) + m := IntWalk.i64_in _ (by omega)
                  have z2 : (0 : Int) ≤ (s : Int) + j := by omega
                  have z3 : (s : Int) + j ≤ ids.length := by omega
                  by_cases hlt5 : j < m
                  · have z4 : (s : Int) + j < ids.length := by omega
                    have z5 : ((s : Int) + j).toNat = s + j := by omega
                    have z6 : (s : Int) + j < (s : Int) + m := by omega
                    obtain ⟨_, _, hwt⟩ := HRW.out ((s : Int) + j) (by omega) z6
                    have hsl : (seenF ids t ((s : Int) + j)).length = ids.length := seenF_length _ _ _
                    have hB5 : Blk5 wi.drew W0.heap.size (seenF ids t ((s : Int) + j)) := HJ.out.1.bel (Bel.refl _).drew
                    have hcell := hB5.cell (t := s + j) (by rw [hsl]; omega)
                    have hfz := blk_frozen hB5 (s + j)
                    have hset := hB5.set (s + j) 1
                    have ec : ((s + j : Nat) : Int) = (s : Int) + j := by omega
                    rw [ec, seen_at z2 z4 hwt] at hcell
                    rw [ec, seen_step z2 z4 hwt] at hset
                    have HSET := Lib.hid hset
                    have HB9 : Hid (Bel W0 (wi.drew.setCell ⟨W0.heap.size, s + j, none⟩ (.int .i64 1))) := Lib.hid (Below.setCell HJ.out.2.2.drew (Nat.le_refl _) _)
                    have HR9 : Hid (RunsIn (wi.drew.setCell ⟨W0.heap.size, s + j, none⟩ (.int .i64 1)) (some ⟨b, o, none⟩) L) := Lib.hid ((HJ.out.2.1.bel (Bel.refl _).drew).fr (Fr.setCell (S := fun k => k = W0.heap.size) (Fr.refl _ _) (.inl rfl) _) (fun p hp => HPV.out p hp))
                    have HOF : Hid (ofF ids ((s : Int) + j) = t) := Lib.hid (by unfold ofF; rw [if_pos ⟨z2, z4⟩]; exact hwt)
                    clear hB5 hset hsl hwt ec
                    go_wp2_with fail
                    go_region
                    go_wp2_with fail
                    refine (index_Of (.pointer (some ⟨bx, 0, none⟩)) ids ((s : Int) + j) _ (.inr ⟨bx, w.heap.size, rfl, HI.out.bel HB9.out⟩) ⟨by omega, by omega⟩).mono ?_
                    rintro e w9 ⟨rfl, rfl⟩
                    rw [HOF.out]
                    go_wp2
                    go_roundw
                    case rel => exact ⟨j + 1, by omega, by go_num, Lib.hid ⟨by rw [show (s : Int) + ((j + 1 : Nat) : Int) = (s : Int) + j + 1 by omega]; exact HSET.out, HR9.out, HB9.out⟩⟩
                    case measure => simp [intOf]; omega
                  · obtain rfl : j = m := by omega
                    have z6 : ¬ (s : Int) + j < (s : Int) + j := by omega
                    go_wp2_with fail
                    go_region
                    go_wp2
                    go_roundw
                    case rel => exact ⟨(i' + 1) + 1, by omega, by go_num, Lib.hid ⟨by rw [HSB.out]; exact HJ.out.1.bel (Bel.refl _).drew, RunsIn.bel HJ.out.2.1 (Bel.refl _).drew, HJ.out.2.2.drew⟩⟩
                    case measure => simp [intOf]; omega
            · obtain rfl : i = L.length := by omega
              have hst : startAt L ids.length L.length = ids.length := by unfold startAt; rw [dif_neg (by omega)]
              go_wp2
              go_roundw
              case rel => exact ⟨t + 1, by omega, by go_num, Lib.hid ⟨by have h9 := HX.out.1; rw [hst, seen_next] at h9; rw [show ((t + 1 : Nat) : Int) = (t : Int) + 1 by omega]; exact h9, HX.out.2.2⟩⟩
              case measure => simp [intOf]; omega
        · obtain rfl : t = 10 := by omega
          have HVV := Lib.hid HV.out
          clear HV
          go_wp2_with fail
          go_loopw [12] (fun k wi => ∃ q : Nat, q ≤ ids.length ∧ k = .int .i64 q ∧ wv = wi) (fun k wi => ids.length - (intOf k).toNat)
          case atStart => exact ⟨0, Nat.zero_le _, rfl, rfl⟩
          case round =>
            obtain ⟨q, hq, rfl, rfl⟩ := hrel
            by_cases hlt5 : q < ids.length
            · have hcell := HVV.out.1.cell (t := q) (by rw [seenF_length]; omega)
              have hla := seen_last (ids := ids) (fun v hv => (HR.out v hv).2) (p := q) (by omega) (by omega)
              have e9 : (((10 : Nat) : Int)) = 10 := rfl
              rw [e9, hla] at hcell
              clear hla
              go_wp2
              go_roundw
              case rel => exact ⟨q + 1, by omega, by go_num, by first | rfl | trivial⟩
              case measure => simp [intOf]; omega
            · obtain rfl : q = ids.length := by omega
              go_wp2_with fail
              refine (awake05 _).mono ?_; rintro e w' ⟨rfl, hB9⟩
              go_wp2
              go_ret
              exact ⟨rfl, (HB.out.trans HVV.out.2).trans hB9⟩
end Go.Proofs.Ytokefhplodbheaa
