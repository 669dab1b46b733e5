/- Layer 5: any row of acts is answered, and leaves numbers and runs, as the document says. -/
import Derived.Test.YtokefhplodbheaaLaw05B
import Derived.Test.YtokefhplodbheaaRef05R
import Derived.Test.YtokefhplodbheaaRef05
namespace Go.Proofs.Ytokefhplodbheaa
open Go.ChangeShapes Go.WideShapes Go.ChangeAt Go.RowKit Go.Deep

theorem ofF_page {ids : List Int} {page : Int} (h0 : 0 ≤ page) (h1 : page < 2000) : ofF ids (pageI (64 * page + 63)) = ofF ids page := by
  have : pageI (64 * page + 63) = page := by unfold pageI; split <;> omega
  rw [this]
theorem ofF_below {ids : List Int} {page : Int} (h : page < 0) : ofF ids page = 0 := by unfold ofF; rw [if_neg (by omega)]
theorem ofF_m1 (ids : List Int) : ofF ids (pageI (-1)) = 0 := by
  have : pageI (-1) < 0 := by unfold pageI; split <;> omega
  exact ofF_below this
set_option maxHeartbeats 4000000 in
set_option maxRecDepth 20000 in
theorem indexPlays_walk (pages : Int) (s : Option Addr) (xs : List Act05) (n c : Nat) (page id : Int) (w : World) (hp : I64 pages) (hA : Acts05 w s n xs) (hpg : I64 page) (hid : I64 id) :
    Calls Try.prog 3 #[.int .i64 pages, .slice s n c, .int .i64 page, .int .i64 id] w fun e w' => e = .returned (.bool true) ∧ Bel w w' := by
  obtain ⟨rfl, hl, hrd, hok⟩ := hA
  have hx1 : xs.length ≤ 9223372036854775807 := by unfold maxLen at hl; omega
  by_cases c0 : 100 < (xs.length : Int)
  · clear hrd hok
    go_enter Try.func3, Try.ntmps3
    go_wp2_with fail
    refine (awake05 _).mono ?_; rintro e w' ⟨rfl, hB⟩
    go_wp2
    go_ret
    exact ⟨rfl, hB⟩
  have c1 : xs.length ≤ 100 := by omega
  have HRD := Lib.hid hrd
  have HOK := Lib.hid hok
  have hpgg := hpg
  obtain ⟨pg0, pg1⟩ := hpg
  clear c0 hrd hok hl
  go_enter Try.func3, Try.ntmps3
  go_wp2_with fail
  refine (index_New pages w hp).mono ?_
  rintro e w1 ⟨bx, rfl, hlt, hI1, hB1⟩
  have hs1 := heap_lt hI1.nums
  have HI1 := Lib.hid hI1
  have HB1 := Lib.hid hB1
  clear hI1 hB1
  go_wp2_with fail
  refine (ref5_New pages w1 hp).mono ?_
  rintro e w2 ⟨rfl, hR2, hB2⟩
  have HI2 := Lib.hid (HI1.out.bel hB2)
  have HB2 := Lib.hid (HB1.out.trans hB2)
  have HR2 := Lib.hid hR2
  have hrl : (List.replicate (pagesF pages) (0 : Int)).length = pagesF pages := List.length_replicate
  clear hR2 hB2 HI1 HB1
  go_wp2_with fail
  go_loopw [10, 11] (fun m k wr => ∃ i : Nat, i ≤ xs.length ∧ k = .int .i64 i ∧ ∃ ids bm om cm, m = .slice (some ⟨bm, om, none⟩) ids.length cm ∧ w.heap.size < bm ∧ Hid (RdV wr (some ⟨bm, om, none⟩) (ints ids) ∧ IndexAt wr bx w.heap.size ids ∧ Bel w wr)) (fun m k wr => xs.length - (intOf k).toNat)
  case atStart => exact ⟨0, Nat.zero_le _, rfl, List.replicate (pagesF pages) 0, w1.heap.size, 0, pagesF pages, by rw [hrl], hs1, Lib.hid ⟨HR2.out, HI2.out, HB2.out⟩⟩
  case round =>
    clear HI2 HB2 HR2
    obtain ⟨i, hi, rfl, ids, bm, om, cm, rfl, hbm, HH⟩ := hrel
    have hsm : ids.length ≤ 1024 := HH.out.2.1.small
    by_cases hlt2 : i < xs.length
    · have hra := (HRD.out.bel HH.out.2.2).at i hlt2
      obtain ⟨b, o, rfl, hra⟩ := hra
      obtain ⟨b', o', e', hra0⟩ := HRD.out.at i hlt2
      cases e'
      have hx := HOK.out xs[i] (List.getElem_mem _)
      generalize xs[i] = x at hra hx hra0
      have q0 : wr.cell? ⟨b, o + i * 3, none⟩ = some (.bool x.drop) := hra 0 _ rfl
      have q1 : wr.cell? ⟨b, o + i * 3 + 1, none⟩ = some (.int .i64 x.id) := hra 1 _ rfl
      have q2 : wr.cell? ⟨b, o + i * 3 + 2, none⟩ = some (.slice x.ra x.rs.length x.rc) := hra 2 _ rfl
      have hbb : b < w.heap.size := World.block_lt_of_cell? w ⟨b, o + i * 3 + 1, none⟩ (hra0 1 _ rfl)
      have hxl : x.rs.length ≤ 9223372036854775807 := by have := hx.len; unfold maxLen at this; omega
      have HX := Lib.hid hx
      clear hra hra0 hx
      by_cases c4 : 20 < (x.rs.length : Int)
      · go_wp2_with fail
        refine (awake05 _).mono ?_; rintro e w' ⟨rfl, hB9⟩
        go_wp2
        go_ret
        exact ⟨rfl, HH.out.2.2.trans hB9⟩
      obtain ⟨d, hd⟩ : ∃ d, x.drop = d := ⟨_, rfl⟩
      obtain ⟨ids', en, hput, hlen⟩ : ∃ ids' en, putF ids (if d then 0 else x.id) x.rs d = (ids', en) ∧ ids'.length = ids.length := ⟨_, _, rfl, putF_length _ _ _ _⟩
      rw [hd] at q0
      have C : ∀ V, Bel wr V → Calls Try.prog 10 #[.slice (some ⟨bm, om, none⟩) ids.length cm, .int .i64 x.id, .slice x.ra x.rs.length x.rc, .bool d] V (fun e V' => ∃ b' o' c', e = .returned (.tuple #[.slice (some ⟨b', o', none⟩) ids.length c', .int .i64 en]) ∧ RdV V' (some ⟨b', o', none⟩) (ints ids') ∧ w.heap.size < b' ∧ Bel wr V') := fun V hb => by
        have hsz := HH.out.2.2.size
        have hsz2 := hb.size
        have hlt9 := heap_lt HH.out.2.1.nums
        cases d
        · refine (ref5_Put_set bm om cm ids x.id x.ra x.rs x.rs.length x.rc V hsm (HH.out.1.bel hb) rfl (by omega) (HX.out.rd.bel (HH.out.2.2.trans hb)) HX.out.ok HX.out.id).mono ?_
          rintro e V' ⟨b', o', c', rfl, h1, h2, h3⟩
          simp only [Bool.false_eq_true, if_false] at hput
          rw [hput] at h1 ⊢
          exact ⟨b', o', c', rfl, h1, by omega, hb.trans h3⟩
        · refine (ref5_Put_drop bm om cm ids x.id x.ra x.rs x.rs.length x.rc V hsm (HH.out.1.bel hb) rfl (by omega) (HX.out.rd.bel (HH.out.2.2.trans hb)) HX.out.ok HX.out.id).mono ?_
          rintro e V' ⟨b', o', c', rfl, h1, h2, h3⟩
          simp only [if_true] at hput
          rw [hput] at h1 ⊢
          exact ⟨b', o', c', rfl, h1, by omega, hb.trans h3⟩
      have HC := Lib.hid C
      have HK : Hid (∀ V, Fr (fun k => k = w.heap.size) wr V → V.cell? ⟨b, o + i * 3, none⟩ = some (.bool d) ∧ V.cell? ⟨b, o + i * 3 + 1, none⟩ = some (.int .i64 x.id) ∧ V.cell? ⟨b, o + i * 3 + 2, none⟩ = some (.slice x.ra x.rs.length x.rc)) :=
        Lib.hid (fun V hF => ⟨hF.cell q0 (by show ¬ b = w.heap.size; omega), hF.cell q1 (by show ¬ b = w.heap.size; omega), hF.cell q2 (by show ¬ b = w.heap.size; omega)⟩)
      have HPUT := Lib.hid hput
      clear C hput hd
      go_wp2_with fail
      go_region_held3 (fun w' => w'.cell? ⟨b, o + i * 3, none⟩ = some (.bool d) ∧ w'.cell? ⟨b, o + i * 3 + 1, none⟩ = some (.int .i64 x.id) ∧ w'.cell? ⟨b, o + i * 3 + 2, none⟩ = some (.slice x.ra x.rs.length x.rc))
        (first | exact HK.out _ (Fr.of_bel hF7) | go_keep)
        (first | (go_at_call 10; (with_reducible refine (HC.out _ ?b1).mono ?_); (case b1 => repeat (first | exact Bel.refl _ | apply Bel.drew | apply Bel.alloc)); rintro e w7 ⟨b7, o7, c7, rfl, hR7, hb7, hF7⟩))
      obtain ⟨q0', q1', q2'⟩ := HK.out _ (Fr.of_bel hF7)
      have HI7 := Lib.hid (HH.out.2.1.bel hF7)
      have HB7 := Lib.hid (HH.out.2.2.trans hF7)
      have HR7 := Lib.hid hR7
      have hsm' : ids'.length ≤ 1024 := by omega
      have e0 : (en != en) = false := by simp
      have HLEN := Lib.hid hlen
      clear hlen
      clear q0 q1 q2 hR7 HC HK hF7 HH
      have HP : Hid (∀ V V' : World, Bel w V → RdV V (some ⟨b7, o7, none⟩) (ints ids') → Fr (fun k => k = w.heap.size) V V' → RdV V' (some ⟨b7, o7, none⟩) (ints ids') ∧ Bel w V') := Lib.hid (fun V V' h1 h2 h3 => ⟨h2.fr h3 (fun p hp => by cases hp; show ¬ b7 = w.heap.size; omega), Fr.bel ((Fr.of_bel (S := fun k => k = w.heap.size) h1).trans' h3) (fun k e => by omega)⟩)
      cases d
      · have C : ∀ V, Bel w7 V → Calls Try.prog 12 #[.pointer (some ⟨bx, 0, none⟩), .int .i64 x.id, .slice x.ra x.rs.length x.rc] V (fun e V' => e = .returned (.int .i64 en) ∧ IndexAt V' bx w.heap.size ids' ∧ Fr (fun k => k = w.heap.size) w7 V') := fun V hb => by
          refine (index_Set bx w.heap.size ids x.id x.ra x.rs x.rs.length x.rc V (HI7.out.bel hb) rfl (by omega) (HX.out.rd.bel (HB7.out.trans hb)) HX.out.ok HX.out.id).mono ?_
          rintro e V' ⟨rfl, h1, h2⟩
          have hput := HPUT.out
          simp only [Bool.false_eq_true, if_false] at hput
          rw [hput] at h1 ⊢
          exact ⟨rfl, h1, (Fr.of_bel hb).trans' h2⟩
        have HC := Lib.hid C
        have HK : Hid (∀ V, Fr (fun k => k = w.heap.size) w7 V → V.cell? ⟨b, o + i * 3 + 1, none⟩ = some (.int .i64 x.id) ∧ V.cell? ⟨b, o + i * 3 + 2, none⟩ = some (.slice x.ra x.rs.length x.rc)) :=
          Lib.hid (fun V hF => ⟨hF.cell q1' (by show ¬ b = w.heap.size; omega), hF.cell q2' (by show ¬ b = w.heap.size; omega)⟩)
        clear C
        go_wp2_with fail
        go_region_held3 (fun w' => w'.cell? ⟨b, o + i * 3 + 1, none⟩ = some (.int .i64 x.id) ∧ w'.cell? ⟨b, o + i * 3 + 2, none⟩ = some (.slice x.ra x.rs.length x.rc))
          (first | exact HK.out _ hF8 | go_keep)
          (first | (go_at_call 12; (with_reducible refine (HC.out _ ?b1).mono ?_); (case b1 => repeat (first | exact Bel.refl _ | apply Bel.drew | apply Bel.alloc)); rintro e w8 ⟨rfl, hI8, hF8⟩))
        have HI8 := Lib.hid hI8
        have HR8 := Lib.hid (HP.out _ _ HB7.out HR7.out hF8).1
        have HB8 := Lib.hid (HP.out _ _ HB7.out HR7.out hF8).2
        clear hI8 hF8 HC HK HP q0' q1' q2' HI7 HB7 HR7
        go_wp2_with fail
        refine (index_Of (.pointer (some ⟨bx, 0, none⟩)) ids' page w8 (.inr ⟨bx, w.heap.size, rfl, HI8.out⟩) hpgg).mono ?_
        rintro e w9 ⟨rfl, rfl⟩
        go_wp2_with fail
        refine (ref5_Of (some ⟨b7, o7, none⟩) ids' page ids.length c7 w8 HLEN.out.symm hsm' HR8.out hpgg).mono ?_
        rintro e w9 ⟨rfl, rfl⟩
        have e1 : ((ofF ids' page) != (ofF ids' page)) = false := by simp
        go_wp2
        go_roundw
        case rel => exact ⟨i + 1, by omega, by go_num, ids', b7, o7, c7, by rw [HLEN.out], hb7, Lib.hid ⟨HR8.out, HI8.out, HB8.out⟩⟩
        case measure => simp [intOf]; omega
      · have hcon := index_Drop bx w.heap.size ids x.ra x.rs x.rs.length x.rc w7 HI7.out rfl (by omega) (HX.out.rd.bel HB7.out) HX.out.ok
        have hput := HPUT.out
        simp only [if_true] at hput
        rw [hput] at hcon
        have HC := Lib.hid hcon
        clear hcon hput
        go_wp2_with fail
        refine HC.out.mono ?_
        rintro e w8 ⟨rfl, hI8, hF8⟩
        have HI8 := Lib.hid hI8
        have HR8 := Lib.hid (HP.out _ _ HB7.out HR7.out hF8).1
        have HB8 := Lib.hid (HP.out _ _ HB7.out HR7.out hF8).2
        clear hI8 hF8 HC HP q0' q1' q2' HI7 HB7 HR7
        go_wp2_with fail
        refine (index_Of (.pointer (some ⟨bx, 0, none⟩)) ids' page w8 (.inr ⟨bx, w.heap.size, rfl, HI8.out⟩) hpgg).mono ?_
        rintro e w9 ⟨rfl, rfl⟩
        go_wp2_with fail
        refine (ref5_Of (some ⟨b7, o7, none⟩) ids' page ids.length c7 w8 HLEN.out.symm hsm' HR8.out hpgg).mono ?_
        rintro e w9 ⟨rfl, rfl⟩
        have e1 : ((ofF ids' page) != (ofF ids' page)) = false := by simp
        go_wp2
        go_roundw
        case rel => exact ⟨i + 1, by omega, by go_num, ids', b7, o7, c7, by rw [HLEN.out], hb7, Lib.hid ⟨HR8.out, HI8.out, HB8.out⟩⟩
        case measure => simp [intOf]; omega
    · obtain rfl : i = xs.length := by omega
      have HI := Lib.hid HH.out.2.1
      have HR := Lib.hid HH.out.1
      have HB := Lib.hid HH.out.2.2
      have HL1 : Hid ((runsF ids id).length ≤ 65536) := Lib.hid (by have := HI.out.len id; omega)
      have HL2 : Hid ((runsF ids 0).length ≤ 65536) := Lib.hid (by have := HI.out.len 0; omega)
      clear HH
      have HOM := Lib.hid (ofF_m1 ids)
      have hcs : page < 0 ∨ (0 ≤ page ∧ page < 2000) ∨ 2000 ≤ page := by omega
      rcases hcs with c5 | ⟨c5, c6⟩ | c5
      · have HO := Lib.hid (ofF_below (ids := ids) c5)
        go_wp2_with fail
        refine (index_Pages (.pointer (some ⟨bx, 0, none⟩)) ids wr (.inr ⟨bx, w.heap.size, rfl, HI.out⟩)).mono ?_
        rintro e w9 ⟨rfl, rfl⟩
        go_wp2_with fail
        refine (ref5_Of (some ⟨bm, om, none⟩) ids page ids.length cm wr rfl hsm HR.out hpgg).mono ?_
        rintro e w9 ⟨rfl, rfl⟩
        rw [HO.out]
        go_wp2_with fail
        refine (index_Runs bx w.heap.size ids id wr HI.out hid).mono ?_
        rintro e w3 hN
        obtain ⟨a3, c3, rfl, hr3, hb3⟩ := runsIn_new hN
        have HR3 := Lib.hid hr3
        have HB3 := Lib.hid hb3
        clear hN hr3 hb3
        go_wp2_with fail
        refine (ref5_Runs (some ⟨bm, om, none⟩) ids id ids.length cm w3 rfl hsm (HR.out.bel HB3.out) hid).mono ?_
        rintro e w4 hN
        obtain ⟨a4, c4, rfl, hr4, hb4⟩ := runsIn_new hN
        have HR4 := Lib.hid hr4
        have HB4 := Lib.hid hb4
        clear hN hr4 hb4
        go_wp2_with fail
        refine (ref5_Same a3 a4 (runsF ids id) (runsF ids id) _ c3 _ c4 w4 rfl rfl HL1.out HL1.out (HR3.out.bel HB4.out) HR4.out).mono ?_
        rintro e w5 ⟨rfl, hB9⟩
        rw [dec_selfR]
        have HT1 : Hid (Bel wr w5) := Lib.hid (((HB3.out.trans HB4.out).trans hB9))
        clear hB9
        go_wp2_with fail
        refine (index_Runs bx w.heap.size ids 0 w5 (HI.out.bel HT1.out) ⟨by omega, by omega⟩).mono ?_
        rintro e w6 hN
        obtain ⟨a6, c6, rfl, hr6, hb6⟩ := runsIn_new hN
        have HR6 := Lib.hid hr6
        have HB6 := Lib.hid hb6
        clear hN hr6 hb6
        go_wp2_with fail
        refine (ref5_Runs (some ⟨bm, om, none⟩) ids 0 ids.length cm w6 rfl hsm (HR.out.bel (HT1.out.trans HB6.out)) ⟨by omega, by omega⟩).mono ?_
        rintro e w7 hN
        obtain ⟨a7, c7, rfl, hr7, hb7⟩ := runsIn_new hN
        have HR7 := Lib.hid hr7
        have HB7 := Lib.hid hb7
        clear hN hr7 hb7
        go_wp2_with fail
        refine (ref5_Same a6 a7 (runsF ids 0) (runsF ids 0) _ c6 _ c7 w7 rfl rfl HL2.out HL2.out (HR6.out.bel HB7.out) HR7.out).mono ?_
        rintro e w8 ⟨rfl, hB9⟩
        rw [dec_selfR]
        have HT2 : Hid (Bel wr w8) := Lib.hid (HT1.out.trans ((HB6.out.trans HB7.out).trans hB9))
        clear hB9
        go_wp2_with fail
        refine (index_At (.pointer (some ⟨bx, 0, none⟩)) ids (-1) w8 (.inr ⟨bx, w.heap.size, rfl, HI.out.bel HT2.out⟩) ⟨by omega, by omega⟩).mono ?_
        rintro e w9 ⟨rfl, rfl⟩
        rw [HOM.out]
        go_wp2_with fail
        refine (awake05 _).mono ?_; rintro e w' ⟨rfl, hB9⟩
        go_wp2
        go_ret
        exact ⟨rfl, (HB.out.trans HT2.out).trans hB9⟩
      · have HO := Lib.hid (ofF_page (ids := ids) c5 c6)
        go_wp2_with fail
        refine (index_At (.pointer (some ⟨bx, 0, none⟩)) ids (64 * page + 63) wr (.inr ⟨bx, w.heap.size, rfl, HI.out⟩) ⟨by omega, by omega⟩).mono ?_
        rintro e w9 ⟨rfl, rfl⟩
        rw [HO.out]
        go_wp2_with fail
        refine (index_Pages (.pointer (some ⟨bx, 0, none⟩)) ids wr (.inr ⟨bx, w.heap.size, rfl, HI.out⟩)).mono ?_
        rintro e w9 ⟨rfl, rfl⟩
        go_wp2_with fail
        refine (ref5_Of (some ⟨bm, om, none⟩) ids page ids.length cm wr rfl hsm HR.out hpgg).mono ?_
        rintro e w9 ⟨rfl, rfl⟩
        have e1 : ((ofF ids page) == (ofF ids page)) = true := by simp
        go_wp2_with fail
        refine (index_Runs bx w.heap.size ids id wr HI.out hid).mono ?_
        rintro e w3 hN
        obtain ⟨a3, c3, rfl, hr3, hb3⟩ := runsIn_new hN
        have HR3 := Lib.hid hr3
        have HB3 := Lib.hid hb3
        clear hN hr3 hb3
        go_wp2_with fail
        refine (ref5_Runs (some ⟨bm, om, none⟩) ids id ids.length cm w3 rfl hsm (HR.out.bel HB3.out) hid).mono ?_
        rintro e w4 hN
        obtain ⟨a4, c4, rfl, hr4, hb4⟩ := runsIn_new hN
        have HR4 := Lib.hid hr4
        have HB4 := Lib.hid hb4
        clear hN hr4 hb4
        go_wp2_with fail
        refine (ref5_Same a3 a4 (runsF ids id) (runsF ids id) _ c3 _ c4 w4 rfl rfl HL1.out HL1.out (HR3.out.bel HB4.out) HR4.out).mono ?_
        rintro e w5 ⟨rfl, hB9⟩
        rw [dec_selfR]
        have HT1 : Hid (Bel wr w5) := Lib.hid (((HB3.out.trans HB4.out).trans hB9))
        clear hB9
        go_wp2_with fail
        refine (index_Runs bx w.heap.size ids 0 w5 (HI.out.bel HT1.out) ⟨by omega, by omega⟩).mono ?_
        rintro e w6 hN
        obtain ⟨a6, c6, rfl, hr6, hb6⟩ := runsIn_new hN
        have HR6 := Lib.hid hr6
        have HB6 := Lib.hid hb6
        clear hN hr6 hb6
        go_wp2_with fail
        refine (ref5_Runs (some ⟨bm, om, none⟩) ids 0 ids.length cm w6 rfl hsm (HR.out.bel (HT1.out.trans HB6.out)) ⟨by omega, by omega⟩).mono ?_
        rintro e w7 hN
        obtain ⟨a7, c7, rfl, hr7, hb7⟩ := runsIn_new hN
        have HR7 := Lib.hid hr7
        have HB7 := Lib.hid hb7
        clear hN hr7 hb7
        go_wp2_with fail
        refine (ref5_Same a6 a7 (runsF ids 0) (runsF ids 0) _ c6 _ c7 w7 rfl rfl HL2.out HL2.out (HR6.out.bel HB7.out) HR7.out).mono ?_
        rintro e w8 ⟨rfl, hB9⟩
        rw [dec_selfR]
        have HT2 : Hid (Bel wr w8) := Lib.hid (HT1.out.trans ((HB6.out.trans HB7.out).trans hB9))
        clear hB9
        go_wp2_with fail
        refine (index_At (.pointer (some ⟨bx, 0, none⟩)) ids (-1) w8 (.inr ⟨bx, w.heap.size, rfl, HI.out.bel HT2.out⟩) ⟨by omega, by omega⟩).mono ?_
        rintro e w9 ⟨rfl, rfl⟩
        rw [HOM.out]
        go_wp2_with fail
        refine (awake05 _).mono ?_; rintro e w' ⟨rfl, hB9⟩
        go_wp2
        go_ret
        exact ⟨rfl, (HB.out.trans HT2.out).trans hB9⟩
      · go_wp2_with fail
        refine (index_Pages (.pointer (some ⟨bx, 0, none⟩)) ids wr (.inr ⟨bx, w.heap.size, rfl, HI.out⟩)).mono ?_
        rintro e w9 ⟨rfl, rfl⟩
        go_wp2_with fail
        refine (index_Runs bx w.heap.size ids id wr HI.out hid).mono ?_
        rintro e w3 hN
        obtain ⟨a3, c3, rfl, hr3, hb3⟩ := runsIn_new hN
        have HR3 := Lib.hid hr3
        have HB3 := Lib.hid hb3
        clear hN hr3 hb3
        go_wp2_with fail
        refine (ref5_Runs (some ⟨bm, om, none⟩) ids id ids.length cm w3 rfl hsm (HR.out.bel HB3.out) hid).mono ?_
        rintro e w4 hN
        obtain ⟨a4, c4, rfl, hr4, hb4⟩ := runsIn_new hN
        have HR4 := Lib.hid hr4
        have HB4 := Lib.hid hb4
        clear hN hr4 hb4
        go_wp2_with fail
        refine (ref5_Same a3 a4 (runsF ids id) (runsF ids id) _ c3 _ c4 w4 rfl rfl HL1.out HL1.out (HR3.out.bel HB4.out) HR4.out).mono ?_
        rintro e w5 ⟨rfl, hB9⟩
        rw [dec_selfR]
        have HT1 : Hid (Bel wr w5) := Lib.hid (((HB3.out.trans HB4.out).trans hB9))
        clear hB9
        go_wp2_with fail
        refine (index_Runs bx w.heap.size ids 0 w5 (HI.out.bel HT1.out) ⟨by omega, by omega⟩).mono ?_
        rintro e w6 hN
        obtain ⟨a6, c6, rfl, hr6, hb6⟩ := runsIn_new hN
        have HR6 := Lib.hid hr6
        have HB6 := Lib.hid hb6
        clear hN hr6 hb6
        go_wp2_with fail
        refine (ref5_Runs (some ⟨bm, om, none⟩) ids 0 ids.length cm w6 rfl hsm (HR.out.bel (HT1.out.trans HB6.out)) ⟨by omega, by omega⟩).mono ?_
        rintro e w7 hN
        obtain ⟨a7, c7, rfl, hr7, hb7⟩ := runsIn_new hN
        have HR7 := Lib.hid hr7
        have HB7 := Lib.hid hb7
        clear hN hr7 hb7
        go_wp2_with fail
        refine (ref5_Same a6 a7 (runsF ids 0) (runsF ids 0) _ c6 _ c7 w7 rfl rfl HL2.out HL2.out (HR6.out.bel HB7.out) HR7.out).mono ?_
        rintro e w8 ⟨rfl, hB9⟩
        rw [dec_selfR]
        have HT2 : Hid (Bel wr w8) := Lib.hid (HT1.out.trans ((HB6.out.trans HB7.out).trans hB9))
        clear hB9
        go_wp2_with fail
        refine (index_At (.pointer (some ⟨bx, 0, none⟩)) ids (-1) w8 (.inr ⟨bx, w.heap.size, rfl, HI.out.bel HT2.out⟩) ⟨by omega, by omega⟩).mono ?_
        rintro e w9 ⟨rfl, rfl⟩
        rw [HOM.out]
        go_wp2_with fail
        refine (awake05 _).mono ?_; rintro e w' ⟨rfl, hB9⟩
        go_wp2
        go_ret
        exact ⟨rfl, (HB.out.trans HT2.out).trans hB9⟩
end Go.Proofs.Ytokefhplodbheaa
