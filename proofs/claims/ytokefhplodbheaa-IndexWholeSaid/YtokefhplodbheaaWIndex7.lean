/- Package index: At, Runs; the twin's Same. -/
import Derived.Test.YtokefhplodbheaaWIndex6
import Derived.Test.YtokefhplodbheaaWPage
namespace Go.Proofs.Ytokefhplodbheaa
open Go.RowKit

theorem index_At (p : Value) (ids : List Int) (at_ : Int) (w : World) (h : IndexP w p ids) (ha : I64 at_) :
    Calls Try.prog 15 #[p, .int .i64 at_] w fun e w' => e = .returned (.int .i64 (ofF ids (pageI at_))) ∧ w = w' := by
  have hp : I64 (pageI at_) := by
    obtain ⟨h0, h1⟩ := ha
    unfold pageI
    split
    · exact ⟨by omega, by omega⟩
    · exact ⟨by omega, by omega⟩
  go_enter Try.func15, Try.ntmps15
  go_wp2_with fail
  refine (arena_Page at_ w ha).mono ?_; rintro e w' ⟨rfl, rfl⟩
  obtain ⟨q, hq⟩ : ∃ q, pageI at_ = q := ⟨_, rfl⟩
  rw [hq] at hp ⊢
  go_wp2_with fail
  refine (index_Of p ids q w h hp).mono ?_; rintro e w' ⟨rfl, rfl⟩
  go_wp2
  go_ret
  exact ⟨by rw [hq]; rfl, rfl⟩

set_option maxHeartbeats 2000000 in
set_option maxRecDepth 20000 in
theorem index_Runs (bx bi : Nat) (ids : List Int) (id : Int) (w : World) (h : IndexAt w bx bi ids) (hid : I64 id) :
    Calls Try.prog 18 #[.pointer (some ⟨bx, 0, none⟩), .int .i64 id] w (NewRuns w (runsF ids id)) := by
  have hsm := h.small
  have hbi := heap_lt h.nums
  have hbx := heap_lt h.hd
  have HI := Lib.hid h
  obtain ⟨id0, id1⟩ := hid
  obtain ⟨i0, hi0, hz0, hz1, hz2⟩ := info_parts info_run
  clear h
  go_enter Try.func18, Try.ntmps18
  go_wp2_with fail
  refine (index_Pages _ ids w (.inr ⟨bx, bi, rfl, HI.out⟩)).mono ?_; rintro e w' ⟨rfl, rfl⟩
  go_wp2_with fail
  go_loopw [5, 9] (fun v k wr => ∃ q : Nat, q ≤ ids.length ∧ k = .int .i64 q ∧ wr.ownsRow w.heap.size 44 2 v (runsP ids id q).length (cellsOf (runsP ids id q)) ∧ Bel w wr ∧ (runsP ids id q).length ≤ q) (fun v k wr => ids.length - (intOf k).toNat)
  case atStart => exact ⟨0, Nat.zero_le _, rfl, World.ownsRow_nil _ _ _ _, Bel.refl _, Nat.le_refl _⟩
  case round =>
    obtain ⟨q, hq, rfl, hown, hB, hlq⟩ := hrel
    have hIr := HI.out.bel hB
    have hsB := hB.size
    by_cases hlt : q < ids.length
    · have hc : wr.cell? ⟨bx, 0, none⟩ = some (.slice (some ⟨bi, 0, none⟩) ids.length ids.length) := by rw [blk_cell hIr.hd]; rfl
      have hq0 := hIr.num q hlt
      have hw : ids[q] = wd ids q := by unfold wd; simp [List.getD_eq_getElem?_getD, hlt]
      rw [hw] at hq0
      obtain ⟨y, hy⟩ : ∃ y, wd ids q = y := ⟨_, rfl⟩
      rw [hy] at hq0
      have HB := Lib.hid hB
      by_cases hyi : y = id
      · subst hyi
        have e1 : (y != y) = false := by simp
        cases q with
        | zero =>
          have hst := runs_start (ids := ids) (id := y) (p := 0) hy (.inl rfl)
          have HST := Lib.hid hst
          have HOW := Lib.hid hown
          clear hst hw hy hIr hown hB
          go_wp2_with (at_builtin; refine wpList_append_own _ rfl _ _ 28 rfl w.heap.size 44 i0 (.agg #[.int .i64 0, .int .i64 0]) 2 16 Try.underlying28 hi0 hz0 hz1 hz2 rfl (by decide) _ _ _ rfl (HOW.out.alloc _) ⟨wr.heap.size, 0, none⟩ 1 1 [.int .i64 0, .int .i64 1] rfl rfl ?d2 ?d3 ?d4 ?d5 ?d6 ?_)
          try (case d2 => exact cell_two_new _ _ _ _)
          case d3 => simp [Value.oneCell']
          case d4 => unfold maxLen; omega
          case d5 => omega
          case d6 => first | omega | (simp; omega)
          intro v' w4 hown4 hgrow hnil
          have hB4 : Bel w w4 := bel_app HOW.out HB.out hgrow
          have HN : Hid (w4.ownsRow w.heap.size 44 2 v' (runsP ids y (0 + 1)).length (cellsOf (runsP ids y (0 + 1))) ∧ Bel w w4 ∧ (runsP ids y (0 + 1)).length ≤ 0 + 1) := Lib.hid (by
            rw [HST.out, cellsOf_snoc, List.length_append]
            exact ⟨by simpa using hown4, hB4, by simpa using hlq⟩)
          clear hown4 hgrow hnil hB4
          go_wp2
          go_roundw
          case rel => exact ⟨0 + 1, by omega, by go_num, HN.out.1, HN.out.2.1, HN.out.2.2⟩
          case measure => simp [intOf]; omega
        | succ q =>
          have hc2 := hIr.num q (by omega)
          have hw2 : ids[q] = wd ids q := by unfold wd; simp [List.getD_eq_getElem?_getD, show q < ids.length by omega]
          rw [hw2] at hc2
          have em : ((q + 1 : Nat) : Int) = (q : Int) + 1 := by omega
          have em1 : ((q + 1 : Nat) : Int) - 1 = q := by omega
          by_cases hz : wd ids q = y
          · obtain ⟨L, s, m, eL, es, em0, es0⟩ := runs_last hz
            have hst := runs_grow hy hz eL
            rw [eL] at hown hlq
            have hll : (L ++ [(s, m)]).length = L.length + 1 := by simp
            rw [hll] at hown hlq
            have hlast := cellsOf_last L s m (m + 1)
            obtain ⟨g, cap, rfl, hg, hcap, hcell, hfz, hset⟩ := own_set hown (t := L.length * 2 + 1) (by omega)
            rw [hlast.2] at hcell
            have hs := hset (.int .i64 (m + 1))
            rw [hlast.1] at hs
            have HN : Hid ((wr.setCell ⟨g, L.length * 2 + 1, none⟩ (.int .i64 (m + 1))).ownsRow w.heap.size 44 2 (.slice (some ⟨g, 0, none⟩) (L.length + 1) cap) (runsP ids y (q + 1 + 1)).length (cellsOf (runsP ids y (q + 1 + 1))) ∧ Bel w (wr.setCell ⟨g, L.length * 2 + 1, none⟩ (.int .i64 (m + 1))) ∧ (runsP ids y (q + 1 + 1)).length ≤ q + 1 + 1) := Lib.hid (by
              rw [hst]
              have h9 : (L ++ [(s, m + 1)]).length = L.length + 1 := by simp
              rw [h9]
              exact ⟨hs, Below.setCell hB hg _, by omega⟩)
            rw [hz] at hc2
            have b1 : m ≤ 1024 := by omega
            have b2 : L.length ≤ 1024 := by omega
            have b3 : (y == y) = true := by simp
            rw [em]
            clear hst hw hy hIr hown hB hset hs hlast hll hz hw2 eL em em1
            go_wp2
            go_roundw
            case rel => exact ⟨q + 1 + 1, by omega, by go_num, HN.out.1, HN.out.2.1, HN.out.2.2⟩
            case measure => simp [intOf]; omega
          · have hst := runs_start (ids := ids) (id := y) (p := q + 1) hy (.inr (by rw [em1]; exact hz))
            have HST := Lib.hid hst
            have HOW := Lib.hid hown
            obtain ⟨z, hzz⟩ : ∃ z, wd ids q = z := ⟨_, rfl⟩
            rw [hzz] at hc2 hz
            have b3 : (z == y) = false := by simp [hz]
            have b4 : (q : Int) ≤ 1024 := by omega
            clear hst hw hy hIr hown hB hw2 em em1 hzz hz
            go_wp2_with (at_builtin; refine wpList_append_own _ rfl _ _ 28 rfl w.heap.size 44 i0 (.agg #[.int .i64 0, .int .i64 0]) 2 16 Try.underlying28 hi0 hz0 hz1 hz2 rfl (by decide) _ _ _ rfl (HOW.out.alloc _) ⟨wr.heap.size, 0, none⟩ 1 1 [.int .i64 ((q : Int) + 1), .int .i64 1] rfl rfl ?f2 ?f3 ?f4 ?f5 ?f6 ?_)
            try (case f2 => exact cell_two_new _ _ _ _)
            case f3 => simp [Value.oneCell']
            case f4 => unfold maxLen; omega
            case f5 => omega
            case f6 => first | omega | (simp; omega)
            intro v' w4 hown4 hgrow hnil
            have hB4 : Bel w w4 := bel_app HOW.out HB.out hgrow
            have HN : Hid (w4.ownsRow w.heap.size 44 2 v' (runsP ids y ((q + 1) + 1)).length (cellsOf (runsP ids y ((q + 1) + 1))) ∧ Bel w w4 ∧ (runsP ids y ((q + 1) + 1)).length ≤ (q + 1) + 1) := Lib.hid (by
              rw [HST.out, cellsOf_snoc, List.length_append]
              exact ⟨by simpa using hown4, hB4, by simpa using hlq⟩)
            clear hown4 hgrow hnil hB4
            go_wp2
            go_roundw
            case rel => exact ⟨(q + 1) + 1, by omega, by go_num, HN.out.1, HN.out.2.1, HN.out.2.2⟩
            case measure => simp [intOf]; omega
      · have HST := Lib.hid (runs_skip (by rw [hy]; exact hyi))
        have e1 : (y != id) = true := by simp [hyi]
        have HOW := Lib.hid hown
        clear hw hy hIr hown hB hyi
        go_wp2
        go_roundw
        case rel => exact ⟨q + 1, by omega, by go_num, by rw [HST.out]; exact HOW.out, HB.out, by rw [HST.out]; omega⟩
        case measure => simp [intOf]; omega
    · obtain rfl : q = ids.length := by omega
      obtain ⟨av, cv, rfl, _⟩ := own_slice hown
      go_wp2
      go_ret
      exact ⟨_, rfl, hown, hB⟩

/-! ### a nil index -/
theorem putF_nil_drop (rs : List Rn) : (putF [] 0 rs true).2 = if rs = [] then 0 else 2 := by
  by_cases h : rs = []
  · subst h
    rw [if_pos rfl, drop_ok (fun r hr => by simp at hr) (fun p h0 h1 => by simp at h1; omega)]
  · rw [if_neg h, putF_out (by simp) (fun ha => ?_)]
    obtain ⟨r, hr⟩ := List.exists_mem_of_ne_nil _ h
    have := there_iff.1 (ha r hr)
    simp at this; omega
theorem putF_nil_set (id : Int) (rs : List Rn) : (putF [] id rs false).2 = if id < 1 then 1 else if rs = [] then 0 else 2 := by
  by_cases h1 : id < 1
  · rw [if_pos h1, putF_arg h1]
  · rw [if_neg h1]
    by_cases h : rs = []
    · subst h
      rw [if_pos rfl, set_ok (by omega) (fun r hr => by simp at hr) (fun p h0 h1 => by simp at h1; omega) List.Pairwise.nil]
    · rw [if_neg h, putF_out (by rintro ⟨_, h9⟩; exact h1 h9) (fun ha => ?_)]
      obtain ⟨r, hr⟩ := List.exists_mem_of_ne_nil _ h
      have := there_iff.1 (ha r hr)
      simp at this; omega
set_option maxHeartbeats 1000000 in
set_option maxRecDepth 20000 in
theorem index_Drop_nil (a : Option Addr) (rs : List Rn) (n c : Nat) (w : World) (hn : n = rs.length) (hl : rs.length ≤ 65536) (hr : RunsIn w a rs) (hi64 : ∀ r ∈ rs, I64 r.1 ∧ I64 r.2) :
    Calls Try.prog 11 #[.pointer none, .slice a n c] w fun e w' => e = .returned (.int .i64 (if rs = [] then 0 else 2)) ∧ Bel w w' := by
  subst hn
  have hB0 : Bel w (w.alloc (.cells #[.int .i64 0] 33)) := (Bel.refl _).alloc _
  have hcon := index_all (.pointer none) [] a rs rs.length c (w.alloc (.cells #[.int .i64 0] 33)) (.inl ⟨rfl, rfl⟩) rfl hl (hr.bel hB0) hi64
  have g0 := blk_alloc w (.cells #[.int .i64 0] 33)
  have HC := Lib.hid hcon
  have HB0 := Lib.hid hB0
  have HG := Lib.hid g0
  clear hcon hr hB0 hi64 g0
  go_enter_defers Try.func11, Try.ntmps11
  go_wp2_with fail
  refine HC.out.mono ?_
  rintro e w1 (⟨hat, v, bi', rfl, ⟨hown, hB1⟩, hpe⟩ | ⟨hno, rfl, hB1⟩)
  · have h0 : rs = [] := by
      cases rs with
      | nil => rfl
      | cons r rs => have := there_iff.1 (hat r (by simp)); simp at this; omega
    subst h0
    obtain ⟨av, cv, rfl, _⟩ := own_slice hown
    have HB1 := Lib.hid (HB0.out.trans hB1)
    have hg1 := (Fr.of_bel (S := fun _ => False) hB1).heap HG.out (fun h => h)
    have HG1 := Lib.hid hg1
    clear hown hB1 hpe hat HC hg1
    go_wp2_with fail
    go_loopw [13] (fun k wr => k = .int .i64 0 ∧ w1 = wr) (fun _ _ => 0)
    case atStart => exact ⟨rfl, rfl⟩
    case round =>
      obtain ⟨rfl, rfl⟩ := hrel
      go_wp2_with fail
      refine (fill_none av cv 0 w1).mono ?_
      rintro e w3 ⟨rfl, rfl⟩
      have hc3 := blk_cell HG1.out 0
      have hf3 := blk_frozen HG1.out 0
      have hcc := cell_set_same hc3 (.int .i64 0)
      have hend : Bel w (w1.setCell ⟨w.heap.size, 0, none⟩ (.int .i64 0)) := Below.setCell HB1.out (Nat.le_refl _) _
      have HEND := Lib.hid hend
      clear hend
      go_wp2
      refine leaves_cons (f := 21) (args := #[.pointer (some ⟨w.heap.size, 0, none⟩)]) (by simp) (by simp [go_sem]) ?_
      refine (icaught_idle _ _).mono ?_
      rintro e u' w'' ⟨rfl, rfl, rfl⟩
      simp [Leaves, settle, results, Try.results11, go_sem, hcc]
      exact HEND.out
  · have h0 : rs ≠ [] := fun h => hno (fun r hr => by rw [h] at hr; simp at hr)
    have hg1 := (Fr.of_bel (S := fun _ => False) hB1).heap HG.out (fun h => h)
    go_wp2
    refine leaves_cons (f := 21) (args := #[.pointer (some ⟨w.heap.size, 0, none⟩)]) (by simp) (by simp [go_sem]) ?_
    refine (icaught_out 2 w.heap.size (.int .i64 0) _ [] (heap_lt hg1) (blk_cell hg1 0) (blk_frozen hg1 0)).mono ?_
    rintro e u' w'' ⟨rfl, rfl, rfl⟩
    have hend : Bel w ((w1.setCell ⟨w.heap.size, 0, none⟩ (.int .i64 2)).alloc (.cells #[.int .i64 2] 62)) := Bel.alloc (Below.setCell (HB0.out.trans hB1) (Nat.le_refl _) _) _
    have hcc := cell_set_same (blk_cell hg1 0) (.int .i64 2)
    have hsz := heap_lt hg1
    simp [Leaves, settle, results, Try.results11, go_sem, hcc, hsz, h0]
    exact hend
end Go.Proofs.Ytokefhplodbheaa
