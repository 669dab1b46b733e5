/- Layer 8: Remove. -/
import Derived.Test.YtnehccndghkakaaWPush
import Derived.Deep.RegionHeld3
namespace Go.Proofs.Ytnehccndghkakaa
open Go.RowKit

/-- Remove's boxes: the chain, and what is handed back. -/
structure RBox (w wr : World) (hd ln : Int) : Prop where
  c : wr.heap[w.heap.size]? = some (.cells #[.int .i64 hd, .int .i64 ln] 37 (0, 0))
  r : wr.heap[w.heap.size + 1]? = some (.cells #[.int .i64 0, .int .i64 0] 37 (0, 0))
theorem RBox.bel {w wr w' : World} {hd ln : Int} (h : RBox w wr hd ln) (k : Bel wr w') : RBox w w' hd ln :=
  ⟨(Fr.of_bel (S := fun _ => False) k).heap h.c (fun h => h), (Fr.of_bel (S := fun _ => False) k).heap h.r (fun h => h)⟩
theorem RBox.fr {w wr w' : World} {hd ln : Int} {bw : Nat} (h : RBox w wr hd ln) (k : Fr (fun k => k = bw) wr w') (hb : bw < w.heap.size) : RBox w w' hd ln :=
  ⟨k.heap h.c (by omega), k.heap h.r (by omega)⟩
theorem RBox.size {w wr : World} {hd ln : Int} (h : RBox w wr hd ln) : w.heap.size + 2 ≤ wr.heap.size := by
  have := heap_lt h.r; omega
theorem RBox.start (w : World) (hd ln : Int) : RBox w ((w.alloc (.cells #[.int .i64 hd, .int .i64 ln] 37)).alloc (.cells #[.int .i64 0, .int .i64 0] 37)) hd ln := by
  refine ⟨blk_alloc_old _ (blk_alloc _ _), ?_⟩
  have := blk_alloc (w.alloc (.cells #[.int .i64 hd, .int .i64 ln] 37)) (.cells #[.int .i64 0, .int .i64 0] 37)
  rwa [World.size_alloc] at this
theorem RBox.head {w wr : World} {hd ln : Int} (h : RBox w wr hd ln) (hd' : Int) : RBox w (wr.setCell ⟨w.heap.size, 0, none⟩ (.int .i64 hd')) hd' ln := by
  refine ⟨?_, blk_setCell_other h.r (show w.heap.size + 1 ≠ w.heap.size by omega) _⟩
  have := blk_setCell h.c 0 (.int .i64 hd')
  simpa using this
theorem RBox.len {w wr : World} {hd ln : Int} (h : RBox w wr hd ln) (ln' : Int) : RBox w (wr.setCell ⟨w.heap.size, 1, none⟩ (.int .i64 ln')) hd ln' := by
  refine ⟨?_, blk_setCell_other h.r (show w.heap.size + 1 ≠ w.heap.size by omega) _⟩
  have := blk_setCell h.c 1 (.int .i64 ln')
  simpa using this
theorem arena_set {w : World} {ba bw : Nat} {ws : List Int} (h : ArenaAt w ba bw ws) {R i : Nat} (h1 : ba ≠ R) (h2 : bw ≠ R) (x : Value) : ArenaAt (w.setCell ⟨R, i, none⟩ x) ba bw ws :=
  h.fr (S := fun k => k = R) (Fr.setCell (p := ⟨R, i, none⟩) (Fr.refl (fun k => k = R) w) (.inl rfl) x) h1 h2
/-- The place of a block in a chain. -/
theorem idx_mid {p s : List Int} {x : Int} (hn : (p ++ x :: s).Nodup) : idxF (fun y => x == y) (p ++ x :: s) = p.length := by
  have h := List.nodup_append.1 hn
  refine idxF_at _ _ _ (by simp) (fun j hj => ?_) (by simp)
  rw [List.getElem_append_left hj]
  have := h.2.2 p[j] (List.getElem_mem _) x (by simp)
  simpa using fun e => this e.symm
theorem idx_none {l : List Int} {x : Int} (h : x ∉ l) : idxF (fun y => x == y) l = -1 :=
  idxF_none _ _ (fun j hj => by
    have : x ≠ l[j] := fun e => h (e ▸ List.getElem_mem _)
    simpa using this)

theorem nil_or_last (l : List Int) : l = [] ∨ ∃ q y, l = q ++ [y] := by
  rcases List.eq_nil_or_concat l with h | ⟨q, y, h⟩
  · exact .inl h
  · exact .inr ⟨q, y, by rw [h, List.concat_eq_append]⟩
/-- The store that ends Remove. -/
def Zeroed (w : World) (ba bw : Nat) (ws : List Int) (e : Ending) (w' : World) : Prop := e = .returned (.int .i64 0) ∧ ArenaAt w' ba bw ws ∧ Fr (fun k => k = bw) w w'

set_option maxHeartbeats 2000000 in
set_option maxRecDepth 20000 in
theorem chain_Remove (ba bw : Nat) (ws : List Int) (hd ln x : Int) (w : World) (hA : ArenaAt w ba bw ws) (hhd : I64 hd) (hhl : I64 ln) (hxi : I64 x) :
    Calls Try.prog 14 #[.pointer (some ⟨ba, 0, none⟩), .agg #[.int .i64 hd, .int .i64 ln], .int .i64 x] w (CPost w ba bw (remF ws hd ln x)) := by
  have hP : ArenaP w (.pointer (some ⟨ba, 0, none⟩)) ws := .inr ⟨ba, bw, rfl, hA⟩
  have hbw := heap_lt hA.words
  have hba := heap_lt hA.hd
  have hsmall := hA.small
  have hG0 := RBox.start w hd ln
  have hB0 : Bel w ((w.alloc (.cells #[.int .i64 hd, .int .i64 ln] 37)).alloc (.cells #[.int .i64 0, .int .i64 0] 37)) := ((Bel.refl _).alloc _).alloc _
  obtain ⟨W0, hW0⟩ : ∃ W0, (w.alloc (.cells #[.int .i64 hd, .int .i64 ln] 37)).alloc (.cells #[.int .i64 0, .int .i64 0] 37) = W0 := ⟨_, rfl⟩
  rw [hW0] at hB0 hG0
  have hs0 := hG0.size
  have HW0 := Lib.hid hW0
  have HP := Lib.hid (hP.bel hB0)
  have HA := Lib.hid hA
  have HB := Lib.hid hB0
  have HG := Lib.hid hG0
  clear hW0 hP hA hB0 hG0
  rcases chL_or ws hd ln with ⟨l, hr, hch⟩ | ⟨hbad, hch⟩
  · have hll := hr.small
    have hhead := isCh_head hr.ch
    have hlen := hr.len
    have HR := Lib.hid hr
    have hml : l.length ≤ maxLen := by unfold maxLen; omega
    clear hr hch
    by_cases hm : x ∈ l
    · have HF := Lib.hid (remF_ok HR.out hm)
      obtain ⟨p, s, rfl⟩ := List.append_of_mem hm
      clear hm
      have HI := Lib.hid (idx_mid HR.out.nd)
      obtain ⟨k, hk1, hk2⟩ := isCh_parts HR.out.ch
      obtain ⟨a1, a2, a3, hcs⟩ := hk2
      have hnx : nxt ws (x + 1) = wd ws x := by
        unfold nxt
        rw [show x + 1 - 1 = x by omega, if_pos ⟨a2, a3, (isCh_head hcs).2⟩]
      have hwb := isCh_head hcs
      obtain ⟨h, hh⟩ : ∃ h, wd ws x = h := ⟨_, rfl⟩
      rw [hh] at hnx hwb
      have HN := Lib.hid hnx
      have HH := Lib.hid hh
      obtain ⟨h0, h1⟩ := hwb
      clear hnx hh hk1 hcs a1 k
      rcases nil_or_last p with rfl | ⟨q, y, rfl⟩
      · have hr1 := rem_first (x := x) (s := s) HR.out.ch HR.out.nd
        rw [HH.out] at hr1
        have HREM : Hid (remW ws ([] ++ x :: s) x = (setW ws x 0, h)) := Lib.hid hr1
        clear hr1
        go_enter Try.func14, Try.ntmps14
        go_wp2_with fail
        rw [HW0.out]
        refine (chain_List_ok _ ws hd ln ([] ++ x :: s) _ HP.out HR.out).mono ?_
        rintro e w1 ⟨v, rfl, hN, hB1⟩
        have hs1 := hB1.size
        obtain ⟨al, cl, rfl, hrl, hcl⟩ := own_slice hN
        have HRL := Lib.hid hrl
        clear hN hrl
        obtain ⟨z0, z1, z2, z3⟩ := two_cells (HG.out.bel hB1).c
        go_wp2_with fail
        refine (index_int al (([] ++ x :: s)) x _ cl w1 rfl hml HRL.out).mono ?_
        rintro e w2 ⟨rfl, rfl⟩
        clear z0 z1 z2 z3
        rw [HI.out]
        have g := HG.out.bel hB1
        go_wp2_with fail
        refine (chain_next _ ws (x + 1) w1 (HP.out.bel hB1) (by omega) (by omega)).mono ?_
        rintro e w3 ⟨rfl, hB3⟩
        rw [HN.out]
        have hs3 := hB3.size
        have g3 := g.bel hB3
        obtain ⟨q0, q1, q2, q3⟩ := two_cells g3.c
        have hB03 := (HB.out.trans hB1).trans hB3
        have hG4 := (g3.head h).len (ln - 1)
        have hFR : Fr (fun k => k = bw) w ((w3.setCell ⟨w.heap.size, 0, none⟩ (.int .i64 h)).setCell ⟨w.heap.size, 1, none⟩ (.int .i64 (ln - 1))) := fr_two (Fr.of_bel hB03) (Nat.le_refl _) _ _
        have hA3 : ArenaAt ((w3.setCell ⟨w.heap.size, 0, none⟩ (.int .i64 h)).setCell ⟨w.heap.size, 1, none⟩ (.int .i64 (ln - 1))) ba bw ws := arena_two (HA.out.bel hB03) (by omega) (by omega) _ _
        go_wp2_with fail
        generalize (w3.setCell ⟨w.heap.size, 0, none⟩ (.int .i64 h)).setCell ⟨w.heap.size, 1, none⟩ (.int .i64 (ln - 1)) = W4 at hG4 hFR hA3 ⊢
        have HFR := Lib.hid hFR
        clear q0 q1 q2 q3 hFR
        have hA4 : ArenaAt W4 ba bw ws := hA3
        have hst : stW ws x [0] = setW ws x 0 := stW_one a2 (by first | exact a3 | (rw [setW_length]; exact a3))
        have C : ∀ W g, Bel W4 W → RdV W (some ⟨g, 0, none⟩) (u64s [0]) → Calls Try.prog 9 #[.pointer (some ⟨ba, 0, none⟩), .int .i64 x, .slice (some ⟨g, 0, none⟩) 1 1] W (Zeroed W4 ba bw (setW ws x 0)) := fun W g hb hrg => by
          refine (arena_Store ba bw ws [0] x (some ⟨g, 0, none⟩) 1 1 W (hA4.bel hb) hxi rfl (by simp [maxLen]) hrg (by intro y hy; simp at hy; omega)).mono ?_
          rintro e W5 ⟨rfl, hA5, hF5⟩
          rw [hst] at hA5
          have hin : inB ws.length x (([0] : List Int).length) = true := inB_iff.2 ⟨by simp, a2, by first | omega | (rw [setW_length]; omega), by first | (simp; omega) | (simp [setW_length]; omega)⟩
          rw [hin, okE_true]
          exact ⟨rfl, hA5, (Fr.of_bel hb).trans' hF5⟩
        have HC := Lib.hid C
        have HNW : Hid (∀ W : World, RdV (W.alloc (.cells #[.int .u64 0] 30)) (some ⟨W.heap.size, 0, none⟩) (u64s [0])) := Lib.hid (fun W => RdV.new W #[.int .u64 0] 30)
        have HG4 := Lib.hid hG4
        have hs4 := hG4.size
        obtain ⟨q0, q1, q2, q3⟩ := two_cells hG4.c
        obtain ⟨t0, t1, t2, t3⟩ := two_cells hG4.r
        clear C hst hA4 hG4
        go_region_held3 (fun w' => w'.cell? ⟨w.heap.size, 0, none⟩ = some (.int .i64 h) ∧ w'.cell? ⟨w.heap.size, 1, none⟩ = some (.int .i64 (ln - 1)))
          (first | go_keep | exact ⟨(two_cells (HG4.out.fr hF5 hbw).c).1, (two_cells (HG4.out.fr hF5 hbw).c).2.1⟩)
          (first | (go_at_call 9; refine (HC.out _ _ ?b1 ?b2).mono ?_; (case b1 => repeat (first | exact Bel.refl _ | apply Bel.drew | apply Bel.alloc)); (case b2 => first | exact HNW.out _ | exact (HNW.out _).bel (Bel.refl _).drew); rintro e W5 ⟨rfl, hA5, hF5⟩; clear t0 t1 t2 t3; obtain ⟨t0, t1, t2, t3⟩ := two_cells (HG4.out.fr hF5 hbw).r))
        go_wp2
        have g5 := HG4.out.fr hF5 hbw
        obtain ⟨r0, r1, r2⟩ := two_set g5.r (.int .i64 h) (.int .i64 (ln - 1))
        refine bodyPost_ret (v := .tuple #[.agg #[.int .i64 h, .int .i64 (ln - 1)], .int .i64 0]) (by simp [results, Try.results14, go_sem, r0, r1]) rfl ?_
        rw [HF.out]
        rw [HREM.out]
        exact ⟨rfl, arena_two hA5 (by omega) (by omega) _ _, fr_two (HFR.out.trans' hF5) (by omega) _ _⟩
      · have el : q ++ [y] ++ x :: s = q ++ y :: x :: s := by simp
        have hr1 := rem_other (x := x) (y := y) (p := q) (s := s) (ws := ws) (hd := hd) (by rw [← el]; exact HR.out.ch) (by rw [← el]; exact HR.out.nd)
        rw [HH.out, ← el] at hr1
        have HREM : Hid (remW ws (q ++ [y] ++ x :: s) x = (setW (setW ws y h) x 0, hd)) := Lib.hid hr1
        have hyr := isCh_range HR.out.ch y (by simp)
        have hyx : y ≠ x := fun e => by
          have h1 := HR.out.nd
          rw [el] at h1
          exact (List.nodup_cons.1 (List.nodup_append.1 h1).2.1).1 (by simp [e])
        obtain ⟨y0, y1⟩ := hyr
        have hy2 : (q ++ [y] ++ x :: s)[q.length]? = some y := by simp
        have HI2 : Hid (idxF (fun y => x == y) (q ++ [y] ++ x :: s) = (q.length : Int) + 1) := Lib.hid (by rw [HI.out]; simp)
        have HEL := Lib.hid el
        clear hr1 el
        have hql : q.length < (q ++ [y] ++ x :: s).length := by simp
        generalize q ++ [y] ++ x :: s = l at *
        go_enter Try.func14, Try.ntmps14
        go_wp2_with fail
        rw [HW0.out]
        refine (chain_List_ok _ ws hd ln l _ HP.out HR.out).mono ?_
        rintro e w1 ⟨v, rfl, hN, hB1⟩
        have hs1 := hB1.size
        obtain ⟨al, cl, rfl, hrl, hcl⟩ := own_slice hN
        have HRL := Lib.hid hrl
        clear hN hrl
        obtain ⟨z0, z1, z2, z3⟩ := two_cells (HG.out.bel hB1).c
        go_wp2_with fail
        refine (index_int al (l) x _ cl w1 rfl hml HRL.out).mono ?_
        rintro e w2 ⟨rfl, rfl⟩
        clear z0 z1 z2 z3
        rw [HI2.out]
        have g := HG.out.bel hB1
        go_wp2_with fail
        refine (chain_next _ ws (x + 1) w1 (HP.out.bel hB1) (by omega) (by omega)).mono ?_
        rintro e w3 ⟨rfl, hB3⟩
        rw [HN.out]
        have hs3 := hB3.size
        have g3 := g.bel hB3
        obtain ⟨q0, q1, q2, q3⟩ := two_cells g3.c
        have hB03 := (HB.out.trans hB1).trans hB3
        obtain ⟨b, o, rfl, hcy⟩ := (HRL.out.bel hB3).at (f := fun x => .int .i64 x) (xs := l) q.length hql
        rw [List.getElem?_eq_getElem hql, Option.some.injEq] at hy2
        rw [hy2] at hcy
        have i1 : ((q.length : Int) + 1 == 0) = false := by rw [beq_eq_false_iff_ne]; omega
        have hlq : (q.length : Int) < l.length := by omega
        have hnew := RdV.new w3 #[.int .u64 h] 30
        have hst1 : stW ws y [h] = setW ws y h := stW_one y0 y1
        have HNW1 := Lib.hid hnew
        have HST1 := Lib.hid hst1
        clear hnew hst1 hy2
        go_wp2_with fail
        refine (arena_Store ba bw ws [h] y (some ⟨w3.heap.size, 0, none⟩) 1 1 _ ((HA.out.bel hB03).bel ((Bel.refl _).alloc _)) ⟨by omega, by omega⟩ rfl (by simp [maxLen]) HNW1.out (by intro y hy; simp at hy; omega)).mono ?_
        rintro e w4 ⟨rfl, hA3, hF4⟩
        rw [HST1.out] at hA3
        have g4 := (g3.bel ((Bel.refl w3).alloc (.cells #[.int .u64 h] 30))).fr hF4 hbw
        have hFR3 : Fr (fun k => k = bw) w w4 := (Fr.of_bel (hB03.alloc (.cells #[.int .u64 h] 30))).trans' hF4
        clear q0 q1 q2 q3 hcy
        obtain ⟨q0, q1, q2, q3⟩ := two_cells g4.c
        have hG4 := g4.len (ln - 1)
        have hFR : Fr (fun k => k = bw) w (w4.setCell ⟨w.heap.size, 1, none⟩ (.int .i64 (ln - 1))) := hFR3.setCell (.inr (Nat.le_refl _)) _
        have hA4' : ArenaAt (w4.setCell ⟨w.heap.size, 1, none⟩ (.int .i64 (ln - 1))) ba bw (setW ws y h) := arena_set hA3 (by omega) (by omega) _
        go_wp2_with fail
        generalize w4.setCell ⟨w.heap.size, 1, none⟩ (.int .i64 (ln - 1)) = W4 at hG4 hFR hA4' ⊢
        have HFR := Lib.hid hFR
        clear q0 q1 q2 q3 hFR hFR3
        have hA4 : ArenaAt W4 ba bw (setW ws y h) := hA4'
        have hst : stW (setW ws y h) x [0] = setW (setW ws y h) x 0 := stW_one a2 (by first | exact a3 | (rw [setW_length]; exact a3))
        have C : ∀ W g, Bel W4 W → RdV W (some ⟨g, 0, none⟩) (u64s [0]) → Calls Try.prog 9 #[.pointer (some ⟨ba, 0, none⟩), .int .i64 x, .slice (some ⟨g, 0, none⟩) 1 1] W (Zeroed W4 ba bw (setW (setW ws y h) x 0)) := fun W g hb hrg => by
          refine (arena_Store ba bw (setW ws y h) [0] x (some ⟨g, 0, none⟩) 1 1 W (hA4.bel hb) hxi rfl (by simp [maxLen]) hrg (by intro y hy; simp at hy; omega)).mono ?_
          rintro e W5 ⟨rfl, hA5, hF5⟩
          rw [hst] at hA5
          have hin : inB (setW ws y h).length x (([0] : List Int).length) = true := inB_iff.2 ⟨by simp, a2, by first | omega | (rw [setW_length]; omega), by first | (simp; omega) | (simp [setW_length]; omega)⟩
          rw [hin, okE_true]
          exact ⟨rfl, hA5, (Fr.of_bel hb).trans' hF5⟩
        have HC := Lib.hid C
        have HNW : Hid (∀ W : World, RdV (W.alloc (.cells #[.int .u64 0] 30)) (some ⟨W.heap.size, 0, none⟩) (u64s [0])) := Lib.hid (fun W => RdV.new W #[.int .u64 0] 30)
        have HG4 := Lib.hid hG4
        have hs4 := hG4.size
        obtain ⟨q0, q1, q2, q3⟩ := two_cells hG4.c
        obtain ⟨t0, t1, t2, t3⟩ := two_cells hG4.r
        clear C hst hA4 hG4
        go_region_held3 (fun w' => w'.cell? ⟨w.heap.size, 0, none⟩ = some (.int .i64 hd) ∧ w'.cell? ⟨w.heap.size, 1, none⟩ = some (.int .i64 (ln - 1)))
          (first | go_keep | exact ⟨(two_cells (HG4.out.fr hF5 hbw).c).1, (two_cells (HG4.out.fr hF5 hbw).c).2.1⟩)
          (first | (go_at_call 9; refine (HC.out _ _ ?b1 ?b2).mono ?_; (case b1 => repeat (first | exact Bel.refl _ | apply Bel.drew | apply Bel.alloc)); (case b2 => first | exact HNW.out _ | exact (HNW.out _).bel (Bel.refl _).drew); rintro e W5 ⟨rfl, hA5, hF5⟩; clear t0 t1 t2 t3; obtain ⟨t0, t1, t2, t3⟩ := two_cells (HG4.out.fr hF5 hbw).r))
        go_wp2
        have g5 := HG4.out.fr hF5 hbw
        obtain ⟨r0, r1, r2⟩ := two_set g5.r (.int .i64 hd) (.int .i64 (ln - 1))
        refine bodyPost_ret (v := .tuple #[.agg #[.int .i64 hd, .int .i64 (ln - 1)], .int .i64 0]) (by simp [results, Try.results14, go_sem, r0, r1]) rfl ?_
        rw [HF.out]
        rw [HREM.out]
        exact ⟨rfl, arena_two hA5 (by omega) (by omega) _ _, fr_two (HFR.out.trans' hF5) (by omega) _ _⟩
    · have HF := Lib.hid (remF_out HR.out hm)
      have HI := Lib.hid (idx_none hm)
      clear hm
      go_enter Try.func14, Try.ntmps14
      go_wp2_with fail
      rw [HW0.out]
      refine (chain_List_ok _ ws hd ln l _ HP.out HR.out).mono ?_
      rintro e w1 ⟨v, rfl, hN, hB1⟩
      have hs1 := hB1.size
      obtain ⟨al, cl, rfl, hrl, hcl⟩ := own_slice hN
      have HRL := Lib.hid hrl
      clear hN hrl
      obtain ⟨z0, z1, z2, z3⟩ := two_cells (HG.out.bel hB1).c
      go_wp2_with fail
      refine (index_int al (l) x _ cl w1 rfl hml HRL.out).mono ?_
      rintro e w2 ⟨rfl, rfl⟩
      clear z0 z1 z2 z3
      rw [HI.out]
      have g := HG.out.bel hB1
      obtain ⟨q0, q1, q2, q3⟩ := two_cells g.c
      obtain ⟨t0, t1, t2, t3⟩ := two_cells g.r
      go_wp2
      obtain ⟨r0, r1, r2⟩ := two_set g.r (.int .i64 hd) (.int .i64 ln)
      refine bodyPost_ret (v := .tuple #[.agg #[.int .i64 hd, .int .i64 ln], .int .i64 6]) (by simp [results, Try.results14, go_sem, r0, r1]) rfl ?_
      rw [HF.out]
      exact ⟨rfl, arena_two (HA.out.bel (HB.out.trans hB1)) (by omega) (by omega) _ _, fr_two (Fr.of_bel (HB.out.trans hB1)) (by omega) _ _⟩
  · have HF := Lib.hid (remF_bad x hbad)
    go_enter Try.func14, Try.ntmps14
    go_wp2_with fail
    rw [HW0.out]
    refine (chain_List_bad _ ws hd ln _ HP.out hhd hhl hbad).mono ?_
    rintro e w1 ⟨rfl, hB1⟩
    have hs1 := hB1.size
    have g := HG.out.bel hB1
    obtain ⟨q0, q1, q2, q3⟩ := two_cells g.c
    obtain ⟨t0, t1, t2, t3⟩ := two_cells g.r
    go_wp2
    obtain ⟨r0, r1, r2⟩ := two_set g.r (.int .i64 hd) (.int .i64 ln)
    refine bodyPost_ret (v := .tuple #[.agg #[.int .i64 hd, .int .i64 ln], .int .i64 9]) (by simp [results, Try.results14, go_sem, r0, r1]) rfl ?_
    rw [HF.out]
    exact ⟨rfl, arena_two (HA.out.bel (HB.out.trans hB1)) (by omega) (by omega) _ _, fr_two (Fr.of_bel (HB.out.trans hB1)) (by omega) _ _⟩
end Go.Proofs.Ytnehccndghkakaa
