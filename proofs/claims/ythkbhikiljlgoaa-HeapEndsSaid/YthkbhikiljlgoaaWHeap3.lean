/- Package heap: Make. -/
import Derived.Test.YthkbhikiljlgoaaWHeap2
import Derived.StillTailTactics
import Derived.Deep.RegionHeld3
import Derived.Deep.DeepCutAuto
namespace Go.Proofs.Ythkbhikiljlgoaa
open Go.RowKit Go.Maps

set_option maxHeartbeats 1000000 in
set_option maxRecDepth 20000 in
theorem heap_Make_bad (p : Value) (n ord : Int) (w : World) (hn : I64 n) (ho : I64 ord) (h : n < 1 ∨ ord < -1 ∨ 4 ≤ ord) :
    Calls Try.prog 9 #[p, .int .i64 n, .int .i64 ord] w fun e w' => e = .returned (.tuple #[spV sp0, .int .i64 1]) ∧ Bel w w' := by
  have hc : n < 1 ∨ (¬ n < 1 ∧ ord < -1) ∨ (¬ n < 1 ∧ ¬ ord < -1 ∧ 4 ≤ ord) := by omega
  have HE := Lib.hid (And.intro (blk_alloc w (.cells #[.int .i64 0, .int .i64 0, .int .i64 0, .int .i64 0] 35)) ((Bel.refl w).alloc (.cells #[.int .i64 0, .int .i64 0, .int .i64 0, .int .i64 0] 35)))
  rcases hc with c1 | ⟨c1, c2⟩ | ⟨c1, c2, c3⟩
  all_goals
    go_enter Try.func9, Try.ntmps9
    go_wp2
    generalize w.alloc (.cells #[.int .i64 0, .int .i64 0, .int .i64 0, .int .i64 0] 35) = W9 at HE ⊢
    obtain ⟨r0, r1, r2, r3⟩ := four_cells HE.out.1
    refine bodyPost_ret (v := .tuple #[.agg #[.int .i64 0, .int .i64 0, .int .i64 0, .int .i64 0], .int .i64 1]) (by simp [results, Try.results9, go_sem, r0, r1, r2, r3]) rfl ?_
    exact ⟨rfl, HE.out.2⟩

theorem runsIn_blk {w : World} {g : Nat} {x : Rn} (h : w.heap[g]? = some (.cells #[.int .i64 x.1, .int .i64 x.2] 33 (0, 0))) : RunsIn w (some ⟨g, 0, none⟩) [x] := by
  refine .inr ⟨g, 0, rfl, fun i hi => ?_⟩
  obtain rfl : i = 0 := by simpa using hi
  exact ⟨blk_cell h 0, blk_cell h 1⟩
theorem wf_i64 {x : Int} (h0 : -9223372036854775808 ≤ x) (h1 : x ≤ 9223372036854775807) : (Lit.int .i64 x).wf = true := by
  have : IntKind.i64.min = -9223372036854775808 := rfl
  have : IntKind.i64.max = 9223372036854775807 := rfl
  simp [Lit.wf]
  omega
set_option maxHeartbeats 4000000 in
set_option maxRecDepth 20000 in
theorem heap_Make {h rb : Nat} {v : Value} {bx bi bm : Nat} {L : List Rn} {ids : List Int} {S : List Sp} {last : Nat} (w : World) (H : HeapAt w h rb v bx bi bm L ids S last) (n ord t : Int) (L' : List Rn) (ids' : List Int) (hM : Made ids L S last n ord t L' ids')
    (hn : 1 ≤ n) (ho : -1 ≤ ord ∧ ord < 4) (hl : last < 65536) :
    Calls Try.prog 9 #[.pointer (some ⟨h, 0, none⟩), .int .i64 n, .int .i64 ord] w fun e w' => e = .returned (.tuple #[spV ((last : Int) + 1, (t, n), ord), .int .i64 0]) ∧ HPost w h rb v bx bi bm L' ids' (S ++ [((last : Int) + 1, (t, n), ord)]) (last + 1) w' := by
  obtain ⟨o0, o1⟩ := ho
  have NE := H.ne
  have hsz := heap_lt H.hd
  have c1 : ¬ n < 1 := by omega
  have c2 : ¬ ord < -1 := by omega
  have c3 : ¬ 4 ≤ ord := by omega
  have hb := (Bel.refl w).alloc (.cells #[.int .i64 0, .int .i64 0, .int .i64 0, .int .i64 0] 35)
  obtain ⟨q0, q1, q2, q3⟩ := four_cells (H.bel hb).hd
  have htk := runs_Take rb v L n _ (H.free.bel hb) ⟨by omega, by have := hM.n1; omega⟩
  rw [hM.take] at htk
  have HTK := Lib.hid htk
  have HH := Lib.hid H
  have HM := Lib.hid hM
  have HB := Lib.hid hb
  have gR := Lib.hid (blk_alloc w (.cells #[.int .i64 0, .int .i64 0, .int .i64 0, .int .i64 0] 35))
  clear htk H hM hb
  go_enter Try.func9, Try.ntmps9
  go_wp2_with fail
  refine HTK.out.mono ?_
  clear HTK
  rintro e w1 ⟨rfl, v', hF, hv, hFr⟩
  have hrl : ∀ k, footR rb v k → k < w.heap.size := fun k hk => HH.out.lt (by rcases hk with hk | hk; exact .inr (.inl hk); exact .inr (.inr (.inl hk)))
  have hr1 := hFr.heap gR.out (fun hk => by have := hrl _ hk; omega)
  have hh1 := hFr.heap (HH.out.bel HB.out).hd (fun hk => by rcases hk with hk | hk; exact NE.h_rb hk; exact NE.h_v hk)
  have hI1 := (HH.out.index.bel HB.out).fr hFr (fun hk => by rcases hk with hk | hk; exact NE.rb_bx hk.symm; exact NE.bx_v hk) (fun hk => by rcases hk with hk | hk; exact NE.rb_bi hk.symm; exact NE.bi_v hk)
  have hS1 := (HH.out.spans.bel HB.out).fr hFr (fun hk => by rcases hk with hk | hk; exact NE.rb_bm hk.symm; exact NE.bm_v hk)
  have hv0 : ∀ k, v'.ownBlock = some k → v.ownBlock = some k ∨ w.heap.size ≤ k := fun k hk => by
    rcases hv k hk with h9 | h9
    · exact .inl h9
    · exact .inr (Nat.le_trans HB.out.size h9)
  have hvh : v'.ownBlock ≠ some h := fun e => by
    rcases hv0 h e with h9 | h9
    · exact NE.h_v h9
    · omega
  have hF1 : Fr (footH h rb v bx bi bm) w w1 := (Fr.of_bel HB.out).trans' (hFr.mono (fun k hk => by rcases hk with hk | hk; exact .inr (.inl hk); exact .inr (.inr (.inl hk))))
  have hs1 : w.heap.size < w1.heap.size := heap_lt hr1
  -- the last number
  obtain ⟨q0, q1, q2, q3⟩ := four_cells hh1
  obtain ⟨f0, f1, f2, f3⟩ := four_frozen hh1
  have hset : Fr (fun k => k = h) w1 (w1.setCell ⟨h, 3, none⟩ (.int .i64 ((last : Int) + 1))) := Fr.setCell (S := fun k => k = h) (p := ⟨h, 3, none⟩) (Fr.refl _ _) (.inl rfl) _
  have hal := (Bel.refl (w1.setCell ⟨h, 3, none⟩ (.int .i64 ((last : Int) + 1)))).alloc (.cells #[.int .i64 t, .int .i64 n] 33)
  have hh2 : (w1.setCell ⟨h, 3, none⟩ (.int .i64 ((last : Int) + 1))).heap[h]? = some (.cells #[.pointer (some ⟨rb, 0, none⟩), .pointer (some ⟨bx, 0, none⟩), .map (some bm), .int .i64 ((last : Int) + 1)] 55 (0, 0)) := blk_setCell hh1 3 _
  have ho2 : ∀ g, v'.ownBlock = some g → ¬ g = h := fun g hg e => hvh (by rw [← e]; exact hg)
  have HW : Hid (((w1.setCell ⟨h, 3, none⟩ (.int .i64 ((last : Int) + 1))).alloc (.cells #[.int .i64 t, .int .i64 n] 33)).heap[h]? = some (.cells #[.pointer (some ⟨rb, 0, none⟩), .pointer (some ⟨bx, 0, none⟩), .map (some bm), .int .i64 ((last : Int) + 1)] 55 (0, 0)) ∧
      ((w1.setCell ⟨h, 3, none⟩ (.int .i64 ((last : Int) + 1))).alloc (.cells #[.int .i64 t, .int .i64 n] 33)).heap[w.heap.size]? = some (.cells #[.int .i64 0, .int .i64 0, .int .i64 0, .int .i64 0] 35 (0, 0)) ∧
      ((w1.setCell ⟨h, 3, none⟩ (.int .i64 ((last : Int) + 1))).alloc (.cells #[.int .i64 t, .int .i64 n] 33)).heap[w1.heap.size]? = some (.cells #[.int .i64 t, .int .i64 n] 33 (0, 0)) ∧
      FreeAt ((w1.setCell ⟨h, 3, none⟩ (.int .i64 ((last : Int) + 1))).alloc (.cells #[.int .i64 t, .int .i64 n] 33)) rb v' L' ∧
      IndexAt ((w1.setCell ⟨h, 3, none⟩ (.int .i64 ((last : Int) + 1))).alloc (.cells #[.int .i64 t, .int .i64 n] 33)) bx bi ids ∧
      SpansAt ((w1.setCell ⟨h, 3, none⟩ (.int .i64 ((last : Int) + 1))).alloc (.cells #[.int .i64 t, .int .i64 n] 33)) bm last S ∧
      Fr (footH h rb v bx bi bm) w ((w1.setCell ⟨h, 3, none⟩ (.int .i64 ((last : Int) + 1))).alloc (.cells #[.int .i64 t, .int .i64 n] 33))) := Lib.hid
    ⟨blk_alloc_old _ hh2, blk_alloc_old _ (blk_setCell_other hr1 (by show w.heap.size ≠ h; omega) _), by have := blk_alloc (w1.setCell ⟨h, 3, none⟩ (.int .i64 ((last : Int) + 1))) (.cells #[.int .i64 t, .int .i64 n] 33); simpa [World.setCell] using this,
      (hF.fr hset (Ne.symm NE.h_rb) ho2).bel hal, (hI1.fr hset (Ne.symm NE.h_bx) (Ne.symm NE.h_bi)).bel hal, (hS1.fr hset (Ne.symm NE.h_bm)).bel hal,
      (hF1.trans' (hset.mono (fun k hk => .inl hk))).then_bel hal⟩
  have HV := Lib.hid hv0
  have hhw1 : h < w1.heap.size := by omega
  have z1 : IntKind.i64.wrap ((last : Int) + 1) = (last : Int) + 1 := IntWalk.i64_in _ (by omega)
  clear hF hv hFr hr1 hh1 hI1 hS1 hv0 hF1 hset hal hh2 ho2 gR
  go_upto_region 9 with fail
  clear q0 q1 q2 q3 f0 f1 f2 f3
  obtain ⟨B1, hB1⟩ : ∃ B1, w1.heap.size = B1 := ⟨_, rfl⟩
  obtain ⟨R, hR⟩ : ∃ R, w.heap.size = R := ⟨_, rfl⟩
  rw [hB1, hR] at HW hs1
  rw [hB1] at hhw1 ⊢
  rw [hR] at hsz HV ⊢
  have hB12 : B1 < ((w1.setCell ⟨h, 3, none⟩ (.int .i64 ((last : Int) + 1))).alloc (.cells #[.int .i64 t, .int .i64 n] 33)).heap.size := by simp [World.setCell, hB1]
  generalize (w1.setCell ⟨h, 3, none⟩ (.int .i64 ((last : Int) + 1))).alloc (.cells #[.int .i64 t, .int .i64 n] 33) = W2 at HW hB12 ⊢
  clear hB1
  obtain ⟨q0, q1, q2, q3⟩ := four_cells HW.out.1
  obtain ⟨x0, x1, _, _⟩ := two_cells HW.out.2.2.1
  have hbw : h < W2.heap.size := by omega
  go_region
  have hb3 : Bel W2 ((W2.alloc (.cells #[.int .i64 ((last : Int) + 1), .int .i64 t, .int .i64 n, .int .i64 ord] 35)).drew) := ((Bel.refl W2).alloc _).drew
  have hsb : ((W2.alloc (.cells #[.int .i64 ((last : Int) + 1), .int .i64 t, .int .i64 n, .int .i64 ord] 35)).drew).heap[W2.heap.size]? = some (.cells #[.int .i64 ((last : Int) + 1), .int .i64 t, .int .i64 n, .int .i64 ord] 35 (0, 0)) := blk_alloc W2 _
  obtain ⟨B2, hB2⟩ : ∃ B2, W2.heap.size = B2 := ⟨_, rfl⟩
  rw [hB2] at hsb hB12 hbw ⊢
  have HW3 := Lib.hid (And.intro hb3 hsb)
  clear hb3 hsb q0 q1 q2 q3 x0 x1
  generalize (W2.alloc (.cells #[.int .i64 ((last : Int) + 1), .int .i64 t, .int .i64 n, .int .i64 ord] 35)).drew = W3 at HW3 ⊢
  have hW3h := (Fr.of_bel (S := fun _ => False) HW3.out.1).heap HW.out.1 (fun h => h)
  obtain ⟨q0, q1, q2, q3⟩ := four_cells hW3h
  obtain ⟨x0, x1, x2, x3⟩ := four_cells HW3.out.2
  go_wp2_with fail
  go_still_tail 7, (by kernel_rfl)
  change wpList _ _ _ _ _ W3.drew
  have hb4 : Bel W2 W3.drew := HW3.out.1.drew
  have hs4 := (Fr.of_bel (S := fun _ => False) ((Bel.refl W3).drew)).heap HW3.out.2 (fun h => h)
  have HW4 := Lib.hid (And.intro hb4 hs4)
  clear hb4 hs4 hW3h q0 q1 q2 q3 x0 x1 x2 x3
  generalize W3.drew = W4 at HW4 ⊢
  obtain ⟨W5, hrun, hS5, hg5⟩ := (HW.out.2.2.2.2.2.1.bel HW4.out.1).put ((last : Int) + 1, (t, n), ord) (wf_i64 (by omega) (by omega)) (by unfold maxLen; omega) HM.out.fresh
  simp only [spV] at hrun
  have hbmW : bm < W2.heap.size := by have := HW.out.2.2.2.2.2.1.lt; exact this
  have hF5 := (Fr.of_bel (S := fun k => k = bm) HW4.out.1).trans' (fr_grown hg5)
  have hbmR : bm ≠ R := fun e => by obtain ⟨es, ck, hm⟩ := HW.out.2.2.2.2.2.1.map?; rw [e, HW.out.2.1] at hm; simp at hm
  have hbmB1 : bm ≠ B1 := fun e => by obtain ⟨es, ck, hm⟩ := HW.out.2.2.2.2.2.1.map?; rw [e, HW.out.2.2.1] at hm; simp at hm
  have hv2 : v'.ownBlock ≠ some bm := fun e => by obtain ⟨cur, hc⟩ := own_type HW.out.2.2.2.1.own e; obtain ⟨es, ck, hm⟩ := HW.out.2.2.2.2.2.1.map?; rw [hc] at hm; simp at hm
  have HW5 : Hid (W5.heap[h]? = some (.cells #[.pointer (some ⟨rb, 0, none⟩), .pointer (some ⟨bx, 0, none⟩), .map (some bm), .int .i64 ((last : Int) + 1)] 55 (0, 0)) ∧
      W5.heap[R]? = some (.cells #[.int .i64 0, .int .i64 0, .int .i64 0, .int .i64 0] 35 (0, 0)) ∧
      W5.heap[B1]? = some (.cells #[.int .i64 t, .int .i64 n] 33 (0, 0)) ∧
      W5.heap[B2]? = some (.cells #[.int .i64 ((last : Int) + 1), .int .i64 t, .int .i64 n, .int .i64 ord] 35 (0, 0)) ∧
      FreeAt W5 rb v' L' ∧ IndexAt W5 bx bi ids ∧ SpansAt W5 bm (last + 1) (S ++ [((last : Int) + 1, (t, n), ord)]) ∧ Fr (footH h rb v bx bi bm) w W5) := Lib.hid
    ⟨hF5.heap HW.out.1 NE.h_bm, hF5.heap HW.out.2.1 (Ne.symm hbmR), hF5.heap HW.out.2.2.1 (Ne.symm hbmB1), (fr_grown hg5).heap HW4.out.2 (by omega),
      HW.out.2.2.2.1.fr hF5 NE.rb_bm (fun g hg e => hv2 (by rw [← e]; exact hg)), HW.out.2.2.2.2.1.fr hF5 NE.bx_bm NE.bi_bm, hS5, HW.out.2.2.2.2.2.2.trans' (hF5.mono (fun k hk => .inr (.inr (.inr (.inr (.inr hk))))))⟩
  have hsz5 : B2 < W5.heap.size := heap_lt HW5.out.2.2.2.1
  clear hS5 hg5 hF5
  go_wp2_with fail
  clear hrun
  obtain ⟨q0, q1, q2, q3⟩ := four_cells HW5.out.1
  obtain ⟨x0, x1, x2, x3⟩ := four_cells HW5.out.2.2.2.1
  obtain ⟨y0, y1, _, _⟩ := two_cells HW5.out.2.2.1
  have hbi1 : bi ≠ B1 := fun e => by have := HW5.out.2.2.2.2.2.1.nums; rw [e, HW5.out.2.2.1] at this; simp at this
  have hbi2 : bi ≠ B2 := fun e => by have := HW5.out.2.2.2.2.2.1.nums; rw [e, HW5.out.2.2.2.1] at this; simp at this
  have HKB : Hid (∀ Q V, Fr Q W5 V → ¬ Q h → ¬ Q B2 → ¬ Q B1 → V.cell? ⟨h, 1, none⟩ = some (.pointer (some ⟨bx, 0, none⟩)) ∧ V.cell? ⟨B2, 0, none⟩ = some (.int .i64 ((last : Int) + 1)) ∧ V.cell? ⟨B2, 1, none⟩ = some (.int .i64 t) ∧ V.cell? ⟨B2, 2, none⟩ = some (.int .i64 n) ∧ V.cell? ⟨B2, 3, none⟩ = some (.int .i64 ord) ∧ V.cell? ⟨B1, 0, none⟩ = some (.int .i64 t) ∧ V.cell? ⟨B1, 1, none⟩ = some (.int .i64 n)) := Lib.hid (fun Q V hF k0 k1 k2 => ⟨hF.cell q1 k0, hF.cell x0 k1, hF.cell x1 k1, hF.cell x2 k1, hF.cell x3 k1, hF.cell y0 k2, hF.cell y1 k2⟩)
  have HSET : Hid (∀ V g, V.heap[g]? = some (.cells #[.int .i64 t, .int .i64 n] 33 (0, 0)) → Bel W5 V → Calls Try.prog 23 #[.pointer (some ⟨bx, 0, none⟩), .int .i64 ((last : Int) + 1), .slice (some ⟨g, 0, none⟩) 1 1] V fun e V' => e = .returned (.int .i64 0) ∧ IndexAt V' bx bi ids' ∧ Fr (fun k => k = bi) W5 V' ∧ V'.cell? ⟨h, 1, none⟩ = some (.pointer (some ⟨bx, 0, none⟩)) ∧ V'.cell? ⟨B2, 0, none⟩ = some (.int .i64 ((last : Int) + 1)) ∧ V'.cell? ⟨B2, 1, none⟩ = some (.int .i64 t) ∧ V'.cell? ⟨B2, 2, none⟩ = some (.int .i64 n) ∧ V'.cell? ⟨B2, 3, none⟩ = some (.int .i64 ord) ∧ V'.cell? ⟨B1, 0, none⟩ = some (.int .i64 t) ∧ V'.cell? ⟨B1, 1, none⟩ = some (.int .i64 n)) := Lib.hid (fun V g hg hV => by
    have hset := index_Set bx bi ids ((last : Int) + 1) (some ⟨g, 0, none⟩) [(t, n)] 1 1 V (HW5.out.2.2.2.2.2.1.bel hV) rfl (by simp) (runsIn_blk hg) (by intro r hr; simp at hr; subst hr; have := HM.out.t0; have := HM.out.t1; have := HM.out.n1; exact ⟨⟨by omega, by omega⟩, ⟨by omega, by omega⟩⟩) ⟨by omega, by omega⟩
    rw [HM.out.set] at hset
    refine hset.mono ?_
    rintro e V' ⟨rfl, hI7, hF7⟩
    have hF := (Fr.of_bel (S := fun k => k = bi) hV).trans' hF7
    exact ⟨rfl, hI7, hF, HKB.out _ _ hF NE.h_bi (Ne.symm hbi2) (Ne.symm hbi1)⟩)
  have hbiR : bi ≠ R := fun e => by have := HW5.out.2.2.2.2.2.1.nums; rw [e, HW5.out.2.1] at this; simp at this
  have hRB1 : B1 ≠ R := by omega
  have hRB2 : B2 ≠ R := by omega
  have hRhh : h ≠ R := by omega
  go_region_held3 (fun w' => w'.cell? ⟨h, 1, none⟩ = some (.pointer (some ⟨bx, 0, none⟩)) ∧ w'.cell? ⟨B2, 0, none⟩ = some (.int .i64 ((last : Int) + 1)) ∧ w'.cell? ⟨B2, 1, none⟩ = some (.int .i64 t) ∧ w'.cell? ⟨B2, 2, none⟩ = some (.int .i64 n) ∧ w'.cell? ⟨B2, 3, none⟩ = some (.int .i64 ord) ∧ w'.cell? ⟨B1, 0, none⟩ = some (.int .i64 t) ∧ w'.cell? ⟨B1, 1, none⟩ = some (.int .i64 n))
    (first | exact hS9 | exact hS7 | go_keep)
    (first
    | (go_at_call 23; (with_reducible refine (HSET.out _ _ ?b0 ?b1).mono ?_); (case b0 => first | exact blk_alloc _ _ | exact blk_alloc W5 _); (case b1 => repeat (first | assumption | exact Bel.refl _ | apply Bel.drew | apply Bel.alloc)); rintro e W7 ⟨rfl, hI7, hF57, hS7⟩; have gR7 := hF57.heap HW5.out.2.1 (Ne.symm hbiR); obtain ⟨c0, c1, c2, c3⟩ := four_cells gR7; obtain ⟨f0, f1, f2, f3⟩ := four_frozen gR7; have hS9 := HKB.out _ _ (((((hF57.mono (S' := fun k => k = bi ∨ k = R) (fun k hk => .inl hk)).setCell (p := ⟨R, 0, none⟩) (.inl (.inr rfl)) (.int .i64 ((last : Int) + 1))).setCell (p := ⟨R, 1, none⟩) (.inl (.inr rfl)) (.int .i64 t)).setCell (p := ⟨R, 2, none⟩) (.inl (.inr rfl)) (.int .i64 n)).setCell (p := ⟨R, 3, none⟩) (.inl (.inr rfl)) (.int .i64 ord)) (by rintro (e | e); exact NE.h_bi e; exact hRhh e) (by rintro (e | e); exact hbi2 e.symm; exact hRB2 e) (by rintro (e | e); exact hbi1 e.symm; exact hRB1 e)))
  have hv3 : v'.ownBlock ≠ some bi := fun e => by obtain ⟨cur, hc⟩ := own_type HW5.out.2.2.2.2.1.own e; have := HW5.out.2.2.2.2.2.1.nums; rw [hc] at this; simp at this
  have hset4 : Fr (fun k => k = R) W7 ((((W7.setCell ⟨R, 0, none⟩ (.int .i64 ((last : Int) + 1))).setCell ⟨R, 1, none⟩ (.int .i64 t)).setCell ⟨R, 2, none⟩ (.int .i64 n)).setCell ⟨R, 3, none⟩ (.int .i64 ord)) :=
    Fr.setCell (p := ⟨R, 3, none⟩) (Fr.setCell (p := ⟨R, 2, none⟩) (Fr.setCell (p := ⟨R, 1, none⟩) (Fr.setCell (p := ⟨R, 0, none⟩) (Fr.refl (fun k => k = R) W7) (.inl rfl) _) (.inl rfl) _) (.inl rfl) _) (.inl rfl) _
  have hRh : ∀ k, footH h rb v bx bi bm k → ¬ k = R := fun k hk e => by have := HH.out.lt hk; omega
  have hvR : ∀ g, v'.ownBlock = some g → ¬ g = R := fun g hg e => by
    obtain ⟨cur, hc⟩ := own_type HW5.out.2.2.2.2.1.own hg
    rw [e, HW5.out.2.1] at hc
    simp at hc
  have HE : Hid (((((W7.setCell ⟨R, 0, none⟩ (.int .i64 ((last : Int) + 1))).setCell ⟨R, 1, none⟩ (.int .i64 t)).setCell ⟨R, 2, none⟩ (.int .i64 n)).setCell ⟨R, 3, none⟩ (.int .i64 ord)).heap[R]? = some (.cells #[.int .i64 ((last : Int) + 1), .int .i64 t, .int .i64 n, .int .i64 ord] 35 (0, 0)) ∧
      HPost w h rb v bx bi bm L' ids' (S ++ [((last : Int) + 1, (t, n), ord)]) (last + 1) ((((W7.setCell ⟨R, 0, none⟩ (.int .i64 ((last : Int) + 1))).setCell ⟨R, 1, none⟩ (.int .i64 t)).setCell ⟨R, 2, none⟩ (.int .i64 n)).setCell ⟨R, 3, none⟩ (.int .i64 ord))) := Lib.hid (by
    refine ⟨four_set gR7 _ _ _ _, v', ⟨?_, ?_, ?_, ?_, HM.out.inv, by omega⟩, ?_, ?_⟩
    · have := hset4.heap (hF57.heap HW5.out.1 NE.h_bi) (hRh _ (.inl rfl))
      simpa using this
    · exact (HW5.out.2.2.2.2.1.fr hF57 NE.rb_bi (fun g hg e => hv3 (by rw [← e]; exact hg))).fr hset4 (hRh _ (.inr (.inl rfl))) hvR
    · exact hI7.fr hset4 (hRh _ (.inr (.inr (.inr (.inl rfl))))) (hRh _ (.inr (.inr (.inr (.inr (.inl rfl))))))
    · exact (HW5.out.2.2.2.2.2.2.1.fr hF57 (Ne.symm NE.bi_bm)).fr hset4 (hRh _ (.inr (.inr (.inr (.inr (.inr rfl))))))
    · intro k hk
      have := HV.out k hk
      rw [hR]; exact this
    · exact (HW5.out.2.2.2.2.2.2.2.trans' (hF57.mono (fun k hk => .inr (.inr (.inr (.inr (.inl hk))))))).trans hset4 (fun k hk => .inr (by rw [hR]; omega)))
  clear hF57 gR7 hset4 hI7
  go_wp2
  generalize (((W7.setCell ⟨R, 0, none⟩ (.int .i64 ((last : Int) + 1))).setCell ⟨R, 1, none⟩ (.int .i64 t)).setCell ⟨R, 2, none⟩ (.int .i64 n)).setCell ⟨R, 3, none⟩ (.int .i64 ord) = W9 at HE ⊢
  obtain ⟨r0, r1, r2, r3⟩ := four_cells HE.out.1
  refine bodyPost_ret (v := .tuple #[.agg #[.int .i64 ((last : Int) + 1), .int .i64 t, .int .i64 n, .int .i64 ord], .int .i64 0]) (by simp [results, Try.results9, go_sem, r0, r1, r2, r3]) rfl ?_
  exact ⟨rfl, HE.out.2⟩
/-- Some of them were turned by Take alone. -/
theorem HeapAt.taken {w w1 : World} {h rb : Nat} {v : Value} {bx bi bm : Nat} {L L' : List Rn} {ids : List Int} {S : List Sp} {last : Nat} (H : HeapAt w h rb v bx bi bm L ids S last) (hP : RPost w rb v L' w1) (hL : L' = L) : HPost w h rb v bx bi bm L ids S last w1 := by
  subst hL
  obtain ⟨v', hF, hv, hFr⟩ := hP
  have NE := H.ne
  refine ⟨v', ⟨hFr.heap H.hd (fun hk => by rcases hk with hk | hk; exact NE.h_rb hk; exact NE.h_v hk), hF, H.index.fr hFr (fun hk => by rcases hk with hk | hk; exact NE.rb_bx hk.symm; exact NE.bx_v hk) (fun hk => by rcases hk with hk | hk; exact NE.rb_bi hk.symm; exact NE.bi_v hk), H.spans.fr hFr (fun hk => by rcases hk with hk | hk; exact NE.rb_bm hk.symm; exact NE.bm_v hk), H.inv, H.small⟩, hv, hFr.mono (fun k hk => by rcases hk with hk | hk; exact .inr (.inl hk); exact .inr (.inr (.inl hk)))⟩
set_option maxHeartbeats 1000000 in
set_option maxRecDepth 20000 in
theorem heap_Make_none {h rb : Nat} {v : Value} {bx bi bm : Nat} {L : List Rn} {ids : List Int} {S : List Sp} {last : Nat} (w : World) (H : HeapAt w h rb v bx bi bm L ids S last) (n ord : Int) (hT : takeR L n = (L, (0, 0), false)) (hnn : I64 n)
    (hn : 1 ≤ n) (ho : -1 ≤ ord ∧ ord < 4) :
    Calls Try.prog 9 #[.pointer (some ⟨h, 0, none⟩), .int .i64 n, .int .i64 ord] w fun e w' => e = .returned (.tuple #[spV sp0, .int .i64 3]) ∧ HPost w h rb v bx bi bm L ids S last w' := by
  obtain ⟨o0, o1⟩ := ho
  have hsz := heap_lt H.hd
  have c1 : ¬ n < 1 := by omega
  have c2 : ¬ ord < -1 := by omega
  have c3 : ¬ 4 ≤ ord := by omega
  have hb := (Bel.refl w).alloc (.cells #[.int .i64 0, .int .i64 0, .int .i64 0, .int .i64 0] 35)
  obtain ⟨q0, q1, q2, q3⟩ := four_cells (H.bel hb).hd
  have htk := runs_Take rb v L n _ (H.free.bel hb) hnn
  rw [hT] at htk
  have HTK := Lib.hid htk
  have HH := Lib.hid H
  have HB := Lib.hid hb
  have gR := Lib.hid (blk_alloc w (.cells #[.int .i64 0, .int .i64 0, .int .i64 0, .int .i64 0] 35))
  clear htk H hb
  go_enter Try.func9, Try.ntmps9
  go_wp2_with fail
  refine HTK.out.mono ?_
  clear HTK
  rintro e w1 ⟨rfl, hP⟩
  have hr1 := hP.choose_spec.2.2.heap gR.out (fun hk => by have := HH.out.lt (k := w.heap.size) (by rcases hk with hk | hk; exact .inr (.inl hk); exact .inr (.inr (.inl hk))); omega)
  have hH1 := (HH.out.bel HB.out).taken hP rfl
  obtain ⟨c0', c1', c2', c3'⟩ := four_cells hr1
  obtain ⟨f0, f1, f2, f3⟩ := four_frozen hr1
  have hset4 : Fr (fun k => k = w.heap.size) w1 (((((w1.setCell ⟨w.heap.size, 0, none⟩ (.int .i64 0)).setCell ⟨w.heap.size, 1, none⟩ (.int .i64 0)).setCell ⟨w.heap.size, 2, none⟩ (.int .i64 0)).setCell ⟨w.heap.size, 3, none⟩ (.int .i64 0))) :=
    Fr.setCell (p := ⟨w.heap.size, 3, none⟩) (Fr.setCell (p := ⟨w.heap.size, 2, none⟩) (Fr.setCell (p := ⟨w.heap.size, 1, none⟩) (Fr.setCell (p := ⟨w.heap.size, 0, none⟩) (Fr.refl (fun k => k = w.heap.size) w1) (.inl rfl) _) (.inl rfl) _) (.inl rfl) _) (.inl rfl) _
  have HE : Hid ((((((w1.setCell ⟨w.heap.size, 0, none⟩ (.int .i64 0)).setCell ⟨w.heap.size, 1, none⟩ (.int .i64 0)).setCell ⟨w.heap.size, 2, none⟩ (.int .i64 0)).setCell ⟨w.heap.size, 3, none⟩ (.int .i64 0)).alloc (.cells #[.int .i64 0, .int .i64 0] 33)).heap[w.heap.size]? = some (.cells #[.int .i64 0, .int .i64 0, .int .i64 0, .int .i64 0] 35 (0, 0)) ∧ HPost w h rb v bx bi bm L ids S last (((((w1.setCell ⟨w.heap.size, 0, none⟩ (.int .i64 0)).setCell ⟨w.heap.size, 1, none⟩ (.int .i64 0)).setCell ⟨w.heap.size, 2, none⟩ (.int .i64 0)).setCell ⟨w.heap.size, 3, none⟩ (.int .i64 0)).alloc (.cells #[.int .i64 0, .int .i64 0] 33))) := Lib.hid (by
    refine ⟨blk_alloc_old _ (four_set hr1 _ _ _ _), ?_⟩
    obtain ⟨v', k1, k2, k3⟩ := hH1.from HB.out
    refine HPost.then_bel ⟨v', k1.fr hset4 (fun i hi e => ?_), k2, k3.trans hset4 (fun k hk => .inr (by omega))⟩ ((Bel.refl _).alloc _)
    subst e
    have hold : ∀ k, footH h rb v bx bi bm k → k < w.heap.size := fun k hk => HH.out.lt hk
    rcases hi with hi | hi | hi | hi | hi | hi
    · have := hold _ (.inl hi); omega
    · have := hold _ (.inr (.inl hi)); omega
    · obtain ⟨cur, hc⟩ := own_type k1.free.own hi
      rw [hr1] at hc; simp at hc
    · have := hold _ (.inr (.inr (.inr (.inl hi)))); omega
    · have := hold _ (.inr (.inr (.inr (.inr (.inl hi))))); omega
    · have := hold _ (.inr (.inr (.inr (.inr (.inr hi))))); omega)
  have hs1 : w.heap.size < w1.heap.size := heap_lt hr1
  clear hP hr1 hH1 hset4
  go_wp2
  generalize ((((w1.setCell ⟨w.heap.size, 0, none⟩ (.int .i64 0)).setCell ⟨w.heap.size, 1, none⟩ (.int .i64 0)).setCell ⟨w.heap.size, 2, none⟩ (.int .i64 0)).setCell ⟨w.heap.size, 3, none⟩ (.int .i64 0)).alloc (.cells #[.int .i64 0, .int .i64 0] 33) = W9 at HE ⊢
  obtain ⟨r0, r1, r2, r3⟩ := four_cells HE.out.1
  refine bodyPost_ret (v := .tuple #[.agg #[.int .i64 0, .int .i64 0, .int .i64 0, .int .i64 0], .int .i64 3]) (by simp [results, Try.results9, go_sem, r0, r1, r2, r3]) rfl ?_
  exact ⟨rfl, HE.out.2⟩
end Go.Proofs.Ythkbhikiljlgoaa
