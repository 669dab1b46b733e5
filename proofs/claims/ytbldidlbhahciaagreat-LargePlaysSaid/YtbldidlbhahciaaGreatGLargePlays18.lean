/- The statement LargePlays: whatever comes in, the law returns true, and each argument reads as it did. No condition. Layer 10: any row of acts. -/
import Derived.Test.YtbldidlbhahciaaGreatGLargePlays17
import Derived.Test.YtbldidlbhahciaaGreatGLargePlays9
import Derived.Test.YtbldidlbhahciaaGreatGLargePlays14
import Derived.Test.YtbldidlbhahciaaGreatGLargePlays0
import Derived.Deep.RegionHeld3
set_option linter.unusedVariables false
set_option linter.unusedSimpArgs false
namespace Go.Proofs.YtbldidlbhahciaaGreat
open Go.RowKit

set_option maxHeartbeats 40000000 in
set_option maxRecDepth 20000 in
theorem largePlays_walk (pages : Int) (sa : Option Addr) (xs : List Act10) (m0 c0 : Nat) (n : Int) (w : World) (hp : I64 pages) (hA : Acts10 w sa m0 xs) (hn : I64 n) :
    Calls Tryz.prog 4 #[.int .i64 pages, .slice sa m0 c0, .int .i64 n] w fun e w' => e = .returned (.bool true) ∧ Bel w w' := by
  obtain ⟨rfl, hl, hrd, hok⟩ := hA
  have hl2 : xs.length ≤ 9223372036854775807 := by unfold maxLen at hl; omega
  by_cases c1 : 100 < pages ∨ 100 < (xs.length : Int)
  · clear hrd hok
    by_cases c3 : 100 < pages
    · go_enter Tryz.func4, Tryz.ntmps4
      go_wp2_with fail
      refine (awake10 _).mono ?_; rintro e w' ⟨rfl, hB⟩
      go_wp2
      go_ret
      exact ⟨rfl, hB⟩
    · have c4 : 100 < (xs.length : Int) := by omega
      go_enter Tryz.func4, Tryz.ntmps4
      go_wp2_with fail
      refine (awake10 _).mono ?_; rintro e w' ⟨rfl, hB⟩
      go_wp2
      go_ret
      exact ⟨rfl, hB⟩
  have c2 : xs.length ≤ 100 := by omega
  have c3 : ¬ 100 < pages := by omega
  have c4 : ¬ 100 < (xs.length : Int) := by omega
  clear c1
  by_cases hpg : pages < 4
  · have HNB := Lib.hid (heap_New_bad pages w hp (.inl hpg))
    have HRB := Lib.hid (fun V => ref7_New_bad pages V hp (.inl hpg))
    clear hrd hok hpg
    go_enter Tryz.func4, Tryz.ntmps4
    go_wp2_with fail
    refine HNB.out.mono ?_; rintro e w1 ⟨rfl, rfl⟩
    go_wp2_with fail
    refine (large_New0 _).mono ?_; rintro e w2 ⟨rfl, rfl⟩
    go_wp2_with fail
    refine (HRB.out _).mono ?_; rintro e w3 ⟨rfl, hB3⟩
    have hB0 := ((Bel.refl w).alloc (.cells #[.int .i64 0, .slice none 0 0, .slice none 0 0, .int .i64 0, .slice none 0 0, .slice none 0 0, .bool false] 46))
    have gb := hB3.blk (blk_alloc w (.cells #[.int .i64 0, .slice none 0 0, .slice none 0 0, .int .i64 0, .slice none 0 0, .slice none 0 0, .bool false] 46))
    obtain ⟨q0, q1, q2, q3, q4, q5, q6⟩ := seven_cells gb
    obtain ⟨f0, f1, f2, f3, f4, f5, f6⟩ := seven_frozen gb
    have l0 := heap_lt gb
    have HB := Lib.hid (hB0.trans hB3)
    clear hB0 hB3 gb
    go_wp2_with fail
    refine (awake10 _).mono ?_; rintro e w4 ⟨rfl, hB4⟩
    have hF := fr_four w3 w.heap.size (.int .i64 0) (.slice none 0 0) (.slice none 0 0) (.int .i64 0)
    have HB4 := Lib.hid ((Fr.bel ((Fr.of_bel HB.out).trans' hF) (fun k hk => by subst hk; exact Nat.le_refl _)).trans hB4)
    clear hB4 hF
    go_wp2
    go_ret
    exact ⟨rfl, HB4.out⟩
  obtain ⟨P, rfl⟩ := Int.eq_ofNat_of_zero_le (show 0 ≤ pages by omega)
  have hP : 4 ≤ P ∧ P ≤ 1024 := by omega
  have HNEW := Lib.hid (heap_New P w hP.1 hP.2)
  have HRD := Lib.hid hrd
  have HOK := Lib.hid hok
  clear hrd hok hpg
  go_enter Tryz.func4, Tryz.ntmps4
  go_wp2_with fail
  refine HNEW.out.mono ?_; rintro e w1 hN
  obtain ⟨hb, bi, rfl, hL⟩ := liveG_new hN
  have HL0 := Lib.hid hL
  clear hN hL HNEW
  go_wp2_with fail
  refine (large_New HL0.out).mono ?_
  rintro e w2 ⟨k, rfl, hL2, hB2⟩
  have HL2 := Lib.hid hL2
  clear hL2 hB2 HL0
  go_wp2_with fail
  refine (ref7_New P _ hP.1 hP.2).mono ?_
  rintro e w3 ⟨g, fc, rfl, hO, hB3⟩
  simp only [hV]
  have hB0 := ((Bel.refl w2).alloc (.cells #[.int .i64 0, .slice none 0 0, .slice none 0 0, .int .i64 0, .slice none 0 0, .slice none 0 0, .bool false] 46)).trans hB3
  have gb := hB3.blk (blk_alloc w2 (.cells #[.int .i64 0, .slice none 0 0, .slice none 0 0, .int .i64 0, .slice none 0 0, .slice none 0 0, .bool false] 46))
  have hR3 : RefG w3 g fc none 0 (hpNew P) := ⟨_, ⟨hO, .inl rfl, fun _ => ⟨rfl, rfl⟩, Nat.le_refl _⟩, by rw [HpOk.empty (hpNew_ok hP.1 hP.2) rfl]; exact twin_start hP.1 hP.2⟩
  obtain ⟨B, hB⟩ : ∃ B, w2.heap.size = B := ⟨_, rfl⟩
  rw [hB] at gb ⊢
  have l0 := heap_lt gb
  have hwB : w.heap.size ≤ B := by have := HL2.out.bel.size; omega
  obtain ⟨q0, q1, q2, q3, q4, q5, q6⟩ := seven_cells gb
  obtain ⟨f0, f1, f2, f3, f4, f5, f6⟩ := seven_frozen gb
  have HW0 : Hid (∀ W0, W0 = (((w3.setCell ⟨B, 0, none⟩ (.int .i64 (P : Int))).setCell ⟨B, 1, none⟩ (.slice (some ⟨g, 0, none⟩) 1024 fc)).setCell ⟨B, 2, none⟩ (.slice none 0 0)).setCell ⟨B, 3, none⟩ (.int .i64 ((0 : Nat) : Int)) → ∃ N st p, Way10 w B k hb bi 0 W0 N st p) := Lib.hid (fun W0 e0 => by
    have hF := fr_four w3 B (.int .i64 (P : Int)) (.slice (some ⟨g, 0, none⟩) 1024 fc) (.slice none 0 0) (.int .i64 ((0 : Nat) : Int))
    rw [← e0] at hF
    obtain ⟨cur, hg⟩ := hR3.blk
    have RK : Fr (fun k => k = B) w3 W0 → RefK W0 (ksNew (hpNew P)) ⟨g, fc, none, 0, none, 0, none, 0⟩ := fun hF => by
      have hRK : RefK w3 (ksNew (hpNew P)) ⟨g, fc, none, 0, none, 0, none, 0⟩ := ⟨hR3, .inl rfl, .inl rfl, Nat.le_refl _, Nat.le_refl _, (fun _ => ⟨rfl, rfl⟩), (fun _ => ⟨rfl, rfl⟩)⟩
      exact hRK.store hF (fun i hi => by subst hi; exact ⟨_, _, gb, by decide⟩) (fun i hi => ⟨(fun q hq _ => by cases hq), (fun q hq _ => by cases hq), (fun q hq _ => by cases hq)⟩)
    have hL3 := (HL2.out.watch hB0 (fun i => w2.heap.size ≤ i ∧ i < w3.heap.size) (fun i hi => hi)).add hg notHeap_bool (by decide) (by decide)
    have hbox : W0.heap[B]? = some (.cells (kCells (ksNew (hpNew P)) ⟨g, fc, none, 0, none, 0, none, 0⟩) 46 (0, 0)) := by
      rw [e0]
      have h1 := blk_setCell gb 0 (.int .i64 (P : Int))
      have h2 := blk_setCell h1 1 (.slice (some ⟨g, 0, none⟩) 1024 fc)
      have h3 := blk_setCell h2 2 (.slice none 0 0)
      have h4 := blk_setCell h3 3 (.int .i64 ((0 : Nat) : Int))
      exact h4
    refine ⟨_, ksNew (hpNew P), ⟨g, fc, none, 0, none, 0, none, 0⟩, hL3.fr hF (fun i hi => by subst hi; exact ⟨.inl (.inr ⟨by omega, l0⟩), hwB⟩), ?_, ?_, hbox, ?_, hwB, ?_, Nat.le_refl _⟩
    · exact RK hF
    · exact ⟨.inr rfl, (fun q hq _ => by cases hq), (fun q hq _ => by cases hq), (fun q hq _ => by cases hq)⟩
    · exact .inl (.inr ⟨by omega, l0⟩)
    · exact ⟨(fun q hq _ => by cases hq), (fun q hq _ => by cases hq), (fun q hq _ => by cases hq)⟩)
  clear hO hB3 hB0 gb hR3 hB
  go_wp2_with fail
  have HW1 := Lib.hid (HW0.out _ rfl)
  clear HW0 q0 q1 q2 q3 q4 q5 q6 f0 f1 f2 f3 f4 f5 f6
  generalize (((w3.setCell ⟨B, 0, none⟩ (.int .i64 (P : Int))).setCell ⟨B, 1, none⟩ (.slice (some ⟨g, 0, none⟩) 1024 fc)).setCell ⟨B, 2, none⟩ (.slice none 0 0)).setCell ⟨B, 3, none⟩ (.int .i64 ((0 : Nat) : Int)) = W0 at HW1 ⊢
  clear l0
  go_loopw [11] (fun kk wr => ∃ i : Nat, i ≤ xs.length ∧ kk = .int .i64 i ∧ Hid (∃ N st p, Way10 w B k hb bi i wr N st p)) (fun kk wr => xs.length - (intOf kk).toNat)
  case atStart => exact ⟨0, Nat.zero_le _, rfl, HW1⟩
  case round =>
    clear HW1
    obtain ⟨i, hi, rfl, HX⟩ := hrel
    obtain ⟨N, st, ⟨g, fc, a, c, ka, kc, wa, wn⟩, hX⟩ := HX.out
    have HY := Lib.hid hX
    have hbx := hX.box
    simp only [kCells] at hbx
    obtain ⟨y0, y1, y2, y3, y4, y5, y6⟩ := seven_cells hbx
    have hlB := heap_lt hbx
    clear HX hX
    by_cases hlt : i < xs.length
    · obtain ⟨b, o, rfl, hra⟩ := (HRD.out.bel HY.out.live.bel).at i hlt
      obtain ⟨b', o', e', hra0⟩ := HRD.out.at i hlt
      cases e'
      have hx := HOK.out xs[i] (List.getElem_mem _)
      generalize xs[i] = x at hra hra0 hx
      have q0 : wr.cell? ⟨b, o + i * 5, none⟩ = some (.int .i64 x.kind) := hra 0 _ rfl
      have q1 : wr.cell? ⟨b, o + i * 5 + 1, none⟩ = some (.int .i64 x.n) := hra 1 _ rfl
      have q2 : wr.cell? ⟨b, o + i * 5 + 2, none⟩ = some (.int .i64 x.order) := hra 2 _ rfl
      have q3 : wr.cell? ⟨b, o + i * 5 + 3, none⟩ = some (.bool x.on) := hra 3 _ rfl
      have q4 : wr.cell? ⟨b, o + i * 5 + 4, none⟩ = some (.slice x.ia x.ids.length x.ic) := hra 4 _ rfl
      have hxl : x.ids.length ≤ 9223372036854775807 := by have := hx.len; unfold maxLen at this; omega
      have hlb : b < w.heap.size := World.block_lt_of_cell? w ⟨b, o + i * 5 + 1, none⟩ (hra0 1 _ rfl)
      have HXO := Lib.hid hx
      have d0 : (i : Int) < xs.length := by omega
      have HKA : Hid (∀ V, Bel w V → (V.cell? ⟨b, o + i * 5, none⟩ = some (.int .i64 x.kind) ∧ V.cell? ⟨b, o + i * 5 + 1, none⟩ = some (.int .i64 x.n) ∧ V.cell? ⟨b, o + i * 5 + 2, none⟩ = some (.int .i64 x.order) ∧ V.cell? ⟨b, o + i * 5 + 3, none⟩ = some (.bool x.on) ∧ V.cell? ⟨b, o + i * 5 + 4, none⟩ = some (.slice x.ia x.ids.length x.ic))) := Lib.hid (fun V hV => ⟨hV.cell (hra0 0 _ rfl), hV.cell (hra0 1 _ rfl), hV.cell (hra0 2 _ rfl), hV.cell (hra0 3 _ rfl), hV.cell (hra0 4 _ rfl)⟩)
      clear hra hra0 hx
      by_cases c5 : 20 < (x.ids.length : Int)
      · go_wp2_with fail
        refine (awake10 _).mono ?_; rintro e w' ⟨rfl, hB⟩
        go_wp2
        go_ret
        exact ⟨rfl, HY.out.live.bel.trans hB⟩
      have HDOES : Hid (∀ V, Bel wr V → Calls Tryz.prog 16 #[.pointer (some ⟨hb, 0, none⟩), .pointer (some ⟨k, 0, none⟩), .agg #[.int .i64 (st.h.P : Int), .slice (some ⟨g, 0, none⟩) 1024 fc, .slice a st.h.S.length c, .int .i64 (st.h.last : Int), .slice ka st.kept.length kc, .slice wa st.waits.length wn, .bool st.held], .agg #[.int .i64 x.kind, .int .i64 x.n, .int .i64 x.order, .bool x.on, .slice x.ia x.ids.length x.ic]] V fun e V' => ∃ st' p', st' = st.act x ∧ e = .returned (.tuple #[.bool true, .agg #[.int .i64 (st'.h.P : Int), .slice (some ⟨p'.g, 0, none⟩) 1024 p'.fc, .slice p'.a st'.h.S.length p'.c, .int .i64 (st'.h.last : Int), .slice p'.ka st'.kept.length p'.kc, .slice p'.wa st'.waits.length p'.wc, .bool st'.held]]) ∧ Bel wr V ∧ DoesPost w (fun j => N j ∨ (wr.heap.size ≤ j ∧ j < V.heap.size)) V k hb bi st ⟨g, fc, a, c, ka, kc, wa, wn⟩ st' p' V' ∧ (V'.cell? ⟨B, 0, none⟩ = some (.int .i64 (st.h.P : Int)) ∧ V'.cell? ⟨B, 1, none⟩ = some (.slice (some ⟨g, 0, none⟩) 1024 fc) ∧ V'.cell? ⟨B, 2, none⟩ = some (.slice a st.h.S.length c) ∧ V'.cell? ⟨B, 3, none⟩ = some (.int .i64 (st.h.last : Int)) ∧ V'.cell? ⟨B, 4, none⟩ = some (.slice ka st.kept.length kc) ∧ V'.cell? ⟨B, 5, none⟩ = some (.slice wa st.waits.length wn) ∧ V'.cell? ⟨B, 6, none⟩ = some (.bool st.held) ∧ V'.cell? ⟨b, o + i * 5, none⟩ = some (.int .i64 x.kind) ∧ V'.cell? ⟨b, o + i * 5 + 1, none⟩ = some (.int .i64 x.n) ∧ V'.cell? ⟨b, o + i * 5 + 2, none⟩ = some (.int .i64 x.order) ∧ V'.cell? ⟨b, o + i * 5 + 3, none⟩ = some (.bool x.on) ∧ V'.cell? ⟨b, o + i * 5 + 4, none⟩ = some (.slice x.ia x.ids.length x.ic))) := Lib.hid (fun V hV => by
        refine (does10 (HY.out.live.watch hV (fun j => wr.heap.size ≤ j ∧ j < V.heap.size) (fun j hj => hj)) (HY.out.ref.bel hV) (HY.out.inn.mono (fun j hj => .inl hj)) x ?_ (by omega) (by have := HY.out.last; omega)).mono ?_
        · have := HXO.out
          exact ⟨this.kind, this.n, this.order, this.len, this.cap, this.rd.bel (HY.out.live.bel.trans hV), this.ok⟩
        · rintro e V' ⟨p', h1, h2⟩
          have h3 := h2.fr.heap (hV.blk hbx) (fun h => h (.inl HY.out.nB))
          obtain ⟨N9, _, h4, _⟩ := h2.live
          obtain ⟨z0, z1, z2, z3, z4, z5, z6⟩ := seven_cells h3
          exact ⟨_, p', rfl, h1, hV, h2, z0, z1, z2, z3, z4, z5, z6, HKA.out V' h4.bel⟩)
      have HKP : Hid (∀ V, Bel wr V → (V.cell? ⟨B, 0, none⟩ = some (.int .i64 (st.h.P : Int)) ∧ V.cell? ⟨B, 1, none⟩ = some (.slice (some ⟨g, 0, none⟩) 1024 fc) ∧ V.cell? ⟨B, 2, none⟩ = some (.slice a st.h.S.length c) ∧ V.cell? ⟨B, 3, none⟩ = some (.int .i64 (st.h.last : Int)) ∧ V.cell? ⟨B, 4, none⟩ = some (.slice ka st.kept.length kc) ∧ V.cell? ⟨B, 5, none⟩ = some (.slice wa st.waits.length wn) ∧ V.cell? ⟨B, 6, none⟩ = some (.bool st.held) ∧ V.cell? ⟨b, o + i * 5, none⟩ = some (.int .i64 x.kind) ∧ V.cell? ⟨b, o + i * 5 + 1, none⟩ = some (.int .i64 x.n) ∧ V.cell? ⟨b, o + i * 5 + 2, none⟩ = some (.int .i64 x.order) ∧ V.cell? ⟨b, o + i * 5 + 3, none⟩ = some (.bool x.on) ∧ V.cell? ⟨b, o + i * 5 + 4, none⟩ = some (.slice x.ia x.ids.length x.ic))) := Lib.hid (fun V hV => ⟨hV.cell y0, hV.cell y1, hV.cell y2, hV.cell y3, hV.cell y4, hV.cell y5, hV.cell y6, HKA.out V (HY.out.live.bel.trans hV)⟩)
      have l1 : B ≠ wr.heap.size := by omega
      have l2 : wr.heap.size ≠ B := by omega
      have l3 : b < wr.heap.size := by have := HY.out.live.bel.size; omega
      have l4 : b ≠ wr.heap.size := by omega
      have l5 : wr.heap.size ≠ b := by omega
      go_wp2_with fail
      go_cut [12, 13] (fun s12 s13 wx => ∃ st' p' D N', st' = st.act x ∧ s12 = .bool true ∧ s13 = .pointer (some ⟨D, 0, none⟩) ∧ Mid10 w B k hb bi st st' ⟨g, fc, a, c, ka, kc, wa, wn⟩ p' D N' wx)
      case first =>
        go_region_held3 (fun V : World => V.cell? ⟨B, 0, none⟩ = some (.int .i64 (st.h.P : Int)) ∧ V.cell? ⟨B, 1, none⟩ = some (.slice (some ⟨g, 0, none⟩) 1024 fc) ∧ V.cell? ⟨B, 2, none⟩ = some (.slice a st.h.S.length c) ∧ V.cell? ⟨B, 3, none⟩ = some (.int .i64 (st.h.last : Int)) ∧ V.cell? ⟨B, 4, none⟩ = some (.slice ka st.kept.length kc) ∧ V.cell? ⟨B, 5, none⟩ = some (.slice wa st.waits.length wn) ∧ V.cell? ⟨B, 6, none⟩ = some (.bool st.held) ∧ V.cell? ⟨b, o + i * 5, none⟩ = some (.int .i64 x.kind) ∧ V.cell? ⟨b, o + i * 5 + 1, none⟩ = some (.int .i64 x.n) ∧ V.cell? ⟨b, o + i * 5 + 2, none⟩ = some (.int .i64 x.order) ∧ V.cell? ⟨b, o + i * 5 + 3, none⟩ = some (.bool x.on) ∧ V.cell? ⟨b, o + i * 5 + 4, none⟩ = some (.slice x.ia x.ids.length x.ic))
          (first | (with_reducible exact hS7) | (refine HKP.out _ ?_; (with_reducible (repeat (first | exact Bel.refl _ | apply Bel.drew | apply Bel.alloc))); done) | go_keep)
          (first | (go_at_call 16; (with_reducible refine (HDOES.out _ ?b1).mono ?_); (case b1 => repeat (first | exact Bel.refl _ | apply Bel.drew | apply Bel.alloc)); rintro e w7 ⟨_, p', rfl, rfl, hV7, hD7, hS7⟩; (have l9 : B < w7.heap.size := World.block_lt_of_cell? _ _ hS7.1); (have l10 : B ≠ w7.heap.size := by omega); (have l11 : b < w7.heap.size := World.block_lt_of_cell? _ _ hS7.2.2.2.2.2.2.2.1); (have l12 : b ≠ w7.heap.size := by omega); try (with_reducible (have gnb := hD7.own (blk_alloc _ _) (Nat.le_refl _); have n9 := heap_lt gnb; obtain ⟨n0, n1, n2, n3, n4, n5, n6⟩ := seven_cells gnb; obtain ⟨e0, e1, e2, e3, e4, e5, e6⟩ := seven_frozen gnb))))
        · go_wp2_with fail
          go_meet
          obtain ⟨N9, hM⟩ := HY.out.mid hV7 hD7 (Fr.of_bel (S := fun _ => False) ((Bel.refl _).alloc _)) (fun i h => h.elim) (blk_alloc _ _) (by have := hD7.fr.size; have := hV7.size; omega)
          exact ⟨st.act x, p', _, N9, rfl, rfl, rfl, hM⟩
        · go_wp2_with fail
          go_meet
          obtain ⟨N9, hM⟩ := HY.out.mid hV7 hD7 (fr_seven w7 wr.heap.size _ _ _ _ _ _ _) (fun i h => by subst h; exact ⟨Nat.le_refl _, by simp, _, _, gnb, by decide⟩) (seven_set gnb _ _ _ _ _ _ _) (Nat.le_refl _)
          exact ⟨st.act x, p', _, N9, rfl, rfl, rfl, hM⟩
      case rest =>
        obtain ⟨st', ⟨g', fc', a', c', ka', kc', wa', wn'⟩, D, N', hst, rfl, rfl, hM⟩ := hcut
        have hM1 := hM.old
        have hM2 := hM.box
        have hDB := hM.ne
        simp only [kCells] at hM1 hM2
        have hlast : st'.h.last ≤ i + 1 := by rw [hst]; have := act_last st x; have := HY.out.last; omega
        obtain ⟨z0, z1, z2, z3, z4, z5, z6⟩ := seven_cells hM2
        obtain ⟨x0, x1, x2, x3, x4, x5, x6⟩ := seven_cells hM1
        obtain ⟨e0, e1, e2, e3, e4, e5, e6⟩ := seven_frozen hM1
        have l6 := heap_lt hM1
        have HW2 : Hid (∀ W2, W2 = ((((((wc.setCell ⟨B, 0, none⟩ (.int .i64 (st'.h.P : Int))).setCell ⟨B, 1, none⟩ (.slice (some ⟨g', 0, none⟩) 1024 fc')).setCell ⟨B, 2, none⟩ (.slice a' st'.h.S.length c')).setCell ⟨B, 3, none⟩ (.int .i64 (st'.h.last : Int))).setCell ⟨B, 4, none⟩ (.slice ka' st'.kept.length kc')).setCell ⟨B, 5, none⟩ (.slice wa' st'.waits.length wn')).setCell ⟨B, 6, none⟩ (.bool st'.held) → Way10 w B k hb bi (i + 1) W2 N' st' ⟨g', fc', a', c', ka', kc', wa', wn'⟩) := Lib.hid (fun W2 e2 => by
          have hF := fr_seven wc B (.int .i64 (st'.h.P : Int)) (.slice (some ⟨g', 0, none⟩) 1024 fc') (.slice a' st'.h.S.length c') (.int .i64 (st'.h.last : Int)) (.slice ka' st'.kept.length kc') (.slice wa' st'.waits.length wn') (.bool st'.held)
          rw [← e2] at hF
          exact hM.way HY.out.wB hlast hF (by rw [e2]; exact seven_set hM1 _ _ _ _ _ _ _))
        clear hst hM hM1 hM2 hlast HDOES HKP y0 y1 y2 y3 y4 y5 y6 q0 q1 q2 q3 q4 l1 l2 l3 l4 l5 HXO hxl hlb HKA hbx hlB c5
        go_upto_region 16 with fail
        have HW3 := Lib.hid (HW2.out _ rfl)
        clear HW2 z0 z1 z2 z3 z4 z5 z6 x0 x1 x2 x3 x4 x5 x6 e0 e1 e2 e3 e4 e5 e6 l6
        generalize ((((((wc.setCell ⟨B, 0, none⟩ (.int .i64 (st'.h.P : Int))).setCell ⟨B, 1, none⟩ (.slice (some ⟨g', 0, none⟩) 1024 fc')).setCell ⟨B, 2, none⟩ (.slice a' st'.h.S.length c')).setCell ⟨B, 3, none⟩ (.int .i64 (st'.h.last : Int))).setCell ⟨B, 4, none⟩ (.slice ka' st'.kept.length kc')).setCell ⟨B, 5, none⟩ (.slice wa' st'.waits.length wn')).setCell ⟨B, 6, none⟩ (.bool st'.held) = W2 at HW3 ⊢
        have hbx := HW3.out.box
        simp only [kCells] at hbx
        obtain ⟨y0, y1, y2, y3, y4, y5, y6⟩ := seven_cells hbx
        have hcnt := HW3.out.live.inv.count
        have hlast := HW3.out.last
        obtain ⟨LK, hLK⟩ : ∃ l, keptIds st'.kept n = l := ⟨_, rfl⟩
        obtain ⟨LW, hLW⟩ : ∃ l, idsOf st'.waits = l := ⟨_, rfl⟩
        have hlk : LK.length ≤ maxLen := by
          have : LK.length ≤ st'.kept.length := by rw [← hLK]; unfold keptIds; rw [List.length_map]; exact List.length_filter_le _ _
          unfold maxLen; omega
        have hlw : LW.length ≤ maxLen := by
          have : LW.length = st'.waits.length := by rw [← hLW]; simp [idsOf]
          unfold maxLen; omega
        have HS : Hid (∀ V : World, Bel W2 V → (V.cell? ⟨B, 0, none⟩ = some (.int .i64 (st'.h.P : Int)) ∧ V.cell? ⟨B, 1, none⟩ = some (.slice (some ⟨g', 0, none⟩) 1024 fc') ∧ V.cell? ⟨B, 2, none⟩ = some (.slice a' st'.h.S.length c') ∧ V.cell? ⟨B, 3, none⟩ = some (.int .i64 (st'.h.last : Int)) ∧ V.cell? ⟨B, 4, none⟩ = some (.slice ka' st'.kept.length kc') ∧ V.cell? ⟨B, 5, none⟩ = some (.slice wa' st'.waits.length wn') ∧ V.cell? ⟨B, 6, none⟩ = some (.bool st'.held))) := Lib.hid (fun V hV => ⟨hV.cell y0, hV.cell y1, hV.cell y2, hV.cell y3, hV.cell y4, hV.cell y5, hV.cell y6⟩)
        have mk : ∀ {V V' : World} {e : Ending} {l : List Int}, Bel W2 V → NewInts V l e V' → ∃ d cd, e = .returned (.slice d l.length cd) ∧ RdV V' d (ints l) ∧ Bel V V' ∧ Bel W2 V' ∧ (V'.cell? ⟨B, 0, none⟩ = some (.int .i64 (st'.h.P : Int)) ∧ V'.cell? ⟨B, 1, none⟩ = some (.slice (some ⟨g', 0, none⟩) 1024 fc') ∧ V'.cell? ⟨B, 2, none⟩ = some (.slice a' st'.h.S.length c') ∧ V'.cell? ⟨B, 3, none⟩ = some (.int .i64 (st'.h.last : Int)) ∧ V'.cell? ⟨B, 4, none⟩ = some (.slice ka' st'.kept.length kc') ∧ V'.cell? ⟨B, 5, none⟩ = some (.slice wa' st'.waits.length wn') ∧ V'.cell? ⟨B, 6, none⟩ = some (.bool st'.held)) := fun hV ⟨v, h1, h2, h3⟩ => by
          obtain ⟨d, cd, rfl, h4, _⟩ := own_slice h2
          exact ⟨d, cd, h1, h4, h3, hV.trans h3, HS.out _ (hV.trans h3)⟩
        have HC1 : Hid (∀ V, Bel W2 V → Calls Tryz.prog 13 #[.pointer (some ⟨k, 0, none⟩), .int .i64 n] V fun e V' => ∃ d cd, e = .returned (.slice d LK.length cd) ∧ RdV V' d (ints LK) ∧ Bel V V' ∧ Bel W2 V' ∧ (V'.cell? ⟨B, 0, none⟩ = some (.int .i64 (st'.h.P : Int)) ∧ V'.cell? ⟨B, 1, none⟩ = some (.slice (some ⟨g', 0, none⟩) 1024 fc') ∧ V'.cell? ⟨B, 2, none⟩ = some (.slice a' st'.h.S.length c') ∧ V'.cell? ⟨B, 3, none⟩ = some (.int .i64 (st'.h.last : Int)) ∧ V'.cell? ⟨B, 4, none⟩ = some (.slice ka' st'.kept.length kc') ∧ V'.cell? ⟨B, 5, none⟩ = some (.slice wa' st'.waits.length wn') ∧ V'.cell? ⟨B, 6, none⟩ = some (.bool st'.held))) := Lib.hid (fun V hV => (large_Kept (HW3.out.live.then_bel hV) n (by omega)).mono fun e V' h => mk hV (hLK ▸ h))
        have HC2 : Hid (∀ V, Bel W2 V → Calls Tryz.prog 17 #[.agg #[.int .i64 (st'.h.P : Int), .slice (some ⟨g', 0, none⟩) 1024 fc', .slice a' st'.h.S.length c', .int .i64 (st'.h.last : Int), .slice ka' st'.kept.length kc', .slice wa' st'.waits.length wn', .bool st'.held], .int .i64 n] V fun e V' => ∃ d cd, e = .returned (.slice d LK.length cd) ∧ RdV V' d (ints LK) ∧ Bel V V' ∧ Bel W2 V' ∧ (V'.cell? ⟨B, 0, none⟩ = some (.int .i64 (st'.h.P : Int)) ∧ V'.cell? ⟨B, 1, none⟩ = some (.slice (some ⟨g', 0, none⟩) 1024 fc') ∧ V'.cell? ⟨B, 2, none⟩ = some (.slice a' st'.h.S.length c') ∧ V'.cell? ⟨B, 3, none⟩ = some (.int .i64 (st'.h.last : Int)) ∧ V'.cell? ⟨B, 4, none⟩ = some (.slice ka' st'.kept.length kc') ∧ V'.cell? ⟨B, 5, none⟩ = some (.slice wa' st'.waits.length wn') ∧ V'.cell? ⟨B, 6, none⟩ = some (.bool st'.held))) := Lib.hid (fun V hV => (ref10_List (HW3.out.ref.bel hV) n (by omega)).mono fun e V' h => mk hV (hLK ▸ h))
        have HC3 : Hid (∀ V, Bel W2 V → Calls Tryz.prog 18 #[.pointer (some ⟨k, 0, none⟩)] V fun e V' => ∃ d cd, e = .returned (.slice d LW.length cd) ∧ RdV V' d (ints LW) ∧ Bel V V' ∧ Bel W2 V' ∧ (V'.cell? ⟨B, 0, none⟩ = some (.int .i64 (st'.h.P : Int)) ∧ V'.cell? ⟨B, 1, none⟩ = some (.slice (some ⟨g', 0, none⟩) 1024 fc') ∧ V'.cell? ⟨B, 2, none⟩ = some (.slice a' st'.h.S.length c') ∧ V'.cell? ⟨B, 3, none⟩ = some (.int .i64 (st'.h.last : Int)) ∧ V'.cell? ⟨B, 4, none⟩ = some (.slice ka' st'.kept.length kc') ∧ V'.cell? ⟨B, 5, none⟩ = some (.slice wa' st'.waits.length wn') ∧ V'.cell? ⟨B, 6, none⟩ = some (.bool st'.held))) := Lib.hid (fun V hV => (large_Waits (HW3.out.live.then_bel hV) (by omega)).mono fun e V' h => mk hV (hLW ▸ h))
        have HC4 : Hid (∀ V, Bel W2 V → Calls Tryz.prog 19 #[.slice wa' st'.waits.length wn'] V fun e V' => ∃ d cd, e = .returned (.slice d LW.length cd) ∧ RdV V' d (ints LW) ∧ Bel V V' ∧ Bel W2 V' ∧ (V'.cell? ⟨B, 0, none⟩ = some (.int .i64 (st'.h.P : Int)) ∧ V'.cell? ⟨B, 1, none⟩ = some (.slice (some ⟨g', 0, none⟩) 1024 fc') ∧ V'.cell? ⟨B, 2, none⟩ = some (.slice a' st'.h.S.length c') ∧ V'.cell? ⟨B, 3, none⟩ = some (.int .i64 (st'.h.last : Int)) ∧ V'.cell? ⟨B, 4, none⟩ = some (.slice ka' st'.kept.length kc') ∧ V'.cell? ⟨B, 5, none⟩ = some (.slice wa' st'.waits.length wn') ∧ V'.cell? ⟨B, 6, none⟩ = some (.bool st'.held))) := Lib.hid (fun V hV => (ref10_Numbers wa' st'.waits _ wn' V rfl (by omega) (HW3.out.ref.waits.bel hV)).mono fun e V' h => mk hV (hLW ▸ h))
        have HC5 : Hid (∀ V d cd d' cd', Bel W2 V → RdV V d (ints LK) → RdV V d' (ints LK) → Calls Tryz.prog 14 #[.slice d LK.length cd, .slice d' LK.length cd'] V fun e V' => e = .returned (.bool true) ∧ Bel V V' ∧ Bel W2 V' ∧ (V'.cell? ⟨B, 0, none⟩ = some (.int .i64 (st'.h.P : Int)) ∧ V'.cell? ⟨B, 1, none⟩ = some (.slice (some ⟨g', 0, none⟩) 1024 fc') ∧ V'.cell? ⟨B, 2, none⟩ = some (.slice a' st'.h.S.length c') ∧ V'.cell? ⟨B, 3, none⟩ = some (.int .i64 (st'.h.last : Int)) ∧ V'.cell? ⟨B, 4, none⟩ = some (.slice ka' st'.kept.length kc') ∧ V'.cell? ⟨B, 5, none⟩ = some (.slice wa' st'.waits.length wn') ∧ V'.cell? ⟨B, 6, none⟩ = some (.bool st'.held))) := Lib.hid (fun V d cd d' cd' hV h1 h2 => (ref_Ints d d' LK LK _ cd _ cd' V rfl rfl hlk hlk h1 h2).mono fun e V' ⟨h3, h4⟩ => ⟨by rw [h3, decide_eq_true rfl], h4, hV.trans h4, HS.out _ (hV.trans h4)⟩)
        have HC6 : Hid (∀ V d cd d' cd', Bel W2 V → RdV V d (ints LW) → RdV V d' (ints LW) → Calls Tryz.prog 14 #[.slice d LW.length cd, .slice d' LW.length cd'] V fun e V' => e = .returned (.bool true) ∧ Bel V V' ∧ Bel W2 V' ∧ (V'.cell? ⟨B, 0, none⟩ = some (.int .i64 (st'.h.P : Int)) ∧ V'.cell? ⟨B, 1, none⟩ = some (.slice (some ⟨g', 0, none⟩) 1024 fc') ∧ V'.cell? ⟨B, 2, none⟩ = some (.slice a' st'.h.S.length c') ∧ V'.cell? ⟨B, 3, none⟩ = some (.int .i64 (st'.h.last : Int)) ∧ V'.cell? ⟨B, 4, none⟩ = some (.slice ka' st'.kept.length kc') ∧ V'.cell? ⟨B, 5, none⟩ = some (.slice wa' st'.waits.length wn') ∧ V'.cell? ⟨B, 6, none⟩ = some (.bool st'.held))) := Lib.hid (fun V d cd d' cd' hV h1 h2 => (ref_Ints d d' LW LW _ cd _ cd' V rfl rfl hlw hlw h1 h2).mono fun e V' ⟨h3, h4⟩ => ⟨by rw [h3, decide_eq_true rfl], h4, hV.trans h4, HS.out _ (hV.trans h4)⟩)
        have HNX : Hid (∀ V, Bel W2 V → ∃ N st p, Way10 w B k hb bi (i + 1) V N st p) := Lib.hid (fun V hV => ⟨N', st', _, HW3.out.live.then_bel hV, HW3.out.ref.bel hV, HW3.out.inn, hV.blk HW3.out.box, HW3.out.nB, HW3.out.wB, HW3.out.off, HW3.out.last⟩)
        clear mk hLK hLW hcnt hlast hbx
        go_cut [89] (fun s89 wx => s89 = .bool false ∧ Bel W2 wx)
        case first =>
          go_region_held3 (fun V : World => V.cell? ⟨B, 0, none⟩ = some (.int .i64 (st'.h.P : Int)) ∧ V.cell? ⟨B, 1, none⟩ = some (.slice (some ⟨g', 0, none⟩) 1024 fc') ∧ V.cell? ⟨B, 2, none⟩ = some (.slice a' st'.h.S.length c') ∧ V.cell? ⟨B, 3, none⟩ = some (.int .i64 (st'.h.last : Int)) ∧ V.cell? ⟨B, 4, none⟩ = some (.slice ka' st'.kept.length kc') ∧ V.cell? ⟨B, 5, none⟩ = some (.slice wa' st'.waits.length wn') ∧ V.cell? ⟨B, 6, none⟩ = some (.bool st'.held))
            (first | (refine HS.out _ ?_; (repeat (first | (with_reducible assumption) | exact Bel.refl _ | apply Bel.drew | apply Bel.alloc)); done) | go_keep)
            (first
            | (go_at_call 13; (with_reducible refine (HC1.out _ ?b1).mono ?_); (case b1 => (repeat (first | (with_reducible assumption) | exact Bel.refl _ | apply Bel.drew | apply Bel.alloc))); rintro e u1 ⟨d1, cd1, rfl, hr1, hv1, hb1, hk1⟩)
            | (go_at_call 17; (with_reducible refine (HC2.out _ ?b1).mono ?_); (case b1 => (repeat (first | (with_reducible assumption) | exact Bel.refl _ | apply Bel.drew | apply Bel.alloc))); rintro e u2 ⟨d2, cd2, rfl, hr2, hv2, hb2, hk2⟩)
            | (go_at_call 14; (with_reducible refine (HC5.out _ _ _ _ _ ?b1 ?b2 ?b3).mono ?_); (case b1 => (repeat (first | (with_reducible assumption) | exact Bel.refl _ | apply Bel.drew | apply Bel.alloc))); (case b2 => first | (with_reducible exact hr1) | (with_reducible exact hr1.bel hv2)); (case b3 => with_reducible exact hr2); rintro e u3 ⟨rfl, hv3, hb3, hk3⟩)
            | (go_at_call 18; (with_reducible refine (HC3.out _ ?b1).mono ?_); (case b1 => (repeat (first | (with_reducible assumption) | exact Bel.refl _ | apply Bel.drew | apply Bel.alloc))); rintro e u4 ⟨d4, cd4, rfl, hr4, hv4, hb4, hk4⟩)
            | (go_at_call 19; (with_reducible refine (HC4.out _ ?b1).mono ?_); (case b1 => (repeat (first | (with_reducible assumption) | exact Bel.refl _ | apply Bel.drew | apply Bel.alloc))); rintro e u5 ⟨d5, cd5, rfl, hr5, hv5, hb5, hk5⟩)
            | (go_at_call 14; (with_reducible refine (HC6.out _ _ _ _ _ ?b1 ?b2 ?b3).mono ?_); (case b1 => (repeat (first | (with_reducible assumption) | exact Bel.refl _ | apply Bel.drew | apply Bel.alloc))); (case b2 => with_reducible exact hr4.bel hv5); (case b3 => with_reducible exact hr5); rintro e u6 ⟨rfl, hv6, hb6, hk6⟩))
          all_goals
            go_wp2_with fail
            go_meet
            exact ⟨rfl, by repeat (first | (with_reducible assumption) | exact Bel.refl _ | apply Bel.drew | apply Bel.alloc)⟩
        case rest =>
          obtain ⟨rfl, hB9⟩ := hcut
          have HN9 := Lib.hid (HNX.out _ hB9)
          clear hB9 HC1 HC2 HC3 HC4 HC5 HC6 HS y0 y1 y2 y3 y4 y5 y6
          go_wp2
          go_roundw
          case rel =>
            (repeat (apply Exists.intro)); refine ⟨⟨i + 1, by omega, rfl, HN9⟩, ?_⟩
            (repeat' apply And.intro) <;> first | rfl | go_num
          case measure => simp [intOf]; omega
    · obtain rfl : i = xs.length := by omega
      have hok := HY.out.live.inv.ok
      have hle := hok.le
      have hcount := hok.count
      have hlast := HY.out.last
      obtain ⟨_, hbk⟩ := hok.sorted
      have hZl := bucketS_length st.h.S st.h.P
      have HRS : Hid (∀ V, Bel wr V → Calls Tryz.prog 22 #[.agg #[.int .i64 (st.h.P : Int), .slice (some ⟨g, 0, none⟩) 1024 fc, .slice a st.h.S.length c, .int .i64 (st.h.last : Int)]] V fun e w' => ∃ a' c', e = .returned (.slice a' (bucketS st.h.S st.h.P).length c') ∧ SpansIn w' a' (bucketS st.h.S st.h.P) ∧ Bel V w') := Lib.hid (fun V hV => by
        obtain ⟨f, hRH, _⟩ := HY.out.ref.heap.bel hV
        exact ref7_Spans st.h.P g fc a _ c st.h.last st.h.S V rfl hRH.sp (by omega) hle.2)
      obtain ⟨Z, hZe⟩ : ∃ Z, bucketS st.h.S st.h.P = Z := ⟨_, rfl⟩
      rw [hZe] at hbk HRS hZl
      have hzl : Z.length ≤ 65536 := by omega
      obtain ⟨zn, hzn⟩ : ∃ zn, Z.length = zn := ⟨_, rfl⟩
      have HK8 : Hid (∀ V, Bel wr V → (V.cell? ⟨B, 0, none⟩ = some (.int .i64 (st.h.P : Int)) ∧ V.cell? ⟨B, 1, none⟩ = some (.slice (some ⟨g, 0, none⟩) 1024 fc) ∧ V.cell? ⟨B, 2, none⟩ = some (.slice a st.h.S.length c) ∧ V.cell? ⟨B, 3, none⟩ = some (.int .i64 (st.h.last : Int)))) := Lib.hid (fun V h => ⟨h.cell y0, h.cell y1, h.cell y2, h.cell y3⟩)
      have HC1 : Hid (∀ V, Bel wr V → Calls Tryz.prog 21 #[.pointer (some ⟨hb, 0, none⟩)] V fun e V' => ∃ d cd, e = .returned (.slice d zn cd) ∧ SpansIn V' d Z ∧ Bel V V' ∧ Bel wr V' ∧ (V'.cell? ⟨B, 0, none⟩ = some (.int .i64 (st.h.P : Int)) ∧ V'.cell? ⟨B, 1, none⟩ = some (.slice (some ⟨g, 0, none⟩) 1024 fc) ∧ V'.cell? ⟨B, 2, none⟩ = some (.slice a st.h.S.length c) ∧ V'.cell? ⟨B, 3, none⟩ = some (.int .i64 (st.h.last : Int)))) := Lib.hid (fun V hV => by
        refine (HY.out.live.heapSpans V hV).mono ?_
        rintro e V' ⟨d, cd, zs, rfl, hz, hrz, hB, _⟩
        have e9 := hbk zs hz
        subst e9
        exact ⟨d, cd, by rw [hzn], SpansIn.of_row hrz, hB, hV.trans hB, HK8.out V' (hV.trans hB)⟩)
      have HC2 : Hid (∀ V, Bel wr V → Calls Tryz.prog 22 #[.agg #[.int .i64 (st.h.P : Int), .slice (some ⟨g, 0, none⟩) 1024 fc, .slice a st.h.S.length c, .int .i64 (st.h.last : Int)]] V fun e V' => ∃ d cd, e = .returned (.slice d zn cd) ∧ SpansIn V' d Z ∧ Bel V V' ∧ Bel wr V' ∧ (V'.cell? ⟨B, 0, none⟩ = some (.int .i64 (st.h.P : Int)) ∧ V'.cell? ⟨B, 1, none⟩ = some (.slice (some ⟨g, 0, none⟩) 1024 fc) ∧ V'.cell? ⟨B, 2, none⟩ = some (.slice a st.h.S.length c) ∧ V'.cell? ⟨B, 3, none⟩ = some (.int .i64 (st.h.last : Int)))) := Lib.hid (fun V hV => by
        refine (HRS.out V hV).mono ?_
        rintro e V' ⟨d, cd, rfl, hs, hB⟩
        exact ⟨d, cd, by rw [hzn], hs, hB, hV.trans hB, HK8.out V' (hV.trans hB)⟩)
      have HC3 : Hid (∀ V d cd d' cd', Bel wr V → SpansIn V d Z → SpansIn V d' Z → Calls Tryz.prog 20 #[.slice d zn cd, .slice d' zn cd'] V fun e V' => e = .returned (.bool true) ∧ Bel V V' ∧ Bel wr V' ∧ (V'.cell? ⟨B, 0, none⟩ = some (.int .i64 (st.h.P : Int)) ∧ V'.cell? ⟨B, 1, none⟩ = some (.slice (some ⟨g, 0, none⟩) 1024 fc) ∧ V'.cell? ⟨B, 2, none⟩ = some (.slice a st.h.S.length c) ∧ V'.cell? ⟨B, 3, none⟩ = some (.int .i64 (st.h.last : Int)))) := Lib.hid (fun V d cd d' cd' hV h1 h2 => by
        subst hzn
        exact (ref7_same d d' Z cd cd' V hzl h1 h2).mono fun e V' ⟨h3, hB⟩ => ⟨h3, hB, hV.trans hB, HK8.out V' (hV.trans hB)⟩)
      have HC8 : Hid (∀ V, Bel wr V → Calls Tryz.prog 9 #[] V fun e V' => e = .returned (.bool true) ∧ Bel V V' ∧ Bel wr V' ∧ (V'.cell? ⟨B, 0, none⟩ = some (.int .i64 (st.h.P : Int)) ∧ V'.cell? ⟨B, 1, none⟩ = some (.slice (some ⟨g, 0, none⟩) 1024 fc) ∧ V'.cell? ⟨B, 2, none⟩ = some (.slice a st.h.S.length c) ∧ V'.cell? ⟨B, 3, none⟩ = some (.int .i64 (st.h.last : Int)))) := Lib.hid (fun V hV => (awake10 V).mono fun e V' ⟨h3, hB⟩ => ⟨h3, hB, hV.trans hB, HK8.out V' (hV.trans hB)⟩)
      have HBW := Lib.hid HY.out.live.bel
      clear hok hle hcount hlast hbk hZl hZe hzl hzn HRS HRD HOK HY hbx
      go_wp2_with fail
      go_region_held3 (fun V : World => V.cell? ⟨B, 0, none⟩ = some (.int .i64 (st.h.P : Int)) ∧ V.cell? ⟨B, 1, none⟩ = some (.slice (some ⟨g, 0, none⟩) 1024 fc) ∧ V.cell? ⟨B, 2, none⟩ = some (.slice a st.h.S.length c) ∧ V.cell? ⟨B, 3, none⟩ = some (.int .i64 (st.h.last : Int)))
        (first | (refine HK8.out _ ?_; (repeat (first | (with_reducible assumption) | exact Bel.refl _ | apply Bel.drew | apply Bel.alloc)); done) | go_keep)
        (first
        | (go_at_call 21; (with_reducible refine (HC1.out _ ?b1).mono ?_); (case b1 => (repeat (first | (with_reducible assumption) | exact Bel.refl _ | apply Bel.drew | apply Bel.alloc))); rintro e u1 ⟨d1, cd1, rfl, hsp1, hv1, hb1, hk1⟩)
        | (go_at_call 22; (with_reducible refine (HC2.out _ ?b1).mono ?_); (case b1 => (repeat (first | (with_reducible assumption) | exact Bel.refl _ | apply Bel.drew | apply Bel.alloc))); rintro e u2 ⟨d2, cd2, rfl, hsp2, hv2, hb2, hk2⟩)
        | (go_at_call 20; (with_reducible refine (HC3.out _ _ _ _ _ ?b1 ?b2 ?b3).mono ?_); (case b1 => (repeat (first | (with_reducible assumption) | exact Bel.refl _ | apply Bel.drew | apply Bel.alloc))); (case b2 => with_reducible exact hsp1.bel hv2); (case b3 => with_reducible exact hsp2); rintro e u3 ⟨rfl, hv3, hb3, hk3⟩)
        | (go_at_call 9; (with_reducible refine (HC8.out _ ?b1).mono ?_); (case b1 => (repeat (first | (with_reducible assumption) | exact Bel.refl _ | apply Bel.drew | apply Bel.alloc))); rintro e u8 ⟨rfl, hv8, hb8, hk8⟩))
      all_goals
        go_wp2
        go_ret
        exact ⟨rfl, HBW.out.trans (by repeat (first | (with_reducible assumption) | exact Bel.refl _ | apply Bel.drew | apply Bel.alloc))⟩
end Go.Proofs.YtbldidlbhahciaaGreat

namespace Go.Proofs.YtbldidlbhahciaaGreat.largePlays
open Go.ChangeShapes Go.WideShapes Go.ChangeAt Go.RowKit
set_option linter.unusedVariables false

set_option maxRecDepth 100000 in
theorem lifted (os : Os) (started : os.Started) (H : Type) (enc : TypeId × Value → H) :
    ReturnsInHanded {} Tryz.checked os 4 .any (Rows.largePlaysSpec.pre6 enc Tryz.prog Tryz.f4 Rows.largePlaysRow.domain false) (Rows.largePlaysSpec.post enc Tryz.prog Tryz.f4 false true false false) := by
  refine returnsInHanded_of_change (C := Tryz.checked) lk_own started (by kernel_rfl) Tryz.func4
    (ChangeSpec.witness6 (enc := enc) (C := Tryz.checked) false ⟨#[], #[.int .i64 0, .slice none 0 0, .int .i64 0], []⟩ 8 (by kernel_rfl) (by kernel_rfl) (by kernel_rfl) (by kernel_rfl)) ?_
  intro W base args ds gs before hval0 hW hcnd _
  have hval : ∀ (j : Nat) t v, Tryz.f4.params[j]? = some t → args[j]? = some v → Value.okWide Tryz.prog W .any base t v := hval0
  have hW' := hW
  obtain ⟨p, q, hA0, hV, rfl, hfz, hnd⟩ := hW
  have hA : DataW.TrodAll enc Tryz.prog W 0 (fun _ => true) true Tryz.f4.params.toList args.toList ds p := hA0
  rw [Tryz.params4] at hA hval
  obtain ⟨v0, vs0, d0, ds0, p0, q0, hargs, rfl, rfl, h0, r_0⟩ := trodAll_cons hA
  obtain ⟨v1, vs1, d1, ds1, p1, q1, rfl, rfl, rfl, h1, r_1⟩ := trodAll_cons r_0
  obtain ⟨v2, vs2, d2, ds2, p2, q2, rfl, rfl, rfl, h2, r_2⟩ := trodAll_cons r_1
  obtain ⟨rfl, rfl, rfl⟩ := trodAll_nil r_2
  obtain rfl : args = #[v0, v1, v2] := by cases args; simp_all
  obtain ⟨rfl, rfl⟩ := trodVars_none hV
  obtain ⟨a0, rfl, rfl, rfl, w0⟩ := open_int Tryz.underlying3 (hval 0 3 v0 rfl rfl) h0
  obtain ⟨s1, l1, c1, rfl⟩ := okWide_slice Tryz.underlying40 (hval 1 40 v1 rfl rfl)
  have k1 := h1
  have lt1 : ∀ x ∈ p1, x.block < W.heap.size := by obtain ⟨m, hm⟩ := k1; exact DataW.trod_lt m _ _ _ hm
  obtain ⟨x1, r1⟩ := arg_acts10 h1
  obtain ⟨a2, rfl, rfl, rfl, w2⟩ := open_int Tryz.underlying3 (hval 2 3 v2 rfl rfl) h2
  clear hA0 hval0
  refine (largePlays_walk a0 s1 x1 l1 c1 a2 W (i64_of_wf w0) r1 (i64_of_wf w2)).mono fun e W' ⟨he, bel⟩ => ?_
  subst he
  exact ⟨_, rfl, _, _, _, [], _, [], hW', trodAll_mk1 (shut_bool Tryz.underlying4 _), (trodAll_cons_mk (shut_int Tryz.underlying3 w0) (trodAll_cons_mk (Below.trod lk_laid (by kernel_rfl) (of_decide_eq_true (by kernel_rfl)) k1 bel lt1) (trodAll_cons_mk (shut_int Tryz.underlying3 w2) trodAll_mk0))), rfl, Below.frame bel _, fun h => by cases h⟩

theorem over : Rows.largePlaysRow.holds Tryz.pinned (OpenSpec.ofChange Rows.largePlaysSpec) :=
  OpenClaim.holds_of_wide 4 Tryz.f4 rfl rfl rfl rfl rfl rfl rfl ⟨rfl, rfl, rfl, rfl, rfl⟩ rfl rfl rfl rfl rfl (by kernel_rfl) Tryz.func4 (by kernel_rfl)
    (of_decide_eq_true (by kernel_rfl)) (by unfold Func.isWrapper; first | (rw [if_pos (by decide +kernel)]; kernel_rfl) | (rw [if_neg (by decide +kernel)]; exact ⟨rfl, rfl⟩))
    (fun os started H enc _ => lifted os started H enc)

theorem proved : Rows.LargePlaysSaid := over
#print axioms proved
end Go.Proofs.YtbldidlbhahciaaGreat.largePlays
