/- Layer 8: Pop, Right. -/
import Derived.Test.YtnehccndghkakaaWRem
namespace Go.Proofs.Ytnehccndghkakaa
open Go.RowKit

/-- What Pop leaves. -/
def PPost (w : World) (ba bw : Nat) (r : CR × Int) (e : Ending) (w' : World) : Prop :=
  e = .returned (.tuple #[.agg #[.int .i64 r.1.hd, .int .i64 r.1.ln], .int .i64 r.2, .int .i64 r.1.e]) ∧ ArenaAt w' ba bw r.1.ws ∧ Fr (fun k => k = bw) w w'

/-- .. as seen from two worlds. -/
def CPost2 (w W : World) (ba bw : Nat) (r : CR) (e : Ending) (w' : World) : Prop :=
  e = .returned (.tuple #[.agg #[.int .i64 r.hd, .int .i64 r.ln], .int .i64 r.e]) ∧ ArenaAt w' ba bw r.ws ∧ Fr (fun k => k = bw) w w' ∧ Fr (fun k => k = bw) W w'
set_option maxHeartbeats 2000000 in
set_option maxRecDepth 20000 in
theorem chain_Pop (ba bw : Nat) (ws : List Int) (hd ln : Int) (w : World) (hA : ArenaAt w ba bw ws) (hhd : I64 hd) (hhl : I64 ln) :
    Calls Try.prog 18 #[.pointer (some ⟨ba, 0, none⟩), .agg #[.int .i64 hd, .int .i64 ln]] w (PPost w ba bw (popF ws hd ln)) := by
  have hP : ArenaP w (.pointer (some ⟨ba, 0, none⟩)) ws := .inr ⟨ba, bw, rfl, hA⟩
  have hbw := heap_lt hA.words
  have hba := heap_lt hA.hd
  have hsmall := hA.small
  have hG0 := RBox.start w hd ln
  have hB0 : Bel w ((w.alloc (.cells #[.int .i64 hd, .int .i64 ln] 37)).alloc (.cells #[.int .i64 0, .int .i64 0] 37)) := ((Bel.refl _).alloc _).alloc _
  obtain ⟨W0, hW0⟩ : ∃ W0, (w.alloc (.cells #[.int .i64 hd, .int .i64 ln] 37)).alloc (.cells #[.int .i64 0, .int .i64 0] 37) = W0 := ⟨_, rfl⟩
  rw [hW0] at hB0 hG0
  have hs0 := hG0.size
  have HW0 := Lib.hid hW0
  have HP := Lib.hid (hP.bel hB0)
  have HA := Lib.hid hA
  have HB := Lib.hid hB0
  have HG := Lib.hid hG0
  clear hW0 hP hA hB0 hG0
  rcases chL_or ws hd ln with ⟨l, hr, hch⟩ | ⟨hbad, hch⟩
  · have hll := hr.small
    have hlen := hr.len
    have HR := Lib.hid hr
    have hml : l.length ≤ maxLen := by unfold maxLen; omega
    clear hr hch
    cases l with
    | nil =>
      have HF := Lib.hid (popF_none HR.out)
      go_enter Try.func18, Try.ntmps18
      go_wp2_with fail
      rw [HW0.out]
      refine (chain_List_ok _ ws hd ln [] _ HP.out HR.out).mono ?_
      rintro e w1 ⟨v, rfl, hN, hB1⟩
      have hs1 := hB1.size
      obtain ⟨al, cl, rfl, hrl, hcl⟩ := own_slice hN
      clear hN hrl
      have g := HG.out.bel hB1
      obtain ⟨q0, q1, q2, q3⟩ := two_cells g.c
      obtain ⟨t0, t1, t2, t3⟩ := two_cells g.r
      go_wp2
      obtain ⟨r0, r1, r2⟩ := two_set g.r (.int .i64 hd) (.int .i64 ln)
      refine bodyPost_ret (v := .tuple #[.agg #[.int .i64 hd, .int .i64 ln], .int .i64 0, .int .i64 6]) (by simp [results, Try.results18, go_sem, r0, r1]) rfl ?_
      rw [HF.out]
      exact ⟨rfl, arena_two (HA.out.bel (HB.out.trans hB1)) (by omega) (by omega) _ _, fr_two (Fr.of_bel (HB.out.trans hB1)) (by omega) _ _⟩
    | cons x l =>
      have HF := Lib.hid (popF_some HR.out)
      have hxr := isCh_range HR.out.ch x (by simp)
      have hxi : I64 x := ⟨by omega, by omega⟩
      go_enter Try.func18, Try.ntmps18
      go_wp2_with fail
      rw [HW0.out]
      refine (chain_List_ok _ ws hd ln (x :: l) _ HP.out HR.out).mono ?_
      rintro e w1 ⟨v, rfl, hN, hB1⟩
      have hs1 := hB1.size
      obtain ⟨al, cl, rfl, hrl, hcl, hbl⟩ := own_slice2 hN
      obtain ⟨b, o, rfl, hcx⟩ := hrl.at (f := fun x => .int .i64 x) (xs := x :: l) 0 (by simp)
      simp only [List.getElem_cons_zero, Nat.add_zero] at hcx
      have hbb : W0.heap.size ≤ b := hbl _ rfl
      clear hbl
      have HRL := Lib.hid hrl
      clear hN hrl
      have g := HG.out.bel hB1
      obtain ⟨q0, q1, q2, q3⟩ := two_cells g.c
      obtain ⟨t0, t1, t2, t3⟩ := two_cells g.r
      have C : ∀ W, Bel w1 W → Calls Try.prog 14 #[.pointer (some ⟨ba, 0, none⟩), .agg #[.int .i64 hd, .int .i64 ln], .int .i64 x] W (CPost2 w1 W ba bw (remF ws hd ln x)) := fun W hb => by
        refine (chain_Remove ba bw ws hd ln x W (HA.out.bel ((HB.out.trans hB1).trans hb)) hhd hhl hxi).mono ?_
        rintro e w' ⟨rfl, h1, h2⟩
        exact ⟨rfl, h1, (Fr.of_bel hb).trans' h2, h2⟩
      have HC := Lib.hid C
      have HG1 := Lib.hid g
      have hl0 : (0 : Int) < ((l.length : Nat) : Int) + 1 := by omega
      clear C g
      go_wp2_with fail
      have HK : Hid (∀ W, Fr (fun k => k = bw) w1 W → W.cell? ⟨w.heap.size, 0, none⟩ = some (.int .i64 hd) ∧ W.cell? ⟨w.heap.size, 1, none⟩ = some (.int .i64 ln) ∧ W.cell? ⟨b, o, none⟩ = some (.int .i64 x)) :=
        Lib.hid (fun W hF => ⟨(two_cells (HG1.out.fr hF hbw).c).1, (two_cells (HG1.out.fr hF hbw).c).2.1, hF.cell hcx (by show ¬ b = bw; omega)⟩)
      go_region_held3 (fun w' => w'.cell? ⟨w.heap.size, 0, none⟩ = some (.int .i64 hd) ∧ w'.cell? ⟨w.heap.size, 1, none⟩ = some (.int .i64 ln) ∧ w'.cell? ⟨b, o, none⟩ = some (.int .i64 x))
        (first | go_keep | exact HK.out _ hF2 | exact HK.out _ (hF2.alloc _) | exact HK.out _ (fr_two hF2 (Nat.le_refl _) _ _))
        (first | (go_at_call 14; refine (HC.out _ ?b1).mono ?_; (case b1 => repeat (first | exact Bel.refl _ | apply Bel.drew | apply Bel.alloc)); rintro e w2 ⟨rfl, hA2, hF2, hF3⟩; (try (have g9 := hF3.heap (blk_alloc _ _) (by show ¬ w1.heap.size = bw; omega); obtain ⟨y0, y1, y2, y3⟩ := two_cells g9))))
      · have hFr : Fr (fun k => k = bw) w1 (w2.alloc (.cells #[.int .i64 (remF ws hd ln x).hd, .int .i64 (remF ws hd ln x).ln] 37)) := hF2.alloc _
        have hO : (w2.alloc (.cells #[.int .i64 (remF ws hd ln x).hd, .int .i64 (remF ws hd ln x).ln] 37)).heap[w2.heap.size]? = some (.cells #[.int .i64 (remF ws hd ln x).hd, .int .i64 (remF ws hd ln x).ln] 37 (0, 0)) := blk_alloc _ _
        have hA9 : ArenaAt (w2.alloc (.cells #[.int .i64 (remF ws hd ln x).hd, .int .i64 (remF ws hd ln x).ln] 37)) ba bw (remF ws hd ln x).ws := hA2.bel ((Bel.refl _).alloc _)
        have hRO : w1.heap.size ≤ w2.heap.size := by first | exact Nat.le_refl _ | exact hF2.size
        have hROw : w2.heap.size < (w2.alloc (.cells #[.int .i64 (remF ws hd ln x).hd, .int .i64 (remF ws hd ln x).ln] 37)).heap.size := heap_lt hO
        generalize (w2.alloc (.cells #[.int .i64 (remF ws hd ln x).hd, .int .i64 (remF ws hd ln x).ln] 37)) = Wf at hFr hO hA9 hROw ⊢
        have g9' := HG1.out.fr hFr hbw
        have hcf : Wf.cell? ⟨b, o, none⟩ = some (.int .i64 x) := hFr.cell hcx (by show ¬ b = bw; omega)
        generalize hR : w2.heap.size = Ro at hO hRO hROw ⊢
        have HH9 := Lib.hid (And.intro hFr (And.intro hA9 g9'))
        clear q0 q1 q2 q3 t0 t1 t2 t3
        obtain ⟨t0, t1, t2, t3⟩ := two_cells g9'.r
        obtain ⟨u0, u1, u2, u3⟩ := two_cells hO
        have hb9 : (b == w.heap.size + 1) = false := by rw [beq_eq_false_iff_ne]; omega
        have hb9' : b ≠ w.heap.size + 1 := by omega
        have hr9 : Ro ≠ w.heap.size + 1 := by omega
        clear hFr hA9 g9' hO hcx HK HC hF3 hF2 hA2
        go_wp2_with fail
        go_region
        all_goals
          go_wp2
          obtain ⟨r0, r1, r2⟩ := two_set HH9.out.2.2.r (.int .i64 (remF ws hd ln x).hd) (.int .i64 (remF ws hd ln x).ln)
          refine bodyPost_ret (v := .tuple #[.agg #[.int .i64 (remF ws hd ln x).hd, .int .i64 (remF ws hd ln x).ln], .int .i64 x, .int .i64 (remF ws hd ln x).e]) (by simp [results, Try.results18, go_sem, r0, r1]) rfl ?_
          rw [HF.out]
          exact ⟨rfl, (arena_two HH9.out.2.1 (R := w.heap.size + 1) (by omega) (by omega) _ _).bel (Bel.refl _).drew, (fr_two ((Fr.of_bel (HB.out.trans hB1)).trans' HH9.out.1) (R := w.heap.size + 1) (by omega) _ _).drew⟩
      · have hFr : Fr (fun k => k = bw) w1 ((w2.setCell ⟨w1.heap.size, 0, none⟩ (.int .i64 (remF ws hd ln x).hd)).setCell ⟨w1.heap.size, 1, none⟩ (.int .i64 (remF ws hd ln x).ln)) := fr_two hF2 (Nat.le_refl _) _ _
        have hO : ((w2.setCell ⟨w1.heap.size, 0, none⟩ (.int .i64 (remF ws hd ln x).hd)).setCell ⟨w1.heap.size, 1, none⟩ (.int .i64 (remF ws hd ln x).ln)).heap[w1.heap.size]? = some (.cells #[.int .i64 (remF ws hd ln x).hd, .int .i64 (remF ws hd ln x).ln] 37 (0, 0)) := (two_set g9 _ _).2.2
        have hA9 : ArenaAt ((w2.setCell ⟨w1.heap.size, 0, none⟩ (.int .i64 (remF ws hd ln x).hd)).setCell ⟨w1.heap.size, 1, none⟩ (.int .i64 (remF ws hd ln x).ln)) ba bw (remF ws hd ln x).ws := arena_two hA2 (by omega) (by omega) _ _
        have hRO : w1.heap.size ≤ w1.heap.size := by first | exact Nat.le_refl _ | exact hF2.size
        have hROw : w1.heap.size < ((w2.setCell ⟨w1.heap.size, 0, none⟩ (.int .i64 (remF ws hd ln x).hd)).setCell ⟨w1.heap.size, 1, none⟩ (.int .i64 (remF ws hd ln x).ln)).heap.size := heap_lt hO
        generalize ((w2.setCell ⟨w1.heap.size, 0, none⟩ (.int .i64 (remF ws hd ln x).hd)).setCell ⟨w1.heap.size, 1, none⟩ (.int .i64 (remF ws hd ln x).ln)) = Wf at hFr hO hA9 hROw ⊢
        have g9' := HG1.out.fr hFr hbw
        have hcf : Wf.cell? ⟨b, o, none⟩ = some (.int .i64 x) := hFr.cell hcx (by show ¬ b = bw; omega)
        generalize hR : w1.heap.size = Ro at hO hRO hROw ⊢
        have HH9 := Lib.hid (And.intro hFr (And.intro hA9 g9'))
        clear q0 q1 q2 q3 t0 t1 t2 t3
        obtain ⟨t0, t1, t2, t3⟩ := two_cells g9'.r
        obtain ⟨u0, u1, u2, u3⟩ := two_cells hO
        have hb9 : (b == w.heap.size + 1) = false := by rw [beq_eq_false_iff_ne]; omega
        have hb9' : b ≠ w.heap.size + 1 := by omega
        have hr9 : Ro ≠ w.heap.size + 1 := by omega
        clear hFr hA9 g9' hO hcx HK HC g9 y0 y1 y2 y3 hF3 hF2 hA2
        go_wp2_with fail
        go_region
        all_goals
          go_wp2
          obtain ⟨r0, r1, r2⟩ := two_set HH9.out.2.2.r (.int .i64 (remF ws hd ln x).hd) (.int .i64 (remF ws hd ln x).ln)
          refine bodyPost_ret (v := .tuple #[.agg #[.int .i64 (remF ws hd ln x).hd, .int .i64 (remF ws hd ln x).ln], .int .i64 x, .int .i64 (remF ws hd ln x).e]) (by simp [results, Try.results18, go_sem, r0, r1]) rfl ?_
          rw [HF.out]
          exact ⟨rfl, (arena_two HH9.out.2.1 (R := w.heap.size + 1) (by omega) (by omega) _ _).bel (Bel.refl _).drew, (fr_two ((Fr.of_bel (HB.out.trans hB1)).trans' HH9.out.1) (R := w.heap.size + 1) (by omega) _ _).drew⟩
  · have HF := Lib.hid (popF_bad hbad)
    go_enter Try.func18, Try.ntmps18
    go_wp2_with fail
    rw [HW0.out]
    refine (chain_List_bad _ ws hd ln _ HP.out hhd hhl hbad).mono ?_
    rintro e w1 ⟨rfl, hB1⟩
    have hs1 := hB1.size
    have g := HG.out.bel hB1
    obtain ⟨q0, q1, q2, q3⟩ := two_cells g.c
    obtain ⟨t0, t1, t2, t3⟩ := two_cells g.r
    go_wp2
    obtain ⟨r0, r1, r2⟩ := two_set g.r (.int .i64 hd) (.int .i64 ln)
    refine bodyPost_ret (v := .tuple #[.agg #[.int .i64 hd, .int .i64 ln], .int .i64 0, .int .i64 9]) (by simp [results, Try.results18, go_sem, r0, r1]) rfl ?_
    rw [HF.out]
    exact ⟨rfl, arena_two (HA.out.bel (HB.out.trans hB1)) (by omega) (by omega) _ _, fr_two (Fr.of_bel (HB.out.trans hB1)) (by omega) _ _⟩
end Go.Proofs.Ytnehccndghkakaa
