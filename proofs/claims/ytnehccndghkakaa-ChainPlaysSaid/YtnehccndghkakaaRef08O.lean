/- The slow twin of layer 8: Pop. -/
import Derived.Test.YtnehccndghkakaaRef08R
namespace Go.Proofs.Ytnehccndghkakaa
open Go.RowKit Go.Deep

/-- What the twin's Pop leaves. -/
def ROPost (w : World) (a : Option Addr) (L : Nat) (r : CR × Int) (e : Ending) (w' : World) : Prop :=
  ∃ a' c', e = .returned (.tuple #[.slice a' L c', .agg #[.int .i64 r.1.hd, .int .i64 r.1.ln], .int .i64 r.2, .int .i64 r.1.e]) ∧ RdV w' a' (u64s r.1.ws) ∧ (∀ p, a' = some p → a' = a ∨ w.heap.size ≤ p.block) ∧ Bel w w'
/-- .. of Remove, as seen from two worlds. -/
def RCPost2 (w W : World) (a : Option Addr) (L : Nat) (r : CR) (e : Ending) (w' : World) : Prop :=
  ∃ a' c', e = .returned (.tuple #[.slice a' L c', .agg #[.int .i64 r.hd, .int .i64 r.ln], .int .i64 r.e]) ∧ RdV w' a' (u64s r.ws) ∧ (∀ p, a' = some p → a' = a ∨ W.heap.size ≤ p.block) ∧ Bel w w' ∧ Bel W w'

set_option maxHeartbeats 4000000 in
set_option maxRecDepth 20000 in
theorem ref8_Pop (a : Option Addr) (ws : List Int) (hd ln : Int) (c : Nat) (w : World) (hsm : ws.length ≤ 65536) (hra : RdV w a (u64s ws)) (hwf : ∀ y ∈ ws, 0 ≤ y ∧ y ≤ 18446744073709551615)
    (hhd : I64 hd) (hhl : I64 ln) (hal : ∀ p, a = some p → p.block < w.heap.size) :
    Calls Try.prog 21 #[.slice a ws.length c, .agg #[.int .i64 hd, .int .i64 ln]] w (ROPost w a ws.length (popF ws hd ln)) := by
  have hG0 := RBox.start w hd ln
  have hB0 : Bel w ((w.alloc (.cells #[.int .i64 hd, .int .i64 ln] 37)).alloc (.cells #[.int .i64 0, .int .i64 0] 37)) := ((Bel.refl _).alloc _).alloc _
  obtain ⟨W0, hW0⟩ : ∃ W0, (w.alloc (.cells #[.int .i64 hd, .int .i64 ln] 37)).alloc (.cells #[.int .i64 0, .int .i64 0] 37) = W0 := ⟨_, rfl⟩
  rw [hW0] at hB0 hG0
  have hs0 := hG0.size
  have HW0 := Lib.hid hW0
  have HB := Lib.hid hB0
  have HG := Lib.hid hG0
  have HRA := Lib.hid hra
  clear hW0 hB0 hG0 hra
  rcases chL_or ws hd ln with ⟨l, hr, hch⟩ | ⟨hbad, hch⟩
  · have hll := hr.small
    have hmll : l.length ≤ maxLen := by unfold maxLen; omega
    have HR := Lib.hid hr
    clear hr hch
    cases l with
    | nil =>
      have HF := Lib.hid (popF_none HR.out)
      go_enter Try.func21, Try.ntmps21
      go_wp2_with fail
      rw [HW0.out]
      refine (ref8_List_ok a ws hd ln [] c _ hsm (HRA.out.bel HB.out) hwf HR.out).mono ?_
      rintro e w1 ⟨v, rfl, hN, hB1⟩
      obtain ⟨al, cl, rfl, hrl, _⟩ := own_slice hN
      clear hN hrl
      have g := HG.out.bel hB1
      obtain ⟨q0, q1, q2, q3⟩ := two_cells g.c
      obtain ⟨t0, t1, t2, t3⟩ := two_cells g.r
      go_wp2_with fail
      go_region
      go_wp2
      obtain ⟨r0, r1, r2⟩ := two_set g.r (.int .i64 hd) (.int .i64 ln)
      refine bodyPost_ret (v := .tuple #[.slice a ws.length c, .agg #[.int .i64 hd, .int .i64 ln], .int .i64 0, .int .i64 6]) (by simp [results, Try.results21, go_sem, r0, r1]) rfl ?_
      have hBe : Bel w ((w1.setCell ⟨w.heap.size + 1, 0, none⟩ (.int .i64 hd)).setCell ⟨w.heap.size + 1, 1, none⟩ (.int .i64 ln)) :=
        Fr.bel (fr_two (S := fun _ => False) (Fr.of_bel (HB.out.trans hB1)) (by omega) _ _) (fun k h => h.elim)
      rw [HF.out]
      exact ⟨a, c, rfl, (HRA.out.bel hBe).bel (Bel.refl _).drew, fun p hp => .inl rfl, hBe.drew⟩
    | cons x l =>
      have HF := Lib.hid (popF_some HR.out)
      have hxr := isCh_range HR.out.ch x (by simp)
      have hxi : I64 x := ⟨by omega, by omega⟩
      go_enter Try.func21, Try.ntmps21
      go_wp2_with fail
      rw [HW0.out]
      refine (ref8_List_ok a ws hd ln (x :: l) c _ hsm (HRA.out.bel HB.out) hwf HR.out).mono ?_
      rintro e w1 ⟨v, rfl, hN, hB1⟩
      have hs1 := hB1.size
      obtain ⟨al, cl, rfl, hrl, _, hbl⟩ := own_slice2 hN
      obtain ⟨b, o, rfl, hcx⟩ := hrl.at (f := fun x => .int .i64 x) (xs := x :: l) 0 (by simp)
      simp only [List.getElem_cons_zero, Nat.add_zero] at hcx
      have hbb : W0.heap.size ≤ b := hbl _ rfl
      have hb1 : b < w1.heap.size := World.block_lt_of_cell? w1 ⟨b, o, none⟩ hcx
      clear hbl hN hrl
      have g := HG.out.bel hB1
      obtain ⟨q0, q1, q2, q3⟩ := two_cells g.c
      obtain ⟨t0, t1, t2, t3⟩ := two_cells g.r
      have C : ∀ W, Bel w1 W → Calls Try.prog 22 #[.slice a ws.length c, .agg #[.int .i64 hd, .int .i64 ln], .int .i64 x] W (RCPost2 w1 W a ws.length (remF ws hd ln x)) := fun W hb => by
        refine (ref8_Remove a ws hd ln x c W hsm (HRA.out.bel ((HB.out.trans hB1).trans hb)) hwf hhd hhl (fun p hp => by have := hal p hp; have := hb.size; omega) hxi).mono ?_
        rintro e w' ⟨a', c', rfl, h1, h2, h3⟩
        exact ⟨a', c', rfl, h1, h2, hb.trans h3, h3⟩
      have HC := Lib.hid C
      have HG1 := Lib.hid g
      have HB1 := Lib.hid (HB.out.trans hB1)
      have hl0 : (0 : Int) < ((l.length : Nat) : Int) + 1 := by omega
      clear C g
      go_wp2_with fail
      have HK : Hid (∀ W, Bel w1 W → W.cell? ⟨w.heap.size, 0, none⟩ = some (.int .i64 hd) ∧ W.cell? ⟨w.heap.size, 1, none⟩ = some (.int .i64 ln) ∧ W.cell? ⟨b, o, none⟩ = some (.int .i64 x)) :=
        Lib.hid (fun W hF => ⟨(two_cells (HG1.out.bel hF).c).1, (two_cells (HG1.out.bel hF).c).2.1, hF.cell hcx⟩)
      go_region_held3 (fun w' => w'.cell? ⟨w.heap.size, 0, none⟩ = some (.int .i64 hd) ∧ w'.cell? ⟨w.heap.size, 1, none⟩ = some (.int .i64 ln) ∧ w'.cell? ⟨b, o, none⟩ = some (.int .i64 x))
        (first | go_keep | exact HK.out _ hF2 | exact HK.out _ (hF2.alloc _) | exact HK.out _ (Fr.bel (fr_two (S := fun _ => False) (Fr.of_bel hF2) (Nat.le_refl _) _ _) (fun k h => h.elim)))
        (first | (go_at_call 22; (with_reducible refine (HC.out _ ?b1).mono ?_); (case b1 => repeat (first | exact Bel.refl _ | apply Bel.drew | apply Bel.alloc)); rintro e w2 ⟨a2, c2, rfl, hA2, hP2, hF2, hF3⟩; (try (have g9 := (Fr.of_bel (S := fun _ => False) hF3).heap (blk_alloc _ _) (fun h => h); obtain ⟨y0, y1, y2, y3⟩ := two_cells g9))))
      · have hp2 : ∀ p, a2 = some p → p.block < w.heap.size ∨ w1.heap.size ≤ p.block := fun p hp => (hP2 p hp).imp (fun h => hal p (by rw [← h, hp])) (fun h => by first | exact h | (have h2 : (w1.alloc (.cells #[.int .i64 0, .int .i64 0] 37)).heap.size ≤ p.block := h; rw [World.size_alloc] at h2; omega))
        have hp2' : ∀ p, a2 = some p → a2 = a ∨ w1.heap.size ≤ p.block := fun p hp => (hP2 p hp).imp id (fun h => by first | exact h | (have h2 : (w1.alloc (.cells #[.int .i64 0, .int .i64 0] 37)).heap.size ≤ p.block := h; rw [World.size_alloc] at h2; omega))
        have hFr : Bel w1 (w2.alloc (.cells #[.int .i64 (remF ws hd ln x).hd, .int .i64 (remF ws hd ln x).ln] 37)) := hF2.alloc _
        have hO : (w2.alloc (.cells #[.int .i64 (remF ws hd ln x).hd, .int .i64 (remF ws hd ln x).ln] 37)).heap[w2.heap.size]? = some (.cells #[.int .i64 (remF ws hd ln x).hd, .int .i64 (remF ws hd ln x).ln] 37 (0, 0)) := blk_alloc _ _
        have hA9 : RdV (w2.alloc (.cells #[.int .i64 (remF ws hd ln x).hd, .int .i64 (remF ws hd ln x).ln] 37)) a2 (u64s (remF ws hd ln x).ws) := hA2.bel ((Bel.refl _).alloc _)
        have hRO : w1.heap.size ≤ w2.heap.size := by first | exact Nat.le_refl _ | exact hF2.size
        have hROw : w2.heap.size < (w2.alloc (.cells #[.int .i64 (remF ws hd ln x).hd, .int .i64 (remF ws hd ln x).ln] 37)).heap.size := heap_lt hO
        generalize (w2.alloc (.cells #[.int .i64 (remF ws hd ln x).hd, .int .i64 (remF ws hd ln x).ln] 37)) = Wf at hFr hO hA9 hROw ⊢
        have g9' := HG1.out.bel hFr
        have hcf : Wf.cell? ⟨b, o, none⟩ = some (.int .i64 x) := hFr.cell hcx
        generalize hR : w2.heap.size = Ro at hO hRO hROw ⊢
        have HH9 := Lib.hid (And.intro hFr (And.intro hA9 g9'))
        clear q0 q1 q2 q3 t0 t1 t2 t3
        obtain ⟨t0, t1, t2, t3⟩ := two_cells g9'.r
        obtain ⟨u0, u1, u2, u3⟩ := two_cells hO
        have hb9 : (b == w.heap.size + 1) = false := by rw [beq_eq_false_iff_ne]; omega
        have hb9' : b ≠ w.heap.size + 1 := by omega
        have hr9 : Ro ≠ w.heap.size + 1 := by omega
        clear hFr hA9 g9' hO hcx HK HC hF3 hF2 hA2 hP2
        go_wp2_with fail
        go_region
        all_goals
          go_wp2
          obtain ⟨r0, r1, r2⟩ := two_set HH9.out.2.2.r (.int .i64 (remF ws hd ln x).hd) (.int .i64 (remF ws hd ln x).ln)
          refine bodyPost_ret (v := .tuple #[.slice a2 ws.length c2, .agg #[.int .i64 (remF ws hd ln x).hd, .int .i64 (remF ws hd ln x).ln], .int .i64 x, .int .i64 (remF ws hd ln x).e]) (by simp [results, Try.results21, go_sem, r0, r1]) rfl ?_
          rw [HF.out]
          exact ⟨a2, c2, rfl, HH9.out.2.1.fr (fr_two' _ _ _ _).drew (fun p hp e => by rcases hp2 p hp with h | h <;> omega), fun p hp => (hp2' p hp).imp id (fun h => by omega), (Fr.bel (fr_two (S := fun _ => False) (Fr.of_bel (HB1.out.trans HH9.out.1)) (R := w.heap.size + 1) (by omega) _ _) (fun k h => h.elim)).drew⟩
      · have hp2 : ∀ p, a2 = some p → p.block < w.heap.size ∨ w1.heap.size ≤ p.block := fun p hp => (hP2 p hp).imp (fun h => hal p (by rw [← h, hp])) (fun h => by first | exact h | (have h2 : (w1.alloc (.cells #[.int .i64 0, .int .i64 0] 37)).heap.size ≤ p.block := h; rw [World.size_alloc] at h2; omega))
        have hp2' : ∀ p, a2 = some p → a2 = a ∨ w1.heap.size ≤ p.block := fun p hp => (hP2 p hp).imp id (fun h => by first | exact h | (have h2 : (w1.alloc (.cells #[.int .i64 0, .int .i64 0] 37)).heap.size ≤ p.block := h; rw [World.size_alloc] at h2; omega))
        have hp3 : ∀ p, a2 = some p → p.block < w.heap.size ∨ w1.heap.size + 1 ≤ p.block := fun p hp => (hP2 p hp).imp (fun h => hal p (by rw [← h, hp])) (fun h => by have h2 : (w1.alloc (.cells #[.int .i64 0, .int .i64 0] 37)).heap.size ≤ p.block := h; rw [World.size_alloc] at h2; omega)
        have hFr : Bel w1 ((w2.setCell ⟨w1.heap.size, 0, none⟩ (.int .i64 (remF ws hd ln x).hd)).setCell ⟨w1.heap.size, 1, none⟩ (.int .i64 (remF ws hd ln x).ln)) := Fr.bel (fr_two (S := fun _ => False) (Fr.of_bel hF2) (Nat.le_refl _) _ _) (fun k h => h.elim)
        have hO : ((w2.setCell ⟨w1.heap.size, 0, none⟩ (.int .i64 (remF ws hd ln x).hd)).setCell ⟨w1.heap.size, 1, none⟩ (.int .i64 (remF ws hd ln x).ln)).heap[w1.heap.size]? = some (.cells #[.int .i64 (remF ws hd ln x).hd, .int .i64 (remF ws hd ln x).ln] 37 (0, 0)) := (two_set g9 _ _).2.2
        have hA9 : RdV ((w2.setCell ⟨w1.heap.size, 0, none⟩ (.int .i64 (remF ws hd ln x).hd)).setCell ⟨w1.heap.size, 1, none⟩ (.int .i64 (remF ws hd ln x).ln)) a2 (u64s (remF ws hd ln x).ws) := hA2.fr (fr_two' _ _ _ _) (fun p hp e => by rcases hp3 p hp with h | h <;> omega)
        have hRO : w1.heap.size ≤ w1.heap.size := by first | exact Nat.le_refl _ | exact hF2.size
        have hROw : w1.heap.size < ((w2.setCell ⟨w1.heap.size, 0, none⟩ (.int .i64 (remF ws hd ln x).hd)).setCell ⟨w1.heap.size, 1, none⟩ (.int .i64 (remF ws hd ln x).ln)).heap.size := heap_lt hO
        generalize ((w2.setCell ⟨w1.heap.size, 0, none⟩ (.int .i64 (remF ws hd ln x).hd)).setCell ⟨w1.heap.size, 1, none⟩ (.int .i64 (remF ws hd ln x).ln)) = Wf at hFr hO hA9 hROw ⊢
        have g9' := HG1.out.bel hFr
        have hcf : Wf.cell? ⟨b, o, none⟩ = some (.int .i64 x) := hFr.cell hcx
        generalize hR : w1.heap.size = Ro at hO hRO hROw ⊢
        have HH9 := Lib.hid (And.intro hFr (And.intro hA9 g9'))
        clear q0 q1 q2 q3 t0 t1 t2 t3
        obtain ⟨t0, t1, t2, t3⟩ := two_cells g9'.r
        obtain ⟨u0, u1, u2, u3⟩ := two_cells hO
        have hb9 : (b == w.heap.size + 1) = false := by rw [beq_eq_false_iff_ne]; omega
        have hb9' : b ≠ w.heap.size + 1 := by omega
        have hr9 : Ro ≠ w.heap.size + 1 := by omega
        clear hFr hA9 g9' hO hcx HK HC g9 y0 y1 y2 y3 hF3 hF2 hA2 hP2
        go_wp2_with fail
        go_region
        all_goals
          go_wp2
          obtain ⟨r0, r1, r2⟩ := two_set HH9.out.2.2.r (.int .i64 (remF ws hd ln x).hd) (.int .i64 (remF ws hd ln x).ln)
          refine bodyPost_ret (v := .tuple #[.slice a2 ws.length c2, .agg #[.int .i64 (remF ws hd ln x).hd, .int .i64 (remF ws hd ln x).ln], .int .i64 x, .int .i64 (remF ws hd ln x).e]) (by simp [results, Try.results21, go_sem, r0, r1]) rfl ?_
          rw [HF.out]
          exact ⟨a2, c2, rfl, HH9.out.2.1.fr (fr_two' _ _ _ _).drew (fun p hp e => by rcases hp2 p hp with h | h <;> omega), fun p hp => (hp2' p hp).imp id (fun h => by omega), (Fr.bel (fr_two (S := fun _ => False) (Fr.of_bel (HB1.out.trans HH9.out.1)) (R := w.heap.size + 1) (by omega) _ _) (fun k h => h.elim)).drew⟩
  · have HF := Lib.hid (popF_bad hbad)
    go_enter Try.func21, Try.ntmps21
    go_wp2_with fail
    rw [HW0.out]
    refine (ref8_List_bad a ws hd ln c _ hsm (HRA.out.bel HB.out) hwf hhd hhl hbad).mono ?_
    rintro e w1 ⟨l, v, rfl, hN, hB1⟩
    have g := HG.out.bel hB1
    obtain ⟨q0, q1, q2, q3⟩ := two_cells g.c
    obtain ⟨t0, t1, t2, t3⟩ := two_cells g.r
    go_wp2_with fail
    go_region
    go_wp2
    obtain ⟨r0, r1, r2⟩ := two_set g.r (.int .i64 hd) (.int .i64 ln)
    refine bodyPost_ret (v := .tuple #[.slice a ws.length c, .agg #[.int .i64 hd, .int .i64 ln], .int .i64 0, .int .i64 9]) (by simp [results, Try.results21, go_sem, r0, r1]) rfl ?_
    have hBe : Bel w ((w1.setCell ⟨w.heap.size + 1, 0, none⟩ (.int .i64 hd)).setCell ⟨w.heap.size + 1, 1, none⟩ (.int .i64 ln)) :=
      Fr.bel (fr_two (S := fun _ => False) (Fr.of_bel (HB.out.trans hB1)) (by omega) _ _) (fun k h => h.elim)
    rw [HF.out]
    exact ⟨a, c, rfl, (HRA.out.bel hBe).bel (Bel.refl _).drew, fun p hp => .inl rfl, hBe.drew⟩
end Go.Proofs.Ytnehccndghkakaa
