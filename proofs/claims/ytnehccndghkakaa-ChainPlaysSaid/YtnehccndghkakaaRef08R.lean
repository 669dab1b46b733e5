/- The slow twin of layer 8: Remove. -/
import Derived.Test.YtnehccndghkakaaRef08P
namespace Go.Proofs.Ytnehccndghkakaa
open Go.RowKit Go.Deep

/-- Words and head, linked anew from place n on. -/
def remS (ws l : List Int) (x : Int) (n : Nat) : List Int × Int := relink (setW ws x 0) ((l.drop n).filter fun y => y != x)
def remN (l : List Int) (x : Int) (n : Nat) : Int := (((l.drop n).filter fun y => y != x).length : Nat)
theorem remS_step (ws l : List Int) (x : Int) (m : Nat) (h : m < l.length) (hx : l[m] ≠ x) : remS ws l x m = (setW (remS ws l x (m + 1)).1 l[m] (remS ws l x (m + 1)).2, l[m] + 1) := by
  unfold remS
  rw [List.drop_eq_getElem_cons h, List.filter_cons_of_pos (by simpa using hx)]
  rfl
theorem remS_skip (ws l : List Int) (x : Int) (m : Nat) (h : m < l.length) (hx : l[m] = x) : remS ws l x m = remS ws l x (m + 1) := by
  unfold remS
  rw [List.drop_eq_getElem_cons h, List.filter_cons_of_neg (by simpa using hx)]
theorem remN_step (l : List Int) (x : Int) (m : Nat) (h : m < l.length) (hx : l[m] ≠ x) : remN l x m = remN l x (m + 1) + 1 := by
  unfold remN
  rw [List.drop_eq_getElem_cons h, List.filter_cons_of_pos (by simpa using hx)]
  simp
theorem remN_skip (l : List Int) (x : Int) (m : Nat) (h : m < l.length) (hx : l[m] = x) : remN l x m = remN l x (m + 1) := by
  unfold remN
  rw [List.drop_eq_getElem_cons h, List.filter_cons_of_neg (by simpa using hx)]
theorem remN_bound (l : List Int) (x : Int) (m : Nat) : 0 ≤ remN l x m ∧ remN l x m ≤ l.length := by
  unfold remN
  have := List.length_filter_le (fun y => y != x) (l.drop m)
  rw [List.length_drop] at this
  omega
theorem remS_length (ws l : List Int) (x : Int) (m : Nat) : (remS ws l x m).1.length = ws.length := by
  unfold remS; rw [relink_length, setW_length]
theorem relink_head (ws : List Int) : ∀ (l : List Int), (∀ x ∈ l, 0 ≤ x ∧ x < ws.length) → 0 ≤ (relink ws l).2 ∧ (relink ws l).2 ≤ ws.length
  | [], _ => ⟨Int.le_refl _, by simp [relink]⟩
  | x :: l, hb => by have := hb x (by simp); simp only [relink]; omega
theorem remS_head (ws l : List Int) (x : Int) (m : Nat) (hb : ∀ y ∈ l, 0 ≤ y ∧ y < ws.length) : 0 ≤ (remS ws l x m).2 ∧ (remS ws l x m).2 ≤ ws.length := by
  have := relink_head (setW ws x 0) ((l.drop m).filter fun y => y != x) (fun y hy => by
    rw [setW_length]
    exact hb y (List.mem_of_mem_drop (List.mem_filter.1 hy).1))
  rwa [setW_length] at this
theorem remS_all (ws l : List Int) (x : Int) : remS ws l x 0 = remW ws l x := rfl
theorem remS_none (ws l : List Int) (x : Int) : remS ws l x l.length = (setW ws x 0, 0) := by unfold remS; simp [relink]
theorem remN_none (l : List Int) (x : Int) : remN l x l.length = 0 := by unfold remN; simp
theorem remN_all {ws : List Int} {hd ln x : Int} {l : List Int} (hr : RightC ws hd ln l) (hx : x ∈ l) : remN l x 0 = ln - 1 := (rem_right hr hx).len

/-- The twin's words and the rest, in the loop of Remove; R: the rest's box. -/
structure RM (w w1 wr : World) (n : Nat) (W : List Int) (hd ln : Int) (v : Value) : Prop where
  v : ∃ a' c', v = .slice a' n c' ∧ RdV wr a' (u64s W) ∧ ∀ p, a' = some p → w1.heap.size + 1 ≤ p.block
  g : wr.heap[w1.heap.size]? = some (.cells #[.int .i64 hd, .int .i64 ln] 37 (0, 0))
  bel : Bel w1 wr

set_option maxHeartbeats 4000000 in
set_option maxRecDepth 20000 in
theorem ref8_Remove (a : Option Addr) (ws : List Int) (hd ln : Int) (x : Int) (c : Nat) (w : World) (hsm : ws.length ≤ 65536) (hra : RdV w a (u64s ws)) (hwf : ∀ y ∈ ws, 0 ≤ y ∧ y ≤ 18446744073709551615)
    (hhd : I64 hd) (hhl : I64 ln) (hal : ∀ p, a = some p → p.block < w.heap.size) (hxi : I64 x) :
    Calls Try.prog 22 #[.slice a ws.length c, .agg #[.int .i64 hd, .int .i64 ln], .int .i64 x] w (RCPost w a ws.length (remF ws hd ln x)) := by
  have hG0 := RBox.start w hd ln
  have hB0 : Bel w ((w.alloc (.cells #[.int .i64 hd, .int .i64 ln] 37)).alloc (.cells #[.int .i64 0, .int .i64 0] 37)) := ((Bel.refl _).alloc _).alloc _
  obtain ⟨W0, hW0⟩ : ∃ W0, (w.alloc (.cells #[.int .i64 hd, .int .i64 ln] 37)).alloc (.cells #[.int .i64 0, .int .i64 0] 37) = W0 := ⟨_, rfl⟩
  rw [hW0] at hB0 hG0
  have hs0 := hG0.size
  have HW0 := Lib.hid hW0
  have HB := Lib.hid hB0
  have HG := Lib.hid hG0
  have HRA := Lib.hid hra
  clear hW0 hB0 hG0 hra
  rcases chL_or ws hd ln with ⟨l, hr, hch⟩ | ⟨hbad, hch⟩
  · have hll := hr.small
    have hhead := isCh_head hr.ch
    have hlen := hr.len
    have hmll : l.length ≤ maxLen := by unfold maxLen; omega
    have HR := Lib.hid hr
    clear hr hch
    by_cases hm : x ∈ l
    · have HF := Lib.hid (remF_ok HR.out hm)
      have HM := Lib.hid (decide_eq_true hm)
      have HMM := Lib.hid hm
      have HLEN := Lib.hid hlen
      clear hlen
      have hxr := isCh_range HR.out.ch x hm
      obtain ⟨hx0, hx1⟩ := hxr
      clear hm
      go_enter Try.func22, Try.ntmps22
      go_wp2_with fail
      rw [HW0.out]
      refine (ref8_List_ok a ws hd ln l c _ hsm (HRA.out.bel HB.out) hwf HR.out).mono ?_
      rintro e w1 ⟨v, rfl, hN, hB1⟩
      have hs1 := hB1.size
      obtain ⟨al, cl, rfl, hrl, _, hbl⟩ := own_slice2 hN
      have HRL := Lib.hid hrl
      have HBL := Lib.hid hbl
      clear hN hrl hbl
      go_wp2_with fail
      refine (ref3_In al l x _ cl w1 rfl hmll HRL.out).mono ?_
      rintro e w2 ⟨rfl, rfl⟩
      rw [HM.out]
      go_wp2_with fail
      have hBa : Bel w (w1.alloc (.cells #[.int .i64 0, .int .i64 0] 37)) := (HB.out.trans hB1).alloc _
      have hGa := (HG.out.bel hB1).bel ((Bel.refl w1).alloc (.cells #[.int .i64 0, .int .i64 0] 37))
      have hra1 := HRA.out.bel hBa
      refine (ref8_with a ws x 0 c _ hsm hra1 hx0 hx1).mono ?_
      rintro e w2 ⟨v, rfl, hN2, hB2⟩
      obtain ⟨a2, c2, rfl, hr2, _, hb2⟩ := own_slice2 hN2
      rw [setW_length]
      rw [World.size_alloc] at hb2
      have hg2 : w2.heap[w1.heap.size]? = some (.cells #[.int .i64 0, .int .i64 0] 37 (0, 0)) := (Fr.of_bel (S := fun _ => False) hB2).heap (blk_alloc _ _) (fun h => h)
      have hM0 : RM w w1 w2 ws.length (setW ws x 0) 0 0 (.slice a2 ws.length c2) := ⟨⟨a2, c2, rfl, hr2, hb2⟩, hg2, ((Bel.refl _).alloc _).trans hB2⟩
      have HM0 := Lib.hid hM0
      have HG1 := Lib.hid (HG.out.bel hB1)
      have HB1 := Lib.hid (HB.out.trans hB1)
      clear hBa hGa hra1 hN2 hr2 hb2 hg2 hM0
      go_wp2_with fail
      go_loopw [12, 13] (fun v k wr => ∃ n : Nat, n ≤ l.length ∧ k = .int .i64 ((n : Int) - 1) ∧ RM w w1 wr ws.length (remS ws l x n).1 (remS ws l x n).2 (remN l x n) v) (fun v k wr => (intOf k + 1).toNat)
      case atStart => exact ⟨l.length, Nat.le_refl _, rfl, by rw [remS_none, remN_none]; exact HM0.out⟩
      case round =>
        obtain ⟨n, hn, rfl, hP⟩ := hrel
        obtain ⟨a', c', rfl, hra', hpa⟩ := hP.v
        have hhr := remS_head ws l x n (isCh_range HR.out.ch)
        have hnr := remN_bound l x n
        have hWl : (remS ws l x n).1.length = ws.length := remS_length _ _ _ _
        have g := hP.g
        have hsz := heap_lt g
        have HP := Lib.hid hP
        have hB := hP.bel
        clear hP
        cases n with
        | zero =>
          have hRA := remN_all HR.out HMM.out
          rw [remS_all] at HP hhr hWl hra' g
          rw [hRA] at HP g hnr
          clear hRA
          have g1 := HG1.out.bel hB
          obtain ⟨q0, q1, q2, q3⟩ := two_cells g
          obtain ⟨t0, t1, t2, t3⟩ := two_cells g1.r
          have HH := Lib.hid (And.intro hra' (And.intro hB g1))
          clear hra' hB g g1
          go_wp2_with fail
          go_region
          go_wp2
          obtain ⟨r0, r1, r2⟩ := two_set HH.out.2.2.r (.int .i64 (remW ws l x).2) (.int .i64 (ln - 1))
          refine bodyPost_ret (v := .tuple #[.slice a' ws.length c', .agg #[.int .i64 (remW ws l x).2, .int .i64 (ln - 1)], .int .i64 0]) (by simp [results, Try.results22, go_sem, r0, r1]) rfl ?_
          rw [HF.out]
          have hF9 := Fr.bel (fr_two (S := fun _ => False) (Fr.of_bel (HB1.out.trans HH.out.2.1)) (R := w.heap.size + 1) (by omega) (.int .i64 (remW ws l x).2) (.int .i64 (ln - 1))).drew (fun k h => h.elim)
          have hF8 := (fr_two' wr (w.heap.size + 1) (.int .i64 (remW ws l x).2) (.int .i64 (ln - 1))).drew
          exact ⟨a', c', rfl, HH.out.1.fr hF8 (fun p hp e => by have := hpa p hp; omega), fun p hp => .inr (by have := hpa p hp; omega), hF9⟩
        | succ m =>
          have hlt : m < l.length := by omega
          obtain ⟨bb, oo, rfl, hc0⟩ := HRL.out.at (f := fun x => .int .i64 x) (xs := l) m hlt
          have hbb : bb < w1.heap.size := World.block_lt_of_cell? w1 ⟨bb, oo + m, none⟩ hc0
          have hc := hB.cell hc0
          have hyr := isCh_range HR.out.ch l[m] (List.getElem_mem _)
          have hi1 : (((m + 1 : Nat) : Int) - 1) = m := by omega
          rw [hi1]
          obtain ⟨y, hy⟩ : ∃ y, l[m] = y := ⟨_, rfl⟩
          rw [hy] at hc hyr
          by_cases hyx : y = x
          · have hsk := remS_skip ws l x m hlt (by rw [hy, hyx])
            have hnk := remN_skip l x m hlt (by rw [hy, hyx])
            have HK := Lib.hid (And.intro hsk hnk)
            have hb : (y != x) = false := by simp [hyx]
            have HC := Lib.hid hc
            clear hsk hnk hy hyx hc0 hra' g
            go_wp2
            go_roundw
            case rel => exact ⟨m, by omega, rfl, by have := HP.out; rw [← HK.out.1, ← HK.out.2] at this; exact this⟩
            case measure => simp [intOf]
          · have hst := remS_step ws l x m hlt (by rw [hy]; exact hyx)
            have hnt := remN_step l x m hlt (by rw [hy]; exact hyx)
            rw [hy] at hst
            have HST := Lib.hid (And.intro hst hnt)
            have hb : (y != x) = true := by simp [hyx]
            generalize (remS ws l x (m + 1)).1 = W at HP HST hWl hra' hst
            generalize (remS ws l x (m + 1)).2 = h at HP HST hhr g hst
            generalize remN l x (m + 1) = k at HP HST hnr g hnt
            clear hst hnt hy hc0
            obtain ⟨h0, h1⟩ := hhr
            obtain ⟨k0, k1⟩ := hnr
            obtain ⟨y0, y1⟩ := hyr
            obtain ⟨q0, q1, q2, q3⟩ := two_cells g
            have hwu : IntKind.u64.wrap h = h := IntWalk.u64_in _ (by omega)
            have C : ∀ V, Bel wr V → Calls Try.prog 36 #[.slice a' ws.length c', .int .i64 y, .int .u64 h] V (WithGot wr ws.length (setW W y h)) := fun V hb => by
              have := ref8_with a' W y h c' V (by omega) (hra'.bel hb) y0 (by omega)
              rw [hWl] at this
              refine this.mono ?_
              rintro e V2 ⟨v, rfl, hN, hB⟩
              obtain ⟨a9, c9, rfl, hr9, _, hp9⟩ := own_slice2 hN
              rw [setW_length, hWl]
              exact ⟨a9, c9, rfl, hr9, fun p hp => Nat.le_trans hb.size (hp9 p hp), hb.trans hB⟩
            have HC := Lib.hid C
            have HGG := Lib.hid g
            have HBB := Lib.hid hB
            clear C hra' g hB
            go_wp2_with fail
            go_region_held3 (fun w' => w'.cell? ⟨w1.heap.size, 0, none⟩ = some (.int .i64 h) ∧ w'.cell? ⟨bb, oo + m, none⟩ = some (.int .i64 y))
              (first | go_keep | exact ⟨hB7.cell q0, hB7.cell hc⟩)
              (first | (go_at_call 36; (with_reducible refine (HC.out _ ?b1).mono ?_); (case b1 => repeat (first | exact Bel.refl _ | apply Bel.drew | apply Bel.alloc)); rintro e w7 ⟨a7, c7, rfl, hr7, hp7, hB7⟩))
            have hF0 := Fr.of_bel (S := fun _ => False) hB7
            have g7 := hF0.heap HGG.out (fun h => h)
            have hc7 : w7.cell? ⟨bb, oo + m, none⟩ = some (.int .i64 y) := hB7.cell hc
            clear q0 q1 q2 q3 hc hF0
            obtain ⟨q0, q1, q2, q3⟩ := two_cells g7
            have hne1 : bb ≠ w1.heap.size := by omega
            go_wp2_with fail
            go_region
            go_wp2
            go_roundw
            case rel =>
              have hF7 : Fr (fun k => k = w1.heap.size) w7 (((w7.setCell ⟨w1.heap.size, 0, none⟩ (.int .i64 (y + 1))).setCell ⟨w1.heap.size, 1, none⟩ (.int .i64 (k + 1))).drew) :=
                (fr_two' w7 w1.heap.size _ _).drew
              have hF9 : Bel w1 (((w7.setCell ⟨w1.heap.size, 0, none⟩ (.int .i64 (y + 1))).setCell ⟨w1.heap.size, 1, none⟩ (.int .i64 (k + 1))).drew) :=
                Fr.bel (fr_two (S := fun _ => False) (Fr.of_bel (HBB.out.trans hB7)) (Nat.le_refl _) _ _).drew (fun k h => h.elim)
              refine ⟨m, by omega, rfl, ?_⟩
              rw [HST.out.1, HST.out.2]
              refine ⟨⟨a7, c7, rfl, hr7.fr hF7 (fun p hp e => by have := hp7 p hp; omega), fun p hp => (by have := hp7 p hp; omega)⟩, ?_, hF9⟩
              exact (Fr.of_bel (S := fun _ => False) (Bel.refl _).drew).heap (two_set g7 _ _).2.2 (fun h => h)
            case measure => simp [intOf]
    · have HF := Lib.hid (remF_out HR.out hm)
      have HM := Lib.hid (decide_eq_false hm)
      clear hm
      go_enter Try.func22, Try.ntmps22
      go_wp2_with fail
      rw [HW0.out]
      refine (ref8_List_ok a ws hd ln l c _ hsm (HRA.out.bel HB.out) hwf HR.out).mono ?_
      rintro e w1 ⟨v, rfl, hN, hB1⟩
      obtain ⟨al, cl, rfl, hrl, _⟩ := own_slice hN
      have HRL := Lib.hid hrl
      clear hN hrl
      go_wp2_with fail
      refine (ref3_In al l x _ cl w1 rfl hmll HRL.out).mono ?_
      rintro e w2 ⟨rfl, rfl⟩
      rw [HM.out]
      have g := HG.out.bel hB1
      obtain ⟨q0, q1, q2, q3⟩ := two_cells g.c
      obtain ⟨t0, t1, t2, t3⟩ := two_cells g.r
      go_wp2_with fail
      go_region
      go_wp2
      obtain ⟨r0, r1, r2⟩ := two_set g.r (.int .i64 hd) (.int .i64 ln)
      refine bodyPost_ret (v := .tuple #[.slice a ws.length c, .agg #[.int .i64 hd, .int .i64 ln], .int .i64 6]) (by simp [results, Try.results22, go_sem, r0, r1]) rfl ?_
      have hBe : Bel w ((w1.setCell ⟨w.heap.size + 1, 0, none⟩ (.int .i64 hd)).setCell ⟨w.heap.size + 1, 1, none⟩ (.int .i64 ln)) :=
        Fr.bel (fr_two (S := fun _ => False) (Fr.of_bel (HB.out.trans hB1)) (by omega) _ _) (fun k h => h.elim)
      rw [HF.out]
      exact ⟨a, c, rfl, (HRA.out.bel hBe).bel (Bel.refl _).drew, fun p hp => .inl rfl, hBe.drew⟩
  · have HF := Lib.hid (remF_bad x hbad)
    go_enter Try.func22, Try.ntmps22
    go_wp2_with fail
    rw [HW0.out]
    refine (ref8_List_bad a ws hd ln c _ hsm (HRA.out.bel HB.out) hwf hhd hhl hbad).mono ?_
    rintro e w1 ⟨l, v, rfl, hN, hB1⟩
    have g := HG.out.bel hB1
    obtain ⟨q0, q1, q2, q3⟩ := two_cells g.c
    obtain ⟨t0, t1, t2, t3⟩ := two_cells g.r
    go_wp2_with fail
    go_region
    go_wp2
    obtain ⟨r0, r1, r2⟩ := two_set g.r (.int .i64 hd) (.int .i64 ln)
    refine bodyPost_ret (v := .tuple #[.slice a ws.length c, .agg #[.int .i64 hd, .int .i64 ln], .int .i64 9]) (by simp [results, Try.results22, go_sem, r0, r1]) rfl ?_
    have hBe : Bel w ((w1.setCell ⟨w.heap.size + 1, 0, none⟩ (.int .i64 hd)).setCell ⟨w.heap.size + 1, 1, none⟩ (.int .i64 ln)) :=
      Fr.bel (fr_two (S := fun _ => False) (Fr.of_bel (HB.out.trans hB1)) (by omega) _ _) (fun k h => h.elim)
    rw [HF.out]
    exact ⟨a, c, rfl, (HRA.out.bel hBe).bel (Bel.refl _).drew, fun p hp => .inl rfl, hBe.drew⟩
end Go.Proofs.Ytnehccndghkakaa
