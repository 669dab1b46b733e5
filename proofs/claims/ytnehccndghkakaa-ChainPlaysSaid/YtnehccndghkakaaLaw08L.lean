/- Layer 8: without one block a chain has all others. -/
import Derived.Test.YtnehccndghkakaaLaw08
import Derived.Test.YtnehccndghkakaaGuard
import Derived.Deep.RegionHeld3
import Derived.Deep.RegionLaw
import Derived.Deep.DeepCutAuto
namespace Go.Proofs.Ytnehccndghkakaa
open Go.RowKit Go.Deep

theorem right_i64 {ws : List Int} {hd ln : Int} {l : List Int} (hs : ws.length ≤ 65536) (hr : RightC ws hd ln l) : I64 hd ∧ I64 ln := by
  have h1 := isCh_head hr.ch
  have h2 := hr.len
  have h3 := hr.small
  exact ⟨⟨by omega, by omega⟩, ⟨by omega, by omega⟩⟩
theorem push_empty {Z l : List Int} (hr : ∀ x ∈ l, 0 ≤ x ∧ x < Z.length) (hn : l.Nodup) : ∃ W h, pushF Z 0 0 l = ⟨W, h, l.length, 0⟩ ∧ RightC W h l.length l.reverse ∧ W.length = Z.length := by
  have h1 := push_right (right_nil Z) l hr (by simpa using (List.reverse_perm l).nodup_iff.2 hn)
  rw [Int.zero_add, List.append_nil] at h1
  exact ⟨_, _, by rw [pushF_ok (right_nil Z) (all_inW hr) (by simpa using hn), Int.zero_add], h1, pushW_length _ _ _⟩
theorem push_empty_bad {Z l : List Int} (hr : ¬ ((∀ x ∈ l, 0 ≤ x ∧ x < Z.length) ∧ l.Nodup)) : ∃ e, pushF Z 0 0 l = ⟨Z, 0, 0, e⟩ ∧ (e = 2 ∧ (∃ x ∈ l, ¬ (0 ≤ x ∧ x < Z.length)) ∨ e = 1 ∧ (∀ x ∈ l, 0 ≤ x ∧ x < Z.length) ∧ ¬ l.Nodup) := by
  by_cases h : ∀ x ∈ l, 0 ≤ x ∧ x < Z.length
  · have hn : ¬ l.Nodup := fun hn => hr ⟨h, hn⟩
    exact ⟨1, pushF_twice (right_nil Z) (all_inW h) (by simpa using hn), .inr ⟨rfl, h, hn⟩⟩
  · have hany : l.any (fun x => !inW Z x) = true := by
      rw [Classical.not_forall] at h
      obtain ⟨x, hx⟩ := h
      rw [Classical.not_imp] at hx
      rw [List.any_eq_true]
      refine ⟨x, hx.1, ?_⟩
      rw [Bool.not_eq_true', ← Bool.not_eq_true, inW_iff]
      exact hx.2
    refine ⟨2, pushF_range (right_nil Z) hany, .inl ⟨rfl, ?_⟩⟩
    rw [Classical.not_forall] at h
    obtain ⟨x, hx⟩ := h
    rw [Classical.not_imp] at hx
    exact ⟨x, hx⟩
theorem rem_in {W : List Int} {h n : Int} {l : List Int} (hr : RightC W h n l) {x : Int} (hx : x ∈ l) : ∃ W2 h2, remF W h n x = ⟨W2, h2, n - 1, 0⟩ ∧ RightC W2 h2 (n - 1) (l.filter fun y => y != x) ∧ W2.length = W.length :=
  ⟨_, _, remF_ok hr hx, rem_right hr hx, by unfold remW; rw [relink_length, setW_length]⟩
theorem push_one {W : List Int} {h n : Int} {l : List Int} (hr : RightC W h n l) {x : Int} (h0 : 0 ≤ x) (h1 : x < W.length) (hx : x ∉ l) : ∃ W2 h2, pushF W h n [x] = ⟨W2, h2, n + 1, 0⟩ ∧ RightC W2 h2 (n + 1) (x :: l) ∧ W2.length = W.length := by
  have hb : ∀ y ∈ [x], 0 ≤ y ∧ y < W.length := by intro y hy; simp at hy; subst hy; exact ⟨h0, h1⟩
  have hnd : ([x].reverse ++ l).Nodup := by simp; exact ⟨hx, hr.nd⟩
  exact ⟨_, _, pushF_ok hr (all_inW hb) (nodup_swap.1 hnd), push_right hr [x] hb hnd, pushW_length _ _ _⟩

theorem nodup_inj {l : List Int} (h : l.Nodup) {i j : Nat} (hi : i < l.length) (hj : j < l.length) : l[i] = l[j] ↔ i = j := by
  constructor
  · intro e
    rcases Nat.lt_trichotomy i j with h1 | h1 | h1
    · exact ((List.pairwise_iff_getElem.1 h i j hi hj h1) e).elim
    · exact h1
    · exact ((List.pairwise_iff_getElem.1 h j i hj hi h1) e.symm).elim
  · rintro rfl; rfl
theorem dec_self (xs : List Int) : decide (xs = xs) = true := decide_eq_true rfl
theorem own_one (W : World) (x : Int) : (W.alloc (.cells #[.int .i64 x] 3)).ownsRow W.heap.size 3 1 (.slice (some ⟨W.heap.size, 0, none⟩) 1 1) 1 [.int .i64 x] :=
  ⟨rfl, .inr ⟨W.heap.size, 1, #[.int .i64 x], rfl, Nat.le_refl _, blk_alloc _ _, Nat.le_refl _, by simp [maxLen], rfl, rfl⟩⟩
/-- What is wanted, down to place n. -/
def wantS (l : List Int) (x : Int) (n : Nat) : List Int := (l.drop n).reverse.filter fun y => y != x
theorem wantS_none (l : List Int) (x : Int) : wantS l x l.length = [] := by unfold wantS; simp
theorem wantS_step (l : List Int) (x : Int) (m : Nat) (h : m < l.length) (hx : l[m] ≠ x) : wantS l x m = wantS l x (m + 1) ++ [l[m]] := by
  unfold wantS
  rw [List.drop_eq_getElem_cons h, List.reverse_cons, List.filter_append, List.filter_cons_of_pos (by simpa using hx)]
  rfl
theorem wantS_skip (l : List Int) (x : Int) (m : Nat) (h : m < l.length) (hx : l[m] = x) : wantS l x m = wantS l x (m + 1) := by
  unfold wantS
  rw [List.drop_eq_getElem_cons h, List.reverse_cons, List.filter_append, List.filter_cons_of_neg (by simpa using hx)]
  simp
theorem wantS_bound (l : List Int) (x : Int) (n : Nat) : (wantS l x n).length ≤ l.length := by
  unfold wantS
  have := List.length_filter_le (fun y => y != x) (l.drop n).reverse
  rw [List.length_reverse, List.length_drop] at this
  omega
theorem rdv_block {w : World} {a : Option Addr} {vs : List Value} (h : RdV w a vs) (h0 : vs ≠ []) : ∃ p, a = some p ∧ p.block < w.heap.size := by
  rcases h with h | ⟨b, o, e, h⟩
  · exact (h0 h).elim
  · have hp : 0 < vs.length := List.length_pos_iff.2 h0
    exact ⟨_, e, World.block_lt_of_cell? w _ (h 0 hp)⟩

set_option maxHeartbeats 4000000 in
set_option maxRecDepth 20000 in
theorem chainLeaves_walk (a : Option Addr) (l : List Int) (n c : Nat) (k : Int) (w : World) (hn : n = l.length) (hl : l.length ≤ maxLen) (hrd : RdV w a (ints l)) (hx : ∀ x ∈ l, I64 x) (hk : I64 k) :
    Calls Try.prog 4 #[.slice a n c, .int .i64 k] w fun e w' => e = .returned (.bool true) ∧ Bel w w' := by
  subst hn
  have hl2 : l.length ≤ 9223372036854775807 := by unfold maxLen at hl; omega
  obtain ⟨k0, k1⟩ := hk
  by_cases c0 : 100 < (l.length : Int) ∨ k < 0 ∨ l.length ≤ k
  · have c1 : 100 < (l.length : Int) ∨ (¬ 100 < (l.length : Int) ∧ k < 0) ∨ (¬ 100 < (l.length : Int) ∧ ¬ k < 0 ∧ (l.length : Int) ≤ k) := by omega
    clear c0
    rcases c1 with c1 | ⟨c1, c2⟩ | ⟨c1, c2, c3⟩
    all_goals
      go_enter Try.func4, Try.ntmps4
      go_wp2_with fail
      refine (awake08 _).mono ?_; rintro e w' ⟨rfl, hB⟩
      go_wp2
      go_ret
      exact ⟨rfl, hB⟩
  · obtain ⟨j, rfl⟩ := Int.eq_ofNat_of_zero_le (show 0 ≤ k by omega)
    have c1 : l.length ≤ 100 := by omega
    have hj : j < l.length := by omega
    clear c0 k0 k1 hl
    have hml : l.length ≤ maxLen := by unfold maxLen; omega
    obtain ⟨pa, rfl, hpa⟩ := rdv_block hrd (by intro h; simp [ints] at h; subst h; simp at hj)
    have HRD := Lib.hid hrd
    have HZ : Hid ((List.replicate (64 * 4) (0 : Int)).length = 256) := Lib.hid (by rw [List.length_replicate])
    clear hrd
    by_cases good : (∀ x ∈ l, 0 ≤ x ∧ x < (List.replicate (64 * 4) (0 : Int)).length) ∧ l.Nodup
    · obtain ⟨W1, h1, e1, r1, L1⟩ := push_empty good.1 good.2
      obtain ⟨x, hxx⟩ : ∃ x, l[j] = x := ⟨_, rfl⟩
      have hxm : x ∈ l := by rw [← hxx]; exact List.getElem_mem _
      obtain ⟨W2, h2, e2, r2, L2⟩ := rem_in r1 (x := x) (by simpa using hxm)
      obtain ⟨W3, h3, e3, r3, L3⟩ := push_one r2 (x := x) (good.1 x hxm).1 (by rw [L2, L1]; exact (good.1 x hxm).2) (by simp)
      rw [HZ.out] at L1
      rw [show (l.length : Int) - 1 + 1 = l.length by omega] at e3 r3
      have hW : Hid (wantS l x 0 = l.reverse.filter fun y => y != x) := Lib.hid rfl
      have i1 := right_i64 (by omega) r1
      have i2 := right_i64 (by omega) r2
      have i3 := right_i64 (by omega) r3
      have hw3 : (wantS l x 0).length ≤ l.length := wantS_bound _ _ _
      rw [← hW.out] at r2 r3
      have HJ : Hid (∀ m (hm : m < l.length), (m : Int) ≠ (j : Int) ↔ l[m] ≠ x) := Lib.hid (fun m hm => by
        rw [← hxx]
        have := nodup_inj good.2 hm hj
        omega)
      have hxi := hx x hxm
      have HE := Lib.hid (And.intro e1 (And.intro e2 e3))
      have HR := Lib.hid (And.intro r1 (And.intro r2 r3))
      have hxr := good.1 x hxm
      rw [HZ.out] at hxr
      have HX := Lib.hid hxx
      clear e1 e2 e3 r1 r2 r3 good hxx
      go_enter Try.func4, Try.ntmps4
      go_wp2_with fail
      refine (arena_New_ok 4 _ (by omega) (by omega)).mono ?_
      rintro e w1 ⟨ba, rfl, hlt, hA, hB1⟩
      have hbw := heap_lt hA.words
      have hba := heap_lt hA.hd
      go_wp2_with fail
      refine (chain_Push ba w.heap.size _ 0 0 (some pa) l c _ hA ⟨by omega, by omega⟩ ⟨by omega, by omega⟩ (by omega) hx (HRD.out.bel hB1) (fun _ p hp => by cases hp; omega)).mono ?_
      rintro e w2 ⟨rfl, hA2, hF2⟩
      rw [HE.out.1] at hA2 ⊢
      have hB2 : Bel w w2 := bel_fr hB1 hF2 (Nat.le_refl _)
      have hs2 := hF2.size
      go_wp2_with fail
      have HS0 := Lib.hid (RLSt.start w2 h1 l.length)
      have HA2 := Lib.hid hA2
      have HB2 := Lib.hid hB2
      clear hA2 hB2 hA hB1 hF2
      go_loopw [9, 10] (fun v k wr => ∃ n : Nat, n ≤ l.length ∧ k = .int .i64 ((n : Int) - 1) ∧ RLSt w2 wr h1 l.length (wantS l x n) v ∧ v ≠ .slice none 0 0) (fun v k wr => (intOf k + 1).toNat)
      case atStart => exact ⟨l.length, Nat.le_refl _, rfl, by rw [wantS_none]; exact HS0.out, by intro h; cases h⟩
      case round =>
        obtain ⟨n, hn, rfl, hL, hv0⟩ := hrel
        have hwb := wantS_bound l x n
        have hsz := hL.size
        cases n with
        | zero =>
          obtain ⟨av, cv, rfl, hrv, hcv, hpv⟩ := own_slice2 hL.own
          obtain ⟨pv, rfl⟩ : ∃ p : Nat, av = some ⟨p, 0, none⟩ := by
            rcases hL.own.2 with ⟨h1, _⟩ | ⟨g, cap, cur, h1, _⟩
            · exact (hv0 h1).elim
            · cases h1; exact ⟨_, rfl⟩
          clear hv0
          have hB3 := HB2.out.trans hL.bel
          have hA3 := HA2.out.bel hL.bel
          have hbx := hL.box
          obtain ⟨bb, oo, e0, hcx⟩ := (HRD.out.bel hB3).at (f := fun x => .int .i64 x) (xs := l) j hj
          cases e0
          have hbb : bb ≠ w.heap.size := Nat.ne_of_lt hpa
          rw [HX.out] at hcx
          have C : ∀ V, Bel wr V → Calls Try.prog 14 #[.pointer (some ⟨ba, 0, none⟩), .agg #[.int .i64 h1, .int .i64 l.length], .int .i64 x] V (fun e V' => e = .returned (.tuple #[.agg #[.int .i64 h2, .int .i64 ((l.length : Int) - 1)], .int .i64 0]) ∧ ArenaAt V' ba w.heap.size W2 ∧ Fr (fun k => k = w.heap.size) wr V') := fun V hb => by
            have := chain_Remove ba w.heap.size W1 h1 l.length x V (hA3.bel hb) i1.1 i1.2 hxi
            rw [HE.out.2.1] at this
            refine this.mono ?_
            rintro e V' ⟨rfl, h4, h5⟩
            exact ⟨rfl, h4, (Fr.of_bel hb).trans' h5⟩
          have HC := Lib.hid C
          have HL := Lib.hid hL
          have HRV := Lib.hid hrv
          have HB3 := Lib.hid hB3
          obtain ⟨q0, q1, q2, q3⟩ := two_cells hbx
          have hwbw : w.heap.size < w2.heap.size := by omega
          have HK : Hid (∀ V, Fr (fun k => k = w.heap.size) wr V → V.cell? ⟨w2.heap.size, 0, none⟩ = some (.int .i64 h1) ∧ V.cell? ⟨w2.heap.size, 1, none⟩ = some (.int .i64 l.length) ∧ V.cell? ⟨bb, oo + j, none⟩ = some (.int .i64 x)) :=
            Lib.hid (fun V hF => ⟨hF.cell q0 (by show ¬ w2.heap.size = w.heap.size; omega), hF.cell q1 (by show ¬ w2.heap.size = w.heap.size; omega), hF.cell hcx hbb⟩)
          have HHB := Lib.hid hbx
          clear C hL hrv hB3 hA3 hbx
          go_upto_region 13 with fail
          go_cut [8] (fun s8 wx => s8 = .int .i64 0 ∧ wx.heap[w2.heap.size]? = some (.cells #[.int .i64 h2, .int .i64 ((l.length : Int) - 1)] 37 (0, 0)) ∧ ArenaAt wx ba w.heap.size W2 ∧ Fr (fun k => k = w.heap.size ∨ k = w2.heap.size) wr wx)
          case first =>
            go_region_law (first | (go_simp; go_at_call 14; (with_reducible refine (HC.out _ ?b1).mono ?_); (case b1 => repeat (first | exact Bel.refl _ | apply Bel.drew | apply Bel.alloc)); rintro e w4 ⟨rfl, hA4, hF4⟩; (have g4 := hF4.heap HHB.out (by show ¬ w2.heap.size = w.heap.size; omega)); obtain ⟨s0, s1, s2, s3⟩ := two_cells g4))
            all_goals
              go_wp2_with fail
              go_meet
              exact ⟨rfl, (two_set g4 _ _).2.2, arena_two hA4 (by omega) (by omega) _ _, (hF4.mono (fun _ h => .inl h)).trans (fr_two' _ _ _ _) (fun _ h => .inl (.inr h))⟩
          case rest =>
            obtain ⟨rfl, hg5, hA5, hF5⟩ := hcut
            have hB5 : Bel w wc := Fr.bel ((Fr.of_bel (S := fun k => k = w.heap.size ∨ k = w2.heap.size) HB3.out).trans' hF5) (fun k hk => by omega)
            have hrv5 : RdV wc (some ⟨pv, 0, none⟩) (ints (wantS l x 0)) := HRV.out.fr hF5 (fun p hp h => by have := hpv p hp; omega)
            have hs5 := hF5.size
            have HRV5 := Lib.hid hrv5
            have HB5 := Lib.hid hB5
            have HG5 := Lib.hid hg5
            have HA5 := Lib.hid hA5
            obtain ⟨q0, q1, q2, q3⟩ := two_cells hg5
            clear hB5 hrv5 hF5 hg5 hA5 HK HC
            go_wp2_with fail
            refine (chain_List_ok _ W2 h2 (l.length - 1) (wantS l x 0) wc (.inr ⟨ba, _, rfl, HA5.out⟩) HR.out.2.1).mono ?_
            rintro e w6 ⟨v6, rfl, hN6, hB6⟩
            obtain ⟨a6, c6, rfl, hr6, _, _⟩ := own_slice2 hN6
            have HR6 := Lib.hid hr6
            have HB6 := Lib.hid hB6
            have hs6 := hB6.size
            clear hr6 hN6 hB6 q0 q1 q2 q3
            go_wp2_with fail
            refine (ref_Ints a6 (some ⟨pv, 0, none⟩) (wantS l x 0) (wantS l x 0) _ c6 _ cv w6 rfl rfl (by omega) (by omega) HR6.out (HRV5.out.bel HB6.out)).mono ?_
            rintro e w7 ⟨rfl, hB7⟩
            rw [dec_self]
            have hs7 := hB7.size
            have hb67 := HB6.out.trans hB7
            have hg7 := (Fr.of_bel (S := fun _ => False) hb67).heap HG5.out (fun h => h)
            have HG7 := Lib.hid hg7
            obtain ⟨q0, q1, q2, q3⟩ := two_cells hg7
            obtain ⟨y0, y1, y2, y3⟩ := two_cells (blk_alloc_old (.cells #[.int .i64 x] 3) hg7)
            obtain ⟨b7, o7, e7, hcx7⟩ := (HRD.out.bel (HB5.out.trans hb67)).at (f := fun x => .int .i64 x) (xs := l) j hj
            cases e7
            rw [HX.out] at hcx7
            have hcp : ∀ V g, Bel w7 V → w7.heap.size ≤ g → RdV V (some ⟨g, 0, none⟩) (ints [x]) → Calls Try.prog 13 #[.pointer (some ⟨ba, 0, none⟩), .agg #[.int .i64 h2, .int .i64 ((l.length : Int) - 1)], .slice (some ⟨g, 0, none⟩) 1 1] V (fun e V' => e = .returned (.tuple #[.agg #[.int .i64 h3, .int .i64 l.length], .int .i64 0]) ∧ ArenaAt V' ba w.heap.size W3 ∧ Fr (fun k => k = w.heap.size) w7 V') := fun V g hb hg hr => by
              have := chain_Push ba w.heap.size W2 h2 (l.length - 1) (some ⟨g, 0, none⟩) [x] 1 V (HA5.out.bel (hb67.trans hb)) i2.1 i2.2 (by simp) (by intro y hy; simp at hy; subst hy; exact hxi) hr (fun _ p hp => by cases hp; show g ≠ w.heap.size; omega)
              rw [HE.out.2.2] at this
              refine this.mono ?_
              rintro e V' ⟨rfl, h4, h5⟩
              exact ⟨rfl, h4, (Fr.of_bel hb).trans' h5⟩
            have HC := Lib.hid hcp
            have HB7 := Lib.hid (HB5.out.trans hb67)
            have HNW : Hid (∀ W : World, RdV (W.alloc (.cells #[.int .i64 x] 3)) (some ⟨W.heap.size, 0, none⟩) (ints [x])) := Lib.hid (fun W => RdV.new W #[.int .i64 x] 3)
            have HRW7 := Lib.hid (HRV5.out.bel hb67)
            have HRB := Lib.hid hcx7
            clear hcp hb67 hg7 hB7
            go_upto_region 17 with fail
            go_cut [8] (fun s8 wx => s8 = .int .i64 0 ∧ wx.heap[w2.heap.size]? = some (.cells #[.int .i64 h3, .int .i64 l.length] 37 (0, 0)) ∧ ArenaAt wx ba w.heap.size W3 ∧ Fr (fun k => k = w.heap.size ∨ k = w2.heap.size) w7 wx)
            case first =>
              go_region_law (first | (go_simp; go_at_call 13; (with_reducible refine (HC.out _ _ ?b1 ?b2 ?b3).mono ?_); (case b1 => repeat (first | exact Bel.refl _ | apply Bel.drew | apply Bel.alloc)); (case b2 => exact Nat.le_refl _); (case b3 => first | exact HNW.out _ | exact (HNW.out _).bel (Bel.refl _).drew); rintro e w4 ⟨rfl, hA4, hF4⟩; (have g4 := hF4.heap HG7.out (by show ¬ w2.heap.size = w.heap.size; omega)); obtain ⟨s0, s1, s2, s3⟩ := two_cells g4))
              all_goals
                go_wp2_with fail
                go_meet
                exact ⟨rfl, (two_set g4 _ _).2.2, arena_two hA4 (by omega) (by omega) _ _, (hF4.mono (fun _ h => .inl h)).trans (fr_two' _ _ _ _) (fun _ h => .inl (.inr h))⟩
            case rest =>
              obtain ⟨rfl, hg8, hA8, hF8⟩ := hcut
              have hB8 : Bel w wc := Fr.bel ((Fr.of_bel (S := fun k => k = w.heap.size ∨ k = w2.heap.size) HB7.out).trans' hF8) (fun k hk => by omega)
              have hrv8 : RdV wc (some ⟨pv, 0, none⟩) (ints (wantS l x 0)) := HRW7.out.fr hF8 (fun p hp h => by have := hpv p hp; omega)
              have hs8 := hF8.size
              have HRV8 := Lib.hid hrv8
              have HB8 := Lib.hid hB8
              have HA8 := Lib.hid hA8
              obtain ⟨q0, q1, q2, q3⟩ := two_cells hg8
              clear hB8 hrv8 hF8 hg8 hA8 HC hcx7
              go_wp2_with fail
              refine (chain_List_ok _ W3 h3 l.length (x :: wantS l x 0) wc (.inr ⟨ba, _, rfl, HA8.out⟩) HR.out.2.2).mono ?_
              rintro e w9 ⟨v9, rfl, hN9, hB9⟩
              obtain ⟨a9, c9, rfl, hr9, _, _⟩ := own_slice2 hN9
              have HR9 := Lib.hid hr9
              have hs9 := hB9.size
              have HB9 := Lib.hid hB9
              obtain ⟨b8, o8, e8, hcx8⟩ := (HRD.out.bel (HB8.out.trans hB9)).at (f := fun x => .int .i64 x) (xs := l) j hj
              cases e8
              rw [HX.out] at hcx8
              have hown : ∀ W : World, (W.alloc (.cells #[.int .i64 x] 3)).ownsRow W.heap.size 3 1 (.slice (some ⟨W.heap.size, 0, none⟩) 1 1) 1 [.int .i64 x] := fun W => own_one W x
              have HOW := Lib.hid hown
              obtain ⟨i0, hi0, hz, hs, hby⟩ := info_parts info_int
              clear hr9 hN9 hB9 q0 q1 q2 q3 hown
              go_wp2_with (at_builtin; (refine wpList_guarded ?g1 (fun K hK => ?g2)); (case g1 => rfl); refine wp_append_own _ _ _ 33 rfl w9.heap.size 3 i0 (.int .i64 0) 1 8 Try.underlying33 hi0 hz hs hby rfl (by decide) _ 1 [.int .i64 x] rfl (HOW.out _) ⟨pv, 0, none⟩ (wantS l x 0).length cv (ints (wantS l x 0)) rfl ?e2 ?e3 ?e4 ?e5 ?e6 ?e7 ?e8)
              case e2 => simp [ints]
              case e3 => exact RdV.cells (((HRV8.out.bel HB9.out)).bel ((Bel.refl _).alloc _))
              case e4 => exact ints_one _
              case e5 => unfold maxLen; omega
              case e6 => omega
              case e7 => rw [World.size_alloc]; omega
              intro v' w10 hown2 hgrow hnil
              have hB10 : Bel w9 w10 := bel_grown ((Bel.refl _).alloc _) hgrow (fun k hk => by simp [Value.ownBlock] at hk; omega)
              obtain ⟨a10, c10, rfl, hr10, _, _⟩ := own_slice2 hown2
              have HR10 : Hid (RdV w10 a10 (ints (x :: wantS l x 0))) := Lib.hid hr10
              have HR9' := Lib.hid (HR9.out.bel hB10)
              have HB10 := Lib.hid ((HB8.out.trans HB9.out).trans hB10)
              clear hown2 hgrow hnil hB10 hr10
              refine hK _ _ ?_
              go_wp2_with fail
              refine (ref_Ints a9 a10 (x :: wantS l x 0) (x :: wantS l x 0) _ c9 _ c10 w10 (by simp) (by simp; omega) (by simp; unfold maxLen; omega) (by simp; unfold maxLen; omega) HR9'.out HR10.out).mono ?_
              rintro e w11 ⟨rfl, hB11⟩
              rw [dec_self]
              go_wp2_with fail
              refine (awake08 _).mono ?_; rintro e w' ⟨rfl, hB⟩
              go_wp2
              go_ret
              exact ⟨rfl, (HB10.out.trans hB11).trans hB⟩
        | succ m =>
          have hlt : m < l.length := by omega
          obtain ⟨bb, oo, e0, hc⟩ := (HRD.out.bel (HB2.out.trans hL.bel)).at (f := fun x => .int .i64 x) (xs := l) m hlt
          cases e0
          obtain ⟨av, cv, rfl⟩ := hL.own.len
          have hi1 : (((m + 1 : Nat) : Int) - 1) = m := by omega
          rw [hi1]
          by_cases hmj : m = j
          · have hsk := wantS_skip l x m hlt (by
              have := HJ.out m hlt
              exact Classical.byContradiction fun h => (this.2 h) (by omega))
            have HSK := Lib.hid hsk
            have HL := Lib.hid hL
            have hb : ((m : Int) != (j : Int)) = false := by simp [hmj]
            clear hsk hL hmj
            go_wp2
            go_roundw
            case rel => exact ⟨m, by omega, rfl, by rw [HSK.out]; exact HL.out, hv0⟩
            case measure => simp [intOf]
          · have hst := wantS_step l x m hlt ((HJ.out m hlt).1 (by omega))
            have hb : ((m : Int) != (j : Int)) = true := by rw [bne_iff_ne]; omega
            obtain ⟨y, hy⟩ : ∃ y, l[m] = y := ⟨_, rfl⟩
            rw [hy] at hc hst
            have HST := Lib.hid hst
            have HL := Lib.hid hL
            clear hst hL hy hmj
            obtain ⟨i0, hi0, hz, hs, hby⟩ := info_parts info_int
            go_wp2_with (at_builtin; refine wpList_append_own _ rfl _ _ 33 rfl (w2.heap.size + 1) 3 i0 (.int .i64 0) 1 8 Try.underlying33 hi0 hz hs hby rfl (by decide) _ _ _ rfl (HL.out.own.alloc _) ⟨wr.heap.size, 0, none⟩ 1 1 [.int .i64 y] rfl rfl ?d2 ?d3 ?d4 ?d5 ?d6 ?_)
            try (case d2 => exact cell_one_new _ _ _)
            case d3 => simp [Value.oneCell']
            case d4 => unfold maxLen; omega
            case d5 => omega
            case d6 => first | omega | (simp; omega)
            intro v' w4 hown2 hgrow hnil
            have hL4 : RLSt w2 w4 h1 l.length (wantS l x (m + 1) ++ [y]) v' := RLSt.app HL.out hown2 hgrow
            rw [← HST.out] at hL4
            have HL4 := Lib.hid hL4
            have HV4 : Hid (v' ≠ .slice none 0 0) := Lib.hid (fun h => hnil h)
            clear hL4 hown2 hgrow hnil
            go_wp2
            go_roundw
            case rel => exact ⟨m, by omega, rfl, HL4.out, HV4.out⟩
            case measure => simp [intOf]
    · obtain ⟨e0, he, hcs⟩ := push_empty_bad good
      have hne : (e0 == 0) = false ∧ (e0 != 0) = true := by rcases hcs with ⟨rfl, _⟩ | ⟨rfl, _⟩ <;> exact ⟨rfl, rfl⟩
      obtain ⟨n1, n2⟩ := hne
      have HE := Lib.hid he
      clear he hcs good
      go_enter Try.func4, Try.ntmps4
      go_wp2_with fail
      refine (arena_New_ok 4 _ (by omega) (by omega)).mono ?_
      rintro e w1 ⟨ba, rfl, hlt, hA, hB1⟩
      have hbw := heap_lt hA.words
      go_wp2_with fail
      refine (chain_Push ba w.heap.size _ 0 0 (some pa) l c _ hA ⟨by omega, by omega⟩ ⟨by omega, by omega⟩ (by omega) hx (HRD.out.bel hB1) (fun _ p hp => by cases hp; omega)).mono ?_
      rintro e w2 ⟨rfl, hA2, hF2⟩
      rw [HE.out] at hA2 ⊢
      have hB2 : Bel w w2 := bel_fr hB1 hF2 (Nat.le_refl _)
      go_wp2_with fail
      refine (awake08 _).mono ?_; rintro e w' ⟨rfl, hB⟩
      go_wp2
      go_ret
      exact ⟨rfl, (hB2.alloc _).trans hB⟩
end Go.Proofs.Ytnehccndghkakaa
