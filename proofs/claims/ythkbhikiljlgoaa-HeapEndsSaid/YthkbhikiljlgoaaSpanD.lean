/- maps.DeleteFunc at spans, with the function of heap's Free. -/
import Derived.Test.YthkbhikiljlgoaaSpan
import Derived.WalkKit
import Derived.Maps.Ext
import Derived.Laws.IdiomRangeMap
import Derived.Deep.LoopGhost
import Derived.Shelf.Abstract
namespace Go.Proofs.Ythkbhikiljlgoaa
open Go.RowKit Go.Maps Go.WideShapes Go.Shelf

theorem MetAt.grown {w w' : World} {b : Nat} {xs : List Int} {row : Option Nat} (h : MetAt w b xs) (k : w.grownBy w' row) (hb : row ≠ some b) : MetAt w' b xs := by
  obtain ⟨D, hD, hM, hk⟩ := h
  exact ⟨D, hD.kept k (Ne.symm hb), hM, hk⟩
set_option maxRecDepth 20000 in
theorem free1_call (k : Int) (s : Sp) (g bm : Nat) (xs : List Int) (W : World) (hk : (Lit.int .i64 k).wf = true) (hg : W.cell? ⟨g, 0, none⟩ = some (.map (some bm))) (hM : MetAt W bm xs) :
    Calls Try.prog 19 #[.int .i64 k, spV s, .pointer (some ⟨g, 0, none⟩)] W fun e w' => e = .returned (.bool (decide (k ∈ xs))) ∧ W.grownBy w' none := by
  have hlk := (hM.bel ((Bel.refl W).alloc (.cells #[.int .i64 s.1, .int .i64 s.2.1.1, .int .i64 s.2.1.2, .int .i64 s.2.2] 35))).look k hk
  have hg2 := ((Bel.refl W).alloc (.cells #[.int .i64 s.1, .int .i64 s.2.1.1, .int .i64 s.2.1.2, .int .i64 s.2.2] 35)).cell hg
  unfold spV
  go_enter Try.func19, Try.ntmps19
  go_wp2
  go_ret
  exact ⟨rfl, World.grownBy_alloc _ _ _⟩
theorem free1_enters : Enters 19 := enters_of Try.func19 (by kernel_rfl) rfl

set_option maxHeartbeats 4000000 in
set_option maxRecDepth 100000 in
theorem delete_spans (b n : Nat) (S : List Sp) (xs : List Int) (g bm : Nat) (w : World) (hS : SpansAt w b n S) (hM : MetAt w bm xs) (hg : w.cell? ⟨g, 0, none⟩ = some (.map (some bm))) (hbm : bm ≠ b) (hgb : g ≠ b) :
    Calls Try.prog 18 #[.map (some b), .func (.func 19) #[] #[.pointer (some ⟨g, 0, none⟩)]] w fun e w' =>
      e = .returned (.tuple #[]) ∧ SpansAt w' b n (S.filter fun s => !decide (s.1 ∈ xs)) ∧ w.grownBy w' (some b) := by
  obtain ⟨D, hown, hat⟩ := hS.map
  obtain ⟨es0, rfl, hap, hkeys⟩ := hown.entries keyed_int
  obtain ⟨pd, hpd⟩ : ∃ pd : Lit → DataW Sp → Bool, ∀ k d, pd (.int .i64 k) d = decide (k ∈ xs) := ⟨fun l _ => match l with | .int _ k => decide (k ∈ xs) | _ => false, fun k d => rfl⟩
  have HFIN : Hid (∀ w', w'.ownsMap Try.prog 3 spanR b n (Lib.deleteFuncD pd (.map es0)) → SpansAt w' b n (S.filter fun s => !decide (s.1 ∈ xs))) := Lib.hid (fun w' h => ⟨hS.nd.sublist (List.Sublist.map _ List.filter_sublist), _, h, look_filter rfl hat (fun k => decide (k ∈ xs)) pd hpd⟩)
  have eg := free1_enters
  have HD : Hid (∀ W (k : Int) (s : Sp), w.grownBy W (some b) → (Lit.int .i64 k).wf = true → Calls Try.prog 19 #[.int .i64 k, spV s, .pointer (some ⟨g, 0, none⟩)] W fun e w' => e = .returned (.bool (decide (k ∈ xs))) ∧ W.grownBy w' none) := Lib.hid (fun W k s hW hk =>
    free1_call k s g bm xs W hk (hW.cell hg (by simpa using hgb)) (hM.grown hW (by simpa using Ne.symm hbm)))
  unfold Enters at eg
  go_enter Try.func18, Try.ntmps18
  go_wp2_with (first
    | (at_range; refine wpList_range_own _ rfl _ 53 rfl 3 35 keyed_int Try.underlying53 spanR b n _ rfl hown ?_; intro w0 hrg0 hg0 hs0)
    | go_in)
  go_frame
  go_loopw [8] (fun _ wr => ∃ (left : Lit → Bool) (cnt : Nat), wr.ranges Try.prog 3 spanR b w.heap.size n (Fk pd es0 left) left cnt ∧ w.grownBy wr (some b))
    (fun _ wr => wr.rangeLeft b w.heap.size)
  case atStart => exact ⟨_, _, by rw [Fk_start hkeys]; exact hrg0, hg0.but _⟩
  case round =>
    obtain ⟨left, cnt, hrg, hgw⟩ := hrel
    go_wp2_with (first
      | (at_next; refine wpList_next_ranges _ rfl _ rfl 3 keyed_int spanR (Value.int .i64) spV (fun key kl hk => by obtain ⟨x, rfl, _⟩ := Maps.keyOf_int_inv Try.underlying3 hk; exact ⟨x, rfl⟩) (fun v y hv => by obtain ⟨c, rfl, _⟩ := spanR_inv hv; exact ⟨c, rfl⟩) b w.heap.size n _ _ _ rfl hrg ?_ ?_)
      | go_in)
    · intro _ hl0
      go_wp2
      go_end0
      exact ⟨rfl, HFIN.out _ (by rw [← Fk_end hl0]; exact hrg.owns), hgw⟩
    · intro x a1 a2 a3 a4 kl yd yp w1 cnt1 hkey hlx hv hat1 hrg1 hlt hg1 hs1 hen
      obtain ⟨x', ex, rfl, hwx⟩ := Maps.keyOf_int_inv Try.underlying3 hkey
      obtain rfl : x = x' := by simpa using ex
      have hgw1 := hgw.andThen hg1 (fun j hj => by cases hj; exact Or.inl (Nat.le_refl _))
      have hgw2 := hgw1.andThen (World.grownBy_alloc w1 (.cells #[.int .i64 a1, .int .i64 a2, .int .i64 a3, .int .i64 a4] 35) none) (fun j hj => by cases hj)
      have hrg2 := hrg1.alloc (.cells #[.int .i64 a1, .int .i64 a2, .int .i64 a3, .int .i64 a4] 35)
      have hc := HD.out _ x (a1, (a2, a3), a4) hgw2 hwx
      have hp0 : pd (.int .i64 x) yd = decide (x ∈ xs) := hpd x yd
      have q0 := blk_cell (blk_alloc w1 (.cells #[.int .i64 a1, .int .i64 a2, .int .i64 a3, .int .i64 a4] 35))
      have q00 := q0 0
      have q01 := q0 1
      have q02 := q0 2
      have q03 := q0 3
      clear q0
      simp only [spV] at hen hc ⊢
      obtain ⟨p, hp⟩ : ∃ p, decide (x ∈ xs) = p := ⟨_, rfl⟩
      rw [hp] at hc hp0
      have HC := Lib.hid hc
      have HR2 := Lib.hid hrg2
      have HGW := Lib.hid hgw2
      clear hc hrg2 hgw2
      cases p
      · go_wp2_with (first
          | (go_at_fn 19; refine HC.out.mono ?_; rintro e w2 ⟨rfl, hg2⟩)
          | go_in)
        have hrg3 := HR2.out.kept hg2 (by simp) (by simp)
        go_roundw
        case rel => exact ⟨_, cnt1, by rw [← Fk_stays hap (keyed_int.key hkey) hlx hp0 hat1]; exact hrg3, HGW.out.andThen hg2 (fun j hj => by cases hj)⟩
        case measure => rw [hrg3.left_eq, hrg.left_eq]; exact hlt
      · go_wp2_with (first
          | (go_at_fn 19; refine HC.out.mono ?_; rintro e w2 ⟨rfl, hg2⟩; have hrg3 := HR2.out.kept hg2 (by simp) (by simp))
          | (at_delete; refine wpList_delete_ranges _ rfl _ _ 53 3 rfl 35 keyed_int Try.underlying53 spanR b w.heap.size n _ _ _ rfl hrg3 _ _ rfl hkey ?_; intro w3 cnt3 hrg4 hle hturn; go_frame)
          | go_in)
        rw [strike_twice] at hrg4
        go_roundw
        case rel => exact ⟨_, cnt3, by rw [← Fk_struck hap (keyed_int.key hkey) hlx hp0 hat1]; exact hrg4, (HGW.out.andThen hg2 (fun j hj => by cases hj)).andThen hturn.grown (fun j hj => by cases hj; exact Or.inr rfl)⟩
        case measure => rw [hrg4.left_eq, hrg.left_eq]; omega
end Go.Proofs.Ythkbhikiljlgoaa
