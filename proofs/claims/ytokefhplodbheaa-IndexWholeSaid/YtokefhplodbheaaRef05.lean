/- The slow twin of layer 5: New, there, Of. -/
import Derived.Test.YtokefhplodbheaaWIndex8
import Derived.Test.YtokefhplodbheaaSame
import Derived.Test.YtokefhplodbheaaPIndex2
namespace Go.Proofs.Ytokefhplodbheaa
open Go.RowKit

set_option maxRecDepth 20000 in
theorem ref5_New (pages : Int) (w : World) (hp : I64 pages) :
    Calls Try.prog 9 #[.int .i64 pages] w fun e w' => e = .returned (.slice (some ⟨w.heap.size, 0, none⟩) (pagesF pages) (pagesF pages)) ∧ RdV w' (some ⟨w.heap.size, 0, none⟩) (ints (List.replicate (pagesF pages) 0)) ∧ Bel w w' := by
  obtain ⟨p0, p1⟩ := hp
  have hle := pagesF_le pages
  have hm := run_make_int (pagesF pages) w (by omega)
  have HEND : Hid (RdV (w.alloc (.cells (ints (List.replicate (pagesF pages) 0)).toArray 3)) (some ⟨w.heap.size, 0, none⟩) (ints (List.replicate (pagesF pages) 0))) := Lib.hid (RdV.new w (ints (List.replicate (pagesF pages) 0)).toArray 3)
  obtain ⟨cs, hcs⟩ : ∃ cs, (ints (List.replicate (pagesF pages) 0)).toArray = cs := ⟨_, rfl⟩
  rw [hcs] at hm HEND
  have hcase : (pages < 0 ∧ pagesF pages = 0) ∨ (1024 < pages ∧ pagesF pages = 1024) ∨ (0 ≤ pages ∧ pages ≤ 1024 ∧ (pagesF pages : Int) = pages) := by unfold pagesF; omega
  clear hcs
  rcases hcase with ⟨c, hn⟩ | ⟨c, hn⟩ | ⟨c1, c2, hn⟩
  · rw [hn] at hm HEND ⊢
    rw [show ((0 : Nat) : Int) = 0 from rfl] at hm
    clear hn hle
    go_enter Try.func9, Try.ntmps9
    go_wp2
    go_ret
    exact ⟨rfl, HEND.out, (Bel.refl w).alloc _⟩
  · rw [hn] at hm HEND ⊢
    rw [show ((1024 : Nat) : Int) = 1024 from rfl] at hm
    clear hn hle
    go_enter Try.func9, Try.ntmps9
    go_wp2
    go_ret
    exact ⟨rfl, HEND.out, (Bel.refl w).alloc _⟩
  · rw [hn] at hm
    clear hn
    go_enter Try.func9, Try.ntmps9
    go_wp2
    go_ret
    exact ⟨rfl, HEND.out, (Bel.refl w).alloc _⟩

theorem ref5_Of (a : Option Addr) (ids : List Int) (page : Int) (n c : Nat) (w : World) (hn : n = ids.length) (hl : ids.length ≤ 1024) (hr : RdV w a (ints ids)) (hp : I64 page) :
    Calls Try.prog 14 #[.slice a n c, .int .i64 page] w fun e w' => e = .returned (.int .i64 (ofF ids page)) ∧ w = w' := by
  subst hn
  obtain ⟨p0, p1⟩ := hp
  by_cases c1 : 0 ≤ page ∧ page < ids.length
  · obtain ⟨k, rfl⟩ := Int.eq_ofNat_of_zero_le c1.1
    have hk : k < ids.length := by omega
    have HO : Hid (ofF ids k = ids[k]) := Lib.hid (by unfold ofF wd; rw [if_pos c1]; simp [List.getD_eq_getElem?_getD, hk])
    obtain ⟨b, o, rfl, hc⟩ := hr.at (f := fun x => .int .i64 x) (xs := ids) k hk
    generalize ids[k] = y at hc HO
    clear c1 hr
    go_enter Try.func14, Try.ntmps14
    go_wp2
    go_ret
    exact ⟨by rw [HO.out]; rfl, rfl⟩
  · have HO : Hid (ofF ids page = 0) := Lib.hid (by unfold ofF; rw [if_neg c1])
    have c2 : page < 0 ∨ (¬ page < 0 ∧ (ids.length : Int) ≤ page) := by omega
    clear c1
    rcases c2 with c3 | ⟨c3, c4⟩
    all_goals
      go_enter Try.func14, Try.ntmps14
      go_wp2
      go_ret
      exact ⟨by rw [HO.out]; rfl, rfl⟩

set_option maxHeartbeats 1000000 in
theorem ref5_there (a : Option Addr) (n c : Nat) (r : Rn) (w : World) (hl : n ≤ 1024) (h1 : I64 r.1) (h2 : I64 r.2) :
    Calls Try.prog 20 #[.slice a n c, .agg #[.int .i64 r.1, .int .i64 r.2]] w fun e w' => e = .returned (.bool (there n r)) ∧ Bel w w' := by
  obtain ⟨s, m⟩ := r
  obtain ⟨s0, s1⟩ := h1
  obtain ⟨m0, m1⟩ := h2
  dsimp only at *
  have hi := there_iff (n := n) (r := (s, m))
  dsimp only at hi
  have hc : (m < 1 ∨ (¬ m < 1 ∧ s < 0) ∨ (¬ m < 1 ∧ ¬ s < 0 ∧ (n : Int) ≤ s) ∨ (¬ m < 1 ∧ ¬ s < 0 ∧ ¬ (n : Int) ≤ s ∧ (n : Int) < m) ∨ (¬ m < 1 ∧ ¬ s < 0 ∧ ¬ (n : Int) ≤ s ∧ ¬ (n : Int) < m ∧ (n : Int) < s + m)) ∨
      (¬ m < 1 ∧ ¬ s < 0 ∧ ¬ (n : Int) ≤ s ∧ ¬ (n : Int) < m ∧ ¬ (n : Int) < s + m) := by omega
  rcases hc with hc | ⟨a1, a2, a3, a4, a5⟩
  · have HT : Hid (there n (s, m) = false) := Lib.hid (by rw [← Bool.not_eq_true, hi]; omega)
    clear hi
    rcases hc with a1 | ⟨a1, a2⟩ | ⟨a1, a2, a3⟩ | ⟨a1, a2, a3, a4⟩ | ⟨a1, a2, a3, a4, a5⟩
    all_goals
      go_enter Try.func20, Try.ntmps20
      go_wp2
      go_ret
      exact ⟨by rw [HT.out]; first | rfl | (simp; omega), (Bel.refl w).alloc _⟩
  · have HT : Hid (there n (s, m) = true) := Lib.hid (hi.2 (by omega))
    clear hi
    go_enter Try.func20, Try.ntmps20
    go_wp2
    go_ret
    exact ⟨by rw [HT.out]; first | rfl | (simp; omega), (Bel.refl w).alloc _⟩
end Go.Proofs.Ytokefhplodbheaa
