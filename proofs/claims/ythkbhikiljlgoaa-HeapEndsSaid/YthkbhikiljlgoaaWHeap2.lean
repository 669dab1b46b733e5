/- Package heap: Span, Spans. -/
import Derived.Test.YthkbhikiljlgoaaWHeap
namespace Go.Proofs.Ythkbhikiljlgoaa
open Go.RowKit

theorem four_frozen {w : World} {R T : Nat} {a b c d : Value} (g : w.heap[R]? = some (.cells #[a, b, c, d] T (0, 0))) :
    w.frozen? ⟨R, 0, none⟩ = false ∧ w.frozen? ⟨R, 1, none⟩ = false ∧ w.frozen? ⟨R, 2, none⟩ = false ∧ w.frozen? ⟨R, 3, none⟩ = false :=
  ⟨blk_frozen g 0, blk_frozen g 1, blk_frozen g 2, blk_frozen g 3⟩
theorem four_set {w : World} {R T : Nat} {a0 b0 c0 d0 : Value} (g : w.heap[R]? = some (.cells #[a0, b0, c0, d0] T (0, 0))) (a b c d : Value) :
    ((((w.setCell ⟨R, 0, none⟩ a).setCell ⟨R, 1, none⟩ b).setCell ⟨R, 2, none⟩ c).setCell ⟨R, 3, none⟩ d).heap[R]? = some (.cells #[a, b, c, d] T (0, 0)) := by
  have h1 := blk_setCell g 0 a
  have h2 := blk_setCell h1 1 b
  have h3 := blk_setCell h2 2 c
  have h4 := blk_setCell h3 3 d
  simpa using h4
theorem bel_four {w w1 : World} (h : Bel w w1) {R : Nat} (hR : w.heap.size ≤ R) (a b c d : Value) : Bel w ((((w1.setCell ⟨R, 0, none⟩ a).setCell ⟨R, 1, none⟩ b).setCell ⟨R, 2, none⟩ c).setCell ⟨R, 3, none⟩ d) :=
  Below.setCell (Below.setCell (Below.setCell (Below.setCell (p := ⟨R, 0, none⟩) h hR a) (p := ⟨R, 1, none⟩) hR b) (p := ⟨R, 2, none⟩) hR c) (p := ⟨R, 3, none⟩) hR d
set_option maxHeartbeats 1000000 in
set_option maxRecDepth 20000 in
theorem heap_Span {h rb : Nat} {v : Value} {bx bi bm : Nat} {L : List Rn} {ids : List Int} {S : List Sp} {last : Nat} (w : World) (H : HeapAt w h rb v bx bi bm L ids S last) (k : Int) (hk : (Lit.int .i64 k).wf = true) :
    Calls Try.prog 17 #[.pointer (some ⟨h, 0, none⟩), .int .i64 k] w fun e w' => e = .returned (.tuple #[spV ((getS S k).getD sp0), .bool (getS S k).isSome]) ∧ Bel w w' := by
  obtain ⟨q0, q1, q2, q3⟩ := four_cells H.hd
  have hb := (Bel.refl w).alloc (.cells #[.int .i64 0, .int .i64 0, .int .i64 0, .int .i64 0] 35)
  have hlk := (H.spans.bel hb).get k hk
  have hlt := heap_lt H.hd
  obtain ⟨s, hs⟩ : ∃ s, (getS S k).getD sp0 = s := ⟨_, rfl⟩
  obtain ⟨p, hp⟩ : ∃ p, (getS S k).isSome = p := ⟨_, rfl⟩
  rw [hs, hp] at hlk ⊢
  obtain ⟨s1, ⟨s2, s3⟩, s4⟩ := s
  simp only [spV] at hlk ⊢
  have gR := blk_alloc_old (.cells #[.int .i64 s1, .int .i64 s2, .int .i64 s3, .int .i64 s4] 35) (blk_alloc w (.cells #[.int .i64 s1, .int .i64 s2, .int .i64 s3, .int .i64 s4] 35))
  have HE := Lib.hid (And.intro gR (((Bel.refl w).alloc (.cells #[.int .i64 s1, .int .i64 s2, .int .i64 s3, .int .i64 s4] 35)).alloc (.cells #[.int .i64 s1, .int .i64 s2, .int .i64 s3, .int .i64 s4] 35)))
  clear H gR hb hs hp
  go_enter Try.func17, Try.ntmps17
  go_wp2
  generalize (w.alloc (.cells #[.int .i64 s1, .int .i64 s2, .int .i64 s3, .int .i64 s4] 35)).alloc (.cells #[.int .i64 s1, .int .i64 s2, .int .i64 s3, .int .i64 s4] 35) = W9 at HE ⊢
  obtain ⟨r0, r1, r2, r3⟩ := four_cells HE.out.1
  refine bodyPost_ret (v := .tuple #[.agg #[.int .i64 s1, .int .i64 s2, .int .i64 s3, .int .i64 s4], .bool p]) (by simp [results, Try.results17, go_sem, r0, r1, r2, r3]) rfl ?_
  exact ⟨rfl, HE.out.2⟩

/-! ### Spans -/
set_option maxRecDepth 20000 in
theorem values_spans (m : Option Nat) (w : World) :
    Calls Try.prog 26 #[.map m] w fun e w' => e = .returned (.func (.func 46) #[] #[.pointer (some ⟨w.heap.size, 0, none⟩)]) ∧ w.alloc (.cells #[.map m] 53) = w' := by
  go_enter Try.func26, Try.ntmps26
  go_wp2
  go_ret
  exact ⟨rfl, rfl⟩
theorem HInv.starts {ids : List Int} {L : List Rn} {S : List Sp} {last : Nat} (h : HInv ids L S last) : ∀ x ∈ S, 0 ≤ x.2.1.1 ∧ x.2.1.1 ≤ 1024 := fun x hx => by
  have := there_iff.1 (h.span x hx).2.2.1
  have := h.hi
  omega
theorem nodup_length : ∀ (n : Nat) (l : List Int), l.Nodup → (∀ x ∈ l, 1 ≤ x ∧ x ≤ n) → l.length ≤ n
  | 0, l, _, h => by
    cases l with
    | nil => simp
    | cons a l => have := h a (by simp); omega
  | n + 1, l, hd, h => by
    by_cases hm : ((n + 1 : Nat) : Int) ∈ l
    · have h1 := nodup_length n (l.erase ((n + 1 : Nat) : Int)) (hd.erase _) (fun x hx => by
        obtain ⟨h2, h3⟩ := hd.mem_erase_iff.1 hx
        have := h x h3
        omega)
      rw [List.length_erase_of_mem hm] at h1
      omega
    · have h1 := nodup_length n l hd (fun x hx => by
        have := h x hx
        have : x ≠ ((n + 1 : Nat) : Int) := fun e => hm (by rw [← e]; exact hx)
        omega)
      omega
theorem HInv.count {ids : List Int} {L : List Rn} {S : List Sp} {last : Nat} (h : HInv ids L S last) : S.length ≤ last := by
  have := nodup_length last (S.map (·.1)) h.nd (fun x hx => by
    obtain ⟨s, hs, rfl⟩ := List.mem_map.1 hx
    obtain ⟨s0, s1, _⟩ := h.span s hs
    exact ⟨s0, s1⟩)
  simpa using this
set_option maxRecDepth 20000 in
theorem heap_Spans {h rb : Nat} {v : Value} {bx bi bm : Nat} {L : List Rn} {ids : List Int} {S : List Sp} {last : Nat} (w : World) (H : HeapAt w h rb v bx bi bm L ids S last) :
    Calls Try.prog 11 #[.pointer (some ⟨h, 0, none⟩)] w (RisenSpans w S) := by
  obtain ⟨q0, q1, q2, q3⟩ := four_cells H.hd
  have hb := (Bel.refl w).alloc (.cells #[.map (some bm)] 53)
  have hcon := sorted_spans w.heap.size bm last S H.small H.inv.starts (Nat.le_trans H.inv.count H.small) (w.alloc (.cells #[.map (some bm)] 53)) (by simp) (by rw [blk_cell (blk_alloc _ _)]; rfl) (H.spans.bel hb)
  have HC := Lib.hid hcon
  have HB := Lib.hid hb
  clear hcon H hb
  go_enter Try.func11, Try.ntmps11
  go_wp2_with fail
  refine (values_spans (some bm) w).mono ?_
  rintro e w1 ⟨rfl, rfl⟩
  go_wp2_with fail
  refine HC.out.mono ?_
  rintro e w2 ⟨a, c, zs, rfl, h1, h2, h3, h4⟩
  have HQ := Lib.hid (And.intro h1 (And.intro h2 (And.intro h3 h4)))
  clear h1 h2 h3 h4
  go_wp2
  go_ret
  exact ⟨a, c, zs, rfl, HQ.out.1, HQ.out.2.1, HB.out.trans HQ.out.2.2.1, fun p hp => ⟨Nat.le_trans HB.out.size (HQ.out.2.2.2 p hp).1, (HQ.out.2.2.2 p hp).2⟩⟩
end Go.Proofs.Ythkbhikiljlgoaa
