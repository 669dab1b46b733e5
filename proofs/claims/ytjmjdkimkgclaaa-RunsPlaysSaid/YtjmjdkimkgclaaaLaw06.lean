/- Layer 6: awake; live free runs; acts that came in; nil free runs. -/
import Derived.Test.YtjmjdkimkgclaaaPLaw06
import Derived.Test.YtjmjdkimkgclaaaRef06P
import Derived.Test.YtjmjdkimkgclaaaRef06B
import Derived.Test.YtjmjdkimkgclaaaArgRuns
import Derived.Laws.StructEq
namespace Go.Proofs.Ytjmjdkimkgclaaa
open Go.ChangeShapes Go.WideShapes Go.ChangeAt Go.RowKit Go.Deep

theorem run_eql_rn (x y : Rn) (w : World) : (binOp .eql 29 (.agg #[.int .i64 x.1, .int .i64 x.2]) (.agg #[.int .i64 y.1, .int .i64 y.2])).run Try.prog w = .ok (.bool (x.1 == y.1 && x.2 == y.2)) w := by
  obtain ⟨a, b⟩ := x
  obtain ⟨c, d⟩ := y
  go_simp
  by_cases h1 : a = c <;> by_cases h2 : b = d <;> simp [h1, h2]
theorem run_neq_rn (x y : Rn) (w : World) : (binOp .neq 29 (.agg #[.int .i64 x.1, .int .i64 x.2]) (.agg #[.int .i64 y.1, .int .i64 y.2])).run Try.prog w = .ok (.bool (!(x.1 == y.1 && x.2 == y.2))) w := by
  obtain ⟨a, b⟩ := x
  obtain ⟨c, d⟩ := y
  go_simp
  by_cases h1 : a = c <;> by_cases h2 : b = d <;> simp [h1, h2]

/-- Free runs that the law made, with blocks that are not theirs. -/
structure LiveR (w0 : World) (N : Nat → Prop) (w : World) (b : Nat) (v : Value) (L : List Rn) : Prop where
  free : FreeAt w b v L
  old : w0.heap.size ≤ b
  own : ∀ k, v.ownBlock = some k → w0.heap.size ≤ k
  bel : Bel w0 w
  keep : ∀ k, N k → k < w.heap.size ∧ ¬ footR b v k
theorem LiveR.then_bel {w0 : World} {N : Nat → Prop} {w w' : World} {b : Nat} {v : Value} {L : List Rn} (h : LiveR w0 N w b v L) (k : Bel w w') : LiveR w0 N w' b v L :=
  ⟨h.free.bel k, h.old, h.own, h.bel.trans k, fun i hi => ⟨Nat.lt_of_lt_of_le (h.keep i hi).1 k.size, (h.keep i hi).2⟩⟩
theorem LiveR.foot {w0 : World} {N : Nat → Prop} {w : World} {b : Nat} {v : Value} {L : List Rn} (h : LiveR w0 N w b v L) (k : Nat) (hk : footR b v k) : w0.heap.size ≤ k := by
  rcases hk with rfl | hk
  · exact h.old
  · exact h.own k hk
theorem LiveR.step {w0 : World} {N : Nat → Prop} {w w' : World} {b : Nat} {v : Value} {L L' : List Rn} (h : LiveR w0 N w b v L) (k : RPost w b v L' w') :
    ∃ v', LiveR w0 N w' b v' L' ∧ Fr (fun k => ¬ N k) w w' ∧ ∀ u f, BitsO w u f → BitsO w' u f := by
  obtain ⟨v', h1, h2, h3⟩ := k
  refine ⟨v', ⟨h1, h.old, fun i hi => ?_, Fr.bel ((Fr.of_bel (S := footR b v) h.bel).trans' h3) h.foot, fun i hi => ⟨Nat.lt_of_lt_of_le (h.keep i hi).1 h3.size, ?_⟩⟩, h3.mono (fun i hi h9 => (h.keep i h9).2 hi), fun u f hu => hu.fr h3 (fun g cur hg hf => ?_)⟩
  · rcases h2 i hi with h9 | h9
    · exact h.own i h9
    · exact Nat.le_trans h.bel.size h9
  · have h4 := h.keep i hi
    rintro (h9 | h9)
    · exact h4.2 (.inl h9)
    · rcases h2 i h9 with h8 | h8
      · exact h4.2 (.inr h8)
      · omega
  · rcases hf with rfl | hf
    · rw [h.free.hd] at hg; simp at hg
    · rcases h.free.own.2 with ⟨e1, _⟩ | ⟨g', cap, cur', e1, _, e3, _⟩
      · rw [e1] at hf; simp [Value.ownBlock] at hf
      · rw [e1] at hf; simp [Value.ownBlock] at hf
        subst hf
        rw [e3] at hg; simp at hg
theorem LiveR.watch {w0 : World} {N : Nat → Prop} {w w' : World} {b : Nat} {v : Value} {L : List Rn} (h : LiveR w0 N w b v L) (k : Bel w w') (M : Nat → Prop) (hM : ∀ i, M i → w.heap.size ≤ i ∧ i < w'.heap.size) : LiveR w0 (fun i => N i ∨ M i) w' b v L := by
  refine ⟨h.free.bel k, h.old, h.own, h.bel.trans k, fun i hi => ?_⟩
  rcases hi with hi | hi
  · exact ⟨Nat.lt_of_lt_of_le (h.keep i hi).1 k.size, (h.keep i hi).2⟩
  · exact ⟨(hM i hi).2, fun h9 => by have := h.free.lt h9; have := (hM i hi).1; omega⟩
theorem LiveR.p {w0 : World} {N : Nat → Prop} {w : World} {b : Nat} {v : Value} {L : List Rn} (h : LiveR w0 N w b v L) : FreeP w (.pointer (some ⟨b, 0, none⟩)) L := .inr ⟨b, v, rfl, h.free⟩
theorem live_new {w w' : World} {v : Value} {L : List Rn} (h : FreeAt w' w.heap.size v L) (k : Bel w w') (ho : ∀ k, v.ownBlock = some k → w.heap.size ≤ k) : LiveR w (fun _ => False) w' w.heap.size v L :=
  ⟨h, Nat.le_refl _, ho, k, fun _ h => h.elim⟩

/-! ### awake -/
theorem awake6_add : addR [] [(8, 2), (0, 5)] = ([(0, 5), (8, 2)], 0) := by
  have h1 : AllThere 1024 [(8, 2), (0, 5)] := by intro r hr; simp at hr; rcases hr with rfl | rfl <;> decide
  rw [addR_ok h1 (by simp) (by simp [Apart])]
  have : ([(0, 5), (8, 2)] : List Rn) = addF [] [(8, 2), (0, 5)] := canon_unique (q := 1024) _ _ ⟨by intro r hr; simp at hr; rcases hr with rfl | rfl <;> decide, by simp⟩ (addF_canon _ _) (fun p => by
    unfold addF
    rw [inL_listP]
    simp [inL, inR]
    omega)
  rw [← this]
theorem awake6_take : takeR [(0, 5), (8, 2)] 2 = ([(0, 5)], (8, 2), true) := by
  have hb : bestF [(0, 5), (8, 2)] 2 = (8, 2) := by decide
  unfold takeR
  rw [hb, if_pos (show (0 : Int) < 2 by decide)]
  show (cutF [(0, 5), (8, 2)] (8, 2), (8, 2), true) = _
  have : ([(0, 5)] : List Rn) = cutF [(0, 5), (8, 2)] (8, 2) := canon_unique (q := 1024) _ _ ⟨by intro r hr; simp only [List.mem_cons, List.not_mem_nil, or_false] at hr; subst hr; exact ⟨by simp, by simp, by simp⟩, by simp⟩ (cutF_canon _ _) (fun p => by
    rw [inL_cutF]
    simp [inL, inR]
    omega)
  rw [← this]
set_option maxHeartbeats 2000000 in
set_option maxRecDepth 20000 in
theorem awake06 (w : World) : Calls Try.prog 8 #[] w fun e w' => e = .returned (.bool true) ∧ Bel w w' := by
  have HA := Lib.hid awake6_add
  have HT := Lib.hid awake6_take
  have HNEW := Lib.hid (runs_New (some ⟨w.heap.size, 0, none⟩) [(8, 2), (0, 5)] 2 2 (w.alloc (.cells #[.int .i64 8, .int .i64 2, .int .i64 0, .int .i64 5] 29)) rfl (by simp) (RunsIn.of_row (RdV.new w #[.int .i64 8, .int .i64 2, .int .i64 0, .int .i64 5] 29)) (by intro r hr; simp at hr; rcases hr with rfl | rfl <;> exact ⟨⟨by omega, by omega⟩, ⟨by omega, by omega⟩⟩))
  go_enter Try.func8, Try.ntmps8
  go_wp2_with fail
  refine HNEW.out.mono ?_
  rintro e w1 ⟨p, rfl, hB, hp⟩
  have hB0 : Bel w (w.alloc (.cells #[.int .i64 8, .int .i64 2, .int .i64 0, .int .i64 5] 29)) := (Bel.refl w).alloc _
  clear HNEW
  generalize w.alloc (.cells #[.int .i64 8, .int .i64 2, .int .i64 0, .int .i64 5] 29) = W1 at hB hp hB0
  rw [HA.out] at hp ⊢
  rcases hp with ⟨h9, _⟩ | ⟨_, v, rfl, hF, hv⟩
  · exact absurd rfl h9
  have hL := live_new hF hB hv
  have HL := Lib.hid hL
  have HB0 := Lib.hid hB0
  clear hB hF hv hL hB0
  have htk := runs_Take _ v [(0, 5), (8, 2)] 2 w1 HL.out.free ⟨by omega, by omega⟩
  rw [HT.out] at htk
  have HTK := Lib.hid htk
  clear htk
  go_wp2_with fail
  refine HTK.out.mono ?_
  rintro e w2 ⟨rfl, hP⟩
  obtain ⟨v2, hL2, _, _⟩ := HL.out.step hP
  have hL3 := hL2.then_bel ((Bel.refl w2).alloc (.cells #[.int .i64 8, .int .i64 2] 29))
  have g2 := blk_alloc w2 (.cells #[.int .i64 8, .int .i64 2] 29)
  obtain ⟨r0, r1, _, _⟩ := two_cells g2
  have HL3 := Lib.hid hL3
  clear hP hL2 hL3 g2
  go_wp2_with fail
  refine (runs_Pages _ _ _ HL3.out.p).mono ?_
  rintro e w3 ⟨rfl, hB3⟩
  have HE : Hid (sumR [(0, 5)] = 5) := Lib.hid (by decide)
  rw [HE.out]
  go_wp2
  go_ret
  exact ⟨rfl, HB0.out.trans (HL3.out.bel.trans hB3)⟩
end Go.Proofs.Ytjmjdkimkgclaaa
