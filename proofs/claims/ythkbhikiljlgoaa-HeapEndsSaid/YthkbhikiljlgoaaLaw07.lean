/- Layer 7: live heaps; awake; acts that came in. -/
import Derived.Test.YthkbhikiljlgoaaWHeap4
import Derived.Test.YthkbhikiljlgoaaArgRuns
import Derived.Test.YthkbhikiljlgoaaSame
import Derived.Laws.StructEq
namespace Go.Proofs.Ythkbhikiljlgoaa
open Go.ChangeShapes Go.WideShapes Go.ChangeAt Go.RowKit Go.Deep

/-- A heap that the law made, with blocks that are not its own. -/
structure LiveH (w0 : World) (N : Nat → Prop) (w : World) (h bi : Nat) (L : List Rn) (ids : List Int) (S : List Sp) (last : Nat) : Prop where
  at_ : ∃ rb v bx bm, HeapAt w h rb v bx bi bm L ids S last ∧ ∀ k, footH h rb v bx bi bm k → w0.heap.size ≤ k ∧ ¬ N k
  bel : Bel w0 w
  keep : ∀ k, N k → k < w.heap.size
theorem LiveH.then_bel {w0 : World} {N : Nat → Prop} {w w' : World} {h bi : Nat} {L : List Rn} {ids : List Int} {S : List Sp} {last : Nat} (H : LiveH w0 N w h bi L ids S last) (k : Bel w w') : LiveH w0 N w' h bi L ids S last := by
  obtain ⟨rb, v, bx, bm, h1, h2⟩ := H.at_
  exact ⟨⟨rb, v, bx, bm, h1.bel k, h2⟩, H.bel.trans k, fun i hi => Nat.lt_of_lt_of_le (H.keep i hi) k.size⟩
theorem LiveH.inv {w0 : World} {N : Nat → Prop} {w : World} {h bi : Nat} {L : List Rn} {ids : List Int} {S : List Sp} {last : Nat} (H : LiveH w0 N w h bi L ids S last) : HInv ids L S last := by
  obtain ⟨rb, v, bx, bm, h1, h2⟩ := H.at_
  exact h1.inv
theorem LiveH.watch {w0 : World} {N : Nat → Prop} {w w' : World} {h bi : Nat} {L : List Rn} {ids : List Int} {S : List Sp} {last : Nat} (H : LiveH w0 N w h bi L ids S last) (k : Bel w w') (M : Nat → Prop) (hM : ∀ i, M i → w.heap.size ≤ i ∧ i < w'.heap.size) : LiveH w0 (fun i => N i ∨ M i) w' h bi L ids S last := by
  obtain ⟨rb, v, bx, bm, h1, h2⟩ := H.at_
  refine ⟨⟨rb, v, bx, bm, h1.bel k, fun i hi => ⟨(h2 i hi).1, ?_⟩⟩, H.bel.trans k, fun i hi => ?_⟩
  · rintro (h9 | h9)
    · exact (h2 i hi).2 h9
    · have := h1.lt hi; have := (hM i h9).1; omega
  · rcases hi with hi | hi
    · exact Nat.lt_of_lt_of_le (H.keep i hi) k.size
    · exact (hM i hi).2
theorem LiveH.forget {w0 : World} {N N' : Nat → Prop} {w : World} {h bi : Nat} {L : List Rn} {ids : List Int} {S : List Sp} {last : Nat} (H : LiveH w0 N w h bi L ids S last) (hN : ∀ k, N' k → N k) : LiveH w0 N' w h bi L ids S last := by
  obtain ⟨rb, v, bx, bm, h1, h2⟩ := H.at_
  exact ⟨⟨rb, v, bx, bm, h1, fun k hk => ⟨(h2 k hk).1, fun h9 => (h2 k hk).2 (hN k h9)⟩⟩, H.bel, fun k hk => H.keep k (hN k hk)⟩
theorem LiveH.fr {w0 : World} {N Q : Nat → Prop} {w w' : World} {h bi : Nat} {L : List Rn} {ids : List Int} {S : List Sp} {last : Nat} (H : LiveH w0 N w h bi L ids S last) (k : Fr Q w w') (hQ : ∀ i, Q i → N i ∧ w0.heap.size ≤ i) : LiveH w0 N w' h bi L ids S last := by
  obtain ⟨rb, v, bx, bm, h1, h2⟩ := H.at_
  exact ⟨⟨rb, v, bx, bm, h1.fr k (fun i hi hq => (h2 i hi).2 (hQ i hq).1), h2⟩, Fr.bel ((Fr.of_bel (S := Q) H.bel).trans' k) (fun i hi => (hQ i hi).2), fun i hi => Nat.lt_of_lt_of_le (H.keep i hi) k.size⟩
/-- Numbers in a row of one's own that is no elder than B: not the heap's. -/
theorem LiveH.own_int {w0 : World} {N : Nat → Prop} {w : World} {h bi B n : Nat} {L : List Rn} {ids : List Int} {S : List Sp} {last : Nat} {u : Value} {vs : List Value} (H : LiveH w0 N w h bi L ids S last) (ho : w.ownsRow B 3 1 u n vs) (hb : bi < B) : LiveH w0 (fun i => N i ∨ u.ownBlock = some i) w h bi L ids S last := by
  obtain ⟨rb, v, bx, bm, h1, h2⟩ := H.at_
  refine ⟨⟨rb, v, bx, bm, h1, fun k hk => ⟨(h2 k hk).1, ?_⟩⟩, H.bel, fun k hk => ?_⟩
  · rintro (h9 | h9)
    · exact (h2 k hk).2 h9
    · obtain ⟨cur, hc⟩ := own_type ho h9
      have hB := (ho.lt k h9).1
      rcases hk with e | e | e | e | e | e
      · subst e; rw [h1.hd] at hc; simp at hc
      · subst e; rw [h1.free.hd] at hc; simp at hc
      · obtain ⟨c2, hc2⟩ := own_type h1.free.own e; rw [hc2] at hc; simp at hc
      · subst e; rw [h1.index.hd] at hc; simp at hc
      · subst e; omega
      · subst e
        obtain ⟨es, ck, hm⟩ := h1.spans.map?
        rw [hm] at hc; simp at hc
  · rcases hk with hk | hk
    · exact H.keep k hk
    · exact (ho.lt k hk).2
theorem LiveH.bi_lt {w0 : World} {N : Nat → Prop} {w : World} {h bi : Nat} {L : List Rn} {ids : List Int} {S : List Sp} {last : Nat} (H : LiveH w0 N w h bi L ids S last) : bi < w.heap.size := by
  obtain ⟨rb, v, bx, bm, h1, h2⟩ := H.at_
  exact heap_lt h1.index.nums
/-- What an act on it leaves. -/
def LivePostH (w0 : World) (N : Nat → Prop) (w : World) (h bi : Nat) (L : List Rn) (ids : List Int) (S : List Sp) (last : Nat) (w' : World) : Prop :=
  LiveH w0 N w' h bi L ids S last ∧ Fr (fun k => ¬ N k) w w'
theorem liveH_post {w0 : World} {N : Nat → Prop} {w w' : World} {h rb : Nat} {v : Value} {bx bi bm : Nat} {L : List Rn} {ids : List Int} {S : List Sp} {last : Nat} (hB : Bel w0 w) (hk : ∀ k, N k → k < w.heap.size) (h2 : ∀ k, footH h rb v bx bi bm k → w0.heap.size ≤ k ∧ ¬ N k)
    (hP : HPost w h rb v bx bi bm L ids S last w') : LivePostH w0 N w h bi L ids S last w' := by
  obtain ⟨v', h3, h4, h5⟩ := hP
  refine ⟨⟨⟨rb, v', bx, bm, h3, fun k hk9 => ?_⟩, Fr.bel ((Fr.of_bel (S := footH h rb v bx bi bm) hB).trans' h5) (fun k hk9 => (h2 k hk9).1), fun k hk9 => Nat.lt_of_lt_of_le (hk k hk9) h5.size⟩, h5.mono (fun k hk9 => (h2 k hk9).2)⟩
  have old : footH h rb v bx bi bm k → w0.heap.size ≤ k ∧ ¬ N k := h2 k
  rcases hk9 with e | e | e | e | e | e
  · exact old (.inl e)
  · exact old (.inr (.inl e))
  · rcases h4 k e with h9 | h9
    · exact old (.inr (.inr (.inl h9)))
    · exact ⟨Nat.le_trans hB.size h9, fun hN => by have := hk k hN; omega⟩
  · exact old (.inr (.inr (.inr (.inl e))))
  · exact old (.inr (.inr (.inr (.inr (.inl e)))))
  · exact old (.inr (.inr (.inr (.inr (.inr e)))))
theorem liveH_new {w w' : World} {n : Nat} {e : Ending} (h : NewH w n e w') : ∃ h bi, e = .returned (.tuple #[.pointer (some ⟨h, 0, none⟩), .int .i64 0]) ∧ LiveH w (fun _ => False) w' h bi [(0, (n : Int))] (List.replicate n 0) [] 0 := by
  obtain ⟨h, rb, v, bx, bi, bm, rfl, h1, h2, h3⟩ := h
  exact ⟨h, bi, rfl, ⟨rb, v, bx, bm, h1, fun k hk => ⟨h3 k hk, fun h => h⟩⟩, h2, fun _ h => h.elim⟩
/-- What Make does. -/
def MakeR (ids : List Int) (L : List Rn) (S : List Sp) (last : Nat) (n ord : Int) (s : Sp) (en : Int) (L' : List Rn) (ids' : List Int) (S' : List Sp) (last' : Nat) : Prop :=
  ((n < 1 ∨ ord < -1 ∨ 4 ≤ ord) ∧ s = sp0 ∧ en = 1 ∧ L' = L ∧ ids' = ids ∧ S' = S ∧ last' = last) ∨
  (1 ≤ n ∧ -1 ≤ ord ∧ ord < 4 ∧ bestF L n = (0, 0) ∧ s = sp0 ∧ en = 3 ∧ L' = L ∧ ids' = ids ∧ S' = S ∧ last' = last) ∨
  (1 ≤ n ∧ -1 ≤ ord ∧ ord < 4 ∧ ∃ t, Made ids L S last n ord t L' ids' ∧ (bestF L n).1 = t ∧ 0 < (bestF L n).2 ∧ s = ((last : Int) + 1, (t, n), ord) ∧ en = 0 ∧ S' = S ++ [s] ∧ last' = last + 1)
theorem liveH_Make {w0 : World} {N : Nat → Prop} {w : World} {h bi : Nat} {L : List Rn} {ids : List Int} {S : List Sp} {last : Nat} (H : LiveH w0 N w h bi L ids S last) (n ord : Int) (hn : I64 n) (ho : I64 ord) (hl : last < 65536) :
    ∃ s en L' ids' S' last', MakeR ids L S last n ord s en L' ids' S' last' ∧ ∀ V, Bel w V → Calls Try.prog 9 #[.pointer (some ⟨h, 0, none⟩), .int .i64 n, .int .i64 ord] V fun e V' => e = .returned (.tuple #[spV s, .int .i64 en]) ∧ LivePostH w0 N w h bi L' ids' S' last' V' := by
  obtain ⟨rb, v, bx, bm, h1, h2⟩ := H.at_
  have fin : ∀ {L' : List Rn} {ids' : List Int} {S' : List Sp} {last' : Nat} (V V' : World), Bel w V → HPost V h rb v bx bi bm L' ids' S' last' V' → LivePostH w0 N w h bi L' ids' S' last' V' := fun V V' hV hP =>
    liveH_post H.bel H.keep h2 (hP.from hV)
  by_cases c : n < 1 ∨ ord < -1 ∨ 4 ≤ ord
  · refine ⟨sp0, 1, L, ids, S, last, .inl ⟨c, rfl, rfl, rfl, rfl, rfl, rfl⟩, fun V hV => ?_⟩
    exact (heap_Make_bad _ n ord V hn ho c).mono fun e V' ⟨he, hB⟩ => ⟨he, fin V V' hV (HPost.same (h1.bel hV) hB)⟩
  · have c1 : 1 ≤ n := by omega
    have c2 : -1 ≤ ord ∧ ord < 4 := by omega
    rcases h1.inv.make n ord with ⟨ht, hb⟩ | ⟨t, L', ids', hM, _, hb1, hb2⟩
    · exact ⟨sp0, 3, L, ids, S, last, .inr (.inl ⟨c1, c2.1, c2.2, hb, rfl, rfl, rfl, rfl, rfl, rfl⟩), fun V hV => (heap_Make_none V (h1.bel hV) n ord ht hn c1 c2).mono fun e V' ⟨he, hP⟩ => ⟨he, fin V V' hV hP⟩⟩
    · exact ⟨_, 0, L', ids', _, last + 1, .inr (.inr ⟨c1, c2.1, c2.2, t, hM, hb1, hb2, rfl, rfl, rfl, rfl⟩), fun V hV => (heap_Make V (h1.bel hV) n ord t L' ids' hM c1 c2 hl).mono fun e V' ⟨he, hP⟩ => ⟨he, fin V V' hV hP⟩⟩
theorem liveH_Runs {w0 : World} {N : Nat → Prop} {w : World} {h bi : Nat} {L : List Rn} {ids : List Int} {S : List Sp} {last : Nat} (H : LiveH w0 N w h bi L ids S last) :
    ∀ V, Bel w V → Calls Try.prog 10 #[.pointer (some ⟨h, 0, none⟩)] V (NewRuns V L) := by
  obtain ⟨rb, v, bx, bm, h1, h2⟩ := H.at_
  exact fun V hV => heap_Runs V (h1.bel hV)
theorem liveH_Spans {w0 : World} {N : Nat → Prop} {w : World} {h bi : Nat} {L : List Rn} {ids : List Int} {S : List Sp} {last : Nat} (H : LiveH w0 N w h bi L ids S last) :
    ∀ V, Bel w V → Calls Try.prog 11 #[.pointer (some ⟨h, 0, none⟩)] V (RisenSpans V S) := by
  obtain ⟨rb, v, bx, bm, h1, h2⟩ := H.at_
  exact fun V hV => heap_Spans V (h1.bel hV)
theorem liveH_Size {w0 : World} {N : Nat → Prop} {w : World} {h bi : Nat} {L : List Rn} {ids : List Int} {S : List Sp} {last : Nat} (H : LiveH w0 N w h bi L ids S last) :
    ∀ V, Bel w V → Calls Try.prog 12 #[.pointer (some ⟨h, 0, none⟩)] V fun e V' => e = .returned (.int .i64 ids.length) ∧ V = V' := by
  obtain ⟨rb, v, bx, bm, h1, h2⟩ := H.at_
  exact fun V hV => heap_Size V (h1.bel hV)
/-- What Free does. -/
def FreeR (ids : List Int) (L : List Rn) (S : List Sp) (last : Nat) (l : List Int) (en : Int) (L' : List Rn) (ids' : List Int) (S' : List Sp) : Prop :=
  (FreeOk S l ∧ en = 0 ∧ Freed ids L S last l L' ids' ∧ S' = S.filter fun s => !decide (s.1 ∈ l)) ∨ (¬ FreeOk S l ∧ en = 6 ∧ L' = L ∧ ids' = ids ∧ S' = S)
theorem liveH_Free {w0 : World} {N : Nat → Prop} {w : World} {h bi : Nat} {L : List Rn} {ids : List Int} {S : List Sp} {last : Nat} (H : LiveH w0 N w h bi L ids S last) (l : List Int) (hl : l.length ≤ 1024) (hok : ∀ k ∈ l, (Lit.int .i64 k).wf = true) :
    ∀ V a c, Bel w V → RdV V a (ints l) → Calls Try.prog 8 #[.pointer (some ⟨h, 0, none⟩), .slice a l.length c] V fun e V' => ∃ en L' ids' S', FreeR ids L S last l en L' ids' S' ∧ e = .returned (.int .i64 en) ∧ LivePostH w0 N w h bi L' ids' S' last V' := by
  obtain ⟨rb, v, bx, bm, h1, h2⟩ := H.at_
  intro V a c hV hr
  refine (heap_Free V (h1.bel hV) a l l.length c rfl hl hr hok).mono ?_
  rintro e V' (⟨hf, rfl, L', ids', hfr, hP⟩ | ⟨hf, rfl, hP⟩)
  · exact ⟨0, L', ids', _, .inl ⟨hf, rfl, hfr, rfl⟩, rfl, liveH_post H.bel H.keep h2 (hP.from hV)⟩
  · exact ⟨6, L, ids, S, .inr ⟨hf, rfl, rfl, rfl, rfl⟩, rfl, liveH_post H.bel H.keep h2 (hP.from hV)⟩

/-! ### awake -/
theorem awake7_best : bestF [(0, 8)] 3 = (0, 8) := by decide
set_option maxHeartbeats 1000000 in
set_option maxRecDepth 20000 in
theorem awake07 (w : World) : Calls Try.prog 7 #[] w fun e w' => e = .returned (.bool true) ∧ Bel w w' := by
  go_enter Try.func7, Try.ntmps7
  go_wp2_with fail
  refine (heap_New 8 w (by omega) (by omega)).mono ?_
  rintro e w1 hN
  obtain ⟨h, bi, rfl, hL⟩ := liveH_new hN
  obtain ⟨s, en, L', ids', S', last', hR, hC⟩ := liveH_Make hL 3 0 ⟨by omega, by omega⟩ ⟨by omega, by omega⟩ (by omega)
  have hs : s = (1, (0, 3), 0) ∧ en = 0 ∧ ids'.length = 8 := by
    rcases hR with ⟨h9, _⟩ | ⟨_, _, _, h9, _⟩ | ⟨_, _, _, t, hM, ht, _, rfl, rfl, rfl, rfl⟩
    · omega
    · have h8 : bestF [(0, ((8 : Nat) : Int))] 3 = (0, 8) := awake7_best
      rw [h8] at h9; cases h9
    · have h8 : bestF [(0, ((8 : Nat) : Int))] 3 = (0, 8) := awake7_best
      rw [h8] at ht
      subst ht
      exact ⟨rfl, rfl, by rw [hM.len]; rfl⟩
  obtain ⟨rfl, rfl, h8⟩ := hs
  have HC := Lib.hid (hC w1 (Bel.refl _))
  have HB1 := Lib.hid hL.bel
  have H8 := Lib.hid h8
  clear hC hN hL hR h8
  go_wp2_with fail
  refine HC.out.mono ?_
  rintro e w2 ⟨rfl, hL2, hF2⟩
  have HL2 := Lib.hid hL2
  have hsz := liveH_Size (hL2.then_bel ((Bel.refl w2).alloc (.cells #[.int .i64 1, .int .i64 0, .int .i64 3, .int .i64 0] 35))) _ (Bel.refl _)
  rw [H8.out] at hsz
  have HS := Lib.hid hsz
  obtain ⟨r0, r1, r2, r3⟩ := four_cells (blk_alloc w2 (.cells #[.int .i64 1, .int .i64 0, .int .i64 3, .int .i64 0] 35))
  clear hL2 hF2 hsz
  simp only [spV]
  go_wp2_with fail
  refine HS.out.mono ?_
  rintro e w3 ⟨rfl, rfl⟩
  go_wp2
  go_ret
  exact ⟨rfl, HL2.out.bel.alloc _⟩
end Go.Proofs.Ythkbhikiljlgoaa
