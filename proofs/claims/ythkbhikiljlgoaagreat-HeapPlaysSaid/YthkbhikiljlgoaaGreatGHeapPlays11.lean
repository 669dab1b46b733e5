/- The statement HeapPlays: whatever comes in, the law returns true, and each argument reads as it did. No condition. Layer 7: any row of acts. -/
import Derived.Test.YthkbhikiljlgoaaGreatGHeapPlays10
import Derived.Test.YthkbhikiljlgoaaGreatGHeapPlays8
import Derived.Test.YthkbhikiljlgoaaGreatGHeapPlays0
import Derived.Deep.RegionHeld3
set_option linter.unusedVariables false
set_option linter.unusedSimpArgs false
namespace Go.Proofs.YthkbhikiljlgoaaGreat
open Go.ChangeShapes Go.WideShapes Go.ChangeAt Go.RowKit Go.Deep

theorem BitsO.fr1 {Q : Nat → Prop} {w w' : World} {g fc : Nat} {f : Int → Bool} (h : BitsO w (.slice (some ⟨g, 0, none⟩) 1024 fc) f) (k : Fr Q w w') (hQ : ¬ Q g) : BitsO w' (.slice (some ⟨g, 0, none⟩) 1024 fc) f := by
  obtain ⟨⟨b, o, c', e', h1⟩, g', c, cur, e, h2⟩ := h
  simp only [Value.slice.injEq, Option.some.injEq, Addr.mk.injEq, and_true, true_and] at e e'
  obtain ⟨rfl, rfl⟩ := e
  obtain ⟨⟨rfl, rfl⟩, rfl⟩ := e'
  exact ⟨⟨_, _, _, rfl, fun p hp => k.cell (h1 p hp) hQ⟩, _, _, _, rfl, k.heap h2 hQ⟩
theorem RefH.fr {Q : Nat → Prop} {w w' : World} {g fc : Nat} {f : Int → Bool} {a : Option Addr} {c : Nat} {S : List Sp} (h : RefH w g fc f a c S) (k : Fr Q w w') (h1 : ¬ Q g) (h2 : ∀ p, a = some p → S ≠ [] → ¬ Q p.block) : RefH w' g fc f a c S := by
  refine ⟨h.bits.fr1 k h1, ?_, h.nil, h.cap⟩
  by_cases he : S = []
  · exact .inl he
  · exact h.sp.fr7 k (fun p hp => h2 p hp he)
theorem RefH.old {w : World} {g fc : Nat} {f : Int → Bool} {a : Option Addr} {c : Nat} {S : List Sp} (h : RefH w g fc f a c S) : g < w.heap.size := by
  obtain ⟨_, g', c', cur, e, h2⟩ := h.bits
  simp only [Value.slice.injEq, Option.some.injEq, Addr.mk.injEq, and_true, true_and] at e
  obtain ⟨rfl, _⟩ := e
  exact heap_lt h2
theorem twin_start {P : Nat} (h1 : 4 ≤ P) (h2 : P ≤ 1024) : Twin [(0, (P : Int))] (putB (fun _ => false) [(0, (P : Int))] true).1 := by
  obtain ⟨L, f, k, e1, e2, e3⟩ := twin_add (l := [(0, (P : Int))]) Twin.nil
  rw [addR_whole h1 h2] at e1
  rw [e2]
  have : [(0, (P : Int))] = L := (Prod.mk.inj e1).1
  rw [this]; exact e3
theorem RefH.lt {w : World} {g fc : Nat} {f : Int → Bool} {a : Option Addr} {c : Nat} {S : List Sp} (h : RefH w g fc f a c S) (hS : S ≠ []) : ∀ p, a = some p → p.block < w.heap.size := fun p hp => by
  rcases h.sp with h9 | ⟨b, o, e, h9⟩
  · exact absurd h9 hS
  · rw [hp] at e; cases e
    exact World.block_lt_of_cell? _ _ (h9 0 (List.length_pos_iff.2 hS) 0 _ rfl)
/-- What the twin's Drop does. -/
def DropR7 (S : List Sp) (f : Int → Bool) (l : List Int) (en : Int) (S' : List Sp) (f' : Int → Bool) : Prop :=
  (FreeOk S l ∧ en = 0 ∧ S' = leftD S l ∧ f' = dropB f S l) ∨ (¬ FreeOk S l ∧ en = 6 ∧ S' = S ∧ f' = f)
theorem DropR7.ne {S S' : List Sp} {f f' : Int → Bool} {l : List Int} {en : Int} (h : DropR7 S f l en S' f') (hS : S' ≠ []) : S ≠ [] := by
  rcases h with ⟨_, _, h1, _⟩ | ⟨_, _, h1, _⟩
  · intro e; rw [e] at h1; exact hS (by rw [h1]; rfl)
  · rw [← h1]; exact hS
/-- What the twin's Make does. -/
def MakeR7 (L : List Rn) (S : List Sp) (f : Int → Bool) (last : Nat) (n ord : Int) (s : Sp) (en : Int) (S' : List Sp) (last' : Nat) (f' : Int → Bool) : Prop :=
  ((n < 1 ∨ ord < -1 ∨ 4 ≤ ord) ∧ s = sp0 ∧ en = 1 ∧ S' = S ∧ last' = last ∧ f' = f) ∨
  (¬ (n < 1 ∨ ord < -1 ∨ 4 ≤ ord) ∧ ¬ 0 < (bestF L n).2 ∧ s = sp0 ∧ en = 3 ∧ S' = S ∧ last' = last ∧ f' = f) ∨
  (¬ (n < 1 ∨ ord < -1 ∨ 4 ≤ ord) ∧ 0 < (bestF L n).2 ∧ s = ((last : Int) + 1, ((bestF L n).1, n), ord) ∧ en = 0 ∧ S' = S ++ [s] ∧ last' = last + 1 ∧ f' = (putB f [((bestF L n).1, n)] false).1)
/-- The twin's answer lies in a box. -/
def TurnBox (P : Nat) (W wx : World) (s14 : Value) (last' : Nat) (a : Option Addr) (S' : List Sp) (f' : Int → Bool) : Prop :=
  ∃ nb g' fc' a' c', s14 = .pointer (some ⟨nb, 0, none⟩) ∧ wx.heap[nb]? = some (.cells #[.int .i64 (P : Int), .slice (some ⟨g', 0, none⟩) 1024 fc', .slice a' S'.length c', .int .i64 (last' : Int)] 31 (0, 0)) ∧
    RefH wx g' fc' f' a' c' S' ∧ Bel W wx ∧ W.heap.size ≤ nb ∧ (a' = a ∨ ∃ p, a' = some p ∧ W.heap.size ≤ p.block)
/-- The twin's answer lies in two boxes. -/
def TurnBox2 (P : Nat) (W wx : World) (v16 v17 v18 : Value) (s1 s2 s3 s4 en : Int) (last' : Nat) (a : Option Addr) (S S' : List Sp) (f' : Int → Bool) : Prop :=
  ∃ nb nc g' fc' a' c', v16 = .pointer (some ⟨nb, 0, none⟩) ∧ v17 = .pointer (some ⟨nc, 0, none⟩) ∧ v18 = .int .i64 en ∧
    (wx.cell? ⟨nb, 0, none⟩ = some (.int .i64 (P : Int)) ∧ wx.cell? ⟨nb, 1, none⟩ = some (.slice (some ⟨g', 0, none⟩) 1024 fc') ∧ wx.cell? ⟨nb, 2, none⟩ = some (.slice a' S'.length c') ∧ wx.cell? ⟨nb, 3, none⟩ = some (.int .i64 (last' : Int))) ∧
    (wx.cell? ⟨nc, 0, none⟩ = some (.int .i64 s1) ∧ wx.cell? ⟨nc, 1, none⟩ = some (.int .i64 s2) ∧ wx.cell? ⟨nc, 2, none⟩ = some (.int .i64 s3) ∧ wx.cell? ⟨nc, 3, none⟩ = some (.int .i64 s4)) ∧
    RefH wx g' fc' f' a' c' S' ∧ Bel W wx ∧ W.heap.size ≤ nb ∧ W.heap.size ≤ nc ∧ ((a' = a ∧ S' = S) ∨ ∃ p, a' = some p ∧ W.heap.size ≤ p.block)
theorem turnBox2_of {P : Nat} {W V w7 wx : World} {nb nc g' fc' c' last' : Nat} {s1 s2 s3 s4 en : Int} {a a' : Option Addr} {c : Nat} {g fc : Nat} {f : Int → Bool} {S S' : List Sp} {f' : Int → Bool} {TH TS : TypeId} {Q : Nat → Prop} {v16 v17 v18 : Value} (hS : RefH W g fc f a c S)
    (e16 : v16 = .pointer (some ⟨nb, 0, none⟩)) (e17 : v17 = .pointer (some ⟨nc, 0, none⟩)) (e18 : v18 = .int .i64 en)
    (h16 : wx.heap[nb]? = some (.cells #[.int .i64 (P : Int), .slice (some ⟨g', 0, none⟩) 1024 fc', .slice a' S'.length c', .int .i64 (last' : Int)] TH (0, 0))) (h17 : wx.heap[nc]? = some (.cells #[.int .i64 s1, .int .i64 s2, .int .i64 s3, .int .i64 s4] TS (0, 0)))
    (hF : Fr Q w7 wx) (hQ : ∀ k, Q k → W.heap.size ≤ k ∧ k < V.heap.size ∧ ∃ cs T, w7.heap[k]? = some (.cells cs T (0, 0)) ∧ T ≠ 4) (hV : Bel W V) (hR : RefH w7 g' fc' f' a' c' S') (hB : Bel W w7) (hn : W.heap.size ≤ nb) (hn2 : W.heap.size ≤ nc)
    (hfr : (a' = a ∧ S' = S) ∨ ∃ p, a' = some p ∧ V.heap.size ≤ p.block) : TurnBox2 P W wx v16 v17 v18 s1 s2 s3 s4 en last' a S S' f' := by
  obtain ⟨cur, hg⟩ : ∃ cur, w7.heap[g']? = some (.cells cur 4 (0, 0)) := by
    obtain ⟨_, g9, c9, cur, e, h2⟩ := hR.bits
    simp only [Value.slice.injEq, Option.some.injEq, Addr.mk.injEq, and_true, true_and] at e
    obtain ⟨rfl, _⟩ := e
    exact ⟨cur, h2⟩
  obtain ⟨p0, p1, p2, p3⟩ := four_cells h16
  refine ⟨nb, nc, g', fc', a', c', e16, e17, e18, ⟨p0, p1, p2, p3⟩, four_cells h17, hR.fr hF (fun h9 => ?_) (fun p hp hne h9 => ?_), Fr.bel ((Fr.of_bel hB).trans' hF) (fun k hk => (hQ k hk).1), hn, hn2, ?_⟩
  · obtain ⟨_, _, cs, T, h1, h2⟩ := hQ _ h9
    rw [hg] at h1; simp at h1; exact h2 h1.2.symm
  · rcases hfr with ⟨h1, h2⟩ | ⟨q, h1, h2⟩
    · have := hS.lt (by rw [← h2]; exact hne) p (by rw [← h1]; exact hp)
      have := (hQ _ h9).1
      omega
    · rw [hp] at h1; cases h1
      have := (hQ _ h9).2.1
      omega
  · rcases hfr with h1 | ⟨q, h1, h2⟩
    · exact .inl h1
    · exact .inr ⟨q, h1, Nat.le_trans hV.size h2⟩
theorem turnBox_set {P : Nat} {W w7 : World} {nb g' fc' c' last' : Nat} {z0 z1 z2 z3 : Value} {a a' : Option Addr} {S' : List Sp} {f' : Int → Bool} (hb : w7.heap[nb]? = some (.cells #[z0, z1, z2, z3] 31 (0, 0))) (hR : RefH w7 g' fc' f' a' c' S') (hB : Bel W w7) (hn : W.heap.size ≤ nb)
    (ha : ∀ p, a' = some p → S' ≠ [] → p.block ≠ nb) (hfr : a' = a ∨ ∃ p, a' = some p ∧ W.heap.size ≤ p.block) :
    TurnBox P W ((((w7.setCell ⟨nb, 0, none⟩ (.int .i64 (P : Int))).setCell ⟨nb, 1, none⟩ (.slice (some ⟨g', 0, none⟩) 1024 fc')).setCell ⟨nb, 2, none⟩ (.slice a' S'.length c')).setCell ⟨nb, 3, none⟩ (.int .i64 (last' : Int))) (.pointer (some ⟨nb, 0, none⟩)) last' a S' f' := by
  have hF := fr_four w7 nb (.int .i64 (P : Int)) (.slice (some ⟨g', 0, none⟩) 1024 fc') (.slice a' S'.length c') (.int .i64 (last' : Int))
  obtain ⟨cur, hg⟩ : ∃ cur, w7.heap[g']? = some (.cells cur 4 (0, 0)) := by
    obtain ⟨_, g9, c9, cur, e, h2⟩ := hR.bits
    simp only [Value.slice.injEq, Option.some.injEq, Addr.mk.injEq, and_true, true_and] at e
    obtain ⟨rfl, _⟩ := e
    exact ⟨cur, h2⟩
  exact ⟨nb, g', fc', a', c', rfl, four_set hb _ _ _ _, hR.fr hF (fun e => by rw [e, hb] at hg; simp at hg) ha, Fr.bel ((Fr.of_bel hB).trans' hF) (fun k hk => by subst hk; exact hn), hn, hfr⟩
theorem LiveH.add_bool {w0 : World} {N : Nat → Prop} {w : World} {h bi g : Nat} {L : List Rn} {ids : List Int} {S : List Sp} {last : Nat} {cur : Array Value} (H : LiveH w0 N w h bi L ids S last) (hg : w.heap[g]? = some (.cells cur 4 (0, 0))) : LiveH w0 (fun i => N i ∨ i = g) w h bi L ids S last := by
  obtain ⟨rb, v, bx, bm, h1, h2⟩ := H.at_
  refine ⟨⟨rb, v, bx, bm, h1, fun k hk => ⟨(h2 k hk).1, ?_⟩⟩, H.bel, fun k hk => ?_⟩
  · rintro (h9 | h9)
    · exact (h2 k hk).2 h9
    · subst h9
      rcases hk with e | e | e | e | e | e
      · subst e; rw [h1.hd] at hg; simp at hg
      · subst e; rw [h1.free.hd] at hg; simp at hg
      · obtain ⟨c2, hc2⟩ := own_type h1.free.own e; rw [hc2] at hg; simp at hg
      · subst e; rw [h1.index.hd] at hg; simp at hg
      · subst e; rw [h1.index.nums] at hg; simp at hg
      · subst e
        obtain ⟨es, ck, hm⟩ := h1.spans.map?
        rw [hm] at hg; simp at hg
  · rcases hk with hk | hk
    · exact H.keep k hk
    · subst hk; exact heap_lt hg
theorem RefH.blk {w : World} {g fc : Nat} {f : Int → Bool} {a : Option Addr} {c : Nat} {S : List Sp} (h : RefH w g fc f a c S) : ∃ cur, w.heap[g]? = some (.cells cur 4 (0, 0)) := by
  obtain ⟨_, g', c', cur, e, h2⟩ := h.bits
  simp only [Value.slice.injEq, Option.some.injEq, Addr.mk.injEq, and_true, true_and] at e
  obtain ⟨rfl, _⟩ := e
  exact ⟨cur, h2⟩
/-- Heap and twin agree. -/
structure PlayAt (w : World) (P B h bi : Nat) (N : Nat → Prop) (L : List Rn) (ids : List Int) (S : List Sp) (last g fc : Nat) (a : Option Addr) (c : Nat) (f : Int → Bool) (wr : World) : Prop where
  live : LiveH w N wr h bi L ids S last
  len : ids.length = P
  twin : Twin L f
  ref : RefH wr g fc f a c S
  box : wr.heap[B]? = some (.cells #[.int .i64 P, .slice (some ⟨g, 0, none⟩) 1024 fc, .slice a S.length c, .int .i64 (last : Int)] 31 (0, 0))
  nB : N B
  ng : N g
  na : ∀ p, a = some p → S ≠ [] → N p.block
  wB : w.heap.size ≤ B
  aB : ∀ p, a = some p → S ≠ [] → p.block ≠ B
def PlayWay (w : World) (P B h : Nat) (i : Nat) (wr : World) : Prop :=
  ∃ bi N L ids S last g fc a c f, last ≤ i ∧ PlayAt w P B h bi N L ids S last g fc a c f wr
/-- The twin has turned, and its box holds it; then the heap turns. -/
theorem PlayAt.turned {w : World} {P B h bi : Nat} {N : Nat → Prop} {L : List Rn} {ids : List Int} {S S' : List Sp} {last last' g fc g' fc' : Nat} {a a' : Option Addr} {c c' : Nat} {f f' : Int → Bool} {wr w1 w2 : World}
    (H : PlayAt w P B h bi N L ids S last g fc a c f wr) (hB1 : Bel wr w1) (hR : RefH w1 g' fc' f' a' c' S') (ha : (a' = a ∧ (S' ≠ [] → S ≠ [])) ∨ ∃ p, a' = some p ∧ wr.heap.size ≤ p.block)
    (h2 : Fr (fun k => k = B) w1 w2) (hb : w2.heap[B]? = some (.cells #[.int .i64 P, .slice (some ⟨g', 0, none⟩) 1024 fc', .slice a' S'.length c', .int .i64 (last' : Int)] 31 (0, 0))) :
    ∃ N', LiveH w N' w2 h bi L ids S last ∧ (∀ i, N i ∨ (wr.heap.size ≤ i ∧ i < w1.heap.size) → N' i) ∧ N' g' ∧ (∀ p, a' = some p → S' ≠ [] → N' p.block) ∧ RefH w2 g' fc' f' a' c' S' ∧ (∀ p, a' = some p → S' ≠ [] → p.block ≠ B) := by
  have hlt := heap_lt H.box
  have hne : ∀ p, a' = some p → S' ≠ [] → p.block ≠ B := fun p hp hS => by
    rcases ha with ⟨e, hSa⟩ | ⟨q, e, hq⟩
    · exact H.aB p (by rw [← e]; exact hp) (hSa hS)
    · rw [hp] at e; cases e; omega
  obtain ⟨cur, hg⟩ := hR.blk
  have hgB : g' ≠ B := fun e => by rw [e, hB1.blk H.box] at hg; simp at hg
  have hl1 := (H.live.watch hB1 (fun i => wr.heap.size ≤ i ∧ i < w1.heap.size) (fun i hi => hi)).add_bool hg
  have hl2 := hl1.fr h2 (fun i hi => ⟨.inl (.inl (by rw [hi]; exact H.nB)), by rw [hi]; exact H.wB⟩)
  refine ⟨_, hl2, fun i hi => .inl hi, .inr rfl, fun p hp hS => ?_, hR.fr h2 hgB hne, hne⟩
  rcases ha with ⟨e, hSa⟩ | ⟨q, e, hq⟩
  · exact .inl (.inl (H.na p (by rw [← e]; exact hp) (hSa hS)))
  · rw [hp] at e; cases e
    exact .inl (.inr ⟨hq, hR.lt hS p hp⟩)
theorem PlayAt.freed {w : World} {P B h bi : Nat} {N : Nat → Prop} {L L' : List Rn} {ids ids' : List Int} {S S' S2 : List Sp} {last g fc : Nat} {a : Option Addr} {c : Nat} {f f' : Int → Bool} {wr : World} {l : List Int} {en en2 : Int}
    (H : PlayAt w P B h bi N L ids S last g fc a c f wr) (hD : DropR7 S f l en S' f') (hF : FreeR ids L S last l en2 L' ids' S2) : en2 = en ∧ S2 = S' ∧ Twin L' f' ∧ ids'.length = ids.length := by
  rcases hD with ⟨h1, rfl, rfl, rfl⟩ | ⟨h1, rfl, rfl, rfl⟩
  · rcases hF with ⟨_, h3, h4, h5⟩ | ⟨h2, _⟩
    · exact ⟨h3, h5, freed_twin H.live.inv H.twin h1 h4, h4.len⟩
    · exact absurd h1 h2
  · rcases hF with ⟨h2, _⟩ | ⟨_, h3, h4, h5, h6⟩
    · exact absurd h2 h1
    · exact ⟨h3, h6, by rw [h4]; exact H.twin, by rw [h5]⟩
theorem made_same {ids ids' : List Int} {L L' : List Rn} {S S' S2 : List Sp} {last last' last2 : Nat} {n ord en en7 : Int} {s s7 : Sp} {f f' : Int → Bool} (hT : Twin L f) (h : MakeR ids L S last n ord s en L' ids' S2 last2) (h7 : MakeR7 L S f last n ord s7 en7 S' last' f') :
    s = s7 ∧ en = en7 ∧ S2 = S' ∧ last2 = last' ∧ Twin L' f' ∧ ids'.length = ids.length := by
  rcases h with ⟨c, rfl, rfl, rfl, rfl, rfl, rfl⟩ | ⟨c1, c2, c3, hb, rfl, rfl, rfl, rfl, rfl, rfl⟩ | ⟨c1, c2, c3, t, hM, ht, hp, rfl, rfl, rfl, rfl⟩
  · rcases h7 with ⟨_, rfl, rfl, rfl, rfl, rfl⟩ | ⟨d, _⟩ | ⟨d, _⟩
    · exact ⟨rfl, rfl, rfl, rfl, hT, rfl⟩
    · exact absurd c d
    · exact absurd c d
  · rcases h7 with ⟨d, _⟩ | ⟨_, _, rfl, rfl, rfl, rfl, rfl⟩ | ⟨_, d, _⟩
    · omega
    · exact ⟨rfl, rfl, rfl, rfl, hT, rfl⟩
    · rw [hb] at d; exact absurd d (by decide)
  · rcases h7 with ⟨d, _⟩ | ⟨_, d, _⟩ | ⟨_, _, rfl, rfl, rfl, rfl, rfl⟩
    · omega
    · exact absurd hp d
    · subst ht
      exact ⟨rfl, rfl, rfl, rfl, made_twin hT hM rfl hp, hM.len⟩
theorem MakeR7.last {L : List Rn} {S : List Sp} {f : Int → Bool} {last : Nat} {n ord : Int} {s : Sp} {en : Int} {S' : List Sp} {last' : Nat} {f' : Int → Bool} (h : MakeR7 L S f last n ord s en S' last' f') : last' ≤ last + 1 := by
  rcases h with ⟨_, _, _, _, h, _⟩ | ⟨_, _, _, _, _, h, _⟩ | ⟨_, _, _, _, _, h, _⟩ <;> omega
/-- Behind Make: the answer lies in a box. -/
def MadePost (w W2 wx : World) (N' : Nat → Prop) (P h bi : Nat) (v19 v20 : Value) (s1 s2 s3 s4 en : Int) (S' : List Sp) (last' : Nat) (f' : Int → Bool) : Prop :=
  ∃ xb N'' L' ids', v19 = .pointer (some ⟨xb, 0, none⟩) ∧ v20 = .int .i64 en ∧ wx.heap[xb]? = some (.cells #[.int .i64 s1, .int .i64 s2, .int .i64 s3, .int .i64 s4] 43 (0, 0)) ∧ (∀ i, N' i → N'' i) ∧ LiveH w N'' wx h bi L' ids' S' last' ∧ Twin L' f' ∧ ids'.length = P ∧ Fr (fun k => ¬ N' k) W2 wx
theorem madePost_mk {w W2 V w9 wx : World} {N' Q : Nat → Prop} {P h bi xb : Nat} {v19 v20 : Value} {s1 s2 s3 s4 en : Int} {L' : List Rn} {ids' : List Int} {S' : List Sp} {last' : Nat} {f' : Int → Bool} (hV : Bel W2 V) (hw : w.heap.size ≤ W2.heap.size) (hLP : LivePostH w (fun i => N' i ∨ (W2.heap.size ≤ i ∧ i < V.heap.size)) V h bi L' ids' S' last' w9) (hT : Twin L' f') (hl : ids'.length = P)
    (e19 : v19 = .pointer (some ⟨xb, 0, none⟩)) (e20 : v20 = .int .i64 en) (hx : wx.heap[xb]? = some (.cells #[.int .i64 s1, .int .i64 s2, .int .i64 s3, .int .i64 s4] 43 (0, 0))) (hF : Fr Q w9 wx) (hQ : ∀ k, Q k → W2.heap.size ≤ k ∧ k < V.heap.size) : MadePost w W2 wx N' P h bi v19 v20 s1 s2 s3 s4 en S' last' f' :=
  ⟨xb, _, L', ids', e19, e20, hx, fun i hi => .inl hi, hLP.1.fr hF (fun i hi => ⟨.inr (hQ i hi), Nat.le_trans hw (hQ i hi).1⟩), hT, hl,
    ((Fr.of_bel (S := fun k => ¬ N' k) hV).trans' (hLP.2.mono (fun k hk h9 => hk (.inl h9)))).trans hF (fun k hk => .inr (hQ k hk).1)⟩
theorem liveH_Span {w0 : World} {N : Nat → Prop} {w : World} {h bi : Nat} {L : List Rn} {ids : List Int} {S : List Sp} {last : Nat} (H : LiveH w0 N w h bi L ids S last) (k : Int) (hk : (Lit.int .i64 k).wf = true) :
    ∀ V, Bel w V → Calls Tryz.prog 13 #[.pointer (some ⟨h, 0, none⟩), .int .i64 k] V fun e V' => e = .returned (.tuple #[spV ((getS S k).getD sp0), .bool (getS S k).isSome]) ∧ Bel V V' := by
  obtain ⟨rb, v, bx, bm, h1, h2⟩ := H.at_
  exact fun V hV => heap_Span V (h1.bel hV) k hk
theorem liveH_At {w0 : World} {N : Nat → Prop} {w : World} {h bi : Nat} {L : List Rn} {ids : List Int} {S : List Sp} {last : Nat} (H : LiveH w0 N w h bi L ids S last) (a : Int) (ha : I64 a) :
    ∀ V, Bel w V → Calls Tryz.prog 15 #[.pointer (some ⟨h, 0, none⟩), .int .i64 a] V fun e V' => e = .returned (.tuple #[spV ((atS ids S a).getD sp0), .bool (atS ids S a).isSome]) ∧ Bel V V' := by
  obtain ⟨rb, v, bx, bm, h1, h2⟩ := H.at_
  exact fun V hV => heap_At V (h1.bel hV) a ha
set_option maxHeartbeats 40000000 in
set_option maxRecDepth 20000 in
theorem heapPlays_walk (pages : Int) (sa : Option Addr) (xs : List Act07) (m0 c0 : Nat) (id at_ : Int) (w : World) (hp : I64 pages) (hA : Acts07 w sa m0 xs) (hid : I64 id) (hat : I64 at_) :
    Calls Tryz.prog 3 #[.int .i64 pages, .slice sa m0 c0, .int .i64 id, .int .i64 at_] w fun e w' => e = .returned (.bool true) ∧ Bel w w' := by
  obtain ⟨rfl, hl, hrd, hok⟩ := hA
  have hl2 : xs.length ≤ 9223372036854775807 := by unfold maxLen at hl; omega
  by_cases c1 : 100 < (xs.length : Int)
  · clear hrd hok
    go_enter Tryz.func3, Tryz.ntmps3
    go_wp2_with fail
    refine (awake07 _).mono ?_; rintro e w' ⟨rfl, hB⟩
    go_wp2
    go_ret
    exact ⟨rfl, hB⟩
  have c2 : xs.length ≤ 100 := by omega
  by_cases hpg : pages < 4 ∨ 1024 < pages
  · have HNB := Lib.hid (heap_New_bad pages w hp hpg)
    have HRB := Lib.hid (ref7_New_bad pages w hp hpg)
    clear hrd hok hpg
    go_enter Tryz.func3, Tryz.ntmps3
    go_wp2_with fail
    refine HNB.out.mono ?_; rintro e w1 ⟨rfl, rfl⟩
    go_wp2_with fail
    refine HRB.out.mono ?_; rintro e w1 ⟨rfl, hB1⟩
    have HB1 := Lib.hid hB1
    clear hB1
    go_wp2_with fail
    refine (heap0_Size _).mono ?_; rintro e w2 ⟨rfl, rfl⟩
    go_wp2_with fail
    refine (awake07 _).mono ?_; rintro e w3 ⟨rfl, hB3⟩
    go_wp2
    go_ret
    exact ⟨rfl, (HB1.out.alloc _).trans hB3⟩
  obtain ⟨P, rfl⟩ := Int.eq_ofNat_of_zero_le (show 0 ≤ pages by omega)
  have hP : 4 ≤ P ∧ P ≤ 1024 := by omega
  have HNEW := Lib.hid (heap_New P w hP.1 hP.2)
  have HRD := Lib.hid hrd
  have HOK := Lib.hid hok
  clear hrd hok hpg
  go_enter Tryz.func3, Tryz.ntmps3
  go_wp2_with fail
  refine HNEW.out.mono ?_; rintro e w1 hN
  obtain ⟨h, bi, rfl, hL⟩ := liveH_new hN
  have HL0 := Lib.hid hL
  clear hN hL HNEW
  go_wp2_with fail
  refine (ref7_New P w1 hP.1 hP.2).mono ?_
  rintro e w2 ⟨g, fc, rfl, hO, hB2⟩
  simp only [hV]
  have HW0 : Hid (PlayWay w P w2.heap.size h 0 (w2.alloc (.cells #[.int .i64 P, .slice (some ⟨g, 0, none⟩) 1024 fc, .slice none 0 0, .int .i64 ((0 : Nat) : Int)] 31))) := Lib.hid (by
    have hb := (Bel.refl w2).alloc (.cells #[.int .i64 P, .slice (some ⟨g, 0, none⟩) 1024 fc, .slice none 0 0, .int .i64 ((0 : Nat) : Int)] 31)
    have hR : RefH (w2.alloc (.cells #[.int .i64 P, .slice (some ⟨g, 0, none⟩) 1024 fc, .slice none 0 0, .int .i64 ((0 : Nat) : Int)] 31)) g fc (putB (fun _ => false) [(0, (P : Int))] true).1 none 0 [] := RefH.bel ⟨hO, .inl rfl, fun _ => ⟨rfl, rfl⟩, Nat.le_refl _⟩ hb
    have hs0 := HL0.out.bel.size
    have hs2 := hB2.size
    obtain ⟨cur, hg⟩ := hR.blk
    have hL1 := (HL0.out.watch (hB2.trans hb) (fun i => w1.heap.size ≤ i ∧ i < (w2.alloc (.cells #[.int .i64 P, .slice (some ⟨g, 0, none⟩) 1024 fc, .slice none 0 0, .int .i64 ((0 : Nat) : Int)] 31)).heap.size) (fun i hi => hi)).add_bool hg
    exact ⟨bi, _, _, _, _, _, g, fc, none, 0, _, Nat.le_refl _, ⟨hL1, by simp, twin_start hP.1 hP.2, hR, blk_alloc _ _, .inl (.inr ⟨hs2, by simp⟩), .inr rfl, (fun p hp => by cases hp), by omega, (fun p hp => by cases hp)⟩⟩)
  go_wp2_with fail
  generalize w2.alloc (.cells #[.int .i64 P, .slice (some ⟨g, 0, none⟩) 1024 fc, .slice none 0 0, .int .i64 ((0 : Nat) : Int)] 31) = W0 at HW0 ⊢
  obtain ⟨B, hB⟩ : ∃ B, w2.heap.size = B := ⟨_, rfl⟩
  rw [hB] at HW0 ⊢
  clear HL0 hO hB2
  go_loopw [13] (fun k wr => ∃ i : Nat, i ≤ xs.length ∧ k = .int .i64 i ∧ Hid (PlayWay w P B h i wr)) (fun k wr => xs.length - (intOf k).toNat)
  case atStart => exact ⟨0, Nat.zero_le _, rfl, HW0⟩
  case round =>
    clear HW0
    obtain ⟨i, hi, rfl, HX⟩ := hrel
    obtain ⟨bi, N, L, ids, S, last, g, fc, a, c, f, hlast, hAt⟩ := HX.out
    have HP := Lib.hid hAt
    clear HX hAt
    obtain ⟨W, rfl⟩ : ∃ W, W = wr := ⟨_, rfl⟩
    obtain ⟨m0, m1, m2, m3⟩ := four_cells HP.out.box
    by_cases hlt : i < xs.length
    · obtain ⟨b, o, rfl, hra⟩ := (HRD.out.bel HP.out.live.bel).at i hlt
      obtain ⟨b', o', e', hra0⟩ := HRD.out.at i hlt
      cases e'
      have hx := HOK.out xs[i] (List.getElem_mem _)
      generalize xs[i] = x at hra hra0 hx
      have q0 : W.cell? ⟨b, o + i * 4, none⟩ = some (.bool x.free) := hra 0 _ rfl
      have q1 : W.cell? ⟨b, o + i * 4 + 1, none⟩ = some (.slice x.ia x.ids.length x.ic) := hra 1 _ rfl
      have q2 : W.cell? ⟨b, o + i * 4 + 2, none⟩ = some (.int .i64 x.pages) := hra 2 _ rfl
      have q3 : W.cell? ⟨b, o + i * 4 + 3, none⟩ = some (.int .i64 x.order) := hra 3 _ rfl
      have hxl : x.ids.length ≤ 9223372036854775807 := by have := hx.len; unfold maxLen at this; omega
      have HX := Lib.hid hx
      have d0 : (i : Int) < xs.length := by omega
      have hSl : S.length ≤ 100 := by have := HP.out.live.inv.count; omega
      have HKC : Hid (∀ V, Bel w V → V.cell? ⟨b, o + i * 4 + 1, none⟩ = some (.slice x.ia x.ids.length x.ic) ∧ V.cell? ⟨b, o + i * 4 + 2, none⟩ = some (.int .i64 x.pages) ∧ V.cell? ⟨b, o + i * 4 + 3, none⟩ = some (.int .i64 x.order)) := Lib.hid (fun V hV => ⟨hV.cell (hra0 1 _ rfl), hV.cell (hra0 2 _ rfl), hV.cell (hra0 3 _ rfl)⟩)
      have HKC0 := Lib.hid (hra0 1 _ rfl)
      clear hra hra0 hx
      by_cases c4 : 10 < (x.ids.length : Int)
      · go_wp2_with fail
        refine (awake07 _).mono ?_; rintro e w' ⟨rfl, hB⟩
        go_wp2
        go_ret
        exact ⟨rfl, HP.out.live.bel.trans hB⟩
      obtain ⟨fr, hfr⟩ : ∃ fr, x.free = fr := ⟨_, rfl⟩
      rw [hfr] at q0
      clear hfr
      cases fr
      · have l0 := heap_lt HP.out.box
        have l1 : b < W.heap.size := World.block_lt_of_cell? _ _ q2
        have l2 : B ≠ W.heap.size := by omega
        have l3 : b ≠ W.heap.size := by omega
        have l4 : W.heap.size ≠ B := by omega
        have l5 : W.heap.size ≠ b := by omega
        have HMC : Hid (∀ V, Bel W V → Calls Tryz.prog 11 #[.agg #[.int .i64 P, .slice (some ⟨g, 0, none⟩) 1024 fc, .slice a S.length c, .int .i64 last], .int .i64 x.pages, .int .i64 x.order] V fun e V' => ∃ s1 s2 s3 s4 en g' fc' a' c' S' last' f', e = .returned (.tuple #[.agg #[.int .i64 P, .slice (some ⟨g', 0, none⟩) 1024 fc', .slice a' S'.length c', .int .i64 ((last' : Nat) : Int)], .agg #[.int .i64 s1, .int .i64 s2, .int .i64 s3, .int .i64 s4], .int .i64 en]) ∧
            MakeR7 L S f last x.pages x.order (s1, (s2, s3), s4) en S' last' f' ∧ RefH V' g' fc' f' a' c' S' ∧ Bel W V' ∧ ((a' = a ∧ S' = S) ∨ ∃ p, a' = some p ∧ V.heap.size ≤ p.block) ∧
            (V'.cell? ⟨B, 0, none⟩ = some (.int .i64 P) ∧ V'.cell? ⟨B, 1, none⟩ = some (.slice (some ⟨g, 0, none⟩) 1024 fc) ∧ V'.cell? ⟨B, 2, none⟩ = some (.slice a S.length c) ∧ V'.cell? ⟨B, 3, none⟩ = some (.int .i64 last) ∧ V'.cell? ⟨b, o + i * 4 + 2, none⟩ = some (.int .i64 x.pages) ∧ V'.cell? ⟨b, o + i * 4 + 3, none⟩ = some (.int .i64 x.order)) ∧ B < V'.heap.size ∧ b < V'.heap.size ∧ Bel V V') := Lib.hid (fun V hV => by
          have keep : ∀ V', Bel W V' → (V'.cell? ⟨B, 0, none⟩ = some (.int .i64 P) ∧ V'.cell? ⟨B, 1, none⟩ = some (.slice (some ⟨g, 0, none⟩) 1024 fc) ∧ V'.cell? ⟨B, 2, none⟩ = some (.slice a S.length c) ∧ V'.cell? ⟨B, 3, none⟩ = some (.int .i64 last) ∧ V'.cell? ⟨b, o + i * 4 + 2, none⟩ = some (.int .i64 x.pages) ∧ V'.cell? ⟨b, o + i * 4 + 3, none⟩ = some (.int .i64 x.order)) ∧ B < V'.heap.size ∧ b < V'.heap.size := fun V' h => ⟨⟨h.cell m0, h.cell m1, h.cell m2, h.cell m3, h.cell q2, h.cell q3⟩, Nat.lt_of_lt_of_le l0 h.size, Nat.lt_of_lt_of_le l1 h.size⟩
          have hLf : listP f = L := (HP.out.twin.eq).symm
          by_cases hbad : x.pages < 1 ∨ x.order < -1 ∨ 4 ≤ x.order
          · refine (ref7_Make_bad P g fc a S.length c last x.pages x.order V HX.out.pages HX.out.order hbad).mono ?_
            rintro e V' ⟨rfl, hB⟩
            exact ⟨0, 0, 0, 0, 1, g, fc, a, c, S, last, f, rfl, .inl ⟨hbad, rfl, rfl, rfl, rfl, rfl⟩, HP.out.ref.bel (hV.trans hB), hV.trans hB, .inl ⟨rfl, rfl⟩, (keep V' (hV.trans hB)).1, (keep V' (hV.trans hB)).2.1, (keep V' (hV.trans hB)).2.2, hB⟩
          · refine (ref7_Make P g fc a S.length c last f S x.pages x.order V rfl (HP.out.ref.bel hV) (by omega) (by omega) HX.out.pages HX.out.order hbad).mono ?_
            rw [hLf]
            rintro e V' (⟨hnp, rfl, hB⟩ | ⟨hpos, g', fc', a', c', rfl, hR, hB, p, rfl, hp⟩)
            · exact ⟨0, 0, 0, 0, 3, g, fc, a, c, S, last, f, rfl, .inr (.inl ⟨hbad, hnp, rfl, rfl, rfl, rfl, rfl⟩), HP.out.ref.bel (hV.trans hB), hV.trans hB, .inl ⟨rfl, rfl⟩, (keep V' (hV.trans hB)).1, (keep V' (hV.trans hB)).2.1, (keep V' (hV.trans hB)).2.2, hB⟩
            · have mk_eq : Ending.returned (.tuple #[Go.Proofs.YthkbhikiljlgoaaGreat.hV P g' fc' (some p) (S.length + 1) c' (last + 1), spV ((last : Int) + 1, ((bestF L x.pages).1, x.pages), x.order), .int .i64 0]) = Ending.returned (.tuple #[.agg #[.int .i64 P, .slice (some ⟨g', 0, none⟩) 1024 fc', .slice (some p) (S ++ [((last : Int) + 1, ((bestF L x.pages).1, x.pages), x.order)]).length c', .int .i64 ((last + 1 : Nat) : Int)], .agg #[.int .i64 ((last : Int) + 1), .int .i64 (bestF L x.pages).1, .int .i64 x.pages, .int .i64 x.order], .int .i64 0]) := by rw [List.length_append]; rfl
              exact ⟨(last : Int) + 1, (bestF L x.pages).1, x.pages, x.order, 0, g', fc', some p, c', S ++ [((last : Int) + 1, ((bestF L x.pages).1, x.pages), x.order)], last + 1, _, mk_eq, .inr (.inr ⟨hbad, hpos, rfl, rfl, rfl, rfl, rfl⟩), hR, hV.trans hB, .inr ⟨p, rfl, hp⟩, (keep V' (hV.trans hB)).1, (keep V' (hV.trans hB)).2.1, (keep V' (hV.trans hB)).2.2, hB⟩)
        have HKP : Hid (∀ V, Bel W V → (V.cell? ⟨B, 0, none⟩ = some (.int .i64 P) ∧ V.cell? ⟨B, 1, none⟩ = some (.slice (some ⟨g, 0, none⟩) 1024 fc) ∧ V.cell? ⟨B, 2, none⟩ = some (.slice a S.length c) ∧ V.cell? ⟨B, 3, none⟩ = some (.int .i64 last) ∧ V.cell? ⟨b, o + i * 4 + 2, none⟩ = some (.int .i64 x.pages) ∧ V.cell? ⟨b, o + i * 4 + 3, none⟩ = some (.int .i64 x.order))) := Lib.hid (fun V h => ⟨h.cell m0, h.cell m1, h.cell m2, h.cell m3, h.cell q2, h.cell q3⟩)
        have l6 : B ≠ W.heap.size + 1 := by omega
        have l7 : b ≠ W.heap.size + 1 := by omega
        have l8 : W.heap.size + 1 ≠ B := by omega
        have l9 : W.heap.size + 1 ≠ b := by omega
        go_wp2_with fail
        go_cut [16, 17, 18] (fun s16 s17 s18 wx => ∃ s1 s2 s3 s4 en S' last' f', MakeR7 L S f last x.pages x.order (s1, (s2, s3), s4) en S' last' f' ∧ TurnBox2 P W wx s16 s17 s18 s1 s2 s3 s4 en last' a S S' f')
        case first =>
          go_region_held3 (fun w' => w'.cell? ⟨B, 0, none⟩ = some (.int .i64 P) ∧ w'.cell? ⟨B, 1, none⟩ = some (.slice (some ⟨g, 0, none⟩) 1024 fc) ∧ w'.cell? ⟨B, 2, none⟩ = some (.slice a S.length c) ∧ w'.cell? ⟨B, 3, none⟩ = some (.int .i64 last) ∧ w'.cell? ⟨b, o + i * 4 + 2, none⟩ = some (.int .i64 x.pages) ∧ w'.cell? ⟨b, o + i * 4 + 3, none⟩ = some (.int .i64 x.order))
            (first | (with_reducible exact hS7) | (refine HKP.out _ ?_; (with_reducible (repeat (first | exact hB7 | exact Bel.refl _ | apply Bel.drew | apply Bel.alloc | apply Bel.set))); all_goals (show W.heap.size ≤ _; first | exact Nat.le_refl _ | omega | (simp; omega))) | go_keep)
            (first | (go_at_call 11; (with_reducible refine (HMC.out _ ?b1).mono ?_); (case b1 => repeat (first | exact Bel.refl _ | apply Bel.drew | apply Bel.alloc)); rintro e w7 ⟨s1, s2, s3, s4, en, g', fc', a', c', S', last', f', rfl, hMR, hR7, hB7, hfr7, hS7, k1, k2, hBV⟩; (have k3 := hBV.size); (try simp only [World.size_alloc, World.size_drew] at k3); try (with_reducible (have gnb := hBV.blk (blk_alloc _ _)); (try simp only [World.size_alloc, World.size_drew] at gnb); have n9 := heap_lt gnb; obtain ⟨n0, n1, n2, n3⟩ := four_cells gnb; obtain ⟨e0, e1, e2, e3⟩ := four_frozen gnb); try (with_reducible (have gnc := hBV.blk (blk_alloc_old _ (blk_alloc _ _))); (try simp only [World.size_alloc, World.size_drew] at gnc); have i9 := heap_lt gnc; obtain ⟨i0, i1, i2, i3⟩ := four_cells gnc; obtain ⟨j0, j1, j2, j3⟩ := four_frozen gnc)))
          · go_wp2_with fail
            go_meet
            exact ⟨s1, s2, s3, s4, en, S', last', f', hMR, turnBox2_of (Q := fun _ => False) (V := W) HP.out.ref rfl rfl rfl (blk_alloc_old _ (blk_alloc _ _)) (blk_allocAt _ _ _ (by simp)) (Fr.of_bel (((Bel.refl _).alloc _).alloc _)) (fun k h => h.elim) (Bel.refl _) hR7 hB7 hB7.size (by have := hB7.size; omega) hfr7⟩
          · go_wp2_with fail
            go_meet
            exact ⟨s1, s2, s3, s4, en, S', last', f', hMR, turnBox2_of (Q := fun _ => False) (V := W) HP.out.ref rfl rfl rfl (blk_allocAt _ _ _ (by simp)) (blk_alloc_old _ (blk_alloc _ _)) (Fr.of_bel (((Bel.refl _).alloc _).alloc _)) (fun k h => h.elim) (Bel.refl _) hR7 hB7 (by have := hB7.size; omega) hB7.size hfr7⟩
          · go_wp2_with fail
            go_meet
            exact ⟨s1, s2, s3, s4, en, S', last', f', hMR, turnBox2_of (Q := fun k => k = W.heap.size) HP.out.ref rfl rfl rfl (blk_alloc_old _ (four_set gnb _ _ _ _)) (blk_allocAt _ _ _ (by simp)) ((fr_four _ _ _ _ _ _).alloc _) (fun k hk => ⟨by omega, by simp; omega, by subst hk; exact ⟨_, _, gnb, by decide⟩⟩) ((Bel.refl _).drew.alloc _) hR7 hB7 (Nat.le_refl _) hB7.size hfr7⟩
          · go_wp2_with fail
            go_meet
            exact ⟨s1, s2, s3, s4, en, S', last', f', hMR, turnBox2_of (Q := fun k => k = W.heap.size ∨ k = W.heap.size + 1) HP.out.ref rfl rfl rfl ((fr_four _ _ _ _ _ _).heap (four_set gnc _ _ _ _) (by omega)) (four_set ((fr_four _ _ _ _ _ _).heap gnb (by omega)) _ _ _ _) (fr_eight _ _ _ _ _ _ _ _ _ _ _) (fun k hk => ⟨by omega, by simp; omega, by rcases hk with hk | hk <;> (subst hk; first | exact ⟨_, _, gnc, by decide⟩ | exact ⟨_, _, gnb, by decide⟩)⟩) (((Bel.refl _).drew.alloc _).alloc _) hR7 hB7 (Nat.le_refl _) (by omega) hfr7⟩
          · go_wp2_with fail
            go_meet
            exact ⟨s1, s2, s3, s4, en, S', last', f', hMR, turnBox2_of (Q := fun k => k = W.heap.size) HP.out.ref rfl rfl rfl (blk_allocAt _ _ _ (by simp)) (blk_alloc_old _ (four_set gnb _ _ _ _)) ((fr_four _ _ _ _ _ _).alloc _) (fun k hk => ⟨by omega, by simp; omega, by subst hk; exact ⟨_, _, gnb, by decide⟩⟩) ((Bel.refl _).drew.alloc _) hR7 hB7 hB7.size (Nat.le_refl _) hfr7⟩
          · go_wp2_with fail
            go_meet
            exact ⟨s1, s2, s3, s4, en, S', last', f', hMR, turnBox2_of (Q := fun k => k = W.heap.size + 1 ∨ k = W.heap.size) HP.out.ref rfl rfl rfl ((fr_four _ _ _ _ _ _).heap (four_set gnb _ _ _ _) (by omega)) (four_set ((fr_four _ _ _ _ _ _).heap gnc (by omega)) _ _ _ _) (fr_eight _ _ _ _ _ _ _ _ _ _ _) (fun k hk => ⟨by omega, by simp; omega, by rcases hk with hk | hk <;> (subst hk; first | exact ⟨_, _, gnc, by decide⟩ | exact ⟨_, _, gnb, by decide⟩)⟩) (((Bel.refl _).drew.alloc _).alloc _) hR7 hB7 (by omega) (Nat.le_refl _) hfr7⟩
        case rest =>
          obtain ⟨s1, s2, s3, s4, en, S', last', f', hMR, nb, nc, g', fc', a', c', rfl, rfl, rfl, ⟨n0, n1, n2, n3⟩, ⟨i0, i1, i2, i3⟩, hR, hBW, hnl, hnl2, hfr⟩ := hcut
          have HMR := Lib.hid hMR
          have gB := hBW.blk HP.out.box
          obtain ⟨r0, r1, r2, r3⟩ := four_cells gB
          obtain ⟨f0, f1, f2, f3⟩ := four_frozen gB
          have hne : nb ≠ B := by omega
          have hne2 : nc ≠ B := by omega
          have q2' := hBW.cell q2
          have q3' := hBW.cell q3
          have hbB : b ≠ B := fun e => by have := World.block_lt_of_cell? w ⟨b, o + i * 4 + 1, none⟩ (HKC0.out); have := HP.out.wB; dsimp only at *; omega
          have hF4 := fr_four wc B (.int .i64 (P : Int)) (.slice (some ⟨g', 0, none⟩) 1024 fc') (.slice a' S'.length c') (.int .i64 (last' : Int))
          have hB4 := four_set gB (.int .i64 (P : Int)) (.slice (some ⟨g', 0, none⟩) 1024 fc') (.slice a' S'.length c') (.int .i64 (last' : Int))
          obtain ⟨N', hL2, hNN, hg', ha', hR2, haB⟩ := HP.out.turned hBW hR (hfr.imp (fun h => ⟨h.1, fun h9 => by rwa [← h.2]⟩) (fun h => h)) hF4 hB4
          have hw2 := hF4.size
          have HKC2 : Hid (∀ V, Bel w V → V.cell? ⟨b, o + i * 4 + 2, none⟩ = some (.int .i64 x.pages) ∧ V.cell? ⟨b, o + i * 4 + 3, none⟩ = some (.int .i64 x.order)) := Lib.hid (fun V hV => ⟨(HKC.out V hV).2.1, (HKC.out V hV).2.2⟩)
          have hmc : ∀ V, Bel ((((wc.setCell ⟨B, 0, none⟩ (.int .i64 (P : Int))).setCell ⟨B, 1, none⟩ (.slice (some ⟨g', 0, none⟩) 1024 fc')).setCell ⟨B, 2, none⟩ (.slice a' S'.length c')).setCell ⟨B, 3, none⟩ (.int .i64 (last' : Int))) V → Calls Tryz.prog 12 #[.pointer (some ⟨h, 0, none⟩), .int .i64 x.pages, .int .i64 x.order] V fun e V' => ∃ L2 ids2, e = .returned (.tuple #[.agg #[.int .i64 s1, .int .i64 s2, .int .i64 s3, .int .i64 s4], .int .i64 en]) ∧ Twin L2 f' ∧ ids2.length = P ∧
              LivePostH w (fun i => N' i ∨ (((((wc.setCell ⟨B, 0, none⟩ (.int .i64 (P : Int))).setCell ⟨B, 1, none⟩ (.slice (some ⟨g', 0, none⟩) 1024 fc')).setCell ⟨B, 2, none⟩ (.slice a' S'.length c')).setCell ⟨B, 3, none⟩ (.int .i64 (last' : Int))).heap.size ≤ i ∧ i < V.heap.size)) V h bi L2 ids2 S' last' V' ∧ (V'.cell? ⟨b, o + i * 4 + 2, none⟩ = some (.int .i64 x.pages) ∧ V'.cell? ⟨b, o + i * 4 + 3, none⟩ = some (.int .i64 x.order)) := fun V hV => by
            obtain ⟨s, en', L2, ids2, S2, last2, hMk, hC⟩ := liveH_Make (hL2.watch hV (fun i => ((((wc.setCell ⟨B, 0, none⟩ (.int .i64 (P : Int))).setCell ⟨B, 1, none⟩ (.slice (some ⟨g', 0, none⟩) 1024 fc')).setCell ⟨B, 2, none⟩ (.slice a' S'.length c')).setCell ⟨B, 3, none⟩ (.int .i64 (last' : Int))).heap.size ≤ i ∧ i < V.heap.size) (fun i hi => hi)) x.pages x.order HX.out.pages HX.out.order (by omega)
            obtain ⟨rfl, rfl, rfl, rfl, hT2, hl2'⟩ := made_same HP.out.twin hMk HMR.out
            exact (hC V (Bel.refl _)).mono fun e V' ⟨h1, h2⟩ => ⟨L2, ids2, h1, hT2, hl2'.trans HP.out.len, h2, HKC2.out V' h2.1.bel⟩
          have HN := Lib.hid (And.intro hB4 (And.intro hNN (And.intro hg' (And.intro ha' (And.intro hR2 (And.intro haB hL2.bel.size))))))
          have HMC2 := Lib.hid hmc
          have m0' := hF4.cell i0 hne2
          have m1' := hF4.cell i1 hne2
          have m2' := hF4.cell i2 hne2
          have m3' := hF4.cell i3 hne2
          have q4 := hF4.cell q2' hbB
          have q5 := hF4.cell q3' hbB
          have hncl := World.block_lt_of_cell? _ _ i0
          have HNC : Hid (N' nc) := Lib.hid (hNN nc (.inr ⟨hnl2, hncl⟩))
          have hbl : b < wc.heap.size := World.block_lt_of_cell? _ _ q2'
          have hsz4 : ((((wc.setCell ⟨B, 0, none⟩ (.int .i64 (P : Int))).setCell ⟨B, 1, none⟩ (.slice (some ⟨g', 0, none⟩) 1024 fc')).setCell ⟨B, 2, none⟩ (.slice a' S'.length c')).setCell ⟨B, 3, none⟩ (.int .i64 (last' : Int))).heap.size = wc.heap.size := by simp
          clear hmc hMR hR hBW HMC HKP m0 m1 m2 m3 q2 q3 hL2 hF4 hB4 hNN hg' ha' hR2 haB gB q0 q1
          go_wp2_with fail
          generalize (((wc.setCell ⟨B, 0, none⟩ (.int .i64 (P : Int))).setCell ⟨B, 1, none⟩ (.slice (some ⟨g', 0, none⟩) 1024 fc')).setCell ⟨B, 2, none⟩ (.slice a' S'.length c')).setCell ⟨B, 3, none⟩ (.int .i64 (last' : Int)) = W2 at HN HMC2 m0' m1' m2' m3' q4 q5 hsz4 hw2 ⊢
          have l20 : b ≠ W2.heap.size := by omega
          have l21 : W2.heap.size ≠ b := by omega
          have HSZ4 := Lib.hid hsz4
          clear hsz4
          go_cut [19, 20] (fun s19 s20 wx => MadePost w W2 wx N' P h bi s19 s20 s1 s2 s3 s4 en S' last' f')
          case first =>
            go_region_held3 (fun w' => w'.cell? ⟨b, o + i * 4 + 2, none⟩ = some (.int .i64 x.pages) ∧ w'.cell? ⟨b, o + i * 4 + 3, none⟩ = some (.int .i64 x.order))
              (first | (with_reducible exact hS9) | (refine ⟨?_, ?_⟩ <;> simp [q4, q5, hS9.1, hS9.2, l20, l21, l22, l23]; done) | go_keep)
              (first | (go_at_call 12; (with_reducible refine (HMC2.out _ ?b1).mono ?_); (case b1 => repeat (first | exact Bel.refl _ | apply Bel.drew | apply Bel.alloc)); rintro e w9 ⟨L2, ids2, rfl, hT2, hl2', hLP, hS9⟩; (have l22 : b < w9.heap.size := World.block_lt_of_cell? _ _ hS9.1); (have l23 : w9.heap.size ≠ b := by omega); (have l24 : b ≠ w9.heap.size := by omega); try (have gx : w9.heap[W2.heap.size]? = some (.cells #[.int .i64 0, .int .i64 0, .int .i64 0, .int .i64 0] 43 (0, 0)) := hLP.2.heap (blk_allocAt W2.drew _ _ rfl) (fun h9 => h9 (.inr ⟨Nat.le_refl _, by simp⟩)); have x9 := heap_lt gx; obtain ⟨t0, t1, t2, t3⟩ := four_cells gx; obtain ⟨d0, d1, d2, d3⟩ := four_frozen gx)))
            · go_wp2_with fail
              go_meet
              exact madePost_mk (Q := fun _ => False) (Bel.refl _).drew HN.out.2.2.2.2.2.2 hLP hT2 hl2' rfl rfl (blk_alloc _ _) (Fr.of_bel ((Bel.refl _).alloc _)) (fun k h => h.elim)
            · go_wp2_with fail
              go_meet
              exact madePost_mk (Q := fun k => k = W2.heap.size) ((Bel.refl _).drew.alloc _) HN.out.2.2.2.2.2.2 hLP hT2 hl2' rfl rfl (four_set gx _ _ _ _) (fr_four _ _ _ _ _ _) (fun k hk => ⟨by omega, by subst hk; simp⟩)
          case rest =>
            obtain ⟨xb, N2, L2, ids2, rfl, rfl, gx, hNN2, hL9, hT2, hl2', hF9⟩ := hcut
            obtain ⟨t0, t1, t2, t3⟩ := four_cells gx
            have v0 := hF9.cell m0' (fun h9 => h9 HNC.out)
            have v1 := hF9.cell m1' (fun h9 => h9 HNC.out)
            have v2 := hF9.cell m2' (fun h9 => h9 HNC.out)
            have v3 := hF9.cell m3' (fun h9 => h9 HNC.out)
            have HNX : Hid (PlayWay w P B h (i + 1) wc) := Lib.hid ⟨bi, N2, L2, ids2, S', last', g', fc', a', c', f', by have := HMR.out.last; omega, ⟨hL9, hl2', hT2,
              HN.out.2.2.2.2.1.fr hF9 (fun h9 => h9 HN.out.2.2.1) (fun p hp hS h9 => h9 (HN.out.2.2.2.1 p hp hS)), hF9.heap HN.out.1 (fun h9 => h9 (HN.out.2.1 B (.inl HP.out.nB))), hNN2 _ (HN.out.2.1 B (.inl HP.out.nB)), hNN2 _ HN.out.2.2.1, (fun p hp hS => hNN2 _ (HN.out.2.2.2.1 p hp hS)), HP.out.wB, HN.out.2.2.2.2.2.1⟩⟩
            clear hT2 hL9 hF9 m0' m1' m2' m3' q4 q5
            go_wp2
            go_roundw
            case rel =>
              (repeat (apply Exists.intro)); refine ⟨⟨i + 1, by omega, rfl, HNX⟩, ?_⟩
              (repeat' apply And.intro) <;> first | rfl | go_num
            case measure => simp [intOf]; omega
      · have l0 := heap_lt HP.out.box
        have l1 : b < W.heap.size := World.block_lt_of_cell? _ _ q1
        have l2 : B ≠ W.heap.size := by omega
        have l3 : b ≠ W.heap.size := by omega
        have l4 : W.heap.size ≠ B := by omega
        have l5 : W.heap.size ≠ b := by omega
        have HDC : Hid (∀ V, Bel W V → Calls Tryz.prog 9 #[.agg #[.int .i64 P, .slice (some ⟨g, 0, none⟩) 1024 fc, .slice a S.length c, .int .i64 last], .slice x.ia x.ids.length x.ic] V fun e V' => ∃ en g' fc' a' c' S' f', e = .returned (.tuple #[.agg #[.int .i64 P, .slice (some ⟨g', 0, none⟩) 1024 fc', .slice a' S'.length c', .int .i64 last], .int .i64 en]) ∧
            DropR7 S f x.ids en S' f' ∧ RefH V' g' fc' f' a' c' S' ∧ Bel W V' ∧ (a' = a ∨ ∃ p, a' = some p ∧ V.heap.size ≤ p.block) ∧
            (V'.cell? ⟨B, 0, none⟩ = some (.int .i64 P) ∧ V'.cell? ⟨B, 1, none⟩ = some (.slice (some ⟨g, 0, none⟩) 1024 fc) ∧ V'.cell? ⟨B, 2, none⟩ = some (.slice a S.length c) ∧ V'.cell? ⟨B, 3, none⟩ = some (.int .i64 last) ∧ V'.cell? ⟨b, o + i * 4 + 1, none⟩ = some (.slice x.ia x.ids.length x.ic)) ∧ B < V'.heap.size ∧ b < V'.heap.size ∧ Bel V V') := Lib.hid (fun V hV => by
          have hinv := HP.out.live.inv
          have hsm := HP.out.live.inv.count
          refine (ref7_Drop P g fc a S.length c last f S x.ia x.ids x.ids.length x.ic V rfl rfl (HP.out.ref.bel hV) (by omega) (by omega) hinv.nd (HX.out.rd.bel (HP.out.live.bel.trans hV)) HX.out.ok (by omega) (fun s hs => by have := there_iff.1 (hinv.span s hs).2.2.1; have := hinv.hi; exact ⟨⟨by omega, by omega⟩, ⟨by omega, by omega⟩⟩)).mono ?_
          have keep : ∀ V', Bel W V' → (V'.cell? ⟨B, 0, none⟩ = some (.int .i64 P) ∧ V'.cell? ⟨B, 1, none⟩ = some (.slice (some ⟨g, 0, none⟩) 1024 fc) ∧ V'.cell? ⟨B, 2, none⟩ = some (.slice a S.length c) ∧ V'.cell? ⟨B, 3, none⟩ = some (.int .i64 last) ∧ V'.cell? ⟨b, o + i * 4 + 1, none⟩ = some (.slice x.ia x.ids.length x.ic)) ∧ B < V'.heap.size ∧ b < V'.heap.size := fun V' h => ⟨⟨h.cell m0, h.cell m1, h.cell m2, h.cell m3, h.cell q1⟩, Nat.lt_of_lt_of_le l0 h.size, Nat.lt_of_lt_of_le l1 h.size⟩
          rintro e V' (⟨hok, g', fc', a', c', rfl, hR, hB, hfr⟩ | ⟨hok, rfl, hB⟩)
          · refine ⟨0, g', fc', a', c', _, _, rfl, .inl ⟨hok, rfl, rfl, rfl⟩, hR, hV.trans hB, ?_, (keep V' (hV.trans hB)).1, (keep V' (hV.trans hB)).2.1, (keep V' (hV.trans hB)).2.2, hB⟩
            rcases hfr with h9 | ⟨p, h9, h8⟩
            · exact .inl h9
            · exact .inr ⟨p, h9, h8⟩
          · exact ⟨6, g, fc, a, c, S, f, rfl, .inr ⟨hok, rfl, rfl, rfl⟩, HP.out.ref.bel (hV.trans hB), hV.trans hB, .inl rfl, (keep V' (hV.trans hB)).1, (keep V' (hV.trans hB)).2.1, (keep V' (hV.trans hB)).2.2, hB⟩)
        go_wp2_with fail
        go_cut [14, 15] (fun s14 s15 wx => ∃ en S' f', s15 = .int .i64 en ∧ DropR7 S f x.ids en S' f' ∧ TurnBox P W wx s14 last a S' f')
        case first =>
          go_region_held3 (fun w' => w'.cell? ⟨B, 0, none⟩ = some (.int .i64 P) ∧ w'.cell? ⟨B, 1, none⟩ = some (.slice (some ⟨g, 0, none⟩) 1024 fc) ∧ w'.cell? ⟨B, 2, none⟩ = some (.slice a S.length c) ∧ w'.cell? ⟨B, 3, none⟩ = some (.int .i64 last) ∧ w'.cell? ⟨b, o + i * 4 + 1, none⟩ = some (.slice x.ia x.ids.length x.ic))
            (first | (with_reducible exact hS7) | go_keep)
            (first | (go_at_call 9; (with_reducible refine (HDC.out _ ?b1).mono ?_); (case b1 => repeat (first | exact Bel.refl _ | apply Bel.drew | apply Bel.alloc)); rintro e w7 ⟨en, g', fc', a', c', S', f', rfl, hDR, hR7, hB7, hfr7, hS7, l7, l8, hBV⟩; (have l9 : B ≠ w7.heap.size := by omega); (have l10 : b ≠ w7.heap.size := by omega); (have l11 : w7.heap.size ≠ B := by omega); (have l12 : w7.heap.size ≠ b := by omega); try (have gnb := hBV.blk (blk_alloc _ _); have n9 := heap_lt gnb; obtain ⟨n0, n1, n2, n3⟩ := four_cells gnb; obtain ⟨e0, e1, e2, e3⟩ := four_frozen gnb)))
          · go_wp2_with fail
            go_meet
            exact ⟨en, S', f', rfl, hDR, w7.heap.size, g', fc', a', c', rfl, blk_alloc _ _, hR7.bel ((Bel.refl _).alloc _), hB7.alloc _, hB7.size, hfr7⟩
          · go_wp2_with fail
            go_meet
            refine ⟨en, S', f', rfl, hDR, turnBox_set gnb hR7 hB7 (Nat.le_refl _) (fun p hp hS => ?_) ?_⟩
            · rcases hfr7 with h9 | ⟨q, h9, h8⟩
              · have hS2 : S ≠ [] := hDR.ne hS
                have := HP.out.ref.lt hS2 p (by rw [← h9]; exact hp)
                omega
              · rw [hp] at h9; cases h9
                simp at h8
                omega
            · rcases hfr7 with h9 | ⟨q, h9, h8⟩
              · exact .inl h9
              · simp at h8
                exact .inr ⟨q, h9, by omega⟩
        case rest =>
          obtain ⟨en, S', f', rfl, hDR, nb, g', fc', a', c', rfl, hnb, hR, hBW, hnl, hfr⟩ := hcut
          have HT := Lib.hid (And.intro hDR (And.intro hR (And.intro hBW hfr)))
          obtain ⟨n0, n1, n2, n3⟩ := four_cells hnb
          have gB := hBW.blk HP.out.box
          obtain ⟨r0, r1, r2, r3⟩ := four_cells gB
          obtain ⟨f0, f1, f2, f3⟩ := four_frozen gB
          have l6 := heap_lt gB
          have hne : nb ≠ B := by omega
          have q1' := hBW.cell q1
          have hbB : b ≠ B := fun e => by have := World.block_lt_of_cell? w ⟨b, o + i * 4 + 1, none⟩ (HKC0.out); have := HP.out.wB; dsimp only at *; omega
          have hF4 := fr_four wc B (.int .i64 (P : Int)) (.slice (some ⟨g', 0, none⟩) 1024 fc') (.slice a' S'.length c') (.int .i64 (last : Int))
          have hB4 := four_set gB (.int .i64 (P : Int)) (.slice (some ⟨g', 0, none⟩) 1024 fc') (.slice a' S'.length c') (.int .i64 (last : Int))
          obtain ⟨N', hL2, hNN, hg', ha', hR2, haB⟩ := HP.out.turned hBW hR (hfr.imp (fun h => ⟨h, hDR.ne⟩) (fun h => h)) hF4 hB4
          have hfree := liveH_Free hL2 x.ids (by omega) HX.out.ok _ x.ia x.ic (Bel.refl _) (HX.out.rd.bel hL2.bel)
          have HN := Lib.hid (And.intro hB4 (And.intro hNN (And.intro hg' (And.intro ha' (And.intro hR2 haB)))))
          have HFREE := Lib.hid hfree
          clear hDR hR hBW hfr HDC m0 m1 m2 m3 q1 q2 q3 hL2 hfree hF4 hB4 hNN hg' ha' hR2 haB gB hnb
          go_wp2_with fail
          generalize (((wc.setCell ⟨B, 0, none⟩ (.int .i64 (P : Int))).setCell ⟨B, 1, none⟩ (.slice (some ⟨g', 0, none⟩) 1024 fc')).setCell ⟨B, 2, none⟩ (.slice a' S'.length c')).setCell ⟨B, 3, none⟩ (.int .i64 (last : Int)) = W2 at HN HFREE ⊢
          refine HFREE.out.mono ?_
          clear HFREE
          rintro e w9 ⟨en2, L2, ids2, S2, hFR, rfl, hLP⟩
          obtain ⟨rfl, rfl, hT2, hl2'⟩ := HP.out.freed HT.out.1 hFR
          have HNX : Hid (PlayWay w P B h (i + 1) w9) := Lib.hid ⟨bi, N', L2, ids2, S2, last, g', fc', a', c', f', by omega, ⟨hLP.1, hl2'.trans HP.out.len, hT2,
            HN.out.2.2.2.2.1.fr hLP.2 (fun h9 => h9 HN.out.2.2.1) (fun p hp hS h9 => h9 (HN.out.2.2.2.1 p hp hS)), hLP.2.heap HN.out.1 (fun h9 => h9 (HN.out.2.1 B (.inl HP.out.nB))), HN.out.2.1 B (.inl HP.out.nB), HN.out.2.2.1, HN.out.2.2.2.1, HP.out.wB, HN.out.2.2.2.2.2⟩⟩
          clear hFR hLP hT2
          go_wp2
          go_roundw
          case rel =>
            (repeat (apply Exists.intro)); refine ⟨⟨i + 1, by omega, rfl, HNX⟩, ?_⟩
            (repeat' apply And.intro) <;> first | rfl | go_num
          case measure => simp [intOf]; omega
    · obtain rfl : i = xs.length := by omega
      have hidw : (Lit.int .i64 id).wf = true := wf_i64 hid.1 hid.2
      have HSPAN := Lib.hid (liveH_Span HP.out.live id hidw)
      have HAT := Lib.hid (liveH_At HP.out.live at_ hat)
      have hinv := HP.out.live.inv
      have hcnt := hinv.count
      have HFIND := Lib.hid (fun V (hV : Bel W V) => ref7_Find P g fc a S.length c last S id V rfl (HP.out.ref.sp.bel hV) (by omega))
      have HRAT := Lib.hid (fun V (hV : Bel W V) => ref7_At P g fc a S.length c last S at_ V rfl (HP.out.ref.sp.bel hV) (by omega) hat (fun s hs => by have := there_iff.1 (hinv.span s hs).2.2.1; have := hinv.hi; omega))
      have hsl : S.length ≤ 100 := by omega
      have hcs1 := find_get (S := S) id
      have hcs2 := at_get hinv at_
      have hnd := hinv.nd
      have HINV := Lib.hid hinv
      obtain ⟨fi, hfi⟩ : ∃ fi, idxF (fun s : Sp => decide (s.1 = id)) S = fi := ⟨_, rfl⟩
      obtain ⟨ai, hai⟩ : ∃ ai, (if at_ < 0 then -1 else idxF (fun s : Sp => inR s.2.1 (at_ / 64)) S) = ai := ⟨_, rfl⟩
      rw [hfi] at HFIND hcs1
      rw [hai] at HRAT hcs2
      obtain ⟨x, hx⟩ : ∃ x, getS S id = x := ⟨_, rfl⟩
      obtain ⟨y, hy⟩ : ∃ y, atS ids S at_ = y := ⟨_, rfl⟩
      rw [hx] at HSPAN hcs1
      rw [hy] at HAT hcs2
      obtain ⟨⟨x1, ⟨x2, x3⟩, x4⟩, hx1⟩ : ∃ x', x.getD sp0 = x' := ⟨_, rfl⟩
      obtain ⟨⟨y1, ⟨y2, y3⟩, y4⟩, hy1⟩ : ∃ y', y.getD sp0 = y' := ⟨_, rfl⟩
      rw [hx1] at HSPAN
      rw [hy1] at HAT
      simp only [spV] at HSPAN HAT
      clear hinv hfi hai hx hy
      go_wp2_with fail
      refine (HSPAN.out W (Bel.refl _)).mono ?_
      clear HSPAN
      rintro e w2 ⟨rfl, hB2⟩
      have gx := blk_alloc w2 (.cells #[.int .i64 x1, .int .i64 x2, .int .i64 x3, .int .i64 x4] 43)
      have gB := hB2.blk HP.out.box
      have l0 := heap_lt gB
      have hb3 := hB2.alloc (.cells #[.int .i64 x1, .int .i64 x2, .int .i64 x3, .int .i64 x4] 43)
      obtain ⟨m0, m1, m2, m3⟩ := four_cells gB
      clear hB2
      go_wp2_with fail
      have gB3 := blk_alloc_old (.cells #[.int .i64 x1, .int .i64 x2, .int .i64 x3, .int .i64 x4] 43) gB
      clear m0 m1 m2 m3 gB l0
      generalize w2.alloc (.cells #[.int .i64 x1, .int .i64 x2, .int .i64 x3, .int .i64 x4] 43) = W3 at gx gB3 hb3 ⊢
      obtain ⟨bx, hbx⟩ : ∃ bx, w2.heap.size = bx := ⟨_, rfl⟩
      rw [hbx] at gx ⊢
      refine (HFIND.out W3 hb3).mono ?_
      rintro e w4 ⟨rfl, hB4⟩
      have gx4 := hB4.blk gx
      have gB4 := hB4.blk gB3
      have hb4 := hb3.trans hB4
      clear HFIND gx gB3 hb3 hB4
      go_wp2_with fail
      refine (HAT.out w4 hb4).mono ?_
      rintro e w5 ⟨rfl, hB5⟩
      have gx5 := hB5.blk gx4
      have gB5 := hB5.blk gB4
      have hb5 := hb4.trans hB5
      have l0 := heap_lt gB5
      have l1 := heap_lt gx5
      obtain ⟨m0, m1, m2, m3⟩ := four_cells gB5
      have hb6 := hb5.alloc (.cells #[.int .i64 y1, .int .i64 y2, .int .i64 y3, .int .i64 y4] 43)
      have gy := blk_alloc w5 (.cells #[.int .i64 y1, .int .i64 y2, .int .i64 y3, .int .i64 y4] 43)
      clear HAT gx4 gB4 hb4 hB5
      go_wp2_with fail
      have gx6 := blk_alloc_old (.cells #[.int .i64 y1, .int .i64 y2, .int .i64 y3, .int .i64 y4] 43) gx5
      have gB6 := blk_alloc_old (.cells #[.int .i64 y1, .int .i64 y2, .int .i64 y3, .int .i64 y4] 43) gB5
      clear m0 m1 m2 m3 gB5 gx5 l0 l1 hb5
      generalize w5.alloc (.cells #[.int .i64 y1, .int .i64 y2, .int .i64 y3, .int .i64 y4] 43) = W6 at gx6 gB6 gy hb6 ⊢
      obtain ⟨by_, hby⟩ : ∃ by_, w5.heap.size = by_ := ⟨_, rfl⟩
      rw [hby] at gy ⊢
      refine (HRAT.out W6 hb6).mono ?_
      rintro e w7 ⟨rfl, hB7⟩
      have gx7 := hB7.blk gx6
      have gy7 := hB7.blk gy
      have gB7 := hB7.blk gB6
      have hb7 := hb6.trans hB7
      have hs7 := HP.out.ref.sp.bel hb7
      obtain ⟨m0, m1, m2, m3⟩ := four_cells gB7
      obtain ⟨t0, t1, t2, t3⟩ := four_cells gx7
      obtain ⟨v0, v1, v2, v3⟩ := four_cells gy7
      have HB7 := Lib.hid hb7
      clear HRAT gx6 gy gB6 hb6 hB7 gx7 gy7 gB7 hb7 hbx hby
      have hsl2 : S.length ≤ 9223372036854775807 := by omega
      go_wp2_with fail
      go_cut [209] (fun s wx => s = .bool false ∧ Bel w7 wx)
      case first => as_aux_lemma =>
        clear HP HRD HOK HINV HB7
        have e1 : decide ((0 : Int) ≤ -1) = false := by decide
        have e2 : decide ((-1 : Int) < 0) = true := by decide
        have e3 : (none : Option Sp).isSome = false := rfl
        rcases hcs1 with ⟨rfl, rfl⟩ | ⟨j1, hj1, rfl, hs1⟩
        · simp only [Option.getD_none, sp0, Prod.mk.injEq] at hx1
          obtain ⟨rfl, ⟨rfl, rfl⟩, rfl⟩ := hx1
          rcases hcs2 with ⟨rfl, rfl⟩ | ⟨j2, hj2, rfl, rfl⟩
          · simp only [Option.getD_none, sp0, Prod.mk.injEq] at hy1
            obtain ⟨rfl, ⟨rfl, rfl⟩, rfl⟩ := hy1
            go_quiet (fail)
            go_wp2_with fail
            go_meet
            exact ⟨rfl, (Bel.refl _).drewN _⟩
          · simp only [Option.getD_some] at hy1
            obtain ⟨b2, o2, rfl, p0, p1, p2, p3⟩ := hs7.at j2 hj2
            rw [hy1] at p0 p1 p2 p3
            have z2 : (j2 : Int) < S.length := by omega
            have z4 : (0 : Int) ≤ (j2 : Int) := by omega
            have e4 : decide ((0 : Int) ≤ (j2 : Int)) = true := decide_eq_true z4
            have e5 : decide ((j2 : Int) < 0) = false := decide_eq_false (by omega)
            have e6 : ∀ s : Sp, (some s).isSome = true := fun _ => rfl
            rw [e6]
            clear hy1 hs7
            go_quiet (fail)
            go_wp2_with fail
            go_meet
            exact ⟨rfl, (Bel.refl _).drewN _⟩
        · have hx9 := hs1 hnd
          subst hx9
          simp only [Option.getD_some] at hx1
          obtain ⟨b1, o1, rfl, q0, q1, q2, q3⟩ := hs7.at j1 hj1
          rw [hx1] at q0 q1 q2 q3
          have z1 : (j1 : Int) < S.length := by omega
          have z3 : (0 : Int) ≤ (j1 : Int) := by omega
          have e7 : decide ((0 : Int) ≤ (j1 : Int)) = true := decide_eq_true z3
          have e8 : decide ((j1 : Int) < 0) = false := decide_eq_false (by omega)
          have e6 : ∀ s : Sp, (some s).isSome = true := fun _ => rfl
          rw [e6]
          clear hx1 hs1
          rcases hcs2 with ⟨rfl, rfl⟩ | ⟨j2, hj2, rfl, rfl⟩
          · simp only [Option.getD_none, sp0, Prod.mk.injEq] at hy1
            obtain ⟨rfl, ⟨rfl, rfl⟩, rfl⟩ := hy1
            clear hs7
            go_quiet (fail)
            go_wp2_with fail
            go_meet
            exact ⟨rfl, (Bel.refl _).drewN _⟩
          · simp only [Option.getD_some] at hy1
            obtain ⟨_, _, e9, p0, p1, p2, p3⟩ := hs7.at j2 hj2
            cases e9
            rw [hy1] at p0 p1 p2 p3
            have z2 : (j2 : Int) < S.length := by omega
            have z4 : (0 : Int) ≤ (j2 : Int) := by omega
            have e4 : decide ((0 : Int) ≤ (j2 : Int)) = true := decide_eq_true z4
            have e5 : decide ((j2 : Int) < 0) = false := decide_eq_false (by omega)
            rw [e6]
            clear hy1 hs7
            go_quiet (fail)
            go_wp2_with fail
            go_meet
            exact ⟨rfl, (Bel.refl _).drewN _⟩
      case rest =>
        obtain ⟨rfl, hB8⟩ := hcut
        have hBw := HB7.out.trans hB8
        have gB := hBw.blk HP.out.box
        have hZ : SortedSpans S (bucketS S P) := by rw [← HP.out.len]; exact bucket_all HP.out.live.inv
        have hbk : ∀ zs, SortedSpans S zs → zs = bucketS S P := fun zs hz => by rw [← HP.out.len]; exact (bucket_eq HP.out.live.inv hz).symm
        obtain ⟨Z, hZe⟩ : ∃ Z, bucketS S P = Z := ⟨_, rfl⟩
        have HRS := Lib.hid (fun V (hV : Bel wc V) => ref7_Spans P g fc a S.length c last S V rfl (HP.out.ref.sp.bel (hBw.trans hV)) (by omega) hP.2)
        rw [hZe] at hZ hbk HRS
        have hzl : Z.length ≤ 65536 := by have := hZ.1.length_eq; omega
        obtain ⟨zn, hzn⟩ : ∃ zn, Z.length = zn := ⟨_, rfl⟩
        have hLl : L.length ≤ 65536 := by have h9 := HP.out.live.inv.canon; have := h9.len (q := 1024); omega
        have hLf : listP f = L := (HP.out.twin.eq).symm
        obtain ⟨ln, hln⟩ : ∃ ln, L.length = ln := ⟨_, rfl⟩
        obtain ⟨m0, m1, m2, m3⟩ := four_cells gB
        have keep : ∀ V', Bel wc V' → (V'.cell? ⟨B, 0, none⟩ = some (.int .i64 P) ∧ V'.cell? ⟨B, 1, none⟩ = some (.slice (some ⟨g, 0, none⟩) 1024 fc) ∧ V'.cell? ⟨B, 2, none⟩ = some (.slice a S.length c) ∧ V'.cell? ⟨B, 3, none⟩ = some (.int .i64 last)) := fun V' h => ⟨h.cell m0, h.cell m1, h.cell m2, h.cell m3⟩
        have HK8 := Lib.hid keep
        have HC1 : Hid (∀ V, Bel wc V → Calls Tryz.prog 18 #[.pointer (some ⟨h, 0, none⟩)] V fun e V' => ∃ d cd, e = .returned (.slice d zn cd) ∧ SpansIn V' d Z ∧ Bel V V' ∧ Bel wc V' ∧ (V'.cell? ⟨B, 0, none⟩ = some (.int .i64 P) ∧ V'.cell? ⟨B, 1, none⟩ = some (.slice (some ⟨g, 0, none⟩) 1024 fc) ∧ V'.cell? ⟨B, 2, none⟩ = some (.slice a S.length c) ∧ V'.cell? ⟨B, 3, none⟩ = some (.int .i64 last))) := Lib.hid (fun V hV => by
          refine (liveH_Spans HP.out.live V (hBw.trans hV)).mono ?_
          rintro e V' ⟨d, cd, zs, rfl, hz, hrz, hB, _⟩
          have e9 := hbk zs hz
          subst e9
          exact ⟨d, cd, by rw [hzn], SpansIn.of_row hrz, hB, hV.trans hB, keep V' (hV.trans hB)⟩)
        have HC2 : Hid (∀ V, Bel wc V → Calls Tryz.prog 19 #[.agg #[.int .i64 P, .slice (some ⟨g, 0, none⟩) 1024 fc, .slice a S.length c, .int .i64 last]] V fun e V' => ∃ d cd, e = .returned (.slice d zn cd) ∧ SpansIn V' d Z ∧ Bel V V' ∧ Bel wc V' ∧ (V'.cell? ⟨B, 0, none⟩ = some (.int .i64 P) ∧ V'.cell? ⟨B, 1, none⟩ = some (.slice (some ⟨g, 0, none⟩) 1024 fc) ∧ V'.cell? ⟨B, 2, none⟩ = some (.slice a S.length c) ∧ V'.cell? ⟨B, 3, none⟩ = some (.int .i64 last))) := Lib.hid (fun V hV => by
          refine (HRS.out V hV).mono ?_
          rintro e V' ⟨d, cd, rfl, hs, hB⟩
          exact ⟨d, cd, by rw [hzn], hs, hB, hV.trans hB, keep V' (hV.trans hB)⟩)
        have HC3 : Hid (∀ V d cd d' cd', Bel wc V → SpansIn V d Z → SpansIn V d' Z → Calls Tryz.prog 17 #[.slice d zn cd, .slice d' zn cd'] V fun e V' => e = .returned (.bool true) ∧ Bel V V' ∧ Bel wc V' ∧ (V'.cell? ⟨B, 0, none⟩ = some (.int .i64 P) ∧ V'.cell? ⟨B, 1, none⟩ = some (.slice (some ⟨g, 0, none⟩) 1024 fc) ∧ V'.cell? ⟨B, 2, none⟩ = some (.slice a S.length c) ∧ V'.cell? ⟨B, 3, none⟩ = some (.int .i64 last))) := Lib.hid (fun V d cd d' cd' hV h1 h2 => by
          subst hzn
          exact (ref7_same d d' Z cd cd' V hzl h1 h2).mono fun e V' ⟨h3, hB⟩ => ⟨h3, hB, hV.trans hB, keep V' (hV.trans hB)⟩)
        have HC4 : Hid (∀ V, Bel wc V → Calls Tryz.prog 21 #[.pointer (some ⟨h, 0, none⟩)] V fun e V' => ∃ d cd, e = .returned (.slice d ln cd) ∧ RunsIn V' d L ∧ Bel V V' ∧ Bel wc V' ∧ (V'.cell? ⟨B, 0, none⟩ = some (.int .i64 P) ∧ V'.cell? ⟨B, 1, none⟩ = some (.slice (some ⟨g, 0, none⟩) 1024 fc) ∧ V'.cell? ⟨B, 2, none⟩ = some (.slice a S.length c) ∧ V'.cell? ⟨B, 3, none⟩ = some (.int .i64 last))) := Lib.hid (fun V hV => by
          refine (liveH_Runs HP.out.live V (hBw.trans hV)).mono ?_
          rintro e V' hN
          obtain ⟨d, cd, rfl, hr, hB, _⟩ := list_post (Bel.refl _) hN
          exact ⟨d, cd, by rw [hln], hr, hB, hV.trans hB, keep V' (hV.trans hB)⟩)
        have HC5 : Hid (∀ V, Bel wc V → Calls Tryz.prog 22 #[.slice (some ⟨g, 0, none⟩) 1024 fc] V fun e V' => ∃ d cd, e = .returned (.slice d ln cd) ∧ RunsIn V' d L ∧ Bel V V' ∧ Bel wc V' ∧ (V'.cell? ⟨B, 0, none⟩ = some (.int .i64 P) ∧ V'.cell? ⟨B, 1, none⟩ = some (.slice (some ⟨g, 0, none⟩) 1024 fc) ∧ V'.cell? ⟨B, 2, none⟩ = some (.slice a S.length c) ∧ V'.cell? ⟨B, 3, none⟩ = some (.int .i64 last))) := Lib.hid (fun V hV => by
          refine (ref6_List _ f V (HP.out.ref.bits.1.bel (hBw.trans hV))).mono ?_
          rw [hLf]
          rintro e V' hN
          obtain ⟨d, cd, rfl, hr, hB, _⟩ := list_post (Bel.refl _) hN
          exact ⟨d, cd, by rw [hln], hr, hB, hV.trans hB, keep V' (hV.trans hB)⟩)
        have HC6 : Hid (∀ V d cd d' cd', Bel wc V → RunsIn V d L → RunsIn V d' L → Calls Tryz.prog 20 #[.slice d ln cd, .slice d' ln cd'] V fun e V' => e = .returned (.bool true) ∧ Bel V V' ∧ Bel wc V' ∧ (V'.cell? ⟨B, 0, none⟩ = some (.int .i64 P) ∧ V'.cell? ⟨B, 1, none⟩ = some (.slice (some ⟨g, 0, none⟩) 1024 fc) ∧ V'.cell? ⟨B, 2, none⟩ = some (.slice a S.length c) ∧ V'.cell? ⟨B, 3, none⟩ = some (.int .i64 last))) := Lib.hid (fun V d cd d' cd' hV h1 h2 => by
          subst hln
          exact (same_true hLl h1 h2).mono fun e V' ⟨h3, hB⟩ => ⟨h3, hB, hV.trans hB, keep V' (hV.trans hB)⟩)
        have HC7 : Hid (∀ V, Bel wc V → Calls Tryz.prog 8 #[.pointer (some ⟨h, 0, none⟩)] V fun e V' => e = .returned (.int .i64 P) ∧ Bel V V' ∧ Bel wc V' ∧ (V'.cell? ⟨B, 0, none⟩ = some (.int .i64 P) ∧ V'.cell? ⟨B, 1, none⟩ = some (.slice (some ⟨g, 0, none⟩) 1024 fc) ∧ V'.cell? ⟨B, 2, none⟩ = some (.slice a S.length c) ∧ V'.cell? ⟨B, 3, none⟩ = some (.int .i64 last))) := Lib.hid (fun V hV => by
          refine (liveH_Size HP.out.live V (hBw.trans hV)).mono ?_
          rintro e V' ⟨rfl, rfl⟩
          exact ⟨by rw [HP.out.len], Bel.refl _, hV, keep V hV⟩)
        have HC8 : Hid (∀ V, Bel wc V → Calls Tryz.prog 5 #[] V fun e V' => e = .returned (.bool true) ∧ Bel V V' ∧ Bel wc V' ∧ (V'.cell? ⟨B, 0, none⟩ = some (.int .i64 P) ∧ V'.cell? ⟨B, 1, none⟩ = some (.slice (some ⟨g, 0, none⟩) 1024 fc) ∧ V'.cell? ⟨B, 2, none⟩ = some (.slice a S.length c) ∧ V'.cell? ⟨B, 3, none⟩ = some (.int .i64 last))) := Lib.hid (fun V hV => (awake07 V).mono fun e V' ⟨h3, hB⟩ => ⟨h3, hB, hV.trans hB, keep V' (hV.trans hB)⟩)
        have HBW := Lib.hid (HP.out.live.bel.trans hBw)
        clear hB8 hBw hbk keep hZ HRS t0 t1 t2 t3 v0 v1 v2 v3 hcs1 hcs2 hx1 hy1 hs7 gB hzl hLl hLf hzn hln hZe HB7 HRD HOK HINV
        go_wp2_with fail
        go_region_held3 (fun w' => (w'.cell? ⟨B, 0, none⟩ = some (.int .i64 P) ∧ w'.cell? ⟨B, 1, none⟩ = some (.slice (some ⟨g, 0, none⟩) 1024 fc) ∧ w'.cell? ⟨B, 2, none⟩ = some (.slice a S.length c) ∧ w'.cell? ⟨B, 3, none⟩ = some (.int .i64 last)))
          (first | (refine HK8.out _ ?_; (repeat (first | (with_reducible assumption) | exact Bel.refl _ | apply Bel.drew | apply Bel.alloc)); done) | go_keep)
          (first
          | (go_at_call 18; (with_reducible refine (HC1.out _ ?b1).mono ?_); (case b1 => (repeat (first | (with_reducible assumption) | exact Bel.refl _ | apply Bel.drew | apply Bel.alloc))); rintro e u1 ⟨d1, cd1, rfl, hsp1, hv1, hb1, hk1⟩)
          | (go_at_call 19; (with_reducible refine (HC2.out _ ?b1).mono ?_); (case b1 => (repeat (first | (with_reducible assumption) | exact Bel.refl _ | apply Bel.drew | apply Bel.alloc))); rintro e u2 ⟨d2, cd2, rfl, hsp2, hv2, hb2, hk2⟩)
          | (go_at_call 17; (with_reducible refine (HC3.out _ _ _ _ _ ?b1 ?b2 ?b3).mono ?_); (case b1 => (repeat (first | (with_reducible assumption) | exact Bel.refl _ | apply Bel.drew | apply Bel.alloc))); (case b2 => first | (with_reducible exact hsp1) | (refine hsp1.bel ?_; (with_reducible (repeat (first | exact Bel.refl _ | apply Bel.drew | apply Bel.alloc))); done) | (refine hsp1.bel (Bel.trans ?_ hv2); (with_reducible (repeat (first | exact Bel.refl _ | apply Bel.drew | apply Bel.alloc))); done)); (case b3 => first | (with_reducible exact hsp2) | (refine hsp2.bel ?_; (with_reducible (repeat (first | exact Bel.refl _ | apply Bel.drew | apply Bel.alloc))); done) | (refine hsp2.bel (Bel.trans ?_ hv1); (with_reducible (repeat (first | exact Bel.refl _ | apply Bel.drew | apply Bel.alloc))); done)); rintro e u3 ⟨rfl, hv3, hb3, hk3⟩)
          | (go_at_call 21; (with_reducible refine (HC4.out _ ?b1).mono ?_); (case b1 => (repeat (first | (with_reducible assumption) | exact Bel.refl _ | apply Bel.drew | apply Bel.alloc))); rintro e u4 ⟨d4, cd4, rfl, hsp4, hv4, hb4, hk4⟩)
          | (go_at_call 22; (with_reducible refine (HC5.out _ ?b1).mono ?_); (case b1 => (repeat (first | (with_reducible assumption) | exact Bel.refl _ | apply Bel.drew | apply Bel.alloc))); rintro e u5 ⟨d5, cd5, rfl, hsp5, hv5, hb5, hk5⟩)
          | (go_at_call 20; (with_reducible refine (HC6.out _ _ _ _ _ ?b1 ?b2 ?b3).mono ?_); (case b1 => (repeat (first | (with_reducible assumption) | exact Bel.refl _ | apply Bel.drew | apply Bel.alloc))); (case b2 => first | (with_reducible exact hsp4) | (refine hsp4.bel ?_; (with_reducible (repeat (first | exact Bel.refl _ | apply Bel.drew | apply Bel.alloc))); done) | (refine hsp4.bel (Bel.trans ?_ hv5); (with_reducible (repeat (first | exact Bel.refl _ | apply Bel.drew | apply Bel.alloc))); done)); (case b3 => first | (with_reducible exact hsp5) | (refine hsp5.bel ?_; (with_reducible (repeat (first | exact Bel.refl _ | apply Bel.drew | apply Bel.alloc))); done) | (refine hsp5.bel (Bel.trans ?_ hv4); (with_reducible (repeat (first | exact Bel.refl _ | apply Bel.drew | apply Bel.alloc))); done)); rintro e u6 ⟨rfl, hv6, hb6, hk6⟩)
          | (go_at_call 8; (with_reducible refine (HC7.out _ ?b1).mono ?_); (case b1 => (repeat (first | (with_reducible assumption) | exact Bel.refl _ | apply Bel.drew | apply Bel.alloc))); rintro e u7 ⟨rfl, hv7, hb7, hk7⟩)
          | (go_at_call 5; (with_reducible refine (HC8.out _ ?b1).mono ?_); (case b1 => (repeat (first | (with_reducible assumption) | exact Bel.refl _ | apply Bel.drew | apply Bel.alloc))); rintro e u8 ⟨rfl, hv8, hb8, hk8⟩))
        all_goals
          go_wp2
          go_ret
          exact ⟨rfl, HBW.out.trans (by repeat (first | (with_reducible assumption) | exact Bel.refl _ | apply Bel.drew | apply Bel.alloc))⟩
end Go.Proofs.YthkbhikiljlgoaaGreat

namespace Go.Proofs.YthkbhikiljlgoaaGreat.heapPlays
open Go.ChangeShapes Go.WideShapes Go.ChangeAt Go.RowKit
set_option linter.unusedVariables false

set_option maxRecDepth 100000 in
theorem lifted (os : Os) (started : os.Started) (H : Type) (enc : TypeId × Value → H) :
    ReturnsInHanded {} Tryz.checked os 3 .any (Rows.heapPlaysSpec.pre6 enc Tryz.prog Tryz.f3 Rows.heapPlaysRow.domain false) (Rows.heapPlaysSpec.post enc Tryz.prog Tryz.f3 false true false false) := by
  refine returnsInHanded_of_change (C := Tryz.checked) lk_own started (by kernel_rfl) Tryz.func3
    (ChangeSpec.witness6 (enc := enc) (C := Tryz.checked) false ⟨#[], #[.int .i64 0, .slice none 0 0, .int .i64 0, .int .i64 0], []⟩ 8 (by kernel_rfl) (by kernel_rfl) (by kernel_rfl) (by kernel_rfl)) ?_
  intro W base args ds gs before hval0 hW hcnd _
  have hval : ∀ (j : Nat) t v, Tryz.f3.params[j]? = some t → args[j]? = some v → Value.okWide Tryz.prog W .any base t v := hval0
  have hW' := hW
  obtain ⟨p, q, hA0, hV, rfl, hfz, hnd⟩ := hW
  have hA : DataW.TrodAll enc Tryz.prog W 0 (fun _ => true) true Tryz.f3.params.toList args.toList ds p := hA0
  rw [Tryz.params3] at hA hval
  obtain ⟨v0, vs0, d0, ds0, p0, q0, hargs, rfl, rfl, h0, r_0⟩ := trodAll_cons hA
  obtain ⟨v1, vs1, d1, ds1, p1, q1, rfl, rfl, rfl, h1, r_1⟩ := trodAll_cons r_0
  obtain ⟨v2, vs2, d2, ds2, p2, q2, rfl, rfl, rfl, h2, r_2⟩ := trodAll_cons r_1
  obtain ⟨v3, vs3, d3, ds3, p3, q3, rfl, rfl, rfl, h3, r_3⟩ := trodAll_cons r_2
  obtain ⟨rfl, rfl, rfl⟩ := trodAll_nil r_3
  obtain rfl : args = #[v0, v1, v2, v3] := by cases args; simp_all
  obtain ⟨rfl, rfl⟩ := trodVars_none hV
  obtain ⟨a0, rfl, rfl, rfl, w0⟩ := open_int Tryz.underlying3 (hval 0 3 v0 rfl rfl) h0
  obtain ⟨s1, l1, c1, rfl⟩ := okWide_slice Tryz.underlying22 (hval 1 22 v1 rfl rfl)
  have k1 := h1
  have lt1 : ∀ x ∈ p1, x.block < W.heap.size := by obtain ⟨m, hm⟩ := k1; exact DataW.trod_lt m _ _ _ hm
  obtain ⟨x1, r1⟩ := arg_acts07 h1
  obtain ⟨a2, rfl, rfl, rfl, w2⟩ := open_int Tryz.underlying3 (hval 2 3 v2 rfl rfl) h2
  obtain ⟨a3, rfl, rfl, rfl, w3⟩ := open_int Tryz.underlying3 (hval 3 3 v3 rfl rfl) h3
  clear hA0 hval0
  refine (heapPlays_walk a0 s1 x1 l1 c1 a2 a3 W (i64_of_wf w0) r1 (i64_of_wf w2) (i64_of_wf w3)).mono fun e W' ⟨he, bel⟩ => ?_
  subst he
  exact ⟨_, rfl, _, _, _, [], _, [], hW', trodAll_mk1 (shut_bool Tryz.underlying4 _), (trodAll_cons_mk (shut_int Tryz.underlying3 w0) (trodAll_cons_mk (Below.trod lk_laid (by kernel_rfl) (of_decide_eq_true (by kernel_rfl)) k1 bel lt1) (trodAll_cons_mk (shut_int Tryz.underlying3 w2) (trodAll_cons_mk (shut_int Tryz.underlying3 w3) trodAll_mk0)))), rfl, Below.frame bel _, fun h => by cases h⟩

theorem over : Rows.heapPlaysRow.holds Tryz.pinned (OpenSpec.ofChange Rows.heapPlaysSpec) :=
  OpenClaim.holds_of_wide 3 Tryz.f3 rfl rfl rfl rfl rfl rfl rfl ⟨rfl, rfl, rfl, rfl, rfl⟩ rfl rfl rfl rfl rfl (by kernel_rfl) Tryz.func3 (by kernel_rfl)
    (of_decide_eq_true (by kernel_rfl)) (by unfold Func.isWrapper; first | (rw [if_pos (by decide +kernel)]; kernel_rfl) | (rw [if_neg (by decide +kernel)]; exact ⟨rfl, rfl⟩))
    (fun os started H enc _ => lifted os started H enc)

theorem proved : Rows.HeapPlaysSaid := over
#print axioms proved
end Go.Proofs.YthkbhikiljlgoaaGreat.heapPlays
