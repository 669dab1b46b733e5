/- Package index: At. arena.Page and Base. Package index: Of. Layer 7: spans in memory; the twin's Same; acts that came in. Layer 7: live heaps; awake; acts that came in. The slow twin of layer 5: Same. -/
import Derived.Test.YthkbhikiljlgoaaGreatGHeapPlays1
import Derived.Test.YthkbhikiljlgoaaGreatGHeapPlays7
import Derived.Test.YthkbhikiljlgoaaGreatGHeapPlays5
import Derived.Test.YthkbhikiljlgoaaGreatGHeapPlays0
import Derived.Deep.QuietTactic
import Derived.BigQuiet
import Derived.Laws.StructEq
set_option linter.unusedVariables false
set_option linter.unusedSimpArgs false
namespace Go.Proofs.YthkbhikiljlgoaaGreat
open Go.RowKit

set_option maxHeartbeats 1000000 in
set_option maxRecDepth 20000 in
theorem ref5_Same (a b : Option Addr) (xs ys : List Rn) (n c m d : Nat) (w : World) (hn : n = xs.length) (hm : m = ys.length) (hl : xs.length ≤ 65536) (hl' : ys.length ≤ 65536) (ha : RunsIn w a xs) (hb : RunsIn w b ys) :
    Calls Tryz.prog 20 #[.slice a n c, .slice b m d] w fun e w' => e = .returned (.bool (decide (xs = ys))) ∧ Bel w w' := by
  subst hn hm
  by_cases hne : xs.length = ys.length
  · have HA := Lib.hid ha
    have HB := Lib.hid hb
    have HNE := Lib.hid hne
    have e0 : ((xs.length : Int) != (ys.length : Int)) = false := by simp [hne]
    clear ha hb
    rw [← hne]
    rw [← hne] at e0 hl'
    clear hne
    go_enter Tryz.func20, Tryz.ntmps20
    go_wp2_with fail
    go_loopw [13] (fun k wr => ∃ i : Nat, i ≤ xs.length ∧ k = .int .i64 i ∧ xs.take i = ys.take i ∧ Bel w wr) (fun k wr => xs.length - (intOf k).toNat)
    case atStart => exact ⟨0, Nat.zero_le _, rfl, by simp, Bel.refl _⟩
    case round =>
      obtain ⟨i, hi, rfl, hpre, hB⟩ := hrel
      have HPRE := Lib.hid hpre
      clear hpre
      by_cases hlt : i < xs.length
      · have hlty : i < ys.length := by rw [← HNE.out]; exact hlt
        obtain ⟨b1, o1, rfl, p0, p1⟩ := (HA.out.bel hB).at i hlt
        obtain ⟨b2, o2, rfl, q0, q1⟩ := (HB.out.bel hB).at i hlty
        have hsx : xs.take (i + 1) = xs.take i ++ [xs[i]] := List.take_succ_eq_append_getElem hlt
        have hsy : ys.take (i + 1) = ys.take i ++ [ys[i]] := List.take_succ_eq_append_getElem hlty
        obtain ⟨x, hx⟩ : ∃ x, xs[i] = x := ⟨_, rfl⟩
        obtain ⟨y, hy⟩ : ∃ y, ys[i] = y := ⟨_, rfl⟩
        rw [hx] at p0 p1 hsx
        rw [hy] at q0 q1 hsy
        have hx' : xs[i]? = some x := by rw [List.getElem?_eq_getElem hlt, hx]
        have hy' : ys[i]? = some y := by rw [List.getElem?_eq_getElem hlty, hy]
        have HXY := Lib.hid (And.intro hx' hy')
        have HS := Lib.hid (And.intro hsx hsy)
        have HBB := Lib.hid hB
        obtain ⟨x1, x2⟩ := x
        obtain ⟨y1, y2⟩ := y
        dsimp only at p0 p1 q0 q1
        clear hx hy hx' hy' hsx hsy hB hlty
        have hcs : (x1 = y1 ∧ x2 = y2) ∨ (x1 ≠ y1 ∨ (x1 = y1 ∧ x2 ≠ y2)) := by omega
        rcases hcs with ⟨rfl, rfl⟩ | hcs
        · have e1 : (x1 != x1) = false := by simp
          have e2 : (x2 != x2) = false := by simp
          go_wp2_with fail
          go_region
          go_wp2
          go_roundw
          case rel => exact ⟨i + 1, by omega, by go_num, by rw [HS.out.1, HS.out.2, HPRE.out], HBB.out.drew⟩
          case measure => simp [intOf]; omega
        · have HNO : Hid (decide (xs = ys) = false) := Lib.hid (by
            rw [decide_eq_false_iff_not]
            intro h
            have h1 : xs[i]? = ys[i]? := by rw [h]
            rw [HXY.out.1, HXY.out.2] at h1
            have h2 := Option.some.inj h1
            have h3 := congrArg Prod.fst h2
            have h4 := congrArg Prod.snd h2
            dsimp only at h3 h4
            rcases hcs with h9 | ⟨_, h9⟩
            · exact h9 h3
            · exact h9 h4)
          rcases hcs with h9 | ⟨rfl, h9⟩
          · have e1 : (x1 == y1) = false := by simp [h9]
            go_wp2_with fail
            go_region
            go_wp2
            go_ret
            exact ⟨by rw [HNO.out]; rfl, HBB.out.drew⟩
          · have e1 : (x1 == x1) = true := by simp
            have e2 : (x2 == y2) = false := by simp [h9]
            go_wp2_with fail
            go_region
            go_wp2
            go_ret
            exact ⟨by rw [HNO.out]; rfl, HBB.out.drew⟩
      · obtain rfl : i = xs.length := by omega
        have HE : Hid (decide (xs = ys) = true) := Lib.hid (by
          rw [decide_eq_true_eq]
          have := HPRE.out
          rw [List.take_length, HNE.out, List.take_length] at this
          exact this)
        go_wp2
        go_ret
        exact ⟨by rw [HE.out]; rfl, hB⟩
  · have e0 : ((xs.length : Int) != (ys.length : Int)) = true := by rw [bne_iff_ne]; omega
    have HNO : Hid (decide (xs = ys) = false) := Lib.hid (by rw [decide_eq_false_iff_not]; intro h; exact hne (by rw [h]))
    go_enter Tryz.func20, Tryz.ntmps20
    go_wp2
    go_ret
    exact ⟨by rw [HNO.out]; rfl, Bel.refl _⟩
end Go.Proofs.YthkbhikiljlgoaaGreat

namespace Go.Proofs.YthkbhikiljlgoaaGreat
open Go.ChangeShapes Go.WideShapes Go.ChangeAt Go.RowKit Go.Deep

/-- A heap that the law made, with blocks that are not its own. -/
structure LiveH (w0 : World) (N : Nat → Prop) (w : World) (h bi : Nat) (L : List Rn) (ids : List Int) (S : List Sp) (last : Nat) : Prop where
  at_ : ∃ rb v bx bm, HeapAt w h rb v bx bi bm L ids S last ∧ ∀ k, footH h rb v bx bi bm k → w0.heap.size ≤ k ∧ ¬ N k
  bel : Bel w0 w
  keep : ∀ k, N k → k < w.heap.size
theorem LiveH.then_bel {w0 : World} {N : Nat → Prop} {w w' : World} {h bi : Nat} {L : List Rn} {ids : List Int} {S : List Sp} {last : Nat} (H : LiveH w0 N w h bi L ids S last) (k : Bel w w') : LiveH w0 N w' h bi L ids S last := by
  obtain ⟨rb, v, bx, bm, h1, h2⟩ := H.at_
  exact ⟨⟨rb, v, bx, bm, h1.bel k, h2⟩, H.bel.trans k, fun i hi => Nat.lt_of_lt_of_le (H.keep i hi) k.size⟩
theorem LiveH.inv {w0 : World} {N : Nat → Prop} {w : World} {h bi : Nat} {L : List Rn} {ids : List Int} {S : List Sp} {last : Nat} (H : LiveH w0 N w h bi L ids S last) : HInv ids L S last := by
  obtain ⟨rb, v, bx, bm, h1, h2⟩ := H.at_
  exact h1.inv
theorem LiveH.watch {w0 : World} {N : Nat → Prop} {w w' : World} {h bi : Nat} {L : List Rn} {ids : List Int} {S : List Sp} {last : Nat} (H : LiveH w0 N w h bi L ids S last) (k : Bel w w') (M : Nat → Prop) (hM : ∀ i, M i → w.heap.size ≤ i ∧ i < w'.heap.size) : LiveH w0 (fun i => N i ∨ M i) w' h bi L ids S last := by
  obtain ⟨rb, v, bx, bm, h1, h2⟩ := H.at_
  refine ⟨⟨rb, v, bx, bm, h1.bel k, fun i hi => ⟨(h2 i hi).1, ?_⟩⟩, H.bel.trans k, fun i hi => ?_⟩
  · rintro (h9 | h9)
    · exact (h2 i hi).2 h9
    · have := h1.lt hi; have := (hM i h9).1; omega
  · rcases hi with hi | hi
    · exact Nat.lt_of_lt_of_le (H.keep i hi) k.size
    · exact (hM i hi).2
theorem LiveH.forget {w0 : World} {N N' : Nat → Prop} {w : World} {h bi : Nat} {L : List Rn} {ids : List Int} {S : List Sp} {last : Nat} (H : LiveH w0 N w h bi L ids S last) (hN : ∀ k, N' k → N k) : LiveH w0 N' w h bi L ids S last := by
  obtain ⟨rb, v, bx, bm, h1, h2⟩ := H.at_
  exact ⟨⟨rb, v, bx, bm, h1, fun k hk => ⟨(h2 k hk).1, fun h9 => (h2 k hk).2 (hN k h9)⟩⟩, H.bel, fun k hk => H.keep k (hN k hk)⟩
theorem LiveH.fr {w0 : World} {N Q : Nat → Prop} {w w' : World} {h bi : Nat} {L : List Rn} {ids : List Int} {S : List Sp} {last : Nat} (H : LiveH w0 N w h bi L ids S last) (k : Fr Q w w') (hQ : ∀ i, Q i → N i ∧ w0.heap.size ≤ i) : LiveH w0 N w' h bi L ids S last := by
  obtain ⟨rb, v, bx, bm, h1, h2⟩ := H.at_
  exact ⟨⟨rb, v, bx, bm, h1.fr k (fun i hi hq => (h2 i hi).2 (hQ i hq).1), h2⟩, Fr.bel ((Fr.of_bel (S := Q) H.bel).trans' k) (fun i hi => (hQ i hi).2), fun i hi => Nat.lt_of_lt_of_le (H.keep i hi) k.size⟩
/-- Numbers in a row of one's own that is no elder than B: not the heap's. -/
theorem LiveH.own_int {w0 : World} {N : Nat → Prop} {w : World} {h bi B n : Nat} {L : List Rn} {ids : List Int} {S : List Sp} {last : Nat} {u : Value} {vs : List Value} (H : LiveH w0 N w h bi L ids S last) (ho : w.ownsRow B 3 1 u n vs) (hb : bi < B) : LiveH w0 (fun i => N i ∨ u.ownBlock = some i) w h bi L ids S last := by
  obtain ⟨rb, v, bx, bm, h1, h2⟩ := H.at_
  refine ⟨⟨rb, v, bx, bm, h1, fun k hk => ⟨(h2 k hk).1, ?_⟩⟩, H.bel, fun k hk => ?_⟩
  · rintro (h9 | h9)
    · exact (h2 k hk).2 h9
    · obtain ⟨cur, hc⟩ := own_type ho h9
      have hB := (ho.lt k h9).1
      rcases hk with e | e | e | e | e | e
      · subst e; rw [h1.hd] at hc; simp at hc
      · subst e; rw [h1.free.hd] at hc; simp at hc
      · obtain ⟨c2, hc2⟩ := own_type h1.free.own e; rw [hc2] at hc; simp at hc
      · subst e; rw [h1.index.hd] at hc; simp at hc
      · subst e; omega
      · subst e
        obtain ⟨es, ck, hm⟩ := h1.spans.map?
        rw [hm] at hc; simp at hc
  · rcases hk with hk | hk
    · exact H.keep k hk
    · exact (ho.lt k hk).2
theorem LiveH.bi_lt {w0 : World} {N : Nat → Prop} {w : World} {h bi : Nat} {L : List Rn} {ids : List Int} {S : List Sp} {last : Nat} (H : LiveH w0 N w h bi L ids S last) : bi < w.heap.size := by
  obtain ⟨rb, v, bx, bm, h1, h2⟩ := H.at_
  exact heap_lt h1.index.nums
/-- What an act on it leaves. -/
def LivePostH (w0 : World) (N : Nat → Prop) (w : World) (h bi : Nat) (L : List Rn) (ids : List Int) (S : List Sp) (last : Nat) (w' : World) : Prop :=
  LiveH w0 N w' h bi L ids S last ∧ Fr (fun k => ¬ N k) w w'
theorem liveH_post {w0 : World} {N : Nat → Prop} {w w' : World} {h rb : Nat} {v : Value} {bx bi bm : Nat} {L : List Rn} {ids : List Int} {S : List Sp} {last : Nat} (hB : Bel w0 w) (hk : ∀ k, N k → k < w.heap.size) (h2 : ∀ k, footH h rb v bx bi bm k → w0.heap.size ≤ k ∧ ¬ N k)
    (hP : HPost w h rb v bx bi bm L ids S last w') : LivePostH w0 N w h bi L ids S last w' := by
  obtain ⟨v', h3, h4, h5⟩ := hP
  refine ⟨⟨⟨rb, v', bx, bm, h3, fun k hk9 => ?_⟩, Fr.bel ((Fr.of_bel (S := footH h rb v bx bi bm) hB).trans' h5) (fun k hk9 => (h2 k hk9).1), fun k hk9 => Nat.lt_of_lt_of_le (hk k hk9) h5.size⟩, h5.mono (fun k hk9 => (h2 k hk9).2)⟩
  have old : footH h rb v bx bi bm k → w0.heap.size ≤ k ∧ ¬ N k := h2 k
  rcases hk9 with e | e | e | e | e | e
  · exact old (.inl e)
  · exact old (.inr (.inl e))
  · rcases h4 k e with h9 | h9
    · exact old (.inr (.inr (.inl h9)))
    · exact ⟨Nat.le_trans hB.size h9, fun hN => by have := hk k hN; omega⟩
  · exact old (.inr (.inr (.inr (.inl e))))
  · exact old (.inr (.inr (.inr (.inr (.inl e)))))
  · exact old (.inr (.inr (.inr (.inr (.inr e)))))
theorem liveH_new {w w' : World} {n : Nat} {e : Ending} (h : NewH w n e w') : ∃ h bi, e = .returned (.tuple #[.pointer (some ⟨h, 0, none⟩), .int .i64 0]) ∧ LiveH w (fun _ => False) w' h bi [(0, (n : Int))] (List.replicate n 0) [] 0 := by
  obtain ⟨h, rb, v, bx, bi, bm, rfl, h1, h2, h3⟩ := h
  exact ⟨h, bi, rfl, ⟨rb, v, bx, bm, h1, fun k hk => ⟨h3 k hk, fun h => h⟩⟩, h2, fun _ h => h.elim⟩
/-- What Make does. -/
def MakeR (ids : List Int) (L : List Rn) (S : List Sp) (last : Nat) (n ord : Int) (s : Sp) (en : Int) (L' : List Rn) (ids' : List Int) (S' : List Sp) (last' : Nat) : Prop :=
  ((n < 1 ∨ ord < -1 ∨ 4 ≤ ord) ∧ s = sp0 ∧ en = 1 ∧ L' = L ∧ ids' = ids ∧ S' = S ∧ last' = last) ∨
  (1 ≤ n ∧ -1 ≤ ord ∧ ord < 4 ∧ bestF L n = (0, 0) ∧ s = sp0 ∧ en = 3 ∧ L' = L ∧ ids' = ids ∧ S' = S ∧ last' = last) ∨
  (1 ≤ n ∧ -1 ≤ ord ∧ ord < 4 ∧ ∃ t, Made ids L S last n ord t L' ids' ∧ (bestF L n).1 = t ∧ 0 < (bestF L n).2 ∧ s = ((last : Int) + 1, (t, n), ord) ∧ en = 0 ∧ S' = S ++ [s] ∧ last' = last + 1)
theorem liveH_Make {w0 : World} {N : Nat → Prop} {w : World} {h bi : Nat} {L : List Rn} {ids : List Int} {S : List Sp} {last : Nat} (H : LiveH w0 N w h bi L ids S last) (n ord : Int) (hn : I64 n) (ho : I64 ord) (hl : last < 65536) :
    ∃ s en L' ids' S' last', MakeR ids L S last n ord s en L' ids' S' last' ∧ ∀ V, Bel w V → Calls Tryz.prog 12 #[.pointer (some ⟨h, 0, none⟩), .int .i64 n, .int .i64 ord] V fun e V' => e = .returned (.tuple #[spV s, .int .i64 en]) ∧ LivePostH w0 N w h bi L' ids' S' last' V' := by
  obtain ⟨rb, v, bx, bm, h1, h2⟩ := H.at_
  have fin : ∀ {L' : List Rn} {ids' : List Int} {S' : List Sp} {last' : Nat} (V V' : World), Bel w V → HPost V h rb v bx bi bm L' ids' S' last' V' → LivePostH w0 N w h bi L' ids' S' last' V' := fun V V' hV hP =>
    liveH_post H.bel H.keep h2 (hP.from hV)
  by_cases c : n < 1 ∨ ord < -1 ∨ 4 ≤ ord
  · refine ⟨sp0, 1, L, ids, S, last, .inl ⟨c, rfl, rfl, rfl, rfl, rfl, rfl⟩, fun V hV => ?_⟩
    exact (heap_Make_bad _ n ord V hn ho c).mono fun e V' ⟨he, hB⟩ => ⟨he, fin V V' hV (HPost.same (h1.bel hV) hB)⟩
  · have c1 : 1 ≤ n := by omega
    have c2 : -1 ≤ ord ∧ ord < 4 := by omega
    rcases h1.inv.make n ord with ⟨ht, hb⟩ | ⟨t, L', ids', hM, _, hb1, hb2⟩
    · exact ⟨sp0, 3, L, ids, S, last, .inr (.inl ⟨c1, c2.1, c2.2, hb, rfl, rfl, rfl, rfl, rfl, rfl⟩), fun V hV => (heap_Make_none V (h1.bel hV) n ord ht hn c1 c2).mono fun e V' ⟨he, hP⟩ => ⟨he, fin V V' hV hP⟩⟩
    · exact ⟨_, 0, L', ids', _, last + 1, .inr (.inr ⟨c1, c2.1, c2.2, t, hM, hb1, hb2, rfl, rfl, rfl, rfl⟩), fun V hV => (heap_Make V (h1.bel hV) n ord t L' ids' hM c1 c2 hl).mono fun e V' ⟨he, hP⟩ => ⟨he, fin V V' hV hP⟩⟩
theorem liveH_Runs {w0 : World} {N : Nat → Prop} {w : World} {h bi : Nat} {L : List Rn} {ids : List Int} {S : List Sp} {last : Nat} (H : LiveH w0 N w h bi L ids S last) :
    ∀ V, Bel w V → Calls Tryz.prog 21 #[.pointer (some ⟨h, 0, none⟩)] V (NewRuns V L) := by
  obtain ⟨rb, v, bx, bm, h1, h2⟩ := H.at_
  exact fun V hV => heap_Runs V (h1.bel hV)
theorem liveH_Spans {w0 : World} {N : Nat → Prop} {w : World} {h bi : Nat} {L : List Rn} {ids : List Int} {S : List Sp} {last : Nat} (H : LiveH w0 N w h bi L ids S last) :
    ∀ V, Bel w V → Calls Tryz.prog 18 #[.pointer (some ⟨h, 0, none⟩)] V (RisenSpans V S) := by
  obtain ⟨rb, v, bx, bm, h1, h2⟩ := H.at_
  exact fun V hV => heap_Spans V (h1.bel hV)
theorem liveH_Size {w0 : World} {N : Nat → Prop} {w : World} {h bi : Nat} {L : List Rn} {ids : List Int} {S : List Sp} {last : Nat} (H : LiveH w0 N w h bi L ids S last) :
    ∀ V, Bel w V → Calls Tryz.prog 8 #[.pointer (some ⟨h, 0, none⟩)] V fun e V' => e = .returned (.int .i64 ids.length) ∧ V = V' := by
  obtain ⟨rb, v, bx, bm, h1, h2⟩ := H.at_
  exact fun V hV => heap_Size V (h1.bel hV)
/-- What Free does. -/
def FreeR (ids : List Int) (L : List Rn) (S : List Sp) (last : Nat) (l : List Int) (en : Int) (L' : List Rn) (ids' : List Int) (S' : List Sp) : Prop :=
  (FreeOk S l ∧ en = 0 ∧ Freed ids L S last l L' ids' ∧ S' = S.filter fun s => !decide (s.1 ∈ l)) ∨ (¬ FreeOk S l ∧ en = 6 ∧ L' = L ∧ ids' = ids ∧ S' = S)
theorem liveH_Free {w0 : World} {N : Nat → Prop} {w : World} {h bi : Nat} {L : List Rn} {ids : List Int} {S : List Sp} {last : Nat} (H : LiveH w0 N w h bi L ids S last) (l : List Int) (hl : l.length ≤ 1024) (hok : ∀ k ∈ l, (Lit.int .i64 k).wf = true) :
    ∀ V a c, Bel w V → RdV V a (ints l) → Calls Tryz.prog 10 #[.pointer (some ⟨h, 0, none⟩), .slice a l.length c] V fun e V' => ∃ en L' ids' S', FreeR ids L S last l en L' ids' S' ∧ e = .returned (.int .i64 en) ∧ LivePostH w0 N w h bi L' ids' S' last V' := by
  obtain ⟨rb, v, bx, bm, h1, h2⟩ := H.at_
  intro V a c hV hr
  refine (heap_Free V (h1.bel hV) a l l.length c rfl hl hr hok).mono ?_
  rintro e V' (⟨hf, rfl, L', ids', hfr, hP⟩ | ⟨hf, rfl, hP⟩)
  · exact ⟨0, L', ids', _, .inl ⟨hf, rfl, hfr, rfl⟩, rfl, liveH_post H.bel H.keep h2 (hP.from hV)⟩
  · exact ⟨6, L, ids, S, .inr ⟨hf, rfl, rfl, rfl, rfl⟩, rfl, liveH_post H.bel H.keep h2 (hP.from hV)⟩

/-! ### awake -/
theorem awake7_best : bestF [(0, 8)] 3 = (0, 8) := by decide
set_option maxHeartbeats 1000000 in
set_option maxRecDepth 20000 in
theorem awake07 (w : World) : Calls Tryz.prog 5 #[] w fun e w' => e = .returned (.bool true) ∧ Bel w w' := by
  go_enter Tryz.func5, Tryz.ntmps5
  go_wp2_with fail
  refine (heap_New 8 w (by omega) (by omega)).mono ?_
  rintro e w1 hN
  obtain ⟨h, bi, rfl, hL⟩ := liveH_new hN
  obtain ⟨s, en, L', ids', S', last', hR, hC⟩ := liveH_Make hL 3 0 ⟨by omega, by omega⟩ ⟨by omega, by omega⟩ (by omega)
  have hs : s = (1, (0, 3), 0) ∧ en = 0 ∧ ids'.length = 8 := by
    rcases hR with ⟨h9, _⟩ | ⟨_, _, _, h9, _⟩ | ⟨_, _, _, t, hM, ht, _, rfl, rfl, rfl, rfl⟩
    · omega
    · have h8 : bestF [(0, ((8 : Nat) : Int))] 3 = (0, 8) := awake7_best
      rw [h8] at h9; cases h9
    · have h8 : bestF [(0, ((8 : Nat) : Int))] 3 = (0, 8) := awake7_best
      rw [h8] at ht
      subst ht
      exact ⟨rfl, rfl, by rw [hM.len]; rfl⟩
  obtain ⟨rfl, rfl, h8⟩ := hs
  have HC := Lib.hid (hC w1 (Bel.refl _))
  have HB1 := Lib.hid hL.bel
  have H8 := Lib.hid h8
  clear hC hN hL hR h8
  go_wp2_with fail
  refine HC.out.mono ?_
  rintro e w2 ⟨rfl, hL2, hF2⟩
  have HL2 := Lib.hid hL2
  have hsz := liveH_Size (hL2.then_bel ((Bel.refl w2).alloc (.cells #[.int .i64 1, .int .i64 0, .int .i64 3, .int .i64 0] 43))) _ (Bel.refl _)
  rw [H8.out] at hsz
  have HS := Lib.hid hsz
  obtain ⟨r0, r1, r2, r3⟩ := four_cells (blk_alloc w2 (.cells #[.int .i64 1, .int .i64 0, .int .i64 3, .int .i64 0] 43))
  clear hL2 hF2 hsz
  simp only [spV]
  go_wp2_with fail
  refine HS.out.mono ?_
  rintro e w3 ⟨rfl, rfl⟩
  go_wp2
  go_ret
  exact ⟨rfl, HL2.out.bel.alloc _⟩
end Go.Proofs.YthkbhikiljlgoaaGreat

namespace Go.Proofs.YthkbhikiljlgoaaGreat
open Go.ChangeShapes Go.WideShapes Go.ChangeAt Go.RowKit Go.Deep

/-- A slice of spans. -/
def SpansIn (w : World) (a : Option Addr) (zs : List Sp) : Prop := zs = [] ∨ ∃ b o, a = some ⟨b, o, none⟩ ∧ ∀ i (h : i < zs.length), w.rangeAt b (o + i * 4) (spCells zs[i])
theorem SpansIn.of_row {w : World} {a : Option Addr} {zs : List Sp} (h : RdV w a (spCellsOf zs)) : SpansIn w a zs := by
  rcases h with h | ⟨b, o, e, h⟩
  · left
    have := spCellsOf_length zs
    rw [h] at this
    exact List.eq_nil_of_length_eq_zero (by simp at this; omega)
  · refine .inr ⟨b, o, e, fun i hi j v hv => ?_⟩
    have hj : j < 4 := by have := (List.getElem?_eq_some_iff.1 hv).1; simpa [spCells] using this
    have hl := spCellsOf_length zs
    have h1 := h (i * 4 + j) (by omega)
    have h2 := spCellsOf_get zs i hi j hj
    rw [hv, List.getElem?_eq_getElem (by omega), Option.some.injEq] at h2
    rw [h2] at h1
    rw [show o + i * 4 + j = o + (i * 4 + j) by omega]
    exact h1
theorem SpansIn.bel {w w' : World} {a : Option Addr} {zs : List Sp} (h : SpansIn w a zs) (k : Bel w w') : SpansIn w' a zs := by
  rcases h with h | ⟨b, o, e, h⟩
  · exact .inl h
  · exact .inr ⟨b, o, e, fun i hi j v hv => k.cell (h i hi j v hv)⟩
theorem SpansIn.watched {N : Nat → Prop} {w w' : World} {a : Option Addr} {zs : List Sp} (h : SpansIn w a zs) (k : Fr (fun i => ¬ N i) w w') (hN : ∀ p, a = some p → N p.block) : SpansIn w' a zs := by
  rcases h with h | ⟨b, o, e, h⟩
  · exact .inl h
  · exact .inr ⟨b, o, e, fun i hi j v hv => k.cell (h i hi j v hv) (fun h9 => h9 (show N b from hN ⟨b, o, none⟩ e))⟩
theorem SpansIn.at {w : World} {a : Option Addr} {zs : List Sp} (h : SpansIn w a zs) (i : Nat) (hi : i < zs.length) : ∃ b o, a = some ⟨b, o, none⟩ ∧ w.cell? ⟨b, o + i * 4, none⟩ = some (.int .i64 zs[i].1) ∧ w.cell? ⟨b, o + i * 4 + 1, none⟩ = some (.int .i64 zs[i].2.1.1) ∧ w.cell? ⟨b, o + i * 4 + 2, none⟩ = some (.int .i64 zs[i].2.1.2) ∧ w.cell? ⟨b, o + i * 4 + 3, none⟩ = some (.int .i64 zs[i].2.2) := by
  rcases h with h | ⟨b, o, e, h⟩
  · subst h; simp at hi
  · exact ⟨b, o, e, h i hi 0 _ rfl, h i hi 1 _ rfl, h i hi 2 _ rfl, h i hi 3 _ rfl⟩
set_option maxRecDepth 20000 in
theorem ref7_same (a b : Option Addr) (zs : List Sp) (c d : Nat) (w : World) (hl : zs.length ≤ 65536) (ha : SpansIn w a zs) (hb : SpansIn w b zs) :
    Calls Tryz.prog 17 #[.slice a zs.length c, .slice b zs.length d] w fun e w' => e = .returned (.bool true) ∧ Bel w w' := by
  have HA := Lib.hid ha
  have HB := Lib.hid hb
  clear ha hb
  go_enter Tryz.func17, Tryz.ntmps17
  go_wp2_with fail
  go_loopw [13] (fun k wr => ∃ i : Nat, i ≤ zs.length ∧ k = .int .i64 i ∧ Bel w wr) (fun k wr => zs.length - (intOf k).toNat)
  case atStart => exact ⟨0, Nat.zero_le _, rfl, Bel.refl _⟩
  case round =>
    obtain ⟨i, hi, rfl, hB⟩ := hrel
    by_cases hlt : i < zs.length
    · obtain ⟨b1, o1, rfl, p0, p1, p2, p3⟩ := (HA.out.bel hB).at i hlt
      obtain ⟨b2, o2, rfl, q0, q1, q2, q3⟩ := (HB.out.bel hB).at i hlt
      obtain ⟨x, hx⟩ : ∃ x, zs[i] = x := ⟨_, rfl⟩
      rw [hx] at p0 p1 p2 p3 q0 q1 q2 q3
      obtain ⟨x1, ⟨x2, x3⟩, x4⟩ := x
      dsimp only at p0 p1 p2 p3 q0 q1 q2 q3
      have HBB := Lib.hid hB
      clear hB hx
      go_wp2_with fail
      go_region
      go_wp2
      go_roundw
      case rel => exact ⟨i + 1, by omega, by go_num, HBB.out.drew⟩
      case measure => simp [intOf]; omega
    · obtain rfl : i = zs.length := by omega
      go_wp2
      go_ret
      exact ⟨rfl, hB⟩
/-- Spans sorted by where they start are one row. -/
theorem sorted_unique {ids : List Int} {L : List Rn} {S S' z1 z2 : List Sp} {last : Nat} (h : HInv ids L S last) (hp : S'.Perm S) (h1 : SortedSpans S z1) (h2 : SortedSpans S' z2) : z1 = z2 := by
  have hpm : z1.Perm z2 := (h1.1.trans hp.symm).trans h2.1.symm
  have pw : ∀ {T z : List Sp}, SortedSpans T z → z.Pairwise (fun a b => a.2.1.1 ≤ b.2.1.1) := fun {T z} hz => List.pairwise_iff_getElem.2 (fun i j hi hj hij => hz.2 i j hij hj)
  refine List.Perm.eq_of_pairwise (le := fun a b => a.2.1.1 ≤ b.2.1.1) (fun a b ha hb hab hba => ?_) (pw h1) (pw h2) hpm
  have ma : a ∈ S := h1.1.mem_iff.1 ha
  have mb : b ∈ S := hp.mem_iff.1 (h2.1.mem_iff.1 hb)
  refine h.eq ma mb (Classical.byContradiction fun hne => ?_)
  have hap := h.apart ma mb hne
  have h5 := (there_iff.1 (h.span a ma).2.2.1).2.1
  have h6 := (there_iff.1 (h.span b mb).2.2.1).2.1
  unfold Apart at hap
  omega

/-! ### acts -/
structure Act07 where
  free : Bool
  ia : Option Addr
  ids : List Int
  ic : Nat
  pages : Int
  order : Int
def c07 (x : Act07) : List Value := [.bool x.free, .slice x.ia x.ids.length x.ic, .int .i64 x.pages, .int .i64 x.order]
structure Ok07 (W : World) (x : Act07) : Prop where
  pages : I64 x.pages
  order : I64 x.order
  len : x.ids.length ≤ maxLen
  rd : RdV W x.ia (ints x.ids)
  ok : ∀ k ∈ x.ids, (Lit.int .i64 k).wf = true
/-- The acts that came in. -/
structure Acts07 (W : World) (a : Option Addr) (n : Nat) (xs : List Act07) : Prop where
  len : n = xs.length
  max : xs.length ≤ maxLen
  rd : RdR W a 4 (xs.map c07)
  ok : ∀ x ∈ xs, Ok07 W x
def sh07 : Sh := .slice (.struct (.pair .bool (.pair (.slice (.int .i64)) (.pair (.int .i64) (.pair (.int .i64) .unit)))))
theorem acts07 {W : World} {a : Option Addr} {n c : Nat} (h : RdC W sh07 [.slice a n c]) : ∃ xs, Acts07 W a n xs := by
  obtain ⟨a', c', rows, he, hl, hr, hR, _⟩ := h
  simp only [List.cons.injEq, Value.slice.injEq, and_true] at he
  obtain ⟨rfl, rfl, rfl⟩ := he
  obtain ⟨xs, rfl, hx⟩ := choose_list (f := c07) (p := Ok07 W) rows (fun r hrm => by
    obtain ⟨_, _, rfl, ⟨d, rfl⟩, _, _, rfl, hs, _, _, rfl, ⟨t, rfl, ht⟩, _, _, rfl, ⟨o, rfl, ho⟩, rfl⟩ := hr r hrm
    obtain ⟨wa, wc, ns, rfl, h1, h2, h3, _⟩ := rd_nums hs
    exact ⟨⟨d, wa, ns, wc, t, o⟩, rfl, ⟨i64_of_wf ht, i64_of_wf ho, h1, h2, h3⟩⟩)
  exact ⟨xs, by simp, by simpa using hl, hR, hx⟩
theorem sh07_is : sh07.isT Tryz.prog (.inl 22) :=
  ⟨_, Tryz.underlying22, by kernel_rfl, by decide, _, Tryz.underlying37, by kernel_rfl,
    rfl, by kernel_rfl, Tryz.underlying4, rfl, by kernel_rfl, ⟨_, Tryz.underlying35, by kernel_rfl, by decide, Tryz.underlying3⟩, rfl, by kernel_rfl, Tryz.underlying3, rfl, by kernel_rfl, Tryz.underlying3, trivial⟩
theorem arg_acts07 {H : Type} {enc : TypeId × Value → H} {W : World} {a : Option Addr} {len cap : Nat} {d : DataW H} {ps : List MemPlace}
    (h : DataW.Trod enc Tryz.prog W 0 (fun _ => true) true 22 (.slice a len cap) d ps) : ∃ xs, Acts07 W a len xs :=
  acts07 (arg_shape sh07 sh07_is h)
end Go.Proofs.YthkbhikiljlgoaaGreat

namespace Go.Proofs.YthkbhikiljlgoaaGreat
open Go.RowKit

theorem index_Of (p : Value) (ids : List Int) (page : Int) (w : World) (h : IndexP w p ids) (hp : I64 page) :
    Calls Tryz.prog 55 #[p, .int .i64 page] w fun e w' => e = .returned (.int .i64 (ofF ids page)) ∧ w = w' := by
  obtain ⟨p0, p1⟩ := hp
  have hsm := h.small
  by_cases c : 0 ≤ page ∧ page < ids.length
  · obtain ⟨k, rfl⟩ := Int.eq_ofNat_of_zero_le c.1
    have hk : k < ids.length := by omega
    have HO : Hid (ofF ids k = ids[k]) := Lib.hid (by unfold ofF wd; rw [if_pos c]; simp [List.getD_eq_getElem?_getD, hk])
    rcases h with ⟨_, rfl⟩ | ⟨bx, bi, rfl, h⟩
    · simp at hk
    · have hc : w.cell? ⟨bx, 0, none⟩ = some (.slice (some ⟨bi, 0, none⟩) ids.length ids.length) := by rw [blk_cell h.hd]; rfl
      have hn := h.num k hk
      generalize ids[k] = y at hn HO
      clear c
      go_enter Tryz.func55, Tryz.ntmps55
      go_wp2_with fail
      refine (index_Pages _ ids w (.inr ⟨bx, bi, rfl, h⟩)).mono ?_; rintro e w' ⟨rfl, rfl⟩
      go_wp2
      go_ret
      exact ⟨by rw [HO.out]; simp, rfl⟩
  · have HO : Hid (ofF ids page = 0) := Lib.hid (by unfold ofF; rw [if_neg c])
    have c2 : page < 0 ∨ (¬ page < 0 ∧ (ids.length : Int) ≤ page) := by omega
    clear c
    rcases c2 with c | ⟨c1, c2⟩
    · go_enter Tryz.func55, Tryz.ntmps55
      go_wp2
      go_ret
      exact ⟨by rw [HO.out]; rfl, rfl⟩
    · go_enter Tryz.func55, Tryz.ntmps55
      go_wp2_with fail
      refine (index_Pages p ids w h).mono ?_; rintro e w' ⟨rfl, rfl⟩
      go_wp2
      go_ret
      exact ⟨by rw [HO.out]; rfl, rfl⟩

end Go.Proofs.YthkbhikiljlgoaaGreat

namespace Go.Proofs.YthkbhikiljlgoaaGreat
open Go.RowKit
def pageI (at_ : Int) : Int := if at_ < 0 then -1 else at_ / 64
def baseI (page : Int) : Int := if page < 0 ∨ 1024 < page then -1 else page * 64
theorem arena_Page (at_ : Int) (w : World) (h : I64 at_) :
    Calls Tryz.prog 56 #[.int .i64 at_] w fun e w' => e = .returned (.int .i64 (pageI at_)) ∧ w = w' := by
  obtain ⟨h0, h1⟩ := h
  by_cases c : at_ < 0
  · have H := Lib.hid (show pageI at_ = -1 by simp [pageI, c])
    go_enter Tryz.func56, Tryz.ntmps56
    go_wp2
    go_ret
    exact ⟨ret_i H.out, rfl⟩
  · have H := Lib.hid (show pageI at_ = at_ / 64 by simp [pageI, c])
    go_enter Tryz.func56, Tryz.ntmps56
    go_wp2
    go_ret
    exact ⟨ret_i H.out, rfl⟩
end Go.Proofs.YthkbhikiljlgoaaGreat

namespace Go.Proofs.YthkbhikiljlgoaaGreat
open Go.RowKit

theorem index_At (p : Value) (ids : List Int) (at_ : Int) (w : World) (h : IndexP w p ids) (ha : I64 at_) :
    Calls Tryz.prog 35 #[p, .int .i64 at_] w fun e w' => e = .returned (.int .i64 (ofF ids (pageI at_))) ∧ w = w' := by
  have hp : I64 (pageI at_) := by
    obtain ⟨h0, h1⟩ := ha
    unfold pageI
    split
    · exact ⟨by omega, by omega⟩
    · exact ⟨by omega, by omega⟩
  go_enter Tryz.func35, Tryz.ntmps35
  go_wp2_with fail
  refine (arena_Page at_ w ha).mono ?_; rintro e w' ⟨rfl, rfl⟩
  obtain ⟨q, hq⟩ : ∃ q, pageI at_ = q := ⟨_, rfl⟩
  rw [hq] at hp ⊢
  go_wp2_with fail
  refine (index_Of p ids q w h hp).mono ?_; rintro e w' ⟨rfl, rfl⟩
  go_wp2
  go_ret
  exact ⟨by rw [hq]; rfl, rfl⟩

end Go.Proofs.YthkbhikiljlgoaaGreat
