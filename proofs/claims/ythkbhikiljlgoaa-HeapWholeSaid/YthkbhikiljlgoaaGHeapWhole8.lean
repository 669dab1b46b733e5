/- Layer 7: when all spans are freed, all pages are one free run. Layer 7: a span that is made, and freed at once. Lists of runs that were made; the twin's Same at one list twice. Layer 7: spans in memory; the twin's Same; acts that came in. Layer 7: live heaps; awake; acts that came in. The slow twin of layer 5: Same. -/
import Derived.Test.YthkbhikiljlgoaaGHeapWhole1
import Derived.Test.YthkbhikiljlgoaaGHeapWhole7
import Derived.Deep.QuietTactic
import Derived.BigQuiet
import Derived.Laws.StructEq
import Derived.Deep.RegionHeld3
import Derived.Deep.DeepCutAuto
import Derived.OwnWalk
set_option linter.unusedVariables false
set_option linter.unusedSimpArgs false
namespace Go.Proofs.Ythkbhikiljlgoaa
open Go.RowKit

set_option maxHeartbeats 1000000 in
set_option maxRecDepth 20000 in
theorem ref5_Same (a b : Option Addr) (xs ys : List Rn) (n c m d : Nat) (w : World) (hn : n = xs.length) (hm : m = ys.length) (hl : xs.length ≤ 65536) (hl' : ys.length ≤ 65536) (ha : RunsIn w a xs) (hb : RunsIn w b ys) :
    Calls Try.prog 13 #[.slice a n c, .slice b m d] w fun e w' => e = .returned (.bool (decide (xs = ys))) ∧ Bel w w' := by
  subst hn hm
  by_cases hne : xs.length = ys.length
  · have HA := Lib.hid ha
    have HB := Lib.hid hb
    have HNE := Lib.hid hne
    have e0 : ((xs.length : Int) != (ys.length : Int)) = false := by simp [hne]
    clear ha hb
    rw [← hne]
    rw [← hne] at e0 hl'
    clear hne
    go_enter Try.func13, Try.ntmps13
    go_wp2_with fail
    go_loopw [13] (fun k wr => ∃ i : Nat, i ≤ xs.length ∧ k = .int .i64 i ∧ xs.take i = ys.take i ∧ Bel w wr) (fun k wr => xs.length - (intOf k).toNat)
    case atStart => exact ⟨0, Nat.zero_le _, rfl, by simp, Bel.refl _⟩
    case round =>
      obtain ⟨i, hi, rfl, hpre, hB⟩ := hrel
      have HPRE := Lib.hid hpre
      clear hpre
      by_cases hlt : i < xs.length
      · have hlty : i < ys.length := by rw [← HNE.out]; exact hlt
        obtain ⟨b1, o1, rfl, p0, p1⟩ := (HA.out.bel hB).at i hlt
        obtain ⟨b2, o2, rfl, q0, q1⟩ := (HB.out.bel hB).at i hlty
        have hsx : xs.take (i + 1) = xs.take i ++ [xs[i]] := List.take_succ_eq_append_getElem hlt
        have hsy : ys.take (i + 1) = ys.take i ++ [ys[i]] := List.take_succ_eq_append_getElem hlty
        obtain ⟨x, hx⟩ : ∃ x, xs[i] = x := ⟨_, rfl⟩
        obtain ⟨y, hy⟩ : ∃ y, ys[i] = y := ⟨_, rfl⟩
        rw [hx] at p0 p1 hsx
        rw [hy] at q0 q1 hsy
        have hx' : xs[i]? = some x := by rw [List.getElem?_eq_getElem hlt, hx]
        have hy' : ys[i]? = some y := by rw [List.getElem?_eq_getElem hlty, hy]
        have HXY := Lib.hid (And.intro hx' hy')
        have HS := Lib.hid (And.intro hsx hsy)
        have HBB := Lib.hid hB
        obtain ⟨x1, x2⟩ := x
        obtain ⟨y1, y2⟩ := y
        dsimp only at p0 p1 q0 q1
        clear hx hy hx' hy' hsx hsy hB hlty
        have hcs : (x1 = y1 ∧ x2 = y2) ∨ (x1 ≠ y1 ∨ (x1 = y1 ∧ x2 ≠ y2)) := by omega
        rcases hcs with ⟨rfl, rfl⟩ | hcs
        · have e1 : (x1 != x1) = false := by simp
          have e2 : (x2 != x2) = false := by simp
          go_wp2_with fail
          go_region
          go_wp2
          go_roundw
          case rel => exact ⟨i + 1, by omega, by go_num, by rw [HS.out.1, HS.out.2, HPRE.out], HBB.out.drew⟩
          case measure => simp [intOf]; omega
        · have HNO : Hid (decide (xs = ys) = false) := Lib.hid (by
            rw [decide_eq_false_iff_not]
            intro h
            have h1 : xs[i]? = ys[i]? := by rw [h]
            rw [HXY.out.1, HXY.out.2] at h1
            have h2 := Option.some.inj h1
            have h3 := congrArg Prod.fst h2
            have h4 := congrArg Prod.snd h2
            dsimp only at h3 h4
            rcases hcs with h9 | ⟨_, h9⟩
            · exact h9 h3
            · exact h9 h4)
          rcases hcs with h9 | ⟨rfl, h9⟩
          · have e1 : (x1 == y1) = false := by simp [h9]
            go_wp2_with fail
            go_region
            go_wp2
            go_ret
            exact ⟨by rw [HNO.out]; rfl, HBB.out.drew⟩
          · have e1 : (x1 == x1) = true := by simp
            have e2 : (x2 == y2) = false := by simp [h9]
            go_wp2_with fail
            go_region
            go_wp2
            go_ret
            exact ⟨by rw [HNO.out]; rfl, HBB.out.drew⟩
      · obtain rfl : i = xs.length := by omega
        have HE : Hid (decide (xs = ys) = true) := Lib.hid (by
          rw [decide_eq_true_eq]
          have := HPRE.out
          rw [List.take_length, HNE.out, List.take_length] at this
          exact this)
        go_wp2
        go_ret
        exact ⟨by rw [HE.out]; rfl, hB⟩
  · have e0 : ((xs.length : Int) != (ys.length : Int)) = true := by rw [bne_iff_ne]; omega
    have HNO : Hid (decide (xs = ys) = false) := Lib.hid (by rw [decide_eq_false_iff_not]; intro h; exact hne (by rw [h]))
    go_enter Try.func13, Try.ntmps13
    go_wp2
    go_ret
    exact ⟨by rw [HNO.out]; rfl, Bel.refl _⟩
end Go.Proofs.Ythkbhikiljlgoaa

namespace Go.Proofs.Ythkbhikiljlgoaa
open Go.ChangeShapes Go.WideShapes Go.ChangeAt Go.RowKit Go.Deep

/-- A heap that the law made, with blocks that are not its own. -/
structure LiveH (w0 : World) (N : Nat → Prop) (w : World) (h bi : Nat) (L : List Rn) (ids : List Int) (S : List Sp) (last : Nat) : Prop where
  at_ : ∃ rb v bx bm, HeapAt w h rb v bx bi bm L ids S last ∧ ∀ k, footH h rb v bx bi bm k → w0.heap.size ≤ k ∧ ¬ N k
  bel : Bel w0 w
  keep : ∀ k, N k → k < w.heap.size
theorem LiveH.then_bel {w0 : World} {N : Nat → Prop} {w w' : World} {h bi : Nat} {L : List Rn} {ids : List Int} {S : List Sp} {last : Nat} (H : LiveH w0 N w h bi L ids S last) (k : Bel w w') : LiveH w0 N w' h bi L ids S last := by
  obtain ⟨rb, v, bx, bm, h1, h2⟩ := H.at_
  exact ⟨⟨rb, v, bx, bm, h1.bel k, h2⟩, H.bel.trans k, fun i hi => Nat.lt_of_lt_of_le (H.keep i hi) k.size⟩
theorem LiveH.inv {w0 : World} {N : Nat → Prop} {w : World} {h bi : Nat} {L : List Rn} {ids : List Int} {S : List Sp} {last : Nat} (H : LiveH w0 N w h bi L ids S last) : HInv ids L S last := by
  obtain ⟨rb, v, bx, bm, h1, h2⟩ := H.at_
  exact h1.inv
theorem LiveH.watch {w0 : World} {N : Nat → Prop} {w w' : World} {h bi : Nat} {L : List Rn} {ids : List Int} {S : List Sp} {last : Nat} (H : LiveH w0 N w h bi L ids S last) (k : Bel w w') (M : Nat → Prop) (hM : ∀ i, M i → w.heap.size ≤ i ∧ i < w'.heap.size) : LiveH w0 (fun i => N i ∨ M i) w' h bi L ids S last := by
  obtain ⟨rb, v, bx, bm, h1, h2⟩ := H.at_
  refine ⟨⟨rb, v, bx, bm, h1.bel k, fun i hi => ⟨(h2 i hi).1, ?_⟩⟩, H.bel.trans k, fun i hi => ?_⟩
  · rintro (h9 | h9)
    · exact (h2 i hi).2 h9
    · have := h1.lt hi; have := (hM i h9).1; omega
  · rcases hi with hi | hi
    · exact Nat.lt_of_lt_of_le (H.keep i hi) k.size
    · exact (hM i hi).2
theorem LiveH.forget {w0 : World} {N N' : Nat → Prop} {w : World} {h bi : Nat} {L : List Rn} {ids : List Int} {S : List Sp} {last : Nat} (H : LiveH w0 N w h bi L ids S last) (hN : ∀ k, N' k → N k) : LiveH w0 N' w h bi L ids S last := by
  obtain ⟨rb, v, bx, bm, h1, h2⟩ := H.at_
  exact ⟨⟨rb, v, bx, bm, h1, fun k hk => ⟨(h2 k hk).1, fun h9 => (h2 k hk).2 (hN k h9)⟩⟩, H.bel, fun k hk => H.keep k (hN k hk)⟩
theorem LiveH.fr {w0 : World} {N Q : Nat → Prop} {w w' : World} {h bi : Nat} {L : List Rn} {ids : List Int} {S : List Sp} {last : Nat} (H : LiveH w0 N w h bi L ids S last) (k : Fr Q w w') (hQ : ∀ i, Q i → N i ∧ w0.heap.size ≤ i) : LiveH w0 N w' h bi L ids S last := by
  obtain ⟨rb, v, bx, bm, h1, h2⟩ := H.at_
  exact ⟨⟨rb, v, bx, bm, h1.fr k (fun i hi hq => (h2 i hi).2 (hQ i hq).1), h2⟩, Fr.bel ((Fr.of_bel (S := Q) H.bel).trans' k) (fun i hi => (hQ i hi).2), fun i hi => Nat.lt_of_lt_of_le (H.keep i hi) k.size⟩
/-- Numbers in a row of one's own that is no elder than B: not the heap's. -/
theorem LiveH.own_int {w0 : World} {N : Nat → Prop} {w : World} {h bi B n : Nat} {L : List Rn} {ids : List Int} {S : List Sp} {last : Nat} {u : Value} {vs : List Value} (H : LiveH w0 N w h bi L ids S last) (ho : w.ownsRow B 3 1 u n vs) (hb : bi < B) : LiveH w0 (fun i => N i ∨ u.ownBlock = some i) w h bi L ids S last := by
  obtain ⟨rb, v, bx, bm, h1, h2⟩ := H.at_
  refine ⟨⟨rb, v, bx, bm, h1, fun k hk => ⟨(h2 k hk).1, ?_⟩⟩, H.bel, fun k hk => ?_⟩
  · rintro (h9 | h9)
    · exact (h2 k hk).2 h9
    · obtain ⟨cur, hc⟩ := own_type ho h9
      have hB := (ho.lt k h9).1
      rcases hk with e | e | e | e | e | e
      · subst e; rw [h1.hd] at hc; simp at hc
      · subst e; rw [h1.free.hd] at hc; simp at hc
      · obtain ⟨c2, hc2⟩ := own_type h1.free.own e; rw [hc2] at hc; simp at hc
      · subst e; rw [h1.index.hd] at hc; simp at hc
      · subst e; omega
      · subst e
        obtain ⟨es, ck, hm⟩ := h1.spans.map?
        rw [hm] at hc; simp at hc
  · rcases hk with hk | hk
    · exact H.keep k hk
    · exact (ho.lt k hk).2
theorem LiveH.bi_lt {w0 : World} {N : Nat → Prop} {w : World} {h bi : Nat} {L : List Rn} {ids : List Int} {S : List Sp} {last : Nat} (H : LiveH w0 N w h bi L ids S last) : bi < w.heap.size := by
  obtain ⟨rb, v, bx, bm, h1, h2⟩ := H.at_
  exact heap_lt h1.index.nums
/-- What an act on it leaves. -/
def LivePostH (w0 : World) (N : Nat → Prop) (w : World) (h bi : Nat) (L : List Rn) (ids : List Int) (S : List Sp) (last : Nat) (w' : World) : Prop :=
  LiveH w0 N w' h bi L ids S last ∧ Fr (fun k => ¬ N k) w w'
theorem liveH_post {w0 : World} {N : Nat → Prop} {w w' : World} {h rb : Nat} {v : Value} {bx bi bm : Nat} {L : List Rn} {ids : List Int} {S : List Sp} {last : Nat} (hB : Bel w0 w) (hk : ∀ k, N k → k < w.heap.size) (h2 : ∀ k, footH h rb v bx bi bm k → w0.heap.size ≤ k ∧ ¬ N k)
    (hP : HPost w h rb v bx bi bm L ids S last w') : LivePostH w0 N w h bi L ids S last w' := by
  obtain ⟨v', h3, h4, h5⟩ := hP
  refine ⟨⟨⟨rb, v', bx, bm, h3, fun k hk9 => ?_⟩, Fr.bel ((Fr.of_bel (S := footH h rb v bx bi bm) hB).trans' h5) (fun k hk9 => (h2 k hk9).1), fun k hk9 => Nat.lt_of_lt_of_le (hk k hk9) h5.size⟩, h5.mono (fun k hk9 => (h2 k hk9).2)⟩
  have old : footH h rb v bx bi bm k → w0.heap.size ≤ k ∧ ¬ N k := h2 k
  rcases hk9 with e | e | e | e | e | e
  · exact old (.inl e)
  · exact old (.inr (.inl e))
  · rcases h4 k e with h9 | h9
    · exact old (.inr (.inr (.inl h9)))
    · exact ⟨Nat.le_trans hB.size h9, fun hN => by have := hk k hN; omega⟩
  · exact old (.inr (.inr (.inr (.inl e))))
  · exact old (.inr (.inr (.inr (.inr (.inl e)))))
  · exact old (.inr (.inr (.inr (.inr (.inr e)))))
theorem liveH_new {w w' : World} {n : Nat} {e : Ending} (h : NewH w n e w') : ∃ h bi, e = .returned (.tuple #[.pointer (some ⟨h, 0, none⟩), .int .i64 0]) ∧ LiveH w (fun _ => False) w' h bi [(0, (n : Int))] (List.replicate n 0) [] 0 := by
  obtain ⟨h, rb, v, bx, bi, bm, rfl, h1, h2, h3⟩ := h
  exact ⟨h, bi, rfl, ⟨rb, v, bx, bm, h1, fun k hk => ⟨h3 k hk, fun h => h⟩⟩, h2, fun _ h => h.elim⟩
/-- What Make does. -/
def MakeR (ids : List Int) (L : List Rn) (S : List Sp) (last : Nat) (n ord : Int) (s : Sp) (en : Int) (L' : List Rn) (ids' : List Int) (S' : List Sp) (last' : Nat) : Prop :=
  ((n < 1 ∨ ord < -1 ∨ 4 ≤ ord) ∧ s = sp0 ∧ en = 1 ∧ L' = L ∧ ids' = ids ∧ S' = S ∧ last' = last) ∨
  (1 ≤ n ∧ -1 ≤ ord ∧ ord < 4 ∧ bestF L n = (0, 0) ∧ s = sp0 ∧ en = 3 ∧ L' = L ∧ ids' = ids ∧ S' = S ∧ last' = last) ∨
  (1 ≤ n ∧ -1 ≤ ord ∧ ord < 4 ∧ ∃ t, Made ids L S last n ord t L' ids' ∧ (bestF L n).1 = t ∧ 0 < (bestF L n).2 ∧ s = ((last : Int) + 1, (t, n), ord) ∧ en = 0 ∧ S' = S ++ [s] ∧ last' = last + 1)
theorem liveH_Make {w0 : World} {N : Nat → Prop} {w : World} {h bi : Nat} {L : List Rn} {ids : List Int} {S : List Sp} {last : Nat} (H : LiveH w0 N w h bi L ids S last) (n ord : Int) (hn : I64 n) (ho : I64 ord) (hl : last < 65536) :
    ∃ s en L' ids' S' last', MakeR ids L S last n ord s en L' ids' S' last' ∧ ∀ V, Bel w V → Calls Try.prog 9 #[.pointer (some ⟨h, 0, none⟩), .int .i64 n, .int .i64 ord] V fun e V' => e = .returned (.tuple #[spV s, .int .i64 en]) ∧ LivePostH w0 N w h bi L' ids' S' last' V' := by
  obtain ⟨rb, v, bx, bm, h1, h2⟩ := H.at_
  have fin : ∀ {L' : List Rn} {ids' : List Int} {S' : List Sp} {last' : Nat} (V V' : World), Bel w V → HPost V h rb v bx bi bm L' ids' S' last' V' → LivePostH w0 N w h bi L' ids' S' last' V' := fun V V' hV hP =>
    liveH_post H.bel H.keep h2 (hP.from hV)
  by_cases c : n < 1 ∨ ord < -1 ∨ 4 ≤ ord
  · refine ⟨sp0, 1, L, ids, S, last, .inl ⟨c, rfl, rfl, rfl, rfl, rfl, rfl⟩, fun V hV => ?_⟩
    exact (heap_Make_bad _ n ord V hn ho c).mono fun e V' ⟨he, hB⟩ => ⟨he, fin V V' hV (HPost.same (h1.bel hV) hB)⟩
  · have c1 : 1 ≤ n := by omega
    have c2 : -1 ≤ ord ∧ ord < 4 := by omega
    rcases h1.inv.make n ord with ⟨ht, hb⟩ | ⟨t, L', ids', hM, _, hb1, hb2⟩
    · exact ⟨sp0, 3, L, ids, S, last, .inr (.inl ⟨c1, c2.1, c2.2, hb, rfl, rfl, rfl, rfl, rfl, rfl⟩), fun V hV => (heap_Make_none V (h1.bel hV) n ord ht hn c1 c2).mono fun e V' ⟨he, hP⟩ => ⟨he, fin V V' hV hP⟩⟩
    · exact ⟨_, 0, L', ids', _, last + 1, .inr (.inr ⟨c1, c2.1, c2.2, t, hM, hb1, hb2, rfl, rfl, rfl, rfl⟩), fun V hV => (heap_Make V (h1.bel hV) n ord t L' ids' hM c1 c2 hl).mono fun e V' ⟨he, hP⟩ => ⟨he, fin V V' hV hP⟩⟩
theorem liveH_Runs {w0 : World} {N : Nat → Prop} {w : World} {h bi : Nat} {L : List Rn} {ids : List Int} {S : List Sp} {last : Nat} (H : LiveH w0 N w h bi L ids S last) :
    ∀ V, Bel w V → Calls Try.prog 10 #[.pointer (some ⟨h, 0, none⟩)] V (NewRuns V L) := by
  obtain ⟨rb, v, bx, bm, h1, h2⟩ := H.at_
  exact fun V hV => heap_Runs V (h1.bel hV)
theorem liveH_Spans {w0 : World} {N : Nat → Prop} {w : World} {h bi : Nat} {L : List Rn} {ids : List Int} {S : List Sp} {last : Nat} (H : LiveH w0 N w h bi L ids S last) :
    ∀ V, Bel w V → Calls Try.prog 11 #[.pointer (some ⟨h, 0, none⟩)] V (RisenSpans V S) := by
  obtain ⟨rb, v, bx, bm, h1, h2⟩ := H.at_
  exact fun V hV => heap_Spans V (h1.bel hV)
theorem liveH_Size {w0 : World} {N : Nat → Prop} {w : World} {h bi : Nat} {L : List Rn} {ids : List Int} {S : List Sp} {last : Nat} (H : LiveH w0 N w h bi L ids S last) :
    ∀ V, Bel w V → Calls Try.prog 12 #[.pointer (some ⟨h, 0, none⟩)] V fun e V' => e = .returned (.int .i64 ids.length) ∧ V = V' := by
  obtain ⟨rb, v, bx, bm, h1, h2⟩ := H.at_
  exact fun V hV => heap_Size V (h1.bel hV)
/-- What Free does. -/
def FreeR (ids : List Int) (L : List Rn) (S : List Sp) (last : Nat) (l : List Int) (en : Int) (L' : List Rn) (ids' : List Int) (S' : List Sp) : Prop :=
  (FreeOk S l ∧ en = 0 ∧ Freed ids L S last l L' ids' ∧ S' = S.filter fun s => !decide (s.1 ∈ l)) ∨ (¬ FreeOk S l ∧ en = 6 ∧ L' = L ∧ ids' = ids ∧ S' = S)
theorem liveH_Free {w0 : World} {N : Nat → Prop} {w : World} {h bi : Nat} {L : List Rn} {ids : List Int} {S : List Sp} {last : Nat} (H : LiveH w0 N w h bi L ids S last) (l : List Int) (hl : l.length ≤ 1024) (hok : ∀ k ∈ l, (Lit.int .i64 k).wf = true) :
    ∀ V a c, Bel w V → RdV V a (ints l) → Calls Try.prog 8 #[.pointer (some ⟨h, 0, none⟩), .slice a l.length c] V fun e V' => ∃ en L' ids' S', FreeR ids L S last l en L' ids' S' ∧ e = .returned (.int .i64 en) ∧ LivePostH w0 N w h bi L' ids' S' last V' := by
  obtain ⟨rb, v, bx, bm, h1, h2⟩ := H.at_
  intro V a c hV hr
  refine (heap_Free V (h1.bel hV) a l l.length c rfl hl hr hok).mono ?_
  rintro e V' (⟨hf, rfl, L', ids', hfr, hP⟩ | ⟨hf, rfl, hP⟩)
  · exact ⟨0, L', ids', _, .inl ⟨hf, rfl, hfr, rfl⟩, rfl, liveH_post H.bel H.keep h2 (hP.from hV)⟩
  · exact ⟨6, L, ids, S, .inr ⟨hf, rfl, rfl, rfl, rfl⟩, rfl, liveH_post H.bel H.keep h2 (hP.from hV)⟩

/-! ### awake -/
theorem awake7_best : bestF [(0, 8)] 3 = (0, 8) := by decide
set_option maxHeartbeats 1000000 in
set_option maxRecDepth 20000 in
theorem awake07 (w : World) : Calls Try.prog 7 #[] w fun e w' => e = .returned (.bool true) ∧ Bel w w' := by
  go_enter Try.func7, Try.ntmps7
  go_wp2_with fail
  refine (heap_New 8 w (by omega) (by omega)).mono ?_
  rintro e w1 hN
  obtain ⟨h, bi, rfl, hL⟩ := liveH_new hN
  obtain ⟨s, en, L', ids', S', last', hR, hC⟩ := liveH_Make hL 3 0 ⟨by omega, by omega⟩ ⟨by omega, by omega⟩ (by omega)
  have hs : s = (1, (0, 3), 0) ∧ en = 0 ∧ ids'.length = 8 := by
    rcases hR with ⟨h9, _⟩ | ⟨_, _, _, h9, _⟩ | ⟨_, _, _, t, hM, ht, _, rfl, rfl, rfl, rfl⟩
    · omega
    · have h8 : bestF [(0, ((8 : Nat) : Int))] 3 = (0, 8) := awake7_best
      rw [h8] at h9; cases h9
    · have h8 : bestF [(0, ((8 : Nat) : Int))] 3 = (0, 8) := awake7_best
      rw [h8] at ht
      subst ht
      exact ⟨rfl, rfl, by rw [hM.len]; rfl⟩
  obtain ⟨rfl, rfl, h8⟩ := hs
  have HC := Lib.hid (hC w1 (Bel.refl _))
  have HB1 := Lib.hid hL.bel
  have H8 := Lib.hid h8
  clear hC hN hL hR h8
  go_wp2_with fail
  refine HC.out.mono ?_
  rintro e w2 ⟨rfl, hL2, hF2⟩
  have HL2 := Lib.hid hL2
  have hsz := liveH_Size (hL2.then_bel ((Bel.refl w2).alloc (.cells #[.int .i64 1, .int .i64 0, .int .i64 3, .int .i64 0] 35))) _ (Bel.refl _)
  rw [H8.out] at hsz
  have HS := Lib.hid hsz
  obtain ⟨r0, r1, r2, r3⟩ := four_cells (blk_alloc w2 (.cells #[.int .i64 1, .int .i64 0, .int .i64 3, .int .i64 0] 35))
  clear hL2 hF2 hsz
  simp only [spV]
  go_wp2_with fail
  refine HS.out.mono ?_
  rintro e w3 ⟨rfl, rfl⟩
  go_wp2
  go_ret
  exact ⟨rfl, HL2.out.bel.alloc _⟩
end Go.Proofs.Ythkbhikiljlgoaa

namespace Go.Proofs.Ythkbhikiljlgoaa
open Go.ChangeShapes Go.WideShapes Go.ChangeAt Go.RowKit Go.Deep

/-- A slice of spans. -/
def SpansIn (w : World) (a : Option Addr) (zs : List Sp) : Prop := zs = [] ∨ ∃ b o, a = some ⟨b, o, none⟩ ∧ ∀ i (h : i < zs.length), w.rangeAt b (o + i * 4) (spCells zs[i])
theorem SpansIn.of_row {w : World} {a : Option Addr} {zs : List Sp} (h : RdV w a (spCellsOf zs)) : SpansIn w a zs := by
  rcases h with h | ⟨b, o, e, h⟩
  · left
    have := spCellsOf_length zs
    rw [h] at this
    exact List.eq_nil_of_length_eq_zero (by simp at this; omega)
  · refine .inr ⟨b, o, e, fun i hi j v hv => ?_⟩
    have hj : j < 4 := by have := (List.getElem?_eq_some_iff.1 hv).1; simpa [spCells] using this
    have hl := spCellsOf_length zs
    have h1 := h (i * 4 + j) (by omega)
    have h2 := spCellsOf_get zs i hi j hj
    rw [hv, List.getElem?_eq_getElem (by omega), Option.some.injEq] at h2
    rw [h2] at h1
    rw [show o + i * 4 + j = o + (i * 4 + j) by omega]
    exact h1
theorem SpansIn.bel {w w' : World} {a : Option Addr} {zs : List Sp} (h : SpansIn w a zs) (k : Bel w w') : SpansIn w' a zs := by
  rcases h with h | ⟨b, o, e, h⟩
  · exact .inl h
  · exact .inr ⟨b, o, e, fun i hi j v hv => k.cell (h i hi j v hv)⟩
theorem SpansIn.watched {N : Nat → Prop} {w w' : World} {a : Option Addr} {zs : List Sp} (h : SpansIn w a zs) (k : Fr (fun i => ¬ N i) w w') (hN : ∀ p, a = some p → N p.block) : SpansIn w' a zs := by
  rcases h with h | ⟨b, o, e, h⟩
  · exact .inl h
  · exact .inr ⟨b, o, e, fun i hi j v hv => k.cell (h i hi j v hv) (fun h9 => h9 (show N b from hN ⟨b, o, none⟩ e))⟩
theorem SpansIn.at {w : World} {a : Option Addr} {zs : List Sp} (h : SpansIn w a zs) (i : Nat) (hi : i < zs.length) : ∃ b o, a = some ⟨b, o, none⟩ ∧ w.cell? ⟨b, o + i * 4, none⟩ = some (.int .i64 zs[i].1) ∧ w.cell? ⟨b, o + i * 4 + 1, none⟩ = some (.int .i64 zs[i].2.1.1) ∧ w.cell? ⟨b, o + i * 4 + 2, none⟩ = some (.int .i64 zs[i].2.1.2) ∧ w.cell? ⟨b, o + i * 4 + 3, none⟩ = some (.int .i64 zs[i].2.2) := by
  rcases h with h | ⟨b, o, e, h⟩
  · subst h; simp at hi
  · exact ⟨b, o, e, h i hi 0 _ rfl, h i hi 1 _ rfl, h i hi 2 _ rfl, h i hi 3 _ rfl⟩
set_option maxRecDepth 20000 in
theorem ref7_same (a b : Option Addr) (zs : List Sp) (c d : Nat) (w : World) (hl : zs.length ≤ 65536) (ha : SpansIn w a zs) (hb : SpansIn w b zs) :
    Calls Try.prog 14 #[.slice a zs.length c, .slice b zs.length d] w fun e w' => e = .returned (.bool true) ∧ Bel w w' := by
  have HA := Lib.hid ha
  have HB := Lib.hid hb
  clear ha hb
  go_enter Try.func14, Try.ntmps14
  go_wp2_with fail
  go_loopw [13] (fun k wr => ∃ i : Nat, i ≤ zs.length ∧ k = .int .i64 i ∧ Bel w wr) (fun k wr => zs.length - (intOf k).toNat)
  case atStart => exact ⟨0, Nat.zero_le _, rfl, Bel.refl _⟩
  case round =>
    obtain ⟨i, hi, rfl, hB⟩ := hrel
    by_cases hlt : i < zs.length
    · obtain ⟨b1, o1, rfl, p0, p1, p2, p3⟩ := (HA.out.bel hB).at i hlt
      obtain ⟨b2, o2, rfl, q0, q1, q2, q3⟩ := (HB.out.bel hB).at i hlt
      obtain ⟨x, hx⟩ : ∃ x, zs[i] = x := ⟨_, rfl⟩
      rw [hx] at p0 p1 p2 p3 q0 q1 q2 q3
      obtain ⟨x1, ⟨x2, x3⟩, x4⟩ := x
      dsimp only at p0 p1 p2 p3 q0 q1 q2 q3
      have HBB := Lib.hid hB
      clear hB hx
      go_wp2_with fail
      go_region
      go_wp2
      go_roundw
      case rel => exact ⟨i + 1, by omega, by go_num, HBB.out.drew⟩
      case measure => simp [intOf]; omega
    · obtain rfl : i = zs.length := by omega
      go_wp2
      go_ret
      exact ⟨rfl, hB⟩
/-- Spans sorted by where they start are one row. -/
theorem sorted_unique {ids : List Int} {L : List Rn} {S S' z1 z2 : List Sp} {last : Nat} (h : HInv ids L S last) (hp : S'.Perm S) (h1 : SortedSpans S z1) (h2 : SortedSpans S' z2) : z1 = z2 := by
  have hpm : z1.Perm z2 := (h1.1.trans hp.symm).trans h2.1.symm
  have pw : ∀ {T z : List Sp}, SortedSpans T z → z.Pairwise (fun a b => a.2.1.1 ≤ b.2.1.1) := fun {T z} hz => List.pairwise_iff_getElem.2 (fun i j hi hj hij => hz.2 i j hij hj)
  refine List.Perm.eq_of_pairwise (le := fun a b => a.2.1.1 ≤ b.2.1.1) (fun a b ha hb hab hba => ?_) (pw h1) (pw h2) hpm
  have ma : a ∈ S := h1.1.mem_iff.1 ha
  have mb : b ∈ S := hp.mem_iff.1 (h2.1.mem_iff.1 hb)
  refine h.eq ma mb (Classical.byContradiction fun hne => ?_)
  have hap := h.apart ma mb hne
  have h5 := (there_iff.1 (h.span a ma).2.2.1).2.1
  have h6 := (there_iff.1 (h.span b mb).2.2.1).2.1
  unfold Apart at hap
  omega

/-! ### acts -/
structure Act07 where
  free : Bool
  ia : Option Addr
  ids : List Int
  ic : Nat
  pages : Int
  order : Int
def c07 (x : Act07) : List Value := [.bool x.free, .slice x.ia x.ids.length x.ic, .int .i64 x.pages, .int .i64 x.order]
structure Ok07 (W : World) (x : Act07) : Prop where
  pages : I64 x.pages
  order : I64 x.order
  len : x.ids.length ≤ maxLen
  rd : RdV W x.ia (ints x.ids)
  ok : ∀ k ∈ x.ids, (Lit.int .i64 k).wf = true
/-- The acts that came in. -/
structure Acts07 (W : World) (a : Option Addr) (n : Nat) (xs : List Act07) : Prop where
  len : n = xs.length
  max : xs.length ≤ maxLen
  rd : RdR W a 4 (xs.map c07)
  ok : ∀ x ∈ xs, Ok07 W x
def sh07 : Sh := .slice (.struct (.pair .bool (.pair (.slice (.int .i64)) (.pair (.int .i64) (.pair (.int .i64) .unit)))))
theorem acts07 {W : World} {a : Option Addr} {n c : Nat} (h : RdC W sh07 [.slice a n c]) : ∃ xs, Acts07 W a n xs := by
  obtain ⟨a', c', rows, he, hl, hr, hR, _⟩ := h
  simp only [List.cons.injEq, Value.slice.injEq, and_true] at he
  obtain ⟨rfl, rfl, rfl⟩ := he
  obtain ⟨xs, rfl, hx⟩ := choose_list (f := c07) (p := Ok07 W) rows (fun r hrm => by
    obtain ⟨_, _, rfl, ⟨d, rfl⟩, _, _, rfl, hs, _, _, rfl, ⟨t, rfl, ht⟩, _, _, rfl, ⟨o, rfl, ho⟩, rfl⟩ := hr r hrm
    obtain ⟨wa, wc, ns, rfl, h1, h2, h3, _⟩ := rd_nums hs
    exact ⟨⟨d, wa, ns, wc, t, o⟩, rfl, ⟨i64_of_wf ht, i64_of_wf ho, h1, h2, h3⟩⟩)
  exact ⟨xs, by simp, by simpa using hl, hR, hx⟩
theorem sh07_is : sh07.isT Try.prog (.inl 22) :=
  ⟨_, Try.underlying22, by kernel_rfl, by decide, _, Try.underlying30, by kernel_rfl,
    rfl, by kernel_rfl, Try.underlying4, rfl, by kernel_rfl, ⟨_, Try.underlying28, by kernel_rfl, by decide, Try.underlying3⟩, rfl, by kernel_rfl, Try.underlying3, rfl, by kernel_rfl, Try.underlying3, trivial⟩
theorem arg_acts07 {H : Type} {enc : TypeId × Value → H} {W : World} {a : Option Addr} {len cap : Nat} {d : DataW H} {ps : List MemPlace}
    (h : DataW.Trod enc Try.prog W 0 (fun _ => true) true 22 (.slice a len cap) d ps) : ∃ xs, Acts07 W a len xs :=
  acts07 (arg_shape sh07 sh07_is h)
end Go.Proofs.Ythkbhikiljlgoaa

namespace Go.Proofs.Ythkbhikiljlgoaa
open Go.RowKit

theorem dec_self6 (xs : List Rn) : decide (xs = xs) = true := decide_eq_true rfl
/-- A list that was made. -/
def ListPost (w V : World) (L : List Rn) (e : Ending) (V' : World) : Prop :=
  ∃ a c, e = .returned (.slice a L.length c) ∧ RunsIn V' a L ∧ Bel w V' ∧ ∀ p, a = some p → w.heap.size ≤ p.block ∧ p.block < V'.heap.size
theorem list_post {w V V' : World} {L : List Rn} {e : Ending} (hV : Bel w V) (h : NewRuns V L e V') : ListPost w V L e V' := by
  obtain ⟨v, rfl, hown, hB⟩ := h
  obtain ⟨a, c, rfl, hr, _, hp⟩ := own_slice2 hown
  refine ⟨a, c, rfl, RunsIn.of_row hr, hV.trans hB, fun p hp9 => ⟨Nat.le_trans hV.size (hp p hp9), ?_⟩⟩
  exact (hown.lt p.block (by rw [hp9]; rfl)).2
/-- The blocks of a slice. -/
def blkOf (a : Option Addr) : Nat → Prop := fun i => ∃ p, a = some p ∧ p.block = i
theorem RunsIn.watched {N : Nat → Prop} {w w' : World} {a : Option Addr} {rs : List Rn} (h : RunsIn w a rs) (k : Fr (fun i => ¬ N i) w w') (hN : ∀ i, blkOf a i → N i) : RunsIn w' a rs :=
  h.fr k (fun p hp h9 => h9 (hN _ ⟨p, hp, rfl⟩))
theorem same_true {a b : Option Addr} {xs : List Rn} {c d : Nat} {w : World} (hl : xs.length ≤ 65536) (ha : RunsIn w a xs) (hb : RunsIn w b xs) :
    Calls Try.prog 13 #[.slice a xs.length c, .slice b xs.length d] w fun e w' => e = .returned (.bool true) ∧ Bel w w' := by
  refine (ref5_Same a b xs xs _ c _ d w rfl rfl hl hl ha hb).mono ?_
  rintro e w' ⟨rfl, hB⟩
  exact ⟨by rw [dec_self6], hB⟩
end Go.Proofs.Ythkbhikiljlgoaa

namespace Go.Proofs.Ythkbhikiljlgoaa
open Go.ChangeShapes Go.WideShapes Go.ChangeAt Go.RowKit Go.Deep

theorem MakeR.last {ids ids' : List Int} {L L' : List Rn} {S S' : List Sp} {last last' : Nat} {n ord en : Int} {s : Sp} (h : MakeR ids L S last n ord s en L' ids' S' last') : last' ≤ last + 1 := by
  rcases h with ⟨_, _, _, _, _, _, h⟩ | ⟨_, _, _, _, _, _, _, _, _, h⟩ | ⟨_, _, _, t, _, _, _, _, _, _, h⟩ <;> omega
/-- Made, and freed at once. -/
theorem made_back {ids ids' ids'' : List Int} {L L' L'' : List Rn} {S S'' : List Sp} {last : Nat} {n ord t en : Int} (hi : HInv ids L S last) (hM : Made ids L S last n ord t L' ids')
    (hF : FreeR ids' L' (S ++ [((last : Int) + 1, (t, n), ord)]) (last + 1) [(last : Int) + 1] en L'' ids'' S'') : en = 0 ∧ L'' = L ∧ S'' = S := by
  have hg : getS (S ++ [((last : Int) + 1, (t, n), ord)]) ((last : Int) + 1) = some ((last : Int) + 1, (t, n), ord) := by
    rw [getS_snoc (s := ((last : Int) + 1, (t, n), ord)) hM.fresh, if_pos rfl]
  have hok : FreeOk (S ++ [((last : Int) + 1, (t, n), ord)]) [(last : Int) + 1] := ⟨fun k hk => by simp at hk; subst hk; rw [hg]; rfl, by simp⟩
  rcases hF with ⟨_, h1, h2, h3⟩ | ⟨h1, _⟩
  · refine ⟨h1, ?_, ?_⟩
    · have h4 := h2.add
      have e : runsOf (S ++ [((last : Int) + 1, (t, n), ord)]) [(last : Int) + 1] = [(t, n)] := by simp [runsOf, hg]
      rw [e, hM.back] at h4
      exact (Prod.mk.inj h4).1.symm
    · rw [h3, List.filter_append]
      have e1 : (S.filter fun s => !decide (s.1 ∈ [(last : Int) + 1])) = S := List.filter_eq_self.2 (fun s hs => by
        have := (hi.span s hs).2.1
        have : s.1 ≠ (last : Int) + 1 := by omega
        simp [this])
      rw [e1]; simp
  · exact absurd hok h1
set_option maxHeartbeats 4000000 in
set_option maxRecDepth 20000 in
theorem heapBack_walk (pages : Int) (sa : Option Addr) (xs : List Act07) (m0 c0 : Nat) (n : Int) (w : World) (hp : I64 pages) (hA : Acts07 w sa m0 xs) (hn : I64 n) :
    Calls Try.prog 5 #[.int .i64 pages, .slice sa m0 c0, .int .i64 n] w fun e w' => e = .returned (.bool true) ∧ Bel w w' := by
  obtain ⟨rfl, hl, hrd, hok⟩ := hA
  have hl2 : xs.length ≤ 9223372036854775807 := by unfold maxLen at hl; omega
  by_cases hpg : pages < 4 ∨ 1024 < pages
  · have HNB := Lib.hid (heap_New_bad pages w hp hpg)
    clear hrd hok hpg
    by_cases c1 : 50 < (xs.length : Int)
    all_goals
      go_enter Try.func5, Try.ntmps5
      go_wp2_with fail
      refine HNB.out.mono ?_; rintro e w1 ⟨rfl, rfl⟩
      go_wp2_with fail
      refine (awake07 _).mono ?_; rintro e w' ⟨rfl, hB⟩
      go_wp2
      go_ret
      exact ⟨rfl, hB⟩
  obtain ⟨P, rfl⟩ := Int.eq_ofNat_of_zero_le (show 0 ≤ pages by omega)
  have HNEW := Lib.hid (heap_New P w (by omega) (by omega))
  have HRD := Lib.hid hrd
  have HOK := Lib.hid hok
  clear hrd hok hpg
  by_cases c1 : 50 < (xs.length : Int)
  · go_enter Try.func5, Try.ntmps5
    go_wp2_with fail
    refine HNEW.out.mono ?_; rintro e w1 hN
    obtain ⟨h, bi, rfl, hL⟩ := liveH_new hN
    have HB := Lib.hid hL.bel
    clear hN hL
    go_wp2_with fail
    refine (awake07 _).mono ?_; rintro e w' ⟨rfl, hB⟩
    go_wp2
    go_ret
    exact ⟨rfl, HB.out.trans hB⟩
  have c2 : xs.length ≤ 50 := by omega
  go_enter Try.func5, Try.ntmps5
  go_wp2_with fail
  refine HNEW.out.mono ?_; rintro e w1 hN
  obtain ⟨h, bi, rfl, hL⟩ := liveH_new hN
  have HL0 := Lib.hid hL
  clear hN hL HNEW
  go_wp2_with fail
  go_loopw [9] (fun k wr => ∃ i : Nat, i ≤ xs.length ∧ k = .int .i64 i ∧ Hid (∃ L ids S last, LiveH w (fun _ => False) wr h bi L ids S last ∧ last ≤ i)) (fun k wr => xs.length - (intOf k).toNat)
  case atStart => exact ⟨0, Nat.zero_le _, rfl, Lib.hid ⟨_, _, _, _, HL0.out, Nat.le_refl _⟩⟩
  case round =>
    clear HL0
    obtain ⟨i, hi, rfl, HX⟩ := hrel
    obtain ⟨L, ids, S, last, hL, hlast⟩ := HX.out
    have HL := Lib.hid hL
    clear HX hL
    by_cases hlt : i < xs.length
    · obtain ⟨b, o, rfl, hra⟩ := (HRD.out.bel HL.out.bel).at i hlt
      obtain ⟨b', o', e', hra0⟩ := HRD.out.at i hlt
      cases e'
      have hx := HOK.out xs[i] (List.getElem_mem _)
      generalize xs[i] = x at hra hra0 hx
      have q0 : wr.cell? ⟨b, o + i * 4, none⟩ = some (.bool x.free) := hra 0 _ rfl
      have q1 : wr.cell? ⟨b, o + i * 4 + 1, none⟩ = some (.slice x.ia x.ids.length x.ic) := hra 1 _ rfl
      have q2 : wr.cell? ⟨b, o + i * 4 + 2, none⟩ = some (.int .i64 x.pages) := hra 2 _ rfl
      have q3 : wr.cell? ⟨b, o + i * 4 + 3, none⟩ = some (.int .i64 x.order) := hra 3 _ rfl
      have hxl : x.ids.length ≤ 9223372036854775807 := by have := hx.len; unfold maxLen at this; omega
      have HX := Lib.hid hx
      have d0 : (i : Int) < xs.length := by omega
      have HKC : Hid (∀ V, Bel w V → V.cell? ⟨b, o + i * 4 + 2, none⟩ = some (.int .i64 x.pages) ∧ V.cell? ⟨b, o + i * 4 + 3, none⟩ = some (.int .i64 x.order)) := Lib.hid (fun V hV => ⟨hV.cell (hra0 2 _ rfl), hV.cell (hra0 3 _ rfl)⟩)
      clear hra hra0 hx
      by_cases c4 : 10 < (x.ids.length : Int)
      · go_wp2_with fail
        refine (awake07 _).mono ?_; rintro e w' ⟨rfl, hB⟩
        go_wp2
        go_ret
        exact ⟨rfl, HL.out.bel.trans hB⟩
      obtain ⟨fr, hfr⟩ : ∃ fr, x.free = fr := ⟨_, rfl⟩
      rw [hfr] at q0
      clear hfr
      cases fr
      · obtain ⟨s, en, L', ids', S', last', hR, hC⟩ := liveH_Make HL.out x.pages x.order HX.out.pages HX.out.order (by omega)
        have HR := Lib.hid hR.last
        have HC : Hid (∀ V, Bel wr V → Calls Try.prog 9 #[.pointer (some ⟨h, 0, none⟩), .int .i64 x.pages, .int .i64 x.order] V fun e V' => e = .returned (.tuple #[spV s, .int .i64 en]) ∧ LivePostH w (fun _ => False) wr h bi L' ids' S' last' V' ∧ V'.cell? ⟨b, o + i * 4 + 2, none⟩ = some (.int .i64 x.pages) ∧ V'.cell? ⟨b, o + i * 4 + 3, none⟩ = some (.int .i64 x.order)) := Lib.hid (fun V hV => (hC V hV).mono fun e V' ⟨h1, h2⟩ => ⟨h1, h2, HKC.out V' h2.1.bel⟩)
        clear hC hR
        simp only [spV] at HC
        go_wp2_with fail
        go_region_held3 (fun w' => w'.cell? ⟨b, o + i * 4 + 2, none⟩ = some (.int .i64 x.pages) ∧ w'.cell? ⟨b, o + i * 4 + 3, none⟩ = some (.int .i64 x.order))
          (first | exact hS7 | go_keep)
          (first | (go_at_call 9; (with_reducible refine (HC.out _ ?b1).mono ?_); (case b1 => repeat (first | exact Bel.refl _ | apply Bel.drew | apply Bel.alloc)); rintro e w7 ⟨rfl, hL7, hS7⟩))
        have HL7 := Lib.hid hL7.1
        go_wp2
        go_roundw
        case rel => exact ⟨i + 1, by omega, by go_num, Lib.hid ⟨_, _, _, _, HL7.out, by have := HR.out; omega⟩⟩
        case measure => simp [intOf]; omega
      · have HF := Lib.hid (liveH_Free HL.out x.ids (by omega) HX.out.ok wr x.ia x.ic (Bel.refl _) (HX.out.rd.bel HL.out.bel))
        go_wp2_with fail
        refine HF.out.mono ?_
        rintro e w7 ⟨en, L', ids', S', _, rfl, hL7⟩
        have HL7 := Lib.hid hL7.1
        clear hL7
        go_wp2
        go_roundw
        case rel => exact ⟨i + 1, by omega, by go_num, Lib.hid ⟨_, _, _, _, HL7.out, by omega⟩⟩
        case measure => simp [intOf]; omega
    · obtain rfl : i = xs.length := by omega
      have HINV := Lib.hid HL.out.inv
      have HLEN : Hid (L.length ≤ 65536) := Lib.hid (by have h9 := HINV.out.canon; have := h9.len (q := 1024); omega)
      go_wp2_with fail
      refine (liveH_Runs HL.out _ (Bel.refl _)).mono ?_
      rintro e w2 hN
      obtain ⟨a, ca, rfl, hra, hBa, hpa⟩ := list_post (Bel.refl _) hN
      have HLa := Lib.hid (HL.out.watch hBa (blkOf a) (fun i ⟨p, e, hi⟩ => by subst hi; exact hpa p e))
      have HA := Lib.hid hra
      clear hN hra hBa hpa
      go_wp2_with fail
      refine (liveH_Spans HLa.out _ (Bel.refl _)).mono ?_
      rintro e w3 ⟨d, cd, zs, rfl, hz, hrz, hBz, hpz⟩
      have HLz := Lib.hid (HLa.out.watch hBz (blkOf d) (fun i ⟨p, e, hi⟩ => by subst hi; exact hpz p e))
      have HA3 := Lib.hid (HA.out.bel hBz)
      have HZ := Lib.hid (And.intro hz (SpansIn.of_row hrz))
      have HZL : Hid (zs.length ≤ 65536) := Lib.hid (by have := HINV.out.count; have := hz.1.length_eq; omega)
      clear hz hrz hBz hpz HLa HA
      obtain ⟨s, en, L', ids', S', last', hR, hC⟩ := liveH_Make HLz.out n 0 hn ⟨by omega, by omega⟩ (by omega)
      have HC := Lib.hid (hC w3 (Bel.refl _))
      have HR := Lib.hid hR
      obtain ⟨s1, ⟨s2, s3⟩, s4⟩ := s
      simp only [spV] at HC
      clear hC hR
      go_wp2_with fail
      refine HC.out.mono ?_
      clear HC
      rintro e w4 ⟨rfl, hL4, hF4⟩
      have HA4 := Lib.hid ((HA3.out.watched hF4 (fun i hi => .inl (.inr hi))).bel ((Bel.refl w4).alloc (.cells #[.int .i64 s1, .int .i64 s2, .int .i64 s3, .int .i64 s4] 35)))
      have HZ4 := Lib.hid ((HZ.out.2.watched hF4 (fun p hp => .inr ⟨p, hp, rfl⟩)).bel ((Bel.refl w4).alloc (.cells #[.int .i64 s1, .int .i64 s2, .int .i64 s3, .int .i64 s4] 35)))
      have HL4 := Lib.hid (hL4.then_bel ((Bel.refl w4).alloc (.cells #[.int .i64 s1, .int .i64 s2, .int .i64 s3, .int .i64 s4] 35)))
      obtain ⟨y0, y1, y2, y3⟩ := four_cells (blk_alloc w4 (.cells #[.int .i64 s1, .int .i64 s2, .int .i64 s3, .int .i64 s4] 35))
      clear hL4 hF4 HA3
      have hcs : (en ≠ 0 ∧ L' = L) ∨ (en = 0 ∧ ∃ t, Made ids L S last n 0 t L' ids' ∧ s1 = (last : Int) + 1 ∧ S' = S ++ [((last : Int) + 1, (t, n), 0)] ∧ last' = last + 1) := by
        rcases HR.out with ⟨_, _, h1, h2, _⟩ | ⟨_, _, _, _, _, h1, h2, _⟩ | ⟨_, _, _, t, hM, _, _, h1, h2, h3, h4⟩
        · exact .inl ⟨by omega, h2⟩
        · exact .inl ⟨by omega, h2⟩
        · rw [h1] at h3
          exact .inr ⟨h2, t, hM, by cases h1; rfl, h3, h4⟩
      clear HR
      rcases hcs with ⟨hen, rfl⟩ | ⟨rfl, t, hM, rfl, rfl, rfl⟩
      · have e1 : (en != 0) = true := by simpa using hen
        go_wp2_with fail
        generalize w4.alloc (.cells #[.int .i64 s1, .int .i64 s2, .int .i64 s3, .int .i64 s4] 35) = W4 at HA4 HZ4 HL4 ⊢
        refine (liveH_Runs HL4.out _ (Bel.refl _)).mono ?_
        rintro e w5 hN
        obtain ⟨a5, c5, rfl, hr5, hB5, _⟩ := list_post (Bel.refl _) hN
        have HR5 := Lib.hid hr5
        have HB5 := Lib.hid (HL4.out.bel.trans hB5)
        have HA5 := Lib.hid (HA4.out.bel hB5)
        clear hN hr5 hB5
        go_wp2_with fail
        refine (same_true HLEN.out HR5.out HA5.out).mono ?_
        rintro e w6 ⟨rfl, hB6⟩
        have HB6 := Lib.hid (HB5.out.trans hB6)
        clear hB6
        go_wp2_with fail
        refine (awake07 _).mono ?_; rintro e w' ⟨rfl, hB⟩
        go_wp2
        go_ret
        exact ⟨rfl, HB6.out.trans hB⟩
      · have HM := Lib.hid hM
        have hwf : (Lit.int .i64 ((last : Int) + 1)).wf = true := wf_i64 (by omega) (by omega)
        have HFR : Hid (∀ W, Bel (w4.alloc (.cells #[.int .i64 ((last : Int) + 1), .int .i64 s2, .int .i64 s3, .int .i64 s4] 35)) W → ∀ g, W.heap.size = g → Calls Try.prog 8 #[.pointer (some ⟨h, 0, none⟩), .slice (some ⟨g, 0, none⟩) 1 1] (W.alloc (.cells #[.int .i64 ((last : Int) + 1)] 3)) fun e V' => ∃ en L'' ids'' S'', FreeR ids' L' (S ++ [((last : Int) + 1, (t, n), 0)]) (last + 1) [(last : Int) + 1] en L'' ids'' S'' ∧ e = .returned (.int .i64 en) ∧ LivePostH w (fun i => ((False ∨ blkOf a i) ∨ blkOf d i)) (w4.alloc (.cells #[.int .i64 ((last : Int) + 1), .int .i64 s2, .int .i64 s3, .int .i64 s4] 35)) h bi L'' ids'' S'' (last + 1) V') := Lib.hid (fun W hW g hg => by
          subst hg
          exact liveH_Free HL4.out [(last : Int) + 1] (by simp) (by intro k hk; simp at hk; subst hk; exact hwf) _ (some ⟨W.heap.size, 0, none⟩) 1 (hW.alloc _) (RdV.new W #[.int .i64 ((last : Int) + 1)] 3))
        clear hM
        go_wp2_with fail
        have hg4 : (w4.alloc (.cells #[.int .i64 ((last : Int) + 1), .int .i64 s2, .int .i64 s3, .int .i64 s4] 35)).heap.size = w4.heap.size + 1 := by simp
        generalize w4.alloc (.cells #[.int .i64 ((last : Int) + 1), .int .i64 s2, .int .i64 s3, .int .i64 s4] 35) = W4 at HA4 HZ4 HL4 HFR hg4 ⊢
        refine (HFR.out W4 (Bel.refl _) _ (by first | exact hg4 | rfl)).mono ?_
        clear HFR
        rintro e w5 ⟨en, L'', ids'', S'', hF, rfl, hL5, hF5⟩
        obtain ⟨rfl, rfl, rfl⟩ := made_back HINV.out HM.out hF
        have HA5 := Lib.hid (HA4.out.watched hF5 (fun i hi => .inl (.inr hi)))
        have HZ5 := Lib.hid (HZ4.out.watched hF5 (fun p hp => .inr ⟨p, hp, rfl⟩))
        have HL5 := Lib.hid hL5
        clear hL5 hF5 hF
        go_wp2_with fail
        refine (liveH_Runs HL5.out _ (Bel.refl _)).mono ?_
        rintro e w6 hN
        obtain ⟨a6, c6, rfl, hr6, hB6, _⟩ := list_post (Bel.refl _) hN
        have HR6 := Lib.hid hr6
        have HL6 := Lib.hid (HL5.out.then_bel hB6)
        have HA6 := Lib.hid (HA5.out.bel hB6)
        have HZ6 := Lib.hid (HZ5.out.bel hB6)
        clear hN hr6 hB6
        go_wp2_with fail
        refine (same_true HLEN.out HR6.out HA6.out).mono ?_
        rintro e w7 ⟨rfl, hB7⟩
        have HL7 := Lib.hid (HL6.out.then_bel hB7)
        have HZ7 := Lib.hid (HZ6.out.bel hB7)
        clear hB7
        go_wp2_with fail
        refine (liveH_Spans HL7.out _ (Bel.refl _)).mono ?_
        rintro e w8 ⟨d8, c8, z8, rfl, hz8, hr8, hB8, _⟩
        have hze : z8 = zs := (sorted_unique HINV.out (List.Perm.refl _) HZ.out.1 hz8).symm
        subst hze
        have HR8 := Lib.hid (SpansIn.of_row hr8)
        have HL8 := Lib.hid (HL7.out.then_bel hB8)
        have HZ8 := Lib.hid (HZ7.out.bel hB8)
        clear hz8 hr8 hB8
        go_wp2_with fail
        refine (ref7_same _ _ _ _ _ _ HZL.out HR8.out HZ8.out).mono ?_
        rintro e w9 ⟨rfl, hB9⟩
        have HL9 := Lib.hid (HL8.out.then_bel hB9)
        clear hB9
        go_wp2_with fail
        refine (awake07 _).mono ?_; rintro e w' ⟨rfl, hB⟩
        go_wp2
        go_ret
        exact ⟨rfl, HL9.out.bel.trans hB⟩
end Go.Proofs.Ythkbhikiljlgoaa

namespace Go.Proofs.Ythkbhikiljlgoaa
open Go.ChangeShapes Go.WideShapes Go.ChangeAt Go.RowKit Go.Deep

/-- No spans: all pages are one run. -/
theorem HInv.empty {ids : List Int} {L : List Rn} {last : Nat} (h : HInv ids L [] last) : L = [(0, (ids.length : Int))] := by
  have hlo := h.lo
  have hhi := h.hi
  refine canon_unique (q := 1024) L _ h.canon (HInv.start hlo hhi).canon (fun p => ?_)
  rw [h.free, inL_one]
  constructor
  · rintro ⟨a, b, _⟩; omega
  · rintro ⟨a, b⟩
    refine ⟨a, by omega, Classical.byContradiction fun hne => ?_⟩
    obtain ⟨s, hs, _⟩ := h.all p a (by omega) hne
    simp at hs
theorem FreeR.len {ids ids' : List Int} {L L' : List Rn} {S S' : List Sp} {last : Nat} {l : List Int} {en : Int} (h : FreeR ids L S last l en L' ids' S') : ids'.length = ids.length := by
  rcases h with ⟨_, _, h, _⟩ | ⟨_, _, _, h, _⟩
  · exact h.len
  · rw [h]
theorem MakeR.len {ids ids' : List Int} {L L' : List Rn} {S S' : List Sp} {last last' : Nat} {n ord en : Int} {s : Sp} (h : MakeR ids L S last n ord s en L' ids' S' last') : ids'.length = ids.length := by
  rcases h with ⟨_, _, _, _, h, _⟩ | ⟨_, _, _, _, _, _, _, h, _⟩ | ⟨_, _, _, t, h, _⟩
  · rw [h]
  · rw [h]
  · exact h.len
theorem fr_row {w w' : World} {row : Option Nat} (h : w.grownBy w' row) : Fr (fun k => row = some k) w w' :=
  ⟨h.os, h.tape, h.output, h.size, fun k hk hn => h.block k hk (fun e => hn e.symm)⟩
/-- What is left of spans when some have gone. -/
def leftS (S : List Sp) (T : List Int) : List Sp := S.filter fun s => !decide (s.1 ∈ T)
theorem leftS_nil (S : List Sp) : leftS S [] = S := by unfold leftS; simp
theorem leftS_step (S : List Sp) (T : List Int) (k : Int) : (leftS S T).filter (fun s => !decide (s.1 ∈ [k])) = leftS S (T ++ [k]) := by
  unfold leftS
  rw [List.filter_filter]
  refine List.filter_congr (fun s _ => ?_)
  simp only [List.mem_append, List.mem_cons, List.not_mem_nil, or_false]
  by_cases h1 : s.1 ∈ T <;> by_cases h2 : s.1 = k <;> simp [h1, h2]
theorem leftS_all {S : List Sp} {T : List Int} (h : ∀ s ∈ S, s.1 ∈ T) : leftS S T = [] := by
  unfold leftS
  rw [List.filter_eq_nil_iff]
  intro s hs; simp [h s hs]
/-- One that is there goes. -/
theorem free_one {ids ids' : List Int} {L L' : List Rn} {S S' : List Sp} {last : Nat} {T : List Int} {k en : Int} (h : FreeR ids L (leftS S T) last [k] en L' ids' S') (hk : ∃ s ∈ S, s.1 = k) (hT : k ∉ T) : en = 0 ∧ S' = leftS S (T ++ [k]) := by
  have hok : FreeOk (leftS S T) [k] := ⟨fun j hj => by
    simp at hj; subst hj
    cases hg : getS (leftS S T) j with
    | some _ => rfl
    | none =>
      obtain ⟨s, hs, rfl⟩ := hk
      exact absurd rfl (getS_none.1 hg s (List.mem_filter.2 ⟨hs, by simpa using hT⟩)), by simp⟩
  rcases h with ⟨_, h1, _, h3⟩ | ⟨h1, _⟩
  · exact ⟨h1, by rw [h3]; exact leftS_step S T k⟩
  · exact absurd hok h1
/-- All that are there go together. -/
theorem free_all {ids ids' : List Int} {L L' : List Rn} {S S' : List Sp} {last : Nat} {T : List Int} {en : Int} (h : FreeR ids L S last T en L' ids' S') (h1 : ∀ k ∈ T, ∃ s ∈ S, s.1 = k) (hn : T.Nodup) : en = 0 ∧ S' = leftS S T := by
  have hok : FreeOk S T := ⟨fun j hj => by
    cases hg : getS S j with
    | some _ => rfl
    | none =>
      obtain ⟨s, hs, he⟩ := h1 j hj
      exact absurd he (getS_none.1 hg s hs), hn⟩
  rcases h with ⟨_, h1, _, h3⟩ | ⟨h1, _⟩
  · exact ⟨h1, h3⟩
  · exact absurd hok h1
/-- The spans' numbers, from the last one on. -/
def idsR (zs : List Sp) : List Int := zs.reverse.map (·.1)
theorem idsR_length (zs : List Sp) : (idsR zs).length = zs.length := by simp [idsR]
theorem idsR_get (zs : List Sp) (i : Nat) (h : i < zs.length) : (idsR zs)[i]'(by rw [idsR_length]; exact h) = (zs[zs.length - 1 - i]'(by omega)).1 := by
  unfold idsR
  rw [List.getElem_map, List.getElem_reverse]
theorem idsR_mem {S zs : List Sp} (hp : zs.Perm S) (k : Int) : k ∈ idsR zs ↔ ∃ s ∈ S, s.1 = k := by
  unfold idsR
  rw [List.mem_map]
  constructor
  · rintro ⟨s, hs, rfl⟩; exact ⟨s, hp.mem_iff.1 (by simpa using hs), rfl⟩
  · rintro ⟨s, hs, rfl⟩; exact ⟨s, by simpa using hp.mem_iff.2 hs, rfl⟩
theorem idsR_nodup {S zs : List Sp} (hp : zs.Perm S) (h : (S.map (·.1)).Nodup) : (idsR zs).Nodup := by
  unfold idsR
  exact ((((List.reverse_perm zs).trans hp).map (·.1)).nodup_iff).2 h

/-- Numbers so far; spans so far. -/
def EndWay (w wi : World) (B P h bi : Nat) (S : List Sp) (last : Nat) (zs : List Sp) (d : Option Addr) (tg : Bool) (uv : Value) (i : Nat) : Prop :=
  wi.ownsRow B 3 1 uv ((idsR zs).take i).length (ints ((idsR zs).take i)) ∧ SpansIn wi d zs ∧ ∃ L' ids', LiveH w (fun i => False ∨ blkOf d i) wi h bi L' ids' (if tg then S else leftS S ((idsR zs).take i)) last ∧ ids'.length = P ∧ B ≤ wi.heap.size
set_option maxHeartbeats 4000000 in
set_option maxRecDepth 20000 in
theorem heapEnds_walk (pages : Int) (sa : Option Addr) (xs : List Act07) (m0 c0 : Nat) (tg : Bool) (w : World) (hp : I64 pages) (hA : Acts07 w sa m0 xs) :
    Calls Try.prog 4 #[.int .i64 pages, .slice sa m0 c0, .bool tg] w fun e w' => e = .returned (.bool true) ∧ Bel w w' := by
  obtain ⟨rfl, hl, hrd, hok⟩ := hA
  have hl2 : xs.length ≤ 9223372036854775807 := by unfold maxLen at hl; omega
  by_cases hpg : pages < 4 ∨ 1024 < pages
  · have HNB := Lib.hid (heap_New_bad pages w hp hpg)
    clear hrd hok hpg
    by_cases c1 : 100 < (xs.length : Int)
    all_goals
      go_enter Try.func4, Try.ntmps4
      go_wp2_with fail
      refine HNB.out.mono ?_; rintro e w1 ⟨rfl, rfl⟩
      go_wp2_with fail
      refine (awake07 _).mono ?_; rintro e w' ⟨rfl, hB⟩
      go_wp2
      go_ret
      exact ⟨rfl, hB⟩
  obtain ⟨P, rfl⟩ := Int.eq_ofNat_of_zero_le (show 0 ≤ pages by omega)
  have HNEW := Lib.hid (heap_New P w (by omega) (by omega))
  have HRD := Lib.hid hrd
  have HOK := Lib.hid hok
  clear hrd hok hpg
  by_cases c1 : 100 < (xs.length : Int)
  · go_enter Try.func4, Try.ntmps4
    go_wp2_with fail
    refine HNEW.out.mono ?_; rintro e w1 hN
    obtain ⟨h, bi, rfl, hL⟩ := liveH_new hN
    have HB := Lib.hid hL.bel
    clear hN hL
    go_wp2_with fail
    refine (awake07 _).mono ?_; rintro e w' ⟨rfl, hB⟩
    go_wp2
    go_ret
    exact ⟨rfl, HB.out.trans hB⟩
  have c2 : xs.length ≤ 100 := by omega
  go_enter Try.func4, Try.ntmps4
  go_wp2_with fail
  refine HNEW.out.mono ?_; rintro e w1 hN
  obtain ⟨h, bi, rfl, hL⟩ := liveH_new hN
  have HL0 := Lib.hid hL
  clear hN hL HNEW
  go_wp2_with fail
  go_loopw [9] (fun k wr => ∃ i : Nat, i ≤ xs.length ∧ k = .int .i64 i ∧ Hid (∃ L ids S last, LiveH w (fun _ => False) wr h bi L ids S last ∧ last ≤ i ∧ ids.length = P)) (fun k wr => xs.length - (intOf k).toNat)
  case atStart => exact ⟨0, Nat.zero_le _, rfl, Lib.hid ⟨_, _, _, _, HL0.out, Nat.le_refl _, by simp⟩⟩
  case round =>
    clear HL0
    obtain ⟨i, hi, rfl, HX⟩ := hrel
    obtain ⟨L, ids, S, last, hL, hlast, hids⟩ := HX.out
    have HL := Lib.hid hL
    clear HX hL
    by_cases hlt : i < xs.length
    · obtain ⟨b, o, rfl, hra⟩ := (HRD.out.bel HL.out.bel).at i hlt
      obtain ⟨b', o', e', hra0⟩ := HRD.out.at i hlt
      cases e'
      have hx := HOK.out xs[i] (List.getElem_mem _)
      generalize xs[i] = x at hra hra0 hx
      have q0 : wr.cell? ⟨b, o + i * 4, none⟩ = some (.bool x.free) := hra 0 _ rfl
      have q2 : wr.cell? ⟨b, o + i * 4 + 2, none⟩ = some (.int .i64 x.pages) := hra 2 _ rfl
      have q3 : wr.cell? ⟨b, o + i * 4 + 3, none⟩ = some (.int .i64 x.order) := hra 3 _ rfl
      have HX := Lib.hid hx
      have d0 : (i : Int) < xs.length := by omega
      have HKC : Hid (∀ V, Bel w V → V.cell? ⟨b, o + i * 4 + 2, none⟩ = some (.int .i64 x.pages) ∧ V.cell? ⟨b, o + i * 4 + 3, none⟩ = some (.int .i64 x.order)) := Lib.hid (fun V hV => ⟨hV.cell (hra0 2 _ rfl), hV.cell (hra0 3 _ rfl)⟩)
      clear hra hra0 hx
      obtain ⟨fr, hfr⟩ : ∃ fr, x.free = fr := ⟨_, rfl⟩
      rw [hfr] at q0
      clear hfr
      cases fr
      · obtain ⟨s, en, L', ids', S', last', hR, hC⟩ := liveH_Make HL.out x.pages x.order HX.out.pages HX.out.order (by omega)
        have HR := Lib.hid (And.intro hR.last (hR.len.trans hids))
        have HC : Hid (∀ V, Bel wr V → Calls Try.prog 9 #[.pointer (some ⟨h, 0, none⟩), .int .i64 x.pages, .int .i64 x.order] V fun e V' => e = .returned (.tuple #[spV s, .int .i64 en]) ∧ LivePostH w (fun _ => False) wr h bi L' ids' S' last' V' ∧ V'.cell? ⟨b, o + i * 4 + 2, none⟩ = some (.int .i64 x.pages) ∧ V'.cell? ⟨b, o + i * 4 + 3, none⟩ = some (.int .i64 x.order)) := Lib.hid (fun V hV => (hC V hV).mono fun e V' ⟨h1, h2⟩ => ⟨h1, h2, HKC.out V' h2.1.bel⟩)
        clear hC hR
        simp only [spV] at HC
        go_wp2_with fail
        go_region_held3 (fun w' => w'.cell? ⟨b, o + i * 4 + 2, none⟩ = some (.int .i64 x.pages) ∧ w'.cell? ⟨b, o + i * 4 + 3, none⟩ = some (.int .i64 x.order))
          (first | exact hS7 | go_keep)
          (first | (go_at_call 9; (with_reducible refine (HC.out _ ?b1).mono ?_); (case b1 => repeat (first | exact Bel.refl _ | apply Bel.drew | apply Bel.alloc)); rintro e w7 ⟨rfl, hL7, hS7⟩))
        have HL7 := Lib.hid hL7.1
        go_wp2
        go_roundw
        case rel => exact ⟨i + 1, by omega, by go_num, Lib.hid ⟨_, _, _, _, HL7.out, by have := HR.out.1; omega, HR.out.2⟩⟩
        case measure => simp [intOf]; omega
      · go_wp2
        go_roundw
        case rel => exact ⟨i + 1, by omega, by go_num, Lib.hid ⟨_, _, _, _, HL.out, by omega, hids⟩⟩
        case measure => simp [intOf]; omega
    · obtain rfl : i = xs.length := by omega
      have HINV := Lib.hid HL.out.inv
      go_wp2_with fail
      refine (liveH_Spans HL.out _ (Bel.refl _)).mono ?_
      rintro e w2 ⟨d, cd, zs, rfl, hz, hrz, hBz, hpz⟩
      have HLz := Lib.hid (HL.out.watch hBz (blkOf d) (fun i ⟨p, e, hi⟩ => by subst hi; exact hpz p e))
      have HZ := Lib.hid (And.intro hz (SpansIn.of_row hrz))
      have HDP := Lib.hid (fun p (hp : d = some p) => (hpz p hp).2)
      have hzl : zs.length ≤ 100 := by have := HINV.out.count; have := hz.1.length_eq; omega
      have hbi : bi < w2.heap.size := HLz.out.bi_lt
      have hq2 : (Instr.buildSlice 28 0 #[]).run Try.prog w2 = .ok (.slice (some ⟨w2.heap.size, 0, none⟩) 0 0) (w2.alloc (.cells #[] 3)) := by kernel_rfl
      have HOW0 : Hid ((w2.alloc (.cells #[] 3)).ownsRow w2.heap.size 3 1 (.slice (some ⟨w2.heap.size, 0, none⟩) 0 0) 0 []) := Lib.hid (World.ownsRow_made (e := 3) (size := 1) w2 #[] 0 (Nat.le_refl _) (by simp [maxLen]) (by simp))
      clear hz hrz hBz hpz
      go_wp2_with fail
      go_loopw [11, 12] (fun u k wi => ∃ i : Nat, i ≤ zs.length ∧ k = .int .i64 i ∧ ∃ uv, uv = u ∧ Hid (EndWay w wi w2.heap.size P h bi S last zs d tg uv i)) (fun u k wi => zs.length - (intOf k).toNat)
      case atStart => exact ⟨0, Nat.zero_le _, rfl, _, rfl, Lib.hid ⟨by simpa [ints] using HOW0.out, HZ.out.2.bel ((Bel.refl _).alloc _), L, ids, by
        rw [List.take_zero, leftS_nil]
        have := HLz.out.then_bel ((Bel.refl w2).alloc (.cells #[] 3))
        cases tg <;> exact this, hids, by simp⟩⟩
      case round =>
        clear HOW0 hq2
        obtain ⟨i, hi2, rfl, uv, rfl, HX⟩ := hrel
        obtain ⟨hown, hsp, L1, ids1, hL1, hids1, hszw⟩ := HX.out
        clear HX
        have hT : (idsR zs).length = zs.length := idsR_length zs
        by_cases hlt2 : i < zs.length
        · obtain ⟨j, hj⟩ : ∃ j, zs.length = j + 1 + i := ⟨zs.length - 1 - i, by omega⟩
          have hji : zs.length - 1 - i = j := by omega
          have hkg := idsR_get zs i hlt2
          obtain ⟨b, o, rfl, p0, _⟩ := hsp.at j (by omega)
          have htk : (idsR zs).take (i + 1) = (idsR zs).take i ++ [(idsR zs)[i]'(by omega)] := List.take_succ_eq_append_getElem (by omega)
          have z1 : IntKind.i64.wrap ((zs.length : Int) - 1) = (zs.length : Int) - 1 := IntWalk.i64_in _ (by omega)
          have z2 : IntKind.i64.wrap ((zs.length : Int) - 1 - i) = (j : Int) := by rw [show (zs.length : Int) - 1 - i = j by omega]; exact IntWalk.i64_in _ (by omega)
          obtain ⟨k, hk⟩ : ∃ k, zs[j].1 = k := ⟨_, rfl⟩
          have hkk : (idsR zs)[i]'(by omega) = k := by
            rw [hkg]
            have : ∀ m (hm : m < zs.length), m = j → zs[m].1 = k := by rintro m hm rfl; exact hk
            exact this _ _ hji
          rw [hk] at p0
          have HK := Lib.hid hk
          rw [hkk] at htk
          have hkS : ∃ s ∈ S, s.1 = k := (idsR_mem HZ.out.1.1 k).1 (by rw [← hkk]; exact List.getElem_mem _)
          have hnd := idsR_nodup HZ.out.1.1 HINV.out.nd
          have hkT : k ∉ (idsR zs).take i := fun h9 => by
            have h8 := hnd.sublist (List.take_sublist (i + 1) _)
            rw [htk, List.nodup_append] at h8
            exact h8.2.2 _ h9 _ (by simp) rfl
          obtain ⟨i0, hi0, hz0, hz1, hz2⟩ := info_parts info_int5
          have HOW := Lib.hid hown
          have HL1 := Lib.hid hL1
          have HSP := Lib.hid hsp
          have HTK := Lib.hid htk
          have HKS := Lib.hid (And.intro hkS hkT)
          clear hown hL1 hsp htk hkg hkk hkS hnd hkT hk
          go_wp2_with (at_builtin; refine wpList_append_own _ rfl _ _ 28 rfl w2.heap.size 3 i0 (.int .i64 0) 1 8 Try.underlying28 hi0 hz0 hz1 hz2 rfl (by decide) _ _ _ rfl (HOW.out.alloc _) ⟨wr.heap.size, 0, none⟩ 1 1 [.int .i64 k] rfl rfl ?d2 ?d3 ?d4 ?d5 ?d6 ?_)
          case d2 => exact cell_one_new _ _ _
          case d3 => simp [Value.oneCell']
          case d4 => unfold maxLen; first | omega | (simp; omega)
          case d5 => first | omega | (simp; omega)
          case d6 => first | omega | (simp; omega)
          intro v' w4 hown4 hgrow _
          have hf4 := fr_row hgrow
          have hL4 : LiveH w (fun i => False ∨ blkOf (some ⟨b, o, none⟩) i) w4 h bi L1 ids1 (if tg then S else leftS S ((idsR zs).take i)) last :=
            (((HL1.out.own_int HOW.out hbi).then_bel ((Bel.refl wr).alloc (.cells #[.int .i64 k] 3))).fr hf4 (fun j hj => ⟨.inr hj, Nat.le_trans HLz.out.bel.size (HOW.out.lt j hj).1⟩)).forget (fun j hj => .inl hj)
          have hS4 : SpansIn w4 (some ⟨b, o, none⟩) zs := by
            rcases HSP.out.bel ((Bel.refl wr).alloc (.cells #[.int .i64 k] 3)) with h9 | ⟨b', o', e', h9⟩
            · exact .inl h9
            · cases e'
              exact .inr ⟨b, o, rfl, fun m hm q v hv => hf4.cell (h9 m hm q v hv) (fun hq => by have h8 := (HOW.out.lt b hq).1; have h7 := HDP.out _ rfl; dsimp only at h7; omega)⟩
          have hsz4 : w2.heap.size ≤ w4.heap.size := Nat.le_trans hszw (Nat.le_trans ((Bel.refl wr).alloc (.cells #[.int .i64 k] 3)).size hf4.size)
          have HOW4 : Hid (w4.ownsRow w2.heap.size 3 1 v' ((idsR zs).take (i + 1)).length (ints ((idsR zs).take (i + 1)))) := Lib.hid (by
            have e9 : ((idsR zs).take (i + 1)).length = i + 1 := by rw [List.length_take]; omega
            rw [e9, HTK.out]; simpa [ints] using hown4)
          have HL4 := Lib.hid hL4
          have HS4 := Lib.hid hS4
          clear hown4 hgrow hf4 hL4 hS4 p0
          cases tg
          · simp only [Bool.false_eq_true, if_false] at HL4
            obtain ⟨_, _, e', p0, _⟩ := HS4.out.at j (by omega)
            cases e'
            rw [HK.out] at p0
            have hkw : (Lit.int .i64 k).wf = true := by
              obtain ⟨s, hs, rfl⟩ := HKS.out.1
              have := HINV.out.span s hs
              exact wf_i64 (by omega) (by omega)
            have HL5 := Lib.hid (HL4.out.own_int HOW4.out hbi)
            have HF := Lib.hid (liveH_Free HL5.out [k] (by simp) (by intro q hq; simp at hq; subst hq; exact hkw) (w4.alloc (.cells #[.int .i64 k] 3)) (some ⟨w4.heap.size, 0, none⟩) 1 ((Bel.refl _).alloc _) (RdV.new w4 #[.int .i64 k] 3))
            go_wp2_with fail
            refine HF.out.mono ?_
            clear HF
            rintro e w5 ⟨en, L2, ids2, S2, hFR, rfl, hL6, hF6⟩
            obtain ⟨rfl, rfl⟩ := free_one hFR HKS.out.1 HKS.out.2
            have HN : Hid (w5.ownsRow w2.heap.size 3 1 v' ((idsR zs).take (i + 1)).length (ints ((idsR zs).take (i + 1))) ∧ SpansIn w5 (some ⟨b, o, none⟩) zs ∧ LiveH w (fun i => False ∨ blkOf (some ⟨b, o, none⟩) i) w5 h bi L2 ids2 (leftS S ((idsR zs).take (i + 1))) last ∧ ids2.length = P ∧ w2.heap.size ≤ w5.heap.size) := Lib.hid
              ⟨own_fr HOW4.out hF6 (fun g _ hg h9 => h9 (.inr hg)), HS4.out.watched hF6 (fun p hp => .inl (.inr ⟨p, hp, rfl⟩)), by rw [HTK.out]; exact hL6.forget (fun q hq => .inl hq), hFR.len.trans hids1, Nat.le_trans hsz4 hF6.size⟩
            clear hFR hL6 hF6
            go_wp2
            go_roundw
            case rel =>
              (repeat (apply Exists.intro)); refine ⟨⟨i + 1, by omega, rfl, _, rfl, Lib.hid ⟨HN.out.1, HN.out.2.1, L2, ids2, HN.out.2.2.1, HN.out.2.2.2.1, HN.out.2.2.2.2⟩⟩, ?_⟩
              (repeat' apply And.intro) <;> first | rfl | (rw [hj]; rfl) | go_num
            case measure => simp [intOf]; omega
          · go_wp2
            go_roundw
            case rel =>
              (repeat (apply Exists.intro)); refine ⟨⟨i + 1, by omega, rfl, Lib.hid ⟨HOW4.out, HS4.out, L1, ids1, HL4.out, hids1, hsz4⟩⟩, ?_⟩
              (repeat' apply And.intro) <;> first | rfl | go_num
            case measure => simp [intOf]; omega
        · obtain rfl : i = zs.length := by omega
          have htl : (idsR zs).take zs.length = idsR zs := by rw [← hT, List.take_length]
          have hleft : leftS S ((idsR zs).take zs.length) = [] := by rw [htl]; exact leftS_all (fun s hs => (idsR_mem HZ.out.1.1 s.1).2 ⟨s, hs, rfl⟩)
          rw [htl] at hown
          rw [hT] at hown
          cases tg
          · obtain ⟨LL, rfl⟩ : ∃ LL, LL = L1 := ⟨_, rfl⟩
            obtain ⟨LI, hLI, hLE⟩ : ∃ LI : List Int, LI.length = P ∧ LiveH w (fun i => False ∨ blkOf d i) wr h bi LL LI [] last := ⟨ids1, hids1, by simpa [hleft] using hL1⟩
            clear hleft hL1 hids1 htl hlt2
            have HLE := Lib.hid hLE
            clear hLE hown hsp
            go_wp2_with fail
            refine (liveH_Spans HLE.out _ (Bel.refl _)).mono ?_
            rintro e w5 ⟨d5, c5, z5, rfl, hz5, hr5, hB5, _⟩
            have hz0 : z5 = [] := List.eq_nil_of_length_eq_zero (by simpa using hz5.1.length_eq)
            subst hz0
            have HL5 := Lib.hid (HLE.out.then_bel hB5)
            clear hz5 hr5 hB5 HLE
            go_wp2_with fail
            refine (liveH_Runs HL5.out _ (Bel.refl _)).mono ?_
            rintro e w6 hN
            obtain ⟨a6, c6, rfl, hr6, hB6, _⟩ := list_post (Bel.refl _) hN
            have hLL : LL = [(0, (P : Int))] := by rw [HL5.out.inv.empty, hLI]
            have HL6 := Lib.hid (HL5.out.then_bel hB6)
            subst hLL
            have HR6 := Lib.hid hr6
            clear hN hr6 hB6 HL5
            go_wp2_with fail
            refine (ref5_Same a6 (some ⟨w6.heap.size, 0, none⟩) [(0, (P : Int))] [(0, (P : Int))] _ c6 1 1 _ rfl rfl (by simp) (by simp) (HR6.out.bel ((Bel.refl _).alloc _)) (RunsIn.of_row (RdV.new w6 #[.int .i64 0, .int .i64 P] 33))).mono ?_
            rintro e w7 ⟨rfl, hB7⟩
            rw [dec_self6]
            have HB7 := Lib.hid (HL6.out.bel.trans (((Bel.refl _).alloc (.cells #[.int .i64 0, .int .i64 P] 33)).trans hB7))
            clear hB7 HL6 HR6
            go_wp2_with fail
            refine (awake07 _).mono ?_; rintro e w' ⟨rfl, hB⟩
            go_wp2
            go_ret
            exact ⟨rfl, HB7.out.trans hB⟩
          · have hL2 : LiveH w (fun i => False ∨ blkOf d i) wr h bi L1 ids1 S last := by simpa using hL1
            obtain ⟨ia, ic, rfl, hri, _, _⟩ := own_slice2 hown
            have hwf : ∀ k ∈ idsR zs, (Lit.int .i64 k).wf = true := fun k hk => by
              obtain ⟨s, hs, rfl⟩ := (idsR_mem HZ.out.1.1 k).1 hk
              have := HINV.out.span s hs
              exact wf_i64 (by omega) (by omega)
            have hfr := liveH_Free hL2 (idsR zs) (by omega) hwf wr ia ic (Bel.refl _) hri
            rw [hT] at hfr
            have HF := Lib.hid hfr
            clear hfr hleft hL1 hL2 htl hown hsp hri hwf
            go_wp2_with fail
            refine HF.out.mono ?_
            clear HF
            rintro e wq ⟨en, LL, LI, S2, hFR, rfl, hL6, hF6⟩
            have hLI : LI.length = P := hFR.len.trans hids1
            obtain ⟨rfl, rfl⟩ := free_all hFR (fun k hk => (idsR_mem HZ.out.1.1 k).1 hk) (idsR_nodup HZ.out.1.1 HINV.out.nd)
            have hLE : LiveH w (fun i => False ∨ blkOf d i) wq h bi LL LI [] last := by
              have h9 := hL6
              rw [leftS_all (fun s hs => (idsR_mem HZ.out.1.1 s.1).2 ⟨s, hs, rfl⟩)] at h9
              exact h9
            clear hFR hL6 hF6
            have HLE := Lib.hid hLE
            clear hLE
            go_wp2_with fail
            refine (liveH_Spans HLE.out _ (Bel.refl _)).mono ?_
            rintro e w5 ⟨d5, c5, z5, rfl, hz5, hr5, hB5, _⟩
            have hz0 : z5 = [] := List.eq_nil_of_length_eq_zero (by simpa using hz5.1.length_eq)
            subst hz0
            have HL5 := Lib.hid (HLE.out.then_bel hB5)
            clear hz5 hr5 hB5 HLE
            go_wp2_with fail
            refine (liveH_Runs HL5.out _ (Bel.refl _)).mono ?_
            rintro e w6 hN
            obtain ⟨a6, c6, rfl, hr6, hB6, _⟩ := list_post (Bel.refl _) hN
            have hLL : LL = [(0, (P : Int))] := by rw [HL5.out.inv.empty, hLI]
            have HL6 := Lib.hid (HL5.out.then_bel hB6)
            subst hLL
            have HR6 := Lib.hid hr6
            clear hN hr6 hB6 HL5
            go_wp2_with fail
            refine (ref5_Same a6 (some ⟨w6.heap.size, 0, none⟩) [(0, (P : Int))] [(0, (P : Int))] _ c6 1 1 _ rfl rfl (by simp) (by simp) (HR6.out.bel ((Bel.refl _).alloc _)) (RunsIn.of_row (RdV.new w6 #[.int .i64 0, .int .i64 P] 33))).mono ?_
            rintro e w7 ⟨rfl, hB7⟩
            rw [dec_self6]
            have HB7 := Lib.hid (HL6.out.bel.trans (((Bel.refl _).alloc (.cells #[.int .i64 0, .int .i64 P] 33)).trans hB7))
            clear hB7 HL6 HR6
            go_wp2_with fail
            refine (awake07 _).mono ?_; rintro e w' ⟨rfl, hB⟩
            go_wp2
            go_ret
            exact ⟨rfl, HB7.out.trans hB⟩
end Go.Proofs.Ythkbhikiljlgoaa
