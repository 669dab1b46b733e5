/- Package index: its small functions. slices.IndexFunc and ContainsFunc over ints, whatever function of one int is asked. slices.SortedFunc over a slice of runs; apart. The library's SortFunc at spans, over heap's comparing function; slices.SortedFunc over a map of spans. maps.Values at spans, and what collects it. slices.AppendSeq, Collect over the iterator of runs. (Turned from the kit's worked proofs.) -/
import Derived.Test.YtbldidlbhahciaaGreatGLargeHolds4
import Derived.Test.YtbldidlbhahciaaGreatSortLayS
import Derived.Test.YtbldidlbhahciaaGreatGLargeHolds2
import Derived.Test.YtbldidlbhahciaaGreatGLargeHolds0
import Derived.WalkSmall
import Derived.Sort.MapsRangeIn
import Derived.RangeFuncMany
import Derived.Shelf.Abstract
import Derived.Shelf.SlSortCmp.NoneTotal
import Derived.Deep.QuietTactic
import Derived.BigQuiet
import Derived.Recover
import Derived.Defers
set_option linter.unusedVariables false
set_option linter.unusedSimpArgs false
namespace Go.Proofs.YtbldidlbhahciaaGreat
open Go.RowKit Go.Shelf
attribute [local go_sem] Oper.semAt_some

/-- Runs that came out of the iterator, in a row of one's own. -/
def Collected (w : World) (zs : List Rn) (e : Ending) (W' : World) : Prop :=
  ∃ v, e = .returned v ∧ W'.ownsRow w.heap.size 31 2 v zs.length (cellsOf zs) ∧ (v = .slice none 0 0 ↔ zs = []) ∧ Go.RowKit.Below w.heap.size w W'

set_option maxRecDepth 100000 in
set_option maxHeartbeats 4000000 in
theorem appendSeq_in (F : Fence) (n : Nat) (h39 : F.fn 147) (h38 : F.fn 131) (hro : F.round = none) (hn : 3 ≤ n) (Bs : Nat) (sv : Value) (zs : List Rn) (hlen : zs.length ≤ 65536) (w : World)
    (hBs : Bs < w.heap.size) (hc : w.cell? ⟨Bs, 0, none⟩ = some sv) (hI : RunsAt w.heap.size w sv zs) :
    CallsIn F n Tryz.prog 147 #[.slice none 0 0, .func (.func 131) #[] #[.pointer (some ⟨Bs, 0, none⟩)]] w (Collected w zs) := by
  have h1 : 1 ≤ n := by omega
  obtain ⟨i0, hi, hz0, hz1, hz2⟩ := info_parts info_run
  refine callsIn_of_wp_marks Tryz.func147 rfl h39 ?_ hro
  simp only [Tryz.ntmps147, List.size_toArray, List.length_cons, List.length_nil, Nat.reduceAdd, Nat.reduceSub, Array.replicate_succ, Array.replicate_zero, List.push_toArray, List.append_toArray, List.nil_append, List.cons_append]
  gi_wp2
  have bO := Boxed.new w 64 (.slice none 0 0)
  have hB0 : Go.RowKit.Below w.heap.size w (w.alloc (.cells #[.slice none 0 0] 64)) := (Below.refl _ w).alloc (Nat.le_refl _) _
  refine wpIn_rangeFunc_ownH hro h1 (gf := 131) (lb := #[.pointer (some ⟨Bs, 0, none⟩)]) rfl h38 (enters_of Tryz.func131 (by kernel_rfl) rfl)
    (values_stops F (n - 1) h38 hro (by omega) Bs w.heap.size sv zs (by omega) _ (by simp; omega) (by simp) ((hB0.cell (p := ⟨Bs, 0, none⟩) hBs).trans hc) (hI.below hB0)) belowK_t (belowK_b (by simp)) (Below.refl _ _) (fun _ => rfl)
    (fun pre W => (∃ v, Boxed W w.heap.size 64 v ∧ W.ownsRow w.heap.size 31 2 v pre.length (cellsOf pre) ∧ (v = .slice none 0 0 ↔ pre = [])) ∧ Go.RowKit.Below w.heap.size w W)
    (fun _ _ _ => False)
    (OwnFrom.and (Own.from (holdsRow_own w.heap.size w.heap.size 64 31 2 (fun pre => pre.length) (fun pre => cellsOf pre) (fun pre v => v = .slice none 0 0 ↔ pre = [])) _) (ownFrom_below (Nat.le_refl _) (by simp)))
    (fun _ _ _ _ _ hs _ _ => hs)
    ⟨⟨_, bO, World.ownsRow_nil _ _ _ _, by simp⟩, hB0⟩
    (fun x a' W => ∃ Bx, w.heap.size < Bx ∧ W.heap[Bx]? = some (.cells #[.int .i64 x.1, .int .i64 x.2] 31 (0, 0)) ∧ a' = { tmps := #[.slice none 0 0, .func (.func 131) #[] #[.pointer (some ⟨Bs, 0, none⟩)], .pointer (some ⟨w.heap.size, 0, none⟩), undef, .slice none 0 0, .pointer (some ⟨Bx, 0, none⟩), .func (.func 131) #[] #[.pointer (some ⟨Bs, 0, none⟩)], .agg #[.int .i64 x.1, .int .i64 x.2], undef, undef, undef, undef, undef], defers := [] })
    (fun x a' _ X Y row hs hg hr => by
      obtain ⟨Bx, h1, h2, h3⟩ := hs
      refine ⟨Bx, h1, (hg.block Bx (heap_lt h2) (fun e => ?_)).trans h2, h3⟩
      obtain ⟨_, o, ho, hno⟩ := hr Bx e.symm
      rw [h2] at ho; cases ho; cases hno)
    ?assign ?body ?done ?stop
  case assign =>
    rintro l pre x W K ⟨⟨v, hv, hrow, hnil⟩, hB1⟩ hK
    gi_wp2
    exact hK _ _ ((KeepsOthers.alloc _ _).from _) ((Below.refl _ W).alloc hB1.size _) ⟨⟨v, hv.alloc _, hrow.alloc _, hnil⟩, hB1.alloc hB1.size _⟩ ⟨W.heap.size, hv.lt, blk_alloc W _, rfl⟩
  case body =>
    rintro l pre x a' W hl ⟨r, hr⟩ ⟨⟨v, hv, hrow, hnil⟩, hB⟩ ⟨Bx, hBx, bX, rfl⟩ hlt
    have hcv := hv.cell
    have x0 : W.cell? ⟨Bx, 0, none⟩ = some (.int .i64 x.1) := blk_cell bX 0
    have x1 : W.cell? ⟨Bx, 1, none⟩ = some (.int .i64 x.2) := blk_cell bX 1
    have hxs := hB.size
    gi_wp2_with (gi_at_builtin; refine wpListIn_append_own _ rfl _ _ 64 rfl w.heap.size 31 i0 (.agg #[.int .i64 0, .int .i64 0]) 2 16 Tryz.underlying64 hi hz0 hz1 hz2 rfl (by decide) _ _ _ rfl (hrow.alloc _) ⟨W.heap.size, 0, none⟩ 1 1 [.int .i64 x.1, .int .i64 x.2] rfl rfl (cell_two_new _ _ _ _) (by simp [Value.oneCell']) (by unfold maxLen; omega) (by omega) (by simp; omega) ?_; intro v' w1 hown' hgrow _; obtain ⟨g', cap', rfl⟩ := ownsRow_succ hown'; obtain ⟨hv1, hv2, hr2, hk2, hb2⟩ := hv.appended (by decide) hrow hB.size (Nat.le_refl _) hown' hgrow; have hc1 := hv1.cell; have hf1 := hv1.frozen)
    exact ⟨hk2.from _, hb2, ⟨_, hv2, by rw [cellsOf_snoc, List.length_append]; simpa using hr2, by simp⟩, hB.trans hb2⟩
  case done =>
    rintro D ys W hD rfl ⟨⟨v, hv, hrow, hnil⟩, hB⟩ hK
    have hcv := hv.cell
    gi_wp2
    refine ⟨by simp, .inl ⟨_, _, rfl, run_takeDeferred hK, ?_⟩⟩
    exact ⟨_, results_tmp rfl _ _ _, v, rfl, ownsRow_putObj hrow _ hK rfl, hnil, hB.trans (belowK_b (w := w) (Nat.le_refl _) W D _ _ (by simp at hD; omega) hK rfl rfl)⟩
  case stop =>
    rintro D c pre W _ _ h _
    exact h.elim
end Go.Proofs.YtbldidlbhahciaaGreat

namespace Go.Proofs.YtbldidlbhahciaaGreat
open Go.RowKit Go.Shelf Go.Maps Go.WideShapes
attribute [local go_sem] Oper.semAt_some

/-- What has come so far. -/
structure Come (D : DataW Sp) (left : Lit → Bool) (xs : List Sp) : Prop where
  nd : (xs.map (·.1)).Nodup
  iff : ∀ k : Int, k ∈ xs.map (·.1) ↔ has D (.int .i64 k) = true ∧ left (.int .i64 k) = false
  at_ : ∀ s ∈ xs, ∀ zd, D.atKey (.int .i64 s.1) zd = .held s
theorem Come.start (D : DataW Sp) : Come D (has D) [] := ⟨by simp, fun k => by simp, fun s hs => by simp at hs⟩
theorem Come.step {D : DataW Sp} {left : Lit → Bool} {xs : List Sp} (h : Come D left xs) {s : Sp} (hl : left (.int .i64 s.1) = true) (hat : ∀ zd, D.atKey (.int .i64 s.1) zd = .held s) : Come D (fun z => left z && !z.sameKey (.int .i64 s.1)) (xs ++ [s]) := by
  have hno : s.1 ∉ xs.map (·.1) := fun h9 => by have := ((h.iff _).1 h9).2; rw [hl] at this; cases this
  refine ⟨?_, fun k => ?_, fun t ht => ?_⟩
  · rw [List.map_append, List.nodup_append]
    refine ⟨h.nd, by simp, fun a ha b hb => ?_⟩
    simp at hb
    subst hb
    intro e; subst e; exact hno ha
  · rw [List.map_append, List.mem_append, h.iff]
    by_cases hk : k = s.1
    · subst hk
      have : (Lit.int .i64 s.1).sameKey (.int .i64 s.1) = true := WideAt.sameKey_self trivial
      simp [this, has_true_of_atKey hat]
    · have : (Lit.int .i64 k).sameKey (.int .i64 s.1) = false := sameKey_ne (by simpa using hk)
      simp [this, hk]
  · rcases List.mem_append.1 ht with ht | ht
    · exact h.at_ t ht
    · simp at ht; subst ht; exact hat
theorem nodup_of_ids {xs : List Sp} (h : (xs.map (·.1)).Nodup) : xs.Nodup := by
  unfold List.Nodup at *
  rw [List.pairwise_map] at h
  exact h.imp (fun hab e => hab (by rw [e]))
theorem Come.done {D : DataW Sp} {left : Lit → Bool} {xs S : List Sp} (h : Come D left xs) (hl : ∀ kl, left kl = false) (hS : (S.map (·.1)).Nodup) (hat : ∀ k : Int, D.atKey (.int .i64 k) .nil = look S k) : xs.Perm S := by
  have n1 : xs.Nodup := nodup_of_ids h.nd
  have n2 : S.Nodup := nodup_of_ids hS
  rw [List.perm_ext_iff_of_nodup n1 n2]
  intro s
  constructor
  · intro hs
    have h1 := h.at_ s hs .nil
    rw [hat] at h1
    rcases look_or S s.1 with ⟨_, h2⟩ | ⟨t, h2, h3⟩
    · rw [h2] at h1; cases h1
    · rw [h3] at h1; cases h1; exact (getS_mem h2).1
  · intro hs
    have h1 := getS_of_mem hS hs
    have h2 : has D (.int .i64 s.1) = true := by
      cases hh : has D (.int .i64 s.1)
      · have := atKey_of_not_has hh .nil
        rw [hat, look_some h1] at this; cases this
      · rfl
    obtain ⟨t, ht, he⟩ := List.mem_map.1 ((h.iff s.1).2 ⟨h2, hl _⟩)
    have h3 := h.at_ t ht .nil
    rw [he, hat, look_some h1] at h3
    cases h3
    exact ht
theorem ownsMap_size {H : Type} {w : World} {P : Program} {k : TypeId} {R : Value → Option (DataW H × List MemPlace)} {b n : Nat} {D : DataW H} (h : w.ownsMap P k R b n D) : Maps.size D ≤ n := by
  obtain ⟨es, clock, _, _, hs, rfl⟩ := h
  show ((es.toList.map _).foldr DataW.insert []).length ≤ n
  rw [length_sorted]; simpa using hs

set_option maxRecDepth 100000 in
set_option maxHeartbeats 4000000 in
theorem valuesS_in (F : Fence) (n : Nat) (h8 : F.fn 75) (hro : F.round = none) (hn : 1 ≤ n) (l Bm b nn : Nat) (S : List Sp) (D0 : DataW Sp) (J Jx : List Sp → World → Prop)
    (hY : ∀ pre x W, J pre W → pre.length < Maps.size D0 → YieldAt F (n - 1) Tryz.prog l #[spV x] W fun e W' =>
      (e = .returned (.bool true) ∧ J (pre ++ [x]) W' ∧ KeepsWalks W W') ∨ (e = .returned (.bool false) ∧ Jx (pre ++ [x]) W'))
    (W : World) (hJ : AbidesFrom W.heap.size J) (hm : W.cell? ⟨Bm, 0, none⟩ = some (.map (some b))) (hown : W.ownsMap Tryz.prog 3 spanR b nn D0) (hS : (S.map (·.1)).Nodup) (hat : ∀ k : Int, D0.atKey (.int .i64 k) .nil = look S k) (h0 : J [] W) :
    CallsIn F n Tryz.prog 75 #[.func (.yield l) #[] #[], .pointer (some ⟨Bm, 0, none⟩)] W fun e W' => (∃ v, e = .returned v) ∧
      ((∃ xs, xs.Perm S ∧ J xs W') ∨ (∃ pre, True ∧ Jx pre W')) := by
  refine callsIn_of_wp Tryz.func75 rfl h8 ?_ hro
  simp only [Tryz.ntmps75, List.size_toArray, List.length_cons, List.length_nil, Nat.reduceAdd, Nat.reduceSub, Array.replicate_succ, Array.replicate_zero, List.push_toArray, List.append_toArray, List.nil_append, List.cons_append]
  gi_wp2_with (first
    | (gi_at_range; refine wpListIn_range_own _ rfl _ 72 rfl 3 33 keyed_int Tryz.underlying72 spanR b nn _ rfl hown ?_; intro w0 hrg0 hg0 hs0)
    | gi_in)
  go_frame
  gi_loopw [4] (fun _ wr => ∃ (left : Lit → Bool) (cnt : Nat) (xs : List Sp), wr.ranges Tryz.prog 3 spanR b W.heap.size nn D0 left cnt ∧ xs.length + cnt ≤ Maps.size D0 ∧ Come D0 left xs ∧ J xs wr)
    (fun _ wr => wr.rangeLeft b W.heap.size)
  case atStart =>
    exact ⟨_, _, [], hrg0, by simp, Come.start D0, hJ [] W w0 none h0 hg0 (fun r e => by cases e)⟩
  case round =>
    obtain ⟨left, cnt, xs, hrg, hcs, hC, hJs⟩ := hrel
    gi_wp2_with (first
      | (gi_at_next; refine wpListIn_next_ranges _ rfl _ rfl 3 keyed_int spanR (Value.int .i64) spV (fun key kl hk => by obtain ⟨x, rfl, _⟩ := Maps.keyOf_int_inv Tryz.underlying3 hk; exact ⟨x, rfl⟩) (fun v y hv => by obtain ⟨c, rfl, _⟩ := spanR_inv hv; exact ⟨c, rfl⟩) b W.heap.size nn _ _ _ rfl hrg ?_ ?_)
      | gi_in)
    · intro hc0 hl0
      gi_wp2
      go_end0
      exact ⟨⟨_, rfl⟩, .inl ⟨xs, hC.done hl0 hS hat, hJs⟩⟩
    · intro x a1 a2 a3 a4 kl yd yp w2 cnt2 hkey hlk hv hat1 hrg2 hlt hg2 hs2 hen
      obtain ⟨x', ex, rfl, hwx⟩ := Maps.keyOf_int_inv Tryz.underlying3 hkey
      obtain rfl : x = x' := by simpa using ex
      rw [spanR_mk] at hv
      simp only [Option.some.injEq, Prod.mk.injEq] at hv
      obtain ⟨rfl, rfl⟩ := hv
      have hx : (a1, (a2, a3), a4).1 = x := by
        have h1 := hat1 .nil
        rw [hat] at h1
        rcases look_or S x with ⟨_, h2⟩ | ⟨t, h2, h3⟩
        · rw [h2] at h1; cases h1
        · rw [h3] at h1; cases h1; exact (getS_mem h2).2
      dsimp only at hx
      subst hx
      have hJ2 : J xs w2 := hJ _ wr w2 (some W.heap.size) hJs hg2 (fun r e => by cases e; exact ⟨Nat.le_refl _, hrg.iter_walk⟩)
      have hJ3 : J xs (w2.alloc (.cells #[.int .i64 a1, .int .i64 a2, .int .i64 a3, .int .i64 a4] 33)) := hJ _ _ _ none hJ2 (World.grownBy_alloc w2 _ none) (fun r e => by cases e)
      obtain ⟨fn, tmps, assign, body, hy, hR⟩ := hY xs (a1, (a2, a3), a4) _ hJ3 (by omega)
      have hrg3 := hrg2.alloc (.cells #[.int .i64 a1, .int .i64 a2, .int .i64 a3, .int .i64 a4] 33)
      have q0 := blk_cell (blk_alloc w2 (.cells #[.int .i64 a1, .int .i64 a2, .int .i64 a3, .int .i64 a4] 33))
      have q00 := q0 0
      have q01 := q0 1
      have q02 := q0 2
      have q03 := q0 3
      clear q0 hs2
      simp only [spV] at hen hy ⊢
      gi_wp2
      refine hR.mono ?_
      have hC2 : Come D0 (fun z => left z && !z.sameKey (.int .i64 a1)) (xs ++ [(a1, (a2, a3), a4)]) := hC.step (s := (a1, (a2, a3), a4)) hlk hat1
      rintro e W3 (⟨rfl, hJ4, hk3⟩ | ⟨rfl, hJx3⟩)
      · gi_wp2
        have hrg4 := hrg3.of_walks hk3
        go_roundw
        case rel => exact ⟨_, cnt2, xs ++ [(a1, (a2, a3), a4)], hrg4, by simp; omega, hC2, hJ4⟩
        case measure => rw [hrg4.left_eq, hrg.left_eq]; exact hlt
      · gi_wp2
        refine bodyPost_ret (results_none rfl _ _ _) rfl ?_
        exact ⟨⟨_, rfl⟩, .inr ⟨_, trivial, hJx3⟩⟩
theorem valuesS_stops (F : Fence) (n : Nat) (h7 : F.fn 75) (hro : F.round = none) (hn : 1 ≤ n) (Bm b nn : Nat) (S : List Sp) (D0 : DataW Sp) (w : World) (hBm : Bm < w.heap.size)
    (hm : w.cell? ⟨Bm, 0, none⟩ = some (.map (some b))) (hown : w.ownsMap Tryz.prog 3 spanR b nn D0) (hS : (S.map (·.1)).Nodup) (hat : ∀ k : Int, D0.atKey (.int .i64 k) .nil = look S k) :
    SeqStopsK F n Tryz.prog 75 #[.pointer (some ⟨Bm, 0, none⟩)] (fun x : Sp => #[spV x]) KeepsWalks (fun xs => xs.Perm S) (fun _ => True) (Maps.size D0) w := fun l J Jx W hW hJ _ hY h0 =>
  valuesS_in F n h7 hro hn l Bm b nn S D0 J Jx hY W hJ ((hW.cell (p := ⟨Bm, 0, none⟩) hBm).trans hm) (ownsMap_fr hown (Fr.of_bel (S := fun _ => False) hW) (fun h => h)) hS hat h0

def spCellsOf (zs : List Sp) : List Value := zs.flatMap spCells
theorem spCellsOf_snoc (zs : List Sp) (x : Sp) : spCellsOf (zs ++ [x]) = spCellsOf zs ++ [.int .i64 x.1, .int .i64 x.2.1.1, .int .i64 x.2.1.2, .int .i64 x.2.2] := by simp [spCellsOf, spCells]
theorem info_span : (Tryz.prog.info? 33).map (fun i => (i.zero, i.size, i.bytes)) = some (some (.agg #[.int .i64 0, .int .i64 0, .int .i64 0, .int .i64 0]), 4, 32) := by kernel_rfl
theorem cell_four_new (w : World) (a b c d : Value) (t : TypeId) : ∀ j u, [a, b, c, d][j]? = some u → (w.alloc (.cells #[a, b, c, d] t)).cell? ((⟨w.heap.size, 0, none⟩ : Addr).add j) = some u := by
  intro j u hj
  match j, hj with
  | 0, hj => simp at hj; subst hj; simp [Addr.add]
  | 1, hj => simp at hj; subst hj; simp [Addr.add]
  | 2, hj => simp at hj; subst hj; simp [Addr.add]
  | 3, hj => simp at hj; subst hj; simp [Addr.add]
  | j + 4, hj => simp at hj

/-- Spans that came out of the iterator, in a row of one's own. -/
def CollectedS (w : World) (S : List Sp) (e : Ending) (W' : World) : Prop :=
  ∃ v zs, e = .returned v ∧ zs.Perm S ∧ W'.ownsRow w.heap.size 33 4 v zs.length (spCellsOf zs) ∧ (v = .slice none 0 0 ↔ zs = []) ∧ Go.RowKit.Below w.heap.size w W'

set_option maxRecDepth 100000 in
set_option maxHeartbeats 4000000 in
theorem appendSeqS_in (F : Fence) (n : Nat) (h39 : F.fn 96) (h38 : F.fn 75) (hro : F.round = none) (hn : 3 ≤ n) (Bm b nn : Nat) (S : List Sp) (D0 : DataW Sp) (hlen : nn ≤ 65536) (w : World)
    (hBm : Bm < w.heap.size) (hm : w.cell? ⟨Bm, 0, none⟩ = some (.map (some b))) (hown : w.ownsMap Tryz.prog 3 spanR b nn D0) (hS : (S.map (·.1)).Nodup) (hat : ∀ k : Int, D0.atKey (.int .i64 k) .nil = look S k) :
    CallsIn F n Tryz.prog 96 #[.slice none 0 0, .func (.func 75) #[] #[.pointer (some ⟨Bm, 0, none⟩)]] w (CollectedS w S) := by
  have h1 : 1 ≤ n := by omega
  have hsz : Maps.size D0 ≤ 65536 := Nat.le_trans (ownsMap_size hown) hlen
  obtain ⟨i0, hi, hz0, hz1, hz2⟩ := info_parts info_span
  refine callsIn_of_wp_marks Tryz.func96 rfl h39 ?_ hro
  simp only [Tryz.ntmps96, List.size_toArray, List.length_cons, List.length_nil, Nat.reduceAdd, Nat.reduceSub, Array.replicate_succ, Array.replicate_zero, List.push_toArray, List.append_toArray, List.nil_append, List.cons_append]
  gi_wp2
  have bO := Boxed.new w 42 (.slice none 0 0)
  have hB0 : Go.RowKit.Below w.heap.size w (w.alloc (.cells #[.slice none 0 0] 42)) := (Below.refl _ w).alloc (Nat.le_refl _) _
  refine wpIn_rangeFunc_ownH hro h1 (gf := 75) (lb := #[.pointer (some ⟨Bm, 0, none⟩)]) rfl h38 (enters_of Tryz.func75 (by kernel_rfl) rfl)
    (valuesS_stops F (n - 1) h38 hro (by omega) Bm b nn S D0 _ (by simp; omega) ((hB0.cell (p := ⟨Bm, 0, none⟩) hBm).trans hm) (ownsMap_fr hown (Fr.of_bel (S := fun _ => False) hB0) (fun h => h)) hS hat) walksK_t (fun W l o o' h1 h2 h3 h4 => walksK_b (w := w) W l o o' (by simp at h1; omega) h2 h3 h4) (Below.refl _ _) (fun _ => rfl)
    (fun pre W => (∃ v, Boxed W w.heap.size 42 v ∧ W.ownsRow w.heap.size 33 4 v pre.length (spCellsOf pre) ∧ (v = .slice none 0 0 ↔ pre = [])) ∧ Go.RowKit.Below w.heap.size w W)
    (fun _ _ _ => False)
    (OwnFrom.and (Own.from (holdsRow_own w.heap.size w.heap.size 42 33 4 (fun pre => pre.length) (fun pre => spCellsOf pre) (fun pre v => v = .slice none 0 0 ↔ pre = [])) _) (ownFrom_below (Nat.le_refl _) (by simp)))
    (fun _ _ _ _ _ hs _ _ => hs)
    ⟨⟨_, bO, World.ownsRow_nil _ _ _ _, by simp⟩, hB0⟩
    (fun x a' W => ∃ Bx, w.heap.size < Bx ∧ W.heap[Bx]? = some (.cells #[.int .i64 x.1, .int .i64 x.2.1.1, .int .i64 x.2.1.2, .int .i64 x.2.2] 33 (0, 0)) ∧ a' = { tmps := #[.slice none 0 0, .func (.func 75) #[] #[.pointer (some ⟨Bm, 0, none⟩)], .pointer (some ⟨w.heap.size, 0, none⟩), undef, .slice none 0 0, .pointer (some ⟨Bx, 0, none⟩), .func (.func 75) #[] #[.pointer (some ⟨Bm, 0, none⟩)], .agg #[.int .i64 x.1, .int .i64 x.2.1.1, .int .i64 x.2.1.2, .int .i64 x.2.2], undef, undef, undef, undef, undef], defers := [] })
    (fun x a' _ X Y row hs hg hr => by
      obtain ⟨Bx, h1, h2, h3⟩ := hs
      refine ⟨Bx, h1, (hg.block Bx (heap_lt h2) (fun e => ?_)).trans h2, h3⟩
      obtain ⟨_, o, ho, hno⟩ := hr Bx e.symm
      rw [h2] at ho; cases ho; cases hno)
    ?assign ?body ?done ?stop
  case assign =>
    rintro l pre x W K ⟨⟨v, hv, hrow, hnil⟩, hB1⟩ hK
    simp only [spV]
    gi_wp2
    exact hK _ _ ((KeepsOthers.alloc _ _).from _) (KeepsWalks.alloc _ _) ⟨⟨v, hv.alloc _, hrow.alloc _, hnil⟩, hB1.alloc hB1.size _⟩ ⟨W.heap.size, hv.lt, blk_alloc W _, rfl⟩
  case body =>
    rintro l pre x a' W hl ⟨r, hr⟩ ⟨⟨v, hv, hrow, hnil⟩, hB⟩ ⟨Bx, hBx, bX, rfl⟩ hlt
    have hcv := hv.cell
    have x0 : W.cell? ⟨Bx, 0, none⟩ = some (.int .i64 x.1) := blk_cell bX 0
    have x1 : W.cell? ⟨Bx, 1, none⟩ = some (.int .i64 x.2.1.1) := blk_cell bX 1
    have x2 : W.cell? ⟨Bx, 2, none⟩ = some (.int .i64 x.2.1.2) := blk_cell bX 2
    have x3 : W.cell? ⟨Bx, 3, none⟩ = some (.int .i64 x.2.2) := blk_cell bX 3
    have hxs := hB.size
    gi_wp2_with (gi_at_builtin; refine wpListIn_append_own _ rfl _ _ 42 rfl w.heap.size 33 i0 (.agg #[.int .i64 0, .int .i64 0, .int .i64 0, .int .i64 0]) 4 32 Tryz.underlying42 hi hz0 hz1 hz2 rfl (by decide) _ _ _ rfl (hrow.alloc _) ⟨W.heap.size, 0, none⟩ 1 1 [.int .i64 x.1, .int .i64 x.2.1.1, .int .i64 x.2.1.2, .int .i64 x.2.2] rfl rfl (cell_four_new _ _ _ _ _ _) (by simp [Value.oneCell']) (by unfold maxLen; omega) (by omega) (by simp; omega) ?_; intro v' w1 hown' hgrow _; obtain ⟨g', cap', rfl⟩ := ownsRow_succ hown'; obtain ⟨hv1, hv2, hr2, hk2, hb2⟩ := hv.appended (by decide) hrow hB.size (Nat.le_refl _) hown' hgrow; have hc1 := hv1.cell; have hf1 := hv1.frozen)
    exact ⟨hk2.from _, hk2.walks, ⟨_, hv2, by rw [spCellsOf_snoc, List.length_append]; simpa using hr2, by simp⟩, hB.trans hb2⟩
  case done =>
    rintro D ys W hD hys ⟨⟨v, hv, hrow, hnil⟩, hB⟩ hK
    have hcv := hv.cell
    gi_wp2
    refine ⟨by simp, .inl ⟨_, _, rfl, run_takeDeferred hK, ?_⟩⟩
    exact ⟨_, results_tmp rfl _ _ _, v, ys, rfl, hys, ownsRow_putObj hrow _ hK rfl, hnil, hB.trans (belowK_b (w := w) (Nat.le_refl _) W D _ _ (by simp at hD; omega) hK rfl rfl)⟩
  case stop =>
    rintro D c pre W _ _ h _
    exact h.elim
theorem collect_spans (Bm b nn : Nat) (S : List Sp) (hlen : nn ≤ 65536) (w : World) (hBm : Bm < w.heap.size) (hm : w.cell? ⟨Bm, 0, none⟩ = some (.map (some b))) (hS : SpansAt w b nn S) :
    Calls Tryz.prog 73 #[.func (.func 75) #[] #[.pointer (some ⟨Bm, 0, none⟩)]] w (CollectedS w S) := by
  obtain ⟨D0, hown, hat⟩ := hS.map
  have hcon : Calls Tryz.prog 96 #[.slice none 0 0, .func (.func 75) #[] #[.pointer (some ⟨Bm, 0, none⟩)]] w (CollectedS w S) :=
    (callsIn_wide (n := 3)).1 (appendSeqS_in _ 3 trivial trivial rfl (by omega) Bm b nn S D0 hlen w hBm hm hown hS.nd hat)
  have HC := Lib.hid hcon
  clear hcon
  go_enter Tryz.func73, Tryz.ntmps73
  go_wp2_with fail
  refine HC.out.mono ?_
  rintro e w' ⟨v, zs, rfl, h0, h1, h2, h3⟩
  obtain ⟨a, c, rfl, _⟩ := own_slice h1
  go_wp2
  go_ret
  exact ⟨_, zs, rfl, h0, h1, h2, h3⟩
end Go.Proofs.YtbldidlbhahciaaGreat

namespace Go.Proofs.YtbldidlbhahciaaGreat
open Go.RowKit Go.Shelf Go.Lib Go.Sort

/-- Spans that start at a page that may be. -/
abbrev BSp := { x : Sp // 0 ≤ x.2.1.1 ∧ x.2.1.1 ≤ 1024 }
instance : Inhabited BSp := ⟨⟨(0, (0, 0), 0), by decide⟩⟩
def encS (x : BSp) : List Value := [.int .i64 x.1.1, .int .i64 x.1.2.1.1, .int .i64 x.1.2.1.2, .int .i64 x.1.2.2]
def cfSp (x y : BSp) : Int := cmpF x.1.2.1.1 y.1.2.1.1
theorem ltSp (x y : BSp) : ltOf cfSp x y = decide (x.1.2.1.1 < y.1.2.1.1) := by
  unfold ltOf cfSp cmpF
  rw [decide_eq_decide]
  split
  · omega
  · split <;> omega
theorem swoSp : SWO (ltOf cfSp) where
  irrefl x := by rw [ltSp]; simp
  trans x y z h1 h2 := by rw [ltSp] at *; simp at *; omega
  ntrans x y z h1 h2 := by rw [ltSp] at *; simp at *; omega
set_option maxRecDepth 20000 in
theorem spans_cmp (x y : BSp) (W : World) : Calls Tryz.prog 51 #[.agg #[.int .i64 x.1.1, .int .i64 x.1.2.1.1, .int .i64 x.1.2.1.2, .int .i64 x.1.2.2], .agg #[.int .i64 y.1.1, .int .i64 y.1.2.1.1, .int .i64 y.1.2.1.2, .int .i64 y.1.2.2]] W fun e w' => e = .returned (.int .i64 (cfSp x y)) ∧ ∃ q os', w' = grow (W.drewN q) os' := by
  obtain ⟨⟨x1, ⟨x2, x3⟩, x4⟩, hx0, hx1⟩ := x
  obtain ⟨⟨y1, ⟨y2, y3⟩, y4⟩, hy0, hy1⟩ := y
  dsimp only at *
  go_enter Tryz.func51, Tryz.ntmps51
  go_wp2_with fail
  refine (cmp_int x2 y2 _).mono ?_
  rintro e w' ⟨rfl, rfl⟩
  go_wp2
  go_ret
  exact ⟨rfl, 0, _, by rw [alloc_eq_grow, alloc_eq_grow, grow_grow]; rfl⟩
theorem spans_enters : Enters 51 := enters_of Tryz.func51 (by kernel_rfl) rfl
theorem lift_spans : ∀ (zs : List Sp), (∀ x ∈ zs, 0 ≤ x.2.1.1 ∧ x.2.1.1 ≤ 1024) → ∃ ds : List BSp, ds.map (·.1) = zs
  | [], _ => ⟨[], rfl⟩
  | z :: zs, h => by
    obtain ⟨ds, hd⟩ := lift_spans zs (fun x hx => h x (by simp [hx]))
    exact ⟨⟨z, h z (by simp)⟩ :: ds, by simp [hd]⟩
/-- The same spans, rising. -/
def SortedSpans (zs zs' : List Sp) : Prop := zs'.Perm zs ∧ ∀ i j (h : i < j) (hj : j < zs'.length), (zs'[i]'(by omega)).2.1.1 ≤ zs'[j].2.1.1
theorem spCellsOf_length (zs : List Sp) : (spCellsOf zs).length = zs.length * 4 := by
  induction zs with
  | nil => rfl
  | cons z zs ih => have e : spCellsOf (z :: zs) = spCells z ++ spCellsOf zs := rfl
                    rw [e, List.length_append, ih]; simp [spCells]; omega
theorem spCellsOf_get : ∀ (zs : List Sp) (i : Nat) (h : i < zs.length) (j : Nat) (hj : j < 4), (spCellsOf zs)[i * 4 + j]? = (spCells zs[i])[j]?
  | [], i, h, _, _ => by simp at h
  | z :: zs, 0, _, j, hj => by
    have e : spCellsOf (z :: zs) = spCells z ++ spCellsOf zs := rfl
    rw [e, List.getElem?_append_left (by simp [spCells]; omega)]; simp
  | z :: zs, i + 1, h, j, hj => by
    have := spCellsOf_get zs i (by simpa using h) j hj
    have e : spCellsOf (z :: zs) = spCells z ++ spCellsOf zs := rfl
    have e4 : (spCells z).length = 4 := rfl
    rw [e, List.getElem?_append_right (by rw [e4]; omega), e4, show (i + 1) * 4 + j - 4 = i * 4 + j by omega, this]; rfl
theorem sort_spans (b cap : Nat) (zs : List Sp) (w : World) (hb : ∀ x ∈ zs, 0 ≤ x.2.1.1 ∧ x.2.1.1 ≤ 1024) (hl : zs.length ≤ 65536)
    (hc : ∀ t, t < zs.length * 4 → w.cell? ⟨b, t, none⟩ = (spCellsOf zs)[t]?) (hf : ∀ i, w.frozen? ⟨b, i, none⟩ = false) (hblk : b < w.heap.size) :
    Calls Tryz.prog 74 #[.slice (some ⟨b, 0, none⟩) zs.length cap, .func (.func 51) #[] #[]] w fun e w' =>
      e = .returned (.tuple #[]) ∧ ∃ zs', SortedSpans zs zs' ∧ RdV w' (some ⟨b, 0, none⟩) (spCellsOf zs') ∧ Fr (fun k => k = b) w w' := by
  obtain ⟨ds, hds⟩ := lift_spans zs hb
  have hdl : ds.length = zs.length := by rw [← hds]; simp
  have hq : ∀ (ds : List BSp) (t : Nat), t < ds.length * 4 → (spCellsOf (ds.map (·.1)))[t]? = some ((encS ds.toArray[t / 4]!)[t % 4]!) := fun ds t ht => by
    have hi : t / 4 < (ds.map (·.1)).length := by simp; omega
    have h1 := spCellsOf_get (ds.map (·.1)) (t / 4) hi (t % 4) (by omega)
    rw [show t / 4 * 4 + t % 4 = t by omega] at h1
    rw [h1]
    have hd : ds.toArray[t / 4]! = ds[t / 4]'(by simpa using hi) := by
      have : t / 4 < ds.length := by simpa using hi
      simp [this]
    rw [hd, List.getElem_map]
    obtain ⟨m, hm, hm4⟩ : ∃ m, t % 4 = m ∧ m < 4 := ⟨_, rfl, Nat.mod_lt _ (by omega)⟩
    rw [hm]
    match m, hm4 with
    | 0, _ => rfl
    | 1, _ => rfl
    | 2, _ => rfl
    | 3, _ => rfl
  have hH : HoldsK encS 4 w b 0 ds.toArray := by
    intro t ht
    rw [size_flatK] at ht
    have ht' : t < ds.length * 4 := by simpa using ht
    refine ⟨?_, by simpa using hf t⟩
    rw [get_flatK encS 4 ds.toArray t ht, show 0 + t = t by omega, hc t (by omega), ← hds]
    exact hq ds t ht'
  have hcon := AnyQ.slices_SortFunc Tryz.sortSpans 4 Tryz.isAgg33 Tryz.sizeOf33 encS (fun _ => rfl) (fun x v hv => by simp [encS] at hv; rcases hv with rfl | rfl | rfl | rfl <;> rfl) cfSp swoSp 51 #[] b 0 cap ds.toArray w spans_enters
    (fun m os dk hdk x y => spans_cmp x y _) hH hblk (by simp; omega)
  change Calls Tryz.prog 74 _ _ _ at hcon
  have e1 : ds.toArray.size = zs.length := by simp [hdl]
  rw [e1] at hcon
  refine hcon.mono ?_
  rintro e w' ⟨rfl, d', n, os, ⟨hsz, _, hpm⟩, hs, rfl⟩
  have hsz' : d'.size = zs.length := by rw [hsz]; exact e1
  have hH' : HoldsK encS 4 (sortWorldK encS 4 w b 0 n d' os) b 0 d' := holdsK_grow encS 4 _ os b 0 d' (by simp [putRowK, Sort.ahead]; exact hblk) (holdsK_putRowK encS 4 (Sort.ahead w n) b 0 ds.toArray d' (holdsK_ahead encS 4 w n b 0 _ hH) hsz)
  have hlen : (d'.toList.map (·.1)).length = zs.length := by simp [hsz']
  have hget : ∀ i (hi : i < (d'.toList.map (·.1)).length), (d'.toList.map (·.1))[i] = (d'[i]!).1 := fun i hi => by
    have : i < d'.size := by rw [hsz']; omega
    simp [this]
  refine ⟨rfl, d'.toList.map (·.1), ⟨?_, fun i j h hj => ?_⟩, .inr ⟨b, 0, rfl, fun t ht => ?_⟩, ⟨rfl, rfl, rfl, ?_, fun k hk hkb => ?_⟩⟩
  · have h1 : d'.toList.Perm ds := by
      have e2 : d'.extract 0 zs.length = d' := by rw [← hsz']; simp
      have e3 : ds.toArray.extract 0 zs.length = ds.toArray := by rw [← e1]; simp
      rw [e2, e3] at hpm
      simpa using hpm
    rw [← hds]
    exact h1.map _
  · have := hs i j (Nat.zero_le _) h (by omega)
    rw [ltSp] at this
    rw [hget i (by omega), hget j hj]
    simpa using this
  · have ht2 : t < d'.size * 4 := by rw [spCellsOf_length, hlen] at ht; omega
    have h1 := (hH' t (by rw [size_flatK]; exact ht2)).1
    rw [get_flatK encS 4 d' t ht2] at h1
    rw [h1]
    congr 1
    have h2 := hq d'.toList t (by simpa using ht2)
    rw [List.getElem?_eq_getElem ht, Option.some.injEq] at h2
    rw [h2]
    simp
  · simp [sortWorldK, putRowK, Sort.ahead]
  · unfold sortWorldK
    rw [heap_grow_old _ _ (by simp [putRowK, Sort.ahead]; exact hk)]
    show (w.heap.modify b _)[k]? = w.heap[k]?
    rw [Array.getElem?_modify]
    rw [if_neg (fun e => hkb e.symm)]

/-- Spans in a row, rising. -/
def RisenSpans (w : World) (S : List Sp) (e : Ending) (w' : World) : Prop := ∃ a c zs, e = .returned (.slice a zs.length c) ∧ SortedSpans S zs ∧ RdV w' a (spCellsOf zs) ∧ Bel w w' ∧ ∀ p, a = some p → w.heap.size ≤ p.block ∧ p.block < w'.heap.size
set_option maxRecDepth 20000 in
theorem sorted_spans (Bm b nn : Nat) (S : List Sp) (hlen : nn ≤ 65536) (hb : ∀ x ∈ S, 0 ≤ x.2.1.1 ∧ x.2.1.1 ≤ 1024) (hl : S.length ≤ 65536) (w : World) (hBm : Bm < w.heap.size) (hm : w.cell? ⟨Bm, 0, none⟩ = some (.map (some b))) (hS : SpansAt w b nn S) :
    Calls Tryz.prog 49 #[.func (.func 75) #[] #[.pointer (some ⟨Bm, 0, none⟩)], .func (.func 51) #[] #[]] w (RisenSpans w S) := by
  go_enter Tryz.func49, Tryz.ntmps49
  go_wp2_with fail
  refine (collect_spans Bm b nn S hlen _ hBm hm hS).mono ?_
  rintro e w1 ⟨v, zs, rfl, hpm, hown, hnil, hB⟩
  have hb' : ∀ x ∈ zs, 0 ≤ x.2.1.1 ∧ x.2.1.1 ≤ 1024 := fun x hx => hb x (hpm.mem_iff.1 hx)
  have hl' : zs.length ≤ 65536 := by rw [hpm.length_eq]; exact hl
  by_cases h0 : zs = []
  · obtain rfl := hnil.2 h0
    subst h0
    have hcon : ∀ W, Calls Tryz.prog 74 #[.slice none 0 0, .func (.func 51) #[] #[]] W fun e w' => e = .returned (.tuple #[]) ∧ w' = W := fun W => AnyF.slices_SortFunc_none Tryz.sortSpans none 0 _ W
    have HC := Lib.hid hcon
    have HP := Lib.hid hpm
    clear hcon hm hS hown hnil hpm hb hb'
    go_wp2_with fail
    refine (HC.out _).mono ?_
    rintro e w2 ⟨rfl, rfl⟩
    go_wp2
    go_ret
    exact ⟨none, 0, [], rfl, ⟨HP.out, fun i j h hj => by simp at hj⟩, .inl rfl, hB, by rintro p ⟨⟩⟩
  · obtain ⟨g, cap, cu, rfl, hg0, hg1, hcap, _, hcs, htk⟩ : ∃ g cap cu, v = .slice (some ⟨g, 0, none⟩) zs.length cap ∧ w.heap.size ≤ g ∧ w1.heap[g]? = some (.cells cu 33 (0, 0)) ∧ zs.length ≤ cap ∧ cap ≤ maxLen ∧ cu.size = cap * 4 ∧ cu.toList.take (zs.length * 4) = spCellsOf zs := by
      rcases hown.2 with ⟨h1, h2⟩ | ⟨g, cap, cur, h1, h2, h3, h4, h5, h6, h7⟩
      · exact (h0 (hnil.1 h1)).elim
      · exact ⟨g, cap, cur, h1, h2, h3, h4, h5, h6, h7⟩
    have hcell : ∀ t, t < zs.length * 4 → w1.cell? ⟨g, t, none⟩ = (spCellsOf zs)[t]? := fun t ht => by
      rw [blk_cell hg1, ← htk, List.getElem?_take, if_pos ht]
      simp
    have hglt := heap_lt hg1
    have hcon := sort_spans g cap zs w1 hb' hl' hcell (fun i => blk_frozen hg1 i) hglt
    have HC := Lib.hid hcon
    have HP := Lib.hid hpm
    clear hcon hm hS hown hnil hcell htk hg1 hcs hpm hb hb'
    go_wp2_with fail
    refine HC.out.mono ?_
    rintro e w2 ⟨rfl, zs', hs, hr, hF⟩
    have hl9 : zs'.length = zs.length := hs.1.length_eq
    go_wp2
    go_ret
    refine ⟨some ⟨g, 0, none⟩, cap, zs', by rw [hl9]; rfl, ⟨hs.1.trans HP.out, hs.2⟩, hr, Fr.bel ((Fr.of_bel (S := fun k => k = g) hB).trans' hF) (fun k e => by omega), fun p hp => ?_⟩
    cases hp
    exact ⟨hg0, Nat.lt_of_lt_of_le hglt hF.size⟩
end Go.Proofs.YtbldidlbhahciaaGreat

namespace Go.Proofs.YtbldidlbhahciaaGreat
open Go.RowKit Go.Shelf Go.Sort

theorem collect_runs (Bs : Nat) (sv : Value) (zs : List Rn) (hlen : zs.length ≤ 65536) (w : World) (hBs : Bs < w.heap.size) (hc : w.cell? ⟨Bs, 0, none⟩ = some sv) (hI : RunsAt w.heap.size w sv zs) :
    Calls Tryz.prog 130 #[.func (.func 131) #[] #[.pointer (some ⟨Bs, 0, none⟩)]] w (Collected w zs) := by
  have hcon : Calls Tryz.prog 147 #[.slice none 0 0, .func (.func 131) #[] #[.pointer (some ⟨Bs, 0, none⟩)]] w (Collected w zs) :=
    (callsIn_wide (n := 3)).1 (appendSeq_in _ 3 trivial trivial rfl (by omega) Bs sv zs hlen w hBs hc hI)
  have HC := Lib.hid hcon
  clear hcon
  go_enter Tryz.func130, Tryz.ntmps130
  go_wp2_with fail
  refine HC.out.mono ?_
  rintro e w' ⟨v, rfl, h1, h2, h3⟩
  obtain ⟨a, c, rfl, _⟩ := own_slice h1
  go_wp2
  go_ret
  exact ⟨_, rfl, h1, h2, h3⟩

set_option maxRecDepth 20000 in
theorem apart_cmp (x y : BRn) (W : World) : Calls Tryz.prog 110 #[.agg #[.int .i64 x.1.1, .int .i64 x.1.2], .agg #[.int .i64 y.1.1, .int .i64 y.1.2]] W fun e w' => e = .returned (.int .i64 (cfB x y)) ∧ ∃ q os', w' = grow (W.drewN q) os' := by
  obtain ⟨⟨x1, x2⟩, hx0, hx1⟩ := x
  obtain ⟨⟨y1, y2⟩, hy0, hy1⟩ := y
  dsimp only at *
  go_enter Tryz.func110, Tryz.ntmps110
  go_wp2
  go_ret
  exact ⟨rfl, 0, _, by rw [alloc_eq_grow, alloc_eq_grow, grow_grow]; rfl⟩
theorem apart_enters : Enters 110 := enters_of Tryz.func110 (by kernel_rfl) rfl

/-- Runs in a row, rising. -/
def RisenRuns (w : World) (zs : List Rn) (e : Ending) (w' : World) : Prop := ∃ a c zs', e = .returned (.slice a zs'.length c) ∧ SortedRuns zs zs' ∧ RdV w' a (cellsOf zs') ∧ Bel w w'
set_option maxRecDepth 20000 in
theorem sorted_func (Bs : Nat) (sv : Value) (zs : List Rn) (hlen : zs.length ≤ 65536) (hb : ∀ x ∈ zs, 0 ≤ x.1 ∧ x.1 ≤ 1024) (w : World) (hBs : Bs < w.heap.size) (hc : w.cell? ⟨Bs, 0, none⟩ = some sv) (hI : RunsAt w.heap.size w sv zs) :
    Calls Tryz.prog 108 #[.func (.func 131) #[] #[.pointer (some ⟨Bs, 0, none⟩)], .func (.func 110) #[] #[]] w (RisenRuns w zs) := by
  go_enter Tryz.func108, Tryz.ntmps108
  go_wp2_with fail
  refine (collect_runs Bs sv zs hlen _ hBs hc hI).mono ?_
  rintro e w1 ⟨v, rfl, hown, hnil, hB⟩
  by_cases h0 : zs = []
  · obtain rfl := hnil.2 h0
    subst h0
    have hcon : ∀ W, Calls Tryz.prog 101 #[.slice none 0 0, .func (.func 110) #[] #[]] W fun e w' => e = .returned (.tuple #[]) ∧ w' = W := fun W => AnyF.slices_SortFunc_none Tryz.sortRuns none 0 _ W
    have HC := Lib.hid hcon
    clear hcon hc hI hown hnil
    go_wp2_with fail
    refine (HC.out _).mono ?_
    rintro e w2 ⟨rfl, rfl⟩
    go_wp2
    go_ret
    exact ⟨none, 0, [], rfl, ⟨List.Perm.refl _, fun i j h hj => by simp at hj⟩, .inl rfl, hB⟩
  · obtain ⟨g, cap, cu, rfl, hg0, hg1, hcap, _, hcs, htk⟩ : ∃ g cap cu, v = .slice (some ⟨g, 0, none⟩) zs.length cap ∧ w.heap.size ≤ g ∧ w1.heap[g]? = some (.cells cu 31 (0, 0)) ∧ zs.length ≤ cap ∧ cap ≤ maxLen ∧ cu.size = cap * 2 ∧ cu.toList.take (zs.length * 2) = cellsOf zs := by
      rcases hown.2 with ⟨h1, h2⟩ | ⟨g, cap, cur, h1, h2, h3, h4, h5, h6, h7⟩
      · exact (h0 (hnil.1 h1)).elim
      · exact ⟨g, cap, cur, h1, h2, h3, h4, h5, h6, h7⟩
    have hcell : ∀ t, t < zs.length * 2 → w1.cell? ⟨g, t, none⟩ = (cellsOf zs)[t]? := fun t ht => by
      rw [blk_cell hg1, ← htk, List.getElem?_take, if_pos ht]
      simp
    have hcon := sort_runs ltB 110 apart_enters g cap zs w1 hb hlen apart_cmp (fun i hi => ⟨by rw [hcell _ (by omega)]; exact (cellsOf_get zs i hi).1, by rw [hcell _ (by omega)]; exact (cellsOf_get zs i hi).2⟩) (fun i => blk_frozen hg1 i) (heap_lt hg1)
    have HC := Lib.hid hcon
    clear hcon hc hI hown hnil hcell htk hg1 hcs
    go_wp2_with fail
    refine HC.out.mono ?_
    rintro e w2 ⟨rfl, zs', hs, hr, hF⟩
    have hl : zs'.length = zs.length := hs.1.length_eq
    go_wp2
    go_ret
    exact ⟨some ⟨g, 0, none⟩, cap, zs', by rw [hl]; rfl, hs, hr, Fr.bel ((Fr.of_bel (S := fun k => k = g) hB).trans' hF) (fun k e => by omega)⟩

theorem values_call (a : Option Addr) (n c : Nat) (w : World) :
    Calls Tryz.prog 109 #[.slice a n c] w fun e w' => e = .returned (.func (.func 131) #[] #[.pointer (some ⟨w.heap.size, 0, none⟩)]) ∧ w.alloc (.cells #[.slice a n c] 64) = w' := by
  go_enter Tryz.func109, Tryz.ntmps109
  go_wp2
  go_ret
  exact ⟨rfl, rfl⟩
/-- Whether no page is in two runs. -/
def ApartIs (w : World) (zs : List Rn) (e : Ending) (w' : World) : Prop := ∃ b : Bool, e = .returned (.bool b) ∧ (b = true ↔ zs.Pairwise Apart) ∧ Bel w w'
set_option maxHeartbeats 1000000 in
set_option maxRecDepth 20000 in
theorem index_apart (a : Option Addr) (n c : Nat) (zs : List Rn) (hn : n = zs.length) (hlen : zs.length ≤ 65536) (hb : ∀ x ∈ zs, 0 ≤ x.1 ∧ 1 ≤ x.2 ∧ x.1 + x.2 ≤ 1024) (w : World) (hI : RunsAt w.heap.size w (.slice a n c) zs) :
    Calls Tryz.prog 90 #[.slice a n c] w (ApartIs w zs) := by
  subst hn
  have hB0 := (Bel.refl w).alloc (.cells #[.slice a zs.length c] 64)
  have hcon := sorted_func w.heap.size (.slice a zs.length c) zs hlen (fun x hx => by have := hb x hx; omega) (w.alloc (.cells #[.slice a zs.length c] 64)) (by simp) (by rw [blk_cell (blk_alloc _ _)]; rfl) (by
    rcases hI.below hB0 with h | ⟨b, o, cap, e, h1, h2⟩
    · exact .inl h
    · exact .inr ⟨b, o, cap, e, by rw [World.size_alloc]; omega, h2⟩)
  have HC := Lib.hid hcon
  have HB := Lib.hid hb
  clear hcon hI hb
  go_enter Tryz.func90, Tryz.ntmps90
  go_wp2_with fail
  refine (values_call a zs.length c w).mono ?_
  rintro e w1 ⟨rfl, rfl⟩
  go_wp2_with fail
  refine HC.out.mono ?_
  rintro e w2 ⟨av, cv, zs', rfl, hs, hr, hB2⟩
  have hl' : zs'.length = zs.length := hs.1.length_eq
  have hb' : ∀ x ∈ zs', 0 ≤ x.1 ∧ 1 ≤ x.2 ∧ x.1 + x.2 ≤ 1024 := fun x hx => HB.out x (hs.1.mem_iff.1 hx)
  have hle : zs'.length ≤ 65536 := by omega
  have HS := Lib.hid hs
  have HR := Lib.hid hr
  have HB' := Lib.hid hb'
  have HBB := Lib.hid (hB0.trans hB2)
  clear HC HB hs hr hb' hB2 hB0 hl' hlen
  go_wp2_with fail
  go_loopw [4] (fun k wr => ∃ i : Nat, 1 ≤ i ∧ (i ≤ zs'.length ∨ i = 1) ∧ k = .int .i64 i ∧ Hid (∀ j (h : j + 1 < i) (h' : j + 1 < zs'.length), (zs'[j]'(by omega)).1 + (zs'[j]'(by omega)).2 ≤ zs'[j + 1].1) ∧ Bel w2 wr) (fun k wr => zs'.length + 1 - (intOf k).toNat)
  case atStart => exact ⟨1, by omega, .inr rfl, rfl, Lib.hid (fun j h => by omega), Bel.refl _⟩
  case round =>
    obtain ⟨i, hi1, hi2, rfl, H0, hB3⟩ := hrel
    by_cases hlt : i < zs'.length
    · obtain ⟨m, rfl⟩ : ∃ m, i = m + 1 := ⟨i - 1, by omega⟩
      obtain ⟨g, o, rfl, hcells⟩ : ∃ g o, av = some ⟨g, o, none⟩ ∧ ∀ t (h : t < (cellsOf zs').length), w2.cell? ⟨g, o + t, none⟩ = some (cellsOf zs')[t] := by
        rcases HR.out with h | ⟨g, o, e, h⟩
        · have := cellsOf_length zs'; rw [h] at this; simp at this; omega
        · exact ⟨g, o, e, h⟩
      have hcell : ∀ t v, (cellsOf zs')[t]? = some v → wr.cell? ⟨g, o + t, none⟩ = some v := fun t v hv => by
        obtain ⟨h1, h2⟩ := List.getElem?_eq_some_iff.1 hv
        rw [← h2]; exact hB3.cell (hcells t h1)
      have ha := cellsOf_get zs' m (by omega)
      have hbb := cellsOf_get zs' (m + 1) hlt
      obtain ⟨x, hx⟩ : ∃ x, zs'[m]'(by omega) = x := ⟨_, rfl⟩
      obtain ⟨y, hy⟩ : ∃ y, zs'[m + 1] = y := ⟨_, rfl⟩
      have hxr := HB'.out _ (List.getElem_mem (l := zs') (n := m) (by omega))
      have hyr := HB'.out _ (List.getElem_mem (l := zs') (n := m + 1) hlt)
      rw [hx] at ha hxr
      rw [hy] at hbb hyr
      have q0 := hcell _ _ ha.1
      have q1 : wr.cell? ⟨g, o + m * 2 + 1, none⟩ = some (.int .i64 x.2) := hcell _ _ ha.2
      have p0 := hcell _ _ hbb.1
      have e1 : ((m + 1 : Nat) : Int) = (m : Int) + 1 := by omega
      rw [e1]
      have HXY := Lib.hid (And.intro hx hy)
      have HB3 := Lib.hid hB3
      obtain ⟨x0, x1, x2⟩ := hxr
      obtain ⟨y0, y1, y2⟩ := hyr
      have t0 : (m : Int) + 1 < zs'.length := by omega
      have t1 : (m : Int) < zs'.length := by omega
      have t2 : (0 : Int) ≤ (m : Int) + 1 := by omega
      have t3 : ((m : Int) + 1).toNat = m + 1 := by omega
      have t4 : IntKind.i64.wrap ((m : Int) + 1 - 1) = m := by rw [show (m : Int) + 1 - 1 = m by omega]; exact IntWalk.i64_in _ (by omega)
      clear hcells hcell ha hbb hx hy hB3 e1
      by_cases hov : y.1 < x.1 + x.2
      · have HNO : Hid (¬ zs.Pairwise Apart) := Lib.hid (fun hp => by
          have h1 := (apart_perm HS.out.1).2 hp
          have h2 := chain_of_apart (fun r hr => (HB'.out r hr).2.1) (fun i j h hj => HS.out.2 i j h hj) h1 m hlt
          rw [HXY.out.1, HXY.out.2] at h2
          omega)
        go_wp2_with fail
        go_region
        go_wp2
        go_ret
        exact ⟨false, rfl, by simpa using HNO.out, HBB.out.trans HB3.out.drew⟩
      · go_wp2_with fail
        go_region
        go_wp2
        go_roundw
        case rel =>
          refine ⟨m + 1 + 1, by omega, .inl (by omega), by go_num, Lib.hid (fun j h h' => ?_), HB3.out.drew⟩
          rcases Nat.lt_or_ge (j + 1) (m + 1) with h9 | h9
          · exact H0.out j h9 h'
          · obtain rfl : j = m := by omega
            rw [HXY.out.1, HXY.out.2]
            omega
        case measure => simp [intOf]; omega
    · go_wp2
      go_ret
      refine ⟨true, rfl, ⟨fun _ => (apart_perm HS.out.1).1 (apart_of_chain (fun r hr => (HB'.out r hr).2.1) (fun j h => H0.out j (by omega) h)), fun _ => rfl⟩, HBB.out.trans hB3⟩
end Go.Proofs.YtbldidlbhahciaaGreat

namespace Go.Proofs.YtbldidlbhahciaaGreat
open Go.RowKit

/-- 'A call of the function value answers p, and leaves things as R says', from w on. -/
def AsksI (R : World → World → Prop) (g : Nat) (cap : Array Value) (p : Int → Bool) (xs : List Int) (w : World) : Prop :=
  ∀ W, R w W → ∀ x ∈ xs, Calls Tryz.prog g (#[.int .i64 x] ++ cap) W fun e W' => e = .returned (.bool (p x)) ∧ R W W'

theorem indexFunc_int {R : World → World → Prop} (hR : Quiet R) (g : Nat) (hg : Enters g) (cap : Array Value) (p : Int → Bool) (a : Option Addr) (xs : List Int) (n c : Nat) (w : World)
    (hn : n = xs.length) (hl : xs.length ≤ maxLen) (hrd : RdV w a (ints xs)) (hp : AsksI R g cap p xs w) :
    Calls Tryz.prog 104 #[.slice a n c, .func (.func g) #[] cap] w fun e w' => e = .returned (.int .i64 (idxF p xs)) ∧ R w w' := by
  subst hn
  unfold maxLen at hl
  have HP := Lib.hid hp
  clear hp
  have hgc : ∀ (args : Array Value) (w : World), (callFunc g args).run Tryz.prog w = .ok (.enter g args) w := hg
  go_enter Tryz.func104, Tryz.ntmps104
  go_wp2
  go_loopw [8] (fun k W => ∃ m : Nat, m ≤ xs.length ∧ k = .int .i64 m ∧ R w W ∧ ∀ j (hj : j < m) (hj' : j < xs.length), p xs[j] = false) (fun k _ => xs.length - (intOf k).toNat)
  case atStart => exact ⟨0, Nat.zero_le _, rfl, hR.refl _, fun j hj => by omega⟩
  case round =>
    obtain ⟨m, hm, rfl, hRw, h0⟩ := hrel
    have H0 := Lib.hid h0
    clear h0
    by_cases hlt : m < xs.length
    · have hb := hR.below hRw
      have hc : ∃ b o, a = some ⟨b, o, none⟩ ∧ wr.cell? ⟨b, o + m, none⟩ = some (.int .i64 xs[m]) := by
        rcases hrd with h | ⟨b, o, e, h⟩
        · simp [ints] at h; subst h; simp at hlt
        · refine ⟨b, o, e, ?_⟩
          have := h m (by simpa [ints] using hlt)
          exact Bel.cell hb (by simpa [ints] using this)
      obtain ⟨b, o, rfl, hcell⟩ := hc
      clear hrd
      go_wp2_with fail
      refine (HP.out wr hRw xs[m] (List.getElem_mem hlt)).mono ?_
      rintro e W' ⟨rfl, hRW⟩
      cases hpx : p xs[m]
      · have HX := Lib.hid hpx
        clear hpx
        go_wp2
        go_roundw
        case rel => exact ⟨m + 1, by omega, by go_num, hR.trans hRw hRW, fun j hj hj' => by
          rcases Nat.lt_or_ge j m with h | h
          · exact H0.out j h hj'
          · obtain rfl : j = m := by omega
            exact HX.out⟩
        case measure => simp [intOf]; omega
      · have HX := Lib.hid (idxF_at p xs m hlt (fun j hj => H0.out j hj (by omega)) hpx)
        clear hpx
        go_wp2
        go_ret
        exact ⟨ret_i HX.out, hR.trans hRw hRW⟩
    · have HX := Lib.hid (idxF_none p xs (fun j hj => H0.out j (by omega) hj))
      go_wp2
      go_ret
      exact ⟨ret_i HX.out, hRw⟩

theorem containsFunc_int {R : World → World → Prop} (hR : Quiet R) (g : Nat) (hg : Enters g) (cap : Array Value) (p : Int → Bool) (a : Option Addr) (xs : List Int) (n c : Nat) (w : World)
    (hn : n = xs.length) (hl : xs.length ≤ maxLen) (hrd : RdV w a (ints xs)) (hp : AsksI R g cap p xs w) :
    Calls Tryz.prog 81 #[.slice a n c, .func (.func g) #[] cap] w fun e w' => e = .returned (.bool (xs.any p)) ∧ R w w' := by
  subst hn
  have H : Hid (xs.any p = decide (0 ≤ idxF p xs)) := Lib.hid (by
    have := idxF_ge p xs
    cases h : xs.any p <;> simp_all)
  go_enter Tryz.func81, Tryz.ntmps81
  go_wp2_with fail
  refine (indexFunc_int hR g hg cap p a xs _ c w rfl hl hrd hp).mono ?_
  rintro e W' ⟨rfl, hRW⟩
  go_wp2
  go_ret
  exact ⟨ret_b H.out, hRW⟩
end Go.Proofs.YtbldidlbhahciaaGreat

namespace Go.Proofs.YtbldidlbhahciaaGreat
open Go.RowKit

/-- An index: its struct is block bx, its numbers are block bi. -/
structure IndexAt (w : World) (bx bi : Nat) (ids : List Int) : Prop where
  ne : bx ≠ bi
  hd : w.heap[bx]? = some (.cells #[.slice (some ⟨bi, 0, none⟩) ids.length ids.length] 113 (0, 0))
  nums : w.heap[bi]? = some (.cells (ints ids).toArray 3 (0, 0))
  small : ids.length ≤ 1024
  ok : ∀ x ∈ ids, I64 x
/-- An index's pointer: nil (it has no pages), or it leads to one. -/
def IndexP (w : World) (p : Value) (ids : List Int) : Prop := (p = .pointer none ∧ ids = []) ∨ ∃ bx bi, p = .pointer (some ⟨bx, 0, none⟩) ∧ IndexAt w bx bi ids
theorem IndexAt.bel {w w' : World} {bx bi : Nat} {ids : List Int} (h : IndexAt w bx bi ids) (k : Bel w w') : IndexAt w' bx bi ids :=
  ⟨h.ne, (k.block bx (heap_lt h.hd)).trans h.hd, (k.block bi (heap_lt h.nums)).trans h.nums, h.small, h.ok⟩
theorem IndexAt.fr {S : Nat → Prop} {w w' : World} {bx bi : Nat} {ids : List Int} (h : IndexAt w bx bi ids) (k : Fr S w w') (h1 : ¬ S bx) (h2 : ¬ S bi) : IndexAt w' bx bi ids :=
  ⟨h.ne, k.heap h.hd h1, k.heap h.nums h2, h.small, h.ok⟩
theorem IndexP.bel {w w' : World} {p : Value} {ids : List Int} (h : IndexP w p ids) (k : Bel w w') : IndexP w' p ids := by
  rcases h with h | ⟨bx, bi, e, h⟩
  · exact .inl h
  · exact .inr ⟨bx, bi, e, h.bel k⟩
theorem IndexP.small {w : World} {p : Value} {ids : List Int} (h : IndexP w p ids) : ids.length ≤ 1024 := by
  rcases h with ⟨_, rfl⟩ | ⟨_, _, _, h⟩
  · simp
  · exact h.small
theorem IndexAt.num {w : World} {bx bi : Nat} {ids : List Int} (h : IndexAt w bx bi ids) (i : Nat) (hi : i < ids.length) : w.cell? ⟨bi, i, none⟩ = some (.int .i64 ids[i]) := by
  rw [blk_cell h.nums]; simp [ints, hi]

theorem index_Pages (p : Value) (ids : List Int) (w : World) (h : IndexP w p ids) :
    Calls Tryz.prog 129 #[p] w fun e w' => e = .returned (.int .i64 ids.length) ∧ w = w' := by
  rcases h with ⟨rfl, rfl⟩ | ⟨bx, bi, rfl, h⟩
  · go_enter Tryz.func129, Tryz.ntmps129
    go_wp2
    go_ret
    exact ⟨rfl, rfl⟩
  · have hc : w.cell? ⟨bx, 0, none⟩ = some (.slice (some ⟨bi, 0, none⟩) ids.length ids.length) := by rw [blk_cell h.hd]; rfl
    go_enter Tryz.func129, Tryz.ntmps129
    go_wp2
    go_ret
    exact ⟨rfl, rfl⟩

/-- A page's number; 0. -/
def ofF (ids : List Int) (page : Int) : Int := if 0 ≤ page ∧ page < ids.length then wd ids page else 0

/-! ### what is thrown -/
abbrev wrongV (e : Int) : Value := .iface 162 (.agg #[.int .i64 e])
theorem must_holds (e : Int) (w : World) : Calls Tryz.prog 87 #[.bool true, .int .i64 e] w fun en w' => en = .returned (.tuple #[]) ∧ w = w' := by
  go_enter Tryz.func87, Tryz.ntmps87
  go_wp2
  go_end0
  exact ⟨rfl, rfl⟩
theorem must_not (e : Int) (w : World) : Calls Tryz.prog 87 #[.bool false, .int .i64 e] w fun en w' => en = .panicked [{ v := wrongV e, recovered := false }] ∧ w = w' := by
  go_enter Tryz.func87, Tryz.ntmps87
  go_wp2
  exact ⟨rfl, rfl, rfl⟩
end Go.Proofs.YtbldidlbhahciaaGreat
