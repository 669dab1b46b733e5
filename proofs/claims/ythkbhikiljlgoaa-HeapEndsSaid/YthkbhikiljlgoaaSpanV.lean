/- maps.Values at spans, and what collects it. -/
import Derived.Test.YthkbhikiljlgoaaSpan
import Derived.Test.YthkbhikiljlgoaaIter2
import Derived.Sort.MapsRangeIn
import Derived.RangeFuncMany
namespace Go.Proofs.Ythkbhikiljlgoaa
open Go.RowKit Go.Shelf Go.Maps Go.WideShapes
attribute [local go_sem] Oper.semAt_some

/-- What has come so far. -/
structure Come (D : DataW Sp) (left : Lit → Bool) (xs : List Sp) : Prop where
  nd : (xs.map (·.1)).Nodup
  iff : ∀ k : Int, k ∈ xs.map (·.1) ↔ has D (.int .i64 k) = true ∧ left (.int .i64 k) = false
  at_ : ∀ s ∈ xs, ∀ zd, D.atKey (.int .i64 s.1) zd = .held s
theorem Come.start (D : DataW Sp) : Come D (has D) [] := ⟨by simp, fun k => by simp, fun s hs => by simp at hs⟩
theorem Come.step {D : DataW Sp} {left : Lit → Bool} {xs : List Sp} (h : Come D left xs) {s : Sp} (hl : left (.int .i64 s.1) = true) (hat : ∀ zd, D.atKey (.int .i64 s.1) zd = .held s) : Come D (fun z => left z && !z.sameKey (.int .i64 s.1)) (xs ++ [s]) := by
  have hno : s.1 ∉ xs.map (·.1) := fun h9 => by have := ((h.iff _).1 h9).2; rw [hl] at this; cases this
  refine ⟨?_, fun k => ?_, fun t ht => ?_⟩
  · rw [List.map_append, List.nodup_append]
    refine ⟨h.nd, by simp, fun a ha b hb => ?_⟩
    simp at hb
    subst hb
    intro e; subst e; exact hno ha
  · rw [List.map_append, List.mem_append, h.iff]
    by_cases hk : k = s.1
    · subst hk
      have : (Lit.int .i64 s.1).sameKey (.int .i64 s.1) = true := WideAt.sameKey_self trivial
      simp [this, has_true_of_atKey hat]
    · have : (Lit.int .i64 k).sameKey (.int .i64 s.1) = false := sameKey_ne (by simpa using hk)
      simp [this, hk]
  · rcases List.mem_append.1 ht with ht | ht
    · exact h.at_ t ht
    · simp at ht; subst ht; exact hat
theorem nodup_of_ids {xs : List Sp} (h : (xs.map (·.1)).Nodup) : xs.Nodup := by
  unfold List.Nodup at *
  rw [List.pairwise_map] at h
  exact h.imp (fun hab e => hab (by rw [e]))
theorem Come.done {D : DataW Sp} {left : Lit → Bool} {xs S : List Sp} (h : Come D left xs) (hl : ∀ kl, left kl = false) (hS : (S.map (·.1)).Nodup) (hat : ∀ k : Int, D.atKey (.int .i64 k) .nil = look S k) : xs.Perm S := by
  have n1 : xs.Nodup := nodup_of_ids h.nd
  have n2 : S.Nodup := nodup_of_ids hS
  rw [List.perm_ext_iff_of_nodup n1 n2]
  intro s
  constructor
  · intro hs
    have h1 := h.at_ s hs .nil
    rw [hat] at h1
    rcases look_or S s.1 with ⟨_, h2⟩ | ⟨t, h2, h3⟩
    · rw [h2] at h1; cases h1
    · rw [h3] at h1; cases h1; exact (getS_mem h2).1
  · intro hs
    have h1 := getS_of_mem hS hs
    have h2 : has D (.int .i64 s.1) = true := by
      cases hh : has D (.int .i64 s.1)
      · have := atKey_of_not_has hh .nil
        rw [hat, look_some h1] at this; cases this
      · rfl
    obtain ⟨t, ht, he⟩ := List.mem_map.1 ((h.iff s.1).2 ⟨h2, hl _⟩)
    have h3 := h.at_ t ht .nil
    rw [he, hat, look_some h1] at h3
    cases h3
    exact ht
theorem ownsMap_size {H : Type} {w : World} {P : Program} {k : TypeId} {R : Value → Option (DataW H × List MemPlace)} {b n : Nat} {D : DataW H} (h : w.ownsMap P k R b n D) : Maps.size D ≤ n := by
  obtain ⟨es, clock, _, _, hs, rfl⟩ := h
  show ((es.toList.map _).foldr DataW.insert []).length ≤ n
  rw [length_sorted]; simpa using hs

set_option maxRecDepth 100000 in
set_option maxHeartbeats 4000000 in
theorem valuesS_in (F : Fence) (n : Nat) (h8 : F.fn 46) (hro : F.round = none) (hn : 1 ≤ n) (l Bm b nn : Nat) (S : List Sp) (D0 : DataW Sp) (J Jx : List Sp → World → Prop)
    (hY : ∀ pre x W, J pre W → pre.length < Maps.size D0 → YieldAt F (n - 1) Try.prog l #[spV x] W fun e W' =>
      (e = .returned (.bool true) ∧ J (pre ++ [x]) W' ∧ KeepsWalks W W') ∨ (e = .returned (.bool false) ∧ Jx (pre ++ [x]) W'))
    (W : World) (hJ : AbidesFrom W.heap.size J) (hm : W.cell? ⟨Bm, 0, none⟩ = some (.map (some b))) (hown : W.ownsMap Try.prog 3 spanR b nn D0) (hS : (S.map (·.1)).Nodup) (hat : ∀ k : Int, D0.atKey (.int .i64 k) .nil = look S k) (h0 : J [] W) :
    CallsIn F n Try.prog 46 #[.func (.yield l) #[] #[], .pointer (some ⟨Bm, 0, none⟩)] W fun e W' => (∃ v, e = .returned v) ∧
      ((∃ xs, xs.Perm S ∧ J xs W') ∨ (∃ pre, True ∧ Jx pre W')) := by
  refine callsIn_of_wp Try.func46 rfl h8 ?_ hro
  simp only [Try.ntmps46, List.size_toArray, List.length_cons, List.length_nil, Nat.reduceAdd, Nat.reduceSub, Array.replicate_succ, Array.replicate_zero, List.push_toArray, List.append_toArray, List.nil_append, List.cons_append]
  gi_wp2_with (first
    | (gi_at_range; refine wpListIn_range_own _ rfl _ 53 rfl 3 35 keyed_int Try.underlying53 spanR b nn _ rfl hown ?_; intro w0 hrg0 hg0 hs0)
    | gi_in)
  go_frame
  gi_loopw [4] (fun _ wr => ∃ (left : Lit → Bool) (cnt : Nat) (xs : List Sp), wr.ranges Try.prog 3 spanR b W.heap.size nn D0 left cnt ∧ xs.length + cnt ≤ Maps.size D0 ∧ Come D0 left xs ∧ J xs wr)
    (fun _ wr => wr.rangeLeft b W.heap.size)
  case atStart =>
    exact ⟨_, _, [], hrg0, by simp, Come.start D0, hJ [] W w0 none h0 hg0 (fun r e => by cases e)⟩
  case round =>
    obtain ⟨left, cnt, xs, hrg, hcs, hC, hJs⟩ := hrel
    gi_wp2_with (first
      | (gi_at_next; refine wpListIn_next_ranges _ rfl _ rfl 3 keyed_int spanR (Value.int .i64) spV (fun key kl hk => by obtain ⟨x, rfl, _⟩ := Maps.keyOf_int_inv Try.underlying3 hk; exact ⟨x, rfl⟩) (fun v y hv => by obtain ⟨c, rfl, _⟩ := spanR_inv hv; exact ⟨c, rfl⟩) b W.heap.size nn _ _ _ rfl hrg ?_ ?_)
      | gi_in)
    · intro hc0 hl0
      gi_wp2
      go_end0
      exact ⟨⟨_, rfl⟩, .inl ⟨xs, hC.done hl0 hS hat, hJs⟩⟩
    · intro x a1 a2 a3 a4 kl yd yp w2 cnt2 hkey hlk hv hat1 hrg2 hlt hg2 hs2 hen
      obtain ⟨x', ex, rfl, hwx⟩ := Maps.keyOf_int_inv Try.underlying3 hkey
      obtain rfl : x = x' := by simpa using ex
      rw [spanR_mk] at hv
      simp only [Option.some.injEq, Prod.mk.injEq] at hv
      obtain ⟨rfl, rfl⟩ := hv
      have hx : (a1, (a2, a3), a4).1 = x := by
        have h1 := hat1 .nil
        rw [hat] at h1
        rcases look_or S x with ⟨_, h2⟩ | ⟨t, h2, h3⟩
        · rw [h2] at h1; cases h1
        · rw [h3] at h1; cases h1; exact (getS_mem h2).2
      dsimp only at hx
      subst hx
      have hJ2 : J xs w2 := hJ _ wr w2 (some W.heap.size) hJs hg2 (fun r e => by cases e; exact ⟨Nat.le_refl _, hrg.iter_walk⟩)
      have hJ3 : J xs (w2.alloc (.cells #[.int .i64 a1, .int .i64 a2, .int .i64 a3, .int .i64 a4] 35)) := hJ _ _ _ none hJ2 (World.grownBy_alloc w2 _ none) (fun r e => by cases e)
      obtain ⟨fn, tmps, assign, body, hy, hR⟩ := hY xs (a1, (a2, a3), a4) _ hJ3 (by omega)
      have hrg3 := hrg2.alloc (.cells #[.int .i64 a1, .int .i64 a2, .int .i64 a3, .int .i64 a4] 35)
      have q0 := blk_cell (blk_alloc w2 (.cells #[.int .i64 a1, .int .i64 a2, .int .i64 a3, .int .i64 a4] 35))
      have q00 := q0 0
      have q01 := q0 1
      have q02 := q0 2
      have q03 := q0 3
      clear q0 hs2
      simp only [spV] at hen hy ⊢
      gi_wp2
      refine hR.mono ?_
      have hC2 : Come D0 (fun z => left z && !z.sameKey (.int .i64 a1)) (xs ++ [(a1, (a2, a3), a4)]) := hC.step (s := (a1, (a2, a3), a4)) hlk hat1
      rintro e W3 (⟨rfl, hJ4, hk3⟩ | ⟨rfl, hJx3⟩)
      · gi_wp2
        have hrg4 := hrg3.of_walks hk3
        go_roundw
        case rel => exact ⟨_, cnt2, xs ++ [(a1, (a2, a3), a4)], hrg4, by simp; omega, hC2, hJ4⟩
        case measure => rw [hrg4.left_eq, hrg.left_eq]; exact hlt
      · gi_wp2
        refine bodyPost_ret (results_none rfl _ _ _) rfl ?_
        exact ⟨⟨_, rfl⟩, .inr ⟨_, trivial, hJx3⟩⟩
theorem valuesS_stops (F : Fence) (n : Nat) (h7 : F.fn 46) (hro : F.round = none) (hn : 1 ≤ n) (Bm b nn : Nat) (S : List Sp) (D0 : DataW Sp) (w : World) (hBm : Bm < w.heap.size)
    (hm : w.cell? ⟨Bm, 0, none⟩ = some (.map (some b))) (hown : w.ownsMap Try.prog 3 spanR b nn D0) (hS : (S.map (·.1)).Nodup) (hat : ∀ k : Int, D0.atKey (.int .i64 k) .nil = look S k) :
    SeqStopsK F n Try.prog 46 #[.pointer (some ⟨Bm, 0, none⟩)] (fun x : Sp => #[spV x]) KeepsWalks (fun xs => xs.Perm S) (fun _ => True) (Maps.size D0) w := fun l J Jx W hW hJ _ hY h0 =>
  valuesS_in F n h7 hro hn l Bm b nn S D0 J Jx hY W hJ ((hW.cell (p := ⟨Bm, 0, none⟩) hBm).trans hm) (ownsMap_fr hown (Fr.of_bel (S := fun _ => False) hW) (fun h => h)) hS hat h0

def spCellsOf (zs : List Sp) : List Value := zs.flatMap spCells
theorem spCellsOf_snoc (zs : List Sp) (x : Sp) : spCellsOf (zs ++ [x]) = spCellsOf zs ++ [.int .i64 x.1, .int .i64 x.2.1.1, .int .i64 x.2.1.2, .int .i64 x.2.2] := by simp [spCellsOf, spCells]
theorem info_span : (Try.prog.info? 35).map (fun i => (i.zero, i.size, i.bytes)) = some (some (.agg #[.int .i64 0, .int .i64 0, .int .i64 0, .int .i64 0]), 4, 32) := by kernel_rfl
theorem cell_four_new (w : World) (a b c d : Value) (t : TypeId) : ∀ j u, [a, b, c, d][j]? = some u → (w.alloc (.cells #[a, b, c, d] t)).cell? ((⟨w.heap.size, 0, none⟩ : Addr).add j) = some u := by
  intro j u hj
  match j, hj with
  | 0, hj => simp at hj; subst hj; simp [Addr.add]
  | 1, hj => simp at hj; subst hj; simp [Addr.add]
  | 2, hj => simp at hj; subst hj; simp [Addr.add]
  | 3, hj => simp at hj; subst hj; simp [Addr.add]
  | j + 4, hj => simp at hj

/-- Spans that came out of the iterator, in a row of one's own. -/
def CollectedS (w : World) (S : List Sp) (e : Ending) (W' : World) : Prop :=
  ∃ v zs, e = .returned v ∧ zs.Perm S ∧ W'.ownsRow w.heap.size 35 4 v zs.length (spCellsOf zs) ∧ (v = .slice none 0 0 ↔ zs = []) ∧ Go.RowKit.Below w.heap.size w W'

set_option maxRecDepth 100000 in
set_option maxHeartbeats 4000000 in
theorem appendSeqS_in (F : Fence) (n : Nat) (h39 : F.fn 61) (h38 : F.fn 46) (hro : F.round = none) (hn : 3 ≤ n) (Bm b nn : Nat) (S : List Sp) (D0 : DataW Sp) (hlen : nn ≤ 65536) (w : World)
    (hBm : Bm < w.heap.size) (hm : w.cell? ⟨Bm, 0, none⟩ = some (.map (some b))) (hown : w.ownsMap Try.prog 3 spanR b nn D0) (hS : (S.map (·.1)).Nodup) (hat : ∀ k : Int, D0.atKey (.int .i64 k) .nil = look S k) :
    CallsIn F n Try.prog 61 #[.slice none 0 0, .func (.func 46) #[] #[.pointer (some ⟨Bm, 0, none⟩)]] w (CollectedS w S) := by
  have h1 : 1 ≤ n := by omega
  have hsz : Maps.size D0 ≤ 65536 := Nat.le_trans (ownsMap_size hown) hlen
  obtain ⟨i0, hi, hz0, hz1, hz2⟩ := info_parts info_span
  refine callsIn_of_wp_marks Try.func61 rfl h39 ?_ hro
  simp only [Try.ntmps61, List.size_toArray, List.length_cons, List.length_nil, Nat.reduceAdd, Nat.reduceSub, Array.replicate_succ, Array.replicate_zero, List.push_toArray, List.append_toArray, List.nil_append, List.cons_append]
  gi_wp2
  have bO := Boxed.new w 40 (.slice none 0 0)
  have hB0 : Go.RowKit.Below w.heap.size w (w.alloc (.cells #[.slice none 0 0] 40)) := (Below.refl _ w).alloc (Nat.le_refl _) _
  refine wpIn_rangeFunc_ownH hro h1 (gf := 46) (lb := #[.pointer (some ⟨Bm, 0, none⟩)]) rfl h38 (enters_of Try.func46 (by kernel_rfl) rfl)
    (valuesS_stops F (n - 1) h38 hro (by omega) Bm b nn S D0 _ (by simp; omega) ((hB0.cell (p := ⟨Bm, 0, none⟩) hBm).trans hm) (ownsMap_fr hown (Fr.of_bel (S := fun _ => False) hB0) (fun h => h)) hS hat) walksK_t (fun W l o o' h1 h2 h3 h4 => walksK_b (w := w) W l o o' (by simp at h1; omega) h2 h3 h4) (Below.refl _ _) (fun _ => rfl)
    (fun pre W => (∃ v, Boxed W w.heap.size 40 v ∧ W.ownsRow w.heap.size 35 4 v pre.length (spCellsOf pre) ∧ (v = .slice none 0 0 ↔ pre = [])) ∧ Go.RowKit.Below w.heap.size w W)
    (fun _ _ _ => False)
    (OwnFrom.and (Own.from (holdsRow_own w.heap.size w.heap.size 40 35 4 (fun pre => pre.length) (fun pre => spCellsOf pre) (fun pre v => v = .slice none 0 0 ↔ pre = [])) _) (ownFrom_below (Nat.le_refl _) (by simp)))
    (fun _ _ _ _ _ hs _ _ => hs)
    ⟨⟨_, bO, World.ownsRow_nil _ _ _ _, by simp⟩, hB0⟩
    (fun x a' W => ∃ Bx, w.heap.size < Bx ∧ W.heap[Bx]? = some (.cells #[.int .i64 x.1, .int .i64 x.2.1.1, .int .i64 x.2.1.2, .int .i64 x.2.2] 35 (0, 0)) ∧ a' = { tmps := #[.slice none 0 0, .func (.func 46) #[] #[.pointer (some ⟨Bm, 0, none⟩)], .pointer (some ⟨w.heap.size, 0, none⟩), undef, .slice none 0 0, .pointer (some ⟨Bx, 0, none⟩), .func (.func 46) #[] #[.pointer (some ⟨Bm, 0, none⟩)], .agg #[.int .i64 x.1, .int .i64 x.2.1.1, .int .i64 x.2.1.2, .int .i64 x.2.2], undef, undef, undef, undef, undef], defers := [] })
    (fun x a' _ X Y row hs hg hr => by
      obtain ⟨Bx, h1, h2, h3⟩ := hs
      refine ⟨Bx, h1, (hg.block Bx (heap_lt h2) (fun e => ?_)).trans h2, h3⟩
      obtain ⟨_, o, ho, hno⟩ := hr Bx e.symm
      rw [h2] at ho; cases ho; cases hno)
    ?assign ?body ?done ?stop
  case assign =>
    rintro l pre x W K ⟨⟨v, hv, hrow, hnil⟩, hB1⟩ hK
    simp only [spV]
    gi_wp2
    exact hK _ _ ((KeepsOthers.alloc _ _).from _) (KeepsWalks.alloc _ _) ⟨⟨v, hv.alloc _, hrow.alloc _, hnil⟩, hB1.alloc hB1.size _⟩ ⟨W.heap.size, hv.lt, blk_alloc W _, rfl⟩
  case body =>
    rintro l pre x a' W hl ⟨r, hr⟩ ⟨⟨v, hv, hrow, hnil⟩, hB⟩ ⟨Bx, hBx, bX, rfl⟩ hlt
    have hcv := hv.cell
    have x0 : W.cell? ⟨Bx, 0, none⟩ = some (.int .i64 x.1) := blk_cell bX 0
    have x1 : W.cell? ⟨Bx, 1, none⟩ = some (.int .i64 x.2.1.1) := blk_cell bX 1
    have x2 : W.cell? ⟨Bx, 2, none⟩ = some (.int .i64 x.2.1.2) := blk_cell bX 2
    have x3 : W.cell? ⟨Bx, 3, none⟩ = some (.int .i64 x.2.2) := blk_cell bX 3
    have hxs := hB.size
    gi_wp2_with (gi_at_builtin; refine wpListIn_append_own _ rfl _ _ 40 rfl w.heap.size 35 i0 (.agg #[.int .i64 0, .int .i64 0, .int .i64 0, .int .i64 0]) 4 32 Try.underlying40 hi hz0 hz1 hz2 rfl (by decide) _ _ _ rfl (hrow.alloc _) ⟨W.heap.size, 0, none⟩ 1 1 [.int .i64 x.1, .int .i64 x.2.1.1, .int .i64 x.2.1.2, .int .i64 x.2.2] rfl rfl (cell_four_new _ _ _ _ _ _) (by simp [Value.oneCell']) (by unfold maxLen; omega) (by omega) (by simp; omega) ?_; intro v' w1 hown' hgrow _; obtain ⟨g', cap', rfl⟩ := ownsRow_succ hown'; obtain ⟨hv1, hv2, hr2, hk2, hb2⟩ := hv.appended (by decide) hrow hB.size (Nat.le_refl _) hown' hgrow; have hc1 := hv1.cell; have hf1 := hv1.frozen)
    exact ⟨hk2.from _, hk2.walks, ⟨_, hv2, by rw [spCellsOf_snoc, List.length_append]; simpa using hr2, by simp⟩, hB.trans hb2⟩
  case done =>
    rintro D ys W hD hys ⟨⟨v, hv, hrow, hnil⟩, hB⟩ hK
    have hcv := hv.cell
    gi_wp2
    refine ⟨by simp, .inl ⟨_, _, rfl, run_takeDeferred hK, ?_⟩⟩
    exact ⟨_, results_tmp rfl _ _ _, v, ys, rfl, hys, ownsRow_putObj hrow _ hK rfl, hnil, hB.trans (belowK_b (w := w) (Nat.le_refl _) W D _ _ (by simp at hD; omega) hK rfl rfl)⟩
  case stop =>
    rintro D c pre W _ _ h _
    exact h.elim
theorem collect_spans (Bm b nn : Nat) (S : List Sp) (hlen : nn ≤ 65536) (w : World) (hBm : Bm < w.heap.size) (hm : w.cell? ⟨Bm, 0, none⟩ = some (.map (some b))) (hS : SpansAt w b nn S) :
    Calls Try.prog 44 #[.func (.func 46) #[] #[.pointer (some ⟨Bm, 0, none⟩)]] w (CollectedS w S) := by
  obtain ⟨D0, hown, hat⟩ := hS.map
  have hcon : Calls Try.prog 61 #[.slice none 0 0, .func (.func 46) #[] #[.pointer (some ⟨Bm, 0, none⟩)]] w (CollectedS w S) :=
    (callsIn_wide (n := 3)).1 (appendSeqS_in _ 3 trivial trivial rfl (by omega) Bm b nn S D0 hlen w hBm hm hown hS.nd hat)
  have HC := Lib.hid hcon
  clear hcon
  go_enter Try.func44, Try.ntmps44
  go_wp2_with fail
  refine HC.out.mono ?_
  rintro e w' ⟨v, zs, rfl, h0, h1, h2, h3⟩
  obtain ⟨a, c, rfl, _⟩ := own_slice h1
  go_wp2
  go_ret
  exact ⟨_, zs, rfl, h0, h1, h2, h3⟩
end Go.Proofs.Ythkbhikiljlgoaa
