/- slices.AppendSeq, Collect over the iterator of runs. (Turned from the kit's worked proofs.) -/
import Derived.Test.YthkbhikiljlgoaaIter
import Derived.WalkSmall
namespace Go.Proofs.Ythkbhikiljlgoaa
open Go.RowKit Go.Shelf
attribute [local go_sem] Oper.semAt_some

/-- Runs that came out of the iterator, in a row of one's own. -/
def Collected (w : World) (zs : List Rn) (e : Ending) (W' : World) : Prop :=
  ∃ v, e = .returned v ∧ W'.ownsRow w.heap.size 33 2 v zs.length (cellsOf zs) ∧ (v = .slice none 0 0 ↔ zs = []) ∧ Go.RowKit.Below w.heap.size w W'

set_option maxRecDepth 100000 in
set_option maxHeartbeats 4000000 in
theorem appendSeq_in (F : Fence) (n : Nat) (h39 : F.fn 92) (h38 : F.fn 72) (hro : F.round = none) (hn : 3 ≤ n) (Bs : Nat) (sv : Value) (zs : List Rn) (hlen : zs.length ≤ 65536) (w : World)
    (hBs : Bs < w.heap.size) (hc : w.cell? ⟨Bs, 0, none⟩ = some sv) (hI : RunsAt w.heap.size w sv zs) :
    CallsIn F n Try.prog 92 #[.slice none 0 0, .func (.func 72) #[] #[.pointer (some ⟨Bs, 0, none⟩)]] w (Collected w zs) := by
  have h1 : 1 ≤ n := by omega
  obtain ⟨i0, hi, hz0, hz1, hz2⟩ := info_parts info_run
  refine callsIn_of_wp_marks Try.func92 rfl h39 ?_ hro
  simp only [Try.ntmps92, List.size_toArray, List.length_cons, List.length_nil, Nat.reduceAdd, Nat.reduceSub, Array.replicate_succ, Array.replicate_zero, List.push_toArray, List.append_toArray, List.nil_append, List.cons_append]
  gi_wp2
  have bO := Boxed.new w 38 (.slice none 0 0)
  have hB0 : Go.RowKit.Below w.heap.size w (w.alloc (.cells #[.slice none 0 0] 38)) := (Below.refl _ w).alloc (Nat.le_refl _) _
  refine wpIn_rangeFunc_ownH hro h1 (gf := 72) (lb := #[.pointer (some ⟨Bs, 0, none⟩)]) rfl h38 (enters_of Try.func72 (by kernel_rfl) rfl)
    (values_stops F (n - 1) h38 hro (by omega) Bs w.heap.size sv zs (by omega) _ (by simp; omega) (by simp) ((hB0.cell (p := ⟨Bs, 0, none⟩) hBs).trans hc) (hI.below hB0)) belowK_t (belowK_b (by simp)) (Below.refl _ _) (fun _ => rfl)
    (fun pre W => (∃ v, Boxed W w.heap.size 38 v ∧ W.ownsRow w.heap.size 33 2 v pre.length (cellsOf pre) ∧ (v = .slice none 0 0 ↔ pre = [])) ∧ Go.RowKit.Below w.heap.size w W)
    (fun _ _ _ => False)
    (OwnFrom.and (Own.from (holdsRow_own w.heap.size w.heap.size 38 33 2 (fun pre => pre.length) (fun pre => cellsOf pre) (fun pre v => v = .slice none 0 0 ↔ pre = [])) _) (ownFrom_below (Nat.le_refl _) (by simp)))
    (fun _ _ _ _ _ hs _ _ => hs)
    ⟨⟨_, bO, World.ownsRow_nil _ _ _ _, by simp⟩, hB0⟩
    (fun x a' W => ∃ Bx, w.heap.size < Bx ∧ W.heap[Bx]? = some (.cells #[.int .i64 x.1, .int .i64 x.2] 33 (0, 0)) ∧ a' = { tmps := #[.slice none 0 0, .func (.func 72) #[] #[.pointer (some ⟨Bs, 0, none⟩)], .pointer (some ⟨w.heap.size, 0, none⟩), undef, .slice none 0 0, .pointer (some ⟨Bx, 0, none⟩), .func (.func 72) #[] #[.pointer (some ⟨Bs, 0, none⟩)], .agg #[.int .i64 x.1, .int .i64 x.2], undef, undef, undef, undef, undef], defers := [] })
    (fun x a' _ X Y row hs hg hr => by
      obtain ⟨Bx, h1, h2, h3⟩ := hs
      refine ⟨Bx, h1, (hg.block Bx (heap_lt h2) (fun e => ?_)).trans h2, h3⟩
      obtain ⟨_, o, ho, hno⟩ := hr Bx e.symm
      rw [h2] at ho; cases ho; cases hno)
    ?assign ?body ?done ?stop
  case assign =>
    rintro l pre x W K ⟨⟨v, hv, hrow, hnil⟩, hB1⟩ hK
    gi_wp2
    exact hK _ _ ((KeepsOthers.alloc _ _).from _) ((Below.refl _ W).alloc hB1.size _) ⟨⟨v, hv.alloc _, hrow.alloc _, hnil⟩, hB1.alloc hB1.size _⟩ ⟨W.heap.size, hv.lt, blk_alloc W _, rfl⟩
  case body =>
    rintro l pre x a' W hl ⟨r, hr⟩ ⟨⟨v, hv, hrow, hnil⟩, hB⟩ ⟨Bx, hBx, bX, rfl⟩ hlt
    have hcv := hv.cell
    have x0 : W.cell? ⟨Bx, 0, none⟩ = some (.int .i64 x.1) := blk_cell bX 0
    have x1 : W.cell? ⟨Bx, 1, none⟩ = some (.int .i64 x.2) := blk_cell bX 1
    have hxs := hB.size
    gi_wp2_with (gi_at_builtin; refine wpListIn_append_own _ rfl _ _ 38 rfl w.heap.size 33 i0 (.agg #[.int .i64 0, .int .i64 0]) 2 16 Try.underlying38 hi hz0 hz1 hz2 rfl (by decide) _ _ _ rfl (hrow.alloc _) ⟨W.heap.size, 0, none⟩ 1 1 [.int .i64 x.1, .int .i64 x.2] rfl rfl (cell_two_new _ _ _ _) (by simp [Value.oneCell']) (by unfold maxLen; omega) (by omega) (by simp; omega) ?_; intro v' w1 hown' hgrow _; obtain ⟨g', cap', rfl⟩ := ownsRow_succ hown'; obtain ⟨hv1, hv2, hr2, hk2, hb2⟩ := hv.appended (by decide) hrow hB.size (Nat.le_refl _) hown' hgrow; have hc1 := hv1.cell; have hf1 := hv1.frozen)
    exact ⟨hk2.from _, hb2, ⟨_, hv2, by rw [cellsOf_snoc, List.length_append]; simpa using hr2, by simp⟩, hB.trans hb2⟩
  case done =>
    rintro D ys W hD rfl ⟨⟨v, hv, hrow, hnil⟩, hB⟩ hK
    have hcv := hv.cell
    gi_wp2
    refine ⟨by simp, .inl ⟨_, _, rfl, run_takeDeferred hK, ?_⟩⟩
    exact ⟨_, results_tmp rfl _ _ _, v, rfl, ownsRow_putObj hrow _ hK rfl, hnil, hB.trans (belowK_b (w := w) (Nat.le_refl _) W D _ _ (by simp at hD; omega) hK rfl rfl)⟩
  case stop =>
    rintro D c pre W _ _ h _
    exact h.elim
end Go.Proofs.Ythkbhikiljlgoaa
