/- Package runs: what free runs are in memory; find, List, Pages, Has. -/
import Derived.Test.YthkbhikiljlgoaaWRuns
namespace Go.Proofs.Ythkbhikiljlgoaa
open Go.RowKit

theorem Canon.start {q : Int} {L : List Rn} (h : Canon q L) : ∀ i (hi : i < L.length), (i : Int) ≤ L[i].1
  | 0, hi => by have := h.ok _ (List.getElem_mem hi); omega
  | i + 1, hi => by
    have h1 := h.start i (by omega)
    have h2 := h.next hi
    have h3 := h.ok _ (List.getElem_mem (show i < L.length by omega))
    omega
theorem Canon.len {q : Nat} {L : List Rn} (h : Canon q L) : L.length ≤ q := by
  rcases Nat.eq_zero_or_pos L.length with h0 | h0
  · omega
  · have h1 := h.start (L.length - 1) (by omega)
    have h2 := h.ok _ (List.getElem_mem (show L.length - 1 < L.length by omega))
    omega
/-- Free runs: their struct is block b, v leads to them. -/
structure FreeAt (w : World) (b : Nat) (v : Value) (L : List Rn) : Prop where
  hd : w.heap[b]? = some (.cells #[v] 72 (0, 0))
  own : w.ownsRow 0 33 2 v L.length (cellsOf L)
  canon : Canon 1024 L
theorem FreeAt.ne {w : World} {b : Nat} {v : Value} {L : List Rn} (h : FreeAt w b v L) : v.ownBlock ≠ some b := by
  intro e
  rcases h.own.2 with ⟨h1, _⟩ | ⟨g, cap, cur, h1, h2, h3, _⟩
  · rw [h1] at e; simp [Value.ownBlock] at e
  · rw [h1] at e; simp [Value.ownBlock] at e
    subst e
    rw [h.hd] at h3
    simp at h3
theorem FreeAt.fr {S : Nat → Prop} {w w' : World} {b : Nat} {v : Value} {L : List Rn} (h : FreeAt w b v L) (k : Fr S w w') (h1 : ¬ S b) (h2 : ∀ g, v.ownBlock = some g → ¬ S g) : FreeAt w' b v L :=
  ⟨k.heap h.hd h1, own_fr h.own k (fun g _ hg => h2 g hg), h.canon⟩
theorem FreeAt.bel {w w' : World} {b : Nat} {v : Value} {L : List Rn} (h : FreeAt w b v L) (k : Bel w w') : FreeAt w' b v L := h.fr (Fr.of_bel (S := fun _ => False) k) (fun h => h) (fun _ _ h => h)
theorem FreeAt.runs {w : World} {b : Nat} {v : Value} {L : List Rn} (h : FreeAt w b v L) : ∃ a c, v = .slice a L.length c ∧ RunsIn w a L := by
  obtain ⟨a, c, e, hr, _⟩ := own_slice h.own
  exact ⟨a, c, e, RunsIn.of_row hr⟩
/-- Their blocks. -/
def footR (b : Nat) (v : Value) : Nat → Prop := fun k => k = b ∨ v.ownBlock = some k
theorem FreeAt.lt {w : World} {b : Nat} {v : Value} {L : List Rn} (h : FreeAt w b v L) {k : Nat} (hk : footR b v k) : k < w.heap.size := by
  rcases hk with rfl | hk
  · exact heap_lt h.hd
  · rcases h.own.2 with ⟨h1, _⟩ | ⟨g, cap, cur, h1, h2, h3, _⟩
    · rw [h1] at hk; simp [Value.ownBlock] at hk
    · rw [h1] at hk; simp [Value.ownBlock] at hk
      subst hk; exact heap_lt h3
/-- A pointer to free runs; nil: there are none. -/
def FreeP (w : World) (p : Value) (L : List Rn) : Prop := (p = .pointer none ∧ L = []) ∨ ∃ b v, p = .pointer (some ⟨b, 0, none⟩) ∧ FreeAt w b v L
theorem FreeP.bel {w w' : World} {p : Value} {L : List Rn} (h : FreeP w p L) (k : Bel w w') : FreeP w' p L := by
  rcases h with h | ⟨b, v, e, h⟩
  · exact .inl h
  · exact .inr ⟨b, v, e, h.bel k⟩
theorem FreeP.canon {w : World} {p : Value} {L : List Rn} (h : FreeP w p L) : Canon 1024 L := by
  rcases h with ⟨_, rfl⟩ | ⟨b, v, e, h⟩
  · exact Canon.nil _
  · exact h.canon

/-! ### find -/
set_option maxRecDepth 20000 in
theorem find1_asks (x : Rn) (g : Nat) (L : List Rn) (w : World) (hL : Canon 1024 L) (hx : there 1024 x = true) (h0 : w.cell? ⟨g, 0, none⟩ = some (.int .i64 x.1)) (h1 : w.cell? ⟨g, 1, none⟩ = some (.int .i64 x.2)) :
    AsksR 66 #[.pointer (some ⟨g, 0, none⟩)] (hasR x) L w := by
  intro W hb y hy
  have q0 := hb.cell h0
  have q1 := hb.cell h1
  obtain ⟨k0, k1, k2⟩ := hL.ok y hy
  obtain ⟨t0, t1, t2, t3⟩ := there_iff.1 hx
  have hgl := World.block_lt_of_cell? W _ q0
  have HX : Hid (hasR x y = (decide (y.1 ≤ x.1) && decide (x.1 + x.2 ≤ y.1 + y.2))) := Lib.hid rfl
  obtain ⟨x1, x2⟩ := x
  obtain ⟨y1, y2⟩ := y
  dsimp only at *
  clear h0 h1 hb hL hx hy
  have c4 : IntKind.i64.wrap (x1 + x2) = x1 + x2 := IntWalk.i64_in _ (by omega)
  have c5 : IntKind.i64.wrap (y1 + y2) = y1 + y2 := IntWalk.i64_in _ (by omega)
  by_cases c1 : y1 ≤ x1
  · go_enter Try.func66, Try.ntmps66
    go_wp2
    go_ret
    exact ⟨by rw [HX.out, decide_eq_true c1]; rfl, (Bel.refl _).alloc _⟩
  · go_enter Try.func66, Try.ntmps66
    go_wp2
    go_ret
    exact ⟨by rw [HX.out, decide_eq_false (by omega)]; rfl, (Bel.refl _).alloc _⟩
theorem find1_enters : Enters 66 := enters_of Try.func66 (by kernel_rfl) rfl
set_option maxRecDepth 20000 in
theorem runs_find (p : Value) (L : List Rn) (x : Rn) (w : World) (h : FreeP w p L) (hx : there 1024 x = true) :
    Calls Try.prog 55 #[p, .agg #[.int .i64 x.1, .int .i64 x.2]] w fun e w' => e = .returned (.int .i64 (idxF (hasR x) L)) ∧ Bel w w' := by
  rcases h with ⟨rfl, rfl⟩ | ⟨b, v, rfl, h⟩
  · go_enter Try.func55, Try.ntmps55
    go_wp2
    go_ret
    exact ⟨rfl, (Bel.refl _).alloc _⟩
  · obtain ⟨a, c, rfl, hr⟩ := h.runs
    have hlen : L.length ≤ 1024 := h.canon.len (q := 1024)
    have hB0 : Bel w (w.alloc (.cells #[.int .i64 x.1, .int .i64 x.2] 33)) := (Bel.refl _).alloc _
    have g := blk_alloc w (.cells #[.int .i64 x.1, .int .i64 x.2] 33)
    have hcon := indexFunc_run 66 find1_enters #[.pointer (some ⟨w.heap.size, 0, none⟩)] (hasR x) a L L.length c (w.alloc (.cells #[.int .i64 x.1, .int .i64 x.2] 33)) rfl (by omega) (hr.bel hB0)
      (find1_asks x w.heap.size L _ h.canon hx (blk_cell g 0) (blk_cell g 1))
    have hc : (w.alloc (.cells #[.int .i64 x.1, .int .i64 x.2] 33)).cell? ⟨b, 0, none⟩ = some (.slice a L.length c) := hB0.cell (by rw [blk_cell h.hd]; rfl)
    have HC := Lib.hid hcon
    clear hcon h hr g hB0
    obtain ⟨q, hq⟩ : ∃ q, idxF (hasR x) L = q := ⟨_, rfl⟩
    rw [hq] at HC ⊢
    clear hq hx
    go_enter Try.func55, Try.ntmps55
    go_wp2_with fail
    refine HC.out.mono ?_
    rintro e w2 ⟨rfl, hB⟩
    have HB := Lib.hid hB
    clear hB
    go_wp2
    go_ret
    exact ⟨rfl, ((Bel.refl w).alloc _).trans HB.out⟩

/-! ### List, Pages -/
theorem eql_nil_runs (w : World) : (binOp .eql 38 (.slice none 0 0) (.slice none 0 0)).run Try.prog w = .ok (.bool true) w := by kernel_rfl
theorem eql_some_runs (g n c : Nat) (w : World) : (binOp .eql 38 (.slice (some ⟨g, 0, none⟩) n c) (.slice none 0 0)).run Try.prog w = .ok (.bool false) w := by kernel_rfl
set_option maxRecDepth 20000 in
theorem clone_runs (v : Value) (L : List Rn) (w : World) (hl : L.length ≤ 65536) (h : w.ownsRow 0 33 2 v L.length (cellsOf L)) :
    Calls Try.prog 43 #[v] w (NewRuns w L) := by
  obtain ⟨i0, hi0, hz0, hz1, hz2⟩ := info_parts info_run
  have hq2 : (Instr.buildSlice 38 0 #[]).run Try.prog w = .ok (.slice (some ⟨w.heap.size, 0, none⟩) 0 0) (w.alloc (.cells #[] 33)) := by kernel_rfl
  have HOW0 : Hid ((w.alloc (.cells #[] 33)).ownsRow w.heap.size 33 2 (.slice (some ⟨w.heap.size, 0, none⟩) 0 0) 0 []) := Lib.hid (World.ownsRow_made (e := 33) (size := 2) w #[] 0 (Nat.le_refl _) (by simp [maxLen]) (by simp))
  have hlc := cellsOf_length L
  rcases h.2 with ⟨rfl, h0⟩ | ⟨g, cap, cur, rfl, h2, h3, h4, h5, h6, h7⟩
  · have : L = [] := by
      rw [h0] at hlc; exact List.eq_nil_of_length_eq_zero (by simp at hlc; omega)
    subst this
    clear HOW0 hq2
    have heq := eql_nil_runs
    go_enter Try.func43, Try.ntmps43
    go_wp2
    go_ret
    exact ⟨_, rfl, World.ownsRow_nil _ _ _ _, Bel.refl _⟩
  · have hr : RdV w (some ⟨g, 0, none⟩) (cellsOf L) := by
      obtain ⟨a, c, e, hr, _⟩ := own_slice h
      cases e; exact hr
    have HNEW : Hid (∀ j u, (cellsOf L)[j]? = some u → (w.alloc (.cells #[] 33)).cell? ((⟨g, 0, none⟩ : Addr).add j) = some u) := Lib.hid (RdV.cells (hr.bel ((Bel.refl _).alloc _)))
    have HONE : Hid (∀ u ∈ cellsOf L, u.oneCell' = true) := Lib.hid (fun u hu => by
      simp only [cellsOf, List.mem_flatMap, rnCells] at hu
      obtain ⟨x, _, hu⟩ := hu
      simp at hu
      rcases hu with rfl | rfl <;> rfl)
    clear h h2 h3 h4 h5 h6 h7 hr
    have heq := eql_some_runs g L.length cap
    go_enter Try.func43, Try.ntmps43
    go_wp2_with (at_builtin; refine wpList_append_own _ rfl _ _ 38 rfl w.heap.size 33 i0 (.agg #[.int .i64 0, .int .i64 0]) 2 16 Try.underlying38 hi0 hz0 hz1 hz2 rfl (by decide) _ _ _ rfl HOW0.out ⟨g, 0, none⟩ L.length cap (cellsOf L) rfl hlc HNEW.out HONE.out ?d4 ?d5 ?d6 ?_)
    case d4 => unfold maxLen; omega
    case d5 => omega
    case d6 => first | omega | (simp; done) | (simp; omega)
    intro v' w4 hown4 hgrow hnil
    have hB4 : Bel w w4 := by
      have hB2 : Bel w (w.alloc (.cells #[] 33)) := (Bel.refl _).alloc _
      refine Below.grown hB2 hgrow hB2.size (fun k hk => ?_)
      simp [Value.ownBlock] at hk; omega
    have HN : Hid (w4.ownsRow w.heap.size 33 2 v' L.length (cellsOf L) ∧ Bel w w4) := Lib.hid ⟨by simpa using hown4, hB4⟩
    clear hown4 hgrow hnil hB4
    go_wp2
    go_ret
    exact ⟨_, rfl, HN.out.1, HN.out.2⟩
theorem runs_List (p : Value) (L : List Rn) (w : World) (h : FreeP w p L) :
    Calls Try.prog 24 #[p] w (NewRuns w L) := by
  rcases h with ⟨rfl, rfl⟩ | ⟨b, v, rfl, h⟩
  · go_enter Try.func24, Try.ntmps24
    go_wp2
    go_ret
    exact ⟨_, rfl, World.ownsRow_nil _ _ _ _, Bel.refl _⟩
  · have hlen : L.length ≤ 1024 := h.canon.len (q := 1024)
    have HC := Lib.hid (clone_runs v L w (by omega) h.own)
    have hc : w.cell? ⟨b, 0, none⟩ = some v := by rw [blk_cell h.hd]; rfl
    clear h
    go_enter Try.func24, Try.ntmps24
    go_wp2_with fail
    refine HC.out.mono ?_
    rintro e w2 ⟨v', rfl, hown, hB⟩
    go_wp2
    go_ret
    exact ⟨_, rfl, hown, hB⟩
/-- How many pages runs have. -/
def sumR (L : List Rn) : Int := (L.map (·.2)).sum
theorem sumR_snoc (L : List Rn) (x : Rn) : sumR (L ++ [x]) = sumR L + x.2 := by simp [sumR]
theorem Canon.sum {L : List Rn} : ∀ {q : Int}, 0 ≤ q → Canon q L → 0 ≤ sumR L ∧ sumR L ≤ q := by
  generalize hn : L.length = n
  induction n generalizing L with
  | zero => intro q hq _; obtain rfl := List.eq_nil_of_length_eq_zero hn; simp [sumR]; exact hq
  | succ n ih =>
    intro q hq h
    rcases List.eq_nil_or_concat L with rfl | ⟨L, x, rfl⟩
    · simp at hn
    rw [List.concat_eq_append] at *
    obtain ⟨i1, i2, i3, i4, i5⟩ := h.init
    have hc : Canon x.1 L := ⟨fun r hr => by have := i1.ok r hr; have := i2 r hr; omega, i1.gap⟩
    have := ih (by simpa using hn) i3 hc
    rw [sumR_snoc]; omega
theorem sumR_take {L : List Rn} (h : Canon 1024 L) (i : Nat) : 0 ≤ sumR (L.take i) ∧ sumR (L.take i) ≤ 1024 :=
  Canon.sum (by omega) ⟨fun r hr => h.ok r (List.mem_of_mem_take hr), h.gap.sublist (List.take_sublist _ _)⟩
end Go.Proofs.Ythkbhikiljlgoaa
