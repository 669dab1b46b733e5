/- Package runs: joined. Package runs: Concat, byStart, joined. The library's SortFunc at runs, over a comparing function that reads no more than where they start. Package runs: Best, Has. Package runs: what free runs are in memory; find, List, Pages, Has. slices.IndexFunc and ContainsFunc over runs; package runs: may, find; Clone. -/
import Derived.Test.YtbldidlbhahciaaGreatGLargeHolds1
import Derived.Test.YtbldidlbhahciaaGreatSortLay
import Derived.Deep.QuietTactic
import Derived.BigQuiet
import Derived.Shelf.Abstract
import Derived.Lib.AppendZeros
import Derived.Shelf.SlSortCmp.NoneTotal
set_option linter.unusedVariables false
set_option linter.unusedSimpArgs false
namespace Go.Proofs.YtbldidlbhahciaaGreat
open Go.RowKit

/-- A call of the function value answers p of a run, and leaves what was there. -/
def AsksR (g : Nat) (cap : Array Value) (p : Rn → Bool) (xs : List Rn) (w : World) : Prop :=
  ∀ W, Bel w W → ∀ x ∈ xs, Calls Tryz.prog g (#[.agg #[.int .i64 x.1, .int .i64 x.2]] ++ cap) W fun e W' => e = .returned (.bool (p x)) ∧ Bel W W'
theorem AsksR.bel {g : Nat} {cap : Array Value} {p : Rn → Bool} {xs : List Rn} {w w' : World} (h : AsksR g cap p xs w) (k : Bel w w') : AsksR g cap p xs w' := fun W hb => h W (k.trans hb)

set_option maxRecDepth 20000 in
theorem indexFunc_run (g : Nat) (hg : Enters g) (cap : Array Value) (p : Rn → Bool) (a : Option Addr) (xs : List Rn) (n c : Nat) (w : World)
    (hn : n = xs.length) (hl : xs.length ≤ 65536) (hrd : RunsIn w a xs) (hp : AsksR g cap p xs w) :
    Calls Tryz.prog 122 #[.slice a n c, .func (.func g) #[] cap] w fun e w' => e = .returned (.int .i64 (idxF p xs)) ∧ Bel w w' := by
  subst hn
  have HP := Lib.hid hp
  have HR := Lib.hid hrd
  clear hp hrd
  have hgc : ∀ (args : Array Value) (w : World), (callFunc g args).run Tryz.prog w = .ok (.enter g args) w := hg
  go_enter Tryz.func122, Tryz.ntmps122
  go_wp2
  go_loopw [8] (fun k W => ∃ m : Nat, m ≤ xs.length ∧ k = .int .i64 m ∧ Hid (Bel w W ∧ ∀ j (hj : j < m) (hj' : j < xs.length), p xs[j] = false)) (fun k _ => xs.length - (intOf k).toNat)
  case atStart => exact ⟨0, Nat.zero_le _, rfl, Lib.hid ⟨Bel.refl _, fun j hj => by omega⟩⟩
  case round =>
    obtain ⟨m, hm, rfl, HH⟩ := hrel
    by_cases hlt : m < xs.length
    · obtain ⟨b, o, rfl, p0, p1⟩ := (HR.out.bel HH.out.1).at m hlt
      have hcon := HP.out wr HH.out.1 xs[m] (List.getElem_mem hlt)
      obtain ⟨x, hx⟩ : ∃ x, xs[m] = x := ⟨_, rfl⟩
      rw [hx] at p0 p1 hcon
      have HX := Lib.hid hx
      obtain ⟨x1, x2⟩ := x
      dsimp only at p0 p1 hcon
      have HC := Lib.hid hcon
      clear hcon hx
      go_wp2_with fail
      refine HC.out.mono ?_
      rintro e W' ⟨rfl, hRW⟩
      have HB := Lib.hid (HH.out.1.trans hRW)
      clear hRW
      cases hpx : p (x1, x2)
      · have HX2 := Lib.hid hpx
        clear hpx
        go_wp2
        go_roundw
        case rel => exact ⟨m + 1, by omega, by go_num, Lib.hid ⟨HB.out, fun j hj hj' => by
          rcases Nat.lt_or_ge j m with h | h
          · exact HH.out.2 j h hj'
          · obtain rfl : j = m := by omega
            rw [HX.out]; exact HX2.out⟩⟩
        case measure => simp [intOf]; omega
      · have HX2 := Lib.hid (idxF_at p xs m hlt (fun j hj => HH.out.2 j hj (by omega)) (by rw [HX.out]; exact hpx))
        clear hpx
        go_wp2
        go_ret
        exact ⟨ret_i HX2.out, HB.out⟩
    · have HX := Lib.hid (idxF_none p xs (fun j hj => HH.out.2 j (by omega) hj))
      go_wp2
      go_ret
      exact ⟨ret_i HX.out, HH.out.1⟩

theorem containsFunc_run (g : Nat) (hg : Enters g) (cap : Array Value) (p : Rn → Bool) (a : Option Addr) (xs : List Rn) (n c : Nat) (w : World)
    (hn : n = xs.length) (hl : xs.length ≤ 65536) (hrd : RunsIn w a xs) (hp : AsksR g cap p xs w) :
    Calls Tryz.prog 99 #[.slice a n c, .func (.func g) #[] cap] w fun e w' => e = .returned (.bool (xs.any p)) ∧ Bel w w' := by
  subst hn
  have H : Hid (xs.any p = decide (0 ≤ idxF p xs)) := Lib.hid (by
    have := idxF_ge p xs
    cases h : xs.any p <;> simp_all)
  go_enter Tryz.func99, Tryz.ntmps99
  go_wp2_with fail
  refine (indexFunc_run g hg cap p a xs _ c w rfl hl hrd hp).mono ?_
  rintro e W' ⟨rfl, hRW⟩
  go_wp2
  go_ret
  exact ⟨ret_b H.out, hRW⟩

/-! ### may -/
/-- A run that may not be. -/
def notMay (x : Rn) : Bool := decide (x.1 < 0) || decide (x.2 < 1) || decide (1024 ≤ x.1) || decide (1024 - x.1 < x.2)
theorem notMay_there (x : Rn) : notMay x = !there 1024 x := by
  rw [Bool.eq_iff_iff, Bool.not_eq_true', ← Bool.not_eq_true, there_iff]
  simp only [notMay, Bool.or_eq_true, decide_eq_true_eq]
  omega
set_option maxRecDepth 20000 in
theorem may1_asks (xs : List Rn) (w : World) (hok : ∀ x ∈ xs, I64 x.1 ∧ I64 x.2) : AsksR 100 #[] notMay xs w := by
  intro W hb x hx
  obtain ⟨⟨a0, a1⟩, b0, b1⟩ := hok x hx
  obtain ⟨s, n⟩ := x
  dsimp only at a0 a1 b0 b1
  have HN : Hid (notMay (s, n) = (decide (s < 0) || decide (n < 1) || decide (1024 ≤ s) || decide (1024 - s < n))) := Lib.hid rfl
  clear hx hb hok
  by_cases c1 : s < 0
  · go_enter Tryz.func100, Tryz.ntmps100
    go_wp2
    go_ret
    exact ⟨by rw [HN.out]; simp [c1], (Bel.refl _).alloc _⟩
  by_cases c2 : n < 1
  · go_enter Tryz.func100, Tryz.ntmps100
    go_wp2
    go_ret
    exact ⟨by rw [HN.out]; simp [c2], (Bel.refl _).alloc _⟩
  by_cases c3 : 1024 ≤ s
  · go_enter Tryz.func100, Tryz.ntmps100
    go_wp2
    go_ret
    exact ⟨by rw [HN.out]; simp [c3], (Bel.refl _).alloc _⟩
  have c4 : IntKind.i64.wrap (1024 - s) = 1024 - s := IntWalk.i64_in _ (by omega)
  go_enter Tryz.func100, Tryz.ntmps100
  go_wp2
  go_ret
  exact ⟨by rw [HN.out, show decide (s < 0) = false from decide_eq_false (by omega), show decide (n < 1) = false from decide_eq_false (by omega), show decide (1024 ≤ s) = false from decide_eq_false (by omega)]; rfl, (Bel.refl _).alloc _⟩
theorem may1_enters : Enters 100 := enters_of Tryz.func100 (by kernel_rfl) rfl
open Classical in
theorem runs_may (a : Option Addr) (xs : List Rn) (n c : Nat) (w : World) (hn : n = xs.length) (hl : xs.length ≤ 65536) (hrd : RunsIn w a xs) (hok : ∀ x ∈ xs, I64 x.1 ∧ I64 x.2) :
    Calls Tryz.prog 78 #[.slice a n c] w fun e w' => e = .returned (.bool (decide (AllThere 1024 xs))) ∧ Bel w w' := by
  subst hn
  have H : Hid ((!xs.any notMay) = decide (AllThere 1024 xs)) := Lib.hid (by
    rw [Bool.eq_iff_iff, Bool.not_eq_true', ← Bool.not_eq_true, decide_eq_true_eq, List.any_eq_true]
    constructor
    · intro h r hr
      refine Classical.byContradiction fun hn => h ⟨r, hr, ?_⟩
      rw [notMay_there]; simpa using hn
    · rintro h ⟨r, hr, h1⟩
      rw [notMay_there, h r hr] at h1; cases h1)
  obtain ⟨q, hq⟩ : ∃ q, decide (AllThere 1024 xs) = q := ⟨_, rfl⟩
  rw [hq] at H ⊢
  clear hq
  go_enter Tryz.func78, Tryz.ntmps78
  go_wp2_with fail
  refine (containsFunc_run 100 may1_enters #[] notMay a xs _ c w rfl hl hrd (may1_asks xs w hok)).mono ?_
  rintro e W' ⟨rfl, hRW⟩
  obtain ⟨z, hz⟩ : ∃ z, xs.any notMay = z := ⟨_, rfl⟩
  rw [hz] at H ⊢
  clear hz
  go_wp2
  go_ret
  exact ⟨ret_b H.out.symm, hRW⟩
end Go.Proofs.YtbldidlbhahciaaGreat

namespace Go.Proofs.YtbldidlbhahciaaGreat
open Go.RowKit

theorem Canon.start {q : Int} {L : List Rn} (h : Canon q L) : ∀ i (hi : i < L.length), (i : Int) ≤ L[i].1
  | 0, hi => by have := h.ok _ (List.getElem_mem hi); omega
  | i + 1, hi => by
    have h1 := h.start i (by omega)
    have h2 := h.next hi
    have h3 := h.ok _ (List.getElem_mem (show i < L.length by omega))
    omega
theorem Canon.len {q : Nat} {L : List Rn} (h : Canon q L) : L.length ≤ q := by
  rcases Nat.eq_zero_or_pos L.length with h0 | h0
  · omega
  · have h1 := h.start (L.length - 1) (by omega)
    have h2 := h.ok _ (List.getElem_mem (show L.length - 1 < L.length by omega))
    omega
/-- Free runs: their struct is block b, v leads to them. -/
structure FreeAt (w : World) (b : Nat) (v : Value) (L : List Rn) : Prop where
  hd : w.heap[b]? = some (.cells #[v] 110 (0, 0))
  own : w.ownsRow 0 31 2 v L.length (cellsOf L)
  canon : Canon 1024 L
theorem FreeAt.ne {w : World} {b : Nat} {v : Value} {L : List Rn} (h : FreeAt w b v L) : v.ownBlock ≠ some b := by
  intro e
  rcases h.own.2 with ⟨h1, _⟩ | ⟨g, cap, cur, h1, h2, h3, _⟩
  · rw [h1] at e; simp [Value.ownBlock] at e
  · rw [h1] at e; simp [Value.ownBlock] at e
    subst e
    rw [h.hd] at h3
    simp at h3
theorem FreeAt.fr {S : Nat → Prop} {w w' : World} {b : Nat} {v : Value} {L : List Rn} (h : FreeAt w b v L) (k : Fr S w w') (h1 : ¬ S b) (h2 : ∀ g, v.ownBlock = some g → ¬ S g) : FreeAt w' b v L :=
  ⟨k.heap h.hd h1, own_fr h.own k (fun g _ hg => h2 g hg), h.canon⟩
theorem FreeAt.bel {w w' : World} {b : Nat} {v : Value} {L : List Rn} (h : FreeAt w b v L) (k : Bel w w') : FreeAt w' b v L := h.fr (Fr.of_bel (S := fun _ => False) k) (fun h => h) (fun _ _ h => h)
theorem FreeAt.runs {w : World} {b : Nat} {v : Value} {L : List Rn} (h : FreeAt w b v L) : ∃ a c, v = .slice a L.length c ∧ RunsIn w a L := by
  obtain ⟨a, c, e, hr, _⟩ := own_slice h.own
  exact ⟨a, c, e, RunsIn.of_row hr⟩
/-- Their blocks. -/
def footR (b : Nat) (v : Value) : Nat → Prop := fun k => k = b ∨ v.ownBlock = some k
theorem FreeAt.lt {w : World} {b : Nat} {v : Value} {L : List Rn} (h : FreeAt w b v L) {k : Nat} (hk : footR b v k) : k < w.heap.size := by
  rcases hk with rfl | hk
  · exact heap_lt h.hd
  · rcases h.own.2 with ⟨h1, _⟩ | ⟨g, cap, cur, h1, h2, h3, _⟩
    · rw [h1] at hk; simp [Value.ownBlock] at hk
    · rw [h1] at hk; simp [Value.ownBlock] at hk
      subst hk; exact heap_lt h3
/-- A pointer to free runs; nil: there are none. -/
def FreeP (w : World) (p : Value) (L : List Rn) : Prop := (p = .pointer none ∧ L = []) ∨ ∃ b v, p = .pointer (some ⟨b, 0, none⟩) ∧ FreeAt w b v L
theorem FreeP.bel {w w' : World} {p : Value} {L : List Rn} (h : FreeP w p L) (k : Bel w w') : FreeP w' p L := by
  rcases h with h | ⟨b, v, e, h⟩
  · exact .inl h
  · exact .inr ⟨b, v, e, h.bel k⟩
theorem FreeP.canon {w : World} {p : Value} {L : List Rn} (h : FreeP w p L) : Canon 1024 L := by
  rcases h with ⟨_, rfl⟩ | ⟨b, v, e, h⟩
  · exact Canon.nil _
  · exact h.canon

/-! ### find -/
set_option maxRecDepth 20000 in
theorem find1_asks (x : Rn) (g : Nat) (L : List Rn) (w : World) (hL : Canon 1024 L) (hx : there 1024 x = true) (h0 : w.cell? ⟨g, 0, none⟩ = some (.int .i64 x.1)) (h1 : w.cell? ⟨g, 1, none⟩ = some (.int .i64 x.2)) :
    AsksR 124 #[.pointer (some ⟨g, 0, none⟩)] (hasR x) L w := by
  intro W hb y hy
  have q0 := hb.cell h0
  have q1 := hb.cell h1
  obtain ⟨k0, k1, k2⟩ := hL.ok y hy
  obtain ⟨t0, t1, t2, t3⟩ := there_iff.1 hx
  have hgl := World.block_lt_of_cell? W _ q0
  have HX : Hid (hasR x y = (decide (y.1 ≤ x.1) && decide (x.1 + x.2 ≤ y.1 + y.2))) := Lib.hid rfl
  obtain ⟨x1, x2⟩ := x
  obtain ⟨y1, y2⟩ := y
  dsimp only at *
  clear h0 h1 hb hL hx hy
  have c4 : IntKind.i64.wrap (x1 + x2) = x1 + x2 := IntWalk.i64_in _ (by omega)
  have c5 : IntKind.i64.wrap (y1 + y2) = y1 + y2 := IntWalk.i64_in _ (by omega)
  by_cases c1 : y1 ≤ x1
  · go_enter Tryz.func124, Tryz.ntmps124
    go_wp2
    go_ret
    exact ⟨by rw [HX.out, decide_eq_true c1]; rfl, (Bel.refl _).alloc _⟩
  · go_enter Tryz.func124, Tryz.ntmps124
    go_wp2
    go_ret
    exact ⟨by rw [HX.out, decide_eq_false (by omega)]; rfl, (Bel.refl _).alloc _⟩
theorem find1_enters : Enters 124 := enters_of Tryz.func124 (by kernel_rfl) rfl
set_option maxRecDepth 20000 in
theorem runs_find (p : Value) (L : List Rn) (x : Rn) (w : World) (h : FreeP w p L) (hx : there 1024 x = true) :
    Calls Tryz.prog 105 #[p, .agg #[.int .i64 x.1, .int .i64 x.2]] w fun e w' => e = .returned (.int .i64 (idxF (hasR x) L)) ∧ Bel w w' := by
  rcases h with ⟨rfl, rfl⟩ | ⟨b, v, rfl, h⟩
  · go_enter Tryz.func105, Tryz.ntmps105
    go_wp2
    go_ret
    exact ⟨rfl, (Bel.refl _).alloc _⟩
  · obtain ⟨a, c, rfl, hr⟩ := h.runs
    have hlen : L.length ≤ 1024 := h.canon.len (q := 1024)
    have hB0 : Bel w (w.alloc (.cells #[.int .i64 x.1, .int .i64 x.2] 31)) := (Bel.refl _).alloc _
    have g := blk_alloc w (.cells #[.int .i64 x.1, .int .i64 x.2] 31)
    have hcon := indexFunc_run 124 find1_enters #[.pointer (some ⟨w.heap.size, 0, none⟩)] (hasR x) a L L.length c (w.alloc (.cells #[.int .i64 x.1, .int .i64 x.2] 31)) rfl (by omega) (hr.bel hB0)
      (find1_asks x w.heap.size L _ h.canon hx (blk_cell g 0) (blk_cell g 1))
    have hc : (w.alloc (.cells #[.int .i64 x.1, .int .i64 x.2] 31)).cell? ⟨b, 0, none⟩ = some (.slice a L.length c) := hB0.cell (by rw [blk_cell h.hd]; rfl)
    have HC := Lib.hid hcon
    clear hcon h hr g hB0
    obtain ⟨q, hq⟩ : ∃ q, idxF (hasR x) L = q := ⟨_, rfl⟩
    rw [hq] at HC ⊢
    clear hq hx
    go_enter Tryz.func105, Tryz.ntmps105
    go_wp2_with fail
    refine HC.out.mono ?_
    rintro e w2 ⟨rfl, hB⟩
    have HB := Lib.hid hB
    clear hB
    go_wp2
    go_ret
    exact ⟨rfl, ((Bel.refl w).alloc _).trans HB.out⟩

/-! ### List, Pages -/
theorem eql_nil_runs (w : World) : (binOp .eql 64 (.slice none 0 0) (.slice none 0 0)).run Tryz.prog w = .ok (.bool true) w := by kernel_rfl
theorem eql_some_runs (g n c : Nat) (w : World) : (binOp .eql 64 (.slice (some ⟨g, 0, none⟩) n c) (.slice none 0 0)).run Tryz.prog w = .ok (.bool false) w := by kernel_rfl
set_option maxRecDepth 20000 in
theorem clone_runs (v : Value) (L : List Rn) (w : World) (hl : L.length ≤ 65536) (h : w.ownsRow 0 31 2 v L.length (cellsOf L)) :
    Calls Tryz.prog 77 #[v] w (NewRuns w L) := by
  obtain ⟨i0, hi0, hz0, hz1, hz2⟩ := info_parts info_run
  have hq2 : (Instr.buildSlice 64 0 #[]).run Tryz.prog w = .ok (.slice (some ⟨w.heap.size, 0, none⟩) 0 0) (w.alloc (.cells #[] 31)) := by kernel_rfl
  have HOW0 : Hid ((w.alloc (.cells #[] 31)).ownsRow w.heap.size 31 2 (.slice (some ⟨w.heap.size, 0, none⟩) 0 0) 0 []) := Lib.hid (World.ownsRow_made (e := 31) (size := 2) w #[] 0 (Nat.le_refl _) (by simp [maxLen]) (by simp))
  have hlc := cellsOf_length L
  rcases h.2 with ⟨rfl, h0⟩ | ⟨g, cap, cur, rfl, h2, h3, h4, h5, h6, h7⟩
  · have : L = [] := by
      rw [h0] at hlc; exact List.eq_nil_of_length_eq_zero (by simp at hlc; omega)
    subst this
    clear HOW0 hq2
    have heq := eql_nil_runs
    go_enter Tryz.func77, Tryz.ntmps77
    go_wp2
    go_ret
    exact ⟨_, rfl, World.ownsRow_nil _ _ _ _, Bel.refl _⟩
  · have hr : RdV w (some ⟨g, 0, none⟩) (cellsOf L) := by
      obtain ⟨a, c, e, hr, _⟩ := own_slice h
      cases e; exact hr
    have HNEW : Hid (∀ j u, (cellsOf L)[j]? = some u → (w.alloc (.cells #[] 31)).cell? ((⟨g, 0, none⟩ : Addr).add j) = some u) := Lib.hid (RdV.cells (hr.bel ((Bel.refl _).alloc _)))
    have HONE : Hid (∀ u ∈ cellsOf L, u.oneCell' = true) := Lib.hid (fun u hu => by
      simp only [cellsOf, List.mem_flatMap, rnCells] at hu
      obtain ⟨x, _, hu⟩ := hu
      simp at hu
      rcases hu with rfl | rfl <;> rfl)
    clear h h2 h3 h4 h5 h6 h7 hr
    have heq := eql_some_runs g L.length cap
    go_enter Tryz.func77, Tryz.ntmps77
    go_wp2_with (at_builtin; refine wpList_append_own _ rfl _ _ 64 rfl w.heap.size 31 i0 (.agg #[.int .i64 0, .int .i64 0]) 2 16 Tryz.underlying64 hi0 hz0 hz1 hz2 rfl (by decide) _ _ _ rfl HOW0.out ⟨g, 0, none⟩ L.length cap (cellsOf L) rfl hlc HNEW.out HONE.out ?d4 ?d5 ?d6 ?_)
    case d4 => unfold maxLen; omega
    case d5 => omega
    case d6 => first | omega | (simp; done) | (simp; omega)
    intro v' w4 hown4 hgrow hnil
    have hB4 : Bel w w4 := by
      have hB2 : Bel w (w.alloc (.cells #[] 31)) := (Bel.refl _).alloc _
      refine Below.grown hB2 hgrow hB2.size (fun k hk => ?_)
      simp [Value.ownBlock] at hk; omega
    have HN : Hid (w4.ownsRow w.heap.size 31 2 v' L.length (cellsOf L) ∧ Bel w w4) := Lib.hid ⟨by simpa using hown4, hB4⟩
    clear hown4 hgrow hnil hB4
    go_wp2
    go_ret
    exact ⟨_, rfl, HN.out.1, HN.out.2⟩
theorem runs_List (p : Value) (L : List Rn) (w : World) (h : FreeP w p L) :
    Calls Tryz.prog 55 #[p] w (NewRuns w L) := by
  rcases h with ⟨rfl, rfl⟩ | ⟨b, v, rfl, h⟩
  · go_enter Tryz.func55, Tryz.ntmps55
    go_wp2
    go_ret
    exact ⟨_, rfl, World.ownsRow_nil _ _ _ _, Bel.refl _⟩
  · have hlen : L.length ≤ 1024 := h.canon.len (q := 1024)
    have HC := Lib.hid (clone_runs v L w (by omega) h.own)
    have hc : w.cell? ⟨b, 0, none⟩ = some v := by rw [blk_cell h.hd]; rfl
    clear h
    go_enter Tryz.func55, Tryz.ntmps55
    go_wp2_with fail
    refine HC.out.mono ?_
    rintro e w2 ⟨v', rfl, hown, hB⟩
    go_wp2
    go_ret
    exact ⟨_, rfl, hown, hB⟩
/-- How many pages runs have. -/
def sumR (L : List Rn) : Int := (L.map (·.2)).sum
theorem sumR_snoc (L : List Rn) (x : Rn) : sumR (L ++ [x]) = sumR L + x.2 := by simp [sumR]
theorem Canon.sum {L : List Rn} : ∀ {q : Int}, 0 ≤ q → Canon q L → 0 ≤ sumR L ∧ sumR L ≤ q := by
  generalize hn : L.length = n
  induction n generalizing L with
  | zero => intro q hq _; obtain rfl := List.eq_nil_of_length_eq_zero hn; simp [sumR]; exact hq
  | succ n ih =>
    intro q hq h
    rcases List.eq_nil_or_concat L with rfl | ⟨L, x, rfl⟩
    · simp at hn
    rw [List.concat_eq_append] at *
    obtain ⟨i1, i2, i3, i4, i5⟩ := h.init
    have hc : Canon x.1 L := ⟨fun r hr => by have := i1.ok r hr; have := i2 r hr; omega, i1.gap⟩
    have := ih (by simpa using hn) i3 hc
    rw [sumR_snoc]; omega
theorem sumR_take {L : List Rn} (h : Canon 1024 L) (i : Nat) : 0 ≤ sumR (L.take i) ∧ sumR (L.take i) ≤ 1024 :=
  Canon.sum (by omega) ⟨fun r hr => h.ok r (List.mem_of_mem_take hr), h.gap.sublist (List.take_sublist _ _)⟩
end Go.Proofs.YtbldidlbhahciaaGreat

namespace Go.Proofs.YtbldidlbhahciaaGreat
open Go.RowKit

/-- Best's blocks: its result, the best one as yet. -/
structure BestBox (w wr : World) (b : Rn) : Prop where
  r : wr.heap[w.heap.size]? = some (.cells #[.int .i64 0, .int .i64 0] 31 (0, 0))
  b : wr.heap[w.heap.size + 1]? = some (.cells #[.int .i64 b.1, .int .i64 b.2] 31 (0, 0))
  bel : Bel w wr
theorem bestF_ok {L : List Rn} (hL : Canon 1024 L) (n : Int) (k : Nat) : 0 ≤ (bestP n (L.take k) (0, 0)).1 ∧ 0 ≤ (bestP n (L.take k) (0, 0)).2 ∧ (bestP n (L.take k) (0, 0)).1 + (bestP n (L.take k) (0, 0)).2 ≤ 1024 := by
  suffices h : ∀ (l : List Rn) (b : Rn), (∀ r ∈ l, 0 ≤ r.1 ∧ 1 ≤ r.2 ∧ r.1 + r.2 ≤ 1024) → (0 ≤ b.1 ∧ 0 ≤ b.2 ∧ b.1 + b.2 ≤ 1024) → 0 ≤ (bestP n l b).1 ∧ 0 ≤ (bestP n l b).2 ∧ (bestP n l b).1 + (bestP n l b).2 ≤ 1024 from
    h _ _ (fun r hr => hL.ok r (List.mem_of_mem_take hr)) ⟨by simp, by simp, by simp⟩
  intro l
  induction l with
  | nil => intro b _ hb; exact hb
  | cons x l ih =>
    intro b hl hb
    refine ih _ (fun r hr => hl r (by simp [hr])) ?_
    split
    · have := hl x (by simp); omega
    · exact hb
set_option maxHeartbeats 1000000 in
set_option maxRecDepth 20000 in
theorem runs_Best (p : Value) (L : List Rn) (n : Int) (w : World) (h : FreeP w p L) (hn : I64 n) :
    Calls Tryz.prog 84 #[p, .int .i64 n] w fun e w' => e = .returned (.tuple #[.agg #[.int .i64 (bestF L n).1, .int .i64 (bestF L n).2], .bool (decide (0 < (bestF L n).2))]) ∧ Bel w w' := by
  obtain ⟨n0, n1⟩ := hn
  have gR := blk_alloc w (.cells #[.int .i64 0, .int .i64 0] 31)
  obtain ⟨r0, r1, r2⟩ := two_set gR (.int .i64 0) (.int .i64 0)
  rcases h with ⟨rfl, rfl⟩ | ⟨b, v, rfl, h⟩
  · have hb : bestF [] n = (0, 0) := by unfold bestF; split <;> rfl
    rw [hb]
    go_enter Tryz.func84, Tryz.ntmps84
    go_wp2
    refine bodyPost_ret (v := .tuple #[.agg #[.int .i64 0, .int .i64 0], .bool false]) (by simp [results, Tryz.results84, go_sem, r0, r1]) rfl ?_
    exact ⟨rfl, (Bel.refl _).alloc _⟩
  by_cases c1 : n < 1
  · have hb : bestF L n = (0, 0) := by unfold bestF; rw [if_pos c1]
    rw [hb]
    go_enter Tryz.func84, Tryz.ntmps84
    go_wp2
    refine bodyPost_ret (v := .tuple #[.agg #[.int .i64 0, .int .i64 0], .bool false]) (by simp [results, Tryz.results84, go_sem, r0, r1]) rfl ?_
    exact ⟨rfl, (Bel.refl _).alloc _⟩
  have hb : bestF L n = bestP n L (0, 0) := by unfold bestF; rw [if_neg c1]
  rw [hb]
  have hlen : L.length ≤ 1024 := h.canon.len (q := 1024)
  have HOK := Lib.hid (bestF_ok h.canon n)
  have HK := Lib.hid h.canon
  obtain ⟨a, c, rfl, hr⟩ := h.runs
  have hc : w.cell? ⟨b, 0, none⟩ = some (.slice a L.length c) := by rw [blk_cell h.hd]; rfl
  have HR := Lib.hid hr
  have hbl := heap_lt h.hd
  have HB0 : Hid (BestBox w ((w.alloc (.cells #[.int .i64 0, .int .i64 0] 31)).alloc (.cells #[.int .i64 0, .int .i64 0] 31)) (0, 0)) := Lib.hid ⟨blk_alloc_old _ gR, by
    have := blk_alloc (w.alloc (.cells #[.int .i64 0, .int .i64 0] 31)) (.cells #[.int .i64 0, .int .i64 0] 31)
    rwa [World.size_alloc] at this, ((Bel.refl _).alloc _).alloc _⟩
  clear h hr hb gR r0 r1 r2
  go_enter Tryz.func84, Tryz.ntmps84
  go_wp2_with fail
  go_loopw [21] (fun k wr => ∃ i : Nat, i ≤ L.length ∧ k = .int .i64 i ∧ Hid (BestBox w wr (bestP n (L.take i) (0, 0)))) (fun k _ => L.length - (intOf k).toNat)
  case atStart => exact ⟨0, Nat.zero_le _, rfl, HB0⟩
  case round =>
    obtain ⟨i, hi, rfl, HH⟩ := hrel
    have hbl := heap_lt HH.out.b
    obtain ⟨b0, b1, b2, b3⟩ := two_cells HH.out.b
    by_cases hlt : i < L.length
    · obtain ⟨g, o, rfl, p0, p1⟩ := (HR.out.bel HH.out.bel).at i hlt
      have hst := bestP_snoc n (L.take i) L[i] (0, 0)
      rw [← List.take_succ_eq_append_getElem hlt] at hst
      have hk := HK.out.ok _ (List.getElem_mem hlt)
      have hok := HOK.out i
      obtain ⟨x, hx⟩ : ∃ x, L[i] = x := ⟨_, rfl⟩
      rw [hx] at p0 p1 hst hk
      obtain ⟨x1, x2⟩ := x
      obtain ⟨y, hy⟩ : ∃ y, bestP n (L.take i) (0, 0) = y := ⟨_, rfl⟩
      rw [hy] at hst b0 b1 HH hok
      obtain ⟨y1, y2⟩ := y
      dsimp only at p0 p1 hst hk b0 b1 hok
      by_cases c : n ≤ x2 ∧ (y2 = 0 ∨ x2 < y2)
      · rw [if_pos c] at hst
        have HST := Lib.hid hst
        have HN : Hid (BestBox w (((wr.setCell ⟨w.heap.size + 1, 0, none⟩ (.int .i64 x1)).setCell ⟨w.heap.size + 1, 1, none⟩ (.int .i64 x2)).alloc (.cells #[.int .i64 x1, .int .i64 x2] 31)) (x1, x2)) := Lib.hid (by
          refine ⟨blk_alloc_old _ ?_, blk_alloc_old _ (two_set HH.out.b _ _).2.2, (bel_two HH.out.bel (by omega) _ _).alloc _⟩
          exact blk_setCell_other (blk_setCell_other HH.out.r (show w.heap.size ≠ w.heap.size + 1 by omega) _) (show w.heap.size ≠ w.heap.size + 1 by omega) _)
        obtain ⟨c1, c2⟩ := c
        clear hst hx hy
        rcases c2 with c2 | c2
        · subst c2
          go_wp2
          go_roundw
          case rel => exact ⟨i + 1, by omega, by go_num, by rw [HST.out]; exact HN⟩
          case measure => simp [intOf]; omega
        · have c3 : ¬ y2 = 0 := by omega
          go_wp2
          go_roundw
          case rel => exact ⟨i + 1, by omega, by go_num, by rw [HST.out]; exact HN⟩
          case measure => simp [intOf]; omega
      · rw [if_neg c] at hst
        have HST := Lib.hid hst
        have HN : Hid (BestBox w (wr.alloc (.cells #[.int .i64 x1, .int .i64 x2] 31)) (y1, y2)) := Lib.hid ⟨blk_alloc_old _ HH.out.r, blk_alloc_old _ HH.out.b, HH.out.bel.alloc _⟩
        clear hst hx hy
        by_cases c2 : n ≤ x2
        · have c3 : ¬ y2 = 0 := fun h => c ⟨c2, .inl h⟩
          have c4 : ¬ x2 < y2 := fun h => c ⟨c2, .inr h⟩
          clear c
          go_wp2
          go_roundw
          case rel => exact ⟨i + 1, by omega, by go_num, by rw [HST.out]; exact HN⟩
          case measure => simp [intOf]; omega
        · clear c
          go_wp2
          go_roundw
          case rel => exact ⟨i + 1, by omega, by go_num, by rw [HST.out]; exact HN⟩
          case measure => simp [intOf]; omega
    · obtain rfl : i = L.length := by omega
      rw [List.take_length] at HH b0 b1
      obtain ⟨y, hy⟩ : ∃ y, bestP n L (0, 0) = y := ⟨_, rfl⟩
      rw [hy] at HH b0 b1
      have HY := Lib.hid hy
      clear hy
      obtain ⟨y1, y2⟩ := y
      dsimp only at b0 b1
      obtain ⟨e0, e1, e2, e3⟩ := two_cells HH.out.r
      obtain ⟨r0, r1, _⟩ := two_set HH.out.r (.int .i64 y1) (.int .i64 y2)
      have HR01 := Lib.hid (And.intro r0 r1)
      clear r0 r1
      go_wp2_with fail
      go_region
      go_wp2
      have r0 := HR01.out.1
      have r1 := HR01.out.2
      refine bodyPost_ret (v := .tuple #[.agg #[.int .i64 y1, .int .i64 y2], .bool (decide (0 < y2))]) (by simp [results, Tryz.results84, go_sem, r0, r1]) rfl ?_
      exact ⟨by rw [HY.out], (bel_two HH.out.bel (Nat.le_refl _) _ _).drew⟩
end Go.Proofs.YtbldidlbhahciaaGreat

namespace Go.Proofs.YtbldidlbhahciaaGreat
open Go.RowKit Go.Shelf Go.Lib Go.Sort

/-- Runs that start at a page that may be. -/
abbrev BRn := { x : Rn // 0 ≤ x.1 ∧ x.1 ≤ 1024 }
instance : Inhabited BRn := ⟨⟨(0, 0), by decide⟩⟩
def encB (x : BRn) : List Value := [.int .i64 x.1.1, .int .i64 x.1.2]
def cfB (x y : BRn) : Int := x.1.1 - y.1.1
theorem ltB (x y : BRn) : ltOf cfB x y = decide (x.1.1 < y.1.1) := by
  unfold ltOf cfB
  rw [decide_eq_decide]; omega
/-- A comparing function that tells which one starts ahead. -/
abbrev ByStart (cf : BRn → BRn → Int) : Prop := ∀ x y, ltOf cf x y = decide (x.1.1 < y.1.1)
theorem swoOf {cf : BRn → BRn → Int} (h : ByStart cf) : SWO (ltOf cf) where
  irrefl x := by rw [h]; simp
  trans x y z h1 h2 := by rw [h] at *; simp at *; omega
  ntrans x y z h1 h2 := by rw [h] at *; simp at *; omega
theorem lift_runs : ∀ (zs : List Rn), (∀ x ∈ zs, 0 ≤ x.1 ∧ x.1 ≤ 1024) → ∃ ds : List BRn, ds.map (·.1) = zs
  | [], _ => ⟨[], rfl⟩
  | z :: zs, h => by
    obtain ⟨ds, hd⟩ := lift_runs zs (fun x hx => h x (by simp [hx]))
    exact ⟨⟨z, h z (by simp)⟩ :: ds, by simp [hd]⟩
/-- What a sort leaves: the same runs, rising. -/
def SortedRuns (zs zs' : List Rn) : Prop := zs'.Perm zs ∧ ∀ i j (h : i < j) (hj : j < zs'.length), (zs'[i]'(by omega)).1 ≤ zs'[j].1
theorem sort_runs {cf : BRn → BRn → Int} (hcf : ByStart cf) (g : Nat) (hg : Enters g) (b cap : Nat) (zs : List Rn) (w : World) (hb : ∀ x ∈ zs, 0 ≤ x.1 ∧ x.1 ≤ 1024) (hl : zs.length ≤ 65536)
    (hcmp : ∀ (x y : BRn) (W : World), Calls Tryz.prog g #[.agg #[.int .i64 x.1.1, .int .i64 x.1.2], .agg #[.int .i64 y.1.1, .int .i64 y.1.2]] W fun e w' => e = .returned (.int .i64 (cf x y)) ∧ ∃ q os', w' = grow (W.drewN q) os')
    (hc : ∀ i (h : i < zs.length), w.cell? ⟨b, i * 2, none⟩ = some (.int .i64 zs[i].1) ∧ w.cell? ⟨b, i * 2 + 1, none⟩ = some (.int .i64 zs[i].2)) (hf : ∀ i, w.frozen? ⟨b, i, none⟩ = false) (hblk : b < w.heap.size) :
    Calls Tryz.prog 101 #[.slice (some ⟨b, 0, none⟩) zs.length cap, .func (.func g) #[] #[]] w fun e w' =>
      e = .returned (.tuple #[]) ∧ ∃ zs', SortedRuns zs zs' ∧ RdV w' (some ⟨b, 0, none⟩) (cellsOf zs') ∧ Fr (fun k => k = b) w w' := by
  obtain ⟨ds, hds⟩ := lift_runs zs hb
  have hdl : ds.length = zs.length := by rw [← hds]; simp
  have hH : HoldsK encB 2 w b 0 ds.toArray := by
    intro t ht
    rw [size_flatK] at ht
    have ht' : t < ds.length * 2 := by simpa using ht
    have hi : t / 2 < ds.length := by omega
    refine ⟨?_, by simpa using hf t⟩
    rw [get_flatK encB 2 ds.toArray t ht]
    have h1 := hc (t / 2) (by omega)
    have hz : zs[t / 2]'(by omega) = (ds[t / 2]).1 := by simp [← hds]
    rw [hz] at h1
    have hd : ds.toArray[t / 2]! = ds[t / 2] := by simp [hi]
    rw [hd]
    rcases Nat.mod_two_eq_zero_or_one t with hm | hm
    · rw [hm, show 0 + t = t / 2 * 2 by omega]; simpa [encB] using h1.1
    · rw [hm, show 0 + t = t / 2 * 2 + 1 by omega]; simpa [encB] using h1.2
  have hcon := AnyQ.slices_SortFunc Tryz.sortRuns 2 Tryz.isAgg31 Tryz.sizeOf31 encB (fun _ => rfl) (fun x v hv => by simp [encB] at hv; rcases hv with rfl | rfl <;> rfl) cf (swoOf hcf) g #[] b 0 cap ds.toArray w hg
    (fun m os dk hdk x y => hcmp x y _) hH hblk (by simp; omega)
  change Calls Tryz.prog 101 _ _ _ at hcon
  have e1 : ds.toArray.size = zs.length := by simp [hdl]
  rw [e1] at hcon
  refine hcon.mono ?_
  rintro e w' ⟨rfl, d', n, os, ⟨hsz, _, hpm⟩, hs, rfl⟩
  have hsz' : d'.size = zs.length := by rw [hsz]; exact e1
  have hH' : HoldsK encB 2 (sortWorldK encB 2 w b 0 n d' os) b 0 d' := holdsK_grow encB 2 _ os b 0 d' (by simp [putRowK, Sort.ahead]; exact hblk) (holdsK_putRowK encB 2 (Sort.ahead w n) b 0 ds.toArray d' (holdsK_ahead encB 2 w n b 0 _ hH) hsz)
  have hlen : (d'.toList.map (·.1)).length = zs.length := by simp [hsz']
  have hget : ∀ i (hi : i < (d'.toList.map (·.1)).length), (d'.toList.map (·.1))[i] = (d'[i]!).1 := fun i hi => by
    have : i < d'.size := by rw [hsz']; omega
    simp [this]
  refine ⟨rfl, d'.toList.map (·.1), ⟨?_, fun i j h hj => ?_⟩, .inr ⟨b, 0, rfl, fun t ht => ?_⟩, ⟨rfl, rfl, rfl, ?_, fun k hk hkb => ?_⟩⟩
  · have h1 : d'.toList.Perm ds := by
      have e2 : d'.extract 0 zs.length = d' := by rw [← hsz']; simp
      have e3 : ds.toArray.extract 0 zs.length = ds.toArray := by rw [← e1]; simp
      rw [e2, e3] at hpm
      simpa using hpm
    rw [← hds]
    exact h1.map _
  · have := hs i j (Nat.zero_le _) h (by omega)
    rw [hcf] at this
    rw [hget i (by omega), hget j hj]
    simpa using this
  · have ht2 : t < d'.size * 2 := by rw [cellsOf_length, hlen] at ht; omega
    have h1 := (hH' t (by rw [size_flatK]; exact ht2)).1
    rw [get_flatK encB 2 d' t ht2] at h1
    have hi : t / 2 < (d'.toList.map (·.1)).length := by rw [hlen]; omega
    have h2 := cellsOf_get (d'.toList.map (·.1)) (t / 2) hi
    rw [hget _ hi] at h2
    rw [h1]
    congr 1
    have hc : (cellsOf (d'.toList.map (·.1)))[t]? = some ((encB d'[t / 2]!)[t % 2]!) := by
      rcases Nat.mod_two_eq_zero_or_one t with hm | hm
      · rw [hm]; have := h2.1; rw [show t / 2 * 2 = t by omega] at this; simpa [encB] using this
      · rw [hm]; have := h2.2; rw [show t / 2 * 2 + 1 = t by omega] at this; simpa [encB] using this
    rw [List.getElem?_eq_getElem ht, Option.some.injEq] at hc
    rw [hc]; rfl
  · simp [sortWorldK, putRowK, Sort.ahead]
  · unfold sortWorldK
    rw [heap_grow_old _ _ (by simp [putRowK, Sort.ahead]; exact hk)]
    show (w.heap.modify b _)[k]? = w.heap[k]?
    rw [Array.getElem?_modify]
    rw [if_neg (fun e => hkb e.symm)]
end Go.Proofs.YtbldidlbhahciaaGreat

namespace Go.Proofs.YtbldidlbhahciaaGreat
open Go.RowKit Go.Shelf Go.Sort Go.Lib

/-! ### the order of runs -/
theorem isNaN_int (x : Int) (w : World) : Calls Tryz.prog 76 #[.int .i64 x] w fun e w' => e = .returned (.bool false) ∧ w = w' := by
  have h : (x != x) = false := by simp
  go_enter Tryz.func76, Tryz.ntmps76
  go_wp2
  go_ret
  exact ⟨rfl, rfl⟩
def cmpF (x y : Int) : Int := if x < y then -1 else if y < x then 1 else 0
theorem cmp_int (x y : Int) (w : World) : Calls Tryz.prog 52 #[.int .i64 x, .int .i64 y] w fun e w' => e = .returned (.int .i64 (cmpF x y)) ∧ w = w' := by
  by_cases c1 : x < y
  · have HE : Hid (cmpF x y = -1) := Lib.hid (by unfold cmpF; rw [if_pos c1])
    go_enter Tryz.func52, Tryz.ntmps52
    go_wp2_with fail
    refine (isNaN_int x w).mono ?_; rintro e w' ⟨rfl, rfl⟩
    go_wp2_with fail
    refine (isNaN_int y w).mono ?_; rintro e w' ⟨rfl, rfl⟩
    go_wp2
    go_ret
    exact ⟨by rw [HE.out]; rfl, rfl⟩
  · by_cases c2 : y < x
    · have HE : Hid (cmpF x y = 1) := Lib.hid (by unfold cmpF; rw [if_neg c1, if_pos c2])
      go_enter Tryz.func52, Tryz.ntmps52
      go_wp2_with fail
      refine (isNaN_int x w).mono ?_; rintro e w' ⟨rfl, rfl⟩
      go_wp2_with fail
      refine (isNaN_int y w).mono ?_; rintro e w' ⟨rfl, rfl⟩
      go_wp2
      go_ret
      exact ⟨by rw [HE.out]; rfl, rfl⟩
    · have HE : Hid (cmpF x y = 0) := Lib.hid (by unfold cmpF; rw [if_neg c1, if_neg c2])
      go_enter Tryz.func52, Tryz.ntmps52
      go_wp2_with fail
      refine (isNaN_int x w).mono ?_; rintro e w' ⟨rfl, rfl⟩
      go_wp2_with fail
      refine (isNaN_int y w).mono ?_; rintro e w' ⟨rfl, rfl⟩
      go_wp2
      go_ret
      exact ⟨by rw [HE.out]; rfl, rfl⟩
def cfS (x y : BRn) : Int := cmpF x.1.1 y.1.1
theorem ltS : ByStart cfS := fun x y => by
  unfold ltOf cfS cmpF
  rw [decide_eq_decide]
  split
  · omega
  · split <;> omega
set_option maxRecDepth 20000 in
theorem byStart_cmp (x y : BRn) (W : World) : Calls Tryz.prog 102 #[.agg #[.int .i64 x.1.1, .int .i64 x.1.2], .agg #[.int .i64 y.1.1, .int .i64 y.1.2]] W fun e w' => e = .returned (.int .i64 (cfS x y)) ∧ ∃ q os', w' = grow (W.drewN q) os' := by
  obtain ⟨⟨x1, x2⟩, hx0, hx1⟩ := x
  obtain ⟨⟨y1, y2⟩, hy0, hy1⟩ := y
  dsimp only at *
  go_enter Tryz.func102, Tryz.ntmps102
  go_wp2_with fail
  refine (cmp_int x1 y1 _).mono ?_; rintro e w' ⟨rfl, rfl⟩
  go_wp2
  go_ret
  exact ⟨rfl, 0, _, by rw [alloc_eq_grow, alloc_eq_grow, grow_grow]; rfl⟩
theorem byStart_enters : Enters 102 := enters_of Tryz.func102 (by kernel_rfl) rfl

/-! ### Concat -/
set_option maxRecDepth 20000 in
theorem grow_runs (n : Nat) (hn : n ≤ 65536) (w : World) :
    Calls Tryz.prog 103 #[.slice none 0 0, .int .i64 n] w fun e w' => ∃ v, e = .returned v ∧ w'.ownsRow w.heap.size 31 2 v 0 [] ∧ Bel w w' := by
  by_cases h0 : n = 0
  · subst h0
    go_enter Tryz.func103, Tryz.ntmps103
    go_wp2
    go_ret
    exact ⟨_, rfl, World.ownsRow_nil _ _ _ _, Bel.refl _⟩
  · have h1 : (0 : Int) < n := by omega
    obtain ⟨i0, hi0, hz0, hz1, hz2⟩ := info_parts info_run
    have hrun : ∀ ty, (Builtin.append_ #[64, 3] ty #[.slice none 0 0, .int .i64 n]).run Tryz.prog w = _ := fun ty => run_append_nil_zeros w 64 3 ty 31 i0 (.agg #[.int .i64 0, .int .i64 0]) .i64 .i64 Tryz.underlying64 Tryz.underlying3 hi0 hz0 n (by omega) (by omega) (by omega) (by rw [hz2]; omega)
    have hge := grownCap_ge w n 0 31
    have hle := grownCap_le_maxLen w n 0 31 (by unfold maxLen; omega)
    generalize grownCap w n 0 31 = cp at hrun hge hle
    have HN : Hid ((w.drew.alloc (.cells (Builtin.zeroCells (Value.agg #[.int .i64 0, .int .i64 0]).cells n ++ Builtin.zeroCells (Value.agg #[.int .i64 0, .int .i64 0]).cells (cp - n)) 31)).ownsRow w.heap.size 31 2 (.slice (some ⟨w.heap.size, 0, none⟩) 0 cp) 0 []) := Lib.hid (by
      refine ⟨rfl, .inr ⟨w.heap.size, cp, _, rfl, Nat.le_refl _, blk_alloc w.drew _, Nat.zero_le _, hle, ?_, by simp⟩⟩
      rw [Array.size_append, size_zeroCells, size_zeroCells]
      have : (Value.agg #[.int .i64 0, .int .i64 0]).cells.size = 2 := rfl
      rw [this]; omega)
    have HB : Hid (Bel w (w.drew.alloc (.cells (Builtin.zeroCells (Value.agg #[.int .i64 0, .int .i64 0]).cells n ++ Builtin.zeroCells (Value.agg #[.int .i64 0, .int .i64 0]).cells (cp - n)) 31))) := Lib.hid ((Bel.refl w).drew.alloc _)
    generalize w.drew.alloc (.cells (Builtin.zeroCells (Value.agg #[.int .i64 0, .int .i64 0]).cells n ++ Builtin.zeroCells (Value.agg #[.int .i64 0, .int .i64 0]).cells (cp - n)) 31) = w1 at hrun HN HB
    have HR := Lib.hid hrun
    clear hrun
    go_enter Tryz.func103, Tryz.ntmps103
    go_wp2_with (at_builtin; refine wpList_append_run _ rfl _ _ _ _ rfl _ _ rfl rfl _ _ (HR.out _) ?_)
    go_wp2
    go_ret
    exact ⟨_, rfl, HN.out, HB.out⟩
/-- The two rows that are put together. -/
structure TwoRows (w : World) (g : Nat) (a1 : Option Addr) (L : List Rn) (c1 : Nat) (a2 : Option Addr) (l : List Rn) (c2 : Nat) : Prop where
  s1 : w.cell? ⟨g, 0, none⟩ = some (.slice a1 L.length c1)
  s2 : w.cell? ⟨g, 1, none⟩ = some (.slice a2 l.length c2)
  r1 : RunsIn w a1 L
  r2 : RunsIn w a2 l
  n1 : a1 = none → L = [] ∧ c1 = 0
  n2 : a2 = none → l = [] ∧ c2 = 0
theorem TwoRows.bel {w w' : World} {g : Nat} {a1 : Option Addr} {L : List Rn} {c1 : Nat} {a2 : Option Addr} {l : List Rn} {c2 : Nat} (h : TwoRows w g a1 L c1 a2 l c2) (k : Bel w w') : TwoRows w' g a1 L c1 a2 l c2 :=
  ⟨k.cell h.s1, k.cell h.s2, h.r1.bel k, h.r2.bel k, h.n1, h.n2⟩
set_option maxHeartbeats 1000000 in
set_option maxRecDepth 20000 in
theorem concat_runs (g : Nat) (a1 a2 : Option Addr) (L l : List Rn) (c1 c2 : Nat) (w : World) (h : TwoRows w g a1 L c1 a2 l c2) (hL : L.length ≤ 1024) (hl : l.length ≤ 1024) :
    Calls Tryz.prog 80 #[.slice (some ⟨g, 0, none⟩) 2 2] w (NewRuns w (L ++ l)) := by
  obtain ⟨i0, hi0, hz0, hz1, hz2⟩ := info_parts info_run
  obtain ⟨s1, s2, r1, r2, m1, m2⟩ := h
  have HT : Hid (TwoRows w g a1 L c1 a2 l c2) := Lib.hid ⟨s1, s2, r1, r2, m1, m2⟩
  have e1 : IntKind.i64.wrap ((L.length : Int) + l.length) = ((L.length + l.length : Nat) : Int) := by rw [IntWalk.i64_in _ (by omega)]; omega
  have hneg : ¬ ((L.length + l.length : Nat) : Int) < 0 := by omega
  clear r1 r2 m1 m2
  go_enter Tryz.func80, Tryz.ntmps80
  go_wp2_with fail
  go_loopw [3, 11] (fun n k wr => Hid (w = wr) ∧ ((k = .int .i64 0 ∧ n = .int .i64 0) ∨ (k = .int .i64 1 ∧ n = .int .i64 L.length) ∨ (k = .int .i64 2 ∧ n = .int .i64 ((L.length + l.length : Nat) : Int)))) (fun _ k _ => 2 - (intOf k).toNat)
  case atStart => exact ⟨Lib.hid rfl, .inl ⟨rfl, rfl⟩⟩
  case round =>
    obtain ⟨HW, ⟨rfl, rfl⟩ | ⟨rfl, rfl⟩ | ⟨rfl, rfl⟩⟩ := hrel
    all_goals obtain rfl := HW.out
    · go_wp2
      go_roundw
      case rel => exact ⟨Lib.hid (by first | rfl | trivial), .inr (.inl ⟨rfl, by simp⟩)⟩
      case measure => simp [intOf]
    · go_wp2
      go_roundw
      case rel => exact ⟨Lib.hid (by first | rfl | trivial), .inr (.inr ⟨rfl, rfl⟩)⟩
      case measure => simp [intOf]
    · clear s1 s2 e1 hneg
      have HG := Lib.hid (grow_runs (L.length + l.length) (by omega) w)
      go_wp2_with fail
      refine HG.out.mono ?_
      rintro e w1 ⟨v, rfl, hown, hB⟩
      have HOW := Lib.hid hown
      have HB := Lib.hid hB
      clear hown hB HG
      go_wp2_with fail
      go_loopw [6, 27] (fun v k wr => ∃ i : Nat, i ≤ 2 ∧ k = .int .i64 i ∧ Hid (wr.ownsRow w.heap.size 31 2 v (([L, l].take i).flatten).length (cellsOf ([L, l].take i).flatten) ∧ Bel w wr)) (fun _ k _ => 2 - (intOf k).toNat)
      case atStart => exact ⟨0, by omega, rfl, Lib.hid ⟨by simpa [cellsOf] using HOW.out, HB.out⟩⟩
      case round =>
        obtain ⟨i, hi, rfl, HH⟩ := hrel
        have hsz := HH.out.2.size
        by_cases h2 : i = 2
        · subst h2
          go_wp2
          go_ret
          exact ⟨_, rfl, by simpa using HH.out.1, HH.out.2⟩
        · obtain ⟨ao, rs, cc, hs, hnx, hr, hno, hrl⟩ : ∃ (ao : Option Addr) (rs : List Rn) (cc : Nat), wr.cell? ⟨g, i, none⟩ = some (.slice ao rs.length cc) ∧ ([L, l].take (i + 1)).flatten = ([L, l].take i).flatten ++ rs ∧ RunsIn wr ao rs ∧ (ao = none → rs = [] ∧ cc = 0) ∧ rs.length ≤ 1024 := by
            have h9 := HT.out.bel HH.out.2
            have : i = 0 ∨ i = 1 := by omega
            rcases this with rfl | rfl
            · exact ⟨a1, L, c1, h9.s1, by simp, h9.r1, h9.n1, hL⟩
            · exact ⟨a2, l, c2, h9.s2, by simp, h9.r2, h9.n2, hl⟩
          have hFL : ([L, l].take i).flatten.length ≤ 2048 := by
            have : i = 0 ∨ i = 1 := by omega
            rcases this with rfl | rfl
            · simp
            · simp; omega
          obtain ⟨F, hF⟩ : ∃ F, ([L, l].take i).flatten = F := ⟨_, rfl⟩
          rw [hF] at HH hnx hFL
          have HNX := Lib.hid hnx
          have HR := Lib.hid hr
          have HNO := Lib.hid hno
          have c3 : (i : Int) < 2 := by omega
          clear hF hnx hr hno h2
          go_wp2_with (at_builtin; refine wpList_append_runs rfl _ _ rfl w.heap.size _ F rfl HH.out.1 ao cc rs rfl HR.out HNO.out (by omega) hsz ?_)
          intro v' w4 hown4 hgrow
          have hB4 : Bel w w4 := by
            refine Below.grown HH.out.2 hgrow hsz (fun k hk => ?_)
            rcases HH.out.1.2 with ⟨h1, _⟩ | ⟨g', cap, cur, h1, h2, _⟩
            · rw [h1] at hk; simp [Value.ownBlock] at hk
            · rw [h1] at hk; simp [Value.ownBlock] at hk; omega
          have HN : Hid (w4.ownsRow w.heap.size 31 2 v' ([L, l].take (i + 1)).flatten.length (cellsOf ([L, l].take (i + 1)).flatten) ∧ Bel w w4) := Lib.hid ⟨by rw [HNX.out, List.length_append]; exact hown4, hB4⟩
          clear hown4 hgrow hB4
          go_wp2
          go_roundw
          case rel => exact ⟨i + 1, by omega, by go_num, HN⟩
          case measure => simp [intOf]; omega
end Go.Proofs.YtbldidlbhahciaaGreat

namespace Go.Proofs.YtbldidlbhahciaaGreat
open Go.RowKit Go.Shelf Go.Sort Go.Lib

/-- What joined answers to the runs of both. -/
def JoinPost (w : World) (b : Nat) (L l : List Rn) (e : Ending) (w' : World) : Prop :=
  (((L ++ l).Pairwise Apart ∧ ∃ v, e = .returned (.tuple #[v, .bool true]) ∧ w'.ownsRow w.heap.size 31 2 v (addF L l).length (cellsOf (addF L l))) ∨ (¬ (L ++ l).Pairwise Apart ∧ e = .returned (.tuple #[.slice none 0 0, .bool false]))) ∧ Fr (fun k => k = b) w w'
theorem bel_app2 {base : Nat} {w w1 w2 : World} {e size n : Nat} {v : Value} {xs : List Value} (hown : w1.ownsRow base e size v n xs) (hB : Below base w w1) (hg : w1.grownBy w2 v.ownBlock) (hb : base ≤ w1.heap.size) : Below base w w2 := by
  refine Below.grown hB hg hb (fun k hk => ?_)
  rcases hown.2 with ⟨h1, _⟩ | ⟨g, cap, cur, h1, h2, _⟩
  · rw [h1] at hk; simp [Value.ownBlock] at hk
  · rw [h1] at hk; simp [Value.ownBlock] at hk; omega
/-- How far it has come. -/
structure JoinAt (base : Nat) (w1 : World) (zs O : List Rn) (i : Nat) (v : Value) (wr : World) : Prop where
  eq : joinF [] zs = joinF O (zs.drop i)
  ok : Okr 1024 O
  len : O.length ≤ i
  own : wr.ownsRow base 31 2 v O.length (cellsOf O)
  bel : Below base w1 wr
theorem JoinAt.alloc {base : Nat} {w1 wr : World} {zs O : List Rn} {i : Nat} {v : Value} (h : JoinAt base w1 zs O i v wr) (hb : base ≤ wr.heap.size) (o : Obj) : JoinAt base w1 zs O i v (wr.alloc o) :=
  ⟨h.eq, h.ok, h.len, h.own.alloc o, h.bel.alloc hb o⟩
theorem JoinAt.drew {base : Nat} {w1 wr : World} {zs O : List Rn} {i : Nat} {v : Value} (h : JoinAt base w1 zs O i v wr) : JoinAt base w1 zs O i v wr.drew :=
  ⟨h.eq, h.ok, h.len, h.own.drew, h.bel.drew⟩
theorem Fr.then_below {S : Nat → Prop} {w w1 w2 : World} (h : Fr S w w1) (k : Below w.heap.size w1 w2) : Fr S w w2 :=
  ⟨k.os.trans h.os, k.tape.trans h.tape, k.output.trans h.output, Nat.le_trans h.size k.size, fun i hi hn => (k.block i hi).trans (h.block i hi hn)⟩
theorem runsIn_below {base : Nat} {w w' : World} {a : Option Addr} {rs : List Rn} (h : RunsIn w a rs) (k : Below base w w') (hb : ∀ p, a = some p → p.block < base) : RunsIn w' a rs := by
  rcases h with h | ⟨b, o, e, h⟩
  · exact .inl h
  · have := hb _ e
    exact .inr ⟨b, o, e, fun i hi => ⟨(k.cell (p := ⟨b, o + i * 2, none⟩) this).trans (h i hi).1, (k.cell (p := ⟨b, o + i * 2 + 1, none⟩) this).trans (h i hi).2⟩⟩

set_option maxHeartbeats 4000000 in
set_option maxRecDepth 20000 in
theorem runs_joined (b cap : Nat) (L l : List Rn) (w : World) (hL : Canon 1024 L) (hl : AllThere 1024 l) (hl1 : l.length ≤ 1024) (hne : l ≠ []) (base : Nat) (h : w.ownsRow base 31 2 (.slice (some ⟨b, 0, none⟩) (L ++ l).length cap) (L ++ l).length (cellsOf (L ++ l))) :
    Calls Tryz.prog 79 #[.slice (some ⟨b, 0, none⟩) (L ++ l).length cap] w (JoinPost w b L l) := by
  have hLl : L.length ≤ 1024 := hL.len (q := 1024)
  have hok : Okr 1024 (L ++ l) := by
    intro r hr
    rcases List.mem_append.1 hr with hr | hr
    · exact hL.ok r hr
    · have := there_iff.1 (hl r hr); omega
  obtain ⟨zs, hzs⟩ : ∃ zs, L ++ l = zs := ⟨_, rfl⟩
  have hzl : zs.length ≤ 2048 := by rw [← hzs, List.length_append]; omega
  rw [hzs] at h hok ⊢
  obtain ⟨cu, hg1, hsz, htk⟩ : ∃ cu : Array Value, w.heap[b]? = some (.cells cu 31 (0, 0)) ∧ zs.length ≤ cap ∧ cu.toList.take (zs.length * 2) = cellsOf zs := by
    rcases h.2 with ⟨h1, _⟩ | ⟨g, cap', cur, h1, h2, h3, h4, h5, h6, h7⟩
    · simp at h1
    · simp at h1; obtain ⟨rfl, rfl⟩ := h1
      exact ⟨cur, h3, h4, h7⟩
  have hcell : ∀ t, t < zs.length * 2 → w.cell? ⟨b, t, none⟩ = (cellsOf zs)[t]? := fun t ht => by
    rw [blk_cell hg1, ← htk, List.getElem?_take, if_pos ht]
    simp
  have hbw := heap_lt hg1
  have hcon := sort_runs ltS 102 byStart_enters b cap zs w (fun x hx => by have := hok x hx; omega) (by omega) byStart_cmp (fun i hi => ⟨by rw [hcell _ (by omega)]; exact (cellsOf_get zs i hi).1, by rw [hcell _ (by omega)]; exact (cellsOf_get zs i hi).2⟩) (fun i => blk_frozen hg1 i) hbw
  have HC := Lib.hid hcon
  have HOK := Lib.hid hok
  have HJ : Hid (∀ zs', SortedRuns zs zs' → (joinF [] zs' = some (addF L l) ∧ (L ++ l).Pairwise Apart) ∨ (joinF [] zs' = none ∧ ¬ (L ++ l).Pairwise Apart)) := Lib.hid (fun zs' hs => join_add hL hl (by rw [hzs]; exact hs.1) hs.2)
  clear hcon h hcell htk hg1 hsz hok hL hl hzs
  go_enter Tryz.func79, Tryz.ntmps79
  go_wp2_with fail
  refine HC.out.mono ?_
  rintro e w1 ⟨rfl, zs', hs, hr, hF⟩
  have hl' : zs'.length = zs.length := hs.1.length_eq
  have hJ := HJ.out zs' hs
  have HOK' : Hid (Okr 1024 zs') := Lib.hid (fun r hr => HOK.out r (hs.1.mem_iff.1 hr))
  have HR := Lib.hid (RunsIn.of_row hr)
  have HF := Lib.hid hF
  have HJ' := Lib.hid hJ
  have hsw := hF.size
  have hzl' : zs'.length ≤ 2048 := by omega
  rw [← hl']
  clear HC HJ HOK hs hr hF hJ hl' hzl hl1 hne hLl
  go_wp2_with fail
  go_loopw [4, 13] (fun v k wr => ∃ i : Nat, i ≤ zs'.length ∧ k = .int .i64 i ∧ Hid (∃ O, JoinAt w.heap.size w1 zs' O i v wr)) (fun _ k _ => zs'.length - (intOf k).toNat)
  case atStart => exact ⟨0, Nat.zero_le _, rfl, Lib.hid ⟨[], rfl, fun r hr => by simp at hr, Nat.le_refl _, World.ownsRow_nil _ _ _ _, Below.refl _ _⟩⟩
  case round =>
    obtain ⟨i, hi, rfl, HH⟩ := hrel
    obtain ⟨O, HO⟩ := HH.out
    have HO := Lib.hid HO
    clear HH
    have hwr := HO.out.bel.size
    obtain ⟨av, cv, rfl, hrv, _⟩ := own_slice HO.out.own
    by_cases hlt : i < zs'.length
    · obtain ⟨_, _, e9, p0, p1⟩ := (runsIn_below HR.out HO.out.bel (by rintro p ⟨⟩; exact hbw)).at i hlt
      cases e9
      have hdrop : zs'.drop i = zs'[i] :: zs'.drop (i + 1) := List.drop_eq_getElem_cons hlt
      have hxo := HOK'.out _ (List.getElem_mem hlt)
      obtain ⟨x, hx⟩ : ∃ x, zs'[i] = x := ⟨_, rfl⟩
      rw [hx] at p0 p1 hdrop hxo
      obtain ⟨x1, x2⟩ := x
      dsimp only at p0 p1 hxo
      simp only [Nat.zero_add] at p0 p1
      obtain ⟨x0, x0', x0''⟩ := hxo
      have hol := HO.out.len
      clear hx
      rcases List.eq_nil_or_concat O with rfl | ⟨O', y, rfl⟩
      · have HEQ : Hid (joinF [] zs' = joinF [(x1, x2)] (zs'.drop (i + 1))) := Lib.hid (by rw [HO.out.eq, hdrop]; rfl)
        clear hdrop hrv
        go_wp2_with (at_builtin; refine wpList_append_runs rfl _ _ rfl w.heap.size _ [] rfl ((HO.out.own.alloc _).alloc _) _ _ [(x1, x2)] rfl ?d1 ?d2 ?d3 ?d4 ?_)
        case d1 => exact RunsIn.of_row (RdV.newAt _ #[.int .i64 x1, .int .i64 x2] 31 _ (by simp))
        case d2 => rintro ⟨⟩
        case d3 => simp
        case d4 => simp; omega
        intro v' w4 hown4 hgrow
        have hbx := (HO.out.own.alloc (.cells #[.int .i64 x1, .int .i64 x2] 31)).alloc (.cells #[.int .i64 x1, .int .i64 x2] 31)
        have hB4 : Below w.heap.size w1 w4 := bel_app2 hbx ((HO.out.bel.alloc (by omega) _).alloc (by simp; omega) _) hgrow (by simp; omega)
        have HN : Hid (JoinAt w.heap.size w1 zs' [(x1, x2)] (i + 1) v' w4) := Lib.hid ⟨HEQ.out, by intro r hr; simp at hr; subst hr; exact ⟨x0, x0', x0''⟩, by simp, hown4, hB4⟩
        clear hown4 hgrow hB4 hbx
        go_wp2
        go_roundw
        case rel => exact ⟨i + 1, by omega, by go_num, Lib.hid ⟨_, HN.out⟩⟩
        case measure => simp [intOf]; omega
      · rw [List.concat_eq_append] at HO hol hrv ⊢
        obtain ⟨y1, y2⟩ := y
        have hyo := HO.out.ok (y1, y2) (by simp)
        have hown := HO.out.own
        have hll : (O' ++ [(y1, y2)]).length = O'.length + 1 := by simp
        rw [hll] at hown hol
        dsimp only at hyo
        obtain ⟨y0, y0', y0''⟩ := hyo
        obtain ⟨g, cap9, e9, hg, hcap, hcell, hfz, hset⟩ := own_set hown (t := O'.length * 2 + 1) (by omega)
        cases e9
        have hlast := cellsOf_last O' y1 y2
        rw [(hlast 0).2] at hcell
        obtain ⟨_, _, e9, _, _, hcell0, _, _⟩ := own_set hown (t := O'.length * 2) (by omega)
        cases e9
        have hc0 := (cellsOf_get (O' ++ [(y1, y2)]) O'.length (by simp)).1
        rw [List.getElem_append_right (Nat.le_refl _)] at hc0
        simp only [Nat.sub_self, List.getElem_cons_zero] at hc0
        rw [hc0] at hcell0
        have hgl : g < wr.heap.size := World.block_lt_of_cell? wr _ hcell0
        have c4 : IntKind.i64.wrap (y1 + y2) = y1 + y2 := IntWalk.i64_in _ (by omega)
        have c5 : (O'.length : Int) ≤ 4096 := by omega
        have HSET := Lib.hid hset
        have HOW2 : Hid (wr.ownsRow w.heap.size 31 2 (.slice (some ⟨g, 0, none⟩) (O'.length + 1) cv) (O' ++ [(y1, y2)]).length (cellsOf (O' ++ [(y1, y2)]))) := Lib.hid (by rw [hll]; exact hown)
        have HLAST := Lib.hid hlast
        have HDROP := Lib.hid hdrop
        have hOl : O'.length + 1 ≤ 65535 := by omega
        clear hset hlast hrv hown hc0 hdrop
        by_cases d1 : y1 + y2 > x1
        · have HNO : Hid (joinF [] zs' = none) := Lib.hid (by rw [HO.out.eq, HDROP.out, joinF_clash d1])
          go_wp2_with fail
          go_region
          go_wp2
          go_ret2
          rcases HJ'.out with ⟨h1, _⟩ | ⟨_, h1⟩
          · rw [HNO.out] at h1; cases h1
          · exact ⟨.inr ⟨h1, rfl⟩, HF.out.then_below (HO.out.bel.alloc (by omega) _).drew⟩
        by_cases d2 : y1 + y2 = x1
        · have HEQ : Hid (joinF [] zs' = joinF (O' ++ [(y1, y2 + x2)]) (zs'.drop (i + 1))) := Lib.hid (by rw [HO.out.eq, HDROP.out, joinF_touch d2])
          have c6 : IntKind.i64.wrap (y2 + x2) = y2 + x2 := IntWalk.i64_in _ (by omega)
          have HN : Hid (JoinAt w.heap.size w1 zs' (O' ++ [(y1, y2 + x2)]) (i + 1) (.slice (some ⟨g, 0, none⟩) (O'.length + 1) cv) (wr.setCell ⟨g, O'.length * 2 + 1, none⟩ (.int .i64 (y2 + x2)))) := Lib.hid ⟨HEQ.out, by
              intro r hr
              rcases List.mem_append.1 hr with hr | hr
              · exact HO.out.ok r (by simp [hr])
              · simp at hr; subst hr; dsimp only; omega, by simp; omega, by
              have h9 := HSET.out (.int .i64 (y2 + x2))
              rw [(HLAST.out (y2 + x2)).1] at h9
              simpa using h9, Below.setCell HO.out.bel hg _⟩
          have hgne : g ≠ wr.heap.size := by omega
          go_wp2_with fail
          go_region
          go_wp2_with fail
          go_region
          go_wp2
          go_roundw
          case rel => exact ⟨i + 1, by omega, by go_num, Lib.hid ⟨_, ((HN.out.alloc (by have := HN.out.bel.size; omega) _).drew).drew⟩⟩
          case measure => simp [intOf]; omega
        · have HEQ : Hid (joinF [] zs' = joinF (O' ++ [(y1, y2)] ++ [(x1, x2)]) (zs'.drop (i + 1))) := Lib.hid (by rw [HO.out.eq, HDROP.out, joinF_apart (by show y1 + y2 < x1; omega)])
          have d3 : ¬ y1 + y2 = x1 := d2
          go_wp2_with fail
          go_region
          go_wp2_with (at_builtin; refine wpList_append_runs rfl _ _ rfl w.heap.size _ (O' ++ [(y1, y2)]) rfl (((HOW2.out.alloc _).drew).alloc _) _ _ [(x1, x2)] rfl ?d1 ?d2 ?d3 ?d4 ?_)
          case d1 => exact RunsIn.of_row (RdV.newAt _ #[.int .i64 x1, .int .i64 x2] 31 _ (by simp))
          case d2 => rintro ⟨⟩
          case d3 => simp; omega
          case d4 => simp; omega
          intro v' w4 hown4 hgrow
          have hbx := ((HOW2.out.alloc (.cells #[.int .i64 x1, .int .i64 x2] 31)).alloc (.cells #[.int .i64 x1, .int .i64 x2] 31)).drew
          have hB4 : Below w.heap.size w1 w4 := bel_app2 hbx (((HO.out.bel.alloc (by omega) _).alloc (by simp; omega) _).drew) hgrow (by simp; omega)
          have HN : Hid (JoinAt w.heap.size w1 zs' (O' ++ [(y1, y2)] ++ [(x1, x2)]) (i + 1) v' w4) := Lib.hid ⟨HEQ.out, by
              intro r hr
              rcases List.mem_append.1 hr with hr | hr
              · exact HO.out.ok r hr
              · simp at hr; subst hr; exact ⟨x0, x0', x0''⟩, by simp; omega, by simpa using hown4, hB4⟩
          clear hown4 hgrow hB4 hbx
          go_wp2
          go_roundw
          case rel => exact ⟨i + 1, by omega, by go_num, Lib.hid ⟨_, HN.out⟩⟩
          case measure => simp [intOf]; omega
    · obtain rfl : i = zs'.length := by omega
      have HEQ : Hid (joinF [] zs' = some O) := Lib.hid (by rw [HO.out.eq, List.drop_length]; cases O <;> rfl)
      clear hrv
      go_wp2
      go_ret2
      rcases HJ'.out with ⟨h1, h2⟩ | ⟨h1, _⟩
      · rw [HEQ.out] at h1
        obtain rfl := Option.some.inj h1
        exact ⟨.inl ⟨h2, _, rfl, HO.out.own⟩, HF.out.then_below HO.out.bel⟩
      · rw [HEQ.out] at h1; cases h1
end Go.Proofs.YtbldidlbhahciaaGreat
