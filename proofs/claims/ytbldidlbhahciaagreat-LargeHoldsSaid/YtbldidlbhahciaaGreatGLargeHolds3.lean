/- Package runs: Take, Has; nil free runs. Package runs: Cut, Take, Has. slices.Replace of one run by at most two. copy and clear on elements of several cells, told of whole blocks; copy as one step of a region that draws. Package runs: Add, New. -/
import Derived.Test.YtbldidlbhahciaaGreatGLargeHolds2
import Derived.Test.YtbldidlbhahciaaGreatGLargeHolds1
import Derived.Deep.RegionLaw
import Derived.Laws.CopyRow
import Derived.Lib.Overlaps
import Derived.Lib.AppendZerosOnto
import Derived.Laws.Externs
import Derived.Deep.QuietTactic
import Derived.BigQuiet
import Derived.Deep.RegionHeld3
import Derived.Deep.DeepCutAuto
set_option linter.unusedVariables false
set_option linter.unusedSimpArgs false
namespace Go.Proofs.YtbldidlbhahciaaGreat
open Go.RowKit

open Classical in
/-- What Add answers: the runs, the error. -/
noncomputable def addR (L l : List Rn) : List Rn × Int :=
  if ¬ AllThere 1024 l then (L, 2) else if l = [] then (L, 0) else if (L ++ l).Pairwise Apart then (addF L l, 0) else (L, 9)
theorem addR_out {L l : List Rn} (h : ¬ AllThere 1024 l) : addR L l = (L, 2) := by unfold addR; rw [if_pos h]
theorem addR_none {L : List Rn} : addR L [] = (L, 0) := by unfold addR; rw [if_neg (by intro h; exact h (fun r hr => by simp at hr)), if_pos rfl]
theorem addR_ok {L l : List Rn} (h : AllThere 1024 l) (h0 : l ≠ []) (h1 : (L ++ l).Pairwise Apart) : addR L l = (addF L l, 0) := by unfold addR; rw [if_neg (by simpa using h), if_neg h0, if_pos h1]
theorem addR_bad {L l : List Rn} (h : AllThere 1024 l) (h0 : l ≠ []) (h1 : ¬ (L ++ l).Pairwise Apart) : addR L l = (L, 9) := by unfold addR; rw [if_neg (by simpa using h), if_neg h0, if_neg h1]
/-- What an act on free runs leaves. -/
def RPost (w : World) (b : Nat) (v : Value) (L' : List Rn) (w' : World) : Prop := ∃ v', FreeAt w' b v' L' ∧ (∀ k, v'.ownBlock = some k → v.ownBlock = some k ∨ w.heap.size ≤ k) ∧ Fr (footR b v) w w'
theorem RPost.same {w w' : World} {b : Nat} {v : Value} {L : List Rn} (h : FreeAt w b v L) (k : Bel w w') : RPost w b v L w' := ⟨v, h.bel k, fun _ h => .inl h, Fr.of_bel k⟩

open Classical in
set_option maxHeartbeats 1000000 in
set_option maxRecDepth 20000 in
theorem runs_Add (b : Nat) (v : Value) (L : List Rn) (a : Option Addr) (l : List Rn) (n c : Nat) (w : World) (h : FreeAt w b v L) (hn : n = l.length) (hl : l.length ≤ 1024) (hr : RunsIn w a l) (hok : ∀ x ∈ l, I64 x.1 ∧ I64 x.2) :
    Calls Tryz.prog 56 #[.pointer (some ⟨b, 0, none⟩), .slice a n c] w fun e w' => e = .returned (.int .i64 (addR L l).2) ∧ RPost w b v (addR L l).1 w' := by
  subst hn
  have HM := Lib.hid (runs_may a l l.length c w rfl (by omega) hr hok)
  have HF := Lib.hid h
  have HR := Lib.hid hr
  have hLl : L.length ≤ 1024 := h.canon.len (q := 1024)
  clear h hr hok
  by_cases c1 : AllThere 1024 l
  · rw [decide_eq_true c1] at HM
    by_cases c2 : l = []
    · subst c2
      rw [addR_none]
      go_enter Tryz.func56, Tryz.ntmps56
      go_wp2_with fail
      refine HM.out.mono ?_
      rintro e w1 ⟨rfl, hB⟩
      have HB := Lib.hid hB
      clear hB
      go_wp2
      go_ret
      exact ⟨rfl, RPost.same HF.out HB.out⟩
    · have hpos : 0 < l.length := List.length_pos_iff.2 c2
      obtain ⟨ga, oa, rfl, _, _⟩ := HR.out.at 0 hpos
      obtain ⟨aL, cL, rfl, hrL⟩ := HF.out.runs
      have hnL : aL = none → L = [] ∧ cL = 0 := by
        intro e
        subst e
        rcases HF.out.own.2 with ⟨h1, h2⟩ | ⟨g, cap, cur, h1, _⟩
        · simp at h1; exact ⟨h1.1, h1.2⟩
        · simp at h1
      have HNL := Lib.hid hnL
      have HRL := Lib.hid hrL
      have c3 : (l.length == 0) = false := by simp; omega
      have c4 : ((l.length : Int) == 0) = false := by simp; omega
      clear hnL hrL
      go_enter Tryz.func56, Tryz.ntmps56
      go_wp2_with fail
      refine HM.out.mono ?_
      rintro e w1 ⟨rfl, hB⟩
      have hc1 := (HF.out.bel hB).hd
      have hc : w1.cell? ⟨b, 0, none⟩ = some (.slice aL L.length cL) := by rw [blk_cell hc1]; rfl
      have HB := Lib.hid hB
      have hbl := heap_lt hc1
      clear hB hc1
      have g2 := blk_alloc w1 (.cells #[.slice aL L.length cL, .slice (some ⟨ga, oa, none⟩) l.length c] 64)
      have HCC := Lib.hid (concat_runs w1.heap.size aL (some ⟨ga, oa, none⟩) L l cL c (w1.alloc (.cells #[.slice aL L.length cL, .slice (some ⟨ga, oa, none⟩) l.length c] 64)) ⟨blk_cell g2 0, blk_cell g2 1, HRL.out.bel (HB.out.alloc _), HR.out.bel (HB.out.alloc _), HNL.out, by rintro ⟨⟩⟩ hLl hl)
      clear g2
      go_wp2_with fail
      refine HCC.out.mono ?_
      rintro e w2 ⟨v2, rfl, hown2, hB2⟩
      have hLl0 : 0 < (L ++ l).length := by rw [List.length_append]; omega
      obtain ⟨g, cap, rfl, hgb, hglt⟩ : ∃ g cap, v2 = .slice (some ⟨g, 0, none⟩) (L ++ l).length cap ∧ (w1.alloc (.cells #[.slice aL L.length cL, .slice (some ⟨ga, oa, none⟩) l.length c] 64)).heap.size ≤ g ∧ g < w2.heap.size := by
        rcases hown2.2 with ⟨h1, h2⟩ | ⟨g, cap, cur, h1, h2, h3, _⟩
        · exact absurd h2 (by omega)
        · exact ⟨g, cap, h1, h2, heap_lt h3⟩
      rw [World.size_alloc] at hgb
      have hj := runs_joined g cap L l w2 HF.out.canon c1 hl c2 _ hown2
      rw [List.length_append] at hj
      have HJ := Lib.hid hj
      clear hj
      have HB2 := Lib.hid ((HB.out.alloc (.cells #[.slice aL L.length cL, .slice (some ⟨ga, oa, none⟩) l.length c] 64)).trans hB2)
      have hs2 := HB.out.size
      have hbw := heap_lt HF.out.hd
      have hs3 := HB2.out.size
      clear hown2 hB2 HCC hc
      go_wp2_with fail
      refine HJ.out.mono ?_
      rintro e w3 ⟨⟨hap, v3, rfl, hown3⟩ | ⟨hno, rfl⟩, hF3⟩
      · obtain ⟨a3, c3', rfl, _⟩ := own_slice hown3
        have hB3 : Bel w w3 := Fr.bel ((Fr.of_bel (S := fun k => k = g) HB2.out).trans' hF3) (fun k e => by omega)
        have hg3 := (HF.out.bel hB3).hd
        have hc3 : w3.cell? ⟨b, 0, none⟩ = some (.slice aL L.length cL) := by rw [blk_cell hg3]; rfl
        have hf3 := blk_frozen hg3 0
        have hv3 : ∀ k, (Value.slice a3 (addF L l).length c3').ownBlock = some k → w2.heap.size ≤ k := fun k hk => by
          rcases hown3.2 with ⟨h1, _⟩ | ⟨g', cap', cur, h1, h2, _⟩
          · rw [h1] at hk; simp [Value.ownBlock] at hk
          · rw [h1] at hk; simp [Value.ownBlock] at hk; omega
        have HEND : Hid (RPost w b (.slice aL L.length cL) (addF L l) (w3.setCell ⟨b, 0, none⟩ (.slice a3 (addF L l).length c3'))) := Lib.hid ⟨.slice a3 (addF L l).length c3', ⟨by
            have := blk_setCell hg3 0 (.slice a3 (addF L l).length c3')
            simpa using this, own_base (own_fr hown3 (Fr.setCell (S := fun k => k = b) (Fr.refl _ _) (.inl rfl) _) (fun k _ hk => by have := hv3 k hk; omega)) (Nat.zero_le _), addF_canon _ _⟩, fun k hk => .inr (by have := hv3 k hk; omega), (Fr.of_bel hB3).setCell (.inl (.inl rfl)) _⟩
        have hA := addR_ok (L := L) c1 c2 hap
        have HA := Lib.hid hA
        clear hown3 hF3 hB3 hg3 hv3 hap hA
        go_wp2
        go_ret
        exact ⟨by rw [HA.out]; rfl, by rw [HA.out]; exact HEND.out⟩
      · have hB3 : Bel w w3 := Fr.bel ((Fr.of_bel (S := fun k => k = g) HB2.out).trans' hF3) (fun k e => by omega)
        have HA := Lib.hid (addR_bad c1 c2 hno)
        have HB3 := Lib.hid hB3
        clear hF3 hB3 hno
        go_wp2
        go_ret
        exact ⟨by rw [HA.out]; rfl, by rw [HA.out]; exact RPost.same HF.out HB3.out⟩
  · rw [addR_out c1]
    rw [decide_eq_false c1] at HM
    go_enter Tryz.func56, Tryz.ntmps56
    go_wp2_with fail
    refine HM.out.mono ?_
    rintro e w1 ⟨rfl, hB⟩
    have HB := Lib.hid hB
    clear hB
    go_wp2
    go_ret
    exact ⟨rfl, RPost.same HF.out HB.out⟩
open Classical in
/-- What Add answers at nil. -/
noncomputable def nilR (l : List Rn) : Int := if ¬ AllThere 1024 l then 2 else if l = [] then 0 else 9
open Classical in
set_option maxRecDepth 20000 in
theorem runs_Add_nil (a : Option Addr) (l : List Rn) (n c : Nat) (w : World) (hn : n = l.length) (hl : l.length ≤ 1024) (hr : RunsIn w a l) (hok : ∀ x ∈ l, I64 x.1 ∧ I64 x.2) :
    Calls Tryz.prog 56 #[.pointer none, .slice a n c] w fun e w' => e = .returned (.int .i64 (nilR l)) ∧ Bel w w' := by
  subst hn
  have HM := Lib.hid (runs_may a l l.length c w rfl (by omega) hr hok)
  clear hr hok
  by_cases c1 : AllThere 1024 l
  · rw [decide_eq_true c1] at HM
    by_cases c2 : l = []
    · subst c2
      have HE : Hid (nilR [] = 0) := Lib.hid (by unfold nilR; rw [if_neg (by simpa using c1), if_pos rfl])
      go_enter Tryz.func56, Tryz.ntmps56
      go_wp2_with fail
      refine HM.out.mono ?_
      rintro e w1 ⟨rfl, hB⟩
      have HB := Lib.hid hB
      clear hB
      go_wp2
      go_ret
      exact ⟨by rw [HE.out]; rfl, HB.out⟩
    · have hpos : 0 < l.length := List.length_pos_iff.2 c2
      have c4 : ((l.length : Int) == 0) = false := by simp; omega
      have HE : Hid (nilR l = 9) := Lib.hid (by unfold nilR; rw [if_neg (by simpa using c1), if_neg c2])
      clear c1 c2
      go_enter Tryz.func56, Tryz.ntmps56
      go_wp2_with fail
      refine HM.out.mono ?_
      rintro e w1 ⟨rfl, hB⟩
      have HB := Lib.hid hB
      clear hB
      go_wp2
      go_ret
      exact ⟨by rw [HE.out]; rfl, HB.out⟩
  · rw [decide_eq_false c1] at HM
    have HE : Hid (nilR l = 2) := Lib.hid (by unfold nilR; rw [if_pos c1])
    clear c1
    go_enter Tryz.func56, Tryz.ntmps56
    go_wp2_with fail
    refine HM.out.mono ?_
    rintro e w1 ⟨rfl, hB⟩
    have HB := Lib.hid hB
    clear hB
    go_wp2
    go_ret
    exact ⟨by rw [HE.out]; rfl, HB.out⟩
/-- What New answers. -/
def NewR (w : World) (l : List Rn) (e : Ending) (w' : World) : Prop :=
  ∃ p, e = .returned (.tuple #[p, .int .i64 (addR [] l).2]) ∧ Bel w w' ∧
    (((addR [] l).2 ≠ 0 ∧ p = .pointer none) ∨ ((addR [] l).2 = 0 ∧ ∃ v, p = .pointer (some ⟨w.heap.size, 0, none⟩) ∧ FreeAt w' w.heap.size v (addR [] l).1 ∧ ∀ k, v.ownBlock = some k → w.heap.size ≤ k))
set_option maxRecDepth 20000 in
theorem runs_New (a : Option Addr) (l : List Rn) (n c : Nat) (w : World) (hn : n = l.length) (hl : l.length ≤ 1024) (hr : RunsIn w a l) (hok : ∀ x ∈ l, I64 x.1 ∧ I64 x.2) :
    Calls Tryz.prog 28 #[.slice a n c] w (NewR w l) := by
  subst hn
  have hF : FreeAt (w.alloc (.cells #[.slice none 0 0] 110)) w.heap.size (.slice none 0 0) [] := ⟨blk_alloc _ _, World.ownsRow_nil _ _ _ _, Canon.nil _⟩
  have HA := Lib.hid (runs_Add w.heap.size (.slice none 0 0) [] a l l.length c _ hF rfl hl (hr.bel ((Bel.refl _).alloc _)) hok)
  clear hr hok hF
  obtain ⟨r, hR⟩ : ∃ r, addR [] l = r := ⟨_, rfl⟩
  have HR := Lib.hid hR
  rw [hR] at HA
  obtain ⟨M, k⟩ := r
  clear hR
  dsimp only at HA
  go_enter Tryz.func28, Tryz.ntmps28
  go_wp2_with fail
  refine HA.out.mono ?_
  rintro e w1 ⟨rfl, v, hF, hv, hFr⟩
  have hB : Bel w w1 := Fr.bel ((Fr.of_bel (S := footR w.heap.size (.slice none 0 0)) ((Bel.refl w).alloc _)).trans' hFr) (fun k hk => by
    rcases hk with rfl | hk
    · exact Nat.le_refl _
    · simp [Value.ownBlock] at hk)
  have HB := Lib.hid hB
  have HF := Lib.hid hF
  have HV : Hid (∀ k, v.ownBlock = some k → w.heap.size ≤ k) := Lib.hid (fun k hk => by
    rcases hv k hk with h | h
    · simp [Value.ownBlock] at h
    · rw [World.size_alloc] at h; omega)
  clear hB hF hv hFr
  by_cases c1 : k = 0
  · subst c1
    go_wp2
    go_ret2
    exact ⟨_, by rw [HR.out]; rfl, HB.out, .inr ⟨by rw [HR.out], v, rfl, by rw [HR.out]; exact HF.out, HV.out⟩⟩
  · have c2 : (k != 0) = true := by simpa using c1
    go_wp2
    go_ret2
    exact ⟨_, by rw [HR.out]; rfl, HB.out, .inl ⟨by rw [HR.out]; exact c1, rfl⟩⟩
end Go.Proofs.YtbldidlbhahciaaGreat

namespace Go.Proofs.YtbldidlbhahciaaGreat
open Go.RowKit

theorem take_splice {α : Type} (l : List α) (o : Nat) (xs : List α) (N : Nat) (h : o + xs.length ≤ N) (h2 : N ≤ l.length) : (splice l o xs).take N = splice (l.take N) o xs := by
  apply List.ext_getElem?
  intro j
  rw [List.getElem?_take, splice_get l o xs (by omega), splice_get (l.take N) o xs (by simp; omega), List.getElem?_take]
  by_cases h1 : j < N
  · rw [if_pos h1, if_pos h1]
  · rw [if_neg h1, if_neg h1, if_neg (by omega)]
theorem splice_out {α : Type} (l : List α) (o : Nat) (xs : List α) (N : Nat) (h : N ≤ o) (h2 : o + xs.length ≤ l.length) : (splice l o xs).take N = l.take N := by
  apply List.ext_getElem?
  intro j
  rw [List.getElem?_take, List.getElem?_take]
  by_cases h1 : j < N
  · rw [if_pos h1, if_pos h1, splice_get l o xs h2, if_neg (by omega)]
  · rw [if_neg h1, if_neg h1]

theorem splice_end {α : Type} (l : List α) (o : Nat) (xs : List α) (N : Nat) (h : o ≤ l.length) (hN : N = o + xs.length) : (splice l o xs).take N = l.take o ++ xs := by
  subst hN
  unfold splice
  exact List.take_left' (by simp; omega)
/-- copy into a block, from cells that are read: elements of K cells. -/
theorem copy_blkK {W : World} {dT sT ty elem : TypeId} {K g o n dl sl dc sc : Nat} {a : Option Addr} {cur : List Value} {T : Nat} {vs : List Value}
    (hu : Tryz.prog.underlying dT = some (.slice elem)) (hs : (Tryz.prog.info? elem).map (·.size) = some K) (hg : W.heap[g]? = some (.cells cur.toArray T (0, 0)))
    (hm : Nat.min sl dl = n) (hrd : RdV W a vs) (hn : vs.length = n * K) (hfit : o + n * K ≤ cur.length) (h1 : ∀ v ∈ vs, v.oneCell' = true) (h0 : 0 < n) (hK : 0 < K) :
    ∃ W1, (Builtin.copy_ #[dT, sT] ty #[.slice (some ⟨g, o, none⟩) dl dc, .slice a sl sc]).run Tryz.prog W = .ok (.int .i64 n) W1 ∧
      W1.heap[g]? = some (.cells (splice cur o vs).toArray T (0, 0)) ∧ Fr (fun k => k = g) W W1 ∧ W1.heap.size = W.heap.size := by
  have hpos : 0 < n * K := Nat.mul_pos h0 hK
  rcases hrd with h | ⟨b, p, rfl, hc⟩
  · subst h; simp at hn; omega
  · have hsrc : ∀ j v, vs[j]? = some v → W.cell? ((⟨b, p, none⟩ : Addr).add j) = some v := fun j v hv => by
      obtain ⟨hj, rfl⟩ := List.getElem?_eq_some_iff.1 hv
      rw [addr_add]; exact hc j hj
    have hl := run_loadCells_list (P := Tryz.prog) W ⟨b, p, none⟩ vs hsrc
    have hst := run_storeCells_at Tryz.prog g o T vs 0 cur.toArray W hg (by simpa [hn] using hfit) h1
    have e2 : cur.toArray.toList = cur := by simp
    rw [e2] at hst
    cases hq : Tryz.prog.info? elem with
    | none => simp [hq] at hs
    | some i =>
      have hi : i.size = K := by simpa [hq] using hs
      rw [hn] at hl
      refine ⟨W.setRow g (splice cur o vs).toArray, ?_, setRow_heap W g cur.toArray _ T _ hg, fr_setRow _, by simp [World.setRow]⟩
      simp [Builtin.copy_, run_underlying hu, Builtin.lenOf, Builtin.firstCells, sizeOf, typeInfo, hq, hi, hm, hl, hst, splice, goInt]
/-- copy of nothing. -/
theorem copy_zeroK {W : World} {dT sT ty elem : TypeId} {K : Nat} {d a : Option Addr} {dl sl dc sc : Nat}
    (hu : Tryz.prog.underlying dT = some (.slice elem)) (hs : (Tryz.prog.info? elem).map (·.size) = some K) (hm : Nat.min sl dl = 0) :
    (Builtin.copy_ #[dT, sT] ty #[.slice d dl dc, .slice a sl sc]).run Tryz.prog W = .ok (.int .i64 0) W := by
  cases hq : Tryz.prog.info? elem with
  | none => simp [hq] at hs
  | some i =>
    cases a with
    | none => cases d <;> simp [Builtin.copy_, run_underlying hu, Builtin.lenOf, Builtin.firstCells, sizeOf, typeInfo, hq, hm, storeCells, goInt]
    | some a =>
      have hl := run_loadCells_list (P := Tryz.prog) W a [] (by simp)
      simp only [List.length_nil] at hl
      cases d <;> simp [Builtin.copy_, run_underlying hu, Builtin.lenOf, Builtin.firstCells, sizeOf, typeInfo, hq, hm, hl, storeCells, goInt]
/-- clear of a run of a block: elements of K cells. -/
theorem clear_blkK {W : World} {t ty elem : TypeId} {K g o n dc : Nat} {cur : List Value} {T : Nat} {z : Value}
    (hu : Tryz.prog.underlying t = some (.slice elem)) (hv : ∀ w, (zeroValue elem).run Tryz.prog w = .ok z w) (hz : z.cells.size = K) (h1 : ∀ v ∈ z.cells.toList, v.oneCell' = true)
    (hg : W.heap[g]? = some (.cells cur.toArray T (0, 0))) (hfit : o + n * K ≤ cur.length) (h0 : 0 < n) :
    ∃ W1 zs, (Builtin.clear_ #[t] ty #[.slice (some ⟨g, o, none⟩) n dc]).run Tryz.prog W = .ok (.tuple #[]) W1 ∧ zs.length = n * K ∧
      W1.heap[g]? = some (.cells (splice cur o zs).toArray T (0, 0)) ∧ Fr (fun k => k = g) W W1 ∧ W1.heap.size = W.heap.size := by
  have hl : (Builtin.zeroCells z.cells n).toList.length = n * K := by rw [Array.length_toList, size_zeroCells, hz]
  have hone : ∀ v ∈ (Builtin.zeroCells z.cells n).toList, v.oneCell' = true := by
    intro v hv'
    simp only [Builtin.zeroCells, Array.toList_map, List.mem_map, Array.toList_range, List.mem_range] at hv'
    obtain ⟨i, hi, rfl⟩ := hv'
    have h9 : 0 < z.cells.size := by
      rcases Nat.eq_zero_or_pos z.cells.size with h | h
      · rw [h] at hi; simp at hi
      · exact h
    have h8 : i % z.cells.size < z.cells.size := Nat.mod_lt _ h9
    simp only [h8, getElem!_pos]
    exact h1 _ (by simp)
  have hst := run_storeCells_at Tryz.prog g o T (Builtin.zeroCells z.cells n).toList 0 cur.toArray W hg (by rw [hl]; simpa using hfit) hone
  have e2 : cur.toArray.toList = cur := by simp
  simp only [Nat.add_zero, e2] at hst
  refine ⟨W.setRow g (splice cur o (Builtin.zeroCells z.cells n).toList).toArray, _, ?_, hl, setRow_heap W g cur.toArray _ T _ hg, fr_setRow _, by simp [World.setRow]⟩
  obtain ⟨m, rfl⟩ : ∃ m, n = m + 1 := ⟨n - 1, by omega⟩
  simp only [Builtin.clear_]
  simp [run_underlying hu, hv, hst, splice]
theorem clear_zeroK {W : World} {t ty elem : TypeId} {z : Value} {a : Option Addr} {dc : Nat}
    (hu : Tryz.prog.underlying t = some (.slice elem)) (hv : ∀ w, (zeroValue elem).run Tryz.prog w = .ok z w) :
    (Builtin.clear_ #[t] ty #[.slice a 0 dc]).run Tryz.prog W = .ok (.tuple #[]) W := by
  cases a <;> simp [Builtin.clear_, run_underlying hu, hv, Builtin.zeroCells, storeCells]

/-- copy as one step of a region that draws, its run being known. -/
theorem step_copy {ops : Array Oper} {o : Oper} {a : Act} {w : World} {K : Act → World → Prop} {Q : Exit → Act → World → Prop} {E : Prop}
    (hg : o.guard = none) (d x : Operand) (dT sT : TypeId) (hop : o.op = Op.call { callee := Callee.builtin Builtin.copy, args := #[d, x], argTypes := #[dT, sT] })
    (v u : Value) (hd : a.eval d = v) (hx : a.eval x = u) {v' : Value} {w' : World} (hr : (Builtin.copy_ #[dT, sT] o.type #[v, u]).run Tryz.prog w = .ok v' w') (hK : K (a.put o.dst v') w') :
    if Region.wanted o (yielded ops a.tmps) = true then Oper.wp Tryz.prog o a w K Q else E := by
  have hw : Region.wanted o (yielded ops a.tmps) = true := by simp [Region.wanted, hg]
  rw [if_pos hw]
  unfold Oper.wp
  simp [execOp, hop, resolve, invoke, builtin, hd, hx, hr, Result.andThen]
  exact hK
end Go.Proofs.YtbldidlbhahciaaGreat

namespace Go.Proofs.YtbldidlbhahciaaGreat
open Go.RowKit Go.Lib

theorem cellsOf_cons (x : Rn) (L : List Rn) : cellsOf (x :: L) = [.int .i64 x.1, .int .i64 x.2] ++ cellsOf L := by simp [cellsOf, rnCells]
theorem cellsOf_take : ∀ (L : List Rn) (i : Nat), (cellsOf L).take (i * 2) = cellsOf (L.take i)
  | [], i => by simp [cellsOf]
  | x :: L, 0 => by simp [cellsOf]
  | x :: L, i + 1 => by
    rw [List.take_succ_cons, cellsOf_cons, cellsOf_cons, ← cellsOf_take L i, show (i + 1) * 2 = i * 2 + 2 by omega]
    rfl
theorem cellsOf_drop : ∀ (L : List Rn) (i : Nat), (cellsOf L).drop (i * 2) = cellsOf (L.drop i)
  | [], i => by simp [cellsOf]
  | x :: L, 0 => by simp [cellsOf]
  | x :: L, i + 1 => by
    rw [List.drop_succ_cons, cellsOf_cons, ← cellsOf_drop L i, show (i + 1) * 2 = i * 2 + 2 by omega]
    rfl
/-- With one run replaced. -/
def replF (L : List Rn) (i : Nat) (R : List Rn) : List Rn := L.take i ++ R ++ L.drop (i + 1)
theorem replF_length {L : List Rn} {i : Nat} {R : List Rn} (h : i < L.length) : (replF L i R).length = L.length - 1 + R.length := by unfold replF; simp; omega
theorem cellsOf_replF (L : List Rn) (i : Nat) (R : List Rn) : cellsOf (replF L i R) = (cellsOf L).take (i * 2) ++ cellsOf R ++ (cellsOf L).drop ((i + 1) * 2) := by
  unfold replF; rw [cellsOf_append, cellsOf_append, cellsOf_take, cellsOf_drop]
/-- What is left by Replace. -/
def ReplPost (w : World) (g : Nat) (L' : List Rn) (e : Ending) (w' : World) : Prop :=
  ∃ v, e = .returned v ∧ w'.ownsRow 0 31 2 v L'.length (cellsOf L') ∧ (∀ k, v.ownBlock = some k → k = g ∨ w.heap.size ≤ k) ∧ Fr (fun k => k = g) w w'
/-- A block of runs. -/
structure RunBlk (w : World) (g cap : Nat) (L : List Rn) (cur : List Value) : Prop where
  blk : w.heap[g]? = some (.cells cur.toArray 31 (0, 0))
  len : L.length ≤ cap
  max : cap ≤ maxLen
  size : cur.length = cap * 2
  cells : cur.take (L.length * 2) = cellsOf L
theorem RunBlk.of_own {w : World} {base g cap : Nat} {L : List Rn} (h : w.ownsRow base 31 2 (.slice (some ⟨g, 0, none⟩) L.length cap) L.length (cellsOf L)) : ∃ cur, RunBlk w g cap L cur := by
  rcases h.2 with ⟨h1, _⟩ | ⟨g', cap', cur, h1, h2, h3, h4, h5, h6, h7⟩
  · simp at h1
  · simp at h1; obtain ⟨rfl, rfl⟩ := h1
    exact ⟨cur.toList, by simpa using h3, h4, h5, by simpa using h6, h7⟩
theorem RunBlk.own {w : World} {g cap : Nat} {L : List Rn} {cur : List Value} (h : RunBlk w g cap L cur) : w.ownsRow 0 31 2 (.slice (some ⟨g, 0, none⟩) L.length cap) L.length (cellsOf L) :=
  ⟨cellsOf_length L, .inr ⟨g, cap, cur.toArray, rfl, Nat.zero_le _, h.blk, h.len, h.max, by simpa using h.size, by simpa using h.cells⟩⟩
theorem RunBlk.cut {w : World} {g cap : Nat} {L : List Rn} {cur : List Value} (h : RunBlk w g cap L cur) (i : Nat) (hi : i ≤ L.length) : RunBlk w g cap (L.take i) cur :=
  ⟨h.blk, by have := h.len; simp; omega, h.max, h.size, by
    rw [List.length_take, Nat.min_eq_left hi, ← cellsOf_take, ← h.cells, List.take_take, Nat.min_eq_left (by omega)]⟩

set_option maxRecDepth 20000 in
theorem replace_end (g cap : Nat) (L : List Rn) (i : Nat) (cur : List Value) (a : Option Addr) (R : List Rn) (c : Nat) (w : World) (h : RunBlk w g cap L cur) (hi : i + 1 = L.length) (hl : L.length ≤ 1024) (hr : RunsIn w a R) (hR : R.length ≤ 2) (h0 : R ≠ []) :
    Calls Tryz.prog 106 #[.slice (some ⟨g, 0, none⟩) L.length cap, .int .i64 i, .int .i64 ((i : Int) + 1), .slice a R.length c] w (ReplPost w g (replF L i R)) := by
  have hc := h.len
  have hmx := h.max
  unfold maxLen at hmx
  have hpos : 0 < R.length := List.length_pos_iff.2 h0
  obtain ⟨ga, oa, rfl, _, _⟩ := hr.at 0 hpos
  obtain ⟨i0, hi0, hz0, hz1, hz2⟩ := info_parts info_run
  have e1 : ((i : Int) == (i : Int) + 1) = false := by simp; omega
  have e2 : ((i : Int) + 1 == (L.length : Int)) = true := by simp; omega
  have e3 : ((i : Int) + 1).toNat = i + 1 := by omega
  have hcut := (h.cut i (by omega)).own
  have hrep : replF L i R = L.take i ++ R := by unfold replF; rw [List.drop_eq_nil_of_le (by omega), List.append_nil]
  have htl : (L.take i).length = i := by simp; omega
  obtain ⟨T, hT⟩ : ∃ T, L.take i = T := ⟨_, rfl⟩
  rw [hT] at hcut hrep htl
  have hcl := cellsOf_length T
  rw [htl] at hcut
  have HREP := Lib.hid hrep
  have HOW := Lib.hid hcut
  have HT := Lib.hid htl
  rw [htl] at hcl
  have HNEW := Lib.hid (runsIn_cells hr)
  have HONE := Lib.hid (cellsOf_one R)
  have hnl := cellsOf_length R
  have e4 : ¬ ((i + R.length : Nat) : Int) < (L.length : Int) := by omega
  have e5 : ¬ (i : Int) + (R.length : Int) < (L.length : Int) := by omega
  clear hcut hrep hr h hT htl h0
  by_cases hfit : i + R.length ≤ cap
  · go_enter Tryz.func106, Tryz.ntmps106
    go_wp2_with (at_builtin; refine wpList_append_fits _ rfl _ _ 64 rfl 0 31 i0 2 Tryz.underlying64 hi0 hz1 g i cap (cellsOf T) rfl HOW.out ⟨ga, oa, none⟩ R.length c (cellsOf R) rfl hnl HNEW.out HONE.out hfit ?_)
    intro w4 hown4 hgrow
    have HN : Hid (ReplPost w g (replF L i R) (.returned (.slice (some ⟨g, 0, none⟩) (i + R.length) cap)) w4) := Lib.hid ⟨_, rfl, by rw [HREP.out, List.length_append, cellsOf_append, HT.out]; exact hown4, fun k hk => .inl (by simpa [Value.ownBlock] using hk.symm), fr_grown hgrow⟩
    clear hown4 hgrow
    go_wp2
    go_ret
    exact HN.out
  · have HRD : Hid (RdV w (some ⟨g, 0, none⟩) (cellsOf T)) := Lib.hid (by
      obtain ⟨a9, c9, e9, hr9, _⟩ := own_slice HOW.out
      cases e9; exact hr9)
    go_enter Tryz.func106, Tryz.ntmps106
    go_wp2_with (at_builtin; refine wpList_append_grows _ rfl _ _ 64 rfl 31 i0 (.agg #[.int .i64 0, .int .i64 0]) 2 16 Tryz.underlying64 hi0 hz0 hz1 hz2 rfl (by decide) (some ⟨g, 0, none⟩) i cap (cellsOf T) rfl ?h1 hcl ?h2 ⟨ga, oa, none⟩ R.length c (cellsOf R) rfl hnl HNEW.out HONE.out ?h3 ?h4 ?h5 ?_)
    try (case h1 => rintro ⟨⟩)
    case h2 => intro j u hj; have h9 := RdV.cells HRD.out j u hj; rw [addr_add, Nat.zero_add] at h9; exact h9
    case h3 => omega
    case h4 => unfold maxLen; omega
    case h5 => omega
    intro v' w4 hown4 hgrow
    have hv : ∀ k, v'.ownBlock = some k → w.heap.size ≤ k := fun k hk => by
      rcases hown4.2 with ⟨h1, _⟩ | ⟨g', cap', cur, h1, h2, _⟩
      · rw [h1] at hk; simp [Value.ownBlock] at hk
      · rw [h1] at hk; simp [Value.ownBlock] at hk; omega
    obtain ⟨av, cv, rfl, _⟩ := own_slice hown4
    have HN : Hid (ReplPost w g (replF L i R) (.returned (.slice av (i + R.length) cv)) w4) := Lib.hid ⟨_, rfl, by rw [HREP.out, List.length_append, cellsOf_append, HT.out]; exact own_base hown4 (Nat.zero_le _), fun k hk => .inr (hv k hk), Fr.of_bel (bel_grown hgrow)⟩
    clear hown4 hgrow hv
    go_wp2
    go_ret
    exact HN.out
/-- The library's clear, its run being known. -/
theorem zero_run (w : World) : (zeroValue 31).run Tryz.prog w = .ok (.agg #[.int .i64 0, .int .i64 0]) w := by kernel_rfl
theorem size_run : (Tryz.prog.info? 31).map (·.size) = some 2 := by kernel_rfl
set_option maxRecDepth 20000 in
theorem replace_end0 (g cap : Nat) (L : List Rn) (i : Nat) (cur : List Value) (w : World) (h : RunBlk w g cap L cur) (hi : i + 1 = L.length) (hl : L.length ≤ 1024) :
    Calls Tryz.prog 106 #[.slice (some ⟨g, 0, none⟩) L.length cap, .int .i64 i, .int .i64 ((i : Int) + 1), .slice none 0 0] w (ReplPost w g (replF L i [])) := by
  have hc := h.len
  have hmx := h.max
  unfold maxLen at hmx
  obtain ⟨i0, hi0, hz0, hz1, hz2⟩ := info_parts info_run
  have e1 : ((i : Int) == (i : Int) + 1) = false := by simp; omega
  have e2 : ((i : Int) + 1 == (L.length : Int)) = true := by simp; omega
  have e3 : ((i : Int) + 1).toNat = i + 1 := by omega
  have e4 : (i : Int) < (L.length : Int) := by omega
  have hcutb := h.cut i (by omega)
  have hcut := hcutb.own
  have hrep : replF L i [] = L.take i := by unfold replF; rw [List.drop_eq_nil_of_le (by omega), List.append_nil, List.append_nil]
  have htl : (L.take i).length = i := by simp; omega
  obtain ⟨T, hT⟩ : ∃ T, L.take i = T := ⟨_, rfl⟩
  rw [hT] at hcut hrep htl hcutb
  rw [htl] at hcut
  obtain ⟨w4, zs, hclr, hzl, hg4, hF4, _⟩ := clear_blkK (W := w) (t := 64) (ty := 0) (K := 2) (g := g) (o := i * 2) (n := L.length - i) (dc := cap - i) Tryz.underlying64 zero_run rfl (by intro v hv; simp [Value.cells] at hv; rcases hv with rfl | rfl <;> rfl) h.blk (by rw [h.size]; omega) (by omega)
  have hsz := h.size
  have hN : ReplPost w g (replF L i []) (.returned (.slice (some ⟨g, 0, none⟩) i cap)) w4 := ⟨_, rfl, by
    rw [hrep, htl]
    have h9 : RunBlk w4 g cap T (splice cur (i * 2) zs) := ⟨hg4, hcutb.len, hcutb.max, by rw [splice_length _ _ _ (by omega)]; exact hsz, by
      rw [htl, splice_out _ _ _ _ (Nat.le_refl _) (by omega)]
      have := hcutb.cells
      rw [htl] at this; exact this⟩
    have := h9.own
    rw [htl] at this; exact this, fun k hk => .inl (by simpa [Value.ownBlock] using hk.symm), hF4⟩
  have HOW := Lib.hid hcut
  have HN := Lib.hid hN
  clear hcut hcutb hrep h hT hg4 hF4 hN
  have e9 : ¬ cap = i := by omega
  go_enter Tryz.func106, Tryz.ntmps106
  go_wp2_with (at_builtin; refine wpList_append_own_none rfl _ _ 64 rfl 0 31 i0 2 Tryz.underlying64 hi0 _ i (cellsOf T) rfl HOW.out rfl ?_)
  go_wp2
  go_ret
  exact HN.out
theorem RunBlk.bel {w w' : World} {g cap : Nat} {L : List Rn} {cur : List Value} (h : RunBlk w g cap L cur) (k : Bel w w') : RunBlk w' g cap L cur :=
  ⟨(k.block g (heap_lt h.blk)).trans h.blk, h.len, h.max, h.size, h.cells⟩
/-- The cells from a run on. -/
theorem RunBlk.from {w : World} {g cap : Nat} {L : List Rn} {cur : List Value} (h : RunBlk w g cap L cur) (i : Nat) : RdV w (some ⟨g, i * 2, none⟩) (cellsOf (L.drop i)) := by
  refine .inr ⟨g, i * 2, rfl, fun j hj => ?_⟩
  have hlen := cellsOf_length (L.drop i)
  rw [List.length_drop] at hlen
  have hc := h.len
  have hs := h.size
  rw [blk_cell h.blk]
  have h1 : (cellsOf (L.drop i))[j]? = cur[i * 2 + j]? := by
    rw [← cellsOf_drop, ← h.cells, List.getElem?_drop, List.getElem?_take, if_pos (by omega)]
  rw [List.getElem?_eq_getElem hj] at h1
  rw [h1]; simp
set_option maxHeartbeats 1000000 in
set_option maxRecDepth 20000 in
theorem replace_mid0 (g cap : Nat) (L : List Rn) (i m : Nat) (cur : List Value) (w : World) (h : RunBlk w g cap L cur) (hi : L.length = i + 1 + m) (hm : 0 < m) (hl : L.length ≤ 1024) :
    Calls Tryz.prog 106 #[.slice (some ⟨g, 0, none⟩) (i + 1 + m) cap, .int .i64 i, .int .i64 ((i : Int) + 1), .slice none 0 0] w (ReplPost w g (replF L i [])) := by
  have hc := h.len
  have hmx := h.max
  unfold maxLen at hmx
  rw [hi] at hc hl
  have e1 : ((i : Int) == (i : Int) + 1) = false := by simp; omega
  have e2 : ((i : Int) + 1 == (((i + 1 + m : Nat)) : Int)) = false := by simp; omega
  have e2' : ((i : Int) + 1 == (i : Int) + 1 + (m : Int)) = false := by simp; omega
  have e3 : ((i : Int) + 1).toNat = i + 1 := by omega
  have hcp0 : ∀ W d dl dc, (Builtin.copy_ #[64, 64] 3 #[.slice d dl dc, .slice none 0 0]).run Tryz.prog W = .ok (.int .i64 0) W := fun W d dl dc => copy_zeroK Tryz.underlying64 size_run (by simp)
  have HB := Lib.hid h
  clear h
  go_enter Tryz.func106, Tryz.ntmps106
  go_wp2_with fail
  go_quiet (fail)
  go_wp2_with fail
  have HB1 := Lib.hid (HB.out.bel (Bel.drewN (Bel.refl w) nq))
  have HBB := Lib.hid (Bel.drewN (Bel.refl w) nq)
  generalize w.drewN nq = w1 at HB1 HBB ⊢
  have e6 : IntKind.i64.wrap (i : Int) = i := IntWalk.i64_in _ (by omega)
  have e7 : ¬ cap = i := by omega
  have e8 : ¬ cap = i + 1 := by omega
  have e9 : i + m - i = m := by omega
  have e10 : i + 1 + m - (i + 1) = m := by omega
  have e11 : (i : Int) ≤ (i : Int) + m := by omega
  have e12 : (i : Int) + 1 ≤ (i : Int) + 1 + m := by omega
  have e13 : (0 : Int) ≤ (i : Int) + 1 := by omega
  have e14 : i + 1 + m - (i + m) = 1 := by omega
  have e15 : ¬ cap = i + m := by omega
  have e16 : (i : Int) + m ≤ (i : Int) + 1 + m := by omega
  have e17 : (0 : Int) ≤ (i : Int) + m := by omega
  have e18 : ((i : Int) + m).toNat = i + m := by omega
  have hlr : (cellsOf (L.drop (i + 1))).length = m * 2 := by rw [cellsOf_length, List.length_drop]; omega
  have hsz := HB.out.size
  obtain ⟨w2, hcp, hg2, hF2, hs2⟩ := copy_blkK (W := w1.drew) (dT := 64) (sT := 64) (ty := 3) (K := 2) (g := g) (o := i * 2) (n := m) (dl := m) (sl := m) (dc := cap - i) (sc := cap - (i + 1)) Tryz.underlying64 size_run (HB1.out.bel (Bel.refl _).drew).blk (Nat.min_self m) ((HB1.out.bel (Bel.refl _).drew).from (i + 1)) hlr (by omega) (cellsOf_one _) hm (by omega)
  obtain ⟨w3, zs, hclr, hzl, hg3, hF3, _⟩ := clear_blkK (W := w2) (t := 64) (ty := 0) (K := 2) (g := g) (o := (i + m) * 2) (n := 1) (dc := cap - (i + m)) Tryz.underlying64 zero_run rfl (by intro v hv; simp [Value.cells] at hv; rcases hv with rfl | rfl <;> rfl) hg2 (by rw [splice_length _ _ _ (by omega)]; omega) (by decide)
  have hN : ReplPost w g (replF L i []) (.returned (.slice (some ⟨g, 0, none⟩) (i + m) cap)) w3 := by
    have hrl : (replF L i []).length = i + m := by rw [replF_length (by omega), hi]; simp only [List.length_nil]; omega
    refine ⟨_, rfl, ?_, fun k hk => .inl (by simpa [Value.ownBlock] using hk.symm), ((Fr.of_bel HBB.out.drew).trans' hF2).trans' hF3⟩
    have h9 : RunBlk w3 g cap (replF L i []) (splice (splice cur (i * 2) (cellsOf (L.drop (i + 1)))) ((i + m) * 2) zs) := ⟨hg3, by omega, HB.out.max, by
      rw [splice_length _ _ _ (by rw [splice_length _ _ _ (by omega)]; omega), splice_length _ _ _ (by omega)]; exact hsz, by
      rw [hrl, splice_out _ _ _ _ (Nat.le_refl _) (by rw [splice_length _ _ _ (by omega)]; omega), cellsOf_replF]
      rw [splice_end _ _ _ _ (by omega) (by omega), cellsOf_drop, ← HB.out.cells, List.take_take, Nat.min_eq_left (by omega)]
      simp [cellsOf]⟩
    have := h9.own
    rw [hrl] at this; rw [hrl]; exact this
  have HN := Lib.hid hN
  clear hN hg2 hF2 hg3 hF3 hs2
  go_region
  go_wp2
  go_ret
  exact HN.out
set_option maxHeartbeats 1000000 in
set_option maxRecDepth 20000 in
theorem replace_mid1 (g cap : Nat) (L : List Rn) (i m : Nat) (cur : List Value) (ga oa c : Nat) (x : Rn) (w : World) (h : RunBlk w g cap L cur) (hi : L.length = i + 1 + m) (hm : 0 < m) (hl : L.length ≤ 1024) (hr : RunsIn w (some ⟨ga, oa, none⟩) [x]) :
    Calls Tryz.prog 106 #[.slice (some ⟨g, 0, none⟩) (i + 1 + m) cap, .int .i64 i, .int .i64 ((i : Int) + 1), .slice (some ⟨ga, oa, none⟩) 1 c] w (ReplPost w g (replF L i [x])) := by
  have hc := h.len
  have hmx := h.max
  unfold maxLen at hmx
  rw [hi] at hc hl
  have e1 : ((i : Int) == (i : Int) + 1) = false := by simp; omega
  have e2 : ((i : Int) + 1 == (((i + 1 + m : Nat)) : Int)) = false := by simp; omega
  have e2' : ((i : Int) + 1 == (i : Int) + 1 + (m : Int)) = false := by simp; omega
  have e3 : ((i : Int) + 1).toNat = i + 1 := by omega
  have e6 : IntKind.i64.wrap (i : Int) = i := IntWalk.i64_in _ (by omega)
  have e7 : ¬ cap = i := by omega
  have e8 : ¬ cap = i + 1 := by omega
  have e9 : i + 1 + m - i = 1 + m := by omega
  have e10 : i + 1 + m - (i + 1) = m := by omega
  have e11 : (i : Int) ≤ (i : Int) + 1 + m := by omega
  have e12 : (i : Int) + 1 ≤ (i : Int) + 1 + m := by omega
  have e13 : (0 : Int) ≤ (i : Int) + 1 := by omega
  have e17 : (0 : Int) ≤ (i : Int) + 1 + m := by omega
  have e18 : ((i : Int) + 1 + m).toNat = i + 1 + m := by omega
  have e19 : ¬ (cap : Int) < (i : Int) + 1 + m := by omega
  have hclr : ∀ W a dc, (Builtin.clear_ #[64] 0 #[.slice a 0 dc]).run Tryz.prog W = .ok (.tuple #[]) W := fun W a dc => clear_zeroK Tryz.underlying64 zero_run
  have hc1 : (cellsOf [x]).length = 1 * 2 := rfl
  have HB := Lib.hid h
  have HR := Lib.hid hr
  have hsz := h.size
  have hlr : (cellsOf (L.drop (i + 1))).length = m * 2 := by rw [cellsOf_length, List.length_drop]; omega
  have hcellsL := h.cells
  clear h hr
  go_enter Tryz.func106, Tryz.ntmps106
  go_wp2_with fail
  go_quiet (fail)
  have HB1 := Lib.hid (HB.out.bel (Bel.drewN (Bel.refl w) nq))
  have HR1 := Lib.hid (HR.out.bel (Bel.drewN (Bel.refl w) nq))
  have HBB := Lib.hid (Bel.drewN (Bel.refl w) nq)
  generalize w.drewN nq = w1 at HB1 HR1 HBB ⊢
  obtain ⟨w2, hcp, hg2, hF2, hs2⟩ := copy_blkK (W := w1) (dT := 64) (sT := 64) (ty := 3) (K := 2) (g := g) (o := i * 2) (n := 1) (dl := 1 + m) (sl := 1) (dc := cap - i) (sc := c) Tryz.underlying64 size_run HB1.out.blk (Nat.min_eq_left (by omega)) (.inr ⟨ga, oa, rfl, fun j hj => by
    have := runsIn_cells HR1.out j _ (List.getElem?_eq_getElem hj)
    rwa [addr_add] at this⟩ : RdV w1 (some ⟨ga, oa, none⟩) (cellsOf [x])) hc1 (by omega) (cellsOf_one _) (by decide) (by decide)
  have hsl : (splice cur (i * 2) (cellsOf [x])).length = cur.length := splice_length _ _ _ (by omega)
  have hrd2 : RdV w2.drew (some ⟨g, (i + 1) * 2, none⟩) (cellsOf (L.drop (i + 1))) := by
    refine .inr ⟨g, (i + 1) * 2, rfl, fun j hj => ?_⟩
    rw [blk_cell (w := w2.drew) hg2, List.getElem?_toArray, splice_get _ _ _ (by omega), if_neg (by omega)]
    have h1 : (cellsOf (L.drop (i + 1)))[j]? = cur[(i + 1) * 2 + j]? := by
      rw [← cellsOf_drop, ← hcellsL, List.getElem?_drop, List.getElem?_take, if_pos (by omega)]
    rw [← h1, List.getElem?_eq_getElem hj]
  obtain ⟨w3, hcp2, hg3, hF3, hs3⟩ := copy_blkK (W := w2.drew) (dT := 64) (sT := 64) (ty := 3) (K := 2) (g := g) (o := (i + 1) * 2) (n := m) (dl := m) (sl := m) (dc := cap - (i + 1)) (sc := cap - (i + 1)) Tryz.underlying64 size_run (show w2.drew.heap[g]? = _ from hg2) (Nat.min_self m) hrd2 hlr (by omega) (cellsOf_one _) hm (by decide)
  have hN : ReplPost w g (replF L i [x]) (.returned (.slice (some ⟨g, 0, none⟩) (i + 1 + m) cap)) w3 := by
    have hrl : (replF L i [x]).length = i + 1 + m := by rw [replF_length (by omega), hi]; simp only [List.length_singleton]; omega
    refine ⟨_, rfl, ?_, fun k hk => .inl (by simpa [Value.ownBlock] using hk.symm), ((Fr.of_bel HBB.out).trans' hF2).drew.trans' hF3⟩
    have h9 : RunBlk w3 g cap (replF L i [x]) (splice (splice cur (i * 2) (cellsOf [x])) ((i + 1) * 2) (cellsOf (L.drop (i + 1)))) := ⟨hg3, by omega, HB.out.max, by
      rw [splice_length _ _ _ (by omega), hsl]; exact hsz, by
      rw [hrl, splice_end _ _ _ _ (by omega) (by omega), splice_end _ _ _ _ (by omega) (by omega), cellsOf_replF, cellsOf_drop, ← hcellsL, List.take_take, Nat.min_eq_left (by omega)]⟩
    have := h9.own
    rw [hrl] at this; rw [hrl]; exact this
  have HN := Lib.hid hN
  clear hN hg2 hF2 hg3 hF3 hs2 hs3 hrd2 hsl
  go_wp2_with fail
  go_region
  go_wp2
  all_goals
    go_ret
    first | exact HN.out | (subst_vars; exact HN.out)
theorem blk_shape {w : World} {b : Nat} {cs : Array Value} {T : Nat} {fz : Nat × Nat} (h : w.heap[b]? = some (.cells cs T fz)) : w.shape? b = some (T, cs.size) := by
  simp [World.shape?, h]
/-- The library's overlaps at two blocks. -/
theorem overlaps_apart (w : World) (g o la ca gb lb cb : Nat) (cs ds : Array Value) (hne : g ≠ gb) (hg : w.heap[g]? = some (.cells cs 31 (0, 0))) (hb : w.heap[gb]? = some (.cells ds 31 (0, 0))) (h0 : ds.size ≠ 0) :
    (callFunc 126 #[.slice (some ⟨g, o, none⟩) la ca, .slice (some ⟨gb, 0, none⟩) lb cb]).run Tryz.prog w = .ok (.value (.bool false)) w := by
  rw [run_callFunc_extern Tryz.func126 (by kernel_rfl) (by kernel_rfl) (by kernel_rfl) (e := Extern.SlicesOverlaps.overlaps #[64, 64] #[4]) (by kernel_rfl),
    Lib.run_overlaps_apart w 64 4 31 Tryz.underlying64 2 Tryz.sizeOf31 ⟨g, o, none⟩ ⟨gb, 0, none⟩ la ca lb cb hne _ _ _ _ (blk_shape hg) (blk_shape hb) h0 (blk_frozen hg _) (blk_frozen hg _)]
  rfl
set_option maxHeartbeats 1000000 in
set_option maxRecDepth 20000 in
theorem replace_mid2 (g cap : Nat) (L : List Rn) (i m : Nat) (cur : List Value) (ga c : Nat) (x y : Rn) (w : World) (h : RunBlk w g cap L cur) (hi : L.length = i + 1 + m) (hm : 0 < m) (hl : L.length ≤ 1024) (cR : List Value) (hR : RunBlk w ga c [x, y] cR) (hne : g ≠ ga) (hroom : i + 2 + m ≤ cap) :
    Calls Tryz.prog 106 #[.slice (some ⟨g, 0, none⟩) (i + 1 + m) cap, .int .i64 i, .int .i64 ((i : Int) + 1), .slice (some ⟨ga, 0, none⟩) 2 c] w (ReplPost w g (replF L i [x, y])) := by
  have hc := h.len
  have hmx := h.max
  unfold maxLen at hmx
  rw [hi] at hc hl
  have e1 : ((i : Int) == (i : Int) + 1) = false := by simp; omega
  have e2 : ((i : Int) + 1 == (((i + 1 + m : Nat)) : Int)) = false := by simp; omega
  have e2' : ((i : Int) + 1 == (i : Int) + 1 + (m : Int)) = false := by simp; omega
  have e3 : ((i : Int) + 1).toNat = i + 1 := by omega
  have e3' : ((i : Int) + 2).toNat = i + 2 := by omega
  have e6 : IntKind.i64.wrap ((i : Int) + 2) = (i : Int) + 2 := IntWalk.i64_in _ (by omega)
  have e7 : ¬ cap = i := by omega
  have e8 : ¬ cap = i + 1 := by omega
  have e8' : ¬ cap = i + 2 := by omega
  have e9 : i + 2 + m - i = 2 + m := by omega
  have e10 : i + 1 + m - (i + 1) = m := by omega
  have e10' : i + 2 + m - (i + 2) = m := by omega
  have e11 : (i : Int) ≤ (i : Int) + 2 + m := by omega
  have e12 : (i : Int) + 1 ≤ (i : Int) + 1 + m := by omega
  have e12' : (i : Int) + 2 ≤ (i : Int) + 2 + m := by omega
  have e13 : (0 : Int) ≤ (i : Int) + 1 := by omega
  have e13' : (0 : Int) ≤ (i : Int) + 2 := by omega
  have e17 : (0 : Int) ≤ (i : Int) + 2 + m := by omega
  have e18 : ((i : Int) + 2 + m).toNat = i + 2 + m := by omega
  have e19 : ¬ (cap : Int) < (i : Int) + 2 + m := by omega
  have e20 : ¬ (i : Int) + 2 ≤ (i : Int) + 1 := by omega
  have hc1 : (cellsOf [x, y]).length = 2 * 2 := rfl
  have HB := Lib.hid h
  have HR := Lib.hid hR
  have hsz := h.size
  have hlr : (cellsOf (L.drop (i + 1))).length = m * 2 := by rw [cellsOf_length, List.length_drop]; omega
  have hcellsL := h.cells
  clear h hR
  go_enter Tryz.func106, Tryz.ntmps106
  go_wp2_with fail
  go_quiet (fail)
  have HB1 := Lib.hid (HB.out.bel (Bel.drewN (Bel.refl w) nq))
  have HR1 := Lib.hid (HR.out.bel (Bel.drewN (Bel.refl w) nq))
  have HBB := Lib.hid (Bel.drewN (Bel.refl w) nq)
  generalize w.drewN nq = w1 at HB1 HR1 HBB ⊢
  have hov := overlaps_apart w1 g ((i + 2) * 2) m (cap - (i + 2)) ga 2 c _ _ hne HB1.out.blk HR1.out.blk (by have h8 := HR1.out.size; have h9 : 2 ≤ c := HR1.out.len; rw [List.size_toArray]; omega)
  obtain ⟨w2, hcp, hg2, hF2, hs2⟩ := copy_blkK (W := w1.drew) (dT := 64) (sT := 64) (ty := 3) (K := 2) (g := g) (o := (i + 2) * 2) (n := m) (dl := m) (sl := m) (dc := cap - (i + 2)) (sc := cap - (i + 1)) Tryz.underlying64 size_run (HB1.out.bel (Bel.refl _).drew).blk (Nat.min_self m) ((HB1.out.bel (Bel.refl _).drew).from (i + 1)) hlr (by omega) (cellsOf_one _) hm (by decide)
  have hsl : (splice cur ((i + 2) * 2) (cellsOf (L.drop (i + 1)))).length = cur.length := splice_length _ _ _ (by omega)
  have hrd2 : RdV w2 (some ⟨ga, 0, none⟩) (cellsOf [x, y]) := by
    obtain ⟨a9, c9, e9, hr9, _⟩ := own_slice HR1.out.own
    cases e9
    exact (hr9.bel (Bel.refl _).drew).fr hF2 (by rintro p ⟨⟩ h9; exact hne h9.symm)
  obtain ⟨w3, hcp2, hg3, hF3, hs3⟩ := copy_blkK (W := w2) (dT := 64) (sT := 64) (ty := 3) (K := 2) (g := g) (o := i * 2) (n := 2) (dl := 2 + m) (sl := 2) (dc := cap - i) (sc := c) Tryz.underlying64 size_run hg2 (Nat.min_eq_left (by omega)) hrd2 hc1 (by omega) (cellsOf_one _) (by decide) (by decide)
  have hN : ReplPost w g (replF L i [x, y]) (.returned (.slice (some ⟨g, 0, none⟩) (i + 2 + m) cap)) w3 := by
    have hrl : (replF L i [x, y]).length = i + 2 + m := by rw [replF_length (by omega), hi]; simp only [List.length_cons, List.length_nil]; omega
    refine ⟨_, rfl, ?_, fun k hk => .inl (by simpa [Value.ownBlock] using hk.symm), ((Fr.of_bel HBB.out.drew).trans' hF2).trans' hF3⟩
    have h9 : RunBlk w3 g cap (replF L i [x, y]) (splice (splice cur ((i + 2) * 2) (cellsOf (L.drop (i + 1)))) (i * 2) (cellsOf [x, y])) := ⟨hg3, by omega, HB.out.max, by
      rw [splice_length _ _ _ (by omega), hsl]; exact hsz, by
      rw [hrl, take_splice _ _ _ _ (by omega) (by omega), splice_end _ _ _ _ (by omega) (by omega), cellsOf_replF]
      have hA : (cur.take ((i + 2) * 2)).length = (i + 2) * 2 := by simp; omega
      unfold splice
      rw [List.take_append_of_le_length (by omega), List.take_take, Nat.min_eq_left (by omega), hc1, show i * 2 + 2 * 2 = (i + 2) * 2 by omega, List.drop_left' hA, cellsOf_drop, ← hcellsL, List.take_take, Nat.min_eq_left (by omega)]⟩
    have := h9.own
    rw [hrl] at this; rw [hrl]; exact this
  have HN := Lib.hid hN
  clear hN hg2 hF2 hg3 hF3 hs2 hs3 hrd2 hsl
  go_wp2_with fail
  go_region
  go_wp2
  all_goals
    go_ret
    first | exact HN.out | (subst_vars; exact HN.out)
set_option maxHeartbeats 1000000 in
set_option maxRecDepth 20000 in
theorem replace_mid3 (g cap : Nat) (L : List Rn) (i m : Nat) (cur : List Value) (ga c : Nat) (x y : Rn) (w : World) (h : RunBlk w g cap L cur) (hi : L.length = i + 1 + m) (hm : 0 < m) (hl : L.length ≤ 1024) (cR : List Value) (hR : RunBlk w ga c [x, y] cR) (hroom : cap < i + 2 + m) :
    Calls Tryz.prog 106 #[.slice (some ⟨g, 0, none⟩) (i + 1 + m) cap, .int .i64 i, .int .i64 ((i : Int) + 1), .slice (some ⟨ga, 0, none⟩) 2 c] w (ReplPost w g (replF L i [x, y])) := by
  have hc := h.len
  obtain ⟨i0, hi0, hz0, hz1, hz2⟩ := info_parts info_run
  rw [hi] at hc hl
  obtain rfl : cap = i + 1 + m := by omega
  have e1 : ((i : Int) == (i : Int) + 1) = false := by simp; omega
  have e2 : ((i : Int) + 1 == (((i + 1 + m : Nat)) : Int)) = false := by simp; omega
  have e2' : ((i : Int) + 1 == (i : Int) + 1 + (m : Int)) = false := by simp; omega
  have e3 : ((i : Int) + 1).toNat = i + 1 := by omega
  have e3' : ((i : Int) + 2).toNat = i + 2 := by omega
  have e6 : IntKind.i64.wrap ((i : Int) + 2) = (i : Int) + 2 := IntWalk.i64_in _ (by omega)
  have e7 : ¬ i + 1 + m = i := by omega
  have e8 : ¬ i + 1 + m = i + 1 := by omega
  have e10 : i + 1 + m - (i + 1) = m := by omega
  have e12 : (i : Int) + 1 ≤ (i : Int) + 1 + m := by omega
  have e13 : (0 : Int) ≤ (i : Int) + 1 := by omega
  have e13' : (0 : Int) ≤ (i : Int) + 2 := by omega
  have e17 : (0 : Int) ≤ (i : Int) + 2 + m := by omega
  have e19 : (i : Int) + 1 + m < (i : Int) + 2 + m := by omega
  have e21 : (i : Int) + 2 + m - i = ((2 + m : Nat) : Int) := by omega
  have e22 : IntKind.i64.wrap ((2 + m : Nat) : Int) = ((2 + m : Nat) : Int) := IntWalk.i64_in _ (by omega)
  have hc1 : (cellsOf [x, y]).length = 2 * 2 := rfl
  have HB := Lib.hid h
  have HR := Lib.hid hR
  have hsz := h.size
  have hlr : (cellsOf (L.drop (i + 1))).length = m * 2 := by rw [cellsOf_length, List.length_drop]; omega
  have hcellsL := h.cells
  clear h hR
  go_enter Tryz.func106, Tryz.ntmps106
  go_wp2_with fail
  go_quiet (fail)
  have HB1 := Lib.hid (HB.out.bel (Bel.drewN (Bel.refl w) nq))
  have HR1 := Lib.hid (HR.out.bel (Bel.drewN (Bel.refl w) nq))
  have HBB := Lib.hid (Bel.drewN (Bel.refl w) nq)
  generalize w.drewN nq = w1 at HB1 HR1 HBB ⊢
  have hol : (Builtin.firstCells i0.size i (.slice (some ⟨g, 0, none⟩) i (i + 1 + m))).run Tryz.prog w1.drew = .ok ((cellsOf L).take (i * 2)).toArray w1.drew := by
    rw [hz1]
    refine run_firstCells_some w1.drew 2 i ⟨g, 0, none⟩ i (i + 1 + m) _ (by rw [List.length_take, cellsOf_length]; omega) (fun j u hj => ?_)
    rw [addr_add, Nat.zero_add, blk_cell (w := w1.drew) HB1.out.blk, List.getElem?_toArray]
    rw [List.getElem?_take] at hj
    split at hj
    · rw [← hcellsL, List.getElem?_take] at hj
      split at hj
      · exact hj
      · cases hj
    · cases hj
  have hrun : ∀ ty, (Builtin.append_ #[64, 3] ty #[.slice (some ⟨g, 0, none⟩) i (i + 1 + m), .int .i64 ((2 + m : Nat) : Int)]).run Tryz.prog w1 = _ := fun ty =>
    run_append_grow_zeros w1 64 3 ty 31 i0 (.agg #[.int .i64 0, .int .i64 0]) .i64 .i64 Tryz.underlying64 Tryz.underlying3 hi0 hz0 (some ⟨g, 0, none⟩) i (i + 1 + m) _ hol (2 + m) (by omega) (by omega) (by omega) (by omega) (by rw [hz2]; omega) (by
      rw [hz2]
      have := nextslicecap_le (need := i + (2 + m)) (old := i + 1 + m) (by omega)
      omega)
  have hge := grownCap_ge w1 (i + (2 + m)) (i + 1 + m) 31
  have hle := grownCap_le_maxLen w1 (i + (2 + m)) (i + 1 + m) 31 (by unfold maxLen; omega)
  generalize grownCap w1 (i + (2 + m)) (i + 1 + m) 31 = G at hrun hge hle
  have hz2' : (Value.agg #[.int .i64 0, .int .i64 0]).cells.size = 2 := rfl
  obtain ⟨N0, hN0, hNl, hNt⟩ : ∃ N0 : List Value, ((cellsOf L).take (i * 2)).toArray ++ Builtin.zeroCells (Value.agg #[.int .i64 0, .int .i64 0]).cells (2 + m) ++ Builtin.zeroCells (Value.agg #[.int .i64 0, .int .i64 0]).cells (G - (i + (2 + m))) = N0.toArray ∧ N0.length = G * 2 ∧ N0.take (i * 2) = (cellsOf L).take (i * 2) := by
    refine ⟨(((cellsOf L).take (i * 2)).toArray ++ Builtin.zeroCells (Value.agg #[.int .i64 0, .int .i64 0]).cells (2 + m) ++ Builtin.zeroCells (Value.agg #[.int .i64 0, .int .i64 0]).cells (G - (i + (2 + m)))).toList, by simp, ?_, ?_⟩
    · rw [Array.length_toList, Array.size_append, Array.size_append, size_zeroCells, size_zeroCells, hz2', List.size_toArray, List.length_take, cellsOf_length]; omega
    · rw [Array.toList_append, Array.toList_append, List.append_assoc]
      exact List.take_left' (by rw [List.length_take, cellsOf_length]; omega)
  rw [hN0] at hrun
  have hsz1 : w1.drew.heap.size = w1.heap.size := rfl
  have hgl : g < w1.heap.size := heap_lt HB1.out.blk
  have hgal : ga < w1.heap.size := heap_lt HR1.out.blk
  obtain ⟨w3, hw3⟩ : ∃ w3, w1.drew.alloc (.cells N0.toArray 31) = w3 := ⟨_, rfl⟩
  have hB3 : Bel w1 w3 := by rw [← hw3]; exact (Bel.refl w1).drew.alloc _
  have hng : w3.heap[w1.heap.size]? = some (.cells N0.toArray 31 (0, 0)) := by rw [← hw3]; exact blk_alloc w1.drew _
  rw [hw3] at hrun
  have hrR : RdV w3 (some ⟨ga, 0, none⟩) (cellsOf [x, y]) := by
    obtain ⟨a9, c9, e9, hr9, _⟩ := own_slice HR1.out.own
    cases e9
    exact hr9.bel hB3
  obtain ⟨w4, hcp, hg4, hF4, hs4⟩ := copy_blkK (W := w3) (dT := 64) (sT := 64) (ty := 3) (K := 2) (g := w1.heap.size) (o := i * 2) (n := 2) (dl := 2 + m) (sl := 2) (dc := G - i) (sc := c) Tryz.underlying64 size_run hng (Nat.min_eq_left (by omega)) hrR hc1 (by omega) (cellsOf_one _) (by decide) (by decide)
  have hsl : (splice N0 (i * 2) (cellsOf [x, y])).length = N0.length := splice_length _ _ _ (by omega)
  have hB4 : Bel w1 w4.drew := (Fr.bel ((Fr.of_bel (S := fun k => k = w1.heap.size) hB3).trans' hF4) (fun k e => by omega)).drew
  obtain ⟨w5, hcp2, hg5, hF5, hs5⟩ := copy_blkK (W := w4.drew) (dT := 64) (sT := 64) (ty := 3) (K := 2) (g := w1.heap.size) (o := (i + 2) * 2) (n := m) (dl := m) (sl := m) (dc := G - (i + 2)) (sc := m) Tryz.underlying64 size_run (show w4.drew.heap[w1.heap.size]? = _ from hg4) (Nat.min_self m) ((HB1.out.bel hB4).from (i + 1)) hlr (by omega) (cellsOf_one _) hm (by decide)
  have hN : ReplPost w g (replF L i [x, y]) (.returned (.slice (some ⟨w1.heap.size, 0, none⟩) (i + (2 + m)) G)) w5 := by
    have hrl : (replF L i [x, y]).length = i + (2 + m) := by rw [replF_length (by omega), hi]; simp only [List.length_cons, List.length_nil]; omega
    have hB5 : Bel w w5 := HBB.out.trans (Fr.bel ((Fr.of_bel (S := fun k => k = w1.heap.size) hB4).trans' hF5) (fun k e => by omega))
    refine ⟨_, rfl, ?_, fun k hk => .inr (by have h8 := HBB.out.size; simp [Value.ownBlock] at hk; omega), Fr.of_bel hB5⟩
    have h9 : RunBlk w5 w1.heap.size G (replF L i [x, y]) (splice (splice N0 (i * 2) (cellsOf [x, y])) ((i + 2) * 2) (cellsOf (L.drop (i + 1)))) := ⟨hg5, by omega, hle, by
      rw [splice_length _ _ _ (by omega), hsl, hNl], by
      rw [hrl, splice_end _ _ _ _ (by omega) (by omega), splice_end _ _ _ _ (by omega) (by omega), hNt, cellsOf_replF, cellsOf_drop]⟩
    have := h9.own
    rw [hrl] at this; rw [hrl]; exact this
  have HN := Lib.hid hN
  have HRUN := Lib.hid hrun
  have f1 : ¬ G = i := by omega
  have f2 : ¬ G = i + 2 := by omega
  have f3 : i + (2 + m) - (i + 2) = m := by omega
  have f4 : (i : Int) ≤ (i : Int) + (2 + (m : Int)) := by omega
  have f5 : (i : Int) + 2 ≤ (i : Int) + (2 + (m : Int)) := by omega
  clear hN hg4 hF4 hg5 hF5 hs4 hs5 hsl hB4 hrR hng hB3 hw3 hrun hol hNt hNl hN0
  go_wp2_with (at_builtin; refine wpList_append_run _ rfl _ _ _ _ rfl _ _ rfl rfl _ _ (HRUN.out _) ?_)
  go_region
  go_wp2
  go_ret
  exact HN.out
/-- Replace of one run by at most two others, which are one's own. -/
theorem replace_runs (v : Value) (L : List Rn) (i : Nat) (vR : Value) (R : List Rn) (w : World) (hi : i < L.length) (hl : L.length ≤ 1024) (hown : w.ownsRow 0 31 2 v L.length (cellsOf L)) (hR : w.ownsRow 0 31 2 vR R.length (cellsOf R))
    (hRl : R.length ≤ 2) (hne : ∀ k, v.ownBlock = some k → vR.ownBlock ≠ some k) (hnil : R = [] → vR = .slice none 0 0) :
    Calls Tryz.prog 106 #[v, .int .i64 i, .int .i64 ((i : Int) + 1), vR] w fun e w' =>
      ∃ v', e = .returned v' ∧ w'.ownsRow 0 31 2 v' (replF L i R).length (cellsOf (replF L i R)) ∧ (∀ k, v'.ownBlock = some k → v.ownBlock = some k ∨ w.heap.size ≤ k) ∧ Fr (fun k => v.ownBlock = some k) w w' := by
  obtain ⟨g, cap, rfl⟩ : ∃ g cap, v = .slice (some ⟨g, 0, none⟩) L.length cap := by
    rcases hown.2 with ⟨_, h2⟩ | ⟨g, cap, cur, h1, _⟩
    · omega
    · exact ⟨g, cap, h1⟩
  obtain ⟨cur, hB⟩ := RunBlk.of_own hown
  have key : ∀ e w', ReplPost w g (replF L i R) e w' → ∃ v', e = .returned v' ∧ w'.ownsRow 0 31 2 v' (replF L i R).length (cellsOf (replF L i R)) ∧ (∀ k, v'.ownBlock = some k → (Value.slice (some ⟨g, 0, none⟩) L.length cap).ownBlock = some k ∨ w.heap.size ≤ k) ∧ Fr (fun k => (Value.slice (some ⟨g, 0, none⟩) L.length cap).ownBlock = some k) w w' := by
    rintro e w' ⟨v', h1, h2, h3, h4⟩
    exact ⟨v', h1, h2, fun k hk => by rcases h3 k hk with h | h; exact .inl (by rw [h]; rfl); exact .inr h, h4.mono (fun k h => by rw [h]; rfl)⟩
  have hRr : R ≠ [] → ∃ gr cr, vR = .slice (some ⟨gr, 0, none⟩) R.length cr ∧ g ≠ gr := by
    intro h0
    rcases hR.2 with ⟨_, h2⟩ | ⟨g', cap', cur', h1, _⟩
    · exact (h0 (List.eq_nil_of_length_eq_zero h2)).elim
    · exact ⟨g', cap', h1, fun h => hne g rfl (by rw [h1, h]; rfl)⟩
  by_cases hend : i + 1 = L.length
  · by_cases h0 : R = []
    · subst h0
      obtain rfl := hnil rfl
      exact (replace_end0 g cap L i cur w hB hend hl).mono key
    · obtain ⟨gr, cr, rfl, hg⟩ := hRr h0
      obtain ⟨a9, c9, e9, hr9, _⟩ := own_slice hR
      cases e9
      exact (replace_end g cap L i cur _ R cr w hB hend hl (RunsIn.of_row hr9) hRl h0).mono key
  · obtain ⟨m, hm⟩ : ∃ m, L.length = i + 1 + m := ⟨L.length - (i + 1), by omega⟩
    have hm0 : 0 < m := by omega
    have ea : (Value.slice (some ⟨g, 0, none⟩) L.length cap) = .slice (some ⟨g, 0, none⟩) (i + 1 + m) cap := by rw [hm]
    by_cases h0 : R = []
    · subst h0
      obtain rfl := hnil rfl
      have := replace_mid0 g cap L i m cur w hB hm hm0 hl
      rw [← ea] at this
      exact this.mono key
    · obtain ⟨gr, cr, rfl, hg⟩ := hRr h0
      obtain ⟨x, hx⟩ | ⟨x, y, hx⟩ : (∃ x, R = [x]) ∨ ∃ x y, R = [x, y] := by
        match R, h0, hRl with
        | [x], _, _ => exact .inl ⟨x, rfl⟩
        | [x, y], _, _ => exact .inr ⟨x, y, rfl⟩
      · subst hx
        obtain ⟨a9, c9, e9, hr9, _⟩ := own_slice hR
        cases e9
        have := replace_mid1 g cap L i m cur gr 0 cr x w hB hm hm0 hl (RunsIn.of_row hr9)
        rw [← ea] at this
        exact this.mono key
      · subst hx
        obtain ⟨cuR, hBR⟩ := RunBlk.of_own (L := [x, y]) hR
        by_cases hroom : i + 2 + m ≤ cap
        · have := replace_mid2 g cap L i m cur gr cr x y w hB hm hm0 hl cuR hBR hg hroom
          rw [← ea] at this
          exact this.mono key
        · have := replace_mid3 g cap L i m cur gr cr x y w hB hm hm0 hl cuR hBR (by omega)
          rw [← ea] at this
          exact this.mono key
end Go.Proofs.YtbldidlbhahciaaGreat

namespace Go.Proofs.YtbldidlbhahciaaGreat
open Go.RowKit

theorem idxF_or {α : Type} (p : α → Bool) (xs : List α) : (∃ i, ∃ h : i < xs.length, idxF p xs = (i : Int) ∧ p xs[i] = true) ∨ (idxF p xs = -1 ∧ ∀ y ∈ xs, p y = false) := by
  unfold idxF
  cases h : xs.findIdx? p with
  | some i => obtain ⟨hi, hp, _⟩ := List.findIdx?_eq_some_iff_getElem.1 h; exact .inl ⟨i, hi, rfl, hp⟩
  | none => exact .inr ⟨rfl, List.findIdx?_eq_none_iff.1 h⟩
theorem restF_filter (y x : Rn) : ([(y.1, x.1 - y.1), (x.1 + x.2, y.1 + y.2 - x.1 - x.2)] : List Rn).filter (fun z => decide (0 < z.2)) = restF y x := by
  unfold restF
  rw [List.filter_cons, List.filter_cons, List.filter_nil]
  dsimp only
  by_cases ha : 0 < x.1 - y.1 <;> by_cases hb : 0 < y.1 + y.2 - x.1 - x.2 <;> simp only [gt_iff_lt, ha, hb, decide_true, decide_false, if_true, if_false, Bool.false_eq_true, List.nil_append, List.append_nil, List.cons_append]
/-- What Cut answers. -/
def cutR (L : List Rn) (x : Rn) : List Rn × Int := if there 1024 x = true then (if L.any (hasR x) = true then (cutF L x, 0) else (L, 9)) else (L, 2)
theorem cutR_out {L : List Rn} {x : Rn} (h : ¬ there 1024 x = true) : cutR L x = (L, 2) := by unfold cutR; rw [if_neg h]
theorem cutR_ok {L : List Rn} {x : Rn} (h : there 1024 x = true) (h1 : L.any (hasR x) = true) : cutR L x = (cutF L x, 0) := by unfold cutR; rw [if_pos h, if_pos h1]
theorem cutR_bad {L : List Rn} {x : Rn} (h : there 1024 x = true) (h1 : ¬ L.any (hasR x) = true) : cutR L x = (L, 9) := by unfold cutR; rw [if_pos h, if_neg h1]
theorem allThere_one {x : Rn} : AllThere 1024 [x] ↔ there 1024 x = true := by
  constructor
  · intro h; exact h x (by simp)
  · intro h r hr; simp at hr; subst hr; exact h
open Classical in
theorem may_one (x : Rn) (k : Nat) (w : World) (o : Obj) (hk : w.heap.size = k) (h1 : I64 x.1) (h2 : I64 x.2) :
    Calls Tryz.prog 78 #[.slice (some ⟨k, 0, none⟩) 1 1] (w.alloc (.cells #[.int .i64 x.1, .int .i64 x.2] 31)) fun e w' => e = .returned (.bool (there 1024 x)) ∧ Bel (w.alloc (.cells #[.int .i64 x.1, .int .i64 x.2] 31)) w' := by
  have := runs_may (some ⟨k, 0, none⟩) [x] 1 1 (w.alloc (.cells #[.int .i64 x.1, .int .i64 x.2] 31)) rfl (by simp) (RunsIn.of_row (RdV.newAt w #[.int .i64 x.1, .int .i64 x.2] 31 k hk)) (by intro y hy; simp at hy; subst hy; exact ⟨h1, h2⟩)
  have e : decide (AllThere 1024 [x]) = there 1024 x := by rw [Bool.eq_iff_iff, decide_eq_true_eq]; exact allThere_one
  rw [e] at this
  exact this

set_option maxHeartbeats 1000000 in
set_option maxRecDepth 20000 in
theorem runs_Cut (b : Nat) (v : Value) (L : List Rn) (x : Rn) (w : World) (h : FreeAt w b v L) (h1 : I64 x.1) (h2 : I64 x.2) :
    Calls Tryz.prog 85 #[.pointer (some ⟨b, 0, none⟩), .agg #[.int .i64 x.1, .int .i64 x.2]] w fun e w' => e = .returned (.int .i64 (cutR L x).2) ∧ RPost w b v (cutR L x).1 w' := by
  have g0 := blk_alloc w (.cells #[.int .i64 x.1, .int .i64 x.2] 31)
  have HM := Lib.hid (may_one x (w.heap.size + 1) (w.alloc (.cells #[.int .i64 x.1, .int .i64 x.2] 31)) (.cells #[] 0) (by simp) h1 h2)
  have HB0 : Hid (Bel w ((w.alloc (.cells #[.int .i64 x.1, .int .i64 x.2] 31)).alloc (.cells #[.int .i64 x.1, .int .i64 x.2] 31))) := Lib.hid (((Bel.refl w).alloc _).alloc _)
  have HG0 := Lib.hid g0
  have HF := Lib.hid h
  have hLl : L.length ≤ 1024 := h.canon.len (q := 1024)
  have hbw := heap_lt h.hd
  clear h g0
  by_cases c1 : there 1024 x = true
  · rw [c1] at HM
    obtain ⟨t0, t1, t2, t3⟩ := there_iff.1 c1
    go_enter Tryz.func85, Tryz.ntmps85
    go_wp2_with fail
    refine HM.out.mono ?_
    rintro e w1 ⟨rfl, hB1⟩
    have HB1 := Lib.hid (HB0.out.trans hB1)
    have gx : w1.heap[w.heap.size]? = some (.cells #[.int .i64 x.1, .int .i64 x.2] 31 (0, 0)) := (Fr.of_bel (S := fun _ => False) ((Bel.alloc (Bel.refl _) (.cells #[.int .i64 x.1, .int .i64 x.2] 31)).trans hB1)).heap HG0.out (fun h => h)
    have HGX := Lib.hid gx
    obtain ⟨q0, q1, _, _⟩ := two_cells gx
    have HFD := Lib.hid (runs_find (.pointer (some ⟨b, 0, none⟩)) L x w1 (.inr ⟨b, v, rfl, HF.out.bel HB1.out⟩) c1)
    clear hB1 gx
    go_wp2_with fail
    refine HFD.out.mono ?_
    rintro e w2 ⟨rfl, hB2⟩
    have HB2 := Lib.hid (HB1.out.trans hB2)
    have q0 := hB2.cell q0
    have q1 := hB2.cell q1
    rcases idxF_or (hasR x) L with ⟨i, hi, hix, hhas⟩ | ⟨hix, hno⟩
    · rw [hix]
      have hany : L.any (hasR x) = true := List.any_eq_true.2 ⟨_, List.getElem_mem hi, hhas⟩
      have HP := Lib.hid (cutR_ok c1 hany)
      have HF2 := Lib.hid (HF.out.bel HB2.out)
      obtain ⟨aL, cL, rfl, hrL⟩ := HF2.out.runs
      have hc2 : w2.cell? ⟨b, 0, none⟩ = some (.slice aL L.length cL) := by rw [blk_cell HF2.out.hd]; rfl
      obtain ⟨gL, oL, rfl, p0, p1⟩ := hrL.at i hi
      have hk := HF.out.canon.ok _ (List.getElem_mem hi)
      have h3 := hasR_iff.1 hhas
      have HREP : Hid (replF L i (restF L[i] x) = cutF L x) := Lib.hid (by
        have hs : L = L.take i ++ L[i] :: L.drop (i + 1) := by rw [← List.drop_eq_getElem_cons hi, List.take_append_drop]
        have := cut_at (A := L.take i) (B := L.drop (i + 1)) (y := L[i]) (x := x) (by rw [← hs]; exact HF.out.canon) hhas t1
        unfold replF
        rw [this, ← hs])
      obtain ⟨y, hy⟩ : ∃ y, L[i] = y := ⟨_, rfl⟩
      rw [hy] at p0 p1 hk h3 HREP
      obtain ⟨y1, y2⟩ := y
      obtain ⟨x1, x2⟩ := x
      dsimp only at p0 p1 hk h3 t0 t1 t2 t3 q0 q1 h1 h2 HREP
      have hwl : w.heap.size < w2.heap.size := World.block_lt_of_cell? w2 _ q0
      have hbl2 : b < w2.heap.size := by omega
      have s1 : IntKind.i64.wrap (x1 - y1) = x1 - y1 := IntWalk.i64_in _ (by omega)
      have s2 : IntKind.i64.wrap (x1 + x2) = x1 + x2 := IntWalk.i64_in _ (by omega)
      have s3 : IntKind.i64.wrap (y1 + y2) = y1 + y2 := IntWalk.i64_in _ (by omega)
      have s4 : IntKind.i64.wrap (y1 + y2 - x1) = y1 + y2 - x1 := IntWalk.i64_in _ (by omega)
      have s5 : IntKind.i64.wrap (y1 + y2 - x1 - x2) = y1 + y2 - x1 - x2 := IntWalk.i64_in _ (by omega)
      have HRC : Hid (RunsIn ((w2.alloc (.cells #[.int .i64 y1, .int .i64 y2] 31)).alloc (.cells #[.int .i64 y1, .int .i64 (x1 - y1), .int .i64 (x1 + x2), .int .i64 (y1 + y2 - x1 - x2)] 31)) (some ⟨w2.heap.size + 1, 0, none⟩) [(y1, x1 - y1), (x1 + x2, y1 + y2 - x1 - x2)]) :=
        Lib.hid (RunsIn.of_row (RdV.newAt (w2.alloc (.cells #[.int .i64 y1, .int .i64 y2] 31)) #[.int .i64 y1, .int .i64 (x1 - y1), .int .i64 (x1 + x2), .int .i64 (y1 + y2 - x1 - x2)] 31 (w2.heap.size + 1) (by simp)))
      have HB8 : Hid (Bel w2 ((w2.alloc (.cells #[.int .i64 y1, .int .i64 y2] 31)).alloc (.cells #[.int .i64 y1, .int .i64 (x1 - y1), .int .i64 (x1 + x2), .int .i64 (y1 + y2 - x1 - x2)] 31))) := Lib.hid (((Bel.refl _).alloc _).alloc _)
      obtain ⟨W8, hW8⟩ : ∃ W8, (w2.alloc (.cells #[.int .i64 y1, .int .i64 y2] 31)).alloc (.cells #[.int .i64 y1, .int .i64 (x1 - y1), .int .i64 (x1 + x2), .int .i64 (y1 + y2 - x1 - x2)] 31) = W8 := ⟨_, rfl⟩
      rw [hW8] at HRC HB8
      have HW8 := Lib.hid hW8
      clear hB2 hrL hy hix hhas hany HM HB0 HG0 HFD hW8
      go_wp2_with fail
      rw [HW8.out]
      go_loopw [7, 53] (fun v7 kv wr => ∃ k : Nat, k ≤ 2 ∧ kv = .int .i64 k ∧ Hid (wr.ownsRow W8.heap.size 31 2 v7 (([(y1, x1 - y1), (x1 + x2, y1 + y2 - x1 - x2)].take k).filter (fun z => decide (0 < z.2))).length (cellsOf (([(y1, x1 - y1), (x1 + x2, y1 + y2 - x1 - x2)].take k).filter (fun z => decide (0 < z.2)))) ∧ ((([(y1, x1 - y1), (x1 + x2, y1 + y2 - x1 - x2)] : List Rn).take k).filter (fun z => decide (0 < z.2)) = [] → v7 = .slice none 0 0) ∧ Bel W8 wr)) (fun _ kv _ => 2 - (intOf kv).toNat)
      case atStart => exact ⟨0, by omega, rfl, Lib.hid ⟨World.ownsRow_nil _ _ _ _, fun _ => rfl, Bel.refl _⟩⟩
      case round =>
        obtain ⟨k, hk2, rfl, HH⟩ := hrel
        obtain ⟨Z, hZ⟩ : ∃ Z : List Rn, [(y1, x1 - y1), (x1 + x2, y1 + y2 - x1 - x2)] = Z := ⟨_, rfl⟩
        have hZl : Z.length = 2 := by rw [← hZ]; rfl
        rw [hZ] at HH HRC ⊢
        by_cases hlt : k < 2
        · obtain ⟨gz, oz, ez, z0, z1⟩ := (HRC.out.bel HH.out.2.2).at k (by omega)
          simp only [Option.some.injEq, Addr.mk.injEq, and_true] at ez
          obtain ⟨rfl, rfl⟩ := ez
          have hst : Z.take (k + 1) = Z.take k ++ [Z[k]'(by omega)] := List.take_succ_eq_append_getElem (by omega)
          obtain ⟨z, hz⟩ : ∃ z, Z[k]'(by omega) = z := ⟨_, rfl⟩
          rw [hz] at z0 z1 hst
          obtain ⟨z1', z2'⟩ := z
          dsimp only at z0 z1
          simp only [Nat.zero_add] at z0 z1
          obtain ⟨F, hF⟩ : ∃ F, (Z.take k).filter (fun z => decide (0 < z.2)) = F := ⟨_, rfl⟩
          have hFl : F.length ≤ 2 := by rw [← hF]; exact Nat.le_trans (List.length_filter_le _ _) (by simp; omega)
          have hF1 : (Z.take (k + 1)).filter (fun z => decide (0 < z.2)) = F ++ (if 0 < z2' then [(z1', z2')] else []) := by
            rw [hst, List.filter_append, hF]
            congr 1
            by_cases h9 : 0 < z2' <;> simp [h9]
          rw [hF] at HH
          have hso := HH.out.2.2.size
          have hs8 := HB8.out.size
          obtain ⟨av, cv, rfl, _⟩ := own_slice HH.out.1
          have s9 : (k : Int) < 2 := by omega
          clear hst hz hF hZ hZl
          by_cases hz0 : 0 < z2'
          · rw [if_pos hz0] at hF1
            have HF1 := Lib.hid hF1
            clear hF1
            go_wp2_with (at_builtin; refine wpList_append_runs rfl _ _ rfl W8.heap.size _ F rfl ((HH.out.1.alloc _).alloc _) _ _ [(z1', z2')] rfl ?d1 ?d2 ?d3 ?d4 ?_)
            case d1 => exact RunsIn.of_row (RdV.newAt _ #[.int .i64 z1', .int .i64 z2'] 31 _ (by simp))
            case d2 => rintro ⟨⟩
            case d3 => simp; omega
            case d4 => simp; omega
            intro v' w4 hown4 hgrow
            have hbx := (HH.out.1.alloc (.cells #[.int .i64 z1', .int .i64 z2'] 31)).alloc (.cells #[.int .i64 z1', .int .i64 z2'] 31)
            have hB4 : Bel W8 w4 := by
              refine Below.grown ((HH.out.2.2.alloc _).alloc _) hgrow (by simp; omega) (fun g hg => ?_)
              rcases hbx.2 with ⟨h1, _⟩ | ⟨g', cap, cur, h1, h2, h3, _⟩
              · rw [h1] at hg; simp [Value.ownBlock] at hg
              · rw [h1] at hg; simp [Value.ownBlock] at hg; omega
            have HN : Hid (w4.ownsRow W8.heap.size 31 2 v' ((Z.take (k + 1)).filter (fun z => decide (0 < z.2))).length (cellsOf ((Z.take (k + 1)).filter (fun z => decide (0 < z.2)))) ∧ ((Z.take (k + 1)).filter (fun z => decide (0 < z.2)) = [] → v' = .slice none 0 0) ∧ Bel W8 w4) := Lib.hid (by
              rw [HF1.out]
              exact ⟨by simpa using hown4, fun h => by simp at h, hB4⟩)
            clear hown4 hgrow hB4 hbx
            go_wp2
            go_roundw
            case rel => exact ⟨k + 1, by omega, by go_num, HN⟩
            case measure => simp [intOf]; omega
          · rw [if_neg hz0, List.append_nil] at hF1
            have HN : Hid ((wr.alloc (.cells #[.int .i64 z1', .int .i64 z2'] 31)).ownsRow W8.heap.size 31 2 (.slice av F.length cv) ((Z.take (k + 1)).filter (fun z => decide (0 < z.2))).length (cellsOf ((Z.take (k + 1)).filter (fun z => decide (0 < z.2)))) ∧ ((Z.take (k + 1)).filter (fun z => decide (0 < z.2)) = [] → (Value.slice av F.length cv) = .slice none 0 0) ∧ Bel W8 (wr.alloc (.cells #[.int .i64 z1', .int .i64 z2'] 31))) := Lib.hid (by
              rw [hF1]
              exact ⟨HH.out.1.alloc _, HH.out.2.1, HH.out.2.2.alloc _⟩)
            clear hF1
            go_wp2
            go_roundw
            case rel => exact ⟨k + 1, by omega, by go_num, HN⟩
            case measure => simp [intOf]; omega
        · obtain rfl : k = 2 := by omega
          have hR : (Z.take 2).filter (fun z => decide (0 < z.2)) = restF (y1, y2) (x1, x2) := by
            rw [List.take_of_length_le (by omega), ← hZ]
            exact restF_filter (y1, y2) (x1, x2)
          rw [hR] at HH
          have hRl : (restF (y1, y2) (x1, x2)).length ≤ 2 := by rw [← hR]; exact Nat.le_trans (List.length_filter_le _ _) (by simp; omega)
          obtain ⟨R, hRR⟩ : ∃ R, restF (y1, y2) (x1, x2) = R := ⟨_, rfl⟩
          rw [hRR] at HH HREP hRl
          obtain ⟨av, cv, rfl, _⟩ := own_slice HH.out.1
          have hBw := HB2.out.trans (HB8.out.trans HH.out.2.2)
          have hFw := HF.out.bel hBw
          have hcw : wr.cell? ⟨b, 0, none⟩ = some (.slice (some ⟨gL, oL, none⟩) L.length cL) := by rw [blk_cell hFw.hd]; rfl
          have hblw := heap_lt hFw.hd
          have s6 : IntKind.i64.wrap ((i : Int) + 1) = (i : Int) + 1 := IntWalk.i64_in _ (by omega)
          have HRP := Lib.hid (replace_runs (.slice (some ⟨gL, oL, none⟩) L.length cL) L i (.slice av R.length cv) R wr hi hLl hFw.own (own_base HH.out.1 (Nat.zero_le _)) hRl (fun k hk => by
            have hlt := HF.out.lt (.inr hk)
            intro h9
            rcases HH.out.1.2 with ⟨h1, _⟩ | ⟨g', cap', cur, h1, h2, _⟩
            · rw [h1] at h9; simp [Value.ownBlock] at h9
            · have := HB2.out.size; have := HB8.out.size; rw [h1] at h9; simp [Value.ownBlock] at h9; omega) HH.out.2.1)
          have HFW := Lib.hid hFw
          have HBW := Lib.hid hBw
          clear hR hRR hZ hZl hBw hFw
          go_wp2_with fail
          refine HRP.out.mono ?_
          rintro e w5 ⟨v', rfl, hown5, hv5, hF5⟩
          obtain ⟨a5, c5, rfl, _⟩ := own_slice hown5
          have hbne : ¬ (Value.slice (some ⟨gL, oL, none⟩) L.length cL).ownBlock = some b := HF.out.ne
          have hg5 := hF5.heap HFW.out.hd hbne
          have hc5 : w5.cell? ⟨b, 0, none⟩ = some (.slice (some ⟨gL, oL, none⟩) L.length cL) := by rw [blk_cell hg5]; rfl
          have hf5 := blk_frozen hg5 0
          have hsw := HBW.out.size
          have HEND : Hid (RPost w b (.slice (some ⟨gL, oL, none⟩) L.length cL) (cutF L (x1, x2)) (w5.setCell ⟨b, 0, none⟩ (.slice a5 (replF L i R).length c5))) := Lib.hid ⟨.slice a5 (replF L i R).length c5, ⟨by
              have := blk_setCell hg5 0 (.slice a5 (replF L i R).length c5)
              simpa using this, by
              rw [← HREP.out]
              exact own_fr hown5 (Fr.setCell (S := fun k => k = b) (Fr.refl _ _) (.inl rfl) _) (fun k _ hk he => by
                subst he
                rcases hv5 _ hk with h | h
                · exact hbne h
                · omega), by rw [← HREP.out]; rw [HREP.out]; exact cutF_canon _ _⟩, fun k hk => by
              rcases hv5 k hk with h | h
              · exact .inl h
              · exact .inr (by omega), ((Fr.of_bel HBW.out).trans (S' := fun k => (Value.slice (some ⟨gL, oL, none⟩) L.length cL).ownBlock = some k) hF5 (fun k hk => .inl (.inr hk))).setCell (.inl (.inl rfl)) _⟩
          clear hown5 hv5 hF5 hg5 hbne
          go_wp2
          go_ret
          exact ⟨by rw [HP.out]; rfl, by rw [HP.out]; exact HEND.out⟩
    · rw [hix]
      have hany : ¬ L.any (hasR x) = true := by
        intro h; obtain ⟨y, hy, h9⟩ := List.any_eq_true.1 h; rw [hno y hy] at h9; cases h9
      have HP := Lib.hid (cutR_bad c1 hany)
      clear hno hany hix hB2 q0 q1 HGX HFD HM HB0 HG0
      go_wp2
      go_ret
      exact ⟨by rw [HP.out]; rfl, by rw [HP.out]; exact RPost.same HF.out HB2.out⟩
  · have HP := Lib.hid (cutR_out (L := L) c1)
    rw [Bool.not_eq_true] at c1
    rw [c1] at HM
    go_enter Tryz.func85, Tryz.ntmps85
    go_wp2_with fail
    refine HM.out.mono ?_
    rintro e w1 ⟨rfl, hB1⟩
    have HB1 := Lib.hid (HB0.out.trans hB1)
    clear hB1
    go_wp2
    go_ret
    exact ⟨by rw [HP.out]; rfl, by rw [HP.out]; exact RPost.same HF.out HB1.out⟩
end Go.Proofs.YtbldidlbhahciaaGreat

namespace Go.Proofs.YtbldidlbhahciaaGreat
open Go.RowKit

/-- What Take answers: the runs, the run that was taken, whether there was one. -/
def takeR (L : List Rn) (n : Int) : List Rn × Rn × Bool := if 0 < (bestF L n).2 then (cutF L ((bestF L n).1, n), ((bestF L n).1, n), true) else (L, (0, 0), false)
theorem best_or (L : List Rn) (n : Int) (hL : Canon 1024 L) : (bestF L n = (0, 0) ∧ (n < 1 ∨ ∀ r ∈ L, r.2 < n)) ∨ (1 ≤ n ∧ bestF L n ∈ L ∧ n ≤ (bestF L n).2 ∧ 0 < (bestF L n).2 ∧ there 1024 ((bestF L n).1, n) = true ∧ L.any (hasR ((bestF L n).1, n)) = true) := by
  by_cases hn : n < 1
  · exact .inl ⟨by unfold bestF; rw [if_pos hn], .inl hn⟩
  · have hb : bestF L n = bestP n L (0, 0) := by unfold bestF; rw [if_neg hn]
    rcases best_spec (n := n) (by omega) L.length L (Nat.le_refl _) with ⟨e, h⟩ | ⟨i, hi, _, e, h1, _, _⟩
    · rw [List.take_length] at e
      exact .inl ⟨by rw [hb, e], .inr (fun r hr => by obtain ⟨j, hj, rfl⟩ := List.getElem_of_mem hr; exact h j hj hj)⟩
    · rw [List.take_length] at e
      have hk := hL.ok _ (List.getElem_mem hi)
      refine .inr ⟨by omega, ?_, ?_, ?_, ?_, ?_⟩
      · rw [hb, e]; exact List.getElem_mem hi
      · rw [hb, e]; exact h1
      · rw [hb, e]; omega
      · rw [hb, e, there_iff]; dsimp only; omega
      · rw [hb, e]
        refine List.any_eq_true.2 ⟨_, List.getElem_mem hi, ?_⟩
        rw [hasR_iff]; dsimp only; omega
theorem footR_fr {S : Nat → Prop} {w w' : World} {b : Nat} {v : Value} {L : List Rn} (h : FreeAt w b v L) (k : Bel w w') : FreeAt w' b v L := h.bel k
theorem RPost.from {w w1 w' : World} {b : Nat} {v : Value} {L : List Rn} (h : RPost w1 b v L w') (k : Bel w w1) : RPost w b v L w' := by
  obtain ⟨v', h1, h2, h3⟩ := h
  exact ⟨v', h1, fun g hg => by rcases h2 g hg with h | h; exact .inl h; exact .inr (Nat.le_trans k.size h), (Fr.of_bel k).trans' h3⟩
theorem RPost.done {w W w' : World} {b : Nat} {v : Value} {L : List Rn} (h : RPost W b v L w') (k : Bel w W) {R : Nat} (hR : w.heap.size ≤ R) (hR2 : R < W.heap.size) (hb : b < w.heap.size) (hv : ∀ g, v.ownBlock = some g → g < w.heap.size) (x y : Value) : RPost w b v L ((w'.setCell ⟨R, 0, none⟩ x).setCell ⟨R, 1, none⟩ y) := by
  obtain ⟨v', h1, h2, h3⟩ := h
  refine ⟨v', h1.fr (S := fun k => k = R) (Fr.setCell (p := ⟨R, 1, none⟩) (Fr.setCell (p := ⟨R, 0, none⟩) (Fr.refl (fun k => k = R) w') (.inl rfl) x) (.inl rfl) y) (by omega) (fun g hg he => ?_), fun g hg => ?_, fr_two ((Fr.of_bel k).trans' h3) hR x y⟩
  · rcases h2 g hg with h | h
    · have := hv g h; omega
    · omega
  · rcases h2 g hg with h | h
    · exact .inl h
    · exact .inr (Nat.le_trans k.size h)
theorem RPost.then_bel {w w' w'' : World} {b : Nat} {v : Value} {L : List Rn} (h : RPost w b v L w') (k : Bel w' w'') : RPost w b v L w'' := by
  obtain ⟨v', h1, h2, h3⟩ := h
  exact ⟨v', h1.bel k, h2, h3.then_bel k⟩

set_option maxHeartbeats 1000000 in
set_option maxRecDepth 20000 in
theorem runs_Take (b : Nat) (v : Value) (L : List Rn) (n : Int) (w : World) (h : FreeAt w b v L) (hn : I64 n) :
    Calls Tryz.prog 59 #[.pointer (some ⟨b, 0, none⟩), .int .i64 n] w fun e w' =>
      e = .returned (.tuple #[.agg #[.int .i64 (takeR L n).2.1.1, .int .i64 (takeR L n).2.1.2], .bool (takeR L n).2.2]) ∧ RPost w b v (takeR L n).1 w' := by
  have gR := blk_alloc w (.cells #[.int .i64 0, .int .i64 0] 31)
  have HB0 : Hid (Bel w (w.alloc (.cells #[.int .i64 0, .int .i64 0] 31))) := Lib.hid ((Bel.refl _).alloc _)
  have HBE := Lib.hid (runs_Best (.pointer (some ⟨b, 0, none⟩)) L n _ (.inr ⟨b, v, rfl, h.bel HB0.out⟩) hn)
  have HF := Lib.hid h
  have hbw := heap_lt h.hd
  have hnn := hn
  obtain ⟨n0, n1⟩ := hn
  have HG := Lib.hid gR
  clear gR h
  rcases best_or L n HF.out.canon with ⟨hb, _⟩ | ⟨hn1, hmem, hle, hpos, hth, hany⟩
  · have HT : Hid (takeR L n = (L, (0, 0), false)) := Lib.hid (by unfold takeR; rw [hb, if_neg (by decide)])
    rw [hb] at HBE
    clear hb
    go_enter Tryz.func59, Tryz.ntmps59
    go_wp2_with fail
    refine HBE.out.mono ?_
    rintro e w1 ⟨rfl, hB1⟩
    have HB1 := Lib.hid (HB0.out.trans hB1)
    have gR1 := (Fr.of_bel (S := fun _ => False) hB1).heap HG.out (fun h => h)
    obtain ⟨c0, c1, f0, f1⟩ := two_cells gR1
    have hlt1 := heap_lt gR1
    have g9 := blk_alloc_old (.cells #[.int .i64 0, .int .i64 0] 31) (two_set gR1 (.int .i64 0) (.int .i64 0)).2.2
    have hP : RPost w b v L (((w1.setCell ⟨w.heap.size, 0, none⟩ (.int .i64 0)).setCell ⟨w.heap.size, 1, none⟩ (.int .i64 0)).alloc (.cells #[.int .i64 0, .int .i64 0] 31)) := RPost.same HF.out ((bel_two HB1.out (Nat.le_refl _) _ _).alloc _)
    have HE := Lib.hid (And.intro g9 hP)
    clear hB1 gR1 g9 hP
    go_wp2
    generalize ((w1.setCell ⟨w.heap.size, 0, none⟩ (.int .i64 0)).setCell ⟨w.heap.size, 1, none⟩ (.int .i64 0)).alloc (.cells #[.int .i64 0, .int .i64 0] 31) = W9 at HE ⊢
    obtain ⟨r0, r1, _, _⟩ := two_cells HE.out.1
    refine bodyPost_ret (v := .tuple #[.agg #[.int .i64 0, .int .i64 0], .bool false]) (by simp [results, Tryz.results59, go_sem, r0, r1]) rfl ?_
    exact ⟨by rw [HT.out], by rw [HT.out]; exact HE.out.2⟩
  · have HT : Hid (takeR L n = (cutF L ((bestF L n).1, n), ((bestF L n).1, n), true)) := Lib.hid (by unfold takeR; rw [if_pos hpos])
    have HP : Hid (cutR L ((bestF L n).1, n) = (cutF L ((bestF L n).1, n), 0)) := Lib.hid (cutR_ok hth hany)
    obtain ⟨y, hy⟩ : ∃ y, bestF L n = y := ⟨_, rfl⟩
    rw [hy] at HBE HT HP hpos hle hth
    have hk := HF.out.canon.ok _ hmem
    rw [hy] at hk
    obtain ⟨y1, y2⟩ := y
    dsimp only at HBE HT HP hpos hle hk hth
    obtain ⟨k0, k1, k2⟩ := hk
    clear hmem hany hy hth
    go_enter Tryz.func59, Tryz.ntmps59
    go_wp2_with fail
    refine HBE.out.mono ?_
    rintro e w1 ⟨rfl, hB1⟩
    have d0 : decide (0 < y2) = true := decide_eq_true hpos
    rw [d0]
    have HB1 := Lib.hid (HB0.out.trans hB1)
    have gR1 := (Fr.of_bel (S := fun _ => False) hB1).heap HG.out (fun h => h)
    have hlt1 := heap_lt gR1
    have HGR1 := Lib.hid gR1
    clear hB1 gR1
    have gX := blk_alloc w1 (.cells #[.int .i64 y1, .int .i64 n] 31)
    have gR2 := blk_alloc_old (.cells #[.int .i64 y1, .int .i64 n] 31) HGR1.out
    have HB2 := Lib.hid (HB1.out.alloc (.cells #[.int .i64 y1, .int .i64 n] 31))
    have hlt2 : w1.heap.size < (w1.alloc (.cells #[.int .i64 y1, .int .i64 n] 31)).heap.size := by simp
    have C : ∀ V, Bel (w1.alloc (.cells #[.int .i64 y1, .int .i64 n] 31)) V → Calls Tryz.prog 85 #[.pointer (some ⟨b, 0, none⟩), .agg #[.int .i64 y1, .int .i64 n]] V fun e V' => e = .returned (.int .i64 0) ∧ RPost (w1.alloc (.cells #[.int .i64 y1, .int .i64 n] 31)) b v (cutF L (y1, n)) V' ∧ V'.heap[w1.heap.size]? = some (.cells #[.int .i64 y1, .int .i64 n] 31 (0, 0)) ∧ V'.heap[w.heap.size]? = some (.cells #[.int .i64 0, .int .i64 0] 31 (0, 0)) := fun V hV => by
      have hFV := HF.out.bel (HB2.out.trans hV)
      refine (runs_Cut b v L (y1, n) V hFV ⟨by omega, by omega⟩ hnn).mono ?_
      rintro e V' ⟨rfl, hp⟩
      rw [HP.out] at hp ⊢
      have hnf : ∀ k, w.heap.size ≤ k → ¬ footR b v k := fun k hk hf => by have := HF.out.lt hf; omega
      obtain ⟨v', p1, p2, p3⟩ := hp
      refine ⟨rfl, RPost.from ⟨v', p1, p2, p3⟩ hV, ?_, ?_⟩
      · exact p3.heap ((Fr.of_bel (S := fun _ => False) hV).heap gX (fun h => h)) (hnf _ (by omega))
      · exact p3.heap ((Fr.of_bel (S := fun _ => False) hV).heap gR2 (fun h => h)) (hnf _ (by omega))
    have HC := Lib.hid C
    obtain ⟨x0, x1, _, _⟩ := two_cells gX
    have HFV : Hid (∀ g, v.ownBlock = some g → g < w.heap.size) := Lib.hid (fun g hg => HF.out.lt (.inr hg))
    clear C gX gR2
    go_wp2_with fail
    generalize w1.alloc (.cells #[.int .i64 y1, .int .i64 n] 31) = W2 at HC HB2 x0 x1 hlt2 ⊢
    go_region_law (first | (go_simp; go_at_call 85; (with_reducible refine (HC.out _ ?b1).mono ?_); (case b1 => repeat (first | exact Bel.refl _ | apply Bel.drew | apply Bel.alloc)); rintro e w4 ⟨rfl, hP4, hX4, hR4⟩; obtain ⟨z0, z1, _, _⟩ := two_cells hX4; obtain ⟨s0, s1, s2, s3⟩ := two_cells hR4))
    all_goals
      go_wp2
      have g9 := (two_set hR4 (.int .i64 y1) (.int .i64 n)).2.2
      have hP9 := hP4.done HB2.out (Nat.le_refl _) (by omega) hbw HFV.out (.int .i64 y1) (.int .i64 n)
      obtain ⟨r0, r1, _, _⟩ := two_cells g9
      refine bodyPost_ret (v := .tuple #[.agg #[.int .i64 y1, .int .i64 n], .bool true]) (by simp [results, Tryz.results59, go_sem, r0, r1]) rfl ?_
      exact ⟨by rw [HT.out], by rw [HT.out]; first | exact hP9 | exact hP9.then_bel (Bel.refl _).drew⟩
end Go.Proofs.YtbldidlbhahciaaGreat
