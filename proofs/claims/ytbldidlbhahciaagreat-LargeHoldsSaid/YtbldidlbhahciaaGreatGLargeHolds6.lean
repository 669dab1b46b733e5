/- Package index: Set. Package index: Drop. The library's Index and Contains at ints. Package index: fill. Package index: the parts of runs. Package index: New; what is thrown, and caught; a run's part. -/
import Derived.Test.YtbldidlbhahciaaGreatGLargeHolds5
import Derived.Test.YtbldidlbhahciaaGreatGLargeHolds1
import Derived.Deep.QuietTactic
import Derived.BigQuiet
set_option linter.unusedVariables false
set_option linter.unusedSimpArgs false
namespace Go.Proofs.YtbldidlbhahciaaGreat
open Go.RowKit

theorem info_int5 : (Tryz.prog.info? 3).map (fun i => (i.zero, i.size, i.bytes)) = some (some (.int .i64 0), 1, 8) := by kernel_rfl
theorem made_one5 (z : Value) (n : Nat) : madeCells #[z] n = (List.replicate n z).toArray := by
  unfold madeCells
  apply Array.ext
  · simp
  · intro i h1 h2
    simp [Nat.mod_one]
theorem run_make_int (n : Nat) (w : World) (hn : n ≤ 65536) :
    (Instr.makeSlice 22 (.int .i64 n) (.int .i64 n)).run Tryz.prog w = .ok (.slice (some ⟨w.heap.size, 0, none⟩) n n) (w.alloc (.cells (ints (List.replicate n 0)).toArray 3)) := by
  obtain ⟨i, hi, hz, hs, hb⟩ := info_parts info_int5
  have := run_make (P := Tryz.prog) w 22 3 i (.int .i64 0) Tryz.underlying22 hi hz .i64 .i64 n n (by omega) (by omega) (by rw [hb]; omega) (by omega)
  rw [this, hs]
  simp [made_one5, ints, Value.cells]

/-- How many pages an index has. -/
def pagesF (pages : Int) : Nat := (max 0 (min pages 1024)).toNat
theorem pagesF_le (pages : Int) : pagesF pages ≤ 1024 := by unfold pagesF; omega
set_option maxRecDepth 20000 in
theorem index_New (pages : Int) (w : World) (hp : I64 pages) :
    Calls Tryz.prog 29 #[.int .i64 pages] w fun e w' => ∃ bx, e = .returned (.pointer (some ⟨bx, 0, none⟩)) ∧ w.heap.size < bx ∧ IndexAt w' bx w.heap.size (List.replicate (pagesF pages) 0) ∧ Bel w w' := by
  obtain ⟨p0, p1⟩ := hp
  have hle := pagesF_le pages
  have hm := run_make_int (pagesF pages) w (by omega)
  have HEND : Hid (IndexAt ((w.alloc (.cells (ints (List.replicate (pagesF pages) 0)).toArray 3)).alloc (.cells #[.slice (some ⟨w.heap.size, 0, none⟩) (pagesF pages) (pagesF pages)] 113)) (w.heap.size + 1) w.heap.size (List.replicate (pagesF pages) 0)) := Lib.hid (by
    refine ⟨by omega, ?_, blk_alloc_old _ (blk_alloc _ _), by simp; omega, fun x hx => by simp at hx; rw [hx.2]; exact ⟨by omega, by omega⟩⟩
    have := blk_alloc (w.alloc (.cells (ints (List.replicate (pagesF pages) 0)).toArray 3)) (.cells #[.slice (some ⟨w.heap.size, 0, none⟩) (pagesF pages) (pagesF pages)] 113)
    rw [World.size_alloc] at this
    simpa using this)
  obtain ⟨cs, hcs⟩ : ∃ cs, (ints (List.replicate (pagesF pages) 0)).toArray = cs := ⟨_, rfl⟩
  rw [hcs] at hm HEND
  have hcase : (pages < 0 ∧ pagesF pages = 0) ∨ (1024 < pages ∧ pagesF pages = 1024) ∨ (0 ≤ pages ∧ pages ≤ 1024 ∧ (pagesF pages : Int) = pages) := by unfold pagesF; omega
  clear hcs
  rcases hcase with ⟨c, hn⟩ | ⟨c, hn⟩ | ⟨c1, c2, hn⟩
  · rw [hn] at hm HEND ⊢
    rw [show ((0 : Nat) : Int) = 0 from rfl] at hm
    have m1 : min pages 1024 = pages := by omega
    have m2 : max 0 pages = 0 := by omega
    clear hn hle
    go_enter Tryz.func29, Tryz.ntmps29
    go_wp2
    go_ret
    exact ⟨w.heap.size + 1, by simp, by omega, HEND.out, ((Bel.refl w).alloc _).alloc _⟩
  · rw [hn] at hm HEND ⊢
    rw [show ((1024 : Nat) : Int) = 1024 from rfl] at hm
    have m1 : min pages 1024 = 1024 := by omega
    have m2 : max 0 (1024 : Int) = 1024 := by decide
    clear hn hle
    go_enter Tryz.func29, Tryz.ntmps29
    go_wp2
    go_ret
    exact ⟨w.heap.size + 1, by simp, by omega, HEND.out, ((Bel.refl w).alloc _).alloc _⟩
  · rw [hn] at hm
    have m1 : min pages 1024 = pages := by omega
    have m2 : max 0 pages = pages := by omega
    clear hn
    go_enter Tryz.func29, Tryz.ntmps29
    go_wp2
    go_ret
    exact ⟨w.heap.size + 1, by simp, by omega, HEND.out, ((Bel.refl w).alloc _).alloc _⟩

/-! ### caught -/
theorem ta_wrong (e : Int) (w : World) : (Instr.typeAssert (wrongV e) 20 162 true).run Tryz.prog w = .ok (.tuple #[.agg #[.int .i64 e], .bool true]) w := by kernel_rfl
theorem icaught_idle (p : Addr) (w : World) :
    CallsD Tryz.prog 86 #[.pointer (some p)] .returning w fun e u' w' => e = .returned (.tuple #[]) ∧ u' = .returning ∧ w' = w := by
  refine callsD_of_wpS Tryz.func86 rfl fun c₀ cs hu => ?_
  simp only [Tryz.ntmps86, List.size_toArray, List.length_cons, List.length_nil, Nat.reduceAdd, Nat.reduceSub, Array.replicate_succ, Array.replicate_zero, List.push_toArray, List.append_toArray, List.nil_append, List.cons_append]
  apply wpS_seq
  apply wpS_region
  simp [wpOpsS, go_sem, recoverD, hu, Exit.thenS]
  refine wpS_of_wp ?_
  go_wp2
  cases c₀
  simp_all [bodyPostS, results, Tryz.results86]
theorem icaught_out (e : Int) (b : Nat) (x : Value) (w : World) (older : List PanicEntry) (hb : b < w.heap.size) (hc : w.cell? ⟨b, 0, none⟩ = some x) (hz : w.frozen? ⟨b, 0, none⟩ = false) :
    CallsD Tryz.prog 86 #[.pointer (some ⟨b, 0, none⟩)] (.panicking ({ v := wrongV e, recovered := false } :: older)) w fun en u' w' =>
      en = .returned (.tuple #[]) ∧ u' = .panicking ({ v := wrongV e, recovered := true } :: older) ∧ w' = (w.setCell ⟨b, 0, none⟩ (.int .i64 e)).alloc (.cells #[.int .i64 e] 162) := by
  refine callsD_of_wpS Tryz.func86 rfl fun c₀ cs hu => ?_
  simp only [Tryz.ntmps86, List.size_toArray, List.length_cons, List.length_nil, Nat.reduceAdd, Nat.reduceSub, Array.replicate_succ, Array.replicate_zero, List.push_toArray, List.append_toArray, List.nil_append, List.cons_append]
  apply wpS_seq
  apply wpS_region
  simp [wpOpsS, go_sem, recoverD, hu, Exit.thenS]
  refine wpS_of_wp ?_
  have hta := ta_wrong e
  have hne : b ≠ w.heap.size := by omega
  go_wp2
  cases c₀
  simp_all [bodyPostS, results, Tryz.results86]

/-! ### a run's part -/
theorem Calls.quiet_eq5 {P : Program} {f : FuncId} {args : Array Value} {w : World} {n : Nat} {v : Value}
    (h : Calls P f args (w.drewN n) fun e w' => e = .returned v ∧ w.drewN n = w') : Calls P f args (w.drewN n) fun e w'' => e = .returned v ∧ ∃ m, w'' = w.drewN m :=
  h.mono fun _ _ ⟨he, hm⟩ => ⟨he, n, hm.symm⟩
set_option maxHeartbeats 1000000 in
set_option maxRecDepth 20000 in
theorem index_part_out (p : Value) (ids : List Int) (r : Rn) (w : World) (h : IndexP w p ids) (h1 : I64 r.1) (h2 : I64 r.2) (hb : there ids.length r = false) :
    Calls Tryz.prog 107 #[p, .agg #[.int .i64 r.1, .int .i64 r.2]] w fun e w' => e = .panicked [{ v := wrongV 2, recovered := false }] ∧ Bel w w' := by
  obtain ⟨s, n⟩ := r
  dsimp only at *
  have hsm := h.small
  have hc : s < 0 ∨ (¬ s < 0 ∧ n < 1) ∨ (¬ s < 0 ∧ ¬ n < 1 ∧ (ids.length : Int) ≤ s) ∨ (¬ s < 0 ∧ ¬ n < 1 ∧ ¬ (ids.length : Int) ≤ s ∧ (ids.length : Int) - s < n) := by
    have := there_iff (n := ids.length) (r := (s, n))
    rw [hb] at this
    simp only [Bool.false_eq_true, false_iff] at this
    omega
  have hP := h.bel ((Bel.refl w).alloc (.cells #[.int .i64 s, .int .i64 n] 31))
  have HBE := Lib.hid ((Bel.refl w).alloc (.cells #[.int .i64 s, .int .i64 n] 31))
  have g := blk_alloc w (.cells #[.int .i64 s, .int .i64 n] 31)
  have c0 : (w.alloc (.cells #[.int .i64 s, .int .i64 n] 31)).cell? ⟨w.heap.size, 0, none⟩ = some (.int .i64 s) := blk_cell g 0
  have c1 : (w.alloc (.cells #[.int .i64 s, .int .i64 n] 31)).cell? ⟨w.heap.size, 1, none⟩ = some (.int .i64 n) := blk_cell g 1
  have C : ∀ nq, Calls Tryz.prog 129 #[p] ((w.alloc (.cells #[.int .i64 s, .int .i64 n] 31)).drewN nq) fun e w' => e = .returned (.int .i64 ids.length) ∧ (w.alloc (.cells #[.int .i64 s, .int .i64 n] 31)).drewN nq = w' := fun nq =>
    index_Pages p ids _ (hP.bel (Bel.drewN (Bel.refl _) _))
  have HC := Lib.hid C
  obtain ⟨s0, s1⟩ := h1
  obtain ⟨n0, n1⟩ := h2
  clear h hb hP g C
  rcases hc with a1 | ⟨a1, a2⟩ | ⟨a1, a2, a3⟩ | ⟨a1, a2, a3, a4⟩
  · have d1 : decide (s < 0) = true := by simpa using a1
    go_enter Tryz.func107, Tryz.ntmps107
    go_wp2_with fail
    go_quiet (first | (go_at_call 129; with_reducible refine Calls.quiet_eq5 (HC.out _)))
    go_wp2
    exact ⟨rfl, rfl, HBE.out.drewN _⟩
  · have d1 : decide (s < 0) = false := by simpa using a1
    have d2 : decide (n < 1) = true := by simpa using a2
    go_enter Tryz.func107, Tryz.ntmps107
    go_wp2_with fail
    go_quiet (first | (go_at_call 129; with_reducible refine Calls.quiet_eq5 (HC.out _)))
    go_wp2
    exact ⟨rfl, rfl, HBE.out.drewN _⟩
  · have d1 : decide (s < 0) = false := by simpa using a1
    have d2 : decide (n < 1) = false := by simpa using a2
    have d3 : decide ((ids.length : Int) ≤ s) = true := by simpa using a3
    go_enter Tryz.func107, Tryz.ntmps107
    go_wp2_with fail
    go_quiet (first | (go_at_call 129; with_reducible refine Calls.quiet_eq5 (HC.out _)))
    go_wp2
    exact ⟨rfl, rfl, HBE.out.drewN _⟩
  · have d1 : decide (s < 0) = false := by simpa using a1
    have d2 : decide (n < 1) = false := by simpa using a2
    have d3 : decide ((ids.length : Int) ≤ s) = false := by simpa using a3
    have e1 : IntKind.i64.wrap ((ids.length : Int) - s) = ids.length - s := IntWalk.i64_in _ (by omega)
    go_enter Tryz.func107, Tryz.ntmps107
    go_wp2_with fail
    go_quiet (first | (go_at_call 129; with_reducible refine Calls.quiet_eq5 (HC.out _)))
    go_wp2
    exact ⟨rfl, rfl, HBE.out.drewN _⟩
set_option maxHeartbeats 1000000 in
set_option maxRecDepth 20000 in
theorem index_part_ok (bx bi : Nat) (ids : List Int) (r : Rn) (w : World) (h : IndexAt w bx bi ids) (hb : there ids.length r = true) :
    Calls Tryz.prog 107 #[.pointer (some ⟨bx, 0, none⟩), .agg #[.int .i64 r.1, .int .i64 r.2]] w fun e w' => e = .returned (.slice (some ⟨bi, r.1.toNat, none⟩) r.2.toNat (ids.length - r.1.toNat)) ∧ Bel w w' := by
  obtain ⟨s, n⟩ := r
  obtain ⟨b0, b1, b2, b3⟩ := there_iff.1 hb
  dsimp only at *
  have hsm := h.small
  have hP : IndexP (w.alloc (.cells #[.int .i64 s, .int .i64 n] 31)) (.pointer (some ⟨bx, 0, none⟩)) ids := .inr ⟨bx, bi, rfl, h.bel ((Bel.refl w).alloc _)⟩
  have HBE := Lib.hid ((Bel.refl w).alloc (.cells #[.int .i64 s, .int .i64 n] 31))
  have g := blk_alloc w (.cells #[.int .i64 s, .int .i64 n] 31)
  have c0 : (w.alloc (.cells #[.int .i64 s, .int .i64 n] 31)).cell? ⟨w.heap.size, 0, none⟩ = some (.int .i64 s) := blk_cell g 0
  have c1 : (w.alloc (.cells #[.int .i64 s, .int .i64 n] 31)).cell? ⟨w.heap.size, 1, none⟩ = some (.int .i64 n) := blk_cell g 1
  have hh := (h.bel ((Bel.refl w).alloc (.cells #[.int .i64 s, .int .i64 n] 31))).hd
  have c2 : (w.alloc (.cells #[.int .i64 s, .int .i64 n] 31)).cell? ⟨bx, 0, none⟩ = some (.slice (some ⟨bi, 0, none⟩) ids.length ids.length) := blk_cell hh 0
  have C : ∀ nq, Calls Tryz.prog 129 #[.pointer (some ⟨bx, 0, none⟩)] ((w.alloc (.cells #[.int .i64 s, .int .i64 n] 31)).drewN nq) fun e w' => e = .returned (.int .i64 ids.length) ∧ (w.alloc (.cells #[.int .i64 s, .int .i64 n] 31)).drewN nq = w' := fun nq =>
    index_Pages _ ids _ (hP.bel (Bel.drewN (Bel.refl _) _))
  have HC := Lib.hid C
  have d1 : decide (s < 0) = false := by rw [decide_eq_false_iff_not]; omega
  have d2 : decide (n < 1) = false := by rw [decide_eq_false_iff_not]; omega
  have d3 : decide ((ids.length : Int) ≤ s) = false := by rw [decide_eq_false_iff_not]; omega
  have d4 : decide ((ids.length : Int) - s < n) = false := by rw [decide_eq_false_iff_not]; omega
  have e1 : IntKind.i64.wrap ((ids.length : Int) - s) = ids.length - s := IntWalk.i64_in _ (by omega)
  have e2 : IntKind.i64.wrap (s + n) = s + n := IntWalk.i64_in _ (by omega)
  clear h hb hP g C hh
  go_enter Tryz.func107, Tryz.ntmps107
  go_wp2_with fail
  go_quiet (first | (go_at_call 129; with_reducible refine Calls.quiet_eq5 (HC.out _)))
  clear d1 d2 d3 d4 e1 e2 HC
  have hB9 := HBE.out.drewN nq
  have k0 : ((w.alloc (.cells #[.int .i64 s, .int .i64 n] 31)).drewN nq).cell? ⟨w.heap.size, 0, none⟩ = some (.int .i64 s) := (Bel.drewN (Bel.refl _) nq).cell c0
  have k1 : ((w.alloc (.cells #[.int .i64 s, .int .i64 n] 31)).drewN nq).cell? ⟨w.heap.size, 1, none⟩ = some (.int .i64 n) := (Bel.drewN (Bel.refl _) nq).cell c1
  have k2 : ((w.alloc (.cells #[.int .i64 s, .int .i64 n] 31)).drewN nq).cell? ⟨bx, 0, none⟩ = some (.slice (some ⟨bi, 0, none⟩) ids.length ids.length) := (Bel.drewN (Bel.refl _) nq).cell c2
  generalize (w.alloc (.cells #[.int .i64 s, .int .i64 n] 31)).drewN nq = W9 at hB9 k0 k1 k2 ⊢
  have HB9 := Lib.hid hB9
  clear c0 c1 c2 hB9 HBE
  obtain ⟨s, rfl⟩ := Int.eq_ofNat_of_zero_le b0
  obtain ⟨n, rfl⟩ := Int.eq_ofNat_of_zero_le (show 0 ≤ n by omega)
  have f1 : (s : Int) + n ≤ ids.length := by omega
  have f2 : s ≠ ids.length := by omega
  have f3 : IntKind.i64.wrap ((s : Int) + n) = (s : Int) + n := IntWalk.i64_in _ (by omega)
  go_wp2_with fail
  go_region
  go_wp2
  go_ret
  exact ⟨by simp, HB9.out.drew⟩
end Go.Proofs.YtbldidlbhahciaaGreat

namespace Go.Proofs.YtbldidlbhahciaaGreat
open Go.RowKit

theorem info_ints : (Tryz.prog.info? 22).map (fun i => (i.zero, i.size, i.bytes)) = some (some (.slice none 0 0), 1, 24) := by kernel_rfl
/-- A run's part: a slice of the numbers. -/
def partV (bi N : Nat) (r : Rn) : Value := .slice (some ⟨bi, r.1.toNat, none⟩) r.2.toNat (N - r.1.toNat)
/-- The parts of runs, in a row of one's own. -/
def Parts (w : World) (bi N : Nat) (rs : List Rn) (v : Value) (w' : World) : Prop := w'.ownsRow w.heap.size 22 1 v rs.length (rs.map (partV bi N)) ∧ Bel w w'

/-- What the parts of runs come to: all of them, or it is thrown. -/
def AllGot (w : World) (p : Value) (ids : List Int) (rs : List Rn) (e : Ending) (w' : World) : Prop :=
  (AllThere ids.length rs ∧ ∃ v bi, e = .returned v ∧ Parts w bi ids.length rs v w' ∧ ((p = .pointer none ∧ ids = []) ∨ ∃ bx, p = .pointer (some ⟨bx, 0, none⟩) ∧ IndexAt w bx bi ids)) ∨
  (¬ AllThere ids.length rs ∧ e = .panicked [{ v := wrongV 2, recovered := false }] ∧ Bel w w')
set_option maxHeartbeats 1000000 in
set_option maxRecDepth 20000 in
theorem index_all (p : Value) (ids : List Int) (a : Option Addr) (rs : List Rn) (n c : Nat) (w : World) (hP : IndexP w p ids) (hn : n = rs.length) (hl : rs.length ≤ 65536) (hr : RunsIn w a rs) (hi64 : ∀ r ∈ rs, I64 r.1 ∧ I64 r.2) :
    Calls Tryz.prog 88 #[p, .slice a n c] w (AllGot w p ids rs) := by
  subst hn
  obtain ⟨bi, hbi⟩ : ∃ bi, (p = .pointer none ∧ ids = []) ∨ ∃ bx, p = .pointer (some ⟨bx, 0, none⟩) ∧ IndexAt w bx bi ids := by
    rcases hP with h | ⟨bx, bi, e, h⟩
    · exact ⟨0, .inl h⟩
    · exact ⟨bi, .inr ⟨bx, e, h⟩⟩
  obtain ⟨i0, hi0, hz, hs, hby⟩ := info_parts info_ints
  have HR := Lib.hid hr
  have HBI := Lib.hid hbi
  have HI := Lib.hid hi64
  have HP := Lib.hid hP
  clear hr hbi hi64 hP
  go_enter Tryz.func88, Tryz.ntmps88
  go_wp2_with fail
  go_loopw [5, 10] (fun v k wr => ∃ i : Nat, i ≤ rs.length ∧ k = .int .i64 i ∧ Parts w bi ids.length (rs.take i) v wr ∧ Hid (∀ j (h : j < i) (h' : j < rs.length), there ids.length rs[j] = true)) (fun v k wr => rs.length - (intOf k).toNat)
  case atStart => exact ⟨0, Nat.zero_le _, rfl, ⟨World.ownsRow_nil _ _ _ _, Bel.refl _⟩, Lib.hid (fun j h => by omega)⟩
  case round =>
    obtain ⟨i, hi, rfl, ⟨hown, hB⟩, H0⟩ := hrel
    have hB9 := hB.size
    obtain ⟨av, cv, rfl, _⟩ := own_slice hown
    have hti : (rs.take i).length = i := by simp; omega
    rw [hti] at hown ⊢
    by_cases hlt : i < rs.length
    · obtain ⟨b, o, rfl, q0, q1⟩ := (HR.out.bel hB).at i hlt
      have hri := HI.out rs[i] (List.getElem_mem _)
      have HB := Lib.hid hB
      have HOW := Lib.hid hown
      by_cases hth : there ids.length rs[i] = true
      · have hst : (rs.take (i + 1)).map (partV bi ids.length) = (rs.take i).map (partV bi ids.length) ++ [partV bi ids.length rs[i]] := by rw [List.take_succ_eq_append_getElem hlt, List.map_append]; rfl
        have hH1 : Hid (∀ j (h : j < i + 1) (h' : j < rs.length), there ids.length rs[j] = true) := Lib.hid (fun j h h' => by
          rcases Nat.lt_or_ge j i with h9 | h9
          · exact H0.out j h9 h'
          · obtain rfl : j = i := by omega
            exact hth)
        obtain ⟨bx, hpe, hIx⟩ : ∃ bx, p = .pointer (some ⟨bx, 0, none⟩) ∧ IndexAt w bx bi ids := by
          rcases HBI.out with ⟨_, h⟩ | h
          · rw [h] at hth
            have := there_iff.1 hth
            simp at this; omega
          · exact h
        subst hpe
        have hC := index_part_ok bx bi ids rs[i] (wr.alloc (.cells #[.int .i64 rs[i].1, .int .i64 rs[i].2] 31)) ((hIx.bel hB).bel ((Bel.refl _).alloc _)) hth
        generalize rs[i] = r at q0 q1 hst hC
        obtain ⟨s, m⟩ := r
        dsimp only at q0 q1 hC
        have HC := Lib.hid hC
        have HST := Lib.hid hst
        clear hC hst hown hB hIx hth hri
        go_wp2_with fail
        refine HC.out.mono ?_
        rintro e w2 ⟨rfl, hB2⟩
        have hown2 := own_bel HOW.out (((Bel.refl wr).alloc (.cells #[.int .i64 s, .int .i64 m] 31)).trans hB2)
        have hB3 := Lib.hid ((HB.out.alloc (.cells #[.int .i64 s, .int .i64 m] 31)).trans hB2)
        have hs3 := hB3.out.size
        have hst2 : (rs.take (i + 1)).map (partV bi ids.length) = (rs.take i).map (partV bi ids.length) ++ [.slice (some ⟨bi, s.toNat, none⟩) m.toNat (ids.length - s.toNat)] := HST.out
        have HST2 := Lib.hid hst2
        have HOW2 := Lib.hid hown2
        clear hst2 hown2 hB2 q0 q1
        go_wp2_with (at_builtin; refine wpList_append_own _ rfl _ _ 142 rfl w.heap.size 22 i0 (.slice none 0 0) 1 24 Tryz.underlying142 hi0 hz hs hby rfl (by decide) _ _ _ rfl (HOW2.out.alloc _) ⟨w2.heap.size, 0, none⟩ 1 1 [.slice (some ⟨bi, s.toNat, none⟩) m.toNat (ids.length - s.toNat)] rfl rfl ?d2 ?d3 ?d4 ?d5 ?d6 ?_)
        try (case d2 => exact cell_one_new _ _ _)
        case d3 => simp [Value.oneCell']
        case d4 => unfold maxLen; omega
        case d5 => omega
        case d6 => first | omega | (simp; omega)
        intro v' w4 hown4 hgrow hnil
        have hB4 : Bel w w4 := bel_app HOW2.out hB3.out hgrow
        have HN : Hid (Parts w bi ids.length (rs.take (i + 1)) v' w4) := Lib.hid ⟨by
          have hl9 : (rs.take (i + 1)).length = i + 1 := by simp; omega
          rw [hl9, HST2.out]
          rw [← List.map_take] at hown4
          exact hown4, hB4⟩
        clear hown4 hgrow hnil hB4
        go_wp2
        go_roundw
        case rel => exact ⟨i + 1, by omega, by go_num, HN.out, hH1⟩
        case measure => simp [intOf]; omega
      · have HNA : Hid (¬ AllThere ids.length rs) := Lib.hid (fun h => hth (h _ (List.getElem_mem _)))
        have hC := index_part_out p ids rs[i] (wr.alloc (.cells #[.int .i64 rs[i].1, .int .i64 rs[i].2] 31)) ((HP.out.bel hB).bel ((Bel.refl _).alloc _)) hri.1 hri.2 (by simpa using hth)
        generalize rs[i] = r at q0 q1 hC
        obtain ⟨s, m⟩ := r
        dsimp only at q0 q1 hC
        have HC := Lib.hid hC
        clear hC hown hB hth hri
        go_wp2_with fail
        refine HC.out.mono ?_
        rintro e w2 ⟨rfl, hB2⟩
        go_wp2
        exact ⟨rfl, .inr ⟨HNA.out, rfl, (HB.out.alloc _).trans hB2⟩⟩
    · obtain rfl : i = rs.length := by omega
      rw [List.take_length] at hown
      go_wp2
      go_ret
      exact .inl ⟨fun r hr => by obtain ⟨j, hj, rfl⟩ := List.getElem_of_mem hr; exact H0.out j (by omega) hj, _, bi, rfl, ⟨hown, hB⟩, HBI.out⟩
end Go.Proofs.YtbldidlbhahciaaGreat

namespace Go.Proofs.YtbldidlbhahciaaGreat
open Go.RowKit

theorem IndexAt.set {w : World} {bx bi : Nat} {ids : List Int} (h : IndexAt w bx bi ids) (k : Nat) {v : Int} (hv : I64 v) : IndexAt (w.setCell ⟨bi, k, none⟩ (.int .i64 v)) bx bi (setW ids k v) := by
  refine ⟨h.ne, ?_, ?_, by rw [setW_length]; exact h.small, fun x hx => ?_⟩
  · rw [setW_length]; exact blk_setCell_other h.hd h.ne _
  · have := blk_setCell h.nums k (.int .i64 v)
    rw [this]
    congr 2
    simp [ints, setW, List.map_set]
  · rcases List.mem_or_eq_of_mem_set hx with h1 | h1
    · exact h.ok x h1
    · rw [h1]; exact hv
theorem fill_none (a : Option Addr) (c : Nat) (id : Int) (w : World) :
    Calls Tryz.prog 91 #[.slice a 0 c, .int .i64 id] w fun e w' => e = .returned (.tuple #[]) ∧ w = w' := by
  go_enter Tryz.func91, Tryz.ntmps91
  go_wp2_with fail
  go_loopw [9] (fun k wr => k = .int .i64 0 ∧ w = wr) (fun _ _ => 0)
  case atStart => exact ⟨rfl, rfl⟩
  case round =>
    obtain ⟨rfl, rfl⟩ := hrel
    go_wp2
    go_end0
    exact ⟨rfl, rfl⟩

set_option maxHeartbeats 1000000 in
set_option maxRecDepth 20000 in
theorem index_fill (bx bi : Nat) (ids : List Int) (id : Int) (a : Option Addr) (rs : List Rn) (n c : Nat) (w : World) (h : IndexAt w bx bi ids) (hn : n = rs.length) (hl : rs.length ≤ 65536) (hr : RdV w a (rs.map (partV bi ids.length))) (hab : ∀ p, a = some p → p.block ≠ bi)
    (ht : AllThere ids.length rs) (hid : I64 id) :
    Calls Tryz.prog 91 #[.slice a n c, .int .i64 id] w fun e w' => e = .returned (.tuple #[]) ∧ IndexAt w' bx bi (fillA ids id rs) ∧ Fr (fun k => k = bi) w w' := by
  subst hn
  have hsm := h.small
  have HI := Lib.hid h
  have HR := Lib.hid hr
  have HT := Lib.hid ht
  clear h hr ht
  go_enter Tryz.func91, Tryz.ntmps91
  go_wp2_with fail
  go_loopw [9] (fun k wr => ∃ i : Nat, i ≤ rs.length ∧ k = .int .i64 i ∧ IndexAt wr bx bi (fillA ids id (rs.take i)) ∧ Fr (fun k => k = bi) w wr) (fun k wr => rs.length - (intOf k).toNat)
  case atStart => exact ⟨0, Nat.zero_le _, rfl, by rw [List.take_zero, fillA_nil]; exact HI.out, Fr.refl _ _⟩
  case round =>
    obtain ⟨i, hi, rfl, hA, hF⟩ := hrel
    by_cases hlt : i < rs.length
    · obtain ⟨b, o, rfl, q0⟩ := (HR.out.fr hF hab).at (f := partV bi ids.length) (xs := rs) i hlt
      have hth := there_iff.1 (HT.out rs[i] (List.getElem_mem _))
      have hst : rs.take (i + 1) = rs.take i ++ [rs[i]] := List.take_succ_eq_append_getElem hlt
      generalize rs[i] = r at q0 hth hst
      obtain ⟨s, m⟩ := r
      obtain ⟨t0, t1, t2, t3⟩ := hth
      dsimp only at t0 t1 t2 t3
      obtain ⟨s, rfl⟩ := Int.eq_ofNat_of_zero_le t0
      obtain ⟨m, rfl⟩ := Int.eq_ofNat_of_zero_le (show 0 ≤ m by omega)
      have q : wr.cell? ⟨b, o + i, none⟩ = some (.slice (some ⟨bi, s, none⟩) m (ids.length - s)) := q0
      have HST := Lib.hid hst
      have HA := Lib.hid hA
      have HF := Lib.hid hF
      have f1 : s + m ≤ ids.length := by omega
      clear q0 hst hA hF t0 t1 t2 t3
      go_wp2_with fail
      clear q
      go_loopw [15] (fun k wr => ∃ j : Nat, j ≤ m ∧ k = .int .i64 j ∧ IndexAt wr bx bi (fillA ids id (rs.take i ++ [((s : Int), (j : Int))])) ∧ Fr (fun k => k = bi) w wr) (fun k wr => m - (intOf k).toNat)
      case atStart => exact ⟨0, Nat.zero_le _, rfl, by rw [fillA_zero]; exact HA.out, HF.out⟩
      case round =>
        obtain ⟨j, hj, rfl, hA2, hF2⟩ := hrel
        by_cases hlt2 : j < m
        · have hln : (fillA ids id (rs.take i ++ [((s : Int), (j : Int))])).length = ids.length := fillA_length _ _ _
          have hcell := hA2.num (s + j) (by rw [hln]; omega)
          have hfz := blk_frozen hA2.nums (s + j)
          have hstep := fillA_step (ids := ids) (id := id) (s := s) (i := j) (L := rs.take i) (by omega) (by omega)
          have hset := hA2.set (s + j) hid
          rw [show ((s + j : Nat) : Int) = (s : Int) + j by omega, hstep] at hset
          have HSET := Lib.hid hset
          have HF2 := Lib.hid hF2
          generalize (fillA ids id (rs.take i ++ [((s : Int), (j : Int))]))[s + j]'(by rw [hln]; omega) = y at hcell
          clear hA2 hF2 hstep hset hln
          go_wp2
          go_roundw
          case rel => exact ⟨j + 1, by omega, by go_num, HSET.out, HF2.out.setCell (.inl rfl) _⟩
          case measure => simp [intOf]; omega
        · obtain rfl : j = m := by omega
          go_wp2
          go_roundw
          case rel => exact ⟨i + 1, by omega, by go_num, by rw [HST.out]; exact hA2, hF2⟩
          case measure => simp [intOf]; omega
    · obtain rfl : i = rs.length := by omega
      rw [List.take_length] at hA
      go_wp2
      go_end0
      exact ⟨rfl, hA, hF⟩
end Go.Proofs.YtbldidlbhahciaaGreat

namespace Go.Proofs.YtbldidlbhahciaaGreat
open Go.RowKit

theorem index_int (a : Option Addr) (xs : List Int) (x : Int) (n c : Nat) (w : World) (hn : n = xs.length) (hl : xs.length ≤ maxLen) (hrd : RdV w a (xs.map (.int .i64))) :
    Calls Tryz.prog 132 #[.slice a n c, .int .i64 x] w fun e w' => e = .returned (.int .i64 (idxF (fun y => x == y) xs)) ∧ w = w' := by
  subst hn
  unfold maxLen at hl
  go_enter Tryz.func132, Tryz.ntmps132
  go_wp2
  go_loop [8] (fun k => ∃ m : Nat, m ≤ xs.length ∧ k = .int .i64 m ∧ Hid (∀ j (hj : j < m) (hj' : j < xs.length), (x == xs[j]) = false)) (fun k => xs.length - (intOf k).toNat)
  case atStart => exact ⟨0, Nat.zero_le _, rfl, Lib.hid (fun j hj => by omega)⟩
  case round =>
    obtain ⟨m, hm, rfl, H0⟩ := hrel
    by_cases hlt : m < xs.length
    · obtain ⟨b, o, rfl, hc⟩ := hrd.at m hlt
      have HR := Lib.hid hrd
      clear hrd
      cases hq : x == xs[m]
      · have HX := Lib.hid hq
        go_wp2
        go_round
        case rel => exact ⟨m + 1, by omega, by go_num, Lib.hid (fun j hj hj' => by
          rcases Nat.lt_or_ge j m with h | h
          · exact H0.out j h hj'
          · obtain rfl : j = m := by omega
            exact HX.out)⟩
        case measure => simp [intOf]; omega
      · have H2 : Hid (idxF (fun y => x == y) xs = m) := Lib.hid (idxF_at _ xs m hlt (fun j hj => H0.out j hj (by omega)) hq)
        go_wp2
        go_ret
        exact ⟨ret_i H2.out, rfl⟩
    · have H2 : Hid (idxF (fun y => x == y) xs = -1) := Lib.hid (idxF_none _ xs (fun j hj => H0.out j (by omega) hj))
      go_wp2
      go_ret
      exact ⟨ret_i H2.out, rfl⟩

theorem contains_int (a : Option Addr) (xs : List Int) (x : Int) (n c : Nat) (w : World) (hn : n = xs.length) (hl : xs.length ≤ maxLen) (hrd : RdV w a (xs.map (.int .i64))) :
    Calls Tryz.prog 111 #[.slice a n c, .int .i64 x] w fun e w' => e = .returned (.bool (decide (x ∈ xs))) ∧ w = w' := by
  subst hn
  have H : Hid (decide (x ∈ xs) = decide (0 ≤ idxF (fun y => x == y) xs)) := Lib.hid (by
    have := idxF_ge (fun y => x == y) xs
    rw [Bool.eq_iff_iff, decide_eq_true_eq, decide_eq_true_eq]
    simp only [ge_iff_le, List.any_eq_true, beq_iff_eq, eq_iff_iff] at this
    rw [this]
    exact ⟨fun h => ⟨x, h, rfl⟩, fun ⟨y, h, e⟩ => e ▸ h⟩)
  go_enter Tryz.func111, Tryz.ntmps111
  go_wp2_with fail
  refine (index_int a xs x _ c w rfl hl hrd).mono ?_
  rintro e W' ⟨rfl, rfl⟩
  go_wp2
  go_ret
  exact ⟨ret_b H.out, rfl⟩
end Go.Proofs.YtbldidlbhahciaaGreat

namespace Go.Proofs.YtbldidlbhahciaaGreat
open Go.RowKit

theorem IndexAt.part {w : World} {bx bi : Nat} {ids : List Int} (h : IndexAt w bx bi ids) {r : Rn} (ht : there ids.length r = true) : RdV w (some ⟨bi, r.1.toNat, none⟩) (ints (partN ids r)) := by
  obtain ⟨s, m⟩ := r
  obtain ⟨t0, t1, t2, t3⟩ := there_iff.1 ht
  dsimp only at t0 t1 t2 t3
  obtain ⟨s, rfl⟩ := Int.eq_ofNat_of_zero_le t0
  obtain ⟨m, rfl⟩ := Int.eq_ofNat_of_zero_le (show 0 ≤ m by omega)
  have hl : s + m ≤ ids.length := by omega
  refine .inr ⟨bi, s, rfl, fun t ht2 => ?_⟩
  have ht3 : t < m := by simpa [ints, partN_length hl] using ht2
  rw [h.num (s + t) (by omega)]
  have h1 := partN_get (ids := ids) (s := s) ht3 hl
  have h2 : (ints (partN ids ((s : Int), (m : Int))))[t]? = some (.int .i64 (wd ids ((s + t : Nat) : Int))) := by
    unfold ints; rw [List.getElem?_map, h1]; rfl
  rw [List.getElem?_eq_getElem ht2] at h2
  rw [h2]
  unfold wd
  rw [Int.toNat_natCast, List.getD_eq_getElem?_getD, List.getElem?_eq_getElem (by omega)]
  rfl
/-- What an act on an index leaves. -/
def IPost (w : World) (bx bi : Nat) (r : List Int × Int) (e : Ending) (w' : World) : Prop := e = .returned (.int .i64 r.2) ∧ IndexAt w' bx bi r.1 ∧ Fr (fun k => k = bi) w w'

theorem IndexAt.same {w : World} {bx bi bi' : Nat} {ids ids' : List Int} (h : IndexAt w bx bi ids) (h' : IndexAt w bx bi' ids') : bi' = bi := by
  have := h.hd.symm.trans h'.hd
  simp at this
  exact this.1.symm
/-- Behind what was thrown, and caught. -/
theorem thrown_end {w w1 : World} {bx bi : Nat} {ids : List Int} (h : IndexAt w bx bi ids) (hB : Bel w w1) (v : Value) (o : Obj) :
    IndexAt ((w1.setCell ⟨w.heap.size, 0, none⟩ v).alloc o) bx bi ids ∧ Fr (fun k => k = bi) w ((w1.setCell ⟨w.heap.size, 0, none⟩ v).alloc o) := by
  have hbx := heap_lt h.hd
  have hbi := heap_lt h.nums
  have hF : Fr (fun _ => False) w ((w1.setCell ⟨w.heap.size, 0, none⟩ v).alloc o) := ((Fr.of_bel hB).setCell (.inr (Nat.le_refl _)) v).alloc o
  have hB2 := Fr.bel hF (fun k h => h.elim)
  exact ⟨h.bel hB2, Fr.of_bel hB2⟩

set_option maxHeartbeats 2000000 in
set_option maxRecDepth 20000 in
theorem index_Drop (bx bi : Nat) (ids : List Int) (a : Option Addr) (rs : List Rn) (n c : Nat) (w : World) (h : IndexAt w bx bi ids) (hn : n = rs.length) (hl : rs.length ≤ 65536) (hr : RunsIn w a rs) (hi64 : ∀ r ∈ rs, I64 r.1 ∧ I64 r.2) :
    Calls Tryz.prog 94 #[.pointer (some ⟨bx, 0, none⟩), .slice a n c] w (IPost w bx bi (putF ids 0 rs true)) := by
  subst hn
  have hbx := heap_lt h.hd
  have hbi := heap_lt h.nums
  have hsm := h.small
  have hB0 : Bel w (w.alloc (.cells #[.int .i64 0] 24)) := (Bel.refl _).alloc _
  have hcon := index_all (.pointer (some ⟨bx, 0, none⟩)) ids a rs rs.length c (w.alloc (.cells #[.int .i64 0] 24)) (.inr ⟨bx, bi, rfl, h.bel hB0⟩) rfl hl (hr.bel hB0) hi64
  have g0 := blk_alloc w (.cells #[.int .i64 0] 24)
  have HC := Lib.hid hcon
  have HI := Lib.hid h
  have HB0 := Lib.hid hB0
  have HG := Lib.hid g0
  clear hcon h hr hB0 hi64 g0
  go_enter_defers Tryz.func94, Tryz.ntmps94
  go_wp2_with fail
  refine HC.out.mono ?_
  rintro e w1 (⟨hat, v, bi', rfl, ⟨hown, hB1⟩, hpe⟩ | ⟨hno, rfl, hB1⟩)
  · obtain ⟨bx', e1, hI1⟩ : ∃ bx', Value.pointer (some ⟨bx, 0, none⟩) = .pointer (some ⟨bx', 0, none⟩) ∧ IndexAt (w.alloc (.cells #[.int .i64 0] 24)) bx' bi' ids := by
      rcases hpe with ⟨h, _⟩ | h
      · cases h
      · exact h
    cases e1
    have hbb : bi' = bi := (HI.out.bel HB0.out).same hI1
    subst hbb
    obtain ⟨av, cv, rfl, hrv, _, hpv⟩ := own_slice2 hown
    rw [World.size_alloc] at hpv
    have hs1 := hB1.size
    have HRV := Lib.hid hrv
    have HB1 := Lib.hid hB1
    have HAT := Lib.hid hat
    clear hown hrv hB1 hat hpe hI1 HC
    go_wp2_with fail
    go_loopw [13] (fun k wr => ∃ i : Nat, i ≤ rs.length ∧ k = .int .i64 i ∧ Bel w1 wr ∧ Hid (∀ j (h : j < i) (h' : j < rs.length), (0 : Int) ∉ partN ids rs[j])) (fun k wr => rs.length - (intOf k).toNat)
    case atStart => exact ⟨0, Nat.zero_le _, rfl, Bel.refl _, Lib.hid (fun j h => by omega)⟩
    case round =>
      obtain ⟨i, hi, rfl, hB2, H0⟩ := hrel
      have HB2 := Lib.hid ((HB0.out.trans HB1.out).trans hB2)
      by_cases hlt : i < rs.length
      · obtain ⟨b, o, rfl, q0⟩ := (HRV.out.bel hB2).at (f := partV bi' ids.length) (xs := rs) i hlt
        have hth := HAT.out rs[i] (List.getElem_mem _)
        have hcon := contains_int (some ⟨bi', rs[i].1.toNat, none⟩) (partN ids rs[i]) 0 rs[i].2.toNat (ids.length - rs[i].1.toNat) wr (by
          have h1 := there_iff.1 hth
          unfold partN; simp; omega) (by unfold partN maxLen; simp; omega) ((HI.out.bel HB2.out).part hth)
        by_cases hz : (0 : Int) ∈ partN ids rs[i]
        · have HP := Lib.hid (drop_bad (id := 0) HAT.out (fun h => (each_iff HAT.out).1 h _ (List.getElem_mem hlt) hz))
          rw [decide_eq_true hz] at hcon
          have HCON := Lib.hid hcon
          have q : wr.cell? ⟨b, o + i, none⟩ = some (.slice (some ⟨bi', rs[i].1.toNat, none⟩) rs[i].2.toNat (ids.length - rs[i].1.toNat)) := q0
          have hg1 := (Fr.of_bel (S := fun _ => False) (HB1.out.trans hB2)).heap HG.out (fun h => h)
          generalize rs[i] = r at q HCON
          clear q0 hth hcon hz
          go_wp2_with fail
          refine HCON.out.mono ?_
          rintro e w3 ⟨rfl, rfl⟩
          go_wp2_with fail
          refine (must_not 9 wr).mono ?_
          rintro e w3 ⟨rfl, rfl⟩
          go_wp2
          refine leaves_cons (f := 86) (args := #[.pointer (some ⟨w.heap.size, 0, none⟩)]) (by simp) (by simp [go_sem]) ?_
          refine (icaught_out 9 w.heap.size (.int .i64 0) _ [] (heap_lt hg1) (blk_cell hg1 0) (blk_frozen hg1 0)).mono ?_
          rintro e u' w'' ⟨rfl, rfl, rfl⟩
          have hte := thrown_end HI.out HB2.out (.int .i64 9) (.cells #[.int .i64 9] 162)
          have hcc := cell_set_same (blk_cell hg1 0) (.int .i64 9)
          have hsz := heap_lt hg1
          rw [HP.out]
          simp [Leaves, settle, results, Tryz.results94, go_sem, hcc, hsz]
          exact ⟨rfl, hte.1, hte.2⟩
        · have hH1 : Hid (∀ j (h : j < i + 1) (h' : j < rs.length), (0 : Int) ∉ partN ids rs[j]) := Lib.hid (fun j h h' => by
            rcases Nat.lt_or_ge j i with h9 | h9
            · exact H0.out j h9 h'
            · obtain rfl : j = i := by omega
              exact hz)
          rw [decide_eq_false hz] at hcon
          have HCON := Lib.hid hcon
          have HBB := Lib.hid hB2
          have q : wr.cell? ⟨b, o + i, none⟩ = some (.slice (some ⟨bi', rs[i].1.toNat, none⟩) rs[i].2.toNat (ids.length - rs[i].1.toNat)) := q0
          generalize rs[i] = r at q HCON
          clear q0 hth hcon hz hB2
          go_wp2_with fail
          refine HCON.out.mono ?_
          rintro e w3 ⟨rfl, rfl⟩
          go_wp2_with fail
          refine (must_holds 9 wr).mono ?_
          rintro e w3 ⟨rfl, rfl⟩
          go_wp2
          go_roundw
          case rel => exact ⟨i + 1, by omega, by go_num, HBB.out, hH1⟩
          case measure => simp [intOf]; omega
      · obtain rfl : i = rs.length := by omega
        have HP := Lib.hid (drop_ok (id := 0) HAT.out ((each_iff HAT.out).2 (fun r hr => by obtain ⟨j, hj, rfl⟩ := List.getElem_of_mem hr; exact H0.out j (by omega) hj)))
        have hcon := index_fill bx bi' ids 0 av rs rs.length cv wr (HI.out.bel HB2.out) rfl hl (HRV.out.bel hB2) (fun p hp => by have := hpv p hp; omega) HAT.out ⟨by omega, by omega⟩
        have HCON := Lib.hid hcon
        have hg1 := (Fr.of_bel (S := fun _ => False) (HB1.out.trans hB2)).heap HG.out (fun h => h)
        have HG1 := Lib.hid hg1
        clear hcon hB2 hg1
        go_wp2_with fail
        refine HCON.out.mono ?_
        rintro e w3 ⟨rfl, hI3, hF3⟩
        have hg3 := hF3.heap HG1.out (by show ¬ w.heap.size = bi'; omega)
        have hF4 := ((Fr.of_bel (S := fun k => k = bi') HB2.out).trans' hF3).setCell (p := ⟨w.heap.size, 0, none⟩) (.inr (Nat.le_refl _)) (.int .i64 0)
        have hI4 : IndexAt (w3.setCell ⟨w.heap.size, 0, none⟩ (.int .i64 0)) bx bi' (fillA ids 0 rs) := hI3.fr (S := fun k => k = w.heap.size) (Fr.setCell (S := fun k => k = w.heap.size) (Fr.refl _ _) (.inl rfl) _) (by omega) (by omega)
        have hc3 := blk_cell hg3 0
        have hf3 := blk_frozen hg3 0
        have hcc := cell_set_same hc3 (.int .i64 0)
        have HEND := Lib.hid (And.intro hI4 hF4)
        clear hI3 hF3 hI4 hF4 hg3
        go_wp2
        refine leaves_cons (f := 86) (args := #[.pointer (some ⟨w.heap.size, 0, none⟩)]) (by simp) (by simp [go_sem]) ?_
        refine (icaught_idle _ _).mono ?_
        rintro e u' w'' ⟨rfl, rfl, rfl⟩
        rw [HP.out]
        simp [Leaves, settle, results, Tryz.results94, go_sem, hcc]
        exact ⟨rfl, HEND.out.1, HEND.out.2⟩
  · have hg1 := (Fr.of_bel (S := fun _ => False) hB1).heap HG.out (fun h => h)
    have hP := putF_out (id := 0) (drop := true) (by simp) hno
    rw [hP]
    go_wp2
    refine leaves_cons (f := 86) (args := #[.pointer (some ⟨w.heap.size, 0, none⟩)]) (by simp) (by simp [go_sem]) ?_
    refine (icaught_out 2 w.heap.size (.int .i64 0) _ [] (heap_lt hg1) (blk_cell hg1 0) (blk_frozen hg1 0)).mono ?_
    rintro e u' w'' ⟨rfl, rfl, rfl⟩
    have hte := thrown_end HI.out (HB0.out.trans hB1) (.int .i64 2) (.cells #[.int .i64 2] 162)
    have hcc := cell_set_same (blk_cell hg1 0) (.int .i64 2)
    have hsz := heap_lt hg1
    simp [Leaves, settle, results, Tryz.results94, go_sem, hcc, hsz]
    exact ⟨rfl, hte.1, hte.2⟩
end Go.Proofs.YtbldidlbhahciaaGreat

namespace Go.Proofs.YtbldidlbhahciaaGreat
open Go.RowKit

theorem RunsIn.at5 {w : World} {a : Option Addr} {rs : List Rn} {n c : Nat} (h : RunsIn w a rs) (hn : n = rs.length) : RunsAt w.heap.size w (.slice a n c) rs := by
  subst hn
  rcases h with rfl | ⟨b, o, rfl, h⟩
  · exact .inl ⟨a, c, rfl, rfl⟩
  · by_cases h0 : rs = []
    · subst h0; exact .inl ⟨_, c, rfl, rfl⟩
    · have hp : 0 < rs.length := List.length_pos_iff.2 h0
      refine .inr ⟨b, o, c, rfl, World.block_lt_of_cell? w _ (h 0 hp).1, fun j hj => ?_⟩
      have := h j hj
      rw [List.getElem?_eq_getElem hj]
      exact this
theorem set1_asks (xs : List Int) (w : World) : AsksI (fun w w' => w = w') 89 #[] (fun n => n != 0) xs w := by
  rintro W rfl x hx
  go_enter Tryz.func89, Tryz.ntmps89
  go_wp2
  go_ret
  exact ⟨rfl, rfl⟩
theorem set1_enters : Enters 89 := enters_of Tryz.func89 (by kernel_rfl) rfl

set_option maxHeartbeats 2000000 in
set_option maxRecDepth 20000 in
theorem index_Set (bx bi : Nat) (ids : List Int) (id : Int) (a : Option Addr) (rs : List Rn) (n c : Nat) (w : World) (h : IndexAt w bx bi ids) (hn : n = rs.length) (hl : rs.length ≤ 65536) (hr : RunsIn w a rs) (hi64 : ∀ r ∈ rs, I64 r.1 ∧ I64 r.2) (hid : I64 id) :
    Calls Tryz.prog 60 #[.pointer (some ⟨bx, 0, none⟩), .int .i64 id, .slice a n c] w (IPost w bx bi (putF ids id rs false)) := by
  subst hn
  have hbx := heap_lt h.hd
  have hbi := heap_lt h.nums
  have hsm := h.small
  have hB0 : Bel w (w.alloc (.cells #[.int .i64 0] 24)) := (Bel.refl _).alloc _
  have hcon := index_all (.pointer (some ⟨bx, 0, none⟩)) ids a rs rs.length c (w.alloc (.cells #[.int .i64 0] 24)) (.inr ⟨bx, bi, rfl, h.bel hB0⟩) rfl hl (hr.bel hB0) hi64
  have g0 := blk_alloc w (.cells #[.int .i64 0] 24)
  have HC := Lib.hid hcon
  have HI := Lib.hid h
  have HB0 := Lib.hid hB0
  have HG := Lib.hid g0
  have HR := Lib.hid hr
  obtain ⟨id0, id1⟩ := hid
  clear hcon h hr hB0 hi64 g0
  by_cases c1 : id < 1
  · have HP := Lib.hid (putF_arg (ids := ids) (rs := rs) c1)
    have d1 : decide (1 ≤ id) = false := by rw [decide_eq_false_iff_not]; omega
    have hg1 := HG.out
    go_enter_defers Tryz.func60, Tryz.ntmps60
    go_wp2_with fail
    refine (must_not 1 _).mono ?_
    rintro e w3 ⟨rfl, rfl⟩
    go_wp2
    refine leaves_cons (f := 86) (args := #[.pointer (some ⟨w.heap.size, 0, none⟩)]) (by simp) (by simp [go_sem]) ?_
    refine (icaught_out 1 w.heap.size (.int .i64 0) _ [] (heap_lt hg1) (blk_cell hg1 0) (blk_frozen hg1 0)).mono ?_
    rintro e u' w'' ⟨rfl, rfl, rfl⟩
    have hcc := cell_set_same (blk_cell hg1 0) (.int .i64 1)
    have hsz := heap_lt hg1
    rw [HP.out]
    simp [Leaves, settle, results, Tryz.results60, go_sem, hcc]
    exact ⟨rfl, HI.out.bel (((Bel.refl w).alloc _).alloc _), Fr.of_bel (((Bel.refl w).alloc _).alloc _)⟩
  have d1 : decide (1 ≤ id) = true := by rw [decide_eq_true_eq]; omega
  have hid1 : 1 ≤ id := by omega
  go_enter_defers Tryz.func60, Tryz.ntmps60
  go_wp2_with fail
  refine (must_holds 1 _).mono ?_
  rintro e w3 ⟨rfl, rfl⟩
  go_wp2_with fail
  refine HC.out.mono ?_
  rintro e w1 (⟨hat, v, bi', rfl, ⟨hown, hB1⟩, hpe⟩ | ⟨hno, rfl, hB1⟩)
  · obtain ⟨bx', e1, hI1⟩ : ∃ bx', Value.pointer (some ⟨bx, 0, none⟩) = .pointer (some ⟨bx', 0, none⟩) ∧ IndexAt (w.alloc (.cells #[.int .i64 0] 24)) bx' bi' ids := by
      rcases hpe with ⟨h, _⟩ | h
      · cases h
      · exact h
    cases e1
    have hbb : bi' = bi := (HI.out.bel HB0.out).same hI1
    subst hbb
    obtain ⟨av, cv, rfl, hrv, _, hpv⟩ := own_slice2 hown
    rw [World.size_alloc] at hpv
    have hs1 := hB1.size
    have HRV := Lib.hid hrv
    have HB1 := Lib.hid hB1
    have HAT := Lib.hid hat
    clear hown hrv hB1 hat hpe hI1 HC
    go_wp2_with fail
    go_loopw [18] (fun k wr => ∃ i : Nat, i ≤ rs.length ∧ k = .int .i64 i ∧ Bel w1 wr ∧ Hid (∀ j (h : j < i) (h' : j < rs.length), (partN ids rs[j]).any (fun n => n != 0) = false)) (fun k wr => rs.length - (intOf k).toNat)
    case atStart => exact ⟨0, Nat.zero_le _, rfl, Bel.refl _, Lib.hid (fun j h => by omega)⟩
    case round =>
      obtain ⟨i, hi, rfl, hB2, H0⟩ := hrel
      have HB2 := Lib.hid ((HB0.out.trans HB1.out).trans hB2)
      by_cases hlt : i < rs.length
      · obtain ⟨b, o, rfl, q0⟩ := (HRV.out.bel hB2).at (f := partV bi' ids.length) (xs := rs) i hlt
        have hth := HAT.out rs[i] (List.getElem_mem _)
        have hcon := containsFunc_int quiet_eq 89 set1_enters #[] (fun n => n != 0) (some ⟨bi', rs[i].1.toNat, none⟩) (partN ids rs[i]) rs[i].2.toNat (ids.length - rs[i].1.toNat) wr (by
          have h1 := there_iff.1 hth
          unfold partN; simp; omega) (by unfold partN maxLen; simp; omega) ((HI.out.bel HB2.out).part hth) (set1_asks _ _)
        by_cases hz : (partN ids rs[i]).any (fun n => n != 0) = true
        · have HP := Lib.hid (set_bad hid1 HAT.out (fun h => by have := (none_iff HAT.out).1 h.1 _ (List.getElem_mem hlt); rw [hz] at this; cases this))
          rw [hz] at hcon
          have HCON := Lib.hid hcon
          have q : wr.cell? ⟨b, o + i, none⟩ = some (.slice (some ⟨bi', rs[i].1.toNat, none⟩) rs[i].2.toNat (ids.length - rs[i].1.toNat)) := q0
          have hg1 := (Fr.of_bel (S := fun _ => False) (HB1.out.trans hB2)).heap HG.out (fun h => h)
          generalize rs[i] = r at q HCON
          clear q0 hth hcon hz
          go_wp2_with fail
          refine HCON.out.mono ?_
          rintro e w3 ⟨rfl, rfl⟩
          go_wp2_with fail
          refine (must_not 9 wr).mono ?_
          rintro e w3 ⟨rfl, rfl⟩
          go_wp2
          refine leaves_cons (f := 86) (args := #[.pointer (some ⟨w.heap.size, 0, none⟩)]) (by simp) (by simp [go_sem]) ?_
          refine (icaught_out 9 w.heap.size (.int .i64 0) _ [] (heap_lt hg1) (blk_cell hg1 0) (blk_frozen hg1 0)).mono ?_
          rintro e u' w'' ⟨rfl, rfl, rfl⟩
          have hte := thrown_end HI.out HB2.out (.int .i64 9) (.cells #[.int .i64 9] 162)
          have hcc := cell_set_same (blk_cell hg1 0) (.int .i64 9)
          have hsz := heap_lt hg1
          rw [HP.out]
          simp [Leaves, settle, results, Tryz.results60, go_sem, hcc, hsz]
          exact ⟨rfl, hte.1, hte.2⟩
        · have hH1 : Hid (∀ j (h : j < i + 1) (h' : j < rs.length), (partN ids rs[j]).any (fun n => n != 0) = false) := Lib.hid (fun j h h' => by
            rcases Nat.lt_or_ge j i with h9 | h9
            · exact H0.out j h9 h'
            · obtain rfl : j = i := by omega
              simpa using hz)
          rw [show (partN ids rs[i]).any (fun n => n != 0) = false by simpa using hz] at hcon
          have HCON := Lib.hid hcon
          have HBB := Lib.hid hB2
          have q : wr.cell? ⟨b, o + i, none⟩ = some (.slice (some ⟨bi', rs[i].1.toNat, none⟩) rs[i].2.toNat (ids.length - rs[i].1.toNat)) := q0
          generalize rs[i] = r at q HCON
          clear q0 hth hcon hz hB2
          go_wp2_with fail
          refine HCON.out.mono ?_
          rintro e w3 ⟨rfl, rfl⟩
          go_wp2_with fail
          refine (must_holds 9 wr).mono ?_
          rintro e w3 ⟨rfl, rfl⟩
          go_wp2
          go_roundw
          case rel => exact ⟨i + 1, by omega, by go_num, HBB.out, hH1⟩
          case measure => simp [intOf]; omega
      · obtain rfl : i = rs.length := by omega
        have hnone := (none_iff HAT.out).2 (fun r hr => by obtain ⟨j, hj, rfl⟩ := List.getElem_of_mem hr; exact H0.out j (by omega) hj)
        have hcon := index_apart a rs.length c rs rfl hl (fun r hr => by have := there_iff.1 (HAT.out r hr); omega) wr ((HR.out.bel HB2.out).at5 rfl)
        have HAP := Lib.hid hcon
        have HNO := Lib.hid hnone
        have hg1 := (Fr.of_bel (S := fun _ => False) (HB1.out.trans hB2)).heap HG.out (fun h => h)
        have HG0 := Lib.hid hg1
        have HBZ := Lib.hid hB2
        clear hcon hnone hB2 hg1
        go_wp2_with fail
        refine HAP.out.mono ?_
        rintro e wz ⟨bq, rfl, hiff, hBz⟩
        have HB2' := Lib.hid (HB2.out.trans hBz)
        have hB2 := HBZ.out.trans hBz
        cases bq
        · have HP := Lib.hid (set_bad (ids := ids) hid1 HAT.out (fun h => by have := hiff.2 h.2; cases this))
          have hg1 := (Fr.of_bel (S := fun _ => False) hBz).heap HG0.out (fun h => h)
          clear hiff hBz hB2
          go_wp2_with fail
          refine (must_not 9 wz).mono ?_
          rintro e w3 ⟨rfl, rfl⟩
          go_wp2
          refine leaves_cons (f := 86) (args := #[.pointer (some ⟨w.heap.size, 0, none⟩)]) (by simp) (by simp [go_sem]) ?_
          refine (icaught_out 9 w.heap.size (.int .i64 0) _ [] (heap_lt hg1) (blk_cell hg1 0) (blk_frozen hg1 0)).mono ?_
          rintro e u' w'' ⟨rfl, rfl, rfl⟩
          have hte := thrown_end HI.out HB2'.out (.int .i64 9) (.cells #[.int .i64 9] 162)
          have hcc := cell_set_same (blk_cell hg1 0) (.int .i64 9)
          have hsz := heap_lt hg1
          rw [HP.out]
          simp [Leaves, settle, results, Tryz.results60, go_sem, hcc, hsz]
          exact ⟨rfl, hte.1, hte.2⟩
        have HP := Lib.hid (set_ok (ids := ids) hid1 HAT.out HNO.out (hiff.1 rfl))
        clear hiff
        go_wp2_with fail
        refine (must_holds 9 wz).mono ?_
        rintro e w3 ⟨rfl, rfl⟩
        have hcon := index_fill bx bi' ids id av rs rs.length cv wz (HI.out.bel HB2'.out) rfl hl (HRV.out.bel hB2) (fun p hp => by have := hpv p hp; omega) HAT.out ⟨by omega, by omega⟩
        have HCON := Lib.hid hcon
        have hg1 := (Fr.of_bel (S := fun _ => False) (HB1.out.trans hB2)).heap HG.out (fun h => h)
        have HG1 := Lib.hid hg1
        clear hcon hB2 hg1
        go_wp2_with fail
        refine HCON.out.mono ?_
        rintro e w3 ⟨rfl, hI3, hF3⟩
        have hg3 := hF3.heap HG1.out (by show ¬ w.heap.size = bi'; omega)
        have hF4 := ((Fr.of_bel (S := fun k => k = bi') HB2'.out).trans' hF3).setCell (p := ⟨w.heap.size, 0, none⟩) (.inr (Nat.le_refl _)) (.int .i64 0)
        have hI4 : IndexAt (w3.setCell ⟨w.heap.size, 0, none⟩ (.int .i64 0)) bx bi' (fillA ids id rs) := hI3.fr (S := fun k => k = w.heap.size) (Fr.setCell (S := fun k => k = w.heap.size) (Fr.refl _ _) (.inl rfl) _) (by omega) (by omega)
        have hc3 := blk_cell hg3 0
        have hf3 := blk_frozen hg3 0
        have hcc := cell_set_same hc3 (.int .i64 0)
        have HEND := Lib.hid (And.intro hI4 hF4)
        clear hI3 hF3 hI4 hF4 hg3
        go_wp2
        refine leaves_cons (f := 86) (args := #[.pointer (some ⟨w.heap.size, 0, none⟩)]) (by simp) (by simp [go_sem]) ?_
        refine (icaught_idle _ _).mono ?_
        rintro e u' w'' ⟨rfl, rfl, rfl⟩
        rw [HP.out]
        simp [Leaves, settle, results, Tryz.results60, go_sem, hcc]
        exact ⟨rfl, HEND.out.1, HEND.out.2⟩
  · have hg1 := (Fr.of_bel (S := fun _ => False) hB1).heap HG.out (fun h => h)
    have hP := putF_out (id := id) (drop := false) (by rintro ⟨_, h⟩; omega) hno
    rw [hP]
    go_wp2
    refine leaves_cons (f := 86) (args := #[.pointer (some ⟨w.heap.size, 0, none⟩)]) (by simp) (by simp [go_sem]) ?_
    refine (icaught_out 2 w.heap.size (.int .i64 0) _ [] (heap_lt hg1) (blk_cell hg1 0) (blk_frozen hg1 0)).mono ?_
    rintro e u' w'' ⟨rfl, rfl, rfl⟩
    have hte := thrown_end HI.out (HB0.out.trans hB1) (.int .i64 2) (.cells #[.int .i64 2] 162)
    have hcc := cell_set_same (blk_cell hg1 0) (.int .i64 2)
    have hsz := heap_lt hg1
    simp [Leaves, settle, results, Tryz.results60, go_sem, hcc, hsz]
    exact ⟨rfl, hte.1, hte.2⟩
end Go.Proofs.YtbldidlbhahciaaGreat
