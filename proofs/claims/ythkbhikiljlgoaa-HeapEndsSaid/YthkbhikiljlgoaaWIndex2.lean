/- Package index: New; what is thrown, and caught; a run's part. -/
import Derived.Test.YthkbhikiljlgoaaWIndex
import Derived.Deep.QuietTactic
import Derived.BigQuiet
namespace Go.Proofs.Ythkbhikiljlgoaa
open Go.RowKit

theorem info_int5 : (Try.prog.info? 3).map (fun i => (i.zero, i.size, i.bytes)) = some (some (.int .i64 0), 1, 8) := by kernel_rfl
theorem made_one5 (z : Value) (n : Nat) : madeCells #[z] n = (List.replicate n z).toArray := by
  unfold madeCells
  apply Array.ext
  · simp
  · intro i h1 h2
    simp [Nat.mod_one]
theorem run_make_int (n : Nat) (w : World) (hn : n ≤ 65536) :
    (Instr.makeSlice 28 (.int .i64 n) (.int .i64 n)).run Try.prog w = .ok (.slice (some ⟨w.heap.size, 0, none⟩) n n) (w.alloc (.cells (ints (List.replicate n 0)).toArray 3)) := by
  obtain ⟨i, hi, hz, hs, hb⟩ := info_parts info_int5
  have := run_make (P := Try.prog) w 28 3 i (.int .i64 0) Try.underlying28 hi hz .i64 .i64 n n (by omega) (by omega) (by rw [hb]; omega) (by omega)
  rw [this, hs]
  simp [made_one5, ints, Value.cells]

/-- How many pages an index has. -/
def pagesF (pages : Int) : Nat := (max 0 (min pages 1024)).toNat
theorem pagesF_le (pages : Int) : pagesF pages ≤ 1024 := by unfold pagesF; omega
set_option maxRecDepth 20000 in
theorem index_New (pages : Int) (w : World) (hp : I64 pages) :
    Calls Try.prog 16 #[.int .i64 pages] w fun e w' => ∃ bx, e = .returned (.pointer (some ⟨bx, 0, none⟩)) ∧ w.heap.size < bx ∧ IndexAt w' bx w.heap.size (List.replicate (pagesF pages) 0) ∧ Bel w w' := by
  obtain ⟨p0, p1⟩ := hp
  have hle := pagesF_le pages
  have hm := run_make_int (pagesF pages) w (by omega)
  have HEND : Hid (IndexAt ((w.alloc (.cells (ints (List.replicate (pagesF pages) 0)).toArray 3)).alloc (.cells #[.slice (some ⟨w.heap.size, 0, none⟩) (pagesF pages) (pagesF pages)] 74)) (w.heap.size + 1) w.heap.size (List.replicate (pagesF pages) 0)) := Lib.hid (by
    refine ⟨by omega, ?_, blk_alloc_old _ (blk_alloc _ _), by simp; omega, fun x hx => by simp at hx; rw [hx.2]; exact ⟨by omega, by omega⟩⟩
    have := blk_alloc (w.alloc (.cells (ints (List.replicate (pagesF pages) 0)).toArray 3)) (.cells #[.slice (some ⟨w.heap.size, 0, none⟩) (pagesF pages) (pagesF pages)] 74)
    rw [World.size_alloc] at this
    simpa using this)
  obtain ⟨cs, hcs⟩ : ∃ cs, (ints (List.replicate (pagesF pages) 0)).toArray = cs := ⟨_, rfl⟩
  rw [hcs] at hm HEND
  have hcase : (pages < 0 ∧ pagesF pages = 0) ∨ (1024 < pages ∧ pagesF pages = 1024) ∨ (0 ≤ pages ∧ pages ≤ 1024 ∧ (pagesF pages : Int) = pages) := by unfold pagesF; omega
  clear hcs
  rcases hcase with ⟨c, hn⟩ | ⟨c, hn⟩ | ⟨c1, c2, hn⟩
  · rw [hn] at hm HEND ⊢
    rw [show ((0 : Nat) : Int) = 0 from rfl] at hm
    have m1 : min pages 1024 = pages := by omega
    have m2 : max 0 pages = 0 := by omega
    clear hn hle
    go_enter Try.func16, Try.ntmps16
    go_wp2
    go_ret
    exact ⟨w.heap.size + 1, by simp, by omega, HEND.out, ((Bel.refl w).alloc _).alloc _⟩
  · rw [hn] at hm HEND ⊢
    rw [show ((1024 : Nat) : Int) = 1024 from rfl] at hm
    have m1 : min pages 1024 = 1024 := by omega
    have m2 : max 0 (1024 : Int) = 1024 := by decide
    clear hn hle
    go_enter Try.func16, Try.ntmps16
    go_wp2
    go_ret
    exact ⟨w.heap.size + 1, by simp, by omega, HEND.out, ((Bel.refl w).alloc _).alloc _⟩
  · rw [hn] at hm
    have m1 : min pages 1024 = pages := by omega
    have m2 : max 0 pages = pages := by omega
    clear hn
    go_enter Try.func16, Try.ntmps16
    go_wp2
    go_ret
    exact ⟨w.heap.size + 1, by simp, by omega, HEND.out, ((Bel.refl w).alloc _).alloc _⟩

/-! ### caught -/
theorem ta_wrong (e : Int) (w : World) : (Instr.typeAssert (wrongV e) 20 95 true).run Try.prog w = .ok (.tuple #[.agg #[.int .i64 e], .bool true]) w := by kernel_rfl
theorem icaught_idle (p : Addr) (w : World) :
    CallsD Try.prog 30 #[.pointer (some p)] .returning w fun e u' w' => e = .returned (.tuple #[]) ∧ u' = .returning ∧ w' = w := by
  refine callsD_of_wpS Try.func30 rfl fun c₀ cs hu => ?_
  simp only [Try.ntmps30, List.size_toArray, List.length_cons, List.length_nil, Nat.reduceAdd, Nat.reduceSub, Array.replicate_succ, Array.replicate_zero, List.push_toArray, List.append_toArray, List.nil_append, List.cons_append]
  apply wpS_seq
  apply wpS_region
  simp [wpOpsS, go_sem, recoverD, hu, Exit.thenS]
  refine wpS_of_wp ?_
  go_wp2
  cases c₀
  simp_all [bodyPostS, results, Try.results30]
theorem icaught_out (e : Int) (b : Nat) (x : Value) (w : World) (older : List PanicEntry) (hb : b < w.heap.size) (hc : w.cell? ⟨b, 0, none⟩ = some x) (hz : w.frozen? ⟨b, 0, none⟩ = false) :
    CallsD Try.prog 30 #[.pointer (some ⟨b, 0, none⟩)] (.panicking ({ v := wrongV e, recovered := false } :: older)) w fun en u' w' =>
      en = .returned (.tuple #[]) ∧ u' = .panicking ({ v := wrongV e, recovered := true } :: older) ∧ w' = (w.setCell ⟨b, 0, none⟩ (.int .i64 e)).alloc (.cells #[.int .i64 e] 95) := by
  refine callsD_of_wpS Try.func30 rfl fun c₀ cs hu => ?_
  simp only [Try.ntmps30, List.size_toArray, List.length_cons, List.length_nil, Nat.reduceAdd, Nat.reduceSub, Array.replicate_succ, Array.replicate_zero, List.push_toArray, List.append_toArray, List.nil_append, List.cons_append]
  apply wpS_seq
  apply wpS_region
  simp [wpOpsS, go_sem, recoverD, hu, Exit.thenS]
  refine wpS_of_wp ?_
  have hta := ta_wrong e
  have hne : b ≠ w.heap.size := by omega
  go_wp2
  cases c₀
  simp_all [bodyPostS, results, Try.results30]

/-! ### a run's part -/
theorem Calls.quiet_eq5 {P : Program} {f : FuncId} {args : Array Value} {w : World} {n : Nat} {v : Value}
    (h : Calls P f args (w.drewN n) fun e w' => e = .returned v ∧ w.drewN n = w') : Calls P f args (w.drewN n) fun e w'' => e = .returned v ∧ ∃ m, w'' = w.drewN m :=
  h.mono fun _ _ ⟨he, hm⟩ => ⟨he, n, hm.symm⟩
set_option maxHeartbeats 1000000 in
set_option maxRecDepth 20000 in
theorem index_part_out (p : Value) (ids : List Int) (r : Rn) (w : World) (h : IndexP w p ids) (h1 : I64 r.1) (h2 : I64 r.2) (hb : there ids.length r = false) :
    Calls Try.prog 48 #[p, .agg #[.int .i64 r.1, .int .i64 r.2]] w fun e w' => e = .panicked [{ v := wrongV 2, recovered := false }] ∧ Bel w w' := by
  obtain ⟨s, n⟩ := r
  dsimp only at *
  have hsm := h.small
  have hc : s < 0 ∨ (¬ s < 0 ∧ n < 1) ∨ (¬ s < 0 ∧ ¬ n < 1 ∧ (ids.length : Int) ≤ s) ∨ (¬ s < 0 ∧ ¬ n < 1 ∧ ¬ (ids.length : Int) ≤ s ∧ (ids.length : Int) - s < n) := by
    have := there_iff (n := ids.length) (r := (s, n))
    rw [hb] at this
    simp only [Bool.false_eq_true, false_iff] at this
    omega
  have hP := h.bel ((Bel.refl w).alloc (.cells #[.int .i64 s, .int .i64 n] 33))
  have HBE := Lib.hid ((Bel.refl w).alloc (.cells #[.int .i64 s, .int .i64 n] 33))
  have g := blk_alloc w (.cells #[.int .i64 s, .int .i64 n] 33)
  have c0 : (w.alloc (.cells #[.int .i64 s, .int .i64 n] 33)).cell? ⟨w.heap.size, 0, none⟩ = some (.int .i64 s) := blk_cell g 0
  have c1 : (w.alloc (.cells #[.int .i64 s, .int .i64 n] 33)).cell? ⟨w.heap.size, 1, none⟩ = some (.int .i64 n) := blk_cell g 1
  have C : ∀ nq, Calls Try.prog 29 #[p] ((w.alloc (.cells #[.int .i64 s, .int .i64 n] 33)).drewN nq) fun e w' => e = .returned (.int .i64 ids.length) ∧ (w.alloc (.cells #[.int .i64 s, .int .i64 n] 33)).drewN nq = w' := fun nq =>
    index_Pages p ids _ (hP.bel (Bel.drewN (Bel.refl _) _))
  have HC := Lib.hid C
  obtain ⟨s0, s1⟩ := h1
  obtain ⟨n0, n1⟩ := h2
  clear h hb hP g C
  rcases hc with a1 | ⟨a1, a2⟩ | ⟨a1, a2, a3⟩ | ⟨a1, a2, a3, a4⟩
  · have d1 : decide (s < 0) = true := by simpa using a1
    go_enter Try.func48, Try.ntmps48
    go_wp2_with fail
    go_quiet (first | (go_at_call 29; with_reducible refine Calls.quiet_eq5 (HC.out _)))
    go_wp2
    exact ⟨rfl, rfl, HBE.out.drewN _⟩
  · have d1 : decide (s < 0) = false := by simpa using a1
    have d2 : decide (n < 1) = true := by simpa using a2
    go_enter Try.func48, Try.ntmps48
    go_wp2_with fail
    go_quiet (first | (go_at_call 29; with_reducible refine Calls.quiet_eq5 (HC.out _)))
    go_wp2
    exact ⟨rfl, rfl, HBE.out.drewN _⟩
  · have d1 : decide (s < 0) = false := by simpa using a1
    have d2 : decide (n < 1) = false := by simpa using a2
    have d3 : decide ((ids.length : Int) ≤ s) = true := by simpa using a3
    go_enter Try.func48, Try.ntmps48
    go_wp2_with fail
    go_quiet (first | (go_at_call 29; with_reducible refine Calls.quiet_eq5 (HC.out _)))
    go_wp2
    exact ⟨rfl, rfl, HBE.out.drewN _⟩
  · have d1 : decide (s < 0) = false := by simpa using a1
    have d2 : decide (n < 1) = false := by simpa using a2
    have d3 : decide ((ids.length : Int) ≤ s) = false := by simpa using a3
    have e1 : IntKind.i64.wrap ((ids.length : Int) - s) = ids.length - s := IntWalk.i64_in _ (by omega)
    go_enter Try.func48, Try.ntmps48
    go_wp2_with fail
    go_quiet (first | (go_at_call 29; with_reducible refine Calls.quiet_eq5 (HC.out _)))
    go_wp2
    exact ⟨rfl, rfl, HBE.out.drewN _⟩
set_option maxHeartbeats 1000000 in
set_option maxRecDepth 20000 in
theorem index_part_ok (bx bi : Nat) (ids : List Int) (r : Rn) (w : World) (h : IndexAt w bx bi ids) (hb : there ids.length r = true) :
    Calls Try.prog 48 #[.pointer (some ⟨bx, 0, none⟩), .agg #[.int .i64 r.1, .int .i64 r.2]] w fun e w' => e = .returned (.slice (some ⟨bi, r.1.toNat, none⟩) r.2.toNat (ids.length - r.1.toNat)) ∧ Bel w w' := by
  obtain ⟨s, n⟩ := r
  obtain ⟨b0, b1, b2, b3⟩ := there_iff.1 hb
  dsimp only at *
  have hsm := h.small
  have hP : IndexP (w.alloc (.cells #[.int .i64 s, .int .i64 n] 33)) (.pointer (some ⟨bx, 0, none⟩)) ids := .inr ⟨bx, bi, rfl, h.bel ((Bel.refl w).alloc _)⟩
  have HBE := Lib.hid ((Bel.refl w).alloc (.cells #[.int .i64 s, .int .i64 n] 33))
  have g := blk_alloc w (.cells #[.int .i64 s, .int .i64 n] 33)
  have c0 : (w.alloc (.cells #[.int .i64 s, .int .i64 n] 33)).cell? ⟨w.heap.size, 0, none⟩ = some (.int .i64 s) := blk_cell g 0
  have c1 : (w.alloc (.cells #[.int .i64 s, .int .i64 n] 33)).cell? ⟨w.heap.size, 1, none⟩ = some (.int .i64 n) := blk_cell g 1
  have hh := (h.bel ((Bel.refl w).alloc (.cells #[.int .i64 s, .int .i64 n] 33))).hd
  have c2 : (w.alloc (.cells #[.int .i64 s, .int .i64 n] 33)).cell? ⟨bx, 0, none⟩ = some (.slice (some ⟨bi, 0, none⟩) ids.length ids.length) := blk_cell hh 0
  have C : ∀ nq, Calls Try.prog 29 #[.pointer (some ⟨bx, 0, none⟩)] ((w.alloc (.cells #[.int .i64 s, .int .i64 n] 33)).drewN nq) fun e w' => e = .returned (.int .i64 ids.length) ∧ (w.alloc (.cells #[.int .i64 s, .int .i64 n] 33)).drewN nq = w' := fun nq =>
    index_Pages _ ids _ (hP.bel (Bel.drewN (Bel.refl _) _))
  have HC := Lib.hid C
  have d1 : decide (s < 0) = false := by rw [decide_eq_false_iff_not]; omega
  have d2 : decide (n < 1) = false := by rw [decide_eq_false_iff_not]; omega
  have d3 : decide ((ids.length : Int) ≤ s) = false := by rw [decide_eq_false_iff_not]; omega
  have d4 : decide ((ids.length : Int) - s < n) = false := by rw [decide_eq_false_iff_not]; omega
  have e1 : IntKind.i64.wrap ((ids.length : Int) - s) = ids.length - s := IntWalk.i64_in _ (by omega)
  have e2 : IntKind.i64.wrap (s + n) = s + n := IntWalk.i64_in _ (by omega)
  clear h hb hP g C hh
  go_enter Try.func48, Try.ntmps48
  go_wp2_with fail
  go_quiet (first | (go_at_call 29; with_reducible refine Calls.quiet_eq5 (HC.out _)))
  clear d1 d2 d3 d4 e1 e2 HC
  have hB9 := HBE.out.drewN nq
  have k0 : ((w.alloc (.cells #[.int .i64 s, .int .i64 n] 33)).drewN nq).cell? ⟨w.heap.size, 0, none⟩ = some (.int .i64 s) := (Bel.drewN (Bel.refl _) nq).cell c0
  have k1 : ((w.alloc (.cells #[.int .i64 s, .int .i64 n] 33)).drewN nq).cell? ⟨w.heap.size, 1, none⟩ = some (.int .i64 n) := (Bel.drewN (Bel.refl _) nq).cell c1
  have k2 : ((w.alloc (.cells #[.int .i64 s, .int .i64 n] 33)).drewN nq).cell? ⟨bx, 0, none⟩ = some (.slice (some ⟨bi, 0, none⟩) ids.length ids.length) := (Bel.drewN (Bel.refl _) nq).cell c2
  generalize (w.alloc (.cells #[.int .i64 s, .int .i64 n] 33)).drewN nq = W9 at hB9 k0 k1 k2 ⊢
  have HB9 := Lib.hid hB9
  clear c0 c1 c2 hB9 HBE
  obtain ⟨s, rfl⟩ := Int.eq_ofNat_of_zero_le b0
  obtain ⟨n, rfl⟩ := Int.eq_ofNat_of_zero_le (show 0 ≤ n by omega)
  have f1 : (s : Int) + n ≤ ids.length := by omega
  have f2 : s ≠ ids.length := by omega
  have f3 : IntKind.i64.wrap ((s : Int) + n) = (s : Int) + n := IntWalk.i64_in _ (by omega)
  go_wp2_with fail
  go_region
  go_wp2
  go_ret
  exact ⟨by simp, HB9.out.drew⟩
end Go.Proofs.Ythkbhikiljlgoaa
