/- Package arena: what its functions come to. -/
import Derived.Test.YtnehccndghkakaaSlice
import Derived.Recover
import Derived.Defers
namespace Go.Proofs.Ytnehccndghkakaa
open Go.RowKit

/-- What is thrown where words aren't there. -/
abbrev outsideV : Value := .iface 81 (.agg #[])

theorem ta_outside (w : World) : (Instr.typeAssert outsideV 20 81 true).run Try.prog w = .ok (.tuple #[.agg #[], .bool true]) w := by kernel_rfl

theorem caught_idle (p : Addr) (w : World) :
    CallsD Try.prog 25 #[.pointer (some p)] .returning w fun e u' w' => e = .returned (.tuple #[]) ∧ u' = .returning ∧ w' = w := by
  refine callsD_of_wpS Try.func25 rfl fun c₀ cs hu => ?_
  simp only [Try.ntmps25, List.size_toArray, List.length_cons, List.length_nil, Nat.reduceAdd, Nat.reduceSub, Array.replicate_succ, Array.replicate_zero, List.push_toArray, List.append_toArray, List.nil_append, List.cons_append]
  apply wpS_seq
  apply wpS_region
  simp [wpOpsS, go_sem, recoverD, hu, Exit.thenS]
  refine wpS_of_wp ?_
  go_wp2
  cases c₀
  simp_all [bodyPostS, results, Try.results25]

theorem caught_out (b : Nat) (x : Value) (w : World) (older : List PanicEntry) (hb : b < w.heap.size) (hc : w.cell? ⟨b, 0, none⟩ = some x) (hz : w.frozen? ⟨b, 0, none⟩ = false) :
    CallsD Try.prog 25 #[.pointer (some ⟨b, 0, none⟩)] (.panicking ({ v := outsideV, recovered := false } :: older)) w fun e u' w' =>
      e = .returned (.tuple #[]) ∧ u' = .panicking ({ v := outsideV, recovered := true } :: older) ∧ w' = (w.setCell ⟨b, 0, none⟩ (.int .i64 2)).alloc (.cells #[] 81) := by
  refine callsD_of_wpS Try.func25 rfl fun c₀ cs hu => ?_
  simp only [Try.ntmps25, List.size_toArray, List.length_cons, List.length_nil, Nat.reduceAdd, Nat.reduceSub, Array.replicate_succ, Array.replicate_zero, List.push_toArray, List.append_toArray, List.nil_append, List.cons_append]
  apply wpS_seq
  apply wpS_region
  simp [wpOpsS, go_sem, recoverD, hu, Exit.thenS]
  refine wpS_of_wp ?_
  have hta := ta_outside
  go_wp2
  cases c₀
  simp_all [bodyPostS, results, Try.results25]

/-! ### Words, In, part -/
/-- The words of an arena: its struct is block ba, its words are block bw. -/
structure ArenaAt (w : World) (ba bw : Nat) (ws : List Int) : Prop where
  ne : ba ≠ bw
  hd : w.heap[ba]? = some (.cells #[.slice (some ⟨bw, 0, none⟩) ws.length ws.length] 65 (0, 0))
  words : w.heap[bw]? = some (.cells (u64s ws).toArray 30 (0, 0))
  small : ws.length ≤ 65536
  wf : ∀ x ∈ ws, 0 ≤ x ∧ x ≤ 18446744073709551615

/-- An arena's pointer: nil (it has no words), or it leads to one. -/
def ArenaP (w : World) (p : Value) (ws : List Int) : Prop := (p = .pointer none ∧ ws = []) ∨ ∃ ba bw, p = .pointer (some ⟨ba, 0, none⟩) ∧ ArenaAt w ba bw ws

def inB (len at_ n : Int) : Bool := decide (0 ≤ n) && decide (0 ≤ at_) && decide (at_ ≤ len) && decide (n ≤ len - at_)

theorem arena_Words (p : Value) (ws : List Int) (w : World) (h : ArenaP w p ws) :
    Calls Try.prog 40 #[p] w fun e w' => e = .returned (.int .i64 ws.length) ∧ w = w' := by
  rcases h with ⟨rfl, rfl⟩ | ⟨ba, bw, rfl, h⟩
  · go_enter Try.func40, Try.ntmps40
    go_wp2
    go_ret
    exact ⟨rfl, rfl⟩
  · have hc : w.cell? ⟨ba, 0, none⟩ = some (.slice (some ⟨bw, 0, none⟩) ws.length ws.length) := by rw [blk_cell h.hd]; rfl
    go_enter Try.func40, Try.ntmps40
    go_wp2
    go_ret
    exact ⟨rfl, rfl⟩

theorem arenaP_small {w : World} {p : Value} {ws : List Int} (h : ArenaP w p ws) : ws.length ≤ 65536 := by
  rcases h with ⟨_, rfl⟩ | ⟨_, _, _, h⟩
  · simp
  · exact h.small

theorem arena_In (p : Value) (ws : List Int) (at_ n : Int) (w : World) (h : ArenaP w p ws) (ha : I64 at_) (hn : I64 n) :
    Calls Try.prog 32 #[p, .int .i64 at_, .int .i64 n] w fun e w' => e = .returned (.bool (inB ws.length at_ n)) ∧ w = w' := by
  have hs := arenaP_small h
  obtain ⟨a0, a1⟩ := ha
  obtain ⟨n0, n1⟩ := hn
  have H : Hid (inB ws.length at_ n = (decide (0 ≤ n) && decide (0 ≤ at_) && decide (at_ ≤ ws.length) && decide (n ≤ ws.length - at_))) := Lib.hid rfl
  by_cases c1 : 0 ≤ n ∧ 0 ≤ at_ ∧ at_ ≤ ws.length
  · obtain ⟨c1, c2, c3⟩ := c1
    have HT : Hid (inB ws.length at_ n = decide (n ≤ ws.length - at_)) := Lib.hid (by rw [H.out]; simp [c1, c2, c3])
    go_enter Try.func32, Try.ntmps32
    go_wp2_with fail
    refine (arena_Words p ws _ h).mono ?_; rintro e w' ⟨rfl, rfl⟩
    go_wp2
    go_ret
    exact ⟨ret_b HT.out, rfl⟩
  · have HT : Hid (inB ws.length at_ n = false) := Lib.hid (by rw [H.out]; simp; omega)
    have c2 : ¬ 0 ≤ n ∨ (0 ≤ n ∧ ¬ 0 ≤ at_) ∨ (0 ≤ n ∧ 0 ≤ at_ ∧ ¬ at_ ≤ ws.length) := by omega
    clear c1
    rcases c2 with c | ⟨c1, c⟩ | ⟨c1, c2, c⟩
    all_goals
      go_enter Try.func32, Try.ntmps32
      go_wp2_with fail
      refine (arena_Words p ws _ h).mono ?_; rintro e w' ⟨rfl, rfl⟩
      go_wp2
      go_ret
      exact ⟨ret_b HT.out, rfl⟩

theorem inB_iff {len at_ n : Int} : inB len at_ n = true ↔ 0 ≤ n ∧ 0 ≤ at_ ∧ at_ ≤ len ∧ n ≤ len - at_ := by
  simp [inB, and_assoc]

/-- The words aren't there: it is thrown. -/
theorem arena_part_out (p : Value) (ws : List Int) (at_ n : Int) (w : World) (h : ArenaP w p ws) (ha : I64 at_) (hn : I64 n) (hb : inB ws.length at_ n = false) :
    Calls Try.prog 26 #[p, .int .i64 at_, .int .i64 n] w fun e w' => e = .panicked [{ v := outsideV, recovered := false }] ∧ w = w' := by
  have HB := Lib.hid hb
  clear hb
  go_enter Try.func26, Try.ntmps26
  go_wp2_with fail
  refine (arena_In p ws at_ n _ h ha hn).mono ?_; rintro e w' ⟨rfl, rfl⟩
  rw [HB.out]
  go_wp2
  exact ⟨rfl, rfl, rfl⟩

/-- No words. -/
theorem arena_part_none (p : Value) (ws : List Int) (at_ : Int) (w : World) (h : ArenaP w p ws) (ha : I64 at_) (hb : inB ws.length at_ 0 = true) :
    Calls Try.prog 26 #[p, .int .i64 at_, .int .i64 0] w fun e w' => e = .returned (.slice none 0 0) ∧ w = w' := by
  have HB := Lib.hid hb
  clear hb
  go_enter Try.func26, Try.ntmps26
  go_wp2_with fail
  refine (arena_In p ws at_ 0 _ h ha ⟨by omega, by omega⟩).mono ?_; rintro e w' ⟨rfl, rfl⟩
  rw [HB.out]
  go_wp2
  go_ret
  exact ⟨rfl, rfl⟩

/-- Some words. -/
theorem arena_part_some (ba bw : Nat) (ws : List Int) (at_ n : Int) (w : World) (h : ArenaAt w ba bw ws) (hb : inB ws.length at_ n = true) (hn0 : n ≠ 0) :
    Calls Try.prog 26 #[.pointer (some ⟨ba, 0, none⟩), .int .i64 at_, .int .i64 n] w fun e w' =>
      e = .returned (.slice (some ⟨bw, at_.toNat, none⟩) n.toNat (ws.length - at_.toNat)) ∧ w = w' := by
  obtain ⟨b0, b1, b2, b3⟩ := inB_iff.1 hb
  have HB := Lib.hid hb
  have hs := h.small
  have hc : w.cell? ⟨ba, 0, none⟩ = some (.slice (some ⟨bw, 0, none⟩) ws.length ws.length) := by rw [blk_cell h.hd]; rfl
  obtain ⟨a, rfl⟩ := Int.eq_ofNat_of_zero_le b1
  obtain ⟨m, rfl⟩ := Int.eq_ofNat_of_zero_le b0
  have hm : ((m : Int) == 0) = false := by rw [beq_eq_false_iff_ne]; exact hn0
  have hne : ¬ ws.length = a := by omega
  clear hb hn0
  go_enter Try.func26, Try.ntmps26
  go_wp2_with fail
  refine (arena_In _ ws a m _ (.inr ⟨ba, bw, rfl, h⟩) ⟨by omega, by omega⟩ ⟨by omega, by omega⟩).mono ?_; rintro e w' ⟨rfl, rfl⟩
  rw [HB.out]
  go_wp2
  go_ret
  exact ⟨ret_v (by simp), rfl⟩

theorem arenaP_at {w : World} {p : Value} {ws : List Int} (h : ArenaP w p ws) {at_ n : Int} (hb : inB ws.length at_ n = true) (hn : n ≠ 0) :
    ∃ ba bw, p = .pointer (some ⟨ba, 0, none⟩) ∧ ArenaAt w ba bw ws := by
  rcases h with ⟨_, rfl⟩ | h
  · have := inB_iff.1 hb; simp at this; omega
  · exact h

theorem ArenaAt.bel {w w' : World} {ba bw : Nat} {ws : List Int} (h : ArenaAt w ba bw ws) (k : Bel w w') : ArenaAt w' ba bw ws :=
  ⟨h.ne, (k.block ba (heap_lt h.hd)).trans h.hd, (k.block bw (heap_lt h.words)).trans h.words, h.small, h.wf⟩
theorem ArenaAt.fr {S : Nat → Prop} {w w' : World} {ba bw : Nat} {ws : List Int} (h : ArenaAt w ba bw ws) (k : Fr S w w') (h1 : ¬ S ba) (h2 : ¬ S bw) : ArenaAt w' ba bw ws :=
  ⟨h.ne, k.heap h.hd h1, k.heap h.words h2, h.small, h.wf⟩
theorem ArenaP.bel {w w' : World} {p : Value} {ws : List Int} (h : ArenaP w p ws) (k : Bel w w') : ArenaP w' p ws := by
  rcases h with h | ⟨ba, bw, e, h⟩
  · exact .inl h
  · exact .inr ⟨ba, bw, e, h.bel k⟩
theorem ArenaAt.word {w : World} {ba bw : Nat} {ws : List Int} (h : ArenaAt w ba bw ws) (i : Nat) (hi : i < ws.length) : w.cell? ⟨bw, i, none⟩ = some (.int .u64 ws[i]) := by
  rw [blk_cell h.words]; simp [u64s, hi]

/-- Load: the word. -/
theorem arena_Load_some (p : Value) (ws : List Int) (at_ : Nat) (w : World) (h : ArenaP w p ws) (hb : at_ < ws.length) :
    Calls Try.prog 19 #[p, .int .i64 at_] w fun e w' => e = .returned (.tuple #[.int .u64 ws[at_], .int .i64 0]) ∧ Bel w w' := by
  have hs := arenaP_small h
  have hB : inB ws.length at_ 1 = true := inB_iff.2 ⟨by omega, by omega, by omega, by omega⟩
  obtain ⟨ba, bw, rfl, hA⟩ := arenaP_at h hB (by omega)
  have hA2 := fun o => hA.bel ((Bel.refl w).alloc o)
  have hc : w.cell? ⟨bw, at_, none⟩ = some (.int .u64 ws[at_]) := hA.word at_ hb
  have hlt := heap_lt hA.words
  have HA := Lib.hid hA2
  clear hA2 h
  go_enter_defers Try.func19, Try.ntmps19
  go_wp2_with fail
  refine (arena_part_some ba bw ws at_ 1 _ (HA.out _) hB (by omega)).mono ?_; rintro e w' ⟨rfl, rfl⟩
  go_wp2
  refine leaves_cons (f := 25) (args := #[.pointer (some ⟨w.heap.size, 0, none⟩)]) (by simp) (by simp [go_sem]) ?_
  refine (caught_idle _ _).mono ?_
  rintro e u' w'' ⟨rfl, rfl, rfl⟩
  simp [Leaves, settle, results, Try.results19, go_sem]
  exact (Bel.refl _).alloc _

theorem arena_Load_out (p : Value) (ws : List Int) (at_ : Int) (w : World) (h : ArenaP w p ws) (ha : I64 at_) (hb : inB ws.length at_ 1 = false) :
    Calls Try.prog 19 #[p, .int .i64 at_] w fun e w' => e = .returned (.tuple #[.int .u64 0, .int .i64 2]) ∧ Bel w w' := by
  have HA := Lib.hid (fun o => h.bel ((Bel.refl w).alloc o))
  go_enter_defers Try.func19, Try.ntmps19
  go_wp2_with fail
  refine (arena_part_out p ws at_ 1 _ (HA.out _) ha ⟨by omega, by omega⟩ hb).mono ?_; rintro e w' ⟨rfl, rfl⟩
  go_wp2
  refine leaves_cons (f := 25) (args := #[.pointer (some ⟨w.heap.size, 0, none⟩)]) (by simp) (by simp [go_sem]) ?_
  refine (caught_out w.heap.size (.int .i64 0) _ [] (by simp) (by simp [go_sem]) (by simp [go_sem])).mono ?_
  rintro e u' w'' ⟨rfl, rfl, rfl⟩
  simp [Leaves, settle, results, Try.results19, go_sem]
  exact ((Bel.refl _).alloc _).alloc _

/-! ### New -/
theorem made_one (z : Value) (n : Nat) : madeCells #[z] n = (List.replicate n z).toArray := by
  unfold madeCells
  apply Array.ext
  · simp
  · intro i h1 h2
    simp [Nat.mod_one]

theorem info_u64 : (Try.prog.info? 30).map (fun i => (i.zero, i.size, i.bytes)) = some (some (.int .u64 0), 1, 8) := by kernel_rfl

theorem run_make_u64 (n : Nat) (w : World) (hn : n ≤ 65536) :
    (Instr.makeSlice 22 (.int .i64 n) (.int .i64 n)).run Try.prog w = .ok (.slice (some ⟨w.heap.size, 0, none⟩) n n) (w.alloc (.cells (u64s (List.replicate n 0)).toArray 30)) := by
  obtain ⟨i, hi, hz, hs, hb⟩ := info_parts info_u64
  have := run_make (P := Try.prog) w 22 30 i (.int .u64 0) Try.underlying22 hi hz .i64 .i64 n n (by omega) (by omega) (by rw [hb]; omega) (by omega)
  rw [this, hs]
  simp [made_one, u64s, Value.cells]

theorem arena_New_out (pages : Int) (w : World) (hp : I64 pages) (h : pages < 4 ∨ 1024 < pages) :
    Calls Try.prog 8 #[.int .i64 pages] w fun e w' => e = .returned (.tuple #[.pointer none, .int .i64 1]) ∧ w = w' := by
  obtain ⟨h0, h1⟩ := hp
  rcases h with h | h
  · go_enter Try.func8, Try.ntmps8
    go_wp2
    go_ret2
    exact ⟨rfl, rfl⟩
  · go_enter Try.func8, Try.ntmps8
    go_wp2
    go_ret2
    exact ⟨rfl, rfl⟩

set_option maxRecDepth 20000 in
theorem arena_New_ok (pages : Nat) (w : World) (h0 : 4 ≤ pages) (h1 : pages ≤ 1024) :
    Calls Try.prog 8 #[.int .i64 pages] w fun e w' => ∃ ba, e = .returned (.tuple #[.pointer (some ⟨ba, 0, none⟩), .int .i64 0]) ∧
      w.heap.size < ba ∧ ArenaAt w' ba w.heap.size (List.replicate (64 * pages) 0) ∧ Bel w w' := by
  have hm := run_make_u64 (64 * pages) w (by omega)
  rw [show ((64 * pages : Nat) : Int) = (pages : Int) * 64 by omega] at hm
  obtain ⟨cs, hcs⟩ : ∃ cs, (u64s (List.replicate (64 * pages) 0)).toArray = cs := ⟨_, rfl⟩
  rw [hcs] at hm
  have HC := Lib.hid hcs
  clear hcs
  go_enter Try.func8, Try.ntmps8
  go_wp2
  go_ret2
  have e : (List.replicate (64 * pages) (0 : Int)).length = 64 * pages := List.length_replicate
  refine ⟨_, rfl, by omega, ⟨by omega, ?_, ?_, by omega, ?_⟩, ((Bel.refl _).alloc _).alloc _⟩
  · rw [e]
    have := blk_alloc (w.alloc (.cells cs 30)) (.cells #[.slice (some ⟨w.heap.size, 0, none⟩) (64 * pages) (64 * pages)] 65)
    rw [World.size_alloc] at this
    exact this
  · rw [HC.out]
    exact blk_alloc_old _ (blk_alloc w _)
  · intro x hx
    rw [List.eq_of_mem_replicate hx]
    exact ⟨by omega, by omega⟩

/-! ### Store -/
theorem info_u64s : (Try.prog.info? 30).map (·.size) = some 1 := by kernel_rfl

/-- The words behind a store. -/
def putW (ws : List Int) (at_ : Int) (xs : List Int) : List Int := splice ws at_.toNat xs

theorem ArenaAt.put {W W1 : World} {ba bw : Nat} {ws xs : List Int} {o : Nat} (h : ArenaAt W ba bw ws) (hfit : o + xs.length ≤ ws.length) (hx : ∀ x ∈ xs, 0 ≤ x ∧ x ≤ 18446744073709551615)
    (hb : W1.heap[bw]? = some (.cells (splice (u64s ws) o (u64s xs)).toArray 30 (0, 0))) (hf : Fr (fun k => k = bw) W W1) : ArenaAt W1 ba bw (splice ws o xs) := by
  have e := splice_length ws o xs hfit
  refine ⟨h.ne, ?_, ?_, by rw [e]; exact h.small, fun x hm => ?_⟩
  · rw [e]; exact hf.heap h.hd h.ne
  · rw [hb]; simp [u64s, splice_map]
  · rcases splice_mem hm with h1 | h1
    · exact h.wf x h1
    · exact hx x h1

theorem arena_Store_out (p : Value) (ws xs : List Int) (at_ : Int) (a : Option Addr) (n c : Nat) (w : World) (h : ArenaP w p ws) (ha : I64 at_) (hn : n = xs.length) (hl : xs.length ≤ maxLen) (hb : inB ws.length at_ xs.length = false) :
    Calls Try.prog 9 #[p, .int .i64 at_, .slice a n c] w fun e w' => e = .returned (.int .i64 2) ∧ Bel w w' := by
  subst hn
  have HA := Lib.hid (fun o => h.bel ((Bel.refl w).alloc o))
  have HB := Lib.hid hb
  have hl2 : xs.length ≤ 9223372036854775807 := by unfold maxLen at hl; omega
  clear hb
  go_enter_defers Try.func9, Try.ntmps9
  go_wp2_with fail
  refine (arena_part_out p ws at_ xs.length _ (HA.out _) ha ⟨by omega, by omega⟩ HB.out).mono ?_; rintro e w' ⟨rfl, rfl⟩
  go_wp2
  refine leaves_cons (f := 25) (args := #[.pointer (some ⟨w.heap.size, 0, none⟩)]) (by simp) (by simp [go_sem]) ?_
  refine (caught_out w.heap.size (.int .i64 0) _ [] (by simp) (by simp [go_sem]) (by simp [go_sem])).mono ?_
  rintro e u' w'' ⟨rfl, rfl, rfl⟩
  simp [Leaves, settle, results, Try.results9, go_sem]
  exact ((Bel.refl _).alloc _).alloc _

theorem arena_Store_none (p : Value) (ws : List Int) (at_ : Int) (a : Option Addr) (c : Nat) (w : World) (h : ArenaP w p ws) (ha : I64 at_) (hb : inB ws.length at_ 0 = true) :
    Calls Try.prog 9 #[p, .int .i64 at_, .slice a 0 c] w fun e w' => e = .returned (.int .i64 0) ∧ Bel w w' := by
  have HA := Lib.hid (fun o => h.bel ((Bel.refl w).alloc o))
  have HB := Lib.hid hb
  clear hb
  go_enter_defers Try.func9, Try.ntmps9
  go_wp2_with fail
  refine (arena_part_none p ws at_ _ (HA.out _) ha HB.out).mono ?_; rintro e w' ⟨rfl, rfl⟩
  have hz := fun W => copy_zero (W := W) (dT := 22) (sT := 22) (ty := 3) (d := none) (a := a) (dc := 0) (sc := c) (n := 0) (m := 0) Try.underlying22 info_u64s (.inl rfl)
  go_wp2
  refine leaves_cons (f := 25) (args := #[.pointer (some ⟨w.heap.size, 0, none⟩)]) (by simp) (by simp [go_sem]) ?_
  refine (caught_idle _ _).mono ?_
  rintro e u' w'' ⟨rfl, rfl, rfl⟩
  simp [Leaves, settle, results, Try.results9, go_sem]
  exact (Bel.refl _).alloc _

theorem arena_Store_some (ba bw : Nat) (ws xs : List Int) (at_ : Int) (a : Option Addr) (n c : Nat) (w : World) (h : ArenaAt w ba bw ws) (hn : n = xs.length) (h0 : xs ≠ []) (hb : inB ws.length at_ xs.length = true)
    (hrd : RdV w a (u64s xs)) (hx : ∀ x ∈ xs, 0 ≤ x ∧ x ≤ 18446744073709551615) :
    Calls Try.prog 9 #[.pointer (some ⟨ba, 0, none⟩), .int .i64 at_, .slice a n c] w fun e w' =>
      e = .returned (.int .i64 0) ∧ ArenaAt w' ba bw (putW ws at_ xs) ∧ Fr (fun k => k = bw) w w' := by
  subst hn
  have hs := h.small
  obtain ⟨b0, b1, b2, b3⟩ := inB_iff.1 hb
  obtain ⟨o, rfl⟩ := Int.eq_ofNat_of_zero_le b1
  have hpos : 0 < xs.length := List.length_pos_iff.2 h0
  have hfit : o + xs.length ≤ ws.length := by omega
  obtain ⟨W, hW⟩ : ∃ W, w.alloc (.cells #[.int .i64 0] 26) = W := ⟨_, rfl⟩
  have hbel : Bel w W := hW ▸ (Bel.refl _).alloc _
  have hA := h.bel hbel
  obtain ⟨W1, hrun, hblk, hfr, hsz⟩ := copy_blk (dT := 22) (sT := 22) (ty := 3) (o := o) (n := xs.length) (dc := ws.length - o) (sc := c) Try.underlying22 info_u64s hA.words (hrd.bel hbel) (by simp [u64s]) (by simpa [u64s] using hfit) (u64s_one xs) hpos
  have hA1 := hA.put hfit hx hblk hfr
  have hne : w.heap.size ≠ bw := by have := heap_lt h.words; omega
  have hcell : W1.cell? ⟨w.heap.size, 0, none⟩ = some (.int .i64 0) := hfr.cell (by rw [← hW]; simp) hne
  have hfrz : W1.frozen? ⟨w.heap.size, 0, none⟩ = false := by rw [hfr.frozen (by rw [← hW]; simp) hne, ← hW]; simp
  have hs1 : W1.heap.size = w.heap.size + 1 := by rw [hsz, ← hW]; simp
  have HB := Lib.hid hb
  have HS1 := Lib.hid hs1
  have HW := Lib.hid hW
  have HSZ := Lib.hid hsz
  clear hb hs1 hW hsz hblk
  go_enter_defers Try.func9, Try.ntmps9
  go_wp2_with fail
  rw [HW.out]
  refine (arena_part_some ba bw ws o xs.length _ hA HB.out (by omega)).mono ?_; rintro e w' ⟨rfl, rfl⟩
  go_wp2
  refine leaves_cons (f := 25) (args := #[.pointer (some ⟨w.heap.size, 0, none⟩)]) (by simp) (by simp [go_sem]) ?_
  refine (caught_idle _ _).mono ?_
  rintro e u' w'' ⟨rfl, rfl, rfl⟩
  have hc2 := cell_set_same hcell (.int .i64 0)
  have hf2 : Fr (fun k => k = w.heap.size) W1 (W1.setCell ⟨w.heap.size, 0, none⟩ (.int .i64 0)) := Fr.setCell (S := fun k => k = w.heap.size) (Fr.refl _ _) (.inl rfl) _
  simp [Leaves, settle, results, Try.results9, go_sem, hc2]
  refine ⟨hA1.fr hf2 (by have := heap_lt h.hd; omega) (by omega), ?_⟩
  refine (Fr.trans (Fr.of_bel hbel) hfr (fun _ h => .inl h)).trans hf2 (fun k hk => .inr (by omega))

/-! ### Clone, Row -/
/-- A slice of words that the call made. -/
def NewU64 (base : Nat) (xs : List Int) (v : Value) (w : World) : Prop := w.ownsRow base 30 1 v xs.length (u64s xs)
def ClonedU64 (w : World) (xs : List Int) (e : Ending) (w' : World) : Prop := ∃ v, e = .returned v ∧ NewU64 w.heap.size xs v w' ∧ Bel w w'

theorem bel_grown {w w1 w2 : World} {row : Option Nat} (h : Bel w w1) (hg : w1.grownBy w2 row) (hr : ∀ k, row = some k → w.heap.size ≤ k) : Bel w w2 := Below.grown h hg h.size hr

theorem clone_nil_u64 (n c : Nat) (w : World) : Calls Try.prog 37 #[.slice none n c] w fun e w' => e = .returned (.slice none 0 0) ∧ w = w' := by
  have hq := fun W => Lib.run_eql_slice_nil (P := Try.prog) W 22 30 none n c 0 0 Try.underlying22
  go_enter Try.func37, Try.ntmps37
  go_wp2
  go_ret
  exact ⟨rfl, rfl⟩

theorem clone_some_u64 (b o : Nat) (xs : List Int) (n c : Nat) (w : World) (hn : n = xs.length) (hl : xs.length ≤ 17592186044416) (hrd : RdV w (some ⟨b, o, none⟩) (u64s xs)) :
    Calls Try.prog 37 #[.slice (some ⟨b, o, none⟩) n c] w (ClonedU64 w xs) := by
  subst hn
  obtain ⟨i, hi, hz, hs, hb⟩ := info_parts info_u64
  have hq := fun W => Lib.run_eql_slice_nil (P := Try.prog) W 22 30 (some ⟨b, o, none⟩) xs.length c 0 0 Try.underlying22
  have hq2 : ∀ W : World, (Instr.buildSlice 22 0 #[]).run Try.prog W = .ok (.slice (some ⟨W.heap.size, 0, none⟩) 0 0) (W.alloc (.cells #[] 30)) := fun W => by kernel_rfl
  go_enter Try.func37, Try.ntmps37
  go_wp2_with (at_builtin; refine wpList_append_own _ rfl _ _ 22 rfl w.heap.size 30 i (.int .u64 0) 1 8 Try.underlying22 hi hz hs hb rfl (by decide) _ 0 [] rfl ?c1 ⟨b, o, none⟩ xs.length c (u64s xs) rfl ?c2 ?c3 (u64s_one xs) ?c4 ?c5 ?c6 ?_)
  case c1 => exact World.ownsRow_made w #[] 0 (Nat.le_refl _) (by simp [maxLen]) (by simp)
  case c2 => simp [u64s]
  case c3 => exact (RdV.cells (hrd.bel ((Bel.refl _).alloc _)))
  case c4 => unfold maxLen; omega
  case c5 => omega
  case c6 => simp
  intro v' w1 hown hgrow _
  go_wp2
  go_ret
  refine ⟨v', rfl, ?_, bel_grown ((Bel.refl _).alloc _) hgrow (fun k hk => by simp [Value.ownBlock] at hk; omega)⟩
  simpa [NewU64] using hown

/-- What a row of words comes to. -/
def RowIs (w : World) (xs : List Int) (e : Ending) (w' : World) : Prop := ∃ v, e = .returned (.tuple #[v, .int .i64 0]) ∧ NewU64 w.heap.size xs v w' ∧ Bel w w'

theorem arena_Row_out (p : Value) (ws : List Int) (at_ n : Int) (w : World) (h : ArenaP w p ws) (ha : I64 at_) (hn : I64 n) (hb : inB ws.length at_ n = false) :
    Calls Try.prog 23 #[p, .int .i64 at_, .int .i64 n] w fun e w' => e = .returned (.tuple #[.slice none 0 0, .int .i64 2]) ∧ Bel w w' := by
  have HA := Lib.hid (fun o => h.bel ((Bel.refl w).alloc o))
  have HB := Lib.hid hb
  clear hb
  go_enter_defers Try.func23, Try.ntmps23
  go_wp2_with fail
  refine (arena_part_out p ws at_ n _ (HA.out _) ha hn HB.out).mono ?_; rintro e w' ⟨rfl, rfl⟩
  go_wp2
  refine leaves_cons (f := 25) (args := #[.pointer (some ⟨w.heap.size, 0, none⟩)]) (by simp) (by simp [go_sem]) ?_
  refine (caught_out w.heap.size (.int .i64 0) _ [] (by simp) (by simp [go_sem]) (by simp [go_sem])).mono ?_
  rintro e u' w'' ⟨rfl, rfl, rfl⟩
  simp [Leaves, settle, results, Try.results23, go_sem]
  exact ((Bel.refl _).alloc _).alloc _

theorem arena_Row_none (p : Value) (ws : List Int) (at_ : Int) (w : World) (h : ArenaP w p ws) (ha : I64 at_) (hb : inB ws.length at_ 0 = true) :
    Calls Try.prog 23 #[p, .int .i64 at_, .int .i64 0] w (RowIs w []) := by
  have HA := Lib.hid (fun o => h.bel ((Bel.refl w).alloc o))
  have HB := Lib.hid hb
  clear hb
  go_enter_defers Try.func23, Try.ntmps23
  go_wp2_with fail
  refine (arena_part_none p ws at_ _ (HA.out _) ha HB.out).mono ?_; rintro e w' ⟨rfl, rfl⟩
  go_wp2_with fail
  refine (clone_nil_u64 0 0 _).mono ?_; rintro e w' ⟨rfl, rfl⟩
  go_wp2
  refine leaves_cons (f := 25) (args := #[.pointer (some ⟨w.heap.size, 0, none⟩)]) (by simp) (by simp [go_sem]) ?_
  refine (caught_idle _ _).mono ?_
  rintro e u' w'' ⟨rfl, rfl, rfl⟩
  simp [Leaves, settle, results, Try.results23, go_sem]
  exact ⟨_, rfl, World.ownsRow_nil _ _ _ _, (Bel.refl _).alloc _⟩

theorem arena_Row_some (ba bw : Nat) (ws : List Int) (at_ n : Int) (w : World) (h : ArenaAt w ba bw ws) (h0 : n ≠ 0) (hb : inB ws.length at_ n = true) :
    Calls Try.prog 23 #[.pointer (some ⟨ba, 0, none⟩), .int .i64 at_, .int .i64 n] w (RowIs w ((ws.drop at_.toNat).take n.toNat)) := by
  have hs := h.small
  obtain ⟨b0, b1, b2, b3⟩ := inB_iff.1 hb
  obtain ⟨o, rfl⟩ := Int.eq_ofNat_of_zero_le b1
  obtain ⟨m, rfl⟩ := Int.eq_ofNat_of_zero_le b0
  have hA := fun o => h.bel ((Bel.refl w).alloc o)
  have HB := Lib.hid hb
  have HA := Lib.hid hA
  have hlen : ((ws.drop o).take m).length = m := by simp; omega
  have hrd : RdV w (some ⟨bw, o, none⟩) (u64s ((ws.drop o).take m)) := .inr ⟨bw, o, rfl, fun i hi => by
    simp [u64s] at hi
    rw [h.word (o + i) (by omega)]
    simp [u64s]⟩
  obtain ⟨xs, hxs⟩ : ∃ xs, (ws.drop o).take m = xs := ⟨_, rfl⟩
  rw [hxs] at hlen hrd
  have HX := Lib.hid hxs
  have hm : m = xs.length := hlen.symm
  subst hm
  have e1 : (ws.drop (o : Int).toNat).take ((xs.length : Int).toNat) = xs := by simpa using hxs
  rw [e1]
  clear hb hA hxs e1
  go_enter_defers Try.func23, Try.ntmps23
  go_wp2_with fail
  refine (arena_part_some ba bw ws o xs.length _ (HA.out _) HB.out (by omega)).mono ?_; rintro e w' ⟨rfl, rfl⟩
  go_wp2_with fail
  refine (clone_some_u64 bw o xs xs.length _ _ rfl (by omega) (hrd.bel ((Bel.refl _).alloc _))).mono ?_
  rintro e w1 ⟨v, rfl, hnew, hbel⟩
  have hcell : w1.cell? ⟨w.heap.size, 0, none⟩ = some (.int .i64 0) := hbel.cell (by simp)
  have hfrz : w1.frozen? ⟨w.heap.size, 0, none⟩ = false := by rw [Below.frozen hbel (by simp)]; simp
  have hsz : w.heap.size < w1.heap.size := by have := hbel.size; simp at this; omega
  go_wp2
  refine leaves_cons (f := 25) (args := #[.pointer (some ⟨w.heap.size, 0, none⟩)]) (by simp) (by simp [go_sem]) ?_
  refine (caught_idle _ _).mono ?_
  rintro e u' w'' ⟨rfl, rfl, rfl⟩
  have hc2 := cell_set_same hcell (.int .i64 0)
  have hf2 : Fr (fun k => k = w.heap.size) w1 (w1.setCell ⟨w.heap.size, 0, none⟩ (.int .i64 0)) := Fr.setCell (S := fun k => k = w.heap.size) (Fr.refl _ _) (.inl rfl) _
  simp [Leaves, settle, results, Try.results23, go_sem, hc2]
  rw [World.size_alloc] at hnew
  refine ⟨v, rfl, own_base (own_fr hnew hf2 (fun b hb _ => by omega)) (by omega), ?_⟩
  · exact ((((Fr.refl (fun k => k = w.heap.size) w).alloc _).then_bel hbel).trans' hf2).bel (fun k hk => by omega)

/-! ### each call in one word -/
def okE (b : Bool) : Int := if b then 0 else 2
theorem okE_true : okE true = 0 := rfl
theorem okE_false : okE false = 2 := rfl
/-- The word at an address; 0. -/
def ldW (ws : List Int) (at_ : Int) : Int := if inB ws.length at_ 1 then ws.getD at_.toNat 0 else 0
/-- The words behind a store. -/
def stW (ws : List Int) (at_ : Int) (xs : List Int) : List Int := if inB ws.length at_ xs.length then putW ws at_ xs else ws
/-- Words in a row; none. -/
def rowW (ws : List Int) (at_ n : Int) : List Int := if inB ws.length at_ n then (ws.drop at_.toNat).take n.toNat else []
theorem putW_length {ws xs : List Int} {at_ : Int} (h : inB ws.length at_ xs.length = true) : (putW ws at_ xs).length = ws.length := by
  obtain ⟨b0, b1, b2, b3⟩ := inB_iff.1 h
  exact splice_length _ _ _ (by omega)
theorem stW_length (ws : List Int) (at_ : Int) (xs : List Int) : (stW ws at_ xs).length = ws.length := by
  unfold stW; split
  · rename_i h; exact putW_length h
  · rfl

theorem arena_Load (p : Value) (ws : List Int) (at_ : Int) (w : World) (h : ArenaP w p ws) (ha : I64 at_) :
    Calls Try.prog 19 #[p, .int .i64 at_] w fun e w' => e = .returned (.tuple #[.int .u64 (ldW ws at_), .int .i64 (okE (inB ws.length at_ 1))]) ∧ Bel w w' := by
  cases hb : inB ws.length at_ 1
  · have e1 : ldW ws at_ = 0 := by simp [ldW, hb]
    rw [e1]
    exact arena_Load_out p ws at_ w h ha hb
  · obtain ⟨b0, b1, b2, b3⟩ := inB_iff.1 hb
    obtain ⟨o, rfl⟩ := Int.eq_ofNat_of_zero_le b1
    have ho : o < ws.length := by omega
    have e1 : ldW ws o = ws[o] := by simp [ldW, hb, List.getD_eq_getElem?_getD, List.getElem?_eq_getElem ho]
    rw [e1]
    exact arena_Load_some p ws o w h ho

theorem arena_Store (ba bw : Nat) (ws xs : List Int) (at_ : Int) (a : Option Addr) (n c : Nat) (w : World) (h : ArenaAt w ba bw ws) (ha : I64 at_) (hn : n = xs.length) (hl : xs.length ≤ maxLen)
    (hrd : RdV w a (u64s xs)) (hx : ∀ x ∈ xs, 0 ≤ x ∧ x ≤ 18446744073709551615) :
    Calls Try.prog 9 #[.pointer (some ⟨ba, 0, none⟩), .int .i64 at_, .slice a n c] w fun e w' =>
      e = .returned (.int .i64 (okE (inB ws.length at_ xs.length))) ∧ ArenaAt w' ba bw (stW ws at_ xs) ∧ Fr (fun k => k = bw) w w' := by
  have hP : ArenaP w (.pointer (some ⟨ba, 0, none⟩)) ws := .inr ⟨ba, bw, rfl, h⟩
  cases hb : inB ws.length at_ xs.length
  · refine (arena_Store_out _ ws xs at_ a n c w hP ha hn hl hb).mono ?_
    rintro e w' ⟨rfl, hB⟩
    exact ⟨rfl, by simpa [stW, hb] using h.bel hB, Fr.of_bel hB⟩
  · by_cases h0 : xs = []
    · subst h0
      subst hn
      refine (arena_Store_none _ ws at_ a c w hP ha hb).mono ?_
      rintro e w' ⟨rfl, hB⟩
      exact ⟨rfl, by simpa [stW, hb, putW, splice_nil] using h.bel hB, Fr.of_bel hB⟩
    · refine (arena_Store_some ba bw ws xs at_ a n c w h hn h0 hb hrd hx).mono ?_
      rintro e w' ⟨rfl, hA, hF⟩
      exact ⟨rfl, by simpa [stW, hb] using hA, hF⟩

/-- A row of words, and whether they were there. -/
def RowGot (w : World) (ws : List Int) (at_ n : Int) (e : Ending) (w' : World) : Prop :=
  ∃ v, e = .returned (.tuple #[v, .int .i64 (okE (inB ws.length at_ n))]) ∧ NewU64 w.heap.size (rowW ws at_ n) v w' ∧ Bel w w'
theorem arena_Row (p : Value) (ws : List Int) (at_ n : Int) (w : World) (h : ArenaP w p ws) (ha : I64 at_) (hn : I64 n) :
    Calls Try.prog 23 #[p, .int .i64 at_, .int .i64 n] w (RowGot w ws at_ n) := by
  cases hb : inB ws.length at_ n
  · refine (arena_Row_out p ws at_ n w h ha hn hb).mono ?_
    rintro e w' ⟨rfl, hB⟩
    exact ⟨_, by rw [hb]; rfl, by rw [rowW, hb]; exact World.ownsRow_nil _ _ _ _, hB⟩
  · by_cases h0 : n = 0
    · subst h0
      refine (arena_Row_none p ws at_ w h ha hb).mono ?_
      rintro e w' ⟨v, rfl, hN, hB⟩
      exact ⟨v, by rw [hb]; rfl, by simpa [rowW, hb] using hN, hB⟩
    · obtain ⟨ba, bw, rfl, hA⟩ := arenaP_at h hb h0
      refine (arena_Row_some ba bw ws at_ n w hA h0 hb).mono ?_
      rintro e w' ⟨v, rfl, hN, hB⟩
      exact ⟨v, by rw [hb]; rfl, by simpa [rowW, hb] using hN, hB⟩
end Go.Proofs.Ytnehccndghkakaa
