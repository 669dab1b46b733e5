/- Package arena, the rest: Zero, Move, Page, Base. -/
import Derived.Test.YtgpegcbhmobdhaaWArena
import Derived.Recover
import Derived.Defers
namespace Go.Proofs.Ytgpegcbhmobdhaa
open Go.RowKit

theorem zero_u64 (w : World) : (zeroValue 33).run Try.prog w = .ok (.int .u64 0) w := by kernel_rfl

/-! ### Zero, Move, Row -/
theorem arena_Zero_out (p : Value) (ws : List Int) (at_ n : Int) (w : World) (h : ArenaP w p ws) (ha : I64 at_) (hn : I64 n) (hb : inB ws.length at_ n = false) :
    Calls Try.prog 32 #[p, .int .i64 at_, .int .i64 n] w fun e w' => e = .returned (.int .i64 2) ∧ Bel w w' := by
  have HA := Lib.hid (fun o => h.bel ((Bel.refl w).alloc o))
  have HB := Lib.hid hb
  clear hb
  go_enter_defers Try.func32, Try.ntmps32
  go_wp2_with fail
  refine (arena_part_out p ws at_ n _ (HA.out _) ha hn HB.out).mono ?_; rintro e w' ⟨rfl, rfl⟩
  go_wp2
  refine leaves_cons (f := 55) (args := #[.pointer (some ⟨w.heap.size, 0, none⟩)]) (by simp) (by simp [go_sem]) ?_
  refine (caught_out w.heap.size (.int .i64 0) _ [] (by simp) (by simp [go_sem]) (by simp [go_sem])).mono ?_
  rintro e u' w'' ⟨rfl, rfl, rfl⟩
  simp [Leaves, settle, results, Try.results32, go_sem]
  exact ((Bel.refl _).alloc _).alloc _

theorem arena_Zero_none (p : Value) (ws : List Int) (at_ : Int) (w : World) (h : ArenaP w p ws) (ha : I64 at_) (hb : inB ws.length at_ 0 = true) :
    Calls Try.prog 32 #[p, .int .i64 at_, .int .i64 0] w fun e w' => e = .returned (.int .i64 0) ∧ Bel w w' := by
  have HA := Lib.hid (fun o => h.bel ((Bel.refl w).alloc o))
  have HB := Lib.hid hb
  clear hb
  go_enter_defers Try.func32, Try.ntmps32
  go_wp2_with fail
  refine (arena_part_none p ws at_ _ (HA.out _) ha HB.out).mono ?_; rintro e w' ⟨rfl, rfl⟩
  have hz := fun W => clear_none W 30 0 33 Try.underlying30
  go_wp2
  refine leaves_cons (f := 55) (args := #[.pointer (some ⟨w.heap.size, 0, none⟩)]) (by simp) (by simp [go_sem]) ?_
  refine (caught_idle _ _).mono ?_
  rintro e u' w'' ⟨rfl, rfl, rfl⟩
  simp [Leaves, settle, results, Try.results32, go_sem]
  exact (Bel.refl _).alloc _

theorem arena_Zero_some (ba bw : Nat) (ws : List Int) (at_ n : Int) (w : World) (h : ArenaAt w ba bw ws) (h0 : n ≠ 0) (hb : inB ws.length at_ n = true) :
    Calls Try.prog 32 #[.pointer (some ⟨ba, 0, none⟩), .int .i64 at_, .int .i64 n] w fun e w' =>
      e = .returned (.int .i64 0) ∧ ArenaAt w' ba bw (putW ws at_ (List.replicate n.toNat 0)) ∧ Fr (fun k => k = bw) w w' := by
  have hs := h.small
  obtain ⟨b0, b1, b2, b3⟩ := inB_iff.1 hb
  obtain ⟨o, rfl⟩ := Int.eq_ofNat_of_zero_le b1
  obtain ⟨m, rfl⟩ := Int.eq_ofNat_of_zero_le b0
  have hfit : o + m ≤ ws.length := by omega
  obtain ⟨W, hW⟩ : ∃ W, w.alloc (.cells #[.int .i64 0] 26) = W := ⟨_, rfl⟩
  have hbel : Bel w W := hW ▸ (Bel.refl _).alloc _
  have hA := h.bel hbel
  obtain ⟨W1, hrun, hblk, hfr, hsz⟩ := clear_blk (t := 30) (ty := 0) (o := o) (n := m) (dc := ws.length - o) Try.underlying30 zero_u64 rfl rfl hA.words (by simpa [u64s] using hfit) (by omega)
  have hA1 : ArenaAt W1 ba bw (splice ws o (List.replicate m 0)) := hA.put (by simpa using hfit) (fun x hx => by rw [List.eq_of_mem_replicate hx]; exact ⟨by omega, by omega⟩) (by simpa [u64s] using hblk) hfr
  have hne : w.heap.size ≠ bw := by have := heap_lt h.words; omega
  have hcell : W1.cell? ⟨w.heap.size, 0, none⟩ = some (.int .i64 0) := hfr.cell (by rw [← hW]; simp) hne
  have hfrz : W1.frozen? ⟨w.heap.size, 0, none⟩ = false := by rw [hfr.frozen (by rw [← hW]; simp) hne, ← hW]; simp
  have HB := Lib.hid hb
  have HW := Lib.hid hW
  have HSZ := Lib.hid hsz
  clear hb hW hsz hblk
  go_enter_defers Try.func32, Try.ntmps32
  go_wp2_with fail
  rw [HW.out]
  refine (arena_part_some ba bw ws o m _ hA HB.out (by omega)).mono ?_; rintro e w' ⟨rfl, rfl⟩
  go_wp2
  refine leaves_cons (f := 55) (args := #[.pointer (some ⟨w.heap.size, 0, none⟩)]) (by simp) (by simp [go_sem]) ?_
  refine (caught_idle _ _).mono ?_
  rintro e u' w'' ⟨rfl, rfl, rfl⟩
  have hc2 := cell_set_same hcell (.int .i64 0)
  have hf2 : Fr (fun k => k = w.heap.size) W1 (W1.setCell ⟨w.heap.size, 0, none⟩ (.int .i64 0)) := Fr.setCell (S := fun k => k = w.heap.size) (Fr.refl _ _) (.inl rfl) _
  simp [Leaves, settle, results, Try.results32, go_sem, hc2]
  refine ⟨hA1.fr hf2 (by have := heap_lt h.hd; omega) (by omega), ?_⟩
  exact (Fr.trans (Fr.of_bel hbel) hfr (fun _ h => .inl h)).trans hf2 (fun k hk => .inr (by omega))

/-! ### Move -/
theorem arena_Move_out1 (p : Value) (ws : List Int) (to from_ n : Int) (w : World) (h : ArenaP w p ws) (ht : I64 to) (ha : I64 from_) (hn : I64 n) (hb : inB ws.length from_ n = false) :
    Calls Try.prog 31 #[p, .int .i64 to, .int .i64 from_, .int .i64 n] w fun e w' => e = .returned (.int .i64 2) ∧ Bel w w' := by
  have HA := Lib.hid (fun o => h.bel ((Bel.refl w).alloc o))
  have HB := Lib.hid hb
  clear hb
  go_enter_defers Try.func31, Try.ntmps31
  go_wp2_with fail
  refine (arena_part_out p ws from_ n _ (HA.out _) ha hn HB.out).mono ?_; rintro e w' ⟨rfl, rfl⟩
  go_wp2
  refine leaves_cons (f := 55) (args := #[.pointer (some ⟨w.heap.size, 0, none⟩)]) (by simp) (by simp [go_sem]) ?_
  refine (caught_out w.heap.size (.int .i64 0) _ [] (by simp) (by simp [go_sem]) (by simp [go_sem])).mono ?_
  rintro e u' w'' ⟨rfl, rfl, rfl⟩
  simp [Leaves, settle, results, Try.results31, go_sem]
  exact ((Bel.refl _).alloc _).alloc _

theorem arena_Move_none (p : Value) (ws : List Int) (to from_ : Int) (w : World) (h : ArenaP w p ws) (ht : I64 to) (ha : I64 from_) (hb : inB ws.length from_ 0 = true) (hb2 : inB ws.length to 0 = true) :
    Calls Try.prog 31 #[p, .int .i64 to, .int .i64 from_, .int .i64 0] w fun e w' => e = .returned (.int .i64 0) ∧ Bel w w' := by
  have HA := Lib.hid (fun o => h.bel ((Bel.refl w).alloc o))
  have HB := Lib.hid hb
  have HB2 := Lib.hid hb2
  clear hb hb2
  go_enter_defers Try.func31, Try.ntmps31
  go_wp2_with fail
  refine (arena_part_none p ws from_ _ (HA.out _) ha HB.out).mono ?_; rintro e w' ⟨rfl, rfl⟩
  go_wp2_with fail
  refine (arena_part_none p ws to _ (HA.out _) ht HB2.out).mono ?_; rintro e w' ⟨rfl, rfl⟩
  have hz := fun W => copy_zero (W := W) (dT := 30) (sT := 30) (ty := 3) (d := none) (a := none) (dc := 0) (sc := 0) (n := 0) (m := 0) Try.underlying30 info_u64s (.inl rfl)
  go_wp2
  refine leaves_cons (f := 55) (args := #[.pointer (some ⟨w.heap.size, 0, none⟩)]) (by simp) (by simp [go_sem]) ?_
  refine (caught_idle _ _).mono ?_
  rintro e u' w'' ⟨rfl, rfl, rfl⟩
  simp [Leaves, settle, results, Try.results31, go_sem]
  exact (Bel.refl _).alloc _

theorem arena_Move_out2 (p : Value) (ws : List Int) (to from_ n : Int) (w : World) (h : ArenaP w p ws) (ht : I64 to) (ha : I64 from_) (hn : I64 n) (hb : inB ws.length from_ n = true) (hb2 : inB ws.length to n = false) :
    Calls Try.prog 31 #[p, .int .i64 to, .int .i64 from_, .int .i64 n] w fun e w' => e = .returned (.int .i64 2) ∧ Bel w w' := by
  have HA := Lib.hid (fun o => h.bel ((Bel.refl w).alloc o))
  have HB2 := Lib.hid hb2
  clear hb2
  by_cases hn0 : n = 0
  · subst hn0
    have HB := Lib.hid hb
    clear hb
    go_enter_defers Try.func31, Try.ntmps31
    go_wp2_with fail
    refine (arena_part_none p ws from_ _ (HA.out _) ha HB.out).mono ?_; rintro e w' ⟨rfl, rfl⟩
    go_wp2_with fail
    refine (arena_part_out p ws to 0 _ (HA.out _) ht hn HB2.out).mono ?_; rintro e w' ⟨rfl, rfl⟩
    go_wp2
    refine leaves_cons (f := 55) (args := #[.pointer (some ⟨w.heap.size, 0, none⟩)]) (by simp) (by simp [go_sem]) ?_
    refine (caught_out w.heap.size (.int .i64 0) _ [] (by simp) (by simp [go_sem]) (by simp [go_sem])).mono ?_
    rintro e u' w'' ⟨rfl, rfl, rfl⟩
    simp [Leaves, settle, results, Try.results31, go_sem]
    exact ((Bel.refl _).alloc _).alloc _
  · obtain ⟨ba, bw, rfl, hA⟩ := arenaP_at h hb hn0
    have HB := Lib.hid hb
    have HA2 := Lib.hid (fun o => hA.bel ((Bel.refl w).alloc o))
    clear hb h
    go_enter_defers Try.func31, Try.ntmps31
    go_wp2_with fail
    refine (arena_part_some ba bw ws from_ n _ (HA2.out _) HB.out hn0).mono ?_; rintro e w' ⟨rfl, rfl⟩
    go_wp2_with fail
    refine (arena_part_out _ ws to n _ (HA.out _) ht hn HB2.out).mono ?_; rintro e w' ⟨rfl, rfl⟩
    go_wp2
    refine leaves_cons (f := 55) (args := #[.pointer (some ⟨w.heap.size, 0, none⟩)]) (by simp) (by simp [go_sem]) ?_
    refine (caught_out w.heap.size (.int .i64 0) _ [] (by simp) (by simp [go_sem]) (by simp [go_sem])).mono ?_
    rintro e u' w'' ⟨rfl, rfl, rfl⟩
    simp [Leaves, settle, results, Try.results31, go_sem]
    exact ((Bel.refl _).alloc _).alloc _

theorem arena_Move_some (ba bw : Nat) (ws : List Int) (to from_ n : Int) (w : World) (h : ArenaAt w ba bw ws) (h0 : n ≠ 0) (hb : inB ws.length from_ n = true) (hb2 : inB ws.length to n = true) :
    Calls Try.prog 31 #[.pointer (some ⟨ba, 0, none⟩), .int .i64 to, .int .i64 from_, .int .i64 n] w fun e w' =>
      e = .returned (.int .i64 0) ∧ ArenaAt w' ba bw (putW ws to ((ws.drop from_.toNat).take n.toNat)) ∧ Fr (fun k => k = bw) w w' := by
  have hs := h.small
  obtain ⟨b0, b1, b2, b3⟩ := inB_iff.1 hb
  obtain ⟨c0, c1, c2, c3⟩ := inB_iff.1 hb2
  obtain ⟨o, rfl⟩ := Int.eq_ofNat_of_zero_le b1
  obtain ⟨t, rfl⟩ := Int.eq_ofNat_of_zero_le c1
  obtain ⟨m, rfl⟩ := Int.eq_ofNat_of_zero_le b0
  have hlen : ((ws.drop o).take m).length = m := by simp; omega
  obtain ⟨W, hW⟩ : ∃ W, w.alloc (.cells #[.int .i64 0] 26) = W := ⟨_, rfl⟩
  have hbel : Bel w W := hW ▸ (Bel.refl _).alloc _
  have hA := h.bel hbel
  have hrd : RdV W (some ⟨bw, o, none⟩) (u64s ((ws.drop o).take m)) := .inr ⟨bw, o, rfl, fun i hi => by
    simp [u64s] at hi
    rw [hA.word (o + i) (by omega)]
    simp [u64s]⟩
  obtain ⟨W1, hrun, hblk, hfr, hsz⟩ := copy_blk (dT := 30) (sT := 30) (ty := 3) (o := t) (n := m) (dc := ws.length - t) (sc := ws.length - o) Try.underlying30 info_u64s hA.words hrd (by simpa [u64s] using hlen) (by simp [u64s]; omega) (u64s_one _) (by omega)
  have hA1 : ArenaAt W1 ba bw (splice ws t ((ws.drop o).take m)) := hA.put (by omega) (fun x hx => h.wf x (List.mem_of_mem_drop (List.mem_of_mem_take hx))) hblk hfr
  have hne : w.heap.size ≠ bw := by have := heap_lt h.words; omega
  have hcell : W1.cell? ⟨w.heap.size, 0, none⟩ = some (.int .i64 0) := hfr.cell (by rw [← hW]; simp) hne
  have hfrz : W1.frozen? ⟨w.heap.size, 0, none⟩ = false := by rw [hfr.frozen (by rw [← hW]; simp) hne, ← hW]; simp
  have HB := Lib.hid hb
  have HB2 := Lib.hid hb2
  have HW := Lib.hid hW
  have HSZ := Lib.hid hsz
  have HL := Lib.hid hlen
  clear hb hb2 hW hsz hblk hlen hrd
  go_enter_defers Try.func31, Try.ntmps31
  go_wp2_with fail
  rw [HW.out]
  refine (arena_part_some ba bw ws o m _ hA HB.out (by omega)).mono ?_; rintro e w' ⟨rfl, rfl⟩
  go_wp2_with fail
  refine (arena_part_some ba bw ws t m _ hA HB2.out (by omega)).mono ?_; rintro e w' ⟨rfl, rfl⟩
  go_wp2
  refine leaves_cons (f := 55) (args := #[.pointer (some ⟨w.heap.size, 0, none⟩)]) (by simp) (by simp [go_sem]) ?_
  refine (caught_idle _ _).mono ?_
  rintro e u' w'' ⟨rfl, rfl, rfl⟩
  have hc2 := cell_set_same hcell (.int .i64 0)
  have hf2 : Fr (fun k => k = w.heap.size) W1 (W1.setCell ⟨w.heap.size, 0, none⟩ (.int .i64 0)) := Fr.setCell (S := fun k => k = w.heap.size) (Fr.refl _ _) (.inl rfl) _
  simp [Leaves, settle, results, Try.results31, go_sem, hc2]
  refine ⟨hA1.fr hf2 (by have := heap_lt h.hd; omega) (by omega), ?_⟩
  exact (Fr.trans (Fr.of_bel hbel) hfr (fun _ h => .inl h)).trans hf2 (fun k hk => .inr (by omega))

theorem arena_Zero (p : Value) (ws : List Int) (at_ n : Int) (ba bw : Nat) (w : World) (hp : p = .pointer (some ⟨ba, 0, none⟩)) (h : ArenaAt w ba bw ws) (ha : I64 at_) (hn : I64 n) :
    Calls Try.prog 32 #[p, .int .i64 at_, .int .i64 n] w fun e w' =>
      e = .returned (.int .i64 (okE (inB ws.length at_ n))) ∧ ArenaAt w' ba bw (if inB ws.length at_ n then putW ws at_ (List.replicate n.toNat 0) else ws) ∧ Fr (fun k => k = bw) w w' := by
  subst hp
  have hP : ArenaP w (.pointer (some ⟨ba, 0, none⟩)) ws := .inr ⟨ba, bw, rfl, h⟩
  cases hb : inB ws.length at_ n
  · refine (arena_Zero_out _ ws at_ n w hP ha hn hb).mono ?_
    rintro e w' ⟨rfl, hB⟩
    exact ⟨rfl, by simpa using h.bel hB, Fr.of_bel hB⟩
  · by_cases h0 : n = 0
    · subst h0
      refine (arena_Zero_none _ ws at_ w hP ha hb).mono ?_
      rintro e w' ⟨rfl, hB⟩
      exact ⟨rfl, by simpa [putW, splice_nil] using h.bel hB, Fr.of_bel hB⟩
    · refine (arena_Zero_some ba bw ws at_ n w h h0 hb).mono ?_
      rintro e w' ⟨rfl, hA, hF⟩
      exact ⟨rfl, by simpa using hA, hF⟩

def mvB (len to from_ n : Int) : Bool := inB len from_ n && inB len to n
def mvW (ws : List Int) (to from_ n : Int) : List Int := if mvB ws.length to from_ n then putW ws to ((ws.drop from_.toNat).take n.toNat) else ws
theorem arena_Move (ba bw : Nat) (ws : List Int) (to from_ n : Int) (w : World) (h : ArenaAt w ba bw ws) (ht : I64 to) (hf : I64 from_) (hn : I64 n) :
    Calls Try.prog 31 #[.pointer (some ⟨ba, 0, none⟩), .int .i64 to, .int .i64 from_, .int .i64 n] w fun e w' =>
      e = .returned (.int .i64 (okE (mvB ws.length to from_ n))) ∧ ArenaAt w' ba bw (mvW ws to from_ n) ∧ Fr (fun k => k = bw) w w' := by
  have hP : ArenaP w (.pointer (some ⟨ba, 0, none⟩)) ws := .inr ⟨ba, bw, rfl, h⟩
  cases hb : inB ws.length from_ n
  · refine (arena_Move_out1 _ ws to from_ n w hP ht hf hn hb).mono ?_
    rintro e w' ⟨rfl, hB⟩
    exact ⟨by simp [mvB, hb, okE], by simpa [mvW, mvB, hb] using h.bel hB, Fr.of_bel hB⟩
  · cases hb2 : inB ws.length to n
    · refine (arena_Move_out2 _ ws to from_ n w hP ht hf hn hb hb2).mono ?_
      rintro e w' ⟨rfl, hB⟩
      exact ⟨by simp [mvB, hb2, okE], by simpa [mvW, mvB, hb2] using h.bel hB, Fr.of_bel hB⟩
    · by_cases h0 : n = 0
      · subst h0
        refine (arena_Move_none _ ws to from_ w hP ht hf hb hb2).mono ?_
        rintro e w' ⟨rfl, hB⟩
        exact ⟨by simp [mvB, hb, hb2, okE], by simpa [mvW, mvB, hb, hb2, putW, splice_nil] using h.bel hB, Fr.of_bel hB⟩
      · refine (arena_Move_some ba bw ws to from_ n w h h0 hb hb2).mono ?_
        rintro e w' ⟨rfl, hA, hF⟩
        exact ⟨by simp [mvB, hb, hb2, okE], by simpa [mvW, mvB, hb, hb2] using hA, hF⟩
end Go.Proofs.Ytgpegcbhmobdhaa
