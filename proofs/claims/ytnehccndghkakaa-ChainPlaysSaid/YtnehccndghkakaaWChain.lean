/- Layer 8's inner walk: next, List. -/
import Derived.Test.YtnehccndghkakaaWArena
import Derived.Test.YtnehccndghkakaaPChain
import Derived.Test.YtnehccndghkakaaMap
namespace Go.Proofs.Ytnehccndghkakaa
open Go.RowKit

theorem info_int : (Try.prog.info? 3).map (fun i => (i.zero, i.size, i.bytes)) = some (some (.int .i64 0), 1, 8) := by kernel_rfl
def NewI64 (base : Nat) (xs : List Int) (v : Value) (w : World) : Prop := w.ownsRow base 3 1 v xs.length (ints xs)
theorem ints_one (xs : List Int) : ∀ v ∈ ints xs, v.oneCell' = true := by
  intro v hv
  simp only [ints, List.mem_map] at hv
  obtain ⟨x, _, rfl⟩ := hv
  rfl
theorem ldW_wd {ws : List Int} {x : Int} (h0 : 0 ≤ x) (h1 : x < ws.length) : ldW ws x = wd ws x := by
  unfold ldW wd
  rw [inB_iff.2 ⟨by omega, h0, by omega, by omega⟩]
  rfl
theorem wd_wf {ws : List Int} (h : ∀ y ∈ ws, 0 ≤ y ∧ y ≤ 18446744073709551615) (x : Int) : 0 ≤ wd ws x ∧ wd ws x ≤ 18446744073709551615 := by
  unfold wd
  rw [List.getD_eq_getElem?_getD]
  cases e : ws[x.toNat]? with
  | none => simp
  | some y => exact h y (List.mem_of_getElem? e)
theorem ArenaP.wf {w : World} {p : Value} {ws : List Int} (h : ArenaP w p ws) : ∀ y ∈ ws, 0 ≤ y ∧ y ≤ 18446744073709551615 := by
  rcases h with ⟨_, rfl⟩ | ⟨ba, bw, _, h⟩
  · intro y hy; simp at hy
  · exact h.wf

theorem chain_next (p : Value) (ws : List Int) (h : Int) (w : World) (hP : ArenaP w p ws) (h0 : 1 ≤ h) (h1 : h ≤ 9223372036854775807) :
    Calls Try.prog 35 #[p, .int .i64 h] w fun e w' => e = .returned (.int .i64 (nxt ws h)) ∧ Bel w w' := by
  have hs := arenaP_small hP
  have hw := wd_wf hP.wf (h - 1)
  by_cases hin : h - 1 < ws.length
  · have e1 : Hid (inB ws.length (h - 1) 1 = true) := Lib.hid (inB_iff.2 ⟨by omega, by omega, by omega, by omega⟩)
    have e2 : Hid (ldW ws (h - 1) = wd ws (h - 1)) := Lib.hid (ldW_wd (by omega) hin)
    obtain ⟨v, hv⟩ : ∃ v, wd ws (h - 1) = v := ⟨_, rfl⟩
    rw [hv] at hw
    obtain ⟨v0, v1⟩ := hw
    by_cases hle : v ≤ ws.length
    · have e3 : Hid (nxt ws h = v) := Lib.hid (by unfold nxt; rw [if_pos ⟨by omega, hin, by omega⟩]; exact hv)
      have HV := Lib.hid hv
      clear hv
      go_enter Try.func35, Try.ntmps35
      go_wp2_with fail
      refine (arena_Load p ws (h - 1) w hP ⟨by omega, by omega⟩).mono ?_; rintro e w1 ⟨rfl, hB1⟩
      rw [e1.out, e2.out, HV.out, okE_true]
      go_wp2_with fail
      refine (arena_Words p ws _ (hP.bel hB1)).mono ?_; rintro e w2 ⟨rfl, rfl⟩
      go_wp2
      go_ret
      exact ⟨ret_i e3.out, hB1⟩
    · have e3 : Hid (nxt ws h = -1) := Lib.hid (by unfold nxt; rw [if_neg (by omega)])
      have HV := Lib.hid hv
      clear hv
      go_enter Try.func35, Try.ntmps35
      go_wp2_with fail
      refine (arena_Load p ws (h - 1) w hP ⟨by omega, by omega⟩).mono ?_; rintro e w1 ⟨rfl, hB1⟩
      rw [e1.out, e2.out, HV.out, okE_true]
      go_wp2_with fail
      refine (arena_Words p ws _ (hP.bel hB1)).mono ?_; rintro e w2 ⟨rfl, rfl⟩
      go_wp2
      go_ret
      exact ⟨ret_i e3.out, hB1⟩
  · have e1 : Hid (inB ws.length (h - 1) 1 = false) := Lib.hid (by rw [Bool.eq_false_iff, ne_eq, inB_iff]; omega)
    have e3 : Hid (nxt ws h = -1) := Lib.hid (by unfold nxt; rw [if_neg (by omega)])
    clear hw
    go_enter Try.func35, Try.ntmps35
    go_wp2_with fail
    refine (arena_Load p ws (h - 1) w hP ⟨by omega, by omega⟩).mono ?_; rintro e w1 ⟨rfl, hB1⟩
    rw [e1.out, okE_false]
    go_wp2
    go_ret
    exact ⟨ret_i e3.out, hB1⟩
end Go.Proofs.Ytnehccndghkakaa
