/- A nil arena (layer 4), and words moved and moved back. -/
import Derived.Test.YtgpegcbhmobdhaaLaw04
namespace Go.Proofs.Ytgpegcbhmobdhaa
open Go.RowKit

theorem ArenaP.nil (w : World) : ArenaP w (.pointer none) [] := .inl ⟨rfl, rfl⟩

theorem inB0 {at_ n : Int} : inB 0 at_ n = true ↔ at_ = 0 ∧ n = 0 := by rw [inB_iff]; omega

theorem arena_Store_nil (xs : List Int) (at_ : Int) (a : Option Addr) (n c : Nat) (w : World) (ha : I64 at_) (hn : n = xs.length) (hl : xs.length ≤ maxLen) :
    Calls Try.prog 30 #[.pointer none, .int .i64 at_, .slice a n c] w fun e w' => e = .returned (.int .i64 (okE (inB 0 at_ xs.length))) ∧ Bel w w' := by
  cases hb : inB 0 at_ xs.length
  · exact arena_Store_out _ [] xs at_ a n c w (ArenaP.nil w) ha hn hl hb
  · obtain ⟨rfl, h0⟩ := inB0.1 hb
    have : xs.length = 0 := by omega
    rw [this] at hn
    subst hn
    exact arena_Store_none _ [] 0 a c w (ArenaP.nil w) ha (by decide)
theorem arena_Zero_nil (at_ n : Int) (w : World) (ha : I64 at_) (hn : I64 n) :
    Calls Try.prog 32 #[.pointer none, .int .i64 at_, .int .i64 n] w fun e w' => e = .returned (.int .i64 (okE (inB 0 at_ n))) ∧ Bel w w' := by
  cases hb : inB 0 at_ n
  · exact arena_Zero_out _ [] at_ n w (ArenaP.nil w) ha hn hb
  · obtain ⟨rfl, rfl⟩ := inB0.1 hb
    exact arena_Zero_none _ [] 0 w (ArenaP.nil w) ha hb
theorem arena_Move_nil (at_ n : Int) (w : World) (ha : I64 at_) (hn : I64 n) :
    Calls Try.prog 31 #[.pointer none, .int .i64 at_, .int .i64 0, .int .i64 n] w fun e w' => e = .returned (.int .i64 (okE (inB 0 at_ n))) ∧ Bel w w' := by
  have h0 : I64 0 := ⟨by omega, by omega⟩
  cases hb : inB 0 at_ n
  · cases hb2 : inB 0 0 n
    · exact arena_Move_out1 _ [] at_ 0 n w (ArenaP.nil w) ha h0 hn hb2
    · exact arena_Move_out2 _ [] at_ 0 n w (ArenaP.nil w) ha h0 hn hb2 hb
  · obtain ⟨rfl, rfl⟩ := inB0.1 hb
    exact arena_Move_none _ [] 0 0 w (ArenaP.nil w) ha h0 hb hb

set_option maxHeartbeats 1600000 in
set_option maxRecDepth 20000 in
theorem arenaNil_walk (at_ n : Int) (a : Option Addr) (xs : List Int) (ln c : Nat) (w : World) (ha : I64 at_) (hn : I64 n) (hln : ln = xs.length) (hl : xs.length ≤ maxLen) (hrd : RdV w a (xs.map (.int .u64))) (hx : ∀ x ∈ xs, 0 ≤ x ∧ x ≤ 18446744073709551615) :
    Calls Try.prog 12 #[.int .i64 at_, .int .i64 n, .slice a ln c] w fun e w' => e = .returned (.bool true) ∧ Bel w w' := by
  subst hln
  have hha := ha
  have hhn := hn
  obtain ⟨a0, a1⟩ := ha
  obtain ⟨n0, n1⟩ := hn
  have hl2 : xs.length ≤ 9223372036854775807 := by unfold maxLen at hl; omega
  by_cases c20 : 20 < xs.length
  · go_enter Try.func12, Try.ntmps12
    go_wp2_with fail
    refine (awake04 _).mono ?_; rintro e w' ⟨rfl, hB⟩
    go_wp2
    go_ret
    exact ⟨rfl, hB⟩
  have e0 : Hid (((([] : List Int).length : Nat) : Int) = 0) := Lib.hid rfl
  have eL : Hid (ldW [] at_ = 0) := Lib.hid (by
    have : inB (([] : List Int).length : Int) at_ 1 = false := by rw [Bool.eq_false_iff, ne_eq, show ((([] : List Int).length : Nat) : Int) = 0 from rfl, inB0]; omega
    simp [ldW, this])
  have eO : Hid (inB 0 at_ 1 = false) := Lib.hid (by rw [Bool.eq_false_iff, ne_eq, inB0]; omega)
  have eR : Hid (rowW [] at_ n = []) := Lib.hid (by unfold rowW; split <;> simp)
  have cs : (at_ ≠ 0 ∧ Hid (inB 0 at_ n = false) ∧ Hid (inB 0 at_ xs.length = false)) ∨ (at_ = 0 ∧ n = 0 ∧ (xs.length : Int) = 0 ∧ Hid (inB 0 at_ n = true) ∧ Hid (inB 0 at_ xs.length = true)) ∨
      (at_ = 0 ∧ n = 0 ∧ (xs.length : Int) ≠ 0 ∧ Hid (inB 0 at_ n = true) ∧ Hid (inB 0 at_ xs.length = false)) ∨
      (at_ = 0 ∧ n ≠ 0 ∧ (xs.length : Int) = 0 ∧ Hid (inB 0 at_ n = false) ∧ Hid (inB 0 at_ xs.length = true)) ∨ (at_ = 0 ∧ n ≠ 0 ∧ (xs.length : Int) ≠ 0 ∧ Hid (inB 0 at_ n = false) ∧ Hid (inB 0 at_ xs.length = false)) := by
    have tt : ∀ a b : Int, a = 0 → b = 0 → Hid (inB 0 a b = true) := fun a b h k => Lib.hid (inB0.2 ⟨h, k⟩)
    have ff : ∀ a b : Int, ¬ (a = 0 ∧ b = 0) → Hid (inB 0 a b = false) := fun a b h => Lib.hid (by rw [Bool.eq_false_iff, ne_eq, inB0]; exact h)
    by_cases h1 : at_ = 0
    · by_cases h2 : n = 0 <;> by_cases h3 : (xs.length : Int) = 0
      · exact .inr (.inl ⟨h1, h2, h3, tt _ _ h1 h2, tt _ _ h1 h3⟩)
      · exact .inr (.inr (.inl ⟨h1, h2, h3, tt _ _ h1 h2, ff _ _ fun h => h3 h.2⟩))
      · exact .inr (.inr (.inr (.inl ⟨h1, h2, h3, ff _ _ fun h => h2 h.2, tt _ _ h1 h3⟩)))
      · exact .inr (.inr (.inr (.inr ⟨h1, h2, h3, ff _ _ fun h => h2 h.2, ff _ _ fun h => h3 h.2⟩)))
    · exact .inl ⟨h1, ff _ _ fun h => h1 h.1, ff _ _ fun h => h1 h.1⟩
  clear hrd hx
  rcases cs with ⟨k1, HI, HL⟩ | ⟨rfl, rfl, k3, HI, HL⟩ | ⟨rfl, rfl, k3, HI, HL⟩ | ⟨rfl, k2, k3, HI, HL⟩ | ⟨rfl, k2, k3, HI, HL⟩
  all_goals
    try have t1 : (at_ == 0) = false := by rw [beq_eq_false_iff_ne]; exact k1
    try have t2 : (n == 0) = false := by rw [beq_eq_false_iff_ne]; exact k2
    first
      | (have t3 : (((xs.length : Nat) : Int) == 0) = true := by rw [beq_iff_eq]; exact k3)
      | (have t3 : (((xs.length : Nat) : Int) == 0) = false := by rw [beq_eq_false_iff_ne]; exact k3)
      | skip
    try clear k1
    try clear k2
    try clear k3
    go_enter Try.func12, Try.ntmps12
    go_wp2_with fail
    refine (arena_Load _ [] _ _ (ArenaP.nil _) hha).mono ?_; rintro e w1 ⟨rfl, hB1⟩
    rw [eL.out, e0.out, eO.out, okE_false]
    go_wp2_with fail
    refine (arena_Row _ [] _ _ _ (ArenaP.nil _) hha hhn).mono ?_
    rintro e w2 ⟨v, rfl, hN, hB2⟩
    rw [e0.out, HI.out]
    rw [eR.out] at hN
    obtain ⟨a', cp, rfl, hrd', hcap⟩ := own_slice hN
    have HN := Lib.hid hN
    clear hN hrd' hcap
    go_wp2_with fail
    refine (arena_Store_nil xs _ a _ c _ hha rfl hl).mono ?_; rintro e w3 ⟨rfl, hB3⟩
    rw [HL.out]
    first | rw [okE_true] | rw [okE_false]
    go_wp2_with fail
    refine (arena_Words _ [] _ (ArenaP.nil _)).mono ?_; rintro e w4 ⟨rfl, rfl⟩
    rw [e0.out]
    go_wp2_with fail
    refine (arena_In _ [] _ _ _ (ArenaP.nil _) hha hhn).mono ?_; rintro e w4 ⟨rfl, rfl⟩
    rw [e0.out, HI.out]
    go_wp2_with fail
    refine (arena_Zero_nil _ _ _ hha hhn).mono ?_; rintro e w4 ⟨rfl, hB4⟩
    rw [HI.out]
    go_wp2_with fail
    refine (arena_Move_nil _ _ _ hha hhn).mono ?_; rintro e w5 ⟨rfl, hB5⟩
    rw [HI.out]
    go_wp2_with fail
    refine (awake04 _).mono ?_; rintro e w6 ⟨rfl, hB6⟩
    go_wp2
    go_ret
    exact ⟨rfl, ((((hB1.trans hB2).trans hB3).trans hB4).trans hB5).trans hB6⟩
end Go.Proofs.Ytgpegcbhmobdhaa
