/- slices.IndexFunc and ContainsFunc over ints, whatever function of one int is asked. -/
import Derived.Test.YthkbhikiljlgoaaBase
namespace Go.Proofs.Ythkbhikiljlgoaa
open Go.RowKit

/-- 'A call of the function value answers p, and leaves things as R says', from w on. -/
def AsksI (R : World → World → Prop) (g : Nat) (cap : Array Value) (p : Int → Bool) (xs : List Int) (w : World) : Prop :=
  ∀ W, R w W → ∀ x ∈ xs, Calls Try.prog g (#[.int .i64 x] ++ cap) W fun e W' => e = .returned (.bool (p x)) ∧ R W W'

theorem indexFunc_int {R : World → World → Prop} (hR : Quiet R) (g : Nat) (hg : Enters g) (cap : Array Value) (p : Int → Bool) (a : Option Addr) (xs : List Int) (n c : Nat) (w : World)
    (hn : n = xs.length) (hl : xs.length ≤ maxLen) (hrd : RdV w a (ints xs)) (hp : AsksI R g cap p xs w) :
    Calls Try.prog 57 #[.slice a n c, .func (.func g) #[] cap] w fun e w' => e = .returned (.int .i64 (idxF p xs)) ∧ R w w' := by
  subst hn
  unfold maxLen at hl
  have HP := Lib.hid hp
  clear hp
  have hgc : ∀ (args : Array Value) (w : World), (callFunc g args).run Try.prog w = .ok (.enter g args) w := hg
  go_enter Try.func57, Try.ntmps57
  go_wp2
  go_loopw [8] (fun k W => ∃ m : Nat, m ≤ xs.length ∧ k = .int .i64 m ∧ R w W ∧ ∀ j (hj : j < m) (hj' : j < xs.length), p xs[j] = false) (fun k _ => xs.length - (intOf k).toNat)
  case atStart => exact ⟨0, Nat.zero_le _, rfl, hR.refl _, fun j hj => by omega⟩
  case round =>
    obtain ⟨m, hm, rfl, hRw, h0⟩ := hrel
    have H0 := Lib.hid h0
    clear h0
    by_cases hlt : m < xs.length
    · have hb := hR.below hRw
      have hc : ∃ b o, a = some ⟨b, o, none⟩ ∧ wr.cell? ⟨b, o + m, none⟩ = some (.int .i64 xs[m]) := by
        rcases hrd with h | ⟨b, o, e, h⟩
        · simp [ints] at h; subst h; simp at hlt
        · refine ⟨b, o, e, ?_⟩
          have := h m (by simpa [ints] using hlt)
          exact Bel.cell hb (by simpa [ints] using this)
      obtain ⟨b, o, rfl, hcell⟩ := hc
      clear hrd
      go_wp2_with fail
      refine (HP.out wr hRw xs[m] (List.getElem_mem hlt)).mono ?_
      rintro e W' ⟨rfl, hRW⟩
      cases hpx : p xs[m]
      · have HX := Lib.hid hpx
        clear hpx
        go_wp2
        go_roundw
        case rel => exact ⟨m + 1, by omega, by go_num, hR.trans hRw hRW, fun j hj hj' => by
          rcases Nat.lt_or_ge j m with h | h
          · exact H0.out j h hj'
          · obtain rfl : j = m := by omega
            exact HX.out⟩
        case measure => simp [intOf]; omega
      · have HX := Lib.hid (idxF_at p xs m hlt (fun j hj => H0.out j hj (by omega)) hpx)
        clear hpx
        go_wp2
        go_ret
        exact ⟨ret_i HX.out, hR.trans hRw hRW⟩
    · have HX := Lib.hid (idxF_none p xs (fun j hj => H0.out j (by omega) hj))
      go_wp2
      go_ret
      exact ⟨ret_i HX.out, hRw⟩

theorem containsFunc_int {R : World → World → Prop} (hR : Quiet R) (g : Nat) (hg : Enters g) (cap : Array Value) (p : Int → Bool) (a : Option Addr) (xs : List Int) (n c : Nat) (w : World)
    (hn : n = xs.length) (hl : xs.length ≤ maxLen) (hrd : RdV w a (ints xs)) (hp : AsksI R g cap p xs w) :
    Calls Try.prog 40 #[.slice a n c, .func (.func g) #[] cap] w fun e w' => e = .returned (.bool (xs.any p)) ∧ R w w' := by
  subst hn
  have H : Hid (xs.any p = decide (0 ≤ idxF p xs)) := Lib.hid (by
    have := idxF_ge p xs
    cases h : xs.any p <;> simp_all)
  go_enter Try.func40, Try.ntmps40
  go_wp2_with fail
  refine (indexFunc_int hR g hg cap p a xs _ c w rfl hl hrd hp).mono ?_
  rintro e W' ⟨rfl, hRW⟩
  go_wp2
  go_ret
  exact ⟨ret_b H.out, hRW⟩
end Go.Proofs.Ythkbhikiljlgoaa
