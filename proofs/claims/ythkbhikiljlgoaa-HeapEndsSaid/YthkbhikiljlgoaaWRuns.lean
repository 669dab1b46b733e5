/- slices.IndexFunc and ContainsFunc over runs; package runs: may, find; Clone. -/
import Derived.Test.YthkbhikiljlgoaaRun
import Derived.Test.YthkbhikiljlgoaaPR06
import Derived.Deep.QuietTactic
import Derived.BigQuiet
namespace Go.Proofs.Ythkbhikiljlgoaa
open Go.RowKit

/-- A call of the function value answers p of a run, and leaves what was there. -/
def AsksR (g : Nat) (cap : Array Value) (p : Rn → Bool) (xs : List Rn) (w : World) : Prop :=
  ∀ W, Bel w W → ∀ x ∈ xs, Calls Try.prog g (#[.agg #[.int .i64 x.1, .int .i64 x.2]] ++ cap) W fun e W' => e = .returned (.bool (p x)) ∧ Bel W W'
theorem AsksR.bel {g : Nat} {cap : Array Value} {p : Rn → Bool} {xs : List Rn} {w w' : World} (h : AsksR g cap p xs w) (k : Bel w w') : AsksR g cap p xs w' := fun W hb => h W (k.trans hb)

set_option maxRecDepth 20000 in
theorem indexFunc_run (g : Nat) (hg : Enters g) (cap : Array Value) (p : Rn → Bool) (a : Option Addr) (xs : List Rn) (n c : Nat) (w : World)
    (hn : n = xs.length) (hl : xs.length ≤ 65536) (hrd : RunsIn w a xs) (hp : AsksR g cap p xs w) :
    Calls Try.prog 64 #[.slice a n c, .func (.func g) #[] cap] w fun e w' => e = .returned (.int .i64 (idxF p xs)) ∧ Bel w w' := by
  subst hn
  have HP := Lib.hid hp
  have HR := Lib.hid hrd
  clear hp hrd
  have hgc : ∀ (args : Array Value) (w : World), (callFunc g args).run Try.prog w = .ok (.enter g args) w := hg
  go_enter Try.func64, Try.ntmps64
  go_wp2
  go_loopw [8] (fun k W => ∃ m : Nat, m ≤ xs.length ∧ k = .int .i64 m ∧ Hid (Bel w W ∧ ∀ j (hj : j < m) (hj' : j < xs.length), p xs[j] = false)) (fun k _ => xs.length - (intOf k).toNat)
  case atStart => exact ⟨0, Nat.zero_le _, rfl, Lib.hid ⟨Bel.refl _, fun j hj => by omega⟩⟩
  case round =>
    obtain ⟨m, hm, rfl, HH⟩ := hrel
    by_cases hlt : m < xs.length
    · obtain ⟨b, o, rfl, p0, p1⟩ := (HR.out.bel HH.out.1).at m hlt
      have hcon := HP.out wr HH.out.1 xs[m] (List.getElem_mem hlt)
      obtain ⟨x, hx⟩ : ∃ x, xs[m] = x := ⟨_, rfl⟩
      rw [hx] at p0 p1 hcon
      have HX := Lib.hid hx
      obtain ⟨x1, x2⟩ := x
      dsimp only at p0 p1 hcon
      have HC := Lib.hid hcon
      clear hcon hx
      go_wp2_with fail
      refine HC.out.mono ?_
      rintro e W' ⟨rfl, hRW⟩
      have HB := Lib.hid (HH.out.1.trans hRW)
      clear hRW
      cases hpx : p (x1, x2)
      · have HX2 := Lib.hid hpx
        clear hpx
        go_wp2
        go_roundw
        case rel => exact ⟨m + 1, by omega, by go_num, Lib.hid ⟨HB.out, fun j hj hj' => by
          rcases Nat.lt_or_ge j m with h | h
          · exact HH.out.2 j h hj'
          · obtain rfl : j = m := by omega
            rw [HX.out]; exact HX2.out⟩⟩
        case measure => simp [intOf]; omega
      · have HX2 := Lib.hid (idxF_at p xs m hlt (fun j hj => HH.out.2 j hj (by omega)) (by rw [HX.out]; exact hpx))
        clear hpx
        go_wp2
        go_ret
        exact ⟨ret_i HX2.out, HB.out⟩
    · have HX := Lib.hid (idxF_none p xs (fun j hj => HH.out.2 j (by omega) hj))
      go_wp2
      go_ret
      exact ⟨ret_i HX.out, HH.out.1⟩

theorem containsFunc_run (g : Nat) (hg : Enters g) (cap : Array Value) (p : Rn → Bool) (a : Option Addr) (xs : List Rn) (n c : Nat) (w : World)
    (hn : n = xs.length) (hl : xs.length ≤ 65536) (hrd : RunsIn w a xs) (hp : AsksR g cap p xs w) :
    Calls Try.prog 50 #[.slice a n c, .func (.func g) #[] cap] w fun e w' => e = .returned (.bool (xs.any p)) ∧ Bel w w' := by
  subst hn
  have H : Hid (xs.any p = decide (0 ≤ idxF p xs)) := Lib.hid (by
    have := idxF_ge p xs
    cases h : xs.any p <;> simp_all)
  go_enter Try.func50, Try.ntmps50
  go_wp2_with fail
  refine (indexFunc_run g hg cap p a xs _ c w rfl hl hrd hp).mono ?_
  rintro e W' ⟨rfl, hRW⟩
  go_wp2
  go_ret
  exact ⟨ret_b H.out, hRW⟩

/-! ### may -/
/-- A run that may not be. -/
def notMay (x : Rn) : Bool := decide (x.1 < 0) || decide (x.2 < 1) || decide (1024 ≤ x.1) || decide (1024 - x.1 < x.2)
theorem notMay_there (x : Rn) : notMay x = !there 1024 x := by
  rw [Bool.eq_iff_iff, Bool.not_eq_true', ← Bool.not_eq_true, there_iff]
  simp only [notMay, Bool.or_eq_true, decide_eq_true_eq]
  omega
set_option maxRecDepth 20000 in
theorem may1_asks (xs : List Rn) (w : World) (hok : ∀ x ∈ xs, I64 x.1 ∧ I64 x.2) : AsksR 51 #[] notMay xs w := by
  intro W hb x hx
  obtain ⟨⟨a0, a1⟩, b0, b1⟩ := hok x hx
  obtain ⟨s, n⟩ := x
  dsimp only at a0 a1 b0 b1
  have HN : Hid (notMay (s, n) = (decide (s < 0) || decide (n < 1) || decide (1024 ≤ s) || decide (1024 - s < n))) := Lib.hid rfl
  clear hx hb hok
  by_cases c1 : s < 0
  · go_enter Try.func51, Try.ntmps51
    go_wp2
    go_ret
    exact ⟨by rw [HN.out]; simp [c1], (Bel.refl _).alloc _⟩
  by_cases c2 : n < 1
  · go_enter Try.func51, Try.ntmps51
    go_wp2
    go_ret
    exact ⟨by rw [HN.out]; simp [c2], (Bel.refl _).alloc _⟩
  by_cases c3 : 1024 ≤ s
  · go_enter Try.func51, Try.ntmps51
    go_wp2
    go_ret
    exact ⟨by rw [HN.out]; simp [c3], (Bel.refl _).alloc _⟩
  have c4 : IntKind.i64.wrap (1024 - s) = 1024 - s := IntWalk.i64_in _ (by omega)
  go_enter Try.func51, Try.ntmps51
  go_wp2
  go_ret
  exact ⟨by rw [HN.out, show decide (s < 0) = false from decide_eq_false (by omega), show decide (n < 1) = false from decide_eq_false (by omega), show decide (1024 ≤ s) = false from decide_eq_false (by omega)]; rfl, (Bel.refl _).alloc _⟩
theorem may1_enters : Enters 51 := enters_of Try.func51 (by kernel_rfl) rfl
open Classical in
theorem runs_may (a : Option Addr) (xs : List Rn) (n c : Nat) (w : World) (hn : n = xs.length) (hl : xs.length ≤ 65536) (hrd : RunsIn w a xs) (hok : ∀ x ∈ xs, I64 x.1 ∧ I64 x.2) :
    Calls Try.prog 35 #[.slice a n c] w fun e w' => e = .returned (.bool (decide (AllThere 1024 xs))) ∧ Bel w w' := by
  subst hn
  have H : Hid ((!xs.any notMay) = decide (AllThere 1024 xs)) := Lib.hid (by
    rw [Bool.eq_iff_iff, Bool.not_eq_true', ← Bool.not_eq_true, decide_eq_true_eq, List.any_eq_true]
    constructor
    · intro h r hr
      refine Classical.byContradiction fun hn => h ⟨r, hr, ?_⟩
      rw [notMay_there]; simpa using hn
    · rintro h ⟨r, hr, h1⟩
      rw [notMay_there, h r hr] at h1; cases h1)
  obtain ⟨q, hq⟩ : ∃ q, decide (AllThere 1024 xs) = q := ⟨_, rfl⟩
  rw [hq] at H ⊢
  clear hq
  go_enter Try.func35, Try.ntmps35
  go_wp2_with fail
  refine (containsFunc_run 51 may1_enters #[] notMay a xs _ c w rfl hl hrd (may1_asks xs w hok)).mono ?_
  rintro e W' ⟨rfl, hRW⟩
  obtain ⟨z, hz⟩ : ∃ z, xs.any notMay = z := ⟨_, rfl⟩
  rw [hz] at H ⊢
  clear hz
  go_wp2
  go_ret
  exact ⟨ret_b H.out.symm, hRW⟩
end Go.Proofs.Ythkbhikiljlgoaa
