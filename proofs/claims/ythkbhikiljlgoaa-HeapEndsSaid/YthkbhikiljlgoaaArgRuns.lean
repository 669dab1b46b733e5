/- Runs that came in as an argument. -/
import Derived.Test.YthkbhikiljlgoaaOpen
import Derived.Test.YthkbhikiljlgoaaRun
namespace Go.Proofs.Ythkbhikiljlgoaa
open Go.ChangeShapes Go.WideShapes Go.ChangeAt Go.RowKit Go.Deep

/-- The runs that came in. -/
structure Runs05 (W : World) (a : Option Addr) (n : Nat) (rs : List Rn) : Prop where
  len : n = rs.length
  max : rs.length ≤ maxLen
  rd : RunsIn W a rs
  ok : ∀ r ∈ rs, I64 r.1 ∧ I64 r.2
def sh05r : Sh := .slice (.struct (.pair (.int .i64) (.pair (.int .i64) .unit)))
theorem runsIn_of_rdr {W : World} {a : Option Addr} {rs : List Rn} (h : RdR W a 2 (rs.map rnCells)) : RunsIn W a rs := by
  rcases h with h | ⟨b, o, e, h⟩
  · left; simpa using h
  · refine .inr ⟨b, o, e, fun i hi => ?_⟩
    have h1 := h i (by simpa using hi)
    rw [List.getElem_map] at h1
    exact ⟨h1 0 _ rfl, h1 1 _ rfl⟩
theorem runs05 {W : World} {a : Option Addr} {n c : Nat} (h : RdC W sh05r [.slice a n c]) : ∃ rs, Runs05 W a n rs := by
  obtain ⟨a', c', rows, he, hl, hr, hR, _⟩ := h
  simp only [List.cons.injEq, Value.slice.injEq, and_true] at he
  obtain ⟨rfl, rfl, rfl⟩ := he
  obtain ⟨xs, rfl, hx⟩ := choose_list (f := rnCells) (p := fun x => I64 x.1 ∧ I64 x.2) rows (fun r hrm => by
    obtain ⟨_, _, rfl, ⟨k, rfl, hk⟩, _, _, rfl, ⟨t, rfl, ht⟩, rfl⟩ := hr r hrm
    exact ⟨(k, t), rfl, i64_of_wf hk, i64_of_wf ht⟩)
  exact ⟨xs, by simp, by simpa using hl, runsIn_of_rdr hR, hx⟩
theorem sh05r_is : sh05r.isT Try.prog (.inl 38) :=
  ⟨_, Try.underlying38, by kernel_rfl, by decide, _, Try.underlying33, by kernel_rfl,
    rfl, by kernel_rfl, Try.underlying3, rfl, by kernel_rfl, Try.underlying3, trivial⟩
theorem arg_runs05 {H : Type} {enc : TypeId × Value → H} {W : World} {a : Option Addr} {len cap : Nat} {d : DataW H} {ps : List MemPlace}
    (h : DataW.Trod enc Try.prog W 0 (fun _ => true) true 38 (.slice a len cap) d ps) : ∃ rs, Runs05 W a len rs :=
  runs05 (arg_shape sh05r sh05r_is h)
end Go.Proofs.Ythkbhikiljlgoaa
