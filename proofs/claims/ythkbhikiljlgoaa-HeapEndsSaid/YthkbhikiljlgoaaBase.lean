/- Words that all walks use: what a call leaves as it was, how a slice is read. -/
import Derived.Test.YthkbhikiljlgoaaProg
import Derived.WalkKit
import Derived.Lib.Hide
import Derived.WalkLawsBesides
import Derived.WalkSpells
namespace Go.Proofs.Ythkbhikiljlgoaa
open Go.RowKit

/-- An int of Go. -/
def I64 (n : Int) : Prop := -9223372036854775808 ≤ n ∧ n ≤ 9223372036854775807

theorem ret_i {k : IntKind} {a b : Int} (h : b = a) : Ending.returned (.int k a) = .returned (.int k b) := by rw [h]
theorem ret_b {a b : Bool} (h : b = a) : Ending.returned (.bool a) = .returned (.bool b) := by rw [h]
theorem ret_v {a b : Value} (h : b = a) : Ending.returned a = .returned b := by rw [h]

/-- A call of the function value is the call of the function. -/
def Enters (f : FuncId) : Prop := ∀ (args : Array Value) (w : World), (callFunc f args).run Try.prog w = .ok (.enter f args) w
theorem enters_of {f : FuncId} {fn : Func} {c : Code} (hf : Try.prog.funcs[f]? = some fn) (hname : (fn.name == "runtime.NumGoroutine") = false) (hb : fn.body = some c) : Enters f := by
  intro args w
  have h1 : fn.name ≠ "runtime.NumGoroutine" := by simpa using hname
  simp [callFunc, hf, h1, hb, mark]

/-- A call that changes nothing that was there. -/
structure Quiet (R : World → World → Prop) : Prop where
  refl : ∀ w, R w w
  trans : ∀ {a b c}, R a b → R b c → R a c
  below : ∀ {a b}, R a b → Below a.heap.size a b

def Bel (w w' : World) : Prop := Below w.heap.size w w'
theorem Bel.refl (w : World) : Bel w w := Below.refl _ _
theorem Bel.trans {a b c : World} (h : Bel a b) (k : Bel b c) : Bel a c :=
  Below.trans h (Below.mono k h.size)
theorem Bel.cell {w w' : World} (h : Bel w w') {p : Addr} {v : Value} (hc : w.cell? p = some v) : w'.cell? p = some v :=
  (Below.cell h (World.block_lt_of_cell? w p hc)).trans hc
theorem Bel.of_eq {w w' : World} (h : w = w') : Bel w w' := h ▸ Bel.refl w
theorem Bel.alloc {w w' : World} (h : Bel w w') (o : Obj) : Bel w (w'.alloc o) := Below.alloc h h.size o
theorem Bel.drew {w w' : World} (h : Bel w w') : Bel w w'.drew := Below.drew h
theorem Bel.drewN {w w' : World} (h : Bel w w') (n : Nat) : Bel w (w'.drewN n) := ⟨h.os, h.tape, h.output, h.size, h.block⟩
theorem quiet_eq : Quiet (fun w w' => w = w') := ⟨fun _ => rfl, fun h k => h.trans k, fun h => by subst h; exact Below.refl _ _⟩
theorem quiet_bel : Quiet Bel := ⟨Bel.refl, Bel.trans, fun h => h⟩

/-- Where a slice's cells are, and what they hold. -/
def RdV (w : World) (a : Option Addr) (vs : List Value) : Prop :=
  vs = [] ∨ ∃ b o, a = some ⟨b, o, none⟩ ∧ ∀ i (h : i < vs.length), w.cell? ⟨b, o + i, none⟩ = some vs[i]
theorem RdV.bel {w w' : World} {a : Option Addr} {vs : List Value} (h : RdV w a vs) (k : Bel w w') : RdV w' a vs := by
  rcases h with h | ⟨b, o, e, h⟩
  · exact .inl h
  · exact .inr ⟨b, o, e, fun i hi => k.cell (h i hi)⟩
theorem RdV.at {α : Type} {w : World} {a : Option Addr} {f : α → Value} {xs : List α} (h : RdV w a (xs.map f)) (m : Nat) (hm : m < xs.length) :
    ∃ b o, a = some ⟨b, o, none⟩ ∧ w.cell? ⟨b, o + m, none⟩ = some (f xs[m]) := by
  rcases h with h | ⟨b, o, e, h⟩
  · rw [List.map_eq_nil_iff] at h; subst h; simp at hm
  · exact ⟨b, o, e, (h m (by rw [List.length_map]; exact hm)).trans (by rw [List.getElem_map])⟩
/-- A block that was just made is read. -/
theorem RdV.new (w : World) (cs : Array Value) (T : Nat) : RdV (w.alloc (.cells cs T)) (some ⟨w.heap.size, 0, none⟩) cs.toList :=
  .inr ⟨w.heap.size, 0, rfl, fun i hi => by rw [Nat.zero_add, World.cell?_alloc_new]; simp at hi; simp [hi]⟩
def ints (xs : List Int) : List Value := xs.map (.int .i64)
def u64s (xs : List Int) : List Value := xs.map (.int .u64)

/-- The place of the first one of which p holds; -1. -/
def idxF {α : Type} (p : α → Bool) (xs : List α) : Int := match xs.findIdx? p with | some i => (i : Int) | none => -1
theorem idxF_at {α : Type} (p : α → Bool) (xs : List α) (k : Nat) (hk : k < xs.length) (h0 : ∀ j (hj : j < k), p (xs[j]'(by omega)) = false) (h1 : p xs[k] = true) : idxF p xs = k := by
  have : xs.findIdx? p = some k := by
    rw [List.findIdx?_eq_some_iff_getElem]
    exact ⟨hk, h1, fun j hj => by simp [h0 j hj]⟩
  simp [idxF, this]
theorem idxF_none {α : Type} (p : α → Bool) (xs : List α) (h0 : ∀ j (hj : j < xs.length), p xs[j] = false) : idxF p xs = -1 := by
  have : xs.findIdx? p = none := by
    rw [List.findIdx?_eq_none_iff]
    intro x hx
    obtain ⟨j, hj, rfl⟩ := List.getElem_of_mem hx
    exact h0 j hj
  simp [idxF, this]
theorem idxF_ge {α : Type} (p : α → Bool) (xs : List α) : (idxF p xs ≥ 0) = (xs.any p = true) := by
  rw [eq_iff_iff]
  unfold idxF
  cases h : xs.findIdx? p with
  | some i => simp; obtain ⟨hi, hp, _⟩ := List.findIdx?_eq_some_iff_getElem.1 h; exact ⟨xs[i], List.getElem_mem hi, hp⟩
  | none => simp; exact List.findIdx?_eq_none_iff.1 h
theorem idxF_bound {α : Type} (p : α → Bool) (xs : List α) : -1 ≤ idxF p xs ∧ idxF p xs < xs.length ∨ idxF p xs = -1 := by
  unfold idxF
  cases h : xs.findIdx? p with
  | some i => obtain ⟨hi, _, _⟩ := List.findIdx?_eq_some_iff_getElem.1 h; left; simp; omega
  | none => right; rfl
end Go.Proofs.Ythkbhikiljlgoaa
