/- The index of pages, in plain Lean: no program in sight. Chains of blocks through words, in plain Lean: no program in sight. copy and clear on one-cell elements, told of whole blocks. What a call may change: the blocks of S, and what is new. What a law's arguments are, read out of the row's form. Words that all walks use: what a call leaves as it was, how a slice is read. -/
import Derived.Test.YtbldidlbhahciaaGreatProg
import Derived.Test.YtbldidlbhahciaaGreatRows
import Derived.WalkKit
import Derived.Lib.Hide
import Derived.WalkLawsBesides
import Derived.WalkSpells
import Derived.ProofKit
import Derived.OpenShut
import Derived.ShutString
import Derived.ChangeOld
import Derived.Below
import Derived.Carry
import Derived.Laws.CopyRow
import Derived.Laws.IdiomCopy
import Derived.Lib.SliceRun
set_option linter.unusedVariables false
set_option linter.unusedSimpArgs false
namespace Go.Proofs.YtbldidlbhahciaaGreat
open Go.RowKit

/-- An int of Go. -/
def I64 (n : Int) : Prop := -9223372036854775808 ≤ n ∧ n ≤ 9223372036854775807

theorem ret_i {k : IntKind} {a b : Int} (h : b = a) : Ending.returned (.int k a) = .returned (.int k b) := by rw [h]
theorem ret_b {a b : Bool} (h : b = a) : Ending.returned (.bool a) = .returned (.bool b) := by rw [h]
theorem ret_v {a b : Value} (h : b = a) : Ending.returned a = .returned b := by rw [h]

/-- A call of the function value is the call of the function. -/
def Enters (f : FuncId) : Prop := ∀ (args : Array Value) (w : World), (callFunc f args).run Tryz.prog w = .ok (.enter f args) w
theorem enters_of {f : FuncId} {fn : Func} {c : Code} (hf : Tryz.prog.funcs[f]? = some fn) (hname : (fn.name == "runtime.NumGoroutine") = false) (hb : fn.body = some c) : Enters f := by
  intro args w
  have h1 : fn.name ≠ "runtime.NumGoroutine" := by simpa using hname
  simp [callFunc, hf, h1, hb, mark]

/-- A call that changes nothing that was there. -/
structure Quiet (R : World → World → Prop) : Prop where
  refl : ∀ w, R w w
  trans : ∀ {a b c}, R a b → R b c → R a c
  below : ∀ {a b}, R a b → Below a.heap.size a b

def Bel (w w' : World) : Prop := Below w.heap.size w w'
theorem Bel.refl (w : World) : Bel w w := Below.refl _ _
theorem Bel.trans {a b c : World} (h : Bel a b) (k : Bel b c) : Bel a c :=
  Below.trans h (Below.mono k h.size)
theorem Bel.cell {w w' : World} (h : Bel w w') {p : Addr} {v : Value} (hc : w.cell? p = some v) : w'.cell? p = some v :=
  (Below.cell h (World.block_lt_of_cell? w p hc)).trans hc
theorem Bel.of_eq {w w' : World} (h : w = w') : Bel w w' := h ▸ Bel.refl w
theorem Bel.alloc {w w' : World} (h : Bel w w') (o : Obj) : Bel w (w'.alloc o) := Below.alloc h h.size o
theorem Bel.drew {w w' : World} (h : Bel w w') : Bel w w'.drew := Below.drew h
theorem Bel.drewN {w w' : World} (h : Bel w w') (n : Nat) : Bel w (w'.drewN n) := ⟨h.os, h.tape, h.output, h.size, h.block⟩
theorem quiet_eq : Quiet (fun w w' => w = w') := ⟨fun _ => rfl, fun h k => h.trans k, fun h => by subst h; exact Below.refl _ _⟩
theorem quiet_bel : Quiet Bel := ⟨Bel.refl, Bel.trans, fun h => h⟩

/-- Where a slice's cells are, and what they hold. -/
def RdV (w : World) (a : Option Addr) (vs : List Value) : Prop :=
  vs = [] ∨ ∃ b o, a = some ⟨b, o, none⟩ ∧ ∀ i (h : i < vs.length), w.cell? ⟨b, o + i, none⟩ = some vs[i]
theorem RdV.bel {w w' : World} {a : Option Addr} {vs : List Value} (h : RdV w a vs) (k : Bel w w') : RdV w' a vs := by
  rcases h with h | ⟨b, o, e, h⟩
  · exact .inl h
  · exact .inr ⟨b, o, e, fun i hi => k.cell (h i hi)⟩
theorem RdV.at {α : Type} {w : World} {a : Option Addr} {f : α → Value} {xs : List α} (h : RdV w a (xs.map f)) (m : Nat) (hm : m < xs.length) :
    ∃ b o, a = some ⟨b, o, none⟩ ∧ w.cell? ⟨b, o + m, none⟩ = some (f xs[m]) := by
  rcases h with h | ⟨b, o, e, h⟩
  · rw [List.map_eq_nil_iff] at h; subst h; simp at hm
  · exact ⟨b, o, e, (h m (by rw [List.length_map]; exact hm)).trans (by rw [List.getElem_map])⟩
/-- A block that was just made is read. -/
theorem RdV.new (w : World) (cs : Array Value) (T : Nat) : RdV (w.alloc (.cells cs T)) (some ⟨w.heap.size, 0, none⟩) cs.toList :=
  .inr ⟨w.heap.size, 0, rfl, fun i hi => by rw [Nat.zero_add, World.cell?_alloc_new]; simp at hi; simp [hi]⟩
def ints (xs : List Int) : List Value := xs.map (.int .i64)
def u64s (xs : List Int) : List Value := xs.map (.int .u64)

/-- The place of the first one of which p holds; -1. -/
def idxF {α : Type} (p : α → Bool) (xs : List α) : Int := match xs.findIdx? p with | some i => (i : Int) | none => -1
theorem idxF_at {α : Type} (p : α → Bool) (xs : List α) (k : Nat) (hk : k < xs.length) (h0 : ∀ j (hj : j < k), p (xs[j]'(by omega)) = false) (h1 : p xs[k] = true) : idxF p xs = k := by
  have : xs.findIdx? p = some k := by
    rw [List.findIdx?_eq_some_iff_getElem]
    exact ⟨hk, h1, fun j hj => by simp [h0 j hj]⟩
  simp [idxF, this]
theorem idxF_none {α : Type} (p : α → Bool) (xs : List α) (h0 : ∀ j (hj : j < xs.length), p xs[j] = false) : idxF p xs = -1 := by
  have : xs.findIdx? p = none := by
    rw [List.findIdx?_eq_none_iff]
    intro x hx
    obtain ⟨j, hj, rfl⟩ := List.getElem_of_mem hx
    exact h0 j hj
  simp [idxF, this]
theorem idxF_ge {α : Type} (p : α → Bool) (xs : List α) : (idxF p xs ≥ 0) = (xs.any p = true) := by
  rw [eq_iff_iff]
  unfold idxF
  cases h : xs.findIdx? p with
  | some i => simp; obtain ⟨hi, hp, _⟩ := List.findIdx?_eq_some_iff_getElem.1 h; exact ⟨xs[i], List.getElem_mem hi, hp⟩
  | none => simp; exact List.findIdx?_eq_none_iff.1 h
theorem idxF_bound {α : Type} (p : α → Bool) (xs : List α) : -1 ≤ idxF p xs ∧ idxF p xs < xs.length ∨ idxF p xs = -1 := by
  unfold idxF
  cases h : xs.findIdx? p with
  | some i => obtain ⟨hi, _, _⟩ := List.findIdx?_eq_some_iff_getElem.1 h; left; simp; omega
  | none => right; rfl
end Go.Proofs.YtbldidlbhahciaaGreat

namespace Go.Proofs.YtbldidlbhahciaaGreat
open Go.ChangeShapes Go.WideShapes Go.ChangeAt Go.RowKit

theorem lk_own : ownKnob Tryz.prog.godebug = none := by kernel_rfl
theorem lk_laid : laidOutB Tryz.prog = true := by kernel_rfl

theorem i64_of_wf {n : Int} (h : (Lit.int .i64 n).wf = true) : I64 n := bounds_i64 h

set_option maxRecDepth 100000 in
/-- A slice of whole numbers that came in. -/
theorem arg_nums {H : Type} {enc : TypeId × Value → H} {k : IntKind} {t e : TypeId} {W : World} {a : Option Addr} {len cap : Nat} {d : DataW H} {ps : List MemPlace}
    (ht : Tryz.prog.underlying t = some (.slice e)) (he : Tryz.prog.underlying e = some (.int k)) (hc : Tryz.prog.cellsOf e = 1)
    (h : DataW.Trod enc Tryz.prog W 0 (fun _ => true) true t (.slice a len cap) d ps) :
    ∃ xs : List Int, len = xs.length ∧ xs.length ≤ maxLen ∧ RdV W a (xs.map (.int k)) ∧ ∀ x ∈ xs, (Lit.int k x).wf = true := by
  obtain ⟨fuel, hf⟩ := h
  rcases open_ints ht he hc hf with ⟨hcs, _⟩ | ⟨x, l, c, zs, hcs, _, hl, hm, hz, _, hcell, hwz⟩
  · simp [Value.cells] at hcs
    obtain ⟨rfl, rfl, rfl⟩ := hcs
    exact ⟨[], rfl, by simp, .inl rfl, by simp⟩
  · simp [Value.cells] at hcs
    obtain ⟨rfl, rfl, rfl⟩ := hcs
    simp at hz
    refine ⟨zs.take len, by simp; omega, by simp; omega, ?_, fun n hn => hwz n (List.mem_of_mem_take hn)⟩
    by_cases h0 : len = 0
    · subst h0; left; simp
    · obtain ⟨b, off, spot⟩ := x
      have hc0 := hcell 0 (by omega)
      have hspot : spot = none := by simpa [Addr.add] using World.cell?_spot hc0
      subst hspot
      refine .inr ⟨b, off, rfl, fun i hi => ?_⟩
      simp at hi
      have := hcell i (by omega)
      have e : (⟨b, off, none⟩ : Addr).add i = ⟨b, off + i, none⟩ := by
        unfold Addr.add; split
        · subst_vars; rfl
        · rfl
      rw [e] at this
      rw [this]
      simp [List.getD_eq_getElem?_getD, List.getElem?_eq_getElem (show i < zs.length by omega)]
end Go.Proofs.YtbldidlbhahciaaGreat

namespace Go.Proofs.YtbldidlbhahciaaGreat
open Go.RowKit

/-- Everything stands but the blocks of S (and what is new). -/
structure Fr (S : Nat → Prop) (w w' : World) : Prop where
  os : w'.os = w.os
  tape : w'.tape = w.tape
  output : w'.output = w.output
  size : w.heap.size ≤ w'.heap.size
  block : ∀ k, k < w.heap.size → ¬ S k → w'.heap[k]? = w.heap[k]?

theorem Fr.refl (S : Nat → Prop) (w : World) : Fr S w w := ⟨rfl, rfl, rfl, Nat.le_refl _, fun _ _ _ => rfl⟩
theorem Fr.of_bel {S : Nat → Prop} {w w' : World} (h : Bel w w') : Fr S w w' := ⟨h.os, h.tape, h.output, h.size, fun k hk _ => h.block k hk⟩
theorem Fr.bel {S : Nat → Prop} {w w' : World} (h : Fr S w w') (hs : ∀ k, S k → w.heap.size ≤ k) : Bel w w' :=
  ⟨h.os, h.tape, h.output, h.size, fun k hk => h.block k hk (fun hS => by have := hs k hS; omega)⟩
theorem Fr.mono {S S' : Nat → Prop} {w w' : World} (h : Fr S w w') (hs : ∀ k, S k → S' k) : Fr S' w w' :=
  ⟨h.os, h.tape, h.output, h.size, fun k hk hn => h.block k hk (fun h1 => hn (hs k h1))⟩
theorem Fr.trans {S S' : Nat → Prop} {a b c : World} (h : Fr S a b) (k : Fr S' b c) (hs : ∀ k, S' k → S k ∨ a.heap.size ≤ k) : Fr S a c :=
  ⟨k.os.trans h.os, k.tape.trans h.tape, k.output.trans h.output, Nat.le_trans h.size k.size, fun i hi hn =>
    (k.block i (Nat.lt_of_lt_of_le hi h.size) (fun h1 => by rcases hs i h1 with h2 | h2; exact hn h2; omega)).trans (h.block i hi hn)⟩
theorem Fr.trans' {S : Nat → Prop} {a b c : World} (h : Fr S a b) (k : Fr S b c) : Fr S a c := h.trans k (fun _ h => .inl h)
theorem Fr.then_bel {S : Nat → Prop} {a b c : World} (h : Fr S a b) (k : Bel b c) : Fr S a c := h.trans (Fr.of_bel (S := S) k) (fun _ h => .inl h)
theorem Fr.alloc {S : Nat → Prop} {a b : World} (h : Fr S a b) (o : Obj) : Fr S a (b.alloc o) := h.then_bel ((Bel.refl _).alloc o)
theorem Fr.drew {S : Nat → Prop} {a b : World} (h : Fr S a b) : Fr S a b.drew := h.then_bel (Bel.refl _).drew
theorem Fr.setCell {S : Nat → Prop} {a b : World} (h : Fr S a b) {p : Addr} (hp : S p.block ∨ a.heap.size ≤ p.block) (v : Value) : Fr S a (b.setCell p v) :=
  h.trans (S' := fun k => k = p.block) ⟨rfl, rfl, rfl, by simp [World.setCell], fun k _ hn => Below.heap_setCell b p v k hn⟩ (fun k hk => by subst hk; exact hp)
/-- What lies outside S is as it was. -/
theorem Fr.heap {S : Nat → Prop} {a b : World} (h : Fr S a b) {k : Nat} {o : Obj} (ho : a.heap[k]? = some o) (hk : ¬ S k) : b.heap[k]? = some o := by
  have hlt : k < a.heap.size := by
    rcases Nat.lt_or_ge k a.heap.size with h1 | h1
    · exact h1
    · simp [Array.getElem?_eq_none h1] at ho
  exact (h.block k hlt hk).trans ho
theorem heap_lt {w : World} {k : Nat} {o : Obj} (ho : w.heap[k]? = some o) : k < w.heap.size := by
  rcases Nat.lt_or_ge k w.heap.size with h1 | h1
  · exact h1
  · simp [Array.getElem?_eq_none h1] at ho
theorem Fr.cell {S : Nat → Prop} {a b : World} (h : Fr S a b) {p : Addr} {v : Value} (hc : a.cell? p = some v) (hk : ¬ S p.block) : b.cell? p = some v := by
  have hlt := World.block_lt_of_cell? a p hc
  have := h.block p.block hlt hk
  simpa [World.cell?, this] using hc
theorem Fr.frozen {S : Nat → Prop} {a b : World} (h : Fr S a b) {p : Addr} (hlt : p.block < a.heap.size) (hk : ¬ S p.block) : b.frozen? p = a.frozen? p := by
  have := h.block p.block hlt hk
  simp [World.frozen?, this]
theorem RdV.fr {S : Nat → Prop} {w w' : World} {a : Option Addr} {vs : List Value} (h : RdV w a vs) (k : Fr S w w') (hn : ∀ p, a = some p → ¬ S p.block) : RdV w' a vs := by
  rcases h with h | ⟨b, o, e, h⟩
  · exact .inl h
  · exact .inr ⟨b, o, e, fun i hi => k.cell (h i hi) (show ¬ S b from hn ⟨b, o, none⟩ e)⟩

/-! ### a block known whole -/
theorem blk_cell {w : World} {b : Nat} {cs : Array Value} {T : Nat} {fz : Nat × Nat} (h : w.heap[b]? = some (.cells cs T fz)) (i : Nat) : w.cell? ⟨b, i, none⟩ = cs[i]? := by
  simp [World.cell?, h]
theorem blk_frozen {w : World} {b : Nat} {cs : Array Value} {T : Nat} (h : w.heap[b]? = some (.cells cs T (0, 0))) (i : Nat) : w.frozen? ⟨b, i, none⟩ = false := by
  simp [World.frozen?, h]
theorem blk_alloc (w : World) (o : Obj) : (w.alloc o).heap[w.heap.size]? = some o := by unfold World.alloc; simp only [Array.getElem?_push_size]
theorem blk_alloc_old {w : World} {b : Nat} {x : Obj} (o : Obj) (h : w.heap[b]? = some x) : (w.alloc o).heap[b]? = some x := by
  have := heap_lt h
  rw [Below.heap_alloc w o b this]; exact h
theorem blk_setCell {w : World} {b : Nat} {cs : Array Value} {T : Nat} {fz : Nat × Nat} (h : w.heap[b]? = some (.cells cs T fz)) (i : Nat) (v : Value) :
    (w.setCell ⟨b, i, none⟩ v).heap[b]? = some (.cells (cs.setIfInBounds i v) T fz) := by
  simp [World.setCell, Array.getElem?_modify, h]
theorem blk_setCell_other {w : World} {b : Nat} {x : Obj} (h : w.heap[b]? = some x) {p : Addr} (hp : b ≠ p.block) (v : Value) : (w.setCell p v).heap[b]? = some x := by
  rw [Below.heap_setCell w p v b hp]; exact h

/-! ### rows of one's own -/
theorem own_base {w : World} {base base' e size n : Nat} {v : Value} {xs : List Value} (h : w.ownsRow base e size v n xs) (hb : base' ≤ base) : w.ownsRow base' e size v n xs := by
  refine ⟨h.1, ?_⟩
  rcases h.2 with h1 | ⟨g, cap, cur, h1, h2, h3⟩
  · exact .inl h1
  · exact .inr ⟨g, cap, cur, h1, Nat.le_trans hb h2, h3⟩
theorem own_fr {S : Nat → Prop} {w w' : World} {base e size n : Nat} {v : Value} {xs : List Value} (h : w.ownsRow base e size v n xs) (k : Fr S w w') (hS : ∀ b, base ≤ b → v.ownBlock = some b → ¬ S b) : w'.ownsRow base e size v n xs := by
  refine ⟨h.1, ?_⟩
  rcases h.2 with h1 | ⟨g, cap, cur, h1, h2, h3, h4⟩
  · exact .inl h1
  · exact .inr ⟨g, cap, cur, h1, h2, k.heap h3 (hS g h2 (by rw [h1]; rfl)), h4⟩
theorem own_bel {w w' : World} {base e size n : Nat} {v : Value} {xs : List Value} (h : w.ownsRow base e size v n xs) (k : Bel w w') : w'.ownsRow base e size v n xs :=
  own_fr h (Fr.of_bel (S := fun _ => False) k) (fun _ _ _ h => h)
/-- What a row of one's own is as a value. -/
theorem own_slice {w : World} {base e size n : Nat} {v : Value} {xs : List Value} (h : w.ownsRow base e size v n xs) : ∃ a c, v = .slice a n c ∧ RdV w a xs ∧ n ≤ c := by
  rcases h.2 with ⟨h1, rfl⟩ | ⟨g, cap, cur, h1, h2, h3, h4, h5, h6, h7⟩
  · exact ⟨none, 0, h1, .inl (List.eq_nil_of_length_eq_zero (by simpa using h.1)), Nat.le_refl _⟩
  · refine ⟨_, cap, h1, .inr ⟨g, 0, rfl, fun i hi => ?_⟩, h4⟩
    rw [Nat.zero_add, blk_cell h3]
    subst h7
    simp only [List.length_take, Array.length_toList] at hi
    rw [List.getElem_take, Array.getElem_toList]
    exact Array.getElem?_eq_getElem (by omega)
/-- What a row of one's own is as a value, and where it lies. -/
theorem own_slice2 {w : World} {base e size n : Nat} {v : Value} {xs : List Value} (h : w.ownsRow base e size v n xs) : ∃ a c, v = .slice a n c ∧ RdV w a xs ∧ n ≤ c ∧ ∀ p, a = some p → base ≤ p.block := by
  obtain ⟨a, c, rfl, h1, h2⟩ := own_slice h
  refine ⟨a, c, rfl, h1, h2, fun p hp => ?_⟩
  rcases h.2 with ⟨h3, _⟩ | ⟨g, cap, cur, h3, h4, _⟩
  · simp at h3; rw [h3.1] at hp; cases hp
  · simp at h3; rw [h3.1] at hp; cases hp; exact h4

theorem fr_grown {w w' : World} {b : Nat} (h : w.grownBy w' (some b)) : Fr (fun k => k = b) w w' :=
  ⟨h.os, h.tape, h.output, h.size, fun k hk hn => h.block k hk (fun e => hn (by cases e; rfl))⟩
theorem bel_grown {w w' : World} (h : w.grownBy w' none) : Bel w w' := ⟨h.os, h.tape, h.output, h.size, fun k hk => h.block k hk (by simp)⟩
end Go.Proofs.YtbldidlbhahciaaGreat

namespace Go.Proofs.YtbldidlbhahciaaGreat
open Go.RowKit

/-- A list with a run of it replaced. -/
def splice {α : Type} (l : List α) (o : Nat) (xs : List α) : List α := l.take o ++ xs ++ l.drop (o + xs.length)
theorem splice_length {α : Type} (l : List α) (o : Nat) (xs : List α) (h : o + xs.length ≤ l.length) : (splice l o xs).length = l.length := by
  simp [splice]; omega
theorem splice_map {α β : Type} (f : α → β) (l : List α) (o : Nat) (xs : List α) : (splice l o xs).map f = splice (l.map f) o (xs.map f) := by
  simp [splice, List.map_take, List.map_drop]
theorem splice_mem {α : Type} {l : List α} {o : Nat} {xs : List α} {x : α} (h : x ∈ splice l o xs) : x ∈ l ∨ x ∈ xs := by
  simp only [splice, List.mem_append] at h
  rcases h with (h | h) | h
  · exact .inl (List.mem_of_mem_take h)
  · exact .inr h
  · exact .inl (List.mem_of_mem_drop h)
theorem splice_get {α : Type} (l : List α) (o : Nat) (xs : List α) (h : o + xs.length ≤ l.length) (j : Nat) :
    (splice l o xs)[j]? = if o ≤ j ∧ j < o + xs.length then xs[j - o]? else l[j]? := by
  unfold splice
  rw [List.append_assoc, List.getElem?_append]
  by_cases h1 : j < o
  · rw [if_pos (by simp; omega), if_neg (by omega), List.getElem?_take, if_pos h1]
  · rw [if_neg (by simp; omega), List.getElem?_append]
    simp only [List.length_take, Nat.min_eq_left (show o ≤ l.length by omega)]
    by_cases h2 : j - o < xs.length
    · rw [if_pos h2, if_pos (by omega)]
    · rw [if_neg h2, if_neg (by omega), List.getElem?_drop]
      congr 1; omega
theorem splice_nil {α : Type} (l : List α) (o : Nat) : splice l o [] = l := by simp [splice]

theorem splice_set {α : Type} (l : List α) (o : Nat) (xs : List α) (h : o + xs.length ≤ l.length) (i : Nat) (hi : i < xs.length) :
    (splice l o (xs.take i)).set (o + i) xs[i] = splice l o (xs.take (i + 1)) := by
  have h1 : (xs.take i).length = i := by simp; omega
  have h2 : (xs.take (i + 1)).length = i + 1 := by simp; omega
  apply List.ext_getElem?
  intro j
  rw [List.getElem?_set, splice_get l o _ (by omega), splice_get l o _ (by omega), splice_length l o _ (by omega), h1, h2]
  by_cases e : o + i = j
  · subst e
    rw [if_pos rfl, if_pos (by omega), if_pos (by omega), List.getElem?_take, if_pos (by omega), show o + i - o = i by omega, List.getElem?_eq_getElem hi]
  · rw [if_neg e]
    by_cases e2 : o ≤ j ∧ j < o + i
    · rw [if_pos e2, if_pos (by omega), List.getElem?_take, List.getElem?_take, if_pos (by omega), if_pos (by omega)]
    · rw [if_neg e2, if_neg (by omega)]
theorem splice_row_same {α : Type} (l : List α) (o : Nat) (xs : List α) (h : o + xs.length ≤ l.length) : ((splice l o xs).drop o).take xs.length = xs := by
  apply List.ext_getElem?
  intro j
  rw [List.getElem?_take]
  split
  · rename_i hj
    rw [List.getElem?_drop, splice_get l o xs h, if_pos (by omega), show o + j - o = j by omega]
  · rename_i hj
    rw [List.getElem?_eq_none (by omega)]
theorem splice_row_other {α : Type} (l : List α) (t : Nat) (ys : List α) (h : t + ys.length ≤ l.length) (o n : Nat) (hd : o + n ≤ t ∨ t + ys.length ≤ o) : ((splice l t ys).drop o).take n = (l.drop o).take n := by
  apply List.ext_getElem?
  intro j
  rw [List.getElem?_take, List.getElem?_take]
  split
  · rename_i hj
    rw [List.getElem?_drop, List.getElem?_drop, splice_get l t ys h, if_neg (by omega)]
  · rfl
theorem addr_add (b p j : Nat) : (⟨b, p, none⟩ : Addr).add j = ⟨b, p + j, none⟩ := by
  unfold Addr.add; split <;> simp_all

theorem fr_setRow {w : World} {g : Nat} (cs : Array Value) : Fr (fun k => k = g) w (w.setRow g cs) :=
  ⟨rfl, rfl, rfl, by simp [World.setRow], fun k _ hn => by simp [World.setRow, Array.getElem?_modify, Ne.symm hn]⟩

/-- copy into a block, from cells that are read. -/
theorem copy_blk {W : World} {dT sT ty elem : TypeId} {g o n dc sc : Nat} {a : Option Addr} {cur : List Value} {T : Nat} {vs : List Value}
    (hu : Tryz.prog.underlying dT = some (.slice elem)) (hs : (Tryz.prog.info? elem).map (·.size) = some 1) (hg : W.heap[g]? = some (.cells cur.toArray T (0, 0)))
    (hrd : RdV W a vs) (hn : vs.length = n) (hfit : o + n ≤ cur.length) (h1 : ∀ v ∈ vs, v.oneCell' = true) (h0 : 0 < n) :
    ∃ W1, (Builtin.copy_ #[dT, sT] ty #[.slice (some ⟨g, o, none⟩) n dc, .slice a n sc]).run Tryz.prog W = .ok (.int .i64 n) W1 ∧
      W1.heap[g]? = some (.cells (splice cur o vs).toArray T (0, 0)) ∧ Fr (fun k => k = g) W W1 ∧ W1.heap.size = W.heap.size := by
  subst hn
  rcases hrd with h | ⟨b, p, rfl, hc⟩
  · subst h; simp at h0
  · have := run_copy_row Tryz.prog W dT sT ty elem g o vs.length dc ⟨b, p, none⟩ vs.length sc cur.toArray T vs hu hs hg (by simp)
      (fun j v hv => by
        obtain ⟨hj, rfl⟩ := List.getElem?_eq_some_iff.1 hv
        rw [addr_add]; exact hc j hj) (by simpa using hfit) h1
    have e2 : cur.toArray.toList = cur := by simp
    rw [e2] at this
    exact ⟨W.setRow g (splice cur o vs).toArray, this, setRow_heap W g cur.toArray _ T _ hg, fr_setRow _, by simp [World.setRow]⟩

/-- The operation 'copy' in a walk, its run being known. -/
theorem wp_copy {w : World} {ops : Array Oper} {rest : List Oper} {o : Oper} {a : Act} {Q : Exit → Act → World → Prop} {d s : Operand} {t t' : TypeId} {v u v' : Value} {w' : World}
    (hgd : o.guard = none) (ho : o.op = .call { callee := .builtin .copy, args := #[d, s], argTypes := #[t, t'] }) (hd : a.eval d = v) (hs : a.eval s = u)
    (hr : (Builtin.copy_ #[t, t'] o.type #[v, u]).run Tryz.prog w = .ok v' w') (h : wpList Tryz.prog ops Q rest (a.put o.dst v') w') : wpList Tryz.prog ops Q (o :: rest) a w := by
  refine wpList_plain hgd fun K hK => ?_
  unfold Oper.wp execOp
  simp only [ho, resolve, invoke, builtin, Sem.run_bind, Sem.run_pure, Result.andThen_ok, List.map_toArray, List.map_cons, List.map_nil, hd, hs, hr]
  exact hK _ _ h
theorem wp_clear {w : World} {ops : Array Oper} {rest : List Oper} {o : Oper} {a : Act} {Q : Exit → Act → World → Prop} {d : Operand} {t : TypeId} {v v' : Value} {w' : World}
    (hgd : o.guard = none) (ho : o.op = .call { callee := .builtin .clear, args := #[d], argTypes := #[t] }) (hd : a.eval d = v)
    (hr : (Builtin.clear_ #[t] o.type #[v]).run Tryz.prog w = .ok v' w') (h : wpList Tryz.prog ops Q rest (a.put o.dst v') w') : wpList Tryz.prog ops Q (o :: rest) a w := by
  refine wpList_plain hgd fun K hK => ?_
  unfold Oper.wp execOp
  simp only [ho, resolve, invoke, builtin, Sem.run_bind, Sem.run_pure, Result.andThen_ok, List.map_toArray, List.map_cons, List.map_nil, hd, hr]
  exact hK _ _ h

/-- copy of nothing. -/
theorem copy_zero {W : World} {dT sT ty elem : TypeId} {d a : Option Addr} {dc sc n m : Nat}
    (hu : Tryz.prog.underlying dT = some (.slice elem)) (hs : (Tryz.prog.info? elem).map (·.size) = some 1) (h : n = 0 ∨ m = 0) :
    (Builtin.copy_ #[dT, sT] ty #[.slice d n dc, .slice a m sc]).run Tryz.prog W = .ok (.int .i64 0) W := by
  exact run_copy_none W dT sT ty elem d a n dc m sc hu hs (by rcases h with rfl | rfl <;> simp)

theorem cell_set_same {w : World} {b i : Nat} {x : Value} (h : w.cell? ⟨b, i, none⟩ = some x) (v : Value) : (w.setCell ⟨b, i, none⟩ v).cell? ⟨b, i, none⟩ = some v := by
  obtain ⟨cs, T, fz, hb⟩ : ∃ cs T fz, w.heap[b]? = some (.cells cs T fz) := by
    unfold World.cell? at h
    split at h
    · rename_i c T fz hb; exact ⟨_, _, _, hb⟩
    · simp at h
  rw [blk_cell hb] at h
  rw [blk_cell (blk_setCell hb i v)]
  have := (Array.getElem?_eq_some_iff.1 h).1
  simp [this]

theorem clear_none (W : World) (t ty e : TypeId) (hu : Tryz.prog.underlying t = some (.slice e)) : (Builtin.clear_ #[t] ty #[.slice none 0 0]).run Tryz.prog W = .ok (.tuple #[]) W := by
  simp [Builtin.clear_, run_underlying hu]

/-- clear of a run of a block. -/
theorem clear_blk {W : World} {t ty elem : TypeId} {g o n dc : Nat} {cur : List Value} {T : Nat} {z : Value}
    (hu : Tryz.prog.underlying t = some (.slice elem)) (hv : ∀ w, (zeroValue elem).run Tryz.prog w = .ok z w) (hz : z.cells = #[z]) (h1 : z.oneCell' = true)
    (hg : W.heap[g]? = some (.cells cur.toArray T (0, 0))) (hfit : o + n ≤ cur.length) (h0 : 0 < n) :
    ∃ W1, (Builtin.clear_ #[t] ty #[.slice (some ⟨g, o, none⟩) n dc]).run Tryz.prog W = .ok (.tuple #[]) W1 ∧
      W1.heap[g]? = some (.cells (splice cur o (List.replicate n z)).toArray T (0, 0)) ∧ Fr (fun k => k = g) W W1 ∧ W1.heap.size = W.heap.size := by
  have hzc : (Builtin.zeroCells z.cells n).toList = List.replicate n z := by
    rw [hz]
    simp [Builtin.zeroCells]
    apply List.ext_getElem
    · simp
    · intro i h1 h2
      simp [Nat.mod_one]
  have hst := run_storeCells_at Tryz.prog g o T (List.replicate n z) 0 cur.toArray W hg (by simpa using hfit) (by intro v hv'; rw [List.eq_of_mem_replicate hv']; exact h1)
  have e2 : cur.toArray.toList = cur := by simp
  simp only [Nat.add_zero, e2] at hst
  refine ⟨W.setRow g (splice cur o (List.replicate n z)).toArray, ?_, setRow_heap W g cur.toArray _ T _ hg, fr_setRow _, by simp [World.setRow]⟩
  obtain ⟨m, rfl⟩ : ∃ m, n = m + 1 := ⟨n - 1, by omega⟩
  simp only [Builtin.clear_]
  simp [run_underlying hu, hv, hzc, hst, splice]

theorem RdV.cells {w : World} {b o : Nat} {vs : List Value} (h : RdV w (some ⟨b, o, none⟩) vs) : ∀ j u, vs[j]? = some u → w.cell? ((⟨b, o, none⟩ : Addr).add j) = some u := by
  intro j u hj
  obtain ⟨hlt, rfl⟩ := List.getElem?_eq_some_iff.1 hj
  rcases h with h | ⟨b', o', e, h⟩
  · subst h; simp at hlt
  · injection e with e; injection e with e1 e2
    subst e1; subst e2
    rw [addr_add]; exact h j hlt
theorem u64s_one (xs : List Int) : ∀ v ∈ u64s xs, v.oneCell' = true := by
  intro v hv; simp only [u64s, List.mem_map] at hv; obtain ⟨x, _, rfl⟩ := hv; rfl
/-- A struct of two cells, written whole, is read so. -/
theorem two_set {w : World} {R T : Nat} {x0 y0 : Value} (g : w.heap[R]? = some (.cells #[x0, y0] T (0, 0))) (x y : Value) :
    (w.setCell ⟨R, 0, none⟩ x).cell? ⟨R, 0, none⟩ = some x ∧ ((w.setCell ⟨R, 0, none⟩ x).setCell ⟨R, 1, none⟩ y).cell? ⟨R, 1, none⟩ = some y ∧
    ((w.setCell ⟨R, 0, none⟩ x).setCell ⟨R, 1, none⟩ y).heap[R]? = some (.cells #[x, y] T (0, 0)) := by
  have h1 := blk_setCell g 0 x
  have h2 := blk_setCell h1 1 y
  exact ⟨cell_set_same (blk_cell g 0) x, cell_set_same (x := y0) (by rw [blk_cell h1]; rfl) y, by simpa using h2⟩
theorem two_cells {w : World} {R T : Nat} {x0 y0 : Value} (g : w.heap[R]? = some (.cells #[x0, y0] T (0, 0))) :
    w.cell? ⟨R, 0, none⟩ = some x0 ∧ w.cell? ⟨R, 1, none⟩ = some y0 ∧ w.frozen? ⟨R, 0, none⟩ = false ∧ w.frozen? ⟨R, 1, none⟩ = false :=
  ⟨blk_cell g 0, blk_cell g 1, blk_frozen g 0, blk_frozen g 1⟩
/-- A struct of two written where it was new. -/
theorem fr_two {S : Nat → Prop} {w w1 : World} (h : Fr S w w1) {R : Nat} (hR : w.heap.size ≤ R) (x y : Value) : Fr S w ((w1.setCell ⟨R, 0, none⟩ x).setCell ⟨R, 1, none⟩ y) :=
  (h.setCell (.inr hR) _).setCell (.inr hR) _
theorem bel_two {w w1 : World} (h : Bel w w1) {R : Nat} (hR : w.heap.size ≤ R) (x y : Value) : Bel w ((w1.setCell ⟨R, 0, none⟩ x).setCell ⟨R, 1, none⟩ y) :=
  Fr.bel (fr_two (S := fun _ => False) (Fr.of_bel h) hR x y) (fun _ (h : False) => h.elim)
end Go.Proofs.YtbldidlbhahciaaGreat

namespace Go.Proofs.YtbldidlbhahciaaGreat

/-- The word at an address. -/
def wd (ws : List Int) (x : Int) : Int := ws.getD x.toNat 0
/-- From head h on the blocks are l. -/
def IsCh (ws : List Int) : Int → List Int → Prop
  | h, [] => h = 0
  | h, x :: l => h = x + 1 ∧ 0 ≤ x ∧ x < ws.length ∧ IsCh ws (wd ws x) l
/-- From head h on the blocks are l, and behind them head k. -/
def Seg (ws : List Int) : Int → List Int → Int → Prop
  | h, [], k => h = k
  | h, x :: l, k => h = x + 1 ∧ 0 ≤ x ∧ x < ws.length ∧ Seg ws (wd ws x) l k

theorem Seg.snoc {ws : List Int} : ∀ {l : List Int} {h x : Int}, Seg ws h l (x + 1) → 0 ≤ x → x < ws.length → Seg ws h (l ++ [x]) (wd ws x)
  | [], h, x, hs, h0, h1 => ⟨hs, h0, h1, rfl⟩
  | y :: l, h, x, ⟨a, b, c, hs⟩, h0, h1 => ⟨a, b, c, Seg.snoc hs h0 h1⟩
theorem Seg.split {ws : List Int} : ∀ {o : List Int} {h k : Int} {l : List Int}, Seg ws h o k → IsCh ws h l → ∃ l2, l = o ++ l2 ∧ IsCh ws k l2
  | [], h, k, l, hs, hc => ⟨l, rfl, by cases (show h = k from hs); exact hc⟩
  | y :: o, h, k, [], ⟨a, b, c, hs⟩, hc => by have : h = 0 := hc; omega
  | y :: o, h, k, z :: l, ⟨a, b, c, hs⟩, ⟨a', b', c', hc⟩ => by
    have : y = z := by omega
    subst this
    obtain ⟨l2, rfl, h2⟩ := Seg.split hs hc
    exact ⟨l2, rfl, h2⟩
theorem Seg.join {ws : List Int} : ∀ {o : List Int} {h k : Int} {l : List Int}, Seg ws h o k → IsCh ws k l → IsCh ws h (o ++ l)
  | [], h, k, l, hs, hc => by cases (show h = k from hs); exact hc
  | y :: o, h, k, l, ⟨a, b, c, hs⟩, hc => ⟨a, b, c, Seg.join hs hc⟩
theorem Seg.range {ws : List Int} : ∀ {o : List Int} {h k : Int}, Seg ws h o k → ∀ x ∈ o, 0 ≤ x ∧ x < ws.length
  | [], _, _, _, x, hx => by simp at hx
  | y :: o, h, k, ⟨a, b, c, hs⟩, x, hx => by
    rcases List.mem_cons.1 hx with rfl | hx
    · exact ⟨b, c⟩
    · exact Seg.range hs x hx
theorem isCh_unique {ws : List Int} : ∀ {l l' : List Int} {h : Int}, IsCh ws h l → IsCh ws h l' → l = l'
  | [], [], _, _, _ => rfl
  | [], y :: l', h, hc, ⟨a, b, _⟩ => by have : h = 0 := hc; omega
  | y :: l, [], h, ⟨a, b, _⟩, hc => by have : h = 0 := hc; omega
  | y :: l, z :: l', h, ⟨a, b, c, hs⟩, ⟨a', b', c', hs'⟩ => by
    have : y = z := by omega
    subst this
    rw [isCh_unique hs hs']
theorem isCh_range {ws : List Int} : ∀ {l : List Int} {h : Int}, IsCh ws h l → ∀ x ∈ l, 0 ≤ x ∧ x < ws.length
  | [], _, _, x, hx => by simp at hx
  | y :: l, h, ⟨a, b, c, hs⟩, x, hx => by
    rcases List.mem_cons.1 hx with rfl | hx
    · exact ⟨b, c⟩
    · exact isCh_range hs x hx
theorem isCh_head {ws : List Int} {l : List Int} {h : Int} (hc : IsCh ws h l) : 0 ≤ h ∧ h ≤ ws.length := by
  cases l with
  | nil => have : h = 0 := hc; omega
  | cons x l => obtain ⟨a, b, c, _⟩ := hc; omega
/-- Words that are the same along a chain bear the same chain. -/
theorem isCh_same {ws ws' : List Int} (hl : ws'.length = ws.length) : ∀ {l : List Int} {h : Int}, IsCh ws h l → (∀ x ∈ l, wd ws' x = wd ws x) → IsCh ws' h l
  | [], _, hc, _ => hc
  | y :: l, h, ⟨a, b, c, hs⟩, he => ⟨a, b, by omega, by rw [he y (by simp)]; exact isCh_same hl hs (fun x hx => he x (by simp [hx]))⟩

/-- A chain that is right: its blocks. -/
structure RightC (ws : List Int) (hd ln : Int) (l : List Int) : Prop where
  ch : IsCh ws hd l
  nd : l.Nodup
  len : (l.length : Int) = ln
theorem RightC.unique {ws : List Int} {hd ln : Int} {l l' : List Int} (h : RightC ws hd ln l) (h' : RightC ws hd ln l') : l = l' := isCh_unique h.ch h'.ch

theorem nodup_bound : ∀ (n : Nat) (l : List Int), l.Nodup → (∀ x ∈ l, 0 ≤ x ∧ x < n) → l.length ≤ n
  | 0, l, _, hb => by
    cases l with
    | nil => simp
    | cons x l => have := hb x (by simp); omega
  | n + 1, l, hn, hb => by
    by_cases h : (n : Int) ∈ l
    · have := nodup_bound n (l.erase n) (hn.erase _) (fun x hx => by
        have h1 := (hn.mem_erase_iff).1 hx
        have h2 := hb x h1.2
        omega)
      rw [List.length_erase_of_mem h] at this
      omega
    · have := nodup_bound n l hn (fun x hx => by
        have h2 := hb x hx
        have : x ≠ n := fun e => h (e ▸ hx)
        omega)
      omega
theorem RightC.small {ws : List Int} {hd ln : Int} {l : List Int} (h : RightC ws hd ln l) : l.length ≤ ws.length := nodup_bound _ l h.nd (isCh_range h.ch)

/-- What is behind a head, as the program sees it; -1: it isn't there, or is none. -/
def nxt (ws : List Int) (h : Int) : Int := if 0 ≤ h - 1 ∧ h - 1 < ws.length ∧ wd ws (h - 1) ≤ ws.length then wd ws (h - 1) else -1

/-! ### the walk along a chain that isn't right -/
theorem not_right_neg {ws : List Int} {hd ln h : Int} {o : List Int} (hs : Seg ws hd o h) (hh : h < 0) : ∀ l, ¬ RightC ws hd ln l := fun l hr => by
  obtain ⟨l2, rfl, h2⟩ := hs.split hr.ch
  have := isCh_head h2
  omega
theorem not_right_met {ws : List Int} {hd ln h : Int} {o : List Int} (hs : Seg ws hd o h) (h0 : h ≠ 0) (hm : h - 1 ∈ o) : ∀ l, ¬ RightC ws hd ln l := fun l hr => by
  obtain ⟨l2, rfl, h2⟩ := hs.split hr.ch
  cases l2 with
  | nil => exact h0 h2
  | cons x l2 =>
    have hx : x = h - 1 := by have := h2.1; omega
    subst hx
    exact (List.nodup_append.1 hr.nd).2.2 _ hm (h - 1) (by simp) rfl
theorem not_right_long {ws : List Int} {hd ln h : Int} {o : List Int} (hs : Seg ws hd o h) (h0 : h ≠ 0) (hm : ln ≤ o.length) : ∀ l, ¬ RightC ws hd ln l := fun l hr => by
  obtain ⟨l2, rfl, h2⟩ := hs.split hr.ch
  cases l2 with
  | nil => exact h0 h2
  | cons x l2 => have := hr.len; simp at this; omega
theorem not_right_end {ws : List Int} {hd ln : Int} {o : List Int} (hs : Seg ws hd o 0) (hm : (o.length : Int) ≠ ln) : ∀ l, ¬ RightC ws hd ln l := fun l hr => by
  have h1 := hs.join (l := []) rfl
  rw [List.append_nil] at h1
  have := isCh_unique h1 hr.ch
  subst this
  exact hm hr.len
theorem not_right_next {ws : List Int} {hd ln h : Int} {o : List Int} (hs : Seg ws hd o h) (h0 : h ≠ 0) (hn : nxt ws h = -1 ∧ ¬ (0 ≤ h - 1 ∧ h - 1 < ws.length ∧ wd ws (h - 1) ≤ ws.length)) : ∀ l, ¬ RightC ws hd ln l := fun l hr => by
  obtain ⟨l2, rfl, h2⟩ := hs.split hr.ch
  cases l2 with
  | nil => exact h0 h2
  | cons x l2 =>
    obtain ⟨a, b, c, d⟩ := h2
    have hx : x = h - 1 := by omega
    subst hx
    exact hn.2 ⟨b, c, (isCh_head d).2⟩

/-! ### words set -/
def setW (ws : List Int) (x v : Int) : List Int := ws.set x.toNat v
theorem setW_length (ws : List Int) (x v : Int) : (setW ws x v).length = ws.length := by simp [setW]
theorem wd_setW_same {ws : List Int} {x v : Int} (h0 : 0 ≤ x) (h1 : x < ws.length) : wd (setW ws x v) x = v := by
  unfold wd setW
  rw [List.getD_eq_getElem?_getD, List.getElem?_set_self (by omega)]
  rfl
theorem wd_setW_other {ws : List Int} {x y v : Int} (h0 : 0 ≤ x) (h1 : 0 ≤ y) (h : x ≠ y) : wd (setW ws x v) y = wd ws y := by
  unfold wd setW
  rw [List.getD_eq_getElem?_getD, List.getElem?_set_ne (by omega), List.getD_eq_getElem?_getD]
theorem setW_self {ws : List Int} {x : Int} (h1 : x.toNat < ws.length) : setW ws x (wd ws x) = ws := by
  unfold wd setW
  rw [List.getD_eq_getElem?_getD, List.getElem?_eq_getElem h1]
  simp
theorem splice_one {ws : List Int} {x v : Int} (h1 : x.toNat < ws.length) : splice ws x.toNat [v] = setW ws x v := by
  unfold splice setW
  rw [List.set_eq_take_append_cons_drop, if_pos h1]
  simp
theorem words_ext {ws ws' : List Int} (hl : ws'.length = ws.length) (h : ∀ x : Int, 0 ≤ x → x < ws.length → wd ws' x = wd ws x) : ws' = ws := by
  apply List.ext_getElem hl
  intro i h1 h2
  have := h i (by omega) (by omega)
  unfold wd at this
  simpa [List.getD_eq_getElem?_getD, List.getElem?_eq_getElem h1, List.getElem?_eq_getElem h2] using this

/-! ### pushed -/
/-- The words and the head behind blocks that are put ahead. -/
def pushW : List Int → Int → List Int → List Int × Int
  | ws, h, [] => (ws, h)
  | ws, h, x :: at_ => pushW (setW ws x h) (x + 1) at_
theorem pushW_length : ∀ (at_ ws : List Int) (h : Int), (pushW ws h at_).1.length = ws.length
  | [], _, _ => rfl
  | x :: at_, ws, h => by rw [pushW, pushW_length at_, setW_length]
theorem pushW_snoc : ∀ (at_ ws : List Int) (h x : Int), pushW ws h (at_ ++ [x]) = (setW (pushW ws h at_).1 x (pushW ws h at_).2, x + 1)
  | [], _, _, _ => rfl
  | y :: at_, ws, h, x => by simp only [List.cons_append, pushW]; exact pushW_snoc at_ _ _ x
theorem push_right {ws : List Int} {hd ln : Int} {l : List Int} (hr : RightC ws hd ln l) : ∀ (at_ : List Int), (∀ x ∈ at_, 0 ≤ x ∧ x < ws.length) → (at_.reverse ++ l).Nodup →
    RightC (pushW ws hd at_).1 (pushW ws hd at_).2 (ln + at_.length) (at_.reverse ++ l) := by
  intro at_
  induction at_ generalizing ws hd ln l with
  | nil => intro _ _; simpa [pushW] using hr
  | cons x at_ ih =>
    intro hb hn
    have hx := hb x (by simp)
    simp only [List.reverse_cons, List.append_assoc, List.singleton_append] at hn
    have hnx : (x :: l).Nodup := (List.nodup_append.1 hn).2.1
    have h1 : RightC (setW ws x hd) (x + 1) (ln + 1) (x :: l) := by
      refine ⟨⟨rfl, hx.1, by rw [setW_length]; exact hx.2, ?_⟩, hnx, by have := hr.len; simp; omega⟩
      rw [wd_setW_same hx.1 hx.2]
      refine isCh_same (setW_length _ _ _) hr.ch (fun y hy => wd_setW_other hx.1 (isCh_range hr.ch y hy).1 ?_)
      intro e
      subst e
      exact (List.nodup_cons.1 hnx).1 hy
    have := ih h1 (fun y hy => by rw [setW_length]; exact hb y (by simp [hy])) (by simpa using hn)
    simp only [pushW, List.reverse_cons, List.append_assoc, List.singleton_append, List.length_cons]
    rw [show ln + ((at_.length + 1 : Nat) : Int) = ln + 1 + at_.length by omega]
    exact this

/-! ### one block taken out -/
/-- The words in which the blocks l are linked, one behind the other, made from the last one on. -/
def relink (ws : List Int) : List Int → List Int × Int
  | [] => (ws, 0)
  | x :: l => (setW (relink ws l).1 x (relink ws l).2, x + 1)
theorem relink_length (ws : List Int) : ∀ l, (relink ws l).1.length = ws.length
  | [] => rfl
  | x :: l => by rw [relink, setW_length, relink_length ws l]
theorem relink_other (ws : List Int) : ∀ (l : List Int) (y : Int), 0 ≤ y → (∀ x ∈ l, 0 ≤ x) → y ∉ l → wd (relink ws l).1 y = wd ws y
  | [], _, _, _, _ => rfl
  | x :: l, y, h0, hb, hn => by
    rw [relink, wd_setW_other (hb x (by simp)) h0 (fun e => hn (by simp [e])), relink_other ws l y h0 (fun z hz => hb z (by simp [hz])) (fun h => hn (by simp [h]))]
/-- A chain that stands is linked already. -/
theorem relink_same {ws : List Int} : ∀ {l : List Int} {h : Int}, IsCh ws h l → relink ws l = (ws, h)
  | [], h, hc => by have : h = 0 := hc; rw [this]; rfl
  | x :: l, h, ⟨a, b, c, hs⟩ => by
    have hx : x.toNat < ws.length := by omega
    rw [relink, relink_same hs, setW_self hx, a]
/-- Linked anew behind blocks that stand ahead already. -/
theorem relink_seg {ws0 ws1 : List Int} {l : List Int} {k : Int} (hr : relink ws0 l = (ws1, k)) : ∀ {p : List Int} {hd : Int}, Seg ws1 hd p k → relink ws0 (p ++ l) = (ws1, hd)
  | [], hd, hs => by rw [List.nil_append, hr, show hd = k from hs]
  | x :: p, hd, ⟨a, b, c, hs⟩ => by
    have hx : x.toNat < ws1.length := by omega
    rw [List.cons_append, relink, relink_seg hr hs, setW_self hx, a]
theorem relink_ch (ws : List Int) : ∀ (l : List Int), l.Nodup → (∀ x ∈ l, 0 ≤ x ∧ x < ws.length) → IsCh (relink ws l).1 (relink ws l).2 l
  | [], _, _ => rfl
  | x :: l, hn, hb => by
    have hx := hb x (by simp)
    have hn' := List.nodup_cons.1 hn
    have h1 := relink_ch ws l hn'.2 (fun y hy => hb y (by simp [hy]))
    refine ⟨rfl, hx.1, by rw [relink, setW_length, relink_length]; exact hx.2, ?_⟩
    rw [relink, wd_setW_same hx.1 (by rw [relink_length]; exact hx.2)]
    exact isCh_same (setW_length _ _ _) h1 (fun y hy => wd_setW_other hx.1 (hb y (by simp [hy])).1 (fun e => hn'.1 (e ▸ hy)))

theorem Seg.same {ws ws' : List Int} (hl : ws'.length = ws.length) : ∀ {o : List Int} {h k : Int}, Seg ws h o k → (∀ x ∈ o, wd ws' x = wd ws x) → Seg ws' h o k
  | [], _, _, hc, _ => hc
  | y :: l, h, k, ⟨a, b, c, hs⟩, he => ⟨a, b, by omega, by rw [he y (by simp)]; exact Seg.same hl hs (fun x hx => he x (by simp [hx]))⟩
theorem isCh_parts {ws : List Int} : ∀ {p s : List Int} {h : Int}, IsCh ws h (p ++ s) → ∃ k, Seg ws h p k ∧ IsCh ws k s
  | [], s, h, hc => ⟨h, rfl, hc⟩
  | x :: p, s, h, ⟨a, b, c, hs⟩ => by
    obtain ⟨k, h1, h2⟩ := isCh_parts hs
    exact ⟨k, ⟨a, b, c, h1⟩, h2⟩

/-- The document's answer: all others linked anew. -/
def remW (ws l : List Int) (x : Int) : List Int × Int := relink (setW ws x 0) (l.filter fun y => y != x)
theorem filter_mid {p s : List Int} {x : Int} (hn : (p ++ x :: s).Nodup) : (p ++ x :: s).filter (fun y => y != x) = p ++ s := by
  have h := List.nodup_append.1 hn
  have hx := List.nodup_cons.1 h.2.1
  rw [List.filter_append, List.filter_cons]
  simp only [bne_self_eq_false, Bool.false_eq_true, if_false]
  rw [List.filter_eq_self.2 (fun y hy => by
      have := h.2.2 y hy x (by simp)
      simpa using this), List.filter_eq_self.2 (fun y hy => by
      have : y ≠ x := fun e => hx.1 (e ▸ hy)
      simpa using this)]
theorem rem_first {ws : List Int} {hd x : Int} {s : List Int} (hc : IsCh ws hd (x :: s)) (hn : (x :: s).Nodup) : remW ws (x :: s) x = (setW ws x 0, wd ws x) := by
  have hx := List.nodup_cons.1 hn
  obtain ⟨a, b, c, hs⟩ := hc
  unfold remW
  rw [show (x :: s).filter (fun y => y != x) = s from filter_mid (p := []) hn]
  exact relink_same (isCh_same (setW_length _ _ _) hs (fun y hy => wd_setW_other b (isCh_range hs y hy).1 (fun e => hx.1 (e ▸ hy))))
theorem rem_other {ws : List Int} {hd x y : Int} {p s : List Int} (hc : IsCh ws hd (p ++ y :: x :: s)) (hn : (p ++ y :: x :: s).Nodup) :
    remW ws (p ++ y :: x :: s) x = (setW (setW ws y (wd ws x)) x 0, hd) := by
  obtain ⟨k, h1, h2⟩ := isCh_parts hc
  obtain ⟨a, b, c, a', b', c', hs⟩ := h2
  have hnp := List.nodup_append.1 hn
  have hny := List.nodup_cons.1 hnp.2.1
  have hnx := List.nodup_cons.1 hny.2
  have hyx : y ≠ x := fun e => hny.1 (by simp [e])
  have e1 : p ++ y :: x :: s = (p ++ [y]) ++ x :: s := by simp
  have hcomm : setW (setW ws y (wd ws x)) x 0 = setW (setW ws x 0) y (wd ws x) := by
    unfold setW
    exact List.set_comm _ _ (by omega)
  unfold remW
  rw [e1, filter_mid (by rw [← e1]; exact hn), List.append_assoc, List.singleton_append]
  refine relink_seg (k := y + 1) (by
    rw [relink, relink_same (isCh_same (setW_length _ _ _) hs (fun z hz => wd_setW_other b' (isCh_range hs z hz).1 (fun e => hnx.1 (e ▸ hz)))), hcomm]) ?_
  rw [← a]
  refine h1.same (by rw [setW_length, setW_length]) (fun z hz => ?_)
  have hz0 := (h1.range z hz).1
  rw [wd_setW_other b' hz0 (fun e => hnp.2.2 z hz x (by simp) e.symm), wd_setW_other b hz0 (fun e => hnp.2.2 z hz y (by simp) e.symm)]
theorem rem_right {ws : List Int} {hd ln x : Int} {l : List Int} (hr : RightC ws hd ln l) (hx : x ∈ l) :
    RightC (remW ws l x).1 (remW ws l x).2 (ln - 1) (l.filter fun y => y != x) := by
  obtain ⟨p, s, rfl⟩ := List.append_of_mem hx
  rw [filter_mid hr.nd]
  have hb := isCh_range hr.ch
  have hnd : (p ++ s).Nodup := hr.nd.sublist (List.Sublist.append (List.Sublist.refl p) (List.sublist_cons_self x s))
  refine ⟨?_, hnd, by have := hr.len; simp at this ⊢; omega⟩
  unfold remW
  rw [filter_mid hr.nd]
  refine relink_ch _ _ hnd (fun y hy => ?_)
  rw [setW_length]
  refine hb y ?_
  simp at hy ⊢
  rcases hy with h | h
  · exact .inl h
  · exact .inr (.inr h)
end Go.Proofs.YtbldidlbhahciaaGreat

namespace Go.Proofs.YtbldidlbhahciaaGreat

/-- A run: the first page, and how many. -/
abbrev Rn := Int × Int
/-- Are all pages of a run there? -/
def there (n : Nat) (r : Rn) : Bool := decide (0 ≤ r.1) && decide (1 ≤ r.2) && decide (r.1 < n) && decide (r.2 ≤ n - r.1)
theorem there_iff {n : Nat} {r : Rn} : there n r = true ↔ 0 ≤ r.1 ∧ 1 ≤ r.2 ∧ r.1 < n ∧ r.2 ≤ n - r.1 := by simp [there, and_assoc]
/-- Is a page in a run? -/
def inR (r : Rn) (p : Int) : Bool := decide (r.1 ≤ p) && decide (p < r.1 + r.2)
theorem inR_iff {r : Rn} {p : Int} : inR r p = true ↔ r.1 ≤ p ∧ p < r.1 + r.2 := by simp [inR]
/-- All pages of runs have a number. -/
def fillA (ids : List Int) (id : Int) (rs : List Rn) : List Int := ids.mapIdx fun p v => if rs.any (inR · p) then id else v
theorem fillA_length (ids : List Int) (id : Int) (rs : List Rn) : (fillA ids id rs).length = ids.length := by simp [fillA]
theorem wd_fillA {ids : List Int} {id : Int} {rs : List Rn} {p : Int} (h0 : 0 ≤ p) (h1 : p < ids.length) : wd (fillA ids id rs) p = if rs.any (inR · p) then id else wd ids p := by
  obtain ⟨q, rfl⟩ := Int.eq_ofNat_of_zero_le h0
  have hq : q < ids.length := by omega
  unfold wd fillA
  rw [List.getD_eq_getElem?_getD, List.getElem?_eq_getElem (by simpa using hq), List.getD_eq_getElem?_getD]
  simp [hq]
theorem fillA_nil (ids : List Int) (id : Int) : fillA ids id [] = ids := by
  refine words_ext (fillA_length _ _ _) (fun x h0 h1 => ?_)
  rw [wd_fillA h0 h1]
  rfl
/-- One page more. -/
theorem fillA_step {ids : List Int} {id s : Int} {i : Nat} {L : List Rn} (h0 : 0 ≤ s) (h1 : s + i < ids.length) : setW (fillA ids id (L ++ [(s, (i : Int))])) (s + i) id = fillA ids id (L ++ [(s, ((i + 1 : Nat) : Int))]) := by
  refine words_ext (by rw [setW_length, fillA_length, fillA_length]) (fun x x0 x1 => ?_)
  rw [fillA_length] at x1
  rw [wd_fillA x0 x1]
  by_cases hx : s + i = x
  · subst hx
    rw [wd_setW_same (by omega) (by rw [fillA_length]; omega), if_pos]
    rw [List.any_append, Bool.or_eq_true]
    right
    simp only [List.any_cons, List.any_nil, Bool.or_false]
    rw [inR_iff]; dsimp only; omega
  · rw [wd_setW_other (by omega) x0 hx, wd_fillA x0 x1]
    have : inR (s, (i : Int)) x = inR (s, ((i + 1 : Nat) : Int)) x := by
      rw [Bool.eq_iff_iff, inR_iff, inR_iff]; dsimp only; omega
    simp only [List.any_append, List.any_cons, List.any_nil, this]
theorem fillA_zero (ids : List Int) (id s : Int) (L : List Rn) : fillA ids id (L ++ [(s, ((0 : Nat) : Int))]) = fillA ids id L := by
  refine words_ext (by rw [fillA_length, fillA_length]) (fun x x0 x1 => ?_)
  rw [fillA_length] at x1
  rw [wd_fillA x0 x1, wd_fillA x0 x1]
  have : inR (s, ((0 : Nat) : Int)) x = false := by
    rw [← Bool.not_eq_true, inR_iff]; dsimp only; omega
  simp only [List.any_append, List.any_cons, List.any_nil, this, Bool.or_false]

/-! ### apart -/
/-- No page in both. -/
def Apart (a b : Rn) : Prop := a.1 + a.2 ≤ b.1 ∨ b.1 + b.2 ≤ a.1
/-- What is answered to runs that are to have a number (drop: none): the numbers, the error. -/
def AllThere (n : Nat) (rs : List Rn) : Prop := ∀ r ∈ rs, there n r = true
def NoneSet (ids : List Int) (rs : List Rn) : Prop := ∀ p : Int, 0 ≤ p → p < ids.length → rs.any (inR · p) = true → wd ids p = 0
def EachSet (ids : List Int) (rs : List Rn) : Prop := ∀ p : Int, 0 ≤ p → p < ids.length → rs.any (inR · p) = true → wd ids p ≠ 0
open Classical in
noncomputable def putF (ids : List Int) (id : Int) (rs : List Rn) (drop : Bool) : List Int × Int :=
  if drop = false ∧ id < 1 then (ids, 1)
  else if ¬ AllThere ids.length rs then (ids, 2)
  else if drop then (if EachSet ids rs then (fillA ids 0 rs, 0) else (ids, 9))
  else if NoneSet ids rs ∧ rs.Pairwise Apart then (fillA ids id rs, 0) else (ids, 9)
/-- Sorted runs, each of which ends ahead of the next one, share no page. -/
theorem apart_chain : ∀ (l : List Rn), (∀ r ∈ l, 1 ≤ r.2) → (∀ i (h : i + 1 < l.length), (l[i]'(by omega)).1 + (l[i]'(by omega)).2 ≤ l[i + 1].1) → l.Pairwise (fun a b => a.1 + a.2 ≤ b.1)
  | [], _, _ => List.Pairwise.nil
  | [x], _, _ => by simp
  | x :: y :: l, hl, hc => by
    have ih := apart_chain (y :: l) (fun r hr => hl r (by simp [hr])) (fun i h => hc (i + 1) (by simpa using h))
    have h0 := hc 0 (by simp)
    simp only [List.getElem_cons_zero, List.getElem_cons_succ] at h0
    refine List.pairwise_cons.2 ⟨fun z hz => ?_, ih⟩
    rcases List.mem_cons.1 hz with rfl | hz
    · exact h0
    · have h1 := (List.pairwise_cons.1 ih).1 z hz
      have h2 := hl y (by simp)
      omega
theorem apart_of_chain {l : List Rn} (hl : ∀ r ∈ l, 1 ≤ r.2) (hc : ∀ i (h : i + 1 < l.length), (l[i]'(by omega)).1 + (l[i]'(by omega)).2 ≤ l[i + 1].1) : l.Pairwise Apart :=
  (apart_chain l hl hc).imp (fun h => .inl h)
theorem chain_of_apart {l : List Rn} (hl : ∀ r ∈ l, 1 ≤ r.2) (hs : ∀ i j (h : i < j) (hj : j < l.length), (l[i]'(by omega)).1 ≤ l[j].1) (hp : l.Pairwise Apart) : ∀ i (h : i + 1 < l.length), (l[i]'(by omega)).1 + (l[i]'(by omega)).2 ≤ l[i + 1].1 := by
  intro i h
  have h1 := List.pairwise_iff_getElem.1 hp i (i + 1) (by omega) h (by omega)
  have h2 := hs i (i + 1) (by omega) h
  have h3 := hl l[i + 1] (List.getElem_mem _)
  rcases h1 with h1 | h1 <;> omega
theorem apart_symm {a b : Rn} (h : Apart a b) : Apart b a := h.symm
theorem apart_perm {l l' : List Rn} (h : l.Perm l') : l.Pairwise Apart ↔ l'.Pairwise Apart := h.pairwise_iff (fun h => apart_symm h)

/-! ### the runs of a number -/
/-- The runs among the first pages. -/
def runsP (ids : List Int) (id : Int) : Nat → List Rn
  | 0 => []
  | p + 1 => if wd ids p ≠ id then runsP ids id p else if p ≠ 0 ∧ wd ids ((p : Int) - 1) = id then (runsP ids id p).dropLast ++ [(((runsP ids id p).getLastD (0, 0)).1, ((runsP ids id p).getLastD (0, 0)).2 + 1)] else runsP ids id p ++ [((p : Int), 1)]
def runsF (ids : List Int) (id : Int) : List Rn := runsP ids id ids.length
theorem runs_skip {ids : List Int} {id : Int} {p : Nat} (h : wd ids p ≠ id) : runsP ids id (p + 1) = runsP ids id p := by rw [runsP, if_pos h]
theorem runs_start {ids : List Int} {id : Int} {p : Nat} (h : wd ids p = id) (h0 : p = 0 ∨ wd ids ((p : Int) - 1) ≠ id) : runsP ids id (p + 1) = runsP ids id p ++ [((p : Int), 1)] := by
  rw [runsP, if_neg (by simpa using h), if_neg (by rintro ⟨h1, h2⟩; rcases h0 with h0 | h0; exact h1 h0; exact h0 h2)]
/-- Where the last page has the number, the last run ends there. -/
theorem runs_last {ids : List Int} {id : Int} : ∀ {p : Nat}, wd ids p = id → ∃ (L : List Rn) (s n : Int), runsP ids id (p + 1) = L ++ [(s, n)] ∧ s + n = p + 1 ∧ 1 ≤ n ∧ 0 ≤ s
  | 0, h => ⟨[], 0, 1, by rw [runs_start h (.inl rfl)]; rfl, by omega, by omega, by omega⟩
  | p + 1, h => by
    by_cases h1 : wd ids p = id
    · obtain ⟨L, s, n, e, h2, h3, h4⟩ := runs_last (p := p) h1
      refine ⟨L, s, n + 1, ?_, by omega, by omega, h4⟩
      have e1 : (((p + 1 : Nat) : Int) - 1) = p := by omega
      rw [runsP, if_neg (by simpa using h), if_pos ⟨by omega, by rw [e1]; exact h1⟩, e]
      simp
    · refine ⟨runsP ids id (p + 1), ((p + 1 : Nat) : Int), 1, runs_start h (.inr ?_), by omega, by omega, by omega⟩
      have e1 : (((p + 1 : Nat) : Int) - 1) = p := by omega
      rw [e1]; exact h1
theorem runs_grow {ids : List Int} {id : Int} {p : Nat} {L : List Rn} {s n : Int} (h : wd ids ((p + 1 : Nat) : Int) = id) (h1 : wd ids p = id) (e : runsP ids id (p + 1) = L ++ [(s, n)]) : runsP ids id (p + 1 + 1) = L ++ [(s, n + 1)] := by
  have e1 : (((p + 1 : Nat) : Int) - 1) = p := by omega
  rw [runsP, if_neg (by simpa using h), if_pos ⟨by omega, by rw [e1]; exact h1⟩, e]
  simp
theorem runs_whole {ids : List Int} {id : Int} {p : Nat} (h0 : p = 0 ∨ wd ids ((p : Int) - 1) ≠ id) : ∀ (n : Nat), (∀ i : Nat, i < n + 1 → wd ids ((p + i : Nat) : Int) = id) → runsP ids id (p + (n + 1)) = runsP ids id p ++ [((p : Int), ((n + 1 : Nat) : Int))]
  | 0, h => by
    have := h 0 (by omega)
    rw [Nat.add_zero] at this
    rw [Nat.zero_add, runs_start this h0]; rfl
  | n + 1, h => by
    have ih := runs_whole h0 n (fun i hi => h i (by omega))
    rw [← Nat.add_assoc] at ih
    have h1 : wd ids ((p + n : Nat) : Int) = id := h n (by omega)
    have h2 : wd ids ((p + n + 1 : Nat) : Int) = id := h (n + 1) (by omega)
    rw [← Nat.add_assoc, ← Nat.add_assoc, runs_grow (p := p + n) h2 h1 ih]
    rfl
end Go.Proofs.YtbldidlbhahciaaGreat
