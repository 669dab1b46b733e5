/- What a call may change: the blocks of S, and what is new. -/
import Derived.Test.YthkbhikiljlgoaaBase
namespace Go.Proofs.Ythkbhikiljlgoaa
open Go.RowKit

/-- Everything stands but the blocks of S (and what is new). -/
structure Fr (S : Nat → Prop) (w w' : World) : Prop where
  os : w'.os = w.os
  tape : w'.tape = w.tape
  output : w'.output = w.output
  size : w.heap.size ≤ w'.heap.size
  block : ∀ k, k < w.heap.size → ¬ S k → w'.heap[k]? = w.heap[k]?

theorem Fr.refl (S : Nat → Prop) (w : World) : Fr S w w := ⟨rfl, rfl, rfl, Nat.le_refl _, fun _ _ _ => rfl⟩
theorem Fr.of_bel {S : Nat → Prop} {w w' : World} (h : Bel w w') : Fr S w w' := ⟨h.os, h.tape, h.output, h.size, fun k hk _ => h.block k hk⟩
theorem Fr.bel {S : Nat → Prop} {w w' : World} (h : Fr S w w') (hs : ∀ k, S k → w.heap.size ≤ k) : Bel w w' :=
  ⟨h.os, h.tape, h.output, h.size, fun k hk => h.block k hk (fun hS => by have := hs k hS; omega)⟩
theorem Fr.mono {S S' : Nat → Prop} {w w' : World} (h : Fr S w w') (hs : ∀ k, S k → S' k) : Fr S' w w' :=
  ⟨h.os, h.tape, h.output, h.size, fun k hk hn => h.block k hk (fun h1 => hn (hs k h1))⟩
theorem Fr.trans {S S' : Nat → Prop} {a b c : World} (h : Fr S a b) (k : Fr S' b c) (hs : ∀ k, S' k → S k ∨ a.heap.size ≤ k) : Fr S a c :=
  ⟨k.os.trans h.os, k.tape.trans h.tape, k.output.trans h.output, Nat.le_trans h.size k.size, fun i hi hn =>
    (k.block i (Nat.lt_of_lt_of_le hi h.size) (fun h1 => by rcases hs i h1 with h2 | h2; exact hn h2; omega)).trans (h.block i hi hn)⟩
theorem Fr.trans' {S : Nat → Prop} {a b c : World} (h : Fr S a b) (k : Fr S b c) : Fr S a c := h.trans k (fun _ h => .inl h)
theorem Fr.then_bel {S : Nat → Prop} {a b c : World} (h : Fr S a b) (k : Bel b c) : Fr S a c := h.trans (Fr.of_bel (S := S) k) (fun _ h => .inl h)
theorem Fr.alloc {S : Nat → Prop} {a b : World} (h : Fr S a b) (o : Obj) : Fr S a (b.alloc o) := h.then_bel ((Bel.refl _).alloc o)
theorem Fr.drew {S : Nat → Prop} {a b : World} (h : Fr S a b) : Fr S a b.drew := h.then_bel (Bel.refl _).drew
theorem Fr.setCell {S : Nat → Prop} {a b : World} (h : Fr S a b) {p : Addr} (hp : S p.block ∨ a.heap.size ≤ p.block) (v : Value) : Fr S a (b.setCell p v) :=
  h.trans (S' := fun k => k = p.block) ⟨rfl, rfl, rfl, by simp [World.setCell], fun k _ hn => Below.heap_setCell b p v k hn⟩ (fun k hk => by subst hk; exact hp)
/-- What lies outside S is as it was. -/
theorem Fr.heap {S : Nat → Prop} {a b : World} (h : Fr S a b) {k : Nat} {o : Obj} (ho : a.heap[k]? = some o) (hk : ¬ S k) : b.heap[k]? = some o := by
  have hlt : k < a.heap.size := by
    rcases Nat.lt_or_ge k a.heap.size with h1 | h1
    · exact h1
    · simp [Array.getElem?_eq_none h1] at ho
  exact (h.block k hlt hk).trans ho
theorem heap_lt {w : World} {k : Nat} {o : Obj} (ho : w.heap[k]? = some o) : k < w.heap.size := by
  rcases Nat.lt_or_ge k w.heap.size with h1 | h1
  · exact h1
  · simp [Array.getElem?_eq_none h1] at ho
theorem Fr.cell {S : Nat → Prop} {a b : World} (h : Fr S a b) {p : Addr} {v : Value} (hc : a.cell? p = some v) (hk : ¬ S p.block) : b.cell? p = some v := by
  have hlt := World.block_lt_of_cell? a p hc
  have := h.block p.block hlt hk
  simpa [World.cell?, this] using hc
theorem Fr.frozen {S : Nat → Prop} {a b : World} (h : Fr S a b) {p : Addr} (hlt : p.block < a.heap.size) (hk : ¬ S p.block) : b.frozen? p = a.frozen? p := by
  have := h.block p.block hlt hk
  simp [World.frozen?, this]
theorem RdV.fr {S : Nat → Prop} {w w' : World} {a : Option Addr} {vs : List Value} (h : RdV w a vs) (k : Fr S w w') (hn : ∀ p, a = some p → ¬ S p.block) : RdV w' a vs := by
  rcases h with h | ⟨b, o, e, h⟩
  · exact .inl h
  · exact .inr ⟨b, o, e, fun i hi => k.cell (h i hi) (show ¬ S b from hn ⟨b, o, none⟩ e)⟩

/-! ### a block known whole -/
theorem blk_cell {w : World} {b : Nat} {cs : Array Value} {T : Nat} {fz : Nat × Nat} (h : w.heap[b]? = some (.cells cs T fz)) (i : Nat) : w.cell? ⟨b, i, none⟩ = cs[i]? := by
  simp [World.cell?, h]
theorem blk_frozen {w : World} {b : Nat} {cs : Array Value} {T : Nat} (h : w.heap[b]? = some (.cells cs T (0, 0))) (i : Nat) : w.frozen? ⟨b, i, none⟩ = false := by
  simp [World.frozen?, h]
theorem blk_alloc (w : World) (o : Obj) : (w.alloc o).heap[w.heap.size]? = some o := by unfold World.alloc; simp only [Array.getElem?_push_size]
theorem blk_alloc_old {w : World} {b : Nat} {x : Obj} (o : Obj) (h : w.heap[b]? = some x) : (w.alloc o).heap[b]? = some x := by
  have := heap_lt h
  rw [Below.heap_alloc w o b this]; exact h
theorem blk_setCell {w : World} {b : Nat} {cs : Array Value} {T : Nat} {fz : Nat × Nat} (h : w.heap[b]? = some (.cells cs T fz)) (i : Nat) (v : Value) :
    (w.setCell ⟨b, i, none⟩ v).heap[b]? = some (.cells (cs.setIfInBounds i v) T fz) := by
  simp [World.setCell, Array.getElem?_modify, h]
theorem blk_setCell_other {w : World} {b : Nat} {x : Obj} (h : w.heap[b]? = some x) {p : Addr} (hp : b ≠ p.block) (v : Value) : (w.setCell p v).heap[b]? = some x := by
  rw [Below.heap_setCell w p v b hp]; exact h

/-! ### rows of one's own -/
theorem own_base {w : World} {base base' e size n : Nat} {v : Value} {xs : List Value} (h : w.ownsRow base e size v n xs) (hb : base' ≤ base) : w.ownsRow base' e size v n xs := by
  refine ⟨h.1, ?_⟩
  rcases h.2 with h1 | ⟨g, cap, cur, h1, h2, h3⟩
  · exact .inl h1
  · exact .inr ⟨g, cap, cur, h1, Nat.le_trans hb h2, h3⟩
theorem own_fr {S : Nat → Prop} {w w' : World} {base e size n : Nat} {v : Value} {xs : List Value} (h : w.ownsRow base e size v n xs) (k : Fr S w w') (hS : ∀ b, base ≤ b → v.ownBlock = some b → ¬ S b) : w'.ownsRow base e size v n xs := by
  refine ⟨h.1, ?_⟩
  rcases h.2 with h1 | ⟨g, cap, cur, h1, h2, h3, h4⟩
  · exact .inl h1
  · exact .inr ⟨g, cap, cur, h1, h2, k.heap h3 (hS g h2 (by rw [h1]; rfl)), h4⟩
theorem own_bel {w w' : World} {base e size n : Nat} {v : Value} {xs : List Value} (h : w.ownsRow base e size v n xs) (k : Bel w w') : w'.ownsRow base e size v n xs :=
  own_fr h (Fr.of_bel (S := fun _ => False) k) (fun _ _ _ h => h)
/-- What a row of one's own is as a value. -/
theorem own_slice {w : World} {base e size n : Nat} {v : Value} {xs : List Value} (h : w.ownsRow base e size v n xs) : ∃ a c, v = .slice a n c ∧ RdV w a xs ∧ n ≤ c := by
  rcases h.2 with ⟨h1, rfl⟩ | ⟨g, cap, cur, h1, h2, h3, h4, h5, h6, h7⟩
  · exact ⟨none, 0, h1, .inl (List.eq_nil_of_length_eq_zero (by simpa using h.1)), Nat.le_refl _⟩
  · refine ⟨_, cap, h1, .inr ⟨g, 0, rfl, fun i hi => ?_⟩, h4⟩
    rw [Nat.zero_add, blk_cell h3]
    subst h7
    simp only [List.length_take, Array.length_toList] at hi
    rw [List.getElem_take, Array.getElem_toList]
    exact Array.getElem?_eq_getElem (by omega)
/-- What a row of one's own is as a value, and where it lies. -/
theorem own_slice2 {w : World} {base e size n : Nat} {v : Value} {xs : List Value} (h : w.ownsRow base e size v n xs) : ∃ a c, v = .slice a n c ∧ RdV w a xs ∧ n ≤ c ∧ ∀ p, a = some p → base ≤ p.block := by
  obtain ⟨a, c, rfl, h1, h2⟩ := own_slice h
  refine ⟨a, c, rfl, h1, h2, fun p hp => ?_⟩
  rcases h.2 with ⟨h3, _⟩ | ⟨g, cap, cur, h3, h4, _⟩
  · simp at h3; rw [h3.1] at hp; cases hp
  · simp at h3; rw [h3.1] at hp; cases hp; exact h4

theorem fr_grown {w w' : World} {b : Nat} (h : w.grownBy w' (some b)) : Fr (fun k => k = b) w w' :=
  ⟨h.os, h.tape, h.output, h.size, fun k hk hn => h.block k hk (fun e => hn (by cases e; rfl))⟩
theorem bel_grown {w w' : World} (h : w.grownBy w' none) : Bel w w' := ⟨h.os, h.tape, h.output, h.size, fun k hk => h.block k hk (by simp)⟩
end Go.Proofs.Ythkbhikiljlgoaa
