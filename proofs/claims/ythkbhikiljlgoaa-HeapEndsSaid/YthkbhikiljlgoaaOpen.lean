/- Whatever is made of numbers, bools, structs and slices: read whole, out of the row's form. -/
import Derived.Test.YthkbhikiljlgoaaLawKit
import Derived.Test.YthkbhikiljlgoaaFrame
import Derived.Deep.Slices
import Derived.Deep.MidRow
namespace Go.Proofs.Ythkbhikiljlgoaa
open Go.ChangeShapes Go.WideShapes Go.ChangeAt Go.RowKit Go.Deep

/-- What a value is made of. -/
inductive Sh where
  | int (k : IntKind)
  | bool
  | slice (e : Sh)
  | struct (s : Sh)
  | unit
  | pair (s r : Sh)

def Sh.size : Sh → Nat
  | .int _ => 1
  | .bool => 1
  | .slice _ => 1
  | .struct s => s.size
  | .unit => 0
  | .pair s r => s.size + r.size

/-- Rows of F cells each, one behind the other. -/
def RdR (W : World) (a : Option Addr) (F : Nat) (rows : List (List Value)) : Prop :=
  rows = [] ∨ ∃ b o, a = some ⟨b, o, none⟩ ∧ ∀ i (h : i < rows.length), W.rangeAt b (o + i * F) rows[i]

/-- Cells that read as what they are made of. -/
def RdC (W : World) : Sh → List Value → Prop
  | .int k, vs => ∃ n, vs = [.int k n] ∧ (Lit.int k n).wf = true
  | .bool, vs => ∃ b, vs = [.bool b]
  | .slice e, vs => ∃ a c rows, vs = [.slice a rows.length c] ∧ rows.length ≤ maxLen ∧ (∀ r ∈ rows, RdC W e r) ∧ RdR W a e.size rows ∧ rows.length ≤ c
  | .struct s, vs => RdC W s vs
  | .unit, vs => vs = []
  | .pair s r, vs => ∃ xs ys, vs = xs ++ ys ∧ RdC W s xs ∧ RdC W r ys

/-- The type, or the fields from a place on, are made so. -/
def Sh.isT (P : Program) : Sh → Sum TypeId (Nat × List Field) → Prop
  | .int k, .inl t => P.underlying t = some (.int k)
  | .bool, .inl t => P.underlying t = some .bool
  | .slice e, .inl t => ∃ u, P.underlying t = some (.slice u) ∧ P.cellsOf u = e.size ∧ 0 < e.size ∧ e.isT P (.inl u)
  | .struct s, .inl t => ∃ fs, P.underlying t = some (.struct fs) ∧ P.cellsOf t = s.size ∧ s.isT P (.inr (0, fs.toList))
  | .unit, .inr (_, []) => True
  | .pair s r, .inr (o, f :: fs) => f.offset = o ∧ P.cellsOf f.type = s.size ∧ s.isT P (.inl f.type) ∧ r.isT P (.inr (o + s.size, fs))
  | _, _ => False

theorem choose_rows {α : Type} {p : Nat → α → Prop} : ∀ n, (∀ i, i < n → ∃ x, p i x) → ∃ xs : List α, xs.length = n ∧ ∀ i (h : i < xs.length), p i xs[i]
  | 0, _ => ⟨[], rfl, fun i h => by simp at h⟩
  | n + 1, h => by
    obtain ⟨xs, hl, hx⟩ := choose_rows n (fun i hi => h i (by omega))
    obtain ⟨y, hy⟩ := h n (by omega)
    refine ⟨xs ++ [y], by simp [hl], fun i hi => ?_⟩
    by_cases c : i < xs.length
    · rw [List.getElem_append_left c]; exact hx i c
    · have : i = n := by simp at hi; omega
      subst this
      rw [List.getElem_append_right (by omega)]
      simpa [hl] using hy

theorem choose_list {α β : Type} {f : α → β} {p : α → Prop} : ∀ ys : List β, (∀ y ∈ ys, ∃ x, y = f x ∧ p x) → ∃ xs : List α, ys = xs.map f ∧ ∀ x ∈ xs, p x
  | [], _ => ⟨[], rfl, fun x h => by simp at h⟩
  | y :: ys, h => by
    obtain ⟨xs, rfl, hx⟩ := choose_list ys (fun z hz => h z (by simp [hz]))
    obtain ⟨x, rfl, hp⟩ := h y (by simp)
    exact ⟨x :: xs, rfl, fun z hz => by rcases List.mem_cons.1 hz with rfl | hz; exact hp; exact hx z hz⟩

theorem rd_shape {H : Type} {enc : TypeId × Value → H} {P : Program} {W : World} {base : Nat} {sp : Nat → Bool} {held : Bool} : ∀ (s : Sh) (cs : List Value),
    (∀ t fuel x, s.isT P (.inl t) → DataW.trod enc P W base sp held fuel t cs = some x → RdC W s cs) ∧
    (∀ o fs, s.isT P (.inr (o, fs)) → (∀ f ∈ fs, ∃ fuel x, DataW.trod enc P W base sp held fuel f.type ((cs.drop f.offset).take (P.cellsOf f.type)) = some x) → o + s.size ≤ cs.length → RdC W s ((cs.drop o).take s.size))
  | .int k, cs => by
    refine ⟨fun t fuel x h ht => ?_, fun o fs h => by simp [Sh.isT] at h⟩
    obtain ⟨n, rfl, _, hw⟩ := DataW.trod_int h ht
    exact ⟨n, rfl, hw⟩
  | .bool, cs => by
    refine ⟨fun t fuel x h ht => ?_, fun o fs h => by simp [Sh.isT] at h⟩
    obtain ⟨b, rfl, _⟩ := DataW.trod_bool h ht
    exact ⟨b, rfl⟩
  | .unit, cs => by
    refine ⟨fun t fuel x h ht => by simp [Sh.isT] at h, fun o fs h _ _ => by simp [RdC, Sh.size]⟩
  | .struct s, cs => by
    refine ⟨fun t fuel x h ht => ?_, fun o fs h => by simp [Sh.isT] at h⟩
    obtain ⟨fs, hu, hc, hs⟩ := h
    obtain ⟨ys, n, _, _, hlen, hyl, hf⟩ := DataW.trod_struct hu ht
    have := (rd_shape s cs).2 0 fs.toList hs (fun f hfm => by
      obtain ⟨i, hi, rfl⟩ := List.getElem_of_mem hfm
      have hi2 : i < fs.size := by simpa using hi
      have h1 := hf i (fs[i]) (by simp [hi2])
      refine ⟨n, ys[i]'(by omega), ?_⟩
      rw [Array.getElem_toList, h1]
      exact List.getElem?_eq_getElem (by omega)) (by omega)
    rw [List.drop_zero, List.take_of_length_le (by omega)] at this
    exact this
  | .pair s r, cs => by
    refine ⟨fun t fuel x h ht => by simp [Sh.isT] at h, fun o fs h hf hl => ?_⟩
    cases fs with
    | nil => simp [Sh.isT] at h
    | cons f fs =>
      obtain ⟨h1, h2, h3, h4⟩ := h
      simp only [Sh.size] at hl ⊢
      obtain ⟨fuel, x, hx⟩ := hf f (by simp)
      rw [h1, h2] at hx
      refine ⟨(cs.drop o).take s.size, (cs.drop (o + s.size)).take r.size, ?_, (rd_shape s _).1 _ _ _ h3 hx, (rd_shape r cs).2 _ fs h4 (fun g hg => hf g (by simp [hg])) (by omega)⟩
      rw [List.take_add, List.drop_drop]
  | .slice e, cs => by
    refine ⟨fun t fuel x h ht => ?_, fun o fs h => by simp [Sh.isT] at h⟩
    obtain ⟨u, hu, hc, hp, he⟩ := h
    rcases open_slice hu ht with ⟨rfl, _⟩ | ⟨a, len, cap, m, n, D, Pl, rfl, hb, hl, hm, hmm, _, hi⟩
    · exact ⟨none, 0, [], rfl, by simp, fun r hr => by simp at hr, .inl rfl, Nat.zero_le _⟩
    · have hlm : len ≤ m := by rw [hmm]; split <;> omega
      obtain ⟨rows, hrl, hr⟩ := choose_rows (p := fun i r => W.cells? base (a.add (i * P.cellsOf u)) (P.cellsOf u) = some r ∧ ∃ y, DataW.trod enc P W base sp held n u r = some y) len (fun i hil => by
        obtain ⟨r, h1, h2⟩ := hi i (by omega)
        exact ⟨r, h1, _, h2⟩)
      refine ⟨some a, cap, rows, by rw [hrl], by omega, fun r hrm => ?_, ?_, by omega⟩
      · obtain ⟨i, hi, rfl⟩ := List.getElem_of_mem hrm
        obtain ⟨_, y, hy⟩ := hr i hi
        exact (rd_shape e _).1 _ _ _ he hy
      · rcases Nat.eq_zero_or_pos len with h0 | h0
        · left; exact List.eq_nil_of_length_eq_zero (by omega)
        · right
          obtain ⟨b, o, spot⟩ := a
          have hspot : spot = none := by
            obtain ⟨hc0, _⟩ := hr 0 (by omega)
            obtain ⟨_, hcl, hat⟩ := World.cells?_some hc0
            have h1 := hat 0 (by omega)
            rw [List.getElem?_eq_getElem (by omega)] at h1
            have := World.cell?_spot h1
            simpa [Addr.add] using this
          subst hspot
          refine ⟨b, o, rfl, fun i hi j v hv => ?_⟩
          obtain ⟨hc0, _⟩ := hr i hi
          obtain ⟨_, hcl, hat⟩ := World.cells?_some hc0
          have hj : j < rows[i].length := (List.getElem?_eq_some_iff.1 hv).1
          have h1 := hat j (by omega)
          rw [Addr.add_mid, Addr.add_mid, hc] at h1
          exact h1.trans hv

/-- An argument that came in. -/
theorem arg_shape {H : Type} {enc : TypeId × Value → H} {P : Program} {W : World} {base : Nat} {sp : Nat → Bool} {held : Bool} {t : TypeId} {v : Value} {d : DataW H} {ps : List MemPlace} (s : Sh) (hs : s.isT P (.inl t))
    (h : DataW.Trod enc P W base sp held t v d ps) : RdC W s v.cells.toList := by
  obtain ⟨fuel, hf⟩ := h
  exact (rd_shape s _).1 _ _ _ hs hf

theorem RdR.bel {w w' : World} {a : Option Addr} {F : Nat} {rows : List (List Value)} (h : RdR w a F rows) (k : Bel w w') : RdR w' a F rows := by
  rcases h with h | ⟨b, o, e, h⟩
  · exact .inl h
  · exact .inr ⟨b, o, e, fun i hi j v hv => k.cell (h i hi j v hv)⟩
theorem RdR.fr {S : Nat → Prop} {w w' : World} {a : Option Addr} {F : Nat} {rows : List (List Value)} (h : RdR w a F rows) (k : Fr S w w') (hn : ∀ p, a = some p → ¬ S p.block) : RdR w' a F rows := by
  rcases h with h | ⟨b, o, e, h⟩
  · exact .inl h
  · exact .inr ⟨b, o, e, fun i hi j v hv => k.cell (h i hi j v hv) (show ¬ S b from hn ⟨b, o, none⟩ e)⟩
theorem RdR.at {α : Type} {w : World} {a : Option Addr} {F : Nat} {f : α → List Value} {xs : List α} (h : RdR w a F (xs.map f)) (m : Nat) (hm : m < xs.length) :
    ∃ b o, a = some ⟨b, o, none⟩ ∧ w.rangeAt b (o + m * F) (f xs[m]) := by
  rcases h with h | ⟨b, o, e, h⟩
  · rw [List.map_eq_nil_iff] at h; subst h; simp at hm
  · refine ⟨b, o, e, ?_⟩
    have := h m (by rw [List.length_map]; exact hm)
    rwa [List.getElem_map] at this
/-- Rows of one cell each are a slice's cells. -/
theorem RdR.one {w : World} {a : Option Addr} {vs : List Value} (h : RdR w a 1 (vs.map fun v => [v])) : RdV w a vs := by
  rcases h with h | ⟨b, o, e, h⟩
  · left; simpa using h
  · refine .inr ⟨b, o, e, fun i hi => ?_⟩
    have := h i (by rw [List.length_map]; exact hi) 0 vs[i] (by rw [List.getElem_map]; rfl)
    simpa using this
/-- Numbers in a row. -/
theorem rd_nums {W : World} {k : IntKind} {vs : List Value} (h : RdC W (.slice (.int k)) vs) : ∃ a c, ∃ xs : List Int, vs = [.slice a xs.length c] ∧ xs.length ≤ maxLen ∧ RdV W a (xs.map (.int k)) ∧ (∀ x ∈ xs, (Lit.int k x).wf = true) ∧ xs.length ≤ c := by
  obtain ⟨a, c, rows, rfl, hl, hr, hR, hcp⟩ := h
  obtain ⟨xs, rfl, hx⟩ := choose_list (f := fun n : Int => [Value.int k n]) (p := fun n => (Lit.int k n).wf = true) rows (fun y hy => hr y hy)
  refine ⟨a, c, xs, by simp, by simpa using hl, RdR.one ?_, hx, by simpa using hcp⟩
  rw [List.map_map]
  exact hR
end Go.Proofs.Ythkbhikiljlgoaa
