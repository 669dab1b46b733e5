/- Layer 7: spans in memory; the twin's Same; acts that came in. -/
import Derived.Test.YthkbhikiljlgoaaLaw07
namespace Go.Proofs.Ythkbhikiljlgoaa
open Go.ChangeShapes Go.WideShapes Go.ChangeAt Go.RowKit Go.Deep

/-- A slice of spans. -/
def SpansIn (w : World) (a : Option Addr) (zs : List Sp) : Prop := zs = [] ∨ ∃ b o, a = some ⟨b, o, none⟩ ∧ ∀ i (h : i < zs.length), w.rangeAt b (o + i * 4) (spCells zs[i])
theorem SpansIn.of_row {w : World} {a : Option Addr} {zs : List Sp} (h : RdV w a (spCellsOf zs)) : SpansIn w a zs := by
  rcases h with h | ⟨b, o, e, h⟩
  · left
    have := spCellsOf_length zs
    rw [h] at this
    exact List.eq_nil_of_length_eq_zero (by simp at this; omega)
  · refine .inr ⟨b, o, e, fun i hi j v hv => ?_⟩
    have hj : j < 4 := by have := (List.getElem?_eq_some_iff.1 hv).1; simpa [spCells] using this
    have hl := spCellsOf_length zs
    have h1 := h (i * 4 + j) (by omega)
    have h2 := spCellsOf_get zs i hi j hj
    rw [hv, List.getElem?_eq_getElem (by omega), Option.some.injEq] at h2
    rw [h2] at h1
    rw [show o + i * 4 + j = o + (i * 4 + j) by omega]
    exact h1
theorem SpansIn.bel {w w' : World} {a : Option Addr} {zs : List Sp} (h : SpansIn w a zs) (k : Bel w w') : SpansIn w' a zs := by
  rcases h with h | ⟨b, o, e, h⟩
  · exact .inl h
  · exact .inr ⟨b, o, e, fun i hi j v hv => k.cell (h i hi j v hv)⟩
theorem SpansIn.watched {N : Nat → Prop} {w w' : World} {a : Option Addr} {zs : List Sp} (h : SpansIn w a zs) (k : Fr (fun i => ¬ N i) w w') (hN : ∀ p, a = some p → N p.block) : SpansIn w' a zs := by
  rcases h with h | ⟨b, o, e, h⟩
  · exact .inl h
  · exact .inr ⟨b, o, e, fun i hi j v hv => k.cell (h i hi j v hv) (fun h9 => h9 (show N b from hN ⟨b, o, none⟩ e))⟩
theorem SpansIn.at {w : World} {a : Option Addr} {zs : List Sp} (h : SpansIn w a zs) (i : Nat) (hi : i < zs.length) : ∃ b o, a = some ⟨b, o, none⟩ ∧ w.cell? ⟨b, o + i * 4, none⟩ = some (.int .i64 zs[i].1) ∧ w.cell? ⟨b, o + i * 4 + 1, none⟩ = some (.int .i64 zs[i].2.1.1) ∧ w.cell? ⟨b, o + i * 4 + 2, none⟩ = some (.int .i64 zs[i].2.1.2) ∧ w.cell? ⟨b, o + i * 4 + 3, none⟩ = some (.int .i64 zs[i].2.2) := by
  rcases h with h | ⟨b, o, e, h⟩
  · subst h; simp at hi
  · exact ⟨b, o, e, h i hi 0 _ rfl, h i hi 1 _ rfl, h i hi 2 _ rfl, h i hi 3 _ rfl⟩
set_option maxRecDepth 20000 in
theorem ref7_same (a b : Option Addr) (zs : List Sp) (c d : Nat) (w : World) (hl : zs.length ≤ 65536) (ha : SpansIn w a zs) (hb : SpansIn w b zs) :
    Calls Try.prog 14 #[.slice a zs.length c, .slice b zs.length d] w fun e w' => e = .returned (.bool true) ∧ Bel w w' := by
  have HA := Lib.hid ha
  have HB := Lib.hid hb
  clear ha hb
  go_enter Try.func14, Try.ntmps14
  go_wp2_with fail
  go_loopw [13] (fun k wr => ∃ i : Nat, i ≤ zs.length ∧ k = .int .i64 i ∧ Bel w wr) (fun k wr => zs.length - (intOf k).toNat)
  case atStart => exact ⟨0, Nat.zero_le _, rfl, Bel.refl _⟩
  case round =>
    obtain ⟨i, hi, rfl, hB⟩ := hrel
    by_cases hlt : i < zs.length
    · obtain ⟨b1, o1, rfl, p0, p1, p2, p3⟩ := (HA.out.bel hB).at i hlt
      obtain ⟨b2, o2, rfl, q0, q1, q2, q3⟩ := (HB.out.bel hB).at i hlt
      obtain ⟨x, hx⟩ : ∃ x, zs[i] = x := ⟨_, rfl⟩
      rw [hx] at p0 p1 p2 p3 q0 q1 q2 q3
      obtain ⟨x1, ⟨x2, x3⟩, x4⟩ := x
      dsimp only at p0 p1 p2 p3 q0 q1 q2 q3
      have HBB := Lib.hid hB
      clear hB hx
      go_wp2_with fail
      go_region
      go_wp2
      go_roundw
      case rel => exact ⟨i + 1, by omega, by go_num, HBB.out.drew⟩
      case measure => simp [intOf]; omega
    · obtain rfl : i = zs.length := by omega
      go_wp2
      go_ret
      exact ⟨rfl, hB⟩
/-- Spans sorted by where they start are one row. -/
theorem sorted_unique {ids : List Int} {L : List Rn} {S S' z1 z2 : List Sp} {last : Nat} (h : HInv ids L S last) (hp : S'.Perm S) (h1 : SortedSpans S z1) (h2 : SortedSpans S' z2) : z1 = z2 := by
  have hpm : z1.Perm z2 := (h1.1.trans hp.symm).trans h2.1.symm
  have pw : ∀ {T z : List Sp}, SortedSpans T z → z.Pairwise (fun a b => a.2.1.1 ≤ b.2.1.1) := fun {T z} hz => List.pairwise_iff_getElem.2 (fun i j hi hj hij => hz.2 i j hij hj)
  refine List.Perm.eq_of_pairwise (le := fun a b => a.2.1.1 ≤ b.2.1.1) (fun a b ha hb hab hba => ?_) (pw h1) (pw h2) hpm
  have ma : a ∈ S := h1.1.mem_iff.1 ha
  have mb : b ∈ S := hp.mem_iff.1 (h2.1.mem_iff.1 hb)
  refine h.eq ma mb (Classical.byContradiction fun hne => ?_)
  have hap := h.apart ma mb hne
  have h5 := (there_iff.1 (h.span a ma).2.2.1).2.1
  have h6 := (there_iff.1 (h.span b mb).2.2.1).2.1
  unfold Apart at hap
  omega

/-! ### acts -/
structure Act07 where
  free : Bool
  ia : Option Addr
  ids : List Int
  ic : Nat
  pages : Int
  order : Int
def c07 (x : Act07) : List Value := [.bool x.free, .slice x.ia x.ids.length x.ic, .int .i64 x.pages, .int .i64 x.order]
structure Ok07 (W : World) (x : Act07) : Prop where
  pages : I64 x.pages
  order : I64 x.order
  len : x.ids.length ≤ maxLen
  rd : RdV W x.ia (ints x.ids)
  ok : ∀ k ∈ x.ids, (Lit.int .i64 k).wf = true
/-- The acts that came in. -/
structure Acts07 (W : World) (a : Option Addr) (n : Nat) (xs : List Act07) : Prop where
  len : n = xs.length
  max : xs.length ≤ maxLen
  rd : RdR W a 4 (xs.map c07)
  ok : ∀ x ∈ xs, Ok07 W x
def sh07 : Sh := .slice (.struct (.pair .bool (.pair (.slice (.int .i64)) (.pair (.int .i64) (.pair (.int .i64) .unit)))))
theorem acts07 {W : World} {a : Option Addr} {n c : Nat} (h : RdC W sh07 [.slice a n c]) : ∃ xs, Acts07 W a n xs := by
  obtain ⟨a', c', rows, he, hl, hr, hR, _⟩ := h
  simp only [List.cons.injEq, Value.slice.injEq, and_true] at he
  obtain ⟨rfl, rfl, rfl⟩ := he
  obtain ⟨xs, rfl, hx⟩ := choose_list (f := c07) (p := Ok07 W) rows (fun r hrm => by
    obtain ⟨_, _, rfl, ⟨d, rfl⟩, _, _, rfl, hs, _, _, rfl, ⟨t, rfl, ht⟩, _, _, rfl, ⟨o, rfl, ho⟩, rfl⟩ := hr r hrm
    obtain ⟨wa, wc, ns, rfl, h1, h2, h3, _⟩ := rd_nums hs
    exact ⟨⟨d, wa, ns, wc, t, o⟩, rfl, ⟨i64_of_wf ht, i64_of_wf ho, h1, h2, h3⟩⟩)
  exact ⟨xs, by simp, by simpa using hl, hR, hx⟩
theorem sh07_is : sh07.isT Try.prog (.inl 22) :=
  ⟨_, Try.underlying22, by kernel_rfl, by decide, _, Try.underlying30, by kernel_rfl,
    rfl, by kernel_rfl, Try.underlying4, rfl, by kernel_rfl, ⟨_, Try.underlying28, by kernel_rfl, by decide, Try.underlying3⟩, rfl, by kernel_rfl, Try.underlying3, rfl, by kernel_rfl, Try.underlying3, trivial⟩
theorem arg_acts07 {H : Type} {enc : TypeId × Value → H} {W : World} {a : Option Addr} {len cap : Nat} {d : DataW H} {ps : List MemPlace}
    (h : DataW.Trod enc Try.prog W 0 (fun _ => true) true 22 (.slice a len cap) d ps) : ∃ xs, Acts07 W a len xs :=
  acts07 (arg_shape sh07 sh07_is h)
end Go.Proofs.Ythkbhikiljlgoaa
