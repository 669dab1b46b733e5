/- Layer 7: live heaps; awake; acts that came in. The slow twin of layer 5: Same. Runs that came in as an argument. Whatever is made of numbers, bools, structs and slices: read whole, out of the row's form. Package heap: At; what a nil heap answers. Package index: At. -/
import Derived.Test.YthkbhikiljlgoaaGreatGHeapNil7
import Derived.Test.YthkbhikiljlgoaaGreatGHeapNil0
import Derived.Test.YthkbhikiljlgoaaGreatGHeapNil1
import Derived.Deep.Slices
import Derived.Deep.MidRow
import Derived.Deep.QuietTactic
import Derived.BigQuiet
import Derived.Laws.StructEq
set_option linter.unusedVariables false
set_option linter.unusedSimpArgs false
namespace Go.Proofs.YthkbhikiljlgoaaGreat
open Go.RowKit

theorem index_At (p : Value) (ids : List Int) (at_ : Int) (w : World) (h : IndexP w p ids) (ha : I64 at_) :
    Calls Tryz.prog 35 #[p, .int .i64 at_] w fun e w' => e = .returned (.int .i64 (ofF ids (pageI at_))) ∧ w = w' := by
  have hp : I64 (pageI at_) := by
    obtain ⟨h0, h1⟩ := ha
    unfold pageI
    split
    · exact ⟨by omega, by omega⟩
    · exact ⟨by omega, by omega⟩
  go_enter Tryz.func35, Tryz.ntmps35
  go_wp2_with fail
  refine (arena_Page at_ w ha).mono ?_; rintro e w' ⟨rfl, rfl⟩
  obtain ⟨q, hq⟩ : ∃ q, pageI at_ = q := ⟨_, rfl⟩
  rw [hq] at hp ⊢
  go_wp2_with fail
  refine (index_Of p ids q w h hp).mono ?_; rintro e w' ⟨rfl, rfl⟩
  go_wp2
  go_ret
  exact ⟨by rw [hq]; rfl, rfl⟩

end Go.Proofs.YthkbhikiljlgoaaGreat

namespace Go.Proofs.YthkbhikiljlgoaaGreat
open Go.RowKit

theorem Bel.blk {w w' : World} (h : Bel w w') {k : Nat} {o : Obj} (g : w.heap[k]? = some o) : w'.heap[k]? = some o := (h.block k (heap_lt g)).trans g
theorem Bel.set {w w1 : World} (h : Bel w w1) {p : Addr} (hp : w.heap.size ≤ p.block) (v : Value) : Bel w (w1.setCell p v) := Below.setCell h hp v
/-- The span of an address. -/
def atS (ids : List Int) (S : List Sp) (a : Int) : Option Sp := getS S (ofF ids (pageI a))
theorem HInv.wd_small {ids : List Int} {L : List Rn} {S : List Sp} {last : Nat} (h : HInv ids L S last) (p : Int) : 0 ≤ ofF ids p ∧ ofF ids p ≤ last := by
  unfold ofF
  split
  · rename_i hp
    by_cases hw : wd ids p = 0
    · omega
    · obtain ⟨s, hs, hsp⟩ := h.all p hp.1 hp.2 hw
      have := h.span s hs
      have := this.2.2.2 p hsp
      omega
  · omega
set_option maxRecDepth 20000 in
theorem heap_At {h rb : Nat} {v : Value} {bx bi bm : Nat} {L : List Rn} {ids : List Int} {S : List Sp} {last : Nat} (w : World) (H : HeapAt w h rb v bx bi bm L ids S last) (a : Int) (ha : I64 a) :
    Calls Tryz.prog 15 #[.pointer (some ⟨h, 0, none⟩), .int .i64 a] w fun e w' => e = .returned (.tuple #[spV ((atS ids S a).getD sp0), .bool (atS ids S a).isSome]) ∧ Bel w w' := by
  obtain ⟨q0, q1, q2, q3⟩ := four_cells H.hd
  have hsm := H.small
  have hlt := heap_lt H.hd
  have hw := H.inv.wd_small (pageI a)
  have hb := (Bel.refl w).alloc (.cells #[.int .i64 0, .int .i64 0, .int .i64 0, .int .i64 0] 43)
  have HB0 := Lib.hid hb
  have HA := Lib.hid (index_At _ ids a _ (.inr ⟨bx, bi, rfl, H.index.bel hb⟩) ha)
  obtain ⟨k, hk⟩ : ∃ k, ofF ids (pageI a) = k := ⟨_, rfl⟩
  rw [hk] at HA hw
  have HS := Lib.hid (heap_Span _ (H.bel hb) k (wf_i64 (by omega) (by omega)))
  have HK : Hid (atS ids S a = getS S k) := Lib.hid (by unfold atS; rw [hk])
  clear hk H hb
  go_enter Tryz.func15, Tryz.ntmps15
  go_wp2_with fail
  refine HA.out.mono ?_
  rintro e w' ⟨rfl, rfl⟩
  go_wp2_with fail
  refine HS.out.mono ?_
  rintro e w' ⟨rfl, hB⟩
  have gR := hB.blk (blk_alloc w (.cells #[.int .i64 0, .int .i64 0, .int .i64 0, .int .i64 0] 43))
  rw [← HK.out]
  obtain ⟨s, hs⟩ : ∃ s, (atS ids S a).getD sp0 = s := ⟨_, rfl⟩
  obtain ⟨p, hp⟩ : ∃ p, (atS ids S a).isSome = p := ⟨_, rfl⟩
  have HSP := Lib.hid (And.intro hs hp)
  rw [hs, hp]
  obtain ⟨s1, ⟨s2, s3⟩, s4⟩ := s
  simp only [spV]
  obtain ⟨R, hR⟩ : ∃ R, w.heap.size = R := ⟨_, rfl⟩
  rw [hR] at gR ⊢
  have HE : Hid (((((w'.setCell ⟨R, 0, none⟩ (.int .i64 s1)).setCell ⟨R, 1, none⟩ (.int .i64 s2)).setCell ⟨R, 2, none⟩ (.int .i64 s3)).setCell ⟨R, 3, none⟩ (.int .i64 s4)).heap[R]? = some (.cells #[.int .i64 s1, .int .i64 s2, .int .i64 s3, .int .i64 s4] 43 (0, 0)) ∧
      Bel w ((((w'.setCell ⟨R, 0, none⟩ (.int .i64 s1)).setCell ⟨R, 1, none⟩ (.int .i64 s2)).setCell ⟨R, 2, none⟩ (.int .i64 s3)).setCell ⟨R, 3, none⟩ (.int .i64 s4))) := Lib.hid ⟨four_set gR _ _ _ _, bel_four (HB0.out.trans hB) (by omega) _ _ _ _⟩
  obtain ⟨c0, c1, c2, c3⟩ := four_cells gR
  obtain ⟨f0, f1, f2, f3⟩ := four_frozen gR
  clear hB HS HK HA HB0 gR hs hp
  go_wp2
  generalize (((w'.setCell ⟨R, 0, none⟩ (.int .i64 s1)).setCell ⟨R, 1, none⟩ (.int .i64 s2)).setCell ⟨R, 2, none⟩ (.int .i64 s3)).setCell ⟨R, 3, none⟩ (.int .i64 s4) = W9 at HE ⊢
  obtain ⟨r0, r1, r2, r3⟩ := four_cells HE.out.1
  refine bodyPost_ret (v := .tuple #[.agg #[.int .i64 s1, .int .i64 s2, .int .i64 s3, .int .i64 s4], .bool p]) (by simp [results, Tryz.results15, go_sem, r0, r1, r2, r3]) rfl ?_
  exact ⟨by rw [HSP.out.1, HSP.out.2]; rfl, HE.out.2⟩

/-! ### nil -/
set_option maxRecDepth 20000 in
theorem heap0_Size (w : World) : Calls Tryz.prog 8 #[.pointer none] w fun e w' => e = .returned (.int .i64 0) ∧ w = w' := by
  go_enter Tryz.func8, Tryz.ntmps8
  go_wp2
  go_ret
  exact ⟨rfl, rfl⟩
set_option maxRecDepth 20000 in
theorem heap0_Runs (w : World) : Calls Tryz.prog 21 #[.pointer none] w fun e w' => e = .returned (.slice none 0 0) ∧ w = w' := by
  go_enter Tryz.func21, Tryz.ntmps21
  go_wp2
  go_ret
  exact ⟨rfl, rfl⟩
set_option maxRecDepth 20000 in
theorem heap0_Spans (w : World) : Calls Tryz.prog 18 #[.pointer none] w fun e w' => e = .returned (.slice none 0 0) ∧ w = w' := by
  go_enter Tryz.func18, Tryz.ntmps18
  go_wp2
  go_ret
  exact ⟨rfl, rfl⟩
set_option maxRecDepth 20000 in
theorem heap0_Span (k : Int) (w : World) : Calls Tryz.prog 13 #[.pointer none, .int .i64 k] w fun e w' => e = .returned (.tuple #[spV sp0, .bool false]) ∧ Bel w w' := by
  have HE := Lib.hid (And.intro (blk_alloc w (.cells #[.int .i64 0, .int .i64 0, .int .i64 0, .int .i64 0] 43)) ((Bel.refl w).alloc (.cells #[.int .i64 0, .int .i64 0, .int .i64 0, .int .i64 0] 43)))
  go_enter Tryz.func13, Tryz.ntmps13
  go_wp2
  generalize w.alloc (.cells #[.int .i64 0, .int .i64 0, .int .i64 0, .int .i64 0] 43) = W9 at HE ⊢
  obtain ⟨r0, r1, r2, r3⟩ := four_cells HE.out.1
  refine bodyPost_ret (v := .tuple #[.agg #[.int .i64 0, .int .i64 0, .int .i64 0, .int .i64 0], .bool false]) (by simp [results, Tryz.results13, go_sem, r0, r1, r2, r3]) rfl ?_
  exact ⟨rfl, HE.out.2⟩
set_option maxRecDepth 20000 in
theorem heap0_At (k : Int) (w : World) : Calls Tryz.prog 15 #[.pointer none, .int .i64 k] w fun e w' => e = .returned (.tuple #[spV sp0, .bool false]) ∧ Bel w w' := by
  have HE := Lib.hid (And.intro (blk_alloc w (.cells #[.int .i64 0, .int .i64 0, .int .i64 0, .int .i64 0] 43)) ((Bel.refl w).alloc (.cells #[.int .i64 0, .int .i64 0, .int .i64 0, .int .i64 0] 43)))
  go_enter Tryz.func15, Tryz.ntmps15
  go_wp2
  generalize w.alloc (.cells #[.int .i64 0, .int .i64 0, .int .i64 0, .int .i64 0] 43) = W9 at HE ⊢
  obtain ⟨r0, r1, r2, r3⟩ := four_cells HE.out.1
  refine bodyPost_ret (v := .tuple #[.agg #[.int .i64 0, .int .i64 0, .int .i64 0, .int .i64 0], .bool false]) (by simp [results, Tryz.results15, go_sem, r0, r1, r2, r3]) rfl ?_
  exact ⟨rfl, HE.out.2⟩
set_option maxRecDepth 20000 in
theorem heap0_Make (n ord : Int) (w : World) (hn : I64 n) (ho : I64 ord) (h : ¬ (n < 1 ∨ ord < -1 ∨ 4 ≤ ord)) :
    Calls Tryz.prog 12 #[.pointer none, .int .i64 n, .int .i64 ord] w fun e w' => e = .returned (.tuple #[spV sp0, .int .i64 3]) ∧ Bel w w' := by
  have c1 : ¬ n < 1 := by omega
  have c2 : ¬ ord < -1 := by omega
  have c3 : ¬ 4 ≤ ord := by omega
  have HE := Lib.hid (And.intro (blk_alloc w (.cells #[.int .i64 0, .int .i64 0, .int .i64 0, .int .i64 0] 43)) ((Bel.refl w).alloc (.cells #[.int .i64 0, .int .i64 0, .int .i64 0, .int .i64 0] 43)))
  go_enter Tryz.func12, Tryz.ntmps12
  go_wp2
  generalize w.alloc (.cells #[.int .i64 0, .int .i64 0, .int .i64 0, .int .i64 0] 43) = W9 at HE ⊢
  obtain ⟨r0, r1, r2, r3⟩ := four_cells HE.out.1
  refine bodyPost_ret (v := .tuple #[.agg #[.int .i64 0, .int .i64 0, .int .i64 0, .int .i64 0], .int .i64 3]) (by simp [results, Tryz.results12, go_sem, r0, r1, r2, r3]) rfl ?_
  exact ⟨rfl, HE.out.2⟩
set_option maxHeartbeats 1000000 in
set_option maxRecDepth 20000 in
theorem heap0_Free (a : Option Addr) (l : List Int) (n c : Nat) (w : World) (hn : n = l.length) (hl : l.length ≤ 1024) (hr : RdV w a (ints l)) :
    Calls Tryz.prog 10 #[.pointer none, .slice a n c] w fun e w' => e = .returned (.int .i64 (if l = [] then 0 else 6)) ∧ Bel w w' := by
  subst hn
  have q := run_makeMet7 w
  have hb0 : Bel w ((w.alloc (.map #[] 0)).alloc (.cells #[.map (some w.heap.size)] 70)) := ((Bel.refl w).alloc _).alloc _
  have HB0 := Lib.hid hb0
  have HR := Lib.hid (hr.bel hb0)
  clear hr hb0
  cases l with
  | nil =>
    go_enter Tryz.func10, Tryz.ntmps10
    go_wp2_with fail
    go_loopw [5, 14] (fun rv k wr => k = .int .i64 0 ∧ rv = .slice none 0 0 ∧ wr = (w.alloc (.map #[] 0)).alloc (.cells #[.map (some w.heap.size)] 70)) (fun rv k wr => 0)
    case atStart => exact ⟨rfl, rfl, rfl⟩
    case round =>
      obtain ⟨rfl, rfl, rfl⟩ := hrel
      go_wp2
      go_ret
      exact ⟨rfl, HB0.out⟩
  | cons x l =>
    obtain ⟨b, o, rfl, hra⟩ : ∃ b o, a = some ⟨b, o, none⟩ ∧ ((w.alloc (.map #[] 0)).alloc (.cells #[.map (some w.heap.size)] 70)).cell? ⟨b, o, none⟩ = some (.int .i64 x) := by
      rcases HR.out with h9 | ⟨b, o, e, h9⟩
      · simp [ints] at h9
      · exact ⟨b, o, e, by have := h9 0 (by simp [ints]); simpa [ints] using this⟩
    have hl0 : (x :: l).length ≤ 9223372036854775807 := by omega
    have d0 : (0 : Int) < (x :: l).length := by simp
    obtain ⟨m, hm⟩ : ∃ m, (x :: l).length = m := ⟨_, rfl⟩
    rw [hm] at d0 hl0 ⊢
    rw [if_neg (by simp)]
    go_enter Tryz.func10, Tryz.ntmps10
    go_wp2_with fail
    go_loopw [5, 14] (fun rv k wr => k = .int .i64 0 ∧ rv = .slice none 0 0 ∧ wr = (w.alloc (.map #[] 0)).alloc (.cells #[.map (some w.heap.size)] 70)) (fun rv k wr => 0)
    case atStart => exact ⟨rfl, rfl, rfl⟩
    case round =>
      obtain ⟨rfl, rfl, rfl⟩ := hrel
      go_wp2_with fail
      refine (heap0_Span x _).mono ?_
      rintro e w1 ⟨rfl, hB1⟩
      have HB1 := Lib.hid (HB0.out.trans hB1)
      simp only [spV, sp0]
      go_wp2
      go_ret
      exact ⟨rfl, HB1.out.alloc _⟩
end Go.Proofs.YthkbhikiljlgoaaGreat

namespace Go.Proofs.YthkbhikiljlgoaaGreat
open Go.ChangeShapes Go.WideShapes Go.ChangeAt Go.RowKit Go.Deep

/-- What a value is made of. -/
inductive Sh where
  | int (k : IntKind)
  | bool
  | slice (e : Sh)
  | struct (s : Sh)
  | unit
  | pair (s r : Sh)

def Sh.size : Sh → Nat
  | .int _ => 1
  | .bool => 1
  | .slice _ => 1
  | .struct s => s.size
  | .unit => 0
  | .pair s r => s.size + r.size

/-- Rows of F cells each, one behind the other. -/
def RdR (W : World) (a : Option Addr) (F : Nat) (rows : List (List Value)) : Prop :=
  rows = [] ∨ ∃ b o, a = some ⟨b, o, none⟩ ∧ ∀ i (h : i < rows.length), W.rangeAt b (o + i * F) rows[i]

/-- Cells that read as what they are made of. -/
def RdC (W : World) : Sh → List Value → Prop
  | .int k, vs => ∃ n, vs = [.int k n] ∧ (Lit.int k n).wf = true
  | .bool, vs => ∃ b, vs = [.bool b]
  | .slice e, vs => ∃ a c rows, vs = [.slice a rows.length c] ∧ rows.length ≤ maxLen ∧ (∀ r ∈ rows, RdC W e r) ∧ RdR W a e.size rows ∧ rows.length ≤ c
  | .struct s, vs => RdC W s vs
  | .unit, vs => vs = []
  | .pair s r, vs => ∃ xs ys, vs = xs ++ ys ∧ RdC W s xs ∧ RdC W r ys

/-- The type, or the fields from a place on, are made so. -/
def Sh.isT (P : Program) : Sh → Sum TypeId (Nat × List Field) → Prop
  | .int k, .inl t => P.underlying t = some (.int k)
  | .bool, .inl t => P.underlying t = some .bool
  | .slice e, .inl t => ∃ u, P.underlying t = some (.slice u) ∧ P.cellsOf u = e.size ∧ 0 < e.size ∧ e.isT P (.inl u)
  | .struct s, .inl t => ∃ fs, P.underlying t = some (.struct fs) ∧ P.cellsOf t = s.size ∧ s.isT P (.inr (0, fs.toList))
  | .unit, .inr (_, []) => True
  | .pair s r, .inr (o, f :: fs) => f.offset = o ∧ P.cellsOf f.type = s.size ∧ s.isT P (.inl f.type) ∧ r.isT P (.inr (o + s.size, fs))
  | _, _ => False

theorem choose_rows {α : Type} {p : Nat → α → Prop} : ∀ n, (∀ i, i < n → ∃ x, p i x) → ∃ xs : List α, xs.length = n ∧ ∀ i (h : i < xs.length), p i xs[i]
  | 0, _ => ⟨[], rfl, fun i h => by simp at h⟩
  | n + 1, h => by
    obtain ⟨xs, hl, hx⟩ := choose_rows n (fun i hi => h i (by omega))
    obtain ⟨y, hy⟩ := h n (by omega)
    refine ⟨xs ++ [y], by simp [hl], fun i hi => ?_⟩
    by_cases c : i < xs.length
    · rw [List.getElem_append_left c]; exact hx i c
    · have : i = n := by simp at hi; omega
      subst this
      rw [List.getElem_append_right (by omega)]
      simpa [hl] using hy

theorem choose_list {α β : Type} {f : α → β} {p : α → Prop} : ∀ ys : List β, (∀ y ∈ ys, ∃ x, y = f x ∧ p x) → ∃ xs : List α, ys = xs.map f ∧ ∀ x ∈ xs, p x
  | [], _ => ⟨[], rfl, fun x h => by simp at h⟩
  | y :: ys, h => by
    obtain ⟨xs, rfl, hx⟩ := choose_list ys (fun z hz => h z (by simp [hz]))
    obtain ⟨x, rfl, hp⟩ := h y (by simp)
    exact ⟨x :: xs, rfl, fun z hz => by rcases List.mem_cons.1 hz with rfl | hz; exact hp; exact hx z hz⟩

theorem rd_shape {H : Type} {enc : TypeId × Value → H} {P : Program} {W : World} {base : Nat} {sp : Nat → Bool} {held : Bool} : ∀ (s : Sh) (cs : List Value),
    (∀ t fuel x, s.isT P (.inl t) → DataW.trod enc P W base sp held fuel t cs = some x → RdC W s cs) ∧
    (∀ o fs, s.isT P (.inr (o, fs)) → (∀ f ∈ fs, ∃ fuel x, DataW.trod enc P W base sp held fuel f.type ((cs.drop f.offset).take (P.cellsOf f.type)) = some x) → o + s.size ≤ cs.length → RdC W s ((cs.drop o).take s.size))
  | .int k, cs => by
    refine ⟨fun t fuel x h ht => ?_, fun o fs h => by simp [Sh.isT] at h⟩
    obtain ⟨n, rfl, _, hw⟩ := DataW.trod_int h ht
    exact ⟨n, rfl, hw⟩
  | .bool, cs => by
    refine ⟨fun t fuel x h ht => ?_, fun o fs h => by simp [Sh.isT] at h⟩
    obtain ⟨b, rfl, _⟩ := DataW.trod_bool h ht
    exact ⟨b, rfl⟩
  | .unit, cs => by
    refine ⟨fun t fuel x h ht => by simp [Sh.isT] at h, fun o fs h _ _ => by simp [RdC, Sh.size]⟩
  | .struct s, cs => by
    refine ⟨fun t fuel x h ht => ?_, fun o fs h => by simp [Sh.isT] at h⟩
    obtain ⟨fs, hu, hc, hs⟩ := h
    obtain ⟨ys, n, _, _, hlen, hyl, hf⟩ := DataW.trod_struct hu ht
    have := (rd_shape s cs).2 0 fs.toList hs (fun f hfm => by
      obtain ⟨i, hi, rfl⟩ := List.getElem_of_mem hfm
      have hi2 : i < fs.size := by simpa using hi
      have h1 := hf i (fs[i]) (by simp [hi2])
      refine ⟨n, ys[i]'(by omega), ?_⟩
      rw [Array.getElem_toList, h1]
      exact List.getElem?_eq_getElem (by omega)) (by omega)
    rw [List.drop_zero, List.take_of_length_le (by omega)] at this
    exact this
  | .pair s r, cs => by
    refine ⟨fun t fuel x h ht => by simp [Sh.isT] at h, fun o fs h hf hl => ?_⟩
    cases fs with
    | nil => simp [Sh.isT] at h
    | cons f fs =>
      obtain ⟨h1, h2, h3, h4⟩ := h
      simp only [Sh.size] at hl ⊢
      obtain ⟨fuel, x, hx⟩ := hf f (by simp)
      rw [h1, h2] at hx
      refine ⟨(cs.drop o).take s.size, (cs.drop (o + s.size)).take r.size, ?_, (rd_shape s _).1 _ _ _ h3 hx, (rd_shape r cs).2 _ fs h4 (fun g hg => hf g (by simp [hg])) (by omega)⟩
      rw [List.take_add, List.drop_drop]
  | .slice e, cs => by
    refine ⟨fun t fuel x h ht => ?_, fun o fs h => by simp [Sh.isT] at h⟩
    obtain ⟨u, hu, hc, hp, he⟩ := h
    rcases open_slice hu ht with ⟨rfl, _⟩ | ⟨a, len, cap, m, n, D, Pl, rfl, hb, hl, hm, hmm, _, hi⟩
    · exact ⟨none, 0, [], rfl, by simp, fun r hr => by simp at hr, .inl rfl, Nat.zero_le _⟩
    · have hlm : len ≤ m := by rw [hmm]; split <;> omega
      obtain ⟨rows, hrl, hr⟩ := choose_rows (p := fun i r => W.cells? base (a.add (i * P.cellsOf u)) (P.cellsOf u) = some r ∧ ∃ y, DataW.trod enc P W base sp held n u r = some y) len (fun i hil => by
        obtain ⟨r, h1, h2⟩ := hi i (by omega)
        exact ⟨r, h1, _, h2⟩)
      refine ⟨some a, cap, rows, by rw [hrl], by omega, fun r hrm => ?_, ?_, by omega⟩
      · obtain ⟨i, hi, rfl⟩ := List.getElem_of_mem hrm
        obtain ⟨_, y, hy⟩ := hr i hi
        exact (rd_shape e _).1 _ _ _ he hy
      · rcases Nat.eq_zero_or_pos len with h0 | h0
        · left; exact List.eq_nil_of_length_eq_zero (by omega)
        · right
          obtain ⟨b, o, spot⟩ := a
          have hspot : spot = none := by
            obtain ⟨hc0, _⟩ := hr 0 (by omega)
            obtain ⟨_, hcl, hat⟩ := World.cells?_some hc0
            have h1 := hat 0 (by omega)
            rw [List.getElem?_eq_getElem (by omega)] at h1
            have := World.cell?_spot h1
            simpa [Addr.add] using this
          subst hspot
          refine ⟨b, o, rfl, fun i hi j v hv => ?_⟩
          obtain ⟨hc0, _⟩ := hr i hi
          obtain ⟨_, hcl, hat⟩ := World.cells?_some hc0
          have hj : j < rows[i].length := (List.getElem?_eq_some_iff.1 hv).1
          have h1 := hat j (by omega)
          rw [Addr.add_mid, Addr.add_mid, hc] at h1
          exact h1.trans hv

/-- An argument that came in. -/
theorem arg_shape {H : Type} {enc : TypeId × Value → H} {P : Program} {W : World} {base : Nat} {sp : Nat → Bool} {held : Bool} {t : TypeId} {v : Value} {d : DataW H} {ps : List MemPlace} (s : Sh) (hs : s.isT P (.inl t))
    (h : DataW.Trod enc P W base sp held t v d ps) : RdC W s v.cells.toList := by
  obtain ⟨fuel, hf⟩ := h
  exact (rd_shape s _).1 _ _ _ hs hf

theorem RdR.bel {w w' : World} {a : Option Addr} {F : Nat} {rows : List (List Value)} (h : RdR w a F rows) (k : Bel w w') : RdR w' a F rows := by
  rcases h with h | ⟨b, o, e, h⟩
  · exact .inl h
  · exact .inr ⟨b, o, e, fun i hi j v hv => k.cell (h i hi j v hv)⟩
theorem RdR.fr {S : Nat → Prop} {w w' : World} {a : Option Addr} {F : Nat} {rows : List (List Value)} (h : RdR w a F rows) (k : Fr S w w') (hn : ∀ p, a = some p → ¬ S p.block) : RdR w' a F rows := by
  rcases h with h | ⟨b, o, e, h⟩
  · exact .inl h
  · exact .inr ⟨b, o, e, fun i hi j v hv => k.cell (h i hi j v hv) (show ¬ S b from hn ⟨b, o, none⟩ e)⟩
theorem RdR.at {α : Type} {w : World} {a : Option Addr} {F : Nat} {f : α → List Value} {xs : List α} (h : RdR w a F (xs.map f)) (m : Nat) (hm : m < xs.length) :
    ∃ b o, a = some ⟨b, o, none⟩ ∧ w.rangeAt b (o + m * F) (f xs[m]) := by
  rcases h with h | ⟨b, o, e, h⟩
  · rw [List.map_eq_nil_iff] at h; subst h; simp at hm
  · refine ⟨b, o, e, ?_⟩
    have := h m (by rw [List.length_map]; exact hm)
    rwa [List.getElem_map] at this
/-- Rows of one cell each are a slice's cells. -/
theorem RdR.one {w : World} {a : Option Addr} {vs : List Value} (h : RdR w a 1 (vs.map fun v => [v])) : RdV w a vs := by
  rcases h with h | ⟨b, o, e, h⟩
  · left; simpa using h
  · refine .inr ⟨b, o, e, fun i hi => ?_⟩
    have := h i (by rw [List.length_map]; exact hi) 0 vs[i] (by rw [List.getElem_map]; rfl)
    simpa using this
/-- Numbers in a row. -/
theorem rd_nums {W : World} {k : IntKind} {vs : List Value} (h : RdC W (.slice (.int k)) vs) : ∃ a c, ∃ xs : List Int, vs = [.slice a xs.length c] ∧ xs.length ≤ maxLen ∧ RdV W a (xs.map (.int k)) ∧ (∀ x ∈ xs, (Lit.int k x).wf = true) ∧ xs.length ≤ c := by
  obtain ⟨a, c, rows, rfl, hl, hr, hR, hcp⟩ := h
  obtain ⟨xs, rfl, hx⟩ := choose_list (f := fun n : Int => [Value.int k n]) (p := fun n => (Lit.int k n).wf = true) rows (fun y hy => hr y hy)
  refine ⟨a, c, xs, by simp, by simpa using hl, RdR.one ?_, hx, by simpa using hcp⟩
  rw [List.map_map]
  exact hR
end Go.Proofs.YthkbhikiljlgoaaGreat

namespace Go.Proofs.YthkbhikiljlgoaaGreat
open Go.ChangeShapes Go.WideShapes Go.ChangeAt Go.RowKit Go.Deep

/-- The runs that came in. -/
structure Runs05 (W : World) (a : Option Addr) (n : Nat) (rs : List Rn) : Prop where
  len : n = rs.length
  max : rs.length ≤ maxLen
  rd : RunsIn W a rs
  ok : ∀ r ∈ rs, I64 r.1 ∧ I64 r.2
def sh05r : Sh := .slice (.struct (.pair (.int .i64) (.pair (.int .i64) .unit)))
theorem runsIn_of_rdr {W : World} {a : Option Addr} {rs : List Rn} (h : RdR W a 2 (rs.map rnCells)) : RunsIn W a rs := by
  rcases h with h | ⟨b, o, e, h⟩
  · left; simpa using h
  · refine .inr ⟨b, o, e, fun i hi => ?_⟩
    have h1 := h i (by simpa using hi)
    rw [List.getElem_map] at h1
    exact ⟨h1 0 _ rfl, h1 1 _ rfl⟩
theorem runs05 {W : World} {a : Option Addr} {n c : Nat} (h : RdC W sh05r [.slice a n c]) : ∃ rs, Runs05 W a n rs := by
  obtain ⟨a', c', rows, he, hl, hr, hR, _⟩ := h
  simp only [List.cons.injEq, Value.slice.injEq, and_true] at he
  obtain ⟨rfl, rfl, rfl⟩ := he
  obtain ⟨xs, rfl, hx⟩ := choose_list (f := rnCells) (p := fun x => I64 x.1 ∧ I64 x.2) rows (fun r hrm => by
    obtain ⟨_, _, rfl, ⟨k, rfl, hk⟩, _, _, rfl, ⟨t, rfl, ht⟩, rfl⟩ := hr r hrm
    exact ⟨(k, t), rfl, i64_of_wf hk, i64_of_wf ht⟩)
  exact ⟨xs, by simp, by simpa using hl, runsIn_of_rdr hR, hx⟩
theorem sh05r_is : sh05r.isT Tryz.prog (.inl 54) :=
  ⟨_, Tryz.underlying54, by kernel_rfl, by decide, _, Tryz.underlying41, by kernel_rfl,
    rfl, by kernel_rfl, Tryz.underlying3, rfl, by kernel_rfl, Tryz.underlying3, trivial⟩
theorem arg_runs05 {H : Type} {enc : TypeId × Value → H} {W : World} {a : Option Addr} {len cap : Nat} {d : DataW H} {ps : List MemPlace}
    (h : DataW.Trod enc Tryz.prog W 0 (fun _ => true) true 54 (.slice a len cap) d ps) : ∃ rs, Runs05 W a len rs :=
  runs05 (arg_shape sh05r sh05r_is h)
end Go.Proofs.YthkbhikiljlgoaaGreat

namespace Go.Proofs.YthkbhikiljlgoaaGreat
open Go.RowKit

set_option maxHeartbeats 1000000 in
set_option maxRecDepth 20000 in
theorem ref5_Same (a b : Option Addr) (xs ys : List Rn) (n c m d : Nat) (w : World) (hn : n = xs.length) (hm : m = ys.length) (hl : xs.length ≤ 65536) (hl' : ys.length ≤ 65536) (ha : RunsIn w a xs) (hb : RunsIn w b ys) :
    Calls Tryz.prog 20 #[.slice a n c, .slice b m d] w fun e w' => e = .returned (.bool (decide (xs = ys))) ∧ Bel w w' := by
  subst hn hm
  by_cases hne : xs.length = ys.length
  · have HA := Lib.hid ha
    have HB := Lib.hid hb
    have HNE := Lib.hid hne
    have e0 : ((xs.length : Int) != (ys.length : Int)) = false := by simp [hne]
    clear ha hb
    rw [← hne]
    rw [← hne] at e0 hl'
    clear hne
    go_enter Tryz.func20, Tryz.ntmps20
    go_wp2_with fail
    go_loopw [13] (fun k wr => ∃ i : Nat, i ≤ xs.length ∧ k = .int .i64 i ∧ xs.take i = ys.take i ∧ Bel w wr) (fun k wr => xs.length - (intOf k).toNat)
    case atStart => exact ⟨0, Nat.zero_le _, rfl, by simp, Bel.refl _⟩
    case round =>
      obtain ⟨i, hi, rfl, hpre, hB⟩ := hrel
      have HPRE := Lib.hid hpre
      clear hpre
      by_cases hlt : i < xs.length
      · have hlty : i < ys.length := by rw [← HNE.out]; exact hlt
        obtain ⟨b1, o1, rfl, p0, p1⟩ := (HA.out.bel hB).at i hlt
        obtain ⟨b2, o2, rfl, q0, q1⟩ := (HB.out.bel hB).at i hlty
        have hsx : xs.take (i + 1) = xs.take i ++ [xs[i]] := List.take_succ_eq_append_getElem hlt
        have hsy : ys.take (i + 1) = ys.take i ++ [ys[i]] := List.take_succ_eq_append_getElem hlty
        obtain ⟨x, hx⟩ : ∃ x, xs[i] = x := ⟨_, rfl⟩
        obtain ⟨y, hy⟩ : ∃ y, ys[i] = y := ⟨_, rfl⟩
        rw [hx] at p0 p1 hsx
        rw [hy] at q0 q1 hsy
        have hx' : xs[i]? = some x := by rw [List.getElem?_eq_getElem hlt, hx]
        have hy' : ys[i]? = some y := by rw [List.getElem?_eq_getElem hlty, hy]
        have HXY := Lib.hid (And.intro hx' hy')
        have HS := Lib.hid (And.intro hsx hsy)
        have HBB := Lib.hid hB
        obtain ⟨x1, x2⟩ := x
        obtain ⟨y1, y2⟩ := y
        dsimp only at p0 p1 q0 q1
        clear hx hy hx' hy' hsx hsy hB hlty
        have hcs : (x1 = y1 ∧ x2 = y2) ∨ (x1 ≠ y1 ∨ (x1 = y1 ∧ x2 ≠ y2)) := by omega
        rcases hcs with ⟨rfl, rfl⟩ | hcs
        · have e1 : (x1 != x1) = false := by simp
          have e2 : (x2 != x2) = false := by simp
          go_wp2_with fail
          go_region
          go_wp2
          go_roundw
          case rel => exact ⟨i + 1, by omega, by go_num, by rw [HS.out.1, HS.out.2, HPRE.out], HBB.out.drew⟩
          case measure => simp [intOf]; omega
        · have HNO : Hid (decide (xs = ys) = false) := Lib.hid (by
            rw [decide_eq_false_iff_not]
            intro h
            have h1 : xs[i]? = ys[i]? := by rw [h]
            rw [HXY.out.1, HXY.out.2] at h1
            have h2 := Option.some.inj h1
            have h3 := congrArg Prod.fst h2
            have h4 := congrArg Prod.snd h2
            dsimp only at h3 h4
            rcases hcs with h9 | ⟨_, h9⟩
            · exact h9 h3
            · exact h9 h4)
          rcases hcs with h9 | ⟨rfl, h9⟩
          · have e1 : (x1 == y1) = false := by simp [h9]
            go_wp2_with fail
            go_region
            go_wp2
            go_ret
            exact ⟨by rw [HNO.out]; rfl, HBB.out.drew⟩
          · have e1 : (x1 == x1) = true := by simp
            have e2 : (x2 == y2) = false := by simp [h9]
            go_wp2_with fail
            go_region
            go_wp2
            go_ret
            exact ⟨by rw [HNO.out]; rfl, HBB.out.drew⟩
      · obtain rfl : i = xs.length := by omega
        have HE : Hid (decide (xs = ys) = true) := Lib.hid (by
          rw [decide_eq_true_eq]
          have := HPRE.out
          rw [List.take_length, HNE.out, List.take_length] at this
          exact this)
        go_wp2
        go_ret
        exact ⟨by rw [HE.out]; rfl, hB⟩
  · have e0 : ((xs.length : Int) != (ys.length : Int)) = true := by rw [bne_iff_ne]; omega
    have HNO : Hid (decide (xs = ys) = false) := Lib.hid (by rw [decide_eq_false_iff_not]; intro h; exact hne (by rw [h]))
    go_enter Tryz.func20, Tryz.ntmps20
    go_wp2
    go_ret
    exact ⟨by rw [HNO.out]; rfl, Bel.refl _⟩
end Go.Proofs.YthkbhikiljlgoaaGreat

namespace Go.Proofs.YthkbhikiljlgoaaGreat
open Go.ChangeShapes Go.WideShapes Go.ChangeAt Go.RowKit Go.Deep

/-- A heap that the law made, with blocks that are not its own. -/
structure LiveH (w0 : World) (N : Nat → Prop) (w : World) (h bi : Nat) (L : List Rn) (ids : List Int) (S : List Sp) (last : Nat) : Prop where
  at_ : ∃ rb v bx bm, HeapAt w h rb v bx bi bm L ids S last ∧ ∀ k, footH h rb v bx bi bm k → w0.heap.size ≤ k ∧ ¬ N k
  bel : Bel w0 w
  keep : ∀ k, N k → k < w.heap.size
theorem LiveH.then_bel {w0 : World} {N : Nat → Prop} {w w' : World} {h bi : Nat} {L : List Rn} {ids : List Int} {S : List Sp} {last : Nat} (H : LiveH w0 N w h bi L ids S last) (k : Bel w w') : LiveH w0 N w' h bi L ids S last := by
  obtain ⟨rb, v, bx, bm, h1, h2⟩ := H.at_
  exact ⟨⟨rb, v, bx, bm, h1.bel k, h2⟩, H.bel.trans k, fun i hi => Nat.lt_of_lt_of_le (H.keep i hi) k.size⟩
theorem LiveH.inv {w0 : World} {N : Nat → Prop} {w : World} {h bi : Nat} {L : List Rn} {ids : List Int} {S : List Sp} {last : Nat} (H : LiveH w0 N w h bi L ids S last) : HInv ids L S last := by
  obtain ⟨rb, v, bx, bm, h1, h2⟩ := H.at_
  exact h1.inv
theorem LiveH.watch {w0 : World} {N : Nat → Prop} {w w' : World} {h bi : Nat} {L : List Rn} {ids : List Int} {S : List Sp} {last : Nat} (H : LiveH w0 N w h bi L ids S last) (k : Bel w w') (M : Nat → Prop) (hM : ∀ i, M i → w.heap.size ≤ i ∧ i < w'.heap.size) : LiveH w0 (fun i => N i ∨ M i) w' h bi L ids S last := by
  obtain ⟨rb, v, bx, bm, h1, h2⟩ := H.at_
  refine ⟨⟨rb, v, bx, bm, h1.bel k, fun i hi => ⟨(h2 i hi).1, ?_⟩⟩, H.bel.trans k, fun i hi => ?_⟩
  · rintro (h9 | h9)
    · exact (h2 i hi).2 h9
    · have := h1.lt hi; have := (hM i h9).1; omega
  · rcases hi with hi | hi
    · exact Nat.lt_of_lt_of_le (H.keep i hi) k.size
    · exact (hM i hi).2
theorem LiveH.forget {w0 : World} {N N' : Nat → Prop} {w : World} {h bi : Nat} {L : List Rn} {ids : List Int} {S : List Sp} {last : Nat} (H : LiveH w0 N w h bi L ids S last) (hN : ∀ k, N' k → N k) : LiveH w0 N' w h bi L ids S last := by
  obtain ⟨rb, v, bx, bm, h1, h2⟩ := H.at_
  exact ⟨⟨rb, v, bx, bm, h1, fun k hk => ⟨(h2 k hk).1, fun h9 => (h2 k hk).2 (hN k h9)⟩⟩, H.bel, fun k hk => H.keep k (hN k hk)⟩
theorem LiveH.fr {w0 : World} {N Q : Nat → Prop} {w w' : World} {h bi : Nat} {L : List Rn} {ids : List Int} {S : List Sp} {last : Nat} (H : LiveH w0 N w h bi L ids S last) (k : Fr Q w w') (hQ : ∀ i, Q i → N i ∧ w0.heap.size ≤ i) : LiveH w0 N w' h bi L ids S last := by
  obtain ⟨rb, v, bx, bm, h1, h2⟩ := H.at_
  exact ⟨⟨rb, v, bx, bm, h1.fr k (fun i hi hq => (h2 i hi).2 (hQ i hq).1), h2⟩, Fr.bel ((Fr.of_bel (S := Q) H.bel).trans' k) (fun i hi => (hQ i hi).2), fun i hi => Nat.lt_of_lt_of_le (H.keep i hi) k.size⟩
/-- Numbers in a row of one's own that is no elder than B: not the heap's. -/
theorem LiveH.own_int {w0 : World} {N : Nat → Prop} {w : World} {h bi B n : Nat} {L : List Rn} {ids : List Int} {S : List Sp} {last : Nat} {u : Value} {vs : List Value} (H : LiveH w0 N w h bi L ids S last) (ho : w.ownsRow B 3 1 u n vs) (hb : bi < B) : LiveH w0 (fun i => N i ∨ u.ownBlock = some i) w h bi L ids S last := by
  obtain ⟨rb, v, bx, bm, h1, h2⟩ := H.at_
  refine ⟨⟨rb, v, bx, bm, h1, fun k hk => ⟨(h2 k hk).1, ?_⟩⟩, H.bel, fun k hk => ?_⟩
  · rintro (h9 | h9)
    · exact (h2 k hk).2 h9
    · obtain ⟨cur, hc⟩ := own_type ho h9
      have hB := (ho.lt k h9).1
      rcases hk with e | e | e | e | e | e
      · subst e; rw [h1.hd] at hc; simp at hc
      · subst e; rw [h1.free.hd] at hc; simp at hc
      · obtain ⟨c2, hc2⟩ := own_type h1.free.own e; rw [hc2] at hc; simp at hc
      · subst e; rw [h1.index.hd] at hc; simp at hc
      · subst e; omega
      · subst e
        obtain ⟨es, ck, hm⟩ := h1.spans.map?
        rw [hm] at hc; simp at hc
  · rcases hk with hk | hk
    · exact H.keep k hk
    · exact (ho.lt k hk).2
theorem LiveH.bi_lt {w0 : World} {N : Nat → Prop} {w : World} {h bi : Nat} {L : List Rn} {ids : List Int} {S : List Sp} {last : Nat} (H : LiveH w0 N w h bi L ids S last) : bi < w.heap.size := by
  obtain ⟨rb, v, bx, bm, h1, h2⟩ := H.at_
  exact heap_lt h1.index.nums
/-- What an act on it leaves. -/
def LivePostH (w0 : World) (N : Nat → Prop) (w : World) (h bi : Nat) (L : List Rn) (ids : List Int) (S : List Sp) (last : Nat) (w' : World) : Prop :=
  LiveH w0 N w' h bi L ids S last ∧ Fr (fun k => ¬ N k) w w'
theorem liveH_post {w0 : World} {N : Nat → Prop} {w w' : World} {h rb : Nat} {v : Value} {bx bi bm : Nat} {L : List Rn} {ids : List Int} {S : List Sp} {last : Nat} (hB : Bel w0 w) (hk : ∀ k, N k → k < w.heap.size) (h2 : ∀ k, footH h rb v bx bi bm k → w0.heap.size ≤ k ∧ ¬ N k)
    (hP : HPost w h rb v bx bi bm L ids S last w') : LivePostH w0 N w h bi L ids S last w' := by
  obtain ⟨v', h3, h4, h5⟩ := hP
  refine ⟨⟨⟨rb, v', bx, bm, h3, fun k hk9 => ?_⟩, Fr.bel ((Fr.of_bel (S := footH h rb v bx bi bm) hB).trans' h5) (fun k hk9 => (h2 k hk9).1), fun k hk9 => Nat.lt_of_lt_of_le (hk k hk9) h5.size⟩, h5.mono (fun k hk9 => (h2 k hk9).2)⟩
  have old : footH h rb v bx bi bm k → w0.heap.size ≤ k ∧ ¬ N k := h2 k
  rcases hk9 with e | e | e | e | e | e
  · exact old (.inl e)
  · exact old (.inr (.inl e))
  · rcases h4 k e with h9 | h9
    · exact old (.inr (.inr (.inl h9)))
    · exact ⟨Nat.le_trans hB.size h9, fun hN => by have := hk k hN; omega⟩
  · exact old (.inr (.inr (.inr (.inl e))))
  · exact old (.inr (.inr (.inr (.inr (.inl e)))))
  · exact old (.inr (.inr (.inr (.inr (.inr e)))))
theorem liveH_new {w w' : World} {n : Nat} {e : Ending} (h : NewH w n e w') : ∃ h bi, e = .returned (.tuple #[.pointer (some ⟨h, 0, none⟩), .int .i64 0]) ∧ LiveH w (fun _ => False) w' h bi [(0, (n : Int))] (List.replicate n 0) [] 0 := by
  obtain ⟨h, rb, v, bx, bi, bm, rfl, h1, h2, h3⟩ := h
  exact ⟨h, bi, rfl, ⟨rb, v, bx, bm, h1, fun k hk => ⟨h3 k hk, fun h => h⟩⟩, h2, fun _ h => h.elim⟩
/-- What Make does. -/
def MakeR (ids : List Int) (L : List Rn) (S : List Sp) (last : Nat) (n ord : Int) (s : Sp) (en : Int) (L' : List Rn) (ids' : List Int) (S' : List Sp) (last' : Nat) : Prop :=
  ((n < 1 ∨ ord < -1 ∨ 4 ≤ ord) ∧ s = sp0 ∧ en = 1 ∧ L' = L ∧ ids' = ids ∧ S' = S ∧ last' = last) ∨
  (1 ≤ n ∧ -1 ≤ ord ∧ ord < 4 ∧ bestF L n = (0, 0) ∧ s = sp0 ∧ en = 3 ∧ L' = L ∧ ids' = ids ∧ S' = S ∧ last' = last) ∨
  (1 ≤ n ∧ -1 ≤ ord ∧ ord < 4 ∧ ∃ t, Made ids L S last n ord t L' ids' ∧ (bestF L n).1 = t ∧ 0 < (bestF L n).2 ∧ s = ((last : Int) + 1, (t, n), ord) ∧ en = 0 ∧ S' = S ++ [s] ∧ last' = last + 1)
theorem liveH_Make {w0 : World} {N : Nat → Prop} {w : World} {h bi : Nat} {L : List Rn} {ids : List Int} {S : List Sp} {last : Nat} (H : LiveH w0 N w h bi L ids S last) (n ord : Int) (hn : I64 n) (ho : I64 ord) (hl : last < 65536) :
    ∃ s en L' ids' S' last', MakeR ids L S last n ord s en L' ids' S' last' ∧ ∀ V, Bel w V → Calls Tryz.prog 12 #[.pointer (some ⟨h, 0, none⟩), .int .i64 n, .int .i64 ord] V fun e V' => e = .returned (.tuple #[spV s, .int .i64 en]) ∧ LivePostH w0 N w h bi L' ids' S' last' V' := by
  obtain ⟨rb, v, bx, bm, h1, h2⟩ := H.at_
  have fin : ∀ {L' : List Rn} {ids' : List Int} {S' : List Sp} {last' : Nat} (V V' : World), Bel w V → HPost V h rb v bx bi bm L' ids' S' last' V' → LivePostH w0 N w h bi L' ids' S' last' V' := fun V V' hV hP =>
    liveH_post H.bel H.keep h2 (hP.from hV)
  by_cases c : n < 1 ∨ ord < -1 ∨ 4 ≤ ord
  · refine ⟨sp0, 1, L, ids, S, last, .inl ⟨c, rfl, rfl, rfl, rfl, rfl, rfl⟩, fun V hV => ?_⟩
    exact (heap_Make_bad _ n ord V hn ho c).mono fun e V' ⟨he, hB⟩ => ⟨he, fin V V' hV (HPost.same (h1.bel hV) hB)⟩
  · have c1 : 1 ≤ n := by omega
    have c2 : -1 ≤ ord ∧ ord < 4 := by omega
    rcases h1.inv.make n ord with ⟨ht, hb⟩ | ⟨t, L', ids', hM, _, hb1, hb2⟩
    · exact ⟨sp0, 3, L, ids, S, last, .inr (.inl ⟨c1, c2.1, c2.2, hb, rfl, rfl, rfl, rfl, rfl, rfl⟩), fun V hV => (heap_Make_none V (h1.bel hV) n ord ht hn c1 c2).mono fun e V' ⟨he, hP⟩ => ⟨he, fin V V' hV hP⟩⟩
    · exact ⟨_, 0, L', ids', _, last + 1, .inr (.inr ⟨c1, c2.1, c2.2, t, hM, hb1, hb2, rfl, rfl, rfl, rfl⟩), fun V hV => (heap_Make V (h1.bel hV) n ord t L' ids' hM c1 c2 hl).mono fun e V' ⟨he, hP⟩ => ⟨he, fin V V' hV hP⟩⟩
theorem liveH_Runs {w0 : World} {N : Nat → Prop} {w : World} {h bi : Nat} {L : List Rn} {ids : List Int} {S : List Sp} {last : Nat} (H : LiveH w0 N w h bi L ids S last) :
    ∀ V, Bel w V → Calls Tryz.prog 21 #[.pointer (some ⟨h, 0, none⟩)] V (NewRuns V L) := by
  obtain ⟨rb, v, bx, bm, h1, h2⟩ := H.at_
  exact fun V hV => heap_Runs V (h1.bel hV)
theorem liveH_Spans {w0 : World} {N : Nat → Prop} {w : World} {h bi : Nat} {L : List Rn} {ids : List Int} {S : List Sp} {last : Nat} (H : LiveH w0 N w h bi L ids S last) :
    ∀ V, Bel w V → Calls Tryz.prog 18 #[.pointer (some ⟨h, 0, none⟩)] V (RisenSpans V S) := by
  obtain ⟨rb, v, bx, bm, h1, h2⟩ := H.at_
  exact fun V hV => heap_Spans V (h1.bel hV)
theorem liveH_Size {w0 : World} {N : Nat → Prop} {w : World} {h bi : Nat} {L : List Rn} {ids : List Int} {S : List Sp} {last : Nat} (H : LiveH w0 N w h bi L ids S last) :
    ∀ V, Bel w V → Calls Tryz.prog 8 #[.pointer (some ⟨h, 0, none⟩)] V fun e V' => e = .returned (.int .i64 ids.length) ∧ V = V' := by
  obtain ⟨rb, v, bx, bm, h1, h2⟩ := H.at_
  exact fun V hV => heap_Size V (h1.bel hV)
/-- What Free does. -/
def FreeR (ids : List Int) (L : List Rn) (S : List Sp) (last : Nat) (l : List Int) (en : Int) (L' : List Rn) (ids' : List Int) (S' : List Sp) : Prop :=
  (FreeOk S l ∧ en = 0 ∧ Freed ids L S last l L' ids' ∧ S' = S.filter fun s => !decide (s.1 ∈ l)) ∨ (¬ FreeOk S l ∧ en = 6 ∧ L' = L ∧ ids' = ids ∧ S' = S)
theorem liveH_Free {w0 : World} {N : Nat → Prop} {w : World} {h bi : Nat} {L : List Rn} {ids : List Int} {S : List Sp} {last : Nat} (H : LiveH w0 N w h bi L ids S last) (l : List Int) (hl : l.length ≤ 1024) (hok : ∀ k ∈ l, (Lit.int .i64 k).wf = true) :
    ∀ V a c, Bel w V → RdV V a (ints l) → Calls Tryz.prog 10 #[.pointer (some ⟨h, 0, none⟩), .slice a l.length c] V fun e V' => ∃ en L' ids' S', FreeR ids L S last l en L' ids' S' ∧ e = .returned (.int .i64 en) ∧ LivePostH w0 N w h bi L' ids' S' last V' := by
  obtain ⟨rb, v, bx, bm, h1, h2⟩ := H.at_
  intro V a c hV hr
  refine (heap_Free V (h1.bel hV) a l l.length c rfl hl hr hok).mono ?_
  rintro e V' (⟨hf, rfl, L', ids', hfr, hP⟩ | ⟨hf, rfl, hP⟩)
  · exact ⟨0, L', ids', _, .inl ⟨hf, rfl, hfr, rfl⟩, rfl, liveH_post H.bel H.keep h2 (hP.from hV)⟩
  · exact ⟨6, L, ids, S, .inr ⟨hf, rfl, rfl, rfl, rfl⟩, rfl, liveH_post H.bel H.keep h2 (hP.from hV)⟩

/-! ### awake -/
theorem awake7_best : bestF [(0, 8)] 3 = (0, 8) := by decide
set_option maxHeartbeats 1000000 in
set_option maxRecDepth 20000 in
theorem awake07 (w : World) : Calls Tryz.prog 5 #[] w fun e w' => e = .returned (.bool true) ∧ Bel w w' := by
  go_enter Tryz.func5, Tryz.ntmps5
  go_wp2_with fail
  refine (heap_New 8 w (by omega) (by omega)).mono ?_
  rintro e w1 hN
  obtain ⟨h, bi, rfl, hL⟩ := liveH_new hN
  obtain ⟨s, en, L', ids', S', last', hR, hC⟩ := liveH_Make hL 3 0 ⟨by omega, by omega⟩ ⟨by omega, by omega⟩ (by omega)
  have hs : s = (1, (0, 3), 0) ∧ en = 0 ∧ ids'.length = 8 := by
    rcases hR with ⟨h9, _⟩ | ⟨_, _, _, h9, _⟩ | ⟨_, _, _, t, hM, ht, _, rfl, rfl, rfl, rfl⟩
    · omega
    · have h8 : bestF [(0, ((8 : Nat) : Int))] 3 = (0, 8) := awake7_best
      rw [h8] at h9; cases h9
    · have h8 : bestF [(0, ((8 : Nat) : Int))] 3 = (0, 8) := awake7_best
      rw [h8] at ht
      subst ht
      exact ⟨rfl, rfl, by rw [hM.len]; rfl⟩
  obtain ⟨rfl, rfl, h8⟩ := hs
  have HC := Lib.hid (hC w1 (Bel.refl _))
  have HB1 := Lib.hid hL.bel
  have H8 := Lib.hid h8
  clear hC hN hL hR h8
  go_wp2_with fail
  refine HC.out.mono ?_
  rintro e w2 ⟨rfl, hL2, hF2⟩
  have HL2 := Lib.hid hL2
  have hsz := liveH_Size (hL2.then_bel ((Bel.refl w2).alloc (.cells #[.int .i64 1, .int .i64 0, .int .i64 3, .int .i64 0] 43))) _ (Bel.refl _)
  rw [H8.out] at hsz
  have HS := Lib.hid hsz
  obtain ⟨r0, r1, r2, r3⟩ := four_cells (blk_alloc w2 (.cells #[.int .i64 1, .int .i64 0, .int .i64 3, .int .i64 0] 43))
  clear hL2 hF2 hsz
  simp only [spV]
  go_wp2_with fail
  refine HS.out.mono ?_
  rintro e w3 ⟨rfl, rfl⟩
  go_wp2
  go_ret
  exact ⟨rfl, HL2.out.bel.alloc _⟩
end Go.Proofs.YthkbhikiljlgoaaGreat
