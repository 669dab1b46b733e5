/- The reference of layer 10: Give. Whatever is made of numbers, bools, structs and slices: read whole, out of the row's form. -/
import Derived.Test.YtbldidlbhahciaaGreatGLargeHolds0
import Derived.Test.YtbldidlbhahciaaGreatGLargeHolds14
import Derived.Deep.Slices
import Derived.Deep.MidRow
import Derived.Deep.QuietTactic
import Derived.BigQuiet
set_option linter.unusedVariables false
set_option linter.unusedSimpArgs false
namespace Go.Proofs.YtbldidlbhahciaaGreat
open Go.ChangeShapes Go.WideShapes Go.ChangeAt Go.RowKit Go.Deep

/-- What a value is made of. -/
inductive Sh where
  | int (k : IntKind)
  | bool
  | slice (e : Sh)
  | struct (s : Sh)
  | unit
  | pair (s r : Sh)

def Sh.size : Sh → Nat
  | .int _ => 1
  | .bool => 1
  | .slice _ => 1
  | .struct s => s.size
  | .unit => 0
  | .pair s r => s.size + r.size

/-- Rows of F cells each, one behind the other. -/
def RdR (W : World) (a : Option Addr) (F : Nat) (rows : List (List Value)) : Prop :=
  rows = [] ∨ ∃ b o, a = some ⟨b, o, none⟩ ∧ ∀ i (h : i < rows.length), W.rangeAt b (o + i * F) rows[i]

/-- Cells that read as what they are made of. -/
def RdC (W : World) : Sh → List Value → Prop
  | .int k, vs => ∃ n, vs = [.int k n] ∧ (Lit.int k n).wf = true
  | .bool, vs => ∃ b, vs = [.bool b]
  | .slice e, vs => ∃ a c rows, vs = [.slice a rows.length c] ∧ rows.length ≤ maxLen ∧ (∀ r ∈ rows, RdC W e r) ∧ RdR W a e.size rows ∧ rows.length ≤ c
  | .struct s, vs => RdC W s vs
  | .unit, vs => vs = []
  | .pair s r, vs => ∃ xs ys, vs = xs ++ ys ∧ RdC W s xs ∧ RdC W r ys

/-- The type, or the fields from a place on, are made so. -/
def Sh.isT (P : Program) : Sh → Sum TypeId (Nat × List Field) → Prop
  | .int k, .inl t => P.underlying t = some (.int k)
  | .bool, .inl t => P.underlying t = some .bool
  | .slice e, .inl t => ∃ u, P.underlying t = some (.slice u) ∧ P.cellsOf u = e.size ∧ 0 < e.size ∧ e.isT P (.inl u)
  | .struct s, .inl t => ∃ fs, P.underlying t = some (.struct fs) ∧ P.cellsOf t = s.size ∧ s.isT P (.inr (0, fs.toList))
  | .unit, .inr (_, []) => True
  | .pair s r, .inr (o, f :: fs) => f.offset = o ∧ P.cellsOf f.type = s.size ∧ s.isT P (.inl f.type) ∧ r.isT P (.inr (o + s.size, fs))
  | _, _ => False

theorem choose_rows {α : Type} {p : Nat → α → Prop} : ∀ n, (∀ i, i < n → ∃ x, p i x) → ∃ xs : List α, xs.length = n ∧ ∀ i (h : i < xs.length), p i xs[i]
  | 0, _ => ⟨[], rfl, fun i h => by simp at h⟩
  | n + 1, h => by
    obtain ⟨xs, hl, hx⟩ := choose_rows n (fun i hi => h i (by omega))
    obtain ⟨y, hy⟩ := h n (by omega)
    refine ⟨xs ++ [y], by simp [hl], fun i hi => ?_⟩
    by_cases c : i < xs.length
    · rw [List.getElem_append_left c]; exact hx i c
    · have : i = n := by simp at hi; omega
      subst this
      rw [List.getElem_append_right (by omega)]
      simpa [hl] using hy

theorem choose_list {α β : Type} {f : α → β} {p : α → Prop} : ∀ ys : List β, (∀ y ∈ ys, ∃ x, y = f x ∧ p x) → ∃ xs : List α, ys = xs.map f ∧ ∀ x ∈ xs, p x
  | [], _ => ⟨[], rfl, fun x h => by simp at h⟩
  | y :: ys, h => by
    obtain ⟨xs, rfl, hx⟩ := choose_list ys (fun z hz => h z (by simp [hz]))
    obtain ⟨x, rfl, hp⟩ := h y (by simp)
    exact ⟨x :: xs, rfl, fun z hz => by rcases List.mem_cons.1 hz with rfl | hz; exact hp; exact hx z hz⟩

theorem rd_shape {H : Type} {enc : TypeId × Value → H} {P : Program} {W : World} {base : Nat} {sp : Nat → Bool} {held : Bool} : ∀ (s : Sh) (cs : List Value),
    (∀ t fuel x, s.isT P (.inl t) → DataW.trod enc P W base sp held fuel t cs = some x → RdC W s cs) ∧
    (∀ o fs, s.isT P (.inr (o, fs)) → (∀ f ∈ fs, ∃ fuel x, DataW.trod enc P W base sp held fuel f.type ((cs.drop f.offset).take (P.cellsOf f.type)) = some x) → o + s.size ≤ cs.length → RdC W s ((cs.drop o).take s.size))
  | .int k, cs => by
    refine ⟨fun t fuel x h ht => ?_, fun o fs h => by simp [Sh.isT] at h⟩
    obtain ⟨n, rfl, _, hw⟩ := DataW.trod_int h ht
    exact ⟨n, rfl, hw⟩
  | .bool, cs => by
    refine ⟨fun t fuel x h ht => ?_, fun o fs h => by simp [Sh.isT] at h⟩
    obtain ⟨b, rfl, _⟩ := DataW.trod_bool h ht
    exact ⟨b, rfl⟩
  | .unit, cs => by
    refine ⟨fun t fuel x h ht => by simp [Sh.isT] at h, fun o fs h _ _ => by simp [RdC, Sh.size]⟩
  | .struct s, cs => by
    refine ⟨fun t fuel x h ht => ?_, fun o fs h => by simp [Sh.isT] at h⟩
    obtain ⟨fs, hu, hc, hs⟩ := h
    obtain ⟨ys, n, _, _, hlen, hyl, hf⟩ := DataW.trod_struct hu ht
    have := (rd_shape s cs).2 0 fs.toList hs (fun f hfm => by
      obtain ⟨i, hi, rfl⟩ := List.getElem_of_mem hfm
      have hi2 : i < fs.size := by simpa using hi
      have h1 := hf i (fs[i]) (by simp [hi2])
      refine ⟨n, ys[i]'(by omega), ?_⟩
      rw [Array.getElem_toList, h1]
      exact List.getElem?_eq_getElem (by omega)) (by omega)
    rw [List.drop_zero, List.take_of_length_le (by omega)] at this
    exact this
  | .pair s r, cs => by
    refine ⟨fun t fuel x h ht => by simp [Sh.isT] at h, fun o fs h hf hl => ?_⟩
    cases fs with
    | nil => simp [Sh.isT] at h
    | cons f fs =>
      obtain ⟨h1, h2, h3, h4⟩ := h
      simp only [Sh.size] at hl ⊢
      obtain ⟨fuel, x, hx⟩ := hf f (by simp)
      rw [h1, h2] at hx
      refine ⟨(cs.drop o).take s.size, (cs.drop (o + s.size)).take r.size, ?_, (rd_shape s _).1 _ _ _ h3 hx, (rd_shape r cs).2 _ fs h4 (fun g hg => hf g (by simp [hg])) (by omega)⟩
      rw [List.take_add, List.drop_drop]
  | .slice e, cs => by
    refine ⟨fun t fuel x h ht => ?_, fun o fs h => by simp [Sh.isT] at h⟩
    obtain ⟨u, hu, hc, hp, he⟩ := h
    rcases open_slice hu ht with ⟨rfl, _⟩ | ⟨a, len, cap, m, n, D, Pl, rfl, hb, hl, hm, hmm, _, hi⟩
    · exact ⟨none, 0, [], rfl, by simp, fun r hr => by simp at hr, .inl rfl, Nat.zero_le _⟩
    · have hlm : len ≤ m := by rw [hmm]; split <;> omega
      obtain ⟨rows, hrl, hr⟩ := choose_rows (p := fun i r => W.cells? base (a.add (i * P.cellsOf u)) (P.cellsOf u) = some r ∧ ∃ y, DataW.trod enc P W base sp held n u r = some y) len (fun i hil => by
        obtain ⟨r, h1, h2⟩ := hi i (by omega)
        exact ⟨r, h1, _, h2⟩)
      refine ⟨some a, cap, rows, by rw [hrl], by omega, fun r hrm => ?_, ?_, by omega⟩
      · obtain ⟨i, hi, rfl⟩ := List.getElem_of_mem hrm
        obtain ⟨_, y, hy⟩ := hr i hi
        exact (rd_shape e _).1 _ _ _ he hy
      · rcases Nat.eq_zero_or_pos len with h0 | h0
        · left; exact List.eq_nil_of_length_eq_zero (by omega)
        · right
          obtain ⟨b, o, spot⟩ := a
          have hspot : spot = none := by
            obtain ⟨hc0, _⟩ := hr 0 (by omega)
            obtain ⟨_, hcl, hat⟩ := World.cells?_some hc0
            have h1 := hat 0 (by omega)
            rw [List.getElem?_eq_getElem (by omega)] at h1
            have := World.cell?_spot h1
            simpa [Addr.add] using this
          subst hspot
          refine ⟨b, o, rfl, fun i hi j v hv => ?_⟩
          obtain ⟨hc0, _⟩ := hr i hi
          obtain ⟨_, hcl, hat⟩ := World.cells?_some hc0
          have hj : j < rows[i].length := (List.getElem?_eq_some_iff.1 hv).1
          have h1 := hat j (by omega)
          rw [Addr.add_mid, Addr.add_mid, hc] at h1
          exact h1.trans hv

/-- An argument that came in. -/
theorem arg_shape {H : Type} {enc : TypeId × Value → H} {P : Program} {W : World} {base : Nat} {sp : Nat → Bool} {held : Bool} {t : TypeId} {v : Value} {d : DataW H} {ps : List MemPlace} (s : Sh) (hs : s.isT P (.inl t))
    (h : DataW.Trod enc P W base sp held t v d ps) : RdC W s v.cells.toList := by
  obtain ⟨fuel, hf⟩ := h
  exact (rd_shape s _).1 _ _ _ hs hf

theorem RdR.bel {w w' : World} {a : Option Addr} {F : Nat} {rows : List (List Value)} (h : RdR w a F rows) (k : Bel w w') : RdR w' a F rows := by
  rcases h with h | ⟨b, o, e, h⟩
  · exact .inl h
  · exact .inr ⟨b, o, e, fun i hi j v hv => k.cell (h i hi j v hv)⟩
theorem RdR.fr {S : Nat → Prop} {w w' : World} {a : Option Addr} {F : Nat} {rows : List (List Value)} (h : RdR w a F rows) (k : Fr S w w') (hn : ∀ p, a = some p → ¬ S p.block) : RdR w' a F rows := by
  rcases h with h | ⟨b, o, e, h⟩
  · exact .inl h
  · exact .inr ⟨b, o, e, fun i hi j v hv => k.cell (h i hi j v hv) (show ¬ S b from hn ⟨b, o, none⟩ e)⟩
theorem RdR.at {α : Type} {w : World} {a : Option Addr} {F : Nat} {f : α → List Value} {xs : List α} (h : RdR w a F (xs.map f)) (m : Nat) (hm : m < xs.length) :
    ∃ b o, a = some ⟨b, o, none⟩ ∧ w.rangeAt b (o + m * F) (f xs[m]) := by
  rcases h with h | ⟨b, o, e, h⟩
  · rw [List.map_eq_nil_iff] at h; subst h; simp at hm
  · refine ⟨b, o, e, ?_⟩
    have := h m (by rw [List.length_map]; exact hm)
    rwa [List.getElem_map] at this
/-- Rows of one cell each are a slice's cells. -/
theorem RdR.one {w : World} {a : Option Addr} {vs : List Value} (h : RdR w a 1 (vs.map fun v => [v])) : RdV w a vs := by
  rcases h with h | ⟨b, o, e, h⟩
  · left; simpa using h
  · refine .inr ⟨b, o, e, fun i hi => ?_⟩
    have := h i (by rw [List.length_map]; exact hi) 0 vs[i] (by rw [List.getElem_map]; rfl)
    simpa using this
/-- Numbers in a row. -/
theorem rd_nums {W : World} {k : IntKind} {vs : List Value} (h : RdC W (.slice (.int k)) vs) : ∃ a c, ∃ xs : List Int, vs = [.slice a xs.length c] ∧ xs.length ≤ maxLen ∧ RdV W a (xs.map (.int k)) ∧ (∀ x ∈ xs, (Lit.int k x).wf = true) ∧ xs.length ≤ c := by
  obtain ⟨a, c, rows, rfl, hl, hr, hR, hcp⟩ := h
  obtain ⟨xs, rfl, hx⟩ := choose_list (f := fun n : Int => [Value.int k n]) (p := fun n => (Lit.int k n).wf = true) rows (fun y hy => hr y hy)
  refine ⟨a, c, xs, by simp, by simpa using hl, RdR.one ?_, hx, by simpa using hcp⟩
  rw [List.map_map]
  exact hR
end Go.Proofs.YtbldidlbhahciaaGreat

namespace Go.Proofs.YtbldidlbhahciaaGreat
open Go.RowKit

theorem Calls.quiet_eq10 {P : Program} {f : FuncId} {args : Array Value} {w : World} {n : Nat} {v : Value}
    (h : Calls P f args (w.drewN n) fun e w' => e = .returned v ∧ w.drewN n = w') : Calls P f args (w.drewN n) fun e w'' => e = .returned v ∧ ∃ m, w'' = w.drewN m :=
  h.mono fun _ _ ⟨he, hm⟩ => ⟨he, n, hm.symm⟩
/-- The first round of checks: so far none is wrong. -/
def GiveOne (W : World) (h : Hp) (l : List Int) (i : Nat) (wr : World) : Prop := Bel W wr ∧ (∀ x ∈ l.take i, largeId h x = true) ∧ (l.take i).Nodup
/-- The second. -/
def GiveTwo (W : World) (st : KS) (l : List Int) (i : Nat) (wr : World) : Prop := Bel W wr ∧ (l.take i).any st.has = false
theorem largeId_of {h : Hp} (H : HpOk h) {j : Nat} (hj : j < h.S.length) : largeId h h.S[j].1 = (decide (h.S[j].2.2 = -1) && fitsF h.S[j].2.1.2) ∧ spOf h h.S[j].1 = h.S[j] := by
  have hg := getS_self H (List.getElem_mem hj)
  have : spOf h h.S[j].1 = h.S[j] := by unfold spOf; rw [hg]; rfl
  refine ⟨?_, this⟩
  unfold largeId
  rw [this, hg]; rfl
theorem largeId_no {h : Hp} {x : Int} (hg : getS h.S x = none) : largeId h x = false := by
  unfold largeId; rw [hg]; rfl
set_option maxHeartbeats 8000000 in
set_option maxRecDepth 20000 in
theorem ref10_Give {w : World} {st : KS} {p : KP} (R : RefK w st p) (I : KInv st) (ia : Option Addr) (l : List Int) (ic : Nat) (hll : l.length ≤ 1024) (hcap : l.length ≤ ic) (hr : RdV w ia (ints l)) (hwf : ∀ x ∈ l, (Lit.int .i64 x).wf = true) (hl : st.h.last ≤ 4096) :
    Calls Tryz.prog 44 #[kV st p, .slice ia l.length ic] w fun e w' => ∃ p', e = .returned (.tuple #[kV (st.give l).1 p', .int .i64 (st.give l).2]) ∧ KPost w st p (st.give l).1 p' w' := by
  have hcnt := I.count
  have hok := I.ok
  have hsl : st.h.S.length ≤ 4096 := by have := hok.count; omega
  have HI := Lib.hid I
  clear I
  obtain ⟨g, fc, a, c, ka, kc, wa, wn⟩ := p
  have hb1 := ((Bel.refl w).alloc (.cells (kCells st ⟨g, fc, a, c, ka, kc, wa, wn⟩) 46)).alloc (.cells k0Cells 46)
  have g0 := blk_alloc_old (.cells k0Cells 46) (blk_alloc w (.cells (kCells st ⟨g, fc, a, c, ka, kc, wa, wn⟩) 46))
  have g1 := blk_alloc (w.alloc (.cells (kCells st ⟨g, fc, a, c, ka, kc, wa, wn⟩) 46)) (.cells k0Cells 46)
  rw [World.size_alloc] at g1
  simp only [kV, kCells, k0Cells] at g0 g1 hb1 ⊢
  have HR := Lib.hid R
  have HRD := Lib.hid hr
  have HWF := Lib.hid hwf
  clear R hr hwf
  go_enter Tryz.func44, Tryz.ntmps44
  go_wp2_with fail
  generalize (w.alloc (.cells #[.int .i64 (st.h.P : Int), .slice (some ⟨g, 0, none⟩) 1024 fc, .slice a st.h.S.length c, .int .i64 (st.h.last : Int), .slice ka st.kept.length kc, .slice wa st.waits.length wn, .bool st.held] 46)).alloc (.cells #[.int .i64 0, .slice none 0 0, .slice none 0 0, .int .i64 0, .slice none 0 0, .slice none 0 0, .bool false] 46) = W at g0 g1 hb1 ⊢
  obtain ⟨B, hB⟩ : ∃ B, w.heap.size = B := ⟨_, rfl⟩
  rw [hB] at g0 g1 ⊢
  have hbig : l.length ≤ 9223372036854775807 := by omega
  have HG := Lib.hid (And.intro hb1 (And.intro g0 g1))
  have HSAME : Hid (∀ W2 y0 y1 y2 y3 y4 y5 y6 W9, Bel W W2 → W9 = ((((((W2.setCell ⟨B + 1, 0, none⟩ y0).setCell ⟨B + 1, 1, none⟩ y1).setCell ⟨B + 1, 2, none⟩ y2).setCell ⟨B + 1, 3, none⟩ y3).setCell ⟨B + 1, 4, none⟩ y4).setCell ⟨B + 1, 5, none⟩ y5).setCell ⟨B + 1, 6, none⟩ y6 → KPost w st ⟨g, fc, a, c, ka, kc, wa, wn⟩ st ⟨g, fc, a, c, ka, kc, wa, wn⟩ W9) := Lib.hid (fun W2 y0 y1 y2 y3 y4 y5 y6 W9 hW2 e9 => by
    have hF := fr_seven W2 (B + 1) y0 y1 y2 y3 y4 y5 y6
    rw [← e9] at hF
    exact KPost.same HR.out (Fr.bel ((Fr.of_bel (hb1.trans hW2)).trans' hF) (fun k hk => by subst hk; omega)))
  have HST : Hid (GiveOne W st.h l 0 W) := Lib.hid ⟨Bel.refl _, by simp, by simp⟩
  clear hb1 g0 g1
  go_loopw [13] (fun kk wr => ∃ i : Nat, i ≤ l.length ∧ kk = .int .i64 i ∧ Hid (GiveOne W st.h l i wr)) (fun kk wr => l.length - (intOf kk).toNat)
  case atStart => exact ⟨0, Nat.zero_le _, rfl, HST⟩
  case round =>
    clear HST
    obtain ⟨i, hi, rfl, HX⟩ := hrel
    have k0 := HX.out.1.blk HG.out.2.1
    have k1 := HX.out.1.blk HG.out.2.2
    obtain ⟨q0, q1, q2, q3, q4, q5, q6⟩ := seven_cells k0
    obtain ⟨y0, y1, y2, y3, y4, y5, y6⟩ := seven_cells k1
    obtain ⟨f0, f1, f2, f3, f4, f5, f6⟩ := seven_frozen k1
    have m0 := heap_lt k0
    have m1 := heap_lt k1
    by_cases hlt : i < l.length
    · have hrd := HRD.out.bel (HG.out.1.trans HX.out.1)
      obtain ⟨b, o, rfl, p0⟩ := hrd.at i hlt
      have htk : l.take (i + 1) = l.take i ++ [l[i]] := List.take_succ_eq_append_getElem hlt
      have htl : (l.take i).length = i := by simp; omega
      have hmem := List.getElem_mem hlt
      obtain ⟨x, hx⟩ : ∃ x, l[i] = x := ⟨_, rfl⟩
      rw [hx] at p0 htk hmem
      have HFIND : Hid (∀ V, Bel wr V → Calls Tryz.prog 68 #[.agg #[.int .i64 (st.h.P : Int), .slice (some ⟨g, 0, none⟩) 1024 fc, .slice a st.h.S.length c, .int .i64 (st.h.last : Int)], .int .i64 x] V fun e V' => e = .returned (.int .i64 (idxF (fun s => decide (s.1 = x)) st.h.S)) ∧ Bel wr V') := Lib.hid (fun V hV => by
        obtain ⟨f, hRH, _⟩ := HR.out.heap.bel (HG.out.1.trans (HX.out.1.trans hV))
        exact (ref7_Find st.h.P g fc a st.h.S.length c st.h.last st.h.S x V rfl hRH.sp (by omega)).mono fun e V' ⟨h1, h2⟩ => ⟨h1, hV.trans h2⟩)
      have HT := Lib.hid (And.intro htk (And.intro htl (And.intro hmem hrd)))
      have hi64 : -9223372036854775808 ≤ x ∧ x ≤ 9223372036854775807 := i64_of_wf (HWF.out x hmem)
      clear hx htk hmem hrd k0 k1
      have hd : (i : Int) < l.length := by omega
      go_wp2_with fail
      rcases find_get (S := st.h.S) x with ⟨hxi, hgn⟩ | ⟨j, hj, hxi, hgs⟩
      · rw [hxi] at HFIND
        go_cut [7] (fun s7 wx => s7 = .int .i64 (-1) ∧ Bel wr wx)
        case first =>
          go_region_law (first
            | (go_simp; go_at_call 68; (with_reducible refine (HFIND.out _ ?b1).mono ?_); (case b1 => repeat (first | exact Bel.refl _ | apply Bel.drew | apply Bel.alloc)); rintro e w7 ⟨rfl, hB7⟩))
          all_goals
            go_wp2_with fail
            go_meet
            exact ⟨rfl, hB7⟩
        case rest =>
          obtain ⟨rfl, hB7⟩ := hcut
          have HB7 := Lib.hid hB7
          have HNO : Hid (st.give l = (st, 6)) := Lib.hid (by
            unfold KS.give
            rw [if_neg]
            rintro ⟨h1, _⟩
            have := h1 x HT.out.2.2.1
            rw [largeId_no hgn] at this
            cases this)
          obtain ⟨q0, q1, q2, q3, q4, q5, q6⟩ := seven_cells (hB7.blk (HX.out.1.blk HG.out.2.1))
          obtain ⟨y0, y1, y2, y3, y4, y5, y6⟩ := seven_cells (hB7.blk (HX.out.1.blk HG.out.2.2))
          obtain ⟨f0, f1, f2, f3, f4, f5, f6⟩ := seven_frozen (hB7.blk (HX.out.1.blk HG.out.2.2))
          have m2 := hB7.size
          clear hB7 hgn
          go_wp2_with fail
          go_quiet (first | (go_at_call 69; fail))
          go_wp2
          refine bodyPost_ret (v := .tuple #[kV st ⟨g, fc, a, c, ka, kc, wa, wn⟩, .int .i64 6]) (by simp [kV, kCells, results, Tryz.results44, go_sem, y0, y1, y2, y3, y4, y5, y6]) rfl ?_
          exact ⟨⟨g, fc, a, c, ka, kc, wa, wn⟩, (by rw [HNO.out] <;> rfl), (by rw [HNO.out]; exact HSAME.out _ _ _ _ _ _ _ _ _ ((HX.out.1.trans HB7.out).drewN _) rfl)⟩
      · have HJ := Lib.hid (hgs hok.nd)
        rw [hxi] at HFIND
        have hjn : (j : Int) < st.h.S.length := by omega
        have hsl2 : st.h.S.length ≤ 9223372036854775807 := by omega
        go_cut [7] (fun s7 wx => s7 = .int .i64 (j : Int) ∧ Bel wr wx)
        case first =>
          go_region_law (first
            | (go_simp; go_at_call 68; (with_reducible refine (HFIND.out _ ?b1).mono ?_); (case b1 => repeat (first | exact Bel.refl _ | apply Bel.drew | apply Bel.alloc)); rintro e w7 ⟨rfl, hB7⟩))
          all_goals
            go_wp2_with fail
            go_meet
            exact ⟨rfl, hB7⟩
        case rest =>
          obtain ⟨rfl, hB7⟩ := hcut
          have HB7 := Lib.hid hB7
          have hidj : st.h.S[j].1 = x := (getS_mem HJ.out).2
          have hlid := largeId_of hok hj
          rw [hidj] at hlid
          obtain ⟨b2, o2, rfl, w0, w1, w2, w3⟩ := (show SpansIn wc a st.h.S by obtain ⟨f, hRH, _⟩ := HR.out.heap.bel (HG.out.1.trans (HX.out.1.trans hB7)); exact hRH.sp).at j hj
          have hsp := hok.span (List.getElem_mem hj)
          have hle := hok.le
          obtain ⟨s, hs⟩ : ∃ s, st.h.S[j] = s := ⟨_, rfl⟩
          rw [hs] at w0 w1 w2 w3 hlid hsp
          obtain ⟨s1, ⟨s2, s3⟩, s4⟩ := s
          dsimp only at w0 w1 w2 w3 hlid hsp
          have hs3 : I64 s3 := ⟨by omega, by omega⟩
          have HFT : Hid (∀ nq, Calls Tryz.prog 23 #[.int .i64 s3] (wc.drewN nq) fun e V' => e = .returned (.bool (fitsF s3)) ∧ wc.drewN nq = V') := Lib.hid (fun nq => ref10_Fits s3 (wc.drewN nq) hs3)
          have HIN : Hid (∀ nq, Calls Tryz.prog 69 #[.slice (some ⟨b, o, none⟩) i ic, .int .i64 x] (wc.drewN nq) fun e w' => e = .returned (.bool (decide (x ∈ l.take i))) ∧ wc.drewN nq = w') := Lib.hid (fun nq => by
            have := ref3_In (some ⟨b, o, none⟩) (l.take i) x _ ic (wc.drewN nq) rfl (by unfold maxLen; rw [List.length_take]; omega) ((RdV.take HT.out.2.2.2 i).bel (hB7.drewN _))
            rwa [HT.out.2.1] at this)
          obtain ⟨q0, q1, q2, q3, q4, q5, q6⟩ := seven_cells (hB7.blk (HX.out.1.blk HG.out.2.1))
          obtain ⟨y0, y1, y2, y3, y4, y5, y6⟩ := seven_cells (hB7.blk (HX.out.1.blk HG.out.2.2))
          obtain ⟨f0, f1, f2, f3, f4, f5, f6⟩ := seven_frozen (hB7.blk (HX.out.1.blk HG.out.2.2))
          have p0' := hB7.cell p0
          have m2 := hB7.size
          have hic : (i : Int) ≤ ic := by omega
          have hdj : decide ((j : Int) < 0) = false := decide_eq_false (by omega)
          have HL := Lib.hid hlid.1
          clear hB7 hlid hs hidj hsp hle hs3 p0
          by_cases ho : s4 = -1
          · subst ho
            cases hfit : fitsF s3 with
            | false =>
              have HNO : Hid (st.give l = (st, 6)) := Lib.hid (by
                unfold KS.give
                rw [if_neg]
                rintro ⟨h1, _⟩
                have := h1 x HT.out.2.2.1
                rw [HL.out, hfit] at this
                simp at this)
              rw [hfit] at HFT
              clear hfit
              go_wp2_with fail
              go_quiet (first | (go_at_call 23; with_reducible refine Calls.quiet_eq10 (HFT.out _)))
              go_wp2
              refine bodyPost_ret (v := .tuple #[kV st ⟨g, fc, (some ⟨b2, o2, none⟩), c, ka, kc, wa, wn⟩, .int .i64 6]) (by simp [kV, kCells, results, Tryz.results44, go_sem, y0, y1, y2, y3, y4, y5, y6]) rfl ?_
              exact ⟨⟨g, fc, (some ⟨b2, o2, none⟩), c, ka, kc, wa, wn⟩, (by rw [HNO.out] <;> rfl), (by rw [HNO.out]; exact HSAME.out _ _ _ _ _ _ _ _ _ ((HX.out.1.trans HB7.out).drewN _) rfl)⟩
            | true =>
              rw [hfit] at HFT
              have hlx : largeId st.h x = true := by rw [HL.out, hfit]; rfl
              clear hfit
              by_cases hin : x ∈ l.take i
              · have HNO : Hid (st.give l = (st, 6)) := Lib.hid (by
                  unfold KS.give
                  rw [if_neg]
                  rintro ⟨_, h1⟩
                  have := h1.sublist (List.take_sublist (i + 1) l)
                  rw [HT.out.1] at this
                  exact (List.nodup_append.1 this).2.2 x hin x (by simp) rfl)
                simp only [decide_eq_true hin] at HIN
                clear hin hlx
                go_wp2_with fail
                go_quiet (first | (go_at_call 23; with_reducible refine Calls.quiet_eq10 (HFT.out _)) | (go_at_call 69; with_reducible refine Calls.quiet_eq10 (HIN.out _)))
                go_wp2
                refine bodyPost_ret (v := .tuple #[kV st ⟨g, fc, (some ⟨b2, o2, none⟩), c, ka, kc, wa, wn⟩, .int .i64 6]) (by simp [kV, kCells, results, Tryz.results44, go_sem, y0, y1, y2, y3, y4, y5, y6]) rfl ?_
                exact ⟨⟨g, fc, (some ⟨b2, o2, none⟩), c, ka, kc, wa, wn⟩, (by rw [HNO.out] <;> rfl), (by rw [HNO.out]; exact HSAME.out _ _ _ _ _ _ _ _ _ ((HX.out.1.trans HB7.out).drewN _) rfl)⟩
              · have HNX : Hid (∀ nq, GiveOne W st.h l (i + 1) (wc.drewN nq)) := Lib.hid (fun nq => by
                  refine ⟨(HX.out.1.trans HB7.out).drewN nq, ?_, ?_⟩
                  · rw [HT.out.1]
                    intro y hy
                    rcases List.mem_append.1 hy with hy | hy
                    · exact HX.out.2.1 y hy
                    · simp at hy; subst hy; exact hlx
                  · rw [HT.out.1, List.nodup_append]
                    exact ⟨HX.out.2.2, by simp, fun y hy z hz e => by simp at hz; subst hz; subst e; exact hin hy⟩)
                simp only [decide_eq_false hin] at HIN
                clear hin hlx
                go_wp2_with fail
                go_quiet (first | (go_at_call 23; with_reducible refine Calls.quiet_eq10 (HFT.out _)) | (go_at_call 69; with_reducible refine Calls.quiet_eq10 (HIN.out _)))
                go_wp2
                go_roundw
                case rel => exact ⟨i + 1, by omega, by go_num, HNX.out _⟩
                case measure => simp [intOf]; omega
          · have HNO : Hid (st.give l = (st, 6)) := Lib.hid (by
              unfold KS.give
              rw [if_neg]
              rintro ⟨h1, _⟩
              have := h1 x HT.out.2.2.1
              rw [HL.out] at this
              simp [ho] at this)
            have e1 : (s4 == -1) = false := by simpa using ho
            have e2 : (s4 != -1) = true := by simpa using ho
            clear ho
            go_wp2_with fail
            go_quiet (first | (go_at_call 23; fail))
            go_wp2
            refine bodyPost_ret (v := .tuple #[kV st ⟨g, fc, (some ⟨b2, o2, none⟩), c, ka, kc, wa, wn⟩, .int .i64 6]) (by simp [kV, kCells, results, Tryz.results44, go_sem, y0, y1, y2, y3, y4, y5, y6]) rfl ?_
            exact ⟨⟨g, fc, (some ⟨b2, o2, none⟩), c, ka, kc, wa, wn⟩, (by rw [HNO.out] <;> rfl), (by rw [HNO.out]; exact HSAME.out _ _ _ _ _ _ _ _ _ ((HX.out.1.trans HB7.out).drewN _) rfl)⟩
    · obtain rfl : i = l.length := by omega
      have HLI : Hid (LargeIds st.h l) := Lib.hid (by
        have h1 := HX.out.2.1
        have h2 := HX.out.2.2
        rw [List.take_length] at h1 h2
        exact ⟨h1, h2⟩)
      have HST : Hid (GiveTwo W st l 0 wr) := Lib.hid ⟨HX.out.1, by simp⟩
      clear hlt hi q0 q1 q2 q3 q4 q5 q6 y0 y1 y2 y3 y4 y5 y6 f0 f1 f2 f3 f4 f5 f6 m0 m1 HX k0 k1
      go_wp2_with fail
      go_loopw [61] (fun kk wr => ∃ i : Nat, i ≤ l.length ∧ kk = .int .i64 i ∧ Hid (GiveTwo W st l i wr)) (fun kk wr => l.length - (intOf kk).toNat)
      case atStart => exact ⟨0, Nat.zero_le _, rfl, HST⟩
      case round =>
        clear HST
        obtain ⟨i, hi, rfl, HY⟩ := hrel
        have k0 := HY.out.1.blk HG.out.2.1
        have k1 := HY.out.1.blk HG.out.2.2
        obtain ⟨q0, q1, q2, q3, q4, q5, q6⟩ := seven_cells k0
        obtain ⟨y0, y1, y2, y3, y4, y5, y6⟩ := seven_cells k1
        obtain ⟨f0, f1, f2, f3, f4, f5, f6⟩ := seven_frozen k1
        have m0 := heap_lt k0
        have m1 := heap_lt k1
        by_cases hlt : i < l.length
        · have hrd := HRD.out.bel (HG.out.1.trans HY.out.1)
          obtain ⟨b, o, rfl, p0⟩ := hrd.at i hlt
          have htk : l.take (i + 1) = l.take i ++ [l[i]] := List.take_succ_eq_append_getElem hlt
          have hmem := List.getElem_mem hlt
          obtain ⟨x, hx⟩ : ∃ x, l[i] = x := ⟨_, rfl⟩
          rw [hx] at p0 htk hmem
          have HT := Lib.hid (And.intro htk hmem)
          have HIK : Hid (∀ nq, Calls Tryz.prog 70 #[.slice ka st.kept.length kc, .int .i64 x] (wr.drewN nq) fun e w' => e = .returned (.bool (st.kept.any fun s => s.1 == x)) ∧ wr.drewN nq = w') := Lib.hid (fun nq => ref10_in ka st.kept _ kc x _ rfl (by omega) (HR.out.kept.bel (HG.out.1.trans (HY.out.1.drewN nq))))
          have HIW : Hid (∀ nq, Calls Tryz.prog 70 #[.slice wa st.waits.length wn, .int .i64 x] (wr.drewN nq) fun e w' => e = .returned (.bool (st.waits.any fun s => s.1 == x)) ∧ wr.drewN nq = w') := Lib.hid (fun nq => ref10_in wa st.waits _ wn x _ rfl (by omega) (HR.out.waits.bel (HG.out.1.trans (HY.out.1.drewN nq))))
          have hhas : st.has x = ((st.kept.any fun s => s.1 == x) || (st.waits.any fun s => s.1 == x)) := by unfold KS.has; rw [List.any_append]
          have hd : (i : Int) < l.length := by omega
          have HNO9 : st.has x = true → st.give l = (st, 9) := fun h => by
            unfold KS.give
            rw [if_pos HLI.out, if_pos (List.any_eq_true.2 ⟨x, HT.out.2, h⟩)]
          obtain ⟨qk, hqk⟩ : ∃ q, (st.kept.any fun s => s.1 == x) = q := ⟨_, rfl⟩
          obtain ⟨qw, hqw⟩ : ∃ q, (st.waits.any fun s => s.1 == x) = q := ⟨_, rfl⟩
          rw [hqk, hqw] at hhas
          rw [hqk] at HIK
          rw [hqw] at HIW
          clear hqk hqw hx htk hmem hrd k0 k1
          cases qk
          · cases qw
            · have HNX : Hid (∀ nq, GiveTwo W st l (i + 1) (wr.drewN nq)) := Lib.hid (fun nq => ⟨HY.out.1.drewN nq, by rw [HT.out.1, List.any_append, HY.out.2]; simp [hhas]⟩)
              clear hhas HNO9
              go_wp2_with fail
              go_quiet (first | (go_at_call 70; with_reducible refine Calls.quiet_eq10 (HIK.out _)) | (go_at_call 70; with_reducible refine Calls.quiet_eq10 (HIW.out _)))
              go_wp2
              go_roundw
              case rel => exact ⟨i + 1, by omega, by go_num, HNX.out _⟩
              case measure => simp [intOf]; omega
            · have HNO := Lib.hid (HNO9 hhas)
              clear hhas HNO9
              go_wp2_with fail
              go_quiet (first | (go_at_call 70; with_reducible refine Calls.quiet_eq10 (HIK.out _)) | (go_at_call 70; with_reducible refine Calls.quiet_eq10 (HIW.out _)))
              go_wp2
              refine bodyPost_ret (v := .tuple #[kV st ⟨g, fc, a, c, ka, kc, wa, wn⟩, .int .i64 9]) (by simp [kV, kCells, results, Tryz.results44, go_sem, y0, y1, y2, y3, y4, y5, y6]) rfl ?_
              exact ⟨⟨g, fc, a, c, ka, kc, wa, wn⟩, (by rw [HNO.out] <;> rfl), (by rw [HNO.out]; exact HSAME.out _ _ _ _ _ _ _ _ _ (HY.out.1.drewN _) rfl)⟩
          · have HNO := Lib.hid (HNO9 hhas)
            clear hhas HNO9
            go_wp2_with fail
            go_quiet (first | (go_at_call 70; with_reducible refine Calls.quiet_eq10 (HIK.out _)))
            go_wp2
            refine bodyPost_ret (v := .tuple #[kV st ⟨g, fc, a, c, ka, kc, wa, wn⟩, .int .i64 9]) (by simp [kV, kCells, results, Tryz.results44, go_sem, y0, y1, y2, y3, y4, y5, y6]) rfl ?_
            exact ⟨⟨g, fc, a, c, ka, kc, wa, wn⟩, (by rw [HNO.out] <;> rfl), (by rw [HNO.out]; exact HSAME.out _ _ _ _ _ _ _ _ _ (HY.out.1.drewN _) rfl)⟩
        · obtain rfl : i = l.length := by omega
          have hno : l.any st.has = false := by have := HY.out.2; rwa [List.take_length] at this
          have HGV : Hid (st.give l = ((l.map (spOf st.h)).foldl KS.give1 st, 0)) := Lib.hid (by unfold KS.give; rw [if_pos HLI.out, if_neg (by rw [hno]; simp)])
          have HSI : Hid (∀ i (h : i < l.length), ∀ h2 : i < (l.map (spOf st.h)).length, ((l.map (spOf st.h))[i]).1 = l[i]) := Lib.hid (fun i h h2 => by
            rw [List.getElem_map]
            exact (largeId_sp (HLI.out.1 _ (List.getElem_mem h))).2.1)
          have hLl : (l.map (spOf st.h)).length = l.length := by simp
          have hpend := HI.out.pend HLI.out hno
          obtain ⟨L, hL⟩ : ∃ L, l.map (spOf st.h) = L := ⟨_, rfl⟩
          rw [hL] at HGV HSI hLl hpend
          have HST : Hid (∃ k p, Give3 w B st ⟨g, fc, a, c, ka, kc, wa, wn⟩ L 0 k p wr) := Lib.hid ⟨st, ⟨g, fc, a, c, ka, kc, wa, wn⟩, rfl, k0, k1, HR.out.bel (HG.out.1.trans HY.out.1), hpend, HG.out.1.trans HY.out.1, .refl _ _ _, .refl _ _ _, .refl _ _ _,
            (fun q hq hS => by have := HR.out.heap.lt hS q hq; omega), (fun q hq hS => by have := HR.out.kept.lt hS q hq; omega), (fun q hq hS => by have := HR.out.waits.lt hS q hq; omega), rfl, Nat.le_of_eq hB⟩
          have HLl := Lib.hid hLl
          clear hlt hi q0 q1 q2 q3 q4 q5 q6 y0 y1 y2 y3 y4 y5 y6 f0 f1 f2 f3 f4 f5 f6 m0 m1 HY k0 k1 hL hpend hno HSAME hLl
          go_wp2_with fail
          go_loopw [84] (fun kk wr => ∃ i : Nat, i ≤ l.length ∧ kk = .int .i64 i ∧ Hid (∃ k p, Give3 w B st ⟨g, fc, a, c, ka, kc, wa, wn⟩ L i k p wr)) (fun kk wr => l.length - (intOf kk).toNat)
          case atStart => exact ⟨0, Nat.zero_le _, rfl, HST⟩
          case round =>
            clear HST
            obtain ⟨i, hi, rfl, HZ⟩ := hrel
            obtain ⟨k, p, H⟩ := HZ.out
            have HH := Lib.hid H
            clear HZ
            obtain ⟨g3, fc3, a3, c3, ka3, kc3, wa3, wn3⟩ := p
            have hbx := H.box
            have hbo := H.out
            simp only [kCells, k0Cells] at hbx hbo
            obtain ⟨q0, q1, q2, q3, q4, q5, q6⟩ := seven_cells hbx
            have m0 := heap_lt hbx
            have m1 := heap_lt hbo
            by_cases hlt : i < l.length
            · have hlL : i < L.length := by rw [HLl.out]; exact hlt
              obtain ⟨b, o, rfl, p0⟩ := (HRD.out.bel H.bel).at i hlt
              have hsx := HSI.out i hlt hlL
              have hdr : L.drop i = L[i] :: L.drop (i + 1) := List.drop_eq_getElem_cons hlL
              have hmem := H.pend.mem L[i] (List.mem_append_right _ (by rw [hdr]; exact List.mem_cons_self))
              have hkok := H.pend.ok
              have hk2 := hkok.count
              have hlk : k.h.last ≤ 4096 := by rw [H.last]; exact hl
              have hkk := H.pend.inv.count
              obtain ⟨x, hx⟩ : ∃ x, l[i] = x := ⟨_, rfl⟩
              rw [hx] at p0 hsx
              obtain ⟨s, hs⟩ : ∃ s, L[i] = s := ⟨_, rfl⟩
              rw [hs] at hsx hmem
              have hgs := getS_self hkok hmem.1
              rw [hsx] at hgs
              obtain ⟨j, hj, hxi, hgj⟩ : ∃ j, ∃ h : j < k.h.S.length, idxF (fun s : Sp => decide (s.1 = x)) k.h.S = j ∧ k.h.S[j] = s := by
                rcases find_get (S := k.h.S) x with ⟨_, hgn⟩ | ⟨j, hj, hxi, hg⟩
                · rw [hgs] at hgn; cases hgn
                · refine ⟨j, hj, hxi, ?_⟩
                  have := hg hkok.nd
                  rw [hgs] at this
                  exact (Option.some.inj this).symm
              have HFIND : Hid (∀ V, Bel wr V → Calls Tryz.prog 68 #[.agg #[.int .i64 (k.h.P : Int), .slice (some ⟨g3, 0, none⟩) 1024 fc3, .slice a3 k.h.S.length c3, .int .i64 (k.h.last : Int)], .int .i64 x] V fun e V' => e = .returned (.int .i64 (j : Int)) ∧ Bel wr V' ∧ Bel V V') := Lib.hid (fun V hV => by
                obtain ⟨f, hRH, _⟩ := HH.out.ref.heap.bel hV
                exact (ref7_Find k.h.P g3 fc3 a3 k.h.S.length c3 k.h.last k.h.S x V rfl hRH.sp (by omega)).mono fun e V' ⟨h1, h2⟩ => ⟨by rw [h1, hxi], hV.trans h2, h2⟩)
              obtain ⟨b2, o2, rfl, w0, w1, w2, w3⟩ := (show SpansIn wr a3 k.h.S by obtain ⟨f, hRH, _⟩ := H.ref.heap; exact hRH.sp).at j hj
              rw [hgj] at w0 w1 w2 w3
              obtain ⟨s1, ⟨s2, s3⟩, s4⟩ := s
              dsimp only at w0 w1 w2 w3 hsx
              subst hsx
              have HS := Lib.hid (And.intro hs hmem)
              have hjn : (j : Int) < k.h.S.length := by omega
              have hsl3 : k.h.S.length ≤ 9223372036854775807 := by omega
              have hd : (i : Int) < l.length := by omega
              have l20 : b2 < wr.heap.size := World.block_lt_of_cell? _ _ w0
              have l21 : b < wr.heap.size := World.block_lt_of_cell? _ _ p0
              have l22 : b2 ≠ wr.heap.size := by omega
              have l23 : wr.heap.size ≠ b2 := by omega
              have l24 : b ≠ wr.heap.size := by omega
              have l25 : wr.heap.size ≠ b := by omega
              have l26 : B ≠ wr.heap.size := by omega
              have l27 : wr.heap.size ≠ B := by omega
              have HW := Lib.hid (And.intro w0 (And.intro w1 (And.intro w2 w3)))
              have HKP : Hid (∀ V, Bel wr V → (V.cell? ⟨B, 0, none⟩ = some (.int .i64 (k.h.P : Int)) ∧ V.cell? ⟨B, 1, none⟩ = some (.slice (some ⟨g3, 0, none⟩) 1024 fc3) ∧ V.cell? ⟨B, 2, none⟩ = some (.slice (some ⟨b2, o2, none⟩) k.h.S.length c3) ∧ V.cell? ⟨B, 3, none⟩ = some (.int .i64 (k.h.last : Int)) ∧ V.cell? ⟨b, o + i, none⟩ = some (.int .i64 s1) ∧ V.cell? ⟨b2, o2 + j * 4, none⟩ = some (.int .i64 s1) ∧ V.cell? ⟨b2, o2 + j * 4 + 1, none⟩ = some (.int .i64 s2) ∧ V.cell? ⟨b2, o2 + j * 4 + 2, none⟩ = some (.int .i64 s3) ∧ V.cell? ⟨b2, o2 + j * 4 + 3, none⟩ = some (.int .i64 s4))) := Lib.hid (fun V hV => ⟨hV.cell q0, hV.cell q1, hV.cell q2, hV.cell q3, hV.cell p0, hV.cell w0, hV.cell w1, hV.cell w2, hV.cell w3⟩)
              have HF3 : Hid (∀ V, Bel wr V → Calls Tryz.prog 68 #[.agg #[.int .i64 (k.h.P : Int), .slice (some ⟨g3, 0, none⟩) 1024 fc3, .slice (some ⟨b2, o2, none⟩) k.h.S.length c3, .int .i64 (k.h.last : Int)], .int .i64 s1] V fun e V' => e = .returned (.int .i64 (j : Int)) ∧ Bel wr V' ∧ Bel V V' ∧ (V'.cell? ⟨B, 0, none⟩ = some (.int .i64 (k.h.P : Int)) ∧ V'.cell? ⟨B, 1, none⟩ = some (.slice (some ⟨g3, 0, none⟩) 1024 fc3) ∧ V'.cell? ⟨B, 2, none⟩ = some (.slice (some ⟨b2, o2, none⟩) k.h.S.length c3) ∧ V'.cell? ⟨B, 3, none⟩ = some (.int .i64 (k.h.last : Int)) ∧ V'.cell? ⟨b, o + i, none⟩ = some (.int .i64 s1) ∧ V'.cell? ⟨b2, o2 + j * 4, none⟩ = some (.int .i64 s1) ∧ V'.cell? ⟨b2, o2 + j * 4 + 1, none⟩ = some (.int .i64 s2) ∧ V'.cell? ⟨b2, o2 + j * 4 + 2, none⟩ = some (.int .i64 s3) ∧ V'.cell? ⟨b2, o2 + j * 4 + 3, none⟩ = some (.int .i64 s4))) := Lib.hid (fun V hV => (HFIND.out V hV).mono fun e V' ⟨h1, h2, h3⟩ => ⟨h1, h2, h3, HKP.out V' h2⟩)
              clear hs hmem hdr hgs hgj hxi hx H
              go_wp2_with fail
              go_cut [10] (fun s10 wx => ∃ D, s10 = .pointer (some ⟨D, 0, none⟩) ∧ wx.heap[D]? = some (.cells #[.int .i64 s1, .int .i64 s2, .int .i64 s3, .int .i64 s4] 33 (0, 0)) ∧ Bel wr wx ∧ wr.heap.size ≤ D)
              case first =>
                go_region_held3 (fun w' => w'.cell? ⟨B, 0, none⟩ = some (.int .i64 (k.h.P : Int)) ∧ w'.cell? ⟨B, 1, none⟩ = some (.slice (some ⟨g3, 0, none⟩) 1024 fc3) ∧ w'.cell? ⟨B, 2, none⟩ = some (.slice (some ⟨b2, o2, none⟩) k.h.S.length c3) ∧ w'.cell? ⟨B, 3, none⟩ = some (.int .i64 (k.h.last : Int)) ∧ w'.cell? ⟨b, o + i, none⟩ = some (.int .i64 s1) ∧ w'.cell? ⟨b2, o2 + j * 4, none⟩ = some (.int .i64 s1) ∧ w'.cell? ⟨b2, o2 + j * 4 + 1, none⟩ = some (.int .i64 s2) ∧ w'.cell? ⟨b2, o2 + j * 4 + 2, none⟩ = some (.int .i64 s3) ∧ w'.cell? ⟨b2, o2 + j * 4 + 3, none⟩ = some (.int .i64 s4))
                  (first | (with_reducible exact hS7) | (refine HKP.out _ ?_; (with_reducible (repeat (first | exact hB7 | exact Bel.refl _ | apply Bel.drew | apply Bel.alloc | apply Bel.set))); all_goals (show wr.heap.size ≤ _; first | exact Nat.le_refl _ | omega | (simp; omega))) | go_keep)
                  (first | (go_at_call 68; (with_reducible refine (HF3.out _ ?b1).mono ?_); (case b1 => repeat (first | exact Bel.refl _ | apply Bel.drew | apply Bel.alloc)); rintro e w7 ⟨rfl, hB7, hBV, hS7⟩; (have l9 : b2 < w7.heap.size := World.block_lt_of_cell? _ _ hS7.2.2.2.2.2.1); (have l10 : b2 ≠ w7.heap.size := by omega); (have l12 : B < w7.heap.size := World.block_lt_of_cell? _ _ hS7.1); (have l13 : B ≠ w7.heap.size := by omega); (have l15 : b < w7.heap.size := World.block_lt_of_cell? _ _ hS7.2.2.2.2.1); (have l16 : b ≠ w7.heap.size := by omega); try (have gnb := hBV.blk (blk_alloc _ _); have n9 := heap_lt gnb; obtain ⟨n0, n1, n2, n3⟩ := four_cells gnb; obtain ⟨e0, e1, e2, e3⟩ := four_frozen gnb)))
                · go_wp2_with fail
                  go_meet
                  exact ⟨w7.heap.size, rfl, blk_alloc _ _, hB7.alloc _, hB7.size⟩
                · go_wp2_with fail
                  go_meet
                  exact ⟨wr.heap.size, rfl, four_set gnb _ _ _ _, Fr.bel ((Fr.of_bel (S := fun j => j = wr.heap.size) hB7).trans' (fr_four _ _ _ _ _ _)) (fun k hk => by subst hk; exact Nat.le_refl _), Nat.le_refl _⟩
              case rest =>
                obtain ⟨D, rfl, hD, hBc, hDl⟩ := hcut
                have hbx2 := hBc.blk hbx
                have HC := Lib.hid (And.intro hBc (And.intro hD hbx2))
                obtain ⟨d0, d1, d2, d3⟩ := four_cells hD
                obtain ⟨r0, r1, r2, r3, r4, r5, r6⟩ := seven_cells hbx2
                obtain ⟨f0, f1, f2, f3, f4, f5, f6⟩ := seven_frozen hbx2
                have l30 := heap_lt hbx2
                have l31 := heap_lt hD
                have HWT := Lib.hid (HH.out.ref.waits.bel hBc)
                have HNIL := Lib.hid HH.out.ref.wnil
                have hwl : k.waits.length ≤ 4096 := by omega
                clear q0 q1 q2 q3 q4 q5 q6 p0 w0 w1 w2 w3 HW HKP HF3 HFIND l20 l21 l22 l23 l24 l25 l26 l27 hD hBc hbx2
                cases hhd : k.held with
                | true =>
                  have r6' : wc.cell? ⟨B, 6, none⟩ = some (.bool true) := by rw [r6, hhd]
                  clear r6
                  go_wp2_with fail
                  go_cut [] (fun wx => ∃ g2 cap, SpansIn wx (some ⟨g2, 0, none⟩) (k.waits ++ [(s1, (s2, s3), s4)]) ∧ wx.heap[B]? = some (.cells (kCells ⟨k.h, k.kept, k.waits ++ [(s1, (s2, s3), s4)], k.held⟩ ⟨g3, fc3, some ⟨b2, o2, none⟩, c3, ka3, kc3, some ⟨g2, 0, none⟩, cap⟩) 46 (0, 0)) ∧ Fr (fun j => j = B) wc wx ∧ wc.heap.size ≤ g2 ∧ k.waits.length + 1 ≤ cap)
                  case first =>
                    go_region_law (first
                      | ((refine step_app_sp rfl _ _ (by rfl) wc.heap.size _ 0 _ [] k.waits rfl (by rfl) ?o1 wa3 k.waits.length wn3 rfl (by rfl) ?o2 HNIL.out (by omega) ?o3 k.waits.length (by omega) k.waits rfl ?_); (case o1 => first | exact own_made _ _ _ _ _ (by simp) (by simp) | exact (own_made _ _ _ _ _ (by simp) (by simp)).alloc _); (case o2 => exact HWT.out.bel (by repeat (first | exact Bel.refl _ | apply Bel.drew | apply Bel.alloc))); (case o3 => simp; try omega); intro g5 cap5 w5 hown5 hgrow5 hat5; (have hB5 : Bel wc w5 := bel_row7 (by repeat (first | exact Bel.refl _ | apply Bel.drew | apply Bel.alloc)) hgrow5 (by simp; try omega)); obtain ⟨t0, t1, t2, t3⟩ := four_cells (hB5.blk HC.out.2.1))
                      | ((refine step_app_sp rfl _ _ (by rfl) wc.heap.size _ k.waits.length _ k.waits [(s1, (s2, s3), s4)] rfl (by rfl) ?o1 (some ⟨_, 0, none⟩) 1 1 rfl (by rfl) ?o2 (by rintro ⟨⟩) (by omega) ?o3 (k.waits.length + 1) (by omega) _ rfl ?_); (case o1 => first | exact hown5 | exact hown5.alloc _); (case o2 => first | exact spansIn_blk (blk_allocAt _ _ _ (by simp)) | exact spansIn_blk ((fr_row7 hgrow5).heap (blk_allocAt _ _ _ (by simp)) (by simp; try omega)) | exact spansIn_blk ((fr_row7 hgrow5).heap (blk_alloc_old _ (blk_allocAt _ _ _ (by simp))) (by simp; try omega))); (case o3 => have := hB5.size; simp; try omega); intro g6 cap6 w6 hown6 hgrow6 hat6; (have hB6 : Bel wc w6 := bel_row7 (hB5.trans (by repeat (first | exact Bel.refl _ | apply Bel.drew | apply Bel.alloc))) hgrow6 (hown5.lt _ rfl).1); (have j6 := hB6.blk HC.out.2.2); obtain ⟨c0', c1', c2', c3', c4', c5', c6'⟩ := seven_cells j6; obtain ⟨e0, e1, e2, e3, e4, e5, e6⟩ := seven_frozen j6))
                    all_goals
                      go_wp2_with fail
                      go_meet
                      obtain ⟨hs6, hz6, _, hcp6⟩ := spansIn_own hown6
                      have hset := blk_setCell j6 5 (.slice (some ⟨g6, 0, none⟩) (k.waits.length + 1) cap6)
                      exact ⟨g6, cap6, hs6.fr7 (Fr.setCell (S := fun k => k = B) (Fr.refl _ _) (.inl rfl) _) (fun p hp h9 => by cases hp; dsimp only at h9; omega), by simpa [kCells] using hset, Fr.setCell (S := fun k => k = B) (p := ⟨B, 5, none⟩) (Fr.of_bel hB6) (.inl rfl) _, hz6, hcp6⟩
                  case rest =>
                    obtain ⟨g2, cap2, hs2, gB2, hF2, hz2, hcp2⟩ := hcut
                    have HNX : Hid (∃ k p, Give3 w B st ⟨g, fc, a, c, ka, kc, wa, wn⟩ L (i + 1) k p wc) := Lib.hid (by
                      have hsL := HS.out.1
                      exact ⟨_, _, Give3.held HH.out hlL hhd HC.out.1 hF2 (by rw [hsL]; exact gB2) (by rw [hsL]; exact hs2) (Nat.le_trans HC.out.1.size hz2) hcp2⟩)
                    clear hs2 gB2 hF2 hz2 hcp2
                    go_wp2
                    go_roundw
                    case rel => exact ⟨i + 1, by omega, by go_num, HNX⟩
                    case measure => simp [intOf]; omega
                | false =>
                  have r6' : wc.cell? ⟨B, 6, none⟩ = some (.bool false) := by rw [r6, hhd]
                  have HLIST : Hid (Calls Tryz.prog 17 #[.agg #[.int .i64 (k.h.P : Int), .slice (some ⟨g3, 0, none⟩) 1024 fc3, .slice (some ⟨b2, o2, none⟩) k.h.S.length c3, .int .i64 (k.h.last : Int), .slice ka3 k.kept.length kc3, .slice wa3 k.waits.length wn3, .bool false], .int .i64 s3] wc fun e V' => ∃ a c, e = .returned (.slice a (cntK k.kept s3) c) ∧ Bel wc V') := Lib.hid (by
                    have := ref10_List (HH.out.ref.bel HC.out.1) s3 (by omega)
                    simp only [kV, kCells, hhd] at this
                    refine this.mono ?_
                    rintro e V' ⟨v, rfl, ho, hB⟩
                    obtain ⟨a, c, rfl, _, _⟩ := own_slice ho
                    exact ⟨a, c, by rw [show (keptIds k.kept s3).length = cntK k.kept s3 by unfold keptIds cntK; rw [List.length_map]], hB⟩)
                  clear r6
                  have hck : cntK k.kept s3 ≤ 9223372036854775807 := by
                    have : cntK k.kept s3 ≤ k.kept.length := by unfold cntK; exact List.length_filter_le _ _
                    omega
                  have hkl : k.kept.length ≤ 4096 := by omega
                  go_wp2_with fail
                  refine HLIST.out.mono ?_
                  clear HLIST
                  rintro e w3 ⟨a9, c9, rfl, hB3⟩
                  have hbx3 := hB3.blk HC.out.2.2
                  have hD3 := hB3.blk HC.out.2.1
                  have HC3 := Lib.hid (And.intro (HC.out.1.trans hB3) (And.intro hD3 hbx3))
                  have HKT := Lib.hid ((HH.out.ref.kept.bel HC.out.1).bel hB3)
                  have HKNIL := Lib.hid HH.out.ref.knil
                  obtain ⟨r0, r1, r2, r3, r4, r5, r6⟩ := seven_cells hbx3
                  obtain ⟨f0, f1, f2, f3, f4, f5, f6⟩ := seven_frozen hbx3
                  obtain ⟨d0, d1, d2, d3⟩ := four_cells hD3
                  have l30 := heap_lt hbx3
                  have l31 := heap_lt hD3
                  rw [hhd] at r6
                  clear hbx3 hD3 hB3 HC HWT HNIL
                  by_cases hcn : cntK k.kept s3 < 2
                  · have hcn' : (cntK k.kept s3 : Int) < 2 := by omega
                    go_wp2_with fail
                    go_cut [] (fun wx => ∃ g2 cap, SpansIn wx (some ⟨g2, 0, none⟩) (k.kept ++ [(s1, (s2, s3), s4)]) ∧ wx.heap[B]? = some (.cells (kCells ⟨k.h, k.kept ++ [(s1, (s2, s3), s4)], k.waits, k.held⟩ ⟨g3, fc3, some ⟨b2, o2, none⟩, c3, some ⟨g2, 0, none⟩, cap, wa3, wn3⟩) 46 (0, 0)) ∧ Fr (fun j => j = B) w3 wx ∧ w3.heap.size ≤ g2 ∧ k.kept.length + 1 ≤ cap)
                    case first =>
                      go_region_law (first
                        | ((refine step_app_sp rfl _ _ (by rfl) w3.heap.size _ 0 _ [] k.kept rfl (by rfl) ?o1 ka3 k.kept.length kc3 rfl (by rfl) ?o2 HKNIL.out (by omega) ?o3 k.kept.length (by omega) k.kept rfl ?_); (case o1 => first | exact own_made _ _ _ _ _ (by simp) (by simp) | exact (own_made _ _ _ _ _ (by simp) (by simp)).alloc _); (case o2 => exact HKT.out.bel (by repeat (first | exact Bel.refl _ | apply Bel.drew | apply Bel.alloc))); (case o3 => simp; try omega); intro g5 cap5 w5 hown5 hgrow5 hat5; (have hB5 : Bel w3 w5 := bel_row7 (by repeat (first | exact Bel.refl _ | apply Bel.drew | apply Bel.alloc)) hgrow5 (by simp; try omega)); obtain ⟨t0, t1, t2, t3⟩ := four_cells (hB5.blk HC3.out.2.1))
                        | ((refine step_app_sp rfl _ _ (by rfl) w3.heap.size _ k.kept.length _ k.kept [(s1, (s2, s3), s4)] rfl (by rfl) ?o1 (some ⟨_, 0, none⟩) 1 1 rfl (by rfl) ?o2 (by rintro ⟨⟩) (by omega) ?o3 (k.kept.length + 1) (by omega) _ rfl ?_); (case o1 => first | exact hown5 | exact hown5.alloc _); (case o2 => first | exact spansIn_blk (blk_allocAt _ _ _ (by simp)) | exact spansIn_blk ((fr_row7 hgrow5).heap (blk_allocAt _ _ _ (by simp)) (by simp; try omega)) | exact spansIn_blk ((fr_row7 hgrow5).heap (blk_alloc_old _ (blk_allocAt _ _ _ (by simp))) (by simp; try omega))); (case o3 => have := hB5.size; simp; try omega); intro g6 cap6 w6 hown6 hgrow6 hat6; (have hB6 : Bel w3 w6 := bel_row7 (hB5.trans (by repeat (first | exact Bel.refl _ | apply Bel.drew | apply Bel.alloc))) hgrow6 (hown5.lt _ rfl).1); (have j6 := hB6.blk HC3.out.2.2); obtain ⟨c0', c1', c2', c3', c4', c5', c6'⟩ := seven_cells j6; obtain ⟨e0, e1, e2, e3, e4, e5, e6⟩ := seven_frozen j6))
                      all_goals
                        go_wp2_with fail
                        go_meet
                        obtain ⟨hs6, hz6, _, hcp6⟩ := spansIn_own hown6
                        have hset := blk_setCell j6 4 (.slice (some ⟨g6, 0, none⟩) (k.kept.length + 1) cap6)
                        exact ⟨g6, cap6, hs6.fr7 (Fr.setCell (S := fun k => k = B) (Fr.refl _ _) (.inl rfl) _) (fun p hp h9 => by cases hp; dsimp only at h9; omega), by simpa [kCells] using hset, Fr.setCell (S := fun k => k = B) (p := ⟨B, 4, none⟩) (Fr.of_bel hB6) (.inl rfl) _, hz6, hcp6⟩
                    case rest =>
                      obtain ⟨g2, cap2, hs2, gB2, hF2, hz2, hcp2⟩ := hcut
                      have HNX : Hid (∃ k p, Give3 w B st ⟨g, fc, a, c, ka, kc, wa, wn⟩ L (i + 1) k p wc) := Lib.hid (by
                        have hsL := HS.out.1
                        exact ⟨_, _, Give3.keep HH.out hlL hhd (by rw [hsL]; exact hcn) HC3.out.1 hF2 (by rw [hsL]; exact gB2) (by rw [hsL]; exact hs2) (Nat.le_trans HC3.out.1.size hz2) hcp2⟩)
                      clear hs2 gB2 hF2 hz2 hcp2
                      go_wp2
                      go_roundw
                      case rel => exact ⟨i + 1, by omega, by go_num, HNX⟩
                      case measure => simp [intOf]; omega
                  · have hcn' : ¬ (cntK k.kept s3 : Int) < 2 := by omega
                    have HDR : Hid (∀ V b d, Bel w3 V → RdV V b (ints [s1]) → Calls Tryz.prog 71 #[.agg #[.int .i64 (k.h.P : Int), .slice (some ⟨g3, 0, none⟩) 1024 fc3, .slice (some ⟨b2, o2, none⟩) k.h.S.length c3, .int .i64 (k.h.last : Int)], .slice b 1 d] V fun e V' =>
                        ∃ h' g' fc' a' c', h' = (k.h.drop [s1]).1 ∧ e = .returned (.tuple #[.agg #[.int .i64 (h'.P : Int), .slice (some ⟨g', 0, none⟩) 1024 fc', .slice a' h'.S.length c', .int .i64 (h'.last : Int)], .int .i64 (k.h.drop [s1]).2]) ∧ GPost V (some ⟨b2, o2, none⟩) k.h.S h' g' fc' a' c' V') := Lib.hid (fun V b d hV hr => by
                      have hsp := HH.out.pend.ok.span HS.out.2.1
                      refine (refG_Drop HH.out.pend.ok (HH.out.ref.heap.bel (HC3.out.1.trans hV)) b [s1] 1 d rfl (by simp) hr (fun x hx => by simp at hx; subst hx; exact wf_i64 (by omega) (by omega)) hlk).mono ?_
                      rintro e V' ⟨g', fc', a', c', h1, h2⟩
                      exact ⟨_, g', fc', a', c', rfl, h1, h2⟩)
                    go_wp2_with fail
                    refine (HDR.out _ _ _ ((Bel.refl _).alloc _) (rdv_one (blk_alloc _ _))).mono ?_
                    rintro e w8 ⟨h8, g8, fc8, a8, c8, hh8, rfl, hP8⟩
                    have hP9 := hP8.2.1
                    have k8 := hP9.blk (blk_alloc_old (.cells #[.int .i64 s1] 3) HC3.out.2.2)
                    obtain ⟨r0, r1, r2, r3, r4, r5, r6⟩ := seven_cells k8
                    obtain ⟨f0, f1, f2, f3, f4, f5, f6⟩ := seven_frozen k8
                    have l40 := heap_lt k8
                    have HNX : Hid (∀ wx, wx = (((w8.setCell ⟨B, 0, none⟩ (.int .i64 (h8.P : Int))).setCell ⟨B, 1, none⟩ (.slice (some ⟨g8, 0, none⟩) 1024 fc8)).setCell ⟨B, 2, none⟩ (.slice a8 h8.S.length c8)).setCell ⟨B, 3, none⟩ (.int .i64 (h8.last : Int)) → ∃ k p, Give3 w B st ⟨g, fc, a, c, ka, kc, wa, wn⟩ L (i + 1) k p wx) := Lib.hid (by
                      intro wx hwx
                      have hsL := HS.out.1
                      refine ⟨_, _, Give3.drop (wc := w3.alloc (.cells #[.int .i64 s1] 3)) (w8 := w8) (g8 := g8) (fc8 := fc8) (a8 := a8) (c8 := c8) HH.out hlL hhd (by rw [hsL]; exact hcn) (HC3.out.1.alloc _) (by rw [hsL]; dsimp only; rw [← hh8]; exact hP8) (by rw [hsL]; dsimp only; rw [← hh8]; exact hwx)⟩)
                    clear hP8 hP9 k8 HDR hh8
                    go_wp2
                    go_roundw
                    case rel => exact ⟨i + 1, by omega, by go_num, Lib.hid (HNX.out _ rfl)⟩
                    case measure => simp [intOf]; omega
            · obtain rfl : i = l.length := by omega
              obtain ⟨y0, y1, y2, y3, y4, y5, y6⟩ := seven_cells hbo
              obtain ⟨f0, f1, f2, f3, f4, f5, f6⟩ := seven_frozen hbo
              have HFIN : Hid (∀ y0 y1 y2 y3 y4 y5 y6 W9, W9 = ((((((wr.setCell ⟨B + 1, 0, none⟩ y0).setCell ⟨B + 1, 1, none⟩ y1).setCell ⟨B + 1, 2, none⟩ y2).setCell ⟨B + 1, 3, none⟩ y3).setCell ⟨B + 1, 4, none⟩ y4).setCell ⟨B + 1, 5, none⟩ y5).setCell ⟨B + 1, 6, none⟩ y6 → st.give l = (k, 0) ∧ KPost w st ⟨g, fc, a, c, ka, kc, wa, wn⟩ k ⟨g3, fc3, a3, c3, ka3, kc3, wa3, wn3⟩ W9) := Lib.hid (fun y0 y1 y2 y3 y4 y5 y6 W9 e9 => by
                have hF := fr_seven wr (B + 1) y0 y1 y2 y3 y4 y5 y6
                rw [← e9] at hF
                have h9 := HH.out
                rw [← HLl.out] at h9
                obtain ⟨r1, r2⟩ := h9.fin hF
                exact ⟨by rw [HGV.out, r1], r2⟩)
              clear H hbx hbo
              go_wp2
              refine bodyPost_ret (v := .tuple #[kV k ⟨g3, fc3, a3, c3, ka3, kc3, wa3, wn3⟩, .int .i64 0]) (by simp [kV, kCells, results, Tryz.results44, go_sem, y0, y1, y2, y3, y4, y5, y6]) rfl ?_
              exact ⟨⟨g3, fc3, a3, c3, ka3, kc3, wa3, wn3⟩, (by rw [(HFIN.out (.int .i64 0) (.int .i64 0) (.int .i64 0) (.int .i64 0) (.int .i64 0) (.int .i64 0) (.int .i64 0) _ rfl).1] <;> rfl), (by rw [(HFIN.out (.int .i64 0) (.int .i64 0) (.int .i64 0) (.int .i64 0) (.int .i64 0) (.int .i64 0) (.int .i64 0) _ rfl).1]; exact (HFIN.out _ _ _ _ _ _ _ _ rfl).2)⟩
end Go.Proofs.YtbldidlbhahciaaGreat
