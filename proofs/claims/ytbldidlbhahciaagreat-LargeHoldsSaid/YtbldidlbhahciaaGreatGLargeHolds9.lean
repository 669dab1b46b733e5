/- Heap and twin together: what both walks use. A heap and its slow twin: in plain Lean. The slow twin of layer 7: Spans. The slow twin of layer 7: Drop. The slow twin of layer 7: Make. append of spans, at a step of a region that draws its order. -/
import Derived.Test.YtbldidlbhahciaaGreatGLargeHolds7
import Derived.Test.YtbldidlbhahciaaGreatGLargeHolds8
import Derived.Maps.AppendAt
import Derived.Deep.AppendLies
import Derived.Laws.AppendOwnNone
import Derived.Deep.RegionHeld3
set_option linter.unusedVariables false
set_option linter.unusedSimpArgs false
namespace Go.Proofs.YtbldidlbhahciaaGreat
open Go.RowKit

theorem SpansIn.fr7 {S : Nat → Prop} {w w' : World} {a : Option Addr} {zs : List Sp} (h : SpansIn w a zs) (k : Fr S w w') (hn : ∀ p, a = some p → ¬ S p.block) : SpansIn w' a zs := by
  rcases h with h | ⟨b, o, e, h⟩
  · exact .inl h
  · exact .inr ⟨b, o, e, fun i hi j v hv => k.cell (h i hi j v hv) (show ¬ S b from hn ⟨b, o, none⟩ e)⟩
theorem fr_row7 {w w' : World} {row : Option Nat} (h : w.grownBy w' row) : Fr (fun k => row = some k) w w' :=
  ⟨h.os, h.tape, h.output, h.size, fun k hk hn => h.block k hk (fun e => hn e.symm)⟩
theorem bel_row7 {w wi w' : World} {g : Nat} (h : Bel w wi) (hg : wi.grownBy w' (some g)) (hr : w.heap.size ≤ g) : Bel w w' :=
  Fr.bel ((Fr.of_bel (S := fun k => some g = some k) h).trans' (fr_row7 hg)) (fun k hk => by cases hk; exact hr)
theorem spansIn_own {w : World} {base g n cap : Nat} {L : List Sp} (h : w.ownsRow base 33 4 (.slice (some ⟨g, 0, none⟩) n cap) n (spCellsOf L)) : SpansIn w (some ⟨g, 0, none⟩) L ∧ base ≤ g ∧ g < w.heap.size ∧ n ≤ cap := by
  obtain ⟨a, c, e, hr, hc, _⟩ := own_slice2 h
  simp only [Value.slice.injEq] at e
  obtain ⟨rfl, _, rfl⟩ := e
  exact ⟨SpansIn.of_row hr, (h.lt g rfl).1, (h.lt g rfl).2, hc⟩
theorem blk_allocAt (w : World) (o : Obj) (k : Nat) (hk : w.heap.size = k) : (w.alloc o).heap[k]? = some o := hk ▸ blk_alloc w o
theorem own_made (w : World) (base k e size : Nat) (hk : w.heap.size = k) (hb : base ≤ k) : (w.alloc (.cells #[] e)).ownsRow base e size (.slice (some ⟨k, 0, none⟩) 0 0) 0 [] := by
  subst hk
  exact World.ownsRow_made (e := e) (size := size) w #[] 0 hb (by simp [maxLen]) (by simp)
theorem fr_four (w : World) (R : Nat) (a b c d : Value) : Fr (fun k => k = R) w ((((w.setCell ⟨R, 0, none⟩ a).setCell ⟨R, 1, none⟩ b).setCell ⟨R, 2, none⟩ c).setCell ⟨R, 3, none⟩ d) :=
  Fr.setCell (p := ⟨R, 3, none⟩) (Fr.setCell (p := ⟨R, 2, none⟩) (Fr.setCell (p := ⟨R, 1, none⟩) (Fr.setCell (p := ⟨R, 0, none⟩) (Fr.refl (fun k => k = R) w) (.inl rfl) a) (.inl rfl) b) (.inl rfl) c) (.inl rfl) d
theorem fr_eight (w : World) (R T : Nat) (a b c d a' b' c' d' : Value) : Fr (fun k => k = R ∨ k = T) w ((((((((w.setCell ⟨R, 0, none⟩ a).setCell ⟨R, 1, none⟩ b).setCell ⟨R, 2, none⟩ c).setCell ⟨R, 3, none⟩ d).setCell ⟨T, 0, none⟩ a').setCell ⟨T, 1, none⟩ b').setCell ⟨T, 2, none⟩ c').setCell ⟨T, 3, none⟩ d') :=
  ((fr_four w R a b c d).mono (fun _ h => .inl h)).trans' ((fr_four _ T a' b' c' d').mono (fun _ h => .inr h))
theorem SpansIn.take {w : World} {b o : Nat} {L : List Sp} (h : SpansIn w (some ⟨b, o, none⟩) L) (j : Nat) : SpansIn w (some ⟨b, o, none⟩) (L.take j) := by
  rcases h with rfl | ⟨b', o', e, h⟩
  · exact .inl (by simp)
  · cases e
    refine .inr ⟨b, o, rfl, fun i hi q v hv => h i (by rw [List.length_take] at hi; omega) q v ?_⟩
    rw [List.getElem_take] at hv; exact hv
theorem SpansIn.drop {w : World} {b o : Nat} {L : List Sp} (h : SpansIn w (some ⟨b, o, none⟩) L) (j : Nat) : SpansIn w (some ⟨b, o + j * 4, none⟩) (L.drop j) := by
  rcases h with rfl | ⟨b', o', e, h⟩
  · exact .inl (by simp)
  · cases e
    refine .inr ⟨b, o + j * 4, rfl, fun i hi q v hv => ?_⟩
    rw [List.length_drop] at hi
    rw [List.getElem_drop] at hv
    have := h (j + i) (by omega) q v hv
    rw [show o + (j + i) * 4 + q = o + j * 4 + i * 4 + q by omega] at this
    exact this
/-- One span in a block. -/
theorem spansIn_blk {w : World} {g : Nat} {s : Sp} {T : Nat} {fz : Nat × Nat} (h : w.heap[g]? = some (.cells #[.int .i64 s.1, .int .i64 s.2.1.1, .int .i64 s.2.1.2, .int .i64 s.2.2] T fz)) : SpansIn w (some ⟨g, 0, none⟩) [s] := by
  refine .inr ⟨g, 0, rfl, fun i hi j v hv => ?_⟩
  have : i = 0 := by simp at hi; exact hi
  subst this
  rw [show 0 + 0 * 4 + j = j by omega, blk_cell h]
  simp only [List.getElem_cons_zero, spCells] at hv
  rw [← hv]
  match j with
  | 0 => rfl
  | 1 => rfl
  | 2 => rfl
  | 3 => rfl
  | k + 4 => simp
theorem spCellsOf_append (L R : List Sp) : spCellsOf (L ++ R) = spCellsOf L ++ spCellsOf R := by simp [spCellsOf]
theorem spCellsOf_one (L : List Sp) : ∀ u ∈ spCellsOf L, u.oneCell' = true := by
  intro u hu
  simp only [spCellsOf, List.mem_flatMap, spCells] at hu
  obtain ⟨x, _, hu⟩ := hu
  simp at hu
  rcases hu with rfl | rfl | rfl | rfl <;> rfl
theorem SpansIn.news {w : World} {ad : Addr} {R : List Sp} (h : SpansIn w (some ad) R) : ∀ j u, (spCellsOf R)[j]? = some u → w.cell? (ad.add j) = some u := by
  intro j u hj
  rcases h with rfl | ⟨b, o, e, h⟩
  · simp [spCellsOf] at hj
  · cases e
    have hl := spCellsOf_length R
    obtain ⟨hlt, _⟩ := List.getElem?_eq_some_iff.1 hj
    have hi : j / 4 < R.length := by omega
    have h2 := spCellsOf_get R (j / 4) hi (j % 4) (by omega)
    rw [show j / 4 * 4 + j % 4 = j by omega, hj] at h2
    have := h (j / 4) hi (j % 4) u h2.symm
    rw [show o + j / 4 * 4 + j % 4 = o + j by omega] at this
    rw [addr_add]
    exact this
/-- append of spans to spans that are one's own, and not nil. -/
theorem run_app_sp {w : World} (ty : TypeId) (base g0 c0 : Nat) (L R : List Sp) (hown : w.ownsRow base 33 4 (.slice (some ⟨g0, 0, none⟩) L.length c0) L.length (spCellsOf L))
    (ao : Option Addr) (c : Nat) (hr : SpansIn w ao R) (hnone : ao = none → R = [] ∧ c = 0) (hlen : L.length + R.length ≤ 65536) (hbase : base ≤ w.heap.size) :
    ∃ g cap w', (Builtin.append_ #[42, 42] ty #[.slice (some ⟨g0, 0, none⟩) L.length c0, .slice ao R.length c]).run Tryz.prog w = .ok (.slice (some ⟨g, 0, none⟩) (L ++ R).length cap) w' ∧
      w'.ownsRow base 33 4 (.slice (some ⟨g, 0, none⟩) (L ++ R).length cap) (L ++ R).length (spCellsOf (L ++ R)) ∧ w.grownBy w' (some g0) ∧ (g = g0 ∨ g = w.heap.size) := by
  obtain ⟨i0, hi0, hz0, hz1, hz2⟩ := info_parts info_span
  cases ao with
  | none =>
    obtain ⟨rfl, rfl⟩ := hnone rfl
    have := run_append_owned_none (P := Tryz.prog) (w := w) base 42 ty 33 i0 4 Tryz.underlying42 hi0 _ _ _ hown
    exact ⟨g0, c0, w, by simpa using this, by simpa using hown, World.grownBy.refl _ _, .inl rfl⟩
  | some ad =>
    obtain ⟨v', w', h1, h2, h3, h4, h5⟩ := run_append_own_at (P := Tryz.prog) w base 42 ty 33 i0 (.agg #[.int .i64 0, .int .i64 0, .int .i64 0, .int .i64 0]) 4 32 Tryz.underlying42 hi0 hz0 hz1 hz2 rfl (by decide)
      _ _ _ hown ad R.length c (spCellsOf R) (spCellsOf_length R) hr.news (spCellsOf_one R) (by unfold maxLen; omega) (by omega) hbase
    rw [← spCellsOf_append, ← List.length_append] at h2
    rcases h2.2 with ⟨h9, _⟩ | ⟨g, cap, cur, h9, _⟩
    · rw [h9] at h4
      have := h4.1 rfl
      simp at this
    · subst h9
      refine ⟨g, cap, w', h1, h2, h3, ?_⟩
      rcases h5 with h5 | h5
      · left; simpa [Value.ownBlock] using h5
      · right; simpa [Value.ownBlock] using h5
theorem step_app_sp {w : World} {ops : Array Oper} {o : Oper} {a : Act} {K : Act → World → Prop} {Q : Exit → Act → World → Prop} {E : Prop} (hgd : o.guard = none) (s x : Operand)
    (ho : o.op = .call { callee := .builtin .append, args := #[s, x], argTypes := #[42, 42] }) (base g0 n c0 : Nat) (L R : List Sp) (hL : L.length = n) (hs : a.eval s = .slice (some ⟨g0, 0, none⟩) n c0)
    (hown : w.ownsRow base 33 4 (.slice (some ⟨g0, 0, none⟩) n c0) n (spCellsOf L))
    (ao : Option Addr) (m c : Nat) (hm : R.length = m) (hx : a.eval x = .slice ao m c) (hr : SpansIn w ao R) (hnone : ao = none → R = [] ∧ c = 0) (hlen : n + m ≤ 65536) (hbase : base ≤ w.heap.size) (k : Nat) (hk : n + m = k) (LR : List Sp) (hLR : L ++ R = LR)
    (h : ∀ g cap w', w'.ownsRow base 33 4 (.slice (some ⟨g, 0, none⟩) k cap) k (spCellsOf LR) → w.grownBy w' (some g0) → (g = g0 ∨ g = w.heap.size) → K (a.put o.dst (.slice (some ⟨g, 0, none⟩) k cap)) w') :
    if Region.wanted o (yielded ops a.tmps) = true then Oper.wp Tryz.prog o a w K Q else E := by
  subst hL hm hk hLR
  have hw : Region.wanted o (yielded ops a.tmps) = true := by simp [Region.wanted, hgd]
  rw [if_pos hw]
  obtain ⟨g, cap, w', h1, h2, h3, h4⟩ := run_app_sp (w := w) o.type base g0 c0 L R hown ao c hr hnone hlen hbase
  rw [List.length_append] at h1 h2
  unfold Oper.wp execOp
  simp only [ho, resolve, invoke, builtin, Sem.run_bind, Sem.run_pure, Result.andThen_ok, List.map_toArray, List.map_cons, List.map_nil, hs, hx, h1]
  exact h g cap w' h2 h3 h4
theorem wpList_app_sp {w : World} {ops : Array Oper} {rest : List Oper} {o : Oper} {a : Act} {Q : Exit → Act → World → Prop} (hgd : o.guard = none) (s x : Operand)
    (ho : o.op = .call { callee := .builtin .append, args := #[s, x], argTypes := #[42, 42] }) (base g0 n c0 : Nat) (L R : List Sp) (hL : L.length = n) (hs : a.eval s = .slice (some ⟨g0, 0, none⟩) n c0)
    (hown : w.ownsRow base 33 4 (.slice (some ⟨g0, 0, none⟩) n c0) n (spCellsOf L))
    (ao : Option Addr) (m c : Nat) (hm : R.length = m) (hx : a.eval x = .slice ao m c) (hr : SpansIn w ao R) (hnone : ao = none → R = [] ∧ c = 0) (hlen : n + m ≤ 65536) (hbase : base ≤ w.heap.size) (k : Nat) (hk : n + m = k) (LR : List Sp) (hLR : L ++ R = LR)
    (h : ∀ g cap w', w'.ownsRow base 33 4 (.slice (some ⟨g, 0, none⟩) k cap) k (spCellsOf LR) → w.grownBy w' (some g0) → (g = g0 ∨ g = w.heap.size) → wpList Tryz.prog ops Q rest (a.put o.dst (.slice (some ⟨g, 0, none⟩) k cap)) w') :
    wpList Tryz.prog ops Q (o :: rest) a w := by
  subst hL hm hk hLR
  refine wpList_plain hgd fun K hK => ?_
  obtain ⟨g, cap, w', h1, h2, h3, h4⟩ := run_app_sp (w := w) o.type base g0 c0 L R hown ao c hr hnone hlen hbase
  rw [List.length_append] at h1 h2
  unfold Oper.wp execOp
  simp only [ho, resolve, invoke, builtin, Sem.run_bind, Sem.run_pure, Result.andThen_ok, List.map_toArray, List.map_cons, List.map_nil, hs, hx, h1]
  exact hK _ _ (h g cap w' h2 h3 h4)
end Go.Proofs.YtbldidlbhahciaaGreat

namespace Go.Proofs.YtbldidlbhahciaaGreat
open Go.RowKit

set_option maxHeartbeats 1000000 in
set_option maxRecDepth 20000 in
theorem ref7_Make_bad (P g fc : Nat) (a : Option Addr) (n c : Nat) (last : Nat) (m ord : Int) (w : World) (hm : I64 m) (ho : I64 ord) (h : m < 1 ∨ ord < -1 ∨ 4 ≤ ord) :
    Calls Tryz.prog 47 #[hV P g fc a n c last, .int .i64 m, .int .i64 ord] w fun e w' => e = .returned (.tuple #[hV P g fc a n c last, spV sp0, .int .i64 1]) ∧ Bel w w' := by
  unfold hV
  have g1 := blk_alloc_old (.cells #[.int .i64 0, .int .i64 0, .int .i64 0, .int .i64 0] 33) (blk_alloc (w.alloc (.cells #[.int .i64 P, .slice (some ⟨g, 0, none⟩) 1024 fc, .slice a n c, .int .i64 last] 44)) (.cells #[.int .i64 P, .slice (some ⟨g, 0, none⟩) 1024 fc, .slice a n c, .int .i64 last] 44))
  have g2 := blk_alloc ((w.alloc (.cells #[.int .i64 P, .slice (some ⟨g, 0, none⟩) 1024 fc, .slice a n c, .int .i64 last] 44)).alloc (.cells #[.int .i64 P, .slice (some ⟨g, 0, none⟩) 1024 fc, .slice a n c, .int .i64 last] 44)) (.cells #[.int .i64 0, .int .i64 0, .int .i64 0, .int .i64 0] 33)
  simp only [World.size_alloc] at g1 g2
  have HE := Lib.hid (And.intro g1 (And.intro g2 ((((Bel.refl w).alloc (.cells #[.int .i64 P, .slice (some ⟨g, 0, none⟩) 1024 fc, .slice a n c, .int .i64 last] 44)).alloc (.cells #[.int .i64 P, .slice (some ⟨g, 0, none⟩) 1024 fc, .slice a n c, .int .i64 last] 44)).alloc (.cells #[.int .i64 0, .int .i64 0, .int .i64 0, .int .i64 0] 33))))
  clear g1 g2
  have hc : m < 1 ∨ (¬ m < 1 ∧ ord < -1) ∨ (¬ m < 1 ∧ ¬ ord < -1 ∧ 3 < ord) := by omega
  rcases hc with c1 | ⟨c1, c2⟩ | ⟨c1, c2, c3⟩
  all_goals
    go_enter Tryz.func47, Tryz.ntmps47
    go_wp2
    generalize ((w.alloc (.cells #[.int .i64 P, .slice (some ⟨g, 0, none⟩) 1024 fc, .slice a n c, .int .i64 last] 44)).alloc (.cells #[.int .i64 P, .slice (some ⟨g, 0, none⟩) 1024 fc, .slice a n c, .int .i64 last] 44)).alloc (.cells #[.int .i64 0, .int .i64 0, .int .i64 0, .int .i64 0] 33) = W9 at HE ⊢
    obtain ⟨r0, r1, r2, r3⟩ := four_cells HE.out.1
    obtain ⟨s0, s1, s2, s3⟩ := four_cells HE.out.2.1
    refine bodyPost_ret (v := .tuple #[.agg #[.int .i64 P, .slice (some ⟨g, 0, none⟩) 1024 fc, .slice a n c, .int .i64 last], spV sp0, .int .i64 1]) (by simp [spV, sp0, results, Tryz.results47, go_sem, r0, r1, r2, r3, s0, s1, s2, s3]) rfl ?_
    exact ⟨rfl, HE.out.2.2⟩
/-- Behind the append. -/
def MakeMid (wx w3 : World) (P g' fc' last : Nat) (B : Nat) (S : List Sp) (s : Sp) : Prop :=
  ∃ g2 cap, SpansIn wx (some ⟨g2, 0, none⟩) (S ++ [s]) ∧ wx.heap[B]? = some (.cells #[.int .i64 P, .slice (some ⟨g', 0, none⟩) 1024 fc', .slice (some ⟨g2, 0, none⟩) (S.length + 1) cap, .int .i64 ((last : Int) + 1)] 44 (0, 0)) ∧ Fr (fun k => k = B) w3 wx ∧ w3.heap.size ≤ g2 ∧ S.length + 1 ≤ cap
/-- What Make leaves. -/
def MakeP (P g fc : Nat) (a : Option Addr) (n c : Nat) (last : Nat) (f : Int → Bool) (S : List Sp) (m ord t len : Int) (w : World) (e : Ending) (w' : World) : Prop :=
  (¬ 0 < len ∧ e = .returned (.tuple #[hV P g fc a n c last, spV sp0, .int .i64 3]) ∧ Bel w w') ∨
  (0 < len ∧ ∃ g' fc' a' c', e = .returned (.tuple #[hV P g' fc' a' (S.length + 1) c' (last + 1), spV ((last : Int) + 1, (t, m), ord), .int .i64 0]) ∧
    RefH w' g' fc' (putB f [(t, m)] false).1 a' c' (S ++ [((last : Int) + 1, (t, m), ord)]) ∧ Bel w w' ∧ ∃ p, a' = some p ∧ w.heap.size ≤ p.block)
set_option maxHeartbeats 4000000 in
set_option maxRecDepth 20000 in
theorem ref7_Make (P g fc : Nat) (a : Option Addr) (n c : Nat) (last : Nat) (f : Int → Bool) (S : List Sp) (m ord : Int) (w : World) (hn : n = S.length) (H : RefH w g fc f a c S) (hl : S.length ≤ 4096) (hlast : last ≤ 65536) (hm : I64 m) (ho : I64 ord) (h : ¬ (m < 1 ∨ ord < -1 ∨ 4 ≤ ord)) :
    Calls Tryz.prog 47 #[hV P g fc a n c last, .int .i64 m, .int .i64 ord] w fun e w' =>
      MakeP P g fc a S.length c last f S m ord (bestF (listP f) m).1 (bestF (listP f) m).2 w e w' := by
  subst hn
  unfold hV
  have c1 : ¬ m < 1 := by omega
  have c2 : ¬ ord < -1 := by omega
  have c3 : ¬ 3 < ord := by omega
  clear h
  obtain ⟨t, ht⟩ : ∃ t, (bestF (listP f) m).1 = t := ⟨_, rfl⟩
  obtain ⟨len, hlen⟩ : ∃ len, (bestF (listP f) m).2 = len := ⟨_, rfl⟩
  rw [ht, hlen]
  have g0 := blk_alloc_old (.cells #[.int .i64 0, .int .i64 0, .int .i64 0, .int .i64 0] 33) (blk_alloc_old (.cells #[.int .i64 0, .slice none 0 0, .slice none 0 0, .int .i64 0] 44) (blk_alloc w (.cells #[.int .i64 P, .slice (some ⟨g, 0, none⟩) 1024 fc, .slice a S.length c, .int .i64 last] 44)))
  have g1 := blk_alloc_old (.cells #[.int .i64 0, .int .i64 0, .int .i64 0, .int .i64 0] 33) (blk_alloc (w.alloc (.cells #[.int .i64 P, .slice (some ⟨g, 0, none⟩) 1024 fc, .slice a S.length c, .int .i64 last] 44)) (.cells #[.int .i64 0, .slice none 0 0, .slice none 0 0, .int .i64 0] 44))
  have g2 := blk_alloc ((w.alloc (.cells #[.int .i64 P, .slice (some ⟨g, 0, none⟩) 1024 fc, .slice a S.length c, .int .i64 last] 44)).alloc (.cells #[.int .i64 0, .slice none 0 0, .slice none 0 0, .int .i64 0] 44)) (.cells #[.int .i64 0, .int .i64 0, .int .i64 0, .int .i64 0] 33)
  have hb0 := ((((Bel.refl w).alloc (.cells #[.int .i64 P, .slice (some ⟨g, 0, none⟩) 1024 fc, .slice a S.length c, .int .i64 last] 44)).alloc (.cells #[.int .i64 0, .slice none 0 0, .slice none 0 0, .int .i64 0] 44)).alloc (.cells #[.int .i64 0, .int .i64 0, .int .i64 0, .int .i64 0] 33))
  simp only [World.size_alloc] at g1 g2
  go_enter Tryz.func47, Tryz.ntmps47
  go_wp2_with fail
  generalize ((w.alloc (.cells #[.int .i64 P, .slice (some ⟨g, 0, none⟩) 1024 fc, .slice a S.length c, .int .i64 last] 44)).alloc (.cells #[.int .i64 0, .slice none 0 0, .slice none 0 0, .int .i64 0] 44)).alloc (.cells #[.int .i64 0, .int .i64 0, .int .i64 0, .int .i64 0] 33) = W0 at g0 g1 g2 hb0 ⊢
  obtain ⟨B, hB⟩ : ∃ B, w.heap.size = B := ⟨_, rfl⟩
  rw [hB] at g0 g1 g2 ⊢
  have H0 := H.bel hb0
  have HBEST := ref6_Best _ f m W0 H0.bits.1 hm
  rw [ht, hlen] at HBEST
  have HBS := Lib.hid HBEST
  have ht64 : I64 t := by
    rw [← ht]
    rcases best_or (listP f) m (listP_canon f) with ⟨h9, _⟩ | ⟨_, _, _, _, h9, _⟩
    · rw [h9]; exact ⟨by decide, by decide⟩
    · have := there_iff.1 h9; dsimp only at this; exact ⟨by omega, by omega⟩
  have HH0 := Lib.hid H0
  have HSW := Lib.hid H.sp
  have HB0 := Lib.hid hb0
  have HG := Lib.hid (And.intro g0 (And.intro g1 g2))
  clear HBEST H H0 hb0 ht hlen g0 g1 g2
  refine HBS.out.mono ?_
  clear HBS
  rintro e w1 ⟨rfl, hB1⟩
  have g0 := hB1.blk HG.out.1
  have g1 := hB1.blk HG.out.2.1
  have g2 := hB1.blk HG.out.2.2
  have HH1 := Lib.hid (HH0.out.bel hB1)
  have HB1 := Lib.hid (HB0.out.trans hB1)
  clear hB1 HH0 HB0 HG
  have l0 := heap_lt g0
  have l1 := heap_lt g1
  have l2 := heap_lt g2
  obtain ⟨p0, p1, p2, p3⟩ := four_cells g0
  by_cases hok : 0 < len
  · have e1 : decide (0 < len) = true := decide_eq_true hok
    rw [e1]
    have HOK := Lib.hid hok
    obtain ⟨b2, hb2⟩ : ∃ b2, w1.heap.size = b2 := ⟨_, rfl⟩
    have hr0 := blk_alloc w1 (.cells #[.int .i64 t, .int .i64 m] 31)
    have ha1 := (Bel.refl w1).alloc (.cells #[.int .i64 t, .int .i64 m] 31)
    have hz := (Bel.refl (w1.alloc (.cells #[.int .i64 t, .int .i64 m] 31))).alloc (.cells #[.int .i64 t, .int .i64 m] 31)
    have HPUT := Lib.hid (ref6_Put _ f (some ⟨(w1.alloc (.cells #[.int .i64 t, .int .i64 m] 31)).heap.size, 0, none⟩) [(t, m)] 1 1 false _ rfl (by simp) (HH1.out.bits.bel (ha1.trans hz)) (RunsIn.of_row (RdV.new (w1.alloc (.cells #[.int .i64 t, .int .i64 m] 31)) #[.int .i64 t, .int .i64 m] 31)) (by intro r hr; simp at hr; subst hr; exact ⟨ht64, hm⟩))
    rw [World.size_alloc] at HPUT
    rw [hb2] at HPUT hr0 l0 l1 l2
    have HA := Lib.hid (ha1.trans hz)
    have HR0 := Lib.hid (blk_alloc_old (.cells #[.int .i64 t, .int .i64 m] 31) hr0)
    clear ha1 hz hr0
    go_wp2_with fail
    refine HPUT.out.mono ?_
    rintro e w2 ⟨fv, rfl, hO2, hB2⟩
    obtain ⟨g', fc', rfl⟩ := hO2.form
    have hB2' := HA.out.trans hB2
    have n1 : b2 ≠ B := by omega
    have n2 : b2 ≠ B + 1 := by omega
    have n3 : b2 ≠ B + 1 + 1 := by omega
    have k0 := hB2'.blk g0
    have k1 := hB2'.blk g1
    have k2 := hB2'.blk g2
    have k3 := hB2.blk HR0.out
    have HSP := Lib.hid (HH1.out.sp.bel hB2')
    have HNIL := Lib.hid HH1.out.nil
    have HBT := Lib.hid (And.intro hO2 (HB1.out.trans hB2'))
    clear hO2 hB2 hB2' HA HR0 HH1 HPUT g0 g1 g2 p0 p1 p2 p3 l0 l1 l2
    obtain ⟨p0, p1, p2, p3⟩ := four_cells k0
    obtain ⟨f0, f1, f2, f3⟩ := four_frozen k0
    obtain ⟨y0, y1⟩ := two_cells k3
    have l0 := heap_lt k0
    have l1 := heap_lt k1
    have l2 := heap_lt k2
    have l3 := heap_lt k3
    have z1 : IntKind.i64.wrap ((last : Int) + 1) = (last : Int) + 1 := IntWalk.i64_in _ (by omega)
    go_wp2_with fail
    have k0' : ((w2.setCell ⟨B, 1, none⟩ (.slice (some ⟨g', 0, none⟩) 1024 fc')).setCell ⟨B, 3, none⟩ (.int .i64 ((last : Int) + 1))).heap[B]? = some (.cells #[.int .i64 P, .slice (some ⟨g', 0, none⟩) 1024 fc', .slice a S.length c, .int .i64 ((last : Int) + 1)] 44 (0, 0)) := by
      have := blk_setCell (blk_setCell k0 1 (.slice (some ⟨g', 0, none⟩) 1024 fc')) 3 (.int .i64 ((last : Int) + 1))
      simpa using this
    have k1' := blk_setCell_other (p := ⟨B, 3, none⟩) (blk_setCell_other (p := ⟨B, 1, none⟩) k1 (by simp) (.slice (some ⟨g', 0, none⟩) 1024 fc')) (by simp) (.int .i64 ((last : Int) + 1))
    have k2' := blk_setCell_other (p := ⟨B, 3, none⟩) (blk_setCell_other (p := ⟨B, 1, none⟩) k2 (by show B + 1 + 1 ≠ B; omega) (.slice (some ⟨g', 0, none⟩) 1024 fc')) (by show B + 1 + 1 ≠ B; omega) (.int .i64 ((last : Int) + 1))
    have hBw3 := (Bel.set (p := ⟨B, 3, none⟩) (Bel.set (p := ⟨B, 1, none⟩) HBT.out.2 (by show w.heap.size ≤ B; omega) (.slice (some ⟨g', 0, none⟩) 1024 fc')) (by show w.heap.size ≤ B; omega) (.int .i64 ((last : Int) + 1))).alloc (.cells #[.int .i64 ((last : Int) + 1), .int .i64 t, .int .i64 m, .int .i64 ord] 33)
    have hO3 := (HBT.out.1.fr (S := fun k => k = B) (Fr.setCell (p := ⟨B, 3, none⟩) (Fr.setCell (p := ⟨B, 1, none⟩) (Fr.refl (fun k => k = B) w2) (.inl rfl) (.slice (some ⟨g', 0, none⟩) 1024 fc')) (.inl rfl) (.int .i64 ((last : Int) + 1))) (fun g9 cur hg e => by rw [e, k0] at hg; simp at hg)).bel ((Bel.refl _).alloc (.cells #[.int .i64 ((last : Int) + 1), .int .i64 t, .int .i64 m, .int .i64 ord] 33))
    have j0 := blk_alloc_old (.cells #[.int .i64 ((last : Int) + 1), .int .i64 t, .int .i64 m, .int .i64 ord] 33) k0'
    have j1 := blk_alloc_old (.cells #[.int .i64 ((last : Int) + 1), .int .i64 t, .int .i64 m, .int .i64 ord] 33) k1'
    have j2 := blk_alloc_old (.cells #[.int .i64 ((last : Int) + 1), .int .i64 t, .int .i64 m, .int .i64 ord] 33) k2'
    have j3 := blk_alloc ((w2.setCell ⟨B, 1, none⟩ (.slice (some ⟨g', 0, none⟩) 1024 fc')).setCell ⟨B, 3, none⟩ (.int .i64 ((last : Int) + 1))) (.cells #[.int .i64 ((last : Int) + 1), .int .i64 t, .int .i64 m, .int .i64 ord] 33)
    rw [World.size_setCell, World.size_setCell] at j3
    generalize ((w2.setCell ⟨B, 1, none⟩ (.slice (some ⟨g', 0, none⟩) 1024 fc')).setCell ⟨B, 3, none⟩ (.int .i64 ((last : Int) + 1))).alloc (.cells #[.int .i64 ((last : Int) + 1), .int .i64 t, .int .i64 m, .int .i64 ord] 33) = w3 at j0 j1 j2 j3 hO3 hBw3 ⊢
    obtain ⟨b3, hb3⟩ : ∃ b3, w2.heap.size = b3 := ⟨_, rfl⟩
    rw [hb3] at j3 l0 l1 l2 ⊢
    have HS3 := Lib.hid (HSW.out.bel hBw3)
    have HO3 := Lib.hid (And.intro hO3 hBw3)
    have HJ := Lib.hid (And.intro j1 j2)
    clear k0 k1 k2 k3 k0' k1' k2' p0 p1 p2 p3 f0 f1 f2 f3 y0 y1 l3 hO3 hBw3 HBT HSP j1 j2
    obtain ⟨p0, p1, p2, p3⟩ := four_cells j0
    obtain ⟨f0, f1, f2, f3⟩ := four_frozen j0
    obtain ⟨y0, y1, y2, y3⟩ := four_cells j3
    have l4 := heap_lt j0
    have l5 := heap_lt j3
    go_cut [] (fun wx => MakeMid wx w3 P g' fc' last B S ((last : Int) + 1, (t, m), ord))
    case first =>
      go_region_law (first
        | ((refine step_app_sp rfl _ _ (by rfl) w3.heap.size _ 0 _ [] S rfl (by rfl) ?o1 a S.length c rfl (by rfl) ?o2 HNIL.out (by omega) ?o3 S.length (by omega) S rfl ?_); (case o1 => first | exact own_made _ _ _ _ _ (by simp) (by simp) | exact (own_made _ _ _ _ _ (by simp) (by simp)).alloc _); (case o2 => exact HS3.out.bel (by repeat (first | exact Bel.refl _ | apply Bel.drew | apply Bel.alloc))); (case o3 => simp; try omega); intro g5 cap5 w5 hown5 hgrow5 hat5; (have hB5 : Bel w3 w5 := bel_row7 (by repeat (first | exact Bel.refl _ | apply Bel.drew | apply Bel.alloc)) hgrow5 (by simp; try omega)); obtain ⟨t0, t1, t2, t3⟩ := four_cells (hB5.blk j3))
        | ((refine step_app_sp rfl _ _ (by rfl) w3.heap.size _ S.length _ S [((last : Int) + 1, (t, m), ord)] rfl (by rfl) ?o1 (some ⟨_, 0, none⟩) 1 1 rfl (by rfl) ?o2 (by rintro ⟨⟩) (by omega) ?o3 (S.length + 1) (by omega) _ rfl ?_); (case o1 => first | exact hown5 | exact hown5.alloc _); (case o2 => first | exact spansIn_blk (blk_allocAt _ _ _ (by simp)) | exact spansIn_blk ((fr_row7 hgrow5).heap (blk_allocAt _ _ _ (by simp)) (by simp; try omega)) | exact spansIn_blk ((fr_row7 hgrow5).heap (blk_alloc_old _ (blk_allocAt _ _ _ (by simp))) (by simp; try omega))); (case o3 => have := hB5.size; simp; try omega); intro g6 cap6 w6 hown6 hgrow6 hat6; (have hB6 : Bel w3 w6 := bel_row7 (hB5.trans (by repeat (first | exact Bel.refl _ | apply Bel.drew | apply Bel.alloc))) hgrow6 (hown5.lt _ rfl).1); (have j6 := hB6.blk j0); obtain ⟨c0, c1, c2, c3⟩ := four_cells j6; obtain ⟨d0, d1, d2, d3⟩ := four_frozen j6))
      all_goals
        go_wp2_with fail
        go_meet
        obtain ⟨hs6, hz6, _, hcp6⟩ := spansIn_own hown6
        have hset := blk_setCell j6 2 (.slice (some ⟨g6, 0, none⟩) (S.length + 1) cap6)
        exact ⟨g6, cap6, hs6.fr7 (Fr.setCell (S := fun k => k = B) (Fr.refl _ _) (.inl rfl) _) (fun p hp h9 => by cases hp; dsimp only at h9; omega), by simpa using hset, Fr.setCell (S := fun k => k = B) (p := ⟨B, 2, none⟩) (Fr.of_bel hB6) (.inl rfl) _, hz6, hcp6⟩
    case rest =>
      obtain ⟨g2, cap2, hs2, gB, hF2, hz2, hcp2⟩ := hcut
      have m1 := heap_lt HJ.out.1
      have m2 := heap_lt HJ.out.2
      have q1 := hF2.heap HJ.out.1 (by show ¬ B + 1 = B; omega)
      have q2 := hF2.heap HJ.out.2 (by show ¬ B + 1 + 1 = B; omega)
      have q3 := hF2.heap j3 (by omega)
      have hBw := Fr.bel ((Fr.of_bel (S := fun k => k = B) HO3.out.2).trans' hF2) (fun k hk => by subst hk; omega)
      have hO2 := HO3.out.1.fr hF2 (fun g9 cur hg e => by rw [e, j0] at hg; simp at hg)
      have hfin : ∀ x0 x1 x2 x3 z0 z1 z2 z3 W9, W9 = ((((((((wc.setCell ⟨B + 1, 0, none⟩ x0).setCell ⟨B + 1, 1, none⟩ x1).setCell ⟨B + 1, 2, none⟩ x2).setCell ⟨B + 1, 3, none⟩ x3).setCell ⟨B + 1 + 1, 0, none⟩ z0).setCell ⟨B + 1 + 1, 1, none⟩ z1).setCell ⟨B + 1 + 1, 2, none⟩ z2).setCell ⟨B + 1 + 1, 3, none⟩ z3).drew →
          RefH W9 g' fc' (putB f [(t, m)] false).1 (some ⟨g2, 0, none⟩) cap2 (S ++ [((last : Int) + 1, (t, m), ord)]) ∧ Bel w W9 ∧ ∃ p, some (⟨g2, 0, none⟩ : Addr) = some p ∧ w.heap.size ≤ p.block := fun x0 x1 x2 x3 z0 z1 z2 z3 W9 e9 => by
        have hF := (fr_eight wc (B + 1) (B + 1 + 1) x0 x1 x2 x3 z0 z1 z2 z3).drew
        rw [← e9] at hF
        refine ⟨⟨hO2.fr hF (fun g9 cur hg e => ?_), hs2.fr7 hF (fun p hp e => ?_), by rintro ⟨⟩, by simpa using hcp2⟩, Fr.bel ((Fr.of_bel hBw).trans' hF) (fun k hk => by rcases hk with hk | hk <;> (subst hk; omega)), _, rfl, by show w.heap.size ≤ g2; have := HO3.out.2.size; omega⟩
        · rcases e with e | e
          · rw [e, q1] at hg; simp at hg
          · rw [e, q2] at hg; simp at hg
        · cases hp
          dsimp only at e
          omega
      have HFIN := Lib.hid hfin
      obtain ⟨c0, c1, c2, c3⟩ := four_cells gB
      obtain ⟨x0, x1, x2, x3⟩ := four_cells q1
      obtain ⟨f0, f1, f2, f3⟩ := four_frozen q1
      obtain ⟨y0, y1, y2, y3⟩ := four_cells q2
      obtain ⟨h0, h1, h2, h3⟩ := four_frozen q2
      obtain ⟨t0, t1, t2, t3⟩ := four_cells q3
      clear hfin hO2 hBw hs2 hF2 HJ HO3 HS3 HNIL
      go_wp2_with fail
      go_region
      go_wp2
      refine bodyPost_ret (v := .tuple #[hV P g' fc' (some ⟨g2, 0, none⟩) (S.length + 1) cap2 (last + 1), spV ((last : Int) + 1, (t, m), ord), .int .i64 0]) (by simp [hV, spV, results, Tryz.results47, go_sem, x0, x1, x2, x3, y0, y1, y2, y3]) rfl ?_
      exact Or.inr ⟨HOK.out, g', fc', _, cap2, rfl, HFIN.out _ _ _ _ _ _ _ _ _ rfl⟩
  · have e1 : decide (0 < len) = false := decide_eq_false hok
    rw [e1]
    have HOK := Lib.hid hok
    obtain ⟨x0, x1, x2, x3⟩ := four_cells g1
    obtain ⟨f0, f1, f2, f3⟩ := four_frozen g1
    obtain ⟨y0, y1, y2, y3⟩ := four_cells g2
    obtain ⟨h0, h1, h2, h3⟩ := four_frozen g2
    have hwB : w.heap.size ≤ B := by omega
    clear HH1
    go_wp2
    refine bodyPost_ret (v := .tuple #[.agg #[.int .i64 P, .slice (some ⟨g, 0, none⟩) 1024 fc, .slice a S.length c, .int .i64 last], spV sp0, .int .i64 3]) (by simp [spV, sp0, results, Tryz.results47, go_sem, x0, x1, x2, x3, y0, y1, y2, y3, l1, l2]) rfl ?_
    exact Or.inl ⟨by have := HOK.out; omega, rfl, Bel.alloc (bel_four (bel_four HB1.out (by omega) _ _ _ _) (by omega) _ _ _ _) _⟩
end Go.Proofs.YtbldidlbhahciaaGreat

namespace Go.Proofs.YtbldidlbhahciaaGreat
open Go.RowKit

/-- The flags when spans have gone one by one. -/
noncomputable def dropB (f : Int → Bool) (S : List Sp) (l : List Int) : Int → Bool := (runsOf S l).foldl (fun f r => (putB f [r] true).1) f
theorem dropB_nil (f : Int → Bool) (S : List Sp) : dropB f S [] = f := by simp [dropB, runsOf]
theorem dropB_snoc {f : Int → Bool} {S : List Sp} {l : List Int} {k : Int} {s : Sp} (h : getS S k = some s) : dropB f S (l ++ [k]) = (putB (dropB f S l) [s.2.1] true).1 := by
  unfold dropB; rw [runsOf_snoc _ _ _ _ h, List.foldl_append]; rfl
/-- What is left. -/
def leftD (S : List Sp) (l : List Int) : List Sp := S.filter fun s => !decide (s.1 ∈ l)
theorem leftD_nil (S : List Sp) : leftD S [] = S := by unfold leftD; simp
theorem leftD_sub {S : List Sp} {l : List Int} {s : Sp} (h : s ∈ leftD S l) : s ∈ S ∧ s.1 ∉ l := by
  have := List.mem_filter.1 h
  exact ⟨this.1, by simpa using this.2⟩
theorem take_drop_filter : ∀ (L : List Sp) (j : Nat) (h : j < L.length), (L.map (·.1)).Nodup → L.take j ++ L.drop (j + 1) = L.filter fun s => !decide (s.1 = L[j].1)
  | [], j, h, _ => by simp at h
  | x :: L, 0, h, hd => by
    simp only [List.map_cons, List.nodup_cons] at hd
    have : L.filter (fun s => !decide (s.1 = x.1)) = L := List.filter_eq_self.2 (fun s hs => by
      have : s.1 ≠ x.1 := fun e => hd.1 (List.mem_map.2 ⟨s, hs, e⟩)
      simp [this])
    simp [this]
  | x :: L, j + 1, h, hd => by
    simp only [List.map_cons, List.nodup_cons] at hd
    have hj : j < L.length := by simpa using h
    have hne : x.1 ≠ L[j].1 := fun e => hd.1 (List.mem_map.2 ⟨L[j], List.getElem_mem hj, e.symm⟩)
    have := take_drop_filter L j hj hd.2
    simp [hne, this]
theorem leftD_step {S : List Sp} {l : List Int} {j : Nat} (hd : (S.map (·.1)).Nodup) (hj : j < (leftD S l).length) : (leftD S l).take j ++ (leftD S l).drop (j + 1) = leftD S (l ++ [(leftD S l)[j].1]) := by
  have hd2 : ((leftD S l).map (·.1)).Nodup := hd.sublist ((List.filter_sublist).map _)
  rw [take_drop_filter _ j hj hd2]
  generalize (leftD S l)[j].1 = k
  unfold leftD
  rw [List.filter_filter]
  refine List.filter_congr (fun s _ => ?_)
  by_cases h1 : s.1 ∈ l <;> by_cases h2 : s.1 = k <;> simp [h1, h2]
/-- What Drop leaves. -/
def DropP (P g fc : Nat) (a : Option Addr) (n c last : Nat) (f : Int → Bool) (S : List Sp) (l : List Int) (w : World) (e : Ending) (w' : World) : Prop :=
  (FreeOk S l ∧ ∃ g' fc' a' c', e = .returned (.tuple #[hV P g' fc' a' (leftD S l).length c' last, .int .i64 0]) ∧ RefH w' g' fc' (dropB f S l) a' c' (leftD S l) ∧ Bel w w' ∧ (a' = a ∨ ∃ p, a' = some p ∧ w.heap.size ≤ p.block)) ∨
  (¬ FreeOk S l ∧ e = .returned (.tuple #[hV P g fc a n c last, .int .i64 6]) ∧ Bel w w')
/-- Some have gone. -/
def DropWay (a0 : Option Addr) (P last : Nat) (f : Int → Bool) (S : List Sp) (l : List Int) (w : World) (B : Nat) (h0 : Array Value) (i : Nat) (wr : World) : Prop :=
  ∃ g fc a c, wr.heap[B]? = some (.cells h0 44 (0, 0)) ∧ wr.heap[B + 1 + 1]? = some (.cells #[.int .i64 P, .slice (some ⟨g, 0, none⟩) 1024 fc, .slice a (leftD S (l.take i)).length c, .int .i64 last] 44 (0, 0)) ∧
    wr.heap[B + 1]? = some (.cells #[.int .i64 0, .slice none 0 0, .slice none 0 0, .int .i64 0] 44 (0, 0)) ∧
    RefH wr g fc (dropB f S (l.take i)) a c (leftD S (l.take i)) ∧ Bel w wr ∧ (∀ k ∈ l.take i, (getS S k).isSome = true) ∧ (l.take i).Nodup ∧ (∀ p, a = some p → leftD S (l.take i) ≠ [] → p.block ≠ B + 1 + 1 ∧ p.block ≠ B + 1) ∧ (a = a0 ∨ ∃ p, a = some p ∧ w.heap.size ≤ p.block)
set_option maxHeartbeats 4000000 in
set_option maxRecDepth 20000 in
theorem ref7_Drop (P g fc : Nat) (a : Option Addr) (n c : Nat) (last : Nat) (f : Int → Bool) (S : List Sp) (b : Option Addr) (l : List Int) (m d : Nat) (w : World) (hn : n = S.length) (hm : m = l.length) (H : RefH w g fc f a c S) (hl : S.length ≤ 4096) (hll : l.length ≤ 4096) (hd : (S.map (·.1)).Nodup) (hr : RdV w b (ints l)) (hok : ∀ k ∈ l, (Lit.int .i64 k).wf = true) (hlast : last ≤ 65536) (hrg : ∀ s ∈ S, I64 s.2.1.1 ∧ I64 s.2.1.2) :
    Calls Tryz.prog 71 #[hV P g fc a n c last, .slice b m d] w (DropP P g fc a n c last f S l w) := by
  subst hn hm
  unfold hV
  have g0 := blk_alloc_old (.cells #[.int .i64 P, .slice (some ⟨g, 0, none⟩) 1024 fc, .slice a S.length c, .int .i64 last] 44) (blk_alloc_old (.cells #[.int .i64 0, .slice none 0 0, .slice none 0 0, .int .i64 0] 44) (blk_alloc w (.cells #[.int .i64 P, .slice (some ⟨g, 0, none⟩) 1024 fc, .slice a S.length c, .int .i64 last] 44)))
  have g1 := blk_alloc_old (.cells #[.int .i64 P, .slice (some ⟨g, 0, none⟩) 1024 fc, .slice a S.length c, .int .i64 last] 44) (blk_alloc (w.alloc (.cells #[.int .i64 P, .slice (some ⟨g, 0, none⟩) 1024 fc, .slice a S.length c, .int .i64 last] 44)) (.cells #[.int .i64 0, .slice none 0 0, .slice none 0 0, .int .i64 0] 44))
  have g2 := blk_alloc ((w.alloc (.cells #[.int .i64 P, .slice (some ⟨g, 0, none⟩) 1024 fc, .slice a S.length c, .int .i64 last] 44)).alloc (.cells #[.int .i64 0, .slice none 0 0, .slice none 0 0, .int .i64 0] 44)) (.cells #[.int .i64 P, .slice (some ⟨g, 0, none⟩) 1024 fc, .slice a S.length c, .int .i64 last] 44)
  have hb0 := ((((Bel.refl w).alloc (.cells #[.int .i64 P, .slice (some ⟨g, 0, none⟩) 1024 fc, .slice a S.length c, .int .i64 last] 44)).alloc (.cells #[.int .i64 0, .slice none 0 0, .slice none 0 0, .int .i64 0] 44)).alloc (.cells #[.int .i64 P, .slice (some ⟨g, 0, none⟩) 1024 fc, .slice a S.length c, .int .i64 last] 44))
  simp only [World.size_alloc] at g1 g2
  have hsl : S.length ≤ 9223372036854775807 := by omega
  have hll2 : l.length ≤ 9223372036854775807 := by omega
  go_enter Tryz.func71, Tryz.ntmps71
  go_wp2_with fail
  generalize ((w.alloc (.cells #[.int .i64 P, .slice (some ⟨g, 0, none⟩) 1024 fc, .slice a S.length c, .int .i64 last] 44)).alloc (.cells #[.int .i64 0, .slice none 0 0, .slice none 0 0, .int .i64 0] 44)).alloc (.cells #[.int .i64 P, .slice (some ⟨g, 0, none⟩) 1024 fc, .slice a S.length c, .int .i64 last] 44) = W0 at g0 g1 g2 hb0 ⊢
  obtain ⟨B, hB⟩ : ∃ B, w.heap.size = B := ⟨_, rfl⟩
  rw [hB] at g0 g1 g2 ⊢
  obtain ⟨a0, ha0⟩ : ∃ a0, a0 = a := ⟨_, rfl⟩
  have HA0 := Lib.hid ha0
  obtain ⟨h0, hh0⟩ : ∃ h0 : Array Value, h0 = #[.int .i64 (P : Int), .slice (some ⟨g, 0, none⟩) 1024 fc, .slice a S.length c, .int .i64 (last : Int)] := ⟨_, rfl⟩
  have HW0 : Hid (DropWay a0 P last f S l w B h0 0 W0) := Lib.hid ⟨g, fc, a, c, by rw [hh0]; exact g0, by rw [List.take_zero, leftD_nil]; exact g2, g1, by rw [List.take_zero, leftD_nil, dropB_nil]; exact H.bel hb0, hb0, fun k hk => by simp at hk, by simp, fun p hp hne => by
    rw [List.take_zero, leftD_nil] at hne
    rcases H.sp with h9 | ⟨b9, o9, e9, h9⟩
    · exact absurd h9 hne
    · rw [hp] at e9; cases e9
      have := World.block_lt_of_cell? _ _ (h9 0 (List.length_pos_iff.2 hne) 0 _ rfl)
      dsimp only at this ⊢
      omega, .inl ha0.symm⟩
  clear ha0
  have HR := Lib.hid hr
  have HOK := Lib.hid hok
  have HD := Lib.hid hd
  have HRG := Lib.hid hrg
  clear g0 g1 g2 hb0 H hr hok hd hrg
  go_loopw [12] (fun kv wr => ∃ i : Nat, i ≤ l.length ∧ kv = .int .i64 i ∧ Hid (DropWay a0 P last f S l w B h0 i wr)) (fun kv wr => l.length - (intOf kv).toNat)
  case atStart => exact ⟨0, Nat.zero_le _, rfl, HW0⟩
  case round =>
    clear HW0
    obtain ⟨i, hi, rfl, HX⟩ := hrel
    obtain ⟨g', fc', a', c', k0, k2, k1, H1, hBw, hsome, hnd, hap, hfr⟩ := HX.out
    obtain ⟨W, rfl⟩ : ∃ W, W = wr := ⟨_, rfl⟩
    clear HX
    have l0 := heap_lt k0
    have l1 := heap_lt k1
    have l2 := heap_lt k2
    by_cases hlt : i < l.length
    · obtain ⟨bb, oo, rfl, hra⟩ := (HR.out.bel hBw).at i hlt
      obtain ⟨k, hk⟩ : ∃ k, l[i] = k := ⟨_, rfl⟩
      have hkw := HOK.out _ (List.getElem_mem hlt)
      have hnot := fun hh => free_not (S := S) hlt hh
      have htk : l.take (i + 1) = l.take i ++ [l[i]] := List.take_succ_eq_append_getElem hlt
      rw [hk] at hra hkw hnot htk
      obtain ⟨S1, hS1⟩ : ∃ S1, leftD S (l.take i) = S1 := ⟨_, rfl⟩
      have hsl1 : S1.length ≤ 4096 := by rw [← hS1]; exact Nat.le_trans (List.length_filter_le _ _) hl
      rw [hS1] at k2 H1 hap
      have HFIND := Lib.hid (fun V (hV : Bel W V) => ref7_Find P g' fc' a' S1.length c' last S1 k V rfl (H1.bel hV).sp (by omega))
      obtain ⟨p0, p1, p2, p3⟩ := four_cells k2
      have HKEEP : Hid (∀ V, Bel W V → V.cell? ⟨B + 1 + 1, 0, none⟩ = some (.int .i64 P) ∧ V.cell? ⟨B + 1 + 1, 1, none⟩ = some (.slice (some ⟨g', 0, none⟩) 1024 fc') ∧ V.cell? ⟨B + 1 + 1, 2, none⟩ = some (.slice a' S1.length c') ∧ V.cell? ⟨B + 1 + 1, 3, none⟩ = some (.int .i64 last) ∧ V.cell? ⟨bb, oo + i, none⟩ = some (.int .i64 k)) := Lib.hid (fun V hV => ⟨hV.cell p0, hV.cell p1, hV.cell p2, hV.cell p3, hV.cell hra⟩)
      have HFC : Hid (∀ V, Bel W V → Calls Tryz.prog 68 #[.agg #[.int .i64 P, .slice (some ⟨g', 0, none⟩) 1024 fc', .slice a' S1.length c', .int .i64 last], .int .i64 k] V fun e V' => e = .returned (.int .i64 (idxF (fun s => decide (s.1 = k)) S1)) ∧ Bel W V' ∧ (V'.cell? ⟨B + 1 + 1, 0, none⟩ = some (.int .i64 P) ∧ V'.cell? ⟨B + 1 + 1, 1, none⟩ = some (.slice (some ⟨g', 0, none⟩) 1024 fc') ∧ V'.cell? ⟨B + 1 + 1, 2, none⟩ = some (.slice a' S1.length c') ∧ V'.cell? ⟨B + 1 + 1, 3, none⟩ = some (.int .i64 last) ∧ V'.cell? ⟨bb, oo + i, none⟩ = some (.int .i64 k))) := Lib.hid (fun V hV => (HFIND.out V hV).mono fun e V' ⟨h1, h2⟩ => ⟨h1, hV.trans h2, HKEEP.out V' (hV.trans h2)⟩)
      have hdl : (i : Int) < l.length := by omega
      rcases idxF_or (fun s : Sp => decide (s.1 = k)) S1 with ⟨j, hj, hx, hjs⟩ | ⟨hx, hno⟩
      · have hk1 : S1[j].1 = k := by simpa using hjs
        rw [hx] at HFC
        go_wp2_with fail
        go_region_held3 (fun w' => w'.cell? ⟨B + 1 + 1, 0, none⟩ = some (.int .i64 P) ∧ w'.cell? ⟨B + 1 + 1, 1, none⟩ = some (.slice (some ⟨g', 0, none⟩) 1024 fc') ∧ w'.cell? ⟨B + 1 + 1, 2, none⟩ = some (.slice a' S1.length c') ∧ w'.cell? ⟨B + 1 + 1, 3, none⟩ = some (.int .i64 last) ∧ w'.cell? ⟨bb, oo + i, none⟩ = some (.int .i64 k))
          (first | exact hS1' | go_keep)
          (first | (go_at_call 68; (with_reducible refine (HFC.out _ ?b1).mono ?_); (case b1 => repeat (first | exact Bel.refl _ | apply Bel.drew | apply Bel.alloc)); rintro e w1 ⟨rfl, hB1, hS1'⟩))
        have k0 := hB1.blk k0
        have k1 := hB1.blk k1
        have k2 := hB1.blk k2
        have H1 := H1.bel hB1
        have hBw1 := hBw.trans hB1
        obtain ⟨ba, oa, rfl, w0, w1', w2, w3⟩ := H1.sp.at j hj
        obtain ⟨s2, hs2⟩ : ∃ s2, S1[j].2.1.1 = s2 := ⟨_, rfl⟩
        obtain ⟨s3, hs3⟩ : ∃ s3, S1[j].2.1.2 = s3 := ⟨_, rfl⟩
        rw [hs2] at w1'
        rw [hs3] at w2
        have hSj : S1[j] ∈ S := (leftD_sub (show S1[j] ∈ leftD S (l.take i) by rw [hS1]; exact List.getElem_mem hj)).1
        have hrg := HRG.out _ hSj
        rw [hs2, hs3] at hrg
        have HPC : Hid (∀ V bk, Bel w1 V → V.heap[bk]? = some (.cells #[.int .i64 s2, .int .i64 s3] 31 (0, 0)) → Calls Tryz.prog 41 #[.slice (some ⟨g', 0, none⟩) 1024 fc', .slice (some ⟨bk, 0, none⟩) 1 1, .bool true] V fun e V' => ∃ g2 fc2, e = .returned (.tuple #[.slice (some ⟨g2, 0, none⟩) 1024 fc2, .int .i64 (putB (dropB f S (l.take i)) [(s2, s3)] true).2]) ∧ BitsO V' (.slice (some ⟨g2, 0, none⟩) 1024 fc2) (putB (dropB f S (l.take i)) [(s2, s3)] true).1 ∧ Bel w1 V') := Lib.hid (fun V bk hV hbk => by
          refine (ref6_Put _ _ (some ⟨bk, 0, none⟩) [(s2, s3)] 1 1 true V rfl (by simp) (H1.bits.bel hV) (runsIn_blk hbk) (by intro r hr; simp at hr; subst hr; exact hrg)).mono ?_
          rintro e V' ⟨v', rfl, hO, hB⟩
          obtain ⟨g2, fc2, rfl⟩ := hO.form
          exact ⟨g2, fc2, rfl, hO, hV.trans hB⟩)
        obtain ⟨q0, q1, q2, q3⟩ := four_cells k2
        obtain ⟨f0, f1, f2, f3⟩ := four_frozen k2
        have hjn : (j : Int) < S1.length := by omega
        have hs1l : S1.length ≤ 9223372036854775807 := by omega
        have hab : ba ≠ B + 1 + 1 := hap _ rfl (fun e => by rw [e] at hj; simp at hj) |>.1
        have HALL := Lib.hid (And.intro k0 (And.intro k1 (And.intro k2 (And.intro H1 hBw1))))
        have HM := Lib.hid (And.intro hsome (And.intro hnd (And.intro htk (And.intro hk1 hS1))))
        have hcap := H1.cap
        obtain ⟨rp, hrp⟩ : ∃ rp, (putB (dropB f S (l.take i)) [(s2, s3)] true) = rp := ⟨_, rfl⟩
        rw [hrp] at HPC
        have m2 := heap_lt k2
        clear HFC HFIND HKEEP hS1' hnot p0 p1 p2 p3 w0 w3 k0 k1 k2 H1 hBw1 hBw hB1 hsome hnd hx hk htk hap hS1
        go_wp2_with fail
        go_cut [] (fun wx => ∃ g2 fc2, BitsO wx (.slice (some ⟨g2, 0, none⟩) 1024 fc2) rp.1 ∧ wx.heap[B + 1 + 1]? = some (.cells #[.int .i64 P, .slice (some ⟨g2, 0, none⟩) 1024 fc2, .slice (some ⟨ba, oa, none⟩) S1.length c', .int .i64 last] 44 (0, 0)) ∧ Fr (fun k => k = B + 1 + 1) w1 wx)
        case first =>
          go_region_law (first | (go_simp; go_at_call 41; (with_reducible refine (HPC.out _ _ ?b1 ?b2).mono ?_); (case b1 => repeat (first | exact Bel.refl _ | apply Bel.drew | apply Bel.alloc)); (case b2 => exact blk_allocAt _ _ _ (by simp)); rintro e w4 ⟨g2, fc2, rfl, hO4, hB4⟩; (have m4 := hB4.blk HALL.out.2.2.1); obtain ⟨s0, s1, s2', s3'⟩ := four_cells m4; obtain ⟨d0, d1, d2, d3⟩ := four_frozen m4))
          all_goals
            go_wp2_with fail
            go_meet
            have hset := blk_setCell m4 1 (.slice (some ⟨g2, 0, none⟩) 1024 fc2)
            exact ⟨g2, fc2, hO4.fr (S := fun k => k = B + 1 + 1) (Fr.setCell (p := ⟨B + 1 + 1, 1, none⟩) (Fr.refl (fun k => k = B + 1 + 1) w4) (.inl rfl) _) (fun g9 cur hg e => by rw [e, m4] at hg; simp at hg), by simpa using hset, Fr.setCell (S := fun k => k = B + 1 + 1) (p := ⟨B + 1 + 1, 1, none⟩) (Fr.of_bel hB4) (.inl rfl) _⟩
        case rest =>
          obtain ⟨g2, fc2, hO2, m2', hF2⟩ := hcut
          have hBw := Fr.bel ((Fr.of_bel (S := fun k => k = B + 1 + 1) HALL.out.2.2.2.2).trans' hF2) (fun k hk => by subst hk; omega)
          have hs1 := HALL.out.2.2.2.1.sp.fr7 hF2 (fun p hp e => by cases hp; exact hab e)
          have m0 := hF2.heap HALL.out.1 (by show ¬ B = B + 1 + 1; omega)
          have m1 := hF2.heap HALL.out.2.1 (by show ¬ B + 1 = B + 1 + 1; omega)
          obtain ⟨q0, q1, q2, q3⟩ := four_cells m2'
          obtain ⟨f0, f1, f2, f3⟩ := four_frozen m2'
          have m3 := heap_lt m2'
          have e0 : (0 : Int) ≤ (j : Int) + 1 := by omega
          have e1 : j ≤ c' := by omega
          have e7 : (j : Int) ≤ (j : Int) + 1 := by omega
          have e2 : (j : Int) + 1 ≤ S1.length := by omega
          have e3 : (S1.length : Int) ≤ c' := by omega
          have e4 : S1.length ≤ c' := by omega
          have e5 : j + 1 ≤ S1.length := by omega
          have z1 : IntKind.i64.wrap ((j : Int) + 1) = (j : Int) + 1 := IntWalk.i64_in _ (by omega)
          have HS1 := Lib.hid hs1
          have HF := Lib.hid (And.intro m0 (And.intro m1 (And.intro m2' (And.intro hO2 hBw))))
          have HNXT : Hid (∀ g6 cap6 w6, SpansIn w6 (some ⟨g6, 0, none⟩) (S1.take j ++ S1.drop (j + 1)) → wc.heap.size ≤ g6 → S1.length - 1 ≤ cap6 → Bel wc w6 → DropWay a0 P last f S l w B h0 (i + 1) (w6.setCell ⟨B + 1 + 1, 2, none⟩ (.slice (some ⟨g6, 0, none⟩) (S1.length - 1) cap6))) := Lib.hid (fun g6 cap6 w6 hs6 hz6 hcp6 hB6 => by
            obtain ⟨hsome, hnd, htk, hk1, hS1⟩ := HM.out
            have hkS : k ∉ l.take i := by
              have h9 := (leftD_sub (show S1[j] ∈ leftD S (l.take i) by rw [hS1]; exact List.getElem_mem hj)).2
              rwa [hk1] at h9
            have hget : getS S k = some S1[j] := by rw [← hk1]; exact getS_of_mem HD.out hSj
            have hL : S1.take j ++ S1.drop (j + 1) = leftD S (l.take (i + 1)) := by
              subst hS1
              have h9 := leftD_step (l := l.take i) HD.out hj
              rw [h9, hk1, ← htk]
            have hlen : (leftD S (l.take (i + 1))).length = S1.length - 1 := by rw [← hL]; simp; omega
            have hdr : rp.1 = dropB f S (l.take (i + 1)) := by
              rw [htk, dropB_snoc hget, ← hrp, ← hs2, ← hs3]
            have hF : Fr (fun k => k = B + 1 + 1) wc (w6.setCell ⟨B + 1 + 1, 2, none⟩ (.slice (some ⟨g6, 0, none⟩) (S1.length - 1) cap6)) := Fr.setCell (S := fun k => k = B + 1 + 1) (p := ⟨B + 1 + 1, 2, none⟩) (Fr.of_bel hB6) (.inl rfl) _
            have j6 := hB6.blk m2'
            have hset := blk_setCell j6 2 (.slice (some ⟨g6, 0, none⟩) (S1.length - 1) cap6)
            rw [hL] at hs6
            have hgB : g6 ≠ B + 1 + 1 := by omega
            refine ⟨g2, fc2, some ⟨g6, 0, none⟩, cap6, hF.heap HF.out.1 (by show ¬ B = B + 1 + 1; omega), by rw [hlen]; simpa using hset, hF.heap HF.out.2.1 (by show ¬ B + 1 = B + 1 + 1; omega), ⟨by rw [← hdr]; exact HF.out.2.2.2.1.fr hF (fun g9 cur hg e => by rw [e, m2'] at hg; simp at hg), hs6.fr7 (Fr.setCell (S := fun k => k = B + 1 + 1) (p := ⟨B + 1 + 1, 2, none⟩) (Fr.refl (fun k => k = B + 1 + 1) w6) (.inl rfl) _) (fun p hp e => by cases hp; exact hgB e), by rintro ⟨⟩, by rw [hlen]; exact hcp6⟩, Fr.bel ((Fr.of_bel HF.out.2.2.2.2).trans' hF) (fun k hk => by subst hk; omega), ?_, ?_, fun p hp _ => by cases hp; exact ⟨hgB, by show g6 ≠ B + 1; omega⟩, .inr ⟨_, rfl, by show w.heap.size ≤ g6; have := HF.out.2.2.2.2.size; omega⟩⟩
            · intro k' hk'
              rw [htk, List.mem_append] at hk'
              rcases hk' with hk' | hk'
              · exact hsome k' hk'
              · simp at hk'; subst hk'; rw [hget]; rfl
            · rw [htk, List.nodup_append]
              exact ⟨hnd, by simp, fun x hx y hy e => by simp at hy; subst hy; subst e; exact hkS hx⟩)
          clear hs1 m0 m1 hO2 hBw hF2
          by_cases hce : c' = j + 1
          · go_wp2_with fail
            go_region_law (first
            | ((refine step_app_sp rfl _ _ (by rfl) wc.heap.size _ 0 _ [] (S1.take j) rfl (by rfl) ?o1 (some ⟨ba, oa, none⟩) j _ (by simp; omega) (by rfl) ?o2 (by rintro ⟨⟩) (by omega) ?o3 j (by omega) (S1.take j) rfl ?_); (case o1 => first | exact own_made _ _ _ _ _ (by simp) (by simp) | exact (own_made _ _ _ _ _ (by simp) (by simp)).alloc _); (case o2 => exact (HS1.out.take j).bel (by repeat (first | exact Bel.refl _ | apply Bel.drew | apply Bel.alloc))); (case o3 => simp; try omega); intro g5 cap5 w5 hown5 hgrow5 hat5; (have hB5 : Bel wc w5 := bel_row7 (by repeat (first | exact Bel.refl _ | apply Bel.drew | apply Bel.alloc)) hgrow5 (by simp; try omega)); obtain ⟨t0, t1, t2, t3⟩ := four_cells (hB5.blk m2'))
            | ((refine step_app_sp rfl _ _ (by rfl) wc.heap.size _ j _ (S1.take j) (S1.drop (j + 1)) (by simp; omega) (by rfl) ?o1 (some ⟨ba, _, none⟩) _ _ ?o5 (by rfl) ?o2 (by rintro ⟨⟩) ?o4 ?o3 (S1.length - 1) ?o6 _ rfl ?_); (case o1 => first | exact hown5 | exact hown5.alloc _); (case o5 => simp; try omega); (case o2 => exact .inl (List.drop_eq_nil_of_le (by omega))); (case o4 => omega); (case o6 => omega); (case o3 => have := hB5.size; simp; try omega); intro g6 cap6 w6 hown6 hgrow6 hat6; (have hB6 : Bel wc w6 := bel_row7 (hB5.trans (by repeat (first | exact Bel.refl _ | apply Bel.drew | apply Bel.alloc))) hgrow6 (hown5.lt _ rfl).1); (have j6 := hB6.blk m2'); obtain ⟨c0, c1, c2, c3⟩ := four_cells j6; obtain ⟨d0, d1, d2, d3⟩ := four_frozen j6))
            all_goals
              obtain ⟨hs6, hz6, _, hcp6⟩ := spansIn_own hown6
              have HNX := Lib.hid (HNXT.out g6 cap6 w6 hs6 hz6 hcp6 hB6)
              clear hs6 hz6 hcp6 hB6 j6 hown6 hgrow6 hat6 hown5 hgrow5 hat5 hB5
              go_wp2
              go_roundw
              case rel => exact ⟨i + 1, by omega, by go_num, HNX⟩
              case measure => simp [intOf]; omega
          · go_wp2_with fail
            go_region_law (first
            | ((refine step_app_sp rfl _ _ (by rfl) wc.heap.size _ 0 _ [] (S1.take j) rfl (by rfl) ?o1 (some ⟨ba, oa, none⟩) j _ (by simp; omega) (by rfl) ?o2 (by rintro ⟨⟩) (by omega) ?o3 j (by omega) (S1.take j) rfl ?_); (case o1 => first | exact own_made _ _ _ _ _ (by simp) (by simp) | exact (own_made _ _ _ _ _ (by simp) (by simp)).alloc _); (case o2 => exact (HS1.out.take j).bel (by repeat (first | exact Bel.refl _ | apply Bel.drew | apply Bel.alloc))); (case o3 => simp; try omega); intro g5 cap5 w5 hown5 hgrow5 hat5; (have hB5 : Bel wc w5 := bel_row7 (by repeat (first | exact Bel.refl _ | apply Bel.drew | apply Bel.alloc)) hgrow5 (by simp; try omega)); obtain ⟨t0, t1, t2, t3⟩ := four_cells (hB5.blk m2'))
            | ((refine step_app_sp rfl _ _ (by rfl) wc.heap.size _ j _ (S1.take j) (S1.drop (j + 1)) (by simp; omega) (by rfl) ?o1 (some ⟨ba, _, none⟩) _ _ ?o5 (by rfl) ?o2 (by rintro ⟨⟩) ?o4 ?o3 (S1.length - 1) ?o6 _ rfl ?_); (case o1 => first | exact hown5 | exact hown5.alloc _); (case o5 => simp; try omega); (case o2 => exact (HS1.out.drop (j + 1)).bel (hB5.trans (by repeat (first | exact Bel.refl _ | apply Bel.drew | apply Bel.alloc)))); (case o4 => omega); (case o6 => omega); (case o3 => have := hB5.size; simp; try omega); intro g6 cap6 w6 hown6 hgrow6 hat6; (have hB6 : Bel wc w6 := bel_row7 (hB5.trans (by repeat (first | exact Bel.refl _ | apply Bel.drew | apply Bel.alloc))) hgrow6 (hown5.lt _ rfl).1); (have j6 := hB6.blk m2'); obtain ⟨c0, c1, c2, c3⟩ := four_cells j6; obtain ⟨d0, d1, d2, d3⟩ := four_frozen j6))
            all_goals
              obtain ⟨hs6, hz6, _, hcp6⟩ := spansIn_own hown6
              have HNX := Lib.hid (HNXT.out g6 cap6 w6 hs6 hz6 hcp6 hB6)
              clear hs6 hz6 hcp6 hB6 j6 hown6 hgrow6 hat6 hown5 hgrow5 hat5 hB5
              go_wp2
              go_roundw
              case rel => exact ⟨i + 1, by omega, by go_num, HNX⟩
              case measure => simp [intOf]; omega
      · have HNO : Hid (¬ FreeOk S l) := Lib.hid (hnot (by
          by_cases hmem : k ∈ l.take i
          · exact .inr hmem
          · left
            rw [getS_none]
            intro s hs he
            have h9 : s ∈ S1 := by rw [← hS1]; exact List.mem_filter.2 ⟨hs, by rw [he]; simpa using hmem⟩
            have := hno s h9
            simp [he] at this))
        rw [hx] at HFC
        have HB0 := Lib.hid (And.intro k0 (And.intro k1 hBw))
        have HH0 := Lib.hid hh0
        clear hnot hno hx hsome hnd H1 k0 k1 k2 hBw hS1 htk hk
        go_wp2_with fail
        go_region_held3 (fun w' => w'.cell? ⟨B + 1 + 1, 0, none⟩ = some (.int .i64 P) ∧ w'.cell? ⟨B + 1 + 1, 1, none⟩ = some (.slice (some ⟨g', 0, none⟩) 1024 fc') ∧ w'.cell? ⟨B + 1 + 1, 2, none⟩ = some (.slice a' S1.length c') ∧ w'.cell? ⟨B + 1 + 1, 3, none⟩ = some (.int .i64 last) ∧ w'.cell? ⟨bb, oo + i, none⟩ = some (.int .i64 k))
          (first | exact hS1' | go_keep)
          (first | (go_at_call 68; (with_reducible refine (HFC.out _ ?b1).mono ?_); (case b1 => repeat (first | exact Bel.refl _ | apply Bel.drew | apply Bel.alloc)); rintro e w1 ⟨rfl, hB1, hS1'⟩))
        have k0 := hB1.blk HB0.out.1
        have k1 := hB1.blk HB0.out.2.1
        have hBw1 := HB0.out.2.2.trans hB1
        rw [HH0.out] at k0
        obtain ⟨c0, c1, c2, c3⟩ := four_cells k0
        obtain ⟨x0, x1, x2, x3⟩ := four_cells k1
        obtain ⟨f0, f1, f2, f3⟩ := four_frozen k1
        have HBW := Lib.hid hBw1
        clear hB1 HB0 hBw1 k0 k1
        have hwB : w.heap.size ≤ B + 1 := by omega
        go_wp2
        refine bodyPost_ret (v := .tuple #[hV P g fc a S.length c last, .int .i64 6]) (by simp [hV, results, Tryz.results71, go_sem, x0, x1, x2, x3]) rfl ?_
        exact Or.inr ⟨HNO.out, rfl, bel_four HBW.out hwB _ _ _ _⟩
    · obtain rfl : i = l.length := by omega
      rw [List.take_length] at k2 H1 hsome hnd
      have hFO : FreeOk S l := ⟨hsome, hnd⟩
      obtain ⟨p0, p1, p2, p3⟩ := four_cells k2
      obtain ⟨x0, x1, x2, x3⟩ := four_cells k1
      obtain ⟨f0, f1, f2, f3⟩ := four_frozen k1
      have hfin : ∀ y0 y1 y2 y3, RefH ((((W.setCell ⟨B + 1, 0, none⟩ y0).setCell ⟨B + 1, 1, none⟩ y1).setCell ⟨B + 1, 2, none⟩ y2).setCell ⟨B + 1, 3, none⟩ y3) g' fc' (dropB f S l) a' c' (leftD S l) := fun y0 y1 y2 y3 => by
        have hF := fr_four W (B + 1) y0 y1 y2 y3
        refine ⟨H1.bits.fr hF (fun g9 cur hg e => by rw [e, k1] at hg; simp at hg), ?_, H1.nil, H1.cap⟩
        by_cases he : leftD S l = []
        · rw [he]; exact .inl rfl
        · exact H1.sp.fr7 hF (fun p hp e => (hap p hp (by rwa [List.take_length])).2 e)
      have HFIN := Lib.hid (And.intro hFO (And.intro (fun y0 y1 y2 y3 => And.intro (hfin y0 y1 y2 y3) (bel_four hBw (show w.heap.size ≤ B + 1 by omega) y0 y1 y2 y3)) hBw))
      clear hfin hFO H1 hsome hnd hap k0 k1 k2 hBw
      go_wp2
      refine bodyPost_ret (v := .tuple #[hV P g' fc' a' (leftD S l).length c' last, .int .i64 0]) (by simp [hV, results, Tryz.results71, go_sem, x0, x1, x2, x3]) rfl ?_
      have hfn := HFIN.out.2.1 (.int .i64 P) (.slice (some ⟨g', 0, none⟩) 1024 fc') (.slice a' (leftD S l).length c') (.int .i64 last)
      exact Or.inl ⟨HFIN.out.1, g', fc', a', c', rfl, hfn.1, hfn.2, HA0.out ▸ hfr⟩
end Go.Proofs.YtbldidlbhahciaaGreat

namespace Go.Proofs.YtbldidlbhahciaaGreat
open Go.RowKit

/-- Spans by where they start. -/
def bucketS (S : List Sp) (p : Nat) : List Sp := (List.range p).flatMap fun (q : Nat) => S.filter fun s => decide (s.2.1.1 = (q : Int))
theorem bucketS_succ (S : List Sp) (p : Nat) : bucketS S (p + 1) = bucketS S p ++ S.filter fun s => decide (s.2.1.1 = (p : Int)) := by
  unfold bucketS; rw [List.range_succ, List.flatMap_append]; simp
theorem filter_or_perm {p q : Sp → Bool} (h : ∀ s, p s = true → q s = false) : ∀ S : List Sp, (S.filter p ++ S.filter q).Perm (S.filter fun s => p s || q s)
  | [] => by simp
  | x :: S => by
    have ih := filter_or_perm h S
    cases hp : p x with
    | true =>
      have hq := h x hp
      simp only [List.filter_cons, hp, hq, if_true, Bool.false_eq_true, if_false, Bool.or_false, List.cons_append]
      exact ih.cons x
    | false =>
      cases hq : q x with
      | true =>
        simp only [List.filter_cons, hp, hq, if_true, Bool.false_eq_true, if_false, Bool.or_true]
        exact List.perm_middle.trans (ih.cons x)
      | false =>
        simp only [List.filter_cons, hp, hq, Bool.false_eq_true, if_false, Bool.or_false]
        exact ih
theorem bucketS_perm (S : List Sp) : ∀ p : Nat, (bucketS S p).Perm (S.filter fun s => decide (0 ≤ s.2.1.1) && decide (s.2.1.1 < (p : Int)))
  | 0 => by
    have : (S.filter fun s => decide (0 ≤ s.2.1.1) && decide (s.2.1.1 < ((0 : Nat) : Int))) = [] := List.filter_eq_nil_iff.2 (fun s _ => by simp; try omega)
    rw [this]; simp [bucketS]
  | p + 1 => by
    rw [bucketS_succ]
    refine ((bucketS_perm S p).append_right _).trans ((filter_or_perm (fun s h => ?_) S).trans (.of_eq (List.filter_congr (fun s _ => ?_))))
    · simp at h; simp; omega
    · rw [Bool.eq_iff_iff]; simp; omega
theorem bucketS_length (S : List Sp) (p : Nat) : (bucketS S p).length ≤ S.length := by
  rw [(bucketS_perm S p).length_eq]; exact List.length_filter_le _ _
theorem filter_take_pos {S : List Sp} {i : Nat} (h : i < S.length) {f : Sp → Bool} (hf : f S[i] = true) : (S.take (i + 1)).filter f = (S.take i).filter f ++ [S[i]] := by
  rw [List.take_succ_eq_append_getElem h, List.filter_append, List.filter_cons_of_pos hf]; rfl
theorem filter_take_neg {S : List Sp} {i : Nat} (h : i < S.length) {f : Sp → Bool} (hf : f S[i] = false) : (S.take (i + 1)).filter f = (S.take i).filter f := by
  rw [List.take_succ_eq_append_getElem h, List.filter_append, List.filter_cons_of_neg (by simp [hf])]; simp
/-- What is there so far. -/
def SpansWay (P g fc : Nat) (a : Option Addr) (n c last : Nat) (S : List Sp) (w : World) (B : Nat) (u : Value) (M : List Sp) (wr : World) : Prop :=
  ∃ g5 c5, u = .slice (some ⟨g5, 0, none⟩) M.length c5 ∧ wr.ownsRow (B + 1) 33 4 (.slice (some ⟨g5, 0, none⟩) M.length c5) M.length (spCellsOf M) ∧
    wr.heap[B]? = some (.cells #[.int .i64 P, .slice (some ⟨g, 0, none⟩) 1024 fc, .slice a n c, .int .i64 last] 44 (0, 0)) ∧ Bel w wr
set_option maxHeartbeats 4000000 in
set_option maxRecDepth 20000 in
theorem ref7_Spans (P g fc : Nat) (a : Option Addr) (n c : Nat) (last : Nat) (S : List Sp) (w : World) (hn : n = S.length) (hs : SpansIn w a S) (hl : S.length ≤ 4096) (hP : P ≤ 1024) :
    Calls Tryz.prog 22 #[hV P g fc a n c last] w fun e w' => ∃ a' c', e = .returned (.slice a' (bucketS S P).length c') ∧ SpansIn w' a' (bucketS S P) ∧ Bel w w' := by
  subst hn
  unfold hV
  go_enter Tryz.func22, Tryz.ntmps22
  go_wp2_with fail
  have gb := blk_alloc_old (.cells #[] 33) (blk_alloc w (.cells #[.int .i64 P, .slice (some ⟨g, 0, none⟩) 1024 fc, .slice a S.length c, .int .i64 last] 44))
  have hb0 := ((Bel.refl w).alloc (.cells #[.int .i64 P, .slice (some ⟨g, 0, none⟩) 1024 fc, .slice a S.length c, .int .i64 last] 44)).alloc (.cells #[] 33)
  have hown0 := own_made (w.alloc (.cells #[.int .i64 P, .slice (some ⟨g, 0, none⟩) 1024 fc, .slice a S.length c, .int .i64 last] 44)) (w.heap.size + 1) (w.heap.size + 1) 33 4 (by simp) (Nat.le_refl _)
  generalize (w.alloc (.cells #[.int .i64 P, .slice (some ⟨g, 0, none⟩) 1024 fc, .slice a S.length c, .int .i64 last] 44)).alloc (.cells #[] 33) = W0 at gb hb0 hown0 ⊢
  obtain ⟨B, hB⟩ : ∃ B, w.heap.size = B := ⟨_, rfl⟩
  rw [hB] at gb hown0 ⊢
  have HS := Lib.hid hs
  have HST : Hid (SpansWay P g fc a S.length c last S w B (.slice (some ⟨B + 1, 0, none⟩) 0 0) [] W0) := Lib.hid ⟨B + 1, 0, rfl, hown0, gb, hb0⟩
  have hsl : S.length ≤ 9223372036854775807 := by omega
  clear hs gb hb0 hown0
  go_loopw [3, 4] (fun uv kv wr => ∃ p : Nat, p ≤ P ∧ kv = .int .i64 p ∧ ∃ u, u = uv ∧ Hid (SpansWay P g fc a S.length c last S w B u (bucketS S p) wr)) (fun uv kv wr => P - (intOf kv).toNat)
  case atStart => exact ⟨0, Nat.zero_le _, rfl, _, rfl, HST⟩
  case round =>
    clear HST
    obtain ⟨p, hp, rfl, uv, rfl, HX⟩ := hrel
    obtain ⟨g5, c5, rfl, hown, gb, hBw⟩ := HX.out
    obtain ⟨r0, r1, r2, r3⟩ := four_cells gb
    obtain ⟨W, rfl⟩ : ∃ W, W = wr := ⟨_, rfl⟩
    by_cases hlt : p < P
    · have d0 : (p : Int) < P := by omega
      go_wp2_with fail
      go_loopw [3, 16] (fun uv kv wi => ∃ i : Nat, i ≤ S.length ∧ kv = .int .i64 i ∧ ∃ u, u = uv ∧ Hid (SpansWay P g fc a S.length c last S w B u (bucketS S p ++ (S.take i).filter fun s => decide (s.2.1.1 = (p : Int))) wi)) (fun uv kv wi => S.length - (intOf kv).toNat)
      case atStart => exact ⟨0, Nat.zero_le _, rfl, _, rfl, by simpa using HX⟩
      case round =>
        clear HX hown gb hBw r0 r1 r2 r3
        obtain ⟨i, hi, rfl, uv, rfl, HX⟩ := hrel
        obtain ⟨g6, c6, rfl, hown, gb, hBw⟩ := HX.out
        obtain ⟨r0, r1, r2, r3⟩ := four_cells gb
        obtain ⟨W, rfl⟩ : ∃ W, W = wr := ⟨_, rfl⟩
        by_cases hlt2 : i < S.length
        · obtain ⟨b1, o1, rfl, p0, p1, p2, p3⟩ := (HS.out.bel hBw).at i hlt2
          obtain ⟨x, hx⟩ : ∃ x, S[i] = x := ⟨_, rfl⟩
          have HTP := Lib.hid (fun h => filter_take_pos (S := S) (f := fun s => decide (s.2.1.1 = (p : Int))) hlt2 h)
          have HTN := Lib.hid (fun h => filter_take_neg (S := S) (f := fun s => decide (s.2.1.1 = (p : Int))) hlt2 h)
          rw [hx] at p0 p1 p2 p3 HTP HTN
          obtain ⟨s1, ⟨s2, s3⟩, s4⟩ := x
          dsimp only at p0 p1 p2 p3 HTP HTN
          obtain ⟨M, hM⟩ : ∃ M, (bucketS S p ++ (S.take i).filter fun s => decide (s.2.1.1 = (p : Int))) = M := ⟨_, rfl⟩
          have hml : M.length ≤ 8192 := by
            rw [← hM, List.length_append]
            have := bucketS_length S p
            have := List.length_filter_le (fun s : Sp => decide (s.2.1.1 = (p : Int))) (S.take i)
            rw [List.length_take] at this
            omega
          have HM := Lib.hid hM
          rw [hM] at hown HX ⊢
          obtain ⟨nM, hnM⟩ : ∃ nM, M.length = nM := ⟨_, rfl⟩
          have HNM := Lib.hid hnM
          rw [hnM] at hown hml ⊢
          have HOWN := Lib.hid hown
          have hbz := hBw.size
          have hgb := heap_lt gb
          have d1 : (i : Int) < S.length := by omega
          clear hx hM hnM hown
          by_cases he : s2 = (p : Int)
          · subst he
            have e1 : (((p : Nat) : Int) == (p : Int)) = true := by simp
            have HN := Lib.hid (HTP.out (by simp))
            go_wp2_with (at_builtin; refine wpList_app_sp rfl _ _ rfl (B + 1) g6 nM c6 M [(s1, ((p : Int), s3), s4)] HNM.out rfl (HOWN.out.alloc _) (some ⟨_, 0, none⟩) 1 1 rfl rfl ?d1 (by rintro ⟨⟩) ?d2 ?d3 (nM + 1) rfl _ rfl ?_)
            case d1 => exact spansIn_blk (blk_allocAt _ _ _ (by first | rfl | simp))
            case d2 => first | omega | (simp; omega)
            case d3 => first | omega | (simp; omega)
            intro g7 c7 w7 hown7 hgrow7 hat7
            have HNX : Hid (SpansWay P g fc (some ⟨b1, o1, none⟩) S.length c last S w B (.slice (some ⟨g7, 0, none⟩) (nM + 1) c7) (bucketS S p ++ (S.take (i + 1)).filter fun s => decide (s.2.1.1 = (p : Int))) w7) := Lib.hid (by
              have eM : bucketS S p ++ ((S.take (i + 1)).filter fun s => decide (s.2.1.1 = (p : Int))) = M ++ [(s1, ((p : Int), s3), s4)] := by rw [HN.out, ← HM.out, List.append_assoc]
              have eL : (M ++ [(s1, ((p : Int), s3), s4)]).length = nM + 1 := by rw [List.length_append, HNM.out]; rfl
              rw [eM]
              have hf7 := fr_row7 hgrow7
              exact ⟨g7, c7, by rw [eL], by rw [eL]; exact hown7, hf7.heap (blk_alloc_old _ gb) (by intro h9; have := (HOWN.out.lt g6 rfl).1; simp at h9; omega), bel_row7 (hBw.alloc _) hgrow7 (by have := (HOWN.out.lt g6 rfl).1; omega)⟩)
            clear hown7 hgrow7 hat7
            go_wp2
            go_roundw
            case rel => exact ⟨i + 1, by omega, by go_num, _, rfl, HNX⟩
            case measure => simp [intOf]; omega
          · have e1 : (s2 == (p : Int)) = false := by simp [he]
            have HN := Lib.hid (HTN.out (by simpa using he))
            go_wp2
            go_roundw
            case rel => exact ⟨i + 1, by omega, by go_num, _, rfl, Lib.hid (by rw [HN.out, HM.out]; exact ⟨g6, c6, by rw [HNM.out], by rw [HNM.out]; exact HOWN.out, gb, hBw⟩)⟩
            case measure => simp [intOf]; omega
        · obtain rfl : i = S.length := by omega
          rw [List.take_length, ← bucketS_succ] at HX
          go_wp2
          go_roundw
          case rel => exact ⟨p + 1, by omega, by go_num, _, rfl, by rw [List.take_length, ← bucketS_succ]; exact HX⟩
          case measure => simp [intOf]; omega
    · obtain rfl : p = P := by omega
      have HEND := Lib.hid (And.intro (spansIn_own hown).1 hBw)
      clear HX hown gb hBw
      go_wp2
      go_ret
      exact ⟨_, _, rfl, HEND.out.1, HEND.out.2⟩
end Go.Proofs.YtbldidlbhahciaaGreat

namespace Go.Proofs.YtbldidlbhahciaaGreat

/-- Spans tell the free runs. -/
theorem HInv.unique {ids ids' : List Int} {L L' : List Rn} {S : List Sp} {last last' : Nat} (h : HInv ids L S last) (h' : HInv ids' L' S last') (hl : ids.length = ids'.length) : L = L' := by
  have key : ∀ {ids : List Int} {L : List Rn} {last : Nat}, HInv ids L S last → ∀ p : Int, (inL L p = true ↔ 0 ≤ p ∧ p < ids.length ∧ ∀ s ∈ S, inR s.2.1 p = false) := fun {ids L last} h p => by
    rw [h.free]
    constructor
    · rintro ⟨a, b, c⟩
      refine ⟨a, b, fun s hs => ?_⟩
      cases hb : inR s.2.1 p with
      | false => rfl
      | true => have := h.span s hs; have := this.2.2.2 p hb; omega
    · rintro ⟨a, b, c⟩
      refine ⟨a, b, Classical.byContradiction fun hne => ?_⟩
      obtain ⟨s, hs, hsp⟩ := h.all p a b hne
      rw [c s hs] at hsp; cases hsp
  refine canon_unique (q := 1024) L L' h.canon h'.canon (fun p => ?_)
  rw [key h p, key h' p, hl]
theorem made_twin {ids ids' : List Int} {L L' : List Rn} {S : List Sp} {last : Nat} {n ord t : Int} {f : Int → Bool} (hT : Twin L f) (hM : Made ids L S last n ord t L' ids') (ht : (bestF L n).1 = t) (hp : 0 < (bestF L n).2) :
    Twin L' (putB f [(t, n)] false).1 := by
  rcases twin_take (n := n) hT with ⟨hb, _⟩ | ⟨_, _, _, _, _, L2, f2, e1, e2, e3⟩
  · rw [hb] at hp; exact absurd hp (by decide)
  · rw [hM.take] at e1
    rw [ht] at e2
    have : L' = L2 := (Prod.mk.inj e1).1
    rw [e2, this]; exact e3
theorem leftD_snoc (S : List Sp) (l : List Int) (k : Int) : (leftD S l).filter (fun s => !decide (s.1 ∈ [k])) = leftD S (l ++ [k]) := by
  unfold leftD
  rw [List.filter_filter]
  refine List.filter_congr (fun s _ => ?_)
  by_cases h1 : s.1 ∈ l <;> by_cases h2 : s.1 = k <;> simp [h1, h2]
theorem drop_twin {ids : List Int} {L : List Rn} {S : List Sp} {last : Nat} {f : Int → Bool} (hI : HInv ids L S last) (hT : Twin L f) :
    ∀ l : List Int, FreeOk S l → ∃ ids1 L1, HInv ids1 L1 (leftD S l) last ∧ ids1.length = ids.length ∧ Twin L1 (dropB f S l) := by
  intro l
  induction hn : l.length generalizing l with
  | zero =>
    intro _
    have : l = [] := List.eq_nil_of_length_eq_zero hn
    subst this
    exact ⟨ids, L, by rw [leftD_nil]; exact hI, rfl, by rw [dropB_nil]; exact hT⟩
  | succ m ih =>
    intro hok
    obtain ⟨l', k, rfl⟩ : ∃ l' k, l = l' ++ [k] := by
      rcases List.eq_nil_or_concat l with h | ⟨l', k, h⟩
      · rw [h] at hn; simp at hn
      · exact ⟨l', k, by simpa using h⟩
    have hok' : FreeOk S l' := ⟨fun j hj => hok.1 j (by simp [hj]), (List.nodup_append.1 hok.2).1⟩
    obtain ⟨ids1, L1, h1, h2, h3⟩ := ih l' (by simp at hn; omega) hok'
    have hk := hok.1 k (by simp)
    obtain ⟨s, hs⟩ := Option.isSome_iff_exists.1 hk
    have hkl : k ∉ l' := fun h => (List.nodup_append.1 hok.2).2.2 k h k (by simp) rfl
    obtain ⟨hsm, hsk⟩ := getS_mem hs
    have hsl : s ∈ leftD S l' := List.mem_filter.2 ⟨hsm, by rw [hsk]; simpa using hkl⟩
    have hg : getS (leftD S l') k = some s := by rw [← hsk]; exact getS_of_mem h1.nd hsl
    obtain ⟨L2, ids2, hF⟩ := h1.freed (l := [k]) (fun j hj => by simp at hj; subst hj; rw [hg]; rfl) (by simp)
    have e0 : runsOf (leftD S l') [k] = [s.2.1] := by simp [runsOf, hg]
    have hadd := hF.add
    rw [e0] at hadd
    obtain ⟨L3, f3, q, e1, e2, e3⟩ := twin_add (l := [s.2.1]) h3
    rw [hadd] at e1
    have : L2 = L3 := (Prod.mk.inj e1).1
    subst this
    refine ⟨ids2, L2, by rw [← leftD_snoc]; exact hF.inv, hF.len.trans h2, ?_⟩
    rw [dropB_snoc hs, e2]; exact e3
theorem freed_twin {ids ids' : List Int} {L L' : List Rn} {S : List Sp} {last : Nat} {f : Int → Bool} {l : List Int} (hI : HInv ids L S last) (hT : Twin L f) (hok : FreeOk S l) (hF : Freed ids L S last l L' ids') : Twin L' (dropB f S l) := by
  obtain ⟨ids1, L1, h1, h2, h3⟩ := drop_twin hI hT l hok
  have : L1 = L' := h1.unique (by have := hF.inv; exact this) (h2.trans hF.len.symm)
  subst this; exact h3
/-- Find. -/
theorem find_get {S : List Sp} (k : Int) : (idxF (fun s : Sp => decide (s.1 = k)) S = -1 ∧ getS S k = none) ∨ ∃ j, ∃ h : j < S.length, idxF (fun s : Sp => decide (s.1 = k)) S = j ∧ ((S.map (·.1)).Nodup → getS S k = some S[j]) := by
  rcases idxF_or (fun s : Sp => decide (s.1 = k)) S with ⟨j, hj, hx, hjs⟩ | ⟨hx, hno⟩
  · exact .inr ⟨j, hj, hx, fun hd => by have h1 : S[j].1 = k := by simpa using hjs
                                        rw [← h1]; exact getS_of_mem hd (List.getElem_mem hj)⟩
  · exact .inl ⟨hx, getS_none.2 (fun s hs => by simpa using hno s hs)⟩
/-- Spans. -/
theorem bucket_sorted (S : List Sp) : ∀ p : Nat, (bucketS S p).Pairwise (fun a b => a.2.1.1 ≤ b.2.1.1) ∧ ∀ s ∈ bucketS S p, s.2.1.1 < (p : Int)
  | 0 => by simp [bucketS]
  | p + 1 => by
    obtain ⟨h1, h2⟩ := bucket_sorted S p
    rw [bucketS_succ]
    refine ⟨List.pairwise_append.2 ⟨h1, ?_, fun a ha b hb => ?_⟩, fun s hs => ?_⟩
    · refine List.pairwise_iff_getElem.2 (fun i j hi hj hij => ?_)
      have a1 := (List.mem_filter.1 (List.getElem_mem hi)).2
      have a2 := (List.mem_filter.1 (List.getElem_mem hj)).2
      simp only [decide_eq_true_eq] at a1 a2
      omega
    · have a1 := h2 a ha
      have a2 := (List.mem_filter.1 hb).2
      simp only [decide_eq_true_eq] at a2
      omega
    · rcases List.mem_append.1 hs with hs | hs
      · have := h2 s hs; omega
      · have a2 := (List.mem_filter.1 hs).2
        simp only [decide_eq_true_eq] at a2
        omega
theorem bucket_all {ids : List Int} {L : List Rn} {S : List Sp} {last : Nat} (h : HInv ids L S last) : SortedSpans S (bucketS S ids.length) := by
  refine ⟨(bucketS_perm S ids.length).trans (.of_eq (List.filter_eq_self.2 (fun s hs => ?_))), fun i j hij hj => List.pairwise_iff_getElem.1 (bucket_sorted S ids.length).1 i j (by omega) hj hij⟩
  have := there_iff.1 (h.span s hs).2.2.1
  simp; omega
theorem bucket_eq {ids : List Int} {L : List Rn} {S zs : List Sp} {last : Nat} (h : HInv ids L S last) (hz : SortedSpans S zs) : bucketS S ids.length = zs :=
  sorted_unique h (List.Perm.refl _) (bucket_all h) hz
end Go.Proofs.YtbldidlbhahciaaGreat

namespace Go.Proofs.YtbldidlbhahciaaGreat
open Go.RowKit

theorem BitsO.fr1 {Q : Nat → Prop} {w w' : World} {g fc : Nat} {f : Int → Bool} (h : BitsO w (.slice (some ⟨g, 0, none⟩) 1024 fc) f) (k : Fr Q w w') (hQ : ¬ Q g) : BitsO w' (.slice (some ⟨g, 0, none⟩) 1024 fc) f := by
  obtain ⟨⟨b, o, c', e', h1⟩, g', c, cur, e, h2⟩ := h
  simp only [Value.slice.injEq, Option.some.injEq, Addr.mk.injEq, and_true, true_and] at e e'
  obtain ⟨rfl, rfl⟩ := e
  obtain ⟨⟨rfl, rfl⟩, rfl⟩ := e'
  exact ⟨⟨_, _, _, rfl, fun p hp => k.cell (h1 p hp) hQ⟩, _, _, _, rfl, k.heap h2 hQ⟩
theorem RefH.fr {Q : Nat → Prop} {w w' : World} {g fc : Nat} {f : Int → Bool} {a : Option Addr} {c : Nat} {S : List Sp} (h : RefH w g fc f a c S) (k : Fr Q w w') (h1 : ¬ Q g) (h2 : ∀ p, a = some p → S ≠ [] → ¬ Q p.block) : RefH w' g fc f a c S := by
  refine ⟨h.bits.fr1 k h1, ?_, h.nil, h.cap⟩
  by_cases he : S = []
  · exact .inl he
  · exact h.sp.fr7 k (fun p hp => h2 p hp he)
theorem RefH.old {w : World} {g fc : Nat} {f : Int → Bool} {a : Option Addr} {c : Nat} {S : List Sp} (h : RefH w g fc f a c S) : g < w.heap.size := by
  obtain ⟨_, g', c', cur, e, h2⟩ := h.bits
  simp only [Value.slice.injEq, Option.some.injEq, Addr.mk.injEq, and_true, true_and] at e
  obtain ⟨rfl, _⟩ := e
  exact heap_lt h2
theorem twin_start {P : Nat} (h1 : 4 ≤ P) (h2 : P ≤ 1024) : Twin [(0, (P : Int))] (putB (fun _ => false) [(0, (P : Int))] true).1 := by
  obtain ⟨L, f, k, e1, e2, e3⟩ := twin_add (l := [(0, (P : Int))]) Twin.nil
  rw [addR_whole h1 h2] at e1
  rw [e2]
  have : [(0, (P : Int))] = L := (Prod.mk.inj e1).1
  rw [this]; exact e3
theorem RefH.lt {w : World} {g fc : Nat} {f : Int → Bool} {a : Option Addr} {c : Nat} {S : List Sp} (h : RefH w g fc f a c S) (hS : S ≠ []) : ∀ p, a = some p → p.block < w.heap.size := fun p hp => by
  rcases h.sp with h9 | ⟨b, o, e, h9⟩
  · exact absurd h9 hS
  · rw [hp] at e; cases e
    exact World.block_lt_of_cell? _ _ (h9 0 (List.length_pos_iff.2 hS) 0 _ rfl)
/-- What the twin's Drop does. -/
def DropR7 (S : List Sp) (f : Int → Bool) (l : List Int) (en : Int) (S' : List Sp) (f' : Int → Bool) : Prop :=
  (FreeOk S l ∧ en = 0 ∧ S' = leftD S l ∧ f' = dropB f S l) ∨ (¬ FreeOk S l ∧ en = 6 ∧ S' = S ∧ f' = f)
theorem DropR7.ne {S S' : List Sp} {f f' : Int → Bool} {l : List Int} {en : Int} (h : DropR7 S f l en S' f') (hS : S' ≠ []) : S ≠ [] := by
  rcases h with ⟨_, _, h1, _⟩ | ⟨_, _, h1, _⟩
  · intro e; rw [e] at h1; exact hS (by rw [h1]; rfl)
  · rw [← h1]; exact hS
/-- What the twin's Make does. -/
def MakeR7 (L : List Rn) (S : List Sp) (f : Int → Bool) (last : Nat) (n ord : Int) (s : Sp) (en : Int) (S' : List Sp) (last' : Nat) (f' : Int → Bool) : Prop :=
  ((n < 1 ∨ ord < -1 ∨ 4 ≤ ord) ∧ s = sp0 ∧ en = 1 ∧ S' = S ∧ last' = last ∧ f' = f) ∨
  (¬ (n < 1 ∨ ord < -1 ∨ 4 ≤ ord) ∧ ¬ 0 < (bestF L n).2 ∧ s = sp0 ∧ en = 3 ∧ S' = S ∧ last' = last ∧ f' = f) ∨
  (¬ (n < 1 ∨ ord < -1 ∨ 4 ≤ ord) ∧ 0 < (bestF L n).2 ∧ s = ((last : Int) + 1, ((bestF L n).1, n), ord) ∧ en = 0 ∧ S' = S ++ [s] ∧ last' = last + 1 ∧ f' = (putB f [((bestF L n).1, n)] false).1)
/-- The twin's answer lies in a box. -/
def TurnBox (P : Nat) (W wx : World) (s14 : Value) (last' : Nat) (a : Option Addr) (S' : List Sp) (f' : Int → Bool) : Prop :=
  ∃ nb g' fc' a' c', s14 = .pointer (some ⟨nb, 0, none⟩) ∧ wx.heap[nb]? = some (.cells #[.int .i64 (P : Int), .slice (some ⟨g', 0, none⟩) 1024 fc', .slice a' S'.length c', .int .i64 (last' : Int)] 44 (0, 0)) ∧
    RefH wx g' fc' f' a' c' S' ∧ Bel W wx ∧ W.heap.size ≤ nb ∧ (a' = a ∨ ∃ p, a' = some p ∧ W.heap.size ≤ p.block)
/-- The twin's answer lies in two boxes. -/
def TurnBox2 (P : Nat) (W wx : World) (v16 v17 v18 : Value) (s1 s2 s3 s4 en : Int) (last' : Nat) (a : Option Addr) (S S' : List Sp) (f' : Int → Bool) : Prop :=
  ∃ nb nc g' fc' a' c', v16 = .pointer (some ⟨nb, 0, none⟩) ∧ v17 = .pointer (some ⟨nc, 0, none⟩) ∧ v18 = .int .i64 en ∧
    (wx.cell? ⟨nb, 0, none⟩ = some (.int .i64 (P : Int)) ∧ wx.cell? ⟨nb, 1, none⟩ = some (.slice (some ⟨g', 0, none⟩) 1024 fc') ∧ wx.cell? ⟨nb, 2, none⟩ = some (.slice a' S'.length c') ∧ wx.cell? ⟨nb, 3, none⟩ = some (.int .i64 (last' : Int))) ∧
    (wx.cell? ⟨nc, 0, none⟩ = some (.int .i64 s1) ∧ wx.cell? ⟨nc, 1, none⟩ = some (.int .i64 s2) ∧ wx.cell? ⟨nc, 2, none⟩ = some (.int .i64 s3) ∧ wx.cell? ⟨nc, 3, none⟩ = some (.int .i64 s4)) ∧
    RefH wx g' fc' f' a' c' S' ∧ Bel W wx ∧ W.heap.size ≤ nb ∧ W.heap.size ≤ nc ∧ ((a' = a ∧ S' = S) ∨ ∃ p, a' = some p ∧ W.heap.size ≤ p.block)
theorem turnBox2_of {P : Nat} {W V w7 wx : World} {nb nc g' fc' c' last' : Nat} {s1 s2 s3 s4 en : Int} {a a' : Option Addr} {c : Nat} {g fc : Nat} {f : Int → Bool} {S S' : List Sp} {f' : Int → Bool} {TH TS : TypeId} {Q : Nat → Prop} {v16 v17 v18 : Value} (hS : RefH W g fc f a c S)
    (e16 : v16 = .pointer (some ⟨nb, 0, none⟩)) (e17 : v17 = .pointer (some ⟨nc, 0, none⟩)) (e18 : v18 = .int .i64 en)
    (h16 : wx.heap[nb]? = some (.cells #[.int .i64 (P : Int), .slice (some ⟨g', 0, none⟩) 1024 fc', .slice a' S'.length c', .int .i64 (last' : Int)] TH (0, 0))) (h17 : wx.heap[nc]? = some (.cells #[.int .i64 s1, .int .i64 s2, .int .i64 s3, .int .i64 s4] TS (0, 0)))
    (hF : Fr Q w7 wx) (hQ : ∀ k, Q k → W.heap.size ≤ k ∧ k < V.heap.size ∧ ∃ cs T, w7.heap[k]? = some (.cells cs T (0, 0)) ∧ T ≠ 4) (hV : Bel W V) (hR : RefH w7 g' fc' f' a' c' S') (hB : Bel W w7) (hn : W.heap.size ≤ nb) (hn2 : W.heap.size ≤ nc)
    (hfr : (a' = a ∧ S' = S) ∨ ∃ p, a' = some p ∧ V.heap.size ≤ p.block) : TurnBox2 P W wx v16 v17 v18 s1 s2 s3 s4 en last' a S S' f' := by
  obtain ⟨cur, hg⟩ : ∃ cur, w7.heap[g']? = some (.cells cur 4 (0, 0)) := by
    obtain ⟨_, g9, c9, cur, e, h2⟩ := hR.bits
    simp only [Value.slice.injEq, Option.some.injEq, Addr.mk.injEq, and_true, true_and] at e
    obtain ⟨rfl, _⟩ := e
    exact ⟨cur, h2⟩
  obtain ⟨p0, p1, p2, p3⟩ := four_cells h16
  refine ⟨nb, nc, g', fc', a', c', e16, e17, e18, ⟨p0, p1, p2, p3⟩, four_cells h17, hR.fr hF (fun h9 => ?_) (fun p hp hne h9 => ?_), Fr.bel ((Fr.of_bel hB).trans' hF) (fun k hk => (hQ k hk).1), hn, hn2, ?_⟩
  · obtain ⟨_, _, cs, T, h1, h2⟩ := hQ _ h9
    rw [hg] at h1; simp at h1; exact h2 h1.2.symm
  · rcases hfr with ⟨h1, h2⟩ | ⟨q, h1, h2⟩
    · have := hS.lt (by rw [← h2]; exact hne) p (by rw [← h1]; exact hp)
      have := (hQ _ h9).1
      omega
    · rw [hp] at h1; cases h1
      have := (hQ _ h9).2.1
      omega
  · rcases hfr with h1 | ⟨q, h1, h2⟩
    · exact .inl h1
    · exact .inr ⟨q, h1, Nat.le_trans hV.size h2⟩
theorem turnBox_set {P : Nat} {W w7 : World} {nb g' fc' c' last' : Nat} {z0 z1 z2 z3 : Value} {a a' : Option Addr} {S' : List Sp} {f' : Int → Bool} (hb : w7.heap[nb]? = some (.cells #[z0, z1, z2, z3] 44 (0, 0))) (hR : RefH w7 g' fc' f' a' c' S') (hB : Bel W w7) (hn : W.heap.size ≤ nb)
    (ha : ∀ p, a' = some p → S' ≠ [] → p.block ≠ nb) (hfr : a' = a ∨ ∃ p, a' = some p ∧ W.heap.size ≤ p.block) :
    TurnBox P W ((((w7.setCell ⟨nb, 0, none⟩ (.int .i64 (P : Int))).setCell ⟨nb, 1, none⟩ (.slice (some ⟨g', 0, none⟩) 1024 fc')).setCell ⟨nb, 2, none⟩ (.slice a' S'.length c')).setCell ⟨nb, 3, none⟩ (.int .i64 (last' : Int))) (.pointer (some ⟨nb, 0, none⟩)) last' a S' f' := by
  have hF := fr_four w7 nb (.int .i64 (P : Int)) (.slice (some ⟨g', 0, none⟩) 1024 fc') (.slice a' S'.length c') (.int .i64 (last' : Int))
  obtain ⟨cur, hg⟩ : ∃ cur, w7.heap[g']? = some (.cells cur 4 (0, 0)) := by
    obtain ⟨_, g9, c9, cur, e, h2⟩ := hR.bits
    simp only [Value.slice.injEq, Option.some.injEq, Addr.mk.injEq, and_true, true_and] at e
    obtain ⟨rfl, _⟩ := e
    exact ⟨cur, h2⟩
  exact ⟨nb, g', fc', a', c', rfl, four_set hb _ _ _ _, hR.fr hF (fun e => by rw [e, hb] at hg; simp at hg) ha, Fr.bel ((Fr.of_bel hB).trans' hF) (fun k hk => by subst hk; exact hn), hn, hfr⟩
theorem LiveH.add_bool {w0 : World} {N : Nat → Prop} {w : World} {h bi g : Nat} {L : List Rn} {ids : List Int} {S : List Sp} {last : Nat} {cur : Array Value} (H : LiveH w0 N w h bi L ids S last) (hg : w.heap[g]? = some (.cells cur 4 (0, 0))) : LiveH w0 (fun i => N i ∨ i = g) w h bi L ids S last := by
  obtain ⟨rb, v, bx, bm, h1, h2⟩ := H.at_
  refine ⟨⟨rb, v, bx, bm, h1, fun k hk => ⟨(h2 k hk).1, ?_⟩⟩, H.bel, fun k hk => ?_⟩
  · rintro (h9 | h9)
    · exact (h2 k hk).2 h9
    · subst h9
      rcases hk with e | e | e | e | e | e
      · subst e; rw [h1.hd] at hg; simp at hg
      · subst e; rw [h1.free.hd] at hg; simp at hg
      · obtain ⟨c2, hc2⟩ := own_type h1.free.own e; rw [hc2] at hg; simp at hg
      · subst e; rw [h1.index.hd] at hg; simp at hg
      · subst e; rw [h1.index.nums] at hg; simp at hg
      · subst e
        obtain ⟨es, ck, hm⟩ := h1.spans.map?
        rw [hm] at hg; simp at hg
  · rcases hk with hk | hk
    · exact H.keep k hk
    · subst hk; exact heap_lt hg
theorem RefH.blk {w : World} {g fc : Nat} {f : Int → Bool} {a : Option Addr} {c : Nat} {S : List Sp} (h : RefH w g fc f a c S) : ∃ cur, w.heap[g]? = some (.cells cur 4 (0, 0)) := by
  obtain ⟨_, g', c', cur, e, h2⟩ := h.bits
  simp only [Value.slice.injEq, Option.some.injEq, Addr.mk.injEq, and_true, true_and] at e
  obtain ⟨rfl, _⟩ := e
  exact ⟨cur, h2⟩
/-- Heap and twin agree. -/
structure PlayAt (w : World) (P B h bi : Nat) (N : Nat → Prop) (L : List Rn) (ids : List Int) (S : List Sp) (last g fc : Nat) (a : Option Addr) (c : Nat) (f : Int → Bool) (wr : World) : Prop where
  live : LiveH w N wr h bi L ids S last
  len : ids.length = P
  twin : Twin L f
  ref : RefH wr g fc f a c S
  box : wr.heap[B]? = some (.cells #[.int .i64 P, .slice (some ⟨g, 0, none⟩) 1024 fc, .slice a S.length c, .int .i64 (last : Int)] 44 (0, 0))
  nB : N B
  ng : N g
  na : ∀ p, a = some p → S ≠ [] → N p.block
  wB : w.heap.size ≤ B
  aB : ∀ p, a = some p → S ≠ [] → p.block ≠ B
def PlayWay (w : World) (P B h : Nat) (i : Nat) (wr : World) : Prop :=
  ∃ bi N L ids S last g fc a c f, last ≤ i ∧ PlayAt w P B h bi N L ids S last g fc a c f wr
/-- The twin has turned, and its box holds it; then the heap turns. -/
theorem PlayAt.turned {w : World} {P B h bi : Nat} {N : Nat → Prop} {L : List Rn} {ids : List Int} {S S' : List Sp} {last last' g fc g' fc' : Nat} {a a' : Option Addr} {c c' : Nat} {f f' : Int → Bool} {wr w1 w2 : World}
    (H : PlayAt w P B h bi N L ids S last g fc a c f wr) (hB1 : Bel wr w1) (hR : RefH w1 g' fc' f' a' c' S') (ha : (a' = a ∧ (S' ≠ [] → S ≠ [])) ∨ ∃ p, a' = some p ∧ wr.heap.size ≤ p.block)
    (h2 : Fr (fun k => k = B) w1 w2) (hb : w2.heap[B]? = some (.cells #[.int .i64 P, .slice (some ⟨g', 0, none⟩) 1024 fc', .slice a' S'.length c', .int .i64 (last' : Int)] 44 (0, 0))) :
    ∃ N', LiveH w N' w2 h bi L ids S last ∧ (∀ i, N i ∨ (wr.heap.size ≤ i ∧ i < w1.heap.size) → N' i) ∧ N' g' ∧ (∀ p, a' = some p → S' ≠ [] → N' p.block) ∧ RefH w2 g' fc' f' a' c' S' ∧ (∀ p, a' = some p → S' ≠ [] → p.block ≠ B) := by
  have hlt := heap_lt H.box
  have hne : ∀ p, a' = some p → S' ≠ [] → p.block ≠ B := fun p hp hS => by
    rcases ha with ⟨e, hSa⟩ | ⟨q, e, hq⟩
    · exact H.aB p (by rw [← e]; exact hp) (hSa hS)
    · rw [hp] at e; cases e; omega
  obtain ⟨cur, hg⟩ := hR.blk
  have hgB : g' ≠ B := fun e => by rw [e, hB1.blk H.box] at hg; simp at hg
  have hl1 := (H.live.watch hB1 (fun i => wr.heap.size ≤ i ∧ i < w1.heap.size) (fun i hi => hi)).add_bool hg
  have hl2 := hl1.fr h2 (fun i hi => ⟨.inl (.inl (by rw [hi]; exact H.nB)), by rw [hi]; exact H.wB⟩)
  refine ⟨_, hl2, fun i hi => .inl hi, .inr rfl, fun p hp hS => ?_, hR.fr h2 hgB hne, hne⟩
  rcases ha with ⟨e, hSa⟩ | ⟨q, e, hq⟩
  · exact .inl (.inl (H.na p (by rw [← e]; exact hp) (hSa hS)))
  · rw [hp] at e; cases e
    exact .inl (.inr ⟨hq, hR.lt hS p hp⟩)
theorem PlayAt.freed {w : World} {P B h bi : Nat} {N : Nat → Prop} {L L' : List Rn} {ids ids' : List Int} {S S' S2 : List Sp} {last g fc : Nat} {a : Option Addr} {c : Nat} {f f' : Int → Bool} {wr : World} {l : List Int} {en en2 : Int}
    (H : PlayAt w P B h bi N L ids S last g fc a c f wr) (hD : DropR7 S f l en S' f') (hF : FreeR ids L S last l en2 L' ids' S2) : en2 = en ∧ S2 = S' ∧ Twin L' f' ∧ ids'.length = ids.length := by
  rcases hD with ⟨h1, rfl, rfl, rfl⟩ | ⟨h1, rfl, rfl, rfl⟩
  · rcases hF with ⟨_, h3, h4, h5⟩ | ⟨h2, _⟩
    · exact ⟨h3, h5, freed_twin H.live.inv H.twin h1 h4, h4.len⟩
    · exact absurd h1 h2
  · rcases hF with ⟨h2, _⟩ | ⟨_, h3, h4, h5, h6⟩
    · exact absurd h2 h1
    · exact ⟨h3, h6, by rw [h4]; exact H.twin, by rw [h5]⟩
theorem made_same {ids ids' : List Int} {L L' : List Rn} {S S' S2 : List Sp} {last last' last2 : Nat} {n ord en en7 : Int} {s s7 : Sp} {f f' : Int → Bool} (hT : Twin L f) (h : MakeR ids L S last n ord s en L' ids' S2 last2) (h7 : MakeR7 L S f last n ord s7 en7 S' last' f') :
    s = s7 ∧ en = en7 ∧ S2 = S' ∧ last2 = last' ∧ Twin L' f' ∧ ids'.length = ids.length := by
  rcases h with ⟨c, rfl, rfl, rfl, rfl, rfl, rfl⟩ | ⟨c1, c2, c3, hb, rfl, rfl, rfl, rfl, rfl, rfl⟩ | ⟨c1, c2, c3, t, hM, ht, hp, rfl, rfl, rfl, rfl⟩
  · rcases h7 with ⟨_, rfl, rfl, rfl, rfl, rfl⟩ | ⟨d, _⟩ | ⟨d, _⟩
    · exact ⟨rfl, rfl, rfl, rfl, hT, rfl⟩
    · exact absurd c d
    · exact absurd c d
  · rcases h7 with ⟨d, _⟩ | ⟨_, _, rfl, rfl, rfl, rfl, rfl⟩ | ⟨_, d, _⟩
    · omega
    · exact ⟨rfl, rfl, rfl, rfl, hT, rfl⟩
    · rw [hb] at d; exact absurd d (by decide)
  · rcases h7 with ⟨d, _⟩ | ⟨_, d, _⟩ | ⟨_, _, rfl, rfl, rfl, rfl, rfl⟩
    · omega
    · exact absurd hp d
    · subst ht
      exact ⟨rfl, rfl, rfl, rfl, made_twin hT hM rfl hp, hM.len⟩
theorem MakeR7.last {L : List Rn} {S : List Sp} {f : Int → Bool} {last : Nat} {n ord : Int} {s : Sp} {en : Int} {S' : List Sp} {last' : Nat} {f' : Int → Bool} (h : MakeR7 L S f last n ord s en S' last' f') : last' ≤ last + 1 := by
  rcases h with ⟨_, _, _, _, h, _⟩ | ⟨_, _, _, _, _, h, _⟩ | ⟨_, _, _, _, _, h, _⟩ <;> omega
/-- Behind Make: the answer lies in a box. -/
def MadePost (w W2 wx : World) (N' : Nat → Prop) (P h bi : Nat) (v19 v20 : Value) (s1 s2 s3 s4 en : Int) (S' : List Sp) (last' : Nat) (f' : Int → Bool) : Prop :=
  ∃ xb N'' L' ids', v19 = .pointer (some ⟨xb, 0, none⟩) ∧ v20 = .int .i64 en ∧ wx.heap[xb]? = some (.cells #[.int .i64 s1, .int .i64 s2, .int .i64 s3, .int .i64 s4] 33 (0, 0)) ∧ (∀ i, N' i → N'' i) ∧ LiveH w N'' wx h bi L' ids' S' last' ∧ Twin L' f' ∧ ids'.length = P ∧ Fr (fun k => ¬ N' k) W2 wx
theorem madePost_mk {w W2 V w9 wx : World} {N' Q : Nat → Prop} {P h bi xb : Nat} {v19 v20 : Value} {s1 s2 s3 s4 en : Int} {L' : List Rn} {ids' : List Int} {S' : List Sp} {last' : Nat} {f' : Int → Bool} (hV : Bel W2 V) (hw : w.heap.size ≤ W2.heap.size) (hLP : LivePostH w (fun i => N' i ∨ (W2.heap.size ≤ i ∧ i < V.heap.size)) V h bi L' ids' S' last' w9) (hT : Twin L' f') (hl : ids'.length = P)
    (e19 : v19 = .pointer (some ⟨xb, 0, none⟩)) (e20 : v20 = .int .i64 en) (hx : wx.heap[xb]? = some (.cells #[.int .i64 s1, .int .i64 s2, .int .i64 s3, .int .i64 s4] 33 (0, 0))) (hF : Fr Q w9 wx) (hQ : ∀ k, Q k → W2.heap.size ≤ k ∧ k < V.heap.size) : MadePost w W2 wx N' P h bi v19 v20 s1 s2 s3 s4 en S' last' f' :=
  ⟨xb, _, L', ids', e19, e20, hx, fun i hi => .inl hi, hLP.1.fr hF (fun i hi => ⟨.inr (hQ i hi), Nat.le_trans hw (hQ i hi).1⟩), hT, hl,
    ((Fr.of_bel (S := fun k => ¬ N' k) hV).trans' (hLP.2.mono (fun k hk h9 => hk (.inl h9)))).trans hF (fun k hk => .inr (hQ k hk).1)⟩
theorem liveH_Span {w0 : World} {N : Nat → Prop} {w : World} {h bi : Nat} {L : List Rn} {ids : List Int} {S : List Sp} {last : Nat} (H : LiveH w0 N w h bi L ids S last) (k : Int) (hk : (Lit.int .i64 k).wf = true) :
    ∀ V, Bel w V → Calls Tryz.prog 61 #[.pointer (some ⟨h, 0, none⟩), .int .i64 k] V fun e V' => e = .returned (.tuple #[spV ((getS S k).getD sp0), .bool (getS S k).isSome]) ∧ Bel V V' := by
  obtain ⟨rb, v, bx, bm, h1, h2⟩ := H.at_
  exact fun V hV => heap_Span V (h1.bel hV) k hk
end Go.Proofs.YtbldidlbhahciaaGreat
