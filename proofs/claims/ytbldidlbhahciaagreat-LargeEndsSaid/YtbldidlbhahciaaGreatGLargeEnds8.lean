/- append of spans, at a step of a region that draws its order. Cells that are set in a row, told of whole blocks; append where there is room. What lies in blocks that stand; what a nil heap answers. A live heap, told by plain functions. A heap as plain functions: its pages, its spans, its last number. Spans that go, in plain Lean. -/
import Derived.Test.YtbldidlbhahciaaGreatGLargeEnds7
import Derived.Test.YtbldidlbhahciaaGreatGLargeEnds4
import Derived.Test.YtbldidlbhahciaaGreatGLargeEnds3
import Derived.Maps.AppendAt
import Derived.Deep.AppendLies
import Derived.Laws.AppendOwnNone
set_option linter.unusedVariables false
set_option linter.unusedSimpArgs false
namespace Go.Proofs.YtbldidlbhahciaaGreat
open Go.RowKit

/-- No spans: all pages are one run. -/
theorem HInv.empty {ids : List Int} {L : List Rn} {last : Nat} (h : HInv ids L [] last) : L = [(0, (ids.length : Int))] := by
  have hlo := h.lo
  have hhi := h.hi
  refine canon_unique (q := 1024) L _ h.canon (HInv.start hlo hhi).canon (fun p => ?_)
  rw [h.free, inL_one]
  constructor
  · rintro ⟨a, b, _⟩; omega
  · rintro ⟨a, b⟩
    refine ⟨a, by omega, Classical.byContradiction fun hne => ?_⟩
    obtain ⟨s, hs, _⟩ := h.all p a (by omega) hne
    simp at hs
theorem FreeR.len {ids ids' : List Int} {L L' : List Rn} {S S' : List Sp} {last : Nat} {l : List Int} {en : Int} (h : FreeR ids L S last l en L' ids' S') : ids'.length = ids.length := by
  rcases h with ⟨_, _, h, _⟩ | ⟨_, _, _, h, _⟩
  · exact h.len
  · rw [h]
theorem MakeR.len {ids ids' : List Int} {L L' : List Rn} {S S' : List Sp} {last last' : Nat} {n ord en : Int} {s : Sp} (h : MakeR ids L S last n ord s en L' ids' S' last') : ids'.length = ids.length := by
  rcases h with ⟨_, _, _, _, h, _⟩ | ⟨_, _, _, _, _, _, _, h, _⟩ | ⟨_, _, _, t, h, _⟩
  · rw [h]
  · rw [h]
  · exact h.len
theorem fr_row {w w' : World} {row : Option Nat} (h : w.grownBy w' row) : Fr (fun k => row = some k) w w' :=
  ⟨h.os, h.tape, h.output, h.size, fun k hk hn => h.block k hk (fun e => hn e.symm)⟩
/-- What is left of spans when some have gone. -/
def leftS (S : List Sp) (T : List Int) : List Sp := S.filter fun s => !decide (s.1 ∈ T)
theorem leftS_nil (S : List Sp) : leftS S [] = S := by unfold leftS; simp
theorem leftS_step (S : List Sp) (T : List Int) (k : Int) : (leftS S T).filter (fun s => !decide (s.1 ∈ [k])) = leftS S (T ++ [k]) := by
  unfold leftS
  rw [List.filter_filter]
  refine List.filter_congr (fun s _ => ?_)
  simp only [List.mem_append, List.mem_cons, List.not_mem_nil, or_false]
  by_cases h1 : s.1 ∈ T <;> by_cases h2 : s.1 = k <;> simp [h1, h2]
theorem leftS_all {S : List Sp} {T : List Int} (h : ∀ s ∈ S, s.1 ∈ T) : leftS S T = [] := by
  unfold leftS
  rw [List.filter_eq_nil_iff]
  intro s hs; simp [h s hs]
/-- One that is there goes. -/
theorem free_one {ids ids' : List Int} {L L' : List Rn} {S S' : List Sp} {last : Nat} {T : List Int} {k en : Int} (h : FreeR ids L (leftS S T) last [k] en L' ids' S') (hk : ∃ s ∈ S, s.1 = k) (hT : k ∉ T) : en = 0 ∧ S' = leftS S (T ++ [k]) := by
  have hok : FreeOk (leftS S T) [k] := ⟨fun j hj => by
    simp at hj; subst hj
    cases hg : getS (leftS S T) j with
    | some _ => rfl
    | none =>
      obtain ⟨s, hs, rfl⟩ := hk
      exact absurd rfl (getS_none.1 hg s (List.mem_filter.2 ⟨hs, by simpa using hT⟩)), by simp⟩
  rcases h with ⟨_, h1, _, h3⟩ | ⟨h1, _⟩
  · exact ⟨h1, by rw [h3]; exact leftS_step S T k⟩
  · exact absurd hok h1
/-- All that are there go together. -/
theorem free_all {ids ids' : List Int} {L L' : List Rn} {S S' : List Sp} {last : Nat} {T : List Int} {en : Int} (h : FreeR ids L S last T en L' ids' S') (h1 : ∀ k ∈ T, ∃ s ∈ S, s.1 = k) (hn : T.Nodup) : en = 0 ∧ S' = leftS S T := by
  have hok : FreeOk S T := ⟨fun j hj => by
    cases hg : getS S j with
    | some _ => rfl
    | none =>
      obtain ⟨s, hs, he⟩ := h1 j hj
      exact absurd he (getS_none.1 hg s hs), hn⟩
  rcases h with ⟨_, h1, _, h3⟩ | ⟨h1, _⟩
  · exact ⟨h1, h3⟩
  · exact absurd hok h1
/-- The spans' numbers, from the last one on. -/
def idsR (zs : List Sp) : List Int := zs.reverse.map (·.1)
theorem idsR_length (zs : List Sp) : (idsR zs).length = zs.length := by simp [idsR]
theorem idsR_get (zs : List Sp) (i : Nat) (h : i < zs.length) : (idsR zs)[i]'(by rw [idsR_length]; exact h) = (zs[zs.length - 1 - i]'(by omega)).1 := by
  unfold idsR
  rw [List.getElem_map, List.getElem_reverse]
theorem idsR_mem {S zs : List Sp} (hp : zs.Perm S) (k : Int) : k ∈ idsR zs ↔ ∃ s ∈ S, s.1 = k := by
  unfold idsR
  rw [List.mem_map]
  constructor
  · rintro ⟨s, hs, rfl⟩; exact ⟨s, hp.mem_iff.1 (by simpa using hs), rfl⟩
  · rintro ⟨s, hs, rfl⟩; exact ⟨s, by simpa using hp.mem_iff.2 hs, rfl⟩
theorem idsR_nodup {S zs : List Sp} (hp : zs.Perm S) (h : (S.map (·.1)).Nodup) : (idsR zs).Nodup := by
  unfold idsR
  exact ((((List.reverse_perm zs).trans hp).map (·.1)).nodup_iff).2 h

end Go.Proofs.YtbldidlbhahciaaGreat

namespace Go.Proofs.YtbldidlbhahciaaGreat

/-- A heap: how many pages; the spans; the last number. -/
structure Hp where
  P : Nat
  S : List Sp
  last : Nat
def Hp.freeP (h : Hp) (p : Int) : Bool := decide (0 ≤ p) && decide (p < h.P) && !(h.S.any fun s => inR s.2.1 p)
/-- The free runs. -/
def Hp.free (h : Hp) : List Rn := listP h.freeP
def hpNew (P : Nat) : Hp := ⟨P, [], 0⟩
/-- Another span. -/
def Hp.make (h : Hp) (n ord : Int) : Hp × Sp × Int :=
  if n < 1 ∨ ord < -1 ∨ 4 ≤ ord then (h, sp0, 1)
  else if (bestF h.free n).2 ≤ 0 then (h, sp0, 3)
  else (⟨h.P, h.S ++ [((h.last : Int) + 1, ((bestF h.free n).1, n), ord)], h.last + 1⟩, ((h.last : Int) + 1, ((bestF h.free n).1, n), ord), 0)
instance (S : List Sp) (l : List Int) : Decidable (FreeOk S l) := by unfold FreeOk; exact inferInstance
/-- Spans go. -/
def Hp.drop (h : Hp) (l : List Int) : Hp × Int := if FreeOk h.S l then (⟨h.P, leftS h.S l, h.last⟩, 0) else (h, 6)
/-- The pages are as they should be. -/
def HpOk (h : Hp) : Prop := ∃ L ids, HInv ids L h.S h.last ∧ ids.length = h.P
theorem HInv.freeP {ids : List Int} {L : List Rn} {h : Hp} (H : HInv ids L h.S h.last) (hl : ids.length = h.P) (p : Int) : inL L p = true ↔ h.freeP p = true := by
  rw [H.free]
  unfold Hp.freeP
  simp only [Bool.and_eq_true, decide_eq_true_eq, Bool.not_eq_true', List.any_eq_false]
  constructor
  · rintro ⟨a, b, c⟩
    refine ⟨⟨a, by omega⟩, fun s hs hb => ?_⟩
    have := H.span s hs
    have := this.2.2.2 p hb
    omega
  · rintro ⟨⟨a, b⟩, c⟩
    refine ⟨a, by omega, Classical.byContradiction fun hne => ?_⟩
    obtain ⟨s, hs, hsp⟩ := H.all p a (by omega) hne
    exact c s hs hsp
theorem HInv.eq_free {ids : List Int} {L : List Rn} {h : Hp} (H : HInv ids L h.S h.last) (hl : ids.length = h.P) : L = h.free :=
  canon_eq_listP H.canon (fun p _ _ => H.freeP hl p)
theorem hpNew_ok {P : Nat} (h1 : 4 ≤ P) (h2 : P ≤ 1024) : HpOk (hpNew P) := ⟨_, _, HInv.start h1 h2, by simp [hpNew]⟩
/-- What Make does is what is told. -/
theorem MakeR.is {ids ids' : List Int} {L L' : List Rn} {h : Hp} {S' : List Sp} {last' : Nat} {n ord en : Int} {s : Sp} (H : HInv ids L h.S h.last) (hl : ids.length = h.P) (r : MakeR ids L h.S h.last n ord s en L' ids' S' last') :
    h.make n ord = (⟨h.P, S', last'⟩, s, en) ∧ ids'.length = h.P := by
  have e := H.eq_free hl
  unfold Hp.make
  rcases r with ⟨c, rfl, rfl, rfl, rfl, rfl, rfl⟩ | ⟨c1, c2, c3, hb, rfl, rfl, rfl, rfl, rfl, rfl⟩ | ⟨c1, c2, c3, t, hM, ht, hp, rfl, rfl, rfl, rfl⟩
  · rw [if_pos c]; exact ⟨rfl, hl⟩
  · rw [e] at hb
    rw [if_neg (by omega), hb, if_pos (by decide)]; exact ⟨rfl, hl⟩
  · rw [e] at ht hp
    rw [if_neg (by omega), if_neg (by omega), ht]; exact ⟨rfl, hM.len.trans hl⟩
theorem FreeR.is {ids ids' : List Int} {L L' : List Rn} {h : Hp} {S' : List Sp} {l : List Int} {en : Int} (hl : ids.length = h.P) (r : FreeR ids L h.S h.last l en L' ids' S') :
    h.drop l = (⟨h.P, S', h.last⟩, en) ∧ ids'.length = h.P := by
  unfold Hp.drop
  rcases r with ⟨c, rfl, hF, rfl⟩ | ⟨c, rfl, rfl, rfl, rfl⟩
  · rw [if_pos c]; exact ⟨rfl, hF.len.trans hl⟩
  · rw [if_neg c]; exact ⟨rfl, hl⟩
theorem Hp.make_P (h : Hp) (n ord : Int) : (h.make n ord).1.P = h.P := by unfold Hp.make; split; rfl; split <;> rfl
theorem Hp.drop_P (h : Hp) (l : List Int) : (h.drop l).1.P = h.P := by unfold Hp.drop; split <;> rfl
theorem Hp.make_last (h : Hp) (n ord : Int) : (h.make n ord).1.last ≤ h.last + 1 := by
  unfold Hp.make; split
  · exact Nat.le_succ _
  · split
    · exact Nat.le_succ _
    · exact Nat.le_refl _
theorem Hp.drop_last (h : Hp) (l : List Int) : (h.drop l).1.last = h.last := by unfold Hp.drop; split <;> rfl
/-- Make, when it does. -/
theorem Hp.make_ok {h : Hp} {n ord : Int} (e : (h.make n ord).2.2 = 0) : (h.make n ord).1 = ⟨h.P, h.S ++ [(h.make n ord).2.1], h.last + 1⟩ ∧ (h.make n ord).2.1 = ((h.last : Int) + 1, ((bestF h.free n).1, n), ord) := by
  unfold Hp.make at *
  split
  · rename_i c; rw [if_pos c] at e; simp at e
  · rename_i c
    rw [if_neg c] at e
    split
    · rename_i c2; rw [if_pos c2] at e; simp at e
    · exact ⟨rfl, rfl⟩
theorem Hp.make_no {h : Hp} {n ord : Int} (e : (h.make n ord).2.2 ≠ 0) : (h.make n ord).1 = h := by
  unfold Hp.make at *
  split
  · rfl
  · rename_i c
    rw [if_neg c] at e
    split
    · rfl
    · rename_i c2; rw [if_neg c2] at e; exact absurd rfl e
theorem Hp.make_en (h : Hp) (n ord : Int) : (h.make n ord).2.2 = 0 ∨ (h.make n ord).2.2 = 1 ∨ (h.make n ord).2.2 = 3 := by
  unfold Hp.make; split
  · exact .inr (.inl rfl)
  · split
    · exact .inr (.inr rfl)
    · exact .inl rfl
/-- Both hold what they should. -/
theorem HpOk.make {h : Hp} (H : HpOk h) (n ord : Int) : HpOk (h.make n ord).1 := by
  obtain ⟨L, ids, hi, hl⟩ := H
  have e := hi.eq_free hl
  by_cases c : n < 1 ∨ ord < -1 ∨ 4 ≤ ord
  · unfold Hp.make; rw [if_pos c]; exact ⟨L, ids, hi, hl⟩
  · rcases hi.make n ord with ⟨ht, hb⟩ | ⟨t, L', ids', hM, hn, hb1, hb2⟩
    · rw [e] at hb
      unfold Hp.make; rw [if_neg c, hb, if_pos (by decide)]; exact ⟨L, ids, hi, hl⟩
    · rw [e] at hb1 hb2
      unfold Hp.make; rw [if_neg c, if_neg (by omega), hb1]; exact ⟨L', ids', hM.inv, hM.len.trans hl⟩
theorem HpOk.drop {h : Hp} (H : HpOk h) (l : List Int) : HpOk (h.drop l).1 := by
  obtain ⟨L, ids, hi, hl⟩ := H
  unfold Hp.drop
  split
  · rename_i c
    obtain ⟨L', ids', hF⟩ := hi.freed c.1 c.2
    exact ⟨L', ids', hF.inv, hF.len.trans hl⟩
  · exact ⟨L, ids, hi, hl⟩
theorem HpOk.nd {h : Hp} (H : HpOk h) : (h.S.map (·.1)).Nodup := by
  obtain ⟨L, ids, hi, hl⟩ := H
  exact hi.nd
theorem HpOk.count {h : Hp} (H : HpOk h) : h.S.length ≤ h.last := by
  obtain ⟨L, ids, hi, hl⟩ := H
  exact hi.count
theorem HpOk.span {h : Hp} (H : HpOk h) {s : Sp} (hs : s ∈ h.S) : 1 ≤ s.1 ∧ s.1 ≤ h.last ∧ 0 ≤ s.2.1.1 ∧ 1 ≤ s.2.1.2 ∧ s.2.1.1 + s.2.1.2 ≤ h.P := by
  obtain ⟨L, ids, hi, hl⟩ := H
  have h1 := hi.span s hs
  have h2 := there_iff.1 h1.2.2.1
  omega
theorem HpOk.le {h : Hp} (H : HpOk h) : 4 ≤ h.P ∧ h.P ≤ 1024 := by
  obtain ⟨L, ids, hi, hl⟩ := H
  have := hi.lo; have := hi.hi; omega
/-- No spans: all pages are one run. -/
theorem HpOk.empty {h : Hp} (H : HpOk h) (hS : h.S = []) : h.free = [(0, (h.P : Int))] := by
  obtain ⟨L, ids, hi, hl⟩ := H
  rw [← hi.eq_free hl]
  rw [hS] at hi
  rw [hi.empty, hl]
end Go.Proofs.YtbldidlbhahciaaGreat

namespace Go.Proofs.YtbldidlbhahciaaGreat
open Go.RowKit

/-- A heap that the law made, with blocks that are not its own. -/
def LiveG (w0 : World) (N : Nat → Prop) (w : World) (hb bi : Nat) (h : Hp) : Prop := ∃ L ids, LiveH w0 N w hb bi L ids h.S h.last ∧ ids.length = h.P
/-- What an act on it leaves. -/
def LivePostG (w0 : World) (N : Nat → Prop) (w : World) (hb bi : Nat) (h : Hp) (w' : World) : Prop := LiveG w0 N w' hb bi h ∧ Fr (fun k => ¬ N k) w w'
theorem LiveG.then_bel {w0 w w' : World} {N : Nat → Prop} {hb bi : Nat} {h : Hp} (H : LiveG w0 N w hb bi h) (k : Bel w w') : LiveG w0 N w' hb bi h := by
  obtain ⟨L, ids, h1, h2⟩ := H
  exact ⟨L, ids, h1.then_bel k, h2⟩
theorem LiveG.ok {w0 w : World} {N : Nat → Prop} {hb bi : Nat} {h : Hp} (H : LiveG w0 N w hb bi h) : HpOk h := by
  obtain ⟨L, ids, h1, h2⟩ := H
  exact ⟨L, ids, h1.inv, h2⟩
theorem LiveG.bel {w0 w : World} {N : Nat → Prop} {hb bi : Nat} {h : Hp} (H : LiveG w0 N w hb bi h) : Bel w0 w := by
  obtain ⟨L, ids, h1, h2⟩ := H
  exact h1.bel
theorem LiveG.keep {w0 w : World} {N : Nat → Prop} {hb bi : Nat} {h : Hp} (H : LiveG w0 N w hb bi h) : ∀ k, N k → k < w.heap.size := by
  obtain ⟨L, ids, h1, h2⟩ := H
  exact h1.keep
theorem LiveG.watch {w0 w w' : World} {N : Nat → Prop} {hb bi : Nat} {h : Hp} (H : LiveG w0 N w hb bi h) (k : Bel w w') (M : Nat → Prop) (hM : ∀ i, M i → w.heap.size ≤ i ∧ i < w'.heap.size) : LiveG w0 (fun i => N i ∨ M i) w' hb bi h := by
  obtain ⟨L, ids, h1, h2⟩ := H
  exact ⟨L, ids, h1.watch k M hM, h2⟩
theorem LiveG.forget {w0 w : World} {N N' : Nat → Prop} {hb bi : Nat} {h : Hp} (H : LiveG w0 N w hb bi h) (hN : ∀ k, N' k → N k) : LiveG w0 N' w hb bi h := by
  obtain ⟨L, ids, h1, h2⟩ := H
  exact ⟨L, ids, h1.forget hN, h2⟩
theorem LiveG.fr {w0 w w' : World} {N Q : Nat → Prop} {hb bi : Nat} {h : Hp} (H : LiveG w0 N w hb bi h) (k : Fr Q w w') (hQ : ∀ i, Q i → N i ∧ w0.heap.size ≤ i) : LiveG w0 N w' hb bi h := by
  obtain ⟨L, ids, h1, h2⟩ := H
  exact ⟨L, ids, h1.fr k hQ, h2⟩
/-- A block of a type that a heap's blocks don't have. -/
def notHeap (T : Nat) : Prop := T ≠ 74 ∧ T ≠ 110 ∧ T ≠ 31 ∧ T ≠ 113 ∧ T ≠ 3
theorem LiveG.add {w0 w : World} {N : Nat → Prop} {hb bi g T : Nat} {h : Hp} {cur : Array Value} {fz : Nat × Nat} (H : LiveG w0 N w hb bi h) (hg : w.heap[g]? = some (.cells cur T fz)) (hT : notHeap T) : LiveG w0 (fun i => N i ∨ i = g) w hb bi h := by
  obtain ⟨L, ids, H, hl⟩ := H
  obtain ⟨rb, v, bx, bm, h1, h2⟩ := H.at_
  obtain ⟨t1, t2, t3, t4, t5⟩ := hT
  refine ⟨L, ids, ⟨⟨rb, v, bx, bm, h1, fun k hk => ⟨(h2 k hk).1, ?_⟩⟩, H.bel, fun k hk => ?_⟩, hl⟩
  · rintro (h9 | h9)
    · exact (h2 k hk).2 h9
    · subst h9
      rcases hk with e | e | e | e | e | e
      · subst e; rw [h1.hd] at hg; simp at hg; exact t1 hg.2.1.symm
      · subst e; rw [h1.free.hd] at hg; simp at hg; exact t2 hg.2.1.symm
      · obtain ⟨c2, hc2⟩ := own_type h1.free.own e; rw [hc2] at hg; simp at hg; exact t3 hg.2.1.symm
      · subst e; rw [h1.index.hd] at hg; simp at hg; exact t4 hg.2.1.symm
      · subst e; rw [h1.index.nums] at hg; simp at hg; exact t5 hg.2.1.symm
      · subst e
        obtain ⟨es, ck, hm⟩ := h1.spans.map?
        rw [hm] at hg; simp at hg
  · rcases hk with hk | hk
    · exact H.keep k hk
    · subst hk; exact heap_lt hg
/-- Another one's map isn't a heap's if it is younger than it. -/
theorem liveG_new {w w' : World} {n : Nat} {e : Ending} (h : NewH w n e w') : ∃ hb bi, e = .returned (.tuple #[.pointer (some ⟨hb, 0, none⟩), .int .i64 0]) ∧ LiveG w (fun _ => False) w' hb bi (hpNew n) := by
  obtain ⟨hb, bi, e, h1⟩ := liveH_new h
  exact ⟨hb, bi, e, _, _, h1, by simp [hpNew]⟩
theorem LiveG.Make {w0 w : World} {N : Nat → Prop} {hb bi : Nat} {h : Hp} (H : LiveG w0 N w hb bi h) (n ord : Int) (hn : I64 n) (ho : I64 ord) (hl : h.last < 65536) :
    ∀ V, Bel w V → Calls Tryz.prog 33 #[.pointer (some ⟨hb, 0, none⟩), .int .i64 n, .int .i64 ord] V fun e V' => e = .returned (.tuple #[spV (h.make n ord).2.1, .int .i64 (h.make n ord).2.2]) ∧ LivePostG w0 N w hb bi (h.make n ord).1 V' := by
  obtain ⟨L, ids, h1, h2⟩ := H
  obtain ⟨s, en, L', ids', S', last', hR, hC⟩ := liveH_Make h1 n ord hn ho hl
  obtain ⟨e1, e2⟩ := hR.is h1.inv h2
  rw [e1]
  exact fun V hV => (hC V hV).mono fun e V' ⟨a, b⟩ => ⟨a, ⟨L', ids', b.1, e2⟩, b.2⟩
theorem LiveG.Free {w0 w : World} {N : Nat → Prop} {hb bi : Nat} {h : Hp} (H : LiveG w0 N w hb bi h) (l : List Int) (hl : l.length ≤ 1024) (hok : ∀ k ∈ l, (Lit.int .i64 k).wf = true) :
    ∀ V a c, Bel w V → RdV V a (ints l) → Calls Tryz.prog 64 #[.pointer (some ⟨hb, 0, none⟩), .slice a l.length c] V fun e V' => e = .returned (.int .i64 (h.drop l).2) ∧ LivePostG w0 N w hb bi (h.drop l).1 V' := by
  obtain ⟨L, ids, h1, h2⟩ := H
  intro V a c hV hr
  refine (liveH_Free h1 l hl hok V a c hV hr).mono ?_
  rintro e V' ⟨en, L', ids', S', hR, rfl, hP⟩
  obtain ⟨e1, e2⟩ := hR.is h2
  rw [e1]
  exact ⟨rfl, ⟨L', ids', hP.1, e2⟩, hP.2⟩
theorem LiveG.Runs {w0 w : World} {N : Nat → Prop} {hb bi : Nat} {h : Hp} (H : LiveG w0 N w hb bi h) :
    ∀ V, Bel w V → Calls Tryz.prog 27 #[.pointer (some ⟨hb, 0, none⟩)] V (NewRuns V h.free) := by
  obtain ⟨L, ids, h1, h2⟩ := H
  rw [← h1.inv.eq_free h2]
  exact liveH_Runs h1
theorem LiveG.Spans {w0 w : World} {N : Nat → Prop} {hb bi : Nat} {h : Hp} (H : LiveG w0 N w hb bi h) :
    ∀ V, Bel w V → Calls Tryz.prog 21 #[.pointer (some ⟨hb, 0, none⟩)] V (RisenSpans V h.S) := by
  obtain ⟨L, ids, h1, h2⟩ := H
  exact liveH_Spans h1
theorem LiveG.Span {w0 w : World} {N : Nat → Prop} {hb bi : Nat} {h : Hp} (H : LiveG w0 N w hb bi h) (k : Int) (hk : (Lit.int .i64 k).wf = true) :
    ∀ V, Bel w V → Calls Tryz.prog 61 #[.pointer (some ⟨hb, 0, none⟩), .int .i64 k] V fun e V' => e = .returned (.tuple #[spV ((getS h.S k).getD sp0), .bool (getS h.S k).isSome]) ∧ Bel V V' := by
  obtain ⟨L, ids, h1, h2⟩ := H
  obtain ⟨rb, v, bx, bm, h1, h2⟩ := h1.at_
  exact fun V hV => heap_Span V (h1.bel hV) k hk
end Go.Proofs.YtbldidlbhahciaaGreat

namespace Go.Proofs.YtbldidlbhahciaaGreat
open Go.RowKit

theorem Bel.blk {w w' : World} (h : Bel w w') {k : Nat} {o : Obj} (g : w.heap[k]? = some o) : w'.heap[k]? = some o := (h.block k (heap_lt g)).trans g
theorem Bel.set {w w1 : World} (h : Bel w w1) {p : Addr} (hp : w.heap.size ≤ p.block) (v : Value) : Bel w (w1.setCell p v) := Below.setCell h hp v
end Go.Proofs.YtbldidlbhahciaaGreat

namespace Go.Proofs.YtbldidlbhahciaaGreat
open Go.RowKit

theorem splice_cons {α : Type} (l : List α) (o : Nat) (x : α) (xs : List α) (h : o + (xs.length + 1) ≤ l.length) : splice (l.set o x) (o + 1) xs = splice l o (x :: xs) := by
  apply List.ext_getElem?
  intro j
  rw [splice_get _ _ _ (by simp; omega), splice_get _ _ _ (by simp; omega), List.getElem?_set]
  simp only [List.length_cons]
  by_cases h1 : o + 1 ≤ j ∧ j < o + 1 + xs.length
  · rw [if_pos h1, if_pos (by omega), show j - o = (j - (o + 1)) + 1 by omega, List.getElem?_cons_succ]
  · rw [if_neg h1]
    by_cases h2 : o = j
    · subst h2
      rw [if_pos rfl, if_pos (by omega), if_pos (by omega)]; simp
    · rw [if_neg h2, if_neg (by omega)]
theorem setCells_blk (g T : Nat) : ∀ (vs : List Value) (o : Nat) (cur : List Value) (W : World), W.heap[g]? = some (.cells cur.toArray T (0, 0)) → o + vs.length ≤ cur.length →
    (W.setCells g o vs).heap[g]? = some (.cells (splice cur o vs).toArray T (0, 0)) ∧ Fr (fun k => k = g) W (W.setCells g o vs) ∧ (W.setCells g o vs).heap.size = W.heap.size
  | [], o, cur, W, hg, _ => by simp [World.setCells, splice_nil, hg, Fr.refl]
  | v :: vs, o, cur, W, hg, h => by
    have h1 := blk_setCell hg o v
    have e : (cur.toArray.setIfInBounds o v) = (cur.set o v).toArray := by simp
    rw [e] at h1
    obtain ⟨a, b, c⟩ := setCells_blk g T vs (o + 1) (cur.set o v) (W.setCell ⟨g, o, none⟩ v) h1 (by simp only [List.length_set]; simp only [List.length_cons] at h; omega)
    rw [splice_cons cur o v vs (by simpa using h)] at a
    refine ⟨a, Fr.trans' (Fr.setCell (p := ⟨g, o, none⟩) (Fr.refl (fun k => k = g) W) (.inl rfl) v) b, ?_⟩
    show ((W.setCell ⟨g, o, none⟩ v).setCells g (o + 1) vs).heap.size = _
    rw [c]; simp [World.setCell]
end Go.Proofs.YtbldidlbhahciaaGreat

namespace Go.Proofs.YtbldidlbhahciaaGreat
open Go.RowKit

theorem SpansIn.fr7 {S : Nat → Prop} {w w' : World} {a : Option Addr} {zs : List Sp} (h : SpansIn w a zs) (k : Fr S w w') (hn : ∀ p, a = some p → ¬ S p.block) : SpansIn w' a zs := by
  rcases h with h | ⟨b, o, e, h⟩
  · exact .inl h
  · exact .inr ⟨b, o, e, fun i hi j v hv => k.cell (h i hi j v hv) (show ¬ S b from hn ⟨b, o, none⟩ e)⟩
theorem fr_row7 {w w' : World} {row : Option Nat} (h : w.grownBy w' row) : Fr (fun k => row = some k) w w' :=
  ⟨h.os, h.tape, h.output, h.size, fun k hk hn => h.block k hk (fun e => hn e.symm)⟩
theorem bel_row7 {w wi w' : World} {g : Nat} (h : Bel w wi) (hg : wi.grownBy w' (some g)) (hr : w.heap.size ≤ g) : Bel w w' :=
  Fr.bel ((Fr.of_bel (S := fun k => some g = some k) h).trans' (fr_row7 hg)) (fun k hk => by cases hk; exact hr)
theorem spansIn_own {w : World} {base g n cap : Nat} {L : List Sp} (h : w.ownsRow base 33 4 (.slice (some ⟨g, 0, none⟩) n cap) n (spCellsOf L)) : SpansIn w (some ⟨g, 0, none⟩) L ∧ base ≤ g ∧ g < w.heap.size ∧ n ≤ cap := by
  obtain ⟨a, c, e, hr, hc, _⟩ := own_slice2 h
  simp only [Value.slice.injEq] at e
  obtain ⟨rfl, _, rfl⟩ := e
  exact ⟨SpansIn.of_row hr, (h.lt g rfl).1, (h.lt g rfl).2, hc⟩
theorem blk_allocAt (w : World) (o : Obj) (k : Nat) (hk : w.heap.size = k) : (w.alloc o).heap[k]? = some o := hk ▸ blk_alloc w o
theorem own_made (w : World) (base k e size : Nat) (hk : w.heap.size = k) (hb : base ≤ k) : (w.alloc (.cells #[] e)).ownsRow base e size (.slice (some ⟨k, 0, none⟩) 0 0) 0 [] := by
  subst hk
  exact World.ownsRow_made (e := e) (size := size) w #[] 0 hb (by simp [maxLen]) (by simp)
theorem fr_four (w : World) (R : Nat) (a b c d : Value) : Fr (fun k => k = R) w ((((w.setCell ⟨R, 0, none⟩ a).setCell ⟨R, 1, none⟩ b).setCell ⟨R, 2, none⟩ c).setCell ⟨R, 3, none⟩ d) :=
  Fr.setCell (p := ⟨R, 3, none⟩) (Fr.setCell (p := ⟨R, 2, none⟩) (Fr.setCell (p := ⟨R, 1, none⟩) (Fr.setCell (p := ⟨R, 0, none⟩) (Fr.refl (fun k => k = R) w) (.inl rfl) a) (.inl rfl) b) (.inl rfl) c) (.inl rfl) d
theorem fr_eight (w : World) (R T : Nat) (a b c d a' b' c' d' : Value) : Fr (fun k => k = R ∨ k = T) w ((((((((w.setCell ⟨R, 0, none⟩ a).setCell ⟨R, 1, none⟩ b).setCell ⟨R, 2, none⟩ c).setCell ⟨R, 3, none⟩ d).setCell ⟨T, 0, none⟩ a').setCell ⟨T, 1, none⟩ b').setCell ⟨T, 2, none⟩ c').setCell ⟨T, 3, none⟩ d') :=
  ((fr_four w R a b c d).mono (fun _ h => .inl h)).trans' ((fr_four _ T a' b' c' d').mono (fun _ h => .inr h))
theorem SpansIn.take {w : World} {b o : Nat} {L : List Sp} (h : SpansIn w (some ⟨b, o, none⟩) L) (j : Nat) : SpansIn w (some ⟨b, o, none⟩) (L.take j) := by
  rcases h with rfl | ⟨b', o', e, h⟩
  · exact .inl (by simp)
  · cases e
    refine .inr ⟨b, o, rfl, fun i hi q v hv => h i (by rw [List.length_take] at hi; omega) q v ?_⟩
    rw [List.getElem_take] at hv; exact hv
theorem SpansIn.drop {w : World} {b o : Nat} {L : List Sp} (h : SpansIn w (some ⟨b, o, none⟩) L) (j : Nat) : SpansIn w (some ⟨b, o + j * 4, none⟩) (L.drop j) := by
  rcases h with rfl | ⟨b', o', e, h⟩
  · exact .inl (by simp)
  · cases e
    refine .inr ⟨b, o + j * 4, rfl, fun i hi q v hv => ?_⟩
    rw [List.length_drop] at hi
    rw [List.getElem_drop] at hv
    have := h (j + i) (by omega) q v hv
    rw [show o + (j + i) * 4 + q = o + j * 4 + i * 4 + q by omega] at this
    exact this
/-- One span in a block. -/
theorem spansIn_blk {w : World} {g : Nat} {s : Sp} {T : Nat} {fz : Nat × Nat} (h : w.heap[g]? = some (.cells #[.int .i64 s.1, .int .i64 s.2.1.1, .int .i64 s.2.1.2, .int .i64 s.2.2] T fz)) : SpansIn w (some ⟨g, 0, none⟩) [s] := by
  refine .inr ⟨g, 0, rfl, fun i hi j v hv => ?_⟩
  have : i = 0 := by simp at hi; exact hi
  subst this
  rw [show 0 + 0 * 4 + j = j by omega, blk_cell h]
  simp only [List.getElem_cons_zero, spCells] at hv
  rw [← hv]
  match j with
  | 0 => rfl
  | 1 => rfl
  | 2 => rfl
  | 3 => rfl
  | k + 4 => simp
theorem spCellsOf_append (L R : List Sp) : spCellsOf (L ++ R) = spCellsOf L ++ spCellsOf R := by simp [spCellsOf]
theorem spCellsOf_one (L : List Sp) : ∀ u ∈ spCellsOf L, u.oneCell' = true := by
  intro u hu
  simp only [spCellsOf, List.mem_flatMap, spCells] at hu
  obtain ⟨x, _, hu⟩ := hu
  simp at hu
  rcases hu with rfl | rfl | rfl | rfl <;> rfl
theorem SpansIn.news {w : World} {ad : Addr} {R : List Sp} (h : SpansIn w (some ad) R) : ∀ j u, (spCellsOf R)[j]? = some u → w.cell? (ad.add j) = some u := by
  intro j u hj
  rcases h with rfl | ⟨b, o, e, h⟩
  · simp [spCellsOf] at hj
  · cases e
    have hl := spCellsOf_length R
    obtain ⟨hlt, _⟩ := List.getElem?_eq_some_iff.1 hj
    have hi : j / 4 < R.length := by omega
    have h2 := spCellsOf_get R (j / 4) hi (j % 4) (by omega)
    rw [show j / 4 * 4 + j % 4 = j by omega, hj] at h2
    have := h (j / 4) hi (j % 4) u h2.symm
    rw [show o + j / 4 * 4 + j % 4 = o + j by omega] at this
    rw [addr_add]
    exact this
/-- append of spans to spans that are one's own, and not nil. -/
theorem run_app_sp {w : World} (ty : TypeId) (base g0 c0 : Nat) (L R : List Sp) (hown : w.ownsRow base 33 4 (.slice (some ⟨g0, 0, none⟩) L.length c0) L.length (spCellsOf L))
    (ao : Option Addr) (c : Nat) (hr : SpansIn w ao R) (hnone : ao = none → R = [] ∧ c = 0) (hlen : L.length + R.length ≤ 65536) (hbase : base ≤ w.heap.size) :
    ∃ g cap w', (Builtin.append_ #[42, 42] ty #[.slice (some ⟨g0, 0, none⟩) L.length c0, .slice ao R.length c]).run Tryz.prog w = .ok (.slice (some ⟨g, 0, none⟩) (L ++ R).length cap) w' ∧
      w'.ownsRow base 33 4 (.slice (some ⟨g, 0, none⟩) (L ++ R).length cap) (L ++ R).length (spCellsOf (L ++ R)) ∧ w.grownBy w' (some g0) ∧ (g = g0 ∨ g = w.heap.size) := by
  obtain ⟨i0, hi0, hz0, hz1, hz2⟩ := info_parts info_span
  cases ao with
  | none =>
    obtain ⟨rfl, rfl⟩ := hnone rfl
    have := run_append_owned_none (P := Tryz.prog) (w := w) base 42 ty 33 i0 4 Tryz.underlying42 hi0 _ _ _ hown
    exact ⟨g0, c0, w, by simpa using this, by simpa using hown, World.grownBy.refl _ _, .inl rfl⟩
  | some ad =>
    obtain ⟨v', w', h1, h2, h3, h4, h5⟩ := run_append_own_at (P := Tryz.prog) w base 42 ty 33 i0 (.agg #[.int .i64 0, .int .i64 0, .int .i64 0, .int .i64 0]) 4 32 Tryz.underlying42 hi0 hz0 hz1 hz2 rfl (by decide)
      _ _ _ hown ad R.length c (spCellsOf R) (spCellsOf_length R) hr.news (spCellsOf_one R) (by unfold maxLen; omega) (by omega) hbase
    rw [← spCellsOf_append, ← List.length_append] at h2
    rcases h2.2 with ⟨h9, _⟩ | ⟨g, cap, cur, h9, _⟩
    · rw [h9] at h4
      have := h4.1 rfl
      simp at this
    · subst h9
      refine ⟨g, cap, w', h1, h2, h3, ?_⟩
      rcases h5 with h5 | h5
      · left; simpa [Value.ownBlock] using h5
      · right; simpa [Value.ownBlock] using h5
theorem step_app_sp {w : World} {ops : Array Oper} {o : Oper} {a : Act} {K : Act → World → Prop} {Q : Exit → Act → World → Prop} {E : Prop} (hgd : o.guard = none) (s x : Operand)
    (ho : o.op = .call { callee := .builtin .append, args := #[s, x], argTypes := #[42, 42] }) (base g0 n c0 : Nat) (L R : List Sp) (hL : L.length = n) (hs : a.eval s = .slice (some ⟨g0, 0, none⟩) n c0)
    (hown : w.ownsRow base 33 4 (.slice (some ⟨g0, 0, none⟩) n c0) n (spCellsOf L))
    (ao : Option Addr) (m c : Nat) (hm : R.length = m) (hx : a.eval x = .slice ao m c) (hr : SpansIn w ao R) (hnone : ao = none → R = [] ∧ c = 0) (hlen : n + m ≤ 65536) (hbase : base ≤ w.heap.size) (k : Nat) (hk : n + m = k) (LR : List Sp) (hLR : L ++ R = LR)
    (h : ∀ g cap w', w'.ownsRow base 33 4 (.slice (some ⟨g, 0, none⟩) k cap) k (spCellsOf LR) → w.grownBy w' (some g0) → (g = g0 ∨ g = w.heap.size) → K (a.put o.dst (.slice (some ⟨g, 0, none⟩) k cap)) w') :
    if Region.wanted o (yielded ops a.tmps) = true then Oper.wp Tryz.prog o a w K Q else E := by
  subst hL hm hk hLR
  have hw : Region.wanted o (yielded ops a.tmps) = true := by simp [Region.wanted, hgd]
  rw [if_pos hw]
  obtain ⟨g, cap, w', h1, h2, h3, h4⟩ := run_app_sp (w := w) o.type base g0 c0 L R hown ao c hr hnone hlen hbase
  rw [List.length_append] at h1 h2
  unfold Oper.wp execOp
  simp only [ho, resolve, invoke, builtin, Sem.run_bind, Sem.run_pure, Result.andThen_ok, List.map_toArray, List.map_cons, List.map_nil, hs, hx, h1]
  exact h g cap w' h2 h3 h4
theorem wpList_app_sp {w : World} {ops : Array Oper} {rest : List Oper} {o : Oper} {a : Act} {Q : Exit → Act → World → Prop} (hgd : o.guard = none) (s x : Operand)
    (ho : o.op = .call { callee := .builtin .append, args := #[s, x], argTypes := #[42, 42] }) (base g0 n c0 : Nat) (L R : List Sp) (hL : L.length = n) (hs : a.eval s = .slice (some ⟨g0, 0, none⟩) n c0)
    (hown : w.ownsRow base 33 4 (.slice (some ⟨g0, 0, none⟩) n c0) n (spCellsOf L))
    (ao : Option Addr) (m c : Nat) (hm : R.length = m) (hx : a.eval x = .slice ao m c) (hr : SpansIn w ao R) (hnone : ao = none → R = [] ∧ c = 0) (hlen : n + m ≤ 65536) (hbase : base ≤ w.heap.size) (k : Nat) (hk : n + m = k) (LR : List Sp) (hLR : L ++ R = LR)
    (h : ∀ g cap w', w'.ownsRow base 33 4 (.slice (some ⟨g, 0, none⟩) k cap) k (spCellsOf LR) → w.grownBy w' (some g0) → (g = g0 ∨ g = w.heap.size) → wpList Tryz.prog ops Q rest (a.put o.dst (.slice (some ⟨g, 0, none⟩) k cap)) w') :
    wpList Tryz.prog ops Q (o :: rest) a w := by
  subst hL hm hk hLR
  refine wpList_plain hgd fun K hK => ?_
  obtain ⟨g, cap, w', h1, h2, h3, h4⟩ := run_app_sp (w := w) o.type base g0 c0 L R hown ao c hr hnone hlen hbase
  rw [List.length_append] at h1 h2
  unfold Oper.wp execOp
  simp only [ho, resolve, invoke, builtin, Sem.run_bind, Sem.run_pure, Result.andThen_ok, List.map_toArray, List.map_cons, List.map_nil, hs, hx, h1]
  exact hK _ _ (h g cap w' h2 h3 h4)
end Go.Proofs.YtbldidlbhahciaaGreat
