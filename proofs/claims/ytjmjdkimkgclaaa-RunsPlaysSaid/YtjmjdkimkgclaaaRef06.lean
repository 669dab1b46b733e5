/- The slow twin of layer 6: New, May, Put. -/
import Derived.Test.YtjmjdkimkgclaaaRun
import Derived.Test.YtjmjdkimkgclaaaPBits
import Derived.Deep.QuietTactic
import Derived.BigQuiet
import Derived.Carry
namespace Go.Proofs.Ytjmjdkimkgclaaa
open Go.RowKit

/-- 1024 pages of which something holds, as cells. -/
def boolsOf (f : Int → Bool) : List Value := (List.range 1024).map fun (p : Nat) => Value.bool (f (p : Int))
theorem boolsOf_length (f : Int → Bool) : (boolsOf f).length = 1024 := by simp [boolsOf]
theorem boolsOf_get (f : Int → Bool) {p : Nat} (h : p < 1024) : (boolsOf f)[p]? = some (.bool (f (p : Int))) := by simp [boolsOf, h]
theorem boolsOf_one (f : Int → Bool) : ∀ v ∈ boolsOf f, v.oneCell' = true := by
  intro v hv
  simp only [boolsOf, List.mem_map] at hv
  obtain ⟨p, _, rfl⟩ := hv
  rfl
theorem boolsOf_set (f : Int → Bool) (s : Nat) (b : Bool) : (boolsOf f).set s (.bool b) = boolsOf (fun p => if p = (s : Int) then b else f p) := by
  apply List.ext_getElem?
  intro j
  rw [List.getElem?_set, boolsOf_length]
  by_cases hj : j < 1024
  · rw [boolsOf_get _ hj, boolsOf_get _ hj]
    by_cases e : s = j
    · subst e; rw [if_pos rfl, if_pos hj, if_pos rfl]
    · rw [if_neg e, if_neg (by omega)]
  · rw [List.getElem?_eq_none (by rw [boolsOf_length]; omega), List.getElem?_eq_none (by rw [boolsOf_length]; omega)]
    split
    · rw [if_neg (by omega)]
    · rfl
/-- A slice of them. -/
def BitsV (w : World) (v : Value) (f : Int → Bool) : Prop := ∃ b o c, v = .slice (some ⟨b, o, none⟩) 1024 c ∧ ∀ p : Nat, p < 1024 → w.cell? ⟨b, o + p, none⟩ = some (.bool (f (p : Int)))
theorem BitsV.bel {w w' : World} {v : Value} {f : Int → Bool} (h : BitsV w v f) (k : Bel w w') : BitsV w' v f := by
  obtain ⟨b, o, c, e, h⟩ := h
  exact ⟨b, o, c, e, fun p hp => k.cell (h p hp)⟩
theorem BitsV.congr {w : World} {v : Value} {f g : Int → Bool} (h : BitsV w v f) (k : ∀ p, 0 ≤ p → p < 1024 → f p = g p) : BitsV w v g := by
  obtain ⟨b, o, c, e, h⟩ := h
  exact ⟨b, o, c, e, fun p hp => by rw [h p hp, k p (by omega) (by omega)]⟩
theorem bitsV_own {w : World} {base e : Nat} {v : Value} {f : Int → Bool} (h : w.ownsRow base e 1 v 1024 (boolsOf f)) : BitsV w v f := by
  obtain ⟨a, c, rfl, hr, _⟩ := own_slice h
  rcases hr with h9 | ⟨b, o, rfl, hr⟩
  · have := boolsOf_length f; rw [h9] at this; simp at this
  · refine ⟨b, o, c, rfl, fun p hp => ?_⟩
    have h1 := hr p (by rw [boolsOf_length]; exact hp)
    have h2 := boolsOf_get f hp
    rw [List.getElem?_eq_getElem (by rw [boolsOf_length]; exact hp)] at h2
    rw [Option.some.inj h2] at h1
    exact h1
/-- A row of one's own of that type: no block of free runs is it. -/
def BitsO (w : World) (v : Value) (f : Int → Bool) : Prop := BitsV w v f ∧ ∃ g c cur, v = .slice (some ⟨g, 0, none⟩) 1024 c ∧ w.heap[g]? = some (.cells cur 4 (0, 0))
theorem BitsO.bel {w w' : World} {v : Value} {f : Int → Bool} (h : BitsO w v f) (k : Bel w w') : BitsO w' v f := by
  obtain ⟨h1, g, c, cur, e, h2⟩ := h
  exact ⟨h1.bel k, g, c, cur, e, (Fr.of_bel (S := fun _ => False) k).heap h2 (fun h => h)⟩
theorem BitsO.fr {S : Nat → Prop} {w w' : World} {v : Value} {f : Int → Bool} (h : BitsO w v f) (k : Fr S w w') (hS : ∀ g cur, w.heap[g]? = some (.cells cur 4 (0, 0)) → ¬ S g) : BitsO w' v f := by
  obtain ⟨⟨b, o, c', e', h1⟩, g, c, cur, e, h2⟩ := h
  subst e
  simp only [Value.slice.injEq, Option.some.injEq, Addr.mk.injEq, and_true, true_and] at e'
  obtain ⟨⟨rfl, rfl⟩, rfl⟩ := e'
  exact ⟨⟨_, _, _, rfl, fun p hp => k.cell (h1 p hp) (hS _ _ h2)⟩, _, _, _, rfl, k.heap h2 (hS _ _ h2)⟩
theorem bitsO_own {w : World} {base : Nat} {v : Value} {f : Int → Bool} (h : w.ownsRow base 4 1 v 1024 (boolsOf f)) : BitsO w v f := by
  refine ⟨bitsV_own h, ?_⟩
  rcases h.2 with ⟨_, h9⟩ | ⟨g, cap, cur, h1, h2, h3, _⟩
  · simp at h9
  · exact ⟨g, cap, cur, h1, h3⟩
theorem info_bool6 : (Try.prog.info? 4).map (fun i => (i.zero, i.size, i.bytes)) = some (some (.bool false), 1, 1) := by kernel_rfl

theorem made_one6 (z : Value) (n : Nat) : madeCells #[z] n = (List.replicate n z).toArray := by
  unfold madeCells
  apply Array.ext
  · simp
  · intro i h1 h2
    simp [Nat.mod_one]
theorem run_make_bool (w : World) : (Instr.makeSlice 35 (.int .i64 1024) (.int .i64 1024)).run Try.prog w = .ok (.slice (some ⟨w.heap.size, 0, none⟩) 1024 1024) (w.alloc (.cells (List.replicate 1024 (Value.bool false)).toArray 4)) := by
  obtain ⟨i, hi, hz, hs, hb⟩ := info_parts info_bool6
  have := run_make (P := Try.prog) w 35 4 i (.bool false) Try.underlying35 hi hz .i64 .i64 1024 1024 (by omega) (by omega) (by rw [hb]; omega) (by omega)
  rw [this, hs]
  have e2 := made_one6 (.bool false) (Int.toNat 1024 * 1)
  have e3 : Int.toNat 1024 * 1 = 1024 := rfl
  rw [e3] at e2
  show Result.ok _ (w.alloc (.cells (madeCells #[Value.bool false] (Int.toNat 1024 * 1)) _)) = _
  rw [e3, e2]
  rfl
theorem ref6_New (w : World) : Calls Try.prog 14 #[] w fun e w' => ∃ v, e = .returned v ∧ BitsO w' v (fun _ => false) ∧ Bel w w' := by
  have hm := run_make_bool w
  have HN : Hid (BitsO (w.alloc (.cells (List.replicate 1024 (Value.bool false)).toArray 4)) (.slice (some ⟨w.heap.size, 0, none⟩) 1024 1024) (fun _ => false)) := Lib.hid ⟨⟨_, 0, _, rfl, fun p hp => by
    rw [blk_cell (blk_alloc w _), List.getElem?_toArray, List.getElem?_replicate, if_pos (by omega)]⟩, _, _, _, rfl, blk_alloc w _⟩
  obtain ⟨cs, hcs⟩ : ∃ cs, (List.replicate 1024 (Value.bool false)).toArray = cs := ⟨_, rfl⟩
  rw [hcs] at hm HN
  clear hcs
  go_enter Try.func14, Try.ntmps14
  go_wp2
  go_ret
  exact ⟨_, rfl, HN.out, (Bel.refl _).alloc _⟩
set_option maxRecDepth 20000 in
theorem ref6_May (x : Rn) (w : World) (h1 : I64 x.1) (h2 : I64 x.2) :
    Calls Try.prog 24 #[.agg #[.int .i64 x.1, .int .i64 x.2]] w fun e w' => e = .returned (.bool (there 1024 x)) ∧ Bel w w' := by
  obtain ⟨s, n⟩ := x
  obtain ⟨a0, a1⟩ := h1
  obtain ⟨b0, b1⟩ := h2
  dsimp only at a0 a1 b0 b1
  have hth := there_iff (n := 1024) (r := (s, n))
  dsimp only at hth
  by_cases c1 : 0 ≤ s
  · by_cases c2 : s < 1024
    · by_cases c3 : 1 ≤ n
      · by_cases c4 : n ≤ 1024
        · have c5 : IntKind.i64.wrap (s + n) = s + n := IntWalk.i64_in _ (by omega)
          have HE : Hid (there 1024 (s, n) = decide (s + n ≤ 1024)) := Lib.hid (by rw [Bool.eq_iff_iff, hth, decide_eq_true_eq]; omega)
          clear hth
          go_enter Try.func24, Try.ntmps24
          go_wp2
          go_ret
          exact ⟨by rw [HE.out]; rfl, (Bel.refl _).alloc _⟩
        · have HE : Hid (there 1024 (s, n) = false) := Lib.hid (by rw [← Bool.not_eq_true, hth]; omega)
          clear hth
          go_enter Try.func24, Try.ntmps24
          go_wp2
          go_ret
          exact ⟨by rw [HE.out]; rfl, (Bel.refl _).alloc _⟩
      · have HE : Hid (there 1024 (s, n) = false) := Lib.hid (by rw [← Bool.not_eq_true, hth]; omega)
        clear hth
        go_enter Try.func24, Try.ntmps24
        go_wp2
        go_ret
        exact ⟨by rw [HE.out]; rfl, (Bel.refl _).alloc _⟩
    · have HE : Hid (there 1024 (s, n) = false) := Lib.hid (by rw [← Bool.not_eq_true, hth]; omega)
      clear hth
      go_enter Try.func24, Try.ntmps24
      go_wp2
      go_ret
      exact ⟨by rw [HE.out]; rfl, (Bel.refl _).alloc _⟩
  · have HE : Hid (there 1024 (s, n) = false) := Lib.hid (by rw [← Bool.not_eq_true, hth]; omega)
    clear hth
    go_enter Try.func24, Try.ntmps24
    go_wp2
    go_ret
    exact ⟨by rw [HE.out]; rfl, (Bel.refl _).alloc _⟩
end Go.Proofs.Ytjmjdkimkgclaaa
