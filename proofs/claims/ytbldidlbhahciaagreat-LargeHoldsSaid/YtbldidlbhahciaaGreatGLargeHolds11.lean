/- The reference of layer 10: Flush, Hold. The reference of layer 10: a keeper as a value; List, Flush, Hold. The reference of layer 10: in, Numbers, List, without. Package large: fits, same, ids. num.Is, and what it asks. Large stacks that are kept: in plain Lean. -/
import Derived.Test.YtbldidlbhahciaaGreatGLargeHolds10
import Derived.Test.YtbldidlbhahciaaGreatGLargeHolds5
import Derived.OwnWalk
import Derived.Maps.AppendAt
import Derived.Deep.RegionHeld3
set_option linter.unusedVariables false
set_option linter.unusedSimpArgs false
namespace Go.Proofs.YtbldidlbhahciaaGreat

/-- Are there large stacks of so many pages? -/
def fitsF (n : Int) : Bool := decide (4 ≤ n) && isB n
theorem fits_prog {n : Int} (h : n < 9223372036854775808) : (decide (4 ≤ n) && (isB (n / 4) && decide (n % 4 = 0))) = fitsF n := by
  unfold fitsF
  by_cases h4 : 4 ≤ n
  · simp only [h4, decide_true, Bool.true_and]
    by_cases h2 : n % 2 = 0
    · rw [isB_half (by omega) h h2]
      by_cases h3 : (n / 2) % 2 = 0
      · rw [isB_half (by omega) (by omega) h3]
        have e1 : n / 2 / 2 = n / 4 := by omega
        have e2 : n % 4 = 0 := by omega
        rw [e1, e2]; simp
      · rw [isB_odd (by omega) (by omega) h3]
        have e2 : ¬ n % 4 = 0 := by omega
        simp [e2]
    · rw [isB_odd (by omega) h h2]
      have e2 : ¬ n % 4 = 0 := by omega
      simp [e2]
  · simp [h4]
/-- The last one of so many pages. -/
def lastI (K : List Sp) (n : Int) : Option Nat := (List.range K.length).reverse.find? fun i => decide ((K[i]?.getD sp0).2.1.2 = n)
theorem find_rev {p : Nat → Bool} : ∀ {m i : Nat}, i < m → p i = true → (∀ j, i < j → j < m → p j = false) → (List.range m).reverse.find? p = some i
  | 0, i, h, _, _ => by omega
  | m + 1, i, h, hp, hn => by
    rw [List.range_succ, List.reverse_append, List.reverse_singleton, List.singleton_append]
    by_cases e : i = m
    · subst e; rw [List.find?_cons_of_pos hp]
    · rw [List.find?_cons_of_neg (by simp [hn m (by omega) (by omega)])]
      exact find_rev (by omega) hp (fun j h1 h2 => hn j h1 (by omega))
theorem find_rev_none {p : Nat → Bool} {m : Nat} (hn : ∀ j, j < m → p j = false) : (List.range m).reverse.find? p = none := by
  rw [List.find?_eq_none]
  intro x hx
  simp only [List.mem_reverse, List.mem_range] at hx
  simp [hn x hx]
theorem lastI_some {K : List Sp} {n : Int} {i : Nat} (hi : i < K.length) (h : K[i].2.1.2 = n) (hn : ∀ j (hj : j < K.length), i < j → K[j].2.1.2 ≠ n) : lastI K n = some i :=
  find_rev hi (by rw [List.getElem?_eq_getElem hi]; simpa using h) (fun j h1 h2 => by rw [List.getElem?_eq_getElem h2]; simpa using hn j h2 h1)
theorem lastI_none {K : List Sp} {n : Int} (hn : ∀ s ∈ K, s.2.1.2 ≠ n) : lastI K n = none :=
  find_rev_none (fun j hj => by rw [List.getElem?_eq_getElem hj]; simpa using hn _ (List.getElem_mem hj))
theorem lastI_or (K : List Sp) (n : Int) : (lastI K n = none ∧ ∀ s ∈ K, s.2.1.2 ≠ n) ∨ ∃ i, ∃ h : i < K.length, lastI K n = some i ∧ K[i].2.1.2 = n ∧ ∀ j (hj : j < K.length), i < j → K[j].2.1.2 ≠ n := by
  obtain ⟨m, hm⟩ : ∃ m, K.length = m := ⟨_, rfl⟩
  induction m generalizing K with
  | zero =>
    have : K = [] := List.eq_nil_of_length_eq_zero hm
    subst this; exact .inl ⟨rfl, by simp⟩
  | succ m ih =>
    obtain ⟨K', x, rfl⟩ : ∃ K' x, K = K' ++ [x] := by
      rcases List.eq_nil_or_concat K with h | ⟨l', k, h⟩
      · rw [h] at hm; simp at hm
      · exact ⟨l', k, by simpa using h⟩
    have hm' : K'.length = m := by simpa using hm
    by_cases hx : x.2.1.2 = n
    · have hlt : K'.length < (K' ++ [x]).length := by simp
      have hg : (K' ++ [x])[K'.length].2.1.2 = n := by simpa using hx
      refine .inr ⟨K'.length, hlt, ?_, hg, fun j hj h1 => by simp at hj; omega⟩
      exact lastI_some hlt hg (fun j hj h1 => by simp at hj; omega)
    · rcases ih K' hm' with ⟨_, h2⟩ | ⟨i, hi, _, h2, h3⟩
      · have h4 : ∀ s ∈ K' ++ [x], s.2.1.2 ≠ n := fun s hs => by
          rcases List.mem_append.1 hs with h | h
          · exact h2 s h
          · simp at h; subst h; exact hx
        exact .inl ⟨lastI_none h4, h4⟩
      · have hlt : i < (K' ++ [x]).length := by simp; omega
        have hg : (K' ++ [x])[i].2.1.2 = n := by rw [List.getElem_append_left hi]; exact h2
        have hr : ∀ j (hj : j < (K' ++ [x]).length), i < j → (K' ++ [x])[j].2.1.2 ≠ n := fun j hj h1 => by
          by_cases h5 : j < K'.length
          · rw [List.getElem_append_left h5]; exact h3 j h5 h1
          · rw [List.getElem_append_right (by omega)]; simpa using hx
        exact .inr ⟨i, hlt, lastI_some hlt hg hr, hg, hr⟩
/-- Of so many pages. -/
def ofLen (n : Int) (s : Sp) : Bool := decide (s.2.1.2 = n)
def cntK (K : List Sp) (n : Int) : Nat := (K.filter (ofLen n)).length
def keptIds (K : List Sp) (n : Int) : List Int := (K.filter (ofLen n)).map (·.1)

/-- A keeper: its heap; what is kept; what waits; is it held? -/
structure KS where
  h : Hp
  kept : List Sp
  waits : List Sp
  held : Bool
def ksNew (h : Hp) : KS := ⟨h, [], [], false⟩
def KS.take (k : KS) (n : Int) : KS × Sp × Int :=
  if fitsF n = true then
    match lastI k.kept n with
    | some i => (⟨k.h, outSp k.kept i, k.waits, k.held⟩, k.kept[i]?.getD sp0, 0)
    | none => (⟨(k.h.make n (-1)).1, k.kept, k.waits, k.held⟩, (k.h.make n (-1)).2)
  else (k, sp0, 1)
def spOf (h : Hp) (id : Int) : Sp := (getS h.S id).getD sp0
/-- Is it a large stack's number? -/
def largeId (h : Hp) (id : Int) : Bool := (getS h.S id).isSome && (decide ((spOf h id).2.2 = -1) && fitsF (spOf h id).2.1.2)
def KS.give1 (k : KS) (s : Sp) : KS :=
  if k.held = true then ⟨k.h, k.kept, k.waits ++ [s], k.held⟩
  else if cntK k.kept s.2.1.2 < 2 then ⟨k.h, k.kept ++ [s], k.waits, k.held⟩
  else ⟨(k.h.drop [s.1]).1, k.kept, k.waits, k.held⟩
/-- Are all of them large stacks', each named once? -/
def LargeIds (h : Hp) (l : List Int) : Prop := (∀ x ∈ l, largeId h x = true) ∧ l.Nodup
instance (h : Hp) (l : List Int) : Decidable (LargeIds h l) := by unfold LargeIds; exact inferInstance
def KS.has (k : KS) (id : Int) : Bool := (k.kept ++ k.waits).any fun s => s.1 == id
def KS.give (k : KS) (l : List Int) : KS × Int :=
  if LargeIds k.h l then
    if l.any k.has = true then (k, 9) else ((l.map (spOf k.h)).foldl KS.give1 k, 0)
  else (k, 6)
def freesH (h : Hp) (l : List Sp) : Hp := l.foldl (fun h s => (h.drop [s.1]).1) h
def KS.hold (k : KS) (on : Bool) : KS := if on = true then ⟨k.h, k.kept, k.waits, true⟩ else ⟨freesH k.h k.waits, k.kept, [], false⟩
def KS.flush (k : KS) : KS := ⟨freesH k.h k.kept, [], k.waits, k.held⟩

/-- It is as it should be; and those of l are large stacks that are neither kept nor wait. -/
structure KPend (k : KS) (l : List Sp) : Prop where
  ok : HpOk k.h
  mem : ∀ s ∈ k.kept ++ k.waits ++ l, s ∈ k.h.S ∧ s.2.2 = -1 ∧ fitsF s.2.1.2 = true
  nd : ((k.kept ++ k.waits ++ l).map (·.1)).Nodup
  free : k.held = false → k.waits = []
def KInv (k : KS) : Prop := KPend k []
theorem ksNew_inv {h : Hp} (H : HpOk h) : KInv (ksNew h) := ⟨H, by simp [ksNew], by simp [ksNew], fun _ => rfl⟩
theorem getS_self {h : Hp} (H : HpOk h) {s : Sp} (hs : s ∈ h.S) : getS h.S s.1 = some s := getS_of_mem H.nd hs
theorem HpOk.eq {h : Hp} (H : HpOk h) {s t : Sp} (hs : s ∈ h.S) (ht : t ∈ h.S) (e : s.1 = t.1) : s = t := by
  have h1 := getS_self H hs
  rw [e, getS_self H ht] at h1
  exact (Option.some.inj h1).symm
theorem leftS_mem {S : List Sp} {T : List Int} {s : Sp} : s ∈ leftS S T ↔ s ∈ S ∧ s.1 ∉ T := by
  unfold leftS; simp [List.mem_filter]
theorem Hp.drop_one {h : Hp} (H : HpOk h) {s : Sp} (hs : s ∈ h.S) : h.drop [s.1] = (⟨h.P, leftS h.S [s.1], h.last⟩, 0) := by
  unfold Hp.drop
  rw [if_pos]
  exact ⟨fun k hk => by simp at hk; subst hk; rw [getS_self H hs]; rfl, by simp⟩
/-- Freed one by one, or together. -/
theorem freesH_eq : ∀ (l : List Sp) {h : Hp}, HpOk h → (∀ s ∈ l, s ∈ h.S) → (l.map (·.1)).Nodup → freesH h l = ⟨h.P, leftS h.S (l.map (·.1)), h.last⟩ ∧ HpOk (freesH h l) ∧ h.drop (l.map (·.1)) = (freesH h l, 0)
  | [], h, H, _, _ => by
    refine ⟨by simp [freesH, leftS_nil], H, ?_⟩
    unfold Hp.drop; rw [if_pos ⟨by simp, by simp⟩]; simp [freesH, leftS_nil]
  | s :: l, h, H, hm, hn => by
    simp only [List.map_cons, List.nodup_cons] at hn
    have hd := Hp.drop_one H (hm s (by simp))
    have H1 : HpOk (h.drop [s.1]).1 := H.drop _
    have hS1 : (h.drop [s.1]).1 = ⟨h.P, leftS h.S [s.1], h.last⟩ := by rw [hd]
    have hr : ∀ t ∈ l, t ∈ (h.drop [s.1]).1.S := fun t ht => by
      rw [hS1]
      exact leftS_mem.2 ⟨hm t (by simp [ht]), by simp; rintro e; exact hn.1 (by rw [← e]; exact List.mem_map_of_mem ht)⟩
    obtain ⟨e1, e2, e3⟩ := freesH_eq l H1 hr hn.2
    have ef : freesH h (s :: l) = freesH (h.drop [s.1]).1 l := rfl
    have eS : leftS (leftS h.S [s.1]) (l.map (·.1)) = leftS h.S ((s :: l).map (·.1)) := by
      unfold leftS
      rw [List.filter_filter]
      refine List.filter_congr (fun t _ => ?_)
      simp only [List.map_cons, List.mem_cons]
      by_cases a : t.1 = s.1 <;> by_cases b : t.1 ∈ l.map (·.1) <;> simp [a, b]
    refine ⟨?_, by rw [ef]; exact e2, ?_⟩
    · rw [ef, e1, hS1, ← eS]
    · have hok : FreeOk h.S ((s :: l).map (·.1)) := ⟨fun k hk => by
        obtain ⟨t, ht, rfl⟩ := List.mem_map.1 hk
        rw [getS_self H (hm t ht)]; rfl, by simp [hn.1, hn.2]⟩
      unfold Hp.drop
      rw [if_pos hok, ef, e1, hS1, ← eS]

theorem outSp_sub {L : List Sp} {i : Nat} {s : Sp} (h : s ∈ outSp L i) : s ∈ L := by
  unfold outSp at h
  rcases List.mem_append.1 h with h | h
  · exact List.mem_of_mem_take h
  · exact List.mem_of_mem_drop h
theorem outSp_sublist (L : List Sp) (i : Nat) : (outSp L i).Sublist L := by
  have h : (L.take i ++ L.drop (i + 1)).Sublist (L.take i ++ L.drop i) := List.Sublist.append_left (List.drop_sublist_drop_left L (Nat.le_succ i)) _
  rw [List.take_append_drop] at h; exact h
theorem KInv.take {k : KS} (H : KInv k) (n : Int) : KInv (k.take n).1 := by
  unfold KS.take
  split
  · split
    · rename_i i _
      refine ⟨H.ok, fun s hs => H.mem s ?_, ?_, H.free⟩
      · simp only [List.append_nil] at hs ⊢
        rcases List.mem_append.1 hs with h | h
        · exact List.mem_append.2 (.inl (outSp_sub h))
        · exact List.mem_append.2 (.inr h)
      · refine H.nd.sublist (List.Sublist.map _ ?_)
        simp only [List.append_nil]
        exact List.Sublist.append_right (outSp_sublist _ _) _
    · refine ⟨H.ok.make _ _, fun s hs => ?_, H.nd, H.free⟩
      obtain ⟨a, b⟩ := H.mem s hs
      refine ⟨?_, b⟩
      unfold Hp.make
      split
      · exact a
      · split
        · exact a
        · exact List.mem_append.2 (.inl a)
  · exact H
theorem KPend.give1 {k : KS} {s : Sp} {l : List Sp} (H : KPend k (s :: l)) : KPend (k.give1 s) l := by
  have hs := H.mem s (by simp)
  have hnd : ∀ {A B : List Sp}, A.Perm B → (B.map (·.1)).Nodup → (A.map (·.1)).Nodup := fun hp h => (hp.map (·.1)).nodup_iff.2 h
  unfold KS.give1
  split
  · rename_i hh
    refine ⟨H.ok, fun t ht => H.mem t ?_, ?_, fun h => by rw [hh] at h; cases h⟩
    · simp only [List.mem_append, List.mem_cons, List.not_mem_nil, or_false] at ht ⊢; rcases ht with (h | h | h) | h <;> simp [h]
    · refine hnd ?_ H.nd
      simp only [List.append_assoc, List.singleton_append]; exact List.Perm.refl _
  · split
    · refine ⟨H.ok, fun t ht => H.mem t ?_, ?_, H.free⟩
      · simp only [List.mem_append, List.mem_cons, List.not_mem_nil, or_false] at ht ⊢; rcases ht with ((h | h) | h) | h <;> simp [h]
      · refine hnd ?_ H.nd
        simp only [List.append_assoc, List.singleton_append]
        exact List.Perm.append_left _ List.perm_middle.symm
    · have hd := Hp.drop_one H.ok hs.1
      refine ⟨H.ok.drop _, fun t ht => ?_, ?_, H.free⟩
      · have ht2 : t ∈ k.kept ++ k.waits ++ s :: l := by
          simp only [List.mem_append, List.mem_cons] at ht ⊢; rcases ht with (h | h) | h <;> simp [h]
        obtain ⟨a, b⟩ := H.mem t ht2
        refine ⟨?_, b⟩
        rw [hd]
        refine leftS_mem.2 ⟨a, ?_⟩
        simp only [List.mem_cons, List.not_mem_nil, or_false]
        intro e
        have hp : (k.kept ++ k.waits ++ s :: l).Perm (s :: (k.kept ++ k.waits ++ l)) := List.perm_middle
        have := (hp.map (·.1)).nodup_iff.1 H.nd
        simp only [List.map_cons, List.nodup_cons] at this
        exact this.1 (by rw [← e]; exact List.mem_map_of_mem ht)
      · refine H.nd.sublist (List.Sublist.map _ ?_)
        exact List.Sublist.append_left (List.sublist_cons_self _ _) _
theorem KPend.gives : ∀ (l : List Sp) {k : KS}, KPend k l → KInv (l.foldl KS.give1 k)
  | [], _, H => H
  | _ :: l, _, H => KPend.gives l H.give1
theorem largeId_sp {h : Hp} {x : Int} (hx : largeId h x = true) : spOf h x ∈ h.S ∧ (spOf h x).1 = x ∧ (spOf h x).2.2 = -1 ∧ fitsF (spOf h x).2.1.2 = true ∧ getS h.S x = some (spOf h x) := by
  unfold largeId at hx
  simp only [Bool.and_eq_true, decide_eq_true_eq] at hx
  obtain ⟨a, b, c⟩ := hx
  obtain ⟨s, hs⟩ := Option.isSome_iff_exists.1 a
  have e : spOf h x = s := by unfold spOf; rw [hs]; rfl
  rw [e] at b c ⊢
  exact ⟨(getS_mem hs).1, (getS_mem hs).2, b, c, hs⟩
theorem KInv.pend {k : KS} (H : KInv k) {l : List Int} (hl : LargeIds k.h l) (hn : l.any k.has = false) : KPend k (l.map (spOf k.h)) := by
  have hid : (l.map (spOf k.h)).map (·.1) = l := by
    rw [List.map_map]
    exact (List.map_congr_left (fun x hx => (largeId_sp (hl.1 x hx)).2.1)).trans (List.map_id l)
  refine ⟨H.ok, fun s hs => ?_, ?_, H.free⟩
  · rcases List.mem_append.1 hs with h | h
    · exact H.mem s (by simpa using h)
    · obtain ⟨x, hx, rfl⟩ := List.mem_map.1 h
      have := largeId_sp (hl.1 x hx)
      exact ⟨this.1, this.2.2.1, this.2.2.2.1⟩
  · rw [List.map_append, hid, List.nodup_append]
    refine ⟨by simpa using H.nd, hl.2, fun a ha b hb e => ?_⟩
    subst e
    rw [List.any_eq_false] at hn
    refine hn a hb ?_
    unfold KS.has
    rw [List.any_eq_true]
    obtain ⟨s, hs, rfl⟩ := List.mem_map.1 ha
    exact ⟨s, hs, by simp⟩
theorem KInv.give {k : KS} (H : KInv k) (l : List Int) : KInv (k.give l).1 := by
  unfold KS.give
  split
  · rename_i hl
    split
    · exact H
    · rename_i hn
      exact KPend.gives _ (H.pend hl (by simpa using hn))
  · exact H
theorem KInv.hold {k : KS} (H : KInv k) (on : Bool) : KInv (k.hold on) := by
  unfold KS.hold
  split
  · exact ⟨H.ok, H.mem, H.nd, fun h => by cases h⟩
  · have hn := H.nd
    simp only [List.append_nil, List.map_append, List.nodup_append] at hn
    obtain ⟨e1, e2, _⟩ := freesH_eq k.waits H.ok (fun s hs => (H.mem s (by simp [hs])).1) hn.2.1
    refine ⟨e2, fun s hs => ?_, by simpa using hn.1, fun _ => rfl⟩
    simp only [List.append_nil] at hs
    obtain ⟨a, b⟩ := H.mem s (by simp [hs])
    refine ⟨?_, b⟩
    rw [e1]
    refine leftS_mem.2 ⟨a, fun h => ?_⟩
    exact hn.2.2 _ (List.mem_map_of_mem hs) _ h rfl
theorem KInv.flush {k : KS} (H : KInv k) : KInv k.flush := by
  unfold KS.flush
  have hn := H.nd
  simp only [List.append_nil, List.map_append, List.nodup_append] at hn
  obtain ⟨e1, e2, _⟩ := freesH_eq k.kept H.ok (fun s hs => (H.mem s (by simp [hs])).1) hn.1
  refine ⟨e2, fun s hs => ?_, by simpa using hn.2.1, fun h => H.free h⟩
  simp only [List.append_nil, List.nil_append] at hs
  obtain ⟨a, b⟩ := H.mem s (by simp [hs])
  refine ⟨?_, b⟩
  rw [e1]
  refine leftS_mem.2 ⟨a, fun h => ?_⟩
  exact hn.2.2 _ h _ (List.mem_map_of_mem hs) rfl
/-- Another span of the heap's, made by others. -/
theorem KInv.made {k : KS} (H : KInv k) (n ord : Int) : KInv ⟨(k.h.make n ord).1, k.kept, k.waits, k.held⟩ := by
  refine ⟨H.ok.make _ _, fun s hs => ?_, H.nd, H.free⟩
  obtain ⟨a, b⟩ := H.mem s hs
  refine ⟨?_, b⟩
  unfold Hp.make
  split
  · exact a
  · split
    · exact a
    · exact List.mem_append.2 (.inl a)
theorem KInv.count {k : KS} (H : KInv k) : k.kept.length + k.waits.length ≤ k.h.last := by
  have h1 := nodup_length k.h.last _ H.nd (fun x hx => by
    obtain ⟨s, hs, rfl⟩ := List.mem_map.1 hx
    have := H.ok.span (H.mem s hs).1
    omega)
  simpa using h1
end Go.Proofs.YtbldidlbhahciaaGreat

namespace Go.Proofs.YtbldidlbhahciaaGreat
open Go.RowKit

theorem num_is (n : Int) (w : World) (h : I64 n) :
    Calls Tryz.prog 83 #[.int .i64 n] w fun e w' => e = .returned (.bool (isB n)) ∧ w = w' := by
  obtain ⟨h0, h1⟩ := h
  by_cases c : 0 < n
  · have e := Lib.hid (and_pred c (by omega))
    go_enter Tryz.func83, Tryz.ntmps83
    go_wp2
    go_ret
    exact ⟨ret_b e.out.symm, rfl⟩
  · have H := Lib.hid (show isB n = false by simp [isB, c])
    go_enter Tryz.func83, Tryz.ntmps83
    go_wp2
    go_ret
    exact ⟨ret_b H.out, rfl⟩

theorem any_not {α : Type} (xs : List α) (p : α → Bool) : xs.any (fun x => !p x) = !xs.all p := by
  induction xs with
  | nil => rfl
  | cons x r ih => simp [ih, Bool.not_and]

theorem num_Is_lit (n : Int) (w : World) (h : I64 n) :
    Calls Tryz.prog 82 #[.int .i64 n] w fun e w' => e = .returned (.bool (!isB n)) ∧ w = w' := by
  go_enter Tryz.func82, Tryz.ntmps82
  go_wp2_with fail
  refine (num_is _ _ h).mono ?_; rintro e w' ⟨rfl, rfl⟩
  go_wp2
  go_ret
  exact ⟨rfl, rfl⟩
theorem ent_num_Is_lit : Enters 82 := enters_of Tryz.func82 (by kernel_rfl) rfl

theorem num_Is (a : Option Addr) (xs : List Int) (n c : Nat) (w : World) (hn : n = xs.length) (hl : xs.length ≤ maxLen) (hrd : RdV w a (ints xs)) (hx : ∀ x ∈ xs, I64 x) :
    Calls Tryz.prog 57 #[.slice a n c] w fun e w' => e = .returned (.bool (xs.all isB)) ∧ w = w' := by
  subst hn
  have H := Lib.hid (any_not xs isB)
  have E := ent_num_Is_lit
  go_enter Tryz.func57, Tryz.ntmps57
  go_wp2_with fail
  refine (containsFunc_int quiet_eq _ E #[] (fun x => !isB x) a xs _ c w rfl hl hrd ?_).mono ?_
  · rintro W rfl x hm; exact num_Is_lit x w (hx x hm)
  rintro e w' ⟨rfl, rfl⟩
  rw [H.out]
  go_wp2
  go_ret
  exact ⟨ret_b (by simp), rfl⟩

end Go.Proofs.YtbldidlbhahciaaGreat

namespace Go.Proofs.YtbldidlbhahciaaGreat
open Go.RowKit

set_option maxRecDepth 20000 in
theorem large_fits (n : Int) (w : World) (hn : I64 n) :
    Calls Tryz.prog 30 #[.int .i64 n] w fun e w' => e = .returned (.bool (fitsF n)) ∧ Bel w w' := by
  obtain ⟨n0, n1⟩ := hn
  by_cases c : 4 ≤ n
  · have hq : n.tdiv 4 = n / 4 := Int.tdiv_eq_ediv_of_nonneg (by omega)
    have hm : n.tmod 4 = n % 4 := Int.tmod_eq_emod_of_nonneg (by omega)
    obtain ⟨q, hq2⟩ : ∃ q, n / 4 = q := ⟨_, rfl⟩
    obtain ⟨m, hm2⟩ : ∃ m, n % 4 = m := ⟨_, rfl⟩
    have hr : isB q = true ∧ (m = 0 ∨ m ≠ 0) ∨ isB q = false := by
      cases isB q
      · exact .inr rfl
      · exact .inl ⟨rfl, by omega⟩
    have HF := Lib.hid (fits_prog (n := n) (by omega))
    rw [hq2, hm2] at HF
    rw [hq2] at hq
    rw [hm2] at hm
    have z0 : IntKind.i64.wrap q = q := IntWalk.i64_in _ (by omega)
    have z1 : IntKind.i64.wrap m = m := IntWalk.i64_in _ (by omega)
    have HI := Lib.hid (num_Is (some ⟨w.heap.size, 0, none⟩) [q] 1 1 (w.alloc (.cells #[.int .i64 q] 3)) rfl (by simp [maxLen]) (RdV.new w #[.int .i64 q] 3) (by intro x hx; simp at hx; subst hx; exact ⟨by omega, by omega⟩))
    have HB := Lib.hid ((Bel.refl w).alloc (.cells #[.int .i64 q] 3))
    obtain ⟨r, hr1, hr2⟩ : ∃ r, isB q = r ∧ [q].all isB = r := ⟨_, rfl, by simp⟩
    rw [hr2] at HI
    rw [hr1] at HF
    clear hq2 hm2 hr hr1 hr2
    cases r
    · have HFV : Hid (fitsF n = false) := Lib.hid (by rw [← HF.out]; simp)
      go_enter Tryz.func30, Tryz.ntmps30
      go_wp2_with fail
      refine HI.out.mono ?_
      rintro e w' ⟨rfl, rfl⟩
      go_wp2
      go_ret
      exact ⟨ret_b HFV.out, HB.out⟩
    · have HFV : Hid (fitsF n = (m == 0)) := Lib.hid (by rw [← HF.out, Bool.eq_iff_iff]; simp [c])
      go_enter Tryz.func30, Tryz.ntmps30
      go_wp2_with fail
      refine HI.out.mono ?_
      rintro e w' ⟨rfl, rfl⟩
      go_wp2
      go_ret
      exact ⟨ret_b HFV.out, HB.out⟩
  · have HFV : Hid (fitsF n = false) := Lib.hid (by unfold fitsF; simp [c])
    go_enter Tryz.func30, Tryz.ntmps30
    go_wp2
    go_ret
    exact ⟨ret_b HFV.out, Bel.refl _⟩
theorem large_same (n : Int) (w : World) :
    Calls Tryz.prog 40 #[.int .i64 n] w fun e w' => e = .returned (.func (.func 65) #[] #[.pointer (some ⟨w.heap.size, 0, none⟩)]) ∧ w' = w.alloc (.cells #[.int .i64 n] 3) := by
  go_enter Tryz.func40, Tryz.ntmps40
  go_wp2
  go_ret
  exact ⟨rfl, rfl⟩
set_option maxRecDepth 20000 in
theorem same_lit (x1 x2 x3 x4 n : Int) (g : Nat) (w : World) (hg : w.cell? ⟨g, 0, none⟩ = some (.int .i64 n)) :
    Calls Tryz.prog 65 #[.agg #[.int .i64 x1, .int .i64 x2, .int .i64 x3, .int .i64 x4], .pointer (some ⟨g, 0, none⟩)] w fun e w' => e = .returned (.bool (ofLen n (x1, (x2, x3), x4))) ∧ Bel w w' := by
  have hg2 := ((Bel.refl w).alloc (.cells #[.int .i64 x1, .int .i64 x2, .int .i64 x3, .int .i64 x4] 33)).cell hg
  have HB := Lib.hid ((Bel.refl w).alloc (.cells #[.int .i64 x1, .int .i64 x2, .int .i64 x3, .int .i64 x4] 33))
  have H : Hid (ofLen n (x1, (x2, x3), x4) = (x3 == n)) := Lib.hid (by unfold ofLen; rw [Bool.eq_iff_iff]; simp)
  clear hg
  go_enter Tryz.func65, Tryz.ntmps65
  go_wp2
  go_ret
  exact ⟨ret_b H.out, HB.out⟩
theorem same_enters : Enters 65 := enters_of Tryz.func65 (by kernel_rfl) rfl
theorem same_asks {n : Int} {g : Nat} {xs : List Sp} {w : World} (hg : w.cell? ⟨g, 0, none⟩ = some (.int .i64 n)) : AsksS 65 #[.pointer (some ⟨g, 0, none⟩)] (ofLen n) xs w := by
  rintro W hW ⟨x1, ⟨x2, x3⟩, x4⟩ _
  exact same_lit x1 x2 x3 x4 n g W (hW.cell hg)
theorem waits_lit (x1 x2 x3 x4 : Int) (w : World) :
    Calls Tryz.prog 48 #[.agg #[.int .i64 x1, .int .i64 x2, .int .i64 x3, .int .i64 x4]] w fun e w' => e = .returned (.bool true) ∧ Bel w w' := by
  go_enter Tryz.func48, Tryz.ntmps48
  go_wp2
  go_ret
  exact ⟨rfl, (Bel.refl _).alloc _⟩
theorem waits_enters : Enters 48 := enters_of Tryz.func48 (by kernel_rfl) rfl
theorem waits_asks {xs : List Sp} {w : World} : AsksS 48 #[] (fun _ => true) xs w := by
  rintro W hW ⟨x1, ⟨x2, x3⟩, x4⟩ _
  exact waits_lit x1 x2 x3 x4 W

/-! ### ids -/
/-- New numbers. -/
def NewInts (w : World) (l : List Int) (e : Ending) (w' : World) : Prop := ∃ v, e = .returned v ∧ w'.ownsRow w.heap.size 3 1 v l.length (ints l) ∧ Bel w w'
def idsOf (K : List Sp) : List Int := K.map (·.1)
theorem info_intL : (Tryz.prog.info? 3).map (fun i => (i.zero, i.size, i.bytes)) = some (some (.int .i64 0), 1, 8) := by kernel_rfl
theorem ints_snoc (l : List Int) (x : Int) : ints (l ++ [x]) = ints l ++ [.int .i64 x] := by simp [ints]
theorem cell_one_newL (w : World) (x : Value) (t : TypeId) : ∀ j u, [x][j]? = some u → (w.alloc (.cells #[x] t)).cell? ((⟨w.heap.size, 0, none⟩ : Addr).add j) = some u := by
  intro j u hj
  have : j = 0 := by
    have := (List.getElem?_eq_some_iff.1 hj).1
    simpa using this
  subst this
  simp at hj
  subst hj
  rw [addr_add, blk_cell (blk_alloc _ _)]; rfl
/-- Numbers so far. -/
def IdsWay (w : World) (l : List Int) (u : Value) (wr : World) : Prop := wr.ownsRow w.heap.size 3 1 u l.length (ints l) ∧ Bel w wr
set_option maxHeartbeats 1000000 in
set_option maxRecDepth 20000 in
theorem large_ids (g : Nat) (hg : Enters g) (cap : Array Value) (p : Sp → Bool) (a : Option Addr) (xs : List Sp) (n c : Nat) (w : World) (hn : n = xs.length) (hl : xs.length ≤ 65536) (hrd : SpansIn w a xs) (hp : AsksS g cap p xs w) :
    Calls Tryz.prog 39 #[.slice a n c, .func (.func g) #[] cap] w (NewInts w ((xs.filter p).map (·.1))) := by
  subst hn
  have HR := Lib.hid hrd
  have HP := Lib.hid hp
  have hgc : ∀ (args : Array Value) (w : World), (callFunc g args).run Tryz.prog w = .ok (.enter g args) w := hg
  obtain ⟨i0, hi0, hz0, hz1, hz2⟩ := info_parts info_intL
  clear hrd hp
  go_enter Tryz.func39, Tryz.ntmps39
  go_wp2_with fail
  go_loopw [5, 10] (fun u k wr => ∃ i : Nat, i ≤ xs.length ∧ k = .int .i64 i ∧ ∃ uv, uv = u ∧ Hid (IdsWay w (((xs.take i).filter p).map (·.1)) uv wr)) (fun u k wr => xs.length - (intOf k).toNat)
  case atStart => exact ⟨0, Nat.zero_le _, rfl, _, rfl, Lib.hid ⟨by simpa [ints] using World.ownsRow_nil _ _ _ _, Bel.refl _⟩⟩
  case round =>
    obtain ⟨i, hi, rfl, uv, rfl, HX⟩ := hrel
    by_cases hlt : i < xs.length
    · obtain ⟨b, o, rfl, p0, p1, p2, p3⟩ := (HR.out.bel HX.out.2).at i hlt
      have htk : xs.take (i + 1) = xs.take i ++ [xs[i]] := List.take_succ_eq_append_getElem hlt
      have hcon := fun W hW => HP.out W hW xs[i] (List.getElem_mem hlt)
      obtain ⟨x, hx⟩ : ∃ x, xs[i] = x := ⟨_, rfl⟩
      rw [hx] at p0 p1 p2 p3 hcon htk
      obtain ⟨x1, ⟨x2, x3⟩, x4⟩ := x
      dsimp only at p0 p1 p2 p3 hcon
      have hb1 := (Bel.refl wr).alloc (.cells #[.int .i64 x1, .int .i64 x2, .int .i64 x3, .int .i64 x4] 33)
      have gb := blk_alloc wr (.cells #[.int .i64 x1, .int .i64 x2, .int .i64 x3, .int .i64 x4] 33)
      have HC := Lib.hid (hcon _ (HX.out.2.trans hb1))
      have HB1 := Lib.hid hb1
      have HTK := Lib.hid htk
      clear hx hcon hb1 htk
      obtain ⟨q0, q1, q2, q3⟩ := four_cells gb
      go_wp2_with fail
      refine HC.out.mono ?_
      rintro e w2 ⟨rfl, hB2⟩
      have gb2 := hB2.blk gb
      obtain ⟨r0, r1, r2, r3⟩ := four_cells gb2
      have HB2 := Lib.hid (HB1.out.trans hB2)
      obtain ⟨l, hl2⟩ : ∃ l, ((xs.take i).filter p).map (·.1) = l := ⟨_, rfl⟩
      have hll : l.length ≤ 65536 := by
        rw [← hl2, List.length_map]
        have := List.length_filter_le p (xs.take i)
        rw [List.length_take] at this
        omega
      have HLE := Lib.hid hl2
      rw [hl2] at HX
      have hlsz : w.heap.size ≤ wr.heap.size := HX.out.2.size
      have hsz2 := HB2.out.size
      clear hl2 q0 q1 q2 q3 hB2 gb gb2 p0 p1 p2 p3
      cases hpx : p (x1, (x2, x3), x4)
      · have HN : Hid (((xs.take (i + 1)).filter p).map (·.1) = l) := Lib.hid (by rw [HTK.out, List.filter_append, List.filter_cons_of_neg (by simp [hpx]), ← HLE.out]; simp)
        clear hpx
        go_wp2
        go_roundw
        case rel => exact ⟨i + 1, by omega, by go_num, _, rfl, Lib.hid (by rw [HN.out]; exact ⟨own_bel HX.out.1 HB2.out, HX.out.2.trans HB2.out⟩)⟩
        case measure => simp [intOf]; omega
      · have HN : Hid (((xs.take (i + 1)).filter p).map (·.1) = l ++ [x1]) := Lib.hid (by rw [HTK.out, List.filter_append, List.filter_cons_of_pos (by simp [hpx]), ← HLE.out]; simp)
        have HOW := Lib.hid (own_bel HX.out.1 HB2.out)
        have HBX := Lib.hid (HX.out.2.trans HB2.out)
        clear hpx
        go_wp2_with (at_builtin; refine wpList_append_own _ rfl _ _ 22 rfl w.heap.size 3 i0 (.int .i64 0) 1 8 Tryz.underlying22 hi0 hz0 hz1 hz2 rfl (by decide) _ _ _ rfl (HOW.out.alloc _) ⟨w2.heap.size, 0, none⟩ 1 1 [.int .i64 x1] rfl rfl ?d2 ?d3 ?d4 ?d5 ?d6 ?_)
        case d2 => exact cell_one_newL _ _ _
        case d3 => simp [Value.oneCell']
        case d4 => unfold maxLen; first | omega | (simp; omega)
        case d5 => first | omega | (simp; omega)
        case d6 => first | omega | (simp; omega)
        intro v' w4 hown4 hgrow _
        have hB4 : Bel w w4 := Fr.bel ((Fr.of_bel (HBX.out.alloc _)).trans' (fr_row7 hgrow)) (fun k hk => (HOW.out.lt k hk).1)
        have HN4 : Hid (IdsWay w (((xs.take (i + 1)).filter p).map (·.1)) v' w4) := Lib.hid (by
          rw [HN.out]
          refine ⟨?_, hB4⟩
          rw [ints_snoc, List.length_append]; exact hown4)
        clear hown4 hgrow hB4
        go_wp2
        go_roundw
        case rel => exact ⟨i + 1, by omega, by go_num, _, rfl, HN4⟩
        case measure => simp [intOf]; omega
    · obtain rfl : i = xs.length := by omega
      rw [List.take_length] at HX
      go_wp2
      go_ret
      exact ⟨_, rfl, HX.out.1, HX.out.2⟩
end Go.Proofs.YtbldidlbhahciaaGreat

namespace Go.Proofs.YtbldidlbhahciaaGreat
open Go.RowKit

set_option maxRecDepth 20000 in
theorem ref10_in (a : Option Addr) (K : List Sp) (n c : Nat) (id : Int) (w : World) (hn : n = K.length) (hl : K.length ≤ 65536) (hs : SpansIn w a K) :
    Calls Tryz.prog 70 #[.slice a n c, .int .i64 id] w fun e w' => e = .returned (.bool (K.any fun s => s.1 == id)) ∧ w = w' := by
  subst hn
  have HS := Lib.hid hs
  clear hs
  go_enter Tryz.func70, Tryz.ntmps70
  go_wp2_with fail
  go_loopw [8] (fun kk wr => ∃ i : Nat, i ≤ K.length ∧ kk = .int .i64 i ∧ wr = w ∧ Hid ((K.take i).any (fun s => s.1 == id) = false)) (fun kk wr => K.length - (intOf kk).toNat)
  case atStart => exact ⟨0, Nat.zero_le _, rfl, rfl, Lib.hid (by simp)⟩
  case round =>
    obtain ⟨i, hi, rfl, rfl, HX⟩ := hrel
    by_cases hlt : i < K.length
    · obtain ⟨b, o, rfl, p0, p1, p2, p3⟩ := HS.out.at i hlt
      have htk : K.take (i + 1) = K.take i ++ [K[i]] := List.take_succ_eq_append_getElem hlt
      have hmem := List.getElem_mem hlt
      obtain ⟨x, hx⟩ : ∃ x, K[i] = x := ⟨_, rfl⟩
      rw [hx] at p0 p1 p2 p3 htk hmem
      obtain ⟨x1, ⟨x2, x3⟩, x4⟩ := x
      dsimp only at p0
      by_cases he : x1 = id
      · have HE : Hid ((K.any fun s => s.1 == id) = true) := Lib.hid (List.any_eq_true.2 ⟨_, hmem, by simpa using he⟩)
        have e1 : (x1 == id) = true := by simpa using he
        clear hx htk hmem p1 p2 p3 he
        go_wp2
        go_ret
        exact ⟨ret_b HE.out, rfl⟩
      · have HN : Hid ((K.take (i + 1)).any (fun s => s.1 == id) = false) := Lib.hid (by
          rw [htk, List.any_append, HX.out]
          simpa using he)
        have e1 : (x1 == id) = false := by simpa using he
        clear hx htk hmem p1 p2 p3 he
        go_wp2
        go_roundw
        case rel => exact ⟨i + 1, by omega, by go_num, by trivial, HN⟩
        case measure => simp [intOf]; omega
    · obtain rfl : i = K.length := by omega
      rw [List.take_length] at HX
      have HE : Hid ((K.any fun s => s.1 == id) = false) := HX
      go_wp2
      go_ret
      exact ⟨ret_b HE.out, rfl⟩
set_option maxHeartbeats 1000000 in
set_option maxRecDepth 20000 in
theorem ref10_Numbers (a : Option Addr) (K : List Sp) (n c : Nat) (w : World) (hn : n = K.length) (hl : K.length ≤ 65536) (hs : SpansIn w a K) :
    Calls Tryz.prog 19 #[.slice a n c] w (NewInts w (idsOf K)) := by
  subst hn
  have HS := Lib.hid hs
  clear hs
  obtain ⟨i0, hi0, hz0, hz1, hz2⟩ := info_parts info_intL
  go_enter Tryz.func19, Tryz.ntmps19
  go_wp2_with fail
  go_loopw [3, 8] (fun u kk wr => ∃ i : Nat, i ≤ K.length ∧ kk = .int .i64 i ∧ ∃ uv, uv = u ∧ Hid (IdsWay w (idsOf (K.take i)) uv wr)) (fun u kk wr => K.length - (intOf kk).toNat)
  case atStart => exact ⟨0, Nat.zero_le _, rfl, _, rfl, Lib.hid ⟨by simpa [ints, idsOf] using World.ownsRow_made (e := 3) (size := 1) w #[] 0 (Nat.le_refl _) (by simp [maxLen]) (by simp), (Bel.refl _).alloc _⟩⟩
  case round =>
    obtain ⟨i, hi, rfl, uv, rfl, HX⟩ := hrel
    by_cases hlt : i < K.length
    · obtain ⟨b, o, rfl, p0, p1, p2, p3⟩ := (HS.out.bel HX.out.2).at i hlt
      have htk : idsOf (K.take (i + 1)) = idsOf (K.take i) ++ [K[i].1] := by rw [List.take_succ_eq_append_getElem hlt]; unfold idsOf; rw [List.map_append]; rfl
      have hlen : (idsOf (K.take i)).length = i := by simp [idsOf]; omega
      obtain ⟨x, hx⟩ : ∃ x, K[i] = x := ⟨_, rfl⟩
      rw [hx] at p0 p1 p2 p3 htk
      obtain ⟨x1, ⟨x2, x3⟩, x4⟩ := x
      dsimp only at p0 htk
      obtain ⟨l, hl2⟩ : ∃ l, idsOf (K.take i) = l := ⟨_, rfl⟩
      rw [hl2] at HX htk hlen
      have HTK := Lib.hid htk
      have hlsz : w.heap.size ≤ wr.heap.size := HX.out.2.size
      clear hx htk hl2 p1 p2 p3
      go_wp2_with (at_builtin; refine wpList_append_own _ rfl _ _ 22 rfl w.heap.size 3 i0 (.int .i64 0) 1 8 Tryz.underlying22 hi0 hz0 hz1 hz2 rfl (by decide) _ _ _ rfl (HX.out.1.alloc _) ⟨wr.heap.size, 0, none⟩ 1 1 [.int .i64 x1] rfl rfl ?d2 ?d3 ?d4 ?d5 ?d6 ?_)
      case d2 => exact cell_one_newL _ _ _
      case d3 => simp [Value.oneCell']
      case d4 => unfold maxLen; first | omega | (simp; omega)
      case d5 => first | omega | (simp; omega)
      case d6 => first | omega | (simp; omega)
      intro v' w4 hown4 hgrow _
      have hB4 : Bel w w4 := Fr.bel ((Fr.of_bel (HX.out.2.alloc _)).trans' (fr_row7 hgrow)) (fun k hk => (HX.out.1.lt k hk).1)
      have HN4 : Hid (IdsWay w (idsOf (K.take (i + 1))) v' w4) := Lib.hid (by
        rw [HTK.out]
        refine ⟨?_, hB4⟩
        rw [ints_snoc, show (l ++ [x1]).length = i + 1 by rw [List.length_append, hlen]; rfl]; exact hown4)
      clear hown4 hgrow hB4
      go_wp2
      go_roundw
      case rel => exact ⟨i + 1, by omega, by go_num, _, rfl, HN4⟩
      case measure => simp [intOf]; omega
    · obtain rfl : i = K.length := by omega
      rw [List.take_length] at HX
      go_wp2
      go_ret
      exact ⟨_, rfl, HX.out.1, HX.out.2⟩
/-- New spans. -/
def NewSps (w : World) (L : List Sp) (e : Ending) (w' : World) : Prop := ∃ g cap, e = .returned (.slice (some ⟨g, 0, none⟩) L.length cap) ∧ SpansIn w' (some ⟨g, 0, none⟩) L ∧ w.heap.size ≤ g ∧ g < w'.heap.size ∧ L.length ≤ cap ∧ Bel w w'
set_option maxHeartbeats 2000000 in
set_option maxRecDepth 20000 in
theorem ref10_without (a : Option Addr) (K : List Sp) (n c i : Nat) (w : World) (hn : n = K.length) (hi : i < K.length) (hcap : K.length ≤ c) (hl : K.length ≤ 4096) (hs : SpansIn w a K) :
    Calls Tryz.prog 67 #[.slice a n c, .int .i64 i] w (NewSps w (outSp K i)) := by
  subst hn
  obtain ⟨ba, oa, rfl, _⟩ := hs.at i hi
  have HS := Lib.hid hs
  clear hs
  have e0 : (0 : Int) ≤ (i : Int) + 1 := by omega
  have e1 : i ≤ c := by omega
  have e7 : (i : Int) ≤ (i : Int) + 1 := by omega
  have e2 : (i : Int) + 1 ≤ K.length := by omega
  have e3 : (K.length : Int) ≤ c := by omega
  have e4 : K.length ≤ c := by omega
  have e5 : i + 1 ≤ K.length := by omega
  have z1 : IntKind.i64.wrap ((i : Int) + 1) = (i : Int) + 1 := IntWalk.i64_in _ (by omega)
  have hol : (outSp K i).length = K.length - 1 := by unfold outSp; simp; omega
  have HOL := Lib.hid hol
  clear hol
  by_cases hce : c = i + 1
  · go_enter Tryz.func67, Tryz.ntmps67
    go_wp2_with fail
    go_region_law (first
    | ((refine step_app_sp rfl _ _ (by rfl) w.heap.size _ 0 _ [] (K.take i) rfl (by rfl) ?o1 (some ⟨ba, oa, none⟩) i _ (by simp; omega) (by rfl) ?o2 (by rintro ⟨⟩) (by omega) ?o3 i (by omega) (K.take i) rfl ?_); (case o1 => first | exact own_made _ _ _ _ _ (by simp) (by simp) | exact (own_made _ _ _ _ _ (by simp) (by simp)).alloc _); (case o2 => exact (HS.out.take i).bel (by repeat (first | exact Bel.refl _ | apply Bel.drew | apply Bel.alloc))); (case o3 => simp; try omega); intro g5 cap5 w5 hown5 hgrow5 hat5; (have hB5 : Bel w w5 := bel_row7 (by repeat (first | exact Bel.refl _ | apply Bel.drew | apply Bel.alloc)) hgrow5 (by simp; try omega)))
    | ((refine step_app_sp rfl _ _ (by rfl) w.heap.size _ i _ (K.take i) (K.drop (i + 1)) (by simp; omega) (by rfl) ?o1 (some ⟨ba, _, none⟩) _ _ ?o5 (by rfl) ?o2 (by rintro ⟨⟩) ?o4 ?o3 (K.length - 1) ?o6 _ rfl ?_); (case o1 => first | exact hown5 | exact hown5.alloc _); (case o5 => simp; try omega); (case o2 => exact .inl (List.drop_eq_nil_of_le (by omega))); (case o4 => omega); (case o6 => omega); (case o3 => have := hB5.size; simp; try omega); intro g6 cap6 w6 hown6 hgrow6 hat6; (have hB6 : Bel w w6 := bel_row7 (hB5.trans (by repeat (first | exact Bel.refl _ | apply Bel.drew | apply Bel.alloc))) hgrow6 (hown5.lt _ rfl).1)))
    all_goals
      obtain ⟨hs6, hz6, hy6, hcp6⟩ := spansIn_own hown6
      have HN : Hid (NewSps w (outSp K i) (.returned (.slice (some ⟨g6, 0, none⟩) (K.length - 1) cap6)) w6) := Lib.hid ⟨g6, cap6, by rw [HOL.out], hs6, hz6, hy6, by rw [HOL.out]; exact hcp6, hB6⟩
      clear hs6 hz6 hy6 hcp6 hB6 hown6 hgrow6 hat6 hown5 hgrow5 hat5 hB5
      go_wp2
      go_ret
      exact HN.out
  · go_enter Tryz.func67, Tryz.ntmps67
    go_wp2_with fail
    go_region_law (first
    | ((refine step_app_sp rfl _ _ (by rfl) w.heap.size _ 0 _ [] (K.take i) rfl (by rfl) ?o1 (some ⟨ba, oa, none⟩) i _ (by simp; omega) (by rfl) ?o2 (by rintro ⟨⟩) (by omega) ?o3 i (by omega) (K.take i) rfl ?_); (case o1 => first | exact own_made _ _ _ _ _ (by simp) (by simp) | exact (own_made _ _ _ _ _ (by simp) (by simp)).alloc _); (case o2 => exact (HS.out.take i).bel (by repeat (first | exact Bel.refl _ | apply Bel.drew | apply Bel.alloc))); (case o3 => simp; try omega); intro g5 cap5 w5 hown5 hgrow5 hat5; (have hB5 : Bel w w5 := bel_row7 (by repeat (first | exact Bel.refl _ | apply Bel.drew | apply Bel.alloc)) hgrow5 (by simp; try omega)))
    | ((refine step_app_sp rfl _ _ (by rfl) w.heap.size _ i _ (K.take i) (K.drop (i + 1)) (by simp; omega) (by rfl) ?o1 (some ⟨ba, _, none⟩) _ _ ?o5 (by rfl) ?o2 (by rintro ⟨⟩) ?o4 ?o3 (K.length - 1) ?o6 _ rfl ?_); (case o1 => first | exact hown5 | exact hown5.alloc _); (case o5 => simp; try omega); (case o2 => exact (HS.out.drop (i + 1)).bel (hB5.trans (by repeat (first | exact Bel.refl _ | apply Bel.drew | apply Bel.alloc)))); (case o4 => omega); (case o6 => omega); (case o3 => have := hB5.size; simp; try omega); intro g6 cap6 w6 hown6 hgrow6 hat6; (have hB6 : Bel w w6 := bel_row7 (hB5.trans (by repeat (first | exact Bel.refl _ | apply Bel.drew | apply Bel.alloc))) hgrow6 (hown5.lt _ rfl).1)))
    all_goals
      obtain ⟨hs6, hz6, hy6, hcp6⟩ := spansIn_own hown6
      have HN : Hid (NewSps w (outSp K i) (.returned (.slice (some ⟨g6, 0, none⟩) (K.length - 1) cap6)) w6) := Lib.hid ⟨g6, cap6, by rw [HOL.out], hs6, hz6, hy6, by rw [HOL.out]; exact hcp6, hB6⟩
      clear hs6 hz6 hy6 hcp6 hB6 hown6 hgrow6 hat6 hown5 hgrow5 hat5 hB5
      go_wp2
      go_ret
      exact HN.out
end Go.Proofs.YtbldidlbhahciaaGreat

namespace Go.Proofs.YtbldidlbhahciaaGreat
open Go.RowKit

/-- Where a reference keeper's rows lie. -/
structure KP where
  g : Nat
  fc : Nat
  a : Option Addr
  c : Nat
  ka : Option Addr
  kc : Nat
  wa : Option Addr
  wc : Nat
def kCells (st : KS) (p : KP) : Array Value :=
  #[.int .i64 (st.h.P : Int), .slice (some ⟨p.g, 0, none⟩) 1024 p.fc, .slice p.a st.h.S.length p.c, .int .i64 (st.h.last : Int), .slice p.ka st.kept.length p.kc, .slice p.wa st.waits.length p.wc, .bool st.held]
def kV (st : KS) (p : KP) : Value := .agg (kCells st p)
def k0Cells : Array Value := #[.int .i64 0, .slice none 0 0, .slice none 0 0, .int .i64 0, .slice none 0 0, .slice none 0 0, .bool false]
structure RefK (w : World) (st : KS) (p : KP) : Prop where
  heap : RefG w p.g p.fc p.a p.c st.h
  kept : SpansIn w p.ka st.kept
  waits : SpansIn w p.wa st.waits
  kcap : st.kept.length ≤ p.kc
  wcap : st.waits.length ≤ p.wc
  knil : p.ka = none → st.kept = [] ∧ p.kc = 0
  wnil : p.wa = none → st.waits = [] ∧ p.wc = 0
theorem RefK.bel {w w' : World} {st : KS} {p : KP} (H : RefK w st p) (k : Bel w w') : RefK w' st p :=
  ⟨H.heap.bel k, H.kept.bel k, H.waits.bel k, H.kcap, H.wcap, H.knil, H.wnil⟩
/-- A row is the old one, or new. -/
def Fresh (w : World) (a : Option Addr) (S : List Sp) (a' : Option Addr) (S' : List Sp) : Prop := (a' = a ∧ (S' ≠ [] → S ≠ [])) ∨ ∃ p, a' = some p ∧ w.heap.size ≤ p.block
theorem Fresh.refl (w : World) (a : Option Addr) (S : List Sp) : Fresh w a S a S := .inl ⟨rfl, fun h => h⟩
theorem Fresh.old {w W : World} {a a' : Option Addr} {S S' : List Sp} (h : Fresh W a S a' S') (k : w.heap.size ≤ W.heap.size) : Fresh w a S a' S' := by
  rcases h with h | ⟨p, h1, h2⟩
  · exact .inl h
  · exact .inr ⟨p, h1, Nat.le_trans k h2⟩
theorem SpansIn.lt {w : World} {a : Option Addr} {S : List Sp} (h : SpansIn w a S) (hS : S ≠ []) : ∀ p, a = some p → p.block < w.heap.size := fun p hp => by
  rcases h with h9 | ⟨b, o, e, h9⟩
  · exact absurd h9 hS
  · rw [hp] at e; cases e
    exact World.block_lt_of_cell? _ _ (h9 0 (List.length_pos_iff.2 hS) 0 _ rfl)
/-- What an act of the reference leaves. -/
structure KPost (w : World) (st : KS) (p : KP) (st' : KS) (p' : KP) (w' : World) : Prop where
  ref : RefK w' st' p'
  bel : Bel w w'
  fa : Fresh w p.a st.h.S p'.a st'.h.S
  fk : Fresh w p.ka st.kept p'.ka st'.kept
  fw : Fresh w p.wa st.waits p'.wa st'.waits
theorem KPost.same {w w' : World} {st : KS} {p : KP} (H : RefK w st p) (k : Bel w w') : KPost w st p st p w' := ⟨H.bel k, k, .refl _ _ _, .refl _ _ _, .refl _ _ _⟩
/-- An answer's heap, after boxes have been written. -/
theorem GPost.store {w W w3 w4 : World} {Q : Nat → Prop} {g fc c g' fc' c' : Nat} {a a' : Option Addr} {h h' : Hp} (R : RefG w g fc a c h) (P : GPost W a h.S h' g' fc' a' c' w3) (hF : Fr Q w3 w4)
    (hQ : ∀ i, Q i → w.heap.size ≤ i ∧ i < W.heap.size ∧ ∃ cs T, w3.heap[i]? = some (.cells cs T (0, 0)) ∧ T ≠ 4) : RefG w4 g' fc' a' c' h' := by
  obtain ⟨P1, P2, P3⟩ := P
  refine P1.fr hF (fun hq => ?_) (fun p hp hS hq => ?_)
  · obtain ⟨cur, hg⟩ := P1.blk
    obtain ⟨_, _, cs, T, h1, h2⟩ := hQ _ hq
    rw [hg] at h1
    simp only [Option.some.injEq, Obj.cells.injEq] at h1
    exact h2 h1.2.1.symm
  · obtain ⟨h1, h2, _⟩ := hQ _ hq
    rcases P3 with ⟨rfl, h4⟩ | ⟨p9, h4, h5⟩
    · have := R.lt (h4 hS) p hp; omega
    · rw [hp] at h4; cases h4; omega
theorem seven_cells {w : World} {R T : Nat} {a b c d e f g : Value} (h : w.heap[R]? = some (.cells #[a, b, c, d, e, f, g] T (0, 0))) :
    w.cell? ⟨R, 0, none⟩ = some a ∧ w.cell? ⟨R, 1, none⟩ = some b ∧ w.cell? ⟨R, 2, none⟩ = some c ∧ w.cell? ⟨R, 3, none⟩ = some d ∧ w.cell? ⟨R, 4, none⟩ = some e ∧ w.cell? ⟨R, 5, none⟩ = some f ∧ w.cell? ⟨R, 6, none⟩ = some g :=
  ⟨blk_cell h 0, blk_cell h 1, blk_cell h 2, blk_cell h 3, blk_cell h 4, blk_cell h 5, blk_cell h 6⟩
theorem seven_frozen {w : World} {R T : Nat} {a b c d e f g : Value} (h : w.heap[R]? = some (.cells #[a, b, c, d, e, f, g] T (0, 0))) :
    w.frozen? ⟨R, 0, none⟩ = false ∧ w.frozen? ⟨R, 1, none⟩ = false ∧ w.frozen? ⟨R, 2, none⟩ = false ∧ w.frozen? ⟨R, 3, none⟩ = false ∧ w.frozen? ⟨R, 4, none⟩ = false ∧ w.frozen? ⟨R, 5, none⟩ = false ∧ w.frozen? ⟨R, 6, none⟩ = false :=
  ⟨blk_frozen h 0, blk_frozen h 1, blk_frozen h 2, blk_frozen h 3, blk_frozen h 4, blk_frozen h 5, blk_frozen h 6⟩
theorem fr_seven (w : World) (R : Nat) (a b c d e f g : Value) : Fr (fun k => k = R) w (((((((w.setCell ⟨R, 0, none⟩ a).setCell ⟨R, 1, none⟩ b).setCell ⟨R, 2, none⟩ c).setCell ⟨R, 3, none⟩ d).setCell ⟨R, 4, none⟩ e).setCell ⟨R, 5, none⟩ f).setCell ⟨R, 6, none⟩ g) :=
  Fr.setCell (p := ⟨R, 6, none⟩) (Fr.setCell (p := ⟨R, 5, none⟩) (Fr.setCell (p := ⟨R, 4, none⟩) (fr_four w R a b c d) (.inl rfl) e) (.inl rfl) f) (.inl rfl) g

/-! ### List -/
/-- Numbers so far, and the box. -/
def ListWay (w : World) (B : Nat) (cs : Array Value) (l : List Int) (u : Value) (wr : World) : Prop :=
  wr.ownsRow (B + 1) 3 1 u l.length (ints l) ∧ Bel w wr ∧ wr.heap[B]? = some (.cells cs 46 (0, 0))
set_option maxHeartbeats 1000000 in
set_option maxRecDepth 20000 in
theorem ref10_List {w : World} {st : KS} {p : KP} (R : RefK w st p) (n : Int) (hl : st.kept.length ≤ 65536) :
    Calls Tryz.prog 17 #[kV st p, .int .i64 n] w (NewInts w (keptIds st.kept n)) := by
  obtain ⟨g, fc, a, c, ka, kc, wa, wc⟩ := p
  have hs := R.kept
  obtain ⟨K, hK⟩ : ∃ K, st.kept = K := ⟨_, rfl⟩
  obtain ⟨v0, h0⟩ : ∃ v, Value.int .i64 (st.h.P : Int) = v := ⟨_, rfl⟩
  obtain ⟨v2, h2⟩ : ∃ v, Value.slice a st.h.S.length c = v := ⟨_, rfl⟩
  obtain ⟨v3, h3⟩ : ∃ v, Value.int .i64 (st.h.last : Int) = v := ⟨_, rfl⟩
  obtain ⟨v5, h5⟩ : ∃ v, Value.slice wa st.waits.length wc = v := ⟨_, rfl⟩
  obtain ⟨v6, h6⟩ : ∃ v, Value.bool st.held = v := ⟨_, rfl⟩
  simp only [kV, kCells]
  rw [hK] at hs hl ⊢
  rw [h0, h2, h3, h5, h6]
  have HS := Lib.hid hs
  clear hs R hK h0 h2 h3 h5 h6
  obtain ⟨i0, hi0, hz0, hz1, hz2⟩ := info_parts info_intL
  obtain ⟨cs, hcs⟩ : ∃ cs : Array Value, #[v0, .slice (some ⟨g, 0, none⟩) 1024 fc, v2, v3, .slice ka K.length kc, v5, v6] = cs := ⟨_, rfl⟩
  have HCS := Lib.hid hcs
  have hb1 := (Bel.refl w).alloc (.cells #[v0, .slice (some ⟨g, 0, none⟩) 1024 fc, v2, v3, .slice ka K.length kc, v5, v6] 46)
  have gb := blk_alloc w (.cells #[v0, .slice (some ⟨g, 0, none⟩) 1024 fc, v2, v3, .slice ka K.length kc, v5, v6] 46)
  have HST : Hid (ListWay w w.heap.size cs [] (.slice (some ⟨w.heap.size + 1, 0, none⟩) 0 0) ((w.alloc (.cells #[v0, .slice (some ⟨g, 0, none⟩) 1024 fc, v2, v3, .slice ka K.length kc, v5, v6] 46)).alloc (.cells #[] 3))) := Lib.hid ⟨own_made _ _ _ _ _ (by simp) (by simp), hb1.alloc _, by rw [← hcs]; exact blk_alloc_old _ gb⟩
  obtain ⟨q0, q1, q2, q3, q4, q5, q6⟩ := seven_cells (blk_alloc_old (.cells #[] 3) gb)
  clear hcs hb1 gb
  go_enter Tryz.func17, Tryz.ntmps17
  go_wp2_with fail
  go_loopw [5, 11] (fun u kk wr => ∃ i : Nat, i ≤ K.length ∧ kk = .int .i64 i ∧ ∃ uv, uv = u ∧ Hid (ListWay w w.heap.size cs (keptIds (K.take i) n) uv wr)) (fun u kk wr => K.length - (intOf kk).toNat)
  case atStart => exact ⟨0, Nat.zero_le _, rfl, _, rfl, by simpa [keptIds] using HST⟩
  case round =>
    clear HST
    obtain ⟨i, hi, rfl, uv, rfl, HX⟩ := hrel
    by_cases hlt : i < K.length
    · obtain ⟨b, o, rfl, p0, p1, p2, p3⟩ := (HS.out.bel HX.out.2.1).at i hlt
      have gw := HX.out.2.2
      rw [← HCS.out] at gw
      obtain ⟨q0, q1, q2, q3, q4, q5, q6⟩ := seven_cells gw
      have htk : K.take (i + 1) = K.take i ++ [K[i]] := List.take_succ_eq_append_getElem hlt
      have hlen : (keptIds (K.take i) n).length ≤ i := by
        unfold keptIds
        rw [List.length_map]
        exact Nat.le_trans (List.length_filter_le _ _) (by rw [List.length_take]; omega)
      obtain ⟨x, hx⟩ : ∃ x, K[i] = x := ⟨_, rfl⟩
      rw [hx] at p0 p1 p2 p3 htk
      obtain ⟨x1, ⟨x2, x3⟩, x4⟩ := x
      dsimp only at p0 p2
      obtain ⟨l, hl2⟩ : ∃ l, keptIds (K.take i) n = l := ⟨_, rfl⟩
      have hlsz : w.heap.size < wr.heap.size := heap_lt gw
      by_cases he : x3 = n
      · have HTK : Hid (keptIds (K.take (i + 1)) n = l ++ [x1]) := Lib.hid (by
          rw [htk, ← hl2]; unfold keptIds
          rw [List.filter_append, List.map_append, List.filter_cons_of_pos (by unfold ofLen; simpa using he)]; rfl)
        have e1 : (x3 == n) = true := by simpa using he
        rw [hl2] at HX hlen
        have HG := Lib.hid gw
        clear hx htk hl2 p1 p3 he gw
        go_wp2_with (at_builtin; refine wpList_append_own _ rfl _ _ 22 rfl (w.heap.size + 1) 3 i0 (.int .i64 0) 1 8 Tryz.underlying22 hi0 hz0 hz1 hz2 rfl (by decide) _ _ _ rfl (HX.out.1.alloc _) ⟨wr.heap.size, 0, none⟩ 1 1 [.int .i64 x1] rfl rfl ?d2 ?d3 ?d4 ?d5 ?d6 ?_)
        case d2 => exact cell_one_newL _ _ _
        case d3 => simp [Value.oneCell']
        case d4 => unfold maxLen; first | omega | (simp; omega)
        case d5 => first | omega | (simp; omega)
        case d6 => first | omega | (simp; omega)
        intro v' w4 hown4 hgrow _
        have hF4 := (Fr.of_bel (S := fun k => uv.ownBlock = some k) ((Bel.refl wr).alloc (.cells #[.int .i64 x1] 3))).trans' (fr_row7 hgrow)
        have hB4 : Bel w w4 := Fr.bel ((Fr.of_bel HX.out.2.1).trans' hF4) (fun k hk => Nat.le_of_succ_le (HX.out.1.lt k hk).1)
        have hg4 := hF4.heap HX.out.2.2 (fun h => by have := (HX.out.1.lt _ h).1; omega)
        have HN4 : Hid (ListWay w w.heap.size cs (keptIds (K.take (i + 1)) n) v' w4) := Lib.hid (by
          rw [HTK.out]
          refine ⟨?_, hB4, hg4⟩
          rw [ints_snoc, List.length_append]; exact hown4)
        clear hown4 hgrow hB4 hF4 hg4
        go_wp2
        go_roundw
        case rel => exact ⟨i + 1, by omega, by go_num, _, rfl, HN4⟩
        case measure => simp [intOf]; omega
      · have HN4 : Hid (ListWay w w.heap.size cs (keptIds (K.take (i + 1)) n) uv wr) := Lib.hid (by
          have : keptIds (K.take (i + 1)) n = keptIds (K.take i) n := by
            rw [htk]; unfold keptIds
            rw [List.filter_append, List.map_append, List.filter_cons_of_neg (by unfold ofLen; simpa using he)]; simp
          rw [this]; exact HX.out)
        have e1 : (x3 == n) = false := by simpa using he
        clear hx htk hl2 p1 p3 he gw
        go_wp2
        go_roundw
        case rel => exact ⟨i + 1, by omega, by go_num, _, rfl, HN4⟩
        case measure => simp [intOf]; omega
    · obtain rfl : i = K.length := by omega
      rw [List.take_length] at HX
      go_wp2
      go_ret
      exact ⟨_, rfl, own_base HX.out.1 (Nat.le_succ _), HX.out.2.1⟩
end Go.Proofs.YtbldidlbhahciaaGreat

namespace Go.Proofs.YtbldidlbhahciaaGreat
open Go.RowKit

theorem drop_frees {h : Hp} (H : HpOk h) {L : List Sp} (hm : ∀ s ∈ L, s ∈ h.S) (hn : (L.map (·.1)).Nodup) : h.drop (idsOf L) = (freesH h L, 0) := (freesH_eq L H hm hn).2.2
/-- After the Drop: the box. -/
def DropMid (w : World) (st : KS) (p : KP) (h' : Hp) (B : Nat) (kcs : Value × Value × Value) (wx : World) : Prop :=
  ∃ g' fc' a' c', wx.heap[B]? = some (.cells #[.int .i64 (h'.P : Int), .slice (some ⟨g', 0, none⟩) 1024 fc', .slice a' h'.S.length c', .int .i64 (h'.last : Int), kcs.1, kcs.2.1, kcs.2.2] 46 (0, 0)) ∧
    wx.heap[B + 1]? = some (.cells k0Cells 46 (0, 0)) ∧ RefG wx g' fc' a' c' h' ∧ Bel w wx ∧ Fresh w p.a st.h.S a' h'.S ∧ (∀ q, a' = some q → h'.S ≠ [] → q.block ≠ B + 1 ∧ q.block ≠ B)
theorem DropMid.of {w W w3 w4 : World} {st : KS} {p : KP} {h' : Hp} {kcs : Value × Value × Value} {g' fc' c' : Nat} {a' : Option Addr} (R : RefK w st p) (hW : Bel w W)
    (hb0 : W.heap[w.heap.size]? = some (.cells #[.int .i64 (st.h.P : Int), .slice (some ⟨p.g, 0, none⟩) 1024 p.fc, .slice p.a st.h.S.length p.c, .int .i64 (st.h.last : Int), kcs.1, kcs.2.1, kcs.2.2] 46 (0, 0)))
    (hb1 : W.heap[w.heap.size + 1]? = some (.cells k0Cells 46 (0, 0))) (P : GPost W p.a st.h.S h' g' fc' a' c' w3)
    (e4 : w4 = (((w3.setCell ⟨w.heap.size, 0, none⟩ (.int .i64 (h'.P : Int))).setCell ⟨w.heap.size, 1, none⟩ (.slice (some ⟨g', 0, none⟩) 1024 fc')).setCell ⟨w.heap.size, 2, none⟩ (.slice a' h'.S.length c')).setCell ⟨w.heap.size, 3, none⟩ (.int .i64 (h'.last : Int))) :
    DropMid w st p h' w.heap.size kcs w4 := by
  have hF := fr_four w3 w.heap.size (.int .i64 (h'.P : Int)) (.slice (some ⟨g', 0, none⟩) 1024 fc') (.slice a' h'.S.length c') (.int .i64 (h'.last : Int))
  rw [← e4] at hF
  have hb3 := P.2.1.blk hb0
  have hb4 := P.2.1.blk hb1
  have l0 := heap_lt hb0
  have l1 := heap_lt hb1
  refine ⟨g', fc', a', c', ?_, hF.heap hb4 (by show ¬ w.heap.size + 1 = w.heap.size; omega), GPost.store R.heap P hF (fun i hi => ?_), ?_, P.2.2.elim (fun h => .inl h) (fun ⟨q, h1, h2⟩ => .inr ⟨q, h1, by have := hW.size; omega⟩), fun q hq hS => ?_⟩
  · rw [e4]
    have h1 := blk_setCell hb3 0 (.int .i64 (h'.P : Int))
    have h2 := blk_setCell h1 1 (.slice (some ⟨g', 0, none⟩) 1024 fc')
    have h3 := blk_setCell h2 2 (.slice a' h'.S.length c')
    have h4 := blk_setCell h3 3 (.int .i64 (h'.last : Int))
    simpa using h4
  · subst hi
    exact ⟨Nat.le_refl _, l0, _, _, hb3, by decide⟩
  · exact Fr.bel ((Fr.of_bel (hW.trans P.2.1)).trans' hF) (fun k hk => by subst hk; exact Nat.le_refl _)
  · rcases P.2.2 with ⟨rfl, h4⟩ | ⟨p9, h4, h5⟩
    · have := R.heap.lt (h4 hS) q hq; omega
    · rw [hq] at h4; cases h4; omega
theorem gfin {w wx W9 : World} {B g' fc' c' : Nat} {cs cs' : Array Value} {T T' : TypeId} {a' : Option Addr} {h' : Hp} (hR : RefG wx g' fc' a' c' h') (gB : wx.heap[B]? = some (.cells cs T (0, 0))) (gB1 : wx.heap[B + 1]? = some (.cells cs' T' (0, 0))) (hT : T ≠ 4) (hT' : T' ≠ 4)
    (hne : ∀ q, a' = some q → h'.S ≠ [] → q.block ≠ B + 1 ∧ q.block ≠ B) (hB : Bel w wx) (hw : w.heap.size ≤ B) (hF : Fr (fun k => k = B ∨ k = B + 1) wx W9) : RefG W9 g' fc' a' c' h' ∧ Bel w W9 := by
  refine ⟨hR.fr hF (fun hq => ?_) (fun q hq hS h => ?_), Fr.bel ((Fr.of_bel hB).trans' hF) (fun k hk => by rcases hk with hk | hk <;> (subst hk; omega))⟩
  · obtain ⟨cur, hg⟩ := hR.blk
    rcases hq with hq | hq
    · rw [hq, gB] at hg
      simp only [Option.some.injEq, Obj.cells.injEq] at hg
      exact hT hg.2.1
    · rw [hq, gB1] at hg
      simp only [Option.some.injEq, Obj.cells.injEq] at hg
      exact hT' hg.2.1
  · have := hne q hq hS
    rcases h with h | h
    · exact this.2 h
    · exact this.1 h
set_option maxHeartbeats 2000000 in
set_option maxRecDepth 20000 in
theorem ref10_Flush {w : World} {st : KS} {p : KP} (R : RefK w st p) (I : KInv st) (hl : st.h.last ≤ 4096) :
    Calls Tryz.prog 46 #[kV st p] w fun e w' => ∃ p', e = .returned (.tuple #[kV st.flush p', .int .i64 st.kept.length]) ∧ KPost w st p st.flush p' w' := by
  have hn := I.nd
  simp only [List.append_nil, List.map_append, List.nodup_append] at hn
  have hdrop := drop_frees I.ok (L := st.kept) (fun s hs => (I.mem s (by simp [hs])).1) hn.1
  have hkl : st.kept.length ≤ 4096 := by have := I.count; omega
  have hwf : ∀ k ∈ idsOf st.kept, (Lit.int .i64 k).wf = true := fun k hk => by
    obtain ⟨s, hs, rfl⟩ := List.mem_map.1 hk
    have := I.ok.span (I.mem s (by simp [hs])).1
    exact wf_i64 (by omega) (by omega)
  have hidl : (idsOf st.kept).length = st.kept.length := by simp [idsOf]
  have hfl : st.flush = ⟨freesH st.h st.kept, [], st.waits, st.held⟩ := rfl
  rw [hfl]
  obtain ⟨h', hh'⟩ : ∃ h', freesH st.h st.kept = h' := ⟨_, rfl⟩
  rw [hh'] at hdrop ⊢
  obtain ⟨g, fc, a, c, ka, kc, wa, wn⟩ := p
  have hb1 := ((Bel.refl w).alloc (.cells (kCells st ⟨g, fc, a, c, ka, kc, wa, wn⟩) 46)).alloc (.cells k0Cells 46)
  have g0 := blk_alloc_old (.cells k0Cells 46) (blk_alloc w (.cells (kCells st ⟨g, fc, a, c, ka, kc, wa, wn⟩) 46))
  have g1 := blk_alloc (w.alloc (.cells (kCells st ⟨g, fc, a, c, ka, kc, wa, wn⟩) 46)) (.cells k0Cells 46)
  rw [World.size_alloc] at g1
  simp only [kV, kCells, k0Cells] at g0 g1 hb1 ⊢
  obtain ⟨q0, q1, q2, q3, q4, q5, q6⟩ := seven_cells g0
  have HR := Lib.hid R
  have hkept := R.kept
  clear R hn
  go_enter Tryz.func46, Tryz.ntmps46
  go_wp2_with fail
  generalize (w.alloc (.cells #[.int .i64 (st.h.P : Int), .slice (some ⟨g, 0, none⟩) 1024 fc, .slice a st.h.S.length c, .int .i64 (st.h.last : Int), .slice ka st.kept.length kc, .slice wa st.waits.length wn, .bool st.held] 46)).alloc (.cells #[.int .i64 0, .slice none 0 0, .slice none 0 0, .int .i64 0, .slice none 0 0, .slice none 0 0, .bool false] 46) = W at g0 g1 hb1 q0 q1 q2 q3 q4 q5 q6 ⊢
  have l0 := heap_lt g0
  have l1 := heap_lt g1
  have keep : ∀ V, Bel W V → V.cell? ⟨w.heap.size, 0, none⟩ = some (.int .i64 (st.h.P : Int)) ∧ V.cell? ⟨w.heap.size, 1, none⟩ = some (.slice (some ⟨g, 0, none⟩) 1024 fc) ∧ V.cell? ⟨w.heap.size, 2, none⟩ = some (.slice a st.h.S.length c) ∧ V.cell? ⟨w.heap.size, 3, none⟩ = some (.int .i64 (st.h.last : Int)) ∧ V.cell? ⟨w.heap.size, 4, none⟩ = some (.slice ka st.kept.length kc) := fun V hV => ⟨hV.cell q0, hV.cell q1, hV.cell q2, hV.cell q3, hV.cell q4⟩
  have HNUM : Hid (∀ V, Bel W V → Calls Tryz.prog 19 #[.slice ka st.kept.length kc] V fun e V' => ∃ b d, e = .returned (.slice b st.kept.length d) ∧ RdV V' b (ints (idsOf st.kept)) ∧ Bel W V' ∧
      (V'.cell? ⟨w.heap.size, 0, none⟩ = some (.int .i64 (st.h.P : Int)) ∧ V'.cell? ⟨w.heap.size, 1, none⟩ = some (.slice (some ⟨g, 0, none⟩) 1024 fc) ∧ V'.cell? ⟨w.heap.size, 2, none⟩ = some (.slice a st.h.S.length c) ∧ V'.cell? ⟨w.heap.size, 3, none⟩ = some (.int .i64 (st.h.last : Int)) ∧ V'.cell? ⟨w.heap.size, 4, none⟩ = some (.slice ka st.kept.length kc))) := Lib.hid (fun V hV =>
    (ref10_Numbers ka st.kept _ kc V rfl (by omega) (hkept.bel (hb1.trans hV))).mono fun e V' ⟨v, h1, h2, h3⟩ => by
      obtain ⟨b, d, rfl, hr, _⟩ := own_slice h2
      exact ⟨b, d, by rw [h1, hidl], hr, hV.trans h3, keep _ (hV.trans h3)⟩)
  have HDR : Hid (∀ V b d, Bel W V → RdV V b (ints (idsOf st.kept)) → Calls Tryz.prog 71 #[.agg #[.int .i64 (st.h.P : Int), .slice (some ⟨g, 0, none⟩) 1024 fc, .slice a st.h.S.length c, .int .i64 (st.h.last : Int)], .slice b st.kept.length d] V fun e V' =>
      ∃ g' fc' a' c', e = .returned (.tuple #[.agg #[.int .i64 (h'.P : Int), .slice (some ⟨g', 0, none⟩) 1024 fc', .slice a' h'.S.length c', .int .i64 (h'.last : Int)], .int .i64 0]) ∧ GPost W a st.h.S h' g' fc' a' c' V' ∧
      (V'.cell? ⟨w.heap.size, 0, none⟩ = some (.int .i64 (st.h.P : Int)) ∧ V'.cell? ⟨w.heap.size, 1, none⟩ = some (.slice (some ⟨g, 0, none⟩) 1024 fc) ∧ V'.cell? ⟨w.heap.size, 2, none⟩ = some (.slice a st.h.S.length c) ∧ V'.cell? ⟨w.heap.size, 3, none⟩ = some (.int .i64 (st.h.last : Int)) ∧ V'.cell? ⟨w.heap.size, 4, none⟩ = some (.slice ka st.kept.length kc))) := Lib.hid (fun V b d hV hr =>
    (refG_Drop I.ok (HR.out.heap.bel (hb1.trans hV)) b (idsOf st.kept) st.kept.length d hidl.symm (by omega) hr hwf hl).mono fun e V' ⟨g', fc', a', c', h1, h2, h3, h4⟩ => by
      rw [hdrop] at h1 h2 h4
      exact ⟨g', fc', a', c', h1, ⟨h2, hV.trans h3, h4.elim (fun h => .inl h) (fun ⟨q, h5, h6⟩ => .inr ⟨q, h5, by have := hV.size; omega⟩)⟩, keep _ (hV.trans h3)⟩)
  have HG := Lib.hid (And.intro hb1 (And.intro g0 g1))
  clear keep hkept hdrop I hb1 g0 g1
  go_cut [] (fun wx => DropMid w st ⟨g, fc, a, c, ka, kc, wa, wn⟩ h' w.heap.size (.slice ka st.kept.length kc, .slice wa st.waits.length wn, .bool st.held) wx)
  case first =>
    go_region_law (first
      | (go_simp; go_at_call 19; (with_reducible refine (HNUM.out _ ?b1).mono ?_); (case b1 => repeat (first | exact Bel.refl _ | apply Bel.drew | apply Bel.alloc)); rintro e w7 ⟨b7, d7, rfl, hr7, hB7, u0, u1, u2, u3, u4⟩)
      | (go_simp; go_at_call 71; (with_reducible refine (HDR.out _ _ _ ?b2 ?b3).mono ?_); (case b2 => with_reducible assumption); (case b3 => with_reducible assumption); rintro e w8 ⟨g8, fc8, a8, c8, rfl, hP8, _⟩; (have gB8 := hP8.2.1.blk HG.out.2.1); obtain ⟨t0, t1, t2, t3, t4, t5, t6⟩ := seven_cells gB8; obtain ⟨f0, f1, f2, f3, f4, f5, f6⟩ := seven_frozen gB8))
    all_goals
      go_wp2_with fail
      go_meet
      exact DropMid.of HR.out HG.out.1 HG.out.2.1 HG.out.2.2 hP8 rfl
  case rest =>
    obtain ⟨g', fc', a', c', gB, gB1, hR', hBw, hfr, hne⟩ := hcut
    obtain ⟨t0, t1, t2, t3, t4, t5, t6⟩ := seven_cells gB
    obtain ⟨f0, f1, f2, f3, f4, f5, f6⟩ := seven_frozen gB
    obtain ⟨y0, y1, y2, y3, y4, y5, y6⟩ := seven_cells gB1
    obtain ⟨k0, k1, k2, k3, k4, k5, k6⟩ := seven_frozen gB1
    have m0 := heap_lt gB
    have m1 := heap_lt gB1
    have hfin : ∀ x4 x0 z1 z2 z3 z4 z5 z6 W9, W9 = ((((((((wc.setCell ⟨w.heap.size, 4, none⟩ x4).setCell ⟨w.heap.size + 1, 0, none⟩ x0).setCell ⟨w.heap.size + 1, 1, none⟩ z1).setCell ⟨w.heap.size + 1, 2, none⟩ z2).setCell ⟨w.heap.size + 1, 3, none⟩ z3).setCell ⟨w.heap.size + 1, 4, none⟩ z4).setCell ⟨w.heap.size + 1, 5, none⟩ z5).setCell ⟨w.heap.size + 1, 6, none⟩ z6).alloc (.cells #[] 33) →
        KPost w st ⟨g, fc, a, c, ka, kc, wa, wn⟩ ⟨h', [], st.waits, st.held⟩ ⟨g', fc', a', c', some ⟨wc.heap.size, 0, none⟩, 0, wa, wn⟩ W9 := by
      intro x4 x0 z1 z2 z3 z4 z5 z6 W9 e9
      have hF0 := ((Fr.setCell (S := fun k => k = w.heap.size ∨ k = w.heap.size + 1) (p := ⟨w.heap.size, 4, none⟩) (Fr.refl _ wc) (.inl (Or.inl rfl)) x4).trans' ((fr_seven _ (w.heap.size + 1) x0 z1 z2 z3 z4 z5 z6).mono (fun _ h => .inr h))).alloc (.cells #[] 33)
      rw [← e9] at hF0
      obtain ⟨r1, r2⟩ := gfin hR' gB gB1 (by decide) (by decide) hne hBw (Nat.le_refl _) hF0
      exact ⟨⟨r1, .inl rfl, HR.out.waits.bel r2, Nat.le_refl _, HR.out.wcap, (fun h => by cases h), HR.out.wnil⟩, r2, hfr, .inr ⟨_, rfl, hBw.size⟩, .refl _ _ _⟩
    have HFIN := Lib.hid hfin
    have hwk : st.kept.length ≤ 9223372036854775807 := by omega
    clear hfin hR' hBw hfr hne gB gB1
    go_wp2
    refine bodyPost_ret (v := .tuple #[kV ⟨h', [], st.waits, st.held⟩ ⟨g', fc', a', c', some ⟨wc.heap.size, 0, none⟩, 0, wa, wn⟩, .int .i64 st.kept.length]) (by simp [kV, kCells, results, Tryz.results46, go_sem, y0, y1, y2, y3, y4, y5, y6, m0, m1]) rfl ?_
    exact ⟨_, rfl, HFIN.out _ _ _ _ _ _ _ _ _ rfl⟩
end Go.Proofs.YtbldidlbhahciaaGreat
