/- Spans in memory. Layer 7: live heaps. Package heap: Free. Package heap: Make. Package heap: Span, Spans. Package heap: New, Size, Runs, Span, Spans. -/
import Derived.Test.YtbldidlbhahciaaGreatGLargeHolds4
import Derived.Test.YtbldidlbhahciaaGreatGLargeHolds5
import Derived.Test.YtbldidlbhahciaaGreatGLargeHolds6
import Derived.Test.YtbldidlbhahciaaGreatGLargeHolds3
import Derived.StillTailTactics
import Derived.Deep.RegionHeld3
import Derived.Deep.DeepCutAuto
import Derived.Laws.StructEq
set_option linter.unusedVariables false
set_option linter.unusedSimpArgs false
namespace Go.Proofs.YtbldidlbhahciaaGreat
open Go.RowKit

/-- A heap: its struct is block h. -/
structure HeapAt (w : World) (h rb : Nat) (v : Value) (bx bi bm : Nat) (L : List Rn) (ids : List Int) (S : List Sp) (last : Nat) : Prop where
  hd : w.heap[h]? = some (.cells #[.pointer (some ⟨rb, 0, none⟩), .pointer (some ⟨bx, 0, none⟩), .map (some bm), .int .i64 (last : Int)] 74 (0, 0))
  free : FreeAt w rb v L
  index : IndexAt w bx bi ids
  spans : SpansAt w bm last S
  inv : HInv ids L S last
  small : last ≤ 65536
/-- Its blocks. -/
def footH (h rb : Nat) (v : Value) (bx bi bm : Nat) : Nat → Prop := fun k => k = h ∨ k = rb ∨ v.ownBlock = some k ∨ k = bx ∨ k = bi ∨ k = bm
theorem HeapAt.fr {Q : Nat → Prop} {w w' : World} {h rb : Nat} {v : Value} {bx bi bm : Nat} {L : List Rn} {ids : List Int} {S : List Sp} {last : Nat} (H : HeapAt w h rb v bx bi bm L ids S last) (k : Fr Q w w') (hQ : ∀ i, footH h rb v bx bi bm i → ¬ Q i) : HeapAt w' h rb v bx bi bm L ids S last :=
  ⟨k.heap H.hd (hQ _ (.inl rfl)), H.free.fr k (hQ _ (.inr (.inl rfl))) (fun g hg => hQ _ (.inr (.inr (.inl hg)))), H.index.fr k (hQ _ (.inr (.inr (.inr (.inl rfl))))) (hQ _ (.inr (.inr (.inr (.inr (.inl rfl)))))), H.spans.fr k (hQ _ (.inr (.inr (.inr (.inr (.inr rfl)))))), H.inv, H.small⟩
theorem HeapAt.bel {w w' : World} {h rb : Nat} {v : Value} {bx bi bm : Nat} {L : List Rn} {ids : List Int} {S : List Sp} {last : Nat} (H : HeapAt w h rb v bx bi bm L ids S last) (k : Bel w w') : HeapAt w' h rb v bx bi bm L ids S last :=
  H.fr (Fr.of_bel (S := fun _ => False) k) (fun _ _ h => h)
theorem own_type {w : World} {base e size n : Nat} {v : Value} {xs : List Value} (h : w.ownsRow base e size v n xs) {g : Nat} (hg : v.ownBlock = some g) : ∃ cur, w.heap[g]? = some (.cells cur e (0, 0)) := by
  rcases h.2 with ⟨h1, _⟩ | ⟨g', cap, cur, h1, _, h3, _⟩
  · rw [h1] at hg; simp [Value.ownBlock] at hg
  · rw [h1] at hg; simp [Value.ownBlock] at hg; subst hg; exact ⟨cur, h3⟩
/-- No two of its blocks are one. -/
structure HeapNe (h rb : Nat) (v : Value) (bx bi bm : Nat) : Prop where
  h_rb : h ≠ rb
  h_bx : h ≠ bx
  h_bi : h ≠ bi
  h_bm : h ≠ bm
  h_v : v.ownBlock ≠ some h
  rb_bx : rb ≠ bx
  rb_bi : rb ≠ bi
  rb_bm : rb ≠ bm
  rb_v : v.ownBlock ≠ some rb
  bx_bi : bx ≠ bi
  bx_bm : bx ≠ bm
  bx_v : v.ownBlock ≠ some bx
  bi_bm : bi ≠ bm
  bi_v : v.ownBlock ≠ some bi
  bm_v : v.ownBlock ≠ some bm
theorem HeapAt.ne {w : World} {h rb : Nat} {v : Value} {bx bi bm : Nat} {L : List Rn} {ids : List Int} {S : List Sp} {last : Nat} (H : HeapAt w h rb v bx bi bm L ids S last) : HeapNe h rb v bx bi bm := by
  obtain ⟨es, ck, hm⟩ := H.spans.map?
  have h1 := H.hd
  have h2 := H.free.hd
  have h3 := H.index.hd
  have h4 := H.index.nums
  have hv : ∀ {g : Nat}, v.ownBlock = some g → ∃ cur, w.heap[g]? = some (.cells cur 31 (0, 0)) := fun hg => own_type H.free.own hg
  refine ⟨?_, ?_, ?_, ?_, ?_, ?_, ?_, ?_, ?_, ?_, ?_, ?_, ?_, ?_, ?_⟩
  · rintro rfl; rw [h1] at h2; simp at h2
  · rintro rfl; rw [h1] at h3; simp at h3
  · rintro rfl; rw [h1] at h4; simp at h4
  · rintro rfl; rw [h1] at hm; simp at hm
  · intro e; obtain ⟨c, hc⟩ := hv e; rw [h1] at hc; simp at hc
  · rintro rfl; rw [h2] at h3; simp at h3
  · rintro rfl; rw [h2] at h4; simp at h4
  · rintro rfl; rw [h2] at hm; simp at hm
  · intro e; obtain ⟨c, hc⟩ := hv e; rw [h2] at hc; simp at hc
  · rintro rfl; rw [h3] at h4; simp at h4
  · rintro rfl; rw [h3] at hm; simp at hm
  · intro e; obtain ⟨c, hc⟩ := hv e; rw [h3] at hc; simp at hc
  · rintro rfl; rw [h4] at hm; simp at hm
  · intro e; obtain ⟨c, hc⟩ := hv e; rw [h4] at hc; simp at hc
  · intro e; obtain ⟨c, hc⟩ := hv e; rw [hm] at hc; simp at hc
theorem HeapAt.lt {w : World} {h rb : Nat} {v : Value} {bx bi bm : Nat} {L : List Rn} {ids : List Int} {S : List Sp} {last : Nat} (H : HeapAt w h rb v bx bi bm L ids S last) {k : Nat} (hk : footH h rb v bx bi bm k) : k < w.heap.size := by
  rcases hk with rfl | rfl | hk | rfl | rfl | rfl
  · exact heap_lt H.hd
  · exact heap_lt H.free.hd
  · exact H.free.lt (.inr hk)
  · exact heap_lt H.index.hd
  · exact heap_lt H.index.nums
  · exact H.spans.lt
theorem four_cells {w : World} {R T : Nat} {a b c d : Value} (g : w.heap[R]? = some (.cells #[a, b, c, d] T (0, 0))) :
    w.cell? ⟨R, 0, none⟩ = some a ∧ w.cell? ⟨R, 1, none⟩ = some b ∧ w.cell? ⟨R, 2, none⟩ = some c ∧ w.cell? ⟨R, 3, none⟩ = some d :=
  ⟨blk_cell g 0, blk_cell g 1, blk_cell g 2, blk_cell g 3⟩
/-- What an act on a heap leaves. -/
def HPost (w : World) (h rb : Nat) (v : Value) (bx bi bm : Nat) (L : List Rn) (ids : List Int) (S : List Sp) (last : Nat) (w' : World) : Prop :=
  ∃ v', HeapAt w' h rb v' bx bi bm L ids S last ∧ (∀ k, v'.ownBlock = some k → v.ownBlock = some k ∨ w.heap.size ≤ k) ∧ Fr (footH h rb v bx bi bm) w w'
theorem HPost.same {w w' : World} {h rb : Nat} {v : Value} {bx bi bm : Nat} {L : List Rn} {ids : List Int} {S : List Sp} {last : Nat} (H : HeapAt w h rb v bx bi bm L ids S last) (k : Bel w w') : HPost w h rb v bx bi bm L ids S last w' :=
  ⟨v, H.bel k, fun _ h => .inl h, Fr.of_bel k⟩
theorem HPost.from {w W w' : World} {h rb : Nat} {v : Value} {bx bi bm : Nat} {L : List Rn} {ids : List Int} {S : List Sp} {last : Nat} (H : HPost W h rb v bx bi bm L ids S last w') (k : Bel w W) : HPost w h rb v bx bi bm L ids S last w' := by
  obtain ⟨v', h1, h2, h3⟩ := H
  exact ⟨v', h1, fun g hg => by rcases h2 g hg with h | h; exact .inl h; exact .inr (Nat.le_trans k.size h), (Fr.of_bel k).trans' h3⟩
theorem HPost.then_bel {w W w' : World} {h rb : Nat} {v : Value} {bx bi bm : Nat} {L : List Rn} {ids : List Int} {S : List Sp} {last : Nat} (H : HPost w h rb v bx bi bm L ids S last W) (k : Bel W w') : HPost w h rb v bx bi bm L ids S last w' := by
  obtain ⟨v', h1, h2, h3⟩ := H
  exact ⟨v', h1.bel k, h2, h3.then_bel k⟩

/-! ### New -/
theorem addR_whole {n : Nat} (h1 : 4 ≤ n) (h2 : n ≤ 1024) : addR [] [(0, (n : Int))] = ([(0, (n : Int))], 0) := by
  have hall : AllThere 1024 [(0, (n : Int))] := by intro r hr; simp at hr; subst hr; rw [there_iff]; dsimp only; omega
  rw [addR_ok hall (by simp) (by simp)]
  have : ([(0, (n : Int))] : List Rn) = addF [] [(0, (n : Int))] := canon_unique (q := 1024) _ _ (HInv.start h1 h2).canon (addF_canon _ _) (fun p => by
    unfold addF
    rw [inL_listP]
    simp [inL, inR]
    omega)
  rw [← this]
theorem run_makeSpans (W : World) : (Instr.makeMap 72 none).run Tryz.prog W = .ok (.map (some W.heap.size)) (W.alloc (.map #[] 0)) := by kernel_rfl
/-- A heap that was made. -/
def NewH (w : World) (n : Nat) (e : Ending) (w' : World) : Prop :=
  ∃ h rb v bx bi bm, e = .returned (.tuple #[.pointer (some ⟨h, 0, none⟩), .int .i64 0]) ∧ HeapAt w' h rb v bx bi bm [(0, (n : Int))] (List.replicate n 0) [] 0 ∧ Bel w w' ∧ ∀ k, footH h rb v bx bi bm k → w.heap.size ≤ k
set_option maxHeartbeats 1000000 in
set_option maxRecDepth 20000 in
theorem heap_New (n : Nat) (w : World) (h1 : 4 ≤ n) (h2 : n ≤ 1024) : Calls Tryz.prog 8 #[.int .i64 n] w (NewH w n) := by
  have HR := Lib.hid (runs_New (some ⟨w.heap.size, 0, none⟩) [(0, (n : Int))] 1 1 (w.alloc (.cells #[.int .i64 0, .int .i64 n] 31)) rfl (by simp) (RunsIn.of_row (RdV.new w #[.int .i64 0, .int .i64 n] 31)) (by intro r hr; simp at hr; subst hr; exact ⟨⟨by omega, by omega⟩, ⟨by omega, by omega⟩⟩))
  have HA := Lib.hid (addR_whole h1 h2)
  have c1 : ¬ (n : Int) < 4 := by omega
  have c2 : ¬ (1024 : Int) < n := by omega
  have hB0 : Bel w (w.alloc (.cells #[.int .i64 0, .int .i64 n] 31)) := (Bel.refl w).alloc _
  have HB0 := Lib.hid hB0
  have HQ := Lib.hid run_makeSpans
  clear hB0
  go_enter Tryz.func8, Tryz.ntmps8
  go_wp2_with fail
  refine HR.out.mono ?_
  clear HR
  rintro e w1 ⟨p, rfl, hB, hp⟩
  rw [HA.out] at hp ⊢
  generalize w.alloc (.cells #[.int .i64 0, .int .i64 n] 31) = W0 at hB hp HB0
  rcases hp with ⟨h9, _⟩ | ⟨_, v, rfl, hF, hv⟩
  · exact absurd rfl h9
  have HF := Lib.hid hF
  have HB := Lib.hid hB
  have HV := Lib.hid hv
  obtain ⟨rb, hrb⟩ : ∃ rb, W0.heap.size = rb := ⟨_, rfl⟩
  rw [hrb] at HF HV ⊢
  clear hF hB hv
  go_wp2_with fail
  refine (index_New n w1 ⟨by omega, by omega⟩).mono ?_
  rintro e w2 ⟨bx, rfl, hlt, hI, hB2⟩
  have hpf : pagesF n = n := by unfold pagesF; omega
  rw [hpf] at hI
  have q := HQ.out w2
  have HEND : Hid (HeapAt ((w2.alloc (.map #[] 0)).alloc (.cells #[.pointer (some ⟨rb, 0, none⟩), .pointer (some ⟨bx, 0, none⟩), .map (some w2.heap.size), .int .i64 ((0 : Nat) : Int)] 74)) (w2.alloc (.map #[] 0)).heap.size rb v bx w1.heap.size w2.heap.size [(0, (n : Int))] (List.replicate n 0) [] 0) := Lib.hid (by
    have hb := (((Bel.refl w2).alloc (.map #[] 0)).alloc (.cells #[.pointer (some ⟨rb, 0, none⟩), .pointer (some ⟨bx, 0, none⟩), .map (some w2.heap.size), .int .i64 ((0 : Nat) : Int)] 74))
    exact ⟨blk_alloc _ _, HF.out.bel (hB2.trans hb), hI.bel hb, (SpansAt.made w2).bel ((Bel.refl _).alloc _), HInv.start h1 h2, by omega⟩)
  have HB2 := Lib.hid hB2
  clear hI hB2
  go_wp2
  go_ret2
  have s0 := HB0.out.size
  have s1 := HB.out.size
  have s2 := HB2.out.size
  refine ⟨_, rb, v, bx, _, _, by rw [World.size_alloc]; rfl, HEND.out, (((HB0.out.trans HB.out).trans HB2.out).alloc _).alloc _, fun k hk => ?_⟩
  rcases hk with rfl | rfl | hk | rfl | rfl | rfl
  · rw [World.size_alloc]; omega
  · omega
  · have := HV.out k hk; omega
  · omega
  · omega
  · omega
theorem heap_New_bad (pages : Int) (w : World) (hp : I64 pages) (h : pages < 4 ∨ 1024 < pages) : Calls Tryz.prog 8 #[.int .i64 pages] w fun e w' => e = .returned (.tuple #[.pointer none, .int .i64 1]) ∧ w = w' := by
  have h2 : pages < 4 ∨ (¬ pages < 4 ∧ 1024 < pages) := by omega
  rcases h2 with c1 | ⟨c1, c2⟩
  · go_enter Tryz.func8, Tryz.ntmps8
    go_wp2
    go_ret2
    exact ⟨rfl, rfl⟩
  · go_enter Tryz.func8, Tryz.ntmps8
    go_wp2
    go_ret2
    exact ⟨rfl, rfl⟩
/-! ### Size, Runs -/
theorem heap_Runs {h rb : Nat} {v : Value} {bx bi bm : Nat} {L : List Rn} {ids : List Int} {S : List Sp} {last : Nat} (w : World) (H : HeapAt w h rb v bx bi bm L ids S last) :
    Calls Tryz.prog 27 #[.pointer (some ⟨h, 0, none⟩)] w (NewRuns w L) := by
  obtain ⟨q0, q1, q2, q3⟩ := four_cells H.hd
  have HC := Lib.hid (runs_List _ L w (.inr ⟨rb, v, rfl, H.free⟩))
  clear H
  go_enter Tryz.func27, Tryz.ntmps27
  go_wp2_with fail
  refine HC.out.mono ?_
  rintro e w' ⟨u, rfl, ho, hB⟩
  obtain ⟨a, c, rfl, _⟩ := own_slice ho
  have HO := Lib.hid (And.intro ho hB)
  clear ho hB
  go_wp2
  go_ret
  exact ⟨_, rfl, HO.out.1, HO.out.2⟩
end Go.Proofs.YtbldidlbhahciaaGreat

namespace Go.Proofs.YtbldidlbhahciaaGreat
open Go.RowKit

theorem four_frozen {w : World} {R T : Nat} {a b c d : Value} (g : w.heap[R]? = some (.cells #[a, b, c, d] T (0, 0))) :
    w.frozen? ⟨R, 0, none⟩ = false ∧ w.frozen? ⟨R, 1, none⟩ = false ∧ w.frozen? ⟨R, 2, none⟩ = false ∧ w.frozen? ⟨R, 3, none⟩ = false :=
  ⟨blk_frozen g 0, blk_frozen g 1, blk_frozen g 2, blk_frozen g 3⟩
theorem four_set {w : World} {R T : Nat} {a0 b0 c0 d0 : Value} (g : w.heap[R]? = some (.cells #[a0, b0, c0, d0] T (0, 0))) (a b c d : Value) :
    ((((w.setCell ⟨R, 0, none⟩ a).setCell ⟨R, 1, none⟩ b).setCell ⟨R, 2, none⟩ c).setCell ⟨R, 3, none⟩ d).heap[R]? = some (.cells #[a, b, c, d] T (0, 0)) := by
  have h1 := blk_setCell g 0 a
  have h2 := blk_setCell h1 1 b
  have h3 := blk_setCell h2 2 c
  have h4 := blk_setCell h3 3 d
  simpa using h4
theorem bel_four {w w1 : World} (h : Bel w w1) {R : Nat} (hR : w.heap.size ≤ R) (a b c d : Value) : Bel w ((((w1.setCell ⟨R, 0, none⟩ a).setCell ⟨R, 1, none⟩ b).setCell ⟨R, 2, none⟩ c).setCell ⟨R, 3, none⟩ d) :=
  Below.setCell (Below.setCell (Below.setCell (Below.setCell (p := ⟨R, 0, none⟩) h hR a) (p := ⟨R, 1, none⟩) hR b) (p := ⟨R, 2, none⟩) hR c) (p := ⟨R, 3, none⟩) hR d
set_option maxHeartbeats 1000000 in
set_option maxRecDepth 20000 in
theorem heap_Span {h rb : Nat} {v : Value} {bx bi bm : Nat} {L : List Rn} {ids : List Int} {S : List Sp} {last : Nat} (w : World) (H : HeapAt w h rb v bx bi bm L ids S last) (k : Int) (hk : (Lit.int .i64 k).wf = true) :
    Calls Tryz.prog 61 #[.pointer (some ⟨h, 0, none⟩), .int .i64 k] w fun e w' => e = .returned (.tuple #[spV ((getS S k).getD sp0), .bool (getS S k).isSome]) ∧ Bel w w' := by
  obtain ⟨q0, q1, q2, q3⟩ := four_cells H.hd
  have hb := (Bel.refl w).alloc (.cells #[.int .i64 0, .int .i64 0, .int .i64 0, .int .i64 0] 33)
  have hlk := (H.spans.bel hb).get k hk
  have hlt := heap_lt H.hd
  obtain ⟨s, hs⟩ : ∃ s, (getS S k).getD sp0 = s := ⟨_, rfl⟩
  obtain ⟨p, hp⟩ : ∃ p, (getS S k).isSome = p := ⟨_, rfl⟩
  rw [hs, hp] at hlk ⊢
  obtain ⟨s1, ⟨s2, s3⟩, s4⟩ := s
  simp only [spV] at hlk ⊢
  have gR := blk_alloc_old (.cells #[.int .i64 s1, .int .i64 s2, .int .i64 s3, .int .i64 s4] 33) (blk_alloc w (.cells #[.int .i64 s1, .int .i64 s2, .int .i64 s3, .int .i64 s4] 33))
  have HE := Lib.hid (And.intro gR (((Bel.refl w).alloc (.cells #[.int .i64 s1, .int .i64 s2, .int .i64 s3, .int .i64 s4] 33)).alloc (.cells #[.int .i64 s1, .int .i64 s2, .int .i64 s3, .int .i64 s4] 33)))
  clear H gR hb hs hp
  go_enter Tryz.func61, Tryz.ntmps61
  go_wp2
  generalize (w.alloc (.cells #[.int .i64 s1, .int .i64 s2, .int .i64 s3, .int .i64 s4] 33)).alloc (.cells #[.int .i64 s1, .int .i64 s2, .int .i64 s3, .int .i64 s4] 33) = W9 at HE ⊢
  obtain ⟨r0, r1, r2, r3⟩ := four_cells HE.out.1
  refine bodyPost_ret (v := .tuple #[.agg #[.int .i64 s1, .int .i64 s2, .int .i64 s3, .int .i64 s4], .bool p]) (by simp [results, Tryz.results61, go_sem, r0, r1, r2, r3]) rfl ?_
  exact ⟨rfl, HE.out.2⟩

/-! ### Spans -/
set_option maxRecDepth 20000 in
theorem values_spans (m : Option Nat) (w : World) :
    Calls Tryz.prog 50 #[.map m] w fun e w' => e = .returned (.func (.func 75) #[] #[.pointer (some ⟨w.heap.size, 0, none⟩)]) ∧ w.alloc (.cells #[.map m] 72) = w' := by
  go_enter Tryz.func50, Tryz.ntmps50
  go_wp2
  go_ret
  exact ⟨rfl, rfl⟩
theorem HInv.starts {ids : List Int} {L : List Rn} {S : List Sp} {last : Nat} (h : HInv ids L S last) : ∀ x ∈ S, 0 ≤ x.2.1.1 ∧ x.2.1.1 ≤ 1024 := fun x hx => by
  have := there_iff.1 (h.span x hx).2.2.1
  have := h.hi
  omega
theorem nodup_length : ∀ (n : Nat) (l : List Int), l.Nodup → (∀ x ∈ l, 1 ≤ x ∧ x ≤ n) → l.length ≤ n
  | 0, l, _, h => by
    cases l with
    | nil => simp
    | cons a l => have := h a (by simp); omega
  | n + 1, l, hd, h => by
    by_cases hm : ((n + 1 : Nat) : Int) ∈ l
    · have h1 := nodup_length n (l.erase ((n + 1 : Nat) : Int)) (hd.erase _) (fun x hx => by
        obtain ⟨h2, h3⟩ := hd.mem_erase_iff.1 hx
        have := h x h3
        omega)
      rw [List.length_erase_of_mem hm] at h1
      omega
    · have h1 := nodup_length n l hd (fun x hx => by
        have := h x hx
        have : x ≠ ((n + 1 : Nat) : Int) := fun e => hm (by rw [← e]; exact hx)
        omega)
      omega
theorem HInv.count {ids : List Int} {L : List Rn} {S : List Sp} {last : Nat} (h : HInv ids L S last) : S.length ≤ last := by
  have := nodup_length last (S.map (·.1)) h.nd (fun x hx => by
    obtain ⟨s, hs, rfl⟩ := List.mem_map.1 hx
    obtain ⟨s0, s1, _⟩ := h.span s hs
    exact ⟨s0, s1⟩)
  simpa using this
set_option maxRecDepth 20000 in
theorem heap_Spans {h rb : Nat} {v : Value} {bx bi bm : Nat} {L : List Rn} {ids : List Int} {S : List Sp} {last : Nat} (w : World) (H : HeapAt w h rb v bx bi bm L ids S last) :
    Calls Tryz.prog 21 #[.pointer (some ⟨h, 0, none⟩)] w (RisenSpans w S) := by
  obtain ⟨q0, q1, q2, q3⟩ := four_cells H.hd
  have hb := (Bel.refl w).alloc (.cells #[.map (some bm)] 72)
  have hcon := sorted_spans w.heap.size bm last S H.small H.inv.starts (Nat.le_trans H.inv.count H.small) (w.alloc (.cells #[.map (some bm)] 72)) (by simp) (by rw [blk_cell (blk_alloc _ _)]; rfl) (H.spans.bel hb)
  have HC := Lib.hid hcon
  have HB := Lib.hid hb
  clear hcon H hb
  go_enter Tryz.func21, Tryz.ntmps21
  go_wp2_with fail
  refine (values_spans (some bm) w).mono ?_
  rintro e w1 ⟨rfl, rfl⟩
  go_wp2_with fail
  refine HC.out.mono ?_
  rintro e w2 ⟨a, c, zs, rfl, h1, h2, h3, h4⟩
  have HQ := Lib.hid (And.intro h1 (And.intro h2 (And.intro h3 h4)))
  clear h1 h2 h3 h4
  go_wp2
  go_ret
  exact ⟨a, c, zs, rfl, HQ.out.1, HQ.out.2.1, HB.out.trans HQ.out.2.2.1, fun p hp => ⟨Nat.le_trans HB.out.size (HQ.out.2.2.2 p hp).1, (HQ.out.2.2.2 p hp).2⟩⟩
end Go.Proofs.YtbldidlbhahciaaGreat

namespace Go.Proofs.YtbldidlbhahciaaGreat
open Go.RowKit Go.Maps

set_option maxHeartbeats 1000000 in
set_option maxRecDepth 20000 in
theorem heap_Make_bad (p : Value) (n ord : Int) (w : World) (hn : I64 n) (ho : I64 ord) (h : n < 1 ∨ ord < -1 ∨ 4 ≤ ord) :
    Calls Tryz.prog 33 #[p, .int .i64 n, .int .i64 ord] w fun e w' => e = .returned (.tuple #[spV sp0, .int .i64 1]) ∧ Bel w w' := by
  have hc : n < 1 ∨ (¬ n < 1 ∧ ord < -1) ∨ (¬ n < 1 ∧ ¬ ord < -1 ∧ 4 ≤ ord) := by omega
  have HE := Lib.hid (And.intro (blk_alloc w (.cells #[.int .i64 0, .int .i64 0, .int .i64 0, .int .i64 0] 33)) ((Bel.refl w).alloc (.cells #[.int .i64 0, .int .i64 0, .int .i64 0, .int .i64 0] 33)))
  rcases hc with c1 | ⟨c1, c2⟩ | ⟨c1, c2, c3⟩
  all_goals
    go_enter Tryz.func33, Tryz.ntmps33
    go_wp2
    generalize w.alloc (.cells #[.int .i64 0, .int .i64 0, .int .i64 0, .int .i64 0] 33) = W9 at HE ⊢
    obtain ⟨r0, r1, r2, r3⟩ := four_cells HE.out.1
    refine bodyPost_ret (v := .tuple #[.agg #[.int .i64 0, .int .i64 0, .int .i64 0, .int .i64 0], .int .i64 1]) (by simp [results, Tryz.results33, go_sem, r0, r1, r2, r3]) rfl ?_
    exact ⟨rfl, HE.out.2⟩

theorem runsIn_blk {w : World} {g : Nat} {x : Rn} (h : w.heap[g]? = some (.cells #[.int .i64 x.1, .int .i64 x.2] 31 (0, 0))) : RunsIn w (some ⟨g, 0, none⟩) [x] := by
  refine .inr ⟨g, 0, rfl, fun i hi => ?_⟩
  obtain rfl : i = 0 := by simpa using hi
  exact ⟨blk_cell h 0, blk_cell h 1⟩
theorem wf_i64 {x : Int} (h0 : -9223372036854775808 ≤ x) (h1 : x ≤ 9223372036854775807) : (Lit.int .i64 x).wf = true := by
  have : IntKind.i64.min = -9223372036854775808 := rfl
  have : IntKind.i64.max = 9223372036854775807 := rfl
  simp [Lit.wf]
  omega
set_option maxHeartbeats 4000000 in
set_option maxRecDepth 20000 in
theorem heap_Make {h rb : Nat} {v : Value} {bx bi bm : Nat} {L : List Rn} {ids : List Int} {S : List Sp} {last : Nat} (w : World) (H : HeapAt w h rb v bx bi bm L ids S last) (n ord t : Int) (L' : List Rn) (ids' : List Int) (hM : Made ids L S last n ord t L' ids')
    (hn : 1 ≤ n) (ho : -1 ≤ ord ∧ ord < 4) (hl : last < 65536) :
    Calls Tryz.prog 33 #[.pointer (some ⟨h, 0, none⟩), .int .i64 n, .int .i64 ord] w fun e w' => e = .returned (.tuple #[spV ((last : Int) + 1, (t, n), ord), .int .i64 0]) ∧ HPost w h rb v bx bi bm L' ids' (S ++ [((last : Int) + 1, (t, n), ord)]) (last + 1) w' := by
  obtain ⟨o0, o1⟩ := ho
  have NE := H.ne
  have hsz := heap_lt H.hd
  have c1 : ¬ n < 1 := by omega
  have c2 : ¬ ord < -1 := by omega
  have c3 : ¬ 4 ≤ ord := by omega
  have hb := (Bel.refl w).alloc (.cells #[.int .i64 0, .int .i64 0, .int .i64 0, .int .i64 0] 33)
  obtain ⟨q0, q1, q2, q3⟩ := four_cells (H.bel hb).hd
  have htk := runs_Take rb v L n _ (H.free.bel hb) ⟨by omega, by have := hM.n1; omega⟩
  rw [hM.take] at htk
  have HTK := Lib.hid htk
  have HH := Lib.hid H
  have HM := Lib.hid hM
  have HB := Lib.hid hb
  have gR := Lib.hid (blk_alloc w (.cells #[.int .i64 0, .int .i64 0, .int .i64 0, .int .i64 0] 33))
  clear htk H hM hb
  go_enter Tryz.func33, Tryz.ntmps33
  go_wp2_with fail
  refine HTK.out.mono ?_
  clear HTK
  rintro e w1 ⟨rfl, v', hF, hv, hFr⟩
  have hrl : ∀ k, footR rb v k → k < w.heap.size := fun k hk => HH.out.lt (by rcases hk with hk | hk; exact .inr (.inl hk); exact .inr (.inr (.inl hk)))
  have hr1 := hFr.heap gR.out (fun hk => by have := hrl _ hk; omega)
  have hh1 := hFr.heap (HH.out.bel HB.out).hd (fun hk => by rcases hk with hk | hk; exact NE.h_rb hk; exact NE.h_v hk)
  have hI1 := (HH.out.index.bel HB.out).fr hFr (fun hk => by rcases hk with hk | hk; exact NE.rb_bx hk.symm; exact NE.bx_v hk) (fun hk => by rcases hk with hk | hk; exact NE.rb_bi hk.symm; exact NE.bi_v hk)
  have hS1 := (HH.out.spans.bel HB.out).fr hFr (fun hk => by rcases hk with hk | hk; exact NE.rb_bm hk.symm; exact NE.bm_v hk)
  have hv0 : ∀ k, v'.ownBlock = some k → v.ownBlock = some k ∨ w.heap.size ≤ k := fun k hk => by
    rcases hv k hk with h9 | h9
    · exact .inl h9
    · exact .inr (Nat.le_trans HB.out.size h9)
  have hvh : v'.ownBlock ≠ some h := fun e => by
    rcases hv0 h e with h9 | h9
    · exact NE.h_v h9
    · omega
  have hF1 : Fr (footH h rb v bx bi bm) w w1 := (Fr.of_bel HB.out).trans' (hFr.mono (fun k hk => by rcases hk with hk | hk; exact .inr (.inl hk); exact .inr (.inr (.inl hk))))
  have hs1 : w.heap.size < w1.heap.size := heap_lt hr1
  -- the last number
  obtain ⟨q0, q1, q2, q3⟩ := four_cells hh1
  obtain ⟨f0, f1, f2, f3⟩ := four_frozen hh1
  have hset : Fr (fun k => k = h) w1 (w1.setCell ⟨h, 3, none⟩ (.int .i64 ((last : Int) + 1))) := Fr.setCell (S := fun k => k = h) (p := ⟨h, 3, none⟩) (Fr.refl _ _) (.inl rfl) _
  have hal := (Bel.refl (w1.setCell ⟨h, 3, none⟩ (.int .i64 ((last : Int) + 1)))).alloc (.cells #[.int .i64 t, .int .i64 n] 31)
  have hh2 : (w1.setCell ⟨h, 3, none⟩ (.int .i64 ((last : Int) + 1))).heap[h]? = some (.cells #[.pointer (some ⟨rb, 0, none⟩), .pointer (some ⟨bx, 0, none⟩), .map (some bm), .int .i64 ((last : Int) + 1)] 74 (0, 0)) := blk_setCell hh1 3 _
  have ho2 : ∀ g, v'.ownBlock = some g → ¬ g = h := fun g hg e => hvh (by rw [← e]; exact hg)
  have HW : Hid (((w1.setCell ⟨h, 3, none⟩ (.int .i64 ((last : Int) + 1))).alloc (.cells #[.int .i64 t, .int .i64 n] 31)).heap[h]? = some (.cells #[.pointer (some ⟨rb, 0, none⟩), .pointer (some ⟨bx, 0, none⟩), .map (some bm), .int .i64 ((last : Int) + 1)] 74 (0, 0)) ∧
      ((w1.setCell ⟨h, 3, none⟩ (.int .i64 ((last : Int) + 1))).alloc (.cells #[.int .i64 t, .int .i64 n] 31)).heap[w.heap.size]? = some (.cells #[.int .i64 0, .int .i64 0, .int .i64 0, .int .i64 0] 33 (0, 0)) ∧
      ((w1.setCell ⟨h, 3, none⟩ (.int .i64 ((last : Int) + 1))).alloc (.cells #[.int .i64 t, .int .i64 n] 31)).heap[w1.heap.size]? = some (.cells #[.int .i64 t, .int .i64 n] 31 (0, 0)) ∧
      FreeAt ((w1.setCell ⟨h, 3, none⟩ (.int .i64 ((last : Int) + 1))).alloc (.cells #[.int .i64 t, .int .i64 n] 31)) rb v' L' ∧
      IndexAt ((w1.setCell ⟨h, 3, none⟩ (.int .i64 ((last : Int) + 1))).alloc (.cells #[.int .i64 t, .int .i64 n] 31)) bx bi ids ∧
      SpansAt ((w1.setCell ⟨h, 3, none⟩ (.int .i64 ((last : Int) + 1))).alloc (.cells #[.int .i64 t, .int .i64 n] 31)) bm last S ∧
      Fr (footH h rb v bx bi bm) w ((w1.setCell ⟨h, 3, none⟩ (.int .i64 ((last : Int) + 1))).alloc (.cells #[.int .i64 t, .int .i64 n] 31))) := Lib.hid
    ⟨blk_alloc_old _ hh2, blk_alloc_old _ (blk_setCell_other hr1 (by show w.heap.size ≠ h; omega) _), by have := blk_alloc (w1.setCell ⟨h, 3, none⟩ (.int .i64 ((last : Int) + 1))) (.cells #[.int .i64 t, .int .i64 n] 31); simpa [World.setCell] using this,
      (hF.fr hset (Ne.symm NE.h_rb) ho2).bel hal, (hI1.fr hset (Ne.symm NE.h_bx) (Ne.symm NE.h_bi)).bel hal, (hS1.fr hset (Ne.symm NE.h_bm)).bel hal,
      (hF1.trans' (hset.mono (fun k hk => .inl hk))).then_bel hal⟩
  have HV := Lib.hid hv0
  have hhw1 : h < w1.heap.size := by omega
  have z1 : IntKind.i64.wrap ((last : Int) + 1) = (last : Int) + 1 := IntWalk.i64_in _ (by omega)
  clear hF hv hFr hr1 hh1 hI1 hS1 hv0 hF1 hset hal hh2 ho2 gR
  go_upto_region 9 with fail
  clear q0 q1 q2 q3 f0 f1 f2 f3
  obtain ⟨B1, hB1⟩ : ∃ B1, w1.heap.size = B1 := ⟨_, rfl⟩
  obtain ⟨R, hR⟩ : ∃ R, w.heap.size = R := ⟨_, rfl⟩
  rw [hB1, hR] at HW hs1
  rw [hB1] at hhw1 ⊢
  rw [hR] at hsz HV ⊢
  have hB12 : B1 < ((w1.setCell ⟨h, 3, none⟩ (.int .i64 ((last : Int) + 1))).alloc (.cells #[.int .i64 t, .int .i64 n] 31)).heap.size := by simp [World.setCell, hB1]
  generalize (w1.setCell ⟨h, 3, none⟩ (.int .i64 ((last : Int) + 1))).alloc (.cells #[.int .i64 t, .int .i64 n] 31) = W2 at HW hB12 ⊢
  clear hB1
  obtain ⟨q0, q1, q2, q3⟩ := four_cells HW.out.1
  obtain ⟨x0, x1, _, _⟩ := two_cells HW.out.2.2.1
  have hbw : h < W2.heap.size := by omega
  go_region
  have hb3 : Bel W2 ((W2.alloc (.cells #[.int .i64 ((last : Int) + 1), .int .i64 t, .int .i64 n, .int .i64 ord] 33)).drew) := ((Bel.refl W2).alloc _).drew
  have hsb : ((W2.alloc (.cells #[.int .i64 ((last : Int) + 1), .int .i64 t, .int .i64 n, .int .i64 ord] 33)).drew).heap[W2.heap.size]? = some (.cells #[.int .i64 ((last : Int) + 1), .int .i64 t, .int .i64 n, .int .i64 ord] 33 (0, 0)) := blk_alloc W2 _
  obtain ⟨B2, hB2⟩ : ∃ B2, W2.heap.size = B2 := ⟨_, rfl⟩
  rw [hB2] at hsb hB12 hbw ⊢
  have HW3 := Lib.hid (And.intro hb3 hsb)
  clear hb3 hsb q0 q1 q2 q3 x0 x1
  generalize (W2.alloc (.cells #[.int .i64 ((last : Int) + 1), .int .i64 t, .int .i64 n, .int .i64 ord] 33)).drew = W3 at HW3 ⊢
  have hW3h := (Fr.of_bel (S := fun _ => False) HW3.out.1).heap HW.out.1 (fun h => h)
  obtain ⟨q0, q1, q2, q3⟩ := four_cells hW3h
  obtain ⟨x0, x1, x2, x3⟩ := four_cells HW3.out.2
  go_wp2_with fail
  go_still_tail 7, (by kernel_rfl)
  change wpList _ _ _ _ _ W3.drew
  have hb4 : Bel W2 W3.drew := HW3.out.1.drew
  have hs4 := (Fr.of_bel (S := fun _ => False) ((Bel.refl W3).drew)).heap HW3.out.2 (fun h => h)
  have HW4 := Lib.hid (And.intro hb4 hs4)
  clear hb4 hs4 hW3h q0 q1 q2 q3 x0 x1 x2 x3
  generalize W3.drew = W4 at HW4 ⊢
  obtain ⟨W5, hrun, hS5, hg5⟩ := (HW.out.2.2.2.2.2.1.bel HW4.out.1).put ((last : Int) + 1, (t, n), ord) (wf_i64 (by omega) (by omega)) (by unfold maxLen; omega) HM.out.fresh
  simp only [spV] at hrun
  have hbmW : bm < W2.heap.size := by have := HW.out.2.2.2.2.2.1.lt; exact this
  have hF5 := (Fr.of_bel (S := fun k => k = bm) HW4.out.1).trans' (fr_grown hg5)
  have hbmR : bm ≠ R := fun e => by obtain ⟨es, ck, hm⟩ := HW.out.2.2.2.2.2.1.map?; rw [e, HW.out.2.1] at hm; simp at hm
  have hbmB1 : bm ≠ B1 := fun e => by obtain ⟨es, ck, hm⟩ := HW.out.2.2.2.2.2.1.map?; rw [e, HW.out.2.2.1] at hm; simp at hm
  have hv2 : v'.ownBlock ≠ some bm := fun e => by obtain ⟨cur, hc⟩ := own_type HW.out.2.2.2.1.own e; obtain ⟨es, ck, hm⟩ := HW.out.2.2.2.2.2.1.map?; rw [hc] at hm; simp at hm
  have HW5 : Hid (W5.heap[h]? = some (.cells #[.pointer (some ⟨rb, 0, none⟩), .pointer (some ⟨bx, 0, none⟩), .map (some bm), .int .i64 ((last : Int) + 1)] 74 (0, 0)) ∧
      W5.heap[R]? = some (.cells #[.int .i64 0, .int .i64 0, .int .i64 0, .int .i64 0] 33 (0, 0)) ∧
      W5.heap[B1]? = some (.cells #[.int .i64 t, .int .i64 n] 31 (0, 0)) ∧
      W5.heap[B2]? = some (.cells #[.int .i64 ((last : Int) + 1), .int .i64 t, .int .i64 n, .int .i64 ord] 33 (0, 0)) ∧
      FreeAt W5 rb v' L' ∧ IndexAt W5 bx bi ids ∧ SpansAt W5 bm (last + 1) (S ++ [((last : Int) + 1, (t, n), ord)]) ∧ Fr (footH h rb v bx bi bm) w W5) := Lib.hid
    ⟨hF5.heap HW.out.1 NE.h_bm, hF5.heap HW.out.2.1 (Ne.symm hbmR), hF5.heap HW.out.2.2.1 (Ne.symm hbmB1), (fr_grown hg5).heap HW4.out.2 (by omega),
      HW.out.2.2.2.1.fr hF5 NE.rb_bm (fun g hg e => hv2 (by rw [← e]; exact hg)), HW.out.2.2.2.2.1.fr hF5 NE.bx_bm NE.bi_bm, hS5, HW.out.2.2.2.2.2.2.trans' (hF5.mono (fun k hk => .inr (.inr (.inr (.inr (.inr hk))))))⟩
  have hsz5 : B2 < W5.heap.size := heap_lt HW5.out.2.2.2.1
  clear hS5 hg5 hF5
  go_wp2_with fail
  clear hrun
  obtain ⟨q0, q1, q2, q3⟩ := four_cells HW5.out.1
  obtain ⟨x0, x1, x2, x3⟩ := four_cells HW5.out.2.2.2.1
  obtain ⟨y0, y1, _, _⟩ := two_cells HW5.out.2.2.1
  have hbi1 : bi ≠ B1 := fun e => by have := HW5.out.2.2.2.2.2.1.nums; rw [e, HW5.out.2.2.1] at this; simp at this
  have hbi2 : bi ≠ B2 := fun e => by have := HW5.out.2.2.2.2.2.1.nums; rw [e, HW5.out.2.2.2.1] at this; simp at this
  have HKB : Hid (∀ Q V, Fr Q W5 V → ¬ Q h → ¬ Q B2 → ¬ Q B1 → V.cell? ⟨h, 1, none⟩ = some (.pointer (some ⟨bx, 0, none⟩)) ∧ V.cell? ⟨B2, 0, none⟩ = some (.int .i64 ((last : Int) + 1)) ∧ V.cell? ⟨B2, 1, none⟩ = some (.int .i64 t) ∧ V.cell? ⟨B2, 2, none⟩ = some (.int .i64 n) ∧ V.cell? ⟨B2, 3, none⟩ = some (.int .i64 ord) ∧ V.cell? ⟨B1, 0, none⟩ = some (.int .i64 t) ∧ V.cell? ⟨B1, 1, none⟩ = some (.int .i64 n)) := Lib.hid (fun Q V hF k0 k1 k2 => ⟨hF.cell q1 k0, hF.cell x0 k1, hF.cell x1 k1, hF.cell x2 k1, hF.cell x3 k1, hF.cell y0 k2, hF.cell y1 k2⟩)
  have HSET : Hid (∀ V g, V.heap[g]? = some (.cells #[.int .i64 t, .int .i64 n] 31 (0, 0)) → Bel W5 V → Calls Tryz.prog 60 #[.pointer (some ⟨bx, 0, none⟩), .int .i64 ((last : Int) + 1), .slice (some ⟨g, 0, none⟩) 1 1] V fun e V' => e = .returned (.int .i64 0) ∧ IndexAt V' bx bi ids' ∧ Fr (fun k => k = bi) W5 V' ∧ V'.cell? ⟨h, 1, none⟩ = some (.pointer (some ⟨bx, 0, none⟩)) ∧ V'.cell? ⟨B2, 0, none⟩ = some (.int .i64 ((last : Int) + 1)) ∧ V'.cell? ⟨B2, 1, none⟩ = some (.int .i64 t) ∧ V'.cell? ⟨B2, 2, none⟩ = some (.int .i64 n) ∧ V'.cell? ⟨B2, 3, none⟩ = some (.int .i64 ord) ∧ V'.cell? ⟨B1, 0, none⟩ = some (.int .i64 t) ∧ V'.cell? ⟨B1, 1, none⟩ = some (.int .i64 n)) := Lib.hid (fun V g hg hV => by
    have hset := index_Set bx bi ids ((last : Int) + 1) (some ⟨g, 0, none⟩) [(t, n)] 1 1 V (HW5.out.2.2.2.2.2.1.bel hV) rfl (by simp) (runsIn_blk hg) (by intro r hr; simp at hr; subst hr; have := HM.out.t0; have := HM.out.t1; have := HM.out.n1; exact ⟨⟨by omega, by omega⟩, ⟨by omega, by omega⟩⟩) ⟨by omega, by omega⟩
    rw [HM.out.set] at hset
    refine hset.mono ?_
    rintro e V' ⟨rfl, hI7, hF7⟩
    have hF := (Fr.of_bel (S := fun k => k = bi) hV).trans' hF7
    exact ⟨rfl, hI7, hF, HKB.out _ _ hF NE.h_bi (Ne.symm hbi2) (Ne.symm hbi1)⟩)
  have hbiR : bi ≠ R := fun e => by have := HW5.out.2.2.2.2.2.1.nums; rw [e, HW5.out.2.1] at this; simp at this
  have hRB1 : B1 ≠ R := by omega
  have hRB2 : B2 ≠ R := by omega
  have hRhh : h ≠ R := by omega
  go_region_held3 (fun w' => w'.cell? ⟨h, 1, none⟩ = some (.pointer (some ⟨bx, 0, none⟩)) ∧ w'.cell? ⟨B2, 0, none⟩ = some (.int .i64 ((last : Int) + 1)) ∧ w'.cell? ⟨B2, 1, none⟩ = some (.int .i64 t) ∧ w'.cell? ⟨B2, 2, none⟩ = some (.int .i64 n) ∧ w'.cell? ⟨B2, 3, none⟩ = some (.int .i64 ord) ∧ w'.cell? ⟨B1, 0, none⟩ = some (.int .i64 t) ∧ w'.cell? ⟨B1, 1, none⟩ = some (.int .i64 n))
    (first | exact hS9 | exact hS7 | go_keep)
    (first
    | (go_at_call 60; (with_reducible refine (HSET.out _ _ ?b0 ?b1).mono ?_); (case b0 => first | exact blk_alloc _ _ | exact blk_alloc W5 _); (case b1 => repeat (first | assumption | exact Bel.refl _ | apply Bel.drew | apply Bel.alloc)); rintro e W7 ⟨rfl, hI7, hF57, hS7⟩; have gR7 := hF57.heap HW5.out.2.1 (Ne.symm hbiR); obtain ⟨c0, c1, c2, c3⟩ := four_cells gR7; obtain ⟨f0, f1, f2, f3⟩ := four_frozen gR7; have hS9 := HKB.out _ _ (((((hF57.mono (S' := fun k => k = bi ∨ k = R) (fun k hk => .inl hk)).setCell (p := ⟨R, 0, none⟩) (.inl (.inr rfl)) (.int .i64 ((last : Int) + 1))).setCell (p := ⟨R, 1, none⟩) (.inl (.inr rfl)) (.int .i64 t)).setCell (p := ⟨R, 2, none⟩) (.inl (.inr rfl)) (.int .i64 n)).setCell (p := ⟨R, 3, none⟩) (.inl (.inr rfl)) (.int .i64 ord)) (by rintro (e | e); exact NE.h_bi e; exact hRhh e) (by rintro (e | e); exact hbi2 e.symm; exact hRB2 e) (by rintro (e | e); exact hbi1 e.symm; exact hRB1 e)))
  have hv3 : v'.ownBlock ≠ some bi := fun e => by obtain ⟨cur, hc⟩ := own_type HW5.out.2.2.2.2.1.own e; have := HW5.out.2.2.2.2.2.1.nums; rw [hc] at this; simp at this
  have hset4 : Fr (fun k => k = R) W7 ((((W7.setCell ⟨R, 0, none⟩ (.int .i64 ((last : Int) + 1))).setCell ⟨R, 1, none⟩ (.int .i64 t)).setCell ⟨R, 2, none⟩ (.int .i64 n)).setCell ⟨R, 3, none⟩ (.int .i64 ord)) :=
    Fr.setCell (p := ⟨R, 3, none⟩) (Fr.setCell (p := ⟨R, 2, none⟩) (Fr.setCell (p := ⟨R, 1, none⟩) (Fr.setCell (p := ⟨R, 0, none⟩) (Fr.refl (fun k => k = R) W7) (.inl rfl) _) (.inl rfl) _) (.inl rfl) _) (.inl rfl) _
  have hRh : ∀ k, footH h rb v bx bi bm k → ¬ k = R := fun k hk e => by have := HH.out.lt hk; omega
  have hvR : ∀ g, v'.ownBlock = some g → ¬ g = R := fun g hg e => by
    obtain ⟨cur, hc⟩ := own_type HW5.out.2.2.2.2.1.own hg
    rw [e, HW5.out.2.1] at hc
    simp at hc
  have HE : Hid (((((W7.setCell ⟨R, 0, none⟩ (.int .i64 ((last : Int) + 1))).setCell ⟨R, 1, none⟩ (.int .i64 t)).setCell ⟨R, 2, none⟩ (.int .i64 n)).setCell ⟨R, 3, none⟩ (.int .i64 ord)).heap[R]? = some (.cells #[.int .i64 ((last : Int) + 1), .int .i64 t, .int .i64 n, .int .i64 ord] 33 (0, 0)) ∧
      HPost w h rb v bx bi bm L' ids' (S ++ [((last : Int) + 1, (t, n), ord)]) (last + 1) ((((W7.setCell ⟨R, 0, none⟩ (.int .i64 ((last : Int) + 1))).setCell ⟨R, 1, none⟩ (.int .i64 t)).setCell ⟨R, 2, none⟩ (.int .i64 n)).setCell ⟨R, 3, none⟩ (.int .i64 ord))) := Lib.hid (by
    refine ⟨four_set gR7 _ _ _ _, v', ⟨?_, ?_, ?_, ?_, HM.out.inv, by omega⟩, ?_, ?_⟩
    · have := hset4.heap (hF57.heap HW5.out.1 NE.h_bi) (hRh _ (.inl rfl))
      simpa using this
    · exact (HW5.out.2.2.2.2.1.fr hF57 NE.rb_bi (fun g hg e => hv3 (by rw [← e]; exact hg))).fr hset4 (hRh _ (.inr (.inl rfl))) hvR
    · exact hI7.fr hset4 (hRh _ (.inr (.inr (.inr (.inl rfl))))) (hRh _ (.inr (.inr (.inr (.inr (.inl rfl))))))
    · exact (HW5.out.2.2.2.2.2.2.1.fr hF57 (Ne.symm NE.bi_bm)).fr hset4 (hRh _ (.inr (.inr (.inr (.inr (.inr rfl))))))
    · intro k hk
      have := HV.out k hk
      rw [hR]; exact this
    · exact (HW5.out.2.2.2.2.2.2.2.trans' (hF57.mono (fun k hk => .inr (.inr (.inr (.inr (.inl hk))))))).trans hset4 (fun k hk => .inr (by rw [hR]; omega)))
  clear hF57 gR7 hset4 hI7
  go_wp2
  generalize (((W7.setCell ⟨R, 0, none⟩ (.int .i64 ((last : Int) + 1))).setCell ⟨R, 1, none⟩ (.int .i64 t)).setCell ⟨R, 2, none⟩ (.int .i64 n)).setCell ⟨R, 3, none⟩ (.int .i64 ord) = W9 at HE ⊢
  obtain ⟨r0, r1, r2, r3⟩ := four_cells HE.out.1
  refine bodyPost_ret (v := .tuple #[.agg #[.int .i64 ((last : Int) + 1), .int .i64 t, .int .i64 n, .int .i64 ord], .int .i64 0]) (by simp [results, Tryz.results33, go_sem, r0, r1, r2, r3]) rfl ?_
  exact ⟨rfl, HE.out.2⟩
/-- Some of them were turned by Take alone. -/
theorem HeapAt.taken {w w1 : World} {h rb : Nat} {v : Value} {bx bi bm : Nat} {L L' : List Rn} {ids : List Int} {S : List Sp} {last : Nat} (H : HeapAt w h rb v bx bi bm L ids S last) (hP : RPost w rb v L' w1) (hL : L' = L) : HPost w h rb v bx bi bm L ids S last w1 := by
  subst hL
  obtain ⟨v', hF, hv, hFr⟩ := hP
  have NE := H.ne
  refine ⟨v', ⟨hFr.heap H.hd (fun hk => by rcases hk with hk | hk; exact NE.h_rb hk; exact NE.h_v hk), hF, H.index.fr hFr (fun hk => by rcases hk with hk | hk; exact NE.rb_bx hk.symm; exact NE.bx_v hk) (fun hk => by rcases hk with hk | hk; exact NE.rb_bi hk.symm; exact NE.bi_v hk), H.spans.fr hFr (fun hk => by rcases hk with hk | hk; exact NE.rb_bm hk.symm; exact NE.bm_v hk), H.inv, H.small⟩, hv, hFr.mono (fun k hk => by rcases hk with hk | hk; exact .inr (.inl hk); exact .inr (.inr (.inl hk)))⟩
set_option maxHeartbeats 1000000 in
set_option maxRecDepth 20000 in
theorem heap_Make_none {h rb : Nat} {v : Value} {bx bi bm : Nat} {L : List Rn} {ids : List Int} {S : List Sp} {last : Nat} (w : World) (H : HeapAt w h rb v bx bi bm L ids S last) (n ord : Int) (hT : takeR L n = (L, (0, 0), false)) (hnn : I64 n)
    (hn : 1 ≤ n) (ho : -1 ≤ ord ∧ ord < 4) :
    Calls Tryz.prog 33 #[.pointer (some ⟨h, 0, none⟩), .int .i64 n, .int .i64 ord] w fun e w' => e = .returned (.tuple #[spV sp0, .int .i64 3]) ∧ HPost w h rb v bx bi bm L ids S last w' := by
  obtain ⟨o0, o1⟩ := ho
  have hsz := heap_lt H.hd
  have c1 : ¬ n < 1 := by omega
  have c2 : ¬ ord < -1 := by omega
  have c3 : ¬ 4 ≤ ord := by omega
  have hb := (Bel.refl w).alloc (.cells #[.int .i64 0, .int .i64 0, .int .i64 0, .int .i64 0] 33)
  obtain ⟨q0, q1, q2, q3⟩ := four_cells (H.bel hb).hd
  have htk := runs_Take rb v L n _ (H.free.bel hb) hnn
  rw [hT] at htk
  have HTK := Lib.hid htk
  have HH := Lib.hid H
  have HB := Lib.hid hb
  have gR := Lib.hid (blk_alloc w (.cells #[.int .i64 0, .int .i64 0, .int .i64 0, .int .i64 0] 33))
  clear htk H hb
  go_enter Tryz.func33, Tryz.ntmps33
  go_wp2_with fail
  refine HTK.out.mono ?_
  clear HTK
  rintro e w1 ⟨rfl, hP⟩
  have hr1 := hP.choose_spec.2.2.heap gR.out (fun hk => by have := HH.out.lt (k := w.heap.size) (by rcases hk with hk | hk; exact .inr (.inl hk); exact .inr (.inr (.inl hk))); omega)
  have hH1 := (HH.out.bel HB.out).taken hP rfl
  obtain ⟨c0', c1', c2', c3'⟩ := four_cells hr1
  obtain ⟨f0, f1, f2, f3⟩ := four_frozen hr1
  have hset4 : Fr (fun k => k = w.heap.size) w1 (((((w1.setCell ⟨w.heap.size, 0, none⟩ (.int .i64 0)).setCell ⟨w.heap.size, 1, none⟩ (.int .i64 0)).setCell ⟨w.heap.size, 2, none⟩ (.int .i64 0)).setCell ⟨w.heap.size, 3, none⟩ (.int .i64 0))) :=
    Fr.setCell (p := ⟨w.heap.size, 3, none⟩) (Fr.setCell (p := ⟨w.heap.size, 2, none⟩) (Fr.setCell (p := ⟨w.heap.size, 1, none⟩) (Fr.setCell (p := ⟨w.heap.size, 0, none⟩) (Fr.refl (fun k => k = w.heap.size) w1) (.inl rfl) _) (.inl rfl) _) (.inl rfl) _) (.inl rfl) _
  have HE : Hid ((((((w1.setCell ⟨w.heap.size, 0, none⟩ (.int .i64 0)).setCell ⟨w.heap.size, 1, none⟩ (.int .i64 0)).setCell ⟨w.heap.size, 2, none⟩ (.int .i64 0)).setCell ⟨w.heap.size, 3, none⟩ (.int .i64 0)).alloc (.cells #[.int .i64 0, .int .i64 0] 31)).heap[w.heap.size]? = some (.cells #[.int .i64 0, .int .i64 0, .int .i64 0, .int .i64 0] 33 (0, 0)) ∧ HPost w h rb v bx bi bm L ids S last (((((w1.setCell ⟨w.heap.size, 0, none⟩ (.int .i64 0)).setCell ⟨w.heap.size, 1, none⟩ (.int .i64 0)).setCell ⟨w.heap.size, 2, none⟩ (.int .i64 0)).setCell ⟨w.heap.size, 3, none⟩ (.int .i64 0)).alloc (.cells #[.int .i64 0, .int .i64 0] 31))) := Lib.hid (by
    refine ⟨blk_alloc_old _ (four_set hr1 _ _ _ _), ?_⟩
    obtain ⟨v', k1, k2, k3⟩ := hH1.from HB.out
    refine HPost.then_bel ⟨v', k1.fr hset4 (fun i hi e => ?_), k2, k3.trans hset4 (fun k hk => .inr (by omega))⟩ ((Bel.refl _).alloc _)
    subst e
    have hold : ∀ k, footH h rb v bx bi bm k → k < w.heap.size := fun k hk => HH.out.lt hk
    rcases hi with hi | hi | hi | hi | hi | hi
    · have := hold _ (.inl hi); omega
    · have := hold _ (.inr (.inl hi)); omega
    · obtain ⟨cur, hc⟩ := own_type k1.free.own hi
      rw [hr1] at hc; simp at hc
    · have := hold _ (.inr (.inr (.inr (.inl hi)))); omega
    · have := hold _ (.inr (.inr (.inr (.inr (.inl hi))))); omega
    · have := hold _ (.inr (.inr (.inr (.inr (.inr hi))))); omega)
  have hs1 : w.heap.size < w1.heap.size := heap_lt hr1
  clear hP hr1 hH1 hset4
  go_wp2
  generalize ((((w1.setCell ⟨w.heap.size, 0, none⟩ (.int .i64 0)).setCell ⟨w.heap.size, 1, none⟩ (.int .i64 0)).setCell ⟨w.heap.size, 2, none⟩ (.int .i64 0)).setCell ⟨w.heap.size, 3, none⟩ (.int .i64 0)).alloc (.cells #[.int .i64 0, .int .i64 0] 31) = W9 at HE ⊢
  obtain ⟨r0, r1, r2, r3⟩ := four_cells HE.out.1
  refine bodyPost_ret (v := .tuple #[.agg #[.int .i64 0, .int .i64 0, .int .i64 0, .int .i64 0], .int .i64 3]) (by simp [results, Tryz.results33, go_sem, r0, r1, r2, r3]) rfl ?_
  exact ⟨rfl, HE.out.2⟩
end Go.Proofs.YtbldidlbhahciaaGreat

namespace Go.Proofs.YtbldidlbhahciaaGreat
open Go.RowKit Go.Maps

theorem run_makeMet7 (W : World) : (Instr.makeMap 146 none).run Tryz.prog W = .ok (.map (some W.heap.size)) (W.alloc (.map #[] 0)) := by kernel_rfl
/-- Under way: what has been met. -/
structure FreeWay (w wr : World) (S : List Sp) (l : List Int) (i : Nat) (rv : Value) (xs : List Int) : Prop where
  bel : Bel w wr
  box : wr.heap[w.heap.size + 1]? = some (.cells #[.map (some w.heap.size)] 146 (0, 0))
  met : MetAt wr w.heap.size xs
  mem : ∀ k, k ∈ xs ↔ k ∈ l.take i
  len : xs.length ≤ i
  some : ∀ k ∈ l.take i, (getS S k).isSome = true
  nd : (l.take i).Nodup
  own : wr.ownsRow w.heap.size 31 2 rv (runsOf S (l.take i)).length (cellsOf (runsOf S (l.take i)))
def FreeOk (S : List Sp) (l : List Int) : Prop := (∀ k ∈ l, (getS S k).isSome = true) ∧ l.Nodup
theorem runsOf_length (S : List Sp) (l : List Int) : (runsOf S l).length = l.length := by simp [runsOf]
theorem free_not {S : List Sp} {l : List Int} {i : Nat} (hi : i < l.length) (h : getS S l[i] = none ∨ l[i] ∈ l.take i) : ¬ FreeOk S l := by
  rintro ⟨h1, h2⟩
  rcases h with h | h
  · have := h1 _ (List.getElem_mem hi)
    rw [h] at this; cases this
  · have h3 : l.take (i + 1) = l.take i ++ [l[i]] := List.take_succ_eq_append_getElem hi
    have h4 := h2.sublist (List.take_sublist (i + 1) l)
    rw [h3, List.nodup_append] at h4
    exact h4.2.2 _ h _ (by simp) rfl
/-- What Free leaves at its end. -/
theorem heap_freed {w w1 w2 w3 : World} {h rb : Nat} {v : Value} {bx bi bm : Nat} {L L' : List Rn} {ids ids' : List Int} {S : List Sp} {last : Nat} {l xs : List Int} (H : HeapAt w h rb v bx bi bm L ids S last) (hf : Freed ids L S last l L' ids') (hx : ∀ k, k ∈ xs ↔ k ∈ l)
    (h1 : w.grownBy w1 (some bm)) (hs : SpansAt w1 bm last (S.filter fun s => !decide (s.1 ∈ xs))) (h2 : Fr (fun k => k = bi) w1 w2) (hi : IndexAt w2 bx bi ids') (h3 : RPost w2 rb v L' w3) : HPost w h rb v bx bi bm L' ids' (S.filter fun s => !decide (s.1 ∈ l)) last w3 := by
  have NE := H.ne
  have e : (S.filter fun s => !decide (s.1 ∈ xs)) = S.filter fun s => !decide (s.1 ∈ l) := List.filter_congr (fun s _ => by rw [decide_eq_decide.2 (hx s.1)])
  rw [e] at hs
  obtain ⟨v', hF, hv, hFr⟩ := h3
  have f1 := fr_grown h1
  have h0 : w.heap.size ≤ w2.heap.size := Nat.le_trans f1.size h2.size
  refine ⟨v', ⟨?_, hF, ?_, ?_, hf.inv, H.small⟩, fun k hk => ?_, ?_⟩
  · exact hFr.heap (h2.heap (f1.heap H.hd NE.h_bm) NE.h_bi) (fun hk => by rcases hk with hk | hk; exact NE.h_rb hk; exact NE.h_v hk)
  · exact hi.fr hFr (fun hk => by rcases hk with hk | hk; exact NE.rb_bx hk.symm; exact NE.bx_v hk) (fun hk => by rcases hk with hk | hk; exact NE.rb_bi hk.symm; exact NE.bi_v hk)
  · exact (hs.fr h2 (Ne.symm NE.bi_bm)).fr hFr (fun hk => by rcases hk with hk | hk; exact NE.rb_bm hk.symm; exact NE.bm_v hk)
  · rcases hv k hk with h9 | h9
    · exact .inl h9
    · exact .inr (Nat.le_trans h0 h9)
  · exact ((f1.mono (fun k hk => .inr (.inr (.inr (.inr (.inr hk)))))).trans' (h2.mono (fun k hk => .inr (.inr (.inr (.inr (.inl hk))))))).trans' (hFr.mono (fun k hk => by rcases hk with hk | hk; exact .inr (.inl hk); exact .inr (.inr (.inl hk))))
set_option maxHeartbeats 4000000 in
set_option maxRecDepth 20000 in
theorem heap_Free {h rb : Nat} {v : Value} {bx bi bm : Nat} {L : List Rn} {ids : List Int} {S : List Sp} {last : Nat} (w : World) (H : HeapAt w h rb v bx bi bm L ids S last) (a : Option Addr) (l : List Int) (n c : Nat) (hn : n = l.length) (hl : l.length ≤ 1024) (hr : RdV w a (ints l)) (hok : ∀ k ∈ l, (Lit.int .i64 k).wf = true) :
    Calls Tryz.prog 64 #[.pointer (some ⟨h, 0, none⟩), .slice a n c] w fun e w' =>
      (FreeOk S l ∧ e = .returned (.int .i64 0) ∧ ∃ L' ids', Freed ids L S last l L' ids' ∧ HPost w h rb v bx bi bm L' ids' (S.filter fun s => !decide (s.1 ∈ l)) last w') ∨
      (¬ FreeOk S l ∧ e = .returned (.int .i64 6) ∧ HPost w h rb v bx bi bm L ids S last w') := by
  subst hn
  have NE := H.ne
  have HH := Lib.hid H
  have HR := Lib.hid hr
  have HOK := Lib.hid hok
  have q := run_makeMet7 w
  have hb0 : Bel w ((w.alloc (.map #[] 0)).alloc (.cells #[.map (some w.heap.size)] 146)) := ((Bel.refl w).alloc _).alloc _
  have HST : Hid (FreeWay w ((w.alloc (.map #[] 0)).alloc (.cells #[.map (some w.heap.size)] 146)) S l 0 (.slice none 0 0) []) := Lib.hid (by
    refine ⟨hb0, ?_, (MetAt.made w).bel ((Bel.refl _).alloc _), fun k => by simp, Nat.le_refl _, fun k hk => by simp at hk, by simp, World.ownsRow_nil _ _ _ _⟩
    have := blk_alloc (w.alloc (.map #[] 0)) (.cells #[.map (some w.heap.size)] 146)
    rwa [World.size_alloc] at this)
  clear hr hok H hb0
  go_enter Tryz.func64, Tryz.ntmps64
  go_wp2_with fail
  go_loopw [5, 14] (fun rv k wr => ∃ i : Nat, i ≤ l.length ∧ k = .int .i64 i ∧ ∃ u, u = rv ∧ Hid (∃ xs, FreeWay w wr S l i u xs)) (fun rv k wr => l.length - (intOf k).toNat)
  case atStart => exact ⟨0, Nat.zero_le _, rfl, _, rfl, Lib.hid ⟨[], HST.out⟩⟩
  case round =>
    clear HST q
    obtain ⟨i, hi, rfl, rv, rfl, HX⟩ := hrel
    obtain ⟨xs, hW⟩ := HX.out
    have HW := Lib.hid hW
    have hl0 : l.length ≤ 9223372036854775807 := by omega
    have hszw := hW.bel.size
    clear HX hW
    by_cases hlt : i < l.length
    · obtain ⟨b, o, rfl, hra⟩ : ∃ b o, a = some ⟨b, o, none⟩ ∧ wr.cell? ⟨b, o + i, none⟩ = some (.int .i64 l[i]) := by
        rcases HR.out.bel HW.out.bel with h9 | ⟨b, o, e, h9⟩
        · have : l = [] := by simpa [ints] using h9
          subst this; simp at hlt
        · refine ⟨b, o, e, ?_⟩
          have := h9 i (by simpa [ints] using hlt)
          simpa [ints] using this
      have hkw := HOK.out _ (List.getElem_mem hlt)
      have HNOT := Lib.hid (fun hh => free_not (S := S) hlt hh)
      have htk : l.take (i + 1) = l.take i ++ [l[i]] := List.take_succ_eq_append_getElem hlt
      have HTK := Lib.hid htk
      have d0 : (i : Int) < l.length := by omega
      obtain ⟨k, hk⟩ : ∃ k, l[i] = k := ⟨_, rfl⟩
      rw [hk] at hra hkw HNOT HTK
      have HSP := Lib.hid (heap_Span wr (HH.out.bel HW.out.bel) k hkw)
      clear hk htk
      go_wp2_with fail
      refine HSP.out.mono ?_
      clear HSP
      rintro e w1 ⟨rfl, hB1⟩
      obtain ⟨s, hs⟩ : ∃ s, (getS S k).getD sp0 = s := ⟨_, rfl⟩
      obtain ⟨p, hp⟩ : ∃ p, (getS S k).isSome = p := ⟨_, rfl⟩
      rw [hs, hp]
      obtain ⟨s1, ⟨s2, s3⟩, s4⟩ := s
      simp only [spV]
      have hal := hB1.alloc (.cells #[.int .i64 s1, .int .i64 s2, .int .i64 s3, .int .i64 s4] 33)
      have hlk := (HW.out.met.bel hal).look k hkw
      have hbx := (Fr.of_bel (S := fun _ => False) hal).heap HW.out.box (fun h => h)
      have hsb := blk_alloc w1 (.cells #[.int .i64 s1, .int .i64 s2, .int .i64 s3, .int .i64 s4] 33)
      have b0 : (w1.alloc (.cells #[.int .i64 s1, .int .i64 s2, .int .i64 s3, .int .i64 s4] 33)).cell? ⟨w.heap.size + 1, 0, none⟩ = some (.map (some w.heap.size)) := blk_cell hbx 0
      have hs1 : wr.heap.size ≤ w1.heap.size := hB1.size
      have hbl : w.heap.size + 1 < wr.heap.size := heap_lt HW.out.box
      have HAL := Lib.hid hal
      have HSB := Lib.hid hsb
      have HPS := Lib.hid (And.intro hs hp)
      cases p
      · have HN := Lib.hid (HNOT.out (.inl (by cases hg : getS S k with | none => rfl | some y => rw [hg] at hp; cases hp)))
        clear hal hbx hsb hB1 hs hp HNOT
        go_wp2
        go_ret
        exact .inr ⟨HN.out, rfl, HPost.same HH.out (HW.out.bel.trans HAL.out)⟩
      · obtain ⟨m, hm⟩ : ∃ m, decide (k ∈ xs) = m := ⟨_, rfl⟩
        rw [hm] at hlk
        cases m
        · have hkn : k ∉ xs := of_decide_eq_false hm
          obtain ⟨w2, hrun, hM2, hg2⟩ := (HW.out.met.bel hal).put k hkw (by have := HW.out.len; unfold maxLen; omega)
          have hf2 := fr_grown hg2
          have hbx2 := hf2.heap hbx (by omega)
          have hsb2 := hf2.heap hsb (by omega)
          obtain ⟨y0, y1, y2, y3⟩ := four_cells hsb2
          have hget : getS S k = some (s1, (s2, s3), s4) := by
            cases hg : getS S k with
            | none => rw [hg] at hp; cases hp
            | some y => rw [hg] at hs; simp at hs; rw [hs]
          have hown2 : w2.ownsRow w.heap.size 31 2 rv (runsOf S (l.take i)).length (cellsOf (runsOf S (l.take i))) := own_fr (own_bel HW.out.own hal) hf2 (fun g hg1 hg e => by
            subst e
            obtain ⟨cur, hc⟩ := own_type (own_bel HW.out.own hal) hg
            obtain ⟨D, ⟨es, ck, h5, _⟩, _⟩ := HW.out.met.bel hal
            rw [hc] at h5; simp at h5)
          have HOW2 := Lib.hid hown2
          have hB2 : Bel w w2 := Below.grown (HW.out.bel.trans hal) hg2 (HW.out.bel.trans hal).size (fun j hj => by cases hj; exact Nat.le_refl _)
          have HM2 : Hid (MetAt w2 w.heap.size (k :: xs) ∧ w2.heap[w.heap.size + 1]? = some (.cells #[.map (some w.heap.size)] 146 (0, 0)) ∧ Bel w w2) := Lib.hid ⟨hM2, hbx2, hB2⟩
          have HK := Lib.hid (And.intro hkn hget)
          have hrl : (runsOf S (l.take i)).length ≤ 1024 := by rw [runsOf_length, List.length_take]; omega
          have hs2 := hB2.size
          clear hown2 hM2 hg2 hf2 hbx2 hsb2 hal hbx hsb hB1 hs hp HNOT hB2 hget hkn
          go_wp2_with (at_builtin; refine wpList_append_runs rfl _ _ rfl w.heap.size _ (runsOf S (l.take i)) rfl (HOW2.out.alloc _) _ _ [(s2, s3)] rfl ?d1 ?d2 ?d3 ?d4 ?_)
          case d1 => exact RunsIn.of_row (RdV.newAt _ #[.int .i64 s2, .int .i64 s3] 31 _ (by simp))
          try (case d2 => rintro ⟨⟩)
          case d3 => first | omega | (simp; done) | (simp; omega)
          case d4 => first | omega | (simp; done) | (simp; omega)
          intro v' w4 hown4 hgrow
          have hB4 : Bel w w4 := bel_app HOW2.out HM2.out.2.2 hgrow
          have hne : ∀ j o, w2.heap[j]? = some o → (∀ cur : Array Value, o ≠ Obj.cells cur 31 (0, 0)) → w4.heap[j]? = some o := fun j o ho hno => by
            have h6 : (w2.alloc (.cells #[.int .i64 s2, .int .i64 s3] 31)).heap[j]? = some o := blk_alloc_old _ ho
            refine (hgrow.block j (heap_lt h6) (fun e => ?_)).trans h6
            obtain ⟨cur, hc⟩ := own_type HOW2.out e.symm
            rw [ho] at hc
            exact hno cur (Option.some.inj hc)
          have HN : Hid (FreeWay w w4 S l (i + 1) v' (k :: xs)) := Lib.hid (by
            have ert : runsOf S (l.take (i + 1)) = runsOf S (l.take i) ++ [(s2, s3)] := by rw [HTK.out, runsOf_snoc _ _ _ _ HK.out.2]
            refine ⟨hB4, hne _ _ HM2.out.2.1 (fun cur e => by simp at e), ?_, fun j => ?_, by simp; have := HW.out.len; omega, fun j hj => ?_, ?_, ?_⟩
            · obtain ⟨D, ⟨es, ck, h5, h6⟩, h7⟩ := HM2.out.1
              exact ⟨D, ⟨es, ck, hne _ _ h5 (fun cur e => by simp at e), h6⟩, h7⟩
            · rw [HTK.out, List.mem_cons, List.mem_append, HW.out.mem j]
              simp
              exact Or.comm
            · rw [HTK.out, List.mem_append] at hj
              rcases hj with hj | hj
              · exact HW.out.some j hj
              · simp at hj; subst hj; rw [HK.out.2]; rfl
            · rw [HTK.out, List.nodup_append]
              refine ⟨HW.out.nd, by simp, fun x hx y hy e => ?_⟩
              simp at hy; subst hy; subst e
              exact HK.out.1 ((HW.out.mem _).2 hx)
            · rw [ert]; simpa using hown4)
          clear hown4 hgrow hB4 hne
          go_wp2
          go_roundw
          case rel => exact ⟨i + 1, by omega, by go_num, _, rfl, Lib.hid ⟨_, HN.out⟩⟩
          case measure => simp [intOf]; omega
        · have hkn : k ∈ xs := of_decide_eq_true hm
          have HN := Lib.hid (HNOT.out (.inr ((HW.out.mem k).1 hkn)))
          clear hal hbx hsb hB1 hs hp HNOT
          go_wp2
          go_ret
          exact .inr ⟨HN.out, rfl, HPost.same HH.out (HW.out.bel.trans HAL.out)⟩
    · obtain rfl : i = l.length := by omega
      have hsome := HW.out.some
      have hnd := HW.out.nd
      have hown := HW.out.own
      have hmem := HW.out.mem
      rw [List.take_length] at hsome hnd hown hmem
      have HFO : Hid (FreeOk S l) := Lib.hid ⟨hsome, hnd⟩
      obtain ⟨L', ids', hfr⟩ := HH.out.inv.freed hsome hnd
      have HFR := Lib.hid hfr
      obtain ⟨av, cv, rfl, hrv, _, hpv⟩ := own_slice2 hown
      have HRV := Lib.hid (RunsIn.of_row hrv)
      have HMEM := Lib.hid hmem
      have HRL := Lib.hid (runsOf_length S l)
      have HHW := Lib.hid (HH.out.bel HW.out.bel)
      obtain ⟨q0, q1, q2, q3⟩ := four_cells HHW.out.hd
      have hbl : w.heap.size + 1 < wr.heap.size := heap_lt HW.out.box
      have hbm : bm < w.heap.size := HH.out.lt (.inr (.inr (.inr (.inr (.inr rfl)))))
      have hbi : bi < w.heap.size := HH.out.lt (.inr (.inr (.inr (.inr (.inl rfl)))))
      have hpv' := hpv
      clear hsome hnd hown hmem hfr hrv hpv
      by_cases h0 : l = []
      · have HE : Hid (L' = L ∧ ids' = ids ∧ (S.filter fun s => !decide (s.1 ∈ l)) = S) := Lib.hid (by
          have h1 := HFR.out.add
          have h2 := HFR.out.drop
          have e0 : runsOf S l = [] := by rw [h0]; rfl
          rw [e0, addR_none] at h1
          rw [e0, drop_ok (fun r hr => by simp at hr) (fun p _ _ hp => by simp at hp), fillA_nil] at h2
          refine ⟨(Prod.mk.inj h1).1.symm, (Prod.mk.inj h2).1.symm, ?_⟩
          rw [h0]; simp)
        have e1 : (runsOf S l).length = 0 := by rw [HRL.out, h0]; rfl
        rw [e1]
        clear hpv'
        go_wp2
        go_ret
        refine .inl ⟨HFO.out, rfl, L', ids', HFR.out, ?_⟩
        rw [HE.out.1, HE.out.2.1, HE.out.2.2]
        exact HPost.same HH.out HW.out.bel
      · have hpos : 0 < l.length := List.length_pos_iff.2 h0
        have e1 : ((runsOf S l).length : Int) ≠ 0 := by have := HRL.out; omega
        have e2 : (((runsOf S l).length : Int) == 0) = false := by simpa using e1
        have HAV : Hid (∀ p, av = some p → w.heap.size ≤ p.block) := Lib.hid hpv'
        have b0 : wr.cell? ⟨w.heap.size + 1, 0, none⟩ = some (.map (some w.heap.size)) := blk_cell HW.out.box 0
        have HDEL := Lib.hid (delete_spans bm last S xs (w.heap.size + 1) w.heap.size wr HHW.out.spans HW.out.met b0 (by omega) (by omega))
        clear hpv' b0 e1
        go_wp2_with fail
        refine HDEL.out.mono ?_
        clear HDEL
        rintro e w1 ⟨rfl, hS1, hg1⟩
        have f1 := fr_grown hg1
        obtain ⟨q0, q1, q2, q3⟩ := four_cells (f1.heap HHW.out.hd NE.h_bm)
        have hI1 := HHW.out.index.fr f1 NE.bx_bm NE.bi_bm
        have hF1 := HHW.out.free.fr f1 NE.rb_bm (fun g hg e => NE.bm_v (by rw [← e]; exact hg))
        have hR1 := HRV.out.fr f1 (fun p hp e => by have := HAV.out p hp; omega)
        have hd := index_Drop bx bi ids av (runsOf S l) (runsOf S l).length cv w1 hI1 rfl (by have := HRL.out; omega) hR1 (fun r hr => by have := HFR.out.ok r hr; exact ⟨⟨by omega, by omega⟩, ⟨by omega, by omega⟩⟩)
        rw [HFR.out.drop] at hd
        have HD := Lib.hid hd
        have HQ1 := Lib.hid (And.intro hS1 (And.intro hg1 (And.intro hF1 hR1)))
        have HD1 := Lib.hid (f1.heap HHW.out.hd NE.h_bm)
        clear hS1 hg1 hI1 hF1 hR1 hd f1
        go_wp2_with fail
        refine HD.out.mono ?_
        clear HD
        rintro e w2 ⟨rfl, hI2, hf2⟩
        obtain ⟨q0, q1, q2, q3⟩ := four_cells (hf2.heap HD1.out NE.h_bi)
        have hF2 := HQ1.out.2.2.1.fr hf2 NE.rb_bi (fun g hg e => NE.bi_v (by rw [← e]; exact hg))
        have hR2 := HQ1.out.2.2.2.fr hf2 (fun p hp e => by have := HAV.out p hp; omega)
        have ha := runs_Add rb v L av (runsOf S l) (runsOf S l).length cv w2 hF2 rfl (by have := HRL.out; omega) hR2 (fun r hr => by have := HFR.out.ok r hr; exact ⟨⟨by omega, by omega⟩, ⟨by omega, by omega⟩⟩)
        rw [HFR.out.add] at ha
        have HA := Lib.hid ha
        have HQ2 := Lib.hid (And.intro hI2 hf2)
        clear hI2 hf2 hF2 hR2 ha
        go_wp2_with fail
        refine HA.out.mono ?_
        rintro e w3 ⟨rfl, hP⟩
        have HP := Lib.hid (heap_freed HHW.out HFR.out HMEM.out HQ1.out.2.1 HQ1.out.1 HQ2.out.2 HQ2.out.1 hP)
        clear hP
        go_wp2
        go_ret
        exact .inl ⟨HFO.out, rfl, L', ids', HFR.out, HP.out.from HW.out.bel⟩
end Go.Proofs.YtbldidlbhahciaaGreat

namespace Go.Proofs.YtbldidlbhahciaaGreat
open Go.RowKit

/-- A heap that the law made, with blocks that are not its own. -/
structure LiveH (w0 : World) (N : Nat → Prop) (w : World) (h bi : Nat) (L : List Rn) (ids : List Int) (S : List Sp) (last : Nat) : Prop where
  at_ : ∃ rb v bx bm, HeapAt w h rb v bx bi bm L ids S last ∧ ∀ k, footH h rb v bx bi bm k → w0.heap.size ≤ k ∧ ¬ N k
  bel : Bel w0 w
  keep : ∀ k, N k → k < w.heap.size
theorem LiveH.then_bel {w0 : World} {N : Nat → Prop} {w w' : World} {h bi : Nat} {L : List Rn} {ids : List Int} {S : List Sp} {last : Nat} (H : LiveH w0 N w h bi L ids S last) (k : Bel w w') : LiveH w0 N w' h bi L ids S last := by
  obtain ⟨rb, v, bx, bm, h1, h2⟩ := H.at_
  exact ⟨⟨rb, v, bx, bm, h1.bel k, h2⟩, H.bel.trans k, fun i hi => Nat.lt_of_lt_of_le (H.keep i hi) k.size⟩
theorem LiveH.inv {w0 : World} {N : Nat → Prop} {w : World} {h bi : Nat} {L : List Rn} {ids : List Int} {S : List Sp} {last : Nat} (H : LiveH w0 N w h bi L ids S last) : HInv ids L S last := by
  obtain ⟨rb, v, bx, bm, h1, h2⟩ := H.at_
  exact h1.inv
theorem LiveH.watch {w0 : World} {N : Nat → Prop} {w w' : World} {h bi : Nat} {L : List Rn} {ids : List Int} {S : List Sp} {last : Nat} (H : LiveH w0 N w h bi L ids S last) (k : Bel w w') (M : Nat → Prop) (hM : ∀ i, M i → w.heap.size ≤ i ∧ i < w'.heap.size) : LiveH w0 (fun i => N i ∨ M i) w' h bi L ids S last := by
  obtain ⟨rb, v, bx, bm, h1, h2⟩ := H.at_
  refine ⟨⟨rb, v, bx, bm, h1.bel k, fun i hi => ⟨(h2 i hi).1, ?_⟩⟩, H.bel.trans k, fun i hi => ?_⟩
  · rintro (h9 | h9)
    · exact (h2 i hi).2 h9
    · have := h1.lt hi; have := (hM i h9).1; omega
  · rcases hi with hi | hi
    · exact Nat.lt_of_lt_of_le (H.keep i hi) k.size
    · exact (hM i hi).2
theorem LiveH.forget {w0 : World} {N N' : Nat → Prop} {w : World} {h bi : Nat} {L : List Rn} {ids : List Int} {S : List Sp} {last : Nat} (H : LiveH w0 N w h bi L ids S last) (hN : ∀ k, N' k → N k) : LiveH w0 N' w h bi L ids S last := by
  obtain ⟨rb, v, bx, bm, h1, h2⟩ := H.at_
  exact ⟨⟨rb, v, bx, bm, h1, fun k hk => ⟨(h2 k hk).1, fun h9 => (h2 k hk).2 (hN k h9)⟩⟩, H.bel, fun k hk => H.keep k (hN k hk)⟩
theorem LiveH.fr {w0 : World} {N Q : Nat → Prop} {w w' : World} {h bi : Nat} {L : List Rn} {ids : List Int} {S : List Sp} {last : Nat} (H : LiveH w0 N w h bi L ids S last) (k : Fr Q w w') (hQ : ∀ i, Q i → N i ∧ w0.heap.size ≤ i) : LiveH w0 N w' h bi L ids S last := by
  obtain ⟨rb, v, bx, bm, h1, h2⟩ := H.at_
  exact ⟨⟨rb, v, bx, bm, h1.fr k (fun i hi hq => (h2 i hi).2 (hQ i hq).1), h2⟩, Fr.bel ((Fr.of_bel (S := Q) H.bel).trans' k) (fun i hi => (hQ i hi).2), fun i hi => Nat.lt_of_lt_of_le (H.keep i hi) k.size⟩
/-- Numbers in a row of one's own that is no elder than B: not the heap's. -/
theorem LiveH.own_int {w0 : World} {N : Nat → Prop} {w : World} {h bi B n : Nat} {L : List Rn} {ids : List Int} {S : List Sp} {last : Nat} {u : Value} {vs : List Value} (H : LiveH w0 N w h bi L ids S last) (ho : w.ownsRow B 3 1 u n vs) (hb : bi < B) : LiveH w0 (fun i => N i ∨ u.ownBlock = some i) w h bi L ids S last := by
  obtain ⟨rb, v, bx, bm, h1, h2⟩ := H.at_
  refine ⟨⟨rb, v, bx, bm, h1, fun k hk => ⟨(h2 k hk).1, ?_⟩⟩, H.bel, fun k hk => ?_⟩
  · rintro (h9 | h9)
    · exact (h2 k hk).2 h9
    · obtain ⟨cur, hc⟩ := own_type ho h9
      have hB := (ho.lt k h9).1
      rcases hk with e | e | e | e | e | e
      · subst e; rw [h1.hd] at hc; simp at hc
      · subst e; rw [h1.free.hd] at hc; simp at hc
      · obtain ⟨c2, hc2⟩ := own_type h1.free.own e; rw [hc2] at hc; simp at hc
      · subst e; rw [h1.index.hd] at hc; simp at hc
      · subst e; omega
      · subst e
        obtain ⟨es, ck, hm⟩ := h1.spans.map?
        rw [hm] at hc; simp at hc
  · rcases hk with hk | hk
    · exact H.keep k hk
    · exact (ho.lt k hk).2
theorem LiveH.bi_lt {w0 : World} {N : Nat → Prop} {w : World} {h bi : Nat} {L : List Rn} {ids : List Int} {S : List Sp} {last : Nat} (H : LiveH w0 N w h bi L ids S last) : bi < w.heap.size := by
  obtain ⟨rb, v, bx, bm, h1, h2⟩ := H.at_
  exact heap_lt h1.index.nums
/-- What an act on it leaves. -/
def LivePostH (w0 : World) (N : Nat → Prop) (w : World) (h bi : Nat) (L : List Rn) (ids : List Int) (S : List Sp) (last : Nat) (w' : World) : Prop :=
  LiveH w0 N w' h bi L ids S last ∧ Fr (fun k => ¬ N k) w w'
theorem liveH_post {w0 : World} {N : Nat → Prop} {w w' : World} {h rb : Nat} {v : Value} {bx bi bm : Nat} {L : List Rn} {ids : List Int} {S : List Sp} {last : Nat} (hB : Bel w0 w) (hk : ∀ k, N k → k < w.heap.size) (h2 : ∀ k, footH h rb v bx bi bm k → w0.heap.size ≤ k ∧ ¬ N k)
    (hP : HPost w h rb v bx bi bm L ids S last w') : LivePostH w0 N w h bi L ids S last w' := by
  obtain ⟨v', h3, h4, h5⟩ := hP
  refine ⟨⟨⟨rb, v', bx, bm, h3, fun k hk9 => ?_⟩, Fr.bel ((Fr.of_bel (S := footH h rb v bx bi bm) hB).trans' h5) (fun k hk9 => (h2 k hk9).1), fun k hk9 => Nat.lt_of_lt_of_le (hk k hk9) h5.size⟩, h5.mono (fun k hk9 => (h2 k hk9).2)⟩
  have old : footH h rb v bx bi bm k → w0.heap.size ≤ k ∧ ¬ N k := h2 k
  rcases hk9 with e | e | e | e | e | e
  · exact old (.inl e)
  · exact old (.inr (.inl e))
  · rcases h4 k e with h9 | h9
    · exact old (.inr (.inr (.inl h9)))
    · exact ⟨Nat.le_trans hB.size h9, fun hN => by have := hk k hN; omega⟩
  · exact old (.inr (.inr (.inr (.inl e))))
  · exact old (.inr (.inr (.inr (.inr (.inl e)))))
  · exact old (.inr (.inr (.inr (.inr (.inr e)))))
theorem liveH_new {w w' : World} {n : Nat} {e : Ending} (h : NewH w n e w') : ∃ h bi, e = .returned (.tuple #[.pointer (some ⟨h, 0, none⟩), .int .i64 0]) ∧ LiveH w (fun _ => False) w' h bi [(0, (n : Int))] (List.replicate n 0) [] 0 := by
  obtain ⟨h, rb, v, bx, bi, bm, rfl, h1, h2, h3⟩ := h
  exact ⟨h, bi, rfl, ⟨rb, v, bx, bm, h1, fun k hk => ⟨h3 k hk, fun h => h⟩⟩, h2, fun _ h => h.elim⟩
/-- What Make does. -/
def MakeR (ids : List Int) (L : List Rn) (S : List Sp) (last : Nat) (n ord : Int) (s : Sp) (en : Int) (L' : List Rn) (ids' : List Int) (S' : List Sp) (last' : Nat) : Prop :=
  ((n < 1 ∨ ord < -1 ∨ 4 ≤ ord) ∧ s = sp0 ∧ en = 1 ∧ L' = L ∧ ids' = ids ∧ S' = S ∧ last' = last) ∨
  (1 ≤ n ∧ -1 ≤ ord ∧ ord < 4 ∧ bestF L n = (0, 0) ∧ s = sp0 ∧ en = 3 ∧ L' = L ∧ ids' = ids ∧ S' = S ∧ last' = last) ∨
  (1 ≤ n ∧ -1 ≤ ord ∧ ord < 4 ∧ ∃ t, Made ids L S last n ord t L' ids' ∧ (bestF L n).1 = t ∧ 0 < (bestF L n).2 ∧ s = ((last : Int) + 1, (t, n), ord) ∧ en = 0 ∧ S' = S ++ [s] ∧ last' = last + 1)
theorem liveH_Make {w0 : World} {N : Nat → Prop} {w : World} {h bi : Nat} {L : List Rn} {ids : List Int} {S : List Sp} {last : Nat} (H : LiveH w0 N w h bi L ids S last) (n ord : Int) (hn : I64 n) (ho : I64 ord) (hl : last < 65536) :
    ∃ s en L' ids' S' last', MakeR ids L S last n ord s en L' ids' S' last' ∧ ∀ V, Bel w V → Calls Tryz.prog 33 #[.pointer (some ⟨h, 0, none⟩), .int .i64 n, .int .i64 ord] V fun e V' => e = .returned (.tuple #[spV s, .int .i64 en]) ∧ LivePostH w0 N w h bi L' ids' S' last' V' := by
  obtain ⟨rb, v, bx, bm, h1, h2⟩ := H.at_
  have fin : ∀ {L' : List Rn} {ids' : List Int} {S' : List Sp} {last' : Nat} (V V' : World), Bel w V → HPost V h rb v bx bi bm L' ids' S' last' V' → LivePostH w0 N w h bi L' ids' S' last' V' := fun V V' hV hP =>
    liveH_post H.bel H.keep h2 (hP.from hV)
  by_cases c : n < 1 ∨ ord < -1 ∨ 4 ≤ ord
  · refine ⟨sp0, 1, L, ids, S, last, .inl ⟨c, rfl, rfl, rfl, rfl, rfl, rfl⟩, fun V hV => ?_⟩
    exact (heap_Make_bad _ n ord V hn ho c).mono fun e V' ⟨he, hB⟩ => ⟨he, fin V V' hV (HPost.same (h1.bel hV) hB)⟩
  · have c1 : 1 ≤ n := by omega
    have c2 : -1 ≤ ord ∧ ord < 4 := by omega
    rcases h1.inv.make n ord with ⟨ht, hb⟩ | ⟨t, L', ids', hM, _, hb1, hb2⟩
    · exact ⟨sp0, 3, L, ids, S, last, .inr (.inl ⟨c1, c2.1, c2.2, hb, rfl, rfl, rfl, rfl, rfl, rfl⟩), fun V hV => (heap_Make_none V (h1.bel hV) n ord ht hn c1 c2).mono fun e V' ⟨he, hP⟩ => ⟨he, fin V V' hV hP⟩⟩
    · exact ⟨_, 0, L', ids', _, last + 1, .inr (.inr ⟨c1, c2.1, c2.2, t, hM, hb1, hb2, rfl, rfl, rfl, rfl⟩), fun V hV => (heap_Make V (h1.bel hV) n ord t L' ids' hM c1 c2 hl).mono fun e V' ⟨he, hP⟩ => ⟨he, fin V V' hV hP⟩⟩
theorem liveH_Runs {w0 : World} {N : Nat → Prop} {w : World} {h bi : Nat} {L : List Rn} {ids : List Int} {S : List Sp} {last : Nat} (H : LiveH w0 N w h bi L ids S last) :
    ∀ V, Bel w V → Calls Tryz.prog 27 #[.pointer (some ⟨h, 0, none⟩)] V (NewRuns V L) := by
  obtain ⟨rb, v, bx, bm, h1, h2⟩ := H.at_
  exact fun V hV => heap_Runs V (h1.bel hV)
theorem liveH_Spans {w0 : World} {N : Nat → Prop} {w : World} {h bi : Nat} {L : List Rn} {ids : List Int} {S : List Sp} {last : Nat} (H : LiveH w0 N w h bi L ids S last) :
    ∀ V, Bel w V → Calls Tryz.prog 21 #[.pointer (some ⟨h, 0, none⟩)] V (RisenSpans V S) := by
  obtain ⟨rb, v, bx, bm, h1, h2⟩ := H.at_
  exact fun V hV => heap_Spans V (h1.bel hV)
/-- What Free does. -/
def FreeR (ids : List Int) (L : List Rn) (S : List Sp) (last : Nat) (l : List Int) (en : Int) (L' : List Rn) (ids' : List Int) (S' : List Sp) : Prop :=
  (FreeOk S l ∧ en = 0 ∧ Freed ids L S last l L' ids' ∧ S' = S.filter fun s => !decide (s.1 ∈ l)) ∨ (¬ FreeOk S l ∧ en = 6 ∧ L' = L ∧ ids' = ids ∧ S' = S)
theorem liveH_Free {w0 : World} {N : Nat → Prop} {w : World} {h bi : Nat} {L : List Rn} {ids : List Int} {S : List Sp} {last : Nat} (H : LiveH w0 N w h bi L ids S last) (l : List Int) (hl : l.length ≤ 1024) (hok : ∀ k ∈ l, (Lit.int .i64 k).wf = true) :
    ∀ V a c, Bel w V → RdV V a (ints l) → Calls Tryz.prog 64 #[.pointer (some ⟨h, 0, none⟩), .slice a l.length c] V fun e V' => ∃ en L' ids' S', FreeR ids L S last l en L' ids' S' ∧ e = .returned (.int .i64 en) ∧ LivePostH w0 N w h bi L' ids' S' last V' := by
  obtain ⟨rb, v, bx, bm, h1, h2⟩ := H.at_
  intro V a c hV hr
  refine (heap_Free V (h1.bel hV) a l l.length c rfl hl hr hok).mono ?_
  rintro e V' (⟨hf, rfl, L', ids', hfr, hP⟩ | ⟨hf, rfl, hP⟩)
  · exact ⟨0, L', ids', _, .inl ⟨hf, rfl, hfr, rfl⟩, rfl, liveH_post H.bel H.keep h2 (hP.from hV)⟩
  · exact ⟨6, L, ids, S, .inr ⟨hf, rfl, rfl, rfl, rfl⟩, rfl, liveH_post H.bel H.keep h2 (hP.from hV)⟩

end Go.Proofs.YtbldidlbhahciaaGreat

namespace Go.Proofs.YtbldidlbhahciaaGreat
open Go.RowKit

/-- A slice of spans. -/
def SpansIn (w : World) (a : Option Addr) (zs : List Sp) : Prop := zs = [] ∨ ∃ b o, a = some ⟨b, o, none⟩ ∧ ∀ i (h : i < zs.length), w.rangeAt b (o + i * 4) (spCells zs[i])
theorem SpansIn.of_row {w : World} {a : Option Addr} {zs : List Sp} (h : RdV w a (spCellsOf zs)) : SpansIn w a zs := by
  rcases h with h | ⟨b, o, e, h⟩
  · left
    have := spCellsOf_length zs
    rw [h] at this
    exact List.eq_nil_of_length_eq_zero (by simp at this; omega)
  · refine .inr ⟨b, o, e, fun i hi j v hv => ?_⟩
    have hj : j < 4 := by have := (List.getElem?_eq_some_iff.1 hv).1; simpa [spCells] using this
    have hl := spCellsOf_length zs
    have h1 := h (i * 4 + j) (by omega)
    have h2 := spCellsOf_get zs i hi j hj
    rw [hv, List.getElem?_eq_getElem (by omega), Option.some.injEq] at h2
    rw [h2] at h1
    rw [show o + i * 4 + j = o + (i * 4 + j) by omega]
    exact h1
theorem SpansIn.bel {w w' : World} {a : Option Addr} {zs : List Sp} (h : SpansIn w a zs) (k : Bel w w') : SpansIn w' a zs := by
  rcases h with h | ⟨b, o, e, h⟩
  · exact .inl h
  · exact .inr ⟨b, o, e, fun i hi j v hv => k.cell (h i hi j v hv)⟩
theorem SpansIn.watched {N : Nat → Prop} {w w' : World} {a : Option Addr} {zs : List Sp} (h : SpansIn w a zs) (k : Fr (fun i => ¬ N i) w w') (hN : ∀ p, a = some p → N p.block) : SpansIn w' a zs := by
  rcases h with h | ⟨b, o, e, h⟩
  · exact .inl h
  · exact .inr ⟨b, o, e, fun i hi j v hv => k.cell (h i hi j v hv) (fun h9 => h9 (show N b from hN ⟨b, o, none⟩ e))⟩
theorem SpansIn.at {w : World} {a : Option Addr} {zs : List Sp} (h : SpansIn w a zs) (i : Nat) (hi : i < zs.length) : ∃ b o, a = some ⟨b, o, none⟩ ∧ w.cell? ⟨b, o + i * 4, none⟩ = some (.int .i64 zs[i].1) ∧ w.cell? ⟨b, o + i * 4 + 1, none⟩ = some (.int .i64 zs[i].2.1.1) ∧ w.cell? ⟨b, o + i * 4 + 2, none⟩ = some (.int .i64 zs[i].2.1.2) ∧ w.cell? ⟨b, o + i * 4 + 3, none⟩ = some (.int .i64 zs[i].2.2) := by
  rcases h with h | ⟨b, o, e, h⟩
  · subst h; simp at hi
  · exact ⟨b, o, e, h i hi 0 _ rfl, h i hi 1 _ rfl, h i hi 2 _ rfl, h i hi 3 _ rfl⟩
/-- Spans sorted by where they start are one row. -/
theorem sorted_unique {ids : List Int} {L : List Rn} {S S' z1 z2 : List Sp} {last : Nat} (h : HInv ids L S last) (hp : S'.Perm S) (h1 : SortedSpans S z1) (h2 : SortedSpans S' z2) : z1 = z2 := by
  have hpm : z1.Perm z2 := (h1.1.trans hp.symm).trans h2.1.symm
  have pw : ∀ {T z : List Sp}, SortedSpans T z → z.Pairwise (fun a b => a.2.1.1 ≤ b.2.1.1) := fun {T z} hz => List.pairwise_iff_getElem.2 (fun i j hi hj hij => hz.2 i j hij hj)
  refine List.Perm.eq_of_pairwise (le := fun a b => a.2.1.1 ≤ b.2.1.1) (fun a b ha hb hab hba => ?_) (pw h1) (pw h2) hpm
  have ma : a ∈ S := h1.1.mem_iff.1 ha
  have mb : b ∈ S := hp.mem_iff.1 (h2.1.mem_iff.1 hb)
  refine h.eq ma mb (Classical.byContradiction fun hne => ?_)
  have hap := h.apart ma mb hne
  have h5 := (there_iff.1 (h.span a ma).2.2.1).2.1
  have h6 := (there_iff.1 (h.span b mb).2.2.1).2.1
  unfold Apart at hap
  omega

end Go.Proofs.YtbldidlbhahciaaGreat
