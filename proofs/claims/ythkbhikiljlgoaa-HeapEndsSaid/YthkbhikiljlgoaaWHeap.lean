/- Package heap: New, Size, Runs, Span, Spans. -/
import Derived.Test.YthkbhikiljlgoaaPHeap
import Derived.Test.YthkbhikiljlgoaaSpanD
import Derived.Test.YthkbhikiljlgoaaSortS
import Derived.Test.YthkbhikiljlgoaaWIndex6
import Derived.Test.YthkbhikiljlgoaaWRuns8
namespace Go.Proofs.Ythkbhikiljlgoaa
open Go.RowKit

/-- A heap: its struct is block h. -/
structure HeapAt (w : World) (h rb : Nat) (v : Value) (bx bi bm : Nat) (L : List Rn) (ids : List Int) (S : List Sp) (last : Nat) : Prop where
  hd : w.heap[h]? = some (.cells #[.pointer (some ⟨rb, 0, none⟩), .pointer (some ⟨bx, 0, none⟩), .map (some bm), .int .i64 (last : Int)] 55 (0, 0))
  free : FreeAt w rb v L
  index : IndexAt w bx bi ids
  spans : SpansAt w bm last S
  inv : HInv ids L S last
  small : last ≤ 65536
/-- Its blocks. -/
def footH (h rb : Nat) (v : Value) (bx bi bm : Nat) : Nat → Prop := fun k => k = h ∨ k = rb ∨ v.ownBlock = some k ∨ k = bx ∨ k = bi ∨ k = bm
theorem HeapAt.fr {Q : Nat → Prop} {w w' : World} {h rb : Nat} {v : Value} {bx bi bm : Nat} {L : List Rn} {ids : List Int} {S : List Sp} {last : Nat} (H : HeapAt w h rb v bx bi bm L ids S last) (k : Fr Q w w') (hQ : ∀ i, footH h rb v bx bi bm i → ¬ Q i) : HeapAt w' h rb v bx bi bm L ids S last :=
  ⟨k.heap H.hd (hQ _ (.inl rfl)), H.free.fr k (hQ _ (.inr (.inl rfl))) (fun g hg => hQ _ (.inr (.inr (.inl hg)))), H.index.fr k (hQ _ (.inr (.inr (.inr (.inl rfl))))) (hQ _ (.inr (.inr (.inr (.inr (.inl rfl)))))), H.spans.fr k (hQ _ (.inr (.inr (.inr (.inr (.inr rfl)))))), H.inv, H.small⟩
theorem HeapAt.bel {w w' : World} {h rb : Nat} {v : Value} {bx bi bm : Nat} {L : List Rn} {ids : List Int} {S : List Sp} {last : Nat} (H : HeapAt w h rb v bx bi bm L ids S last) (k : Bel w w') : HeapAt w' h rb v bx bi bm L ids S last :=
  H.fr (Fr.of_bel (S := fun _ => False) k) (fun _ _ h => h)
theorem own_type {w : World} {base e size n : Nat} {v : Value} {xs : List Value} (h : w.ownsRow base e size v n xs) {g : Nat} (hg : v.ownBlock = some g) : ∃ cur, w.heap[g]? = some (.cells cur e (0, 0)) := by
  rcases h.2 with ⟨h1, _⟩ | ⟨g', cap, cur, h1, _, h3, _⟩
  · rw [h1] at hg; simp [Value.ownBlock] at hg
  · rw [h1] at hg; simp [Value.ownBlock] at hg; subst hg; exact ⟨cur, h3⟩
/-- No two of its blocks are one. -/
structure HeapNe (h rb : Nat) (v : Value) (bx bi bm : Nat) : Prop where
  h_rb : h ≠ rb
  h_bx : h ≠ bx
  h_bi : h ≠ bi
  h_bm : h ≠ bm
  h_v : v.ownBlock ≠ some h
  rb_bx : rb ≠ bx
  rb_bi : rb ≠ bi
  rb_bm : rb ≠ bm
  rb_v : v.ownBlock ≠ some rb
  bx_bi : bx ≠ bi
  bx_bm : bx ≠ bm
  bx_v : v.ownBlock ≠ some bx
  bi_bm : bi ≠ bm
  bi_v : v.ownBlock ≠ some bi
  bm_v : v.ownBlock ≠ some bm
theorem HeapAt.ne {w : World} {h rb : Nat} {v : Value} {bx bi bm : Nat} {L : List Rn} {ids : List Int} {S : List Sp} {last : Nat} (H : HeapAt w h rb v bx bi bm L ids S last) : HeapNe h rb v bx bi bm := by
  obtain ⟨es, ck, hm⟩ := H.spans.map?
  have h1 := H.hd
  have h2 := H.free.hd
  have h3 := H.index.hd
  have h4 := H.index.nums
  have hv : ∀ {g : Nat}, v.ownBlock = some g → ∃ cur, w.heap[g]? = some (.cells cur 33 (0, 0)) := fun hg => own_type H.free.own hg
  refine ⟨?_, ?_, ?_, ?_, ?_, ?_, ?_, ?_, ?_, ?_, ?_, ?_, ?_, ?_, ?_⟩
  · rintro rfl; rw [h1] at h2; simp at h2
  · rintro rfl; rw [h1] at h3; simp at h3
  · rintro rfl; rw [h1] at h4; simp at h4
  · rintro rfl; rw [h1] at hm; simp at hm
  · intro e; obtain ⟨c, hc⟩ := hv e; rw [h1] at hc; simp at hc
  · rintro rfl; rw [h2] at h3; simp at h3
  · rintro rfl; rw [h2] at h4; simp at h4
  · rintro rfl; rw [h2] at hm; simp at hm
  · intro e; obtain ⟨c, hc⟩ := hv e; rw [h2] at hc; simp at hc
  · rintro rfl; rw [h3] at h4; simp at h4
  · rintro rfl; rw [h3] at hm; simp at hm
  · intro e; obtain ⟨c, hc⟩ := hv e; rw [h3] at hc; simp at hc
  · rintro rfl; rw [h4] at hm; simp at hm
  · intro e; obtain ⟨c, hc⟩ := hv e; rw [h4] at hc; simp at hc
  · intro e; obtain ⟨c, hc⟩ := hv e; rw [hm] at hc; simp at hc
theorem HeapAt.lt {w : World} {h rb : Nat} {v : Value} {bx bi bm : Nat} {L : List Rn} {ids : List Int} {S : List Sp} {last : Nat} (H : HeapAt w h rb v bx bi bm L ids S last) {k : Nat} (hk : footH h rb v bx bi bm k) : k < w.heap.size := by
  rcases hk with rfl | rfl | hk | rfl | rfl | rfl
  · exact heap_lt H.hd
  · exact heap_lt H.free.hd
  · exact H.free.lt (.inr hk)
  · exact heap_lt H.index.hd
  · exact heap_lt H.index.nums
  · exact H.spans.lt
theorem four_cells {w : World} {R T : Nat} {a b c d : Value} (g : w.heap[R]? = some (.cells #[a, b, c, d] T (0, 0))) :
    w.cell? ⟨R, 0, none⟩ = some a ∧ w.cell? ⟨R, 1, none⟩ = some b ∧ w.cell? ⟨R, 2, none⟩ = some c ∧ w.cell? ⟨R, 3, none⟩ = some d :=
  ⟨blk_cell g 0, blk_cell g 1, blk_cell g 2, blk_cell g 3⟩
/-- What an act on a heap leaves. -/
def HPost (w : World) (h rb : Nat) (v : Value) (bx bi bm : Nat) (L : List Rn) (ids : List Int) (S : List Sp) (last : Nat) (w' : World) : Prop :=
  ∃ v', HeapAt w' h rb v' bx bi bm L ids S last ∧ (∀ k, v'.ownBlock = some k → v.ownBlock = some k ∨ w.heap.size ≤ k) ∧ Fr (footH h rb v bx bi bm) w w'
theorem HPost.same {w w' : World} {h rb : Nat} {v : Value} {bx bi bm : Nat} {L : List Rn} {ids : List Int} {S : List Sp} {last : Nat} (H : HeapAt w h rb v bx bi bm L ids S last) (k : Bel w w') : HPost w h rb v bx bi bm L ids S last w' :=
  ⟨v, H.bel k, fun _ h => .inl h, Fr.of_bel k⟩
theorem HPost.from {w W w' : World} {h rb : Nat} {v : Value} {bx bi bm : Nat} {L : List Rn} {ids : List Int} {S : List Sp} {last : Nat} (H : HPost W h rb v bx bi bm L ids S last w') (k : Bel w W) : HPost w h rb v bx bi bm L ids S last w' := by
  obtain ⟨v', h1, h2, h3⟩ := H
  exact ⟨v', h1, fun g hg => by rcases h2 g hg with h | h; exact .inl h; exact .inr (Nat.le_trans k.size h), (Fr.of_bel k).trans' h3⟩
theorem HPost.then_bel {w W w' : World} {h rb : Nat} {v : Value} {bx bi bm : Nat} {L : List Rn} {ids : List Int} {S : List Sp} {last : Nat} (H : HPost w h rb v bx bi bm L ids S last W) (k : Bel W w') : HPost w h rb v bx bi bm L ids S last w' := by
  obtain ⟨v', h1, h2, h3⟩ := H
  exact ⟨v', h1.bel k, h2, h3.then_bel k⟩

/-! ### New -/
theorem addR_whole {n : Nat} (h1 : 4 ≤ n) (h2 : n ≤ 1024) : addR [] [(0, (n : Int))] = ([(0, (n : Int))], 0) := by
  have hall : AllThere 1024 [(0, (n : Int))] := by intro r hr; simp at hr; subst hr; rw [there_iff]; dsimp only; omega
  rw [addR_ok hall (by simp) (by simp)]
  have : ([(0, (n : Int))] : List Rn) = addF [] [(0, (n : Int))] := canon_unique (q := 1024) _ _ (HInv.start h1 h2).canon (addF_canon _ _) (fun p => by
    unfold addF
    rw [inL_listP]
    simp [inL, inR]
    omega)
  rw [← this]
theorem run_makeSpans (W : World) : (Instr.makeMap 53 none).run Try.prog W = .ok (.map (some W.heap.size)) (W.alloc (.map #[] 0)) := by kernel_rfl
/-- A heap that was made. -/
def NewH (w : World) (n : Nat) (e : Ending) (w' : World) : Prop :=
  ∃ h rb v bx bi bm, e = .returned (.tuple #[.pointer (some ⟨h, 0, none⟩), .int .i64 0]) ∧ HeapAt w' h rb v bx bi bm [(0, (n : Int))] (List.replicate n 0) [] 0 ∧ Bel w w' ∧ ∀ k, footH h rb v bx bi bm k → w.heap.size ≤ k
set_option maxHeartbeats 1000000 in
set_option maxRecDepth 20000 in
theorem heap_New (n : Nat) (w : World) (h1 : 4 ≤ n) (h2 : n ≤ 1024) : Calls Try.prog 6 #[.int .i64 n] w (NewH w n) := by
  have HR := Lib.hid (runs_New (some ⟨w.heap.size, 0, none⟩) [(0, (n : Int))] 1 1 (w.alloc (.cells #[.int .i64 0, .int .i64 n] 33)) rfl (by simp) (RunsIn.of_row (RdV.new w #[.int .i64 0, .int .i64 n] 33)) (by intro r hr; simp at hr; subst hr; exact ⟨⟨by omega, by omega⟩, ⟨by omega, by omega⟩⟩))
  have HA := Lib.hid (addR_whole h1 h2)
  have c1 : ¬ (n : Int) < 4 := by omega
  have c2 : ¬ (1024 : Int) < n := by omega
  have hB0 : Bel w (w.alloc (.cells #[.int .i64 0, .int .i64 n] 33)) := (Bel.refl w).alloc _
  have HB0 := Lib.hid hB0
  have HQ := Lib.hid run_makeSpans
  clear hB0
  go_enter Try.func6, Try.ntmps6
  go_wp2_with fail
  refine HR.out.mono ?_
  clear HR
  rintro e w1 ⟨p, rfl, hB, hp⟩
  rw [HA.out] at hp ⊢
  generalize w.alloc (.cells #[.int .i64 0, .int .i64 n] 33) = W0 at hB hp HB0
  rcases hp with ⟨h9, _⟩ | ⟨_, v, rfl, hF, hv⟩
  · exact absurd rfl h9
  have HF := Lib.hid hF
  have HB := Lib.hid hB
  have HV := Lib.hid hv
  obtain ⟨rb, hrb⟩ : ∃ rb, W0.heap.size = rb := ⟨_, rfl⟩
  rw [hrb] at HF HV ⊢
  clear hF hB hv
  go_wp2_with fail
  refine (index_New n w1 ⟨by omega, by omega⟩).mono ?_
  rintro e w2 ⟨bx, rfl, hlt, hI, hB2⟩
  have hpf : pagesF n = n := by unfold pagesF; omega
  rw [hpf] at hI
  have q := HQ.out w2
  have HEND : Hid (HeapAt ((w2.alloc (.map #[] 0)).alloc (.cells #[.pointer (some ⟨rb, 0, none⟩), .pointer (some ⟨bx, 0, none⟩), .map (some w2.heap.size), .int .i64 ((0 : Nat) : Int)] 55)) (w2.alloc (.map #[] 0)).heap.size rb v bx w1.heap.size w2.heap.size [(0, (n : Int))] (List.replicate n 0) [] 0) := Lib.hid (by
    have hb := (((Bel.refl w2).alloc (.map #[] 0)).alloc (.cells #[.pointer (some ⟨rb, 0, none⟩), .pointer (some ⟨bx, 0, none⟩), .map (some w2.heap.size), .int .i64 ((0 : Nat) : Int)] 55))
    exact ⟨blk_alloc _ _, HF.out.bel (hB2.trans hb), hI.bel hb, (SpansAt.made w2).bel ((Bel.refl _).alloc _), HInv.start h1 h2, by omega⟩)
  have HB2 := Lib.hid hB2
  clear hI hB2
  go_wp2
  go_ret2
  have s0 := HB0.out.size
  have s1 := HB.out.size
  have s2 := HB2.out.size
  refine ⟨_, rb, v, bx, _, _, by rw [World.size_alloc]; rfl, HEND.out, (((HB0.out.trans HB.out).trans HB2.out).alloc _).alloc _, fun k hk => ?_⟩
  rcases hk with rfl | rfl | hk | rfl | rfl | rfl
  · rw [World.size_alloc]; omega
  · omega
  · have := HV.out k hk; omega
  · omega
  · omega
  · omega
theorem heap_New_bad (pages : Int) (w : World) (hp : I64 pages) (h : pages < 4 ∨ 1024 < pages) : Calls Try.prog 6 #[.int .i64 pages] w fun e w' => e = .returned (.tuple #[.pointer none, .int .i64 1]) ∧ w = w' := by
  have h2 : pages < 4 ∨ (¬ pages < 4 ∧ 1024 < pages) := by omega
  rcases h2 with c1 | ⟨c1, c2⟩
  · go_enter Try.func6, Try.ntmps6
    go_wp2
    go_ret2
    exact ⟨rfl, rfl⟩
  · go_enter Try.func6, Try.ntmps6
    go_wp2
    go_ret2
    exact ⟨rfl, rfl⟩
/-! ### Size, Runs -/
theorem heap_Size {h rb : Nat} {v : Value} {bx bi bm : Nat} {L : List Rn} {ids : List Int} {S : List Sp} {last : Nat} (w : World) (H : HeapAt w h rb v bx bi bm L ids S last) :
    Calls Try.prog 12 #[.pointer (some ⟨h, 0, none⟩)] w fun e w' => e = .returned (.int .i64 ids.length) ∧ w = w' := by
  obtain ⟨q0, q1, q2, q3⟩ := four_cells H.hd
  have HI := Lib.hid H.index
  clear H
  go_enter Try.func12, Try.ntmps12
  go_wp2_with fail
  refine (index_Pages _ ids w (.inr ⟨bx, bi, rfl, HI.out⟩)).mono ?_
  rintro e w' ⟨rfl, rfl⟩
  go_wp2
  go_ret
  exact ⟨rfl, rfl⟩
theorem heap_Runs {h rb : Nat} {v : Value} {bx bi bm : Nat} {L : List Rn} {ids : List Int} {S : List Sp} {last : Nat} (w : World) (H : HeapAt w h rb v bx bi bm L ids S last) :
    Calls Try.prog 10 #[.pointer (some ⟨h, 0, none⟩)] w (NewRuns w L) := by
  obtain ⟨q0, q1, q2, q3⟩ := four_cells H.hd
  have HC := Lib.hid (runs_List _ L w (.inr ⟨rb, v, rfl, H.free⟩))
  clear H
  go_enter Try.func10, Try.ntmps10
  go_wp2_with fail
  refine HC.out.mono ?_
  rintro e w' ⟨u, rfl, ho, hB⟩
  obtain ⟨a, c, rfl, _⟩ := own_slice ho
  have HO := Lib.hid (And.intro ho hB)
  clear ho hB
  go_wp2
  go_ret
  exact ⟨_, rfl, HO.out.1, HO.out.2⟩
end Go.Proofs.Ythkbhikiljlgoaa
