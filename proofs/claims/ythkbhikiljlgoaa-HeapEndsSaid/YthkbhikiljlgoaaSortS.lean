/- The library's SortFunc at spans, over heap's comparing function; slices.SortedFunc over a map of spans. -/
import Derived.Test.YthkbhikiljlgoaaSortLayS
import Derived.Test.YthkbhikiljlgoaaSpanV
import Derived.Test.YthkbhikiljlgoaaWRuns4
import Derived.Shelf.Abstract
import Derived.Shelf.SlSortCmp.NoneTotal
namespace Go.Proofs.Ythkbhikiljlgoaa
open Go.RowKit Go.Shelf Go.Lib Go.Sort

/-- Spans that start at a page that may be. -/
abbrev BSp := { x : Sp // 0 ≤ x.2.1.1 ∧ x.2.1.1 ≤ 1024 }
instance : Inhabited BSp := ⟨⟨(0, (0, 0), 0), by decide⟩⟩
def encS (x : BSp) : List Value := [.int .i64 x.1.1, .int .i64 x.1.2.1.1, .int .i64 x.1.2.1.2, .int .i64 x.1.2.2]
def cfSp (x y : BSp) : Int := cmpF x.1.2.1.1 y.1.2.1.1
theorem ltSp (x y : BSp) : ltOf cfSp x y = decide (x.1.2.1.1 < y.1.2.1.1) := by
  unfold ltOf cfSp cmpF
  rw [decide_eq_decide]
  split
  · omega
  · split <;> omega
theorem swoSp : SWO (ltOf cfSp) where
  irrefl x := by rw [ltSp]; simp
  trans x y z h1 h2 := by rw [ltSp] at *; simp at *; omega
  ntrans x y z h1 h2 := by rw [ltSp] at *; simp at *; omega
set_option maxRecDepth 20000 in
theorem spans_cmp (x y : BSp) (W : World) : Calls Try.prog 27 #[.agg #[.int .i64 x.1.1, .int .i64 x.1.2.1.1, .int .i64 x.1.2.1.2, .int .i64 x.1.2.2], .agg #[.int .i64 y.1.1, .int .i64 y.1.2.1.1, .int .i64 y.1.2.1.2, .int .i64 y.1.2.2]] W fun e w' => e = .returned (.int .i64 (cfSp x y)) ∧ ∃ q os', w' = grow (W.drewN q) os' := by
  obtain ⟨⟨x1, ⟨x2, x3⟩, x4⟩, hx0, hx1⟩ := x
  obtain ⟨⟨y1, ⟨y2, y3⟩, y4⟩, hy0, hy1⟩ := y
  dsimp only at *
  go_enter Try.func27, Try.ntmps27
  go_wp2_with fail
  refine (cmp_int x2 y2 _).mono ?_
  rintro e w' ⟨rfl, rfl⟩
  go_wp2
  go_ret
  exact ⟨rfl, 0, _, by rw [alloc_eq_grow, alloc_eq_grow, grow_grow]; rfl⟩
theorem spans_enters : Enters 27 := enters_of Try.func27 (by kernel_rfl) rfl
theorem lift_spans : ∀ (zs : List Sp), (∀ x ∈ zs, 0 ≤ x.2.1.1 ∧ x.2.1.1 ≤ 1024) → ∃ ds : List BSp, ds.map (·.1) = zs
  | [], _ => ⟨[], rfl⟩
  | z :: zs, h => by
    obtain ⟨ds, hd⟩ := lift_spans zs (fun x hx => h x (by simp [hx]))
    exact ⟨⟨z, h z (by simp)⟩ :: ds, by simp [hd]⟩
/-- The same spans, rising. -/
def SortedSpans (zs zs' : List Sp) : Prop := zs'.Perm zs ∧ ∀ i j (h : i < j) (hj : j < zs'.length), (zs'[i]'(by omega)).2.1.1 ≤ zs'[j].2.1.1
theorem spCellsOf_length (zs : List Sp) : (spCellsOf zs).length = zs.length * 4 := by
  induction zs with
  | nil => rfl
  | cons z zs ih => have e : spCellsOf (z :: zs) = spCells z ++ spCellsOf zs := rfl
                    rw [e, List.length_append, ih]; simp [spCells]; omega
theorem spCellsOf_get : ∀ (zs : List Sp) (i : Nat) (h : i < zs.length) (j : Nat) (hj : j < 4), (spCellsOf zs)[i * 4 + j]? = (spCells zs[i])[j]?
  | [], i, h, _, _ => by simp at h
  | z :: zs, 0, _, j, hj => by
    have e : spCellsOf (z :: zs) = spCells z ++ spCellsOf zs := rfl
    rw [e, List.getElem?_append_left (by simp [spCells]; omega)]; simp
  | z :: zs, i + 1, h, j, hj => by
    have := spCellsOf_get zs i (by simpa using h) j hj
    have e : spCellsOf (z :: zs) = spCells z ++ spCellsOf zs := rfl
    have e4 : (spCells z).length = 4 := rfl
    rw [e, List.getElem?_append_right (by rw [e4]; omega), e4, show (i + 1) * 4 + j - 4 = i * 4 + j by omega, this]; rfl
theorem sort_spans (b cap : Nat) (zs : List Sp) (w : World) (hb : ∀ x ∈ zs, 0 ≤ x.2.1.1 ∧ x.2.1.1 ≤ 1024) (hl : zs.length ≤ 65536)
    (hc : ∀ t, t < zs.length * 4 → w.cell? ⟨b, t, none⟩ = (spCellsOf zs)[t]?) (hf : ∀ i, w.frozen? ⟨b, i, none⟩ = false) (hblk : b < w.heap.size) :
    Calls Try.prog 45 #[.slice (some ⟨b, 0, none⟩) zs.length cap, .func (.func 27) #[] #[]] w fun e w' =>
      e = .returned (.tuple #[]) ∧ ∃ zs', SortedSpans zs zs' ∧ RdV w' (some ⟨b, 0, none⟩) (spCellsOf zs') ∧ Fr (fun k => k = b) w w' := by
  obtain ⟨ds, hds⟩ := lift_spans zs hb
  have hdl : ds.length = zs.length := by rw [← hds]; simp
  have hq : ∀ (ds : List BSp) (t : Nat), t < ds.length * 4 → (spCellsOf (ds.map (·.1)))[t]? = some ((encS ds.toArray[t / 4]!)[t % 4]!) := fun ds t ht => by
    have hi : t / 4 < (ds.map (·.1)).length := by simp; omega
    have h1 := spCellsOf_get (ds.map (·.1)) (t / 4) hi (t % 4) (by omega)
    rw [show t / 4 * 4 + t % 4 = t by omega] at h1
    rw [h1]
    have hd : ds.toArray[t / 4]! = ds[t / 4]'(by simpa using hi) := by
      have : t / 4 < ds.length := by simpa using hi
      simp [this]
    rw [hd, List.getElem_map]
    obtain ⟨m, hm, hm4⟩ : ∃ m, t % 4 = m ∧ m < 4 := ⟨_, rfl, Nat.mod_lt _ (by omega)⟩
    rw [hm]
    match m, hm4 with
    | 0, _ => rfl
    | 1, _ => rfl
    | 2, _ => rfl
    | 3, _ => rfl
  have hH : HoldsK encS 4 w b 0 ds.toArray := by
    intro t ht
    rw [size_flatK] at ht
    have ht' : t < ds.length * 4 := by simpa using ht
    refine ⟨?_, by simpa using hf t⟩
    rw [get_flatK encS 4 ds.toArray t ht, show 0 + t = t by omega, hc t (by omega), ← hds]
    exact hq ds t ht'
  have hcon := AnyQ.slices_SortFunc Try.sortSpans 4 Try.isAgg35 Try.sizeOf35 encS (fun _ => rfl) (fun x v hv => by simp [encS] at hv; rcases hv with rfl | rfl | rfl | rfl <;> rfl) cfSp swoSp 27 #[] b 0 cap ds.toArray w spans_enters
    (fun m os dk hdk x y => spans_cmp x y _) hH hblk (by simp; omega)
  change Calls Try.prog 45 _ _ _ at hcon
  have e1 : ds.toArray.size = zs.length := by simp [hdl]
  rw [e1] at hcon
  refine hcon.mono ?_
  rintro e w' ⟨rfl, d', n, os, ⟨hsz, _, hpm⟩, hs, rfl⟩
  have hsz' : d'.size = zs.length := by rw [hsz]; exact e1
  have hH' : HoldsK encS 4 (sortWorldK encS 4 w b 0 n d' os) b 0 d' := holdsK_grow encS 4 _ os b 0 d' (by simp [putRowK, Sort.ahead]; exact hblk) (holdsK_putRowK encS 4 (Sort.ahead w n) b 0 ds.toArray d' (holdsK_ahead encS 4 w n b 0 _ hH) hsz)
  have hlen : (d'.toList.map (·.1)).length = zs.length := by simp [hsz']
  have hget : ∀ i (hi : i < (d'.toList.map (·.1)).length), (d'.toList.map (·.1))[i] = (d'[i]!).1 := fun i hi => by
    have : i < d'.size := by rw [hsz']; omega
    simp [this]
  refine ⟨rfl, d'.toList.map (·.1), ⟨?_, fun i j h hj => ?_⟩, .inr ⟨b, 0, rfl, fun t ht => ?_⟩, ⟨rfl, rfl, rfl, ?_, fun k hk hkb => ?_⟩⟩
  · have h1 : d'.toList.Perm ds := by
      have e2 : d'.extract 0 zs.length = d' := by rw [← hsz']; simp
      have e3 : ds.toArray.extract 0 zs.length = ds.toArray := by rw [← e1]; simp
      rw [e2, e3] at hpm
      simpa using hpm
    rw [← hds]
    exact h1.map _
  · have := hs i j (Nat.zero_le _) h (by omega)
    rw [ltSp] at this
    rw [hget i (by omega), hget j hj]
    simpa using this
  · have ht2 : t < d'.size * 4 := by rw [spCellsOf_length, hlen] at ht; omega
    have h1 := (hH' t (by rw [size_flatK]; exact ht2)).1
    rw [get_flatK encS 4 d' t ht2] at h1
    rw [h1]
    congr 1
    have h2 := hq d'.toList t (by simpa using ht2)
    rw [List.getElem?_eq_getElem ht, Option.some.injEq] at h2
    rw [h2]
    simp
  · simp [sortWorldK, putRowK, Sort.ahead]
  · unfold sortWorldK
    rw [heap_grow_old _ _ (by simp [putRowK, Sort.ahead]; exact hk)]
    show (w.heap.modify b _)[k]? = w.heap[k]?
    rw [Array.getElem?_modify]
    rw [if_neg (fun e => hkb e.symm)]

/-- Spans in a row, rising. -/
def RisenSpans (w : World) (S : List Sp) (e : Ending) (w' : World) : Prop := ∃ a c zs, e = .returned (.slice a zs.length c) ∧ SortedSpans S zs ∧ RdV w' a (spCellsOf zs) ∧ Bel w w' ∧ ∀ p, a = some p → w.heap.size ≤ p.block ∧ p.block < w'.heap.size
set_option maxRecDepth 20000 in
theorem sorted_spans (Bm b nn : Nat) (S : List Sp) (hlen : nn ≤ 65536) (hb : ∀ x ∈ S, 0 ≤ x.2.1.1 ∧ x.2.1.1 ≤ 1024) (hl : S.length ≤ 65536) (w : World) (hBm : Bm < w.heap.size) (hm : w.cell? ⟨Bm, 0, none⟩ = some (.map (some b))) (hS : SpansAt w b nn S) :
    Calls Try.prog 25 #[.func (.func 46) #[] #[.pointer (some ⟨Bm, 0, none⟩)], .func (.func 27) #[] #[]] w (RisenSpans w S) := by
  go_enter Try.func25, Try.ntmps25
  go_wp2_with fail
  refine (collect_spans Bm b nn S hlen _ hBm hm hS).mono ?_
  rintro e w1 ⟨v, zs, rfl, hpm, hown, hnil, hB⟩
  have hb' : ∀ x ∈ zs, 0 ≤ x.2.1.1 ∧ x.2.1.1 ≤ 1024 := fun x hx => hb x (hpm.mem_iff.1 hx)
  have hl' : zs.length ≤ 65536 := by rw [hpm.length_eq]; exact hl
  by_cases h0 : zs = []
  · obtain rfl := hnil.2 h0
    subst h0
    have hcon : ∀ W, Calls Try.prog 45 #[.slice none 0 0, .func (.func 27) #[] #[]] W fun e w' => e = .returned (.tuple #[]) ∧ w' = W := fun W => AnyF.slices_SortFunc_none Try.sortSpans none 0 _ W
    have HC := Lib.hid hcon
    have HP := Lib.hid hpm
    clear hcon hm hS hown hnil hpm hb hb'
    go_wp2_with fail
    refine (HC.out _).mono ?_
    rintro e w2 ⟨rfl, rfl⟩
    go_wp2
    go_ret
    exact ⟨none, 0, [], rfl, ⟨HP.out, fun i j h hj => by simp at hj⟩, .inl rfl, hB, by rintro p ⟨⟩⟩
  · obtain ⟨g, cap, cu, rfl, hg0, hg1, hcap, _, hcs, htk⟩ : ∃ g cap cu, v = .slice (some ⟨g, 0, none⟩) zs.length cap ∧ w.heap.size ≤ g ∧ w1.heap[g]? = some (.cells cu 35 (0, 0)) ∧ zs.length ≤ cap ∧ cap ≤ maxLen ∧ cu.size = cap * 4 ∧ cu.toList.take (zs.length * 4) = spCellsOf zs := by
      rcases hown.2 with ⟨h1, h2⟩ | ⟨g, cap, cur, h1, h2, h3, h4, h5, h6, h7⟩
      · exact (h0 (hnil.1 h1)).elim
      · exact ⟨g, cap, cur, h1, h2, h3, h4, h5, h6, h7⟩
    have hcell : ∀ t, t < zs.length * 4 → w1.cell? ⟨g, t, none⟩ = (spCellsOf zs)[t]? := fun t ht => by
      rw [blk_cell hg1, ← htk, List.getElem?_take, if_pos ht]
      simp
    have hglt := heap_lt hg1
    have hcon := sort_spans g cap zs w1 hb' hl' hcell (fun i => blk_frozen hg1 i) hglt
    have HC := Lib.hid hcon
    have HP := Lib.hid hpm
    clear hcon hm hS hown hnil hcell htk hg1 hcs hpm hb hb'
    go_wp2_with fail
    refine HC.out.mono ?_
    rintro e w2 ⟨rfl, zs', hs, hr, hF⟩
    have hl9 : zs'.length = zs.length := hs.1.length_eq
    go_wp2
    go_ret
    refine ⟨some ⟨g, 0, none⟩, cap, zs', by rw [hl9]; rfl, ⟨hs.1.trans HP.out, hs.2⟩, hr, Fr.bel ((Fr.of_bel (S := fun k => k = g) hB).trans' hF) (fun k e => by omega), fun p hp => ?_⟩
    cases hp
    exact ⟨hg0, Nat.lt_of_lt_of_le hglt hF.size⟩
end Go.Proofs.Ythkbhikiljlgoaa
