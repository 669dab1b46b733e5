/- The library's SortFunc at runs, over a comparing function that reads no more than where they start. -/
import Derived.Test.YthkbhikiljlgoaaSortLay
import Derived.Test.YthkbhikiljlgoaaRun
import Derived.Shelf.Abstract
namespace Go.Proofs.Ythkbhikiljlgoaa
open Go.RowKit Go.Shelf Go.Lib Go.Sort

/-- Runs that start at a page that may be. -/
abbrev BRn := { x : Rn // 0 ≤ x.1 ∧ x.1 ≤ 1024 }
instance : Inhabited BRn := ⟨⟨(0, 0), by decide⟩⟩
def encB (x : BRn) : List Value := [.int .i64 x.1.1, .int .i64 x.1.2]
def cfB (x y : BRn) : Int := x.1.1 - y.1.1
theorem ltB (x y : BRn) : ltOf cfB x y = decide (x.1.1 < y.1.1) := by
  unfold ltOf cfB
  rw [decide_eq_decide]; omega
/-- A comparing function that tells which one starts ahead. -/
abbrev ByStart (cf : BRn → BRn → Int) : Prop := ∀ x y, ltOf cf x y = decide (x.1.1 < y.1.1)
theorem swoOf {cf : BRn → BRn → Int} (h : ByStart cf) : SWO (ltOf cf) where
  irrefl x := by rw [h]; simp
  trans x y z h1 h2 := by rw [h] at *; simp at *; omega
  ntrans x y z h1 h2 := by rw [h] at *; simp at *; omega
theorem lift_runs : ∀ (zs : List Rn), (∀ x ∈ zs, 0 ≤ x.1 ∧ x.1 ≤ 1024) → ∃ ds : List BRn, ds.map (·.1) = zs
  | [], _ => ⟨[], rfl⟩
  | z :: zs, h => by
    obtain ⟨ds, hd⟩ := lift_runs zs (fun x hx => h x (by simp [hx]))
    exact ⟨⟨z, h z (by simp)⟩ :: ds, by simp [hd]⟩
/-- What a sort leaves: the same runs, rising. -/
def SortedRuns (zs zs' : List Rn) : Prop := zs'.Perm zs ∧ ∀ i j (h : i < j) (hj : j < zs'.length), (zs'[i]'(by omega)).1 ≤ zs'[j].1
theorem sort_runs {cf : BRn → BRn → Int} (hcf : ByStart cf) (g : Nat) (hg : Enters g) (b cap : Nat) (zs : List Rn) (w : World) (hb : ∀ x ∈ zs, 0 ≤ x.1 ∧ x.1 ≤ 1024) (hl : zs.length ≤ 65536)
    (hcmp : ∀ (x y : BRn) (W : World), Calls Try.prog g #[.agg #[.int .i64 x.1.1, .int .i64 x.1.2], .agg #[.int .i64 y.1.1, .int .i64 y.1.2]] W fun e w' => e = .returned (.int .i64 (cf x y)) ∧ ∃ q os', w' = grow (W.drewN q) os')
    (hc : ∀ i (h : i < zs.length), w.cell? ⟨b, i * 2, none⟩ = some (.int .i64 zs[i].1) ∧ w.cell? ⟨b, i * 2 + 1, none⟩ = some (.int .i64 zs[i].2)) (hf : ∀ i, w.frozen? ⟨b, i, none⟩ = false) (hblk : b < w.heap.size) :
    Calls Try.prog 52 #[.slice (some ⟨b, 0, none⟩) zs.length cap, .func (.func g) #[] #[]] w fun e w' =>
      e = .returned (.tuple #[]) ∧ ∃ zs', SortedRuns zs zs' ∧ RdV w' (some ⟨b, 0, none⟩) (cellsOf zs') ∧ Fr (fun k => k = b) w w' := by
  obtain ⟨ds, hds⟩ := lift_runs zs hb
  have hdl : ds.length = zs.length := by rw [← hds]; simp
  have hH : HoldsK encB 2 w b 0 ds.toArray := by
    intro t ht
    rw [size_flatK] at ht
    have ht' : t < ds.length * 2 := by simpa using ht
    have hi : t / 2 < ds.length := by omega
    refine ⟨?_, by simpa using hf t⟩
    rw [get_flatK encB 2 ds.toArray t ht]
    have h1 := hc (t / 2) (by omega)
    have hz : zs[t / 2]'(by omega) = (ds[t / 2]).1 := by simp [← hds]
    rw [hz] at h1
    have hd : ds.toArray[t / 2]! = ds[t / 2] := by simp [hi]
    rw [hd]
    rcases Nat.mod_two_eq_zero_or_one t with hm | hm
    · rw [hm, show 0 + t = t / 2 * 2 by omega]; simpa [encB] using h1.1
    · rw [hm, show 0 + t = t / 2 * 2 + 1 by omega]; simpa [encB] using h1.2
  have hcon := AnyQ.slices_SortFunc Try.sortRuns 2 Try.isAgg33 Try.sizeOf33 encB (fun _ => rfl) (fun x v hv => by simp [encB] at hv; rcases hv with rfl | rfl <;> rfl) cf (swoOf hcf) g #[] b 0 cap ds.toArray w hg
    (fun m os dk hdk x y => hcmp x y _) hH hblk (by simp; omega)
  change Calls Try.prog 52 _ _ _ at hcon
  have e1 : ds.toArray.size = zs.length := by simp [hdl]
  rw [e1] at hcon
  refine hcon.mono ?_
  rintro e w' ⟨rfl, d', n, os, ⟨hsz, _, hpm⟩, hs, rfl⟩
  have hsz' : d'.size = zs.length := by rw [hsz]; exact e1
  have hH' : HoldsK encB 2 (sortWorldK encB 2 w b 0 n d' os) b 0 d' := holdsK_grow encB 2 _ os b 0 d' (by simp [putRowK, Sort.ahead]; exact hblk) (holdsK_putRowK encB 2 (Sort.ahead w n) b 0 ds.toArray d' (holdsK_ahead encB 2 w n b 0 _ hH) hsz)
  have hlen : (d'.toList.map (·.1)).length = zs.length := by simp [hsz']
  have hget : ∀ i (hi : i < (d'.toList.map (·.1)).length), (d'.toList.map (·.1))[i] = (d'[i]!).1 := fun i hi => by
    have : i < d'.size := by rw [hsz']; omega
    simp [this]
  refine ⟨rfl, d'.toList.map (·.1), ⟨?_, fun i j h hj => ?_⟩, .inr ⟨b, 0, rfl, fun t ht => ?_⟩, ⟨rfl, rfl, rfl, ?_, fun k hk hkb => ?_⟩⟩
  · have h1 : d'.toList.Perm ds := by
      have e2 : d'.extract 0 zs.length = d' := by rw [← hsz']; simp
      have e3 : ds.toArray.extract 0 zs.length = ds.toArray := by rw [← e1]; simp
      rw [e2, e3] at hpm
      simpa using hpm
    rw [← hds]
    exact h1.map _
  · have := hs i j (Nat.zero_le _) h (by omega)
    rw [hcf] at this
    rw [hget i (by omega), hget j hj]
    simpa using this
  · have ht2 : t < d'.size * 2 := by rw [cellsOf_length, hlen] at ht; omega
    have h1 := (hH' t (by rw [size_flatK]; exact ht2)).1
    rw [get_flatK encB 2 d' t ht2] at h1
    have hi : t / 2 < (d'.toList.map (·.1)).length := by rw [hlen]; omega
    have h2 := cellsOf_get (d'.toList.map (·.1)) (t / 2) hi
    rw [hget _ hi] at h2
    rw [h1]
    congr 1
    have hc : (cellsOf (d'.toList.map (·.1)))[t]? = some ((encB d'[t / 2]!)[t % 2]!) := by
      rcases Nat.mod_two_eq_zero_or_one t with hm | hm
      · rw [hm]; have := h2.1; rw [show t / 2 * 2 = t by omega] at this; simpa [encB] using this
      · rw [hm]; have := h2.2; rw [show t / 2 * 2 + 1 = t by omega] at this; simpa [encB] using this
    rw [List.getElem?_eq_getElem ht, Option.some.injEq] at hc
    rw [hc]; rfl
  · simp [sortWorldK, putRowK, Sort.ahead]
  · unfold sortWorldK
    rw [heap_grow_old _ _ (by simp [putRowK, Sort.ahead]; exact hk)]
    show (w.heap.modify b _)[k]? = w.heap[k]?
    rw [Array.getElem?_modify]
    rw [if_neg (fun e => hkb e.symm)]
end Go.Proofs.Ythkbhikiljlgoaa
