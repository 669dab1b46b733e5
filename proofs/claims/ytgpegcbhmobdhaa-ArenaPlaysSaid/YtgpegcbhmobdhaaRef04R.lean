/- The slow twin of layer 4: New, Row. -/
import Derived.Test.YtgpegcbhmobdhaaRef04
namespace Go.Proofs.Ytgpegcbhmobdhaa
open Go.RowKit

theorem ref_New_out (pages : Int) (w : World) (h : pages < 4 ∨ 1024 < pages) (hp : I64 pages) :
    Calls Try.prog 40 #[.int .i64 pages] w fun e w' => ∃ v, e = .returned (.tuple #[v, .int .i64 1]) ∧ Bel w w' := by
  have hq2 : ∀ W : World, (Instr.buildSlice 30 0 #[]).run Try.prog W = .ok (.slice (some ⟨W.heap.size, 0, none⟩) 0 0) (W.alloc (.cells #[] 33)) := fun W => by kernel_rfl
  obtain ⟨h0, h1⟩ := hp
  rcases h with h | h
  all_goals
    go_enter Try.func40, Try.ntmps40
    go_wp2
    go_ret2
    exact ⟨_, rfl, (Bel.refl _).alloc _⟩

def MadeU64 (w : World) (n : Nat) (e : Ending) (w' : World) : Prop := e = .returned (.tuple #[.slice (some ⟨w.heap.size, 0, none⟩) n n, .int .i64 0]) ∧ RdV w' (some ⟨w.heap.size, 0, none⟩) (u64s (List.replicate n 0)) ∧ Bel w w' ∧ w.heap.size < w'.heap.size
set_option maxRecDepth 20000 in
theorem ref_New_ok (pages : Nat) (w : World) (h0 : 4 ≤ pages) (h1 : pages ≤ 1024) :
    Calls Try.prog 40 #[.int .i64 pages] w (MadeU64 w (64 * pages)) := by
  have hm := run_make_u64 (64 * pages) w (by omega)
  rw [show ((64 * pages : Nat) : Int) = 64 * (pages : Int) by omega] at hm
  obtain ⟨cs, hcs⟩ : ∃ cs, (u64s (List.replicate (64 * pages) 0)).toArray = cs := ⟨_, rfl⟩
  rw [hcs] at hm
  have HC := Lib.hid hcs
  clear hcs
  go_enter Try.func40, Try.ntmps40
  go_wp2
  go_ret2
  refine ⟨rfl, ?_, (Bel.refl _).alloc _, by rw [World.size_alloc]; omega⟩
  have := RdV.new w cs 33
  rw [← HC.out] at this
  rw [← HC.out]
  simpa using this

set_option maxRecDepth 20000 in
theorem ref_Row (a : Option Addr) (ws : List Int) (at_ n : Int) (c : Nat) (w : World) (hw : ws.length ≤ 65536) (hra : RdV w a (u64s ws)) (ha : I64 at_) (hn : I64 n) :
    Calls Try.prog 42 #[.slice a ws.length c, .int .i64 at_, .int .i64 n] w (RowGot w ws at_ n) := by
  have hq2 : ∀ W : World, (Instr.buildSlice 30 0 #[]).run Try.prog W = .ok (.slice (some ⟨W.heap.size, 0, none⟩) 0 0) (W.alloc (.cells #[] 33)) := fun W => by kernel_rfl
  have hown0 : NewU64 w.heap.size [] (.slice (some ⟨w.heap.size, 0, none⟩) 0 0) (w.alloc (.cells #[] 33)) := World.ownsRow_made w #[] 0 (Nat.le_refl _) (by simp [maxLen]) (by simp)
  have hha := ha
  have hhn := hn
  obtain ⟨a0, a1⟩ := ha
  obtain ⟨n0, n1⟩ := hn
  have HO := Lib.hid hown0
  clear hown0
  cases hb : inB ws.length at_ n
  · have HB := Lib.hid hb
    clear hb hra
    go_enter Try.func42, Try.ntmps42
    go_wp2_with fail
    refine (ref_In a ws.length at_ n c _ hw hha hhn).mono ?_; rintro e w' ⟨rfl, rfl⟩
    rw [HB.out]
    go_wp2
    go_ret2
    refine ⟨_, by rw [HB.out]; rfl, ?_, (Bel.refl _).alloc _⟩
    rw [show rowW ws at_ n = [] by unfold rowW; rw [HB.out]; rfl]
    exact HO.out
  · obtain ⟨b0, b1, b2, b3⟩ := inB_iff.1 hb
    obtain ⟨o, rfl⟩ := Int.eq_ofNat_of_zero_le b1
    obtain ⟨m, rfl⟩ := Int.eq_ofNat_of_zero_le b0
    have hom : o + m ≤ ws.length := by omega
    have HB := Lib.hid hb
    have HR : Hid (rowW ws o m = (ws.drop o).take m) := Lib.hid (by unfold rowW; rw [hb]; simp)
    obtain ⟨i0, hi, hz, hs, hby⟩ := info_parts info_u64
    have HRA := Lib.hid hra
    clear hb b0 b1 b2 b3 hra a0 a1
    go_enter Try.func42, Try.ntmps42
    go_wp2_with fail
    refine (ref_In a ws.length o m c _ hw hha hhn).mono ?_; rintro e w' ⟨rfl, rfl⟩
    rw [HB.out]
    go_wp2_with fail
    go_loopw [8, 9] (fun v k wr => ∃ i : Nat, i ≤ m ∧ k = .int .i64 i ∧ NewU64 w.heap.size ((ws.drop o).take i) v wr ∧ Bel w wr) (fun v k wr => m - (intOf k).toNat)
    case atStart => exact ⟨0, Nat.zero_le _, rfl, by simpa using HO.out, (Bel.refl _).alloc _⟩
    case round =>
      obtain ⟨i, hi2, rfl, hown, hB⟩ := hrel
      by_cases hlt : i < m
      · obtain ⟨b, oo, rfl, hc⟩ := (HRA.out.bel hB).at (f := fun x => .int .u64 x) (xs := ws) (o + i) (by omega)
        have hlen : ((ws.drop o).take i).length = i := by simp; omega
        have HOW := Lib.hid hown
        have HBE := Lib.hid hB
        have hs1 := hB.size
        clear hown hB
        go_wp2_with (at_builtin; refine wpList_append_own _ rfl _ _ 30 rfl w.heap.size 33 i0 (.int .u64 0) 1 8 Try.underlying30 hi hz hs hby rfl (by decide) _ _ _ rfl (HOW.out.alloc _) ⟨wr.heap.size, 0, none⟩ 1 1 [.int .u64 ws[o + i]] rfl rfl ?c2 ?c3 ?c4 ?c5 ?c6 ?_)
        case c2 => exact cell_one_new _ _ _
        case c3 => simp [Value.oneCell']
        case c4 => rw [hlen]; unfold maxLen; omega
        case c5 => rw [hlen]; omega
        case c6 => simp; omega
        intro v' w1 hown1 hgrow hnil
        have hB1 : Bel w w1 := bel_grown (HBE.out.alloc _) hgrow (fun k hk => by
          rcases HOW.out.2 with ⟨h1, _⟩ | ⟨g, cap, cur, h1, h2, _⟩
          · rw [h1] at hk; simp [Value.ownBlock] at hk
          · rw [h1] at hk; simp [Value.ownBlock] at hk; omega)
        go_wp2
        go_roundw
        case rel =>
          refine ⟨i + 1, by omega, by go_num, ?_, hB1⟩
          have e : (ws.drop o).take (i + 1) = (ws.drop o).take i ++ [ws[o + i]] := by rw [List.take_succ_eq_append_getElem (by simp; omega), List.getElem_drop]
          unfold NewU64
          rw [e, List.length_append, hlen]
          simpa [u64s] using hown1
        case measure => simp [intOf]; omega
      · have hlast : i = m := by omega
        subst hlast
        go_wp2
        go_ret2
        exact ⟨_, by rw [HB.out]; rfl, by rw [HR.out]; exact hown, hB⟩

/-- What a row of one's own is as a value, and where it lies. -/
theorem own_slice2 {w : World} {base e size n : Nat} {v : Value} {xs : List Value} (h : w.ownsRow base e size v n xs) : ∃ a c, v = .slice a n c ∧ RdV w a xs ∧ n ≤ c ∧ ∀ p, a = some p → base ≤ p.block := by
  obtain ⟨a, c, rfl, h1, h2⟩ := own_slice h
  refine ⟨a, c, rfl, h1, h2, fun p hp => ?_⟩
  rcases h.2 with ⟨h3, _⟩ | ⟨g, cap, cur, h3, h4, _⟩
  · simp at h3; rw [h3.1] at hp; cases hp
  · simp at h3; rw [h3.1] at hp; cases hp; exact h4

/-- The words behind a store: where they are, and the error's number. -/
def RefStored (w : World) (a : Option Addr) (ws : List Int) (at_ : Int) (xs : List Int) (e : Ending) (w' : World) : Prop :=
  ∃ a' c', e = .returned (.tuple #[.slice a' ws.length c', .int .i64 (okE (inB ws.length at_ xs.length))]) ∧ RdV w' a' (u64s (stW ws at_ xs)) ∧ (∀ p, a' = some p → a' = a ∨ w.heap.size ≤ p.block) ∧ Bel w w'
theorem ref_Store (a b : Option Addr) (ws xs : List Int) (at_ : Int) (c d : Nat) (w : World) (hw : ws.length ≤ 65536) (hx : xs.length ≤ maxLen) (ha : I64 at_)
    (hra : RdV w a (ws.map (.int .u64))) (hrb : RdV w b (xs.map (.int .u64))) (h0 : ws ≠ []) :
    Calls Try.prog 41 #[.slice a ws.length c, .int .i64 at_, .slice b xs.length d] w (RefStored w a ws at_ xs) := by
  cases hb : inB ws.length at_ xs.length
  · refine (ref_Store_out a b ws xs at_ _ c _ d w rfl rfl hw hx ha hb).mono ?_
    rintro e w' ⟨rfl, rfl⟩
    exact ⟨a, c, by rw [hb]; rfl, by unfold stW; rw [hb]; exact hra, fun p hp => .inl rfl, Bel.refl _⟩
  · refine (ref_Store_in a b ws xs at_ _ c _ d w rfl rfl hw hra hrb hb h0).mono ?_
    rintro e w' ⟨v, rfl, hN, hB⟩
    obtain ⟨a', c', rfl, hr, _, hp⟩ := own_slice2 hN
    exact ⟨a', c', by rw [hb, putW_length hb]; rfl, by unfold stW; rw [hb]; exact hr, fun p h => .inr (hp p h), hB⟩
end Go.Proofs.Ytgpegcbhmobdhaa
