/- The slow twin of layer 8: List, with. -/
import Derived.Test.YtnehccndghkakaaWRight
import Derived.Deep.QuietTactic
import Derived.BigQuiet
namespace Go.Proofs.Ytnehccndghkakaa
open Go.RowKit Go.Deep

/-- A chain's blocks, and whether it is right. -/
def RListed (w : World) (l : List Int) (b : Bool) (e : Ending) (w' : World) : Prop := ∃ v, e = .returned (.tuple #[v, .bool b]) ∧ NewI64 w.heap.size l v w' ∧ Bel w w'
/-- What the loop of the twin's List bears. -/
structure RLSt (w wr : World) (hd ln : Int) (o : List Int) (v : Value) : Prop where
  own : NewI64 (w.heap.size + 1) o v wr
  box : wr.heap[w.heap.size]? = some (.cells #[.int .i64 hd, .int .i64 ln] 37 (0, 0))
  bel : Bel w wr
theorem RLSt.start (w : World) (hd ln : Int) : RLSt w ((w.alloc (.cells #[.int .i64 hd, .int .i64 ln] 37)).alloc (.cells #[] 3)) hd ln [] (.slice (some ⟨w.heap.size + 1, 0, none⟩) 0 0) := by
  refine ⟨?_, blk_alloc_old _ (blk_alloc _ _), ((Bel.refl _).alloc _).alloc _⟩
  have := World.ownsRow_made (e := 3) (size := 1) (w.alloc (.cells #[.int .i64 hd, .int .i64 ln] 37)) #[] 0 (Nat.le_refl _) (by simp [maxLen]) (by simp)
  rw [World.size_alloc] at this
  exact this
theorem RLSt.then {w wr w' : World} {hd ln : Int} {o : List Int} {v : Value} (h : RLSt w wr hd ln o v) (k : Bel wr w') : RLSt w w' hd ln o v :=
  ⟨h.own.bel k, (Fr.of_bel (S := fun _ => False) k).heap h.box (fun h => h), h.bel.trans k⟩
theorem RLSt.size {w wr : World} {hd ln : Int} {o : List Int} {v : Value} (h : RLSt w wr hd ln o v) : w.heap.size + 1 ≤ wr.heap.size := heap_lt h.box
theorem RLSt.app {w w1 w2 : World} {hd ln : Int} {o : List Int} {v v' : Value} {x : Int} {ob : Obj} (h : RLSt w w1 hd ln o v)
    (hown2 : w2.ownsRow (w.heap.size + 1) 3 1 v' (o.length + 1) (ints o ++ [.int .i64 x])) (hg : (w1.alloc ob).grownBy w2 v.ownBlock) : RLSt w w2 hd ln (o ++ [x]) v' := by
  have hF := own_grown (b := w.heap.size) h.own ((Bel.refl w1).alloc ob) hg h.size (by omega)
  refine ⟨?_, hF.heap h.box (by omega), (Fr.bel ((Fr.of_bel (S := fun k => w.heap.size + 1 ≤ k) h.bel).trans hF (fun _ h => .inl h)) (fun k e => by omega))⟩
  unfold NewI64
  rw [List.length_append]
  simpa [ints] using hown2

theorem u64_at {w : World} {a : Option Addr} {ws : List Int} (h : RdV w a (u64s ws)) {x : Int} (h0 : 0 ≤ x) (h1 : x < ws.length) : ∃ b o, a = some ⟨b, o, none⟩ ∧ w.cell? ⟨b, o + x.toNat, none⟩ = some (.int .u64 (wd ws x)) := by
  obtain ⟨b, o, e, hc⟩ := RdV.at (f := fun x => .int .u64 x) (xs := ws) h x.toNat (by omega)
  refine ⟨b, o, e, ?_⟩
  rw [hc]
  unfold wd
  rw [List.getD_eq_getElem?_getD, List.getElem?_eq_getElem]
  rfl

set_option maxHeartbeats 1000000 in
set_option maxRecDepth 20000 in
theorem ref8_List_ok (a : Option Addr) (ws : List Int) (hd ln : Int) (l : List Int) (c : Nat) (w : World) (hsm : ws.length ≤ 65536) (hra : RdV w a (u64s ws)) (hwf : ∀ y ∈ ws, 0 ≤ y ∧ y ≤ 18446744073709551615) (hr : RightC ws hd ln l) :
    Calls Try.prog 11 #[.slice a ws.length c, .agg #[.int .i64 hd, .int .i64 ln]] w (RListed w l true) := by
  have hll := hr.small
  have hln := hr.len
  have hq0 : ∀ W : World, (Instr.buildSlice 33 0 #[]).run Try.prog W = .ok (.slice (some ⟨W.heap.size, 0, none⟩) 0 0) (W.alloc (.cells #[] 3)) := fun W => by kernel_rfl
  obtain ⟨i0, hi, hz, hs, hby⟩ := info_parts info_int
  have HR := Lib.hid hr
  have HRA := Lib.hid hra
  have HWF := Lib.hid hwf
  have H0 := Lib.hid (RLSt.start w hd ln)
  clear hr hra hwf
  go_enter Try.func11, Try.ntmps11
  go_wp2_with fail
  go_loopw [6, 7] (fun v h wr => ∃ o s k, l = o ++ s ∧ h = .int .i64 k ∧ IsCh ws k s ∧ RLSt w wr hd ln o v) (fun v h wr => l.length - slen v)
  case atStart => exact ⟨[], l, hd, rfl, rfl, HR.out.ch, H0.out⟩
  case round =>
    obtain ⟨o, s, k, rfl, rfl, hc, hL⟩ := hrel
    have hbox := hL.box
    have c0 : wr.cell? ⟨w.heap.size, 0, none⟩ = some (.int .i64 hd) := blk_cell hbox 0
    have c1 : wr.cell? ⟨w.heap.size, 1, none⟩ = some (.int .i64 ln) := blk_cell hbox 1
    obtain ⟨a', c', rfl, hro, _⟩ := own_slice hL.own
    rw [List.length_append] at hll hln
    clear hbox
    cases s with
    | nil =>
      have hk : k = 0 := hc
      subst hk
      have hl0 : (((o.length : Nat) : Int) == ln) = true := by rw [beq_iff_eq]; simpa using hln
      have HL := Lib.hid hL
      clear hL hc hro
      go_wp2_with fail
      go_quiet (fail)
      go_wp2
      go_ret2
      exact ⟨_, rfl, by rw [List.append_nil]; exact own_base (own_bel HL.out.own (Bel.drewN (Bel.refl _) _)) (by omega), HL.out.bel.drewN _⟩
    | cons x s =>
      obtain ⟨a1, a2, a3, hcs⟩ := hc
      subst a1
      have hwx := isCh_head hcs
      simp only [List.length_cons] at hll hln
      have hnm : decide (x ∈ o) = false := by
        rw [decide_eq_false_iff_not]
        intro hy
        exact (List.nodup_append.1 HR.out.nd).2.2 x hy x (by simp) rfl
      have HNM := Lib.hid hnm
      have HCS := Lib.hid hcs
      have HRO := Lib.hid hro
      have HL := Lib.hid hL
      have hsz := hL.size
      have hom : o.length ≤ maxLen := by unfold maxLen; omega
      have e1 : x + 1 - 1 = x := by omega
      clear hL hnm hcs hro
      go_wp2_with fail
      refine (ref3_In a' o x _ c' wr rfl hom HRO.out).mono ?_
      rintro e w1 ⟨rfl, rfl⟩
      rw [HNM.out]
      go_wp2_with (at_builtin; refine wpList_append_own _ rfl _ _ 33 rfl (w.heap.size + 1) 3 i0 (.int .i64 0) 1 8 Try.underlying33 hi hz hs hby rfl (by decide) _ _ _ rfl (HL.out.own.alloc _) ⟨wr.heap.size, 0, none⟩ 1 1 [.int .i64 x] rfl rfl ?c2 ?c3 ?c4 ?c5 ?c6 ?_)
      case c2 => simpa using cell_one_new wr (.int .i64 x) 3
      case c3 => simp [Value.oneCell']
      case c4 => unfold maxLen; omega
      case c5 => omega
      case c6 => first | omega | (simp; omega)
      intro v' w2 hown2 hgrow hnil
      have hL2 : RLSt w w2 hd ln (o ++ [x]) v' := RLSt.app HL.out hown2 hgrow
      obtain ⟨a2', c2', rfl⟩ := hL2.own.len
      obtain ⟨bb, oo, rfl, hcw⟩ := u64_at (HRA.out.bel hL2.bel) a2 a3
      have HL2 := Lib.hid hL2
      obtain ⟨y, hy⟩ : ∃ y, wd ws x = y := ⟨_, rfl⟩
      rw [hy] at hcw hwx
      have HY := Lib.hid hy
      obtain ⟨hw0, hw1⟩ := hwx
      clear hL2 hown2 hgrow hnil hy
      go_wp2
      go_roundw
      case rel => exact ⟨o ++ [x], s, y, by simp, rfl, by rw [← HY.out]; exact HCS.out, by have := HL2.out; simpa using this⟩
      case measure => simp [slen]; omega
end Go.Proofs.Ytnehccndghkakaa
