/- Layer 8: List. -/
import Derived.Test.YtnehccndghkakaaWChain
namespace Go.Proofs.Ytnehccndghkakaa
open Go.RowKit

/-- The numbers of a row of one's own are read. -/
theorem NewI64.bel {w w' : World} {base : Nat} {xs : List Int} {v : Value} (h : NewI64 base xs v w) (k : Bel w w') : NewI64 base xs v w' := own_bel h k
theorem NewI64.fr {w w' : World} {base b : Nat} {xs : List Int} {v : Value} (h : NewI64 base xs v w) (k : Fr (fun k => k = b) w w') (hb : b < base) : NewI64 base xs v w' :=
  own_fr h k (fun c h1 _ h2 => by omega)
theorem NewI64.len {w : World} {base : Nat} {xs : List Int} {v : Value} (h : NewI64 base xs v w) : ∃ a c, v = .slice a xs.length c := by
  obtain ⟨a, c, e, _⟩ := own_slice h
  exact ⟨a, c, e⟩
theorem own_grown {w w1 w2 : World} {base b n : Nat} {xs : List Value} {v : Value} {e : Nat} (hown : w.ownsRow base e 1 v n xs) (h : Bel w w1) (hg : w1.grownBy w2 v.ownBlock) (hb : base ≤ w.heap.size) (hn : b < base) : Fr (fun k => base ≤ k) w w2 := by
  refine ⟨hg.os.trans h.os, hg.tape.trans h.tape, hg.output.trans h.output, Nat.le_trans h.size hg.size, fun k hk hS => ?_⟩
  refine (hg.block k (Nat.lt_of_lt_of_le hk h.size) (fun e => ?_)).trans (h.block k hk)
  rcases hown.2 with ⟨h1, _⟩ | ⟨g, cap, cur, h1, h2, _⟩
  · rw [h1] at e; simp [Value.ownBlock] at e
  · rw [h1] at e; simp [Value.ownBlock] at e; omega

/-- The blocks of a chain, listed anew. -/
def Listed (w : World) (l : List Int) (e : Ending) (w' : World) : Prop := ∃ v, e = .returned (.tuple #[v, .int .i64 0]) ∧ NewI64 w.heap.size l v w' ∧ Bel w w'

def slen : Value → Nat
  | .slice _ n _ => n
  | _ => 0

/-- What the loop of List bears. -/
structure LSt (w wr : World) (hd ln : Int) (o : List Int) (v : Value) : Prop where
  own : NewI64 (w.heap.size + 2) o v wr
  met : MetAt wr (w.heap.size + 1) (o.map (· + 1)).reverse
  box : wr.heap[w.heap.size]? = some (.cells #[.int .i64 hd, .int .i64 ln] 37 (0, 0))
  bel : Bel w wr
theorem LSt.start (w : World) (hd ln : Int) : LSt w ((w.alloc (.cells #[.int .i64 hd, .int .i64 ln] 37)).alloc (.map #[] 0)) hd ln [] (.slice none 0 0) := by
  refine ⟨World.ownsRow_nil _ _ _ _, ?_, ?_, ((Bel.refl _).alloc _).alloc _⟩
  · have := MetAt.made (w.alloc (.cells #[.int .i64 hd, .int .i64 ln] 37))
    rw [World.size_alloc] at this
    exact this
  · exact blk_alloc_old _ (blk_alloc _ _)
theorem LSt.then {w wr w' : World} {hd ln : Int} {o : List Int} {v : Value} (h : LSt w wr hd ln o v) (k : Bel wr w') : LSt w w' hd ln o v :=
  ⟨h.own.bel k, h.met.bel k, (Fr.of_bel (S := fun _ => False) k).heap h.box (fun h => h), h.bel.trans k⟩
theorem LSt.size {w wr : World} {hd ln : Int} {o : List Int} {v : Value} (h : LSt w wr hd ln o v) : w.heap.size + 2 ≤ wr.heap.size := h.met.lt
/-- One number more is met. -/
theorem LSt.put {w wr : World} {hd ln : Int} {o : List Int} {v : Value} (h : LSt w wr hd ln o v) (k : Int) (hk : I64 k) (hl : o.length < maxLen) :
    ∃ w1, (Instr.mapUpdate 77 (.map (some (w.heap.size + 1))) (.int .i64 k) (.bool true)).run Try.prog wr = .ok () w1 ∧
      NewI64 (w.heap.size + 2) o v w1 ∧ MetAt w1 (w.heap.size + 1) (k :: (o.map (· + 1)).reverse) ∧ w1.heap[w.heap.size]? = some (.cells #[.int .i64 hd, .int .i64 ln] 37 (0, 0)) ∧ Bel w w1 ∧ w.heap.size + 2 ≤ w1.heap.size := by
  obtain ⟨w1, h1, h2, h3⟩ := h.met.put k (WalkArith.wf_i64 hk) (by simpa using hl)
  have hF := fr_grown h3
  have hs := h.size
  have hs1 := hF.size
  exact ⟨w1, h1, h.own.fr hF (by omega), h2, hF.heap h.box (by omega), (Fr.bel ((Fr.of_bel (S := fun k => k = w.heap.size + 1) h.bel).trans hF (fun _ h => .inl h)) (fun k e => by omega)), by omega⟩
/-- .. and listed. -/
theorem LSt.app {w w1 w2 : World} {hd ln : Int} {o : List Int} {v v' : Value} {x : Int} {ob : Obj} (hown : NewI64 (w.heap.size + 2) o v w1) (hm : MetAt w1 (w.heap.size + 1) ((x + 1) :: (o.map (· + 1)).reverse))
    (hb : w1.heap[w.heap.size]? = some (.cells #[.int .i64 hd, .int .i64 ln] 37 (0, 0))) (hB : Bel w w1) (hs : w.heap.size + 2 ≤ w1.heap.size)
    (hown2 : w2.ownsRow (w.heap.size + 2) 3 1 v' (o.length + 1) (ints o ++ [.int .i64 x])) (hg : (w1.alloc ob).grownBy w2 v.ownBlock) : LSt w w2 hd ln (o ++ [x]) v' := by
  have hF := own_grown (b := w.heap.size) hown ((Bel.refl w1).alloc ob) hg hs (by omega)
  refine ⟨?_, ?_, hF.heap hb (by omega), (Fr.bel ((Fr.of_bel (S := fun k => w.heap.size + 2 ≤ k) hB).trans hF (fun _ h => .inl h)) (fun k e => by omega))⟩
  · unfold NewI64
    rw [List.length_append]
    simpa [ints] using hown2
  · have := hm.fr hF (by omega)
    simpa using this

theorem run_makeMet (W : World) : (Instr.makeMap 77 none).run Try.prog W = .ok (.map (some W.heap.size)) (W.alloc (.map #[] 0)) := by kernel_rfl

set_option maxHeartbeats 1000000 in
set_option maxRecDepth 20000 in
theorem chain_List_ok (p : Value) (ws : List Int) (hd ln : Int) (l : List Int) (w : World) (hP : ArenaP w p ws) (hr : RightC ws hd ln l) :
    Calls Try.prog 15 #[p, .agg #[.int .i64 hd, .int .i64 ln]] w (Listed w l) := by
  have hsm := arenaP_small hP
  have hll := hr.small
  have hln := hr.len
  have hmm := run_makeMet
  obtain ⟨i0, hi, hz, hs, hby⟩ := info_parts info_int
  have HR := Lib.hid hr
  have HP := Lib.hid hP
  have H0 := Lib.hid (LSt.start w hd ln)
  clear hr hP
  go_enter Try.func15, Try.ntmps15
  go_wp2_with fail
  go_loopw [6, 8] (fun v h wr => ∃ o s k, l = o ++ s ∧ h = .int .i64 k ∧ IsCh ws k s ∧ LSt w wr hd ln o v) (fun v h wr => l.length - slen v)
  case atStart => exact ⟨[], l, hd, rfl, rfl, HR.out.ch, H0.out⟩
  case round =>
    obtain ⟨o, s, k, rfl, rfl, hc, hL⟩ := hrel
    have hbox := hL.box
    have c0 : wr.cell? ⟨w.heap.size, 0, none⟩ = some (.int .i64 hd) := blk_cell hbox 0
    have c1 : wr.cell? ⟨w.heap.size, 1, none⟩ = some (.int .i64 ln) := blk_cell hbox 1
    obtain ⟨a, c, rfl⟩ := hL.own.len
    rw [List.length_append] at hll hln
    clear hbox
    cases s with
    | nil =>
      have hk : k = 0 := hc
      subst hk
      have hl0 : (o.length : Int) = ln := by simpa using hln
      have HL := Lib.hid hL
      clear hL hc
      go_wp2
      go_ret2
      exact ⟨_, rfl, by rw [List.append_nil]; exact own_base HL.out.own (by omega), HL.out.bel⟩
    | cons x s =>
      obtain ⟨a1, a2, a3, hcs⟩ := hc
      subst a1
      have hnx : nxt ws (x + 1) = wd ws x := by
        unfold nxt
        rw [show x + 1 - 1 = x by omega, if_pos ⟨a2, a3, (isCh_head hcs).2⟩]
      simp only [List.length_cons] at hll hln
      have hnm : decide (x + 1 ∈ (o.map (· + 1)).reverse) = false := by
        rw [decide_eq_false_iff_not, List.mem_reverse, List.mem_map]
        rintro ⟨y, hy, e⟩
        have : y = x := by omega
        subst this
        exact (List.nodup_append.1 HR.out.nd).2.2 y hy y (by simp) rfl
      have hlook := hL.met.look (x + 1) (WalkArith.wf_i64 (by omega))
      rw [hnm] at hlook
      obtain ⟨w1, hrun, p1, p2, p3, p4, p5⟩ := hL.put (x + 1) ⟨by omega, by omega⟩ (by unfold maxLen; omega)
      have HN := Lib.hid hnx
      have HCS := Lib.hid hcs
      have P := Lib.hid (And.intro p1 (And.intro p2 (And.intro p3 p4)))
      clear hL hnx hnm hcs p1 p2 p3 p4
      go_wp2_with (at_builtin; refine wpList_append_own _ rfl _ _ 33 rfl (w.heap.size + 2) 3 i0 (.int .i64 0) 1 8 Try.underlying33 hi hz hs hby rfl (by decide) _ _ _ rfl (P.out.1.alloc _) ⟨w1.heap.size, 0, none⟩ 1 1 [.int .i64 x] rfl rfl ?c2 ?c3 ?c4 ?c5 ?c6 ?_)
      case c2 => simpa using cell_one_new w1 (.int .i64 x) 3
      case c3 => simp [Value.oneCell']
      case c4 => unfold maxLen; omega
      case c5 => omega
      case c6 => simp; omega
      intro v' w2 hown2 hgrow hnil
      have hL2 : LSt w w2 hd ln (o ++ [x]) v' := LSt.app P.out.1 P.out.2.1 P.out.2.2.1 P.out.2.2.2 p5 hown2 hgrow
      obtain ⟨a', c', rfl⟩ := hL2.own.len
      have HL := Lib.hid hL2
      clear hL2 hown2 hgrow hnil hlook hrun
      go_wp2_with fail
      refine (chain_next p ws (x + 1) _ (HP.out.bel HL.out.bel) (by omega) (by omega)).mono ?_
      rintro e w3 ⟨rfl, hB3⟩
      rw [HN.out]
      go_wp2
      go_roundw
      case rel => exact ⟨o ++ [x], s, _, by simp, rfl, HCS.out, by have := HL.out.then hB3; simpa using this⟩
      case measure => simp [slen]; omega
end Go.Proofs.Ytnehccndghkakaa
