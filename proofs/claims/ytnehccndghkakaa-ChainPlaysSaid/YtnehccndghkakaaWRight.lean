/- Layer 8: Right; the library's ContainsFunc over chains. -/
import Derived.Test.YtnehccndghkakaaWPop
import Derived.Test.YtnehccndghkakaaOpen
namespace Go.Proofs.Ytnehccndghkakaa
open Go.RowKit Go.Deep

def chainCells (x : Int × Int) : List Value := [.int .i64 x.1, .int .i64 x.2]
/-- 'A call of the function value answers p, and leaves things as R says', from w on. -/
def AsksC (R : World → World → Prop) (g : Nat) (cap : Array Value) (p : Int × Int → Bool) (xs : List (Int × Int)) (w : World) : Prop :=
  ∀ W, R w W → ∀ x ∈ xs, Calls Try.prog g (#[.agg #[.int .i64 x.1, .int .i64 x.2]] ++ cap) W fun e W' => e = .returned (.bool (p x)) ∧ R W W'

theorem indexFunc_chain {R : World → World → Prop} (hR : Quiet R) (g : Nat) (hg : Enters g) (cap : Array Value) (p : Int × Int → Bool) (a : Option Addr) (xs : List (Int × Int)) (n c : Nat) (w : World)
    (hn : n = xs.length) (hl : xs.length ≤ maxLen) (hrd : RdR w a 2 (xs.map chainCells)) (hp : AsksC R g cap p xs w) :
    Calls Try.prog 38 #[.slice a n c, .func (.func g) #[] cap] w fun e w' => e = .returned (.int .i64 (idxF p xs)) ∧ R w w' := by
  subst hn
  unfold maxLen at hl
  have HP := Lib.hid hp
  clear hp
  have hgc : ∀ (args : Array Value) (w : World), (callFunc g args).run Try.prog w = .ok (.enter g args) w := hg
  go_enter Try.func38, Try.ntmps38
  go_wp2
  go_loopw [8] (fun k W => ∃ m : Nat, m ≤ xs.length ∧ k = .int .i64 m ∧ R w W ∧ ∀ j (hj : j < m) (hj' : j < xs.length), p xs[j] = false) (fun k _ => xs.length - (intOf k).toNat)
  case atStart => exact ⟨0, Nat.zero_le _, rfl, hR.refl _, fun j hj => by omega⟩
  case round =>
    obtain ⟨m, hm, rfl, hRw, h0⟩ := hrel
    have H0 := Lib.hid h0
    clear h0
    by_cases hlt : m < xs.length
    · have hb := hR.below hRw
      obtain ⟨b, o, rfl, hra⟩ := (hrd.bel hb).at m hlt
      have HRR := Lib.hid hrd
      clear hrd
      have q0 : wr.cell? ⟨b, o + m * 2, none⟩ = some (.int .i64 xs[m].1) := hra 0 _ rfl
      have q1 : wr.cell? ⟨b, o + m * 2 + 1, none⟩ = some (.int .i64 xs[m].2) := hra 1 _ rfl
      clear hra
      go_wp2_with fail
      refine (HP.out wr hRw xs[m] (List.getElem_mem hlt)).mono ?_
      rintro e W' ⟨rfl, hRW⟩
      cases hpx : p xs[m]
      · have HX := Lib.hid hpx
        clear hpx
        go_wp2
        go_roundw
        case rel => exact ⟨m + 1, by omega, by go_num, hR.trans hRw hRW, fun j hj hj' => by
          rcases Nat.lt_or_ge j m with h | h
          · exact H0.out j h hj'
          · obtain rfl : j = m := by omega
            exact HX.out⟩
        case measure => simp [intOf]; omega
      · have HX := Lib.hid (idxF_at p xs m hlt (fun j hj => H0.out j hj (by omega)) hpx)
        clear hpx
        go_wp2
        go_ret
        exact ⟨ret_i HX.out, hR.trans hRw hRW⟩
    · have HX := Lib.hid (idxF_none p xs (fun j hj => H0.out j (by omega) hj))
      go_wp2
      go_ret
      exact ⟨ret_i HX.out, hRw⟩

theorem containsFunc_chain {R : World → World → Prop} (hR : Quiet R) (g : Nat) (hg : Enters g) (cap : Array Value) (p : Int × Int → Bool) (a : Option Addr) (xs : List (Int × Int)) (n c : Nat) (w : World)
    (hn : n = xs.length) (hl : xs.length ≤ maxLen) (hrd : RdR w a 2 (xs.map chainCells)) (hp : AsksC R g cap p xs w) :
    Calls Try.prog 28 #[.slice a n c, .func (.func g) #[] cap] w fun e w' => e = .returned (.bool (xs.any p)) ∧ R w w' := by
  subst hn
  have H : Hid (xs.any p = decide (0 ≤ idxF p xs)) := Lib.hid (by
    have := idxF_ge p xs
    cases h : xs.any p <;> simp_all)
  go_enter Try.func28, Try.ntmps28
  go_wp2_with fail
  refine (indexFunc_chain hR g hg cap p a xs _ c w rfl hl hrd hp).mono ?_
  rintro e W' ⟨rfl, hRW⟩
  go_wp2
  go_ret
  exact ⟨ret_b H.out, hRW⟩

/-- Whether a chain isn't right, asked by Right's own function. -/
theorem right_asks (p : Value) (ws : List Int) (xs : List (Int × Int)) (b : Nat) (w : World) (hP : ArenaP w p ws) (hb : w.heap[b]? = some (.cells #[p] 25 (0, 0))) (hx : ∀ x ∈ xs, I64 x.1 ∧ I64 x.2) :
    AsksC Bel 29 #[.pointer (some ⟨b, 0, none⟩)] (fun x => (chL ws x.1 x.2).isNone) xs w := by
  intro W hB x hxm
  obtain ⟨x1, x2⟩ := x
  obtain ⟨h1, h2⟩ := hx _ hxm
  have hb2 := (Fr.of_bel (S := fun _ => False) hB).heap hb (fun h => h)
  have hlt := heap_lt hb2
  have hc : W.cell? ⟨b, 0, none⟩ = some p := blk_cell hb2 0
  have HP := Lib.hid (hP.bel hB)
  clear hb hb2 hx hxm hP
  rcases chL_or ws x1 x2 with ⟨l, hr, hch⟩ | ⟨hbad, hch⟩
  · have HC := Lib.hid hch
    have HR := Lib.hid hr
    clear hch hr
    go_enter Try.func29, Try.ntmps29
    go_wp2_with fail
    refine (chain_List_ok p ws x1 x2 l _ (HP.out.bel ((Bel.refl _).alloc _)) HR.out).mono ?_
    rintro e w1 ⟨v, rfl, hN, hB1⟩
    obtain ⟨al, cl, rfl, hrl, hcl⟩ := own_slice hN
    clear hN hrl hcl
    go_wp2
    go_ret
    exact ⟨ret_b (by rw [HC.out]; rfl), ((Bel.refl _).alloc _).trans hB1⟩
  · have HC := Lib.hid hch
    clear hch
    go_enter Try.func29, Try.ntmps29
    go_wp2_with fail
    refine (chain_List_bad p ws x1 x2 _ (HP.out.bel ((Bel.refl _).alloc _)) h1 h2 hbad).mono ?_
    rintro e w1 ⟨rfl, hB1⟩
    go_wp2
    go_ret
    exact ⟨ret_b (by rw [HC.out]; rfl), ((Bel.refl _).alloc _).trans hB1⟩
theorem right_enters : Enters 29 := enters_of Try.func29 (by kernel_rfl) rfl

theorem chain_Right (q : Option Addr) (ws : List Int) (a : Option Addr) (xs : List (Int × Int)) (n c : Nat) (w : World) (hP : ArenaP w (.pointer q) ws) (hn : n = xs.length) (hl : xs.length ≤ maxLen) (hrd : RdR w a 2 (xs.map chainCells)) (hx : ∀ x ∈ xs, I64 x.1 ∧ I64 x.2) :
    Calls Try.prog 12 #[.pointer q, .slice a n c] w fun e w' => e = .returned (.bool (xs.all fun x => (chL ws x.1 x.2).isSome)) ∧ Bel w w' := by
  subst hn
  have H : Hid ((!xs.any fun x => (chL ws x.1 x.2).isNone) = xs.all fun x => (chL ws x.1 x.2).isSome) := Lib.hid (by
    rw [Bool.eq_iff_iff]
    simp only [Bool.not_eq_true', List.any_eq_false, List.all_eq_true, Option.isSome_iff_ne_none]
    constructor
    · intro h x hxm e
      exact h x hxm (by rw [e]; rfl)
    · intro h x hxm e
      exact h x hxm (Option.isNone_iff_eq_none.1 e))
  have hA := right_asks (.pointer q) ws xs w.heap.size (w.alloc (.cells #[.pointer q] 25)) (hP.bel ((Bel.refl _).alloc _)) (blk_alloc _ _) hx
  have HA := Lib.hid hA
  have HR := Lib.hid (hrd.bel ((Bel.refl w).alloc (.cells #[.pointer q] 25)))
  clear hA hrd
  go_enter Try.func12, Try.ntmps12
  go_wp2_with fail
  refine (containsFunc_chain quiet_bel _ right_enters _ (fun x => (chL ws x.1 x.2).isNone) a xs _ c _ rfl hl HR.out HA.out).mono ?_
  rintro e w1 ⟨rfl, hB1⟩
  go_wp2
  go_ret
  exact ⟨ret_b H.out.symm, ((Bel.refl _).alloc _).trans hB1⟩
end Go.Proofs.Ytnehccndghkakaa
