/- Layer 6: acts on live free runs, for every later world. -/
import Derived.Test.YtjmjdkimkgclaaaLaw06N
import Derived.Test.YtjmjdkimkgclaaaSame
namespace Go.Proofs.Ytjmjdkimkgclaaa
open Go.ChangeShapes Go.WideShapes Go.ChangeAt Go.RowKit Go.Deep

theorem dec_self6 (xs : List Rn) : decide (xs = xs) = true := decide_eq_true rfl
theorem len_canon {L : List Rn} (h : Canon 1024 L) : L.length ≤ 65536 := by have := h.len (q := 1024); omega
/-- What an act on them leaves. -/
def LivePost (w0 : World) (N : Nat → Prop) (w : World) (b : Nat) (L : List Rn) (w' : World) : Prop :=
  ∃ v, LiveR w0 N w' b v L ∧ Fr (fun k => ¬ N k) w w' ∧ ∀ u f, BitsO w u f → BitsO w' u f
theorem LiveR.post {w0 : World} {N : Nat → Prop} {w V V' : World} {b : Nat} {v : Value} {L L' : List Rn} (h : LiveR w0 N w b v L) (hV : Bel w V) (k : RPost V b v L' V') : LivePost w0 N w b L' V' := by
  obtain ⟨v', h1, h2, h3⟩ := (h.then_bel hV).step k
  exact ⟨v', h1, (Fr.of_bel hV).trans' h2, fun u f hu => h3 u f (hu.bel hV)⟩
theorem live_Add {w0 : World} {N : Nat → Prop} {w : World} {b : Nat} {v : Value} {L L' : List Rn} {l : List Rn} {k : Int} (h : LiveR w0 N w b v L) (hadd : addR L l = (L', k)) (hl : l.length ≤ 1024) (hok : ∀ x ∈ l, I64 x.1 ∧ I64 x.2) (a : Option Addr) (c : Nat) :
    ∀ V, Bel w V → RunsIn V a l → Calls Try.prog 10 #[.pointer (some ⟨b, 0, none⟩), .slice a l.length c] V fun e V' => e = .returned (.int .i64 k) ∧ LivePost w0 N w b L' V' := by
  intro V hV hr
  refine (runs_Add b v L a l l.length c V (h.free.bel hV) rfl hl hr hok).mono ?_
  rintro e V' ⟨rfl, hp⟩
  rw [hadd] at hp ⊢
  exact ⟨rfl, h.post hV hp⟩
theorem live_Add1 {w0 : World} {N : Nat → Prop} {w : World} {b : Nat} {v : Value} {L L' : List Rn} {x : Rn} {k : Int} (h : LiveR w0 N w b v L) (hadd : addR L [x] = (L', k)) (h1 : I64 x.1) (h2 : I64 x.2) :
    ∀ V g, V.heap.size = g → Bel w V → Calls Try.prog 10 #[.pointer (some ⟨b, 0, none⟩), .slice (some ⟨g, 0, none⟩) 1 1] (V.alloc (.cells #[.int .i64 x.1, .int .i64 x.2] 29)) fun e V' => e = .returned (.int .i64 k) ∧ LivePost w0 N w b L' V' := by
  intro V g hg hV
  subst hg
  exact live_Add h hadd (by simp) (by intro r hr; simp at hr; subst hr; exact ⟨h1, h2⟩) _ _ _ (hV.alloc _) (RunsIn.of_row (RdV.new V #[.int .i64 x.1, .int .i64 x.2] 29))
theorem live_Cut {w0 : World} {N : Nat → Prop} {w : World} {b : Nat} {v : Value} {L L' : List Rn} {x : Rn} {k : Int} (h : LiveR w0 N w b v L) (hcut : cutR L x = (L', k)) (h1 : I64 x.1) (h2 : I64 x.2) :
    ∀ V, Bel w V → Calls Try.prog 15 #[.pointer (some ⟨b, 0, none⟩), .agg #[.int .i64 x.1, .int .i64 x.2]] V fun e V' => e = .returned (.int .i64 k) ∧ LivePost w0 N w b L' V' := by
  intro V hV
  refine (runs_Cut b v L x V (h.free.bel hV) h1 h2).mono ?_
  rintro e V' ⟨rfl, hp⟩
  rw [hcut] at hp ⊢
  exact ⟨rfl, h.post hV hp⟩
theorem live_Take {w0 : World} {N : Nat → Prop} {w : World} {b : Nat} {v : Value} {L L' : List Rn} {n : Int} {y : Rn} {q : Bool} (h : LiveR w0 N w b v L) (htake : takeR L n = (L', y, q)) (hn : I64 n) :
    ∀ V, Bel w V → Calls Try.prog 17 #[.pointer (some ⟨b, 0, none⟩), .int .i64 n] V fun e V' => e = .returned (.tuple #[.agg #[.int .i64 y.1, .int .i64 y.2], .bool q]) ∧ LivePost w0 N w b L' V' := by
  intro V hV
  refine (runs_Take b v L n V (h.free.bel hV) hn).mono ?_
  rintro e V' ⟨rfl, hp⟩
  rw [htake] at hp ⊢
  exact ⟨rfl, h.post hV hp⟩
theorem live_Has {w0 : World} {N : Nat → Prop} {w : World} {b : Nat} {v : Value} {L : List Rn} {x : Rn} {q : Bool} (h : LiveR w0 N w b v L) (hhas : hasF L x = q) (h1 : I64 x.1) (h2 : I64 x.2) :
    ∀ V, Bel w V → Calls Try.prog 20 #[.pointer (some ⟨b, 0, none⟩), .agg #[.int .i64 x.1, .int .i64 x.2]] V fun e V' => e = .returned (.bool q) ∧ Bel w V' := by
  intro V hV
  refine (runs_Has _ L x V (h.then_bel hV).p h1 h2).mono ?_
  rintro e V' ⟨rfl, hB⟩
  rw [hhas]
  exact ⟨rfl, hV.trans hB⟩
theorem live_Pages {w0 : World} {N : Nat → Prop} {w : World} {b : Nat} {v : Value} {L : List Rn} {k : Int} (h : LiveR w0 N w b v L) (hsum : sumR L = k) :
    ∀ V, Bel w V → Calls Try.prog 22 #[.pointer (some ⟨b, 0, none⟩)] V fun e V' => e = .returned (.int .i64 k) ∧ Bel w V' := by
  intro V hV
  refine (runs_Pages _ L V (h.then_bel hV).p).mono ?_
  rintro e V' ⟨rfl, hB⟩
  rw [hsum]
  exact ⟨rfl, hV.trans hB⟩
/-- A list that was made. -/
def ListPost (w V : World) (L : List Rn) (e : Ending) (V' : World) : Prop :=
  ∃ a c, e = .returned (.slice a L.length c) ∧ RunsIn V' a L ∧ Bel w V' ∧ ∀ p, a = some p → w.heap.size ≤ p.block ∧ p.block < V'.heap.size
theorem list_post {w V V' : World} {L : List Rn} {e : Ending} (hV : Bel w V) (h : NewRuns V L e V') : ListPost w V L e V' := by
  obtain ⟨v, rfl, hown, hB⟩ := h
  obtain ⟨a, c, rfl, hr, _, hp⟩ := own_slice2 hown
  refine ⟨a, c, rfl, RunsIn.of_row hr, hV.trans hB, fun p hp9 => ⟨Nat.le_trans hV.size (hp p hp9), ?_⟩⟩
  exact (hown.lt p.block (by rw [hp9]; rfl)).2
theorem live_List {w0 : World} {N : Nat → Prop} {w : World} {b : Nat} {v : Value} {L : List Rn} (h : LiveR w0 N w b v L) :
    ∀ V, Bel w V → Calls Try.prog 12 #[.pointer (some ⟨b, 0, none⟩)] V (ListPost w V L) := fun V hV =>
  (runs_List _ L V (h.then_bel hV).p).mono fun _ _ hN => list_post hV hN
/-- The blocks of a slice. -/
def blkOf (a : Option Addr) : Nat → Prop := fun i => ∃ p, a = some p ∧ p.block = i
theorem RunsIn.watched {N : Nat → Prop} {w w' : World} {a : Option Addr} {rs : List Rn} (h : RunsIn w a rs) (k : Fr (fun i => ¬ N i) w w') (hN : ∀ i, blkOf a i → N i) : RunsIn w' a rs :=
  h.fr k (fun p hp h9 => h9 (hN _ ⟨p, hp, rfl⟩))
theorem same_true {a b : Option Addr} {xs : List Rn} {c d : Nat} {w : World} (hl : xs.length ≤ 65536) (ha : RunsIn w a xs) (hb : RunsIn w b xs) :
    Calls Try.prog 11 #[.slice a xs.length c, .slice b xs.length d] w fun e w' => e = .returned (.bool true) ∧ Bel w w' := by
  refine (ref5_Same a b xs xs _ c _ d w rfl rfl hl hl ha hb).mono ?_
  rintro e w' ⟨rfl, hB⟩
  exact ⟨by rw [dec_self6], hB⟩
end Go.Proofs.Ytjmjdkimkgclaaa
