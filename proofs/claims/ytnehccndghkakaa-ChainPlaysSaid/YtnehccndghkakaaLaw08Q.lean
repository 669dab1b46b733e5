/- Layer 8: the acts that came in; what an act leaves (plain). -/
import Derived.Test.YtnehccndghkakaaLaw08R
namespace Go.Proofs.Ytnehccndghkakaa
open Go.ChangeShapes Go.WideShapes Go.ChangeAt Go.RowKit Go.Deep

structure Act08 where
  kind : Int
  at_ : Int
  x : Int
  la : Option Addr
  ll : List Int
  lc : Nat
def c08 (x : Act08) : List Value := [.int .i64 x.kind, .int .i64 x.at_, .int .u64 x.x, .slice x.la x.ll.length x.lc]
structure Ok08 (W : World) (x : Act08) : Prop where
  kind : I64 x.kind
  at_ : I64 x.at_
  xw : 0 ≤ x.x ∧ x.x ≤ 18446744073709551615
  len : x.ll.length ≤ maxLen
  rd : RdV W x.la (ints x.ll)
  ok : ∀ y ∈ x.ll, I64 y
  cap : x.ll.length ≤ x.lc
/-- The row of acts that came in. -/
structure Acts08 (W : World) (a : Option Addr) (n : Nat) (xs : List Act08) : Prop where
  len : n = xs.length
  max : xs.length ≤ maxLen
  rd : RdR W a 4 (xs.map c08)
  ok : ∀ x ∈ xs, Ok08 W x
def sh08 : Sh := .slice (.struct (.pair (.int .i64) (.pair (.int .i64) (.pair (.int .u64) (.pair (.slice (.int .i64)) .unit)))))
theorem acts08 {W : World} {a : Option Addr} {n c : Nat} (h : RdC W sh08 [.slice a n c]) : ∃ xs, Acts08 W a n xs := by
  obtain ⟨a', c', rows, he, hl, hr, hR, _⟩ := h
  simp only [List.cons.injEq, Value.slice.injEq, and_true] at he
  obtain ⟨rfl, rfl, rfl⟩ := he
  obtain ⟨xs, rfl, hx⟩ := choose_list (f := c08) (p := Ok08 W) rows (fun r hrm => by
    obtain ⟨_, _, rfl, ⟨k, rfl, hk⟩, _, _, rfl, ⟨t, rfl, ht⟩, _, _, rfl, ⟨x, rfl, hx⟩, _, _, rfl, hs, rfl⟩ := hr r hrm
    obtain ⟨wa, wc, ws, rfl, h1, h2, h3, h4⟩ := rd_nums hs
    exact ⟨⟨k, t, x, wa, ws, wc⟩, rfl, ⟨i64_of_wf hk, i64_of_wf ht, bounds_u64 hx, h1, h2, fun y hy => i64_of_wf (h3 y hy), h4⟩⟩)
  exact ⟨xs, by simp, by simpa using hl, hR, hx⟩
theorem sh08_is : sh08.isT Try.prog (.inl 52) :=
  ⟨_, Try.underlying52, by kernel_rfl, by decide, _, Try.underlying54, by kernel_rfl,
    rfl, by kernel_rfl, Try.underlying3, rfl, by kernel_rfl, Try.underlying3, rfl, by kernel_rfl, Try.underlying30,
    rfl, by kernel_rfl, ⟨_, Try.underlying33, by kernel_rfl, by decide, Try.underlying3⟩, trivial⟩
theorem arg_acts08 {H : Type} {enc : TypeId × Value → H} {W : World} {a : Option Addr} {len cap : Nat} {d : DataW H} {ps : List MemPlace}
    (h : DataW.Trod enc Try.prog W 0 (fun _ => true) true 52 (.slice a len cap) d ps) : ∃ xs, Acts08 W a len xs :=
  acts08 (arg_shape sh08 sh08_is h)
theorem arg_chain08 {H : Type} {enc : TypeId × Value → H} {W : World} {base : Nat} {v : Value} {d : DataW H} {ps : List MemPlace} (hv : Value.okWide Try.prog W .any base 37 v)
    (h : DataW.Trod enc Try.prog W 0 (fun _ => true) true 37 v d ps) : ∃ x : Int × Int, v = .agg #[.int .i64 x.1, .int .i64 x.2] ∧ (I64 x.1 ∧ I64 x.2) := by
  obtain ⟨cs, rfl, _⟩ := okWide_struct Try.underlying37 hv
  obtain ⟨_, _, he, ⟨a, rfl, ha⟩, _, _, rfl, ⟨b, rfl, hb⟩, rfl⟩ := arg_shape (.struct (.pair (.int .i64) (.pair (.int .i64) .unit))) ⟨_, Try.underlying37, by kernel_rfl,
    rfl, by kernel_rfl, Try.underlying3, rfl, by kernel_rfl, Try.underlying3, trivial⟩ h
  refine ⟨(a, b), ?_, i64_of_wf ha, i64_of_wf hb⟩
  have : cs.toList = [.int .i64 a, .int .i64 b] := he
  rw [← Array.toList_inj.1 (show cs.toList = (#[.int .i64 a, .int .i64 b] : Array Value).toList from this)]

/-- What an act leaves is a chain of the machine's numbers, and as many words. -/
structure Sane (ws : List Int) (r : CR) : Prop where
  hd : I64 r.hd
  ln : I64 r.ln
  len : r.ws.length = ws.length
theorem sane_push {ws : List Int} {hd ln : Int} (at_ : List Int) (hs : ws.length ≤ 65536) (h1 : I64 hd) (h2 : I64 ln) : Sane ws (pushF ws hd ln at_) := by
  rcases chL_or ws hd ln with ⟨l, hr, _⟩ | ⟨hbad, _⟩
  · cases hany : at_.any (fun x => !inW ws x)
    · by_cases hn : (l ++ at_).Nodup
      · rw [pushF_ok hr hany hn]
        have := push_right hr at_ (not_any_inW hany) (nodup_swap.2 hn)
        have h9 := right_i64 (by rw [pushW_length]; exact hs) this
        exact ⟨h9.1, h9.2, pushW_length _ _ _⟩
      · rw [pushF_twice hr hany hn]; exact ⟨h1, h2, rfl⟩
    · rw [pushF_range hr hany]; exact ⟨h1, h2, rfl⟩
  · rw [pushF_bad at_ hbad]; exact ⟨h1, h2, rfl⟩
theorem sane_rem {ws : List Int} {hd ln : Int} (x : Int) (hs : ws.length ≤ 65536) (h1 : I64 hd) (h2 : I64 ln) : Sane ws (remF ws hd ln x) := by
  rcases chL_or ws hd ln with ⟨l, hr, _⟩ | ⟨hbad, _⟩
  · by_cases hx : x ∈ l
    · obtain ⟨W2, h2', e2, r2, L2⟩ := rem_in hr hx
      rw [e2]
      have h9 := right_i64 (by rw [L2]; exact hs) r2
      exact ⟨h9.1, h9.2, L2⟩
    · rw [remF_out hr hx]; exact ⟨h1, h2, rfl⟩
  · rw [remF_bad x hbad]; exact ⟨h1, h2, rfl⟩
theorem sane_pop {ws : List Int} {hd ln : Int} (hs : ws.length ≤ 65536) (h1 : I64 hd) (h2 : I64 ln) : Sane ws (popF ws hd ln).1 := by
  rcases chL_or ws hd ln with ⟨l, hr, _⟩ | ⟨hbad, _⟩
  · cases l with
    | nil => rw [popF_none hr]; exact ⟨h1, h2, rfl⟩
    | cons x l => rw [popF_some hr]; exact sane_rem x hs h1 h2
  · rw [popF_bad hbad]; exact ⟨h1, h2, rfl⟩

theorem ref8_Push (a : Option Addr) (ws : List Int) (hd ln : Int) (b : Option Addr) (at_ : List Int) (c d : Nat) (w : World) (hsm : ws.length ≤ 65536) (hra : RdV w a (u64s ws)) (hwf : ∀ y ∈ ws, 0 ≤ y ∧ y ≤ 18446744073709551615)
    (hhd : I64 hd) (hhl : I64 ln) (hal : ∀ p, a = some p → p.block < w.heap.size) (hl : at_.length ≤ 65536) (hcap : at_.length ≤ d) (hx : ∀ x ∈ at_, I64 x) (hrb : RdV w b (ints at_)) :
    Calls Try.prog 20 #[.slice a ws.length c, .agg #[.int .i64 hd, .int .i64 ln], .slice b at_.length d] w (RCPost w a ws.length (pushF ws hd ln at_)) := by
  rcases chL_or ws hd ln with ⟨l, hr, _⟩ | ⟨hbad, _⟩
  · exact ref8_Push_right a ws hd ln l b at_ c d w hsm hra hwf hal hl hcap hx hrb hr
  · exact ref8_Push_bad a ws hd ln b at_ c d w hsm hra hwf hhd hhl hbad
theorem rdr_chain (W : World) (h ln : Int) : RdR (W.alloc (.cells #[.int .i64 h, .int .i64 ln] 37)) (some ⟨W.heap.size, 0, none⟩) 2 [[.int .i64 h, .int .i64 ln]] := by
  refine .inr ⟨_, 0, rfl, fun i hi j v hv => ?_⟩
  obtain rfl : i = 0 := by simp at hi; omega
  have hb := blk_alloc W (.cells #[.int .i64 h, .int .i64 ln] 37)
  have := blk_cell hb j
  simp at hv ⊢
  first | exact hv | (rw [this]; simpa using hv)

/-- THE STATE: the chain's box, the arena, the words. -/
structure St08 (w wr : World) (ba : Nat) (m : Value) (ws : List Int) (hd ln : Int) : Prop where
  len : ws.length = 256
  ar : ArenaAt wr ba (w.heap.size + 1) ws
  m : ∃ am cm, m = .slice am 256 cm ∧ RdV wr am (u64s ws) ∧ ∀ p, am = some p → w.heap.size + 2 ≤ p.block
  bel : Bel w wr
  box : wr.heap[w.heap.size]? = some (.cells #[.int .i64 hd, .int .i64 ln] 37 (0, 0))
  hd : I64 hd
  ln : I64 ln
theorem St08.then {w wr w' : World} {ba : Nat} {m : Value} {ws : List Int} {hd ln : Int} (h : St08 w wr ba m ws hd ln) (k : Bel wr w') : St08 w w' ba m ws hd ln := by
  obtain ⟨am, cm, e, h1, h2⟩ := h.m
  exact ⟨h.len, h.ar.bel k, ⟨am, cm, e, h1.bel k, h2⟩, h.bel.trans k, (Fr.of_bel (S := fun _ => False) k).heap h.box (fun h => h), h.hd, h.ln⟩
theorem row_all {ws : List Int} (h : ws.length = 256) : rowW ws 0 256 = ws ∧ inB ws.length 0 256 = true := by
  have hi : inB ws.length 0 256 = true := inB_iff.2 ⟨by omega, by omega, by omega, by omega⟩
  refine ⟨?_, hi⟩
  unfold rowW
  rw [hi]
  simp only [if_true]
  rw [show (0 : Int).toNat = 0 from rfl, List.drop_zero, List.take_of_length_le (by rw [h]; decide)]
end Go.Proofs.Ytnehccndghkakaa
