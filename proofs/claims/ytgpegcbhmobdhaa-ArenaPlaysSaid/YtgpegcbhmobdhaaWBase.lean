/- arena.Base. -/
import Derived.Test.YtgpegcbhmobdhaaWPage
namespace Go.Proofs.Ytgpegcbhmobdhaa
open Go.RowKit
theorem arena_Base (page : Int) (w : World) (h : I64 page) :
    Calls Try.prog 19 #[.int .i64 page] w fun e w' => e = .returned (.int .i64 (baseI page)) ∧ w = w' := by
  obtain ⟨h0, h1⟩ := h
  by_cases c : page < 0
  · have H := Lib.hid (show baseI page = -1 by simp [baseI, c])
    go_enter Try.func19, Try.ntmps19
    go_wp2
    go_ret
    exact ⟨ret_i H.out, rfl⟩
  by_cases d : 1024 < page
  · have H := Lib.hid (show baseI page = -1 by simp [baseI, d])
    go_enter Try.func19, Try.ntmps19
    go_wp2
    go_ret
    exact ⟨ret_i H.out, rfl⟩
  · have H := Lib.hid (show baseI page = page * 64 by simp [baseI, c, d])
    go_enter Try.func19, Try.ntmps19
    go_wp2
    go_ret
    exact ⟨ret_i H.out, rfl⟩
end Go.Proofs.Ytgpegcbhmobdhaa
