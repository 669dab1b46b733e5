/- arena.Page and Base. -/
import Derived.Test.YtokefhplodbheaaBase
namespace Go.Proofs.Ytokefhplodbheaa
open Go.RowKit
def pageI (at_ : Int) : Int := if at_ < 0 then -1 else at_ / 64
def baseI (page : Int) : Int := if page < 0 ∨ 1024 < page then -1 else page * 64
theorem arena_Page (at_ : Int) (w : World) (h : I64 at_) :
    Calls Try.prog 29 #[.int .i64 at_] w fun e w' => e = .returned (.int .i64 (pageI at_)) ∧ w = w' := by
  obtain ⟨h0, h1⟩ := h
  by_cases c : at_ < 0
  · have H := Lib.hid (show pageI at_ = -1 by simp [pageI, c])
    go_enter Try.func29, Try.ntmps29
    go_wp2
    go_ret
    exact ⟨ret_i H.out, rfl⟩
  · have H := Lib.hid (show pageI at_ = at_ / 64 by simp [pageI, c])
    go_enter Try.func29, Try.ntmps29
    go_wp2
    go_ret
    exact ⟨ret_i H.out, rfl⟩
end Go.Proofs.Ytokefhplodbheaa
