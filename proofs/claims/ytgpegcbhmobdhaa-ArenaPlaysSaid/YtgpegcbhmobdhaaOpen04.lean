/- The acts that came in (layer 4). -/
import Derived.Test.YtgpegcbhmobdhaaLaw04P
namespace Go.Proofs.Ytgpegcbhmobdhaa
open Go.ChangeShapes Go.WideShapes Go.ChangeAt Go.RowKit Go.Deep

theorem sh04_is : sh04.isT Try.prog (.inl 48) :=
  ⟨_, Try.underlying48, by kernel_rfl, by decide, _, Try.underlying52, by kernel_rfl,
    rfl, by kernel_rfl, Try.underlying3, rfl, by kernel_rfl, Try.underlying3, rfl, by kernel_rfl, Try.underlying3, rfl, by kernel_rfl, Try.underlying3,
    rfl, by kernel_rfl, ⟨_, Try.underlying30, by kernel_rfl, by decide, Try.underlying33⟩, trivial⟩

theorem arg_acts04 {H : Type} {enc : TypeId × Value → H} {W : World} {a : Option Addr} {len cap : Nat} {d : DataW H} {ps : List MemPlace}
    (h : DataW.Trod enc Try.prog W 0 (fun _ => true) true 48 (.slice a len cap) d ps) : ∃ xs, Acts04 W a len xs :=
  acts04 (arg_shape sh04 sh04_is h)
end Go.Proofs.Ytgpegcbhmobdhaa
