/- Contracts of Go functions that the statement reaches, proved by walking their text, and plain laws over them (texts put together). -/
import Derived.Test.YtfhambfgjigneaaKS12
set_option linter.unusedVariables false
set_option linter.unusedSimpArgs false
set_option maxHeartbeats 64000000
set_option maxRecDepth 100000
namespace Go.Proofs.Ytfhambfgjigneaa
open Go.RowKit
open Go.ChangeShapes Go.WideShapes Go.Deep
theorem arg40 {H : Type} {enc : TypeId × Value → H} {w : World} {base b0 : Nat} {spare : Nat → Bool} {held : Bool} {r : Reach} {v : Value} {d : DataW H} {p : List MemPlace} (hv : Value.okWide Try.prog w r b0 40 v) (h : DataW.Trod enc Try.prog w base spare held 40 v d p) : ∃ f, FR0 w v f := by
 obtain ⟨cs, rfl, _⟩ := okWide_struct Try.underlying40 hv
 obtain ⟨fuel, hf⟩ := h
 obtain ⟨q, hq⟩ := open40 hf
 have hq' : FR0 w (.agg cs.toList.toArray) q := hq
 rw [Array.toArray_toList] at hq'
 exact ⟨q, hq'⟩
end Go.Proofs.Ytfhambfgjigneaa
