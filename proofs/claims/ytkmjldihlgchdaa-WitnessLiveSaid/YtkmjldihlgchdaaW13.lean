/- An ID as an argument. -/
import Derived.Test.YtkmjldihlgchdaaW12
import Derived.Test.YtkmjldihlgchdaaW8
set_option linter.all false
set_option linter.unusedVariables false
set_option linter.unusedSimpArgs false
set_option maxRecDepth 10000
namespace Go.Proofs.Ytkmjldihlgchdaa.M
variable {H : Type} {enc : TypeId × Value → H} {w : World} {spare : Nat → Bool} {held : Bool}
theorem idarg_of {v : Value} {d : DataW H} {ps : List MemPlace} (h : DataW.Trod enc Try.prog w 0 spare held 24 v d ps) (hs : Sz Try.prog 24 d) : ∃ x : Int × Int, v = .agg (idc x).toArray := by
  obtain ⟨n, h⟩ := h
  obtain ⟨z, hz, _⟩ := id_of h hs
  have hv := agg_of_cells (v := v) (n := 2) (by rw [hz]; rfl) rfl
  rw [hz] at hv
  exact ⟨z, hv⟩
end Go.Proofs.Ytkmjldihlgchdaa.M
