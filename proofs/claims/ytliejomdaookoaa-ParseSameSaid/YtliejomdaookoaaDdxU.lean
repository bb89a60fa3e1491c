/- Dd, part U: the value of a result. -/
import Derived.Test.YtliejomdaookoaaDdxR
import Derived.KernelRfl
namespace Go.Dd

noncomputable def val (r : Res) : DV := Option.rec (motive := fun _ => DV) .u (fun p => p.1) r

theorem val_b {r : Res} {b : Bool} (h : val r = .b b) : ∃ h1, r = some (.b b, h1) := by
  cases r with
  | none => cases h
  | some p =>
    obtain ⟨v, h1⟩ := p
    have : v = .b b := h
    exact ⟨h1, by rw [this]⟩

end Go.Dd
