import Derived.Test.YtcamoojddlpbgaaV18
namespace Go.Proofs.Ytcamoojddlpbgaa.V
open Go.Proofs.Try
set_option linter.unusedSimpArgs false
set_option linter.unusedVariables false
set_option maxRecDepth 4000
theorem law4 (v : List Ring) (a m u : Int) : Does prog 4 [vesV v, .int .i64 a, .int .i64 m, .int .i64 u] (.bool true) := by
  refine does_of_tab mixed t4 ?_
  obtain ⟨V, hV⟩ : ∃ V : List PV, vesV v = .sl V := ⟨_, rfl⟩
  have hF := d16 [v] (by simp)
  have h1 := d23 v a m
  have h2 := d24 v a m
  have h3 := d25 v a u
  have h4 := d26 v a u
  have h5 := d27 v a u
  have h6 := d28 v a u
  simp only [List.map_cons, List.map_nil] at hF
  rw [hV] at hF h1 h2 h3 h4 h5 h6 ⊢
  obtain ⟨⟨⟨x1, x2⟩, x3⟩, e1⟩ : ∃ s, s = runS v a m := ⟨_, rfl⟩
  obtain ⟨⟨⟨y1, y2⟩, y3⟩, e2⟩ : ∃ s, s = untilS v a u := ⟨_, rfl⟩
  obtain ⟨⟨⟨z1, z2⟩, z3⟩, e3⟩ : ∃ s, s = pouredS v a u := ⟨_, rfl⟩
  rw [← e1] at h1 h2
  rw [← e2] at h3 h4
  rw [← e3] at h5 h6
  simp only [saidV, spanV] at h1 h2 h3 h4 h5 h6
  unfold k4
  simp -implicitDefEqProofs
  refine call_ sane_does ?_
  simp -implicitDefEqProofs
  refine call_flat hF (.bool _) ?_
  cases fewB [v]
  · simp -implicitDefEqProofs
  simp -implicitDefEqProofs
  refine call_ h1 ?_
  simp -implicitDefEqProofs
  refine call_ h2 ?_
  simp -implicitDefEqProofs
  refine call_ h3 ?_
  simp -implicitDefEqProofs
  refine call_ h4 ?_
  simp -implicitDefEqProofs
  refine call_ h5 ?_
  simp -implicitDefEqProofs
  refine call_ h6 ?_
  simp -implicitDefEqProofs [intPs]
end Go.Proofs.Ytcamoojddlpbgaa.V
