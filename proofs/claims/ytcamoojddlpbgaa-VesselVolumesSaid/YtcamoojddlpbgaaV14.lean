import Derived.Test.YtcamoojddlpbgaaV13
import Derived.Test.YtcamoojddlpbgaaV0
namespace Go.Proofs.Ytcamoojddlpbgaa.V
open Go.Proofs.Try
set_option linter.unusedSimpArgs false
set_option linter.unusedVariables false
set_option maxRecDepth 4000
/-! ### few, and the law of levels -/
theorem d60 (v : List Ring) : Does prog 60 [vesV v] (.bool (decide (40 < v.length))) := by
  refine does_of_tab mixed t60 ?_
  unfold k60
  simp -implicitDefEqProofs [vesV]
  omega
def bigI (vs : List (List Ring)) : Nat := vs.findIdx fun v => decide (40 < v.length)
def bigR (vs : List (List Ring)) : Int := if bigI vs < vs.length then bigI vs else -1
theorem vesV_plain (v : List Ring) : (vesV v).cells = [vesV v] := rfl
theorem d105 (vs : List (List Ring)) (hl : (vs.length : Int) < 2^30) : Does prog 105 [.sl (vs.map vesV), .fn 60 [] []] (.int .i64 (bigR vs)) := by
  refine does_of_tab mixed t105 ?_
  have hle : bigI vs ≤ vs.length := List.findIdx_le_length
  unfold k105
  simp -implicitDefEqProofs
  refine wk_fam (fun i : Nat => ⟨regsOf 19 [(0, .p (.sl (vs.map vesV))), (1, .p (.fn 60 [] [])), (6, .p (.sl (vs.map vesV))), (7, .p (.int .i64 vs.length)), (8, .p (.int .i64 i))], [], [], 0, false⟩)
    (fun i => i ≤ bigI vs) (fun i => bigI vs + 1 - i) 0 (Nat.zero_le _) ⟨some [0, 1, 6, 7, 8], [], by simp, by simp -implicitDefEqProofs⟩ fun G i hp hG => ?_
  simp -implicitDefEqProofs
  refine onB_split (fun h => ?_) (fun h => ?_) <;> simp at h
  · obtain ⟨w, hw⟩ : ∃ w, vs[i] = w := ⟨_, rfl⟩
    have e1 : vs[i]? = some w := by rw [← hw]; exact List.getElem?_eq_getElem h
    have e2 : (i : Int) < vs.length := by omega
    have e3 : IntKind.i64.wrap ((i : Int) + 1) = (i : Int) + 1 := wrap_id (by omega) (by omega)
    obtain ⟨V, hV⟩ : ∃ V : List PV, vesV w = .sl V := ⟨_, rfl⟩
    have hD := d60 w
    rw [hV] at hD
    simp -implicitDefEqProofs [h, hw, e1, e2, hV]
    refine call_ hD ?_
    simp -implicitDefEqProofs
    refine onB_split (fun h' => ?_) (fun h' => ?_)
    · have hi : bigI vs = i := by
        refine Nat.le_antisymm (Nat.le_of_not_lt fun hlt => ?_) hp
        have := List.not_of_lt_findIdx (p := fun v : List Ring => decide (40 < v.length)) hlt
        rw [hw] at this
        rw [this] at h'; cases h'
      have hR : bigR vs = i := by unfold bigR; rw [hi, if_pos h]
      simp -implicitDefEqProofs [hR]
    · have hi : bigI vs ≠ i := fun hi => by
        have hlt : bigI vs < vs.length := by omega
        have := List.findIdx_getElem (p := fun v : List Ring => decide (40 < v.length)) (xs := vs) (w := hlt)
        have e : vs[bigI vs] = w := by rw [← hw]; congr 1
        have e' : (decide (40 < (vs[bigI vs]).length)) = true := this
        rw [e] at e'
        rw [e'] at h'; cases h'
      simp -implicitDefEqProofs [e3]
      refine hG (i + 1) _ (some [0, 1, 6, 7, 8]) [] (by simp) (by simp -implicitDefEqProofs) (by omega) (by omega)
  · have hR : bigR vs = -1 := by unfold bigR; rw [if_neg (by omega)]
    simp -implicitDefEqProofs [hR]
def fewB (vs : List (List Ring)) : Bool := !decide (0 ≤ bigR vs)
theorem d16 (vs : List (List Ring)) (hl : (vs.length : Int) < 2^30) : Does prog 16 [.sl (vs.map vesV)] (.bool (fewB vs)) := by
  have h59 : Does prog 59 [.sl (vs.map vesV), .fn 60 [] []] (.bool (decide (0 ≤ bigR vs))) := by
    refine does_of_tab mixed t59 ?_
    unfold k59
    simp -implicitDefEqProofs
    refine call_ (d105 vs hl) ?_
    simp -implicitDefEqProofs
  refine does_of_tab mixed t16 ?_
  unfold k16
  simp -implicitDefEqProofs
  refine call_ h59 ?_
  simp -implicitDefEqProofs [fewB]
theorem law3 (v : List Ring) (a b m : Int) : Does prog 3 [vesV v, .int .i64 a, .int .i64 b, .int .i64 m] (.bool true) := by
  refine does_of_tab mixed t3 ?_
  obtain ⟨V, hV⟩ : ∃ V : List PV, vesV v = .sl V := ⟨_, rfl⟩
  have hF := d16 [v] (by simp)
  have h1 := d17 v a b
  have h2 := d18 v a b
  have h3 := d19 v a m
  have h4 := d20 v a m
  have h5 := d21 v b m
  have h6 := d22 v b m
  simp only [List.map_cons, List.map_nil] at hF
  rw [hV] at hF h1 h2 h3 h4 h5 h6 ⊢
  obtain ⟨⟨⟨x1, x2⟩, x3⟩, e1⟩ : ∃ s, s = sinkS v a b := ⟨_, rfl⟩
  obtain ⟨⟨⟨y1, y2⟩, y3⟩, e2⟩ : ∃ s, s = afterS v a m := ⟨_, rfl⟩
  obtain ⟨⟨⟨z1, z2⟩, z3⟩, e3⟩ : ∃ s, s = beforeS v b m := ⟨_, rfl⟩
  rw [← e1] at h1 h2
  rw [← e2] at h3 h4
  rw [← e3] at h5 h6
  simp only [saidV, spanV] at h1 h2 h3 h4 h5 h6
  unfold k3
  simp -implicitDefEqProofs
  refine call_ sane_does ?_
  simp -implicitDefEqProofs
  refine call_flat hF (.bool _) ?_
  cases fewB [v]
  · simp -implicitDefEqProofs
  simp -implicitDefEqProofs
  refine call_ h1 ?_
  simp -implicitDefEqProofs
  refine call_ h2 ?_
  simp -implicitDefEqProofs
  refine call_ h3 ?_
  simp -implicitDefEqProofs
  refine call_ h4 ?_
  simp -implicitDefEqProofs
  refine call_ h5 ?_
  simp -implicitDefEqProofs
  refine call_ h6 ?_
  simp -implicitDefEqProofs [intPs]
end Go.Proofs.Ytcamoojddlpbgaa.V
