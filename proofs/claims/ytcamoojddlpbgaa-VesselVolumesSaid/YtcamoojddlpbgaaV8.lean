import Derived.Test.YtcamoojddlpbgaaV7
namespace Go.Proofs.Ytcamoojddlpbgaa.V
open Go.Proofs.Try
set_option linter.unusedSimpArgs false
set_option linter.unusedVariables false
set_option maxRecDepth 4000
/-! ### Check -/
theorem chk_ok {v : List Ring} (h : Valid v) : chkV v = 0 := by unfold chkV; rw [if_pos h]
theorem chk_no {v : List Ring} (h : ¬ Valid v) : chkV v = 20 := by unfold chkV; rw [if_neg h]
theorem d35 (v : List Ring) : Does prog 35 [vesV v] (.int .i64 (chkV v)) := by
  refine does_of_tab mixed t35 ?_
  unfold k35
  simp -implicitDefEqProofs [vesV]
  by_cases h1 : (v.length : Int) < 1
  · have hc : chkV v = 20 := chk_no fun h => by have := h.1; omega
    simp -implicitDefEqProofs [h1, hc]
  by_cases h2 : 24 < (v.length : Int)
  · have hc : chkV v = 20 := chk_no fun h => by have := h.2.1; omega
    simp -implicitDefEqProofs [h1, h2, hc]
  simp -implicitDefEqProofs [h1, h2]
  refine wk_fam (fun i : Nat => ⟨regsOf 49 [(0, .p (.sl (v.map ringV))), (13, .p (.sl (v.map ringV))), (14, .p (.int .i64 v.length)), (15, .p (.int .i64 i))], [], [], 0, false⟩)
    (fun i => i ≤ v.length ∧ ∀ j, j < i → okAt v j) (fun i => v.length - i) 0 ⟨Nat.zero_le _, fun j h => by omega⟩ ⟨some [0, 13, 14, 15], [], by simp, by simp -implicitDefEqProofs⟩ fun G i hp hG => ?_
  simp -implicitDefEqProofs
  refine onB_split (fun h => ?_) (fun h => ?_) <;> simp at h
  · obtain ⟨r, hr⟩ : ∃ r, v[i] = r := ⟨_, rfl⟩
    have e1 : v[i]? = some r := by rw [← hr]; exact List.getElem?_eq_getElem h
    have e2 : (i : Int) < v.length := by omega
    simp -implicitDefEqProofs [h, hr, e1, e2, ringV_eq]
    refine dcall_ (d94 r) ?_
    by_cases hR : isRingB r = false
    · have hc : chkV v = 20 := chk_no fun hv => by rw [hv.ring e1] at hR; cases hR
      simp -implicitDefEqProofs [hR, hc]
    · have e3 : IntKind.i64.wrap ((i : Int) + 1) = (i : Int) + 1 := wrap_id (by omega) (by omega)
      simp only [Bool.not_eq_false] at hR
      simp -implicitDefEqProofs [hR]
      cases i with
      | zero =>
        have e3' : IntKind.i64.wrap 1 = 1 := rfl
        simp -implicitDefEqProofs [e3']
        refine hG 1 _ (some [0, 13, 14, 15]) [] (by simp) (by simp -implicitDefEqProofs) ⟨h, fun j hj => ?_⟩ (by omega)
        have : j = 0 := by omega
        subst this
        exact ⟨r, e1, hR, fun j p hj => by omega⟩
      | succ k =>
        obtain ⟨p, hpk⟩ : ∃ p, v[k] = p := ⟨_, rfl⟩
        have e4 : v[k]? = some p := by rw [← hpk]; exact List.getElem?_eq_getElem _
        obtain ⟨p', h5, h6, h7⟩ := hp.2 k (by omega)
        rw [e4] at h5; cases h5
        have b1 := ring_of hR
        have b2 := ring_of h6
        have m1 : 0 ≤ r.v * p.d := Int.mul_nonneg (by omega) (by omega)
        have m2 : 0 ≤ p.v * r.d := Int.mul_nonneg (by omega) (by omega)
        have m3 : r.v * p.d ≤ 100000 * 20000 := Int.mul_le_mul (by omega) (by omega) (by omega) (by omega)
        have m4 : p.v * r.d ≤ 100000 * 20000 := Int.mul_le_mul (by omega) (by omega) (by omega) (by omega)
        have w1 : IntKind.i64.wrap (r.v * p.d) = r.v * p.d := wrap_id (by omega) (by omega)
        have w2 : IntKind.i64.wrap (p.v * r.d) = p.v * r.d := wrap_id (by omega) (by omega)
        have w3 : IntKind.i64.wrap ((k : Int) + 1 - 1) = (k : Int) := by rw [wrap_id (by omega) (by omega)]; omega
        have e5 : (k : Int) < v.length := by omega
        have e6 : k < v.length := by omega
        have e7 : (0 : Int) < (k : Int) + 1 := by omega
        have e8 : (k : Int) + 1 - 1 = k := by omega
        have e9 : IntKind.i64.wrap (k : Int) = k := wrap_id (by omega) (by omega)
        simp -implicitDefEqProofs [e3, e4, e5, e6, e7, w3, e8, e9, hpk, ringV_eq, w1, w2]
        refine onB_dec (fun h' => ?_) (fun h' => ?_)
        · have hc : chkV v = 20 := chk_no fun hv => by
            obtain ⟨r', q1, q2, q3⟩ := hv.2.2 (k + 1) h
            rw [e1] at q1; cases q1
            have := q3 k p rfl e4
            omega
          simp -implicitDefEqProofs [hc]
        · have e3' : IntKind.i64.wrap ((k : Int) + 1 + 1) = (k : Int) + 1 + 1 := wrap_id (by omega) (by omega)
          simp -implicitDefEqProofs [e3']
          refine hG (k + 1 + 1) _ (some [0, 13, 14, 15]) [] (by simp) (by simp -implicitDefEqProofs) ⟨h, fun j hj => ?_⟩ (by omega)
          by_cases hjk : j < k + 1
          · exact hp.2 j hjk
          · have : j = k + 1 := by omega
            subst this
            refine ⟨r, e1, hR, fun j p' hj hp' => ?_⟩
            have : j = k := by omega
            subst this
            rw [e4] at hp'; cases hp'
            omega
  · have hv : Valid v := ⟨by omega, by omega, fun j hj => hp.2 j (by omega)⟩
    simp -implicitDefEqProofs [chk_ok hv]
end Go.Proofs.Ytcamoojddlpbgaa.V
