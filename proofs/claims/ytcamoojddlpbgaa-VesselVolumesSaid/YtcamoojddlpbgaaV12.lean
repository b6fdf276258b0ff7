import Derived.Test.YtcamoojddlpbgaaV11
namespace Go.Proofs.Ytcamoojddlpbgaa.V
open Go.Proofs.Try
set_option linter.unusedSimpArgs false
set_option linter.unusedVariables false
set_option maxRecDepth 4000
theorem hi_bd {f : Ring → Int} {B : Int} {v : List Ring} (hv : Valid v) (hf : Sz f B) : 0 ≤ hiF f v ∧ hiF f v ≤ 2400000 := sum_bd' hv hf (Nat.le_refl _)
theorem d67 {v : List Ring} (hv : Valid v) {n : Int} (h0 : 0 ≤ n) (h1 : n ≤ hiF (·.h) v) : ∃ p, Does prog 67 [vesV v, .int .i64 n] (plcV p) ∧ PlcOk v (·.h) n 1000 p := by
  obtain ⟨c, r, hc, q1, q2, q3⟩ := first_ex hv sz_h (d := 1) h0 (by omega)
  have hp := place_ok hv sz_h Int.one_pos hc q2 q3
  have e1 : ((n : Rat) / (1 : Int)) = n := by grind
  rw [e1] at hp
  simp only [Int.mul_one] at hp q1 q2 q3
  have hcl := (List.getElem?_eq_some_iff.1 hc).1
  have hl := hv.2.1
  have hh := hi_bd hv sz_h
  refine ⟨_, ?_, hp⟩
  refine does_of_tab mixed t67 ?_
  have hS : ∀ {i : Nat}, i ≤ v.length → Does prog 80 [.sl (v.map ringV), .int .i64 i] (ringV ⟨sumF (·.h) v i, sumF (·.v) v i, sumF (·.d) v i⟩) := fun hi => d80 hv hi
  unfold k67
  simp -implicitDefEqProofs [vesV]
  refine wk_fam (fun k : Nat => ⟨regsOf 41 [(0, .p (.sl (v.map ringV))), (1, .p (.int .i64 n)), (4, .bp 0 0 0), (5, .p (.int .i64 k))], [], [some ⟨0, 85, [.p (.int .i64 0), .p (.int .i64 0), .p (.int .i64 0)]⟩], 0, false⟩)
    (fun k => k ≤ c) (fun k => c - k) 0 (Nat.zero_le _) ⟨some [0, 1, 4, 5], [0], by simp, by simp -implicitDefEqProofs [List.idxOf?_cons]⟩ fun G k hp hG => ?_
  have hkl : k < v.length := by omega
  obtain ⟨s, hs⟩ : ∃ s, v[k] = s := ⟨_, rfl⟩
  have e1 : v[k]? = some s := by rw [← hs]; exact List.getElem?_eq_getElem hkl
  have e2 : (k : Int) < v.length := by omega
  have e3 : IntKind.i64.wrap ((k : Int) + 1) = (k : Int) + 1 := wrap_id (by omega) (by omega)
  have f1 := sumF_succ (·.h) v k s e1
  have s1 := sum_bd' hv sz_h (i := k + 1) (by omega)
  have s0 := sum_bd' hv sz_h (i := k) (by omega)
  have w1 : IntKind.i64.wrap (sumF (·.h) v k + s.h) = sumF (·.h) v (k + 1) := by rw [f1]; exact wrap_id (by omega) (by omega)
  have w2 : IntKind.i64.wrap (n - sumF (·.h) v k) = n - sumF (·.h) v k := wrap_id (by omega) (by omega)
  simp -implicitDefEqProofs [hkl]
  refine call_ (hS (Nat.le_of_lt hkl)) ?_
  simp -implicitDefEqProofs [hkl, hs, e1, e2, e3, ringV_eq, w1]
  refine onB_dec (fun h => ?_) (fun h => ?_)
  · have : k = c := by
      refine Nat.le_antisymm hp (Nat.le_of_not_lt fun hlt => ?_)
      have := q1 k hlt; omega
    subst this
    rw [hc] at e1; cases e1
    have hr := ring_of (hv.ring hc)
    simp -implicitDefEqProofs [hkl, hs, e2, e3, ringV_eq, w1, w2]
    refine dcall_ (d112 (ring := (k : Int)) (n := n - sumF (·.h) v k) (d := r.h) (by omega) (by omega) (by omega) (by omega)) ?_
    simp -implicitDefEqProofs [plcV, lowP]
  · simp -implicitDefEqProofs [e3]
    refine hG (k + 1) _ (some [0, 1, 4, 5]) [0] (by simp) (by simp -implicitDefEqProofs [List.idxOf?_cons]) ?_ ?_
    · refine Nat.lt_of_le_of_ne hp fun h' => ?_
      subst h'; exact h q2
    · have : k ≠ c := fun h' => by subst h'; exact h q2
      omega
theorem d81 {v : List Ring} (hv : Valid v) {n d : Int} (hd : 0 < d) (hd2 : d ≤ 2^20) (h0 : 0 ≤ n) (h1 : n ≤ hiF (·.d) v * d) : ∃ p, Does prog 81 [vesV v, .int .i64 n, .int .i64 d] (plcV p) ∧ PlcOk v (·.d) ((n : Rat) / d) (20000 * d) p := by
  obtain ⟨c, r, hc, q1, q2, q3⟩ := first_ex hv sz_d h0 h1
  have hp := place_ok hv sz_d hd hc q2 q3
  have hcl := (List.getElem?_eq_some_iff.1 hc).1
  have hl := hv.2.1
  have hh := hi_bd hv sz_d
  have hM : ∀ {x : Int}, 0 ≤ x → x ≤ 2400000 → 0 ≤ x * d ∧ x * d ≤ 2400000 * 2^20 := fun {x} h h' => ⟨Int.mul_nonneg h (by omega), Int.mul_le_mul h' hd2 (by omega) (by omega)⟩
  have hn := hM hh.1 hh.2
  refine ⟨_, ?_, hp⟩
  refine does_of_tab mixed t81 ?_
  have hS : ∀ {i : Nat}, i ≤ v.length → Does prog 80 [.sl (v.map ringV), .int .i64 i] (ringV ⟨sumF (·.h) v i, sumF (·.v) v i, sumF (·.d) v i⟩) := fun hi => d80 hv hi
  unfold k81
  simp -implicitDefEqProofs [vesV]
  refine wk_fam (fun k : Nat => ⟨regsOf 49 [(0, .p (.sl (v.map ringV))), (1, .p (.int .i64 n)), (2, .p (.int .i64 d)), (6, .bp 0 0 0), (7, .p (.int .i64 k))], [], [some ⟨0, 85, [.p (.int .i64 0), .p (.int .i64 0), .p (.int .i64 0)]⟩], 0, false⟩)
    (fun k => k ≤ c) (fun k => c - k) 0 (Nat.zero_le _) ⟨some [0, 1, 2, 6, 7], [0], by simp, by simp -implicitDefEqProofs [List.idxOf?_cons]⟩ fun G k hp hG => ?_
  have hkl : k < v.length := by omega
  obtain ⟨s, hs⟩ : ∃ s, v[k] = s := ⟨_, rfl⟩
  have e1 : v[k]? = some s := by rw [← hs]; exact List.getElem?_eq_getElem hkl
  have e2 : (k : Int) < v.length := by omega
  have e3 : IntKind.i64.wrap ((k : Int) + 1) = (k : Int) + 1 := wrap_id (by omega) (by omega)
  have f1 := sumF_succ (·.d) v k s e1
  have s1 := sum_bd' hv sz_d (i := k + 1) (by omega)
  have s0 := sum_bd' hv sz_d (i := k) (by omega)
  have m1 := hM s1.1 s1.2
  have m0 := hM s0.1 s0.2
  have w1 : IntKind.i64.wrap (sumF (·.d) v k + s.d) = sumF (·.d) v (k + 1) := by rw [f1]; exact wrap_id (by omega) (by omega)
  have w2 : IntKind.i64.wrap (sumF (·.d) v (k + 1) * d) = sumF (·.d) v (k + 1) * d := wrap_id (by omega) (by omega)
  have w3 : IntKind.i64.wrap (sumF (·.d) v k * d) = sumF (·.d) v k * d := wrap_id (by omega) (by omega)
  have w4 : IntKind.i64.wrap (n - sumF (·.d) v k * d) = n - sumF (·.d) v k * d := wrap_id (by omega) (by omega)
  have hsr := ring_of (hv.ring e1)
  have m2 := hM (x := s.d) (by omega) (by omega)
  have w5 : IntKind.i64.wrap (s.d * d) = s.d * d := wrap_id (by omega) (by omega)
  simp -implicitDefEqProofs [hkl]
  refine call_ (hS (Nat.le_of_lt hkl)) ?_
  simp -implicitDefEqProofs [hkl, hs, e1, e2, e3, ringV_eq, w1, w2]
  refine onB_dec (fun h => ?_) (fun h => ?_)
  · have : k = c := by
      refine Nat.le_antisymm hp (Nat.le_of_not_lt fun hlt => ?_)
      have := q1 k hlt; omega
    subst this
    rw [hc] at e1; cases e1
    have hpos : 0 < r.d * d := Int.mul_pos (by omega) hd
    simp -implicitDefEqProofs [hkl, hs, e2, e3, ringV_eq, w1, w2, w3, w4, w5]
    refine dcall_ (d112 (ring := (k : Int)) (n := n - sumF (·.d) v k * d) (d := r.d * d) (by omega) hpos (by omega) (by omega)) ?_
    simp -implicitDefEqProofs [plcV, lowP]
  · simp -implicitDefEqProofs [e3]
    refine hG (k + 1) _ (some [0, 1, 2, 6, 7]) [0] (by simp) (by simp -implicitDefEqProofs [List.idxOf?_cons]) ?_ ?_
    · refine Nat.lt_of_le_of_ne hp fun h' => ?_
      subst h'; exact h q2
    · have : k ≠ c := fun h' => by subst h'; exact h q2
      omega
end Go.Proofs.Ytcamoojddlpbgaa.V
