import Derived.Test.YtcamoojddlpbgaaV9
namespace Go.Proofs.Ytcamoojddlpbgaa.V
open Go.Proofs.Try
set_option linter.unusedSimpArgs false
set_option linter.unusedVariables false
set_option maxRecDepth 4000
/-! ### The specification: Check, Sums, lowest, span, less -/
theorem d100 (r : Ring) : Does prog 100 [ringV r] (.bool (isRingB r)) := by
  refine does_of_tab mixed t100 ?_
  unfold k100
  simp -implicitDefEqProofs [ringV_eq]
  refine call_ (d93 r.h 1 1000) ?_
  by_cases h1 : 1 ≤ r.h ∧ r.h ≤ 1000
  · simp -implicitDefEqProofs [h1]
    refine call_ (d93 r.v 1 100000) ?_
    by_cases h2 : 1 ≤ r.v ∧ r.v ≤ 100000
    · simp -implicitDefEqProofs [h2]
      refine call_ (d93 r.d 1 20000) ?_
      simp -implicitDefEqProofs [isRingB, h1, h2]
    · have : (decide (1 ≤ r.v) && decide (r.v ≤ 100000)) = false := by simpa using h2
      have e : isRingB r = false := by simp only [isRingB]; rw [Bool.and_assoc (decide (1 ≤ r.h) && decide (r.h ≤ 1000)), this]; simp
      simp -implicitDefEqProofs [this, e]
  · have : (decide (1 ≤ r.h) && decide (r.h ≤ 1000)) = false := by simpa using h1
    have e : isRingB r = false := by simp only [isRingB]; rw [this]; simp
    simp -implicitDefEqProofs [this, e]
theorem d74 {n d : Int} (h0 : 0 ≤ n) (hd : 0 < d) (hn : n < 2^61) (hd2 : d < 2^61) : Does prog 74 [.int .i64 n, .int .i64 d] (spanV (spanQ ((n : Rat) / d))) := by
  rw [← span_frac hd]
  refine does_of_tab mixed t74 ?_
  have l1 : n / d ≤ n := Int.ediv_le_self _ h0
  have l2 : 0 ≤ n / d := Int.ediv_nonneg h0 (by omega)
  have l3 : (n + d - 1) / d ≤ n + d - 1 := Int.ediv_le_self _ (by omega)
  have l4 : 0 ≤ (n + d - 1) / d := Int.ediv_nonneg (by omega) (by omega)
  have e1 : n.tdiv d = n / d := Int.tdiv_eq_ediv_of_nonneg h0
  have e2 : (n + d - 1).tdiv d = (n + d - 1) / d := Int.tdiv_eq_ediv_of_nonneg (by omega)
  have w1 : IntKind.i64.wrap (n / d) = n / d := wrap_id (by omega) (by omega)
  have w2 : IntKind.i64.wrap (n + d) = n + d := wrap_id (by omega) (by omega)
  have w3 : IntKind.i64.wrap (n + d - 1) = n + d - 1 := wrap_id (by omega) (by omega)
  have w4 : IntKind.i64.wrap ((n + d - 1) / d) = (n + d - 1) / d := wrap_id (by omega) (by omega)
  have d0 : d ≠ 0 := by omega
  unfold k74
  simp -implicitDefEqProofs [d0, w1, w2, w3, w4, e1, e2, spanV]
theorem d68 {a b c d : Int} (hb : 0 < b) (hd : 0 < d) (h1 : 0 ≤ a * d ∧ a * d < 2^60) (h2 : 0 ≤ c * b ∧ c * b < 2^60) (h3 : b * d < 2^60) (h4 : c * b ≤ a * d) : Does prog 68 [.int .i64 a, .int .i64 b, .int .i64 c, .int .i64 d] (spanV (spanQ ((a : Rat) / b - (c : Rat) / d))) := by
  have hbd : 0 < b * d := Int.mul_pos hb hd
  have e : (a : Rat) / b - (c : Rat) / d = ((a * d - c * b : Int) : Rat) / ((b * d : Int) : Rat) := by
    rw [Rat.intCast_sub, Rat.intCast_mul, Rat.intCast_mul, Rat.intCast_mul]
    have z1 : (b : Rat) ≠ 0 := cast_ne (by omega)
    have z2 : (d : Rat) ≠ 0 := cast_ne (by omega)
    grind
  rw [e]
  refine does_of_tab mixed t68 ?_
  have w1 : IntKind.i64.wrap (a * d) = a * d := wrap_id (by omega) (by omega)
  have w2 : IntKind.i64.wrap (c * b) = c * b := wrap_id (by omega) (by omega)
  have w3 : IntKind.i64.wrap (a * d - c * b) = a * d - c * b := wrap_id (by omega) (by omega)
  have w4 : IntKind.i64.wrap (b * d) = b * d := wrap_id (by omega) (by omega)
  unfold k68
  simp -implicitDefEqProofs [w1, w2, w3, w4]
  refine call_ (d74 (n := a * d - c * b) (d := b * d) (by omega) hbd (by omega) (by omega)) ?_
  simp -implicitDefEqProofs [spanV]
theorem d112 {ring n d : Int} (hn : 0 ≤ n) (hd : 0 < d) (hn2 : n < 2^62) (hd2 : d < 2^62) : Does prog 112 [.int .i64 ring, .int .i64 n, .int .i64 d] (plcV ⟨ring, n / (Int.gcd n d : Int), d / (Int.gcd n d : Int)⟩) := by
  refine does_of_tab mixed t112 ?_
  unfold k112
  simp -implicitDefEqProofs
  refine wk_fam (fun q : Int × Int => ⟨regsOf 27 [(0, .p (.int .i64 ring)), (1, .p (.int .i64 n)), (2, .p (.int .i64 d)), (6, .bp 0 0 0), (7, .p (.int .i64 q.1)), (8, .p (.int .i64 q.2))], [], [some ⟨0, 85, [.p (.int .i64 0), .p (.int .i64 0), .p (.int .i64 0)]⟩], 0, false⟩)
    (fun q => 0 ≤ q.1 ∧ 0 ≤ q.2 ∧ Int.gcd q.1 q.2 = Int.gcd n d) (fun q => q.2.toNat) (n, d) ⟨hn, by simp only; omega, rfl⟩ ⟨some [0, 1, 2, 6, 7, 8], [0], by simp, by simp -implicitDefEqProofs⟩ fun G q hp hG => ?_
  obtain ⟨a, b⟩ := q
  obtain ⟨ha, hb, hg⟩ := hp
  simp only at ha hb hg
  simp -implicitDefEqProofs
  refine onB_split (fun h => ?_) (fun h => ?_) <;> simp at h
  · simp -implicitDefEqProofs [h]
    refine hG (b, a % b) _ (some [0, 1, 2, 6, 7, 8]) [0] (by simp) ?_ ⟨hb, Int.emod_nonneg _ h, ?_⟩ ?_
    · simp -implicitDefEqProofs
      exact Int.tmod_eq_emod_of_nonneg ha
    · simp only; rw [← hg, gcd_mod]
    · simp only
      have := Int.emod_lt_of_pos a (show 0 < b by omega)
      have := Int.emod_nonneg a h
      omega
  · subst h
    rw [Int.gcd_zero_right] at hg
    have hg' : a = (n.gcd d : Int) := by omega
    have g0 : 0 < Int.gcd n d := Int.gcd_pos_of_ne_zero_right _ (by omega)
    have ha0 : a ≠ 0 := by omega
    have hr : n.tdiv a = n / a := Int.tdiv_eq_ediv_of_nonneg hn
    have hq : d.tdiv a = d / a := Int.tdiv_eq_ediv_of_nonneg (by omega)
    have l1 : n / a ≤ n := Int.ediv_le_self _ hn
    have l2 : d / a ≤ d := Int.ediv_le_self _ (by omega)
    have l3 : 0 ≤ n / a := Int.ediv_nonneg hn ha
    have l4 : 0 ≤ d / a := Int.ediv_nonneg (by omega) ha
    have w1 : IntKind.i64.wrap (n / a) = n / a := wrap_id (by omega) (by omega)
    have w2 : IntKind.i64.wrap (d / a) = d / a := wrap_id (by omega) (by omega)
    simp -implicitDefEqProofs [ha0, hr, hq, w1, w2, plcV, ← hg']
theorem d80 {v : List Ring} (hv : Valid v) {i : Nat} (hi : i ≤ v.length) : Does prog 80 [vesV v, .int .i64 i] (ringV ⟨sumF (·.h) v i, sumF (·.v) v i, sumF (·.d) v i⟩) := by
  refine does_of_tab mixed t80 ?_
  have hl := hv.2.1
  unfold k80
  simp -implicitDefEqProofs [vesV]
  refine wk_fam (fun k : Nat => ⟨regsOf 40 [(0, .p (.sl (v.map ringV))), (1, .p (.int .i64 i)), (4, .bp 0 0 0), (5, .bp 1 0 0), (6, .p (.int .i64 k))], [], [some ⟨0, 68, [.p (.int .i64 0), .p (.int .i64 0), .p (.int .i64 0)]⟩, some ⟨0, 68, [.p (.int .i64 (sumF (·.h) v k)), .p (.int .i64 (sumF (·.v) v k)), .p (.int .i64 (sumF (·.d) v k))]⟩], 0, false⟩)
    (fun k => k ≤ i) (fun k => i - k) 0 (Nat.zero_le _) ⟨some [0, 1, 4, 5, 6], [0, 1], by simp, by simp -implicitDefEqProofs [List.idxOf?_cons, sumF_zero]⟩ fun G k hp hG => ?_
  simp -implicitDefEqProofs
  refine onB_split (fun h => ?_) (fun h => ?_) <;> simp at h
  · have hkl : k < v.length := by omega
    obtain ⟨r, hr⟩ : ∃ r, v[k] = r := ⟨_, rfl⟩
    have e1 : v[k]? = some r := by rw [← hr]; exact List.getElem?_eq_getElem hkl
    have e2 : (k : Int) < v.length := by omega
    have e3 : IntKind.i64.wrap ((k : Int) + 1) = (k : Int) + 1 := wrap_id (by omega) (by omega)
    have s1 := sum_bd' hv sz_h (i := k + 1) (by omega)
    have s2 := sum_bd' hv sz_v (i := k + 1) (by omega)
    have s3 := sum_bd' hv sz_d (i := k + 1) (by omega)
    have f1 := sumF_succ (·.h) v k r e1
    have f2 := sumF_succ (·.v) v k r e1
    have f3 := sumF_succ (·.d) v k r e1
    have w1 : IntKind.i64.wrap (sumF (·.h) v k + r.h) = sumF (·.h) v (k + 1) := by rw [f1]; exact wrap_id (by omega) (by omega)
    have w2 : IntKind.i64.wrap (sumF (·.v) v k + r.v) = sumF (·.v) v (k + 1) := by rw [f2]; exact wrap_id (by omega) (by omega)
    have w3 : IntKind.i64.wrap (sumF (·.d) v k + r.d) = sumF (·.d) v (k + 1) := by rw [f3]; exact wrap_id (by omega) (by omega)
    simp -implicitDefEqProofs [hkl, hr, e1, e2, e3, ringV_eq, w1, w2, w3]
    refine hG (k + 1) _ (some [0, 1, 4, 5, 6]) [0, 1] (by simp) (by simp -implicitDefEqProofs [List.idxOf?_cons]) h (by omega)
  · have : k = i := by omega
    subst this
    simp -implicitDefEqProofs [ringV_eq]
theorem d92 {v : List Ring} (hv : Valid v) : Does prog 92 [vesV v] (.int .i64 (hiF (·.h) v)) := by
  refine does_of_tab mixed t92 ?_
  have h := d80 hv (Nat.le_refl v.length)
  unfold vesV at h ⊢
  unfold k92
  simp -implicitDefEqProofs
  refine call_ h ?_
  simp -implicitDefEqProofs [ringV_eq, hiF]
end Go.Proofs.Ytcamoojddlpbgaa.V
