import Derived.Test.YtcamoojddlpbgaaV1
namespace Go.Proofs.Ytcamoojddlpbgaa.V
open Go.Proofs.Try
set_option linter.unusedSimpArgs false
set_option linter.unusedVariables false
set_option maxRecDepth 4000
/-! ### of, less -/
def ofX (more n d : Int) : Exa := ⟨more + n / d, n % d / (Int.gcd (n % d) d : Int), d / (Int.gcd (n % d) d : Int)⟩
theorem td_pos {n d : Int} (hd : 0 < d) (h : ¬ n.tmod d < 0) : n.tdiv d = n / d ∧ n.tmod d = n % d := by
  have h1 := Int.tmod_add_mul_tdiv n d
  have h2 := Int.tmod_lt_of_pos n hd
  have : n / d = n.tdiv d ∧ n % d = n.tmod d := by
    refine (Int.ediv_emod_unique hd).2 ⟨by omega, by omega, h2⟩
  exact ⟨this.1.symm, this.2.symm⟩
theorem td_neg {n d : Int} (hd : 0 < d) (h : n.tmod d < 0) : n.tdiv d = n / d + 1 ∧ n.tmod d = n % d - d := by
  have h1 := Int.tmod_add_mul_tdiv n d
  have h2 : -d < n.tmod d := by
    have := Int.lt_tmod_of_pos n hd
    omega
  have : n / d = n.tdiv d - 1 ∧ n % d = n.tmod d + d := by
    refine (Int.ediv_emod_unique hd).2 ⟨?_, by omega, by omega⟩
    rw [Int.mul_sub]; omega
  omega
theorem gcd_mod (a b : Int) : Int.gcd b (a % b) = Int.gcd a b := by
  rw [Int.gcd_comm b, Int.gcd_comm a]
  conv => rhs; rw [← Int.emod_add_mul_ediv a b]
  simp [Int.gcd_comm]
theorem d101 (more n d : Int) (hd : 0 < d ∧ d < 2^62) (hn : -2^62 < n ∧ n < 2^62) (hm : -2^61 < more ∧ more < 2^61 ∧ -2^61 < n / d ∧ n / d < 2^61) : Does prog 101 [.int .i64 more, .int .i64 n, .int .i64 d] (exaV (ofX more n d)) := by
  refine does_of_tab mixed t101 ?_
  have hd0 : d ≠ 0 := by omega
  have e0 : IntKind.i64.wrap (n.tdiv d) = n.tdiv d := by
    by_cases h : n.tmod d < 0
    · rw [(td_neg hd.1 h).1]; exact wrap_id (by omega) (by omega)
    · rw [(td_pos hd.1 h).1]; exact wrap_id (by omega) (by omega)
  have r0 := Int.emod_nonneg n hd0
  have r1 := Int.emod_lt_of_pos n hd.1
  have e5 : IntKind.i64.wrap (more + n / d) = more + n / d := wrap_id (by omega) (by omega)
  have g0 : 0 < Int.gcd (n % d) d := Int.gcd_pos_of_ne_zero_right _ hd0
  unfold k101
  simp -implicitDefEqProofs [hd0, e0]
  have e3 : IntKind.i64.wrap (n / d) = n / d := wrap_id (by omega) (by omega)
  have e4 : IntKind.i64.wrap (n % d) = n % d := wrap_id (by omega) (by omega)
  refine onB_dec (fun h => ?_) (fun h => ?_)
  · obtain ⟨e1, e2⟩ := td_neg hd.1 h
    simp -implicitDefEqProofs [e1, e2, e3, e4]
    refine wk_fam (fun q : Int × Int => ⟨regsOf 41 [(0, .p (.int .i64 more)), (1, .p (.int .i64 (n % d))), (2, .p (.int .i64 d)), (6, .bp 0 0 0), (7, .p (.int .i64 (n / d))), (8, .p (.int .i64 q.1)), (9, .p (.int .i64 q.2))], [], [some ⟨0, 79, [.p (.int .i64 0), .p (.int .i64 0), .p (.int .i64 0)]⟩], 0, false⟩)
      (fun q => 0 ≤ q.1 ∧ 0 ≤ q.2 ∧ Int.gcd q.1 q.2 = Int.gcd (n % d) d) (fun q => q.2.toNat) (n % d, d) ⟨r0, by simp only; omega, rfl⟩ ⟨some [0, 1, 2, 6, 7, 8, 9], [0], by simp, by simp -implicitDefEqProofs⟩ fun G q hp hG => ?_
    obtain ⟨a, b⟩ := q
    obtain ⟨ha, hb, hg⟩ := hp
    simp only at ha hb hg
    simp -implicitDefEqProofs
    refine onB_split (fun h => ?_) (fun h => ?_) <;> simp at h
    · have hw : IntKind.i64.wrap 0 = 0 := rfl
      simp -implicitDefEqProofs [h]
      refine hG (b, a % b) _ (some [0, 1, 2, 6, 7, 8, 9]) [0] (by simp) ?_ ⟨hb, Int.emod_nonneg _ h, ?_⟩ ?_
      · simp -implicitDefEqProofs
        exact Int.tmod_eq_emod_of_nonneg ha
      · simp only; rw [← hg, gcd_mod]
      · simp only
        have := Int.emod_lt_of_pos a (show 0 < b by omega)
        have := Int.emod_nonneg a h
        omega
    · subst h
      rw [Int.gcd_zero_right] at hg
      have hg' : a = ((n % d).gcd d : Int) := by omega
      have ha0 : a ≠ 0 := by omega
      have hr : (n % d).tdiv a = n % d / a := Int.tdiv_eq_ediv_of_nonneg r0
      have hq : d.tdiv a = d / a := Int.tdiv_eq_ediv_of_nonneg (by omega)
      have l1 : n % d / a ≤ n % d := Int.ediv_le_self _ r0
      have l2 : d / a ≤ d := Int.ediv_le_self _ (by omega)
      have l3 : 0 ≤ n % d / a := Int.ediv_nonneg r0 ha
      have l4 : 0 ≤ d / a := Int.ediv_nonneg (by omega) ha
      have w1 : IntKind.i64.wrap (n % d / a) = n % d / a := wrap_id (by omega) (by omega)
      have w2 : IntKind.i64.wrap (d / a) = d / a := wrap_id (by omega) (by omega)
      simp -implicitDefEqProofs [ha0, hr, hq, w1, w2, e5, exaV, ofX, ← hg']
  · obtain ⟨e1, e2⟩ := td_pos hd.1 h
    simp -implicitDefEqProofs [e1, e2, e3, e4]
    refine wk_fam (fun q : Int × Int => ⟨regsOf 41 [(0, .p (.int .i64 more)), (1, .p (.int .i64 (n % d))), (2, .p (.int .i64 d)), (6, .bp 0 0 0), (7, .p (.int .i64 (n / d))), (8, .p (.int .i64 q.1)), (9, .p (.int .i64 q.2))], [], [some ⟨0, 79, [.p (.int .i64 0), .p (.int .i64 0), .p (.int .i64 0)]⟩], 0, false⟩)
      (fun q => 0 ≤ q.1 ∧ 0 ≤ q.2 ∧ Int.gcd q.1 q.2 = Int.gcd (n % d) d) (fun q => q.2.toNat) (n % d, d) ⟨r0, by simp only; omega, rfl⟩ ⟨some [0, 1, 2, 6, 7, 8, 9], [0], by simp, by simp -implicitDefEqProofs⟩ fun G q hp hG => ?_
    obtain ⟨a, b⟩ := q
    obtain ⟨ha, hb, hg⟩ := hp
    simp only at ha hb hg
    simp -implicitDefEqProofs
    refine onB_split (fun h => ?_) (fun h => ?_) <;> simp at h
    · have hw : IntKind.i64.wrap 0 = 0 := rfl
      simp -implicitDefEqProofs [h]
      refine hG (b, a % b) _ (some [0, 1, 2, 6, 7, 8, 9]) [0] (by simp) ?_ ⟨hb, Int.emod_nonneg _ h, ?_⟩ ?_
      · simp -implicitDefEqProofs
        exact Int.tmod_eq_emod_of_nonneg ha
      · simp only; rw [← hg, gcd_mod]
      · simp only
        have := Int.emod_lt_of_pos a (show 0 < b by omega)
        have := Int.emod_nonneg a h
        omega
    · subst h
      rw [Int.gcd_zero_right] at hg
      have hg' : a = ((n % d).gcd d : Int) := by omega
      have ha0 : a ≠ 0 := by omega
      have hr : (n % d).tdiv a = n % d / a := Int.tdiv_eq_ediv_of_nonneg r0
      have hq : d.tdiv a = d / a := Int.tdiv_eq_ediv_of_nonneg (by omega)
      have l1 : n % d / a ≤ n % d := Int.ediv_le_self _ r0
      have l2 : d / a ≤ d := Int.ediv_le_self _ (by omega)
      have l3 : 0 ≤ n % d / a := Int.ediv_nonneg r0 ha
      have l4 : 0 ≤ d / a := Int.ediv_nonneg (by omega) ha
      have w1 : IntKind.i64.wrap (n % d / a) = n % d / a := wrap_id (by omega) (by omega)
      have w2 : IntKind.i64.wrap (d / a) = d / a := wrap_id (by omega) (by omega)
      simp -implicitDefEqProofs [ha0, hr, hq, w1, w2, e5, exaV, ofX, ← hg']
def lessX (x y : Exa) : Exa := ofX (x.w - y.w) (x.n * y.d - y.n * x.d) (x.d * y.d)
theorem d64 (x y : Exa) (hw : -2^60 < x.w - y.w ∧ x.w - y.w < 2^60) (hd : 0 < x.d * y.d ∧ x.d * y.d < 2^60) (h1 : 0 ≤ x.n * y.d ∧ x.n * y.d < 2^60) (h2 : 0 ≤ y.n * x.d ∧ y.n * x.d < 2^60) (h3 : -2^60 ≤ (x.n * y.d - y.n * x.d) / (x.d * y.d) ∧ (x.n * y.d - y.n * x.d) / (x.d * y.d) < 2^60) : Does prog 64 [exaV x, exaV y] (exaV (lessX x y)) := by
  refine does_of_tab mixed t64 ?_
  have e1 : IntKind.i64.wrap (x.w - y.w) = x.w - y.w := wrap_id (by omega) (by omega)
  have e2 : IntKind.i64.wrap (x.n * y.d) = x.n * y.d := wrap_id (by omega) (by omega)
  have e3 : IntKind.i64.wrap (y.n * x.d) = y.n * x.d := wrap_id (by omega) (by omega)
  have e4 : IntKind.i64.wrap (x.n * y.d - y.n * x.d) = x.n * y.d - y.n * x.d := wrap_id (by omega) (by omega)
  have e5 : IntKind.i64.wrap (x.d * y.d) = x.d * y.d := wrap_id (by omega) (by omega)
  unfold k64
  simp -implicitDefEqProofs [exaV, e1, e2, e3, e4, e5]
  refine call_ (d101 _ _ _ ⟨by omega, by omega⟩ ⟨by omega, by omega⟩ ⟨by omega, by omega, by omega, by omega⟩) ?_
  simp -implicitDefEqProofs [exaV, lessX]
end Go.Proofs.Ytcamoojddlpbgaa.V
