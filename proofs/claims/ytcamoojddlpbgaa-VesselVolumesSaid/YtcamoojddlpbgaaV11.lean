import Derived.Test.YtcamoojddlpbgaaV10
namespace Go.Proofs.Ytcamoojddlpbgaa.V
open Go.Proofs.Try
set_option linter.unusedSimpArgs false
set_option linter.unusedVariables false
set_option maxRecDepth 4000
/-! ### The specification: Check, ready, places -/
theorem d42 (v : List Ring) : Does prog 42 [vesV v] (.int .i64 (chkV v)) := by
  refine does_of_tab mixed t42 ?_
  unfold k42
  simp -implicitDefEqProofs [vesV]
  by_cases h1 : (v.length : Int) < 1
  · have hc : chkV v = 20 := chk_no fun h => by have := h.1; omega
    simp -implicitDefEqProofs [h1, hc]
  by_cases h2 : 24 < (v.length : Int)
  · have hc : chkV v = 20 := chk_no fun h => by have := h.2.1; omega
    simp -implicitDefEqProofs [h1, h2, hc]
  simp -implicitDefEqProofs [h1, h2]
  refine wk_fam (fun i : Nat => ⟨regsOf 55 [(0, .p (.sl (v.map ringV))), (3, .p (.int .i64 i))], [], [], 0, false⟩)
    (fun i => i ≤ v.length ∧ ∀ j, j < i → okAt v j) (fun i => v.length - i) 0 ⟨Nat.zero_le _, fun j h => by omega⟩ ⟨some [0, 3], [], by simp, by simp -implicitDefEqProofs⟩ fun G i hp hG => ?_
  simp -implicitDefEqProofs
  refine onB_split (fun h => ?_) (fun h => ?_) <;> simp at h
  · obtain ⟨r, hr⟩ : ∃ r, v[i] = r := ⟨_, rfl⟩
    have e1 : v[i]? = some r := by rw [← hr]; exact List.getElem?_eq_getElem h
    have e2 : (i : Int) < v.length := by omega
    simp -implicitDefEqProofs [h, hr, e1, e2, ringV_eq]
    refine dcall_ (d100 r) ?_
    by_cases hR : isRingB r = false
    · have hc : chkV v = 20 := chk_no fun hv => by rw [hv.ring e1] at hR; cases hR
      simp -implicitDefEqProofs [hR, hc]
    · have e3 : IntKind.i64.wrap ((i : Int) + 1) = (i : Int) + 1 := wrap_id (by omega) (by omega)
      simp only [Bool.not_eq_false] at hR
      simp -implicitDefEqProofs [hR]
      cases i with
      | zero =>
        have e3' : IntKind.i64.wrap 1 = 1 := rfl
        simp -implicitDefEqProofs [e3']
        refine hG 1 _ (some [0, 3]) [] (by simp) (by simp -implicitDefEqProofs) ⟨h, fun j hj => ?_⟩ (by omega)
        have : j = 0 := by omega
        subst this
        exact ⟨r, e1, hR, fun j p hj => by omega⟩
      | succ k =>
        obtain ⟨p, hpk⟩ : ∃ p, v[k] = p := ⟨_, rfl⟩
        have e4 : v[k]? = some p := by rw [← hpk]; exact List.getElem?_eq_getElem _
        obtain ⟨p', h5, h6, h7⟩ := hp.2 k (by omega)
        rw [e4] at h5; cases h5
        have b1 := ring_of hR
        have b2 := ring_of h6
        have m1 : 0 ≤ r.v * p.d := Int.mul_nonneg (by omega) (by omega)
        have m2 : 0 ≤ p.v * r.d := Int.mul_nonneg (by omega) (by omega)
        have m3 : r.v * p.d ≤ 100000 * 20000 := Int.mul_le_mul (by omega) (by omega) (by omega) (by omega)
        have m4 : p.v * r.d ≤ 100000 * 20000 := Int.mul_le_mul (by omega) (by omega) (by omega) (by omega)
        have w1 : IntKind.i64.wrap (r.v * p.d) = r.v * p.d := wrap_id (by omega) (by omega)
        have w2 : IntKind.i64.wrap (p.v * r.d) = p.v * r.d := wrap_id (by omega) (by omega)
        have w3 : IntKind.i64.wrap ((k : Int) + 1 - 1) = (k : Int) := by rw [wrap_id (by omega) (by omega)]; omega
        have e5 : (k : Int) < v.length := by omega
        have e6 : k < v.length := by omega
        have e7 : (0 : Int) < (k : Int) + 1 := by omega
        have e8 : (k : Int) + 1 - 1 = k := by omega
        have e9 : IntKind.i64.wrap (k : Int) = k := wrap_id (by omega) (by omega)
        have g1 : (k : Int) + 1 < v.length := by omega
        have g2 : (0 : Int) ≤ (k : Int) + 1 := by omega
        simp -implicitDefEqProofs [g1, g2, h, hr, e3, e4, e5, e6, e7, w3, e8, e9, hpk, ringV_eq, w1, w2]
        refine onB_dec (fun h' => ?_) (fun h' => ?_)
        · have hc : chkV v = 20 := chk_no fun hv => by
            obtain ⟨r', q1, q2, q3⟩ := hv.2.2 (k + 1) h
            rw [e1] at q1; cases q1
            have := q3 k p rfl e4
            omega
          simp -implicitDefEqProofs [hc]
        · have e3' : IntKind.i64.wrap ((k : Int) + 1 + 1) = (k : Int) + 1 + 1 := wrap_id (by omega) (by omega)
          simp -implicitDefEqProofs [e3']
          refine hG (k + 1 + 1) _ (some [0, 3]) [] (by simp) (by simp -implicitDefEqProofs) ⟨h, fun j hj => ?_⟩ (by omega)
          by_cases hjk : j < k + 1
          · exact hp.2 j hjk
          · have : j = k + 1 := by omega
            subst this
            refine ⟨r, e1, hR, fun j p' hj hp' => ?_⟩
            have : j = k := by omega
            subst this
            rw [e4] at hp'; cases hp'
            omega
  · have hv : Valid v := ⟨by omega, by omega, fun j hj => hp.2 j (by omega)⟩
    simp -implicitDefEqProofs [chk_ok hv]
theorem d66a {v : List Ring} (hv : ¬ Valid v) (n : Int) (l : List Int) : Does prog 66 [vesV v, .int .i64 n, .sl (l.map i64)] (.int .i64 20) := by
  refine does_of_tab mixed t66 ?_
  unfold k66
  simp -implicitDefEqProofs
  refine call_ (d42 v) ?_
  rw [chk_no hv]
  simp -implicitDefEqProofs
theorem d66b {v : List Ring} (hv : Valid v) (n : Int) (l : List Int) (hl : (l.length : Int) < 2^30) : Does prog 66 [vesV v, .int .i64 n, .sl (l.map i64)] (.int .i64 (if (l.all (lvl v) && many n) = true then 0 else 1)) := by
  have hH := d92 hv
  obtain ⟨R, hR⟩ : ∃ R, R = l.all (lvl v) := ⟨_, rfl⟩
  rw [← hR]
  refine does_of_tab mixed t66 ?_
  unfold k66
  simp -implicitDefEqProofs
  refine call_ (d42 v) ?_
  rw [chk_ok hv]
  simp -implicitDefEqProofs
  refine wk_fam (fun i : Nat => ⟨regsOf 31 [(0, .p (vesV v)), (1, .p (.int .i64 n)), (2, .p (.sl (l.map i64))), (8, .p (.int .i64 i))], [], [], 0, false⟩)
    (fun i => i ≤ l.length ∧ (l.take i).all (lvl v) = true) (fun i => l.length - i) 0 ⟨Nat.zero_le _, rfl⟩ ⟨some [0, 1, 2, 8], [], by simp, by simp -implicitDefEqProofs⟩ fun G i hp hG => ?_
  simp -implicitDefEqProofs
  refine onB_split (fun h => ?_) (fun h => ?_) <;> simp at h
  · obtain ⟨a, ha⟩ : ∃ a, l[i] = a := ⟨_, rfl⟩
    have e1 : l[i]? = some a := by rw [← ha]; exact List.getElem?_eq_getElem h
    have e2 : (i : Int) < l.length := by omega
    have e3 : IntKind.i64.wrap ((i : Int) + 1) = (i : Int) + 1 := wrap_id (by omega) (by omega)
    simp -implicitDefEqProofs [h, ha, e1, e2, e3]
    refine dcall_ hH ?_
    simp -implicitDefEqProofs
    refine dcall_ (d93 a 0 (hiF (·.h) v)) ?_
    rw [show (decide (0 ≤ a) && decide (a ≤ hiF (·.h) v)) = lvl v a from rfl]
    have hT : (l.take (i + 1)).all (lvl v) = lvl v a := by rw [List.take_add_one, e1, List.all_append, hp.2]; simp
    cases hA : lvl v a
    · have hall : R = false := by
        rw [hR, ← List.take_append_drop (i + 1) l, List.all_append, hT, hA, Bool.false_and]
      simp -implicitDefEqProofs [hall]
    · simp -implicitDefEqProofs [e3]
      refine hG (i + 1) _ (some [0, 1, 2, 8]) [] (by simp) (by simp -implicitDefEqProofs) ⟨h, by rw [hT, hA]⟩ (by omega)
  · have hall : R = true := by
      rw [hR]
      have := hp.2
      rwa [List.take_of_length_le h] at this
    simp -implicitDefEqProofs
    refine call_ (d93 n 0 16777216) ?_
    rw [show (decide (0 ≤ n) && decide (n ≤ 16777216)) = many n from rfl]
    cases hM : many n
    · simp -implicitDefEqProofs [hall]
    · simp -implicitDefEqProofs [hall]
theorem first_ex {f : Ring → Int} {B : Int} {v : List Ring} (hv : Valid v) (hf : Sz f B) {n d : Int} (h0 : 0 ≤ n) (h1 : n ≤ hiF f v * d) : ∃ c r, v[c]? = some r ∧ (∀ j, j < c → sumF f v (j + 1) * d < n) ∧ n ≤ sumF f v (c + 1) * d ∧ sumF f v c * d ≤ n := by
  have key : ∀ k, k ≤ v.length → (∀ j, j < k → sumF f v (j + 1) * d < n) ∨ ∃ c, c < k ∧ (∀ j, j < c → sumF f v (j + 1) * d < n) ∧ n ≤ sumF f v (c + 1) * d := fun k => by
    induction k with
    | zero => exact fun _ => .inl fun j hj => by omega
    | succ k ih =>
      intro hk
      rcases ih (by omega) with h | ⟨c, c1, c2⟩
      · by_cases hle : n ≤ sumF f v (k + 1) * d
        · exact .inr ⟨k, by omega, h, hle⟩
        · refine .inl fun j hj => ?_
          by_cases hjk : j < k
          · exact h j hjk
          · have : j = k := by omega
            subst this; omega
      · exact .inr ⟨c, by omega, c2⟩
  have hl := hv.1
  have fin : ∀ c, c < v.length → (∀ j, j < c → sumF f v (j + 1) * d < n) → sumF f v c * d ≤ n := fun c hc h => by
    cases c with
    | zero => rw [sumF_zero, Int.zero_mul]; exact h0
    | succ c => have := h c (by omega); omega
  rcases key v.length (Nat.le_refl _) with h | ⟨c, c1, c2, c3⟩
  · have := h (v.length - 1) (by omega)
    rw [show v.length - 1 + 1 = v.length by omega] at this
    unfold hiF at h1; omega
  · exact ⟨c, v[c], List.getElem?_eq_getElem c1, c2, c3, fin c c1 c2⟩
theorem low_frac {n d : Int} (h0 : 0 ≤ n) (hd : 0 < d) (hn : n ≤ d) : 0 ≤ n / (Int.gcd n d : Int) ∧ n / (Int.gcd n d : Int) ≤ d / (Int.gcd n d : Int) ∧ 0 < d / (Int.gcd n d : Int) ∧ d / (Int.gcd n d : Int) ≤ d ∧ ((n / (Int.gcd n d : Int) : Int) : Rat) / ((d / (Int.gcd n d : Int) : Int) : Rat) = (n : Rat) / d := by
  have g0 : 0 < Int.gcd n d := Int.gcd_pos_of_ne_zero_right _ (by omega)
  obtain ⟨a, ha⟩ : ∃ a : Int, a = Int.gcd n d := ⟨_, rfl⟩
  have ha0 : 0 < a := by omega
  obtain ⟨k, hk⟩ : a ∣ n := ha ▸ Int.gcd_dvd_left ..
  obtain ⟨m, hm⟩ : a ∣ d := ha ▸ Int.gcd_dvd_right ..
  rw [← ha]
  have e1 : n / a = k := by rw [hk]; exact Int.mul_ediv_cancel_left _ (by omega)
  have e2 : d / a = m := Int.ediv_eq_of_eq_mul_right (by omega) hm
  have hm0 : 0 < m := Int.pos_of_mul_pos_right (hm ▸ hd) ha0
  refine ⟨Int.ediv_nonneg h0 (by omega), Int.ediv_le_ediv ha0 hn, by rw [e2]; exact hm0, Int.ediv_le_self _ (by omega), ?_⟩
  rw [e1, e2]
  have f2 : (n : Rat) = a * k := by rw [← Rat.intCast_mul, ← hk]
  have f3 : (d : Rat) = a * m := by rw [← Rat.intCast_mul, ← hm]
  have z1 : (a : Rat) ≠ 0 := cast_ne (by omega)
  have z2 : (m : Rat) ≠ 0 := cast_ne (by omega)
  rw [f2, f3]; grind
/-- the place that the specification finds -/
def lowP (c n d : Int) : Plc := ⟨c, n / (Int.gcd n d : Int), d / (Int.gcd n d : Int)⟩
theorem place_ok {f : Ring → Int} {B : Int} {v : List Ring} (hv : Valid v) (hf : Sz f B) {n d : Int} (hd : 0 < d) {c : Nat} {r : Ring} (hc : v[c]? = some r) (h2 : n ≤ sumF f v (c + 1) * d) (h3 : sumF f v c * d ≤ n) : PlcOk v f ((n : Rat) / d) (B * d) (lowP c (n - sumF f v c * d) (f r * d)) := by
  have hr := hf.2 _ (hv.ring hc)
  have e := sumF_succ f v c r hc
  have hfd : 0 < f r * d := Int.mul_pos (by omega) hd
  have hle : n - sumF f v c * d ≤ f r * d := by rw [e, Int.add_mul] at h2; omega
  obtain ⟨a1, a2, a3, a4, a5⟩ := low_frac (n := n - sumF f v c * d) (d := f r * d) (by omega) hfd hle
  have hd' : (0 : Rat) < d := by exact_mod_cast hd
  have zd : (d : Rat) ≠ 0 := by grind
  have hq := Rat.div_mul_cancel (a := (n : Rat)) zd
  have zf := cast_ne hr.1
  have c3 : ((sumF f v c * d : Int) : Rat) ≤ n := cast_le h3
  have c2 : (n : Rat) ≤ ((sumF f v (c + 1) * d : Int) : Rat) := cast_le h2
  rw [Rat.intCast_mul] at c3 c2
  rw [e, Rat.intCast_add] at c2
  refine ⟨c, r, hc, rfl, ?_, ?_, a1, a2, a3, Int.le_trans a4 (Int.mul_le_mul_of_nonneg_right hr.2 (by omega)), ?_⟩
  · refine Rat.not_lt.1 fun h => ?_
    rw [Rat.div_lt_iff hd'] at h; grind
  · refine Rat.not_lt.1 fun h => ?_
    rw [Rat.lt_div_iff hd'] at h; grind
  · refine a5.trans ?_
    rw [Rat.intCast_sub, Rat.intCast_mul, Rat.intCast_mul]
    grind
end Go.Proofs.Ytcamoojddlpbgaa.V
