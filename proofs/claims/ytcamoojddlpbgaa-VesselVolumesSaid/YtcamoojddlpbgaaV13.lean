import Derived.Test.YtcamoojddlpbgaaV12
namespace Go.Proofs.Ytcamoojddlpbgaa.V
open Go.Proofs.Try
set_option linter.unusedSimpArgs false
set_option linter.unusedVariables false
set_option maxRecDepth 4000
section
variable {f g : Ring → Int} {B B' : Int} {v : List Ring}
theorem PL.inv (hv : Valid v) (hf : Sz f B) (hg : Sz g B') {q q' : Rat} (h : PL v f g q q') : PL v g f q' q := by
  obtain ⟨c, r, hc, h1, h2, h3⟩ := h
  have hr := hg.2 _ (hv.ring hc)
  have hr' := hf.2 _ (hv.ring hc)
  have fp : (0 : Rat) < f r := by have : 0 < f r := by omega
                                  exact_mod_cast this
  have gp : (0 : Rat) < g r := by have : 0 < g r := by omega
                                  exact_mod_cast this
  have e := Rat.div_mul_cancel (a := (q - sumF f v c) * g r) (b := (f r : Rat)) (by grind)
  have k0 : (0 : Rat) ≤ (q - sumF f v c) * g r / f r := Rat.not_lt.1 fun h => by
    rw [Rat.div_lt_iff fp] at h
    have := Rat.mul_nonneg (show (0 : Rat) ≤ q - sumF f v c by grind) (Rat.le_of_lt gp)
    grind
  have k1 : (q - sumF f v c) * g r / f r ≤ g r := Rat.not_lt.1 fun h => by
    rw [Rat.lt_div_iff fp] at h
    have := Rat.mul_le_mul_of_nonneg_right (show q - sumF f v c ≤ f r by grind) (Rat.le_of_lt gp)
    grind
  have z1 : (f r : Rat) ≠ 0 := by grind
  have z2 : (g r : Rat) ≠ 0 := by grind
  exact ⟨c, r, hc, by grind, by grind, by grind⟩
theorem PL.ends (hv : Valid v) (hf : Sz f B) (hg : Sz g B') {q q' : Rat} {c : Nat} {r : Ring} (hc : v[c]? = some r) (h1 : (sumF f v c : Rat) ≤ q) (h2 : q ≤ sumF f v c + f r) (h3 : q' = sumF g v c + (q - sumF f v c) * g r / f r) : (sumF g v c : Rat) ≤ q' ∧ q' ≤ sumF g v c + g r := by
  have hr := hg.2 _ (hv.ring hc)
  have hr' := hf.2 _ (hv.ring hc)
  have fp : (0 : Rat) < f r := by have : 0 < f r := by omega
                                  exact_mod_cast this
  have gp : (0 : Rat) < g r := by have : 0 < g r := by omega
                                  exact_mod_cast this
  have k0 : (0 : Rat) ≤ (q - sumF f v c) * g r / f r := Rat.not_lt.1 fun h => by
    rw [Rat.div_lt_iff fp] at h
    have := Rat.mul_nonneg (show (0 : Rat) ≤ q - sumF f v c by grind) (Rat.le_of_lt gp)
    grind
  have k1 : (q - sumF f v c) * g r / f r ≤ g r := Rat.not_lt.1 fun h => by
    rw [Rat.lt_div_iff fp] at h
    have := Rat.mul_le_mul_of_nonneg_right (show q - sumF f v c ≤ f r by grind) (Rat.le_of_lt gp)
    grind
  exact ⟨by grind, by grind⟩
theorem PL.mono (hv : Valid v) (hf : Sz f B) (hg : Sz g B') {q1 q2 y1 y2 : Rat} (h1 : PL v f g q1 y1) (h2 : PL v f g q2 y2) (h : q1 ≤ q2) : y1 ≤ y2 := by
  obtain ⟨c, r, a1, b1, c1, e1⟩ := id h1
  obtain ⟨c', r', a2, b2, c2, e2⟩ := id h2
  obtain ⟨x1, x2⟩ := PL.ends hv hf hg a1 b1 c1 e1
  obtain ⟨x3, x4⟩ := PL.ends hv hf hg a2 b2 c2 e2
  have hcl := (List.getElem?_eq_some_iff.1 a1).1
  have hcl' := (List.getElem?_eq_some_iff.1 a2).1
  rcases Nat.lt_trichotomy c c' with hlt | hlt | hlt
  · have h3 := sum_le hv hg (show c + 1 ≤ c' from hlt) (by omega)
    rw [sumF_succ g v c r a1] at h3
    have h4 := cast_le h3
    rw [Rat.intCast_add] at h4
    grind
  · subst hlt
    rw [a1] at a2; cases a2
    have hr := hg.2 _ (hv.ring a1)
    have hr' := hf.2 _ (hv.ring a1)
    have fp : (0 : Rat) < f r := by have : 0 < f r := by omega
                                    exact_mod_cast this
    have gp : (0 : Rat) < g r := by have : 0 < g r := by omega
                                    exact_mod_cast this
    have zf : (f r : Rat) ≠ 0 := by grind
    have k0 : (0 : Rat) ≤ (q2 - q1) * g r / f r := Rat.not_lt.1 fun h => by
      rw [Rat.div_lt_iff fp] at h
      have := Rat.mul_nonneg (show (0 : Rat) ≤ q2 - q1 by grind) (Rat.le_of_lt gp)
      grind
    have : y2 - y1 = (q2 - q1) * g r / f r := by grind
    grind
  · have h3 := sum_le hv hf (show c' + 1 ≤ c from hlt) (by omega)
    rw [sumF_succ f v c' r' a2] at h3
    have h4 := cast_le h3
    rw [Rat.intCast_add] at h4
    have : q1 = q2 := by grind
    subst this
    rw [PL.unique hv hf h1 h2]
    exact Rat.le_refl
theorem frac_le {a b c d : Int} (hb : 0 < b) (hd : 0 < d) (h : (a : Rat) / b ≤ (c : Rat) / d) : a * d ≤ c * b := by
  have hb' : (0 : Rat) < b := by exact_mod_cast hb
  have hd' : (0 : Rat) < d := by exact_mod_cast hd
  have e1 := Rat.div_mul_cancel (a := (a : Rat)) (b := (b : Rat)) (by grind)
  have e2 := Rat.div_mul_cancel (a := (c : Rat)) (b := (d : Rat)) (by grind)
  have h2 := Rat.mul_le_mul_of_nonneg_right h (Rat.le_of_lt (Rat.mul_pos hb' hd'))
  have : ((a * d : Int) : Rat) ≤ ((c * b : Int) : Rat) := by
    rw [Rat.intCast_mul, Rat.intCast_mul]
    rwa [← Rat.mul_assoc, e1, Rat.mul_comm (b : Rat) (d : Rat), ← Rat.mul_assoc, e2] at h2
  exact Rat.intCast_le_intCast.1 this
end
theorem num_ok {f g : Ring → Int} {B B' D : Int} {v : List Ring} {q : Rat} {p : Plc} (hv : Valid v) (hf : Sz f B) (hg : Sz g B') {c : Nat} {r : Ring} (hc : v[c]? = some r) (h2 : (sumF f v c : Rat) ≤ q) (h3 : q ≤ sumF f v c + f r) (h4 : 0 ≤ p.n) (h5 : p.n ≤ p.d) (h6 : 0 < p.d) (h8 : (p.n : Rat) / p.d = (q - sumF f v c) / f r) (hD : p.d ≤ D) (hD2 : D ≤ 2^38) :
   (0 ≤ sumF g v c * p.d ∧ sumF g v c * p.d < 2^61) ∧ (0 ≤ g r * p.n ∧ g r * p.n < 2^61) ∧ sumF g v c * p.d + g r * p.n ≤ hiF g v * p.d ∧ hiF g v * p.d < 2^61 ∧ PL v f g q ((sumF g v c * p.d + g r * p.n : Int) / p.d) := by
  have hcl := (List.getElem?_eq_some_iff.1 hc).1
  have hr := hg.2 _ (hv.ring hc)
  have hB := hg.1
  have hr' := hf.2 _ (hv.ring hc)
  have sb := sum_bd' hv hg (Nat.le_of_lt hcl)
  have hh := hi_bd hv hg
  have m1 : hiF g v * p.d ≤ 2400000 * 2^38 := Int.mul_le_mul hh.2 (by omega) (by omega) (by omega)
  have m2 : 0 ≤ sumF g v c * p.d := Int.mul_nonneg sb.1 (by omega)
  have m3 : 0 ≤ g r * p.n := Int.mul_nonneg (by omega) h4
  have m4 : g r * p.n ≤ g r * p.d := Int.mul_le_mul_of_nonneg_left h5 (by omega)
  have m5 : sumF g v (c + 1) * p.d ≤ hiF g v * p.d := Int.mul_le_mul_of_nonneg_right (sum_le hv hg hcl (Nat.le_refl _)) (by omega)
  rw [sumF_succ g v c r hc, Int.add_mul] at m5
  refine ⟨⟨m2, by omega⟩, ⟨m3, by omega⟩, by omega, by omega, c, r, hc, h2, h3, ?_⟩
  rw [Rat.intCast_add, Rat.intCast_mul, Rat.intCast_mul]
  have z1 := cast_ne hr'.1
  have z2 : (p.d : Rat) ≠ 0 := cast_ne (by omega)
  have : (p.n : Rat) = (q - sumF f v c) / f r * p.d := by rw [← h8, Rat.div_mul_cancel z2]
  rw [this]
  grind
theorem d69 {f : Ring → Int} {B D : Int} {v : List Ring} {q : Rat} {p : Plc} (hv : Valid v) (hf : Sz f B) (hp : PlcOk v f q D p) (hD : D ≤ 2^38) : ∃ N, Does prog 69 [vesV v, plcV p] (.int .i64 N) ∧ 0 ≤ N ∧ N ≤ hiF (·.d) v * p.d ∧ hiF (·.d) v * p.d < 2^61 ∧ PL v f (·.d) q ((N : Rat) / p.d) := by
  obtain ⟨c, r, hc, h1, h2, h3, h4, h5, h6, h7, h8⟩ := hp
  obtain ⟨a1, a2, a3, a4, a5⟩ := num_ok hv hf sz_d hc h2 h3 h4 h5 h6 h8 h7 hD
  refine ⟨_, ?_, by omega, a3, a4, a5⟩
  refine does_of_tab mixed t69 ?_
  have hcl := (List.getElem?_eq_some_iff.1 hc).1
  have hS := d80 hv (Nat.le_of_lt hcl)
  have e2 : (c : Int) < v.length := by omega
  have e3 : v[c] = r := (List.getElem?_eq_some_iff.1 hc).2
  have w1 : IntKind.i64.wrap (sumF (·.d) v c * p.d) = sumF (·.d) v c * p.d := wrap_id (by omega) (by omega)
  have w2 : IntKind.i64.wrap (r.d * p.n) = r.d * p.n := wrap_id (by omega) (by omega)
  have w3 : IntKind.i64.wrap (sumF (·.d) v c * p.d + r.d * p.n) = sumF (·.d) v c * p.d + r.d * p.n := wrap_id (by omega) (by omega)
  unfold vesV at hS ⊢
  unfold k69
  simp -implicitDefEqProofs [plcV, h1]
  refine dcall_ hS ?_
  simp -implicitDefEqProofs [ringV_eq, e2, hcl, e3, w1, w2, w3]
theorem d75 {f : Ring → Int} {B D : Int} {v : List Ring} {q : Rat} {p : Plc} (hv : Valid v) (hf : Sz f B) (hp : PlcOk v f q D p) (hD : D ≤ 2^38) : ∃ N, Does prog 75 [vesV v, plcV p] (.int .i64 N) ∧ 0 ≤ N ∧ N ≤ hiF (·.h) v * p.d ∧ hiF (·.h) v * p.d < 2^61 ∧ PL v f (·.h) q ((N : Rat) / p.d) := by
  obtain ⟨c, r, hc, h1, h2, h3, h4, h5, h6, h7, h8⟩ := hp
  obtain ⟨a1, a2, a3, a4, a5⟩ := num_ok hv hf sz_h hc h2 h3 h4 h5 h6 h8 h7 hD
  refine ⟨_, ?_, by omega, a3, a4, a5⟩
  refine does_of_tab mixed t75 ?_
  have hcl := (List.getElem?_eq_some_iff.1 hc).1
  have hS := d80 hv (Nat.le_of_lt hcl)
  have e2 : (c : Int) < v.length := by omega
  have e3 : v[c] = r := (List.getElem?_eq_some_iff.1 hc).2
  have w1 : IntKind.i64.wrap (sumF (·.h) v c * p.d) = sumF (·.h) v c * p.d := wrap_id (by omega) (by omega)
  have w2 : IntKind.i64.wrap (r.h * p.n) = r.h * p.n := wrap_id (by omega) (by omega)
  have w3 : IntKind.i64.wrap (sumF (·.h) v c * p.d + r.h * p.n) = sumF (·.h) v c * p.d + r.h * p.n := wrap_id (by omega) (by omega)
  unfold vesV at hS ⊢
  unfold k75
  simp -implicitDefEqProofs [plcV, h1]
  refine dcall_ hS ?_
  simp -implicitDefEqProofs [ringV_eq, e2, hcl, e3, w1, w2, w3]
theorem posQ_max (n m d : Int) (hd : 0 < d) : posQ ((n : Rat) / d - m) = ((max 0 (n - m * d) : Int) : Rat) / d := by
  have hd' : (0 : Rat) < d := by exact_mod_cast hd
  have zd : (d : Rat) ≠ 0 := by grind
  have e : (n : Rat) / d - m = ((n - m * d : Int) : Rat) / d := by
    rw [Rat.intCast_sub, Rat.intCast_mul]; grind
  rw [e]
  unfold posQ
  have h0 : ((n - m * d : Int) : Rat) / d < 0 ↔ n - m * d < 0 := by
    rw [Rat.div_lt_iff hd', Rat.zero_mul]
    exact Rat.intCast_lt_intCast (b := 0)
  by_cases h : n - m * d < 0
  · rw [if_pos (h0.2 h), Int.max_eq_left (by omega)]
    show (0 : Rat) = 0 / d
    grind
  · rw [if_neg (fun h' => h (h0.1 h')), Int.max_eq_right (by omega)]
theorem d73 {v : List Ring} (hv : Valid v) {l m : Int} (h0 : 0 ≤ l) (h1 : l ≤ hiF (·.h) v) (hm : 0 ≤ m) (hm2 : m ≤ 16777216) : ∃ p, Does prog 73 [vesV v, .int .i64 l, .int .i64 m] (plcV p) ∧ PlcOk v (·.d) (posQ (Tm v l - m)) 20000000 p := by
  obtain ⟨p, p1, p2⟩ := d67 hv h0 h1
  obtain ⟨N, n1, n2, n3, n4, n5⟩ := d69 hv sz_h p2 (by omega)
  have hd : 0 < p.d ∧ p.d ≤ 1000 := by
    obtain ⟨c, r, _, _, _, _, _, _, h6, h7, _⟩ := p2
    exact ⟨h6, h7⟩
  have hh := hi_bd hv sz_d
  have hT : Tm v l = (N : Rat) / p.d := trans_eq hv sz_h n5
  have m0 : 0 ≤ m * p.d := Int.mul_nonneg hm (by omega)
  have m1 : m * p.d ≤ 16777216 * 1000 := Int.mul_le_mul hm2 hd.2 (by omega) (by omega)
  have hmax : max 0 (N - m * p.d) ≤ N := by omega
  obtain ⟨q, q1, q2⟩ := d81 hv (n := max 0 (N - m * p.d)) hd.1 (by omega) (by omega) (by omega)
  refine ⟨q, ?_, ?_⟩
  · refine does_of_tab mixed t73 ?_
    have w1 : IntKind.i64.wrap (m * p.d) = m * p.d := wrap_id (by omega) (by omega)
    have w2 : IntKind.i64.wrap (N - m * p.d) = N - m * p.d := wrap_id (by omega) (by omega)
    unfold k73
    simp -implicitDefEqProofs
    refine call_ p1 ?_
    simp -implicitDefEqProofs [plcV]
    refine dcall_ n1 ?_
    have w3 : (if m * p.d < N then N - m * p.d else 0) = max 0 (N - m * p.d) := by split <;> omega
    simp -implicitDefEqProofs [w1, w2]
    rw [w3]
    refine dcall_ q1 ?_
    simp -implicitDefEqProofs [plcV]
  · rw [hT, posQ_max _ _ _ hd.1]
    obtain ⟨k, r, z1, z2, z3, z4, z5, z6, z7, z8, z9⟩ := q2
    exact ⟨k, r, z1, z2, z3, z4, z5, z6, z7, by omega, z9⟩
theorem d18 (v : List Ring) (a b : Int) : Does prog 18 [vesV v, .int .i64 a, .int .i64 b] (saidV (sinkS v a b)) := by
  refine does_of_tab mixed t18 ?_
  unfold k18
  simp -implicitDefEqProofs
  by_cases hv : Valid v
  · have hR := d66b hv 0 [a, b] (by simp)
    have hm : many 0 = true := rfl
    refine call_flat hR (.int _ _) ?_
    by_cases h1 : (lvl v a && lvl v b) = true
    · have e : ([a, b].all (lvl v) && many 0) = true := by simp only [List.all_cons, List.all_nil, hm, Bool.and_true]; exact h1
      rw [e]
      simp -implicitDefEqProofs
      refine onB_dec (fun h3 => ?_) (fun h3 => ?_)
      · simp -implicitDefEqProofs [saidV, sinkS, hv, h1, h3, spanV]
      obtain ⟨ha, hb⟩ := Bool.and_eq_true_iff.1 h1
      obtain ⟨p, p1, p2⟩ := d67 hv (lvl_iff.1 ha).1 (lvl_iff.1 ha).2
      obtain ⟨p', p1', p2'⟩ := d67 hv (lvl_iff.1 hb).1 (lvl_iff.1 hb).2
      obtain ⟨N, n1, n2, n3, n4, n5⟩ := d69 hv sz_h p2 (by omega)
      obtain ⟨N', n1', n2', n3', n4', n5'⟩ := d69 hv sz_h p2' (by omega)
      have hd : 0 < p.d ∧ p.d ≤ 1000 := by
        obtain ⟨c, r, _, _, _, _, _, _, h6, h7, _⟩ := p2
        exact ⟨h6, h7⟩
      have hd' : 0 < p'.d ∧ p'.d ≤ 1000 := by
        obtain ⟨c, r, _, _, _, _, _, _, h6, h7, _⟩ := p2'
        exact ⟨h6, h7⟩
      have hle : (N' : Rat) / p'.d ≤ (N : Rat) / p.d := PL.mono hv sz_h sz_d n5' n5 (cast_le (by omega))
      have hnum := frac_le hd'.1 hd.1 hle
      have hh := hi_bd hv sz_d
      have b1 : N * p'.d ≤ hiF (·.d) v * p.d * p'.d := Int.mul_le_mul_of_nonneg_right n3 (by omega)
      have b2 : hiF (·.d) v * p.d ≤ 2400000 * 1000 := Int.mul_le_mul hh.2 hd.2 (by omega) (by omega)
      have b3 : hiF (·.d) v * p.d * p'.d ≤ 2400000 * 1000 * 1000 := Int.mul_le_mul b2 hd'.2 (by omega) (by omega)
      have b4 : 0 ≤ N' * p.d := Int.mul_nonneg n2' (by omega)
      have b5 : p.d * p'.d ≤ 1000 * 1000 := Int.mul_le_mul hd.2 hd'.2 (by omega) (by omega)
      have hL := d68 (a := N) (b := p.d) (c := N') (d := p'.d) hd.1 hd'.1 ⟨by omega, by omega⟩ ⟨by omega, by omega⟩ (by omega) hnum
      have t1 : Tm v a = (N : Rat) / p.d := trans_eq hv sz_h n5
      have t2 : Tm v b = (N' : Rat) / p'.d := trans_eq hv sz_h n5'
      simp -implicitDefEqProofs
      refine call_ p1 ?_
      simp -implicitDefEqProofs
      refine call_ p1' ?_
      simp -implicitDefEqProofs [plcV]
      refine dcall_ n1 ?_
      simp -implicitDefEqProofs
      refine dcall_ n1' ?_
      simp -implicitDefEqProofs
      refine dcall_ hL ?_
      simp -implicitDefEqProofs [saidV, sinkS, hv, h1, h3, spanV, t1, t2]
    · have e : ([a, b].all (lvl v) && many 0) = false := by simp only [List.all_cons, List.all_nil, hm, Bool.and_true]; simpa using h1
      have h1' : (lvl v a && lvl v b) = false := by simpa using h1
      rw [e]
      simp -implicitDefEqProofs [saidV, sinkS, hv, h1', spanV]
  · refine call_flat (d66a hv 0 [a, b]) (.int _ _) ?_
    simp -implicitDefEqProofs [saidV, sinkS, hv, spanV]
theorem d20 (v : List Ring) (l m : Int) : Does prog 20 [vesV v, .int .i64 l, .int .i64 m] (saidV (afterS v l m)) := by
  refine does_of_tab mixed t20 ?_
  unfold k20
  simp -implicitDefEqProofs
  by_cases hv : Valid v
  · refine call_flat (d66b hv m [l] (by simp)) (.int _ _) ?_
    have e0 : [l].all (lvl v) = lvl v l := by simp
    rw [e0]
    cases h : lvl v l && many m
    · simp -implicitDefEqProofs [saidV, afterS, hv, h, spanV]
    · have h' := Bool.and_eq_true_iff.1 h
      obtain ⟨p, p1, p2⟩ := d73 hv (lvl_iff.1 h'.1).1 (lvl_iff.1 h'.1).2 (many_iff.1 h'.2).1 (many_iff.1 h'.2).2
      obtain ⟨N, n1, n2, n3, n4, n5⟩ := d75 hv sz_d p2 (by omega)
      have hd : 0 < p.d ∧ p.d ≤ 20000000 := by
        obtain ⟨c, r, _, _, _, _, _, _, h6, h7, _⟩ := p2
        exact ⟨h6, h7⟩
      have hS := d74 n2 hd.1 (by omega) (by omega)
      rw [← trans_eq hv sz_d n5] at hS
      simp -implicitDefEqProofs
      refine call_ p1 ?_
      simp -implicitDefEqProofs [plcV]
      refine dcall_ n1 ?_
      simp -implicitDefEqProofs
      refine dcall_ hS ?_
      simp -implicitDefEqProofs [saidV, afterS, hv, h, spanV]
  · refine call_flat (d66a hv m [l]) (.int _ _) ?_
    simp -implicitDefEqProofs [saidV, afterS, hv, spanV]
theorem d22 (v : List Ring) (l m : Int) : Does prog 22 [vesV v, .int .i64 l, .int .i64 m] (saidV (beforeS v l m)) := by
  refine does_of_tab mixed t22 ?_
  unfold k22
  simp -implicitDefEqProofs
  by_cases hv : Valid v
  · refine call_flat (d66b hv m [l] (by simp)) (.int _ _) ?_
    have e0 : [l].all (lvl v) = lvl v l := by simp
    rw [e0]
    cases h : lvl v l && many m
    · simp -implicitDefEqProofs [saidV, beforeS, hv, h, spanV]
    · have h' := Bool.and_eq_true_iff.1 h
      have hm := many_iff.1 h'.2
      obtain ⟨p, p1, p2⟩ := d67 hv (lvl_iff.1 h'.1).1 (lvl_iff.1 h'.1).2
      obtain ⟨N, n1, n2, n3, n4, n5⟩ := d69 hv sz_h p2 (by omega)
      have hd : 0 < p.d ∧ p.d ≤ 1000 := by
        obtain ⟨c, r, _, _, _, _, _, _, h6, h7, _⟩ := p2
        exact ⟨h6, h7⟩
      have hT : Tm v l = (N : Rat) / p.d := trans_eq hv sz_h n5
      have hh := hi_bd hv sz_d
      have m0 : 0 ≤ m * p.d := Int.mul_nonneg hm.1 (by omega)
      have m1 : m * p.d ≤ 16777216 * 1000 := Int.mul_le_mul hm.2 hd.2 (by omega) (by omega)
      have m2 : hiF (·.d) v * p.d ≤ 2400000 * 1000 := Int.mul_le_mul hh.2 hd.2 (by omega) (by omega)
      have m3 : 0 ≤ hiF (·.d) v * p.d := Int.mul_nonneg hh.1 (by omega)
      have hd' : (0 : Rat) < p.d := by exact_mod_cast hd.1
      have zd : (p.d : Rat) ≠ 0 := by grind
      have hQ : Tm v l + m = ((N + m * p.d : Int) : Rat) / p.d := by
        rw [hT, Rat.intCast_add, Rat.intCast_mul]; grind
      have hcmp : (hiF (·.d) v : Rat) < Tm v l + m ↔ hiF (·.d) v * p.d < N + m * p.d := by
        rw [hQ, Rat.lt_div_iff hd', ← Rat.intCast_mul]
        exact Rat.intCast_lt_intCast
      have w1 : IntKind.i64.wrap (m * p.d) = m * p.d := wrap_id (by omega) (by omega)
      have w2 : IntKind.i64.wrap (N + m * p.d) = N + m * p.d := wrap_id (by omega) (by omega)
      have w3 : IntKind.i64.wrap (hiF (·.d) v * p.d) = hiF (·.d) v * p.d := wrap_id (by omega) (by omega)
      have hS := d80 hv (Nat.le_refl v.length)
      rw [show sumF (·.d) v v.length = hiF (·.d) v from rfl] at hS
      have hlen : (vesV v) = .sl (v.map ringV) := rfl
      simp -implicitDefEqProofs
      refine call_ p1 ?_
      simp -implicitDefEqProofs [plcV]
      refine dcall_ n1 ?_
      simp -implicitDefEqProofs [w1, w2, hlen]
      refine dcall_ hS ?_
      simp -implicitDefEqProofs [ringV_eq, w3]
      refine onB_dec (fun h4 => ?_) (fun h4 => ?_)
      · have h5 := hcmp.2 h4
        simp -implicitDefEqProofs [saidV, beforeS, hv, h, h5, spanV]
      · have h5 : ¬ ((hiF (·.d) v : Rat) < Tm v l + m) := fun h6 => h4 (hcmp.1 h6)
        obtain ⟨q, q1, q2⟩ := d81 hv (n := N + m * p.d) hd.1 (by omega) (by omega) (by omega)
        obtain ⟨M, k1, k2, k3, k4, k5⟩ := d75 hv sz_d q2 (by omega)
        have hqd : 0 < q.d ∧ q.d ≤ 20000000 := by
          obtain ⟨c, r, _, _, _, _, _, _, h6, h7, _⟩ := q2
          exact ⟨h6, by omega⟩
        have hS2 := d74 k2 hqd.1 (by omega) (by omega)
        rw [← trans_eq hv sz_d k5, ← hQ] at hS2
        simp -implicitDefEqProofs
        refine call_ q1 ?_
        simp -implicitDefEqProofs [plcV]
        refine dcall_ k1 ?_
        simp -implicitDefEqProofs
        refine dcall_ hS2 ?_
        simp -implicitDefEqProofs [saidV, beforeS, hv, h, h5, spanV]
  · refine call_flat (d66a hv m [l]) (.int _ _) ?_
    simp -implicitDefEqProofs [saidV, beforeS, hv, spanV]
end Go.Proofs.Ytcamoojddlpbgaa.V
