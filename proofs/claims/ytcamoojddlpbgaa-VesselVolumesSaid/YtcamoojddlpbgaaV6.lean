import Derived.Test.YtcamoojddlpbgaaV5
namespace Go.Proofs.Ytcamoojddlpbgaa.V
open Go.Proofs.Try
set_option linter.unusedSimpArgs false
set_option linter.unusedVariables false
set_option maxRecDepth 4000
def FindOk (F : Nat) : Prop := ∀ (szs bel : List Int) (x : Exa) (c : Nat) (b s : Int) (_ : bel[c]? = some b) (_ : szs[c]? = some s) (_ : bel.length = szs.length + 1) (_ : szs.length < 2^20)
   (_ : ∀ (j : Nat) a, 1 ≤ j → j ≤ c → bel[j]? = some a → a ≤ x.w) (_ : ∀ (j : Nat) a, c < j → j < szs.length → bel[j]? = some a → x.w < a)
   (_ : -2^60 < b ∧ b < 2^60 ∧ -2^60 < x.w ∧ x.w < 2^60) (_ : -2^60 < x.d * s ∧ x.d * s < 2^60) (_ : -2^60 < (x.w - b) * x.d ∧ (x.w - b) * x.d < 2^60) (_ : -2^60 < x.n ∧ x.n < 2^60), Does prog F [scV szs bel, exaV x] (plcV ⟨c, (x.w - b) * x.d + x.n, x.d * s⟩)
def AtOk (F : Nat) : Prop := ∀ (szs bel : List Int) (p : Plc) (c : Nat) (b s : Int) (_ : p.r = c) (_ : bel[c]? = some b) (_ : szs[c]? = some s) (_ : 0 < p.d ∧ p.d < 2^62) (_ : -2^62 < p.n * s ∧ p.n * s < 2^62) (_ : -2^61 < b ∧ b < 2^61 ∧ -2^61 < (p.n * s) / p.d ∧ (p.n * s) / p.d < 2^61), Does prog F [scV szs bel, plcV p] (exaV (ofX b (p.n * s) p.d))
theorem find_h : FindOk 111 := d111
theorem find_d : FindOk 79 := d79
theorem find_v : FindOk 89 := d89
theorem at_h : AtOk 71 := d71
theorem at_d : AtOk 110 := d110
theorem at_v : AtOk 116 := d116
section
variable {f g : Ring → Int} {B B' : Int} {v : List Ring}
def scaleV (f : Ring → Int) (v : List Ring) : PV := scV (szF f v) (belF f v)
def PlcOk (v : List Ring) (f : Ring → Int) (q : Rat) (D : Int) (p : Plc) : Prop := ∃ c r, v[c]? = some r ∧ p.r = (c : Nat) ∧ (sumF f v c : Rat) ≤ q ∧ q ≤ sumF f v c + f r ∧ 0 ≤ p.n ∧ p.n ≤ p.d ∧ 0 < p.d ∧ p.d ≤ D ∧ (p.n : Rat) / p.d = (q - sumF f v c) / f r
theorem Exa.bounds {x : Exa} {D : Int} (hx : Good x D) : (x.w : Rat) ≤ x.val ∧ x.val < x.w + 1 ∧ (x.d : Rat) ≠ 0 ∧ (0 : Rat) < x.d := by
  obtain ⟨h1, h2, h3⟩ := hx
  have hd : (0 : Rat) < x.d := by have : 0 < x.d := by omega
                                  exact_mod_cast this
  have hn : (0 : Rat) ≤ x.n := by exact_mod_cast h1
  have hnd : (x.n : Rat) < x.d := by exact_mod_cast h2
  have e : (x.n : Rat) / x.d * x.d = x.n := Rat.div_mul_cancel (by grind)
  have h4 : (0 : Rat) ≤ (x.n : Rat) / x.d := Rat.not_lt.1 fun h => by rw [Rat.div_lt_iff hd] at h; grind
  have h5 : (x.n : Rat) / x.d < 1 := by rw [Rat.div_lt_iff hd]; grind
  unfold Exa.val
  grind
theorem find_ok {F : Nat} (hF : FindOk F) (hv : Valid v) (hf : Sz f B) {x : Exa} {D : Int} (hx : Good x D) (hD : D * 100000 < 2^60) (h0 : 0 ≤ x.val) (h1 : x.val ≤ sumF f v v.length) : ∃ p, Does prog F [scaleV f v, exaV x] (plcV p) ∧ PlcOk v f x.val (D * B) p := by
  obtain ⟨b1, b2, b3, b4⟩ := Exa.bounds hx
  have hw : 0 ≤ x.w := by
    have : (0 : Rat) < ((x.w + 1 : Int) : Rat) := by rw [Rat.intCast_add]; grind
    have : 0 < x.w + 1 := by exact_mod_cast this
    omega
  have hwl : x.w ≤ sumF f v v.length := by
    have : (x.w : Rat) ≤ (sumF f v v.length : Int) := by grind
    exact_mod_cast this
  obtain ⟨c, r, hc, hle, hall, hgt⟩ := ring_ex hv hf hw
  have hcl := (List.getElem?_eq_some_iff.1 hc).1
  have hr := hf.2 _ (hv.ring hc)
  have hB := hf.1
  have hq1 : (sumF f v c : Rat) ≤ x.val := by have : (sumF f v c : Rat) ≤ x.w := by exact_mod_cast hle
                                              grind
  have hq2 : x.val ≤ sumF f v c + f r := by
    have e := sumF_succ f v c r hc
    rcases Nat.lt_or_eq_of_le (Nat.succ_le_of_lt hcl) with h | h
    · have h2 := hgt (c + 1) (by omega) h
      have h3 : ((x.w + 1 : Int) : Rat) ≤ ((sumF f v c + f r : Int) : Rat) := by
        have : x.w + 1 ≤ sumF f v c + f r := by omega
        exact_mod_cast this
      rw [Rat.intCast_add, Rat.intCast_add] at h3
      grind
    · have : sumF f v v.length = sumF f v c + f r := by rw [← e, ← h]
      rw [this, Rat.intCast_add] at h1; exact h1
  obtain ⟨x1, x2, x3⟩ := hx
  have sb := sum_bd' hv hf (Nat.le_of_lt hcl)
  have sl := sum_bd' hv hf (Nat.le_refl v.length)
  have hfr : x.d * f r ≤ D * B := Int.mul_le_mul x3 hr.2 (by omega) (by omega)
  have hDB : D * B ≤ D * 100000 := Int.mul_le_mul_of_nonneg_left hB (by omega)
  have hfr0 : 0 < x.d * f r := Int.mul_pos (by omega) (by omega)
  have hpn : (((x.w - sumF f v c) * x.d + x.n : Int) : Rat) = (x.val - sumF f v c) * x.d := by
    rw [Rat.intCast_add, Rat.intCast_mul, Rat.intCast_sub]
    unfold Exa.val
    have e : (x.n : Rat) / x.d * x.d = x.n := Rat.div_mul_cancel b3
    grind
  have hpn2 : (x.w - sumF f v c) * x.d + x.n ≤ x.d * f r := by
    have : (((x.w - sumF f v c) * x.d + x.n : Int) : Rat) ≤ ((x.d * f r : Int) : Rat) := by
      rw [hpn, Rat.intCast_mul, Rat.mul_comm (x.d : Rat)]
      exact Rat.mul_le_mul_of_nonneg_right (by grind) (by grind)
    exact_mod_cast this
  have hpn0 : 0 ≤ (x.w - sumF f v c) * x.d := Int.mul_nonneg (by omega) (by omega)
  refine ⟨_, hF (szF f v) (belF f v) x c (sumF f v c) (f r) (belF_get _ _ _ (by omega)) (szF_get _ _ _ _ hc) (by simp [szF, belF]) (by simp [szF]; have := hv.2.1; omega) (fun j a h1 h2 h3 => ?_) (fun j a h1 h2 h3 => ?_) ⟨by omega, by omega, by omega, by omega⟩ ⟨by omega, by omega⟩ ⟨by omega, by omega⟩ ⟨by omega, by omega⟩, c, r, hc, rfl, hq1, hq2, ?_, hpn2, hfr0, hfr, ?_⟩
  · rw [belF_get _ _ _ (by omega)] at h3; cases h3; exact hall j h2
  · simp only [szF, List.length_map] at h2
    rw [belF_get _ _ _ (by omega)] at h3; cases h3; exact hgt j h1 h2
  · show 0 ≤ (x.w - sumF f v c) * x.d + x.n
    omega
  · show (((x.w - sumF f v c) * x.d + x.n : Int) : Rat) / ((x.d * f r : Int) : Rat) = _
    rw [hpn, Rat.intCast_mul]
    have := cast_ne hr.1
    grind
theorem at_ok {F : Nat} (hF : AtOk F) (hv : Valid v) (hf : Sz f B) (hg : Sz g B') {q : Rat} {D : Int} {p : Plc} (hp : PlcOk v f q D p) (hD : D * B' < 2^62) (hD2 : D < 2^62) : ∃ y, Does prog F [scaleV g v, plcV p] (exaV y) ∧ Good y D ∧ PL v f g q y.val := by
  obtain ⟨c, r, hc, h1, h2, h3, h4, h5, h6, h7, h8⟩ := hp
  have hcl := (List.getElem?_eq_some_iff.1 hc).1
  have hr := hg.2 _ (hv.ring hc)
  have hr' := hf.2 _ (hv.ring hc)
  have sb := sum_bd' hv hg (Nat.le_of_lt hcl)
  have hB := hg.1
  have n0 : 0 ≤ p.n * g r := Int.mul_nonneg h4 (by omega)
  have n1 : p.n * g r ≤ D * B' := Int.mul_le_mul (by omega) hr.2 (by omega) (by omega)
  have n2 : p.n * g r / p.d ≤ 100000 := by
    have : p.n * g r ≤ 100000 * p.d := by
      rw [Int.mul_comm 100000]
      exact Int.mul_le_mul h5 (by omega) (by omega) (by omega)
    have := Int.ediv_le_ediv h6 this
    rwa [Int.mul_ediv_cancel _ (by omega)] at this
  have n3 : 0 ≤ p.n * g r / p.d := Int.ediv_nonneg n0 (by omega)
  obtain ⟨g1, g2⟩ := ofX_good (more := sumF g v c) (n := p.n * g r) h6
  refine ⟨_, hF (szF g v) (belF g v) p c (sumF g v c) (g r) h1 (belF_get _ _ _ (by omega)) (szF_get _ _ _ _ hc) ⟨h6, by omega⟩ ⟨by omega, by omega⟩ ⟨by omega, by omega, by omega, by omega⟩, ⟨g1.1, g1.2.1, Int.le_trans g1.2.2 h7⟩, c, r, hc, h2, h3, ?_⟩
  rw [g2, Rat.intCast_mul]
  have z1 := cast_ne hr'.1
  have z2 : (p.d : Rat) ≠ 0 := cast_ne (by omega)
  have : (p.n : Rat) = (q - sumF f v c) / f r * p.d := by rw [← h8, Rat.div_mul_cancel z2]
  rw [this]
  grind
theorem less_ok {x y : Exa} {D E : Int} (hx : Good x D) (hy : Good y E) (hDE : D * E < 2^59) (hw : -2^59 < x.w - y.w ∧ x.w - y.w < 2^59) : Does prog 64 [exaV x, exaV y] (exaV (lessX x y)) ∧ Good (lessX x y) (D * E) ∧ (lessX x y).val = x.val - y.val := by
  obtain ⟨x1, x2, x3⟩ := hx
  obtain ⟨y1, y2, y3⟩ := hy
  have d0 : 0 < x.d * y.d := Int.mul_pos (by omega) (by omega)
  have d1 : x.d * y.d ≤ D * E := Int.mul_le_mul x3 y3 (by omega) (by omega)
  have n0 : 0 ≤ x.n * y.d := Int.mul_nonneg x1 (by omega)
  have n1 : x.n * y.d ≤ x.d * y.d := Int.mul_le_mul_of_nonneg_right (by omega) (by omega)
  have m0 : 0 ≤ y.n * x.d := Int.mul_nonneg y1 (by omega)
  have m1 : y.n * x.d ≤ x.d * y.d := by rw [Int.mul_comm x.d]; exact Int.mul_le_mul_of_nonneg_right (by omega) (by omega)
  obtain ⟨g1, g2⟩ := ofX_good (more := x.w - y.w) (n := x.n * y.d - y.n * x.d) d0
  have q1 : (x.n * y.d - y.n * x.d) / (x.d * y.d) ≤ 1 := by
    have := Int.ediv_le_ediv d0 (show x.n * y.d - y.n * x.d ≤ x.d * y.d by omega)
    rwa [Int.ediv_self (by omega)] at this
  have q2 : -1 ≤ (x.n * y.d - y.n * x.d) / (x.d * y.d) := by
    have := Int.ediv_le_ediv d0 (show -1 * (x.d * y.d) ≤ x.n * y.d - y.n * x.d by omega)
    rwa [Int.mul_ediv_cancel _ (by omega)] at this
  refine ⟨d64 x y ⟨by omega, by omega⟩ ⟨d0, by omega⟩ ⟨n0, by omega⟩ ⟨m0, by omega⟩ ⟨by omega, by omega⟩, ⟨g1.1, g1.2.1, Int.le_trans g1.2.2 d1⟩, ?_⟩
  unfold lessX
  rw [g2, Rat.intCast_sub, Rat.intCast_sub, Rat.intCast_mul, Rat.intCast_mul, Rat.intCast_mul]
  unfold Exa.val
  have z1 : (x.d : Rat) ≠ 0 := cast_ne (by omega)
  have z2 : (y.d : Rat) ≠ 0 := cast_ne (by omega)
  grind
/-- rounded down and up -/
def spanQ (q : Rat) : Int × Int := (q.floor, q.ceil)
theorem spanQ_eq {q : Rat} {a b : Int} (h1 : (a : Rat) ≤ q) (h2 : q < a + 1) (h3 : q ≤ b) (h4 : (b : Rat) < q + 1) : spanQ q = (a, b) := by
  have e1 : a ≤ q.floor := Rat.le_floor_iff.2 h1
  have e2 : q.floor < a + 1 := Rat.floor_lt_iff.2 (by rw [Rat.intCast_add]; exact h2)
  have e3 : q.ceil ≤ b := Rat.ceil_le_iff.2 h3
  have e4 : b - 1 < q.ceil := Rat.lt_ceil_iff.2 (by rw [Rat.intCast_sub]; grind)
  unfold spanQ
  rw [show q.floor = a by omega, show q.ceil = b by omega]
theorem Exa.span {x : Exa} {D : Int} (hx : Good x D) : (if x.n = 0 then (x.w, x.w) else (x.w, x.w + 1)) = spanQ x.val := by
  obtain ⟨b1, b2, b3, b4⟩ := Exa.bounds hx
  split
  · rename_i h
    have : x.val = x.w := by unfold Exa.val; rw [h]; grind
    exact (spanQ_eq b1 b2 (by grind) (by grind)).symm
  · rename_i h
    have h0 : (0 : Rat) < x.n := by have : 0 < x.n := by have := hx.1; omega
                                    exact_mod_cast this
    have : (0 : Rat) < (x.n : Rat) / x.d := by rw [Rat.lt_div_iff b4]; grind
    refine (spanQ_eq b1 b2 (by rw [Rat.intCast_add]; grind) ?_).symm
    rw [Rat.intCast_add]
    have e : x.val = x.w + (x.n : Rat) / x.d := rfl
    grind
theorem span_frac {n d : Int} (hd : 0 < d) : (n / d, (n + d - 1) / d) = spanQ ((n : Rat) / d) := by
  have hd' : (0 : Rat) < d := by exact_mod_cast hd
  have z : (d : Rat) ≠ 0 := by grind
  have e := Rat.div_mul_cancel (a := (n : Rat)) z
  have a1 : n / d * d ≤ n := Int.ediv_mul_le _ (by omega)
  have a2 : n < (n / d + 1) * d := Int.lt_ediv_add_one_mul_self _ hd
  have a3 : (n + d - 1) / d * d ≤ n + d - 1 := Int.ediv_mul_le _ (by omega)
  have a4 : n + d - 1 < ((n + d - 1) / d + 1) * d := Int.lt_ediv_add_one_mul_self _ hd
  have a5 : n ≤ (n + d - 1) / d * d := by rw [Int.add_mul] at a4; omega
  have a6 : (n + d - 1) / d * d < n + d := by omega
  symm
  refine spanQ_eq (Rat.not_lt.1 fun h => ?_) ?_ (Rat.not_lt.1 fun h => ?_) ?_
  · rw [Rat.div_lt_iff hd'] at h
    have : n < n / d * d := by exact_mod_cast h
    omega
  · rw [Rat.div_lt_iff hd']
    exact_mod_cast a2
  · rw [Rat.lt_div_iff hd'] at h
    have : (n + d - 1) / d * d < n := by exact_mod_cast h
    omega
  · have : (((n + d - 1) / d * d : Int) : Rat) < ((n + d : Int) : Rat) := by exact_mod_cast a6
    rw [Rat.intCast_mul, Rat.intCast_add] at this
    refine Rat.not_le.1 fun h => ?_
    have h2 := Rat.mul_le_mul_of_nonneg_right h (Rat.le_of_lt hd')
    rw [Rat.add_mul, e] at h2
    grind
theorem Exa.below {x : Exa} {D : Int} (hx : Good x D) (n : Int) : x.w < n ↔ x.val < n := by
  obtain ⟨b1, b2, b3, b4⟩ := Exa.bounds hx
  constructor
  · intro h
    have h2 : x.w + 1 ≤ n := by omega
    have : ((x.w + 1 : Int) : Rat) ≤ n := by exact_mod_cast h2
    rw [Rat.intCast_add] at this; grind
  · intro h
    have : (x.w : Rat) < n := by grind
    exact_mod_cast this
theorem Exa.above {x : Exa} {D : Int} (hx : Good x D) (n : Int) : (n < x.w ∨ x.w = n ∧ 0 < x.n) ↔ (n : Rat) < x.val := by
  obtain ⟨b1, b2, b3, b4⟩ := Exa.bounds hx
  have hp : 0 < x.n ↔ (0 : Rat) < (x.n : Rat) / x.d := by rw [Rat.lt_div_iff b4, Rat.zero_mul]; exact_mod_cast Iff.rfl
  have e : x.val = x.w + (x.n : Rat) / x.d := rfl
  constructor
  · rintro (h | ⟨h1, h2⟩)
    · have : (n : Rat) < x.w := by exact_mod_cast h
      grind
    · subst h1; have := hp.1 h2; grind
  · intro h
    by_cases h1 : n < x.w
    · exact .inl h1
    · have : (n : Rat) < ((x.w + 1 : Int) : Rat) := by rw [Rat.intCast_add]; grind
      have : n < x.w + 1 := by exact_mod_cast this
      have h2 : x.w = n := by omega
      exact .inr ⟨h2, hp.2 (by subst h2; grind)⟩
end
end Go.Proofs.Ytcamoojddlpbgaa.V
