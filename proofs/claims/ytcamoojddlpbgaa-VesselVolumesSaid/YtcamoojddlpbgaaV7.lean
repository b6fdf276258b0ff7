import Derived.Test.YtcamoojddlpbgaaV6
namespace Go.Proofs.Ytcamoojddlpbgaa.V
open Go.Proofs.Try
set_option linter.unusedSimpArgs false
set_option linter.unusedVariables false
set_option maxRecDepth 4000
section
variable {f g : Ring → Int} {B B' : Int} {v : List Ring}
theorem PL.range (hv : Valid v) (hf : Sz f B) (hg : Sz g B') {q q' : Rat} (h : PL v f g q q') : 0 ≤ q' ∧ q' ≤ sumF g v v.length := by
  obtain ⟨c, r, hc, h1, h2, h3⟩ := h
  have hcl := (List.getElem?_eq_some_iff.1 hc).1
  have hr := hg.2 _ (hv.ring hc)
  have hr' := hf.2 _ (hv.ring hc)
  have fp : (0 : Rat) < f r := by have : 0 < f r := by omega
                                  exact_mod_cast this
  have gp : (0 : Rat) < g r := by have : 0 < g r := by omega
                                  exact_mod_cast this
  have s0 : (0 : Rat) ≤ sumF g v c := by have := (sum_bd hv hg (Nat.le_of_lt hcl)).1
                                         exact_mod_cast this
  have s1 : ((sumF g v c + g r : Int) : Rat) ≤ sumF g v v.length := by
    have := sum_le hv hg (show c + 1 ≤ v.length from hcl) (Nat.le_refl _)
    rw [sumF_succ g v c r hc] at this
    exact_mod_cast this
  rw [Rat.intCast_add] at s1
  have e := Rat.div_mul_cancel (a := (q - sumF f v c) * g r) (b := (f r : Rat)) (by grind)
  have k0 : (0 : Rat) ≤ (q - sumF f v c) * g r / f r := Rat.not_lt.1 fun h => by
    rw [Rat.div_lt_iff fp] at h
    have := Rat.mul_nonneg (show (0 : Rat) ≤ q - sumF f v c by grind) (Rat.le_of_lt gp)
    grind
  have k1 : (q - sumF f v c) * g r / f r ≤ g r := Rat.not_lt.1 fun h => by
    rw [Rat.lt_div_iff fp] at h
    have := Rat.mul_le_mul_of_nonneg_right (show q - sumF f v c ≤ f r by grind) (Rat.le_of_lt gp)
    grind
  grind
end
def opV (v : List Ring) : PV := .agg [scaleV (·.h) v, scaleV (·.v) v, scaleV (·.d) v]
theorem Valid.sums {f : Ring → Int} {B : Int} {v : List Ring} (hv : Valid v) (hf : Sz f B) : ∀ i, i ≤ v.length → 0 ≤ sumF f v i ∧ sumF f v i < 2^60 := fun i hi => by
  have := sum_bd' hv hf hi; omega
theorem d61 {v : List Ring} (hv : Valid v) : Does prog 61 [vesV v] (opV v) := by
  refine does_of_tab mixed t61 ?_
  have h1 := hv.1
  have h2 := hv.2.1
  unfold k61
  simp -implicitDefEqProofs
  refine call_ (d106 v (by omega) (by omega) (hv.sums sz_h)) ?_
  simp -implicitDefEqProofs
  refine call_ (d108 v (by omega) (by omega) (hv.sums sz_v)) ?_
  simp -implicitDefEqProofs
  refine call_ (d109 v (by omega) (by omega) (hv.sums sz_d)) ?_
  simp -implicitDefEqProofs [scV]
  simp [opV, scaleV, scV]
theorem szF_len (f : Ring → Int) (v : List Ring) : (szF f v).length = v.length := by simp [szF]
theorem scales_ex (v : List Ring) : ∃ a b c, scaleV (·.h) v = .cp a ∧ scaleV (·.v) v = .cp b ∧ scaleV (·.d) v = .cp c ∧ opV v = .agg [.cp a, .cp b, .cp c] := ⟨_, _, _, rfl, rfl, rfl, rfl⟩
theorem d62 {v : List Ring} (n : Int) : Does prog 62 [opV v, .int .i64 n] (.bool (decide (0 ≤ n) && decide (n ≤ sumF (·.h) v v.length))) := by
  refine does_of_tab mixed t62 ?_
  have hA : Does prog 95 [scaleV (·.h) v] _ := d95 (szF (·.h) v) (belF (·.h) v) (sumF (·.h) v v.length) (by rw [szF_len]; exact belF_get _ _ _ (Nat.le_refl _))
  obtain ⟨a, b, c, e1, e2, e3, e4⟩ := scales_ex v
  rw [e1] at hA
  rw [e4]
  unfold k62
  simp -implicitDefEqProofs
  by_cases h : 0 ≤ n <;> simp -implicitDefEqProofs [h]
  refine call_ hA ?_
  simp -implicitDefEqProofs [h]
/-- the minutes below a level, and what is below it -/
noncomputable def Tm (v : List Ring) (l : Rat) : Rat := trans v (·.h) (·.d) l
noncomputable def Co (v : List Ring) (l : Rat) : Rat := trans v (·.h) (·.v) l
theorem whole_good (n : Int) : Good ⟨n, 0, 1⟩ 1 ∧ (Exa.val ⟨n, 0, 1⟩) = n := by
  refine ⟨⟨Int.le_refl 0, Int.one_pos, Int.le_refl 1⟩, ?_⟩
  show (n : Rat) + ((0 : Int) : Rat) / ((1 : Int) : Rat) = n
  grind
theorem cast_le {a b : Int} (h : a ≤ b) : (a : Rat) ≤ (b : Rat) := by exact_mod_cast h
/-- what a scale says of a number of another one -/
theorem tr_ok {F A : Nat} {f g : Ring → Int} {B B' D : Int} {v : List Ring} {x : Exa} (hF : FindOk F) (hA : AtOk A) (hv : Valid v) (hf : Sz f B) (hg : Sz g B') (hx : Good x D) (hD : D * 100000 < 2^60) (hD1 : D * B * B' < 2^62) (h0 : 0 ≤ x.val) (h1 : x.val ≤ sumF f v v.length) :
   ∃ p y, Does prog F [scaleV f v, exaV x] (plcV p) ∧ Does prog A [scaleV g v, plcV p] (exaV y) ∧ Good y (D * B) ∧ y.val = trans v f g x.val ∧ PL v f g x.val y.val ∧ PlcOk v f x.val (D * B) p := by
  obtain ⟨p, h2, h3⟩ := find_ok hF hv hf hx hD h0 h1
  have h4 : D * B ≤ D * 100000 := Int.mul_le_mul_of_nonneg_left hf.1 (by have := hx.1; have := hx.2.1; have := hx.2.2; omega)
  obtain ⟨y, h5, h6, h7⟩ := at_ok hA hv hf hg h3 hD1 (by omega)
  exact ⟨p, y, h2, h5, h6, (trans_eq hv hf h7).symm, h7, h3⟩
theorem val_bd {x : Exa} {D : Int} (hx : Good x D) (h0 : 0 ≤ x.val) (h1 : x.val ≤ 2400000) : 0 ≤ x.w ∧ x.w ≤ 2400000 := by
  obtain ⟨b1, b2, b3, b4⟩ := Exa.bounds hx
  constructor
  · have : (0 : Rat) < ((x.w + 1 : Int) : Rat) := by rw [Rat.intCast_add]; grind
    have : 0 < x.w + 1 := by exact_mod_cast this
    omega
  · have : (x.w : Rat) ≤ ((2400000 : Int) : Rat) := by
      have e : ((2400000 : Int) : Rat) = 2400000 := rfl
      rw [e]; exact Rat.le_trans b1 h1
    exact Rat.intCast_le_intCast.1 this
theorem PL.bd {f g : Ring → Int} {B B' : Int} {v : List Ring} (hv : Valid v) (hf : Sz f B) (hg : Sz g B') {q q' : Rat} (h : PL v f g q q') : 0 ≤ q' ∧ q' ≤ 2400000 := by
  obtain ⟨h1, h2⟩ := PL.range hv hf hg h
  refine ⟨h1, Rat.le_trans h2 ?_⟩
  have := cast_le (sum_bd' hv hg (Nat.le_refl v.length)).2
  exact this
theorem d63 {v : List Ring} (hv : Valid v) {l : Int} (h0 : 0 ≤ l) (h1 : l ≤ sumF (·.h) v v.length) : ∃ y, Does prog 63 [opV v, .int .i64 l] (exaV y) ∧ Good y 1000 ∧ y.val = Tm v l ∧ PL v (·.h) (·.d) l y.val := by
  obtain ⟨g1, g2⟩ := whole_good l
  obtain ⟨p, y, a1, a2, a3, a4, a5, _⟩ := tr_ok find_h at_d hv sz_h sz_d g1 (by omega) (by omega) (by rw [g2]; exact cast_le h0) (by rw [g2]; exact cast_le h1)
  rw [g2] at a4 a5
  refine ⟨y, ?_, a3, a4, a5⟩
  refine does_of_tab mixed t63 ?_
  obtain ⟨a, b, c, e1, e2, e3, e4⟩ := scales_ex v
  rw [e1] at a1
  rw [e3] at a2
  rw [e4]
  unfold k63
  simp -implicitDefEqProofs
  refine dcall_ (d85 l) ?_
  simp -implicitDefEqProofs
  refine dcall_ a1 ?_
  simp -implicitDefEqProofs
  refine dcall_ a2 ?_
  simp -implicitDefEqProofs [exaV]
theorem d87 {v : List Ring} (hv : Valid v) {l : Int} (h0 : 0 ≤ l) (h1 : l ≤ sumF (·.h) v v.length) : ∃ y, Does prog 87 [opV v, .int .i64 l] (exaV y) ∧ Good y 1000 ∧ y.val = Co v l ∧ PL v (·.h) (·.v) l y.val := by
  obtain ⟨g1, g2⟩ := whole_good l
  obtain ⟨p, y, a1, a2, a3, a4, a5, _⟩ := tr_ok find_h at_v hv sz_h sz_v g1 (by omega) (by omega) (by rw [g2]; exact cast_le h0) (by rw [g2]; exact cast_le h1)
  rw [g2] at a4 a5
  refine ⟨y, ?_, a3, a4, a5⟩
  refine does_of_tab mixed t87 ?_
  obtain ⟨a, b, c, e1, e2, e3, e4⟩ := scales_ex v
  rw [e1] at a1
  rw [e2] at a2
  rw [e4]
  unfold k87
  simp -implicitDefEqProofs
  refine dcall_ (d85 l) ?_
  simp -implicitDefEqProofs
  refine dcall_ a1 ?_
  simp -implicitDefEqProofs
  refine dcall_ a2 ?_
  simp -implicitDefEqProofs [exaV]
end Go.Proofs.Ytcamoojddlpbgaa.V
