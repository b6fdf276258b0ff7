import Derived.Test.YtcamoojddlpbgaaV8
namespace Go.Proofs.Ytcamoojddlpbgaa.V
open Go.Proofs.Try
set_option linter.unusedSimpArgs false
set_option linter.unusedVariables false
set_option maxRecDepth 4000
/-! ### after, asked, and what is asked -/
def posQ (q : Rat) : Rat := if q < 0 then 0 else q
def hiF (f : Ring → Int) (v : List Ring) : Int := sumF f v v.length
theorem plus_good {x : Exa} {D : Int} (hx : Good x D) (n : Int) : Good ⟨x.w + n, x.n, x.d⟩ D ∧ Exa.val ⟨x.w + n, x.n, x.d⟩ = x.val + n := by
  refine ⟨hx, ?_⟩
  show ((x.w + n : Int) : Rat) + (x.n : Rat) / x.d = _
  rw [Rat.intCast_add]
  have e : x.val = x.w + (x.n : Rat) / x.d := rfl
  grind
theorem d72 {v : List Ring} (hv : Valid v) {l m : Int} (h0 : 0 ≤ l) (h1 : l ≤ hiF (·.h) v) (hm : 0 ≤ m) (hm2 : m ≤ 16777216) : ∃ p, Does prog 72 [opV v, .int .i64 l, .int .i64 m] (plcV p) ∧ PlcOk v (·.d) (posQ (Tm v l - m)) 20000000 p := by
  obtain ⟨y, a1, a2, a3, a4⟩ := d63 hv h0 h1
  obtain ⟨c1, c2⟩ := PL.bd hv sz_h sz_d a4
  obtain ⟨c3, c4⟩ := val_bd a2 c1 c2
  obtain ⟨g1, g2⟩ := plus_good a2 (-m)
  have hr := PL.range hv sz_h sz_d a4
  have hm' : (0 : Rat) ≤ m := by exact_mod_cast hm
  have hb := Exa.below g1 0
  rw [g2] at hb
  have hcast : ((-m : Int) : Rat) = -m := Rat.intCast_neg ..
  have hz : ((0 : Int) : Rat) = 0 := rfl
  have hS := cast_le (sum_bd' hv sz_d (Nat.le_refl v.length)).1
  obtain ⟨a, b, c, e1, e2, e3, e4⟩ := scales_ex v
  have w1 : IntKind.i64.wrap (-m) = -m := wrap_id (by omega) (by omega)
  have w2 : IntKind.i64.wrap (0 - m) = -m := by rw [Int.zero_sub]; exact w1
  have key : ∃ x p, (x = if y.w + -m < 0 then (⟨0, 0, 1⟩ : Exa) else ⟨y.w + -m, y.n, y.d⟩) ∧ Does prog 79 [scaleV (·.d) v, exaV x] (plcV p) ∧ PlcOk v (·.d) (posQ (Tm v l - m)) 20000000 p := by
    by_cases h : y.w + -m < 0
    · have hq : posQ (Tm v l - m) = 0 := by
        have := hb.1 h
        unfold posQ; rw [if_pos (by grind)]
      obtain ⟨z1, z2⟩ := whole_good 0
      rw [hz] at z2
      obtain ⟨p, p1, p2⟩ := find_ok find_d hv sz_d z1 (by omega) (by rw [z2]; exact Rat.le_refl) (by rw [z2]; exact hS)
      refine ⟨_, p, (if_pos h).symm, p1, ?_⟩
      rw [z2] at p2
      rw [hq]
      obtain ⟨k, r, q1, q2, q3, q4, q5, q6, q7, q8, q9⟩ := p2
      exact ⟨k, r, q1, q2, q3, q4, q5, q6, q7, by omega, q9⟩
    · have hge : 0 ≤ y.val + (-m : Int) := by
        refine Rat.not_lt.1 fun h' => h (hb.2 ?_)
        rw [hz]; exact h'
      have hq : posQ (Tm v l - m) = y.val + (-m : Int) := by
        unfold posQ; rw [if_neg (by grind)]; grind
      obtain ⟨p, p1, p2⟩ := find_ok find_d hv sz_d g1 (by omega) (by rw [g2]; exact hge) (by rw [g2]; grind)
      refine ⟨_, p, (if_neg h).symm, p1, ?_⟩
      rw [g2] at p2
      rw [hq]; exact p2
  obtain ⟨x, p, hx, p1, p2⟩ := key
  refine ⟨p, ?_, p2⟩
  rw [e4] at a1 ⊢
  rw [e3] at p1
  refine does_of_tab mixed t72 ?_
  unfold k72
  simp -implicitDefEqProofs
  refine call_ a1 ?_
  simp -implicitDefEqProofs [w1, w2]
  refine call_ (d76 y (-m) ⟨by omega, by omega, by omega, by omega⟩) ?_
  simp -implicitDefEqProofs [exaV]
  refine call_ (d114 ⟨y.w + -m, y.n, y.d⟩ 0) ?_
  by_cases h : y.w + -m < 0
  · rw [if_pos h] at hx
    subst hx
    simp -implicitDefEqProofs [h]
    refine call_ (d85 0) ?_
    simp -implicitDefEqProofs [exaV]
    refine call_ p1 ?_
    simp -implicitDefEqProofs [plcV]
  · rw [if_neg h] at hx
    subst hx
    simp -implicitDefEqProofs [h]
    refine call_ p1 ?_
    simp -implicitDefEqProofs [plcV]
def lvl (v : List Ring) (n : Int) : Bool := decide (0 ≤ n) && decide (n ≤ hiF (·.h) v)
def many (n : Int) : Bool := decide (0 ≤ n) && decide (n ≤ 16777216)
theorem lvl_iff {v : List Ring} {n : Int} : lvl v n = true ↔ 0 ≤ n ∧ n ≤ hiF (·.h) v := by simp [lvl]
theorem many_iff {n : Int} : many n = true ↔ 0 ≤ n ∧ n ≤ 16777216 := by simp [many]
def nilV : PV := .agg [.nilp, .nilp, .nilp]
theorem d70a {v : List Ring} (hv : ¬ Valid v) (l n : Int) : Does prog 70 [vesV v, .int .i64 l, .int .i64 n] (.tup [nilV, .int .i64 20]) := by
  refine does_of_tab mixed t70 ?_
  unfold k70
  simp -implicitDefEqProofs
  refine call_ (d35 v) ?_
  rw [chk_no hv]
  simp -implicitDefEqProofs [nilV]
theorem d70b {v : List Ring} (hv : Valid v) {l n : Int} (h : (lvl v l && many n) = false) : Does prog 70 [vesV v, .int .i64 l, .int .i64 n] (.tup [nilV, .int .i64 1]) := by
  obtain ⟨a, b, c, e1, e2, e3, e4⟩ := scales_ex v
  have hL := d62 (v := v) l
  have hO := d61 hv
  rw [show (decide (0 ≤ l) && decide (l ≤ sumF (·.h) v v.length)) = lvl v l from rfl] at hL
  rw [e4] at hL hO
  have hM := d113 n
  rw [show (decide (0 ≤ n) && decide (n ≤ 16777216)) = many n from rfl] at hM
  refine does_of_tab mixed t70 ?_
  unfold k70
  simp -implicitDefEqProofs
  refine call_ (d35 v) ?_
  rw [chk_ok hv]
  simp -implicitDefEqProofs
  refine call_ hO ?_
  simp -implicitDefEqProofs
  refine call_ hL ?_
  cases h1 : lvl v l
  · simp -implicitDefEqProofs [nilV]
  · rw [h1, Bool.true_and] at h
    simp -implicitDefEqProofs
    refine call_ hM ?_
    simp -implicitDefEqProofs [nilV, h]
theorem d70c {v : List Ring} (hv : Valid v) {l n : Int} (h : (lvl v l && many n) = true) : Does prog 70 [vesV v, .int .i64 l, .int .i64 n] (.tup [opV v, .int .i64 0]) := by
  obtain ⟨a, b, c, e1, e2, e3, e4⟩ := scales_ex v
  have hL := d62 (v := v) l
  have hO := d61 hv
  rw [show (decide (0 ≤ l) && decide (l ≤ sumF (·.h) v v.length)) = lvl v l from rfl] at hL
  rw [e4] at hL hO
  have hM := d113 n
  rw [show (decide (0 ≤ n) && decide (n ≤ 16777216)) = many n from rfl] at hM
  obtain ⟨h1, h2⟩ := Bool.and_eq_true_iff.1 h
  rw [h1] at hL
  rw [h2] at hM
  rw [e4]
  refine does_of_tab mixed t70 ?_
  unfold k70
  simp -implicitDefEqProofs
  refine call_ (d35 v) ?_
  rw [chk_ok hv]
  simp -implicitDefEqProofs
  refine call_ hO ?_
  simp -implicitDefEqProofs
  refine call_ hL ?_
  simp -implicitDefEqProofs
  refine call_ hM ?_
  simp -implicitDefEqProofs
/-! ### what is said: a span and an error -/
def saidV (s : (Int × Int) × Int) : PV := .tup [spanV s.1, .int .i64 s.2]
open Classical in
noncomputable def sinkS (v : List Ring) (a b : Int) : (Int × Int) × Int :=
  if ¬ Valid v then ((0, 0), 20) else if (lvl v a && lvl v b) = false then ((0, 0), 1) else if a < b then ((0, 0), 4) else (spanQ (Tm v a - Tm v b), 0)
open Classical in
noncomputable def afterS (v : List Ring) (l m : Int) : (Int × Int) × Int :=
  if ¬ Valid v then ((0, 0), 20) else if (lvl v l && many m) = false then ((0, 0), 1) else (spanQ (trans v (·.d) (·.h) (posQ (Tm v l - m))), 0)
open Classical in
noncomputable def beforeS (v : List Ring) (l m : Int) : (Int × Int) × Int :=
  if ¬ Valid v then ((0, 0), 20) else if (lvl v l && many m) = false then ((0, 0), 1) else if (hiF (·.d) v : Rat) < Tm v l + m then ((0, 0), 4) else (spanQ (trans v (·.d) (·.h) (Tm v l + m)), 0)
theorem span_ok {x : Exa} {D : Int} (hx : Good x D) (h1 : -2^60 < x.w) (h2 : x.w < 2^60) : Does prog 65 [exaV x] (spanV (spanQ x.val)) := by
  have := d65 x ⟨by omega, by omega⟩
  rwa [Exa.span hx] at this
theorem w_bd {x : Exa} {D : Int} (hx : Good x D) {a b : Int} (h0 : (a : Rat) ≤ x.val) (h1 : x.val ≤ b) : a ≤ x.w ∧ x.w ≤ b := by
  obtain ⟨b1, b2, b3, b4⟩ := Exa.bounds hx
  constructor
  · have : (a : Rat) < ((x.w + 1 : Int) : Rat) := by rw [Rat.intCast_add]; grind
    have := Rat.intCast_lt_intCast.1 this
    omega
  · exact Rat.intCast_le_intCast.1 (Rat.le_trans b1 h1)
theorem c24 : ((2400000 : Int) : Rat) = 2400000 := rfl
theorem cn24 : ((-2400000 : Int) : Rat) = -2400000 := rfl
theorem d17 (v : List Ring) (a b : Int) : Does prog 17 [vesV v, .int .i64 a, .int .i64 b] (saidV (sinkS v a b)) := by
  refine does_of_tab mixed t17 ?_
  unfold k17
  simp -implicitDefEqProofs
  refine call_ (d35 v) ?_
  by_cases hv : Valid v
  · rw [chk_ok hv]
    obtain ⟨c1, c2, c3, e1, e2, e3, e4⟩ := scales_ex v
    have hA := d62 (v := v) a
    have hB := d62 (v := v) b
    have hO := d61 hv
    rw [show (decide (0 ≤ a) && decide (a ≤ sumF (·.h) v v.length)) = lvl v a from rfl] at hA
    rw [show (decide (0 ≤ b) && decide (b ≤ sumF (·.h) v v.length)) = lvl v b from rfl] at hB
    rw [e4] at hA hB hO
    simp -implicitDefEqProofs
    refine call_ hO ?_
    simp -implicitDefEqProofs
    refine call_ hA ?_
    cases h1 : lvl v a
    · simp -implicitDefEqProofs [saidV, sinkS, hv, h1, spanV]
    simp -implicitDefEqProofs
    refine call_ hB ?_
    cases h2 : lvl v b
    · simp -implicitDefEqProofs [saidV, sinkS, hv, h1, h2, spanV]
    simp -implicitDefEqProofs
    refine onB_dec (fun h3 => ?_) (fun h3 => ?_)
    · simp -implicitDefEqProofs [saidV, sinkS, hv, h1, h2, h3, spanV]
    obtain ⟨x, x1, x2, x3, x4⟩ := d63 hv (lvl_iff.1 h1).1 (lvl_iff.1 h1).2
    obtain ⟨y, y1, y2, y3, y4⟩ := d63 hv (lvl_iff.1 h2).1 (lvl_iff.1 h2).2
    obtain ⟨bx1, bx2⟩ := PL.bd hv sz_h sz_d x4
    obtain ⟨bx3, bx4⟩ := val_bd x2 bx1 bx2
    obtain ⟨by1, by2⟩ := PL.bd hv sz_h sz_d y4
    obtain ⟨by3, by4⟩ := val_bd y2 by1 by2
    obtain ⟨z1, z2, z3⟩ := less_ok x2 y2 (by omega) ⟨by omega, by omega⟩
    obtain ⟨u1, u2⟩ := w_bd z2 (a := -2400000) (b := 2400000) (by rw [z3, cn24]; grind) (by rw [z3, c24]; grind)
    have hS := span_ok z2 (by omega) (by omega)
    rw [z3, x3, y3] at hS
    rw [e4] at x1 y1
    simp -implicitDefEqProofs
    refine dcall_ x1 ?_
    simp -implicitDefEqProofs
    refine dcall_ y1 ?_
    simp -implicitDefEqProofs
    refine dcall_ z1 ?_
    simp -implicitDefEqProofs
    refine dcall_ hS ?_
    simp -implicitDefEqProofs [saidV, sinkS, hv, h1, h2, h3, spanV]
  · rw [chk_no hv]
    simp -implicitDefEqProofs [saidV, sinkS, hv, spanV]
theorem d19 (v : List Ring) (l m : Int) : Does prog 19 [vesV v, .int .i64 l, .int .i64 m] (saidV (afterS v l m)) := by
  refine does_of_tab mixed t19 ?_
  unfold k19
  simp -implicitDefEqProofs
  by_cases hv : Valid v
  · cases h : lvl v l && many m
    · refine call_ (d70b hv h) ?_
      simp -implicitDefEqProofs [saidV, afterS, hv, h, spanV, nilV]
    · obtain ⟨c1, c2, c3, e1, e2, e3, e4⟩ := scales_ex v
      have hA := d70c hv h
      rw [e4] at hA
      refine call_ hA ?_
      have h' := Bool.and_eq_true_iff.1 h
      obtain ⟨p, p1, p2⟩ := d72 hv (lvl_iff.1 h'.1).1 (lvl_iff.1 h'.1).2 (many_iff.1 h'.2).1 (many_iff.1 h'.2).2
      obtain ⟨y, y1, y2, y3⟩ := at_ok at_h hv sz_d sz_h p2 (by omega) (by omega)
      obtain ⟨b1, b2⟩ := PL.bd hv sz_d sz_h y3
      obtain ⟨b3, b4⟩ := val_bd y2 b1 b2
      have hS := span_ok y2 (by omega) (by omega)
      rw [← trans_eq hv sz_d y3] at hS
      rw [e1] at y1
      rw [e4] at p1
      simp -implicitDefEqProofs
      refine dcall_ p1 ?_
      simp -implicitDefEqProofs
      refine dcall_ y1 ?_
      simp -implicitDefEqProofs
      refine dcall_ hS ?_
      simp -implicitDefEqProofs [saidV, afterS, hv, h, spanV]
  · refine call_ (d70a hv l m) ?_
    simp -implicitDefEqProofs [saidV, afterS, hv, spanV, nilV]
theorem d21 (v : List Ring) (l m : Int) : Does prog 21 [vesV v, .int .i64 l, .int .i64 m] (saidV (beforeS v l m)) := by
  refine does_of_tab mixed t21 ?_
  unfold k21
  simp -implicitDefEqProofs
  by_cases hv : Valid v
  · cases h : lvl v l && many m
    · refine call_ (d70b hv h) ?_
      simp -implicitDefEqProofs [saidV, beforeS, hv, h, spanV, nilV]
    · obtain ⟨c1, c2, c3, e1, e2, e3, e4⟩ := scales_ex v
      have hA := d70c hv h
      rw [e4] at hA
      refine call_ hA ?_
      have h' := Bool.and_eq_true_iff.1 h
      have hm := many_iff.1 h'.2
      obtain ⟨x, x1, x2, x3, x4⟩ := d63 hv (lvl_iff.1 h'.1).1 (lvl_iff.1 h'.1).2
      obtain ⟨b1, b2⟩ := PL.bd hv sz_h sz_d x4
      obtain ⟨b3, b4⟩ := val_bd x2 b1 b2
      obtain ⟨g1, g2⟩ := plus_good x2 m
      have hAll : Does prog 78 [scaleV (·.d) v] _ := d78 (szF (·.d) v) (belF (·.d) v) (hiF (·.d) v) (by rw [szF_len]; exact belF_get _ _ _ (Nat.le_refl _))
      have hab := Exa.above g1 (hiF (·.d) v)
      rw [g2, x3] at hab
      rw [e4] at x1
      rw [e3] at hAll
      simp -implicitDefEqProofs
      refine call_ x1 ?_
      simp -implicitDefEqProofs
      refine call_ (d76 x m ⟨by omega, by omega, by omega, by omega⟩) ?_
      simp -implicitDefEqProofs [exaV]
      refine dcall_ hAll ?_
      simp -implicitDefEqProofs
      refine dcall_ (d77 ⟨x.w + m, x.n, x.d⟩ (hiF (·.d) v)) ?_
      simp -implicitDefEqProofs
      refine onB_split (fun h4 => ?_) (fun h4 => ?_) <;> simp only [Bool.or_eq_true, Bool.and_eq_true, decide_eq_true_eq, Bool.or_eq_false_iff, Bool.and_eq_false_iff, decide_eq_false_iff_not] at h4
      · have h5 := hab.1 h4
        simp -implicitDefEqProofs [saidV, beforeS, hv, h, h5, spanV]
      · have h5 : ¬ ((hiF (·.d) v : Rat) < Tm v l + m) := fun h6 => by
          rcases hab.2 h6 with h7 | h7
          · exact h4.1 h7
          · rcases h4.2 with h8 | h8
            · exact h8 h7.1
            · exact h8 h7.2
        have hm' : (0 : Rat) ≤ m := by exact_mod_cast hm.1
        obtain ⟨p, y, q1, q2, q3, q4, q5, q6⟩ := tr_ok find_d at_h hv sz_d sz_h g1 (by omega) (by omega) (by rw [g2]; grind) (by rw [g2, x3]; exact Rat.not_lt.1 h5)
        obtain ⟨b5, b6⟩ := PL.bd hv sz_d sz_h q5
        obtain ⟨b7, b8⟩ := val_bd q3 b5 b6
        have hS := span_ok q3 (by omega) (by omega)
        rw [q4, g2, x3] at hS
        rw [e1] at q2
        rw [e3] at q1
        simp -implicitDefEqProofs
        refine dcall_ q1 ?_
        simp -implicitDefEqProofs
        refine dcall_ q2 ?_
        simp -implicitDefEqProofs
        refine dcall_ hS ?_
        simp -implicitDefEqProofs [saidV, beforeS, hv, h, h5, spanV]
  · refine call_ (d70a hv l m) ?_
    simp -implicitDefEqProofs [saidV, beforeS, hv, spanV, nilV]
end Go.Proofs.Ytcamoojddlpbgaa.V
