import Derived.Test.YtcamoojddlpbgaaV14
namespace Go.Proofs.Ytcamoojddlpbgaa.V
open Go.Proofs.Try
set_option linter.unusedSimpArgs false
set_option linter.unusedVariables false
set_option maxRecDepth 4000
theorem PL.comp {f g k : Ring → Int} {B B' : Int} {v : List Ring} (hv : Valid v) (hf : Sz f B) (hg : Sz g B') {q y z : Rat} (h1 : PL v f g q y) (h2 : PL v g k y z) : PL v f k q z := by
  obtain ⟨c, r, hc, a1, a2, a3⟩ := h1
  obtain ⟨e1, e2⟩ := PL.ends hv hf hg hc a1 a2 a3
  have h3 : PL v g k y (sumF k v c + (y - sumF g v c) * k r / g r) := ⟨c, r, hc, e1, e2, rfl⟩
  have hz := PL.unique hv hg h2 h3
  refine ⟨c, r, hc, a1, a2, ?_⟩
  have z1 := cast_ne (hf.2 _ (hv.ring hc)).1
  have z2 := cast_ne (hg.2 _ (hv.ring hc)).1
  rw [hz, a3]
  grind
theorem posQ_le {q : Rat} {m : Rat} (h0 : 0 ≤ q) (hm : 0 ≤ m) : posQ (q - m) ≤ q ∧ 0 ≤ posQ (q - m) := by
  unfold posQ; split <;> grind
/-! ### Volumes -/
open Classical in
noncomputable def runS (v : List Ring) (l m : Int) : (Int × Int) × Int :=
  if ¬ Valid v then ((0, 0), 20) else if (lvl v l && many m) = false then ((0, 0), 1) else (spanQ (Co v l - trans v (·.d) (·.v) (posQ (Tm v l - m))), 0)
open Classical in
noncomputable def untilS (v : List Ring) (l m : Int) : (Int × Int) × Int :=
  if ¬ Valid v then ((0, 0), 20) else if (lvl v l && many m) = false then ((0, 0), 1) else if Co v l - m < 0 then ((0, 0), 4) else (spanQ (Tm v l - trans v (·.v) (·.d) (Co v l - m)), 0)
open Classical in
noncomputable def pouredS (v : List Ring) (l m : Int) : (Int × Int) × Int :=
  if ¬ Valid v then ((0, 0), 20) else if (lvl v l && many m) = false then ((0, 0), 1) else if (hiF (·.v) v : Rat) < Co v l + m then ((0, 0), 4) else (spanQ (trans v (·.v) (·.h) (Co v l + m)), 0)
theorem d82 {v : List Ring} (hv : Valid v) {l m : Int} (h0 : 0 ≤ l) (h1 : l ≤ hiF (·.h) v) (hm : 0 ≤ m) (hm2 : m ≤ 16777216) : ∃ z, Does prog 82 [opV v, .int .i64 l, .int .i64 m] (exaV z) ∧ Good z 20000000000 ∧ z.val = Co v l - trans v (·.d) (·.v) (posQ (Tm v l - m)) ∧ 0 ≤ z.val ∧ z.val ≤ 2400000 := by
  obtain ⟨x, x1, x2, x3, x4⟩ := d87 hv h0 h1
  obtain ⟨t, t1, t2, t3, t4⟩ := d63 hv h0 h1
  obtain ⟨p, p1, p2⟩ := d72 hv h0 h1 hm hm2
  obtain ⟨y, y1, y2, y3⟩ := at_ok at_v hv sz_d sz_v p2 (by omega) (by omega)
  have hy := trans_eq hv sz_d y3
  obtain ⟨bx1, bx2⟩ := PL.bd hv sz_h sz_v x4
  obtain ⟨by1, by2⟩ := PL.bd hv sz_d sz_v y3
  obtain ⟨bt1, bt2⟩ := PL.bd hv sz_h sz_d t4
  obtain ⟨bx3, bx4⟩ := val_bd x2 bx1 bx2
  obtain ⟨by3, by4⟩ := val_bd y2 by1 by2
  obtain ⟨z1, z2, z3⟩ := less_ok x2 y2 (by omega) ⟨by omega, by omega⟩
  have hm' : (0 : Rat) ≤ m := by exact_mod_cast hm
  rw [t3] at bt1
  have hle := PL.mono hv sz_d sz_v y3 (PL.comp hv sz_d sz_h (PL.inv hv sz_h sz_d (t3 ▸ t4)) x4) (posQ_le bt1 hm').1
  refine ⟨_, ?_, ⟨z2.1, z2.2.1, by have := z2.2.2; omega⟩, by rw [z3, x3, hy], by rw [z3]; grind, by rw [z3]; grind⟩
  obtain ⟨a, b, c, e1, e2, e3, e4⟩ := scales_ex v
  rw [e4] at x1 p1 ⊢
  rw [e2] at y1
  refine does_of_tab mixed t82 ?_
  unfold k82
  simp -implicitDefEqProofs
  refine dcall_ x1 ?_
  simp -implicitDefEqProofs
  refine dcall_ p1 ?_
  simp -implicitDefEqProofs
  refine dcall_ y1 ?_
  simp -implicitDefEqProofs
  refine dcall_ z1 ?_
  simp -implicitDefEqProofs [exaV]
theorem d23 (v : List Ring) (l m : Int) : Does prog 23 [vesV v, .int .i64 l, .int .i64 m] (saidV (runS v l m)) := by
  refine does_of_tab mixed t23 ?_
  unfold k23
  simp -implicitDefEqProofs
  by_cases hv : Valid v
  · cases h : lvl v l && many m
    · refine call_ (d70b hv h) ?_
      simp -implicitDefEqProofs [saidV, runS, hv, h, spanV, nilV]
    · obtain ⟨c1, c2, c3, e1, e2, e3, e4⟩ := scales_ex v
      have hA := d70c hv h
      rw [e4] at hA
      refine call_ hA ?_
      have h' := Bool.and_eq_true_iff.1 h
      obtain ⟨z, z1, z2, z3, z4, z5⟩ := d82 hv (lvl_iff.1 h'.1).1 (lvl_iff.1 h'.1).2 (many_iff.1 h'.2).1 (many_iff.1 h'.2).2
      obtain ⟨b3, b4⟩ := val_bd z2 z4 z5
      have hS := span_ok z2 (by omega) (by omega)
      rw [z3] at hS
      rw [e4] at z1
      simp -implicitDefEqProofs
      refine call_ z1 ?_
      simp -implicitDefEqProofs
      refine call_ hS ?_
      simp -implicitDefEqProofs [saidV, runS, hv, h, spanV]
  · refine call_ (d70a hv l m) ?_
    simp -implicitDefEqProofs [saidV, runS, hv, spanV, nilV]
theorem d84a {v : List Ring} (hv : Valid v) {l : Int} {x : Exa} {E : Int} (h0 : 0 ≤ l) (h1 : l ≤ hiF (·.h) v) (hx : Good x E) (hE : E ≤ 1000) (hw : 0 ≤ x.w ∧ x.w ≤ 2^30) (hneg : Co v l - x.val < 0) : Does prog 84 [opV v, .int .i64 l, exaV x] (.tup [exaV ⟨0, 0, 0⟩, .bool false]) := by
  obtain ⟨y, y1, y2, y3, y4⟩ := d87 hv h0 h1
  obtain ⟨by1, by2⟩ := PL.bd hv sz_h sz_v y4
  obtain ⟨by3, by4⟩ := val_bd y2 by1 by2
  obtain ⟨z1, z2, z3⟩ := less_ok y2 hx (by omega) ⟨by omega, by omega⟩
  have hb := (Exa.below z2 0).2 (by rw [z3, y3]; exact hneg)
  obtain ⟨a, b, c, e1, e2, e3, e4⟩ := scales_ex v
  rw [e4] at y1 ⊢
  have hB := d114 (lessX y x) 0
  refine does_of_tab mixed t84 ?_
  unfold k84
  simp -implicitDefEqProofs [exaV]
  refine dcall_ y1 ?_
  simp -implicitDefEqProofs
  refine dcall_ z1 ?_
  simp -implicitDefEqProofs [exaV]
  refine call_ hB ?_
  simp -implicitDefEqProofs [hb]
theorem d84b {v : List Ring} (hv : Valid v) {l : Int} {x : Exa} {E : Int} (h0 : 0 ≤ l) (h1 : l ≤ hiF (·.h) v) (hx : Good x E) (hE : E ≤ 1000) (hw : 0 ≤ x.w ∧ x.w ≤ 2^30) (hpos : ¬ Co v l - x.val < 0) (hx0 : 0 ≤ x.val) : ∃ z, Does prog 84 [opV v, .int .i64 l, exaV x] (.tup [exaV z, .bool true]) ∧ Good z 100000000000000 ∧ z.val = Tm v l - trans v (·.v) (·.d) (Co v l - x.val) ∧ 0 ≤ z.val ∧ z.val ≤ 2400000 := by
  obtain ⟨y, y1, y2, y3, y4⟩ := d87 hv h0 h1
  obtain ⟨t, t1, t2, t3, t4⟩ := d63 hv h0 h1
  obtain ⟨by1, by2⟩ := PL.bd hv sz_h sz_v y4
  obtain ⟨by3, by4⟩ := val_bd y2 by1 by2
  obtain ⟨bt1, bt2⟩ := PL.bd hv sz_h sz_d t4
  obtain ⟨bt3, bt4⟩ := val_bd t2 bt1 bt2
  obtain ⟨z1, z2, z3⟩ := less_ok y2 hx (by omega) ⟨by omega, by omega⟩
  have hE0 : 1 ≤ E := by have := hx.1; have := hx.2.1; have := hx.2.2; omega
  have hb : ¬ (lessX y x).w < 0 := fun h => by
    have := (Exa.below z2 0).1 h
    rw [z3, y3] at this
    exact hpos this
  have hr := PL.range hv sz_h sz_v y4
  obtain ⟨p, s, s1, s2, s3, s4, s5, _⟩ := tr_ok find_v at_d hv sz_v sz_d z2 (by omega) (by omega) (by rw [z3, y3]; exact Rat.not_lt.1 hpos) (by rw [z3]; grind)
  rw [z3, y3] at s4
  obtain ⟨bs1, bs2⟩ := PL.bd hv sz_v sz_d s5
  obtain ⟨bs3, bs4⟩ := val_bd s3 bs1 bs2
  obtain ⟨u1, u2, u3⟩ := less_ok t2 s3 (by omega) ⟨by omega, by omega⟩
  have hle := PL.mono hv sz_v sz_d s5 (PL.comp hv sz_v sz_h (PL.inv hv sz_h sz_v y4) t4) (by rw [z3]; grind)
  refine ⟨_, ?_, ⟨u2.1, u2.2.1, by have := u2.2.2; omega⟩, by rw [u3, t3, s4], by rw [u3]; grind, by rw [u3]; grind⟩
  obtain ⟨a, b, c, e1, e2, e3, e4⟩ := scales_ex v
  rw [e4] at y1 t1 ⊢
  rw [e2] at s1
  rw [e3] at s2
  have hB := d114 (lessX y x) 0
  refine does_of_tab mixed t84 ?_
  unfold k84
  simp -implicitDefEqProofs [exaV]
  refine dcall_ y1 ?_
  simp -implicitDefEqProofs
  refine dcall_ z1 ?_
  simp -implicitDefEqProofs [exaV]
  refine call_ hB ?_
  simp -implicitDefEqProofs [hb]
  refine dcall_ t1 ?_
  simp -implicitDefEqProofs
  refine dcall_ s1 ?_
  simp -implicitDefEqProofs
  refine dcall_ s2 ?_
  simp -implicitDefEqProofs
  refine dcall_ u1 ?_
  simp -implicitDefEqProofs [exaV]
theorem d25 (v : List Ring) (l m : Int) : Does prog 25 [vesV v, .int .i64 l, .int .i64 m] (saidV (untilS v l m)) := by
  refine does_of_tab mixed t25 ?_
  unfold k25
  simp -implicitDefEqProofs
  by_cases hv : Valid v
  · cases h : lvl v l && many m
    · refine call_ (d70b hv h) ?_
      simp -implicitDefEqProofs [saidV, untilS, hv, h, spanV, nilV]
    · obtain ⟨c1, c2, c3, e1, e2, e3, e4⟩ := scales_ex v
      have hA := d70c hv h
      rw [e4] at hA
      refine call_ hA ?_
      have h' := Bool.and_eq_true_iff.1 h
      have hL := lvl_iff.1 h'.1
      have hm := many_iff.1 h'.2
      obtain ⟨g1, g2⟩ := whole_good m
      have hm' : (0 : Rat) ≤ m := by exact_mod_cast hm.1
      simp -implicitDefEqProofs
      refine dcall_ (d85 m) ?_
      simp -implicitDefEqProofs
      by_cases h5 : Co v l - m < 0
      · have hU := d84a hv (x := ⟨m, 0, 1⟩) hL.1 hL.2 g1 (by omega) ⟨hm.1, by simp only; omega⟩ (by rw [g2]; exact h5)
        rw [e4] at hU
        refine dcall_ hU ?_
        simp -implicitDefEqProofs [saidV, untilS, hv, h, h5, spanV, exaV]
      · obtain ⟨z, z1, z2, z3, z4, z5⟩ := d84b hv (x := ⟨m, 0, 1⟩) hL.1 hL.2 g1 (by omega) ⟨hm.1, by simp only; omega⟩ (by rw [g2]; exact h5) (by rw [g2]; exact hm')
        obtain ⟨b3, b4⟩ := val_bd z2 z4 z5
        have hS := span_ok z2 (by omega) (by omega)
        rw [z3, g2] at hS
        rw [e4] at z1
        refine dcall_ z1 ?_
        simp -implicitDefEqProofs [exaV]
        simp only [exaV] at hS
        refine call_ hS ?_
        simp -implicitDefEqProofs [saidV, untilS, hv, h, h5, spanV]
  · refine call_ (d70a hv l m) ?_
    simp -implicitDefEqProofs [saidV, untilS, hv, spanV, nilV]
theorem d27 (v : List Ring) (l m : Int) : Does prog 27 [vesV v, .int .i64 l, .int .i64 m] (saidV (pouredS v l m)) := by
  refine does_of_tab mixed t27 ?_
  unfold k27
  simp -implicitDefEqProofs
  by_cases hv : Valid v
  · cases h : lvl v l && many m
    · refine call_ (d70b hv h) ?_
      simp -implicitDefEqProofs [saidV, pouredS, hv, h, spanV, nilV]
    · obtain ⟨c1, c2, c3, e1, e2, e3, e4⟩ := scales_ex v
      have hA := d70c hv h
      rw [e4] at hA
      refine call_ hA ?_
      have h' := Bool.and_eq_true_iff.1 h
      have hm := many_iff.1 h'.2
      obtain ⟨x, x1, x2, x3, x4⟩ := d87 hv (lvl_iff.1 h'.1).1 (lvl_iff.1 h'.1).2
      obtain ⟨b1, b2⟩ := PL.bd hv sz_h sz_v x4
      obtain ⟨b3, b4⟩ := val_bd x2 b1 b2
      obtain ⟨g1, g2⟩ := plus_good x2 m
      have hAll : Does prog 88 [scaleV (·.v) v] _ := d88 (szF (·.v) v) (belF (·.v) v) (hiF (·.v) v) (by rw [szF_len]; exact belF_get _ _ _ (Nat.le_refl _))
      have hab := Exa.above g1 (hiF (·.v) v)
      rw [g2, x3] at hab
      rw [e4] at x1
      rw [e2] at hAll
      simp -implicitDefEqProofs
      refine call_ x1 ?_
      simp -implicitDefEqProofs
      refine call_ (d76 x m ⟨by omega, by omega, by omega, by omega⟩) ?_
      simp -implicitDefEqProofs [exaV]
      refine dcall_ hAll ?_
      simp -implicitDefEqProofs
      refine dcall_ (d77 ⟨x.w + m, x.n, x.d⟩ (hiF (·.v) v)) ?_
      simp -implicitDefEqProofs
      refine onB_split (fun h4 => ?_) (fun h4 => ?_) <;> simp only [Bool.or_eq_true, Bool.and_eq_true, decide_eq_true_eq, Bool.or_eq_false_iff, Bool.and_eq_false_iff, decide_eq_false_iff_not] at h4
      · have h5 := hab.1 h4
        simp -implicitDefEqProofs [saidV, pouredS, hv, h, h5, spanV]
      · have h5 : ¬ ((hiF (·.v) v : Rat) < Co v l + m) := fun h6 => by
          rcases hab.2 h6 with h7 | h7
          · exact h4.1 h7
          · rcases h4.2 with h8 | h8
            · exact h8 h7.1
            · exact h8 h7.2
        have hm' : (0 : Rat) ≤ m := by exact_mod_cast hm.1
        obtain ⟨p, y, q1, q2, q3, q4, q5, q6⟩ := tr_ok find_v at_h hv sz_v sz_h g1 (by omega) (by omega) (by rw [g2]; grind) (by rw [g2, x3]; exact Rat.not_lt.1 h5)
        obtain ⟨b5, b6⟩ := PL.bd hv sz_v sz_h q5
        obtain ⟨b7, b8⟩ := val_bd q3 b5 b6
        have hS := span_ok q3 (by omega) (by omega)
        rw [q4, g2, x3] at hS
        rw [e1] at q2
        rw [e2] at q1
        simp -implicitDefEqProofs
        refine dcall_ q1 ?_
        simp -implicitDefEqProofs
        refine dcall_ q2 ?_
        simp -implicitDefEqProofs
        refine dcall_ hS ?_
        simp -implicitDefEqProofs [saidV, pouredS, hv, h, h5, spanV]
  · refine call_ (d70a hv l m) ?_
    simp -implicitDefEqProofs [saidV, pouredS, hv, spanV, nilV]
end Go.Proofs.Ytcamoojddlpbgaa.V
