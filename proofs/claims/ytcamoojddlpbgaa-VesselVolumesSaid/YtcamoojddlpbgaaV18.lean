import Derived.Test.YtcamoojddlpbgaaV17
namespace Go.Proofs.Ytcamoojddlpbgaa.V
open Go.Proofs.Try
set_option linter.unusedSimpArgs false
set_option linter.unusedVariables false
set_option maxRecDepth 4000
theorem d83 {f : Ring → Int} {B D : Int} {v : List Ring} {q : Rat} {p : Plc} (hv : Valid v) (hf : Sz f B) (hp : PlcOk v f q D p) (hD : D ≤ 2^38) : ∃ N, Does prog 83 [vesV v, plcV p] (.int .i64 N) ∧ 0 ≤ N ∧ N ≤ hiF (·.v) v * p.d ∧ hiF (·.v) v * p.d < 2^61 ∧ PL v f (·.v) q ((N : Rat) / p.d) := by
  obtain ⟨c, r, hc, h1, h2, h3, h4, h5, h6, h7, h8⟩ := hp
  obtain ⟨a1, a2, a3, a4, a5⟩ := num_ok hv hf sz_v hc h2 h3 h4 h5 h6 h8 h7 hD
  refine ⟨_, ?_, by omega, a3, a4, a5⟩
  refine does_of_tab mixed t83 ?_
  have hcl := (List.getElem?_eq_some_iff.1 hc).1
  have hS := d80 hv (Nat.le_of_lt hcl)
  have e2 : (c : Int) < v.length := by omega
  have e3 : v[c] = r := (List.getElem?_eq_some_iff.1 hc).2
  have w1 : IntKind.i64.wrap (sumF (·.v) v c * p.d) = sumF (·.v) v c * p.d := wrap_id (by omega) (by omega)
  have w2 : IntKind.i64.wrap (r.v * p.n) = r.v * p.n := wrap_id (by omega) (by omega)
  have w3 : IntKind.i64.wrap (sumF (·.v) v c * p.d + r.v * p.n) = sumF (·.v) v c * p.d + r.v * p.n := wrap_id (by omega) (by omega)
  unfold vesV at hS ⊢
  unfold k83
  simp -implicitDefEqProofs [plcV, h1]
  refine dcall_ hS ?_
  simp -implicitDefEqProofs [ringV_eq, e2, hcl, e3, w1, w2, w3]
theorem d86 {v : List Ring} (hv : Valid v) {n d : Int} (hd : 0 < d) (hd2 : d ≤ 2^20) (h0 : 0 ≤ n) (h1 : n ≤ hiF (·.v) v * d) : ∃ p, Does prog 86 [vesV v, .int .i64 n, .int .i64 d] (plcV p) ∧ PlcOk v (·.v) ((n : Rat) / d) (100000 * d) p := by
  obtain ⟨c, r, hc, q1, q2, q3⟩ := first_ex hv sz_v h0 h1
  have hp := place_ok hv sz_v hd hc q2 q3
  have hcl := (List.getElem?_eq_some_iff.1 hc).1
  have hl := hv.2.1
  have hh := hi_bd hv sz_v
  have hM : ∀ {x : Int}, 0 ≤ x → x ≤ 2400000 → 0 ≤ x * d ∧ x * d ≤ 2400000 * 2^20 := fun {x} h h' => ⟨Int.mul_nonneg h (by omega), Int.mul_le_mul h' hd2 (by omega) (by omega)⟩
  have hn := hM hh.1 hh.2
  refine ⟨_, ?_, hp⟩
  refine does_of_tab mixed t86 ?_
  have hS : ∀ {i : Nat}, i ≤ v.length → Does prog 80 [.sl (v.map ringV), .int .i64 i] (ringV ⟨sumF (·.h) v i, sumF (·.v) v i, sumF (·.d) v i⟩) := fun hi => d80 hv hi
  unfold k86
  simp -implicitDefEqProofs [vesV]
  refine wk_fam (fun k : Nat => ⟨regsOf 49 [(0, .p (.sl (v.map ringV))), (1, .p (.int .i64 n)), (2, .p (.int .i64 d)), (6, .bp 0 0 0), (7, .p (.int .i64 k))], [], [some ⟨0, 85, [.p (.int .i64 0), .p (.int .i64 0), .p (.int .i64 0)]⟩], 0, false⟩)
    (fun k => k ≤ c) (fun k => c - k) 0 (Nat.zero_le _) ⟨some [0, 1, 2, 6, 7], [0], by simp, by simp -implicitDefEqProofs [List.idxOf?_cons]⟩ fun G k hp hG => ?_
  have hkl : k < v.length := by omega
  obtain ⟨s, hs⟩ : ∃ s, v[k] = s := ⟨_, rfl⟩
  have e1 : v[k]? = some s := by rw [← hs]; exact List.getElem?_eq_getElem hkl
  have e2 : (k : Int) < v.length := by omega
  have e3 : IntKind.i64.wrap ((k : Int) + 1) = (k : Int) + 1 := wrap_id (by omega) (by omega)
  have f1 := sumF_succ (·.v) v k s e1
  have s1 := sum_bd' hv sz_v (i := k + 1) (by omega)
  have s0 := sum_bd' hv sz_v (i := k) (by omega)
  have m1 := hM s1.1 s1.2
  have m0 := hM s0.1 s0.2
  have w1 : IntKind.i64.wrap (sumF (·.v) v k + s.v) = sumF (·.v) v (k + 1) := by rw [f1]; exact wrap_id (by omega) (by omega)
  have w2 : IntKind.i64.wrap (sumF (·.v) v (k + 1) * d) = sumF (·.v) v (k + 1) * d := wrap_id (by omega) (by omega)
  have w3 : IntKind.i64.wrap (sumF (·.v) v k * d) = sumF (·.v) v k * d := wrap_id (by omega) (by omega)
  have w4 : IntKind.i64.wrap (n - sumF (·.v) v k * d) = n - sumF (·.v) v k * d := wrap_id (by omega) (by omega)
  have hsr := ring_of (hv.ring e1)
  have m2 := hM (x := s.v) (by omega) (by omega)
  have w5 : IntKind.i64.wrap (s.v * d) = s.v * d := wrap_id (by omega) (by omega)
  simp -implicitDefEqProofs [hkl]
  refine call_ (hS (Nat.le_of_lt hkl)) ?_
  simp -implicitDefEqProofs [hkl, hs, e1, e2, e3, ringV_eq, w1, w2]
  refine onB_dec (fun h => ?_) (fun h => ?_)
  · have : k = c := by
      refine Nat.le_antisymm hp (Nat.le_of_not_lt fun hlt => ?_)
      have := q1 k hlt; omega
    subst this
    rw [hc] at e1; cases e1
    have hpos : 0 < r.v * d := Int.mul_pos (by omega) hd
    simp -implicitDefEqProofs [hkl, hs, e2, e3, ringV_eq, w1, w2, w3, w4, w5]
    refine dcall_ (d112 (ring := (k : Int)) (n := n - sumF (·.v) v k * d) (d := r.v * d) (by omega) hpos (by omega) (by omega)) ?_
    simp -implicitDefEqProofs [plcV, lowP]
  · simp -implicitDefEqProofs [e3]
    refine hG (k + 1) _ (some [0, 1, 2, 6, 7]) [0] (by simp) (by simp -implicitDefEqProofs [List.idxOf?_cons]) ?_ ?_
    · refine Nat.lt_of_le_of_ne hp fun h' => ?_
      subst h'; exact h q2
    · have : k ≠ c := fun h' => by subst h'; exact h q2
      omega
theorem d24 (v : List Ring) (l m : Int) : Does prog 24 [vesV v, .int .i64 l, .int .i64 m] (saidV (runS v l m)) := by
  refine does_of_tab mixed t24 ?_
  unfold k24
  simp -implicitDefEqProofs
  by_cases hv : Valid v
  · refine call_flat (d66b hv m [l] (by simp)) (.int _ _) ?_
    have e0 : [l].all (lvl v) = lvl v l := by simp
    rw [e0]
    cases h : lvl v l && many m
    · simp -implicitDefEqProofs [saidV, runS, hv, h, spanV]
    · have h' := Bool.and_eq_true_iff.1 h
      have hL := lvl_iff.1 h'.1
      have hm := many_iff.1 h'.2
      obtain ⟨p, p1, p2⟩ := d67 hv hL.1 hL.2
      obtain ⟨q, q1, q2⟩ := d73 hv hL.1 hL.2 hm.1 hm.2
      obtain ⟨N, n1, n2, n3, n4, n5⟩ := d83 hv sz_h p2 (by omega)
      obtain ⟨T, t1, t2, t3, t4, t5⟩ := d69 hv sz_h p2 (by omega)
      obtain ⟨M, k1, k2, k3, k4, k5⟩ := d83 hv sz_d q2 (by omega)
      have hd : 0 < p.d ∧ p.d ≤ 1000 := by
        obtain ⟨c, r, _, _, _, _, _, _, h6, h7, _⟩ := p2
        exact ⟨h6, h7⟩
      have hq : 0 < q.d ∧ q.d ≤ 20000000 := by
        obtain ⟨c, r, _, _, _, _, _, _, h6, h7, _⟩ := q2
        exact ⟨h6, h7⟩
      have hT : Tm v l = (T : Rat) / p.d := trans_eq hv sz_h t5
      have bT := (PL.bd hv sz_h sz_d t5).1
      rw [← hT] at bT
      have hm' : (0 : Rat) ≤ m := by exact_mod_cast hm.1
      have hle := PL.mono hv sz_d sz_v k5 (PL.comp hv sz_d sz_h (PL.inv hv sz_h sz_d (hT ▸ t5)) n5) (posQ_le bT hm').1
      have hnum := frac_le hq.1 hd.1 hle
      have hh := hi_bd hv sz_v
      have b2 : hiF (·.v) v * p.d ≤ 2400000 * 1000 := Int.mul_le_mul hh.2 hd.2 (by omega) (by omega)
      have b2' : hiF (·.v) v * q.d ≤ 2400000 * 20000000 := Int.mul_le_mul hh.2 hq.2 (by omega) (by omega)
      have b3 : N * q.d ≤ 2400000 * 1000 * 20000000 := Int.mul_le_mul (by omega) hq.2 (by omega) (by omega)
      have b4 : M * p.d ≤ 2400000 * 20000000 * 1000 := Int.mul_le_mul (by omega) hd.2 (by omega) (by omega)
      have b5 : p.d * q.d ≤ 1000 * 20000000 := Int.mul_le_mul hd.2 hq.2 (by omega) (by omega)
      have b6 : 0 ≤ M * p.d := Int.mul_nonneg k2 (by omega)
      have b7 : 0 ≤ N * q.d := Int.mul_nonneg n2 (by omega)
      have hS := d68 (a := N) (b := p.d) (c := M) (d := q.d) hd.1 hq.1 ⟨by omega, by omega⟩ ⟨by omega, by omega⟩ (by omega) hnum
      rw [← trans_eq hv sz_h n5, ← trans_eq hv sz_d k5] at hS
      simp -implicitDefEqProofs
      refine call_ p1 ?_
      simp -implicitDefEqProofs
      refine call_ q1 ?_
      simp -implicitDefEqProofs [plcV]
      refine dcall_ n1 ?_
      simp -implicitDefEqProofs
      refine dcall_ k1 ?_
      simp -implicitDefEqProofs
      refine dcall_ hS ?_
      simp -implicitDefEqProofs [saidV, runS, hv, h, spanV, Co]
  · refine call_flat (d66a hv m [l]) (.int _ _) ?_
    simp -implicitDefEqProofs [saidV, runS, hv, spanV]
theorem d28 (v : List Ring) (l m : Int) : Does prog 28 [vesV v, .int .i64 l, .int .i64 m] (saidV (pouredS v l m)) := by
  refine does_of_tab mixed t28 ?_
  unfold k28
  simp -implicitDefEqProofs
  by_cases hv : Valid v
  · refine call_flat (d66b hv m [l] (by simp)) (.int _ _) ?_
    have e0 : [l].all (lvl v) = lvl v l := by simp
    rw [e0]
    cases h : lvl v l && many m
    · simp -implicitDefEqProofs [saidV, pouredS, hv, h, spanV]
    · have h' := Bool.and_eq_true_iff.1 h
      have hm := many_iff.1 h'.2
      obtain ⟨p, p1, p2⟩ := d67 hv (lvl_iff.1 h'.1).1 (lvl_iff.1 h'.1).2
      obtain ⟨N, n1, n2, n3, n4, n5⟩ := d83 hv sz_h p2 (by omega)
      have hd : 0 < p.d ∧ p.d ≤ 1000 := by
        obtain ⟨c, r, _, _, _, _, _, _, h6, h7, _⟩ := p2
        exact ⟨h6, h7⟩
      have hT : Co v l = (N : Rat) / p.d := trans_eq hv sz_h n5
      have hh := hi_bd hv sz_v
      have m0 : 0 ≤ m * p.d := Int.mul_nonneg hm.1 (by omega)
      have m1 : m * p.d ≤ 16777216 * 1000 := Int.mul_le_mul hm.2 hd.2 (by omega) (by omega)
      have m2 : hiF (·.v) v * p.d ≤ 2400000 * 1000 := Int.mul_le_mul hh.2 hd.2 (by omega) (by omega)
      have m3 : 0 ≤ hiF (·.v) v * p.d := Int.mul_nonneg hh.1 (by omega)
      have hd' : (0 : Rat) < p.d := by exact_mod_cast hd.1
      have zd : (p.d : Rat) ≠ 0 := by grind
      have hQ : Co v l + m = ((N + m * p.d : Int) : Rat) / p.d := by
        rw [hT, Rat.intCast_add, Rat.intCast_mul]; grind
      have hcmp : (hiF (·.v) v : Rat) < Co v l + m ↔ hiF (·.v) v * p.d < N + m * p.d := by
        rw [hQ, Rat.lt_div_iff hd', ← Rat.intCast_mul]
        exact Rat.intCast_lt_intCast
      have w1 : IntKind.i64.wrap (m * p.d) = m * p.d := wrap_id (by omega) (by omega)
      have w2 : IntKind.i64.wrap (N + m * p.d) = N + m * p.d := wrap_id (by omega) (by omega)
      have w3 : IntKind.i64.wrap (hiF (·.v) v * p.d) = hiF (·.v) v * p.d := wrap_id (by omega) (by omega)
      have hS := d80 hv (Nat.le_refl v.length)
      rw [show sumF (·.v) v v.length = hiF (·.v) v from rfl] at hS
      have hlen : (vesV v) = .sl (v.map ringV) := rfl
      simp -implicitDefEqProofs
      refine call_ p1 ?_
      simp -implicitDefEqProofs [plcV]
      refine dcall_ n1 ?_
      simp -implicitDefEqProofs [w1, w2, hlen]
      refine dcall_ hS ?_
      simp -implicitDefEqProofs [ringV_eq, w3]
      refine onB_dec (fun h4 => ?_) (fun h4 => ?_)
      · have h5 := hcmp.2 h4
        simp -implicitDefEqProofs [saidV, pouredS, hv, h, h5, spanV]
      · have h5 : ¬ ((hiF (·.v) v : Rat) < Co v l + m) := fun h6 => h4 (hcmp.1 h6)
        obtain ⟨q, q1, q2⟩ := d86 hv (n := N + m * p.d) hd.1 (by omega) (by omega) (by omega)
        obtain ⟨M, k1, k2, k3, k4, k5⟩ := d75 hv sz_v q2 (by omega)
        have hqd : 0 < q.d ∧ q.d ≤ 100000000 := by
          obtain ⟨c, r, _, _, _, _, _, _, h6, h7, _⟩ := q2
          exact ⟨h6, by omega⟩
        have hS2 := d74 k2 hqd.1 (by omega) (by omega)
        rw [← trans_eq hv sz_v k5, ← hQ] at hS2
        simp -implicitDefEqProofs
        refine call_ q1 ?_
        simp -implicitDefEqProofs [plcV]
        refine dcall_ k1 ?_
        simp -implicitDefEqProofs
        refine dcall_ hS2 ?_
        simp -implicitDefEqProofs [saidV, pouredS, hv, h, h5, spanV]
  · refine call_flat (d66a hv m [l]) (.int _ _) ?_
    simp -implicitDefEqProofs [saidV, pouredS, hv, spanV]
theorem d26 (v : List Ring) (l m : Int) : Does prog 26 [vesV v, .int .i64 l, .int .i64 m] (saidV (untilS v l m)) := by
  refine does_of_tab mixed t26 ?_
  unfold k26
  simp -implicitDefEqProofs
  by_cases hv : Valid v
  · refine call_flat (d66b hv m [l] (by simp)) (.int _ _) ?_
    have e0 : [l].all (lvl v) = lvl v l := by simp
    rw [e0]
    cases h : lvl v l && many m
    · simp -implicitDefEqProofs [saidV, untilS, hv, h, spanV]
    · have h' := Bool.and_eq_true_iff.1 h
      have hL := lvl_iff.1 h'.1
      have hm := many_iff.1 h'.2
      obtain ⟨p, p1, p2⟩ := d67 hv hL.1 hL.2
      obtain ⟨N, n1, n2, n3, n4, n5⟩ := d83 hv sz_h p2 (by omega)
      obtain ⟨T, t1, t2, t3, t4, t5⟩ := d69 hv sz_h p2 (by omega)
      have hd : 0 < p.d ∧ p.d ≤ 1000 := by
        obtain ⟨c, r, _, _, _, _, _, _, h6, h7, _⟩ := p2
        exact ⟨h6, h7⟩
      have hC : Co v l = (N : Rat) / p.d := trans_eq hv sz_h n5
      have hT : Tm v l = (T : Rat) / p.d := trans_eq hv sz_h t5
      have hh := hi_bd hv sz_v
      have hhd := hi_bd hv sz_d
      have m0 : 0 ≤ m * p.d := Int.mul_nonneg hm.1 (by omega)
      have m1 : m * p.d ≤ 16777216 * 1000 := Int.mul_le_mul hm.2 hd.2 (by omega) (by omega)
      have m2 : hiF (·.v) v * p.d ≤ 2400000 * 1000 := Int.mul_le_mul hh.2 hd.2 (by omega) (by omega)
      have m3 : hiF (·.d) v * p.d ≤ 2400000 * 1000 := Int.mul_le_mul hhd.2 hd.2 (by omega) (by omega)
      have hd' : (0 : Rat) < p.d := by exact_mod_cast hd.1
      have zd : (p.d : Rat) ≠ 0 := by grind
      have hQ : Co v l - m = ((N - m * p.d : Int) : Rat) / p.d := by
        rw [hC, Rat.intCast_sub, Rat.intCast_mul]; grind
      have hcmp : Co v l - m < 0 ↔ N - m * p.d < 0 := by
        rw [hQ, Rat.div_lt_iff hd', Rat.zero_mul]
        exact Rat.intCast_lt_intCast (b := 0)
      have w1 : IntKind.i64.wrap (m * p.d) = m * p.d := wrap_id (by omega) (by omega)
      have w2 : IntKind.i64.wrap (N - m * p.d) = N - m * p.d := wrap_id (by omega) (by omega)
      simp -implicitDefEqProofs
      refine call_ p1 ?_
      simp -implicitDefEqProofs [plcV]
      refine dcall_ n1 ?_
      simp -implicitDefEqProofs [w1, w2]
      refine onB_dec (fun h4 => ?_) (fun h4 => ?_)
      · have h5 := hcmp.2 h4
        simp -implicitDefEqProofs [saidV, untilS, hv, h, h5, spanV]
      · have h5 : ¬ Co v l - m < 0 := fun h6 => h4 (hcmp.1 h6)
        obtain ⟨q, q1, q2⟩ := d86 hv (n := N - m * p.d) hd.1 (by omega) (by omega) (by omega)
        obtain ⟨M, k1, k2, k3, k4, k5⟩ := d69 hv sz_v q2 (by omega)
        have hq : 0 < q.d ∧ q.d ≤ 100000000 := by
          obtain ⟨c, r, _, _, _, _, _, _, h6, h7, _⟩ := q2
          exact ⟨h6, by omega⟩
        have hm' : (0 : Rat) ≤ m := by exact_mod_cast hm.1
        rw [← hQ] at k5
        have hle := PL.mono hv sz_v sz_d k5 (PL.comp hv sz_v sz_h (PL.inv hv sz_h sz_v (hC ▸ n5)) t5) (by grind)
        have hnum := frac_le hq.1 hd.1 hle
        have b2' : hiF (·.d) v * q.d ≤ 2400000 * 100000000 := Int.mul_le_mul hhd.2 hq.2 (by omega) (by omega)
        have b3 : T * q.d ≤ 2400000 * 1000 * 100000000 := Int.mul_le_mul (by omega) hq.2 (by omega) (by omega)
        have b4 : M * p.d ≤ 2400000 * 100000000 * 1000 := Int.mul_le_mul (by omega) hd.2 (by omega) (by omega)
        have b5 : p.d * q.d ≤ 1000 * 100000000 := Int.mul_le_mul hd.2 hq.2 (by omega) (by omega)
        have b6 : 0 ≤ M * p.d := Int.mul_nonneg k2 (by omega)
        have b7 : 0 ≤ T * q.d := Int.mul_nonneg t2 (by omega)
        have hS := d68 (a := T) (b := p.d) (c := M) (d := q.d) hd.1 hq.1 ⟨by omega, by omega⟩ ⟨by omega, by omega⟩ (by omega) hnum
        rw [← hT, ← trans_eq hv sz_v k5] at hS
        simp -implicitDefEqProofs
        refine call_ q1 ?_
        simp -implicitDefEqProofs [plcV]
        refine dcall_ t1 ?_
        simp -implicitDefEqProofs
        refine dcall_ k1 ?_
        simp -implicitDefEqProofs
        refine dcall_ hS ?_
        simp -implicitDefEqProofs [saidV, untilS, hv, h, h5, spanV]
  · refine call_flat (d66a hv m [l]) (.int _ _) ?_
    simp -implicitDefEqProofs [saidV, untilS, hv, spanV]
end Go.Proofs.Ytcamoojddlpbgaa.V
