import Derived.Test.YtcamoojddlpbgaaV3
namespace Go.Proofs.Ytcamoojddlpbgaa.V
open Go.Proofs.Try
set_option linter.unusedSimpArgs false
set_option linter.unusedVariables false
set_option maxRecDepth 4000
theorem ringV_eq (r : Ring) : ringV r = .agg [.int .i64 r.h, .int .i64 r.v, .int .i64 r.d] := rfl
theorem lvR_ren (l : List Int) (bx : Bxs) (ρ : List Nat) : (lvR l).map (LV.ren bx ρ) = lvR l := by
  unfold lvR; rw [List.map_map]; rfl
theorem lvR_take (l : List Int) (k : Nat) (a : Int) (h : l[k]? = some a) : lvR (l.take (k + 1)) = lvR (l.take k) ++ [.p (i64 a)] := by
  rw [List.take_add_one, h]; simp [lvR]
theorem szF_get (f : Ring → Int) (v : List Ring) (k : Nat) (r : Ring) (h : v[k]? = some r) : (szF f v)[k]? = some (f r) := by simp [szF, h]
theorem belF_get (f : Ring → Int) (v : List Ring) (k : Nat) (h : k ≤ v.length) : (belF f v)[k]? = some (sumF f v k) := by
  unfold belF
  rw [List.getElem?_map, List.getElem?_range (by omega)]; rfl
theorem frz_lvR (bx : Bxs) (d : Nat) (l : List Int) : (lvR l).mapM (frz bx d) = some (l.map fun n => (i64 n, [])) := by
  have h0 : ∀ a, frz bx d (.p (i64 a)) = some (i64 a, []) := fun a => by cases d <;> rfl
  induction l with
  | nil => rfl
  | cons a l ih =>
    show ((LV.p (i64 a)) :: lvR l).mapM (frz bx d) = _
    rw [List.mapM_cons, h0, ih]; rfl
theorem parts_int : ∀ (l : List Int) (n : Nat), l.length = n → parts false 1 n (l.map i64) = l.map i64
  | [], n, h => by subst h; rfl
  | a :: l, n, h => by
    subst h
    show i64 a :: parts false 1 l.length (l.map i64) = _
    rw [parts_int l _ rfl]; rfl
theorem d106 (v : List Ring) (h0 : 0 < v.length) (hl : (v.length : Int) < 2^20) (hs : ∀ i, i ≤ v.length → 0 ≤ sumF (·.h) v i ∧ sumF (·.h) v i < 2^60) : Does prog 106 [vesV v, .fn 107 [] []] (scV (szF (·.h) v) (belF (·.h) v)) := by
  refine does_of_tab mixed t106 ?_
  unfold k106
  simp -implicitDefEqProofs [vesV]
  refine wk_fam (fun i : Nat => match i with
      | 0 => ⟨regsOf 56 [(0, .p (.sl (v.map ringV))), (1, .p (.fn 107 [] [])), (5, .bp 0 0 0), (6, .p (.int .i64 0)), (11, .p (.sl (v.map ringV))), (12, .p (.int .i64 v.length)), (13, .p (.int .i64 0))], [], [some ⟨0, 127, [.p .nils, .p .nils]⟩], 0, false⟩
      | k + 1 => ⟨regsOf 56 [(0, .p (.sl (v.map ringV))), (1, .p (.fn 107 [] [])), (5, .bp 0 0 0), (6, .p (.int .i64 (sumF (·.h) v (k + 1)))), (11, .p (.sl (v.map ringV))), (12, .p (.int .i64 v.length)), (13, .p (.int .i64 (k + 1)))], [],
        [some ⟨0, 127, [.bs 1 0 (k + 1) 1 false, .bs 2 0 (k + 1) 1 false]⟩, some ⟨0, 92, lvR ((szF (·.h) v).take (k + 1))⟩, some ⟨0, 92, lvR ((belF (·.h) v).take (k + 1))⟩], 0, false⟩)
    (fun i => i ≤ v.length) (fun i => v.length - i) 0 (Nat.zero_le _) ⟨some [0, 1, 5, 6, 11, 12, 13], [0], by simp, by simp -implicitDefEqProofs⟩ fun G i hp hG => ?_
  cases i with
  | zero =>
    obtain ⟨r, hr⟩ : ∃ r, v[0] = r := ⟨_, rfl⟩
    have e1 : v[0]? = some r := by rw [← hr]; exact List.getElem?_eq_getElem h0
    have e2 : IntKind.i64.wrap r.h = r.h := by
      have := hs 1 (by omega)
      rw [sumF_succ _ _ _ _ e1] at this
      have h3 : sumF (·.h) v 0 = 0 := rfl
      rw [h3] at this
      exact wrap_id (by omega) (by omega)
    have e3 : IntKind.i64.wrap 1 = 1 := rfl
    simp -implicitDefEqProofs [h0, hr, ringV_eq, e2, e3]
    refine dcall_ (d107 r) ?_
    simp -implicitDefEqProofs [h0, hr, ringV_eq, e2, e3]
    refine call_ (d107 r) ?_
    simp -implicitDefEqProofs [h0, hr, ringV_eq, e2, e3]
    refine hG 1 _ (some [0, 1, 5, 6, 11, 12, 13]) [0, 3, 5] (by simp) ?_ h0 (by omega)
    have h3 : sumF (·.h) v 1 = r.h := by rw [sumF_succ _ _ _ _ e1]; show 0 + r.h = r.h; omega
    have h4 : lvR ((szF (·.h) v).take (0 + 1)) = [.p (i64 r.h)] := lvR_take _ _ _ (szF_get _ _ _ _ e1)
    have h5 : lvR ((belF (·.h) v).take (0 + 1)) = [.p (i64 0)] := lvR_take _ _ _ (belF_get _ _ _ (by omega))
    rw [Nat.zero_add] at h4 h5
    simp -implicitDefEqProofs [h3, h4, h5, List.idxOf?_cons]
  | succ k =>
    dsimp only
    generalize hL : lvR ((szF (·.h) v).take (k + 1)) = L
    generalize hM : lvR ((belF (·.h) v).take (k + 1)) = M
    have hLl : L.length = k + 1 := by rw [← hL]; simp [lvR, szF]; omega
    have hMl : M.length = k + 1 := by rw [← hM]; simp [lvR, belF]; omega
    have hLr : ∀ bx ρ, L.map (LV.ren bx ρ) = L := fun bx ρ => by rw [← hL]; exact lvR_ren _ _ _
    have hMr : ∀ bx ρ, M.map (LV.ren bx ρ) = M := fun bx ρ => by rw [← hM]; exact lvR_ren _ _ _
    simp -implicitDefEqProofs
    refine onB_split (fun h => ?_) (fun h => ?_) <;> simp at h
    · have hk : k + 1 < v.length := by omega
      obtain ⟨r, hr⟩ : ∃ r, v[k + 1] = r := ⟨_, rfl⟩
      have e1 : v[k + 1]? = some r := by rw [← hr]; exact List.getElem?_eq_getElem hk
      have h3 : sumF (·.h) v (k + 1) + r.h = sumF (·.h) v (k + 2) := (sumF_succ _ _ _ _ e1).symm
      have e2 : IntKind.i64.wrap (sumF (·.h) v (k + 1) + r.h) = sumF (·.h) v (k + 2) := by
        have := hs (k + 2) (by omega)
        rw [h3]
        exact wrap_id (by omega) (by omega)
      have e3 : IntKind.i64.wrap ((k : Int) + 1 + 1) = (k : Int) + 1 + 1 := wrap_id (by omega) (by omega)
      have e4 : (0 : Int) ≤ k + 1 := by omega
      have e6 : (k : Int) + 1 < v.length := by omega
      have e7 : 2 * (k + 1 + 1) * 9 ≤ 1099511627776 := by omega
      have e5 : ((k : Int) + 1).toNat = k + 1 := by omega
      simp -implicitDefEqProofs [hk, hr, ringV_eq, e1, e2, e3, e4, e5, e6, e7, hLl, hMl]
      refine dcall_ (d107 r) ?_
      simp -implicitDefEqProofs [hk, hr, ringV_eq, e1, e2, e3, e4, e5, e6, e7, hLl, hMl]
      refine call_ (d107 r) ?_
      simp -implicitDefEqProofs [hk, hr, ringV_eq, e1, e2, e3, e4, e5, e6, e7, hLl, hMl]
      refine hG (k + 1 + 1) _ (some [0, 1, 5, 6, 11, 12, 13]) [0, 1, 2] (by simp) ?_ (by omega) (by omega)
      dsimp only
      rw [lvR_take _ _ _ (szF_get _ _ _ _ e1), lvR_take _ _ _ (belF_get _ _ _ (by omega)), hL, hM]
      simp -implicitDefEqProofs [hLr, hMr, List.idxOf?_cons]
    · have hk : k + 1 = v.length := by omega
      have e7 : 2 * (k + 1 + 1) * 9 ≤ 1099511627776 := by omega
      have hM2 : M ++ [.p (i64 (sumF (·.h) v (k + 1)))] = lvR (belF (·.h) v) := by
        rw [← hM, ← lvR_take _ _ _ (belF_get _ _ _ (by omega)), List.take_of_length_le (by simp [belF]; omega)]
      have hL2 : L = lvR (szF (·.h) v) := by rw [← hL, List.take_of_length_le (by simp [szF]; omega)]
      have p1 : parts false 1 (k + 1) ((szF (·.h) v).map i64) = (szF (·.h) v).map i64 := parts_int _ _ (by simp [szF]; omega)
      have p2 : parts false 1 (k + 1 + 1) ((belF (·.h) v).map i64) = (belF (·.h) v).map i64 := parts_int _ _ (by simp [belF]; omega)
      have l1 : k + 1 ≤ (szF (·.h) v).length := by simp [szF]; omega
      have l2 : k + 1 + 1 ≤ (belF (·.h) v).length := by simp [belF]; omega
      simp -implicitDefEqProofs [-parts, hLl, hMl, e7, hM2]
      simp -implicitDefEqProofs [-parts, hL2, frz_lvR, Function.comp_def, p1, p2, l1, l2, scV]
theorem d108 (v : List Ring) (h0 : 0 < v.length) (hl : (v.length : Int) < 2^20) (hs : ∀ i, i ≤ v.length → 0 ≤ sumF (·.v) v i ∧ sumF (·.v) v i < 2^60) : Does prog 108 [vesV v, .fn 99 [] []] (scV (szF (·.v) v) (belF (·.v) v)) := by
  refine does_of_tab mixed t108 ?_
  unfold k108
  simp -implicitDefEqProofs [vesV]
  refine wk_fam (fun i : Nat => match i with
      | 0 => ⟨regsOf 56 [(0, .p (.sl (v.map ringV))), (1, .p (.fn 99 [] [])), (5, .bp 0 0 0), (6, .p (.int .i64 0)), (11, .p (.sl (v.map ringV))), (12, .p (.int .i64 v.length)), (13, .p (.int .i64 0))], [], [some ⟨0, 134, [.p .nils, .p .nils]⟩], 0, false⟩
      | k + 1 => ⟨regsOf 56 [(0, .p (.sl (v.map ringV))), (1, .p (.fn 99 [] [])), (5, .bp 0 0 0), (6, .p (.int .i64 (sumF (·.v) v (k + 1)))), (11, .p (.sl (v.map ringV))), (12, .p (.int .i64 v.length)), (13, .p (.int .i64 (k + 1)))], [],
        [some ⟨0, 134, [.bs 1 0 (k + 1) 1 false, .bs 2 0 (k + 1) 1 false]⟩, some ⟨0, 104, lvR ((szF (·.v) v).take (k + 1))⟩, some ⟨0, 104, lvR ((belF (·.v) v).take (k + 1))⟩], 0, false⟩)
    (fun i => i ≤ v.length) (fun i => v.length - i) 0 (Nat.zero_le _) ⟨some [0, 1, 5, 6, 11, 12, 13], [0], by simp, by simp -implicitDefEqProofs⟩ fun G i hp hG => ?_
  cases i with
  | zero =>
    obtain ⟨r, hr⟩ : ∃ r, v[0] = r := ⟨_, rfl⟩
    have e1 : v[0]? = some r := by rw [← hr]; exact List.getElem?_eq_getElem h0
    have e2 : IntKind.i64.wrap r.v = r.v := by
      have := hs 1 (by omega)
      rw [sumF_succ _ _ _ _ e1] at this
      have h3 : sumF (·.v) v 0 = 0 := rfl
      rw [h3] at this
      exact wrap_id (by omega) (by omega)
    have e3 : IntKind.i64.wrap 1 = 1 := rfl
    simp -implicitDefEqProofs [h0, hr, ringV_eq, e2, e3]
    refine dcall_ (d99 r) ?_
    simp -implicitDefEqProofs [h0, hr, ringV_eq, e2, e3]
    refine call_ (d99 r) ?_
    simp -implicitDefEqProofs [h0, hr, ringV_eq, e2, e3]
    refine hG 1 _ (some [0, 1, 5, 6, 11, 12, 13]) [0, 3, 5] (by simp) ?_ h0 (by omega)
    have h3 : sumF (·.v) v 1 = r.v := by rw [sumF_succ _ _ _ _ e1]; show 0 + r.v = r.v; omega
    have h4 : lvR ((szF (·.v) v).take (0 + 1)) = [.p (i64 r.v)] := lvR_take _ _ _ (szF_get _ _ _ _ e1)
    have h5 : lvR ((belF (·.v) v).take (0 + 1)) = [.p (i64 0)] := lvR_take _ _ _ (belF_get _ _ _ (by omega))
    rw [Nat.zero_add] at h4 h5
    simp -implicitDefEqProofs [h3, h4, h5, List.idxOf?_cons]
  | succ k =>
    dsimp only
    generalize hL : lvR ((szF (·.v) v).take (k + 1)) = L
    generalize hM : lvR ((belF (·.v) v).take (k + 1)) = M
    have hLl : L.length = k + 1 := by rw [← hL]; simp [lvR, szF]; omega
    have hMl : M.length = k + 1 := by rw [← hM]; simp [lvR, belF]; omega
    have hLr : ∀ bx ρ, L.map (LV.ren bx ρ) = L := fun bx ρ => by rw [← hL]; exact lvR_ren _ _ _
    have hMr : ∀ bx ρ, M.map (LV.ren bx ρ) = M := fun bx ρ => by rw [← hM]; exact lvR_ren _ _ _
    simp -implicitDefEqProofs
    refine onB_split (fun h => ?_) (fun h => ?_) <;> simp at h
    · have hk : k + 1 < v.length := by omega
      obtain ⟨r, hr⟩ : ∃ r, v[k + 1] = r := ⟨_, rfl⟩
      have e1 : v[k + 1]? = some r := by rw [← hr]; exact List.getElem?_eq_getElem hk
      have h3 : sumF (·.v) v (k + 1) + r.v = sumF (·.v) v (k + 2) := (sumF_succ _ _ _ _ e1).symm
      have e2 : IntKind.i64.wrap (sumF (·.v) v (k + 1) + r.v) = sumF (·.v) v (k + 2) := by
        have := hs (k + 2) (by omega)
        rw [h3]
        exact wrap_id (by omega) (by omega)
      have e3 : IntKind.i64.wrap ((k : Int) + 1 + 1) = (k : Int) + 1 + 1 := wrap_id (by omega) (by omega)
      have e4 : (0 : Int) ≤ k + 1 := by omega
      have e6 : (k : Int) + 1 < v.length := by omega
      have e7 : 2 * (k + 1 + 1) * 9 ≤ 1099511627776 := by omega
      have e5 : ((k : Int) + 1).toNat = k + 1 := by omega
      simp -implicitDefEqProofs [hk, hr, ringV_eq, e1, e2, e3, e4, e5, e6, e7, hLl, hMl]
      refine dcall_ (d99 r) ?_
      simp -implicitDefEqProofs [hk, hr, ringV_eq, e1, e2, e3, e4, e5, e6, e7, hLl, hMl]
      refine call_ (d99 r) ?_
      simp -implicitDefEqProofs [hk, hr, ringV_eq, e1, e2, e3, e4, e5, e6, e7, hLl, hMl]
      refine hG (k + 1 + 1) _ (some [0, 1, 5, 6, 11, 12, 13]) [0, 1, 2] (by simp) ?_ (by omega) (by omega)
      dsimp only
      rw [lvR_take _ _ _ (szF_get _ _ _ _ e1), lvR_take _ _ _ (belF_get _ _ _ (by omega)), hL, hM]
      simp -implicitDefEqProofs [hLr, hMr, List.idxOf?_cons]
    · have hk : k + 1 = v.length := by omega
      have e7 : 2 * (k + 1 + 1) * 9 ≤ 1099511627776 := by omega
      have hM2 : M ++ [.p (i64 (sumF (·.v) v (k + 1)))] = lvR (belF (·.v) v) := by
        rw [← hM, ← lvR_take _ _ _ (belF_get _ _ _ (by omega)), List.take_of_length_le (by simp [belF]; omega)]
      have hL2 : L = lvR (szF (·.v) v) := by rw [← hL, List.take_of_length_le (by simp [szF]; omega)]
      have p1 : parts false 1 (k + 1) ((szF (·.v) v).map i64) = (szF (·.v) v).map i64 := parts_int _ _ (by simp [szF]; omega)
      have p2 : parts false 1 (k + 1 + 1) ((belF (·.v) v).map i64) = (belF (·.v) v).map i64 := parts_int _ _ (by simp [belF]; omega)
      have l1 : k + 1 ≤ (szF (·.v) v).length := by simp [szF]; omega
      have l2 : k + 1 + 1 ≤ (belF (·.v) v).length := by simp [belF]; omega
      simp -implicitDefEqProofs [-parts, hLl, hMl, e7, hM2]
      simp -implicitDefEqProofs [-parts, hL2, frz_lvR, Function.comp_def, p1, p2, l1, l2, scV]
theorem d109 (v : List Ring) (h0 : 0 < v.length) (hl : (v.length : Int) < 2^20) (hs : ∀ i, i ≤ v.length → 0 ≤ sumF (·.d) v i ∧ sumF (·.d) v i < 2^60) : Does prog 109 [vesV v, .fn 97 [] []] (scV (szF (·.d) v) (belF (·.d) v)) := by
  refine does_of_tab mixed t109 ?_
  unfold k109
  simp -implicitDefEqProofs [vesV]
  refine wk_fam (fun i : Nat => match i with
      | 0 => ⟨regsOf 56 [(0, .p (.sl (v.map ringV))), (1, .p (.fn 97 [] [])), (5, .bp 0 0 0), (6, .p (.int .i64 0)), (11, .p (.sl (v.map ringV))), (12, .p (.int .i64 v.length)), (13, .p (.int .i64 0))], [], [some ⟨0, 130, [.p .nils, .p .nils]⟩], 0, false⟩
      | k + 1 => ⟨regsOf 56 [(0, .p (.sl (v.map ringV))), (1, .p (.fn 97 [] [])), (5, .bp 0 0 0), (6, .p (.int .i64 (sumF (·.d) v (k + 1)))), (11, .p (.sl (v.map ringV))), (12, .p (.int .i64 v.length)), (13, .p (.int .i64 (k + 1)))], [],
        [some ⟨0, 130, [.bs 1 0 (k + 1) 1 false, .bs 2 0 (k + 1) 1 false]⟩, some ⟨0, 98, lvR ((szF (·.d) v).take (k + 1))⟩, some ⟨0, 98, lvR ((belF (·.d) v).take (k + 1))⟩], 0, false⟩)
    (fun i => i ≤ v.length) (fun i => v.length - i) 0 (Nat.zero_le _) ⟨some [0, 1, 5, 6, 11, 12, 13], [0], by simp, by simp -implicitDefEqProofs⟩ fun G i hp hG => ?_
  cases i with
  | zero =>
    obtain ⟨r, hr⟩ : ∃ r, v[0] = r := ⟨_, rfl⟩
    have e1 : v[0]? = some r := by rw [← hr]; exact List.getElem?_eq_getElem h0
    have e2 : IntKind.i64.wrap r.d = r.d := by
      have := hs 1 (by omega)
      rw [sumF_succ _ _ _ _ e1] at this
      have h3 : sumF (·.d) v 0 = 0 := rfl
      rw [h3] at this
      exact wrap_id (by omega) (by omega)
    have e3 : IntKind.i64.wrap 1 = 1 := rfl
    simp -implicitDefEqProofs [h0, hr, ringV_eq, e2, e3]
    refine dcall_ (d97 r) ?_
    simp -implicitDefEqProofs [h0, hr, ringV_eq, e2, e3]
    refine call_ (d97 r) ?_
    simp -implicitDefEqProofs [h0, hr, ringV_eq, e2, e3]
    refine hG 1 _ (some [0, 1, 5, 6, 11, 12, 13]) [0, 3, 5] (by simp) ?_ h0 (by omega)
    have h3 : sumF (·.d) v 1 = r.d := by rw [sumF_succ _ _ _ _ e1]; show 0 + r.d = r.d; omega
    have h4 : lvR ((szF (·.d) v).take (0 + 1)) = [.p (i64 r.d)] := lvR_take _ _ _ (szF_get _ _ _ _ e1)
    have h5 : lvR ((belF (·.d) v).take (0 + 1)) = [.p (i64 0)] := lvR_take _ _ _ (belF_get _ _ _ (by omega))
    rw [Nat.zero_add] at h4 h5
    simp -implicitDefEqProofs [h3, h4, h5, List.idxOf?_cons]
  | succ k =>
    dsimp only
    generalize hL : lvR ((szF (·.d) v).take (k + 1)) = L
    generalize hM : lvR ((belF (·.d) v).take (k + 1)) = M
    have hLl : L.length = k + 1 := by rw [← hL]; simp [lvR, szF]; omega
    have hMl : M.length = k + 1 := by rw [← hM]; simp [lvR, belF]; omega
    have hLr : ∀ bx ρ, L.map (LV.ren bx ρ) = L := fun bx ρ => by rw [← hL]; exact lvR_ren _ _ _
    have hMr : ∀ bx ρ, M.map (LV.ren bx ρ) = M := fun bx ρ => by rw [← hM]; exact lvR_ren _ _ _
    simp -implicitDefEqProofs
    refine onB_split (fun h => ?_) (fun h => ?_) <;> simp at h
    · have hk : k + 1 < v.length := by omega
      obtain ⟨r, hr⟩ : ∃ r, v[k + 1] = r := ⟨_, rfl⟩
      have e1 : v[k + 1]? = some r := by rw [← hr]; exact List.getElem?_eq_getElem hk
      have h3 : sumF (·.d) v (k + 1) + r.d = sumF (·.d) v (k + 2) := (sumF_succ _ _ _ _ e1).symm
      have e2 : IntKind.i64.wrap (sumF (·.d) v (k + 1) + r.d) = sumF (·.d) v (k + 2) := by
        have := hs (k + 2) (by omega)
        rw [h3]
        exact wrap_id (by omega) (by omega)
      have e3 : IntKind.i64.wrap ((k : Int) + 1 + 1) = (k : Int) + 1 + 1 := wrap_id (by omega) (by omega)
      have e4 : (0 : Int) ≤ k + 1 := by omega
      have e6 : (k : Int) + 1 < v.length := by omega
      have e7 : 2 * (k + 1 + 1) * 9 ≤ 1099511627776 := by omega
      have e5 : ((k : Int) + 1).toNat = k + 1 := by omega
      simp -implicitDefEqProofs [hk, hr, ringV_eq, e1, e2, e3, e4, e5, e6, e7, hLl, hMl]
      refine dcall_ (d97 r) ?_
      simp -implicitDefEqProofs [hk, hr, ringV_eq, e1, e2, e3, e4, e5, e6, e7, hLl, hMl]
      refine call_ (d97 r) ?_
      simp -implicitDefEqProofs [hk, hr, ringV_eq, e1, e2, e3, e4, e5, e6, e7, hLl, hMl]
      refine hG (k + 1 + 1) _ (some [0, 1, 5, 6, 11, 12, 13]) [0, 1, 2] (by simp) ?_ (by omega) (by omega)
      dsimp only
      rw [lvR_take _ _ _ (szF_get _ _ _ _ e1), lvR_take _ _ _ (belF_get _ _ _ (by omega)), hL, hM]
      simp -implicitDefEqProofs [hLr, hMr, List.idxOf?_cons]
    · have hk : k + 1 = v.length := by omega
      have e7 : 2 * (k + 1 + 1) * 9 ≤ 1099511627776 := by omega
      have hM2 : M ++ [.p (i64 (sumF (·.d) v (k + 1)))] = lvR (belF (·.d) v) := by
        rw [← hM, ← lvR_take _ _ _ (belF_get _ _ _ (by omega)), List.take_of_length_le (by simp [belF]; omega)]
      have hL2 : L = lvR (szF (·.d) v) := by rw [← hL, List.take_of_length_le (by simp [szF]; omega)]
      have p1 : parts false 1 (k + 1) ((szF (·.d) v).map i64) = (szF (·.d) v).map i64 := parts_int _ _ (by simp [szF]; omega)
      have p2 : parts false 1 (k + 1 + 1) ((belF (·.d) v).map i64) = (belF (·.d) v).map i64 := parts_int _ _ (by simp [belF]; omega)
      have l1 : k + 1 ≤ (szF (·.d) v).length := by simp [szF]; omega
      have l2 : k + 1 + 1 ≤ (belF (·.d) v).length := by simp [belF]; omega
      simp -implicitDefEqProofs [-parts, hLl, hMl, e7, hM2]
      simp -implicitDefEqProofs [-parts, hL2, frz_lvR, Function.comp_def, p1, p2, l1, l2, scV]
end Go.Proofs.Ytcamoojddlpbgaa.V
