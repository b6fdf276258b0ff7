import Derived.Test.YtcamoojddlpbgaaV4
namespace Go.Proofs.Ytcamoojddlpbgaa.V
open Go.Proofs.Try
set_option linter.unusedSimpArgs false
set_option linter.unusedVariables false
set_option maxRecDepth 4000
/-! ### Vessels, plain: what is valid, sums, and what runs straight between them -/
def okAt (v : List Ring) (i : Nat) : Prop := ∃ r, v[i]? = some r ∧ isRingB r = true ∧ ∀ j p, i = j + 1 → v[j]? = some p → p.v * r.d ≤ r.v * p.d
def Valid (v : List Ring) : Prop := 1 ≤ v.length ∧ v.length ≤ 24 ∧ ∀ i, i < v.length → okAt v i
open Classical in
noncomputable def chkV (v : List Ring) : Int := if Valid v then 0 else 20
def Sz (f : Ring → Int) (B : Int) : Prop := B ≤ 100000 ∧ ∀ r, isRingB r = true → 1 ≤ f r ∧ f r ≤ B
theorem ring_of {r : Ring} (h : isRingB r = true) : (1 ≤ r.h ∧ r.h ≤ 1000) ∧ (1 ≤ r.v ∧ r.v ≤ 100000) ∧ 1 ≤ r.d ∧ r.d ≤ 20000 := by
  simp only [isRingB, Bool.and_eq_true, decide_eq_true_eq] at h; omega
theorem sz_h : Sz (·.h) 1000 := ⟨by omega, fun _ h => (ring_of h).1⟩
theorem sz_v : Sz (·.v) 100000 := ⟨by omega, fun _ h => (ring_of h).2.1⟩
theorem sz_d : Sz (·.d) 20000 := ⟨by omega, fun _ h => (ring_of h).2.2⟩
section
variable {f g : Ring → Int} {B : Int} {v : List Ring}
theorem Valid.ring (hv : Valid v) {i : Nat} {r : Ring} (h : v[i]? = some r) : isRingB r = true := by
  obtain ⟨r', h1, h2, _⟩ := hv.2.2 i (List.getElem?_eq_some_iff.1 h).1
  rw [h] at h1; cases h1; exact h2
theorem sumF_zero : sumF f v 0 = 0 := rfl
theorem sum_step (hv : Valid v) (hf : Sz f B) {i : Nat} (h : i < v.length) : sumF f v i + 1 ≤ sumF f v (i + 1) ∧ sumF f v (i + 1) ≤ sumF f v i + B := by
  have h1 : v[i]? = some v[i] := List.getElem?_eq_getElem h
  rw [sumF_succ f v i _ h1]
  have := hf.2 _ (hv.ring h1)
  omega
theorem sum_lt (hv : Valid v) (hf : Sz f B) {i : Nat} : ∀ {j : Nat}, i < j → j ≤ v.length → sumF f v i + 1 ≤ sumF f v j
  | 0, h, _ => by omega
  | j + 1, h, hj => by
    have h1 := (sum_step hv hf (show j < v.length by omega)).1
    rcases Nat.lt_or_eq_of_le (Nat.le_of_lt_succ h) with h2 | h2
    · have := sum_lt hv hf h2 (by omega); omega
    · subst h2; exact h1
theorem sum_le (hv : Valid v) (hf : Sz f B) {i j : Nat} (h : i ≤ j) (hj : j ≤ v.length) : sumF f v i ≤ sumF f v j := by
  rcases Nat.lt_or_eq_of_le h with h | h
  · have := sum_lt hv hf h hj; omega
  · subst h; exact Int.le_refl _
theorem sum_bd (hv : Valid v) (hf : Sz f B) : ∀ {i : Nat}, i ≤ v.length → 0 ≤ sumF f v i ∧ sumF f v i ≤ i * B
  | 0, _ => by rw [sumF_zero]; exact ⟨by omega, by rw [Int.natCast_zero, Int.zero_mul]; exact Int.le_refl _⟩
  | i + 1, h => by
    have h1 := sum_step hv hf (show i < v.length by omega)
    have h2 := sum_bd hv hf (show i ≤ v.length by omega)
    refine ⟨by omega, ?_⟩
    rw [Int.natCast_add, Int.natCast_one, Int.add_mul, Int.one_mul]; omega
theorem sum_bd' (hv : Valid v) (hf : Sz f B) {i : Nat} (h : i ≤ v.length) : 0 ≤ sumF f v i ∧ sumF f v i ≤ 2400000 := by
  have h1 := sum_bd hv hf h
  refine ⟨h1.1, Int.le_trans h1.2 ?_⟩
  have h2 : (i : Int) ≤ 24 := by have := hv.2.1; omega
  have h3 : (i : Int) * B ≤ i * 100000 := Int.mul_le_mul_of_nonneg_left hf.1 (by omega)
  omega
/-- the ring in which a whole number lies -/
theorem ring_ex (hv : Valid v) (hf : Sz f B) {w : Int} (hw : 0 ≤ w) : ∃ c r, v[c]? = some r ∧ sumF f v c ≤ w ∧ (∀ j, j ≤ c → sumF f v j ≤ w) ∧ ∀ j, c < j → j < v.length → w < sumF f v j := by
  have key : ∀ n, n < v.length → ∃ c, c ≤ n ∧ sumF f v c ≤ w ∧ ∀ j, c < j → j ≤ n → w < sumF f v j := fun n => by
    induction n with
    | zero => exact fun _ => ⟨0, Nat.le_refl _, hw, fun j h1 h2 => by omega⟩
    | succ n ih =>
      intro h
      by_cases hle : sumF f v (n + 1) ≤ w
      · exact ⟨n + 1, Nat.le_refl _, hle, fun j h1 h2 => by omega⟩
      · obtain ⟨c, h1, h2, h3⟩ := ih (by omega)
        refine ⟨c, by omega, h2, fun j h4 h5 => ?_⟩
        by_cases h6 : j ≤ n
        · exact h3 j h4 h6
        · have : j = n + 1 := by omega
          subst this; omega
  have hl := hv.1
  obtain ⟨c, h1, h2, h3⟩ := key (v.length - 1) (by omega)
  have hc : c < v.length := by omega
  exact ⟨c, v[c], List.getElem?_eq_getElem hc, h2, fun j hj => Int.le_trans (sum_le hv hf hj (by omega)) h2, fun j h4 h5 => h3 j h4 (by omega)⟩
/-- from one size to another -/
def PL (v : List Ring) (f g : Ring → Int) (q q' : Rat) : Prop := ∃ (c : Nat) (r : Ring), v[c]? = some r ∧ (sumF f v c : Rat) ≤ q ∧ q ≤ sumF f v c + f r ∧ q' = sumF g v c + (q - sumF f v c) * g r / f r
theorem cast_ne {a : Int} (h : 1 ≤ a) : (a : Rat) ≠ 0 := fun h2 => by
  have : (a : Int) = 0 := by exact_mod_cast h2
  omega
theorem PL.lt_absurd (hv : Valid v) (hf : Sz f B) {q : Rat} {c c' : Nat} {r r' : Ring} (h : v[c]? = some r) (h' : v[c']? = some r') (hlt : c < c') (h1 : q ≤ sumF f v c + f r) (h2 : (sumF f v c' : Rat) ≤ q) : c' = c + 1 ∧ q = sumF f v c + f r := by
  have e : sumF f v (c + 1) = sumF f v c + f r := sumF_succ f v c r h
  have hc' := (List.getElem?_eq_some_iff.1 h').1
  have h3 : (sumF f v c' : Rat) ≤ ((sumF f v c + f r : Int) : Rat) := by rw [Rat.intCast_add]; grind
  have h4 : sumF f v c' ≤ sumF f v c + f r := by exact_mod_cast h3
  rw [← e] at h4
  have h5 : c' = c + 1 := by
    refine Nat.le_antisymm (Nat.le_of_not_lt fun h6 => ?_) hlt
    have := sum_lt hv hf h6 (by omega)
    omega
  subst h5
  refine ⟨rfl, ?_⟩
  rw [e, Rat.intCast_add] at h2
  grind
theorem PL.unique (hv : Valid v) (hf : Sz f B) {q q1 q2 : Rat} (h1 : PL v f g q q1) (h2 : PL v f g q q2) : q1 = q2 := by
  have key : ∀ {c c' : Nat} {r r' : Ring} {q1 q2 : Rat}, v[c]? = some r → v[c']? = some r' → c < c' → q ≤ sumF f v c + f r → (sumF f v c' : Rat) ≤ q → q1 = sumF g v c + (q - sumF f v c) * g r / f r → q2 = sumF g v c' + (q - sumF f v c') * g r' / f r' → q1 = q2 := by
    intro c c' r r' q1 q2 a1 a2 hlt b1 b2 e1 e2
    obtain ⟨rfl, hq⟩ := PL.lt_absurd hv hf a1 a2 hlt b1 b2
    have n1 := cast_ne (hf.2 _ (hv.ring a1)).1
    have n2 := cast_ne (hf.2 _ (hv.ring a2)).1
    rw [sumF_succ f v c r a1, sumF_succ g v c r a1, Rat.intCast_add, Rat.intCast_add] at e2
    grind
  obtain ⟨c, r, a1, b1, c1, e1⟩ := h1
  obtain ⟨c', r', a2, b2, c2, e2⟩ := h2
  rcases Nat.lt_trichotomy c c' with h | h | h
  · exact key a1 a2 h c1 b2 e1 e2
  · subst h; rw [a1] at a2; cases a2; rw [e1, e2]
  · exact (key a2 a1 h c2 b1 e2 e1).symm
open Classical in
noncomputable def trans (v : List Ring) (f g : Ring → Int) (q : Rat) : Rat := if h : ∃ q', PL v f g q q' then Classical.choose h else 0
theorem trans_eq (hv : Valid v) (hf : Sz f B) {q q' : Rat} (h : PL v f g q q') : trans v f g q = q' := by
  have hex : ∃ q', PL v f g q q' := ⟨_, h⟩
  unfold trans
  rw [dif_pos hex]
  exact PL.unique hv hf (Classical.choose_spec hex) h
/-! ### Fractions -/
def Exa.val (x : Exa) : Rat := x.w + (x.n : Rat) / x.d
def Good (x : Exa) (B : Int) : Prop := 0 ≤ x.n ∧ x.n < x.d ∧ x.d ≤ B
theorem ofX_good {more n d : Int} (hd : 0 < d) : Good (ofX more n d) d ∧ (ofX more n d).val = more + (n : Rat) / d := by
  have hd0 : d ≠ 0 := by omega
  have r0 := Int.emod_nonneg n hd0
  have r1 := Int.emod_lt_of_pos n hd
  have g0 : 0 < Int.gcd (n % d) d := Int.gcd_pos_of_ne_zero_right _ hd0
  obtain ⟨a, ha⟩ : ∃ a : Int, a = Int.gcd (n % d) d := ⟨_, rfl⟩
  have ha0 : 0 < a := by omega
  obtain ⟨k, hk⟩ : a ∣ n % d := ha ▸ Int.gcd_dvd_left ..
  obtain ⟨m, hm⟩ : a ∣ d := ha ▸ Int.gcd_dvd_right ..
  have hX : ofX more n d = ⟨more + n / d, n % d / a, d / a⟩ := by rw [ha]; rfl
  have e1 : n % d / a = k := by rw [hk]; exact Int.mul_ediv_cancel_left _ (by omega)
  have e2 : d / a = m := Int.ediv_eq_of_eq_mul_right (by omega) hm
  rw [hX, e1, e2]
  have hm0 : 0 < m := Int.pos_of_mul_pos_right (hm ▸ hd) ha0
  have hk0 : 0 ≤ k := by
    rcases Int.lt_or_le k 0 with h | h
    · have := Int.mul_neg_of_pos_of_neg ha0 h; omega
    · exact h
  have hkm : k < m := by
    refine Int.lt_of_mul_lt_mul_left ?_ (Int.le_of_lt ha0)
    rw [← hk, ← hm]; exact r1
  have hmd : m ≤ d := by
    rw [hm]
    have := Int.mul_le_mul_of_nonneg_right (show 1 ≤ a by omega) (Int.le_of_lt hm0)
    omega
  refine ⟨⟨hk0, hkm, hmd⟩, ?_⟩
  show ((more + n / d : Int) : Rat) + (k : Rat) / (m : Rat) = more + (n : Rat) / d
  have f1 : (n : Rat) = (d : Rat) * (n / d : Int) + (n % d : Int) := by
    rw [← Rat.intCast_mul, ← Rat.intCast_add, Int.mul_ediv_add_emod]
  have f2 : ((n % d : Int) : Rat) = a * k := by rw [hk, Rat.intCast_mul]
  have f3 : (d : Rat) = a * m := by rw [← Rat.intCast_mul, ← hm]
  have z1 : (a : Rat) ≠ 0 := cast_ne (by omega)
  have z2 : (m : Rat) ≠ 0 := cast_ne (by omega)
  rw [f1, Rat.intCast_add, f2, f3]
  grind
end
end Go.Proofs.Ytcamoojddlpbgaa.V
