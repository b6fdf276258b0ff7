import Derived.Test.YtcamoojddlpbgaaV2
namespace Go.Proofs.Ytcamoojddlpbgaa.V
open Go.Proofs.Try
set_option linter.unusedSimpArgs false
set_option linter.unusedVariables false
set_option maxRecDepth 4000
/-! ### a scale -/
def scV (szs bel : List Int) : PV := .cp [.sl (szs.map i64), .sl (bel.map i64)]
/-! ### reached -/
theorem d120 (l : List Int) (x : Exa) (c : Nat) (hc : c ≤ l.length) (hl : (l.length : Int) < 2^30) (h1 : ∀ (j : Nat) a, j < c → l[j]? = some a → a ≤ x.w) (h2 : ∀ (j : Nat) a, c ≤ j → l[j]? = some a → x.w < a) : Does prog 120 [.sl (l.map i64), .fn 114 [exaV x] []] (.int .i64 c) := by
  refine does_of_tab mixed t120 ?_
  unfold k120
  simp -implicitDefEqProofs
  refine wk_fam (fun q : Nat × Nat => ⟨regsOf 27 [(0, .p (.sl (l.map i64))), (1, .p (.fn 114 [exaV x] [])), (5, .p (.int .i64 q.1)), (6, .p (.int .i64 q.2))], [], [], 0, false⟩)
    (fun q => q.1 ≤ c ∧ c ≤ q.2 ∧ q.2 ≤ l.length) (fun q => q.2 - q.1) (0, l.length) ⟨Nat.zero_le _, hc, Nat.le_refl _⟩ ⟨some [0, 1, 5, 6], [], by simp, by simp -implicitDefEqProofs⟩ fun G q hp hG => ?_
  obtain ⟨a, b⟩ := q
  obtain ⟨ha, hb, hn⟩ := hp
  simp only at ha hb hn
  simp -implicitDefEqProofs
  refine onB_split (fun h => ?_) (fun h => ?_) <;> simp at h
  · obtain ⟨m, hm⟩ : ∃ m, m = (a + b) / 2 := ⟨_, rfl⟩
    have e1 : IntKind.i64.wrap ((a : Int) + b) = (a : Int) + b := wrap_id (by omega) (by omega)
    have e2 : IntKind.i64.wrap (((a : Int) + b).tdiv 2) = (m : Int) := by
      rw [Int.tdiv_eq_ediv_of_nonneg (by omega), wrap_id (by omega) (by omega)]; omega
    have hml : m < l.length := by omega
    have e3 : l[m]? = some (l[m]) := List.getElem?_eq_getElem hml
    have e4 : ((m : Int)) < l.length := by omega
    have e5 : IntKind.i64.wrap ((m : Int) + 1) = ((m + 1 : Nat) : Int) := by rw [wrap_id (by omega) (by omega)]; rfl
    simp -implicitDefEqProofs [e1, e2, e3, e4, e5]
    refine call_ (d114 x _) ?_
    simp -implicitDefEqProofs [e1, e2, e3, e4, e5]
    refine onB_dec (fun h' => ?_) (fun h' => ?_)
    · simp -implicitDefEqProofs [e1, e2, e3, e4, e5]
      refine hG (a, m) _ (some [0, 1, 5, 6]) [] (by simp) (by simp -implicitDefEqProofs) ⟨ha, ?_, by simp only; omega⟩ (by simp only; omega)
      simp only
      refine Nat.le_of_not_lt fun hlt => ?_
      have := h1 _ _ hlt e3
      omega
    · simp -implicitDefEqProofs [e1, e2, e3, e4, e5]
      refine hG (m + 1, b) _ (some [0, 1, 5, 6]) [] (by simp) (by simp -implicitDefEqProofs) ⟨?_, hb, by simp only; omega⟩ (by simp only; omega)
      simp only
      refine Nat.lt_of_not_le fun hle => ?_
      have := h2 _ _ hle e3
      omega
  · have : a = c := by omega
    subst this
    simp -implicitDefEqProofs
theorem d95 (szs bel : List Int) (a : Int) (h : bel[szs.length]? = some a) : Does prog 95 [scV szs bel] (.int .i64 a) := by
  refine does_of_tab mixed t95 ?_
  have h2 : szs.length < bel.length := (List.getElem?_eq_some_iff.1 h).1
  unfold k95
  have h3 : bel[szs.length] = a := (List.getElem?_eq_some_iff.1 h).2
  simp -implicitDefEqProofs [scV, h2, h3]
theorem d71 (szs bel : List Int) (p : Plc) (c : Nat) (b s : Int) (hr : p.r = c) (hb : bel[c]? = some b) (hs : szs[c]? = some s) (hd : 0 < p.d ∧ p.d < 2^62) (hn : -2^62 < p.n * s ∧ p.n * s < 2^62) (hm : -2^61 < b ∧ b < 2^61 ∧ -2^61 < (p.n * s) / p.d ∧ (p.n * s) / p.d < 2^61) : Does prog 71 [scV szs bel, plcV p] (exaV (ofX b (p.n * s) p.d)) := by
  refine does_of_tab mixed t71 ?_
  have h1 : c < bel.length := (List.getElem?_eq_some_iff.1 hb).1
  have h2 : c < szs.length := (List.getElem?_eq_some_iff.1 hs).1
  have e1 : IntKind.i64.wrap (p.n * s) = p.n * s := wrap_id (by omega) (by omega)
  have hb' : bel[c] = b := (List.getElem?_eq_some_iff.1 hb).2
  have hs' : szs[c] = s := (List.getElem?_eq_some_iff.1 hs).2
  unfold k71
  simp -implicitDefEqProofs [scV, plcV, hr, h1, h2, hb', hs', e1]
  refine dcall_ (d101 _ _ _ hd hn hm) ?_
  simp -implicitDefEqProofs [exaV]
theorem d111 (szs bel : List Int) (x : Exa) (c : Nat) (b s : Int) (hb : bel[c]? = some b) (hs : szs[c]? = some s) (hl : bel.length = szs.length + 1) (hk : szs.length < 2^20)
   (h1 : ∀ (j : Nat) a, 1 ≤ j → j ≤ c → bel[j]? = some a → a ≤ x.w) (h2 : ∀ (j : Nat) a, c < j → j < szs.length → bel[j]? = some a → x.w < a)
   (hw : -2^60 < b ∧ b < 2^60 ∧ -2^60 < x.w ∧ x.w < 2^60) (hd : -2^60 < x.d * s ∧ x.d * s < 2^60) (hn : -2^60 < (x.w - b) * x.d ∧ (x.w - b) * x.d < 2^60) (hx : -2^60 < x.n ∧ x.n < 2^60) : Does prog 111 [scV szs bel, exaV x] (plcV ⟨c, (x.w - b) * x.d + x.n, x.d * s⟩) := by
  refine does_of_tab mixed t111 ?_
  have g1 : c < bel.length := (List.getElem?_eq_some_iff.1 hb).1
  have g2 : c < szs.length := (List.getElem?_eq_some_iff.1 hs).1
  have e1 : IntKind.i64.wrap (-b) = -b := wrap_id (by omega) (by omega)
  have e1' : IntKind.i64.wrap (0 - b) = -b := by rw [Int.zero_sub]; exact e1
  have e2 : IntKind.i64.wrap ((x.w - b) * x.d) = (x.w - b) * x.d := wrap_id (by omega) (by omega)
  have e3 : IntKind.i64.wrap ((x.w - b) * x.d + x.n) = (x.w - b) * x.d + x.n := wrap_id (by omega) (by omega)
  have e4 : IntKind.i64.wrap (x.d * s) = x.d * s := wrap_id (by omega) (by omega)
  have e5 : x.w + -b = x.w - b := by omega
  have hb' : bel[c] = b := (List.getElem?_eq_some_iff.1 hb).2
  have hs' : szs[c] = s := (List.getElem?_eq_some_iff.1 hs).2
  have g3 : (1 : Int) ≤ szs.length := by omega
  have g4 : szs.length ≤ bel.length := by omega
  obtain ⟨l, hl'⟩ : ∃ l, l = (bel.take szs.length).tail := ⟨_, rfl⟩
  have e6 : (List.take szs.length (List.map i64 bel)).tail = l.map i64 := by rw [hl', List.map_tail, List.map_take]
  have hll : l.length + 1 = szs.length := by rw [hl']; simp; omega
  have hg : ∀ (j : Nat) a, l[j]? = some a → j + 1 < szs.length ∧ bel[j + 1]? = some a := fun j a h => by
    have : j + 1 < szs.length := by have := (List.getElem?_eq_some_iff.1 h).1; omega
    rw [hl', List.getElem?_tail, List.getElem?_take_of_lt this] at h
    exact ⟨this, h⟩
  unfold k111
  simp -implicitDefEqProofs [scV, exaV, g3, g4, e6]
  refine dcall_ (d120 l x c (by omega) (by omega) (fun j a hj h => ?_) (fun j a hj h => ?_)) ?_
  · exact h1 _ _ (by omega) (by omega) (hg j a h).2
  · exact h2 _ _ (by omega) (hg j a h).1 (hg j a h).2
  simp -implicitDefEqProofs [g1, g2, hb', hs', e1, e1', e2, e3, e4, e5]
  refine dcall_ (d76 x _ ⟨by omega, by omega, by omega, by omega⟩) ?_
  simp -implicitDefEqProofs [exaV, plcV, g1, g2, hb', hs', e1, e1', e2, e3, e4, e5]
/-! ### reached -/
theorem d115 (l : List Int) (x : Exa) (c : Nat) (hc : c ≤ l.length) (hl : (l.length : Int) < 2^30) (h1 : ∀ (j : Nat) a, j < c → l[j]? = some a → a ≤ x.w) (h2 : ∀ (j : Nat) a, c ≤ j → l[j]? = some a → x.w < a) : Does prog 115 [.sl (l.map i64), .fn 114 [exaV x] []] (.int .i64 c) := by
  refine does_of_tab mixed t115 ?_
  unfold k115
  simp -implicitDefEqProofs
  refine wk_fam (fun q : Nat × Nat => ⟨regsOf 27 [(0, .p (.sl (l.map i64))), (1, .p (.fn 114 [exaV x] [])), (5, .p (.int .i64 q.1)), (6, .p (.int .i64 q.2))], [], [], 0, false⟩)
    (fun q => q.1 ≤ c ∧ c ≤ q.2 ∧ q.2 ≤ l.length) (fun q => q.2 - q.1) (0, l.length) ⟨Nat.zero_le _, hc, Nat.le_refl _⟩ ⟨some [0, 1, 5, 6], [], by simp, by simp -implicitDefEqProofs⟩ fun G q hp hG => ?_
  obtain ⟨a, b⟩ := q
  obtain ⟨ha, hb, hn⟩ := hp
  simp only at ha hb hn
  simp -implicitDefEqProofs
  refine onB_split (fun h => ?_) (fun h => ?_) <;> simp at h
  · obtain ⟨m, hm⟩ : ∃ m, m = (a + b) / 2 := ⟨_, rfl⟩
    have e1 : IntKind.i64.wrap ((a : Int) + b) = (a : Int) + b := wrap_id (by omega) (by omega)
    have e2 : IntKind.i64.wrap (((a : Int) + b).tdiv 2) = (m : Int) := by
      rw [Int.tdiv_eq_ediv_of_nonneg (by omega), wrap_id (by omega) (by omega)]; omega
    have hml : m < l.length := by omega
    have e3 : l[m]? = some (l[m]) := List.getElem?_eq_getElem hml
    have e4 : ((m : Int)) < l.length := by omega
    have e5 : IntKind.i64.wrap ((m : Int) + 1) = ((m + 1 : Nat) : Int) := by rw [wrap_id (by omega) (by omega)]; rfl
    simp -implicitDefEqProofs [e1, e2, e3, e4, e5]
    refine call_ (d114 x _) ?_
    simp -implicitDefEqProofs [e1, e2, e3, e4, e5]
    refine onB_dec (fun h' => ?_) (fun h' => ?_)
    · simp -implicitDefEqProofs [e1, e2, e3, e4, e5]
      refine hG (a, m) _ (some [0, 1, 5, 6]) [] (by simp) (by simp -implicitDefEqProofs) ⟨ha, ?_, by simp only; omega⟩ (by simp only; omega)
      simp only
      refine Nat.le_of_not_lt fun hlt => ?_
      have := h1 _ _ hlt e3
      omega
    · simp -implicitDefEqProofs [e1, e2, e3, e4, e5]
      refine hG (m + 1, b) _ (some [0, 1, 5, 6]) [] (by simp) (by simp -implicitDefEqProofs) ⟨?_, hb, by simp only; omega⟩ (by simp only; omega)
      simp only
      refine Nat.lt_of_not_le fun hle => ?_
      have := h2 _ _ hle e3
      omega
  · have : a = c := by omega
    subst this
    simp -implicitDefEqProofs
theorem d78 (szs bel : List Int) (a : Int) (h : bel[szs.length]? = some a) : Does prog 78 [scV szs bel] (.int .i64 a) := by
  refine does_of_tab mixed t78 ?_
  have h2 : szs.length < bel.length := (List.getElem?_eq_some_iff.1 h).1
  unfold k78
  have h3 : bel[szs.length] = a := (List.getElem?_eq_some_iff.1 h).2
  simp -implicitDefEqProofs [scV, h2, h3]
theorem d110 (szs bel : List Int) (p : Plc) (c : Nat) (b s : Int) (hr : p.r = c) (hb : bel[c]? = some b) (hs : szs[c]? = some s) (hd : 0 < p.d ∧ p.d < 2^62) (hn : -2^62 < p.n * s ∧ p.n * s < 2^62) (hm : -2^61 < b ∧ b < 2^61 ∧ -2^61 < (p.n * s) / p.d ∧ (p.n * s) / p.d < 2^61) : Does prog 110 [scV szs bel, plcV p] (exaV (ofX b (p.n * s) p.d)) := by
  refine does_of_tab mixed t110 ?_
  have h1 : c < bel.length := (List.getElem?_eq_some_iff.1 hb).1
  have h2 : c < szs.length := (List.getElem?_eq_some_iff.1 hs).1
  have e1 : IntKind.i64.wrap (p.n * s) = p.n * s := wrap_id (by omega) (by omega)
  have hb' : bel[c] = b := (List.getElem?_eq_some_iff.1 hb).2
  have hs' : szs[c] = s := (List.getElem?_eq_some_iff.1 hs).2
  unfold k110
  simp -implicitDefEqProofs [scV, plcV, hr, h1, h2, hb', hs', e1]
  refine dcall_ (d101 _ _ _ hd hn hm) ?_
  simp -implicitDefEqProofs [exaV]
theorem d79 (szs bel : List Int) (x : Exa) (c : Nat) (b s : Int) (hb : bel[c]? = some b) (hs : szs[c]? = some s) (hl : bel.length = szs.length + 1) (hk : szs.length < 2^20)
   (h1 : ∀ (j : Nat) a, 1 ≤ j → j ≤ c → bel[j]? = some a → a ≤ x.w) (h2 : ∀ (j : Nat) a, c < j → j < szs.length → bel[j]? = some a → x.w < a)
   (hw : -2^60 < b ∧ b < 2^60 ∧ -2^60 < x.w ∧ x.w < 2^60) (hd : -2^60 < x.d * s ∧ x.d * s < 2^60) (hn : -2^60 < (x.w - b) * x.d ∧ (x.w - b) * x.d < 2^60) (hx : -2^60 < x.n ∧ x.n < 2^60) : Does prog 79 [scV szs bel, exaV x] (plcV ⟨c, (x.w - b) * x.d + x.n, x.d * s⟩) := by
  refine does_of_tab mixed t79 ?_
  have g1 : c < bel.length := (List.getElem?_eq_some_iff.1 hb).1
  have g2 : c < szs.length := (List.getElem?_eq_some_iff.1 hs).1
  have e1 : IntKind.i64.wrap (-b) = -b := wrap_id (by omega) (by omega)
  have e1' : IntKind.i64.wrap (0 - b) = -b := by rw [Int.zero_sub]; exact e1
  have e2 : IntKind.i64.wrap ((x.w - b) * x.d) = (x.w - b) * x.d := wrap_id (by omega) (by omega)
  have e3 : IntKind.i64.wrap ((x.w - b) * x.d + x.n) = (x.w - b) * x.d + x.n := wrap_id (by omega) (by omega)
  have e4 : IntKind.i64.wrap (x.d * s) = x.d * s := wrap_id (by omega) (by omega)
  have e5 : x.w + -b = x.w - b := by omega
  have hb' : bel[c] = b := (List.getElem?_eq_some_iff.1 hb).2
  have hs' : szs[c] = s := (List.getElem?_eq_some_iff.1 hs).2
  have g3 : (1 : Int) ≤ szs.length := by omega
  have g4 : szs.length ≤ bel.length := by omega
  obtain ⟨l, hl'⟩ : ∃ l, l = (bel.take szs.length).tail := ⟨_, rfl⟩
  have e6 : (List.take szs.length (List.map i64 bel)).tail = l.map i64 := by rw [hl', List.map_tail, List.map_take]
  have hll : l.length + 1 = szs.length := by rw [hl']; simp; omega
  have hg : ∀ (j : Nat) a, l[j]? = some a → j + 1 < szs.length ∧ bel[j + 1]? = some a := fun j a h => by
    have : j + 1 < szs.length := by have := (List.getElem?_eq_some_iff.1 h).1; omega
    rw [hl', List.getElem?_tail, List.getElem?_take_of_lt this] at h
    exact ⟨this, h⟩
  unfold k79
  simp -implicitDefEqProofs [scV, exaV, g3, g4, e6]
  refine dcall_ (d115 l x c (by omega) (by omega) (fun j a hj h => ?_) (fun j a hj h => ?_)) ?_
  · exact h1 _ _ (by omega) (by omega) (hg j a h).2
  · exact h2 _ _ (by omega) (hg j a h).1 (hg j a h).2
  simp -implicitDefEqProofs [g1, g2, hb', hs', e1, e1', e2, e3, e4, e5]
  refine dcall_ (d76 x _ ⟨by omega, by omega, by omega, by omega⟩) ?_
  simp -implicitDefEqProofs [exaV, plcV, g1, g2, hb', hs', e1, e1', e2, e3, e4, e5]
/-! ### reached -/
theorem d117 (l : List Int) (x : Exa) (c : Nat) (hc : c ≤ l.length) (hl : (l.length : Int) < 2^30) (h1 : ∀ (j : Nat) a, j < c → l[j]? = some a → a ≤ x.w) (h2 : ∀ (j : Nat) a, c ≤ j → l[j]? = some a → x.w < a) : Does prog 117 [.sl (l.map i64), .fn 114 [exaV x] []] (.int .i64 c) := by
  refine does_of_tab mixed t117 ?_
  unfold k117
  simp -implicitDefEqProofs
  refine wk_fam (fun q : Nat × Nat => ⟨regsOf 27 [(0, .p (.sl (l.map i64))), (1, .p (.fn 114 [exaV x] [])), (5, .p (.int .i64 q.1)), (6, .p (.int .i64 q.2))], [], [], 0, false⟩)
    (fun q => q.1 ≤ c ∧ c ≤ q.2 ∧ q.2 ≤ l.length) (fun q => q.2 - q.1) (0, l.length) ⟨Nat.zero_le _, hc, Nat.le_refl _⟩ ⟨some [0, 1, 5, 6], [], by simp, by simp -implicitDefEqProofs⟩ fun G q hp hG => ?_
  obtain ⟨a, b⟩ := q
  obtain ⟨ha, hb, hn⟩ := hp
  simp only at ha hb hn
  simp -implicitDefEqProofs
  refine onB_split (fun h => ?_) (fun h => ?_) <;> simp at h
  · obtain ⟨m, hm⟩ : ∃ m, m = (a + b) / 2 := ⟨_, rfl⟩
    have e1 : IntKind.i64.wrap ((a : Int) + b) = (a : Int) + b := wrap_id (by omega) (by omega)
    have e2 : IntKind.i64.wrap (((a : Int) + b).tdiv 2) = (m : Int) := by
      rw [Int.tdiv_eq_ediv_of_nonneg (by omega), wrap_id (by omega) (by omega)]; omega
    have hml : m < l.length := by omega
    have e3 : l[m]? = some (l[m]) := List.getElem?_eq_getElem hml
    have e4 : ((m : Int)) < l.length := by omega
    have e5 : IntKind.i64.wrap ((m : Int) + 1) = ((m + 1 : Nat) : Int) := by rw [wrap_id (by omega) (by omega)]; rfl
    simp -implicitDefEqProofs [e1, e2, e3, e4, e5]
    refine call_ (d114 x _) ?_
    simp -implicitDefEqProofs [e1, e2, e3, e4, e5]
    refine onB_dec (fun h' => ?_) (fun h' => ?_)
    · simp -implicitDefEqProofs [e1, e2, e3, e4, e5]
      refine hG (a, m) _ (some [0, 1, 5, 6]) [] (by simp) (by simp -implicitDefEqProofs) ⟨ha, ?_, by simp only; omega⟩ (by simp only; omega)
      simp only
      refine Nat.le_of_not_lt fun hlt => ?_
      have := h1 _ _ hlt e3
      omega
    · simp -implicitDefEqProofs [e1, e2, e3, e4, e5]
      refine hG (m + 1, b) _ (some [0, 1, 5, 6]) [] (by simp) (by simp -implicitDefEqProofs) ⟨?_, hb, by simp only; omega⟩ (by simp only; omega)
      simp only
      refine Nat.lt_of_not_le fun hle => ?_
      have := h2 _ _ hle e3
      omega
  · have : a = c := by omega
    subst this
    simp -implicitDefEqProofs
theorem d88 (szs bel : List Int) (a : Int) (h : bel[szs.length]? = some a) : Does prog 88 [scV szs bel] (.int .i64 a) := by
  refine does_of_tab mixed t88 ?_
  have h2 : szs.length < bel.length := (List.getElem?_eq_some_iff.1 h).1
  unfold k88
  have h3 : bel[szs.length] = a := (List.getElem?_eq_some_iff.1 h).2
  simp -implicitDefEqProofs [scV, h2, h3]
theorem d116 (szs bel : List Int) (p : Plc) (c : Nat) (b s : Int) (hr : p.r = c) (hb : bel[c]? = some b) (hs : szs[c]? = some s) (hd : 0 < p.d ∧ p.d < 2^62) (hn : -2^62 < p.n * s ∧ p.n * s < 2^62) (hm : -2^61 < b ∧ b < 2^61 ∧ -2^61 < (p.n * s) / p.d ∧ (p.n * s) / p.d < 2^61) : Does prog 116 [scV szs bel, plcV p] (exaV (ofX b (p.n * s) p.d)) := by
  refine does_of_tab mixed t116 ?_
  have h1 : c < bel.length := (List.getElem?_eq_some_iff.1 hb).1
  have h2 : c < szs.length := (List.getElem?_eq_some_iff.1 hs).1
  have e1 : IntKind.i64.wrap (p.n * s) = p.n * s := wrap_id (by omega) (by omega)
  have hb' : bel[c] = b := (List.getElem?_eq_some_iff.1 hb).2
  have hs' : szs[c] = s := (List.getElem?_eq_some_iff.1 hs).2
  unfold k116
  simp -implicitDefEqProofs [scV, plcV, hr, h1, h2, hb', hs', e1]
  refine dcall_ (d101 _ _ _ hd hn hm) ?_
  simp -implicitDefEqProofs [exaV]
theorem d89 (szs bel : List Int) (x : Exa) (c : Nat) (b s : Int) (hb : bel[c]? = some b) (hs : szs[c]? = some s) (hl : bel.length = szs.length + 1) (hk : szs.length < 2^20)
   (h1 : ∀ (j : Nat) a, 1 ≤ j → j ≤ c → bel[j]? = some a → a ≤ x.w) (h2 : ∀ (j : Nat) a, c < j → j < szs.length → bel[j]? = some a → x.w < a)
   (hw : -2^60 < b ∧ b < 2^60 ∧ -2^60 < x.w ∧ x.w < 2^60) (hd : -2^60 < x.d * s ∧ x.d * s < 2^60) (hn : -2^60 < (x.w - b) * x.d ∧ (x.w - b) * x.d < 2^60) (hx : -2^60 < x.n ∧ x.n < 2^60) : Does prog 89 [scV szs bel, exaV x] (plcV ⟨c, (x.w - b) * x.d + x.n, x.d * s⟩) := by
  refine does_of_tab mixed t89 ?_
  have g1 : c < bel.length := (List.getElem?_eq_some_iff.1 hb).1
  have g2 : c < szs.length := (List.getElem?_eq_some_iff.1 hs).1
  have e1 : IntKind.i64.wrap (-b) = -b := wrap_id (by omega) (by omega)
  have e1' : IntKind.i64.wrap (0 - b) = -b := by rw [Int.zero_sub]; exact e1
  have e2 : IntKind.i64.wrap ((x.w - b) * x.d) = (x.w - b) * x.d := wrap_id (by omega) (by omega)
  have e3 : IntKind.i64.wrap ((x.w - b) * x.d + x.n) = (x.w - b) * x.d + x.n := wrap_id (by omega) (by omega)
  have e4 : IntKind.i64.wrap (x.d * s) = x.d * s := wrap_id (by omega) (by omega)
  have e5 : x.w + -b = x.w - b := by omega
  have hb' : bel[c] = b := (List.getElem?_eq_some_iff.1 hb).2
  have hs' : szs[c] = s := (List.getElem?_eq_some_iff.1 hs).2
  have g3 : (1 : Int) ≤ szs.length := by omega
  have g4 : szs.length ≤ bel.length := by omega
  obtain ⟨l, hl'⟩ : ∃ l, l = (bel.take szs.length).tail := ⟨_, rfl⟩
  have e6 : (List.take szs.length (List.map i64 bel)).tail = l.map i64 := by rw [hl', List.map_tail, List.map_take]
  have hll : l.length + 1 = szs.length := by rw [hl']; simp; omega
  have hg : ∀ (j : Nat) a, l[j]? = some a → j + 1 < szs.length ∧ bel[j + 1]? = some a := fun j a h => by
    have : j + 1 < szs.length := by have := (List.getElem?_eq_some_iff.1 h).1; omega
    rw [hl', List.getElem?_tail, List.getElem?_take_of_lt this] at h
    exact ⟨this, h⟩
  unfold k89
  simp -implicitDefEqProofs [scV, exaV, g3, g4, e6]
  refine dcall_ (d117 l x c (by omega) (by omega) (fun j a hj h => ?_) (fun j a hj h => ?_)) ?_
  · exact h1 _ _ (by omega) (by omega) (hg j a h).2
  · exact h2 _ _ (by omega) (hg j a h).1 (hg j a h).2
  simp -implicitDefEqProofs [g1, g2, hb', hs', e1, e1', e2, e3, e4, e5]
  refine dcall_ (d76 x _ ⟨by omega, by omega, by omega, by omega⟩) ?_
  simp -implicitDefEqProofs [exaV, plcV, g1, g2, hb', hs', e1, e1', e2, e3, e4, e5]
def sumF (f : Ring → Int) (v : List Ring) (i : Nat) : Int := ((v.take i).map f).sum
theorem sumF_succ (f : Ring → Int) (v : List Ring) (i : Nat) (r : Ring) (h : v[i]? = some r) : sumF f v (i + 1) = sumF f v i + f r := by
  unfold sumF
  rw [List.take_add_one, h]; simp
def szF (f : Ring → Int) (v : List Ring) : List Int := v.map f
def belF (f : Ring → Int) (v : List Ring) : List Int := (List.range (v.length + 1)).map (sumF f v)
def lvR (l : List Int) : List LV := l.map fun n => .p (i64 n)
end Go.Proofs.Ytcamoojddlpbgaa.V
