import Derived.Test.YtcamoojddlpbgaaWh
import Derived.Test.YtcamoojddlpbgaaKt
namespace Go.Proofs.Ytcamoojddlpbgaa.V
open Go.Proofs.Try
set_option linter.unusedSimpArgs false
set_option linter.unusedVariables false
set_option maxRecDepth 4000
/-! ### curve.lines -/
def pt (x y : Int) : PV := .agg [.int .i64 x, .int .i64 y]
def lineOf (a b : Int × Int) : List PV := [.agg [.int .i64 a.1, .int .i64 a.2, .int .i64 b.1, .int .i64 b.2]]
def linesOf (c : List (Int × Int)) : List (List PV) := List.zipWith lineOf c c.tail
def curveV (c : List (Int × Int)) : PV := .sl (c.map fun p => pt p.1 p.2)
theorem linesOf_get (c : List (Int × Int)) (i : Nat) : (linesOf c)[i]? = match c[i]?, c[i+1]? with
  | some a, some b => some (lineOf a b)
  | _, _ => none := by
  simp only [linesOf, List.getElem?_zipWith, List.getElem?_tail]
  cases c[i]? <;> cases c[i+1]? <;> rfl
theorem lines_iter (c : List (Int × Int)) (hc : c.length < 1000) : Iter prog 126 [] [.cp [curveV c]] (linesOf c) := by
  refine iter_of_tab mixed t126 rfl ?_ fun l => ?_
  · intro args h q hq
    obtain ⟨i, hi⟩ := List.getElem?_of_mem h
    rw [linesOf_get] at hi
    split at hi <;> cases hi
    simp [lineOf] at hq
    subst hq
    exact .agg _ (by simp; exact ⟨.int _ _, .int _ _, .int _ _, .int _ _⟩)
  · unfold k126
    simp -implicitDefEqProofs
    refine wk_loop (fun σ => ∃ i : Nat, σ = ⟨[.yl l, .p (.cp [curveV c]), .p .any, .p (.int .i64 (i + 1))] ++ List.replicate 19 (.p .any), [], [], i, false⟩ ∧ (i + 1 ≤ c.length ∨ i = 0 ∧ c.length = 0)) (fun σ => c.length - σ.y) ?_ ?_
    · refine ⟨some [0, 1, 3], [], by simp, 0, ?_⟩
      simp -implicitDefEqProofs [St.ren, LV.ren, Bxs.ren, List.mapIdx_cons]
      rcases Nat.eq_zero_or_pos c.length with h | h
      · exact .inr (List.eq_nil_of_length_eq_zero h)
      · exact .inl h
    · rintro σ ⟨i, rfl, hi⟩
      simp -implicitDefEqProofs [curveV]
      refine onB_dec (fun h1 => ?_) (fun h1 => ?_)
      · have e1 : IntKind.i64.wrap (i : Int) = i := wrap_id (by omega) (by omega)
        obtain ⟨p, hp⟩ : ∃ p, c[i]? = some p := ⟨_, List.getElem?_eq_getElem (by omega)⟩
        obtain ⟨q, hq⟩ : ∃ q, c[i+1]? = some q := ⟨_, List.getElem?_eq_getElem (by omega)⟩
        have e2 : ((i : Int) + 1).toNat = i + 1 := by omega
        have e3 : (i : Int) < c.length := by omega
        have e4 : (i : Int) + 1 < c.length := by omega
        have e5 : (0 : Int) ≤ (i : Int) + 1 := by omega
        simp -implicitDefEqProofs [e1, e2, e3, e4, e5, hp, hq, pt]
        refine dyld_ (by simp) rfl rfl (by simp [linesOf_get, hp, hq, lineOf]) fun b => ?_
        have e6 : IntKind.i64.wrap ((i : Int) + 1 + 1) = i + 1 + 1 := wrap_id (by omega) (by omega)
        simp -implicitDefEqProofs
        refine onB_split (fun hb => ?_) (fun hb => ?_)
        · simp at hb
          simp -implicitDefEqProofs [hb, Ends]
        · simp at hb
          simp -implicitDefEqProofs [hb, e6]
          refine ⟨some [0, 1, 3], [], by simp, ?_, ?_⟩
          · refine ⟨i + 1, ?_, by omega⟩
            simp -implicitDefEqProofs [St.ren, LV.ren, Bxs.ren, List.mapIdx_cons, curveV, pt]
          · (try simp [St.ren]); omega
      · simp -implicitDefEqProofs [Ends, linesOf]
        omega
/-! ### sane(), run by the kernel -/
def decPt : PV → Option (Int × Int)
  | .agg [.int .i64 x, .int .i64 y] => some (x, y)
  | _ => none
theorem decPt_spec (v : PV) (a : Int × Int) (h : decPt v = some a) : v = pt a.1 a.2 := by
  unfold decPt at h
  split at h <;> cases h
  rfl
noncomputable def linesG : Its := fun g first caps => match Nat.beq g 126, first, caps with
  | true, [], [.cp [.sl es]] => match decL decPt es with
    | some c => if c.length < 1000 then some (linesOf c) else none
    | none => none
  | _, _, _ => none
theorem linesG_ok (g : Nat) (first caps : List PV) (xs : List (List PV)) (h : linesG g first caps = some xs) : Iter prog g first caps xs := by
  unfold linesG at h
  split at h
  · rename_i es hg
    split at h
    · rename_i c hc
      split at h
      · rename_i hl
        cases h
        obtain rfl := Nat.eq_of_beq_eq_true hg
        rw [decL_spec (g := fun a => pt a.1 a.2) decPt_spec es c hc]
        exact lines_iter c hl
      · cases h
    · cases h
  · cases h
theorem sane_does : Does prog 15 [] (.bool true) := runF_sound (m := 300) mixed (tabL_ok tab_eq) (fun _ _ _ h => by cases h) linesG_ok 30 15 [] _ (show runF (lookT tabL) (fun _ _ => none) linesG 300 30 15 [] = some (.bool true) by kernel_rfl)
end Go.Proofs.Ytcamoojddlpbgaa.V
