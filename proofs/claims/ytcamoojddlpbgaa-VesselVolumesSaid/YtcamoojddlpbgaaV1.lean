import Derived.Test.YtcamoojddlpbgaaWh
import Derived.Test.YtcamoojddlpbgaaKt
namespace Go.Proofs.Ytcamoojddlpbgaa.V
open Go.Proofs.Try
set_option linter.unusedSimpArgs false
set_option linter.unusedVariables false
set_option maxRecDepth 4000
structure Ring where
  h : Int
  v : Int
  d : Int
  deriving DecidableEq
abbrev i64 (n : Int) : PV := .int .i64 n
def ringV (r : Ring) : PV := .agg [.int .i64 r.h, .int .i64 r.v, .int .i64 r.d]
def vesV (v : List Ring) : PV := .sl (v.map ringV)
structure Exa where
  w : Int
  n : Int
  d : Int
def exaV (x : Exa) : PV := .agg [.int .i64 x.w, .int .i64 x.n, .int .i64 x.d]
structure Plc where
  r : Int
  n : Int
  d : Int
def plcV (x : Plc) : PV := .agg [.int .i64 x.r, .int .i64 x.n, .int .i64 x.d]
def spanV (x : Int × Int) : PV := .agg [.int .i64 x.1, .int .i64 x.2]
theorem d113 (n : Int) : Does prog 113 [.int .i64 n] (.bool (decide (0 ≤ n) && decide (n ≤ 16777216))) := by
  refine does_of_tab mixed t113 ?_
  unfold k113
  simp -implicitDefEqProofs
  repeat' (refine onW_split (fun h => ?_) (fun h => ?_) <;> (try simp only [Bool.not_eq_true', Bool.not_eq_false'] at h) <;> simp -implicitDefEqProofs [*])
def isRingB (r : Ring) : Bool := decide (1 ≤ r.h) && decide (r.h ≤ 1000) && decide (1 ≤ r.v) && decide (r.v ≤ 100000) && decide (1 ≤ r.d) && decide (r.d ≤ 20000)
theorem d94 (r : Ring) : Does prog 94 [ringV r] (.bool (isRingB r)) := by
  refine does_of_tab mixed t94 ?_
  unfold k94
  simp -implicitDefEqProofs [ringV, isRingB]
  repeat' (refine onW_split (fun h => ?_) (fun h => ?_) <;> (try simp only [Bool.not_eq_true', Bool.not_eq_false'] at h) <;> simp -implicitDefEqProofs [*])
theorem d93 (n a b : Int) : Does prog 93 [.int .i64 n, .int .i64 a, .int .i64 b] (.bool (decide (a ≤ n) && decide (n ≤ b))) := by
  refine does_of_tab mixed t93 ?_
  unfold k93
  simp -implicitDefEqProofs
  repeat' (refine onW_split (fun h => ?_) (fun h => ?_) <;> (try simp only [Bool.not_eq_true', Bool.not_eq_false'] at h) <;> simp -implicitDefEqProofs [*])
theorem d107 (r : Ring) : Does prog 107 [ringV r] (.int .i64 r.h) := by
  refine does_of_tab mixed t107 ?_
  unfold k107
  simp -implicitDefEqProofs [ringV]
theorem d99 (r : Ring) : Does prog 99 [ringV r] (.int .i64 r.v) := by
  refine does_of_tab mixed t99 ?_
  unfold k99
  simp -implicitDefEqProofs [ringV]
theorem d97 (r : Ring) : Does prog 97 [ringV r] (.int .i64 r.d) := by
  refine does_of_tab mixed t97 ?_
  unfold k97
  simp -implicitDefEqProofs [ringV]
theorem d85 (n : Int) : Does prog 85 [.int .i64 n] (exaV ⟨n, 0, 1⟩) := by
  refine does_of_tab mixed t85 ?_
  unfold k85
  simp -implicitDefEqProofs [exaV]
theorem d65 (x : Exa) (h : x.w < 2^62 ∧ -2^62 < x.w) : Does prog 65 [exaV x] (spanV (if x.n = 0 then (x.w, x.w) else (x.w, x.w + 1))) := by
  refine does_of_tab mixed t65 ?_
  unfold k65
  have e1 : IntKind.i64.wrap (x.w + 1) = x.w + 1 := wrap_id (by omega) (by omega)
  simp -implicitDefEqProofs [exaV, spanV]
  refine onB_split (fun h => ?_) (fun h => ?_) <;> simp at h <;> simp -implicitDefEqProofs [*]
theorem d76 (x : Exa) (n : Int) (h : -2^62 < x.w ∧ x.w < 2^62 ∧ -2^62 < n ∧ n < 2^62) : Does prog 76 [exaV x, .int .i64 n] (exaV ⟨x.w + n, x.n, x.d⟩) := by
  refine does_of_tab mixed t76 ?_
  unfold k76
  have e1 : IntKind.i64.wrap (x.w + n) = x.w + n := wrap_id (by omega) (by omega)
  simp -implicitDefEqProofs [exaV, e1]
theorem d77 (x : Exa) (n : Int) : Does prog 77 [exaV x, .int .i64 n] (.bool (decide (n < x.w) || decide (x.w = n) && decide (0 < x.n))) := by
  refine does_of_tab mixed t77 ?_
  unfold k77
  simp -implicitDefEqProofs [exaV]
  repeat' (refine onW_split (fun h => ?_) (fun h => ?_) <;> (try simp only [Bool.not_eq_true', Bool.not_eq_false'] at h) <;> simp -implicitDefEqProofs [*])
theorem d114 (x : Exa) (n : Int) : Does prog 114 [exaV x, .int .i64 n] (.bool (decide (x.w < n))) := by
  refine does_of_tab mixed t114 ?_
  unfold k114
  simp -implicitDefEqProofs [exaV]
end Go.Proofs.Ytcamoojddlpbgaa.V
