/- The row of VesselVolumes is proved: for every vessel, level, minutes and volume, valid or not, Run, Until and Poured match the specification; no condition beyond the row's own. -/
import Derived.Test.YtcamoojddlpbgaaRows
import Derived.Test.YtcamoojddlpbgaaV19
import Derived.Test.YtcamoojddlpbgaaV15
import Derived.WalkKit
import Derived.ProofKit
import Derived.OpenShut
import Derived.ShutString
import Derived.ChangeOld
import Derived.Below
import Derived.Carry
import Derived.SizedLaws
import Derived.Deep.Slices
import Derived.Deep.Fields
import Derived.ChangeSame
namespace Go.Proofs.Ytcamoojddlpbgaa.V
open Go.Proofs.Try
open Go.ChangeShapes Go.WideShapes Go.ChangeAt Go.RowKit Go.Deep
set_option linter.unusedSimpArgs false
set_option linter.unusedVariables false
set_option maxRecDepth 4000
set_option maxRecDepth 100000 in
theorem lifted4 (os : Os) (started : os.Started) (H : Type) (enc : TypeId × Value → H) :
    ReturnsInHanded {} checked os 4 .any (Rows.vesselVolumesSpec.pre6 enc prog f4 Rows.vesselVolumesRow.domain false) (Rows.vesselVolumesSpec.post enc prog f4 false true false false) := by
  refine returnsInHanded_of_change_sized (C := checked) own started (by kernel_rfl) func4
    (ChangeSpec.witness6 (enc := enc) (C := checked) false ⟨#[], #[.slice none 0 0, .int .i64 0, .int .i64 0, .int .i64 0], []⟩ 8 (by kernel_rfl) (by kernel_rfl) (by kernel_rfl) (by kernel_rfl)) ?_
  intro W base args ds gs before hval0 hW hcnd hsz0 _
  have hval : ∀ (j : Nat) t v, f4.params[j]? = some t → args[j]? = some v → Value.okWide prog W .any base t v := hval0
  have hW' := hW
  obtain ⟨p, q, hA0, hV, rfl, hfz, hnd⟩ := hW
  have hA : DataW.TrodAll enc prog W 0 (fun _ => true) true f4.params.toList args.toList ds p := hA0
  rw [params4] at hA hval
  obtain ⟨v0, vs0, d0, ds0, p0, q0, hargs, rfl, rfl, h0, r0⟩ := trodAll_cons hA
  obtain ⟨v1, vs1, d1, ds1, p1, q1, rfl, rfl, rfl, h1, r1⟩ := trodAll_cons r0
  obtain ⟨v2, vs2, d2, ds2, p2, q2, rfl, rfl, rfl, h2, r2⟩ := trodAll_cons r1
  obtain ⟨v3, vs3, d3, ds3, p3, q3, rfl, rfl, rfl, h3, r3⟩ := trodAll_cons r2
  obtain ⟨rfl, rfl, rfl⟩ := trodAll_nil r3
  obtain rfl : args = #[v0, v1, v2, v3] := by cases args; simp_all
  obtain ⟨rfl, rfl⟩ := trodVars_none hV
  obtain ⟨a0, len0, cap0, rfl⟩ := okWide_slice underlying23 (hval 0 23 v0 rfl rfl)
  have k0 := h0
  have lt0 : ∀ x ∈ p0, x.block < W.heap.size := by obtain ⟨m, hm⟩ := k0; exact DataW.trod_lt m _ _ _ hm
  obtain ⟨l0, w0⟩ := ves_read (hval 0 23 _ rfl rfl) h0
  obtain ⟨a1, rfl, rfl, rfl, w1⟩ := open_int underlying3 (hval 1 3 v1 rfl rfl) h1
  obtain ⟨a2, rfl, rfl, rfl, w2⟩ := open_int underlying3 (hval 2 3 v2 rfl rfl) h2
  obtain ⟨a3, rfl, rfl, rfl, w3⟩ := open_int underlying3 (hval 3 3 v3 rfl rfl) h3
  clear hA0 hval0 hsz0
  have hD := (law4 l0 a1 a2 a3).2 W (known W) #[.slice a0 len0 cap0, .int .i64 a1, .int .i64 a2, .int .i64 a3] (fun _ _ _ h => h) rfl (fun i c x hc hx => by
    rcases i with _ | _ | _ | _ | i
    · cases hc; cases hx; exact w0
    · cases hc; cases hx; exact .int _ _
    · cases hc; cases hx; exact .int _ _
    · cases hc; cases hx; exact .int _ _
    · simp at hc)
  refine hD.mono fun e W' ⟨x, Ψ, he, bel, _, _, _, hr⟩ => ?_
  subst he
  have hx : x = .bool true := by
    cases hr; rfl
  subst hx
  exact ⟨_, rfl, _, _, _, [], _, [], hW', trodAll_mk1 (shut_bool underlying4 _), (trodAll_cons_mk (Below.trod laidOut (by kernel_rfl) (of_decide_eq_true (by kernel_rfl)) k0 bel lt0) (trodAll_cons_mk (shut_int underlying3 w1) (trodAll_cons_mk (shut_int underlying3 w2) (trodAll_cons_mk (shut_int underlying3 w3) trodAll_mk0)))), rfl, bel.frame _, fun h => by cases h⟩
theorem over4 : Rows.vesselVolumesRow.holds Try.pinned (OpenSpec.ofChange Rows.vesselVolumesSpec) :=
  OpenClaim.holds_of_wide 4 f4 rfl rfl rfl rfl rfl rfl rfl ⟨rfl, rfl, rfl, rfl, rfl⟩ rfl rfl rfl rfl rfl (by kernel_rfl) func4 (by kernel_rfl)
    (of_decide_eq_true (by kernel_rfl)) (by unfold Func.isWrapper; first | (rw [if_pos (by decide +kernel)]; kernel_rfl) | (rw [if_neg (by decide +kernel)]; exact ⟨rfl, rfl⟩))
    (fun os started H enc _ => lifted4 os started H enc)
theorem volumes_said : Rows.VesselVolumesSaid := over4
end Go.Proofs.Ytcamoojddlpbgaa.V
