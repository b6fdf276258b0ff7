/- A vessel that came in, read as a list of its rings. -/
import Derived.Test.YtcamoojddlpbgaaRows
import Derived.Test.YtcamoojddlpbgaaV1
import Derived.WalkKit
import Derived.ProofKit
import Derived.OpenShut
import Derived.ShutString
import Derived.ChangeOld
import Derived.Below
import Derived.Carry
import Derived.SizedLaws
import Derived.Deep.Slices
import Derived.Deep.Fields
import Derived.ChangeSame
namespace Go.Proofs.Ytcamoojddlpbgaa.V
open Go.Proofs.Try
open Go.ChangeShapes Go.WideShapes Go.ChangeAt Go.RowKit Go.Deep
set_option linter.unusedSimpArgs false
set_option linter.unusedVariables false
set_option maxRecDepth 4000
theorem list_of {α : Type} (Q : Nat → α → Prop) : ∀ n, (∀ i, i < n → ∃ a, Q i a) → ∃ l : List α, l.length = n ∧ ∀ i a, l[i]? = some a → Q i a
  | 0, _ => ⟨[], rfl, fun i a h => by simp at h⟩
  | n + 1, h => by
    obtain ⟨l, hl, hq⟩ := list_of Q n fun i hi => h i (by omega)
    obtain ⟨a, ha⟩ := h n (by omega)
    refine ⟨l ++ [a], by simp [hl], fun i b hb => ?_⟩
    rcases Nat.lt_or_ge i n with hi | hi
    · rw [List.getElem?_append_left (by omega)] at hb; exact hq i b hb
    · rw [List.getElem?_append_right (by omega)] at hb
      cases hk : i - l.length with
      | zero => rw [hk] at hb; cases hb; have : i = n := by omega
                subst this; exact ha
      | succ k => rw [hk] at hb; simp at hb
theorem ves_read {H : Type} {enc : TypeId × Value → H} {W : World} {base : Nat} {d : DataW H} {p : List MemPlace} {a : Option Addr} {len cap : Nat} (hval : Value.okWide prog W .any base 23 (.slice a len cap)) (h : DataW.Trod enc prog W 0 (fun _ => true) true 23 (.slice a len cap) d p) : ∃ l : List Ring, Rd (known W) (vesV l) (.slice a len cap) := by
  obtain ⟨fuel, hf⟩ := h
  have hC : prog.cellsOf 68 = 3 := by kernel_rfl
  have hC3 : prog.cellsOf 3 = 1 := by kernel_rfl
  rcases open_slice underlying23 hf with ⟨hcs, _⟩ | ⟨x, l, c, m, n, D, Pl, hcs, _, hl, hm, hmm, _, hi⟩
  · simp [Value.cells] at hcs
    obtain ⟨rfl, rfl, rfl⟩ := hcs
    exact ⟨[], .nilsl⟩
  · simp [Value.cells] at hcs
    obtain ⟨rfl, rfl, rfl⟩ := hcs
    have hspot : x.spot = none := by
      simp only [Value.okWide, underlying23, Cell.okWide, Cell.ok] at hval
      exact hval.2.2.2.1
    obtain ⟨b, o, sp⟩ := x
    simp only at hspot
    subst hspot
    have key : ∀ i, i < len → ∃ r : Ring, W.cell? ⟨b, o + i * 3, none⟩ = some (.int .i64 r.h) ∧ W.cell? ⟨b, o + i * 3 + 1, none⟩ = some (.int .i64 r.v) ∧ W.cell? ⟨b, o + i * 3 + 2, none⟩ = some (.int .i64 r.d) := fun i hlt => by
      obtain ⟨cs', h1, h2⟩ := hi i (by simp at hmm; omega)
      rw [hC, at_add] at h1
      obtain ⟨_, h3, h4⟩ := World.cells?_some h1
      obtain ⟨xs, k, _, _, _, hx, hfs⟩ := DataW.trod_struct underlying68 h2
      have hget : ∀ j, j < 3 → ∃ z, cs'[j]? = some (.int .i64 z) := fun j hj => by
        have ht : DataW.trod enc prog W 0 (fun _ => true) true k 3 (List.take 1 (List.drop j cs')) = xs[j]? := by
          rcases j with _ | _ | _ | j
          · have g : DataW.trod enc prog W 0 (fun _ => true) true k 3 (List.take (prog.cellsOf 3) (List.drop 0 cs')) = xs[0]? := hfs 0 _ rfl
            rw [hC3] at g; exact g
          · have g : DataW.trod enc prog W 0 (fun _ => true) true k 3 (List.take (prog.cellsOf 3) (List.drop 1 cs')) = xs[1]? := hfs 1 _ rfl
            rw [hC3] at g; exact g
          · have g : DataW.trod enc prog W 0 (fun _ => true) true k 3 (List.take (prog.cellsOf 3) (List.drop 2 cs')) = xs[2]? := hfs 2 _ rfl
            rw [hC3] at g; exact g
          · omega
        have hxj : j < xs.length := by rw [hx]; exact hj
        rw [List.getElem?_eq_getElem hxj] at ht
        obtain ⟨z, hz, _⟩ := DataW.trod_int underlying3 ht
        refine ⟨z, ?_⟩
        have : (List.take 1 (List.drop j cs'))[0]? = some (.int .i64 z) := by rw [hz]; rfl
        rw [List.getElem?_take_of_lt (by omega), List.getElem?_drop] at this
        exact this
      obtain ⟨z0, y0⟩ := hget 0 (by omega)
      obtain ⟨z1, y1⟩ := hget 1 (by omega)
      obtain ⟨z2, y2⟩ := hget 2 (by omega)
      have q0 := h4 0 (by omega)
      have q1 := h4 1 (by omega)
      have q2 := h4 2 (by omega)
      rw [at_add, y0] at q0
      rw [at_add, y1] at q1
      rw [at_add, y2] at q2
      exact ⟨⟨z0, z1, z2⟩, q0, q1, q2⟩
    obtain ⟨L, hL, hQ⟩ := list_of _ _ key
    refine ⟨L, ?_⟩
    have hlen : (L.map ringV).length = len := by rw [List.length_map, hL]
    have cellz : ∀ e ∈ L.map ringV, e.cells.length = 3 := fun e he => by
      obtain ⟨r, _, rfl⟩ := List.mem_map.1 he
      rfl
    have hcell : ∀ (i : Nat) (e : PV) (j : Nat) (c : PV), (L.map ringV)[i]? = some e → e.cells[j]? = some c → ∃ z, W.cell? ⟨b, o + i * 3 + j, none⟩ = some (.int .i64 z) ∧ c = .int .i64 z := fun i e j c he hc => by
      rw [List.getElem?_map] at he
      obtain ⟨r, hr, rfl⟩ := Option.map_eq_some_iff.1 he
      obtain ⟨w0, w1, w2⟩ := hQ i r hr
      rcases j with _ | _ | _ | j
      · cases hc; exact ⟨_, w0, rfl⟩
      · cases hc; exact ⟨_, w1, rfl⟩
      · cases hc; exact ⟨_, w2, rfl⟩
      · simp [ringV, PV.cells] at hc
    have := Rd.sl (Φ := known W) (L.map ringV) b o 3 cap (fun i j => (W.cell? ⟨b, o + i * 3 + j, none⟩).getD .nilFunc) cellz (by rw [hlen]; exact hl) (fun i e j c he hc => by
      obtain ⟨z, h1, _⟩ := hcell i e j c he hc
      show W.cell? _ = some _
      rw [h1]; rfl) (fun i e j c he hc => by
      obtain ⟨z, h1, rfl⟩ := hcell i e j c he hc
      rw [h1]; exact .int _ _)
    rw [hlen] at this
    exact this

theorem own : ownKnob prog.godebug = none := by kernel_rfl
theorem laidOut : laidOutB prog = true := by kernel_rfl
end Go.Proofs.Ytcamoojddlpbgaa.V
