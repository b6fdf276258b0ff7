import Derived.Test.YtcamoojddlpbgaaWc
namespace Go.Proofs.Ytcamoojddlpbgaa.V
set_option linter.unusedVariables false
set_option linter.unusedSimpArgs false
open Go.RowKit
noncomputable section
/-! ### Regions that draw: every order does the same -/
theorem frz_local {bx bx' : Bxs} : ∀ (d : Nat) (v : LV) (p : PV) (ks : List Nat), frz bx d v = some (p, ks) → (∀ k ∈ ks, Bxs.box bx' k = Bxs.box bx k) → frz bx' d v = some (p, ks)
  | d, .p v, p, ks, h, _ => by cases d <;> exact h
  | d, .yl l, p, ks, h, _ => by cases d <;> cases h
  | 0, .bp .., _, _, h, _ => by cases h
  | 0, .bs .., _, _, h, _ => by cases h
  | d + 1, .bp b st off, p, ks, h, hb => by
    simp only [frz] at h ⊢
    obtain ⟨cs, h1, h⟩ := Option.bind_eq_some_iff.1 h
    obtain ⟨vs, h2, h⟩ := Option.bind_eq_some_iff.1 h
    by_cases hl : off ≤ vs.length
    case neg => rw [if_neg hl] at h; cases h
    rw [if_pos hl] at h
    cases h
    have hat : Bxs.at bx' b st = some cs := by unfold Bxs.at at h1 ⊢; rw [hb b (by simp)]; exact h1
    have hm : cs.mapM (frz bx' d) = some vs := by
      refine mapM_local h2 fun v hv w hw hm => ?_
      exact frz_local d v w.1 w.2 hw fun k hk => hb k (List.mem_cons_of_mem _ (List.mem_flatMap.2 ⟨w, hm, hk⟩))
    show (Bxs.at bx' b st >>= fun cs => cs.mapM (frz bx' d) >>= _) = _
    rw [hat]
    show (cs.mapM (frz bx' d) >>= _) = _
    rw [hm]
    show (if off ≤ vs.length then _ else none) = _
    rw [if_pos hl]
    rfl
  | d + 1, .bs b st n z g, p, ks, h, hb => by
    simp only [frz] at h ⊢
    obtain ⟨cs, h1, h⟩ := Option.bind_eq_some_iff.1 h
    obtain ⟨vs, h2, h⟩ := Option.bind_eq_some_iff.1 h
    by_cases hl : n * z ≤ vs.length ∧ (g = true ∨ z = 1) ∧ 0 < z
    case neg => rw [if_neg hl] at h; cases h
    rw [if_pos hl] at h
    cases h
    have hat : Bxs.at bx' b st = some cs := by unfold Bxs.at at h1 ⊢; rw [hb b (by simp)]; exact h1
    have hm : cs.mapM (frz bx' d) = some vs := by
      refine mapM_local h2 fun v hv w hw hm => ?_
      exact frz_local d v w.1 w.2 hw fun k hk => hb k (List.mem_cons_of_mem _ (List.mem_flatMap.2 ⟨w, hm, hk⟩))
    show (Bxs.at bx' b st >>= fun cs => cs.mapM (frz bx' d) >>= _) = _
    rw [hat]
    show (cs.mapM (frz bx' d) >>= _) = _
    rw [hm]
    show (if n * z ≤ vs.length ∧ (g = true ∨ z = 1) ∧ 0 < z then _ else none) = _
    rw [if_pos hl]
    rfl
where
  mapM_local {α β : Type} {f g : α → Option β} : ∀ {l : List α} {r : List β}, l.mapM f = some r → (∀ v ∈ l, ∀ w, f v = some w → w ∈ r → g v = some w) → l.mapM g = some r
    | [], r, h, _ => h
    | v :: l, r, h, hg => by
      simp only [List.mapM_cons, Option.bind_eq_bind, Option.bind_eq_some_iff, Option.pure_def, Option.some.injEq] at h ⊢
      obtain ⟨y, hy, ys, hys, rfl⟩ := h
      exact ⟨y, hg v (by simp) y hy (by simp), ys, mapM_local hys fun v hv w hw hm => hg v (by simp [hv]) w hw (by simp [hm]), rfl⟩
section
variable {σ τ : St} {x : A} {ef : Ef}
theorem at_local {b st : Nat} (h : Bxs.box τ.bx b = Bxs.box σ.bx b) : Bxs.at τ.bx b st = Bxs.at σ.bx b st := by unfold Bxs.at; rw [h]
theorem fills_local {cs : List PV} {ps : List (Nat × Nat × Opd)} (h : ∀ q ∈ ps, τ.get q.2.2 = σ.get q.2.2) : (ps.map fun q => (q.1, q.2.1, τ.get q.2.2)) = ps.map fun q => (q.1, q.2.1, σ.get q.2.2) :=
  List.map_congr_left fun q hq => by rw [h q hq]
theorem args_local {xs : List Opd} {vs : List (PV × List Nat)} (h : (xs.mapM fun x => frz σ.bx 3 (σ.get x)) = some vs) (hr : ∀ q ∈ xs, τ.get q = σ.get q) (hb : ∀ k ∈ vs.flatMap Prod.snd, Bxs.box τ.bx k = Bxs.box σ.bx k) : (xs.mapM fun x => frz τ.bx 3 (τ.get x)) = some vs :=
  frz_local.mapM_local h fun v hv w hw hm => by
    show frz τ.bx 3 (τ.get v) = some w
    rw [hr v hv]
    exact frz_local 3 _ w.1 w.2 hw fun k hk => hb k (List.mem_flatMap.2 ⟨w, hm, hk⟩)
/-- what an operation does hangs on its operands and on the boxes of its footprint -/
theorem eff_local (he : eff σ x = some ef) (hr : ∀ q ∈ x.opds, τ.get q = σ.get q) (hb : ∀ k ∈ foot σ x ef, Bxs.box τ.bx k = Bxs.box σ.bx k) : eff τ x = some ef := by
  have box : ∀ q ∈ x.peeks, ∀ k ∈ (σ.get q).bxs, Bxs.box τ.bx k = Bxs.box σ.bx k := fun q hq k hk => hb k (List.mem_append_left _ (List.mem_flatMap.2 ⟨q, hq, hk⟩))
  cases x with
  | call f xs =>
    simp only [eff] at he ⊢
    obtain ⟨vs, hv, he⟩ := Option.bind_eq_some_iff.1 he
    obtain rfl := Option.some.inj he
    have := args_local hv hr fun k hk => hb k (List.mem_append_right _ hk)
    rw [this]; rfl
  | callv y xs =>
    simp only [eff] at he ⊢
    rw [hr y (by simp [A.opds])]
    split at he <;> try (cases he; done)
    · obtain ⟨vs, hv, he'⟩ := Option.bind_eq_some_iff.1 he
      obtain rfl := Option.some.inj he'
      have := args_local hv (fun q hq => hr q (by simp [A.opds, hq])) fun k hk => hb k (List.mem_append_right _ hk)
      rw [this]; rfl
    · obtain ⟨vs, hv, he'⟩ := Option.bind_eq_some_iff.1 he
      obtain rfl := Option.some.inj he'
      have : (xs.mapM fun x => (τ.get x).pv) = some vs := frz_local.mapM_local hv fun v hv' w hw _ => by
        show (τ.get v).pv = some w
        rw [hr v (by simp [A.opds, hv'])]; exact hw
      rw [this]; rfl
  | fn f c d =>
    simp only [eff] at he ⊢
    obtain ⟨u, hu, he⟩ := Option.bind_eq_some_iff.1 he
    obtain ⟨v, hv, he⟩ := Option.bind_eq_some_iff.1 he
    have he := Option.some.inj he
    have hk : ∀ k ∈ u.flatMap Prod.snd ++ v.flatMap Prod.snd, Bxs.box τ.bx k = Bxs.box σ.bx k := fun k hk => by
      by_cases hn : (u.flatMap Prod.snd ++ v.flatMap Prod.snd).isEmpty = true
      · rw [List.isEmpty_iff.1 hn] at hk; cases hk
      · rw [if_neg hn] at he
        subst he
        exact hb k (List.mem_append_right _ hk)
    have h1 := args_local hu (fun q hq => hr q (by simp [A.opds, hq])) fun k hk' => hk k (List.mem_append_left _ hk')
    have h2 := args_local hv (fun q hq => hr q (by simp [A.opds, hq])) fun k hk' => hk k (List.mem_append_right _ hk')
    rw [h1]
    show (d.mapM (fun x => frz τ.bx 3 (τ.get x)) >>= _) = _
    rw [h2]
    exact congrArg some he
  | build z ps =>
    simp only [eff] at he ⊢
    rw [fills_local (σ := σ) (τ := τ) (cs := z) fun q hq => hr _ (by simp only [A.opds]; exact List.mem_map_of_mem hq)]
    exact he
  | lit ty g z n zs ps =>
    simp only [eff] at he ⊢
    rw [fills_local (σ := σ) (τ := τ) (cs := zs) fun q hq => hr _ (by simp only [A.opds]; exact List.mem_map_of_mem hq)]
    exact he
  | cut z y lo hi =>
    have hc : ∀ d q, (∀ p, q = some p → p ∈ (A.cut z y lo hi).opds) → cutB τ d q = cutB σ d q := fun d q hq => by
      cases q with
      | none => rfl
      | some p => simp only [cutB]; rw [hr p (hq p rfl)]
    simp only [eff] at he ⊢
    rw [hr y (by simp [A.opds])]
    have c1 : ∀ d, cutB τ d lo = cutB σ d lo := fun d => hc d lo fun p hp => by subst hp; simp [A.opds]
    have c2 : ∀ d, cutB τ d hi = cutB σ d hi := fun d => hc d hi fun p hp => by subst hp; simp [A.opds]
    simp only [c1, c2]
    exact he
  | app ty g z by_ y v =>
    have hy := hr y (by simp [A.opds])
    have hv := hr v (by simp [A.opds])
    have hs : appSrc τ z (σ.get v) = appSrc σ z (σ.get v) := by
      unfold appSrc
      split <;> try rfl
      rename_i b st n z' g' e
      rw [at_local (box v (by simp [A.peeks]) b (by rw [e]; simp [LV.bxs]))]
    simp only [eff] at he ⊢
    rw [hy, hv, hs]
    obtain ⟨⟨k, cs⟩, h1, he⟩ := Option.bind_eq_some_iff.1 he
    rw [h1]
    show (if k = 0 then _ else _) = _
    simp only at he
    by_cases hk : k = 0
    · rw [if_pos hk] at he ⊢; exact he
    rw [if_neg hk] at he ⊢
    by_cases hp : cs.all LV.plain = true
    case neg => rw [if_neg hp] at he; cases he
    rw [if_pos hp] at he ⊢
    split at he <;> try (cases he; done)
    · exact he
    · rename_i b st n z' g' e
      have hbx := box y (by simp [A.peeks]) b (by rw [e]; simp [LV.bxs])
      simp only [at_local hbx, hbx]
      exact he
  | nchk y | fa off y | ld g n y =>
    simp only [eff] at he ⊢
    rw [hr y (by simp [A.opds])]
    split at he <;> first
      | exact he
      | (cases he; done)
      | (rename_i b st off e
         rw [at_local (box y (by simp [A.peeks]) b (by rw [e]; simp [LV.bxs]))]
         exact he)
  | st n y v =>
    simp only [eff] at he ⊢
    rw [hr y (by simp [A.opds]), hr v (by simp [A.opds])]
    split at he <;> first
      | (cases he; done)
      | (rename_i b st off e
         rw [at_local (box y (by simp [A.peeks]) b (by rw [e]; simp [LV.bxs]))]
         exact he)
  | ix z y i =>
    simp only [eff] at he ⊢
    rw [hr y (by simp [A.opds]), hr i (by simp [A.opds])]
    split at he <;> first
      | (cases he; done)
      | exact he
      | (rename_i b st m z' g k j e1 e2
         rw [at_local (box y (by simp [A.peeks]) b (by rw [e1]; simp [LV.bxs]))]
         exact he)
  | mv y | box ty y | neg y | not y | fl g off n y | len s y | ext y i =>
    simp only [eff] at he ⊢
    rw [hr y (by simp [A.opds])]
    exact he
  | pick c y z =>
    simp only [eff] at he ⊢
    rw [hr c (by simp [A.opds]), hr y (by simp [A.opds]), hr z (by simp [A.opds])]
    exact he
  | bin op y z | eqs g n y z | eqb g y z | max y z | min y z =>
    simp only [eff] at he ⊢
    rw [hr y (by simp [A.opds]), hr z (by simp [A.opds])]
    exact he
end
/-- the change that an effect makes: a register, and at most one box -/
abbrev Ch := LV × Option (Nat × Box)
def St.ch (σ : St) (d : Option Nat) (w : Ch) : St := { σ.put d w.1 with bx := match w.2 with
  | none => σ.bx
  | some (b, B) => σ.bx.set b (some B) }
def Bxs.res (bx : Bxs) (s : Nat) : Ef → Ch
  | .val v => (v, none)
  | .new v ty cs => (v s, some (s, ⟨0, ty, cs⟩))
  | .wr b st off vs => (.p .any, (Bxs.box bx b).map fun B => (b, ⟨st, B.ty, putL B.cells off vs⟩))
  | .app b st n z g k cs => (.bs b (st + 1) (n + k) z g, (Bxs.box bx b).map fun B => (b, ⟨st + 1, B.ty, B.cells ++ cs⟩))
  | _ => (.p .any, none)
def Ef.plain : Ef → Bool
  | .val _ | .new .. | .wr .. | .app .. => true
  | _ => false
theorem Bxs.put_set {bx : Bxs} {i : Nat} {B : Box} (h : i < bx.length) : bx.put i B = bx.set i (some B) := by unfold Bxs.put; rw [if_pos h, setN_eq]
section
variable {σ τ : St} {x : A} {ef : Ef}
/-- what an effect can be that is not a plain value -/
theorem eff_kind (he : eff σ x = some ef) : (∀ v ty cs, ef = .new v ty cs → x.makes = true) ∧ (∀ b st off vs, ef = .wr b st off vs → b ∈ foot σ x ef ∧ (Bxs.box σ.bx b).isSome) ∧ (∀ b st n z g k cs, ef = .app b st n z g k cs → b ∈ foot σ x ef ∧ (Bxs.box σ.bx b).isSome) := by
  have hat : ∀ {b st cs}, Bxs.at σ.bx b st = some cs → (Bxs.box σ.bx b).isSome := fun {b st cs} h => by
    unfold Bxs.at at h
    cases e : Bxs.box σ.bx b with
    | none => rw [e] at h; cases h
    | some B => rfl
  have val : ∀ v, ef = .val v → (∀ v ty cs, ef = .new v ty cs → x.makes = true) ∧ (∀ b st off vs, ef = .wr b st off vs → b ∈ foot σ x ef ∧ (Bxs.box σ.bx b).isSome) ∧ (∀ b st n z g k cs, ef = .app b st n z g k cs → b ∈ foot σ x ef ∧ (Bxs.box σ.bx b).isSome) := fun v h => by
    subst h
    exact ⟨nofun, nofun, nofun⟩
  have call : ∀ f a ks, ef = .call f a ks → (∀ v ty cs, ef = .new v ty cs → x.makes = true) ∧ (∀ b st off vs, ef = .wr b st off vs → b ∈ foot σ x ef ∧ (Bxs.box σ.bx b).isSome) ∧ (∀ b st n z g k cs, ef = .app b st n z g k cs → b ∈ foot σ x ef ∧ (Bxs.box σ.bx b).isSome) := fun f a ks h => by
    subst h
    exact ⟨nofun, nofun, nofun⟩
  cases x with
  | box => 
    refine ⟨fun _ _ _ _ => rfl, fun _ _ _ _ h => ?_, fun _ _ _ _ _ _ _ h => ?_⟩ <;> subst h <;> simp only [eff] at he <;> split at he <;> cases he
  | lit =>
    refine ⟨fun _ _ _ _ => rfl, fun _ _ _ _ h => ?_, fun _ _ _ _ _ _ _ h => ?_⟩ <;> subst h <;> simp only [eff] at he <;> obtain ⟨_, _, he⟩ := Option.bind_eq_some_iff.1 he <;> split at he <;> cases he
  | app ty g z by_ y v =>
    refine ⟨fun _ _ _ _ => rfl, fun _ _ _ _ h => ?_, fun b st n z' g' k cs h => ?_⟩
    · subst h
      simp only [eff] at he
      obtain ⟨⟨k, cs⟩, h1, he⟩ := Option.bind_eq_some_iff.1 he
      simp only at he
      split at he
      · split at he <;> cases he
      · split at he
        · split at he <;> try (cases he; done)
          · split at he <;> cases he
          · obtain ⟨_, _, he'⟩ := Option.bind_eq_some_iff.1 he
            split at he' <;> cases he'
        · cases he
    · subst h
      simp only [eff] at he
      obtain ⟨⟨k, cs⟩, h1, he⟩ := Option.bind_eq_some_iff.1 he
      simp only at he
      split at he
      · split at he <;> cases he
      · split at he
        · split at he <;> try (cases he; done)
          · split at he <;> cases he
          · rename_i e
            obtain ⟨_, h2, he'⟩ := Option.bind_eq_some_iff.1 he
            split at he' <;> try (cases he'; done)
            cases he'
            exact ⟨List.mem_append_left _ (List.mem_flatMap.2 ⟨y, by simp [A.peeks], by rw [e]; simp [LV.bxs]⟩), hat h2⟩
        · cases he
  | st n y v =>
    refine ⟨fun _ _ _ h => ?_, fun b st off vs h => ?_, fun _ _ _ _ _ _ _ h => ?_⟩
    all_goals
      subst h
      simp only [eff] at he
      split at he <;> try (cases he; done)
      rename_i e
      obtain ⟨_, h2, he'⟩ := Option.bind_eq_some_iff.1 he
      split at he' <;> try (cases he'; done)
      try (cases he'; done)
    cases he'
    exact ⟨List.mem_append_left _ (List.mem_flatMap.2 ⟨y, by simp [A.peeks], by rw [e]; simp [LV.bxs]⟩), hat h2⟩
  | call f xs =>
    simp only [eff] at he
    obtain ⟨_, _, he⟩ := Option.bind_eq_some_iff.1 he
    exact call _ _ _ (Option.some.inj he).symm
  | callv y xs =>
    simp only [eff] at he
    split at he <;> try (cases he; done)
    · obtain ⟨_, _, he'⟩ := Option.bind_eq_some_iff.1 he
      exact call _ _ _ (Option.some.inj he').symm
    · obtain ⟨_, _, he'⟩ := Option.bind_eq_some_iff.1 he
      obtain rfl := Option.some.inj he'
      exact ⟨nofun, nofun, nofun⟩
  | fn f c d =>
    simp only [eff] at he
    obtain ⟨_, _, he⟩ := Option.bind_eq_some_iff.1 he
    obtain ⟨_, _, he⟩ := Option.bind_eq_some_iff.1 he
    obtain rfl := Option.some.inj he
    split
    · exact ⟨nofun, nofun, nofun⟩
    · exact ⟨nofun, nofun, nofun⟩
  | ld g n y =>
    simp only [eff] at he
    split at he
    · split at he
      · split at he
        · exact val _ (Option.some.inj he).symm
        · obtain ⟨_, _, he⟩ := Option.map_eq_some_iff.1 he
          exact val _ he.symm
      · cases he
    · obtain ⟨_, _, he'⟩ := Option.bind_eq_some_iff.1 he
      split at he' <;> try (cases he'; done)
      split at he' <;> obtain ⟨_, _, he''⟩ := Option.bind_eq_some_iff.1 he' <;> exact val _ (Option.some.inj he'').symm
    · cases he
  | mv y => exact val _ (Option.some.inj he).symm
  | nchk y | fa off y =>
    simp only [eff] at he
    split at he <;> first
      | (cases he; done)
      | exact val _ (Option.some.inj he).symm
      | (split at he <;> first | (cases he; done) | exact val _ (Option.some.inj he).symm)
      | (obtain ⟨_, _, he'⟩ := Option.bind_eq_some_iff.1 he; exact val _ (Option.some.inj he').symm)
  | pick c y z | neg y | not y | eqb g y z | max y z | min y z =>
    simp only [eff] at he
    split at he <;> first
      | (cases he; done)
      | exact val _ (Option.some.inj he).symm
  | len s y =>
    simp only [eff] at he
    split at he <;> first
      | (cases he; done)
      | (split at he <;> first | (cases he; done) | exact val _ (Option.some.inj he).symm)
  | build z ps =>
    simp only [eff] at he
    obtain ⟨_, _, he⟩ := Option.bind_eq_some_iff.1 he
    exact val _ (Option.some.inj he).symm
  | bin op y z | eqs g n y z =>
    simp only [eff] at he
    split at he <;> try (cases he; done)
    split at he <;> try (cases he; done)
    obtain ⟨_, _, he'⟩ := Option.map_eq_some_iff.1 he
    exact val _ he'.symm
  | ext y i =>
    simp only [eff] at he
    split at he <;> try (cases he; done)
    obtain ⟨_, _, he'⟩ := Option.map_eq_some_iff.1 he
    exact val _ he'.symm
  | fl g off n y =>
    simp only [eff] at he
    split at he <;> try (cases he; done)
    split at he <;> try (cases he; done)
    split at he
    · exact val _ (Option.some.inj he).symm
    · obtain ⟨_, _, he'⟩ := Option.map_eq_some_iff.1 he
      exact val _ he'.symm
  | ix z y i =>
    simp only [eff] at he
    split at he <;> try (cases he; done)
    · split at he <;> try (cases he; done)
      obtain ⟨_, _, he'⟩ := Option.bind_eq_some_iff.1 he
      split at he' <;> try (cases he'; done)
      exact val _ (Option.some.inj he').symm
    · split at he <;> try (cases he; done)
      obtain ⟨_, _, he'⟩ := Option.bind_eq_some_iff.1 he
      exact val _ (Option.some.inj he').symm
  | cut z y lo hi =>
    simp only [eff] at he
    split at he <;> try (cases he; done)
    obtain ⟨_, _, he'⟩ := Option.bind_eq_some_iff.1 he
    obtain ⟨_, _, he'⟩ := Option.bind_eq_some_iff.1 he'
    split at he' <;> try (cases he'; done)
    exact val _ (Option.some.inj he').symm
end
/-- an operation that may stand beside others: its change and its footprint -/
inductive Det (P : Program) (σ : St) (x : D) : Ch → List Nat × List Nat → Prop
  | skip (h : wantedC σ x.c.g = some false) : Det P σ x (.p (.tup []), none) ([], [])
  | call {f : Nat} {args : List PV} {ks : List Nat} {r : PV} (h : wantedC σ x.c.g = some true) (he : eff σ x.c.a = some (.call f args ks)) (hd : Does P f args r) (hf : ks = [] ∨ Flat r) : Det P σ x (.p r, none) (foot σ x.c.a (.call f args ks), [])
  | ef {e : Ef} (h : wantedC σ x.c.g = some true) (he : eff σ x.c.a = some e) (hp : e.plain = true) : Det P σ x (Bxs.res σ.bx x.s e) (foot σ x.c.a e, e.wrs x.s)
/-- an operation beside which nothing may stand -/
def Bar (P : Program) (Y : Ys) (σ : St) (x : D) (K : St → Prop) : Prop := wantedC σ x.c.g = some true ∧
  ((∃ f args ks r, eff σ x.c.a = some (.call f args ks) ∧ Does P f args r ∧ K ((σ.fz ks).put x.c.dst (.p r))) ∨
   (∃ args, eff σ x.c.a = some (.yld Y.l args) ∧ σ.stop = false ∧ Y.xs[σ.y]? = some args ∧ ∀ b, K (σ.yielded x.c.dst b)) ∨
   (∃ v ks, eff σ x.c.a = some (.fz v ks) ∧ K (σ.after x.c.dst x.s (.fz v ks))))
def Run (P : Program) (Y : Ys) (Q : St → Prop) : List D → Acc → St → Prop
  | [], _, σ => Q σ
  | x :: l, acc, σ => (∃ w m, Det P σ x w m ∧ chk acc x.un (some m) = true ∧ Run P Y Q l ((x.j, some m) :: acc) (σ.ch x.c.dst w)) ∨
      (chk acc x.un none = true ∧ Bar P Y σ x fun σ' => Run P Y Q l ((x.j, none) :: acc) σ')
section
variable {P : Program} {Y : Ys} {Q : St → Prop} {σ τ : St}
theorem put_ch (σ : St) (d : Option Nat) (v : LV) : σ.put d v = σ.ch d (v, none) := by cases d <;> rfl
theorem after_ch {x : A} {e : Ef} (he : eff σ x = some e) (hp : e.plain = true) (d : Option Nat) (s : Nat) (hs : x.makes = true → s < σ.bx.length) : σ.after d s e = σ.ch d (Bxs.res σ.bx s e) := by
  obtain ⟨k1, k2, k3⟩ := eff_kind he
  cases e with
  | val v => exact put_ch σ d v
  | new v ty cs =>
    have := hs (k1 v ty cs rfl)
    simp only [St.after, Bxs.res, St.ch, Bxs.put_set this]
    cases d <;> rfl
  | wr b st off vs =>
    obtain ⟨B, hB⟩ := Option.isSome_iff_exists.1 (k2 b st off vs rfl).2
    simp only [St.after, Bxs.res, St.ch, hB, Option.map_some, Bxs.put_set (Bxs.box_lt hB)]
    cases d <;> rfl
  | app b st n z g k cs =>
    obtain ⟨B, hB⟩ := Option.isSome_iff_exists.1 (k3 b st n z g k cs rfl).2
    simp only [St.after, Bxs.res, St.ch, hB, Option.map_some, Bxs.put_set (Bxs.box_lt hB)]
    cases d <;> rfl
  | call | fz | yld => cases hp
theorem ch_len (σ : St) (d : Option Nat) (w : Ch) : (σ.ch d w).bx.length = σ.bx.length := by
  unfold St.ch
  split
  · rfl
  · simp
theorem ch_get (σ : St) {d : Option Nat} (w : Ch) {q : Opd} (h : ∀ k, d = some k → q ≠ .t k) : (σ.ch d w).get q = σ.get q := by
  cases q with
  | c v => rfl
  | t n =>
    cases d with
    | none => rfl
    | some k =>
      have hn : k ≠ n := fun e => h k rfl (by rw [e])
      simp only [St.get, St.ch, St.put, nthD_eq, setN_eq, List.getD_eq_getElem?_getD, List.getElem?_set_ne hn]
theorem ch_box (σ : St) {d : Option Nat} {w : Ch} {k : Nat} (h : ∀ i B, w.2 = some (i, B) → i ≠ k) : Bxs.box (σ.ch d w).bx k = Bxs.box σ.bx k := by
  unfold St.ch
  split
  · rfl
  · rename_i b B e
    simp only [Bxs.box_eq, List.getElem?_set_ne (h b B e)]
theorem ch_comm (σ : St) {d d' : Option Nat} {w w' : Ch} (hd : ∀ k, d = some k → d' ≠ some k) (hw : ∀ i B i' B', w.2 = some (i, B) → w'.2 = some (i', B') → i ≠ i') : (σ.ch d w).ch d' w' = (σ.ch d' w').ch d w := by
  have hr : ((σ.put d w.1).put d' w'.1).regs = ((σ.put d' w'.1).put d w.1).regs := by
    cases d with
    | none => cases d' <;> rfl
    | some k => cases d' with
      | none => rfl
      | some k' =>
        have : k ≠ k' := fun e => hd k rfl (by rw [e])
        simp only [St.put, setN_eq]
        exact List.set_comm _ _ this
  have hr' : ∀ (σ : St) (d : Option Nat) (w : Ch), (σ.ch d w).regs = (σ.put d w.1).regs := fun _ _ _ => rfl
  obtain ⟨v, q⟩ := w
  obtain ⟨v', q'⟩ := w'
  cases d <;> cases d' <;> cases q <;> cases q' <;> simp only [St.ch, St.put, setN_eq] at hr ⊢ <;> first
    | rfl
    | (congr 1; done)
    | (simp only [St.mk.injEq, and_true, true_and]
       first
         | exact hr
         | exact ⟨hr, List.set_comm _ _ (hw _ _ _ _ rfl rfl)⟩
         | exact List.set_comm _ _ (hw _ _ _ _ rfl rfl))
theorem wanted_local {g : Option (Nat × Bool)} (h : ∀ d w, g = some (d, w) → τ.get (.t d) = σ.get (.t d)) : wantedC τ g = wantedC σ g := by
  cases g with
  | none => rfl
  | some q => obtain ⟨d, w⟩ := q; simp only [wantedC, h d w rfl]
theorem peeks_sub (x : A) : ∀ q ∈ x.peeks, q ∈ x.opds := by
  cases x <;> intro q hq <;> simp only [A.peeks, A.opds, List.not_mem_nil, List.mem_cons, or_false] at hq ⊢ <;> first | exact hq | exact .inl hq
theorem Det.local {x : D} {w : Ch} {m : List Nat × List Nat} (h : Det P σ x w m) (hr : ∀ q ∈ x.c.a.opds, τ.get q = σ.get q) (hg : ∀ d w, x.c.g = some (d, w) → τ.get (.t d) = σ.get (.t d)) (hb : ∀ k ∈ m.1, Bxs.box τ.bx k = Bxs.box σ.bx k) : Det P τ x w m := by
  have hw := wanted_local (τ := τ) (σ := σ) hg
  have foot_eq : ∀ e, foot τ x.c.a e = foot σ x.c.a e := fun e => by
    unfold foot
    have : (x.c.a.peeks.map fun q => (τ.get q).bxs) = x.c.a.peeks.map fun q => (σ.get q).bxs := List.map_congr_left fun q hq => by rw [hr q (peeks_sub _ q hq)]
    simp only [List.flatMap, this]
  cases h with
  | skip h => exact .skip (hw.trans h)
  | call h he hd hf => rw [← foot_eq]; exact .call (hw.trans h) (eff_local he hr hb) hd hf
  | ef h he hp =>
    rename_i e
    have he' := eff_local he hr hb
    have hres : Bxs.res σ.bx x.s e = Bxs.res τ.bx x.s e := by
      obtain ⟨_, k2, k3⟩ := eff_kind he
      cases e with
      | wr b st off vs => simp only [Bxs.res]; rw [hb b (k2 _ _ _ _ rfl).1]
      | app b st n z g k cs => simp only [Bxs.res]; rw [hb b (k3 _ _ _ _ _ _ _ rfl).1]
      | _ => rfl
    rw [← foot_eq, hres]
    exact .ef (hw.trans h) he' hp
theorem Det.wrs {x : D} {w : Ch} {m : List Nat × List Nat} (h : Det P σ x w m) {i : Nat} {B : Box} (hi : w.2 = some (i, B)) : i ∈ m.2 := by
  cases h with
  | skip => cases hi
  | call => cases hi
  | ef h he hp =>
    rename_i e
    cases e with
    | val v => cases hi
    | new v ty cs => cases hi; simp [Ef.wrs]
    | wr b st off vs =>
      obtain ⟨B, _, hB⟩ := Option.map_eq_some_iff.1 hi
      cases hB; simp [Ef.wrs]
    | app b st n z g k cs =>
      obtain ⟨B, _, hB⟩ := Option.map_eq_some_iff.1 hi
      cases hB; simp [Ef.wrs]
    | call | fz | yld => cases hp
theorem Run.acc : ∀ (l : List D) (acc acc' : Acc) (σ : St), Run P Y Q l acc σ → (∀ q ∈ acc', q ∈ acc) → Run P Y Q l acc' σ
  | [], _, _, _, h, _ => h
  | x :: l, acc, acc', σ, h, hs => by
    have hchk : ∀ un m, chk acc un m = true → chk acc' un m = true := fun un m h => List.all_eq_true.2 fun q hq => List.all_eq_true.1 h q (hs q hq)
    have hsub : ∀ (q0 : Nat × Mark), ∀ q ∈ q0 :: acc', q ∈ q0 :: acc := fun q0 q hq => by
      rcases List.mem_cons.1 hq with rfl | hq
      · simp
      · exact List.mem_cons_of_mem _ (hs q hq)
    rcases h with ⟨w, m, h1, h2, h3⟩ | ⟨h2, hw, h3⟩
    · exact .inl ⟨w, m, h1, hchk _ _ h2, Run.acc l _ _ _ h3 (hsub _)⟩
    · refine .inr ⟨hchk _ _ h2, hw, ?_⟩
      rcases h3 with ⟨f, args, ks, r, e1, e2, e3⟩ | ⟨args, e1, e2, e3, e4⟩ | ⟨v, ks, e1, e2⟩
      · exact .inl ⟨f, args, ks, r, e1, e2, Run.acc l _ _ _ e3 (hsub _)⟩
      · exact .inr (.inl ⟨args, e1, e2, e3, fun b => Run.acc l _ _ _ (e4 b) (hsub _)⟩)
      · exact .inr (.inr ⟨v, ks, e1, Run.acc l _ _ _ e2 (hsub _)⟩)
theorem Run.first_chk {x : D} {l : List D} {acc : Acc} (h : Run P Y Q (x :: l) acc σ) : (∃ m, chk acc x.un (some m) = true) ∨ chk acc x.un none = true := by
  rcases h with ⟨w, m, h1, h2, h3⟩ | ⟨h2, _⟩
  · exact .inl ⟨m, h2⟩
  · exact .inr h2
theorem looks_get (σ : St) {d : Option Nat} (w : Ch) {c : C} (h : ∀ k, d = some k → k ∉ c.looks) : (∀ q ∈ c.a.opds, (σ.ch d w).get q = σ.get q) ∧ ∀ k b, c.g = some (k, b) → (σ.ch d w).get (.t k) = σ.get (.t k) := by
  refine ⟨fun q hq => ch_get σ w fun k hk e => ?_, fun k b hk => ch_get σ w fun k' hk' e => ?_⟩
  · subst e
    exact h k hk (List.mem_append_left _ (List.mem_flatMap.2 ⟨_, hq, by simp [Opd.reg]⟩))
  · cases e
    exact h _ hk' (List.mem_append_right _ (by rw [hk]; simp))
theorem disj_spec {a b : List Nat} (h : disj a b = true) {i : Nat} (ha : i ∈ a) (hb : i ∈ b) : False := by
  have := List.all_eq_true.1 h i ha
  simp [memB_of hb] at this
theorem mark_spec {m m' : List Nat × List Nat} (h : Mark.apart (some m) (some m') = true) : disj m'.2 m.1 = true ∧ disj m'.2 m.2 = true ∧ disj m.2 m'.1 = true := by
  obtain ⟨f, w⟩ := m
  obtain ⟨f', w'⟩ := m'
  cases w with
  | nil => cases w' with
    | nil => exact ⟨rfl, rfl, rfl⟩
    | cons b w' =>
      have h : (disj (b :: w') f && disj (b :: w') [] && disj [] f') = true := h
      simp only [Bool.and_eq_true] at h
      exact ⟨h.1.1, h.1.2, h.2⟩
  | cons b w =>
    have h : (disj w' f && disj w' (b :: w) && disj (b :: w) f') = true := by cases w' <;> exact h
    simp only [Bool.and_eq_true] at h
    exact ⟨h.1.1, h.1.2, h.2⟩
/-- two neighbours that are not ordered change places -/
theorem Run.swap {x y : D} {l : List D} {acc : Acc} (h : Run P Y Q (x :: y :: l) acc σ) (h1 : bitB y.un x.j = true) (h2 : bitB x.un y.j = false) (ha : x.c.Apart y.c) : Run P Y Q (y :: x :: l) acc σ := by
  obtain ⟨a1, a2, a3⟩ := ha
  have mk : ∀ mx my, chk ((x.j, mx) :: acc) y.un my = true → Mark.apart mx my = true ∧ chk acc y.un my = true := fun mx my h => by
    have h0 := List.all_eq_true.1 h (x.j, mx) (by simp)
    simp only [h1, Bool.not_true, Bool.or_false] at h0
    exact ⟨h0, List.all_eq_true.2 fun q hq => List.all_eq_true.1 h q (List.mem_cons_of_mem _ hq)⟩
  rcases h with ⟨wx, mx, hx, cx, h⟩ | ⟨_, hw, h⟩
  · rcases h with ⟨wy, my, hy, cy, h⟩ | ⟨cy, _⟩
    · obtain ⟨ap, cy⟩ := mk _ _ cy
      obtain ⟨p1, p2, p3⟩ := mark_spec ap
      -- y runs in σ as it ran behind x
      obtain ⟨g1, g2⟩ := looks_get σ wx (c := y.c) a1
      have hy' : Det P σ y wy my := hy.local (τ := σ) (fun q hq => (g1 q hq).symm) (fun d w hd => (g2 d w hd).symm) fun k hk => (ch_box σ fun i B hi e => by subst e; exact disj_spec p3 (hx.wrs hi) hk).symm
      obtain ⟨g3, g4⟩ := looks_get σ wy (c := x.c) a3
      have hx' : Det P (σ.ch y.c.dst wy) x wx mx := hx.local g3 g4 fun k hk => ch_box σ fun i B hi e => by subst e; exact disj_spec p1 (hy'.wrs hi) hk
      refine .inl ⟨wy, my, hy', cy, .inl ⟨wx, mx, hx', ?_, ?_⟩⟩
      · refine List.all_eq_true.2 fun q hq => ?_
        rcases List.mem_cons.1 hq with rfl | hq
        · show (_ || !bitB x.un y.j) = true
          rw [h2]; simp
        · exact List.all_eq_true.1 cx q hq
      · rw [ch_comm σ (fun k hk e => a2 k e hk) fun i B i' B' e e' q => by
          subst q; exact disj_spec p2 (hy'.wrs e) (hx.wrs e')]
        exact Run.acc l _ _ _ h fun q hq => by
          simp only [List.mem_cons] at hq ⊢
          rcases hq with h | h | h
          · exact .inr (.inl h)
          · exact .inl h
          · exact .inr (.inr h)
    · have := (mk _ _ cy).1
      simp [Mark.apart] at this
  · have hk : ∃ σ', Run P Y Q (y :: l) ((x.j, none) :: acc) σ' := by
      rcases h with ⟨f, args, ks, r, e1, e2, e3⟩ | ⟨args, e1, e2, e3, e4⟩ | ⟨v, ks, e1, e2⟩
      · exact ⟨_, e3⟩
      · exact ⟨_, e4 true⟩
      · exact ⟨_, e2⟩
    obtain ⟨σ', hk⟩ := hk
    rcases hk.first_chk with ⟨m, hm⟩ | hm
    · have := (mk _ _ hm).1
      simp [Mark.apart] at this
    · have := (mk _ _ hm).1
      simp [Mark.apart] at this
theorem Run.front {y : D} {post : List D} : ∀ (pre : List D) (acc : Acc) (σ : St), Run P Y Q (pre ++ y :: post) acc σ → (∀ x ∈ pre, bitB y.un x.j = true ∧ bitB x.un y.j = false ∧ x.c.Apart y.c) → Run P Y Q (y :: (pre ++ post)) acc σ
  | [], _, _, h, _ => h
  | p :: pre, acc, σ, h, hp => by
    have hp' : ∀ x ∈ pre, bitB y.un x.j = true ∧ bitB x.un y.j = false ∧ x.c.Apart y.c := fun x hx => hp x (by simp [hx])
    obtain ⟨q1, q2, q3⟩ := hp p (by simp)
    refine Run.swap (x := p) ?_ q1 q2 q3
    rcases h with ⟨w, m, h1, h2, h3⟩ | ⟨h2, hw, h3⟩
    · exact .inl ⟨w, m, h1, h2, Run.front pre _ _ h3 hp'⟩
    · refine .inr ⟨h2, hw, ?_⟩
      rcases h3 with ⟨f, args, ks, r, e1, e2, e3⟩ | ⟨args, e1, e2, e3, e4⟩ | ⟨v, ks, e1, e2⟩
      · exact .inl ⟨f, args, ks, r, e1, e2, Run.front pre _ _ e3 hp'⟩
      · exact .inr (.inl ⟨args, e1, e2, e3, fun b => Run.front pre _ _ (e4 b) hp'⟩)
      · exact .inr (.inr ⟨v, ks, e1, Run.front pre _ _ e2 hp'⟩)
theorem kill_len (σ : St) (ks : List Nat) (d : Option Nat) (v : LV) : ((σ.fz ks).put d v).bx.length = σ.bx.length := by
  cases d <;> simp [St.put, St.fz, Bxs.fz]
theorem run_of_wpDs : ∀ (l : List D) (acc : Acc) (σ : St), wpDs P Y Q l acc σ → (∀ x ∈ l, x.c.a.makes = true → x.s < σ.bx.length) → Run P Y Q l acc σ
  | [], _, _, h, _ => h
  | ⟨j, s, un, c⟩ :: l, acc, σ, h, hs => by
    have hs' : ∀ τ : St, τ.bx.length = σ.bx.length → ∀ x ∈ l, x.c.a.makes = true → x.s < τ.bx.length := fun τ ht x hx hm => by rw [ht]; exact hs x (by simp [hx]) hm
    simp only [wpDs] at h
    split at h
    · exact h.elim
    · rename_i hw
      obtain ⟨hc, h⟩ := h
      exact .inl ⟨_, _, .skip hw, hc, run_of_wpDs l _ _ (by rw [put_ch] at h; exact h) (hs' _ (ch_len ..))⟩
    · rename_i hw
      split at h
      · exact h.elim
      · rename_i f args ks he
        obtain ⟨r, hd, h⟩ := h
        rcases h with ⟨hf, hc, h⟩ | ⟨hc, h⟩
        · exact .inl ⟨_, _, .call hw he hd hf, hc, run_of_wpDs l _ _ (by rw [put_ch] at h; exact h) (hs' _ (ch_len ..))⟩
        · exact .inr ⟨hc, hw, .inl ⟨f, args, ks, r, he, hd, run_of_wpDs l _ _ h (hs' _ (kill_len ..))⟩⟩
      · rename_i m args he
        obtain ⟨hc, rfl, e2, e3, h⟩ := h
        exact .inr ⟨hc, hw, .inr (.inl ⟨args, he, e2, e3, fun b => run_of_wpDs l _ _ (h b) (hs' _ (by cases hd : c.dst <;> simp [St.yielded, St.put]))⟩)⟩
      · rename_i v ks he
        obtain ⟨hc, h⟩ := h
        exact .inr ⟨hc, hw, .inr (.inr ⟨v, ks, he, run_of_wpDs l _ _ h (hs' _ (kill_len ..))⟩)⟩
      · rename_i e n1 n2 n3 he
        obtain ⟨hc, h⟩ := h
        have hp : e.plain = true := by
          cases e <;> first | rfl | exact absurd rfl (n1 _ _ _) | exact absurd rfl (n2 _ _) | exact absurd rfl (n3 _ _)
        rw [after_ch he hp c.dst s (fun hm => hs ⟨j, s, un, c⟩ (by simp) hm)] at h
        exact .inl ⟨_, _, .ef hw he hp, hc, run_of_wpDs l _ _ h (hs' _ (ch_len ..))⟩
end
section
variable {P : Program} {r : Option Nat} {L : Link} {Y : Ys} {n : Nat} {ops : Array Oper} {Q : St → Prop}
/-- what is left to do of a region, and its fences -/
structure Left (P : Program) (ops : Array Oper) (bs : List Nat) (listed : Array Bool) (rem : List D) : Prop where
  left : ∀ j, listed.getD j true = false → ∃ x ∈ rem, x.j = j
  un : ∀ x ∈ rem, listed.getD x.j true = false ∧ ∀ i, bitB x.un i = (decide (i < x.j) && !bitB (nthD 0 bs x.j) i)
  op : ∀ x ∈ rem, ∃ o, ops[x.j]? = some o ∧ copC P ops o = some x.c
  sorted : rem.Pairwise fun x y => x.j < y.j
  slots : rem.Pairwise fun x y => x.c.a.makes = true → y.c.a.makes = true → x.s ≠ y.s
  closed : ∀ j, listed.getD j false = true → ∀ i, bitB (nthD 0 bs j) i = true → listed.getD i false = true
  edges : ∀ (j : Nat) (o : Oper), ops[j]? = some o → (∀ e ∈ o.after, Region.binds .any e = true → e.on < j) ∧ ∀ i, bitB (nthD 0 bs j) i = true → ∃ e ∈ o.after, Region.binds .any e = true ∧ (e.on = i ∨ bitB (nthD 0 bs e.on) i = true)
  apart : ∀ x ∈ rem, ∀ y ∈ rem, x.j < y.j → bitB y.un x.j = true → x.c.Apart y.c
  size : listed.size = ops.size
theorem getD_tf {l : Array Bool} {j : Nat} (h : l.getD j false = true) : l.getD j true = true := by
  rw [Array.getD_eq_getD_getElem?] at h ⊢
  cases e : l[j]? with
  | none => rw [e] at h; cases h
  | some b => rw [e] at h; simpa using h
theorem Left.step {bs : List Nat} {listed : Array Bool} {pre post : List D} {y : D} (h : Left P ops bs listed (pre ++ y :: post)) (hy : y.j ∈ Region.ready .any ops listed) :
    (∀ x ∈ pre, bitB y.un x.j = true ∧ bitB x.un y.j = false ∧ x.c.Apart y.c) ∧ Left P ops bs (listed.setIfInBounds y.j true) (pre ++ post) := by
  have hym : y ∈ pre ++ y :: post := by simp
  have sub : ∀ x ∈ pre ++ post, x ∈ pre ++ y :: post := fun x hx => by
    simp only [List.mem_append, List.mem_cons] at hx ⊢
    rcases hx with h | h
    · exact .inl h
    · exact .inr (.inr h)
  obtain ⟨hun, o, ho, hall⟩ := mem_ready.1 hy
  have hlt : y.j < listed.size := by rw [h.size]; exact (Array.getElem?_eq_some_iff.1 ho).1
  have hbs : ∀ i, bitB (nthD 0 bs y.j) i = true → listed.getD i false = true := fun i hi => by
    obtain ⟨e, he, hb, hc⟩ := (h.edges y.j o ho).2 i hi
    have h1 := hall e he hb
    rcases hc with rfl | hc
    · exact h1
    · exact h.closed _ h1 i hc
  have hs := List.pairwise_append.1 h.sorted
  have hne : ∀ x ∈ pre ++ post, x.j ≠ y.j := fun x hx e => by
    rcases List.mem_append.1 hx with hx | hx
    · have := hs.2.2 x hx y (by simp); omega
    · have := (List.pairwise_cons.1 hs.2.1).1 x hx; omega
  refine ⟨fun x hx => ?_, ?_⟩
  · have hxy : x.j < y.j := hs.2.2 x hx y (by simp)
    have hxm : x ∈ pre ++ y :: post := by simp [hx]
    have hin : bitB y.un x.j = true := by
      rw [(h.un y hym).2]
      have : bitB (nthD 0 bs y.j) x.j = false := by
        cases hb : bitB (nthD 0 bs y.j) x.j with
        | false => rfl
        | true =>
          have := getD_tf (hbs _ hb)
          rw [(h.un x hxm).1] at this
          cases this
      simp [hxy, this]
    refine ⟨hin, ?_, h.apart x hxm y hym hxy hin⟩
    rw [(h.un x hxm).2]
    simp; omega
  · refine ⟨fun j hj => ?_, fun x hx => ⟨?_, (h.un x (sub x hx)).2⟩, fun x hx => h.op x (sub x hx), ?_, ?_, fun j hj i hi => ?_, h.edges, fun x hx z hz => h.apart x (sub x hx) z (sub z hz), by simp [h.size]⟩
    · by_cases e : y.j = j
      · subst e
        rw [Array.getD_eq_getD_getElem?, Array.getElem?_setIfInBounds, if_pos rfl, if_pos hlt] at hj
        cases hj
      · rw [getD_set_ne true e] at hj
        obtain ⟨x, hx, rfl⟩ := h.left j hj
        refine ⟨x, ?_, rfl⟩
        simp only [List.mem_append, List.mem_cons] at hx ⊢
        rcases hx with h | rfl | h
        · exact .inl h
        · exact absurd rfl e
        · exact .inr h
    · rw [getD_set_ne true (hne x hx).symm]
      exact (h.un x (sub x hx)).1
    · exact List.pairwise_append.2 ⟨hs.1, (List.pairwise_cons.1 hs.2.1).2, fun a ha b hb => hs.2.2 a ha b (by simp [hb])⟩
    · have ht := List.pairwise_append.1 h.slots
      exact List.pairwise_append.2 ⟨ht.1, (List.pairwise_cons.1 ht.2.1).2, fun a ha b hb => ht.2.2 a ha b (by simp [hb])⟩
    · by_cases e : y.j = j
      · subst e
        exact getD_set_true (hbs i hi)
      · rw [getD_set_ne false e] at hj
        exact getD_set_true (h.closed j hj i hi)
/-- EVERY ORDER -/
theorem run_sound (hY : Yok P r L Y) {bs : List Nat} : ∀ (fuel : Nat) (listed : Array Bool) (rem : List D) (acc : Acc) (σ : St) (a : Act) (W : World), Left P ops bs listed rem → rem.length ≤ fuel → Run P Y Q rem acc σ →
    (∃ E Φ φ al, Rel E Φ φ al σ a W ∧ E.rnd = r ∧ L σ.y σ.stop E ∧ ∀ x ∈ rem, x.c.a.makes = true → ¬ al x.s ∧ x.s < σ.bx.length) →
    wpAnyIn (Wd r) n P .any ops (PostN r L Q) fuel listed a W := by
  have done : ∀ (listed : Array Bool) (rem : List D) (acc : Acc) (σ : St) (a : Act) (W : World), Left P ops bs listed rem → Region.ready .any ops listed = [] → Run P Y Q rem acc σ →
      (∃ E Φ φ al, Rel E Φ φ al σ a W ∧ E.rnd = r ∧ L σ.y σ.stop E ∧ ∀ x ∈ rem, x.c.a.makes = true → ¬ al x.s ∧ x.s < σ.bx.length) → PostN r L Q .normal a W := by
    intro listed rem acc σ a W hl hr hrun hst
    cases rem with
    | nil =>
      obtain ⟨E, Φ, φ, al, h, h1, h2, _⟩ := hst
      exact ⟨rfl, σ, hrun, E, Φ, φ, al, h, h1, h2⟩
    | cons x rem =>
      exfalso
      obtain ⟨o, ho, _⟩ := hl.op x (by simp)
      have : x.j ∈ Region.ready .any ops listed := mem_ready.2 ⟨(hl.un x (by simp)).1, o, ho, fun e he hb => by
        have hlt := (hl.edges x.j o ho).1 e he hb
        cases hd : listed.getD e.on false with
        | true => rfl
        | false =>
          exfalso
          have h2 : listed.getD e.on true = false := by
            have hsz : e.on < listed.size := by
              rw [hl.size]
              have := (Array.getElem?_eq_some_iff.1 ho).1
              omega
            rw [Array.getD_eq_getD_getElem?, Array.getElem?_eq_getElem hsz] at hd ⊢
            exact hd
          obtain ⟨z, hz, hzj⟩ := hl.left _ h2
          rcases List.mem_cons.1 hz with rfl | hz
          · omega
          · have := (List.pairwise_cons.1 hl.sorted).1 z hz
            omega⟩
      rw [hr] at this
      cases this
  intro fuel
  induction fuel with
  | zero =>
    intro listed rem acc σ a W hl hlen hrun hst
    have hrem : rem = [] := List.eq_nil_of_length_eq_zero (by omega)
    have hr : Region.ready .any ops listed = [] := by
      rw [List.eq_nil_iff_forall_not_mem]
      intro j hj
      obtain ⟨x, hx, _⟩ := hl.left j (mem_ready.1 hj).1
      rw [hrem] at hx
      cases hx
    exact ⟨hr, done _ _ _ _ _ _ hl hr hrun hst⟩
  | succ fuel ih =>
    intro listed rem acc σ a W hl hlen hrun hst
    refine ⟨fun hr => done _ _ _ _ _ _ hl hr hrun hst, fun j hj => ?_⟩
    obtain ⟨y, hy, rfl⟩ := hl.left j (mem_ready.1 hj).1
    obtain ⟨pre, post, rfl⟩ := List.append_of_mem hy
    obtain ⟨hpre, hl'⟩ := hl.step hj
    have hfront := Run.front pre acc σ hrun hpre
    obtain ⟨o, ho, hcop⟩ := hl.op y hy
    obtain ⟨E, Φ, φ, al, h, hr, hL, hal⟩ := hst
    obtain ⟨x, hx, hcop⟩ := Option.bind_eq_some_iff.1 hcop
    obtain ⟨g, hg, hcop⟩ := Option.bind_eq_some_iff.1 hcop
    have hc : (⟨o.dst, x, g⟩ : C) = y.c := Option.some.inj hcop
    have hlen' : (pre ++ post).length ≤ fuel := by simp at hlen ⊢; omega
    have hal' : ∀ z ∈ pre ++ post, z.c.a.makes = true → ¬ al z.s ∧ z.s < σ.bx.length := fun z hz hm => hal z (by
      simp only [List.mem_append, List.mem_cons] at hz ⊢
      rcases hz with h | h
      · exact .inl h
      · exact .inr (.inr h)) hm
    have hslot : y.c.a.makes = true → ∀ z ∈ pre ++ post, z.c.a.makes = true → z.s ≠ y.s := fun hm z hz hzm e => by
      have ht := List.pairwise_append.1 hl.slots
      rcases List.mem_append.1 hz with hz | hz
      · exact ht.2.2 z hz y (by simp) hzm hm e
      · exact (List.pairwise_cons.1 ht.2.1).1 z hz hm hzm e.symm
    have hya := hal y hy
    unfold wpOpIn
    simp only [ho]
    have yl : ∀ (τ : St) (d : Option Nat) (v : LV), (τ.put d v).y = τ.y ∧ (τ.put d v).stop = τ.stop := fun τ d v => St.put_y τ d v
    rcases hfront with ⟨w, m, hdet, _, hrun'⟩ | ⟨_, hw, hbar⟩
    · rw [← hc] at hrun'
      generalize hm' : m = m' at hdet
      generalize hw' : w = w' at hdet
      cases hdet with
      | skip hw =>
        subst hw'
        rw [← hc] at hw
        rw [if_neg (by rw [wanted_sim h hg hw]; simp)]
        refine ⟨fun _ _ => trivial, ?_⟩
        have hp := h.put o.dst (.p (.tup [])) undef (.tup [] #[] rfl (by simp))
        rw [← put_ch] at hrun'
        refine ih _ _ _ _ _ _ hl' hlen' hrun' ⟨E, Φ, φ, al, hp, hr, ?_, fun z hz hm => ?_⟩
        · rw [(yl ..).1, (yl ..).2]; exact hL
        · have := hal' z hz hm
          rw [put_ch, ch_len]; exact this
      | call hw he hd hf =>
        rename_i f args ks res
        subst hw'
        rw [← hc] at hw he
        rw [if_pos (wanted_sim h hg hw)]
        rw [← put_ch] at hrun'
        refine step_call h hx he hd fun v Ψ W1 k1 k2 => ?_
        obtain ⟨Ψ', k1⟩ := k1 hf
        refine ih _ _ _ _ _ _ hl' hlen' hrun' ⟨E, Ψ', φ, al, k1, hr, ?_, fun z hz hm => ?_⟩
        · rw [(yl ..).1, (yl ..).2]; exact hL
        · have := hal' z hz hm
          rw [put_ch, ch_len]; exact this
      | ef hw he hp =>
        rename_i e
        subst hw'
        rw [← hc] at hw he
        rw [if_pos (wanted_sim h hg hw)]
        have hnc : e.isCall = false := by cases e <;> first | rfl | cases hp
        have hsm : x.makes = true → y.s < σ.bx.length ∧ ¬ al y.s := fun hm => by
          have := hya (by rw [← hc]; exact hm)
          exact ⟨this.2, this.1⟩
        rw [← after_ch he hp o.dst y.s (fun hm => (hsm hm).1)] at hrun'
        have hlen2 : (σ.after o.dst y.s e).bx.length = σ.bx.length := by
          rw [after_ch he hp o.dst y.s (fun hm => (hsm hm).1), ch_len]
        by_cases hm : x.makes = true
        · refine step_plain h hx he hnc y.s (Nat.le_of_lt (hsm hm).1) (hsm hm).2 fun v Φ' φ' al' W1 k1 k2 => ?_
          refine ih _ _ _ _ _ _ hl' hlen' hrun' ⟨E, Φ', φ', al', k1, hr, ?_, fun z hz hzm => ?_⟩
          · rw [(St.after_y ..).1, (St.after_y ..).2]; exact hL
          · have := hal' z hz hzm
            refine ⟨fun q => ?_, by rw [hlen2]; exact this.2⟩
            rcases k2 _ q with q | q
            · exact this.1 q
            · exact hslot (by rw [← hc]; exact hm) z hz hzm q
        · -- no box is made: any free slot will do
          have hne : ∀ v ty cs, e ≠ .new v ty cs := fun v ty cs q => hm ((eff_kind he).1 v ty cs q)
          have hslot0 : ∀ s, σ.after o.dst y.s e = σ.after o.dst s e := fun s => by
            cases e <;> first | rfl | exact absurd rfl (hne _ _ _)
          rw [hslot0 σ.bx.length] at hrun' hlen2
          refine step_plain h hx he hnc σ.bx.length (Nat.le_refl _) (fun q => Nat.lt_irrefl _ (h.alb _ q)) fun v Φ' φ' al' W1 k1 k2 => ?_
          refine ih _ _ _ _ _ _ hl' hlen' hrun' ⟨E, Φ', φ', al', k1, hr, ?_, fun z hz hzm => ?_⟩
          · rw [(St.after_y ..).1, (St.after_y ..).2]; exact hL
          · have := hal' z hz hzm
            refine ⟨fun q => ?_, by rw [hlen2]; exact this.2⟩
            rcases k2 _ q with q | q
            · exact this.1 q
            · omega
    · rw [← hc] at hw hbar
      rw [if_pos (wanted_sim h hg hw)]
      rcases hbar with ⟨f, args, ks, res, he, hd, hrun'⟩ | ⟨args, he, hst, hy1, hrun'⟩ | ⟨v, ks, he, hrun'⟩
      · refine step_call h hx he hd fun v Ψ W1 k1 k2 => ?_
        refine ih _ _ _ _ _ _ hl' hlen' hrun' ⟨E, Ψ, φ, al, k2, hr, ?_, fun z hz hm => ?_⟩
        · rw [(yl ..).1, (yl ..).2]; exact hL
        · have := hal' z hz hm
          rw [kill_len]; exact this
      · refine step_yld h hx hY hr he hL hst hy1 fun b E' Φ' W1 k1 k2 k3 => ?_
        refine ih _ _ _ _ _ _ hl' hlen' (hrun' b) ⟨E', Φ', φ, al, k1, k2, k3, fun z hz hm => ?_⟩
        have := hal' z hz hm
        have hl3 : (σ.yielded o.dst b).bx.length = σ.bx.length := by cases hd : o.dst <;> simp [St.yielded, St.put]
        rw [hl3]; exact this
      · refine step_plain h hx he rfl σ.bx.length (Nat.le_refl _) (fun q => Nat.lt_irrefl _ (h.alb _ q)) fun u Φ' φ' al' W1 k1 k2 => ?_
        refine ih _ _ _ _ _ _ hl' hlen' hrun' ⟨E, Φ', φ', al', k1, hr, ?_, fun z hz hm => ?_⟩
        · show L (σ.after o.dst σ.bx.length (.fz v ks)).y (σ.after o.dst σ.bx.length (.fz v ks)).stop E
          rw [(St.after_y ..).1, (St.after_y ..).2]; exact hL
        · have := hal' z hz hm
          refine ⟨fun q => ?_, ?_⟩
          · rcases k2 _ q with q | q
            · exact this.1 q
            · omega
          · show z.s < ((σ.fz ks).put o.dst (.p v)).bx.length
            rw [kill_len]; exact this.2
end
section
variable {E : Env} {W : World} {Φ : Known} {φ : Nat → Nat} {al : Nat → Prop} {σ : St} {a : Act} {P : Program} {r : Option Nat} {L : Link} {Y : Ys} {n : Nat} {ops : Array Oper} {Q : St → Prop}
theorem ext_box (bx : Bxs) (n i : Nat) : Bxs.box (bx ++ List.replicate n none) i = Bxs.box bx i := by
  simp only [Bxs.box_eq]
  rw [List.getElem?_append]
  split
  · rfl
  · rename_i h
    rw [show bx[i]? = none from List.getElem?_eq_none (by omega), List.getElem?_replicate]
    split <;> rfl
/-- more is known to be free -/
theorem Rel.ext (h : Rel E Φ φ al σ a W) (n : Nat) : Rel E Φ φ al (σ.ext n) a W := by
  have hb : ∀ i, Bxs.box (σ.ext n).bx i = Bxs.box σ.bx i := fun i => ext_box _ _ _
  have hstep : ∀ v x, RelL W Φ φ al σ.bx v x → RelL W Φ φ al (σ.ext n).bx v x := fun v x hv => hv.step (fun _ _ _ h => h) (fun _ h => h) fun b B' _ hB => ⟨B', (hb b).symm.trans hB, .inr ⟨rfl, rfl, rfl, fun cs hcs => ⟨cs, hcs, rfl⟩⟩⟩
  refine { fram := h.fram, kn := h.kn, from_ := h.from_, new := h.new, row := fun i B hB => ?_, apart := fun i j hi hj e => ?_, dark := fun i hi => ?_, alb := fun i hi => ?_, len := h.len, regs := fun t v hv => hstep v _ (h.regs t v hv), glen := h.glen, gh := fun t v x hv hx => hstep v x (h.gh t v x hv hx), defers := h.defers, dnd := h.dnd, dlive := h.dlive, rnd := h.rnd }
  · rw [hb] at hB
    obtain ⟨r1, r2, cs, r3, r4, r5⟩ := h.row i B hB
    exact ⟨r1, r2, cs, r3, r4, fun j c hc => by
      obtain ⟨x, x1, x2, x3⟩ := r5 j c hc
      exact ⟨x, x1, x2, hstep c x x3⟩⟩
  · rw [hb] at hi hj; exact h.apart i j hi hj e
  · rw [hb] at hi; exact h.dark i hi
  · have := h.alb i hi
    show i < (σ.bx ++ List.replicate n none).length
    simp; omega
theorem Rel.drew (h : Rel E Φ φ al σ a W) : Rel E Φ φ al σ a { W with drawn := W.drawn + 1 } :=
  (h.move (W' := { W with drawn := W.drawn + 1 }) (Φ' := Φ) ⟨rfl, rfl, rfl, Nat.le_refl _⟩ (fun _ _ _ => rfl) (fun _ _ _ h => h) (fun b o u hu => known_of_block (h.kn b o u hu) rfl) (fun _ _ _ h => .inl h)).1
theorem place_spec (un : List Nat) : ∀ (cs : List C) (j s : Nat), (∀ x ∈ place un j s cs, j ≤ x.j ∧ s ≤ x.s ∧ (x.c.a.makes = true → x.s < s + makes cs) ∧ cs[x.j - j]? = some x.c ∧ x.un = nthD 0 un x.j) ∧
    (place un j s cs).Pairwise (fun x y => x.j < y.j) ∧ (place un j s cs).Pairwise (fun x y => x.c.a.makes = true → y.c.a.makes = true → x.s ≠ y.s) ∧ (place un j s cs).length = cs.length ∧ ∀ i, i < cs.length → ∃ x ∈ place un j s cs, x.j = j + i
  | [], j, s => by simp [place]
  | c :: cs, j, s => by
    obtain ⟨h1, h2, h3, h4, h5⟩ := place_spec un cs (j + 1) (if c.a.makes then s + 1 else s)
    simp only [place]
    have hm : ∀ x ∈ place un (j + 1) (if c.a.makes then s + 1 else s) cs, (if c.a.makes then s + 1 else s) ≤ x.s := fun x hx => (h1 x hx).2.1
    refine ⟨fun x hx => ?_, List.pairwise_cons.2 ⟨fun x hx => ?_, h2⟩, List.pairwise_cons.2 ⟨fun x hx hc _ => ?_, h3⟩, by simp [h4], fun i hi => ?_⟩
    · rcases List.mem_cons.1 hx with rfl | hx
      · refine ⟨Nat.le_refl _, Nat.le_refl _, fun hm => ?_, by simp, rfl⟩
        simp only at hm ⊢
        simp [makes, hm]; omega
      · obtain ⟨a1, a2, a3, a4, a5⟩ := h1 x hx
        refine ⟨by omega, ?_, fun hm => ?_, ?_, a5⟩
        · split at a2 <;> omega
        · have := a3 hm
          simp only [makes]
          split at this
          · rename_i hc; simp [hc]; omega
          · rename_i hc; simp [hc]; omega
        · rw [show x.j - j = (x.j - (j + 1)) + 1 by omega, List.getElem?_cons_succ]
          exact a4
    · have := (h1 x hx).1
      show j < x.j
      omega
    · have := hm x hx
      simp only at hc
      simp only [hc, if_true] at this
      show s ≠ x.s
      omega
    · cases i with
      | zero => exact ⟨⟨j, s, nthD 0 un j, c⟩, by simp, rfl⟩
      | succ i =>
        obtain ⟨x, hx, hj⟩ := h5 i (by simpa using hi)
        exact ⟨x, by simp [hx], by omega⟩
theorem fold_befs : ∀ (l : List Oper) (acc : List Nat), ∃ rest : List Nat, l.foldl (fun acc o => acc ++ [maskOf acc o]) acc = acc ++ rest ∧ rest.length = l.length ∧ ∀ (i : Nat) (o : Oper), l[i]? = some o → nthD 0 (acc ++ rest) (acc.length + i) = maskOf ((acc ++ rest).take (acc.length + i)) o
  | [], acc => ⟨[], by simp, rfl, by simp⟩
  | o :: l, acc => by
    obtain ⟨rest, h1, h2, h3⟩ := fold_befs l (acc ++ [maskOf acc o])
    refine ⟨maskOf acc o :: rest, ?_, by simp [h2], fun i o' hi => ?_⟩
    · rw [List.foldl_cons, h1, List.append_assoc]; rfl
    · have e : acc ++ [maskOf acc o] ++ rest = acc ++ maskOf acc o :: rest := by simp
      rw [e] at h3
      cases i with
      | zero =>
        cases hi
        rw [nthD_eq, List.getD_eq_getElem?_getD, Nat.add_zero, List.getElem?_append_right (Nat.le_refl _), Nat.sub_self, List.take_left']
        · rfl
        · rfl
      | succ i =>
        have := h3 i o' (by simpa using hi)
        simp only [List.length_append, List.length_cons, List.length_nil] at this
        rw [show acc.length + (i + 1) = acc.length + (0 + 1) + i by omega]
        exact this
theorem mask_bit {acc : List Nat} {o : Oper} {i : Nat} (h : bitB (maskOf acc o) i = true) : ∃ e ∈ o.after, Region.binds .any e = true ∧ (e.on = i ∨ bitB (nthD 0 acc e.on) i = true) := by
  unfold maskOf at h
  have go : ∀ (l : List Edge) (s : Nat), bitB (l.foldl (fun s e => if Region.binds .any e then Nat.lor (Nat.lor s (2 ^ e.on)) (nthD 0 acc e.on) else s) s) i = true → bitB s i = true ∨ ∃ e ∈ l, Region.binds .any e = true ∧ (e.on = i ∨ bitB (nthD 0 acc e.on) i = true) := by
    intro l
    induction l with
    | nil => intro s h; exact .inl h
    | cons e l ih =>
      intro s h
      rw [List.foldl_cons] at h
      rcases ih _ h with h | ⟨e', he', h⟩
      · split at h
        · rename_i hb
          rw [bitB_eq] at h
          have h : ((s ||| 2 ^ e.on) ||| nthD 0 acc e.on).testBit i = true := h
          rw [Nat.testBit_or, Nat.testBit_or, Bool.or_eq_true, Bool.or_eq_true] at h
          rcases h with (h | h) | h
          · exact .inl (by rw [bitB_eq]; exact h)
          · refine .inr ⟨e, by simp, hb, .inl ?_⟩
            rw [Nat.testBit_two_pow] at h
            simpa using h
          · exact .inr ⟨e, by simp, hb, .inr (by rw [bitB_eq]; exact h)⟩
        · exact .inl h
      · exact .inr ⟨e', by simp [he'], h⟩
  rcases go _ 0 h with h | ⟨e, he, h⟩
  · rw [bitB_eq, Nat.zero_testBit] at h; cases h
  · exact ⟨e, by simpa using he, h⟩
theorem mem_writers : ∀ (cs : List C) (j i : Nat) (c : C) (d : Nat), cs[i]? = some c → c.dst = some d → (d, j + i) ∈ writers j cs
  | [], j, i, c, d, h, _ => by simp at h
  | c' :: cs, j, 0, c, d, h, hd => by cases h; simp [writers, hd]
  | c' :: cs, j, i + 1, c, d, h, hd => by
    have := mem_writers cs (j + 1) i c d (by simpa using h) hd
    rw [show j + (i + 1) = j + 1 + i by omega]
    unfold writers
    split
    · exact List.mem_cons_of_mem _ this
    · exact this
theorem checkL_get {ws : List (Nat × Nat)} {bs : List Nat} : ∀ (l : List Oper) (cs : List C) (j : Nat), checkL ws bs j l cs = true → ∀ (i : Nat) (o : Oper) (c : C), l[i]? = some o → cs[i]? = some c → checkO ws bs (j + i) o c = true
  | [], _, _, _, i, o, c, h, _ => by simp at h
  | _ :: _, [], _, _, i, o, c, _, h => by simp at h
  | o' :: l, c' :: cs, j, hk, i, o, c, h1, h2 => by
    simp only [checkL, Bool.and_eq_true] at hk
    cases i with
    | zero => cases h1; cases h2; exact hk.1
    | succ i =>
      have := checkL_get l cs (j + 1) hk.2 i o c (by simpa using h1) (by simpa using h2)
      rwa [show j + (i + 1) = j + 1 + i by omega]
theorem ord_spec {ws : List (Nat × Nat)} {bs : List Nat} {j t i : Nat} (h : ordB ws bs j t = true) (hm : (t, i) ∈ ws) : i = j ∨ bitB (nthD 0 bs j) i = true ∨ bitB (nthD 0 bs i) j = true := by
  have := List.all_eq_true.1 h (t, i) hm
  simp only [Bool.or_eq_true, Bool.not_eq_true'] at this
  rcases this with ((this | this) | this) | this
  · have h2 : Nat.beq t t = true := Nat.beq_refl t
    rw [h2] at this; cases this
  · exact .inl (Nat.eq_of_beq_eq_true this)
  · exact .inr (.inl this)
  · exact .inr (.inr this)
theorem bit_lt {m j i : Nat} (h : m < 2 ^ j) (hb : bitB m i = true) : i < j := by
  rw [bitB_eq] at hb
  rcases Nat.lt_or_ge i j with hl | hl
  · exact hl
  · rw [Nat.testBit_lt_two_pow (Nat.lt_of_lt_of_le h (Nat.pow_le_pow_right (by omega) hl))] at hb
    cases hb
theorem left_of_check {cs : List C} (hc : ops.toList.mapM (copC P ops) = some cs) (hk : checkD ops cs (befs ops) = true) (s : Nat) : Left P ops (befs ops) (Array.replicate ops.size false) (place (uns ops.size (befs ops)) 0 s cs) := by
  obtain ⟨l1, g1⟩ := mapM_get hc
  obtain ⟨h1, h2, h3, h4, h5⟩ := place_spec (uns ops.size (befs ops)) cs 0 s
  have hl : cs.length = ops.size := by simpa using l1
  have hbe : ∀ (j : Nat) (o : Oper), ops[j]? = some o → nthD 0 (befs ops) j = maskOf ((befs ops).take j) o := fun j o ho => by
    obtain ⟨rest, e1, _, e3⟩ := fold_befs ops.toList []
    have : befs ops = rest := by unfold befs; rw [e1]; rfl
    have h := e3 j o (by rw [Array.getElem?_toList]; exact ho)
    simp only [List.nil_append, List.length_nil, Nat.zero_add] at h
    rw [this]; exact h
  have chk : ∀ (j : Nat) (o : Oper) (c : C), ops[j]? = some o → cs[j]? = some c → (∀ e ∈ o.after, Region.binds .any e = true → e.on < j) ∧ nthD 0 (befs ops) j < 2 ^ j ∧ (∀ t ∈ c.looks, ordB (writers 0 cs) (befs ops) j t = true) ∧ ∀ d, c.dst = some d → ordB (writers 0 cs) (befs ops) j d = true := fun j o c ho hcj => by
    have := checkL_get ops.toList cs 0 hk j o c (by rw [Array.getElem?_toList]; exact ho) hcj
    rw [Nat.zero_add] at this
    unfold checkO at this
    simp only [Bool.and_eq_true] at this
    obtain ⟨⟨⟨t1, t2⟩, t3⟩, t4⟩ := this
    refine ⟨fun e he hb => ?_, Nat.le_of_ble_eq_true t2, fun t ht => List.all_eq_true.1 t3 t ht, fun d hd => ?_⟩
    · have := Array.all_eq_true_iff_forall_mem.1 t1 e he
      rw [hb] at this
      simp only [Bool.not_true, Bool.false_or] at this
      exact Nat.le_of_ble_eq_true this
    · rw [hd] at t4; exact t4
  have hop : ∀ x ∈ place (uns ops.size (befs ops)) 0 s cs, ∃ o, ops[x.j]? = some o ∧ copC P ops o = some x.c ∧ cs[x.j]? = some x.c := fun x hx => by
    obtain ⟨_, _, _, a4, _⟩ := h1 x hx
    simp only [Nat.sub_zero] at a4
    have hj : x.j < ops.size := by rw [← hl]; exact (List.getElem?_eq_some_iff.1 a4).1
    obtain ⟨c, c1, c2⟩ := g1 x.j ops[x.j] (by rw [Array.getElem?_toList]; exact Array.getElem?_eq_getElem hj)
    rw [a4] at c2
    cases c2
    exact ⟨_, Array.getElem?_eq_getElem hj, c1, a4⟩
  have hun : ∀ x ∈ place (uns ops.size (befs ops)) 0 s cs, ∀ i, bitB x.un i = (decide (i < x.j) && !bitB (nthD 0 (befs ops) x.j) i) := fun x hx i => by
    obtain ⟨o, ho, _, hcx⟩ := hop x hx
    have hj : x.j < ops.size := (Array.getElem?_eq_some_iff.1 ho).1
    have hlt := (chk x.j o x.c ho hcx).2.1
    rw [(h1 x hx).2.2.2.2]
    have e : nthD 0 (uns ops.size (befs ops)) x.j = Nat.xor (2 ^ x.j - 1) (nthD 0 (befs ops) x.j) := by
      unfold uns
      rw [nthD_eq, List.getD_eq_getElem?_getD, List.getElem?_map, List.getElem?_range hj]
      rfl
    rw [e, bitB_eq]
    have e2 : (Nat.xor (2 ^ x.j - 1) (nthD 0 (befs ops) x.j)).testBit i = ((2 ^ x.j - 1).testBit i ^^ (nthD 0 (befs ops) x.j).testBit i) := Nat.testBit_xor ..
    rw [e2, Nat.testBit_two_pow_sub_one, bitB_eq]
    by_cases hi : i < x.j
    · simp [hi]
    · have : (nthD 0 (befs ops) x.j).testBit i = false := by
        cases hb : (nthD 0 (befs ops) x.j).testBit i with
        | false => rfl
        | true => exact absurd (bit_lt hlt (by rw [bitB_eq]; exact hb)) hi
      simp [hi, this]
  refine ⟨fun j hj => ?_, fun x hx => ⟨?_, hun x hx⟩, fun x hx => ?_, h2, h3, fun j hj => ?_, fun j o ho => ?_, fun x hx y hy hlt hin => ?_, by simp⟩
  · have hj' : j < cs.length := by
      rcases Nat.lt_or_ge j cs.length with h | h
      · exact h
      · rw [Array.getD_eq_getD_getElem?, Array.getElem?_eq_none (by simp; omega)] at hj
        cases hj
    obtain ⟨x, hx, e⟩ := h5 j hj'
    exact ⟨x, hx, by omega⟩
  · obtain ⟨o, ho, _⟩ := hop x hx
    have hj : x.j < ops.size := (Array.getElem?_eq_some_iff.1 ho).1
    rw [Array.getD_eq_getD_getElem?, Array.getElem?_replicate, if_pos hj]
    rfl
  · obtain ⟨o, ho, h, _⟩ := hop x hx
    exact ⟨o, ho, h⟩
  · rw [Array.getD_eq_getD_getElem?, Array.getElem?_replicate] at hj
    split at hj <;> cases hj
  · have hj : j < ops.size := (Array.getElem?_eq_some_iff.1 ho).1
    have hcj : cs[j]? = some cs[j] := List.getElem?_eq_getElem (by omega)
    obtain ⟨k1, _⟩ := chk j o _ ho hcj
    refine ⟨k1, fun i hi => ?_⟩
    rw [hbe j o ho] at hi
    obtain ⟨e, he, hb, hc'⟩ := mask_bit hi
    refine ⟨e, he, hb, hc'.imp_right fun hc' => ?_⟩
    have hlt := k1 e he hb
    rw [nthD_eq, List.getD_eq_getElem?_getD] at hc' ⊢
    rw [List.getElem?_take, if_pos hlt] at hc'
    exact hc'
  · obtain ⟨o, ho, _, hcy⟩ := hop y hy
    obtain ⟨o', ho', _, hcx⟩ := hop x hx
    rw [hun y hy] at hin
    simp only [Bool.and_eq_true, Bool.not_eq_true'] at hin
    have n1 : bitB (nthD 0 (befs ops) y.j) x.j = false := hin.2
    obtain ⟨_, _, ly, dy⟩ := chk y.j o _ ho hcy
    obtain ⟨_, bx, lx, dx⟩ := chk x.j o' _ ho' hcx
    have n2 : bitB (nthD 0 (befs ops) x.j) y.j = true → False := fun hb => by have := bit_lt bx hb; omega
    have wr : ∀ (i : Nat) (c : C) (d : Nat), cs[i]? = some c → c.dst = some d → (d, i) ∈ writers 0 cs := fun i c d h1 h2 => by
      have := mem_writers cs 0 i c d h1 h2
      rwa [Nat.zero_add] at this
    refine ⟨fun d hd hlook => ?_, fun d hd hd' => ?_, fun d hd hlook => ?_⟩
    · rcases ord_spec (ly d hlook) (wr _ _ _ hcx hd) with h | h | h
      · omega
      · rw [n1] at h; cases h
      · exact n2 h
    · rcases ord_spec (dy d hd') (wr _ _ _ hcx hd) with h | h | h
      · omega
      · rw [n1] at h; cases h
      · exact n2 h
    · rcases ord_spec (lx d hlook) (wr _ _ _ hcy hd) with h | h | h
      · omega
      · exact n2 h
      · rw [n1] at h; cases h
/-- A REGION THAT DRAWS. -/
theorem wpDs_sound (hm : P.follows .mixedOrders = true) (hY : Yok P r L Y) {id : Nat} {cs : List C} (hc : ops.toList.mapM (copC P ops) = some cs) (hk : checkD ops cs (befs ops) = true)
    (hq : wpDs P Y Q (place (uns ops.size (befs ops)) 0 σ.bx.length cs) [] (σ.ext (makes cs))) (hs : Stands r L σ a W) : (Code.region id ops true).wpIn (Wd r) n P (PostN r L Q) a W := by
  obtain ⟨E, Φ, φ, al, h, hr, hL⟩ := hs
  obtain ⟨h1, h2, h3, h4, h5⟩ := place_spec (uns ops.size (befs ops)) cs 0 σ.bx.length
  have hslot : ∀ x ∈ place (uns ops.size (befs ops)) 0 σ.bx.length cs, x.c.a.makes = true → x.s < (σ.ext (makes cs)).bx.length := fun x hx hmk => by
    have := (h1 x hx).2.2.1 hmk
    show x.s < (σ.bx ++ List.replicate (makes cs) none).length
    simpa using this
  refine wpIn_region_any hm (run_sound hY ops.size _ _ _ (σ.ext (makes cs)) _ _ (left_of_check hc hk σ.bx.length) ?_ (run_of_wpDs _ _ _ hq hslot) ⟨E, Φ, φ, al, (h.ext _).drew, hr, hL, fun x hx hmk => ⟨fun q => ?_, hslot x hx hmk⟩⟩)
  · rw [h4]
    have := (mapM_get hc).1
    simp at this; omega
  · have := h.alb _ q
    have := (h1 x hx).2.1
    omega
end
end
end Go.Proofs.Ytcamoojddlpbgaa.V
