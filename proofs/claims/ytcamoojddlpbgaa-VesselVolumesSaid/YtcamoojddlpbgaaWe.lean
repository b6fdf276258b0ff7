import Derived.Test.YtcamoojddlpbgaaWd
namespace Go.Proofs.Ytcamoojddlpbgaa.V
set_option linter.unusedVariables false
set_option linter.unusedSimpArgs false
open Go.RowKit
noncomputable section
/-! ### Code, whole -/
def LV.ren (bx : Bxs) (ρ : List Nat) : LV → LV
  | .bp b st off => match Bxs.box bx b, ρ.idxOf? b with
    | some B, some i => if B.st = st then .bp i 0 off else .p .any
    | _, _ => .p .any
  | .bs b st n z g => match Bxs.box bx b, ρ.idxOf? b with
    | some B, some i => if B.st = st then .bs i 0 n z g else .p .any
    | _, _ => .p .any
  | v => v
def Box.ren (bx : Bxs) (ρ : List Nat) (B : Box) : Box := ⟨0, B.ty, B.cells.map (LV.ren bx ρ)⟩
def Bxs.ren (bx : Bxs) (ρ : List Nat) : Bxs := ρ.map fun b => (Bxs.box bx b).map (Box.ren bx ρ)
def mapR (keep : List Nat) (g : LV → LV) : Nat → List LV → List LV
  | _, [] => []
  | i, v :: l => (if memB i keep then g v else .p .any) :: mapR keep g (i + 1) l
theorem mapR_len (keep : List Nat) (g : LV → LV) : ∀ (l : List LV) (i : Nat), (mapR keep g i l).length = l.length
  | [], _ => rfl
  | v :: l, i => by simp [mapR, mapR_len keep g l]
theorem mapR_get (keep : List Nat) (g : LV → LV) : ∀ (l : List LV) (i t : Nat), (mapR keep g i l)[t]? = (l[t]?).map fun v => if memB (i + t) keep then g v else .p .any
  | [], _, _ => by simp [mapR]
  | v :: l, i, 0 => by simp [mapR]
  | v :: l, i, t + 1 => by
    simp only [mapR, List.getElem?_cons_succ]
    rw [mapR_get keep g l (i + 1) t, show i + 1 + t = i + (t + 1) by omega]
def keepR (keep : Option (List Nat)) (g : LV → LV) (l : List LV) : List LV := match keep with
  | none => l.map g
  | some ks => mapR ks g 0 l
/-- less is known: some registers, and the boxes of ρ under new numbers -/
def St.ren (σ : St) (keep : Option (List Nat)) (ρ : List Nat) : St := ⟨keepR keep (LV.ren σ.bx ρ) σ.regs, σ.gh.map (LV.ren σ.bx ρ), Bxs.ren σ.bx ρ, σ.y, σ.stop⟩
section
variable {E : Env} {W : World} {Φ : Known} {φ : Nat → Nat} {al : Nat → Prop} {σ τ : St} {a : Act} {P : Program}
theorem Bxs.box_ren (bx : Bxs) (ρ : List Nat) (i : Nat) : Bxs.box (Bxs.ren bx ρ) i = match ρ[i]? with
    | some b => (Bxs.box bx b).map (Box.ren bx ρ)
    | none => none := by
  conv => lhs; rw [Bxs.box_eq]
  unfold Bxs.ren
  rw [List.getElem?_map]
  cases ρ[i]? <;> rfl
theorem idx_get {ρ : List Nat} {b i : Nat} (h : ρ.idxOf? b = some i) : ρ[i]? = some b := by
  rw [List.idxOf?_eq_some_iff] at h
  obtain ⟨hi, h1, _⟩ := h
  rw [List.getElem?_eq_getElem hi]
  simpa using h1
theorem Rel.ren (h : Rel E Φ φ al σ a W) (keep : Option (List Nat)) (ρ : List Nat) (hn : ρ.Nodup) : Rel E Φ (fun i => φ (ρ.getD i 0)) (fun i => i < ρ.length) (σ.ren keep ρ) a W := by
  have hbox : ∀ {i B}, Bxs.box (Bxs.ren σ.bx ρ) i = some B → i < ρ.length ∧ ∃ B0, Bxs.box σ.bx (ρ.getD i 0) = some B0 ∧ B = Box.ren σ.bx ρ B0 := fun {i B} hB => by
    rw [Bxs.box_ren] at hB
    split at hB
    · rename_i b hb
      obtain ⟨B0, h1, h2⟩ := Option.map_eq_some_iff.1 hB
      refine ⟨(List.getElem?_eq_some_iff.1 hb).1, B0, ?_, h2.symm⟩
      rw [List.getD_eq_getElem?_getD, hb]
      exact h1
    · cases hB
  have hlive : ∀ {i}, (Bxs.box (Bxs.ren σ.bx ρ) i).isSome → i < ρ.length ∧ (Bxs.box σ.bx (ρ.getD i 0)).isSome := fun {i} hi => by
    obtain ⟨B, hB⟩ := Option.isSome_iff_exists.1 hi
    obtain ⟨h1, B0, h2, _⟩ := hbox hB
    exact ⟨h1, by rw [h2]; rfl⟩
  have hstep : ∀ v x, RelL W Φ φ al σ.bx v x → RelL W Φ (fun i => φ (ρ.getD i 0)) (fun i => i < ρ.length) (Bxs.ren σ.bx ρ) (LV.ren σ.bx ρ v) x := fun v x hv => by
    cases v with
    | p v => exact hv
    | yl l => exact hv
    | bp b st off =>
      simp only [LV.ren]
      split
      · rename_i B i e1 e2
        have hg := idx_get e2
        have hd : ρ.getD i 0 = b := by rw [List.getD_eq_getElem?_getD, hg]; rfl
        split
        · rename_i hst
          refine ⟨(List.getElem?_eq_some_iff.1 hg).1, hv.2.1, fun B' hB' => ?_⟩
          obtain ⟨_, B0, h1, rfl⟩ := hbox hB'
          rw [hd] at h1
          simp only [hd]
          rw [e1] at h1
          cases h1
          exact ⟨Nat.le_refl _, fun _ => (hv.2.2 B e1).2 hst.symm⟩
        · exact Rd.any _
      · exact Rd.any _
    | bs b st n z g =>
      simp only [LV.ren]
      split
      · rename_i B i e1 e2
        have hg := idx_get e2
        have hd : ρ.getD i 0 = b := by rw [List.getD_eq_getElem?_getD, hg]; rfl
        split
        · rename_i hst
          refine ⟨(List.getElem?_eq_some_iff.1 hg).1, hv.2.1, fun B' hB' => ?_⟩
          obtain ⟨_, B0, h1, rfl⟩ := hbox hB'
          rw [hd] at h1
          simp only [hd]
          rw [e1] at h1
          cases h1
          exact ⟨Nat.le_refl _, fun _ => (hv.2.2 B e1).2 hst.symm⟩
        · exact Rd.any _
      · exact Rd.any _
  refine { fram := h.fram, kn := h.kn, from_ := h.from_, new := h.new, row := fun i B hB => ?_, apart := fun i j hi hj e => ?_, dark := fun i hi => h.dark _ (hlive hi).2, alb := fun i hi => by simpa [St.ren, Bxs.ren] using hi, len := by cases keep <;> simp [St.ren, keepR, h.len, mapR_len], regs := fun t v hv => ?_, glen := by simp [St.ren, h.glen], gh := fun t v x hv hx => ?_, defers := h.defers, dnd := h.dnd, dlive := h.dlive, rnd := h.rnd }
  · obtain ⟨h1, B0, h2, rfl⟩ := hbox hB
    obtain ⟨r1, r2, cs, r3, r4, r5⟩ := h.row _ B0 h2
    refine ⟨h1, r2, cs, r3, by simpa [Box.ren] using r4, fun j c hc => ?_⟩
    simp only [Box.ren, List.getElem?_map, Option.map_eq_some_iff] at hc
    obtain ⟨c0, hc, rfl⟩ := hc
    obtain ⟨x, x1, x2, x3⟩ := r5 j c0 hc
    exact ⟨x, x1, x2, hstep _ _ x3⟩
  · obtain ⟨i1, i2⟩ := hlive hi
    obtain ⟨j1, j2⟩ := hlive hj
    have := h.apart _ _ i2 j2 e
    simp only [List.getD_eq_getElem?_getD, List.getElem?_eq_getElem i1, List.getElem?_eq_getElem j1, Option.getD_some] at this
    have hp := List.pairwise_iff_getElem.1 hn
    rcases Nat.lt_trichotomy i j with hlt | heq | hlt
    · exact absurd this (hp i j i1 j1 hlt)
    · exact heq
    · exact absurd this.symm (hp j i j1 i1 hlt)
  · cases keep with
    | none =>
      simp only [St.ren, keepR, List.getElem?_map, Option.map_eq_some_iff] at hv
      obtain ⟨v0, hv, rfl⟩ := hv
      exact hstep _ _ (h.regs t v0 hv)
    | some l =>
      simp only [St.ren, keepR, mapR_get, Option.map_eq_some_iff] at hv
      obtain ⟨v0, hv, rfl⟩ := hv
      split
      · exact hstep _ _ (h.regs t v0 hv)
      · exact Rd.any _
  · simp only [St.ren, List.getElem?_map, Option.map_eq_some_iff] at hv
    obtain ⟨v0, hv, rfl⟩ := hv
    exact hstep _ _ (h.gh t v0 x hv hx)
end
/-- An iterator, by what it yields: whoever ranges over it has an invariant J (O: the blocks of the iterator's own), and Jx for where it has told it to stop. -/
def Iter (P : Program) (g : FuncId) (first caps : List PV) (xs : List (List PV)) : Prop := GoodF P g ∧
  ∀ (w : World) (Φ : Known) (fs ys : Array Value), (∀ b o u, Φ b o u → known w b o u) → fs.size = first.length → ys.size = caps.length →
    (∀ (i : Nat) (c : PV) (x : Value), first[i]? = some c → fs[i]? = some x → Rd Φ c x) → (∀ (i : Nat) (c : PV) (x : Value), caps[i]? = some c → ys[i]? = some x → Rd Φ c x) →
    ∀ (l : Nat) (J : Nat → (Nat → Prop) → World → Prop) (Jx : (Nat → Prop) → World → Prop), J 0 (fun _ => False) w →
      (∀ i O O' W W', J i O W → Same W W' → (∀ k, k < W.heap.size → ¬ O k → W'.heap[k]? = W.heap[k]?) → (∀ k, O k → O' k) → (∀ k, O' k → (O k ∨ W.heap.size ≤ k) ∧ k < W'.heap.size) → J i O' W') →
      (∀ O O' W W', Jx O W → Same W W' → (∀ k, k < W.heap.size → ¬ O k → W'.heap[k]? = W.heap[k]?) → (∀ k, O k → O' k) → (∀ k, O' k → (O k ∨ W.heap.size ≤ k) ∧ k < W'.heap.size) → Jx O' W') →
      (∀ i O W args vs, J i O W → xs[i]? = some args → vs.size = args.length → (∀ (Ψ : Known) (i : Nat) (c : PV) (x : Value), args[i]? = some c → vs[i]? = some x → Rd Ψ c x) →
        ∃ fn tmps assign body, (Instr.yield l vs).run P W = .ok (.round l fn tmps assign body) W ∧ RoundIn Fence.wide 0 P l fn tmps assign body W fun e W' => ∃ b, e = .returned (.bool b) ∧
          Same W W' ∧ (∀ k, O k → W'.heap[k]? = W.heap[k]?) ∧ (∀ b o u, Φ b o u → known W' b o u) ∧ (b = true → J (i + 1) O W') ∧ (b = false → Jx O W')) →
      Calls P g (fs ++ #[.func (.yield l) #[] #[]] ++ ys) w fun e W' => ∃ x O, e = .returned x ∧ (J xs.length O W' ∨ Jx O W')
def setPs (regs : List LV) (ps : List Nat) (args : List PV) : List LV := (ps.zip args).foldl (fun l (q : Nat × PV) => setN l q.1 (.p q.2)) regs
/-- a round begins; it is over -/
def St.round (σ : St) (ps : List Nat) (args : List PV) : St := { σ with regs := setPs σ.regs ps args, gh := σ.gh ++ σ.regs }
def St.back (τ τ' : St) : St := { regs := τ'.gh.drop τ.gh.length, gh := τ'.gh.take τ.gh.length, bx := τ'.bx, y := τ.y, stop := τ.stop }
def Ex.next (next : St → Prop) (Q : Ex → St → Prop) : Ex → St → Prop
  | .normal, σ => next σ
  | e, σ => Q e σ
def Ex.inB (id : Nat) (Q : Ex → St → Prop) : Ex → St → Prop
  | .exit id', σ => if id' = id then Q .normal σ else Q (.exit id') σ
  | e, σ => Q e σ
def wpK (P : Program) : Ys → K → (Ex → St → Prop) → St → Prop
  | _, .skip, Q, σ => Q .normal σ
  | Y, .reg cs, Q, σ => wpCs P Y (Q .normal) cs σ
  | Y, .regd cs un, Q, σ => wpDs P Y (Q .normal) (place un 0 σ.bx.length cs) [] (σ.ext (makes cs))
  | Y, .seq x y, Q, σ => wpK P Y x (Ex.next (wpK P Y y Q) Q) σ
  | Y, .cond c x y, Q, σ => match σ.get c with
    | .p (.bool b) => (b = true → wpK P Y x Q σ) ∧ (b = false → wpK P Y y Q σ)
    | _ => False
  | Y, .block id b, Q, σ => wpK P Y b (Ex.inB id Q) σ
  | Y, .loop b, Q, σ => ∃ (I : St → Prop) (μ : St → Nat), (∃ (keep : Option (List Nat)) (ρ : List Nat), ρ.Nodup ∧ I (σ.ren keep ρ)) ∧
      ∀ σ, I σ → wpK P Y b (Ex.next (fun σ' => ∃ (keep : Option (List Nat)) (ρ : List Nat), ρ.Nodup ∧ I (σ'.ren keep ρ) ∧ μ (σ'.ren keep ρ) < μ σ) Q) σ
  | _, .rfor f ps x b, Q, σ => match σ.get f with
    | .p (.fn g first caps) => ∃ xs, Iter P g first caps xs ∧ ∃ (I : Nat → St → Prop), (∃ (keep : Option (List Nat)) (ρ : List Nat), ρ.Nodup ∧ I 0 (σ.ren keep ρ)) ∧
        (∀ i args τ, xs[i]? = some args → I i τ → args.length = ps.length ∧ wpK P ⟨0, []⟩ x (Ex.next (wpK P ⟨0, []⟩ b (Ex.next (fun τ' => ∃ (keep : Option (List Nat)) (ρ : List Nat), ρ.Nodup ∧ I (i + 1) ((τ.back τ').ren keep ρ)) fun e τ' => Q e (τ.back τ'))) fun _ _ => False) (τ.round ps args)) ∧
        ∀ τ, I xs.length τ → Q .normal τ
    | _ => False
  | _, .exit id, Q, σ => Q (.exit id) σ
  | _, .ret, Q, σ => Q .ret σ
theorem least_ex {p : Nat → Prop} (h : ∃ n, p n) : ∃ m, p m ∧ ∀ k, p k → m ≤ k := by
  obtain ⟨n, hn⟩ := h
  induction n using Nat.strongRecOn with
  | _ n ih =>
    by_cases hh : ∃ k, k < n ∧ p k
    · obtain ⟨k, hk, hp⟩ := hh
      exact ih k hk hp
    · exact ⟨n, hn, fun k hk => Nat.le_of_not_lt fun hlt => hh ⟨k, hlt, hk⟩⟩
/-- what is asked of the machine's state, by what is asked of ours -/
def Post (r : Option Nat) (L : Link) (Q : Ex → St → Prop) : Exit → Act → World → Prop := fun e a W => ∃ x σ, e = Ex.to x ∧ Q x σ ∧ Stands r L σ a W
section
variable {E : Env} {W : World} {Φ : Known} {φ : Nat → Nat} {al : Nat → Prop} {σ τ : St} {a : Act} {P : Program} {r : Option Nat} {L : Link} {Y : Ys} {n : Nat}
theorem Stands.ren (h : Stands r L σ a W) (keep : Option (List Nat)) (ρ : List Nat) (hn : ρ.Nodup) : Stands r L (σ.ren keep ρ) a W := by
  obtain ⟨E, Φ, φ, al, h, h1, h2⟩ := h
  exact ⟨E, Φ, _, _, h.ren keep ρ hn, h1, h2⟩
theorem setPs_len (ps : List Nat) (args : List PV) : ∀ regs : List LV, (setPs regs ps args).length = regs.length := by
  unfold setPs
  induction ps.zip args with
  | nil => intro _; rfl
  | cons q l ih => intro regs; rw [List.foldl_cons, ih]; simp [setN_eq]
/-- the parameters of a round take what is yielded -/
theorem Rel.params : ∀ (ps : List Nat) (args : List PV) (vs : List Value) (σ : St) (a : Act), Rel E Φ φ al σ a W → args.length = vs.length → (∀ (i : Nat) (c : PV) (x : Value), args[i]? = some c → vs[i]? = some x → Rd Φ c x) →
    Rel E Φ φ al { σ with regs := setPs σ.regs ps args } { a with tmps := (ps.zip vs).foldl (fun t (p, v) => t.setIfInBounds p v) a.tmps } W
  | [], args, vs, σ, a, h, _, _ => by simpa [setPs] using h
  | p :: ps, [], [], σ, a, h, _, _ => by simpa [setPs] using h
  | p :: ps, c :: args, v :: vs, σ, a, h, hl, hr => Rel.params ps args vs _ _ (h.put (some p) (.p c) v (hr 0 c v rfl rfl)) (by simpa using hl) fun i c x hc hx => hr (i + 1) c x (by simpa using hc) (by simpa using hx)
  | _ :: _, [], _ :: _, _, _, _, hl, _ => by simp at hl
  | _ :: _, _ :: _, [], _, _, _, hl, _ => by simp at hl
theorem putObj_same (W : World) (l : Nat) (o : Obj) : Same W (W.putObj l o) := ⟨rfl, rfl, rfl, by simp⟩
theorem alloc_same (W : World) (o : Obj) : Same W (W.alloc o) := ⟨rfl, rfl, rfl, by simp⟩
theorem putObj_other (W : World) {l k : Nat} (o : Obj) (h : k ≠ l) : (W.putObj l o).heap[k]? = W.heap[k]? := World.putObj_heap_other h
/-- what an activation leans on -/
def Mine (E : Env) (Φ : Known) (φ : Nat → Nat) (bx : Bxs) (k : Nat) : Prop := E.fr k ∨ (∃ i, (Bxs.box bx i).isSome ∧ φ i = k) ∨ (∃ o u, Φ k o u) ∨ k ∈ E.ds
theorem Rel.mine_lt (h : Rel E Φ φ al σ a W) {k : Nat} (hk : Mine E Φ φ σ.bx k) : k < W.heap.size := by
  rcases hk with hk | ⟨i, hi, rfl⟩ | ⟨o, u, hu⟩ | hk
  · exact h.fram.lt' hk
  · obtain ⟨B, hB⟩ := Option.isSome_iff_exists.1 hi
    exact h.box_lt hB
  · exact known_lt (h.kn _ _ _ hu)
  · exact heap_lt (h.dlive k hk).2
theorem Rel.keep (h : Rel E Φ φ al σ a W) {W' : World} (hs : Same W W') (hk : ∀ k, Mine E Φ φ σ.bx k → W'.heap[k]? = W.heap[k]?) : Rel E Φ φ al σ a W' :=
  (h.move hs (fun k _ hm => hk k hm) (fun _ _ _ h => h) (fun b o u hu => known_of_block (h.kn b o u hu) (hk b (.inr (.inr (.inl ⟨o, u, hu⟩))))) (fun _ _ _ h => .inl h)).1
theorem Rel.mine_loop (h : Rel E Φ φ al σ a W) {l : Nat} {rec : Loop} (hl : W.heap[l]? = some (.loop rec)) (hf : ¬ E.fr l) : ¬ Mine E Φ φ σ.bx l := by
  rintro (hk | ⟨i, hi, rfl⟩ | ⟨o, u, hu⟩ | hk)
  · exact hf hk
  · obtain ⟨B, hB⟩ := Option.isSome_iff_exists.1 hi
    obtain ⟨_, _, cs, r, _⟩ := h.row i B hB
    rw [hl] at r; cases r
  · have := h.kn _ _ _ hu
    simp [known, World.cell?, hl] at this
  · have := (h.dlive l hk).2
    rw [hl] at this; cases this
end
/-! ### Ranging over a function -/
/-- what a round takes for given: everything that lies there but the boxes -/
def rndE (W : World) (φ : Nat → Nat) (bx : Bxs) (Φ : Known) (l : Nat) (gv : List Value) : Env := ⟨fun k => k < W.heap.size ∧ ∀ i, (Bxs.box bx i).isSome → φ i ≠ k, W, Φ, [], some l, gv⟩
section
variable {E : Env} {W W' : World} {Φ : Known} {φ : Nat → Nat} {al : Nat → Prop} {σ τ : St} {a : Act} {P : Program} {r : Option Nat} {L : Link} {Y : Ys} {n : Nat}
theorem Rel.rnd_fr (h : Rel E Φ φ al σ a W) {k : Nat} (hk : k < W.heap.size) (hc : ∀ cs t, W.heap[k]? ≠ some (.cells cs t (0, 0))) (gv : List Value) (l : Nat) : (rndE W φ σ.bx Φ l gv).fr k :=
  ⟨hk, fun i hi e => by
    obtain ⟨B, hB⟩ := Option.isSome_iff_exists.1 hi
    obtain ⟨_, _, cs, r, _⟩ := h.row i B hB
    rw [e] at r
    exact hc _ _ r⟩
/-- a round begins -/
theorem Rel.enter (h : Rel E Φ φ al σ a W) {l : Nat} {rec : Loop} (hl : W.heap[l]? = some (.loop rec)) :
    Rel (rndE W φ σ.bx Φ l (E.gv ++ a.tmps.toList)) Φ φ al { σ with gh := σ.gh ++ σ.regs } { tmps := a.tmps, defers := [] } W := by
  refine { fram := ⟨rfl, rfl, rfl, Nat.le_refl _, fun k hk => hk.1, fun _ _ => rfl⟩, kn := h.kn, from_ := fun _ _ _ h => h, new := fun _ _ _ h => .inl h, row := fun i B hB => ?_, apart := h.apart, dark := h.dark, alb := h.alb, len := h.len, regs := h.regs, glen := ?_, gh := fun t v x hv hx => ?_, defers := rfl, dnd := List.nodup_nil, dlive := fun D hD => (nomatch hD), rnd := fun l' hl' => ?_ }
  · obtain ⟨r1, r2, r3⟩ := h.row i B hB
    refine ⟨r1, fun hf => hf.2 i ?_ rfl, r3⟩
    rw [show Bxs.box σ.bx i = some B from hB]; rfl
  · show (σ.gh ++ σ.regs).length = (E.gv ++ a.tmps.toList).length
    simp [h.glen, h.len]
  · have hv : (σ.gh ++ σ.regs)[t]? = some v := hv
    have hx : (E.gv ++ a.tmps.toList)[t]? = some x := hx
    rw [List.getElem?_append] at hv hx
    rw [h.glen] at hv
    split at hv
    · rename_i hlt
      rw [if_pos hlt] at hx
      exact h.gh t v x hv hx
    · rename_i hlt
      rw [if_neg hlt] at hx
      have := h.regs _ v hv
      rw [Array.getElem?_toList] at hx
      rw [Array.getD_eq_getD_getElem?, hx] at this
      exact this
  · cases hl'
    refine ⟨h.rnd_fr (heap_lt hl) (fun cs t e => ?_) _ _, rec, hl⟩
    rw [hl] at e; cases e
/-- the record turns -/
theorem Rel.rebase (h : Rel E Φ φ al σ a W) (hds : E.ds = []) {l : Nat} {rec rec' : Loop} (hl : W.heap[l]? = some (.loop rec)) :
    Rel (rndE (W.putObj l (.loop rec')) φ σ.bx Φ l E.gv) Φ φ al σ a (W.putObj l (.loop rec')) := by
  have hne : ∀ k cs t, W.heap[k]? = some (.cells cs t (0, 0)) → k ≠ l := fun k cs t e q => by subst q; rw [hl] at e; cases e
  have hbox : ∀ i B, Bxs.box σ.bx i = some B → (W.putObj l (.loop rec')).heap[φ i]? = W.heap[φ i]? := fun i B hB => by
    obtain ⟨_, _, cs, r, _⟩ := h.row i B hB
    exact putObj_other W _ (hne _ _ _ r)
  have hstep : ∀ v x, RelL W Φ φ al σ.bx v x → RelL (W.putObj l (.loop rec')) Φ φ al σ.bx v x := fun v x hv => hv.step (fun _ _ _ h => h) (fun _ h => h) fun b B' _ hB => ⟨B', hB, .inr ⟨rfl, rfl, rfl, fun cs hcs => ⟨cs, (hbox b B' hB).trans hcs, rfl⟩⟩⟩
  refine { fram := ⟨rfl, rfl, rfl, Nat.le_refl _, fun k hk => hk.1, fun _ _ => rfl⟩, kn := fun b o u hu => ?_, from_ := fun _ _ _ h => h, new := fun _ _ _ h => .inl h, row := fun i B hB => ?_, apart := h.apart, dark := h.dark, alb := h.alb, len := h.len, regs := fun t v hv => hstep v _ (h.regs t v hv), glen := h.glen, gh := fun t v x hv hx => hstep v x (h.gh t v x hv hx), defers := by rw [h.defers, hds]; rfl, dnd := List.nodup_nil, dlive := fun D hD => (nomatch hD), rnd := fun l' hl' => ?_ }
  · have hkn := h.kn b o u hu
    refine known_of_block hkn (putObj_other W _ fun e => ?_)
    subst e
    simp [known, World.cell?, hl] at hkn
  · obtain ⟨r1, r2, cs, r3, r4, r5⟩ := h.row i B hB
    refine ⟨r1, fun hf => hf.2 i (by rw [show Bxs.box σ.bx i = some B from hB]; rfl) rfl, cs, (hbox i B hB).trans r3, r4, fun j c hc => ?_⟩
    obtain ⟨x, x1, x2, x3⟩ := r5 j c hc
    exact ⟨x, x1, x2, hstep c x x3⟩
  · cases hl'
    have hn : (W.putObj l (.loop rec')).heap[l]? = some (.loop rec') := World.putObj_heap_same (heap_lt hl)
    refine ⟨⟨by simpa using heap_lt hl, fun i hi e => ?_⟩, rec', hn⟩
    obtain ⟨B, hB⟩ := Option.isSome_iff_exists.1 hi
    obtain ⟨_, _, cs, r, _⟩ := h.row i B hB
    exact hne _ _ _ r e
/-- a round is over: what held before it, and the state behind -/
theorem Rel.leave (h : Rel E Φ φ al τ a W) {Er : Env} {Φ' : Known} {φ' : Nat → Nat} {al' : Nat → Prop} {τ' : St} {a' : Act} (h' : Rel Er Φ' φ' al' τ' a' W') (hgv : Er.gv = E.gv ++ a.tmps.toList)
    (hs : Same W W') (hk : ∀ k, (E.fr k ∨ k ∈ E.ds) → W'.heap[k]? = W.heap[k]?) (hfr : ∀ k, E.fr k → Er.fr k) (h0 : ∀ b o u, Φ b o u → Φ' b o u) (h1 : ∀ b o u, Er.Φ0 b o u → Φ b o u ∨ ¬ E.fr b) : Rel E Φ' φ' al' (τ.back τ') a W' := by
  have hlen : τ'.gh.length = τ.gh.length + a.tmps.size := by rw [h'.glen, hgv, h.glen]; simp
  refine { fram := h.fram.step hs fun k hf => hk k (.inl hf), kn := h'.kn, from_ := fun b o u hu => h0 b o u (h.from_ b o u hu), new := fun b o u hu => ?_, row := fun i B hB => ?_, apart := h'.apart, dark := h'.dark, alb := h'.alb, len := ?_, regs := fun t v hv => ?_, glen := ?_, gh := fun t v x hv hx => ?_, defers := h.defers, dnd := h.dnd, dlive := fun D hD => ⟨(h.dlive D hD).1, (hk D (.inr hD)).trans (h.dlive D hD).2⟩, rnd := h.rnd }
  · rcases h'.new b o u hu with hu | hu
    · rcases h1 b o u hu with hu | hu
      · exact h.new b o u hu
      · exact .inr hu
    · exact .inr fun hf => hu (hfr b hf)
  · obtain ⟨r1, r2, r3⟩ := h'.row i B hB
    exact ⟨r1, fun hf => r2 (hfr _ hf), r3⟩
  · show (τ'.gh.drop τ.gh.length).length = a.tmps.size
    rw [List.length_drop, hlen]; omega
  · have hv : (τ'.gh.drop τ.gh.length)[t]? = some v := hv
    rw [List.getElem?_drop] at hv
    have ht : t < a.tmps.size := by
      have := (List.getElem?_eq_some_iff.1 hv).1
      omega
    refine h'.gh _ v _ hv ?_
    rw [hgv, h.glen, List.getElem?_append_right (by omega), Nat.add_sub_cancel_left, Array.getElem?_toList, Array.getD_eq_getD_getElem?, Array.getElem?_eq_getElem ht]
    rfl
  · show (τ'.gh.take τ.gh.length).length = E.gv.length
    rw [List.length_take, hlen, ← h.glen]; omega
  · have hv : (τ'.gh.take τ.gh.length)[t]? = some v := hv
    rw [List.getElem?_take] at hv
    split at hv
    · rename_i hlt
      refine h'.gh t v x hv ?_
      rw [hgv, List.getElem?_append_left (by rw [← h.glen]; exact hlt)]
      exact hx
    · cases hv
theorem mine_ren {keep : Option (List Nat)} {ρ : List Nat} {E : Env} {Φ : Known} {φ : Nat → Nat} {σ : St} {k : Nat} (h : Mine E Φ (fun i => φ (ρ.getD i 0)) (σ.ren keep ρ).bx k) : Mine E Φ φ σ.bx k := by
  rcases h with h | ⟨i, hi, rfl⟩ | h | h
  · exact .inl h
  · refine .inr (.inl ⟨ρ.getD i 0, ?_, rfl⟩)
    obtain ⟨B, hB⟩ := Option.isSome_iff_exists.1 hi
    have hB : Bxs.box (Bxs.ren σ.bx ρ) i = some B := hB
    rw [Bxs.box_ren] at hB
    split at hB
    · rename_i b hb
      obtain ⟨B0, h1, h2⟩ := Option.map_eq_some_iff.1 hB
      rw [List.getD_eq_getElem?_getD, hb]
      show (Bxs.box σ.bx b).isSome
      rw [h1]; rfl
    · cases hB
  · exact .inr (.inr (.inl h))
  · exact .inr (.inr (.inr h))
def Ex.code : Ex → Code
  | .normal => .skip
  | .exit id => .exit id
  | .ret => .ret
/-- a link that does not look at the marks, but in a round -/
def LinkOk (r : Option Nat) (L : Link) : Prop := r = none → ∀ y s E ds, L y s E → L y s { E with ds := ds }
/-- code, walked by ours -/
def Snd (P : Program) (c : Code) (k : K) : Prop := ∀ (r : Option Nat) (L : Link) (Y : Ys) (Q : Ex → St → Prop) (σ : St) (a : Act) (W : World) (n : Nat), LinkOk r L → Yok P r L Y → wpK P Y k Q σ → Stands r L σ a W → c.wpIn (Wd r) n P (Post r L Q) a W
theorem yok_none (r : Option Nat) (L : Link) (l : Nat) : Yok P r L ⟨l, []⟩ := fun _ _ _ _ _ _ _ _ _ _ _ _ _ hy => by cases hy
theorem run_callFunc {f : FuncId} (hf : GoodF P f) (args : Array Value) (W : World) : (callFunc f args).run P W = .ok (.enter f args) W := by
  obtain ⟨fn, h1, h2, h3⟩ := hf
  have h2' : ¬ fn.name = "runtime.NumGoroutine" := by simpa using h2
  simp [callFunc, h1, h2', Option.isNone_iff_eq_none, Option.isSome_iff_ne_none.1 h3]
end
end
end Go.Proofs.Ytcamoojddlpbgaa.V
