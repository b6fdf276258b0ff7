import Derived.Test.YtcamoojddlpbgaaWe
namespace Go.Proofs.Ytcamoojddlpbgaa.V
set_option linter.unusedVariables false
set_option linter.unusedSimpArgs false
open Go.RowKit
noncomputable section
section
variable {P : Program}
/-- 'for .. := range f' over an iterator that has its contract -/
theorem rfor_sound {f : Operand} {f' : Opd} {ps : Array Tmp} {x b : Code} {kx kb : K} (hf : opd f = some f') (hx : Snd P x kx) (hb : Snd P b kb) : Snd P (.rangeFunc f ps x b) (.rfor f' ps.toList kx kb) := by
  intro r L Y Q σ a W n hLk hY hq hs
  obtain ⟨E, Φ, φ, al, h, hr, hL⟩ := hs
  have hfv := h.opd hf
  simp only [wpK] at hq
  split at hq <;> try (exact hq.elim)
  rename_i g first caps ef
  rw [ef] at hfv
  obtain ⟨fs, ys, ev, s1, s2, r1, r2⟩ := rd_fn hfv
  obtain ⟨xs, ⟨hgood, hiter⟩, I, ⟨keep, ρ0, hn0, hI0⟩, hround, hdone⟩ := hq
  refine wpIn_rangeFunc fun fn _ => ?_
  -- the record is laid
  obtain ⟨l, ds', W1, dD, hent, hsame1, hold, hl1, hlW, hnd', hds'⟩ : ∃ (l : Nat) (ds' : List Nat) (W1 : World) (dD : Nat), (Instr.enterLoop fn a.tmps ps x b r).run P W = .ok (l, ds'.map mark) W1 ∧ Same W W1 ∧ (∀ k, k < W.heap.size → W1.heap[k]? = W.heap[k]?) ∧
      W1.heap[l]? = some (.loop { state := .ready, pending := none, fn, tmps := a.tmps, params := ps, assign := x, body := b, defers := dD }) ∧ W.heap.size ≤ l ∧ ds'.Nodup ∧ (∀ D ∈ ds', W.heap.size ≤ D ∧ D ≠ l ∧ r = none ∧ W1.heap[D]? = some (.deferred (some []))) := by
    cases hrr : r with
    | none =>
      refine ⟨W.heap.size + 1, [W.heap.size], _, W.heap.size, run_enterLoop_outer fn a.tmps ps x b, (alloc_same _ _).trans (alloc_same _ _), fun k hk => ?_, ?_, by omega, by simp, fun D hD => ?_⟩
      · rw [Below.heap_alloc _ _ _ (by simp; omega), Below.heap_alloc _ _ _ hk]
      · have := World.alloc_heap_new (W.alloc (.deferred (some []))) (.loop { state := .ready, pending := none, fn, tmps := a.tmps, params := ps, assign := x, body := b, defers := W.heap.size })
        rw [World.size_alloc] at this
        exact this
      · obtain rfl : D = W.heap.size := by simpa using hD
        refine ⟨Nat.le_refl _, by omega, rfl, ?_⟩
        rw [Below.heap_alloc _ _ _ (by simp)]
        exact World.alloc_heap_new W _
    | some l0 =>
      obtain ⟨hfl, r0, hr0⟩ := h.rnd l0 (hr.trans hrr)
      have hl0 : W.heap[l0]? = some (.loop r0) := (h.fram.block l0 hfl).trans hr0
      exact ⟨W.heap.size, [], _, r0.defers, run_enterLoop_inner hl0 fn a.tmps ps x b, alloc_same _ _, fun k hk => Below.heap_alloc _ _ _ hk, World.alloc_heap_new W _, Nat.le_refl _, List.nodup_nil, fun D hD => nomatch hD⟩
  obtain ⟨rec, hrec⟩ : ∃ rec : LoopState → Option Code → Loop, rec = fun st pe => { state := st, pending := pe, fn, tmps := a.tmps, params := ps, assign := x, body := b, defers := dD } := ⟨_, rfl⟩
  have hl1 : W1.heap[l]? = some (.loop (rec .ready none)) := by rw [hrec]; exact hl1
  let E1 : Env := { E with ds := ds' ++ E.ds }
  let a1 : Act := { a with defers := ds'.map mark ++ a.defers }
  have hrel1 : Rel E1 Φ φ al σ a1 W1 := by
    have hk : Rel E Φ φ al σ a W1 := h.keep hsame1 fun k hk => hold k (h.mine_lt hk)
    refine { hk with defers := ?_, dnd := ?_, dlive := fun D hD => ?_ }
    · show ds'.map mark ++ a.defers = (ds' ++ E.ds).map mark
      rw [List.map_append, h.defers]
    · refine List.nodup_append.2 ⟨hnd', h.dnd, fun D hD D' hD' e => ?_⟩
      subst e
      have := (hds' D hD).1
      have := heap_lt (h.dlive D hD').2
      omega
    · rcases List.mem_append.1 hD with hD | hD
      · obtain ⟨k1, _, _, k2⟩ := hds' D hD
        exact ⟨fun hf => by have := h.fram.lt' hf; omega, k2⟩
      · exact hk.dlive D hD
  have hLE : ∀ y s, L y s E → L y s E1 := fun y s hl => by
    cases hrr : r with
    | none => exact hLk hrr y s E _ hl
    | some l0 =>
      have : ds' = [] := List.eq_nil_iff_forall_not_mem.2 fun D hD => by have := (hds' D hD).2.2.1; rw [hrr] at this; cases this
      show L y s { E with ds := ds' ++ E.ds }
      rw [this]; exact hl
  have hfl : ¬ E1.fr l := fun hf => by have := h.fram.lt' hf; omega
  -- between the rounds, and when one has left
  let At : Nat → (Nat → Prop) → St → World → Option Code → LoopState → Prop := fun i O τ W' pe st => τ.y = σ.y ∧ τ.stop = σ.stop ∧ W'.heap[l]? = some (.loop (rec st pe)) ∧
    ∃ Φ' φ' al', Rel E1 Φ' φ' al' τ a1 W' ∧ (∀ b o u, Φ b o u → Φ' b o u) ∧ ∀ k, O k → ¬ Mine E1 Φ' φ' τ.bx k ∧ k ≠ l ∧ k < W'.heap.size
  let J : Nat → (Nat → Prop) → World → Prop := fun i O W' => ∃ τ, I i τ ∧ At i O τ W' none .ready
  let Jx : (Nat → Prop) → World → Prop := fun O W' => ∃ e τ, e ≠ Ex.normal ∧ Q e τ ∧ At 0 O τ W' (some e.code) .done
  have stab : ∀ (i : Nat) (O O' : Nat → Prop) (W2 W3 : World) (τ : St) (pe : Option Code) (st : LoopState), At i O τ W2 pe st → Same W2 W3 → (∀ k, k < W2.heap.size → ¬ O k → W3.heap[k]? = W2.heap[k]?) → (∀ k, O' k → (O k ∨ W2.heap.size ≤ k) ∧ k < W3.heap.size) → At i O' τ W3 pe st := by
    rintro i O O' W2 W3 τ pe st ⟨y1, y2, h1, Φ', φ', al', h2, h3, h4⟩ hs hk hO
    have hlO : ¬ O l := fun ho => (h4 l ho).2.1 rfl
    refine ⟨y1, y2, (hk l (heap_lt h1) hlO).trans h1, Φ', φ', al', h2.keep hs fun k hm => hk k (h2.mine_lt hm) fun ho => (h4 k ho).1 hm, h3, fun k hk' => ?_⟩
    obtain ⟨ho, hlt⟩ := hO k hk'
    rcases ho with ho | ho
    · exact ⟨(h4 k ho).1, (h4 k ho).2.1, hlt⟩
    · exact ⟨fun hm => by have := h2.mine_lt hm; omega, fun e => by have := heap_lt h1; omega, hlt⟩
  refine ⟨l, ds'.map mark, W1, { target := .fn (.func g) ys, args := fs ++ #[.func (.yield l) #[] #[]] }, W1, g, fs ++ #[.func (.yield l) #[] #[]] ++ ys, W1, hent, ?_, fun _ _ => trivial, ?_, fun hd => by simp [Wd] at hd, callsIn_wd.2 ?_⟩
  · simp only [resolve, ev, Deferred.ofValue]
    simp [Act.eval]
  · simp only [invoke]
    exact run_callFunc hgood _ _
  refine (hiter W1 Φ fs ys hrel1.kn s1 s2 r1 r2 l J Jx ?_ ?_ ?_ ?_).mono ?_
  · exact ⟨σ.ren keep ρ0, hI0, rfl, rfl, hl1, Φ, _, _, hrel1.ren keep ρ0 hn0, fun _ _ _ h => h, fun k hk => hk.elim⟩
  · rintro i O O' W2 W3 ⟨τ, hI, hAt⟩ hs hk _ hO
    exact ⟨τ, hI, stab i O O' W2 W3 τ _ _ hAt hs hk hO⟩
  · rintro O O' W2 W3 ⟨e, τ, he, hq, hAt⟩ hs hk _ hO
    exact ⟨e, τ, he, hq, stab 0 O O' W2 W3 τ _ _ hAt hs hk hO⟩
  · -- a round
    rintro i O W2 args vs ⟨τ, hI, y1, y2, hl2, Φ2, φ2, al2, h2, hΦ2, hO⟩ hxs hsz hrd
    obtain ⟨hlen, hwp⟩ := hround i args τ hxs hI
    have hyl := run_yield (P := P) (args := vs) hl2 (by rw [hrec]; simp only; rw [hsz, hlen]; simp)
    refine ⟨fn, _, x, b, by rw [hrec] at hyl; exact hyl, roundIn_of_wpIn (F := Fence.wide) trivial ?_⟩
    have hent2 := h2.enter hl2
    have hpar := Rel.params ps.toList args vs.toList _ _ hent2 (by simp [hsz]) fun i c x hc hx => hrd _ i c x hc (by simpa using hx)
    have htm : (ps.zip vs).foldl (fun tmps (t, a) => tmps.setIfInBounds t a) a.tmps = (ps.toList.zip vs.toList).foldl (fun t (p, v) => t.setIfInBounds p v) a.tmps := by
      rw [← Array.foldl_toList, Array.toList_zip]
    generalize hEr : rndE W2 φ2 τ.bx Φ2 l (E1.gv ++ a1.tmps.toList) = Er at hpar hent2
    have hw1 := hx (some l) (fun _ _ E' => E' = Er) ⟨0, []⟩ _ _ _ W2 0 (fun h => nomatch h) (yok_none _ _ _) hwp ⟨Er, Φ2, φ2, al2, hpar, by rw [← hEr]; rfl, rfl⟩
    have hframe : ∀ (k : Nat), (E1.fr k ∨ k ∈ E1.ds ∨ O k) → k < W2.heap.size ∧ k ≠ l ∧ Er.fr k := fun k hk => by
      have hlt : k < W2.heap.size := by
        rcases hk with hk | hk | hk
        · exact h2.fram.lt' hk
        · exact heap_lt (h2.dlive k hk).2
        · exact (hO k hk).2.2
      refine ⟨hlt, ?_, ?_⟩
      · rcases hk with hk | hk | hk
        · exact fun e => hfl (e ▸ hk)
        · intro e; subst e; have := (h2.dlive k hk).2; rw [hl2] at this; cases this
        · exact (hO k hk).2.1
      · rw [← hEr]
        refine ⟨hlt, fun i' hi' e => ?_⟩
        obtain ⟨B, hB⟩ := Option.isSome_iff_exists.1 hi'
        rcases hk with hk | hk | hk
        · exact (h2.row i' B hB).2.1 (by rw [e]; exact hk)
        · exact h2.box_ne hB hk e.symm
        · exact (hO k hk).1 (.inr (.inl ⟨i', hi', e⟩))
    have key : ({ tmps := (ps.zip vs).foldl (fun tmps (t, a) => tmps.setIfInBounds t a) a.tmps, defers := [] } : Act) = { tmps := (ps.toList.zip vs.toList).foldl (fun t (p, v) => t.setIfInBounds p v) a.tmps, defers := [] } := by rw [htm]
    refine wpIn_mono (F := Fence.wide.inRound l) (Eq.mpr (congrArg (fun z => Code.wpIn (Wd (some l)) 0 P x _ z W2) key) hw1) ?_
    rintro e0 aA WA ⟨eA, τA, rfl, hqA, EA, ΦA, φA, alA, hA, hrA, hEA⟩
    cases eA with
    | exit id => exact hqA.elim
    | ret => exact hqA.elim
    | normal =>
    simp only [Ex.next] at hqA
    have hEA : Er = EA := Eq.symm hEA
    subst hEA
    have hErB : Er.B = W2 := by rw [← hEr]; rfl
    have hErl : Er.fr l := by rw [← hEr]; exact h2.rnd_fr (heap_lt hl2) (fun cs t e => by rw [hl2] at e; cases e) _ _
    have hErds : Er.ds = [] := by rw [← hEr]; rfl
    have hErgv : Er.gv = E1.gv ++ a1.tmps.toList := by rw [← hEr]; rfl
    have hErΦ : Er.Φ0 = Φ2 := by rw [← hEr]; rfl
    have hblkA : ∀ k, Er.fr k → WA.heap[k]? = W2.heap[k]? := fun k hk => by rw [← hErB]; exact hA.fram.block k hk
    have hsA : Same W2 WA := by rw [← hErB]; exact hA.fram.same
    have hlA : WA.heap[l]? = some (.loop (rec .ready none)) := (hblkA l hErl).trans hl2
    refine ⟨WA.putObj l (.loop (rec .busy none)), by have := run_beginRound (P := P) hlA (by rw [hrec]); rw [hrec] at this ⊢; exact this, ?_⟩
    have hB := hA.rebase hErds (rec' := rec .busy none) hlA
    generalize hW3 : WA.putObj l (.loop (rec .busy none)) = W3 at hB
    have hs3 : Same WA W3 := by rw [← hW3]; exact putObj_same _ _ _
    have hl3 : W3.heap[l]? = some (.loop (rec .busy none)) := by rw [← hW3]; exact World.putObj_heap_same (heap_lt hlA)
    have ho3 : ∀ k, k ≠ l → W3.heap[k]? = WA.heap[k]? := fun k hk => by rw [← hW3]; exact putObj_other _ _ hk
    generalize hEb : rndE W3 φA τA.bx ΦA l Er.gv = Eb at hB
    have hEbB : Eb.B = W3 := by rw [← hEb]; rfl
    have hEbgv : Eb.gv = E1.gv ++ a1.tmps.toList := by rw [← hEb]; exact hErgv
    have hEbΦ : Eb.Φ0 = ΦA := by rw [← hEb]; rfl
    have hEbfr : ∀ k, Er.fr k → Eb.fr k := fun k hk => by
      rw [← hEb]
      refine ⟨Nat.lt_of_lt_of_le (hA.fram.lt' hk) hs3.size, fun i' hi' e => ?_⟩
      obtain ⟨B, hBx⟩ := Option.isSome_iff_exists.1 hi'
      exact (hA.row i' B hBx).2.1 (by rw [e]; exact hk)
    have hw2 := hb (some l) (fun _ _ E' => E' = Eb) ⟨0, []⟩ _ _ _ W3 0 (fun h => nomatch h) (yok_none _ _ _) hqA ⟨Eb, ΦA, φA, alA, hB, by rw [← hEb]; rfl, rfl⟩
    refine wpIn_mono (F := Fence.wide.inRound l) hw2 ?_
    rintro e0 aZ WZ ⟨eZ, τZ, rfl, hqZ, EZ, ΦZ, φZ, alZ, hZ, hrZ, hEZ⟩
    have hEZ : EZ = Eb := hEZ
    subst hEZ
    have hblkZ : ∀ k, EZ.fr k → WZ.heap[k]? = W3.heap[k]? := fun k hk => by rw [← hEbB]; exact hZ.fram.block k hk
    have hsZ : Same W3 WZ := by rw [← hEbB]; exact hZ.fram.same
    have hlZ : WZ.heap[l]? = some (.loop (rec .busy none)) := (hblkZ l (hEbfr l hErl)).trans hl3
    have hs2 : Same W2 WZ := (hsA.trans hs3).trans hsZ
    have hall : ∀ k, (E1.fr k ∨ k ∈ E1.ds ∨ O k) → WZ.heap[k]? = W2.heap[k]? := fun k hk => by
      obtain ⟨_, h1, h3⟩ := hframe k hk
      rw [hblkZ k (hEbfr k h3), ho3 k h1, hblkA k h3]
    have hΦZ : ∀ b o u, Φ2 b o u → ΦZ b o u := fun b o u hu => hZ.from_ b o u (by rw [hEbΦ]; exact hA.from_ b o u (by rw [hErΦ]; exact hu))
    have hnewZ : ∀ b o u, ΦZ b o u → Er.fr b → Φ2 b o u := fun b o u hu hf => by
      rcases hZ.new b o u hu with hu | hu
      · rw [hEbΦ] at hu
        rcases hA.new b o u hu with hu | hu
        · rw [hErΦ] at hu; exact hu
        · exact absurd hf hu
      · exact absurd (hEbfr b hf) hu
    have hback : Rel E1 ΦZ φZ alZ (τ.back τZ) a1 WZ := h2.leave hZ hEbgv hs2 (fun k hk => hall k (hk.imp_right .inl)) (fun k hk => hEbfr k (hframe k (.inl hk)).2.2) hΦZ fun b o u hu => by
      rw [hEbΦ] at hu
      rcases hA.new b o u hu with hu | hu
      · rw [hErΦ] at hu; exact .inl hu
      · exact .inr fun hf => hu (hframe b (.inl hf)).2.2
    have hOZ : ∀ k, O k → ¬ Mine E1 ΦZ φZ (τ.back τZ).bx k ∧ k ≠ l ∧ k < WZ.heap.size := fun k hk => by
      obtain ⟨k1, k2, k3⟩ := hframe k (.inr (.inr hk))
      refine ⟨?_, k2, Nat.lt_of_lt_of_le k1 hs2.size⟩
      rintro (hm | ⟨i', hi', e⟩ | ⟨o, u, hu⟩ | hm)
      · exact (hO k hk).1 (.inl hm)
      · obtain ⟨B, hBx⟩ := Option.isSome_iff_exists.1 hi'
        exact (hZ.row i' B hBx).2.1 (by rw [e]; exact hEbfr k k3)
      · exact (hO k hk).1 (.inr (.inr (.inl ⟨o, u, hnewZ k o u hu k3⟩)))
      · exact (hO k hk).1 (.inr (.inr (.inr hm)))
    -- the round's end
    have fin : ∀ (jump : Option Code), (Instr.endRound l jump).run P WZ = .ok (.bool jump.isNone) (WZ.putObj l (.loop (rec (if jump.isNone then .ready else .done) jump))) := fun jump => by
      have := run_endRound (P := P) jump hlZ
      rw [hrec] at this ⊢
      exact this
    have hmine : ∀ (o : Obj), Rel E1 ΦZ φZ alZ (τ.back τZ) a1 (WZ.putObj l o) := fun o => hback.keep (putObj_same _ _ _) fun k hm => putObj_other _ _ fun e => by subst e; exact hback.mine_loop hlZ hfl hm
    have rest : ∀ (o : Obj), Same W2 (WZ.putObj l o) ∧ (∀ k, O k → (WZ.putObj l o).heap[k]? = W2.heap[k]?) ∧ (∀ b o' u, Φ b o' u → known (WZ.putObj l o) b o' u) := fun o =>
      ⟨hs2.trans (putObj_same _ _ _), fun k hk => (putObj_other _ _ (hO k hk).2.1).trans (hall k (.inr (.inr hk))), fun b o' u hu => (hmine o).kn b o' u (hΦZ _ _ _ (hΦ2 _ _ _ hu))⟩
    have hnewl : ∀ (o : Obj), (WZ.putObj l o).heap[l]? = some o := fun o => World.putObj_heap_same (heap_lt hlZ)
    cases eZ with
    | normal =>
      obtain ⟨keep, ρ, hnρ, hIρ⟩ := hqZ
      refine ⟨_, _, fin none, true, rfl, (rest _).1, (rest _).2.1, (rest _).2.2, fun _ => ?_, fun h => nomatch h⟩
      refine ⟨(τ.back τZ).ren keep ρ, hIρ, y1, y2, hnewl _, ΦZ, _, _, (hmine _).ren keep ρ hnρ, fun b o u hu => hΦZ _ _ _ (hΦ2 _ _ _ hu), fun k hk => ⟨fun hm => (hOZ k hk).1 (mine_ren hm), (hOZ k hk).2.1, by simpa using (hOZ k hk).2.2⟩⟩
    | exit id =>
      refine ⟨_, _, fin (some (.exit id)), false, rfl, (rest _).1, (rest _).2.1, (rest _).2.2, (fun h => nomatch h), fun _ => ?_⟩
      exact ⟨.exit id, τ.back τZ, (fun h => nomatch h), hqZ, y1, y2, hnewl _, ΦZ, _, _, hmine _, fun b o u hu => hΦZ _ _ _ (hΦ2 _ _ _ hu), fun k hk => ⟨(hOZ k hk).1, (hOZ k hk).2.1, by simpa using (hOZ k hk).2.2⟩⟩
    | ret =>
      refine ⟨_, _, fin (some .ret), false, rfl, (rest _).1, (rest _).2.1, (rest _).2.2, (fun h => nomatch h), fun _ => ?_⟩
      exact ⟨.ret, τ.back τZ, (fun h => nomatch h), hqZ, y1, y2, hnewl _, ΦZ, _, _, hmine _, fun b o u hu => hΦZ _ _ _ (hΦ2 _ _ _ hu), fun k hk => ⟨(hOZ k hk).1, (hOZ k hk).2.1, by simpa using (hOZ k hk).2.2⟩⟩
  · -- behind the iterator
    rintro e W2 ⟨v, O, rfl, ⟨τ, hI, y1, y2, hl2, Φ2, φ2, al2, h2, _, _⟩ | ⟨ex, τ, hne, hq, y1, y2, hl2, Φ2, φ2, al2, h2, _, _⟩⟩
    · refine ⟨none, _, by have := run_endLoop (P := P) hl2 (by rw [hrec]; simp); rw [hrec] at this; exact this, ?_⟩
      refine ⟨.normal, τ, rfl, hdone τ hI, E1, Φ2, φ2, al2, h2.keep (putObj_same _ _ _) fun k hm => putObj_other _ _ fun e => by subst e; exact h2.mine_loop hl2 hfl hm, hr, ?_⟩
      rw [y1, y2]; exact hLE _ _ hL
    · refine ⟨some ex.code, _, by have := run_endLoop (P := P) hl2 (by rw [hrec]; simp); rw [hrec] at this; exact this, ?_⟩
      have hst : ∀ o : Obj, Stands r L τ a1 (W2.putObj l o) := fun o => ⟨E1, Φ2, φ2, al2, h2.keep (putObj_same _ _ _) fun k hm => putObj_other _ _ fun e => by subst e; exact h2.mine_loop hl2 hfl hm, hr, by rw [y1, y2]; exact hLE _ _ hL⟩
      cases ex with
      | normal => exact absurd rfl hne
      | exit id => exact wpIn_exit ⟨.exit id, τ, rfl, hq, hst _⟩
      | ret => exact wpIn_ret ⟨.ret, τ, rfl, hq, hst _⟩
end
section
variable {F : Fence} {n : Nat} {P : Program} {b : Frame} {a : Act} {k : List Item} {cs : List Frame} {w : World} {Q : Exit → Act → World → Prop}
theorem stepR_scope {c : Code} : step P (lone (b.atR a (.code (.scope c) :: k)) cs w) = .next (lone (b.atR a (.code c :: .inScope c :: k)) cs w) :=
  step_lone_go (by simp [stepG, stepG.exec, Frame.atR])
theorem stepR_inScope {c : Code} : step P (lone (b.atR a (.inScope c :: k)) cs w) = .next (lone (b.atR a k) cs w) :=
  step_lone_go (by simp [stepG, stepG.exec, Frame.atR])
/-- a scope through which the run goes without a jump -/
theorem wpIn_scope_straight {c : Code} (h : c.wpIn F n P (fun e a w => (∀ l, e ≠ .goto l) ∧ Q e a w) a w) : (Code.scope c).wpIn F n P Q a w := by
  intro b k cs hro hb hr
  have h0 : (lone (b.atR a (.code (.scope c) :: k)) cs w).fenced P F := fenced_calm hb hr rfl
  obtain ⟨e, a₁, w₁, ⟨hg, hq⟩, harr⟩ := h b (.inScope c :: k) cs hro hb hr
  have hx : ∀ id, exitTo id (.inScope c :: k) = exitTo id k := fun id => by simp [exitTo]
  cases e with
  | normal => exact ⟨.normal, a₁, w₁, hq, .head h0 stepR_scope (StepsIn.trans harr (.one (fenced_calm hb hr rfl) stepR_inScope))⟩
  | exit id =>
    exact ⟨.exit id, a₁, w₁, hq, fun k' hk => .head h0 stepR_scope (harr.1 k' (by rw [hx]; exact hk)),
      fun hr' hk => let ⟨k₁, h1, h2⟩ := harr.2 hr' (by rw [hx]; exact hk); ⟨k₁, h1, .head h0 stepR_scope h2⟩⟩
  | goto l => exact absurd rfl (hg l)
  | ret => exact ⟨_, a₁, w₁, hq, .of_steps (.one h0 stepR_scope) harr⟩
  | panic ch => exact ⟨_, a₁, w₁, hq, .of_steps (.one h0 stepR_scope) harr⟩
  | outgrown => exact ⟨_, a₁, w₁, hq, .of_steps (.one h0 stepR_scope) harr⟩
end
section
variable {P : Program}
/-- CODE, WALKED BY OURS -/
theorem wpK_sound (hm : P.follows .mixedOrders = true) : ∀ (c : Code) (k : K), ck P c = some k → Snd P c k
  | .skip, k, hc => by cases hc; exact fun r L Y Q σ a W n _ _ hq hs => wpIn_skip ⟨.normal, σ, rfl, hq, hs⟩
  | .label l, k, hc => by cases hc; exact fun r L Y Q σ a W n _ _ hq hs => wpIn_label ⟨.normal, σ, rfl, hq, hs⟩
  | .region id ops draw, k, hc => by
    simp only [ck] at hc
    obtain ⟨cs, hcs, hc⟩ := Option.bind_eq_some_iff.1 hc
    have post : ∀ (r : Option Nat) (L : Link) (Q : Ex → St → Prop) (e : Exit) (a : Act) (W : World), PostN r L (Q .normal) e a W → Post r L Q e a W := by
      rintro r L Q e a W ⟨rfl, σ, h1, h2⟩
      exact ⟨.normal, σ, rfl, h1, h2⟩
    cases draw with
    | true =>
      simp only [if_true] at hc
      by_cases hk : checkD ops cs (befs ops) = true
      case neg => rw [if_neg hk] at hc; cases hc
      rw [if_pos hk] at hc
      cases hc
      exact fun r L Y Q σ a W n _ hY hq hs => wpIn_mono (wpDs_sound hm hY hcs hk hq hs) (post r L Q)
    | false =>
      simp only [Bool.false_eq_true, if_false] at hc
      cases hc
      exact fun r L Y Q σ a W n _ hY hq hs => wpIn_mono (wpIn_region_list (wpCs_sound hY ops.toList cs σ a W hcs hq hs)) (post r L Q)
  | .seq x y, k, hc => by
    simp only [ck] at hc
    obtain ⟨x', h1, hc⟩ := Option.bind_eq_some_iff.1 hc
    obtain ⟨y', h2, hc⟩ := Option.bind_eq_some_iff.1 hc
    cases hc
    intro r L Y Q σ a W n hLk hY hq hs
    refine wpIn_seq (wpIn_mono (wpK_sound hm x x' h1 r L Y _ σ a W n hLk hY hq hs) ?_)
    rintro e a1 W1 ⟨ex, τ, rfl, hq1, hs1⟩
    cases ex with
    | normal => exact wpK_sound hm y y' h2 r L Y Q τ a1 W1 n hLk hY hq1 hs1
    | exit id => exact ⟨.exit id, τ, rfl, hq1, hs1⟩
    | ret => exact ⟨.ret, τ, rfl, hq1, hs1⟩
  | .cond c x y, k, hc => by
    simp only [ck] at hc
    obtain ⟨c', h0, hc⟩ := Option.bind_eq_some_iff.1 hc
    obtain ⟨x', h1, hc⟩ := Option.bind_eq_some_iff.1 hc
    obtain ⟨y', h2, hc⟩ := Option.bind_eq_some_iff.1 hc
    cases hc
    intro r L Y Q σ a W n hLk hY hq hs
    obtain ⟨E, Φ, φ, al, h, hE⟩ := hs
    have hr := h.opd h0
    simp only [wpK] at hq
    split at hq
    · rename_i t e
      rw [e] at hr
      refine wpIn_cond_split (rd_bool hr) (fun ht => wpK_sound hm x x' h1 r L Y Q σ a W n hLk hY (hq.1 ht) ⟨E, Φ, φ, al, h, hE⟩) (fun ht => wpK_sound hm y y' h2 r L Y Q σ a W n hLk hY (hq.2 ht) ⟨E, Φ, φ, al, h, hE⟩)
    · exact hq.elim
  | .block id b, k, hc => by
    simp only [ck] at hc
    obtain ⟨b', h1, rfl⟩ := Option.map_eq_some_iff.1 hc
    intro r L Y Q σ a W n hLk hY hq hs
    refine wpIn_block (wpIn_mono (wpK_sound hm b b' h1 r L Y _ σ a W n hLk hY hq hs) ?_)
    rintro e a1 W1 ⟨ex, τ, rfl, hq1, hs1⟩
    cases ex with
    | normal => exact ⟨.normal, τ, rfl, hq1, hs1⟩
    | exit id' =>
      simp only [Ex.inB] at hq1
      simp only [Ex.to, Exit.inBlock]
      split at hq1
      · rename_i e; rw [if_pos e]; exact ⟨.normal, τ, rfl, hq1, hs1⟩
      · rename_i e; rw [if_neg e]; exact ⟨.exit id', τ, rfl, hq1, hs1⟩
    | ret => exact ⟨.ret, τ, rfl, hq1, hs1⟩
  | .loop b, k, hc => by
    simp only [ck] at hc
    obtain ⟨b', h1, rfl⟩ := Option.map_eq_some_iff.1 hc
    intro r L Y Q σ a W n hLk hY hq hs
    obtain ⟨I, μ, ⟨keep, ρ0, hn0, h0⟩, hI⟩ := hq
    classical
    let S : Act → World → Nat → Prop := fun a W n => ∃ σ, I σ ∧ Stands r L σ a W ∧ μ σ = n
    let m : Act → World → Nat := fun a W => if h : ∃ n, S a W n then Classical.choose (least_ex h) else 0
    refine wpIn_loop (fun a W => ∃ n, S a W n) m ⟨_, σ.ren keep ρ0, h0, hs.ren keep ρ0 hn0, rfl⟩ fun a W hex => ?_
    obtain ⟨τ, hτ, hst, hmu⟩ := (Classical.choose_spec (least_ex hex)).1
    have hmv : m a W = Classical.choose (least_ex hex) := dif_pos hex
    refine wpIn_mono (wpK_sound hm b b' h1 r L Y _ τ a W n hLk hY (hI τ hτ) hst) ?_
    rintro e a1 W1 ⟨ex, υ, rfl, hq1, hs1⟩
    cases ex with
    | normal =>
      obtain ⟨keep, ρ, hnρ, hi, hlt⟩ := hq1
      have hS : S a1 W1 (μ (υ.ren keep ρ)) := ⟨_, hi, hs1.ren keep ρ hnρ, rfl⟩
      refine ⟨⟨_, hS⟩, ?_⟩
      rw [hmv, ← hmu]
      have : m a1 W1 = Classical.choose (least_ex ⟨_, hS⟩) := dif_pos ⟨_, hS⟩
      rw [this]
      exact Nat.lt_of_le_of_lt ((Classical.choose_spec (least_ex ⟨_, hS⟩)).2 _ hS) hlt
    | exit id => exact ⟨.exit id, υ, rfl, hq1, hs1⟩
    | ret => exact ⟨.ret, υ, rfl, hq1, hs1⟩
  | .exit id, k, hc => by cases hc; exact fun r L Y Q σ a W n _ _ hq hs => wpIn_exit ⟨.exit id, σ, rfl, hq, hs⟩
  | .ret, k, hc => by cases hc; exact fun r L Y Q σ a W n _ _ hq hs => wpIn_ret ⟨.ret, σ, rfl, hq, hs⟩
  | .rangeFunc f ps x b, k, hc => by
    simp only [ck] at hc
    obtain ⟨f', h0, hc⟩ := Option.bind_eq_some_iff.1 hc
    obtain ⟨x', h1, hc⟩ := Option.bind_eq_some_iff.1 hc
    obtain ⟨b', h2, hc⟩ := Option.bind_eq_some_iff.1 hc
    cases hc
    exact rfor_sound h0 (wpK_sound hm x x' h1) (wpK_sound hm b b' h2)
  | .scope b, k, hc => fun r L Y Q σ a W n hLk hY hq hs => wpIn_scope_straight (wpIn_mono (wpK_sound hm b k hc r L Y Q σ a W n hLk hY hq hs) fun e a W ⟨x, τ, h1, h2⟩ => ⟨fun l => (by subst h1; cases x <;> intro h <;> cases h), x, τ, h1, h2⟩)
  | .goto _, _, hc => by cases hc
  | .refuse _, _, hc => by cases hc
end
/-! ### A function, by its code -/
def retP : List PV → PV
  | [v] => v
  | vs => .tup vs
def init (n : Nat) (args : List LV) : St := ⟨args ++ List.replicate (n - args.length) (.p (.tup [])), [], [], 0, false⟩
/-- a result: a register, or what a box holds -/
def resP (P : Program) : ResultVar → Option (Nat × Option (Bool × Nat))
  | .tmp t => some (t, none)
  | .cell t ty => do
    let g ← aggB P ty
    let n ← sizeP P ty
    pure (t, some (g, if g then n else 1))
def resV (σ : St) : Nat × Option (Bool × Nat) → Option (PV × List Nat)
  | (t, none) => frz σ.bx 3 (σ.get (.t t))
  | (t, some (g, n)) => match eff σ (.ld g n (.t t)) with
    | some (.val v) => frz σ.bx 3 v
    | _ => none
def Returns (ts : List (Nat × Option (Bool × Nat))) (R : PV → Prop) : Ex → St → Prop
  | .exit _, _ => False
  | _, σ => ∃ rs, ts.mapM (resV σ) = some rs ∧ R (retP (rs.map Prod.fst))
section
variable {E : Env} {W : World} {Φ : Known} {φ : Nat → Nat} {al : Nat → Prop} {σ : St} {a : Act} {P : Program}
theorem res_run (h : Rel E Φ φ al σ a W) {q : ResultVar} {t : Nat × Option (Bool × Nat)} {p : PV} {ks : List Nat} (hq : resP P q = some t) (hv : resV σ t = some (p, ks)) :
    ∃ x, (match q with
      | ResultVar.tmp t => (Pure.pure (a.tmps.getD t undef) : Sem Value)
      | ResultVar.cell q t => do loadVar t (← asAddr (a.tmps.getD q undef))).run P W = .ok x W ∧ (∀ k ∈ ks, (Bxs.box σ.bx k).isSome) ∧ Rd (Φ.with W φ ks) p x := by
  cases q with
  | tmp t' =>
    cases hq
    obtain ⟨k1, k2⟩ := frz_rd h 3 _ p ks _ hv (h.get t')
    exact ⟨_, rfl, k1, k2⟩
  | cell t' ty =>
    simp only [resP] at hq
    obtain ⟨g, hg, hq⟩ := Option.bind_eq_some_iff.1 hq
    obtain ⟨n, hn, hq⟩ := Option.bind_eq_some_iff.1 hq
    cases hq
    simp only [resV] at hv
    split at hv <;> try (cases hv; done)
    rename_i v he
    obtain ⟨v', ad, u, e1, e2, hr, hrel⟩ := ld_run (x' := .t t') h hg hn (h.get t') he
    cases e1
    obtain ⟨k1, k2⟩ := frz_rd h 3 _ p ks _ hv hrel
    refine ⟨u, ?_, k1, k2⟩
    simp only [e2, asAddr, Sem.run_bind, Sem.run_pure, Result.andThen_ok]
    exact hr
theorem results_run (h : Rel E Φ φ al σ a W) {fn : Func} {ts : List (Nat × Option (Bool × Nat))} {rs : List (PV × List Nat)} (hres : fn.results.toList.mapM (resP P) = some ts) (hm : ts.mapM (resV σ) = some rs) :
    ∃ v, (results fn a.tmps).run P W = .ok v W ∧ (∀ k ∈ rs.flatMap Prod.snd, (Bxs.box σ.bx k).isSome) ∧ Rd (Φ.with W φ (rs.flatMap Prod.snd)) (retP (rs.map Prod.fst)) v := by
  obtain ⟨l1, g1⟩ := mapM_get hm
  obtain ⟨l2, g2⟩ := mapM_get hres
  have run : ∀ (qs : List ResultVar) (rs : List (PV × List Nat)), qs.length = rs.length → (∀ (i : Nat) (q : ResultVar) (r : PV × List Nat), qs[i]? = some q → rs[i]? = some r → ∃ x, (match q with
        | ResultVar.tmp t => (Pure.pure (a.tmps.getD t undef) : Sem Value)
        | ResultVar.cell q t => do loadVar t (← asAddr (a.tmps.getD q undef))).run P W = .ok x W ∧ (∀ k ∈ r.2, (Bxs.box σ.bx k).isSome) ∧ Rd (Φ.with W φ r.2) r.1 x) →
      ∃ vs : List Value, (qs.mapM (fun q => match q with
        | ResultVar.tmp t => (Pure.pure (a.tmps.getD t undef) : Sem Value)
        | ResultVar.cell q t => do loadVar t (← asAddr (a.tmps.getD q undef)))).run P W = .ok vs W ∧ vs.length = rs.length ∧ ∀ (i : Nat) (r : PV × List Nat), rs[i]? = some r → (∀ k ∈ r.2, (Bxs.box σ.bx k).isSome) ∧ ∃ x, vs[i]? = some x ∧ Rd (Φ.with W φ r.2) r.1 x := by
    intro qs
    induction qs with
    | nil =>
      intro rs hl _
      obtain rfl := List.eq_nil_of_length_eq_zero hl.symm
      exact ⟨[], rfl, rfl, by simp⟩
    | cons q qs ih =>
      intro rs hl hg
      cases rs with
      | nil => simp at hl
      | cons r rs =>
        obtain ⟨x, x1, x2, x3⟩ := hg 0 q r rfl rfl
        obtain ⟨vs, v1, v2, v3⟩ := ih rs (by simpa using hl) (fun i q r h1 h2 => hg (i + 1) q r (by simpa using h1) (by simpa using h2))
        refine ⟨x :: vs, ?_, by simp [v2], fun i r' hr' => ?_⟩
        · simp only [List.mapM_cons, Sem.run_bind]
          rw [x1]
          simp only [Result.andThen_ok]
          rw [v1]
          rfl
        · cases i with
          | zero => cases hr'; exact ⟨x2, x, rfl, x3⟩
          | succ i => simpa using v3 i r' (by simpa using hr')
  obtain ⟨vl, hv1, hv2, hget'⟩ := run fn.results.toList rs (by rw [l1, l2]) (fun i q r h1 h2 => by
    obtain ⟨t, t1, t2⟩ := g2 i q h1
    obtain ⟨r', r1, r2⟩ := g1 i t t2
    rw [h2] at r2
    cases r2
    exact res_run h t1 r1)
  let vs : Array Value := vl.toArray
  have hrun : (results fn a.tmps).run P W = .ok (if h : vs.size = 1 then vs[0] else .tuple vs) W := by
    unfold results
    simp only [Array.mapM_eq_mapM_toList]
    rw [Sem.run_bind, Sem.run_map]
    exact (congrArg (fun r => (Result.andThen (Result.andThen r (fun a w' => Result.ok a.toArray w')) (fun a w' => Sem.run P (pure (if h : a.size = 1 then a[0] else Value.tuple a)) w'))) hv1).trans rfl
  have hget : ∀ (i : Nat) (q : PV × List Nat), rs[i]? = some q → (∀ k ∈ q.2, (Bxs.box σ.bx k).isSome) ∧ ∃ x, vs[i]? = some x ∧ Rd (Φ.with W φ q.2) q.1 x := fun i q hq => by
    obtain ⟨k1, x, hx, k2⟩ := hget' i q hq
    exact ⟨k1, x, by simpa [vs] using hx, k2⟩
  have hsz : vs.size = rs.length := by simp [vs, hv2]
  have up : ∀ (i : Nat) (q : PV × List Nat) (x : Value), rs[i]? = some q → Rd (Φ.with W φ q.2) q.1 x → Rd (Φ.with W φ (rs.flatMap Prod.snd)) q.1 x := fun i q x hq h => h.mono fun _ _ _ h => with_mono (fun k hk => List.mem_flatMap.2 ⟨q, List.mem_of_getElem? hq, hk⟩) h
  refine ⟨_, hrun, fun k hk => ?_, ?_⟩
  · obtain ⟨q, hq, hk⟩ := List.mem_flatMap.1 hk
    obtain ⟨i, hi⟩ := List.getElem?_of_mem hq
    exact (hget i q hi).1 k hk
  by_cases h1 : vs.size = 1
  · rw [dif_pos h1]
    obtain ⟨q, rfl⟩ := List.length_eq_one_iff.1 (hsz ▸ h1)
    obtain ⟨_, x, hx, hr⟩ := hget 0 q rfl
    have : vs[0] = x := by
      have := Array.getElem?_eq_getElem (xs := vs) (i := 0) (by omega)
      rw [this] at hx
      exact Option.some.inj hx
    rw [this]
    exact up 0 q x rfl hr
  · rw [dif_neg h1]
    have : retP (rs.map Prod.fst) = .tup (rs.map Prod.fst) := by
      match rs, hsz with
      | [], _ => rfl
      | [q], hs => exact absurd hs h1
      | _ :: _ :: _, _ => rfl
    rw [this]
    refine .tup _ _ (by simp [hsz]) fun i c x hc hx => ?_
    rw [List.getElem?_map] at hc
    obtain ⟨q, hq, rfl⟩ := Option.map_eq_some_iff.1 hc
    obtain ⟨_, y, hy, hr⟩ := hget i q hq
    rw [hx] at hy
    cases hy
    exact up i q x hq hr
/-- the marks are shut, one behind the other -/
theorem leaves_marks {fn : Func} {tmps : Array Value} {R : Ending → World → Prop} {F : Fence} {n : Nat} : ∀ (ds : List Nat) (W : World), ds.Nodup → (∀ D ∈ ds, W.heap[D]? = some (.deferred (some []))) →
    (∀ W', Same W W' → W'.heap.size = W.heap.size → (∀ k, k ∉ ds → W'.heap[k]? = W.heap[k]?) → ∃ v, (results fn tmps).run P W' = .ok v W' ∧ R (.returned v) W') → LeavesInM F n P fn tmps R (ds.map mark) .returning W
  | [], W, _, _, h => by
    obtain ⟨v, h1, h2⟩ := h W (Same.refl W) rfl fun _ _ => rfl
    exact ⟨v, h1, h2⟩
  | D :: ds, W, hn, hd, h => by
    obtain ⟨hn1, hn2⟩ := List.nodup_cons.1 hn
    have hD := hd D (by simp)
    refine ⟨(fun h => nomatch h), .inl ⟨D, _, rfl, run_takeDeferred hD, leaves_marks ds _ hn2 (fun D' hD' => (putObj_other W _ fun e => by subst e; exact hn1 hD').trans (hd D' (by simp [hD']))) fun W' hs hz hk => ?_⟩⟩
    refine h W' ((putObj_same _ _ _).trans hs) (hz.trans (by simp)) fun k hk' => ?_
    simp only [List.mem_cons, not_or] at hk'
    exact (hk k hk'.2).trans (putObj_other W _ hk'.1)
/-- the frame is left -/
theorem Rel.shut (h : Rel E Φ φ al σ a W) {W' : World} (hs : Same W W') (hk : ∀ k, k ∉ E.ds → W'.heap[k]? = W.heap[k]?) : Rel { E with ds := [] } Φ φ al σ { a with defers := [] } W' := by
  have h0 : Rel { E with ds := [] } Φ φ al σ { a with defers := [] } W := { h with defers := rfl, dnd := List.nodup_nil, dlive := fun D hD => nomatch hD }
  refine h0.keep hs fun k hm => hk k fun hd => ?_
  obtain ⟨hf, hD⟩ := h.dlive k hd
  rcases hm with hm | ⟨i, hi, rfl⟩ | ⟨o, u, hu⟩ | hm
  · exact hf hm
  · obtain ⟨B, hB⟩ := Option.isSome_iff_exists.1 hi
    exact h.box_ne hB hd rfl
  · have := h.kn _ _ _ hu
    simp [known, World.cell?, hD] at this
  · cases hm
end
section
variable {P : Program}
theorem init_rel {w : World} {Φ : Known} {E : Env} {n : Nat} {args : List LV} {xs : Array Value} (hfr : ∀ k, E.fr k → k < w.heap.size) (hB : E.B = w) (hΦ0 : E.Φ0 = Φ) (hds : E.ds = []) (hrnd : E.rnd = none) (hgv : E.gv = [])
    (hΦ : ∀ b o u, Φ b o u → known w b o u) (hl : xs.size = args.length) (hr : ∀ (i : Nat) (c : LV) (x : Value), args[i]? = some c → xs[i]? = some x → RelL w Φ (fun _ => 0) (fun _ => False) [] c x) :
    Rel E Φ (fun _ => 0) (fun _ => False) (init n args) { tmps := xs ++ Array.replicate (n - xs.size) undef, defers := [] } w := by
  refine { fram := ⟨by rw [hB], by rw [hB], by rw [hB], by rw [hB]; exact Nat.le_refl _, fun k hk => by rw [hB]; exact hfr k hk, fun k _ => by rw [hB]⟩, kn := hΦ, from_ := fun b o u h => by rw [hΦ0] at h; exact h, new := fun b o u h => .inl (by rw [hΦ0]; exact h), row := fun i B hB => by simp [init, Bxs.box_eq] at hB, apart := fun i j hi => by simp [init, Bxs.box_eq] at hi, dark := fun i hi => by simp [init, Bxs.box_eq] at hi, alb := fun i hi => hi.elim, len := by simp [init, hl], regs := fun t v hv => ?_, glen := by rw [hgv]; rfl, gh := fun t v x hv => by simp [init] at hv, defers := by rw [hds]; rfl, dnd := by rw [hds]; exact List.nodup_nil, dlive := fun D hD => (by rw [hds] at hD; exact nomatch hD), rnd := fun l hl => (by rw [hrnd] at hl; exact nomatch hl) }
  simp only [init] at hv ⊢
  rw [Array.getD_eq_getD_getElem?]
  rw [List.getElem?_append] at hv
  rw [Array.getElem?_append]
  split at hv
  · rename_i hlt
    rw [if_pos (by omega), Array.getElem?_eq_getElem (by omega)]
    exact hr t v _ hv (Array.getElem?_eq_getElem (by omega))
  · rename_i hlt
    rw [if_neg (by omega)]
    rw [List.getElem?_replicate] at hv
    split at hv
    · rename_i h2
      cases hv
      rw [Array.getElem?_replicate, if_pos (by omega)]
      exact .tup [] #[] rfl (by simp)
    · cases hv
/-- A FUNCTION WHOSE CODE, WALKED BY OURS, RETURNS r, DOES SO. -/
theorem does_of_wp (hm : P.follows .mixedOrders = true) {f : FuncId} {fn : Func} {c : Code} {k : K} {ts : List (Nat × Option (Bool × Nat))} {args : List PV} {r : PV} (hf : P.funcs[f]? = some fn) (hname : (fn.name == "runtime.NumGoroutine") = false) (hb : fn.body = some c) (hk : ck P c = some k)
    (hres : fn.results.toList.mapM (resP P) = some ts) (h : wpK P ⟨0, []⟩ k (Returns ts (· = r)) (init fn.ntmps (args.map .p))) : Does P f args r := by
  refine ⟨⟨fn, hf, hname, by simp [hb]⟩, fun w Φ xs hΦ hl hr => ?_⟩
  let E0 : Env := ⟨fun k => k < w.heap.size, w, Φ, [], none, []⟩
  have h0 : Rel E0 Φ (fun _ => 0) (fun _ => False) (init fn.ntmps (args.map .p)) { tmps := xs ++ Array.replicate (fn.ntmps - xs.size) undef, defers := [] } w :=
    init_rel (fun _ h => h) rfl rfl rfl rfl rfl hΦ (by simp [hl]) fun i c x hc hx => by
      rw [List.getElem?_map] at hc
      obtain ⟨p, hp, rfl⟩ := Option.map_eq_some_iff.1 hc
      exact hr i p x hp hx
  refine (callsIn_wide (n := 0)).1 (callsIn_of_wp_marks (F := Fence.wide) hf hb trivial (wpIn_mono (F := Fence.wide) (wpK_sound hm c k hk none (fun _ _ E => ∃ ds, E = { E0 with ds := ds }) ⟨0, []⟩ _ _ _ w 0 (fun _ y s E ds ⟨ds0, e⟩ => ⟨ds, by rw [e]⟩) (yok_none _ _ _) h ⟨E0, _, _, _, h0, rfl, [], rfl⟩) ?_))
  rintro e a W ⟨ex, σ, rfl, hq, E, Φ1, φ, al, hrel, _, ds, rfl⟩
  have key : (∃ rs, ts.mapM (resV σ) = some rs ∧ retP (rs.map Prod.fst) = r) → LeavesInM Fence.wide 0 P fn a.tmps (fun e w' => ∃ x Ψ, e = .returned x ∧ Below w.heap.size w w' ∧ (∀ b o u, Φ b o u → Ψ b o u) ∧ (∀ b o u, Ψ b o u → known w' b o u) ∧ (∀ b o u, Ψ b o u → Φ b o u ∨ w.heap.size ≤ b) ∧ Rd Ψ r x) a.defers .returning W := by
    rintro ⟨rs, hmm, rfl⟩
    rw [hrel.defers]
    refine leaves_marks ds W hrel.dnd (fun D hD => (hrel.dlive D hD).2) fun W' hs hz hk' => ?_
    have hsh := hrel.shut hs hk'
    obtain ⟨v, hv, k1, k2⟩ := results_run hsh hres hmm
    have hfm : Fram E0.fr E0.B W' := hsh.fram
    refine ⟨v, hv, v, _, rfl, ⟨hfm.os, hfm.tape, hfm.output, hfm.size, fun k hk => hfm.block k hk⟩, fun b o u hu => .inl (hsh.from_ b o u hu), fun b o u hu => ?_, fun b o u hu => ?_, k2⟩
    · rcases hu with hu | ⟨_, hu⟩
      · exact hsh.kn b o u hu
      · exact hu
    · rcases hu with hu | ⟨⟨k, hk, rfl⟩, hu⟩
      · rcases hsh.new b o u hu with hu | hu
        · exact .inl hu
        · exact .inr (Nat.le_of_not_lt hu)
      · obtain ⟨B, hB⟩ := Option.isSome_iff_exists.1 (k1 k hk)
        exact .inr (Nat.le_of_not_lt (hsh.row k B hB).2.1)
  cases ex with
  | normal => exact key hq
  | exit id => exact hq.elim
  | ret => exact key hq
/-- what an iterator's code comes to -/
def Ends (n : Nat) : Ex → St → Prop
  | .exit _, _ => False
  | _, σ => σ.stop = true ∨ σ.y = n
/-- AN ITERATOR, BY ITS CODE. -/
theorem iter_of_wp (hm : P.follows .mixedOrders = true) {g : FuncId} {fn : Func} {c : Code} {k : K} {first caps : List PV} {xs : List (List PV)} (hf : P.funcs[g]? = some fn) (hname : (fn.name == "runtime.NumGoroutine") = false) (hb : fn.body = some c) (hk : ck P c = some k)
    (hres : fn.results.toList = []) (hflat : ∀ args ∈ xs, ∀ c ∈ args, Flat c) (h : ∀ l, wpK P ⟨l, xs⟩ k (Ends xs.length) (init fn.ntmps (first.map .p ++ [.yl l] ++ caps.map .p))) : Iter P g first caps xs := by
  refine ⟨⟨fn, hf, hname, by simp [hb]⟩, fun w Φ fs ys hΦ s1 s2 r1 r2 l J Jx hJ0 hJ hJx hround => ?_⟩
  let E0 : Env := ⟨fun k => k < w.heap.size, w, Φ, [], none, []⟩
  have h0 : Rel E0 Φ (fun _ => 0) (fun _ => False) (init fn.ntmps (first.map .p ++ [.yl l] ++ caps.map .p)) { tmps := (fs ++ #[Value.func (.yield l) #[] #[]] ++ ys) ++ Array.replicate (fn.ntmps - (fs ++ #[Value.func (.yield l) #[] #[]] ++ ys).size) undef, defers := [] } w :=
    init_rel (fun _ h => h) rfl rfl rfl rfl rfl hΦ (by simp [s1, s2]; omega) fun i c x hc hx => by
      rw [List.append_assoc, List.getElem?_append] at hc
      rw [Array.append_assoc, Array.getElem?_append] at hx
      simp only [List.length_map] at hc
      rw [s1] at hx
      split at hc
      · rename_i hlt
        rw [if_pos hlt] at hx
        rw [List.getElem?_map] at hc
        obtain ⟨p, hp, rfl⟩ := Option.map_eq_some_iff.1 hc
        exact r1 i p x hp hx
      · rename_i hlt
        rw [if_neg hlt] at hx
        cases hi : i - first.length with
        | zero =>
          rw [hi] at hc hx
          have hc : LV.yl l = c := by simpa using hc
          have hx : Value.func (.yield l) #[] #[] = x := by
            rw [Array.getElem?_append, if_pos (by simp)] at hx
            simpa using hx
          subst hc; subst hx; rfl
        | succ j =>
          rw [hi] at hc hx
          have hc : (caps.map LV.p)[j]? = some c := by simpa using hc
          have hx : ys[j]? = some x := by
            rw [Array.getElem?_append_right (by simp)] at hx
            simpa using hx
          rw [List.getElem?_map] at hc
          obtain ⟨p, hp, rfl⟩ := Option.map_eq_some_iff.1 hc
          exact r2 j p x hp hx
  let L : Link := fun y s E => E.Φ0 = Φ ∧ E.rnd = none ∧ (∀ b o u, Φ b o u → E.fr b) ∧ (s = false → J y (fun k => k < E.B.heap.size ∧ ¬ E.fr k) E.B) ∧ (s = true → Jx (fun k => k < E.B.heap.size ∧ ¬ E.fr k) E.B)
  have hL0 : L 0 false E0 := ⟨rfl, rfl, fun b o u hu => known_lt (hΦ b o u hu), fun _ => hJ 0 _ _ w w hJ0 (Same.refl w) (fun _ _ _ => rfl) (fun _ h => h.elim) (fun k hk => absurd hk.1 hk.2), fun h => nomatch h⟩
  -- the caller's word, carried to the world in which we stand
  have carry : ∀ (E : Env) (W : World), Fram E.fr E.B W → (∀ i, J i (fun k => k < E.B.heap.size ∧ ¬ E.fr k) E.B → J i (fun k => k < W.heap.size ∧ ¬ E.fr k) W) ∧ (Jx (fun k => k < E.B.heap.size ∧ ¬ E.fr k) E.B → Jx (fun k => k < W.heap.size ∧ ¬ E.fr k) W) := fun E W hfm => by
    have c1 : ∀ k, k < E.B.heap.size → ¬ (k < E.B.heap.size ∧ ¬ E.fr k) → W.heap[k]? = E.B.heap[k]? := fun k hk hn => hfm.block k (by
      by_cases hf : E.fr k
      · exact hf
      · exact absurd ⟨hk, hf⟩ hn)
    have c2 : ∀ k, (k < E.B.heap.size ∧ ¬ E.fr k) → (k < W.heap.size ∧ ¬ E.fr k) := fun k hk => ⟨Nat.lt_of_lt_of_le hk.1 hfm.size, hk.2⟩
    have c3 : ∀ k, (k < W.heap.size ∧ ¬ E.fr k) → ((k < E.B.heap.size ∧ ¬ E.fr k) ∨ E.B.heap.size ≤ k) ∧ k < W.heap.size := fun k hk => ⟨by
      rcases Nat.lt_or_ge k E.B.heap.size with h | h
      · exact .inl ⟨h, hk.2⟩
      · exact .inr h, hk.1⟩
    exact ⟨fun i hj => hJ i _ _ _ _ hj hfm.same c1 c2 c3, fun hj => hJx _ _ _ _ hj hfm.same c1 c2 c3⟩
  have hY : Yok P none L ⟨l, xs⟩ := by
    intro E Φ' φ al σ a W args vs hrel hrnd hL hst hxs hsz hrd
    obtain ⟨l1, l2, l3, l4, _⟩ := hL
    have hj := (carry E W hrel.fram).1 _ (l4 rfl)
    obtain ⟨fn', tmps, assign, body, hy1, hr1⟩ := hround σ.y _ W args vs hj hxs hsz fun Ψ i c x hc hx => (hrd i c x hc hx).flat (hflat args (List.mem_of_getElem? hxs) c (List.mem_of_getElem? hc))
    refine ⟨fn', tmps, assign, body, hy1, hr1.mono ?_⟩
    rintro e W' ⟨b, rfl, hs, hO, hΦ', hb1, hb2⟩
    let E' : Env := { E with fr := fun k => k < W'.heap.size ∧ ¬ (k < W.heap.size ∧ ¬ E.fr k), B := W' }
    have hnf : ∀ k, k < W.heap.size → ¬ E.fr k → ¬ E'.fr k := fun k h1 h2 h3 => h3.2 ⟨h1, h2⟩
    have hkn : ∀ b o u, Φ' b o u → known W' b o u := fun b o u hu => by
      rcases hrel.new b o u hu with hu' | hu'
      · rw [l1] at hu'; exact hΦ' b o u hu'
      · exact known_of_block (hrel.kn b o u hu) (hO b ⟨known_lt (hrel.kn b o u hu), hu'⟩)
    have hbox : ∀ i B, Bxs.box σ.bx i = some B → W'.heap[φ i]? = W.heap[φ i]? := fun i B hB => hO _ ⟨hrel.box_lt hB, (hrel.row i B hB).2.1⟩
    have hstep : ∀ v x, RelL W Φ' φ al σ.bx v x → RelL W' Φ' φ al σ.bx v x := fun v x hv => hv.step (fun _ _ _ h => h) (fun _ h => h) fun b B' _ hB => ⟨B', hB, .inr ⟨rfl, rfl, rfl, fun cs hcs => ⟨cs, (hbox b B' hB).trans hcs, rfl⟩⟩⟩
    have hrel' : Rel E' Φ' φ al σ a W' := by
      refine { fram := ⟨rfl, rfl, rfl, Nat.le_refl _, fun k hk => hk.1, fun _ _ => rfl⟩, kn := hkn, from_ := hrel.from_, new := fun b o u hu => ?_, row := fun i B hB => ?_, apart := hrel.apart, dark := hrel.dark, alb := hrel.alb, len := hrel.len, regs := fun t v hv => hstep v _ (hrel.regs t v hv), glen := hrel.glen, gh := fun t v x hv hx => hstep v x (hrel.gh t v x hv hx), defers := hrel.defers, dnd := hrel.dnd, dlive := fun D hD => ?_, rnd := fun l' hl' => ?_ }
      · rcases hrel.new b o u hu with hu' | hu'
        · exact .inl hu'
        · exact .inr (hnf b (known_lt (hrel.kn b o u hu)) hu')
      · obtain ⟨q1, q2, cs, q3, q4, q5⟩ := hrel.row i B hB
        refine ⟨q1, hnf _ (heap_lt q3) q2, cs, (hbox i B hB).trans q3, q4, fun j c hc => ?_⟩
        obtain ⟨x, x1, x2, x3⟩ := q5 j c hc
        exact ⟨x, x1, x2, hstep c x x3⟩
      · obtain ⟨q1, q2⟩ := hrel.dlive D hD
        exact ⟨hnf D (heap_lt q2) q1, (hO D ⟨heap_lt q2, q1⟩).trans q2⟩
      · have : E.rnd = some l' := hl'
        rw [l2] at this; cases this
    refine ⟨b, rfl, E', Φ', hrel', hrnd, l1, l2, fun b o u hu => ⟨?_, fun hn => hn.2 (l3 b o u hu)⟩, fun hs' => ?_, fun hs' => ?_⟩
    · exact known_lt (hΦ' b o u hu)
    · have hb : b = true := by simpa using hs'
      refine hJ _ _ _ W' W' (hb1 hb) (Same.refl _) (fun _ _ _ => rfl) (fun k hk => ⟨Nat.lt_of_lt_of_le hk.1 hs.size, fun hf => hf.2 hk⟩) fun k hk => ⟨.inl ?_, hk.1⟩
      by_cases hc : k < W.heap.size ∧ ¬ E.fr k
      · exact hc
      · exact absurd ⟨hk.1, hc⟩ hk.2
    · have hb : b = false := by simpa using hs'
      refine hJx _ _ W' W' (hb2 hb) (Same.refl _) (fun _ _ _ => rfl) (fun k hk => ⟨Nat.lt_of_lt_of_le hk.1 hs.size, fun hf => hf.2 hk⟩) fun k hk => ⟨.inl ?_, hk.1⟩
      by_cases hc : k < W.heap.size ∧ ¬ E.fr k
      · exact hc
      · exact absurd ⟨hk.1, hc⟩ hk.2
  refine (callsIn_wide (n := 0)).1 (callsIn_of_wp_marks (F := Fence.wide) hf hb trivial (wpIn_mono (F := Fence.wide) (wpK_sound hm c k hk none L ⟨l, xs⟩ _ _ _ w 0 (fun _ y s E ds h => h) hY (h l) ⟨E0, _, _, _, h0, rfl, hL0⟩) ?_))
  rintro e a W ⟨ex, σ, rfl, hq, E, Φ1, φ, al, hrel, _, l1, l2, l3, l4, l5⟩
  have key : (σ.stop = true ∨ σ.y = xs.length) → LeavesInM Fence.wide 0 P fn a.tmps (fun e w' => ∃ x O, e = .returned x ∧ (J xs.length O w' ∨ Jx O w')) a.defers .returning W := by
    intro hend
    rw [hrel.defers]
    refine leaves_marks E.ds W hrel.dnd (fun D hD => (hrel.dlive D hD).2) fun W' hs hz hk' => ?_
    have hsh := hrel.shut hs hk'
    obtain ⟨c1, c2⟩ := carry E W' hsh.fram
    have hemp : fn.results = #[] := by
      apply Array.eq_empty_of_size_eq_zero
      rw [← Array.length_toList, hres]; rfl
    refine ⟨.tuple #[], results_none hemp a.tmps P W', _, (fun k => k < W'.heap.size ∧ ¬ E.fr k), rfl, ?_⟩
    cases hst : σ.stop with
    | true => exact .inr (c2 (l5 hst))
    | false =>
      rcases hend with he | he
      · rw [hst] at he; cases he
      · refine .inl ?_
        have := c1 _ (l4 hst)
        rw [he] at this
        exact this
  cases ex with
  | normal => exact key hq
  | exit id => exact hq.elim
  | ret => exact key hq
end
end
end Go.Proofs.Ytcamoojddlpbgaa.V
