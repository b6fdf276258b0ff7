import Derived.Test.YtcamoojddlpbgaaWb
import Derived.OrdersIn
import Derived.TacticsIn
import Derived.RangeFuncLeaves
import Derived.RangeFuncNested
namespace Go.Proofs.Ytcamoojddlpbgaa.V
set_option linter.unusedVariables false
set_option linter.unusedSimpArgs false
open Go.RowKit
noncomputable section
section
variable {E : Env} {W : World} {Φ : Known} {φ : Nat → Nat} {al : Nat → Prop} {σ : St} {a : Act} {P : Program} {o : Oper} {ef : Ef}
theorem frz_args (h : Rel E Φ φ al σ a W) {xs : Array Operand} {ys : List Opd} {vs : List (PV × List Nat)} (hx : xs.toList.mapM opd = some ys) (hv : (ys.mapM fun y => frz σ.bx 3 (σ.get y)) = some vs) :
    (∀ k ∈ vs.flatMap Prod.snd, (Bxs.box σ.bx k).isSome) ∧ (xs.map a.eval).size = (vs.map Prod.fst).length ∧ ∀ (i : Nat) (c : PV) (x : Value), (vs.map Prod.fst)[i]? = some c → (xs.map a.eval)[i]? = some x → Rd (Φ.with W φ (vs.flatMap Prod.snd)) c x := by
  obtain ⟨l1, g1⟩ := mapM_get hx
  obtain ⟨l2, g2⟩ := mapM_get hv
  have get : ∀ (i : Nat) (q : PV × List Nat), vs[i]? = some q → ∃ x, xs[i]? = some x ∧ (∀ k ∈ q.2, (Bxs.box σ.bx k).isSome) ∧ Rd (Φ.with W φ q.2) q.1 (a.eval x) := fun i q hq => by
    have hlt : i < xs.toList.length := by
      have := (List.getElem?_eq_some_iff.1 hq).1
      omega
    obtain ⟨y, y1, y2⟩ := g1 i _ (List.getElem?_eq_getElem hlt)
    obtain ⟨q', q1, q2⟩ := g2 i y y2
    rw [hq] at q2
    cases q2
    obtain ⟨k1, k2⟩ := frz_rd h 3 _ q.1 q.2 _ q1 (h.opd y1)
    exact ⟨_, by rw [← Array.getElem?_toList]; exact List.getElem?_eq_getElem hlt, k1, k2⟩
  refine ⟨fun k hk => ?_, by simp at l1 ⊢; omega, fun i c x hc hx' => ?_⟩
  · obtain ⟨q, hq, hk⟩ := List.mem_flatMap.1 hk
    obtain ⟨i, hi⟩ := List.getElem?_of_mem hq
    obtain ⟨_, _, k1, _⟩ := get i q hi
    exact k1 k hk
  · rw [List.getElem?_map] at hc
    obtain ⟨q, hq, rfl⟩ := Option.map_eq_some_iff.1 hc
    obtain ⟨x', x1, _, x2⟩ := get i q hq
    rw [Array.getElem?_map, x1] at hx'
    cases hx'
    exact x2.mono fun _ _ _ h => with_mono (fun k hk => List.mem_flatMap.2 ⟨q, List.mem_of_getElem? hq, hk⟩) h
theorem with_nil {b q : Nat} {u : Value} (h : Φ.with W φ [] b q u) : Φ b q u := by
  rcases h with h | ⟨⟨k, hk, _⟩, _⟩
  · exact h
  · cases hk
theorem sim_fn (h : Rel E Φ φ al σ a W) {f : FuncId} {c d : Array Operand} {c' d' : List Opd} (ho : o.op = .makeFunc (.func f) c d) (hc : c.toList.mapM opd = some c') (hd : d.toList.mapM opd = some d') (he : eff σ (.fn f c' d') = some ef) : Sim P o a W Φ φ al σ.bx ef := by
  simp only [eff] at he
  obtain ⟨u, hu, he⟩ := Option.bind_eq_some_iff.1 he
  obtain ⟨v, hv, he⟩ := Option.bind_eq_some_iff.1 he
  obtain rfl := Option.some.inj he
  obtain ⟨k1, s1, r1⟩ := frz_args h hc hu
  obtain ⟨k2, s2, r2⟩ := frz_args h hd hv
  have hr : Rd (Φ.with W φ (u.flatMap Prod.snd ++ v.flatMap Prod.snd)) (.fn f (u.map Prod.fst) (v.map Prod.fst)) (.func (.func f) (c.map a.eval) (d.map a.eval)) :=
    .fn _ _ _ _ _ s1 s2 (fun i c x hc hx => (r1 i c x hc hx).mono fun _ _ _ h => with_mono (fun k hk => List.mem_append_left _ hk) h) (fun i c x hc hx => (r2 i c x hc hx).mono fun _ _ _ h => with_mono (fun k hk => List.mem_append_right _ hk) h)
  have hrun : (execOp a.eval o).run P W = .ok (.value (.func (.func f) (c.map a.eval) (d.map a.eval))) W := by simp [execOp, ho, Instr.makeFunc]
  by_cases hk : (u.flatMap Prod.snd ++ v.flatMap Prod.snd).isEmpty = true
  · rw [if_pos hk]
    refine ⟨_, hrun, ?_⟩
    have : u.flatMap Prod.snd ++ v.flatMap Prod.snd = [] := by simpa using hk
    rw [this] at hr
    exact hr.mono fun _ _ _ h => with_nil h
  · rw [if_neg hk]
    refine ⟨fun k hk => ?_, _, hrun, hr⟩
    rcases List.mem_append.1 hk with hk | hk
    · exact k1 k hk
    · exact k2 k hk
theorem run_yld {l : Nat} {x : Operand} {xs : Array Operand} {ts : Array TypeId} (ho : o.op = .call { callee := .value x, args := xs, argTypes := ts }) (hx : a.eval x = .func (.yield l) #[] #[]) :
    (execOp a.eval o).run P W = (Instr.yield l (xs.map a.eval)).run P W := by
  simp [execOp, ho, resolve, hx, Deferred.ofValue, invoke]
theorem run_enter {f : FuncId} {c d : Array Value} {x : Operand} {xs : Array Operand} {ts : Array TypeId} (ho : o.op = .call { callee := .value x, args := xs, argTypes := ts }) (hx : a.eval x = .func (.func f) c d) (hf : GoodF P f) :
    (execOp a.eval o).run P W = .ok (.enter f (c ++ xs.map a.eval ++ d)) W := by
  obtain ⟨fn, h1, h2, h3⟩ := hf
  have h2' : ¬ fn.name = "runtime.NumGoroutine" := by simpa using h2
  simp [execOp, ho, resolve, hx, Deferred.ofValue, invoke, callFunc, h1, h2', Option.isNone_iff_eq_none, Option.isSome_iff_ne_none.1 h3]
theorem sim_call (h : Rel E Φ φ al σ a W) {f : FuncId} {xs : Array Operand} {ts : Array TypeId} {ys : List Opd} (ho : o.op = .call { callee := .value (.func f), args := xs, argTypes := ts }) (hx : xs.toList.mapM opd = some ys) (he : eff σ (.call f ys) = some ef) : Sim P o a W Φ φ al σ.bx ef := by
  simp only [eff] at he
  obtain ⟨vs, hv, he⟩ := Option.bind_eq_some_iff.1 he
  obtain rfl := Option.some.inj he
  obtain ⟨h1, h2, h3⟩ := frz_args h hx hv
  exact ⟨h1, fun hf => ⟨xs.map a.eval, by have := run_enter (a := a) (W := W) (c := #[]) (d := #[]) ho rfl hf; simpa using this, h2, h3⟩⟩
theorem sim_callv (h : Rel E Φ φ al σ a W) {x : Operand} {x' : Opd} {xs : Array Operand} {ts : Array TypeId} {ys : List Opd} (ho : o.op = .call { callee := .value x, args := xs, argTypes := ts }) (hq : opd x = some x') (hx : xs.toList.mapM opd = some ys) (he : eff σ (.callv x' ys) = some ef) : Sim P o a W Φ φ al σ.bx ef := by
  have h0 := h.opd hq
  simp only [eff] at he
  split at he <;> try (cases he; done)
  case h_2 l e1 =>
    rw [e1] at h0
    obtain ⟨vs, hv, he'⟩ := Option.bind_eq_some_iff.1 he
    obtain rfl := Option.some.inj he'
    obtain ⟨l1, g1⟩ := mapM_get hx
    obtain ⟨l2, g2⟩ := mapM_get hv
    refine ⟨xs.map a.eval, run_yld ho h0, by simp at l1 ⊢; omega, fun i v y hv hy => ?_⟩
    rw [Array.getElem?_map] at hy
    obtain ⟨x, hx, rfl⟩ := Option.map_eq_some_iff.1 hy
    obtain ⟨x', q1, q2⟩ := g1 i x (by simpa using hx)
    obtain ⟨v', q3, q4⟩ := g2 i x' q2
    rw [hv] at q4
    cases q4
    have := h.opd q1
    unfold LV.pv at q3
    split at q3
    · rename_i e
      cases q3
      rw [e] at this
      exact this
    · cases q3
  rename_i f c d e1
  rw [e1] at h0
  obtain ⟨ps, qs, ex, s1, s2, r1, r2⟩ := rd_fn h0
  obtain ⟨vs, hv, he'⟩ := Option.bind_eq_some_iff.1 he
  obtain rfl := Option.some.inj he'
  obtain ⟨h1, h2, h3⟩ := frz_args h hx hv
  refine ⟨h1, fun hf => ⟨ps ++ xs.map a.eval ++ qs, run_enter ho ex hf, by simp at h2 ⊢; omega, fun i v u hi hu => ?_⟩⟩
  have up : ∀ {v u}, Rd Φ v u → Rd (Φ.with W φ (vs.flatMap Prod.snd)) v u := fun h => h.mono fun _ _ _ h => .inl h
  rw [List.append_assoc, List.getElem?_append] at hi
  rw [Array.append_assoc, Array.getElem?_append] at hu
  rw [s1] at hu
  split at hi
  · rename_i hlt
    rw [if_pos hlt] at hu
    exact up (r1 i v u hi hu)
  · rename_i hlt
    rw [if_neg hlt] at hu
    rw [List.getElem?_append] at hi
    rw [Array.getElem?_append, h2] at hu
    split at hi
    · rename_i hl2
      rw [if_pos hl2] at hu
      exact h3 _ v u hi hu
    · rename_i hl2
      rw [if_neg hl2] at hu
      exact up (r2 _ v u hi hu)
theorem run_partInt {t : TypeId} {k : IntKind} {xs : Array Value} {off : Nat} {v : Value} (hu : P.underlying t = some (.int k)) (hv : xs[off]? = some v) (W : World) : (part t xs off).run P W = .ok v W := by
  have : aggB P t = some false := by simp [aggB, hu]
  simp [part, run_agg this, hv]
theorem eqf_ints (d : Nat) (xs ys : Array Value) (W : World) : ∀ (fs : List Field) (k : Nat) (ps qs : List PV) (r : Bool), ps.length = fs.length → (∀ (i : Nat) (f : Field), fs[i]? = some f → f.offset = k + i ∧ (f.name != "_") = true ∧ ∃ q, P.underlying f.type = some (.int q)) →
    intPs ps qs = some r → (∀ (i : Nat) (c : PV), ps[i]? = some c → ∃ u, xs[k + i]? = some u ∧ Rd Φ c u) → (∀ (i : Nat) (c : PV), qs[i]? = some c → ∃ u, ys[k + i]? = some u ∧ Rd Φ c u) → (Op.eqFields (d + 1) xs ys fs).run P W = .ok r W
  | [], k, ps, qs, r, hl, _, hr, _, _ => by
    obtain rfl : ps = [] := List.eq_nil_of_length_eq_zero (by simpa using hl)
    cases qs with
    | nil => cases hr; simp [Op.eqFields]
    | cons q qs => simp [intPs] at hr
  | f :: fs, k, ps, qs, r, hl, hf, hr, h1, h2 => by
    obtain ⟨p, ps, rfl⟩ : ∃ p ps', ps = p :: ps' := by
      cases ps with
      | nil => simp at hl
      | cons p ps => exact ⟨p, ps, rfl⟩
    cases qs with
    | nil => cases p <;> simp [intPs] at hr
    | cons q qs =>
      cases p <;> try (simp [intPs] at hr; done)
      rename_i kx x
      cases q <;> try (simp [intPs] at hr; done)
      rename_i ky y
      simp only [intPs] at hr
      obtain ⟨s, hs, hr⟩ := Option.bind_eq_some_iff.1 hr
      by_cases hk : kx = ky
      case neg => rw [if_neg hk] at hr; cases hr
      rw [if_pos hk] at hr
      obtain rfl := Option.some.inj hr
      subst hk
      obtain ⟨o1, o2, q, o3⟩ := hf 0 f rfl
      obtain ⟨u, u1, u2⟩ := h1 0 _ rfl
      obtain ⟨v, v1, v2⟩ := h2 0 _ rfl
      obtain rfl := rd_int u2
      obtain rfl := rd_int v2
      simp only [Nat.add_zero] at o1 u1 v1
      have ih := eqf_ints d xs ys W fs (k + 1) ps qs s (by simpa using hl) (fun i f h => by
        obtain ⟨a1, a2⟩ := hf (i + 1) f (by simpa using h)
        exact ⟨by omega, a2⟩) hs (fun i c h => by
        have := h1 (i + 1) c (by simpa using h)
        rwa [show k + 1 + i = k + (i + 1) by omega]) (fun i c h => by
        have := h2 (i + 1) c (by simpa using h)
        rwa [show k + 1 + i = k + (i + 1) by omega])
      rw [Op.eqFields]
      have hn : f.name ≠ "_" := by simpa using o2
      rw [← o1] at u1 v1
      simp only [if_pos hn, Sem.run_bind, run_partInt o3 u1, run_partInt o3 v1, Result.andThen_ok, run_equalIn_int W d f.type kx q x y o3]
      cases h : (x == y)
      · simp
      · simpa using ih
theorem sim_eqs (h : Rel E Φ φ al σ a W) {op : BinOp} {t u : TypeId} {n : Nat} {neg : Bool} {x y : Operand} {x' y' : Opd} (ho : o.op = .binOp op t x y u) (hop : op = if neg then .neq else .eql)
    {fs : Array Field} (hu : P.underlying t = some (.struct fs)) (hi : intFields P fs = true) (hp : P.stoodInHeld t = false) (hg : P.eqGuardType P.depth t = false) (hn : n = fs.size) (hx : opd x = some x') (hy : opd y = some y') (he : eff σ (.eqs neg n x' y') = some ef) : Sim P o a W Φ φ al σ.bx ef := by
  have h1 := h.opd hx
  have h2 := h.opd hy
  simp only [eff] at he
  split at he <;> try (cases he; done)
  · rename_i p q e1 e2
    by_cases hl : p.length = n
    case neg => rw [if_neg hl] at he; cases he
    rw [if_pos hl] at he
    obtain ⟨r, hr, rfl⟩ := Option.map_eq_some_iff.1 he
    rw [e1] at h1
    rw [e2] at h2
    obtain ⟨xs, ex, s1, r1⟩ := rd_agg h1
    obtain ⟨ys, ey, s2, r2⟩ := rd_agg h2
    · have hfl : P.fieldsOf t = fs := by simp [Program.fieldsOf, hu]
      have heq : (Op.equalIn 10000 t (.agg xs) (.agg ys)).run P W = .ok r W := by
        rw [run_equalIn_struct (P := P) W 9999 t xs ys (by rw [hfl]; exact hu) hp, hfl]
        refine eqf_ints (Φ := Φ) 9998 xs ys W fs.toList 0 p q r (by simp; omega) (fun i f hf => ?_) hr (fun i c hc => ?_) (fun i c hc => ?_)
        · have hlt : i < fs.size := by
            have := (List.getElem?_eq_some_iff.1 hf).1
            simpa using this
          have := List.all_eq_true.1 hi i (List.mem_range.2 hlt)
          rw [← Array.getElem?_toList, hf] at this
          simp only [Bool.and_eq_true, beq_iff_eq] at this
          obtain ⟨⟨a1, a2⟩, a3⟩ := this
          refine ⟨by omega, a2, ?_⟩
          split at a3
          · rename_i q hq; exact ⟨q, hq⟩
          · cases a3
        · rw [Nat.zero_add]
          have hlt : i < xs.size := by rw [s1]; exact (List.getElem?_eq_some_iff.1 hc).1
          exact ⟨xs[i], Array.getElem?_eq_getElem hlt, r1 i c _ hc (Array.getElem?_eq_getElem hlt)⟩
        · rw [Nat.zero_add]
          have hlt : i < ys.size := by rw [s2]; exact (List.getElem?_eq_some_iff.1 hc).1
          exact ⟨ys[i], Array.getElem?_eq_getElem hlt, r2 i c _ hc (Array.getElem?_eq_getElem hlt)⟩
      refine ⟨.bool (r != neg), ?_, .bool _⟩
      have hgd : ∀ op, (eqGuard op t x y (.agg xs) (.agg ys)).run P W = .ok () W := fun op => by
        unfold eqGuard
        cases op <;> simp [hg]
      cases neg
      · simp only [Bool.false_eq_true, if_false] at hop
        subst hop
        simp [execOp, ho, ex, ey, hgd, run_eql_struct, heq]
      · simp only [if_true] at hop
        subst hop
        simp [execOp, ho, ex, ey, hgd, run_neq_struct, heq]
theorem sim_eqb (h : Rel E Φ φ al σ a W) {op : BinOp} {t u : TypeId} {neg : Bool} {x y : Operand} {x' y' : Opd} (ho : o.op = .binOp op t x y u) (hop : op = if neg then .neq else .eql) (ht : P.underlying t = some .bool) (hx : opd x = some x') (hy : opd y = some y')
    (he : eff σ (.eqb neg x' y') = some ef) : Sim P o a W Φ φ al σ.bx ef := by
  have h1 := h.opd hx
  have h2 := h.opd hy
  simp only [eff] at he
  split at he <;> try (cases he; done)
  rename_i p q e1 e2
  obtain rfl := Option.some.inj he
  rw [e1] at h1
  rw [e2] at h2
  have heq : (Op.equal t (.bool p) (.bool q)).run P W = .ok (p == q) W := run_equalIn_bool W 9999 t p q ht
  refine ⟨.bool ((p == q) != neg), ?_, .bool _⟩
  cases neg
  · simp only [Bool.false_eq_true, if_false] at hop
    subst hop
    simp [execOp, ho, rd_bool h1, rd_bool h2, eqGuard, binOp, heq]
  · simp only [if_true] at hop
    subst hop
    simp [execOp, ho, rd_bool h1, rd_bool h2, eqGuard, binOp, heq]
/-- EACH OPERATION DOES WHAT ITS EFFECT SAYS. -/
theorem sim (h : Rel E Φ φ al σ a W) {A : A} (hc : cop P o = some A) (he : eff σ A = some ef) : Sim P o a W Φ φ al σ.bx ef := by
  unfold cop at hc
  split at hc
  · rename_i x ho
    obtain ⟨y, hy, rfl⟩ := Option.map_eq_some_iff.1 hc
    exact sim_mv h (.inl ho) hy he
  · rename_i x ho
    obtain ⟨y, hy, rfl⟩ := Option.map_eq_some_iff.1 hc
    exact sim_mv h (.inr ho) hy he
  · rename_i x ho
    obtain ⟨y, hy, rfl⟩ := Option.map_eq_some_iff.1 hc
    exact sim_nchk h ho hy he
  · rename_i c x y ho
    obtain ⟨c', h1, hc⟩ := Option.bind_eq_some_iff.1 hc
    obtain ⟨x', h2, hc⟩ := Option.bind_eq_some_iff.1 hc
    obtain ⟨y', h3, hc⟩ := Option.bind_eq_some_iff.1 hc
    cases hc
    exact sim_pick h ho h1 h2 h3 he
  · rename_i t ho
    obtain ⟨z, h1, hc⟩ := Option.bind_eq_some_iff.1 hc
    cases hc
    exact sim_alloc h ho h1 he
  · rename_i t x ho
    obtain ⟨y, hy, rfl⟩ := Option.map_eq_some_iff.1 hc
    exact sim_box h ho hy he
  · rename_i t ps ho
    split at hc <;> try (cases hc; done)
    rename_i fs hu
    obtain ⟨z, h1, hc⟩ := Option.bind_eq_some_iff.1 hc
    obtain ⟨pl, h2, hc⟩ := Option.bind_eq_some_iff.1 hc
    obtain ⟨qs, h3, hc⟩ := Option.bind_eq_some_iff.1 hc
    cases hc
    exact sim_build h ho hu h1 h2 h3 he
  · rename_i t n ps ho
    split at hc <;> try (cases hc; done)
    rename_i e hu
    obtain ⟨z, h1, hc⟩ := Option.bind_eq_some_iff.1 hc
    obtain ⟨s, h2, hc⟩ := Option.bind_eq_some_iff.1 hc
    obtain ⟨g, h3, hc⟩ := Option.bind_eq_some_iff.1 hc
    obtain ⟨qs, h4, hc⟩ := Option.bind_eq_some_iff.1 hc
    obtain ⟨i, hi, rfl⟩ := Option.map_eq_some_iff.1 h2
    by_cases hh : n * i.size ≤ 2 ^ 24 ∧ 0 < i.size ∧ z.cells.length = i.size ∧ (n = 0 → qs = [])
    case neg => rw [if_neg hh] at hc; cases hc
    rw [if_pos hh] at hc
    cases hc
    exact sim_lit h ho hu hi h1 hh.2.2.1 hh.2.1 hh.1 hh.2.2.2 h4 he
  · rename_i t x ho
    obtain ⟨g, h1, hc⟩ := Option.bind_eq_some_iff.1 hc
    obtain ⟨n, h2, hc⟩ := Option.bind_eq_some_iff.1 hc
    obtain ⟨y, h3, hc⟩ := Option.bind_eq_some_iff.1 hc
    cases hc
    exact sim_ld h ho h1 h2 h3 he
  · rename_i t x v ho
    obtain ⟨n, h2, hc⟩ := Option.bind_eq_some_iff.1 hc
    obtain ⟨y, h3, hc⟩ := Option.bind_eq_some_iff.1 hc
    obtain ⟨u, h4, hc⟩ := Option.bind_eq_some_iff.1 hc
    cases hc
    exact sim_st h ho h2 h3 h4 he
  · rename_i op t x y u ho
    obtain ⟨x', h1, hc⟩ := Option.bind_eq_some_iff.1 hc
    obtain ⟨y', h2, hc⟩ := Option.bind_eq_some_iff.1 hc
    have eqA_spec : ∀ {op : BinOp} {k : Bool → Go.Proofs.Ytcamoojddlpbgaa.V.A} {r}, eqA op k = some r → ∃ n, r = k n ∧ op = if n then .neq else .eql := fun {op k r} hq => by
      unfold eqA at hq
      split at hq
      · cases hq; exact ⟨false, rfl, rfl⟩
      · cases hq; exact ⟨true, rfl, rfl⟩
      · cases hq
    split at hc <;> try (cases hc; done)
    · by_cases hh : arith op = true
      case neg => rw [if_neg hh] at hc; cases hc
      rw [if_pos hh] at hc
      cases hc
      exact sim_bin h ho hh h1 h2 he
    · rename_i ht
      obtain ⟨n, rfl, hop⟩ := eqA_spec hc
      exact sim_eqb h ho hop ht h1 h2 he
    · rename_i fs ht
      by_cases hh : (intFields P fs && !P.stoodInHeld t && !P.eqGuardType P.depth t) = true
      case neg => rw [if_neg hh] at hc; cases hc
      rw [if_pos hh] at hc
      obtain ⟨n, rfl, hop⟩ := eqA_spec hc
      simp only [Bool.and_eq_true, Bool.not_eq_true'] at hh
      exact sim_eqs h ho hop ht hh.1.1 hh.1.2 hh.2 rfl h1 h2 he
  · rename_i t x ho
    obtain ⟨y, hy, rfl⟩ := Option.map_eq_some_iff.1 hc
    exact sim_neg h ho hy he
  · rename_i t x ho
    obtain ⟨y, hy, rfl⟩ := Option.map_eq_some_iff.1 hc
    exact sim_not h ho hy he
  · rename_i t x k ho
    split at hc <;> try (cases hc; done)
    rename_i fs hu
    obtain ⟨f, h1, hc⟩ := Option.bind_eq_some_iff.1 hc
    obtain ⟨n, h2, hc⟩ := Option.bind_eq_some_iff.1 hc
    by_cases hn : n = 0
    · rw [if_pos hn] at hc; cases hc
    rw [if_neg hn] at hc
    obtain ⟨y, h3, hc⟩ := Option.bind_eq_some_iff.1 hc
    cases hc
    exact sim_fa h ho hu h1 h2 hn h3 he
  · rename_i t x k ho
    split at hc <;> try (cases hc; done)
    rename_i fs hu
    obtain ⟨f, h1, hc⟩ := Option.bind_eq_some_iff.1 hc
    obtain ⟨g, h2, hc⟩ := Option.bind_eq_some_iff.1 hc
    obtain ⟨n, h3, hc⟩ := Option.bind_eq_some_iff.1 hc
    obtain ⟨y, h4, hc⟩ := Option.bind_eq_some_iff.1 hc
    cases hc
    exact sim_fl h ho hu h1 h2 h3 h4 he
  · rename_i t x i ho
    split at hc <;> try (cases hc; done)
    rename_i e hu
    obtain ⟨n, h1, hc⟩ := Option.bind_eq_some_iff.1 hc
    obtain ⟨y, h2, hc⟩ := Option.bind_eq_some_iff.1 hc
    obtain ⟨j, h3, hc⟩ := Option.bind_eq_some_iff.1 hc
    cases hc
    exact sim_ix h ho hu h1 h2 h3 he
  · rename_i t x lo hi ho
    split at hc <;> try (cases hc; done)
    rename_i e hu
    obtain ⟨y, h1, hc⟩ := Option.bind_eq_some_iff.1 hc
    obtain ⟨l, h2, hc⟩ := Option.bind_eq_some_iff.1 hc
    obtain ⟨r, h3, hc⟩ := Option.bind_eq_some_iff.1 hc
    obtain ⟨n, h4, hc⟩ := Option.bind_eq_some_iff.1 hc
    cases hc
    exact sim_cut h ho hu h4 h1 h2 h3 he
  · rename_i f c d ho
    obtain ⟨c', h1, hc⟩ := Option.bind_eq_some_iff.1 hc
    obtain ⟨d', h2, hc⟩ := Option.bind_eq_some_iff.1 hc
    cases hc
    exact sim_fn h ho h1 h2 he
  · rename_i x i ho
    obtain ⟨y, h1, hc⟩ := Option.bind_eq_some_iff.1 hc
    cases hc
    exact sim_ext h ho h1 he
  · rename_i c ho
    obtain ⟨callee, as, ts⟩ := c
    have lst : ∀ {α : Type} {a : Array α} {l : List α}, a.toList = l → a = l.toArray := fun h => by rw [← h]
    simp only at hc
    split at hc <;> try (cases hc; done)
    · rename_i f e
      obtain ⟨ys, h1, hc⟩ := Option.bind_eq_some_iff.1 hc
      cases hc
      exact sim_call h ho h1 he
    · rename_i x hx e
      obtain ⟨y, h1, hc⟩ := Option.bind_eq_some_iff.1 hc
      obtain ⟨ys, h2, hc⟩ := Option.bind_eq_some_iff.1 hc
      cases hc
      exact sim_callv h ho h1 h2 he
    · split at hc <;> try (cases hc; done)
      rename_i t u x y e1 e2
      obtain rfl := lst e1
      obtain rfl := lst e2
      split at hc <;> try (cases hc; done)
      rename_i e e' hu hu'
      by_cases htu : t = u
      case neg => rw [if_pos htu] at hc; cases hc
      rw [if_neg (by simpa using htu)] at hc
      subst htu
      obtain ⟨i, h1, hc⟩ := Option.bind_eq_some_iff.1 hc
      obtain ⟨z, h2, hc⟩ := Option.bind_eq_some_iff.1 hc
      obtain ⟨g, h3, hc⟩ := Option.bind_eq_some_iff.1 hc
      by_cases hh : z.cells.length = i.size ∧ 0 < i.size
      case neg => rw [if_neg hh] at hc; cases hc
      rw [if_pos hh] at hc
      obtain ⟨x', h4, hc⟩ := Option.bind_eq_some_iff.1 hc
      obtain ⟨y', h5, hc⟩ := Option.bind_eq_some_iff.1 hc
      cases hc
      exact sim_app h ho hu h1 h2 hh.1 hh.2 h4 h5 he
    · split at hc <;> try (cases hc; done)
      rename_i t x e1 e2
      obtain rfl := lst e1
      obtain rfl := lst e2
      split at hc <;> try (cases hc; done)
      · rename_i e hu
        obtain ⟨y, h1, hc⟩ := Option.bind_eq_some_iff.1 hc
        cases hc
        exact sim_len h ho (by simpa using ⟨e, hu⟩) h1 he
      · rename_i hu
        obtain ⟨y, h1, hc⟩ := Option.bind_eq_some_iff.1 hc
        cases hc
        exact sim_len h ho (by simpa using hu) h1 he
    · split at hc <;> try (cases hc; done)
      rename_i x y e1
      obtain rfl := lst e1
      obtain ⟨x', h1, hc⟩ := Option.bind_eq_some_iff.1 hc
      obtain ⟨y', h2, hc⟩ := Option.bind_eq_some_iff.1 hc
      cases hc
      exact sim_max h ho h1 h2 he
    · split at hc <;> try (cases hc; done)
      rename_i x y e1
      obtain rfl := lst e1
      obtain ⟨x', h1, hc⟩ := Option.bind_eq_some_iff.1 hc
      obtain ⟨y', h2, hc⟩ := Option.bind_eq_some_iff.1 hc
      cases hc
      exact sim_min h ho h1 h2 he
  · cases hc
end
theorem Bxs.box_fz (bx : Bxs) (ks : List Nat) (i : Nat) : (bx.fz ks).box i = if ks.contains i then none else (bx.box i).map (Box.fz bx ks) := by
  unfold Bxs.fz
  simp only [Bxs.box_eq]
  rw [List.getElem?_mapIdx]
  cases h : bx[i]? with
  | none => simp
  | some B => by_cases hk : ks.contains i = true <;> simp [hk]
section
variable {E : Env} {W : World} {Φ : Known} {φ : Nat → Nat} {al : Nat → Prop} {σ : St} {a : Act} {P : Program} {o : Oper} {ef : Ef}
theorem Rel.fz (h : Rel E Φ φ al σ a W) (ks : List Nat) (hks : ∀ k ∈ ks, (Bxs.box σ.bx k).isSome) : Rel E (Φ.with W φ ks) φ al (σ.fz ks) a W ∧ ∀ v x, RelL W Φ φ al σ.bx v x → RelL W (Φ.with W φ ks) φ al (Bxs.fz σ.bx ks) (LV.fz σ.bx ks v) x := by
  have hsome : ∀ {i B}, Bxs.box (Bxs.fz σ.bx ks) i = some B → i ∉ ks ∧ ∃ B0, Bxs.box σ.bx i = some B0 ∧ B = Box.fz σ.bx ks B0 := fun {i B} hB => by
    rw [Bxs.box_fz] at hB
    split at hB
    · cases hB
    · rename_i hn
      obtain ⟨B0, h1, h2⟩ := Option.map_eq_some_iff.1 hB
      exact ⟨by simpa using hn, B0, h1, h2.symm⟩
  have hlive : ∀ {i}, (Bxs.box (Bxs.fz σ.bx ks) i).isSome → i ∉ ks ∧ (Bxs.box σ.bx i).isSome := fun {i} hi => by
    obtain ⟨B, hB⟩ := Option.isSome_iff_exists.1 hi
    obtain ⟨h1, B0, h2, _⟩ := hsome hB
    exact ⟨h1, by simp [h2]⟩
  have hkeep : ∀ v x, RelL W Φ φ al σ.bx v x → RelL W (Φ.with W φ ks) φ al (Bxs.fz σ.bx ks) v x := fun v x hv => hv.step (fun _ _ _ h => .inl h) (fun _ h => h) fun b B' _ hB => by
    obtain ⟨_, B0, h1, rfl⟩ := hsome hB
    exact ⟨B0, h1, .inr ⟨rfl, rfl, rfl, fun cs hcs => ⟨cs, hcs, rfl⟩⟩⟩
  have hfrz : ∀ v x p js, frz σ.bx 3 v = some (p, js) → js.all ks.contains = true → RelL W Φ φ al σ.bx v x → RelL W (Φ.with W φ ks) φ al (Bxs.fz σ.bx ks) (.p p) x := fun v x p js hf hj hv => by
    obtain ⟨_, k2⟩ := frz_rd h 3 v p js x hf hv
    exact k2.mono fun _ _ _ h => with_mono (fun k hk => by simpa using List.all_eq_true.1 hj k hk) h
  have hstep : ∀ v x, RelL W Φ φ al σ.bx v x → RelL W (Φ.with W φ ks) φ al (Bxs.fz σ.bx ks) (LV.fz σ.bx ks v) x := fun v x hv => by
    unfold LV.fz
    split
    · split
      · split
        · rename_i q js e
          split
          · rename_i hj; exact hfrz _ _ _ _ e hj hv
          · exact Rd.any _
        · exact Rd.any _
      · exact hkeep _ _ hv
    · split
      · split
        · rename_i q js e
          split
          · rename_i hj; exact hfrz _ _ _ _ e hj hv
          · exact Rd.any _
        · exact Rd.any _
      · exact hkeep _ _ hv
    · exact hkeep _ _ hv
  refine ⟨{ fram := h.fram, kn := fun b q u hu => ?_, from_ := fun b q u hu => .inl (h.from_ b q u hu), new := fun b q u hu => ?_, row := fun i B hB => ?_, apart := fun i j hi hj e => h.apart i j (hlive hi).2 (hlive hj).2 e, dark := fun i hi q u hu => ?_, alb := fun i hi => ?_, len := by simp [St.fz, h.len], regs := fun t v hv => ?_, glen := by simp [St.fz, h.glen], gh := fun t v x hv hx => ?_, defers := h.defers, dnd := h.dnd, dlive := h.dlive, rnd := h.rnd }, hstep⟩
  · rcases hu with hu | ⟨_, hu⟩
    · exact h.kn b q u hu
    · exact hu
  · rcases hu with hu | ⟨⟨k, hk, rfl⟩, hu⟩
    · exact h.new b q u hu
    · obtain ⟨B, hB⟩ := Option.isSome_iff_exists.1 (hks k hk)
      exact .inr (h.row k B hB).2.1
  · obtain ⟨_, B0, hB', rfl⟩ := hsome hB
    obtain ⟨r1, r2, cs, r3, r4, r5⟩ := h.row i B0 hB'
    refine ⟨r1, r2, cs, r3, by simpa [Box.fz] using r4, fun j c hc => ?_⟩
    simp only [Box.fz, List.getElem?_map, Option.map_eq_some_iff] at hc
    obtain ⟨c0, hc, rfl⟩ := hc
    obtain ⟨x, x1, x2, x3⟩ := r5 j c0 hc
    exact ⟨x, x1, x2, hstep _ _ x3⟩
  · obtain ⟨h1, h2⟩ := hlive hi
    rcases hu with hu | ⟨⟨k, hk, e⟩, _⟩
    · exact h.dark i h2 q u hu
    · have := h.apart i k h2 (hks k hk) e
      subst this
      exact h1 hk
  · show i < (Bxs.fz σ.bx ks).length
    simpa [Bxs.fz] using h.alb i hi
  · simp only [St.fz, List.getElem?_map, Option.map_eq_some_iff] at hv
    obtain ⟨v0, hv, rfl⟩ := hv
    exact hstep _ _ (h.regs t v0 hv)
  · simp only [St.fz, List.getElem?_map, Option.map_eq_some_iff] at hv
    obtain ⟨v0, hv, rfl⟩ := hv
    exact hstep _ _ (h.gh t v0 x hv hx)
def Ef.isCall : Ef → Bool
  | .call .. | .yld .. => true
  | _ => false
/-- Behind an effect that is no call. -/
theorem Rel.after (h : Rel E Φ φ al σ a W) (hs : Sim P o a W Φ φ al σ.bx ef) (hnc : ef.isCall = false) (d : Option Nat) (slot : Nat) (hslot : slot ≤ σ.bx.length) (hal : ¬ al slot) :
    ∃ W1 x Φ' φ' al', ((execOp a.eval o).run P W = .ok (.value x) W1 ∨ (execOp a.eval o).run P W = .ok .skip W1 ∧ x = undef) ∧ Rel E Φ' φ' al' (σ.after d slot ef) (a.put d x) W1 ∧ ∀ k, al' k → al k ∨ k = slot := by
  cases ef with
  | val v =>
    obtain ⟨x, hr, hv⟩ := hs
    exact ⟨W, x, Φ, φ, al, .inl hr, h.put d v x hv, fun k hk => .inl hk⟩
  | call f args ks => cases hnc
  | yld l args => cases hnc
  | fz v ks =>
    obtain ⟨hk, x, hr, hv⟩ := hs
    exact ⟨W, x, _, φ, al, .inl hr, (h.fz ks hk).1.put d (.p v) x hv, fun k hk => .inl hk⟩
  | new v ty cs =>
    obtain ⟨W1, xs, x, hr, hb, hg, hl, hc, hx⟩ := hs
    obtain ⟨r1, r2⟩ := h.mem slot ⟨0, ty, cs⟩ W.heap.size (Below.same_ hb) (fun k hk _ _ => hb.block k hk) (.inl rfl) hslot (.inr hal) ⟨xs, hg, hl, hc⟩
    refine ⟨W1, x, Φ, _, _, .inl hr, r1.put d (v slot) x ?_, fun k hk => hk⟩
    have hbox : ∀ B, Bxs.box (Bxs.put σ.bx slot ⟨0, ty, cs⟩) slot = some B → B = ⟨0, ty, cs⟩ := fun B hB => by
      rw [Bxs.box_put hslot, if_pos rfl] at hB
      cases hB; rfl
    rcases hx with ⟨rfl, rfl⟩ | ⟨n, z, g, cap, rfl, rfl, e1, e2, e3⟩
    · exact ⟨.inr rfl, ⟨_, rfl⟩, fun B hB => by rw [hbox B hB]; exact ⟨Nat.le_refl _, fun _ => by simp⟩⟩
    · exact ⟨.inr rfl, ⟨_, _, rfl, e2⟩, fun B hB => by rw [hbox B hB]; exact ⟨Nat.le_refl _, fun _ => ⟨cap, xs, by simp, by simpa using hg, e1, e2, e3⟩⟩⟩
  | wr b st off vs =>
    obtain ⟨B, xs, W1, e1, e2, hr, hb, hk, hg, hsz, hl, hc⟩ := hs
    obtain ⟨ha, hw, ys, hy, _⟩ := h.row b B e1
    obtain ⟨r1, r2⟩ := h.mem b ⟨st, B.ty, putL B.cells off vs⟩ (φ b) (Below.same_ hb) (fun k _ hk' _ => hk k hk') (.inr ⟨B, e1, rfl⟩) (Nat.le_of_lt (Bxs.box_lt e1))
      (.inl ⟨B, e1, .inr ⟨e2, rfl, rfl, fun cs hcs => ⟨xs, hg, hsz cs hcs⟩⟩⟩) ⟨xs, hg, hl, hc⟩
    have := r1.put d (.p .any) undef (Rd.any _)
    refine ⟨W1, undef, Φ, (fun k => if k = b then φ b else φ k), (fun k => al k ∨ k = b), .inr ⟨hr, rfl⟩, by simpa only [St.after, e1] using this, fun k hk => ?_⟩
    rcases hk with hk | rfl
    · exact .inl hk
    · exact .inl ha
  | app b st n z g k cs =>
    obtain ⟨B, W1, x, cap, xs, q, e1, e2, hr, hx, hg, hz, hn, hm, hq, hsz, hk, ⟨k1, k2, k3⟩, hl, hc⟩ := hs
    obtain ⟨ha, hw, ys, hy, _⟩ := h.row b B e1
    obtain ⟨r1, r2⟩ := h.mem b ⟨st + 1, B.ty, B.cells ++ cs⟩ q ⟨k1, k2, k3, hsz⟩ (fun j hj hjq hjb => hk j hj (hjb B e1)) (by
        rcases hq with rfl | rfl
        · exact .inr ⟨B, e1, rfl⟩
        · exact .inl rfl) (Nat.le_of_lt (Bxs.box_lt e1)) (.inl ⟨B, e1, .inl (by show B.st < st + 1; omega)⟩) ⟨xs, hg, hl, hc⟩
    have := r1.put d (.bs b (st + 1) (n + k) z g) x ⟨.inr rfl, ⟨_, _, hx, hn⟩, fun B' hB' => by
      rw [Bxs.box_put (Nat.le_of_lt (Bxs.box_lt e1)), if_pos rfl] at hB'
      cases hB'
      exact ⟨Nat.le_refl _, fun _ => ⟨cap, xs, by rw [hx]; simp, by simpa using hg, hz, hn, hm⟩⟩⟩
    refine ⟨W1, x, Φ, (fun k => if k = b then q else φ k), (fun k => al k ∨ k = b), .inl hr, by simpa only [St.after, e1] using this, fun k hk => ?_⟩
    rcases hk with hk | rfl
    · exact .inl hk
    · exact .inl ha
/-- Behind a call, by what it does. -/
theorem Rel.called (h : Rel E Φ φ al σ a W) {f : FuncId} {args : List PV} {ks : List Nat} (hs : Sim P o a W Φ φ al σ.bx (.call f args ks)) {r : PV} (hd : Does P f args r) (d : Option Nat) :
    ∃ xs, (execOp a.eval o).run P W = .ok (.enter f xs) W ∧ Calls P f xs W fun e W1 => ∃ x, e = .returned x ∧ (Flat r → Rel E Φ φ al (σ.put d (.p r)) (a.put d x) W1) ∧ ∃ Ψ, Rel E Ψ φ al ((σ.fz ks).put d (.p r)) (a.put d x) W1 := by
  obtain ⟨hk, hs⟩ := hs
  obtain ⟨hg, hd⟩ := hd
  obtain ⟨xs, hr, hl, hrd⟩ := hs hg
  have hkill := (h.fz ks hk).1
  refine ⟨xs, hr, (hd W (Φ.with W φ ks) xs hkill.kn hl hrd).mono ?_⟩
  rintro e W1 ⟨x, Ψ, rfl, hb, h1, h2, h3, h4⟩
  refine ⟨x, rfl, fun hf => ?_, Ψ, ?_⟩
  · obtain ⟨r1, _⟩ := h.call hb (fun _ _ _ h => h) (fun b q u hu => known_of_block (h.kn b q u hu) (hb.block b (known_lt (h.kn b q u hu)))) (fun _ _ _ h => .inl h)
    exact r1.put d (.p r) x (h4.flat hf)
  · obtain ⟨r1, _⟩ := hkill.call hb h1 h2 h3
    exact r1.put d (.p r) x h4
end
/-! ### Code -/
structure C where
  dst : Option Nat
  a : A
  g : Option (Nat × Bool)
inductive K
  | skip
  | reg (cs : List C)
  | regd (cs : List C) (un : List Nat)
  | seq (x y : K)
  | cond (x : Opd) (t e : K)
  | block (id : Nat) (b : K)
  | loop (b : K)
  | rfor (f : Opd) (ps : List Nat) (x b : K)
  | exit (id : Nat)
  | ret
/-- the guard's register -/
def guardP (ops : Array Oper) : Option (Nat × Bool) → Option (Option (Nat × Bool))
  | none => some none
  | some (j, w) => (((ops[j]?).bind (·.dst)).map fun d => (d, w)).map some
def copC (P : Program) (ops : Array Oper) (o : Oper) : Option C := do
  let x ← cop P o
  let g ← guardP ops o.guard
  pure ⟨o.dst, x, g⟩
def Opd.reg : Opd → List Nat
  | .t n => [n]
  | .c _ => []
def A.opds : A → List Opd
  | .mv x | .nchk x | .box _ x | .ld _ _ x | .neg x | .not x | .fa _ x | .fl _ _ _ x | .len _ x | .ext x _ => [x]
  | .pick c x y => [c, x, y]
  | .build _ ps | .lit _ _ _ _ _ ps => ps.map fun q => q.2.2
  | .st _ x y | .bin _ x y | .eqs _ _ x y | .eqb _ x y | .ix _ x y | .app _ _ _ _ x y | .max x y | .min x y => [x, y]
  | .cut _ x lo hi => x :: (lo.toList ++ hi.toList)
  | .call _ xs => xs
  | .callv x xs => x :: xs
  | .fn _ a c => a ++ c
def C.looks (c : C) : List Nat := c.a.opds.flatMap Opd.reg ++ (match c.g with
  | some (d, _) => [d]
  | none => [])
structure C.Apart (x y : C) : Prop where
  a : ∀ d, x.dst = some d → d ∉ y.looks
  b : ∀ d, x.dst = some d → y.dst ≠ some d
  c : ∀ d, y.dst = some d → d ∉ x.looks
def bitB (m i : Nat) : Bool := Nat.beq (Nat.mod (Nat.shiftRight m i) 2) 1
theorem bitB_eq (m i : Nat) : bitB m i = m.testBit i := by
  unfold bitB
  rw [Nat.testBit_eq_decide_div_mod_eq]
  have : Nat.shiftRight m i = m / 2 ^ i := Nat.shiftRight_eq_div_pow m i
  rw [this]
  show Nat.beq (m / 2 ^ i % 2) 1 = _
  rcases Nat.mod_two_eq_zero_or_one (m / 2 ^ i) with h | h <;> rw [h] <;> rfl
/-- what comes before an operation in every order: a mask -/
def maskOf (acc : List Nat) (o : Oper) : Nat := o.after.toList.foldl (fun s e => if Region.binds .any e then Nat.lor (Nat.lor s (2 ^ e.on)) (nthD 0 acc e.on) else s) 0
def befs (ops : Array Oper) : List Nat := ops.toList.foldl (fun acc o => acc ++ [maskOf acc o]) []
def uns (n : Nat) (bs : List Nat) : List Nat := (List.range n).map fun j => Nat.xor (2 ^ j - 1) (nthD 0 bs j)
def writers : Nat → List C → List (Nat × Nat)
  | _, [] => []
  | j, c :: cs => match c.dst with
    | some d => (d, j) :: writers (j + 1) cs
    | none => writers (j + 1) cs
/-- whoever writes a register is ordered -/
def ordB (ws : List (Nat × Nat)) (bs : List Nat) (j t : Nat) : Bool := ws.all fun q => !(Nat.beq q.1 t) || Nat.beq q.2 j || bitB (nthD 0 bs j) q.2 || bitB (nthD 0 bs q.2) j
def checkO (ws : List (Nat × Nat)) (bs : List Nat) (j : Nat) (o : Oper) (c : C) : Bool :=
  (o.after.all fun e => !Region.binds .any e || Nat.blt e.on j) && Nat.ble (nthD 0 bs j + 1) (2 ^ j) && (c.looks.all fun t => ordB ws bs j t) && (match c.dst with
    | some d => ordB ws bs j d
    | none => true)
def checkL (ws : List (Nat × Nat)) (bs : List Nat) : Nat → List Oper → List C → Bool
  | _, [], [] => true
  | j, o :: l, c :: cs => checkO ws bs j o c && checkL ws bs (j + 1) l cs
  | _, _, _ => false
def checkD (ops : Array Oper) (cs : List C) (bs : List Nat) : Bool := checkL (writers 0 cs) bs 0 ops.toList cs
def ck (P : Program) : Code → Option K
  | .skip | .label _ => some .skip
  | .region _ ops draw => (ops.toList.mapM (copC P ops)).bind fun cs =>
    if draw then (if checkD ops cs (befs ops) then some (.regd cs (uns ops.size (befs ops))) else none) else some (.reg cs)
  | .seq x y => do pure (.seq (← ck P x) (← ck P y))
  | .cond c x y => do pure (.cond (← opd c) (← ck P x) (← ck P y))
  | .block id b => (ck P b).map (.block id)
  | .loop b => (ck P b).map .loop
  | .rangeFunc f ps x b => do pure (.rfor (← opd f) ps.toList (← ck P x) (← ck P b))
  | .scope b => ck P b
  | .exit id => some (.exit id)
  | .ret => some .ret
  | _ => none
inductive Ex
  | normal
  | exit (id : Nat)
  | ret
def Ex.to : Ex → Exit
  | .normal => .normal
  | .exit id => .exit id
  | .ret => .ret
/-- whether an operation is wanted: none: not known -/
def wantedC (σ : St) : Option (Nat × Bool) → Option Bool
  | none => some true
  | some (d, w) => match σ.get (.t d) with
    | .p (.bool b) => some (b == w)
    | .p (.tup []) => some false
    | _ => none
def St.yielded (σ : St) (d : Option Nat) (b : Bool) : St := { σ.put d (.p (.bool b)) with y := σ.y + 1, stop := !b }
/-- the boxes that a value leads to -/
def LV.bxs : LV → List Nat
  | .bp b _ _ => [b]
  | .bs b _ _ _ _ => [b]
  | _ => []
def Ef.ks : Ef → List Nat
  | .call _ _ ks => ks
  | .fz _ ks => ks
  | _ => []
/-- the operands behind which an operation looks into a box -/
def A.peeks : A → List Opd
  | .nchk x | .ld _ _ x | .st _ x _ | .fa _ x | .ix _ x _ => [x]
  | .app _ _ _ _ x y => [x, y]
  | _ => []
def foot (σ : St) (a : A) (ef : Ef) : List Nat := (a.peeks.flatMap fun x => (σ.get x).bxs) ++ ef.ks
def Ef.wrs (s : Nat) : Ef → List Nat
  | .new _ _ _ => [s]
  | .wr b _ _ _ => [b]
  | .app b _ _ _ _ _ _ => [b]
  | _ => []
/-- none: nothing may stand beside it -/
abbrev Mark := Option (List Nat × List Nat)
def memB (x : Nat) (l : List Nat) : Bool := List.rec false (fun y _ ih => Bool.rec ih true (Nat.beq x y)) l
theorem memB_of {x : Nat} : ∀ {l : List Nat}, x ∈ l → memB x l = true
  | y :: l, h => by
    show (Bool.rec (memB x l) true (Nat.beq x y) : Bool) = true
    rcases List.mem_cons.1 h with rfl | h
    · have : Nat.beq x x = true := Nat.beq_refl x
      rw [this]
    · rw [memB_of h]; cases Nat.beq x y <;> rfl
def disj (a b : List Nat) : Bool := a.all fun i => !memB i b
def Mark.apart : Mark → Mark → Bool
  | some (_, []), some (_, []) => true
  | some (f, w), some (f', w') => disj w' f && disj w' w && disj w f'
  | _, _ => false
abbrev Acc := List (Nat × Mark)
def chk (acc : Acc) (un : Nat) (m : Mark) : Bool := acc.all fun q => Mark.apart q.2 m || !bitB un q.1
/-- what an iterator yields, and to which loop -/
structure Ys where
  l : Nat
  xs : List (List PV)
section
variable (P : Program) (Y : Ys)
def wpCs (Q : St → Prop) : List C → St → Prop
  | [], σ => Q σ
  | c :: cs, σ => match wantedC σ c.g with
    | none => False
    | some false => wpCs Q cs (σ.put c.dst (.p (.tup [])))
    | some true => match eff σ c.a with
      | none => False
      | some (.call f args ks) => ∃ r, Does P f args r ∧ ((Flat r ∧ wpCs Q cs (σ.put c.dst (.p r))) ∨ wpCs Q cs ((σ.fz ks).put c.dst (.p r)))
      | some (.yld l args) => l = Y.l ∧ σ.stop = false ∧ Y.xs[σ.y]? = some args ∧ ∀ b, wpCs Q cs (σ.yielded c.dst b)
      | some ef => wpCs Q cs (σ.after c.dst σ.bx.length ef)
/-- an operation with its place, the box that it may make, and what it may come up beside -/
structure D where
  j : Nat
  s : Nat
  un : Nat
  c : C
def wpDs (Q : St → Prop) : List D → Acc → St → Prop
  | [], _, σ => Q σ
  | ⟨j, s, un, c⟩ :: l, acc, σ => match wantedC σ c.g with
    | none => False
    | some false => chk acc un (some ([], [])) = true ∧ wpDs Q l ((j, some ([], [])) :: acc) (σ.put c.dst (.p (.tup [])))
    | some true => match eff σ c.a with
      | none => False
      | some (.call f args ks) => ∃ r, Does P f args r ∧
          (((ks = [] ∨ Flat r) ∧ chk acc un (some (foot σ c.a (.call f args ks), [])) = true ∧ wpDs Q l ((j, some (foot σ c.a (.call f args ks), [])) :: acc) (σ.put c.dst (.p r))) ∨
           (chk acc un none = true ∧ wpDs Q l ((j, none) :: acc) ((σ.fz ks).put c.dst (.p r))))
      | some (.yld m args) => chk acc un none = true ∧ m = Y.l ∧ σ.stop = false ∧ Y.xs[σ.y]? = some args ∧ ∀ b, wpDs Q l ((j, none) :: acc) (σ.yielded c.dst b)
      | some (.fz v ks) => chk acc un none = true ∧ wpDs Q l ((j, none) :: acc) (σ.after c.dst s (.fz v ks))
      | some ef => chk acc un (some (foot σ c.a ef, ef.wrs s)) = true ∧ wpDs Q l ((j, some (foot σ c.a ef, ef.wrs s)) :: acc) (σ.after c.dst s ef)
end
def A.makes : A → Bool
  | .box .. | .lit .. | .app .. => true
  | _ => false
def place (un : List Nat) : Nat → Nat → List C → List D
  | _, _, [] => []
  | j, s, c :: cs => ⟨j, s, nthD 0 un j, c⟩ :: place un (j + 1) (if c.a.makes then s + 1 else s) cs
def makes : List C → Nat
  | [] => 0
  | c :: cs => (if c.a.makes then 1 else 0) + makes cs
def St.ext (σ : St) (n : Nat) : St := { σ with bx := σ.bx ++ List.replicate n none }
/-! ### Operations, in the calculus of code -/
/-- all functions; of the round r -/
def Wd (r : Option Nat) : Fence := { fn := fun _ => True, depth := none, alive := false, round := r }
theorem wd_none : Wd none = Fence.wide := rfl
theorem callsIn_wd {r : Option Nat} {n : Nat} {P : Program} {f : FuncId} {args : Array Value} {w : World} {R : Ending → World → Prop} : CallsIn (Wd r) n P f args w R ↔ Calls P f args w R :=
  ⟨fun h => callsIn_wide.1 (show CallsIn Fence.wide n P f args w R from h), fun h => (callsIn_wide (n := n)).2 h⟩
theorem roundIn_wd {r : Option Nat} {n m l : Nat} {P : Program} {f : FuncId} {tmps : Array Value} {assign body : Code} {w : World} {R : Ending → World → Prop} (h : RoundIn Fence.wide m P l f tmps assign body w R) : RoundIn (Wd r) n P l f tmps assign body w R :=
  ⟨trivial, fun c cs _ => h.2 c cs (room_wide _)⟩
abbrev Link := Nat → Bool → Env → Prop
/-- the state stands for the machine's -/
def Stands (r : Option Nat) (L : Link) (σ : St) (a : Act) (W : World) : Prop := ∃ E Φ φ al, Rel E Φ φ al σ a W ∧ E.rnd = r ∧ L σ.y σ.stop E
/-- what the loop does that an iterator yields to -/
def Yok (P : Program) (r : Option Nat) (L : Link) (Y : Ys) : Prop :=
  ∀ (E : Env) (Φ : Known) (φ : Nat → Nat) (al : Nat → Prop) (σ : St) (a : Act) (W : World) (args : List PV) (xs : Array Value), Rel E Φ φ al σ a W → E.rnd = r → L σ.y false E → σ.stop = false → Y.xs[σ.y]? = some args → xs.size = args.length →
    (∀ (i : Nat) (c : PV) (x : Value), args[i]? = some c → xs[i]? = some x → Rd Φ c x) →
    ∃ fn tmps assign body, (Instr.yield Y.l xs).run P W = .ok (.round Y.l fn tmps assign body) W ∧ RoundIn Fence.wide 0 P Y.l fn tmps assign body W fun e W' => ∃ b, e = .returned (.bool b) ∧
      ∃ E' Φ', Rel E' Φ' φ al σ a W' ∧ E'.rnd = r ∧ L (σ.y + 1) (!b) E'
section
variable {E : Env} {W : World} {Φ : Known} {φ : Nat → Nat} {al : Nat → Prop} {σ : St} {a : Act} {P : Program} {o : Oper} {ef : Ef} {x : A} {r : Option Nat} {n : Nat} {K : Act → World → Prop} {Q : Exit → Act → World → Prop}
theorem cop_defer (hc : cop P o = some x) (c : Call) : o.op ≠ .defer c := fun h => by
  unfold cop at hc
  rw [h] at hc
  cases hc
theorem wpIn_of (hc : cop P o = some x) (h : o.uponIn (Wd r) n P a K Q ((execOp a.eval o).run P W)) : o.wpIn (Wd r) n P a W K Q :=
  ⟨fun _ _ => trivial, by rw [Oper.semAt_eq _ _ _ (cop_defer hc)]; exact h⟩
theorem St.fz_nil : σ.fz [] = σ := by
  have h1 : ∀ v, LV.fz σ.bx [] v = v := fun v => by unfold LV.fz; split <;> simp
  have h2 : LV.fz σ.bx [] = id := funext h1
  have h3 : ∀ B, Box.fz σ.bx [] B = B := fun B => by simp [Box.fz, h2]
  have h4 : Bxs.fz σ.bx [] = σ.bx := by
    unfold Bxs.fz
    apply List.ext_getElem?
    intro i
    rw [List.getElem?_mapIdx]
    cases h : σ.bx[i]? with
    | none => rfl
    | some B => cases B with
      | none => simp
      | some B => simp [h3]
  simp [St.fz, h2, h4]
theorem St.put_y (σ : St) (d : Option Nat) (v : LV) : (σ.put d v).y = σ.y ∧ (σ.put d v).stop = σ.stop := by cases d <;> exact ⟨rfl, rfl⟩
theorem St.after_y (σ : St) (d : Option Nat) (s : Nat) (ef : Ef) : (σ.after d s ef).y = σ.y ∧ (σ.after d s ef).stop = σ.stop := by
  cases ef with
  | val v => exact St.put_y ..
  | new v ty cs => exact St.put_y { σ with bx := _ } d _
  | wr b st off vs =>
    simp only [St.after]
    cases Bxs.box σ.bx b with
    | none => exact ⟨rfl, rfl⟩
    | some B => exact St.put_y { σ with bx := _ } d _
  | app b st n z g k cs =>
    simp only [St.after]
    cases Bxs.box σ.bx b with
    | none => exact ⟨rfl, rfl⟩
    | some B => exact St.put_y { σ with bx := _ } d _
  | call => exact ⟨rfl, rfl⟩
  | fz v ks => exact St.put_y (σ.fz _) d _
  | yld => exact ⟨rfl, rfl⟩
theorem step_plain (h : Rel E Φ φ al σ a W) (hx : cop P o = some x) (he : eff σ x = some ef) (hnc : ef.isCall = false) (slot : Nat) (hslot : slot ≤ σ.bx.length) (hal : ¬ al slot)
    (hK : ∀ v Φ' φ' al' W1, Rel E Φ' φ' al' (σ.after o.dst slot ef) (a.put o.dst v) W1 → (∀ k, al' k → al k ∨ k = slot) → K (a.put o.dst v) W1) : o.wpIn (Wd r) n P a W K Q := by
  obtain ⟨W1, v, Φ', φ', al', hr, hrel, hs⟩ := h.after (sim h hx he) hnc o.dst slot hslot hal
  refine wpIn_of hx ?_
  have := hK v Φ' φ' al' W1 hrel hs
  rcases hr with hr | ⟨hr, rfl⟩
  · rw [hr, Oper.uponIn_value]; exact this
  · rw [hr, Oper.uponIn_skip]; exact this
theorem step_call (h : Rel E Φ φ al σ a W) (hx : cop P o = some x) {f : FuncId} {args : List PV} {ks : List Nat} (he : eff σ x = some (.call f args ks)) {res : PV} (hd : Does P f args res)
    (hK : ∀ v Ψ W1, ((ks = [] ∨ Flat res) → ∃ Ψ, Rel E Ψ φ al (σ.put o.dst (.p res)) (a.put o.dst v) W1) → Rel E Ψ φ al ((σ.fz ks).put o.dst (.p res)) (a.put o.dst v) W1 → K (a.put o.dst v) W1) : o.wpIn (Wd r) n P a W K Q := by
  obtain ⟨xs, hr, hcall⟩ := h.called (sim h hx he) hd o.dst
  refine wpIn_of hx ?_
  rw [hr, Oper.uponIn_enter]
  refine ⟨fun hd => by simp [Wd] at hd, callsIn_wd.2 (hcall.mono ?_)⟩
  rintro e W1 ⟨v, rfl, k1, Ψ, k2⟩
  refine hK v Ψ W1 (fun hf => ?_) k2
  rcases hf with rfl | hf
  · rw [St.fz_nil] at k2; exact ⟨Ψ, k2⟩
  · exact ⟨Φ, k1 hf⟩
theorem step_yld (h : Rel E Φ φ al σ a W) (hx : cop P o = some x) {L : Link} {Y : Ys} (hY : Yok P r L Y) (hr : E.rnd = r) {args : List PV} (he : eff σ x = some (.yld Y.l args)) (hL : L σ.y σ.stop E) (hs : σ.stop = false) (hy : Y.xs[σ.y]? = some args)
    (hK : ∀ b E' Φ' W1, Rel E' Φ' φ al (σ.yielded o.dst b) (a.put o.dst (.bool b)) W1 → E'.rnd = r → L (σ.y + 1) (!b) E' → K (a.put o.dst (.bool b)) W1) : o.wpIn (Wd r) n P a W K Q := by
  obtain ⟨xs, hrun, hl, hrd⟩ := sim h hx he
  obtain ⟨fn, tmps, assign, body, hy1, hround⟩ := hY E Φ φ al σ a W args xs h hr (by rw [← hs]; exact hL) hs hy hl hrd
  refine wpIn_of hx ?_
  rw [hrun, hy1, Oper.uponIn_round]
  refine ⟨fun hd => by simp [Wd] at hd, roundIn_wd (hround.mono ?_)⟩
  rintro e W1 ⟨b, rfl, E', Φ', hrel, hr', hL'⟩
  refine hK b E' Φ' W1 ?_ hr' hL'
  have := hrel.put o.dst (.p (.bool b)) (.bool b) (.bool b)
  exact { this with }
theorem wanted_sim (h : Rel E Φ φ al σ a W) {ops : Array Oper} {g : Option (Nat × Bool)} (hg : guardP ops o.guard = some g) {b : Bool} (hw : wantedC σ g = some b) : Region.wanted o (yielded ops a.tmps) = b := by
  unfold Region.wanted
  cases e : o.guard with
  | none =>
    rw [e] at hg
    cases hg
    cases hw
    rfl
  | some q =>
    obtain ⟨j, w⟩ := q
    rw [e] at hg
    simp only [guardP] at hg
    obtain ⟨g', hg', rfl⟩ := Option.map_eq_some_iff.1 hg
    obtain ⟨d, hd, rfl⟩ := Option.map_eq_some_iff.1 hg'
    have hr := h.get d
    simp only [wantedC] at hw
    simp only [yielded, hd, Option.bind_some]
    have hcell : ∀ v : PV, σ.get (.t d) = .p v → v ≠ .any → ∃ x, a.tmps[d]? = some x ∧ Rd Φ v x := fun v hv hne => by
      simp only [St.get, nthD_eq] at hv
      rw [nthD_eq, hv] at hr
      have hlt : d < a.tmps.size := by
        rw [← h.len]
        rcases Nat.lt_or_ge d σ.regs.length with hl | hl
        · exact hl
        · rw [List.getD_eq_getElem?_getD, List.getElem?_eq_none hl] at hv
          cases hv
          exact absurd rfl hne
      refine ⟨a.tmps[d], Array.getElem?_eq_getElem hlt, ?_⟩
      rw [Array.getD_eq_getD_getElem?, Array.getElem?_eq_getElem hlt] at hr
      exact hr
    split at hw
    · rename_i c ec
      obtain ⟨x, hx, hv⟩ := hcell _ ec (by simp)
      obtain rfl := rd_bool hv
      rw [hx]
      cases hw
      cases c <;> cases w <;> rfl
    · rename_i ec
      obtain ⟨x, hx, hv⟩ := hcell _ ec (by simp)
      obtain ⟨xs, rfl, _⟩ := rd_tup hv
      rw [hx]
      cases hw
      simp
    · cases hw
end
section
variable {P : Program} {r : Option Nat} {L : Link} {Y : Ys} {n : Nat} {ops : Array Oper} {Q : St → Prop}
def PostN (r : Option Nat) (L : Link) (Q : St → Prop) : Exit → Act → World → Prop := fun e a W => e = .normal ∧ ∃ σ, Q σ ∧ Stands r L σ a W
/-- A REGION THAT DRAWS NOTHING. -/
theorem wpCs_sound (hY : Yok P r L Y) : ∀ (l : List Oper) (cs : List C) (σ : St) (a : Act) (W : World), l.mapM (copC P ops) = some cs → wpCs P Y Q cs σ → Stands r L σ a W →
    wpListIn (Wd r) n P ops (PostN r L Q) l a W
  | [], cs, σ, a, W, hc, hq, hs => by
    simp at hc
    subst hc
    exact ⟨rfl, σ, hq, hs⟩
  | o :: l, cs, σ, a, W, hc, hq, hs => by
    simp only [List.mapM_cons, Option.bind_eq_bind, Option.bind_eq_some_iff, Option.pure_def, Option.some.injEq] at hc
    obtain ⟨c, h1, cs', h2, rfl⟩ := hc
    obtain ⟨x, hx, h1⟩ := Option.bind_eq_some_iff.1 h1
    obtain ⟨g, hg, h1⟩ := Option.bind_eq_some_iff.1 h1
    cases h1
    obtain ⟨E, Φ, φ, al, h, hr, hL⟩ := hs
    unfold wpListIn
    simp only [wpCs] at hq
    split at hq
    · exact hq.elim
    · rename_i hw
      rw [if_neg (by rw [wanted_sim h hg hw]; simp)]
      refine ⟨fun _ _ => trivial, ?_⟩
      have hp := h.put o.dst (.p (.tup [])) undef (.tup [] #[] rfl (by simp))
      refine wpCs_sound hY l cs' _ _ W h2 hq ⟨E, Φ, φ, al, hp, hr, ?_⟩
      cases hd : o.dst <;> exact hL
    · rename_i hw
      rw [if_pos (wanted_sim h hg hw)]
      split at hq
      · exact hq.elim
      · rename_i f args ks he
        obtain ⟨res, hd, hq⟩ := hq
        refine step_call h hx he hd fun v Ψ W1 k1 k2 => ?_
        rcases hq with ⟨hf, hq⟩ | hq
        · obtain ⟨Ψ', k1⟩ := k1 (.inr hf)
          refine wpCs_sound hY l cs' _ _ W1 h2 hq ⟨E, Ψ', φ, al, k1, hr, ?_⟩
          cases hd : o.dst <;> exact hL
        · refine wpCs_sound hY l cs' _ _ W1 h2 hq ⟨E, Ψ, φ, al, k2, hr, ?_⟩
          cases hd : o.dst <;> exact hL
      · rename_i l' args he
        obtain ⟨rfl, hst, hy, hq⟩ := hq
        exact step_yld h hx hY hr he hL hst hy fun b E' Φ' W1 k1 k2 k3 => wpCs_sound hY l cs' _ _ W1 h2 (hq b) ⟨E', Φ', φ, al, k1, k2, k3⟩
      · rename_i ef hne hne2 he
        have hnc : ef.isCall = false := by
          cases ef <;> first | rfl | exact absurd rfl (hne _ _ _) | exact absurd rfl (hne2 _ _)
        refine step_plain h hx he hnc σ.bx.length (Nat.le_refl _) (fun q => Nat.lt_irrefl _ (h.alb _ q)) fun v Φ' φ' al' W1 k1 _ => ?_
        refine wpCs_sound hY l cs' _ _ W1 h2 hq ⟨E, Φ', φ', al', k1, hr, ?_⟩
        rw [(St.after_y σ o.dst σ.bx.length ef).1, (St.after_y σ o.dst σ.bx.length ef).2]
        exact hL
end
end
end Go.Proofs.Ytcamoojddlpbgaa.V
