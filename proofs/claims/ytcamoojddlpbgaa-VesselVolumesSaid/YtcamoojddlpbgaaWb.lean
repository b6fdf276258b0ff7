import Derived.Test.YtcamoojddlpbgaaWa
namespace Go.Proofs.Ytcamoojddlpbgaa.V
set_option linter.unusedVariables false
set_option linter.unusedSimpArgs false
open Go.RowKit
noncomputable section
/-! ### Each operation, run -/
/-- known cells, and those of some boxes -/
def Known.with (Φ : Known) (W : World) (φ : Nat → Nat) (ks : List Nat) : Known := fun b o u => Φ b o u ∨ (∃ k ∈ ks, b = φ k) ∧ known W b o u
def Sim (P : Program) (o : Oper) (a : Act) (W : World) (Φ : Known) (φ : Nat → Nat) (al : Nat → Prop) (bx : Bxs) : Ef → Prop
  | .val v => ∃ x, (execOp a.eval o).run P W = .ok (.value x) W ∧ RelL W Φ φ al bx v x
  | .new v ty cs => ∃ (W1 : World) (xs : Array Value) (x : Value), (execOp a.eval o).run P W = .ok (.value x) W1 ∧ Below W.heap.size W W1 ∧ W1.heap[W.heap.size]? = some (.cells xs ty (0, 0)) ∧ cs.length ≤ xs.size ∧
      (∀ (j : Nat) (c : LV), cs[j]? = some c → ∃ u : Value, xs[j]? = some u ∧ u.oneCell' = true ∧ RelL W Φ φ al bx c u) ∧
      ((x = .pointer (some ⟨W.heap.size, 0, none⟩) ∧ v = fun b => .bp b 0 0) ∨ ∃ n z g cap, (v = fun b => .bs b 0 n z g) ∧ x = .slice (some ⟨W.heap.size, 0, none⟩) n cap ∧ xs.size = cap * z ∧ n ≤ cap ∧ cap ≤ maxLen)
  | .wr b st off vs => ∃ (B : Box) (xs : Array Value) (W1 : World), bx.box b = some B ∧ B.st = st ∧ (execOp a.eval o).run P W = .ok .skip W1 ∧ Below (φ b) W W1 ∧ (∀ k, k ≠ φ b → W1.heap[k]? = W.heap[k]?) ∧ W1.heap[φ b]? = some (.cells xs B.ty (0, 0)) ∧
      (∀ ys, W.heap[φ b]? = some (.cells ys B.ty (0, 0)) → xs.size = ys.size) ∧ (putL B.cells off vs).length ≤ xs.size ∧ ∀ (j : Nat) (c : LV), (putL B.cells off vs)[j]? = some c → ∃ u : Value, xs[j]? = some u ∧ u.oneCell' = true ∧ RelL W Φ φ al bx c u
  | .app b st n z g k cs => ∃ (B : Box) (W1 : World) (x : Value) (cap : Nat) (xs : Array Value) (q : Nat), bx.box b = some B ∧ B.st = st ∧ (execOp a.eval o).run P W = .ok (.value x) W1 ∧ x = .slice (some ⟨q, 0, none⟩) (n + k) cap ∧
      W1.heap[q]? = some (.cells xs B.ty (0, 0)) ∧ xs.size = cap * z ∧ n + k ≤ cap ∧ cap ≤ maxLen ∧ (q = φ b ∨ q = W.heap.size) ∧ W.heap.size ≤ W1.heap.size ∧ (∀ j, j < W.heap.size → j ≠ φ b → W1.heap[j]? = W.heap[j]?) ∧
      (W1.os = W.os ∧ W1.tape = W.tape ∧ W1.output = W.output) ∧ (B.cells ++ cs).length ≤ xs.size ∧ ∀ (j : Nat) (c : LV), (B.cells ++ cs)[j]? = some c → ∃ u : Value, xs[j]? = some u ∧ u.oneCell' = true ∧ RelL W Φ φ al bx c u
  | .call f args ks => (∀ k ∈ ks, (bx.box k).isSome) ∧ (GoodF P f → ∃ xs : Array Value, (execOp a.eval o).run P W = .ok (.enter f xs) W ∧ xs.size = args.length ∧ ∀ (i : Nat) (c : PV) (x : Value), args[i]? = some c → xs[i]? = some x → Rd (Φ.with W φ ks) c x)
  | .fz v ks => (∀ k ∈ ks, (bx.box k).isSome) ∧ ∃ x, (execOp a.eval o).run P W = .ok (.value x) W ∧ Rd (Φ.with W φ ks) v x
  | .yld l args => ∃ xs : Array Value, (execOp a.eval o).run P W = (Instr.yield l xs).run P W ∧ xs.size = args.length ∧ ∀ (i : Nat) (c : PV) (x : Value), args[i]? = some c → xs[i]? = some x → Rd Φ c x
section
variable {E : Env} {W : World} {Φ : Known} {φ : Nat → Nat} {al : Nat → Prop} {σ : St} {a : Act} {P : Program} {o : Oper} {ef : Ef}
theorem sim_mv (h : Rel E Φ φ al σ a W) {x : Operand} {y : Opd} (ho : o.op = .move x ∨ o.op = .assign x) (hx : opd x = some y) (he : eff σ (.mv y) = some ef) : Sim P o a W Φ φ al σ.bx ef := by
  cases he
  refine ⟨a.eval x, ?_, h.opd hx⟩
  rcases ho with ho | ho <;> simp [execOp, ho]
theorem sim_nchk (h : Rel E Φ φ al σ a W) {x : Operand} {y : Opd} (ho : o.op = .nilCheck x) (hx : opd x = some y) (he : eff σ (.nchk y) = some ef) : Sim P o a W Φ φ al σ.bx ef := by
  have hr := h.opd hx
  simp only [eff] at he
  split at he
  · rename_i cs e
    cases he
    rw [e] at hr
    obtain ⟨b, o', us, hv, _⟩ := rd_cp hr
    exact ⟨a.eval x, by simp [execOp, ho, hv], by rw [← e]; exact e ▸ hr⟩
  · rename_i f b c e
    cases he
    rw [e] at hr
    obtain ⟨xs, ys, hv, h1, h2, r1, r2⟩ := rd_fn hr
    exact ⟨a.eval x, by simp [execOp, ho, hv], hr⟩
  · rename_i b st off e
    rw [e] at hr
    obtain ⟨cs, hb, he⟩ := Option.bind_eq_some_iff.1 he
    cases he
    obtain ⟨B, e1, e2, e3, e4⟩ := h.bp hr hb
    exact ⟨a.eval x, by simp [execOp, ho, e4], hr⟩
  · cases he
theorem sim_pick (h : Rel E Φ φ al σ a W) {c x y : Operand} {c' x' y' : Opd} (ho : o.op = .pick c x y) (hc : opd c = some c') (hx : opd x = some x') (hy : opd y = some y') (he : eff σ (.pick c' x' y') = some ef) : Sim P o a W Φ φ al σ.bx ef := by
  have hr := h.opd hc
  simp only [eff] at he
  split at he
  · rename_i b e
    cases he
    rw [e] at hr
    have hb := rd_bool hr
    refine ⟨if b then a.eval x else a.eval y, ?_, ?_⟩
    · cases b <;> simp [execOp, ho, hb, asBool]
    · cases b
      · exact h.opd hy
      · exact h.opd hx
  · cases he
theorem sim_bin (h : Rel E Φ φ al σ a W) {op : BinOp} {t u : TypeId} {x y : Operand} {x' y' : Opd} (ho : o.op = .binOp op t x y u) (hop : arith op = true) (hx : opd x = some x') (hy : opd y = some y') (he : eff σ (.bin op x' y') = some ef) : Sim P o a W Φ φ al σ.bx ef := by
  have h1 := h.opd hx
  have h2 := h.opd hy
  simp only [eff] at he
  split at he
  · rename_i k m k' n e1 e2
    split at he
    · rename_i hk
      subst hk
      obtain ⟨v, hv, rfl⟩ := Option.map_eq_some_iff.1 he
      rw [e1] at h1
      rw [e2] at h2
      have q1 := rd_int h1
      have q2 := rd_int h2
      obtain ⟨z, hz, hr⟩ := run_binInt (P := P) (t := t) (x := x) (y := y) (u := u) hop hv W
      refine ⟨z, ?_, hr Φ⟩
      simp only [execOp, ho, q1, q2]
      rw [Sem.run_bind, hz]
      rfl
    · cases he
  · cases he
theorem sim_neg (h : Rel E Φ φ al σ a W) {t : TypeId} {x : Operand} {x' : Opd} (ho : o.op = .unOp .neg t x) (hx : opd x = some x') (he : eff σ (.neg x') = some ef) : Sim P o a W Φ φ al σ.bx ef := by
  have h1 := h.opd hx
  simp only [eff] at he
  split at he
  · rename_i k m e1
    cases he
    rw [e1] at h1
    have q1 := rd_int h1
    exact ⟨.int k (k.wrap (0 - m)), by simp [execOp, ho, q1, Op.unary, Op.intArith], .int _ _⟩
  · cases he
theorem sim_not (h : Rel E Φ φ al σ a W) {t : TypeId} {x : Operand} {x' : Opd} (ho : o.op = .unOp .not t x) (hx : opd x = some x') (he : eff σ (.not x') = some ef) : Sim P o a W Φ φ al σ.bx ef := by
  have h1 := h.opd hx
  simp only [eff] at he
  split at he
  · rename_i m e1
    cases he
    rw [e1] at h1
    have q1 := rd_bool h1
    exact ⟨.bool (!m), by simp [execOp, ho, q1, Op.unary], .bool _⟩
  · cases he
theorem sim_ext (h : Rel E Φ φ al σ a W) {i : Nat} {x : Operand} {x' : Opd} (ho : o.op = .extract x i) (hx : opd x = some x') (he : eff σ (.ext x' i) = some ef) : Sim P o a W Φ φ al σ.bx ef := by
  have h1 := h.opd hx
  simp only [eff] at he
  split at he
  · rename_i vs e1
    obtain ⟨v, hv, rfl⟩ := Option.map_eq_some_iff.1 he
    rw [e1] at h1
    obtain ⟨xs, q, hs, hr⟩ := rd_tup h1
    have hi : i < xs.size := by rw [hs]; exact (List.getElem?_eq_some_iff.1 hv).1
    have hu : xs[i]? = some xs[i] := Array.getElem?_eq_getElem hi
    exact ⟨xs[i], by simp [execOp, ho, q, Instr.extract, hu], hr i v _ hv hu⟩
  · cases he
theorem sim_fa (h : Rel E Φ φ al σ a W) {t : TypeId} {k n : Nat} {fs : Array Field} {f : Field} {x : Operand} {x' : Opd} (ho : o.op = .fieldAddr t x k) (hu : P.underlying t = some (.struct fs)) (hf : fs[k]? = some f) (hn : sizeP P f.type = some n) (hn0 : n ≠ 0)
    (hx : opd x = some x') (he : eff σ (.fa f.offset x') = some ef) : Sim P o a W Φ φ al σ.bx ef := by
  have h1 := h.opd hx
  have hrun : ∀ b q, a.eval x = .pointer (some ⟨b, q, none⟩) → (execOp a.eval o).run P W = .ok (.value (.pointer (some ⟨b, q + f.offset, none⟩))) W := fun b q e => by
    simp [execOp, ho, e, Instr.fieldAt, Instr.sureAddr, run_underlying hu, hf, fieldPlace, run_info hn, hn0, at_add]
  simp only [eff] at he
  split at he
  · rename_i cs e1
    split at he
    · rename_i hl
      cases he
      rw [e1] at h1
      obtain ⟨b, q, us, e, r1, r2⟩ := rd_cp h1
      refine ⟨_, hrun b q e, .cp _ b (q + f.offset) (fun i => us (f.offset + i)) (fun i c hc => ?_) (fun i c hc => ?_)⟩
      · rw [List.getElem?_drop] at hc
        rw [Nat.add_assoc]
        exact r1 _ c hc
      · rw [List.getElem?_drop] at hc
        exact r2 _ c hc
    · cases he
  · rename_i b st off e1
    rw [e1] at h1
    obtain ⟨cs, hb, he⟩ := Option.bind_eq_some_iff.1 he
    cases he
    obtain ⟨B, q1, q2, q3, q4⟩ := h.bp h1 hb
    refine ⟨_, hrun _ _ q4, h1.1, ⟨_, rfl⟩, fun B' hB' => ?_⟩
    rw [q1] at hB'
    cases hB'
    exact ⟨by omega, fun _ => rfl⟩
  · cases he
end
section
variable {E : Env} {W : World} {Φ : Known} {φ : Nat → Nat} {al : Nat → Prop} {σ : St} {a : Act} {P : Program} {o : Oper} {ef : Ef}
theorem sim_box_of {v : LV} {x : Value} {t : TypeId} (hv : RelL W Φ φ al σ.bx v x) (hp : v.lcells.all LV.plain = true) (hrun : (execOp a.eval o).run P W = .ok (.value (.pointer (some ⟨W.heap.size, 0, none⟩))) (W.alloc (.cells x.cells t (0, 0)))) :
    Sim P o a W Φ φ al σ.bx (.new (fun b => .bp b 0 0) t v.lcells) := by
  obtain ⟨h1, h2⟩ := relL_cells hv hp
  exact ⟨_, x.cells, _, hrun, (Below.refl _ _).alloc (Nat.le_refl _) _, heap_alloc_new W _, by omega, h2, .inl ⟨rfl, rfl⟩⟩
theorem sim_box (h : Rel E Φ φ al σ a W) {t : TypeId} {x : Operand} {y : Opd} (ho : o.op = .box t x) (hx : opd x = some y) (he : eff σ (.box t y) = some ef) : Sim P o a W Φ φ al σ.bx ef := by
  simp only [eff] at he
  split at he
  · rename_i hp
    cases he
    exact sim_box_of (h.opd hx) hp (by simp [execOp, ho, Instr.box, newVar, newRow])
  · cases he
theorem sim_alloc (h : Rel E Φ φ al σ a W) {t : TypeId} {z : PV} (ho : o.op = .alloc t) (hz : zeroP P t = some z) (he : eff σ (.box t (.c z)) = some ef) : Sim P o a W Φ φ al σ.bx ef := by
  simp only [eff] at he
  split at he
  · rename_i hp
    cases he
    obtain ⟨x, hx, hr⟩ := run_zero hz W
    exact sim_box_of (v := .p z) (x := x) (hr Φ) hp (by simp [execOp, ho, Instr.alloc, hx, newVar, newRow])
  · cases he
theorem sim_fl (h : Rel E Φ φ al σ a W) {t : TypeId} {k n : Nat} {g : Bool} {fs : Array Field} {f : Field} {x : Operand} {x' : Opd} (ho : o.op = .field t x k) (hu : P.underlying t = some (.struct fs)) (hf : fs[k]? = some f) (hg : aggB P f.type = some g) (hn : sizeP P f.type = some n)
    (hx : opd x = some x') (he : eff σ (.fl g f.offset (if g then n else 1) x') = some ef) : Sim P o a W Φ φ al σ.bx ef := by
  have h1 := h.opd hx
  simp only [eff] at he
  split at he
  · rename_i cs e1
    rw [e1] at h1
    obtain ⟨xs, e, r1, r2⟩ := rd_agg h1
    cases g with
    | true =>
      simp only [if_true] at he
      by_cases hl : f.offset + n ≤ cs.length
      · rw [if_pos hl] at he
        obtain rfl := Option.some.inj he
        refine ⟨.agg (xs.extract f.offset (f.offset + n)), by simp [execOp, ho, e, Instr.field, run_underlying hu, hf, asAgg, part, run_agg hg, run_info hn], .agg _ _ (by simp; omega) fun i c u hc hu => ?_⟩
        rw [List.getElem?_take] at hc
        split at hc
        · rename_i hi
          rw [List.getElem?_drop] at hc
          rw [Array.getElem?_extract] at hu
          split at hu
          · exact r2 _ c u hc hu
          · cases hu
        · cases hc
      · rw [if_neg hl] at he; cases he
    | false =>
      simp only [Bool.false_eq_true, if_false] at he
      by_cases hl : f.offset + 1 ≤ cs.length
      · rw [if_pos hl] at he
        obtain ⟨v, hv, rfl⟩ := Option.map_eq_some_iff.1 he
        have hi : f.offset < xs.size := by rw [r1]; exact (List.getElem?_eq_some_iff.1 hv).1
        have hu' : xs[f.offset]? = some xs[f.offset] := Array.getElem?_eq_getElem hi
        exact ⟨xs[f.offset], by simp [execOp, ho, e, Instr.field, run_underlying hu, hf, asAgg, part, run_agg hg, hu'], r2 _ v _ hv hu'⟩
      · rw [if_neg hl] at he; cases he
  · cases he
theorem sim_len (h : Rel E Φ φ al σ a W) {t : TypeId} {s : Bool} {x : Operand} {x' : Opd} (ho : o.op = .call { callee := .builtin .len, args := #[x], argTypes := #[t] }) (hs : if s then P.underlying t = some .string else ∃ e, P.underlying t = some (.slice e))
    (hx : opd x = some x') (he : eff σ (.len s x') = some ef) : Sim P o a W Φ φ al σ.bx ef := by
  have h1 := h.opd hx
  cases s with
  | true =>
    simp only [if_true] at hs
    simp only [eff, if_true] at he
    split at he <;> try (cases he; done)
    rename_i q e
    obtain rfl := Option.some.inj he
    rw [e] at h1
    have hv : a.eval x = .string q := rd_str h1
    exact ⟨.int .i64 q.size, by simp [execOp, ho, hv, resolve, invoke, builtin, Builtin.len_, run_underlying hs, goInt], .int _ _⟩
  | false =>
    simp only [Bool.false_eq_true, if_false] at hs
    obtain ⟨e, hu⟩ := hs
    have run : ∀ b n c, a.eval x = .slice b n c → (execOp a.eval o).run P W = .ok (.value (.int .i64 n)) W := fun b n c hv => by
      simp [execOp, ho, hv, resolve, invoke, builtin, Builtin.len_, run_underlying hu, goInt]
    simp only [eff, Bool.false_eq_true, if_false] at he
    split at he <;> try (cases he; done)
    · rename_i e
      obtain rfl := Option.some.inj he
      rw [e] at h1
      have hv : a.eval x = .slice none 0 0 := rd_nils h1
      exact ⟨_, run _ _ _ hv, .int _ _⟩
    · rename_i es e
      obtain rfl := Option.some.inj he
      rw [e] at h1
      rcases rd_sl h1 with ⟨rfl, hv⟩ | ⟨b, q, z, cap, us, hv, _⟩
      · exact ⟨_, run _ _ _ hv, .int _ _⟩
      · exact ⟨_, run _ _ _ hv, .int _ _⟩
    · rename_i b st n z g e
      obtain rfl := Option.some.inj he
      rw [e] at h1
      obtain ⟨_, ⟨q, c, hv, _⟩, _⟩ := h1
      exact ⟨_, run _ _ _ hv, .int _ _⟩
theorem sim_max (h : Rel E Φ φ al σ a W) {x y : Operand} {x' y' : Opd} {ts : Array TypeId} (ho : o.op = .call { callee := .builtin .max, args := #[x, y], argTypes := ts }) (hx : opd x = some x') (hy : opd y = some y') (he : eff σ (.max x' y') = some ef) : Sim P o a W Φ φ al σ.bx ef := by
  have h1 := h.opd hx
  have h2 := h.opd hy
  simp only [eff] at he
  split at he
  · rename_i k m k' n e1 e2
    obtain rfl := Option.some.inj he
    rw [e1] at h1
    rw [e2] at h2
    exact ⟨.int k (if n > m then n else m), by simp [execOp, ho, rd_int h1, rd_int h2, resolve, invoke, builtin, Builtin.max_, Builtin.max2], .int _ _⟩
  · cases he
theorem sim_min (h : Rel E Φ φ al σ a W) {x y : Operand} {x' y' : Opd} {ts : Array TypeId} (ho : o.op = .call { callee := .builtin .min, args := #[x, y], argTypes := ts }) (hx : opd x = some x') (hy : opd y = some y') (he : eff σ (.min x' y') = some ef) : Sim P o a W Φ φ al σ.bx ef := by
  have h1 := h.opd hx
  have h2 := h.opd hy
  simp only [eff] at he
  split at he
  · rename_i k m k' n e1 e2
    obtain rfl := Option.some.inj he
    rw [e1] at h1
    rw [e2] at h2
    exact ⟨.int k (if n < m then n else m), by simp [execOp, ho, rd_int h1, rd_int h2, resolve, invoke, builtin, Builtin.min_, Builtin.min2], .int _ _⟩
  · cases he
end
section
variable {E : Env} {W : World} {Φ : Known} {φ : Nat → Nat} {al : Nat → Prop} {σ : St} {a : Act} {P : Program} {o : Oper} {ef : Ef}
theorem row_cell {W : World} {g j t : Nat} {xs : Array Value} {u : Value} (h : W.heap[g]? = some (.cells xs t (0, 0))) (hu : xs[j]? = some u) : W.cell? ⟨g, j, none⟩ = some u := by rw [cell_of_row W g j xs t (0, 0) h]; exact hu
theorem load_run {t : TypeId} {g : Bool} {n b q : Nat} {f : Nat → Value} (hg : aggB P t = some g) (hn : sizeP P t = some n) (hu : ∀ i, i < (if g then n else 1) → W.cell? ⟨b, q + i, none⟩ = some (f i)) :
    (loadVar t ⟨b, q, none⟩).run P W = .ok (if g then .agg ((List.range n).map f).toArray else f 0) W := by
  unfold loadVar
  rw [Sem.run_bind, run_agg hg]
  cases g with
  | true =>
    have := run_loadCells (P := P) W ⟨b, q, none⟩ n f (fun j hj => by rw [at_add]; exact hu j hj)
    simp [Result.andThen, run_info hn, this]
  | false =>
    have := hu 0 (by simp)
    simp only [Nat.add_zero] at this
    simp [Result.andThen, this]
theorem agg_range {Φ : Known} {cs : List PV} {n : Nat} {f : Nat → Value} (hl : cs.length = n) (h : ∀ (i : Nat) (c : PV), cs[i]? = some c → Rd Φ c (f i)) : Rd Φ (.agg cs) (.agg ((List.range n).map f).toArray) :=
  .agg _ _ (by simp [hl]) fun i c u hc hu => by
    have hi : i < n := by rw [← hl]; exact (List.getElem?_eq_some_iff.1 hc).1
    simp [hi] at hu
    rw [← hu]
    exact h i c hc
theorem ld_run (h : Rel E Φ φ al σ a W) {t : TypeId} {n : Nat} {g : Bool} {x : Value} {x' : Opd} (hg : aggB P t = some g) (hn : sizeP P t = some n) (h1 : RelL W Φ φ al σ.bx (σ.get x') x) (he : eff σ (.ld g (if g then n else 1) x') = some ef) :
    ∃ v ad u, ef = .val v ∧ x = .pointer (some ad) ∧ (loadVar t ad).run P W = .ok u W ∧ RelL W Φ φ al σ.bx v u := by
  have hrun : ∀ b q (f : Nat → Value), (∀ i, i < (if g then n else 1) → W.cell? ⟨b, q + i, none⟩ = some (f i)) → (loadVar t ⟨b, q, none⟩).run P W = .ok (if g then .agg ((List.range n).map f).toArray else f 0) W := fun b q f hu => load_run hg hn hu
  simp only [eff] at he
  split at he
  · rename_i cs e1
    rw [e1] at h1
    obtain ⟨b, q, us, e, r1, r2⟩ := rd_cp h1
    by_cases hl : (if g then n else 1) ≤ cs.length
    · rw [if_pos hl] at he
      have hr := hrun b q us (fun i hi => h.kcell (r1 i cs[i] (List.getElem?_eq_getElem (by omega))))
      cases g with
      | true =>
        simp only [if_true] at he hr hl
        obtain rfl := Option.some.inj he
        exact ⟨_, _, _, rfl, e, hr, agg_range (by simp; omega) fun i c hc => by
          rw [List.getElem?_take] at hc
          split at hc
          · exact r2 i c hc
          · cases hc⟩
      | false =>
        simp only [Bool.false_eq_true, if_false] at he hr
        obtain ⟨v, hv, rfl⟩ := Option.map_eq_some_iff.1 he
        exact ⟨_, _, _, rfl, e, hr, r2 0 v hv⟩
    · rw [if_neg hl] at he; cases he
  · rename_i b st off e1
    rw [e1] at h1
    obtain ⟨cs, hb, he⟩ := Option.bind_eq_some_iff.1 he
    obtain ⟨B, q1, q2, q3, q4⟩ := h.bp h1 hb
    obtain ⟨_, _, xs, hrow, hsz, hc⟩ := h.row b B q1
    subst q3
    by_cases hl : off + (if g then n else 1) ≤ B.cells.length
    · rw [if_pos hl] at he
      have hr := hrun (φ b) off (fun i => (xs[off + i]?).getD undef) (fun i hi => row_cell hrow (by rw [Array.getElem?_eq_getElem (by omega)]; rfl))
      cases g with
      | true =>
        simp only [if_true] at he hr hl
        obtain ⟨vs, hvs, he⟩ := Option.bind_eq_some_iff.1 he
        obtain rfl := Option.some.inj he
        obtain ⟨l1, g1⟩ := mapM_get hvs
        refine ⟨_, _, _, rfl, q4, hr, agg_range (by simp at l1; omega) fun i c hi => ?_⟩
        have hin : i < n := by
          have := (List.getElem?_eq_some_iff.1 hi).1
          simp at l1; omega
        have hlt : off + i < B.cells.length := by omega
        obtain ⟨y, hy1, hy2⟩ := g1 i B.cells[off + i] (by rw [List.getElem?_take, if_pos hin, List.getElem?_drop, List.getElem?_eq_getElem hlt])
        rw [hi] at hy2
        cases hy2
        obtain ⟨u, hu1, hu2, hu3⟩ := hc (off + i) B.cells[off + i] (List.getElem?_eq_getElem hlt)
        unfold LV.pv at hy1
        split at hy1
        · rename_i v ev
          cases hy1
          rw [ev] at hu3
          rw [hu1]
          exact hu3
        · cases hy1
      | false =>
        simp only [Bool.false_eq_true, if_false] at he hr hl
        obtain ⟨v, hv, he⟩ := Option.bind_eq_some_iff.1 he
        obtain rfl := Option.some.inj he
        obtain ⟨u, hu1, hu2, hu3⟩ := hc off v hv
        refine ⟨_, _, _, rfl, q4, hr, ?_⟩
        simp only [Nat.add_zero, hu1, Option.getD_some]
        exact hu3
    · rw [if_neg hl] at he; cases he
  · cases he
theorem sim_ld (h : Rel E Φ φ al σ a W) {t : TypeId} {n : Nat} {g : Bool} {x : Operand} {x' : Opd} (ho : o.op = .load t x) (hg : aggB P t = some g) (hn : sizeP P t = some n) (hx : opd x = some x') (he : eff σ (.ld g (if g then n else 1) x') = some ef) : Sim P o a W Φ φ al σ.bx ef := by
  obtain ⟨v, ad, u, rfl, e, hr, hv⟩ := ld_run h hg hn (h.opd hx) he
  exact ⟨u, by simp [execOp, ho, e, Instr.loadAt, Instr.sureAddr, hr], hv⟩
theorem sim_st (h : Rel E Φ φ al σ a W) {t : TypeId} {n : Nat} {x v : Operand} {x' v' : Opd} (ho : o.op = .store t x v) (hn : sizeP P t = some n) (hx : opd x = some x') (hv : opd v = some v') (he : eff σ (.st n x' v') = some ef) : Sim P o a W Φ φ al σ.bx ef := by
  have h1 := h.opd hx
  have h2 := h.opd hv
  simp only [eff] at he
  split at he <;> try (cases he; done)
  rename_i b st off e1
  rw [e1] at h1
  obtain ⟨cs, hb, he⟩ := Option.bind_eq_some_iff.1 he
  obtain ⟨B, q1, q2, q3, q4⟩ := h.bp h1 hb
  obtain ⟨_, hw, xs, hrow, hsz, hc⟩ := h.row b B q1
  subst q3
  split at he <;> try (cases he; done)
  rename_i hl
  obtain ⟨l1, l2, l3⟩ := hl
  obtain rfl := Option.some.inj he
  obtain ⟨c1, c2⟩ := relL_cells h2 l3
  have hone : ∀ u ∈ (a.eval v).cells.toList, u.oneCell' = true := fun u hu => by
    obtain ⟨i, hi⟩ := List.getElem?_of_mem hu
    have hi' : i < (σ.get v').lcells.length := by
      have := (List.getElem?_eq_some_iff.1 hi).1
      simp at this; omega
    obtain ⟨u', k1, k2, _⟩ := c2 i _ (List.getElem?_eq_getElem hi')
    rw [Array.getElem?_toList, k1] at hi
    cases hi
    exact k2
  have hst := run_storeCells_at (P := P) (φ b) off B.ty (a.eval v).cells.toList 0 xs W hrow (by simp; omega) hone
  simp only [Nat.add_zero] at hst
  have hrun : (execOp a.eval o).run P W = .ok .skip (W.setRow (φ b) (xs.toList.take off ++ (a.eval v).cells.toList ++ xs.toList.drop (off + (a.eval v).cells.toList.length)).toArray) := by
    have hcz : ¬ ((a.eval v).cells.size ≠ n) := by omega
    simp [execOp, ho, q4, Instr.storeAt, Instr.sureAddr, storeVar, run_info hn, hcz, hst]
  have hlen : ((xs.toList.take off ++ (a.eval v).cells.toList ++ xs.toList.drop (off + (a.eval v).cells.toList.length)).toArray).size = xs.size := by simp; omega
  refine ⟨B, _, _, q1, q2, hrun, ⟨rfl, rfl, rfl, by simp, fun k hk => setRow_other W _ _ _ (by omega)⟩, fun k hk => setRow_other W _ _ _ hk, setRow_heap W _ _ _ _ _ hrow, fun ys hys => ?_, ?_, fun j c hj => ?_⟩
  · rw [hrow] at hys
    cases hys
    exact hlen
  · rw [hlen]
    simp [putL]; omega
  · simp only [putL, List.append_assoc] at hj
    simp only [List.getElem?_toArray, List.append_assoc]
    rw [List.getElem?_append] at hj ⊢
    simp only [List.length_take, Array.length_toList] at hj ⊢
    have m1 : min off B.cells.length = off := by omega
    have m2 : min off xs.size = off := by omega
    rw [m1] at hj
    rw [m2]
    split at hj
    · rename_i hlt
      rw [List.getElem?_take, if_pos hlt] at hj
      rw [if_pos hlt, List.getElem?_take, if_pos hlt, Array.getElem?_toList]
      exact hc j c hj
    · rename_i hlt
      rw [if_neg hlt]
      rw [List.getElem?_append] at hj ⊢
      have m3 : (a.eval v).cells.toList.length = (σ.get v').lcells.length := by simp [c1]
      rw [m3]
      split at hj
      · rename_i hl2
        rw [if_pos hl2, Array.getElem?_toList]
        exact c2 _ c hj
      · rename_i hl2
        rw [if_neg hl2]
        rw [List.getElem?_drop] at hj ⊢
        rw [Array.getElem?_toList]
        simp only [Array.length_toList, c1]
        exact hc _ c hj
end
section
variable {E : Env} {W : World} {Φ : Known} {φ : Nat → Nat} {al : Nat → Prop} {σ : St} {a : Act} {P : Program} {o : Oper} {ef : Ef}
theorem sim_ix (h : Rel E Φ φ al σ a W) {t e : TypeId} {n : Nat} {x i : Operand} {x' i' : Opd} (ho : o.op = .indexAddr t x i) (ht : P.underlying t = some (.slice e)) (hn : sizeP P e = some n) (hx : opd x = some x') (hi : opd i = some i') (he : eff σ (.ix n x' i') = some ef) : Sim P o a W Φ φ al σ.bx ef := by
  have h1 := h.opd hx
  have h2 := h.opd hi
  have hrun : ∀ b q len cap k j, a.eval x = .slice (some ⟨b, q, none⟩) len cap → a.eval i = .int k j → 0 ≤ j ∧ j < (len : Int) → (execOp a.eval o).run P W = .ok (.value (.pointer (some ⟨b, q + j.toNat * n, none⟩))) W := fun b q len cap k j ex ei hj => by
    simp [execOp, ho, ex, ei, Instr.indexAt, asIntOf, run_underlying ht, hj.1, hj.2, run_info hn, at_add]
  simp only [eff] at he
  split at he
  · rename_i es k j e1 e2
    rw [e1] at h1
    rw [e2] at h2
    rcases rd_sl h1 with ⟨rfl, _⟩ | ⟨b, q, z, cap, us, ex, hz, hc, r1, r2⟩
    · rw [if_neg (by simp)] at he; cases he
    by_cases hj : 0 ≤ j ∧ j < (es.length : Int)
    · rw [if_pos hj] at he
      obtain ⟨v, hv, he⟩ := Option.bind_eq_some_iff.1 he
      by_cases hl : v.cells.length = n
      · rw [if_pos hl] at he
        obtain rfl := Option.some.inj he
        have hzn : z = n := by rw [← hl]; exact (hz v (List.mem_of_getElem? hv)).symm
        subst hzn
        exact ⟨_, hrun b q _ cap k j ex (rd_int h2) hj, .cp _ b _ (us j.toNat) (fun i c hc => r1 _ v i c hv hc) (fun i c hc => r2 _ v i c hv hc)⟩
      · rw [if_neg hl] at he; cases he
    · rw [if_neg hj] at he; cases he
  · rename_i b st m z g k j e1 e2
    rw [e1] at h1
    rw [e2] at h2
    by_cases hj : 0 ≤ j ∧ j < (m : Int) ∧ n = z
    · rw [if_pos hj] at he
      obtain ⟨cs, hb, he⟩ := Option.bind_eq_some_iff.1 he
      obtain rfl := Option.some.inj he
      obtain ⟨B, cap, xs, q1, q2, q3, ex, q4, q5, q6, q7⟩ := h.bs h1 hb
      refine ⟨_, hrun _ 0 m cap k j ex (rd_int h2) ⟨hj.1, hj.2.1⟩, h1.1, ⟨_, rfl⟩, fun B' hB' => ?_⟩
      rw [q1] at hB'
      cases hB'
      exact ⟨by omega, fun _ => by simp⟩
    · rw [if_neg hj] at he; cases he
  · cases he
theorem cutB_run (h : Rel E Φ φ al σ a W) {q : Option Operand} {q' : Option Opd} {d v : Int} (hq : opdo q = some q') (hv : cutB σ d q' = some v) : (q.map a.eval = none ∧ v = d) ∨ ∃ k, q.map a.eval = some (.int k v) := by
  cases q with
  | none =>
    cases hq
    cases hv
    exact .inl ⟨rfl, rfl⟩
  | some q =>
    obtain ⟨p, hp, rfl⟩ := Option.map_eq_some_iff.1 hq
    have := h.opd hp
    simp only [cutB] at hv
    split at hv
    · rename_i k i e
      cases hv
      rw [e] at this
      exact .inr ⟨k, by simp [rd_int this]⟩
    · cases hv
theorem sim_cut (h : Rel E Φ φ al σ a W) {t e : TypeId} {n : Nat} {x : Operand} {lo hi : Option Operand} {x' : Opd} {lo' hi' : Option Opd} (ho : o.op = .slice t x lo hi none) (ht : P.underlying t = some (.slice e)) (hn : sizeP P e = some n) (hx : opd x = some x')
    (hlo : opdo lo = some lo') (hhi : opdo hi = some hi') (he : eff σ (.cut n x' lo' hi') = some ef) : Sim P o a W Φ φ al σ.bx ef := by
  have h1 := h.opd hx
  simp only [eff] at he
  split at he <;> try (cases he; done)
  rename_i es e1
  rw [e1] at h1
  obtain ⟨l, hl, he⟩ := Option.bind_eq_some_iff.1 he
  obtain ⟨u, hu, he⟩ := Option.bind_eq_some_iff.1 he
  rcases rd_sl h1 with ⟨rfl, ex⟩ | ⟨b, q, z, cap, us, ex, hz, hc, r1, r2⟩
  · by_cases hb : 0 ≤ l ∧ l ≤ u ∧ u ≤ (([] : List PV).length : Int) ∧ (([] : List PV).all fun e => e.cells.length == n) = true
    case neg => rw [if_neg hb] at he; cases he
    rw [if_pos hb] at he
    obtain rfl := Option.some.inj he
    obtain ⟨b1, b2, b3, _⟩ := hb
    simp only [List.length_nil] at b3
    obtain rfl : l = 0 := by omega
    obtain rfl : u = 0 := by omega
    refine ⟨.slice none 0 0, ?_, .nilsl⟩
    have sb : ∀ (k : IntKind) (code : BoundsCode), (Instr.sliceBound (.int k 0) 0 code).run P W = .ok 0 W := fun k code => by simp [Instr.sliceBound, asIntOf]
    rcases cutB_run h hlo hl with ⟨f1, _⟩ | ⟨k1, f1⟩ <;> rcases cutB_run h hhi hu with ⟨f2, _⟩ | ⟨k2, f2⟩ <;>
      simp [execOp, ho, ex, Instr.sliceAt, run_underlying ht, Instr.slice, f1, f2, Instr.sliceBounds, sb, run_info hn]
  by_cases hb : 0 ≤ l ∧ l ≤ u ∧ u ≤ (es.length : Int) ∧ (es.all fun e => e.cells.length == n) = true
  · rw [if_pos hb] at he
    obtain rfl := Option.some.inj he
    obtain ⟨b1, b2, b3, b4⟩ := hb
    have hrun : (execOp a.eval o).run P W = .ok (.value (.slice (some ⟨b, (if cap = l.toNat then q else q + l.toNat * n), none⟩) (u.toNat - l.toNat) (cap - l.toNat))) W := by
      have cu : u ≤ (cap : Int) := by omega
      have c0 : 0 ≤ u := by omega
      have lu : l ≤ ((u.toNat : Nat) : Int) := by omega
      have lc : l ≤ (es.length : Int) := by omega
      have hfin : ∀ (s : Sem (Nat × Nat × Nat)), s.run P W = .ok (l.toNat, u.toNat, cap) W → ((do
          let (l, h, m) ← s
          let size ← sizeOf e
          pure (.slice (if m = l then some ⟨b, q, none⟩ else (some (⟨b, q, none⟩ : Addr)).map (·.add (l * size))) (h - l) (m - l))) : Sem Value).run P W = .ok (.slice (some ⟨b, (if cap = l.toNat then q else q + l.toNat * n), none⟩) (u.toNat - l.toNat) (cap - l.toNat)) W := fun s hs => by
        rw [Sem.run_bind, hs]
        by_cases hm : cap = l.toNat
        · simp [Result.andThen, run_info hn, hm]
        · simp [Result.andThen, run_info hn, hm, at_add]
      have hs : (Instr.sliceBounds true es.length cap (lo.map a.eval) (hi.map a.eval) none).run P W = .ok (l.toNat, u.toNat, cap) W := by
        have sb : ∀ (k : IntKind) (v : Int) (y : Nat) (code : BoundsCode), 0 ≤ v → v ≤ (y : Int) → (Instr.sliceBound (.int k v) y code).run P W = .ok v.toNat W := fun k v y code g1 g2 => by simp [Instr.sliceBound, asIntOf, g1, g2]
        have sb1 : ∀ k code, (Instr.sliceBound (.int k l) u.toNat code).run P W = .ok l.toNat W := fun k code => sb k l _ code b1 lu
        have sb2 : ∀ k code, (Instr.sliceBound (.int k u) cap code).run P W = .ok u.toNat W := fun k code => sb k u _ code c0 cu
        have sb3 : ∀ k code, (Instr.sliceBound (.int k l) es.length code).run P W = .ok l.toNat W := fun k code => sb k l _ code b1 lc
        rcases cutB_run h hlo hl with ⟨f1, rfl⟩ | ⟨k1, f1⟩ <;> rcases cutB_run h hhi hu with ⟨f2, rfl⟩ | ⟨k2, f2⟩ <;> rw [f1, f2] <;> simp [Instr.sliceBounds, sb1, sb2, sb3]
      have := hfin _ hs
      simp only [execOp, ho, ex, Instr.sliceAt, Sem.run_bind, run_underlying ht, Result.andThen_ok, Instr.slice, Option.map_none] at this ⊢
      rw [this]
      rfl
    refine ⟨_, hrun, ?_⟩
    have hlen : ((es.take u.toNat).drop l.toNat).length = u.toNat - l.toNat := by simp; omega
    have hget : ∀ (i : Nat) (e : PV), ((es.take u.toNat).drop l.toNat)[i]? = some e → es[l.toNat + i]? = some e := fun i e he => by
      rw [List.getElem?_drop, List.getElem?_take] at he
      split at he
      · exact he
      · cases he
    have hz' : ∀ e ∈ es, z = n := fun e he => by
      have := hz e he
      have h4 := List.all_eq_true.1 b4 e he
      simp at h4
      omega
    have key := Rd.sl (Φ := Φ) ((es.take u.toNat).drop l.toNat) b (if cap = l.toNat then q else q + l.toNat * n) n (cap - l.toNat) (fun i => us (l.toNat + i)) (fun e he => by
        obtain ⟨i, hi⟩ := List.getElem?_of_mem he
        have hm := List.mem_of_getElem? (hget i e hi)
        rw [← hz' e hm]
        exact hz e hm) (by omega) (fun i e j c hi hc => by
        have hm := hget i e hi
        have hlt := (List.getElem?_eq_some_iff.1 hm).1
        rw [if_neg (by omega)]
        have := r1 _ e j c hm hc
        rw [hz' e (List.mem_of_getElem? hm)] at this
        rw [Nat.add_mul] at this
        rw [Nat.add_assoc q]
        exact this) (fun i e j c hi hc => r2 _ e j c (hget i e hi) hc)
    rw [hlen] at key
    exact key
  · rw [if_neg hb] at he; cases he
end
section
variable {E : Env} {W : World} {Φ : Known} {φ : Nat → Nat} {al : Nat → Prop} {σ : St} {a : Act} {P : Program} {o : Oper} {ef : Ef}
theorem flat_get {z : Nat} (hz : 0 < z) : ∀ (es : List PV) (_ : ∀ e ∈ es, e.cells.length = z) (j : Nat) (c : PV), (es.flatMap PV.cells)[j]? = some c → ∃ e, es[j / z]? = some e ∧ e.cells[j % z]? = some c
  | [], _, j, c, h => by simp at h
  | e :: es, he, j, c, h => by
    have hl : e.cells.length = z := he e (by simp)
    rw [List.flatMap_cons, List.getElem?_append] at h
    rcases Nat.lt_or_ge j z with hj | hj
    · rw [if_pos (by omega)] at h
      rw [Nat.div_eq_of_lt hj, Nat.mod_eq_of_lt hj]
      exact ⟨e, rfl, h⟩
    · rw [if_neg (by omega), hl] at h
      obtain ⟨e', h1, h2⟩ := flat_get hz es (fun e h => he e (by simp [h])) (j - z) c h
      have d1 : j / z = (j - z) / z + 1 := by
        conv => lhs; rw [show j = (j - z) + z by omega]
        exact Nat.add_div_right _ hz
      have d2 : j % z = (j - z) % z := by
        conv => lhs; rw [show j = (j - z) + z by omega]
        exact Nat.add_mod_right _ _
      rw [d1, d2]
      exact ⟨e', by simpa using h1, h2⟩
theorem flat_len {z : Nat} : ∀ (es : List PV) (_ : ∀ e ∈ es, e.cells.length = z), (es.flatMap PV.cells).length = es.length * z
  | [], _ => by simp
  | e :: es, he => by
    rw [List.flatMap_cons, List.length_append, he e (by simp), flat_len es (fun e h => he e (by simp [h])), List.length_cons, Nat.add_mul, Nat.one_mul, Nat.add_comm]
/-- what is appended: k parts of z cells -/
def Source (W : World) (Φ : Known) (φ : Nat → Nat) (al : Nat → Prop) (bx : Bxs) (x : Value) (z k : Nat) (cs : List LV) : Prop :=
  ∃ (A : Option Addr) (cap : Nat) (news : List Value), x = .slice A k cap ∧ news.length = k * z ∧ cs.length = k * z ∧ (∀ b, A = some b → ∀ (j : Nat) (u : Value), news[j]? = some u → W.cell? (b.add j) = some u) ∧ (A = none → k = 0) ∧ ∀ (j : Nat) (c : LV), cs[j]? = some c → ∃ u : Value, news[j]? = some u ∧ RelL W Φ φ al bx c u
theorem app_src (h : Rel E Φ φ al σ a W) {z k : Nat} (hz : 0 < z) {v : LV} {x : Value} {cs : List LV} (hv : RelL W Φ φ al σ.bx v x) (hs : appSrc σ z v = some (k, cs)) : Source W Φ φ al σ.bx x z k cs := by
  unfold appSrc at hs
  split at hs <;> try (cases hs; done)
  · cases hs
    exact ⟨none, 0, [], rd_nils hv, by simp, by simp, by simp, by simp, by simp⟩
  · rename_i es
    split at hs <;> try (cases hs; done)
    rename_i hall
    cases hs
    rcases rd_sl hv with ⟨rfl, ex⟩ | ⟨b, q, z', cap, us, ex, h1, h2, h3, h4⟩
    · exact ⟨none, 0, [], ex, by simp, by simp, by simp, by simp, by simp⟩
    have hl : ∀ e ∈ es, e.cells.length = z := fun e he => by simpa using List.all_eq_true.1 hall e he
    have hzz : ∀ e ∈ es, z' = z := fun e he => by rw [← h1 e he, hl e he]
    refine ⟨some ⟨b, q, none⟩, cap, (List.range (es.length * z)).map fun j => us (j / z) (j % z), ex, by simp, by simp [flat_len es hl], ?_, by simp, fun j c hc => ?_⟩
    · rintro b' rfl' j u hu
      cases rfl'
      rw [List.getElem?_map] at hu
      obtain ⟨j', hj', rfl⟩ := Option.map_eq_some_iff.1 hu
      have hj : j < es.length * z := by
        have := (List.getElem?_eq_some_iff.1 hj').1
        simpa using this
      have : j' = j := by simpa [hj] using hj'.symm
      subst this
      have hlt : j' / z < es.length := (Nat.div_lt_iff_lt_mul hz).2 hj
      have he : es[j' / z]? = some es[j' / z] := List.getElem?_eq_getElem hlt
      have hm := List.mem_of_getElem? he
      have hlt2 : j' % z < es[j' / z].cells.length := by rw [hl _ hm]; exact Nat.mod_lt _ hz
      have := h.kcell (h3 _ _ _ _ he (List.getElem?_eq_getElem hlt2))
      rw [hzz _ hm] at this
      rw [at_add]
      rw [Nat.add_assoc, Nat.div_add_mod'] at this
      exact this
    · simp only [List.getElem?_map, Option.map_eq_some_iff] at hc
      obtain ⟨c', hc', rfl⟩ := hc
      obtain ⟨e, e1, e2⟩ := flat_get hz es hl j c' hc'
      have hj : j < es.length * z := by rw [← flat_len es hl]; exact (List.getElem?_eq_some_iff.1 hc').1
      exact ⟨us (j / z) (j % z), by simp [hj], h4 _ _ _ _ e1 e2⟩
  · rename_i b st n z' g
    obtain ⟨cs', hb, hs'⟩ := Option.bind_eq_some_iff.1 hs
    clear hs
    by_cases hc : z = z' ∧ n * z ≤ cs'.length
    case neg => rw [if_neg hc] at hs'; cases hs'
    rw [if_pos hc] at hs'
    obtain ⟨rfl, hc⟩ := hc
    cases hs'
    obtain ⟨B, cap, xs, q1, q2, q3, ex, q4, q5, q6, q7⟩ := h.bs hv hb
    obtain ⟨_, _, xs', r3, r4, r5⟩ := h.row b B q1
    rw [q4] at r3
    cases r3
    subst q3
    refine ⟨some ⟨φ b, 0, none⟩, cap, (xs.toList.take (k * z)), ex, by simp; omega, by simp; omega, ?_, by simp, fun j c hc' => ?_⟩
    · rintro b' hb' j u hu
      cases hb'
      rw [List.getElem?_take] at hu
      split at hu
      · rw [at_add, Nat.zero_add]
        exact row_cell q4 (by simpa using hu)
      · cases hu
    · rw [List.getElem?_take] at hc'
      split at hc'
      · rename_i hj
        obtain ⟨u, u1, _, u2⟩ := r5 j c hc'
        exact ⟨u, by rw [List.getElem?_take, if_pos hj, Array.getElem?_toList]; exact u1, u2⟩
      · cases hc'
theorem sim_app (h : Rel E Φ φ al σ a W) {t e : TypeId} {g : Bool} {i : TypeInfo} {z : PV} {x y : Operand} {x' y' : Opd} (ho : o.op = .call { callee := .builtin .append, args := #[x, y], argTypes := #[t, t] })
    (ht : P.underlying t = some (.slice e)) (hi : P.info? e = some i) (hz : zeroP P e = some z) (hzl : z.cells.length = i.size) (hsz : 0 < i.size) (hx : opd x = some x') (hy : opd y = some y') (he : eff σ (.app e g i.size i.bytes x' y') = some ef) : Sim P o a W Φ φ al σ.bx ef := by
  have h1 := h.opd hx
  have h2 := h.opd hy
  simp only [eff] at he
  obtain ⟨⟨k, cs⟩, hs, he⟩ := Option.bind_eq_some_iff.1 he
  obtain ⟨A, c, news, ey, n1, n2, n3, n4, n5⟩ := app_src h hsz h2 hs
  have hop : (execOp a.eval o).run P W = ((Builtin.append_ #[t, t] o.type #[a.eval x, a.eval y]).run P W).andThen fun v w => .ok (.value v) w := by
    simp [execOp, ho, resolve, invoke, builtin]
  obtain ⟨zx, hzv⟩ : ∃ zx, i.zero = some zx ∧ ofV zx = some z := by
    obtain ⟨i', hi', hz'⟩ := Option.bind_eq_some_iff.1 hz
    rw [hi] at hi'
    cases hi'
    exact Option.bind_eq_some_iff.1 hz'
  have hzx : zx.cells.size = i.size := (ofV_size hzv.2).trans hzl
  by_cases hk : k = 0
  · subst hk
    simp only [if_true] at he
    have hsl : ∃ p n c, a.eval x = .slice p n c ∧ n ≤ c ∧ ef = .val (σ.get x') := by
      split at he <;> try (cases he; done)
      · rename_i e1; cases he; rw [e1] at h1; exact ⟨_, _, _, rd_nils h1, Nat.le_refl _, by rw [e1]⟩
      · rename_i e1; cases he; rw [e1] at h1; rcases rd_sl h1 with ⟨rfl, ex⟩ | ⟨b, q, z, cap, us, ex, _, hc, _⟩ <;> first | exact ⟨_, _, _, ex, hc, by rw [e1]⟩ | exact ⟨_, _, _, ex, Nat.le_refl _, by rw [e1]⟩
      · rename_i e1; cases he; rw [e1] at h1; obtain ⟨_, ⟨q, c, hv, hc⟩, _⟩ := h1; exact ⟨_, _, _, hv, hc, by rw [e1]⟩
    obtain ⟨p, n, c', ex, hn, rfl⟩ := hsl
    refine ⟨a.eval x, ?_, h1⟩
    rw [hop, ex, ey]
    have e0 : (loadCells (A.getD ⟨0, 0, none⟩) 0).run P W = .ok #[] W := rfl
    cases A <;> cases p <;> simp [Builtin.append_, run_underlying ht, sizeOf, typeInfo, hi, Builtin.lenOf, Builtin.firstCells, loadCells, loadCellsFrom, storeCells, hn, Result.andThen]
  · rw [if_neg hk] at he
    by_cases hp : cs.all LV.plain = true
    case neg => rw [if_neg hp] at he; cases he
    rw [if_pos hp] at he
    obtain ⟨b', rfl⟩ : ∃ b', A = some b' := by
      cases A with
      | none => exact absurd (n4 rfl) hk
      | some b' => exact ⟨b', rfl⟩
    have hone : ∀ u ∈ news, u.oneCell' = true := fun u hu => by
      obtain ⟨j, hj⟩ := List.getElem?_of_mem hu
      have hlt : j < cs.length := by
        have := (List.getElem?_eq_some_iff.1 hj).1
        omega
      obtain ⟨u', k1, k2⟩ := n5 j _ (List.getElem?_eq_getElem hlt)
      rw [hj] at k1
      cases k1
      exact relL_one k2 (List.all_eq_true.1 hp _ (List.getElem_mem hlt))
    have main : ∀ (n : Nat) (xs : List Value), W.ownsRow 0 e i.size (a.eval x) n xs → 2 * (n + k) * (i.bytes + 1) ≤ 2 ^ 40 → ∃ (W1 : World) (q cap : Nat) (cur : Array Value), (execOp a.eval o).run P W = .ok (.value (.slice (some ⟨q, 0, none⟩) (n + k) cap)) W1 ∧
        W1.heap[q]? = some (.cells cur e (0, 0)) ∧ cur.size = cap * i.size ∧ n + k ≤ cap ∧ cap ≤ maxLen ∧ cur.toList.take ((n + k) * i.size) = xs ++ news ∧ W.grownBy W1 (a.eval x).ownBlock ∧ ((a.eval x).ownBlock = some q ∨ q = W.heap.size) := by
      intro n xs hown hb
      have hb1 : n + k ≤ 2 ^ 40 := by
        have : (n + k) * 1 ≤ 2 * (n + k) * (i.bytes + 1) := Nat.mul_le_mul (by omega) (by omega)
        omega
      have hb2 : (n + k) * i.bytes ≤ 2 ^ 40 := Nat.le_trans (Nat.mul_le_mul (by omega) (by omega)) hb
      obtain ⟨v', W1, r1, r2, r3, r4, r5⟩ := run_append_own_at (P := P) W 0 t o.type e i zx i.size i.bytes ht hi hzv.1 rfl rfl hzx hsz (a.eval x) n xs hown b' k c news n1 (n3 b' rfl) hone (by unfold maxLen; omega) (by omega) (by omega)
      obtain ⟨r6, r7⟩ := r2
      rcases r7 with ⟨rfl, h0⟩ | ⟨q, cap, cur, rfl, _, s1, s2, s3, s4, s5⟩
      · omega
      · refine ⟨W1, q, cap, cur, by rw [hop, ey, r1]; rfl, s1, s4, s2, s3, s5, r3, ?_⟩
        rcases r5 with r5 | r5
        · exact .inl r5.symm
        · exact .inr (by simpa [Value.ownBlock] using r5)
    split at he <;> try (cases he; done)
    · rename_i e1
      rw [e1] at h1
      by_cases hb : 2 * k * (i.bytes + 1) ≤ 2 ^ 40
      case neg => rw [if_neg hb] at he; cases he
      rw [if_pos hb] at he
      obtain rfl := Option.some.inj he
      have ex := rd_nils h1
      obtain ⟨W1, q, cap, cur, r1, r2, r3, r4, r5, r6, r7, r8⟩ := main 0 [] (by rw [ex]; exact World.ownsRow_nil _ _ _ _) (by simpa using hb)
      rw [ex] at r7 r8
      obtain rfl : q = W.heap.size := by
        rcases r8 with r8 | r8
        · cases r8
        · exact r8
      simp only [Nat.zero_add, List.nil_append] at r1 r4 r6
      refine ⟨W1, cur, _, r1, ⟨r7.os, r7.tape, r7.output, r7.size, fun j hj => r7.block j hj (by simp [Value.ownBlock])⟩, r2, ?_, fun j u hj => ?_, .inr ⟨k, i.size, g, cap, rfl, rfl, r3, r4, r5⟩⟩
      · rw [n2, r3]; exact Nat.mul_le_mul_right _ r4
      · obtain ⟨u', u1, u2⟩ := n5 j u hj
        rw [← r6, List.getElem?_take] at u1
        split at u1
        · exact ⟨u', by simpa using u1, relL_one u2 (List.all_eq_true.1 hp _ (List.mem_of_getElem? hj)), u2⟩
        · cases u1
    · rename_i b st n z' g' e1
      rw [e1] at h1
      obtain ⟨old, hb, he'⟩ := Option.bind_eq_some_iff.1 he
      clear he
      by_cases hc : i.size = z' ∧ g = g' ∧ (Bxs.box σ.bx b).any (·.ty == e) = true ∧ old.length = n * i.size ∧ 2 * (n + k) * (i.bytes + 1) ≤ 2 ^ 40
      case neg => rw [if_neg hc] at he'; cases he'
      rw [if_pos hc] at he'
      obtain ⟨hzz, rfl, hty, hol, hb40⟩ := hc
      obtain rfl := Option.some.inj he'
      obtain ⟨B, cap0, xs, q1, q2, q3, ex, q4, q5, q6, q7⟩ := h.bs h1 hb
      obtain ⟨_, _, xs', m3, m4, m5⟩ := h.row b B q1
      rw [q4] at m3
      cases m3
      subst q3
      have hBt : B.ty = e := by simpa [q1] using hty
      subst hzz
      obtain ⟨W1, q, cap, cur, r1, r2, r3, r4, r5, r6, r7, r8⟩ := main n (xs.toList.take (n * i.size)) (by
        refine ⟨by simp; omega, .inr ⟨φ b, cap0, xs, ex, Nat.zero_le _, hBt ▸ q4, q6, q7, q5, rfl⟩⟩) hb40
      rw [ex] at r7 r8
      refine ⟨B, W1, _, cap, cur, q, q1, q2, r1, rfl, hBt ▸ r2, r3, r4, r5, ?_, r7.size, fun j hj hne => r7.block j hj (fun e => hne (by simpa [Value.ownBlock] using e)), ⟨r7.os, r7.tape, r7.output⟩, ?_, fun j u hj => ?_⟩
      · rcases r8 with r8 | r8
        · exact .inl (by simpa [Value.ownBlock] using r8.symm)
        · exact .inr r8
      · rw [List.length_append, n2, hol, ← Nat.add_mul, r3]; exact Nat.mul_le_mul_right _ r4
      · have key : ∀ u', (xs.toList.take (n * i.size) ++ news)[j]? = some u' → cur[j]? = some u' := fun u' hu => by
          rw [← r6, List.getElem?_take] at hu
          split at hu
          · simpa using hu
          · cases hu
        rw [List.getElem?_append] at hj
        split at hj
        · rename_i hlt
          obtain ⟨u', u1, u2, u3⟩ := m5 j u hj
          refine ⟨u', key u' ?_, u2, u3⟩
          rw [List.getElem?_append_left (by simp; omega), List.getElem?_take, if_pos (by omega), Array.getElem?_toList]
          exact u1
        · rename_i hlt
          obtain ⟨u', u1, u2⟩ := n5 _ u hj
          refine ⟨u', key u' ?_, relL_one u2 (List.all_eq_true.1 hp _ (List.mem_of_getElem? hj)), u2⟩
          rw [List.getElem?_append_right (by simp; omega)]
          have : (xs.toList.take (n * i.size)).length = B.cells.length := by simp; omega
          rw [this]
          exact u1
end
section
variable {E : Env} {W : World} {Φ : Known} {φ : Nat → Nat} {al : Nat → Prop} {σ : St} {a : Act} {P : Program} {o : Oper} {ef : Ef}
theorem foldl_set (off : Nat) : ∀ (l : List Value) (k : Nat) (cells : Array Value), off + k + l.length ≤ cells.size →
    ((l.zipIdx k).foldl (fun cs (q : Value × Nat) => cs.setIfInBounds (off + q.2) q.1) cells).size = cells.size ∧
    ∀ j, ((l.zipIdx k).foldl (fun cs (q : Value × Nat) => cs.setIfInBounds (off + q.2) q.1) cells)[j]? = if off + k ≤ j ∧ j < off + k + l.length then l[j - (off + k)]? else cells[j]?
  | [], k, cells, _ => by simp; omega
  | v :: l, k, cells, h => by
    simp only [List.length_cons] at h
    obtain ⟨h1, h2⟩ := foldl_set off l (k + 1) (cells.setIfInBounds (off + k) v) (by simp; omega)
    simp only [List.zipIdx_cons, List.foldl_cons]
    refine ⟨by rw [h1]; simp, fun j => ?_⟩
    rw [h2, Array.getElem?_setIfInBounds]
    by_cases e1 : off + k = j
    · subst e1
      rw [if_neg (by omega), if_pos rfl, if_pos (by omega), if_pos (by simp)]
      simp
    · rw [if_neg e1]
      by_cases e2 : off + (k + 1) ≤ j ∧ j < off + (k + 1) + l.length
      · rw [if_pos e2, if_pos (by simp; omega)]
        rw [show j - (off + k) = (j - (off + (k + 1))) + 1 by omega, List.getElem?_cons_succ]
      · rw [if_neg e2, if_neg (by simp; omega)]
theorem fill_sim {place : Nat → Option (Nat × Nat)} : ∀ (qs : List (Nat × Nat × LV)) (ps : List (Nat × Value)) (cs cs' : List PV) (cells : Array Value), qs.length = ps.length →
    (∀ (i : Nat) (q : Nat × Nat × LV) (p : Nat × Value), qs[i]? = some q → ps[i]? = some p → place p.1 = some (q.1, q.2.1) ∧ RelL W Φ φ al σ.bx q.2.2 p.2) →
    fillL cs qs = some cs' → cells.size = cs.length → (∀ (j : Nat) (c : PV) (u : Value), cs[j]? = some c → cells[j]? = some u → Rd Φ c u) →
    ∃ cells', Instr.fill place cells ps = some cells' ∧ cells'.size = cs'.length ∧ ∀ (j : Nat) (c : PV) (u : Value), cs'[j]? = some c → cells'[j]? = some u → Rd Φ c u
  | [], [], cs, cs', cells, _, _, hf, hs, hr => by
    cases hf
    exact ⟨cells, rfl, hs, hr⟩
  | [], _ :: _, _, _, _, hl, _, _, _, _ => by simp at hl
  | _ :: _, [], _, _, _, hl, _, _, _, _ => by simp at hl
  | (off, n, v) :: qs, (i, x) :: ps, cs, cs', cells, hl, hq, hf, hs, hr => by
    obtain ⟨hp, hx⟩ := hq 0 _ _ rfl rfl
    simp only at hp hx
    simp only [fillL] at hf
    obtain ⟨v', hv, hf⟩ := Option.bind_eq_some_iff.1 hf
    by_cases hc : v'.cells.length = n ∧ off + n ≤ cs.length ∧ v'.cells.all PV.plain = true
    case neg => rw [if_neg hc] at hf; cases hf
    rw [if_pos hc] at hf
    obtain ⟨c1, c2, c3⟩ := hc
    have hx' : Rd Φ v' x := by
      unfold LV.pv at hv
      split at hv
      · cases hv; exact hx
      · cases hv
    obtain ⟨d1, d2⟩ := rd_cells hx' c3
    obtain ⟨s1, s2⟩ := foldl_set off x.cells.toList 0 cells (by simp; omega)
    have efold : (x.cells.zipIdx.foldl (fun cs (q : Value × Nat) => cs.setIfInBounds (off + q.2) q.1) cells) = ((x.cells.toList.zipIdx 0).foldl (fun cs (q : Value × Nat) => cs.setIfInBounds (off + q.2) q.1) cells) := by
      rw [← Array.foldl_toList]; simp
    obtain ⟨cells', f1, f2, f3⟩ := fill_sim qs ps _ cs' (x.cells.zipIdx.foldl (fun cs (q : Value × Nat) => cs.setIfInBounds (off + q.2) q.1) cells) (by simpa using hl) (fun i q p h1 h2 => hq (i + 1) q p (by simpa using h1) (by simpa using h2)) hf (by
        rw [efold, s1, hs]; simp; omega) (fun j c u hc hu => by
        rw [efold, s2] at hu
        simp only [Nat.add_zero, Array.length_toList] at hu
        rw [List.append_assoc, List.getElem?_append] at hc
        simp only [List.length_take] at hc
        rw [show min off cs.length = off by omega] at hc
        by_cases e1 : j < off
        · rw [if_pos e1, List.getElem?_take, if_pos e1] at hc
          rw [if_neg (by omega)] at hu
          exact hr j c u hc hu
        · rw [if_neg e1, List.getElem?_append] at hc
          by_cases e2 : j - off < v'.cells.length
          · rw [if_pos e2] at hc
            rw [if_pos (by omega)] at hu
            obtain ⟨u', k1, _, k2⟩ := d2 _ c hc
            rw [Array.getElem?_toList, k1] at hu
            cases hu
            exact k2
          · rw [if_neg e2, List.getElem?_drop] at hc
            rw [if_neg (by omega)] at hu
            rw [show off + n + (j - off - v'.cells.length) = j by omega] at hc
            exact hr j c u hc hu)
    refine ⟨cells', ?_, f2, f3⟩
    rw [Instr.fill]
    simp only [hp]
    rw [if_neg (by simp; omega)]
    exact f1
theorem parts_sim (h : Rel E Φ φ al σ a W) {place : Nat → Option (Nat × Nat)} {ps : Array (Nat × Operand)} {qs : List (Nat × Nat × Opd)} (hq : partsP P place ps.toList = some qs) :
    (qs.map fun q => (q.1, q.2.1, σ.get q.2.2)).length = ((ps.map fun (i, x) => (i, a.eval x)).toList).length ∧ ∀ (i : Nat) (q : Nat × Nat × LV) (p : Nat × Value), (qs.map fun q => (q.1, q.2.1, σ.get q.2.2))[i]? = some q → ((ps.map fun (i, x) => (i, a.eval x)).toList)[i]? = some p → place p.1 = some (q.1, q.2.1) ∧ RelL W Φ φ al σ.bx q.2.2 p.2 := by
  obtain ⟨l1, g1⟩ := mapM_get hq
  refine ⟨by simp at l1 ⊢; exact l1, fun i q p h1 h2 => ?_⟩
  simp only [Array.toList_map, List.getElem?_map, Option.map_eq_some_iff] at h1 h2
  obtain ⟨q', hq', rfl⟩ := h1
  obtain ⟨⟨j, x⟩, hp', rfl⟩ := h2
  obtain ⟨y, y1, y2⟩ := g1 i (j, x) hp'
  rw [hq'] at y2
  cases y2
  obtain ⟨pl, e1, y1⟩ := Option.bind_eq_some_iff.1 y1
  obtain ⟨x', e2, y1⟩ := Option.bind_eq_some_iff.1 y1
  obtain rfl := Option.some.inj y1
  exact ⟨e1, h.opd e2⟩
theorem zero_cells {t : TypeId} {i : TypeInfo} {z : PV} (hi : P.info? t = some i) (hz : zeroP P t = some z) : ∃ x, i.zero = some x ∧ x.cells.size = z.cells.length ∧ ∀ (j : Nat) (c : PV) (u : Value), z.cells[j]? = some c → x.cells[j]? = some u → Rd Φ c u := by
  obtain ⟨i', hi', hz'⟩ := Option.bind_eq_some_iff.1 hz
  rw [hi] at hi'
  cases hi'
  obtain ⟨x, hx, hv⟩ := Option.bind_eq_some_iff.1 hz'
  refine ⟨x, hx, ofV_size hv, ?_⟩
  have hr : Rd Φ z x := ofV_rd hv
  have hs := ofV_size hv
  intro j c u hc hu
  by_cases ha : ∃ cs, z = .agg cs
  · obtain ⟨cs, rfl⟩ := ha
    obtain ⟨xs, rfl, _, r⟩ := rd_agg hr
    exact r j c u hc hu
  · have e : z.cells = [z] := by cases z <;> first | rfl | exact absurd ⟨_, rfl⟩ ha
    rw [e] at hc hs
    have ex : x.cells = #[x] := by
      unfold ofV at hv
      split at hv
      · obtain ⟨r, _, hq⟩ := Option.map_eq_some_iff.1 hv
        exact absurd ⟨r, hq.symm⟩ ha
      · unfold ofS at hv
        split at hv <;> first | rfl | cases hv
    rw [ex] at hu
    cases j with
    | zero => cases hc; cases hu; exact hr
    | succ j => simp at hc
theorem sim_build (h : Rel E Φ φ al σ a W) {t : TypeId} {fs : Array Field} {z : PV} {ps : Array (Nat × Operand)} {pl : List (Nat × Nat)} {qs : List (Nat × Nat × Opd)} (ho : o.op = .build t ps) (hu : P.underlying t = some (.struct fs)) (hz : zeroP P t = some z)
    (hp : placesP P fs = some pl) (hq : partsP P (fun i => pl[i]?) ps.toList = some qs) (he : eff σ (.build z.cells qs) = some ef) : Sim P o a W Φ φ al σ.bx ef := by
  simp only [eff] at he
  obtain ⟨cs, hf, he⟩ := Option.bind_eq_some_iff.1 he
  obtain rfl := Option.some.inj he
  obtain ⟨i, hi, _⟩ := Option.bind_eq_some_iff.1 hz
  obtain ⟨x, hx, hs, hr⟩ := zero_cells (Φ := Φ) hi hz
  obtain ⟨l, g⟩ := parts_sim h hq
  obtain ⟨cells', f1, f2, f3⟩ := fill_sim _ _ _ _ x.cells l g hf hs hr
  have hb : P.built t (ps.map fun (i, x) => (i, a.eval x)).toList = some cells' := by
    unfold Program.built
    unfold placesP at hp
    simp only [hi, hu, hx, hp]
    simpa using f1
  refine ⟨.agg cells', ?_, .agg _ _ f2 f3⟩
  have := run_build (P := P) W t (ps.map fun (i, x) => (i, a.eval x)) cells' hb
  simp only [execOp, ho, Sem.run_bind, this]
  rfl
theorem flat_rep {zs : List PV} {n z : Nat} (hl : zs.length = z) (hz : 0 < z) : ((List.replicate n zs).flatten).length = n * z ∧ ∀ (j : Nat) (c : PV), ((List.replicate n zs).flatten)[j]? = some c → zs[j % z]? = some c := by
  induction n with
  | zero => simp
  | succ n ih =>
    rw [List.replicate_succ, List.flatten_cons]
    refine ⟨by rw [List.length_append, ih.1, hl, Nat.add_mul, Nat.one_mul, Nat.add_comm], fun j c hc => ?_⟩
    rw [List.getElem?_append] at hc
    split at hc
    · rename_i hj
      rw [Nat.mod_eq_of_lt (by omega)]
      exact hc
    · rename_i hj
      have := ih.2 _ c hc
      rw [hl] at this hj
      rw [show j = (j - z) + z by omega, Nat.add_mod_right]
      exact this
theorem sim_lit (h : Rel E Φ φ al σ a W) {t e : TypeId} {n : Nat} {g : Bool} {i : TypeInfo} {z : PV} {ps : Array (Nat × Operand)} {qs : List (Nat × Nat × Opd)} (ho : o.op = .buildSlice t n ps) (hu : P.underlying t = some (.slice e)) (hi : P.info? e = some i) (hz : zeroP P e = some z)
    (hzl : z.cells.length = i.size) (hsz : 0 < i.size) (hn : n * i.size ≤ 2 ^ 24) (hn0 : n = 0 → qs = []) (hq : partsP P (fun j => some (j * i.size, i.size)) ps.toList = some qs) (he : eff σ (.lit e g i.size n z.cells qs) = some ef) : Sim P o a W Φ φ al σ.bx ef := by
  simp only [eff] at he
  obtain ⟨cs, hf, he⟩ := Option.bind_eq_some_iff.1 he
  by_cases hpl : cs.all PV.plain = true
  case neg => rw [if_neg (fun q => hpl q.2)] at he; cases he
  rw [if_pos ⟨hzl, hpl⟩] at he
  obtain rfl := Option.some.inj he
  obtain ⟨x, hx, hs, hr⟩ := zero_cells (Φ := Φ) hi hz
  obtain ⟨l, g'⟩ := parts_sim h hq
  obtain ⟨fl, fg⟩ := flat_rep (n := n) hzl hsz
  have hxs : x.cells.size = i.size := by omega
  obtain ⟨cells', f1, f2, f3⟩ := fill_sim (place := fun j => some (j * i.size, i.size)) _ _ _ _ ((Array.range (n * i.size)).map (x.cells[· % x.cells.size]!)) l g' hf (by simp [fl]) (fun j c u hc hu' => by
    have h1 := fg j c hc
    simp only [Array.getElem?_map, Option.map_eq_some_iff] at hu'
    obtain ⟨j', hj', rfl⟩ := hu'
    have hj : j < n * i.size := by rw [← fl]; exact (List.getElem?_eq_some_iff.1 hc).1
    obtain rfl : j = j' := by simpa [Array.getElem?_range, hj] using hj'
    have hlt : j % i.size < x.cells.size := by rw [hxs]; exact Nat.mod_lt _ hsz
    refine hr _ c _ h1 ?_
    rw [hxs, getElem!_pos x.cells _ hlt]
    exact Array.getElem?_eq_getElem hlt)
  have hcs : cs.length = n * i.size := by
    have : ∀ (qs : List (Nat × Nat × LV)) (c c' : List PV), fillL c qs = some c' → c'.length = c.length := by
      intro qs
      induction qs with
      | nil => intro c c' h; cases h; rfl
      | cons q qs ih =>
        intro c c' h
        obtain ⟨off, n, v⟩ := q
        simp only [fillL] at h
        obtain ⟨v', _, h⟩ := Option.bind_eq_some_iff.1 h
        by_cases hc : v'.cells.length = n ∧ off + n ≤ c.length ∧ v'.cells.all PV.plain = true
        case neg => rw [if_neg hc] at h; cases h
        rw [if_pos hc] at h
        have := ih _ _ h
        simp at this
        omega
    rw [this _ _ _ hf, fl]
  have hone : ∀ (j : Nat) (c : PV), cs[j]? = some c → c.plain = true := fun j c hc => List.all_eq_true.1 hpl c (List.mem_of_getElem? hc)
  refine ⟨W.alloc (.cells cells' e), cells', .slice (some ⟨W.heap.size, 0, none⟩) n n, ?_, (Below.refl _ _).alloc (Nat.le_refl _) _, heap_alloc_new W _, by simp [f2], fun j c hc => ?_, .inr ⟨n, i.size, g, n, rfl, rfl, by omega, Nat.le_refl _, ?_⟩⟩
  · by_cases h0 : n = 0
    · subst h0
      have hqs := hn0 rfl
      subst hqs
      obtain ⟨l1, _⟩ := mapM_get hq
      have hps : ps = #[] := by
        apply Array.eq_empty_of_size_eq_zero
        simpa using l1.symm
      subst hps
      cases hf
      simp only [Nat.zero_mul] at f1 f2
      have : cells' = #[] := Array.eq_empty_of_size_eq_zero (by simpa using f2)
      subst this
      have r0 : Array.range 0 = #[] := by apply Array.eq_empty_of_size_eq_zero; simp
      simp [execOp, ho, Instr.buildSlice, run_underlying hu, sizeOf, typeInfo, hi, newRow, Instr.fill, r0]
    · have := run_buildSlice (P := P) W t e n (ps.map fun (i, x) => (i, a.eval x)) cells' i x hu hi hx (by omega) (Nat.mul_ne_zero h0 (by omega)) f1
      simp only [execOp, ho, Sem.run_bind, this]
      rfl
  · simp only [List.getElem?_map, Option.map_eq_some_iff] at hc
    obtain ⟨c', hc', rfl⟩ := hc
    have hj : j < cells'.size := by rw [f2]; exact (List.getElem?_eq_some_iff.1 hc').1
    have hu' : cells'[j]? = some cells'[j] := Array.getElem?_eq_getElem hj
    have hrr := f3 j c' _ hc' hu'
    exact ⟨_, hu', rd_one hrr (hone j c' hc'), hrr⟩
  · unfold maxLen
    have : n * 1 ≤ n * i.size := Nat.mul_le_mul_left _ hsz
    omega
end
section
variable {E : Env} {W : World} {Φ : Known} {φ : Nat → Nat} {al : Nat → Prop} {σ : St} {a : Act} {P : Program} {o : Oper} {ef : Ef}
theorem with_mono {ks ks' : List Nat} (h : ∀ k ∈ ks, k ∈ ks') {b q : Nat} {u : Value} (hu : Φ.with W φ ks b q u) : Φ.with W φ ks' b q u := by
  rcases hu with hu | ⟨⟨k, hk, e⟩, hu⟩
  · exact .inl hu
  · exact .inr ⟨⟨k, h k hk, e⟩, hu⟩
theorem one_cells {v : PV} {x : Value} (h : Rd Φ v x) (ho : x.oneCell' = true) : v.cells = [v] := by
  cases h <;> first | rfl | cases ho
theorem parts_get {g : Bool} {z : Nat} : ∀ (n : Nat) (cs : List PV) (i : Nat) (e : PV), (parts g z n cs)[i]? = some e → i < n ∧ e = if g then .agg ((cs.drop (i * z)).take z) else (cs.drop (i * z)).headD .any
  | 0, cs, i, e, h => by simp [parts] at h
  | n + 1, cs, 0, e, h => by simp [parts] at h; subst h; simp
  | n + 1, cs, i + 1, e, h => by
    simp only [parts, List.getElem?_cons_succ] at h
    obtain ⟨h1, h2⟩ := parts_get n _ i e h
    refine ⟨by omega, ?_⟩
    rw [h2]
    simp only [List.drop_drop]
    rw [show z + i * z = (i + 1) * z by rw [Nat.add_mul]; omega]
theorem parts_len {g : Bool} {z : Nat} : ∀ (n : Nat) (cs : List PV), (parts g z n cs).length = n
  | 0, cs => rfl
  | n + 1, cs => by simp [parts, parts_len n]
theorem frz_rd (h : Rel E Φ φ al σ a W) : ∀ (d : Nat) (v : LV) (p : PV) (ks : List Nat) (x : Value), frz σ.bx d v = some (p, ks) → RelL W Φ φ al σ.bx v x → (∀ k ∈ ks, (Bxs.box σ.bx k).isSome) ∧ Rd (Φ.with W φ ks) p x
  | d, .p v, p, ks, x, hf, hr => by
    cases d <;> · cases hf; exact ⟨by simp, Rd.mono (fun _ _ _ h => .inl h) hr⟩
  | d, .yl l, p, ks, x, hf, hr => by cases d <;> cases hf
  | 0, .bp .., _, _, _, hf, _ => by cases hf
  | 0, .bs .., _, _, _, hf, _ => by cases hf
  | d + 1, .bp b st off, p, ks, x, hf, hr => by
    simp only [frz] at hf
    obtain ⟨cs, hb, hf⟩ := Option.bind_eq_some_iff.1 hf
    obtain ⟨vs, hv, hf⟩ := Option.bind_eq_some_iff.1 hf
    by_cases hl : off ≤ vs.length
    case neg => rw [if_neg hl] at hf; cases hf
    rw [if_pos hl] at hf
    cases hf
    obtain ⟨B, q1, q2, q3, q4⟩ := h.bp hr hb
    obtain ⟨_, _, xs, r1, r2, r3⟩ := h.row b B q1
    subst q3
    obtain ⟨l1, g1⟩ := mapM_get hv
    have cell : ∀ (j : Nat) (c : PV × List Nat), vs[j]? = some c → ∃ u : Value, xs[j]? = some u ∧ (∀ k ∈ c.2, (Bxs.box σ.bx k).isSome) ∧ Rd (Φ.with W φ c.2) c.1 u := fun j c hc => by
      have hlt : j < B.cells.length := by rw [← l1]; exact (List.getElem?_eq_some_iff.1 hc).1
      obtain ⟨y, y1, y2⟩ := g1 j _ (List.getElem?_eq_getElem hlt)
      rw [hc] at y2
      cases y2
      obtain ⟨u, u1, u2, u3⟩ := r3 j _ (List.getElem?_eq_getElem hlt)
      obtain ⟨k1, k2⟩ := frz_rd h d _ c.1 c.2 u y1 u3
      exact ⟨u, u1, k1, k2⟩
    refine ⟨fun k hk => ?_, ?_⟩
    · rcases List.mem_cons.1 hk with rfl | hk
      · simp [q1]
      · obtain ⟨c, hc, hk⟩ := List.mem_flatMap.1 hk
        obtain ⟨j, hj⟩ := List.getElem?_of_mem hc
        obtain ⟨u, _, k1, _⟩ := cell j c hj
        exact k1 k hk
    · rw [q4]
      refine .cp _ (φ b) off (fun i => (xs[off + i]?).getD undef) (fun i c hc => ?_) (fun i c hc => ?_) <;>
      · simp only [List.getElem?_drop, List.getElem?_map, Option.map_eq_some_iff] at hc
        obtain ⟨c', hc, rfl⟩ := hc
        obtain ⟨u, u1, k1, k2⟩ := cell _ _ hc
        rw [u1, Option.getD_some]
        first
          | exact .inr ⟨⟨b, by simp, rfl⟩, row_cell r1 u1⟩
          | exact k2.mono fun _ _ _ h => with_mono (fun k hk => List.mem_cons_of_mem _ (List.mem_flatMap.2 ⟨c', List.mem_of_getElem? hc, hk⟩)) h
  | d + 1, .bs b st n z g, p, ks, x, hf, hr => by
    simp only [frz] at hf
    obtain ⟨cs, hb, hf⟩ := Option.bind_eq_some_iff.1 hf
    obtain ⟨vs, hv, hf⟩ := Option.bind_eq_some_iff.1 hf
    by_cases hl : n * z ≤ vs.length ∧ (g = true ∨ z = 1) ∧ 0 < z
    case neg => rw [if_neg hl] at hf; cases hf
    rw [if_pos hl] at hf
    obtain ⟨l0, lg, lz⟩ := hl
    cases hf
    obtain ⟨B, cap, xs0, q1, q2, q3, q4, q5, q6, q7, q8⟩ := h.bs hr hb
    obtain ⟨_, _, xs, r1, r2, r3⟩ := h.row b B q1
    subst q3
    obtain ⟨l1, g1⟩ := mapM_get hv
    have cell : ∀ (j : Nat) (c : PV × List Nat), vs[j]? = some c → ∃ u : Value, xs[j]? = some u ∧ u.oneCell' = true ∧ (∀ k ∈ c.2, (Bxs.box σ.bx k).isSome) ∧ Rd (Φ.with W φ c.2) c.1 u := fun j c hc => by
      have hlt : j < B.cells.length := by rw [← l1]; exact (List.getElem?_eq_some_iff.1 hc).1
      obtain ⟨y, y1, y2⟩ := g1 j _ (List.getElem?_eq_getElem hlt)
      rw [hc] at y2
      cases y2
      obtain ⟨u, u1, u2, u3⟩ := r3 j _ (List.getElem?_eq_getElem hlt)
      obtain ⟨k1, k2⟩ := frz_rd h d _ c.1 c.2 u y1 u3
      exact ⟨u, u1, u2, k1, k2⟩
    have get : ∀ (i : Nat) (e : PV), (parts g z n (vs.map Prod.fst))[i]? = some e → e.cells.length = z ∧ ∀ (j : Nat) (c : PV), e.cells[j]? = some c → ∃ q, vs[i * z + j]? = some q ∧ q.1 = c := fun i e he => by
      obtain ⟨hi, rfl⟩ := parts_get n _ i e he
      have hiz : i * z + z ≤ n * z := by
        have : (i + 1) * z ≤ n * z := Nat.mul_le_mul_right _ hi
        rw [Nat.add_mul] at this; omega
      cases g with
      | true =>
        simp only [if_true]
        refine ⟨by simp [PV.cells]; omega, fun j c hc => ?_⟩
        simp only [PV.cells, List.getElem?_take, List.getElem?_drop, List.getElem?_map] at hc
        split at hc
        · obtain ⟨q, hq, rfl⟩ := Option.map_eq_some_iff.1 hc
          exact ⟨q, hq, rfl⟩
        · cases hc
      | false =>
        obtain rfl : z = 1 := by simpa using lg
        simp only [Nat.mul_one] at *
        have hlt : i < vs.length := by omega
        obtain ⟨u, u1, u2, _, u4⟩ := cell i _ (List.getElem?_eq_getElem hlt)
        have hd : ((vs.map Prod.fst).drop i).headD .any = vs[i].1 := by
          rw [List.headD_eq_head?_getD, List.head?_drop, List.getElem?_map, List.getElem?_eq_getElem hlt]; rfl
        simp only [Bool.false_eq_true, if_false, hd]
        rw [one_cells u4 u2]
        refine ⟨rfl, fun j c hc => ?_⟩
        cases j with
        | zero => cases hc; exact ⟨_, List.getElem?_eq_getElem hlt, rfl⟩
        | succ j => simp at hc
    refine ⟨fun k hk => ?_, ?_⟩
    · rcases List.mem_cons.1 hk with rfl | hk
      · simp [q1]
      · obtain ⟨c, hc, hk⟩ := List.mem_flatMap.1 hk
        obtain ⟨j, hj⟩ := List.getElem?_of_mem hc
        obtain ⟨u, _, _, k1, _⟩ := cell j c hj
        exact k1 k hk
    · have key := Rd.sl (Φ := Φ.with W φ (b :: vs.flatMap Prod.snd)) (parts g z n (vs.map Prod.fst)) (φ b) 0 z cap (fun i j => (xs[i * z + j]?).getD undef) (fun e he => by
          obtain ⟨i, hi⟩ := List.getElem?_of_mem he
          exact (get i e hi).1) (by rw [parts_len]; exact q7) (fun i e j c he hc => by
          obtain ⟨q, hq, rfl⟩ := (get i e he).2 j c hc
          obtain ⟨u, u1, _⟩ := cell _ _ hq
          rw [u1, Option.getD_some, Nat.zero_add]
          exact .inr ⟨⟨b, by simp, rfl⟩, row_cell r1 u1⟩) (fun i e j c he hc => by
          obtain ⟨q, hq, rfl⟩ := (get i e he).2 j c hc
          obtain ⟨u, u1, _, _, u4⟩ := cell _ _ hq
          rw [u1, Option.getD_some]
          exact u4.mono fun _ _ _ h => with_mono (fun k hk => List.mem_cons_of_mem _ (List.mem_flatMap.2 ⟨q, List.mem_of_getElem? hq, hk⟩)) h)
      rw [parts_len] at key
      rw [q4]
      exact key
end
end
end Go.Proofs.Ytcamoojddlpbgaa.V
