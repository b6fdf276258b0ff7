import Derived.Test.YtcamoojddlpbgaaWf
namespace Go.Proofs.Ytcamoojddlpbgaa.V
set_option linter.unusedVariables false
set_option linter.unusedSimpArgs false
open Go.RowKit
noncomputable section
/-! ### Runs: code carried out on given values -/
/-- a function's code, its registers, its results -/
structure FD where
  k : K
  nt : Nat
  ts : List (Nat × Option (Bool × Nat))
abbrev Orc := Nat → List PV → Option PV
abbrev Its := Nat → List PV → List PV → Option (List (List PV))
def PV.flat : PV → Bool
  | .cp _ | .sl _ | .fn .. | .ifc .. | .agg _ => false
  | .tup vs => vs.all fun
    | .cp _ | .sl _ | .fn .. | .ifc .. | .agg _ | .tup _ => false
    | _ => true
  | _ => true
theorem flat_of {v : PV} (h : v.flat = true) : Flat v := by
  cases v <;> first | (cases h; done) | constructor | skip
  rename_i vs
  intro c hc
  have := List.all_eq_true.1 h c hc
  cases c <;> first | (cases this; done) | constructor
def execCs (o : Orc) : List C → St → Option St
  | [], σ => some σ
  | c :: cs, σ => match wantedC σ c.g with
    | none => none
    | some false => execCs o cs (σ.put c.dst (.p (.tup [])))
    | some true => match eff σ c.a with
      | none => none
      | some (.call f args ks) => match o f args with
        | none => none
        | some r => if r.flat then execCs o cs (σ.put c.dst (.p r)) else execCs o cs ((σ.fz ks).put c.dst (.p r))
      | some (.yld _ _) => none
      | some ef => execCs o cs (σ.after c.dst σ.bx.length ef)
def execDs (o : Orc) : List D → Acc → St → Option St
  | [], _, σ => some σ
  | ⟨j, s, un, c⟩ :: l, acc, σ => match wantedC σ c.g with
    | none => none
    | some false => if chk acc un (some ([], [])) then execDs o l ((j, some ([], [])) :: acc) (σ.put c.dst (.p (.tup []))) else none
    | some true => match eff σ c.a with
      | none => none
      | some (.call f args ks) => match o f args with
        | none => none
        | some r =>
          if (ks.isEmpty || r.flat) && chk acc un (some (foot σ c.a (.call f args ks), [])) then execDs o l ((j, some (foot σ c.a (.call f args ks), [])) :: acc) (σ.put c.dst (.p r))
          else if chk acc un none then execDs o l ((j, none) :: acc) ((σ.fz ks).put c.dst (.p r)) else none
      | some (.yld _ _) => none
      | some (.fz v ks) => if chk acc un none then execDs o l ((j, none) :: acc) (σ.after c.dst s (.fz v ks)) else none
      | some ef => if chk acc un (some (foot σ c.a ef, ef.wrs s)) then execDs o l ((j, some (foot σ c.a ef, ef.wrs s)) :: acc) (σ.after c.dst s ef) else none
/-- the boxes that values lead to: d: how deep to look -/
def reachL (look : Nat → List Nat → List Nat) : List LV → List Nat → List Nat
  | [], acc => acc
  | v :: l, acc => match v with
    | .bp b _ _ => reachL look l (if acc.contains b then acc else look b (b :: acc))
    | .bs b _ _ _ _ => reachL look l (if acc.contains b then acc else look b (b :: acc))
    | _ => reachL look l acc
def lookN (bx : Bxs) : Nat → Nat → List Nat → List Nat
  | 0, _, acc => acc
  | d + 1, b, acc => match Bxs.box bx b with
    | some B => reachL (lookN bx d) B.cells acc
    | none => acc
def St.reach (σ : St) : List Nat := reachL (lookN σ.bx 3) σ.gh (reachL (lookN σ.bx 3) σ.regs [])
def St.gc (σ : St) : Option St := if σ.reach.Nodup then some (σ.ren none σ.reach) else none
def loopX (f : St → Option (Ex × St)) : Nat → St → Option (Ex × St)
  | 0, _ => none
  | m + 1, σ => match f σ with
    | some (.normal, σ') => match σ'.gc with
      | some τ => loopX f m τ
      | none => none
    | r => r
def roundsX (f : St → List PV → Option (Ex × St)) : List (List PV) → St → Option (Ex × St)
  | [], τ => some (.normal, τ)
  | args :: l, τ => match f τ args with
    | some (.normal, τ2) => match (τ.back τ2).gc with
      | some τ3 => roundsX f l τ3
      | none => none
    | some (e, τ2) => some (e, τ.back τ2)
    | none => none
def execK (o : Orc) (G : Its) (m : Nat) : K → St → Option (Ex × St)
  | .skip, σ => some (.normal, σ)
  | .reg cs, σ => (execCs o cs σ).map fun τ => (.normal, τ)
  | .regd cs un, σ => (execDs o (place un 0 σ.bx.length cs) [] (σ.ext (makes cs))).map fun τ => (.normal, τ)
  | .seq x y, σ => match execK o G m x σ with
    | some (.normal, τ) => execK o G m y τ
    | r => r
  | .cond c x y, σ => match σ.get c with
    | .p (.bool true) => execK o G m x σ
    | .p (.bool false) => execK o G m y σ
    | _ => none
  | .block id b, σ => match execK o G m b σ with
    | some (.exit i, τ) => if i = id then some (.normal, τ) else some (.exit i, τ)
    | r => r
  | .loop b, σ => match σ.gc with
    | some τ => loopX (execK o G m b) m τ
    | none => none
  | .rfor f ps x b, σ => match σ.get f with
    | .p (.fn g first caps) => match G g first caps with
      | none => none
      | some xs => if xs.all (fun args => args.length == ps.length) then match σ.gc with
        | none => none
        | some τ => roundsX (fun τ args => match execK o G m x (τ.round ps args) with
          | some (.normal, τ1) => execK o G m b τ1
          | _ => none) xs τ
        else none
    | _ => none
  | .exit id, σ => some (.exit id, σ)
  | .ret, σ => some (.ret, σ)
def retX (ts : List (Nat × Option (Bool × Nat))) : Option (Ex × St) → Option PV
  | some (.exit _, _) => none
  | some (_, σ) => (ts.mapM (resV σ)).map fun rs => retP (rs.map Prod.fst)
  | none => none
def runF (T : Nat → Option FD) (S : Orc) (G : Its) (m : Nat) : Nat → Orc
  | 0, f, args => S f args
  | n + 1, f, args => match T f with
    | some d => retX d.ts (execK (runF T S G m n) G m d.k (init d.nt (args.map .p)))
    | none => S f args
section
variable {P : Program} {o : Orc} {G : Its} {m : Nat} {Y : Ys}
theorem execCs_sound (ho : ∀ f args r, o f args = some r → Does P f args r) {Q : St → Prop} : ∀ (cs : List C) (σ τ : St), execCs o cs σ = some τ → Q τ → wpCs P Y Q cs σ
  | [], σ, τ, h, hq => by cases h; exact hq
  | c :: cs, σ, τ, h, hq => by
    simp only [execCs] at h
    simp only [wpCs]
    split at h
    · cases h
    · rename_i hw; rw [hw]; exact execCs_sound ho cs _ τ h hq
    · rename_i hw
      rw [hw]
      simp only
      split at h
      · cases h
      · rename_i f args ks he
        rw [he]
        split at h
        · cases h
        · rename_i r hr
          refine ⟨r, ho f args r hr, ?_⟩
          by_cases hf : r.flat = true
          · rw [if_pos hf] at h; exact .inl ⟨flat_of hf, execCs_sound ho cs _ τ h hq⟩
          · rw [if_neg hf] at h; exact .inr (execCs_sound ho cs _ τ h hq)
      · cases h
      · rename_i ef n1 n2 he
        rw [he]
        cases ef <;> first
          | exact absurd rfl (n1 _ _ _)
          | exact absurd rfl (n2 _ _)
          | exact execCs_sound ho cs _ τ h hq
theorem execDs_sound (ho : ∀ f args r, o f args = some r → Does P f args r) {Q : St → Prop} : ∀ (l : List D) (acc : Acc) (σ τ : St), execDs o l acc σ = some τ → Q τ → wpDs P Y Q l acc σ
  | [], acc, σ, τ, h, hq => by cases h; exact hq
  | ⟨j, s, un, c⟩ :: l, acc, σ, τ, h, hq => by
    simp only [execDs] at h
    simp only [wpDs]
    split at h
    · cases h
    · rename_i hw
      rw [hw]
      split at h
      · rename_i hc; exact ⟨hc, execDs_sound ho l _ _ τ h hq⟩
      · cases h
    · rename_i hw
      rw [hw]
      simp only
      split at h
      · cases h
      · rename_i f args ks he
        rw [he]
        split at h
        · cases h
        · rename_i r hr
          refine ⟨r, ho f args r hr, ?_⟩
          split at h
          · rename_i hc
            simp only [Bool.and_eq_true, Bool.or_eq_true, List.isEmpty_iff] at hc
            exact .inl ⟨hc.1.imp_right flat_of, hc.2, execDs_sound ho l _ _ τ h hq⟩
          · split at h
            · rename_i hc; exact .inr ⟨hc, execDs_sound ho l _ _ τ h hq⟩
            · cases h
      · cases h
      · rename_i v ks he
        rw [he]
        split at h
        · rename_i hc; exact ⟨hc, execDs_sound ho l _ _ τ h hq⟩
        · cases h
      · rename_i ef n1 n2 n3 he
        rw [he]
        split at h
        · rename_i hc
          cases ef <;> first
            | exact absurd rfl (n1 _ _ _)
            | exact absurd rfl (n2 _ _)
            | exact absurd rfl (n3 _ _)
            | exact ⟨hc, execDs_sound ho l _ _ τ h hq⟩
        · cases h
theorem gc_some {σ τ : St} (h : σ.gc = some τ) : σ.reach.Nodup ∧ τ = σ.ren none σ.reach := by
  unfold St.gc at h
  split at h
  · rename_i hn; cases h; exact ⟨hn, rfl⟩
  · cases h
end
section
variable {P : Program} {o : Orc} {G : Its} {m : Nat}
theorem gc_ren {σ τ : St} (h : σ.gc = some τ) : ∃ (keep : Option (List Nat)) (ρ : List Nat), ρ.Nodup ∧ σ.ren keep ρ = τ := by
  obtain ⟨h1, h2⟩ := gc_some h
  exact ⟨_, _, h1, h2.symm⟩
theorem roundsX_out {f : St → List PV → Option (Ex × St)} : ∀ (l : List (List PV)) (τ : St) (e : Ex) (υ : St), roundsX f l τ = some (e, υ) → l = [] → e = .normal ∧ υ = τ
  | [], τ, e, υ, h, _ => by cases h; exact ⟨rfl, rfl⟩
theorem execK_sound (ho : ∀ f args r, o f args = some r → Does P f args r) (hG : ∀ g first caps xs, G g first caps = some xs → Iter P g first caps xs) : ∀ (k : K) (Y : Ys) (Q : Ex → St → Prop) (σ τ : St) (e : Ex), execK o G m k σ = some (e, τ) → Q e τ → wpK P Y k Q σ
  | .skip, Y, Q, σ, τ, e, h, hq => by cases h; exact hq
  | .reg cs, Y, Q, σ, τ, e, h, hq => by
    simp only [execK] at h
    obtain ⟨τ', h1, h2⟩ := Option.map_eq_some_iff.1 h
    cases h2
    exact execCs_sound ho cs σ τ h1 hq
  | .regd cs un, Y, Q, σ, τ, e, h, hq => by
    simp only [execK] at h
    obtain ⟨τ', h1, h2⟩ := Option.map_eq_some_iff.1 h
    cases h2
    exact execDs_sound ho _ _ _ τ h1 hq
  | .seq x y, Y, Q, σ, τ, e, h, hq => by
    simp only [execK] at h
    simp only [wpK]
    split at h
    · rename_i τ1 h1
      exact execK_sound ho hG x Y _ σ τ1 .normal h1 (execK_sound ho hG y Y Q τ1 τ e h hq)
    · rename_i hne
      refine execK_sound ho hG x Y _ σ τ e h ?_
      cases e with
      | normal => exact absurd h (hne τ)
      | exit id => exact hq
      | ret => exact hq
  | .cond c x y, Y, Q, σ, τ, e, h, hq => by
    simp only [execK] at h
    simp only [wpK]
    split at h
    · rename_i hc; rw [hc]; exact ⟨fun _ => execK_sound ho hG x Y Q σ τ e h hq, fun h => nomatch h⟩
    · rename_i hc; rw [hc]; exact ⟨(fun h => nomatch h), fun _ => execK_sound ho hG y Y Q σ τ e h hq⟩
    · cases h
  | .block id b, Y, Q, σ, τ, e, h, hq => by
    simp only [execK] at h
    simp only [wpK]
    split at h
    · rename_i i τ1 h1
      split at h
      · rename_i hi
        cases h
        exact execK_sound ho hG b Y _ σ τ (.exit i) h1 (by simp only [Ex.inB]; rw [if_pos hi]; exact hq)
      · rename_i hi
        cases h
        exact execK_sound ho hG b Y _ σ τ (.exit i) h1 (by simp only [Ex.inB]; rw [if_neg hi]; exact hq)
    · rename_i hne
      refine execK_sound ho hG b Y _ σ τ e h ?_
      cases e with
      | normal => exact hq
      | exit i => exact absurd h (hne i τ)
      | ret => exact hq
  | .loop b, Y, Q, σ, τ, e, h, hq => by
    simp only [execK] at h
    split at h <;> try (cases h; done)
    rename_i σ0 hg
    obtain ⟨keep, ρ, hn, h0⟩ := gc_ren hg
    classical
    let p : St → Nat → Prop := fun σ n => ∃ e τ, loopX (execK o G m b) n σ = some (e, τ) ∧ Q e τ
    let μ : St → Nat := fun σ => if h : ∃ n, p σ n then Classical.choose (least_ex h) else 0
    simp only [wpK]
    refine ⟨fun σ => ∃ n, p σ n, μ, ⟨keep, ρ, hn, by rw [h0]; exact ⟨m, e, τ, h, hq⟩⟩, fun υ hex => ?_⟩
    obtain ⟨⟨e1, τ1, h1, hq1⟩, hmin⟩ := Classical.choose_spec (least_ex hex)
    have hμ : μ υ = Classical.choose (least_ex hex) := dif_pos hex
    rw [← hμ] at h1 hmin
    cases hm' : μ υ with
    | zero => rw [hm'] at h1; cases h1
    | succ n =>
      rw [hm'] at h1
      simp only [loopX] at h1
      split at h1
      · rename_i τ2 h2
        split at h1 <;> try (cases h1; done)
        rename_i τ3 hg3
        obtain ⟨keep', ρ', hn', h3⟩ := gc_ren hg3
        refine execK_sound ho hG b Y _ υ τ2 .normal h2 ⟨keep', ρ', hn', ?_⟩
        rw [h3]
        have hS : ∃ n, p τ3 n := ⟨n, e1, τ1, h1, hq1⟩
        refine ⟨hS, ?_⟩
        have : μ τ3 = Classical.choose (least_ex hS) := dif_pos hS
        rw [this]
        exact Nat.lt_succ_of_le ((Classical.choose_spec (least_ex hS)).2 n ⟨e1, τ1, h1, hq1⟩)
      · rename_i hne
        refine execK_sound ho hG b Y _ υ τ1 e1 h1 ?_
        cases e1 with
        | normal => exact absurd h1 (hne τ1)
        | exit i => exact hq1
        | ret => exact hq1
  | .rfor f ps x b, Y, Q, σ, τ, e, h, hq => by
    simp only [execK] at h
    simp only [wpK]
    split at h <;> try (cases h; done)
    rename_i g first caps hf
    rw [hf]
    split at h <;> try (cases h; done)
    rename_i xs hxs
    split at h <;> try (cases h; done)
    rename_i hall
    split at h <;> try (cases h; done)
    rename_i σ0 hg
    obtain ⟨keep, ρ, hn, h0⟩ := gc_ren hg
    refine ⟨xs, hG _ _ _ _ hxs, fun i υ => ∃ e τ, roundsX (fun τ args => match execK o G m x (τ.round ps args) with
          | some (.normal, τ1) => execK o G m b τ1
          | _ => none) (xs.drop i) υ = some (e, τ) ∧ Q e τ, ⟨keep, ρ, hn, by rw [h0]; exact ⟨e, τ, h, hq⟩⟩, ?_, ?_⟩
    · rintro i args υ hi ⟨e1, τ1, h1, hq1⟩
      have hl := List.all_eq_true.1 hall args (List.mem_of_getElem? hi)
      have hd : xs.drop i = args :: xs.drop (i + 1) := by
        have hlt := (List.getElem?_eq_some_iff.1 hi).1
        rw [List.drop_eq_getElem_cons hlt]
        rw [List.getElem?_eq_getElem hlt] at hi
        rw [Option.some.inj hi]
      rw [hd] at h1
      simp only [roundsX] at h1
      refine ⟨by simpa using hl, ?_⟩
      cases hx : execK o G m x (υ.round ps args) with
      | none => rw [hx] at h1; cases h1
      | some q =>
        obtain ⟨ex, υ1⟩ := q
        rw [hx] at h1
        cases ex with
        | exit i => cases h1
        | ret => cases h1
        | normal =>
          refine execK_sound ho hG x _ _ _ υ1 .normal hx ?_
          show wpK P ⟨0, []⟩ b _ υ1
          simp only at h1
          cases hb : execK o G m b υ1 with
          | none => rw [hb] at h1; cases h1
          | some q =>
            obtain ⟨eb, υ2⟩ := q
            rw [hb] at h1
            cases eb with
            | normal =>
              simp only at h1
              split at h1 <;> try (cases h1; done)
              rename_i υ3 hg3
              obtain ⟨keep', ρ', hn', h3⟩ := gc_ren hg3
              refine execK_sound ho hG b _ _ _ υ2 .normal hb ⟨keep', ρ', hn', ?_⟩
              rw [h3]
              exact ⟨e1, τ1, h1, hq1⟩
            | exit i => cases h1; exact execK_sound ho hG b _ _ _ υ2 (.exit i) hb hq1
            | ret => cases h1; exact execK_sound ho hG b _ _ _ υ2 .ret hb hq1
    · rintro υ ⟨e1, τ1, h1, hq1⟩
      rw [List.drop_length] at h1
      cases h1
      exact hq1
  | .exit id, Y, Q, σ, τ, e, h, hq => by cases h; exact hq
  | .ret, Y, Q, σ, τ, e, h, hq => by cases h; exact hq
/-- a table of functions holds what the program's functions are -/
def TabOk (P : Program) (T : Nat → Option FD) : Prop := ∀ f d, T f = some d → ∃ fn c, P.funcs[f]? = some fn ∧ (fn.name == "runtime.NumGoroutine") = false ∧ fn.body = some c ∧ ck P c = some d.k ∧ fn.ntmps = d.nt ∧ fn.results.toList.mapM (resP P) = some d.ts
/-- A RUN TELLS WHAT A CALL DOES. -/
theorem runF_sound (hm : P.follows .mixedOrders = true) {T : Nat → Option FD} {S : Orc} (hT : TabOk P T) (hS : ∀ f args r, S f args = some r → Does P f args r) (hG : ∀ g first caps xs, G g first caps = some xs → Iter P g first caps xs) : ∀ (n : Nat) (f : Nat) (args : List PV) (r : PV), runF T S G m n f args = some r → Does P f args r
  | 0, f, args, r, h => hS f args r h
  | n + 1, f, args, r, h => by
    simp only [runF] at h
    split at h
    · rename_i d hd
      obtain ⟨fn, c, h1, h2, h3, h4, h5, h6⟩ := hT f d hd
      refine does_of_wp hm h1 h2 h3 h4 h6 ?_
      rw [h5]
      cases he : execK (runF T S G m n) G m d.k (init d.nt (args.map .p)) with
      | none => rw [he] at h; cases h
      | some q =>
        obtain ⟨e, τ⟩ := q
        rw [he] at h
        refine execK_sound (runF_sound hm hT hS hG n) hG d.k _ _ _ τ e he ?_
        cases e with
        | exit i => cases h
        | normal =>
          obtain ⟨rs, h7, h8⟩ := Option.map_eq_some_iff.1 h
          exact ⟨rs, h7, h8⟩
        | ret =>
          obtain ⟨rs, h7, h8⟩ := Option.map_eq_some_iff.1 h
          exact ⟨rs, h7, h8⟩
    · exact hS f args r h
end
/-! ### The program's functions as a table -/
def tab (P : Program) (f : Nat) : Option FD := match P.funcs[f]? with
  | none => none
  | some fn => if fn.name == "runtime.NumGoroutine" then none else match fn.body with
    | none => none
    | some c => match ck P c, fn.results.toList.mapM (resP P) with
      | some k, some ts => some ⟨k, fn.ntmps, ts⟩
      | _, _ => none
theorem tab_ok (P : Program) : TabOk P (tab P) := by
  intro f d h
  unfold tab at h
  split at h
  · cases h
  · rename_i fn hf
    split at h
    · cases h
    · rename_i hn
      split at h
      · cases h
      · rename_i c hc
        split at h
        · rename_i k ts hk hts
          cases h
          exact ⟨fn, c, hf, by simpa using hn, hc, hk, rfl, hts⟩
        · cases h
abbrev TabL := List (Nat × FD)
def lookT (l : TabL) (f : Nat) : Option FD := List.rec none (fun q _ ih => Bool.rec ih (some q.2) (Nat.beq q.1 f)) l
theorem lookT_mem {f : Nat} {d : FD} : ∀ {l : TabL}, lookT l f = some d → (f, d) ∈ l
  | [], h => by cases h
  | q :: l, h => by
    have h : (Bool.rec (lookT l f) (some q.2) (Nat.beq q.1 f) : Option FD) = some d := h
    cases hb : Nat.beq q.1 f with
    | false => rw [hb] at h; exact List.mem_cons_of_mem _ (lookT_mem h)
    | true =>
      rw [hb] at h
      obtain rfl := Nat.eq_of_beq_eq_true hb
      cases h
      simp
theorem tab_get {P : Program} {l : TabL} (h : (l.map fun q => tab P q.1) = l.map fun q => some q.2) {f : Nat} {d : FD} (hm : (f, d) ∈ l) : tab P f = some d := by
  obtain ⟨i, hi⟩ := List.getElem?_of_mem hm
  have := congrArg (·[i]?) h
  simp only [List.getElem?_map, hi, Option.map_some, Option.some.injEq] at this
  exact this
theorem tabL_ok {P : Program} {l : TabL} (h : (l.map fun q => tab P q.1) = l.map fun q => some q.2) : TabOk P (lookT l) := fun f d hd => tab_ok P f d (tab_get h (lookT_mem hd))
/-- A FUNCTION OF THE TABLE, WALKED. -/
theorem does_of_tab {P : Program} (hm : P.follows .mixedOrders = true) {f : Nat} {d : FD} (h : tab P f = some d) {args : List PV} {r : PV} (hw : wpK P ⟨0, []⟩ d.k (Returns d.ts (· = r)) (init d.nt (args.map .p))) : Does P f args r := by
  obtain ⟨fn, c, h1, h2, h3, h4, h5, h6⟩ := tab_ok P f d h
  exact does_of_wp hm h1 h2 h3 h4 h6 (by rw [h5]; exact hw)
theorem iter_of_tab {P : Program} (hm : P.follows .mixedOrders = true) {g : Nat} {d : FD} (h : tab P g = some d) (ht : d.ts = []) {first caps : List PV} {xs : List (List PV)} (hflat : ∀ args ∈ xs, ∀ c ∈ args, Flat c)
    (hw : ∀ l, wpK P ⟨l, xs⟩ d.k (Ends xs.length) (init d.nt (first.map .p ++ [.yl l] ++ caps.map .p))) : Iter P g first caps xs := by
  obtain ⟨fn, c, h1, h2, h3, h4, h5, h6⟩ := tab_ok P g d h
  have hr : fn.results.toList = [] := by
    have := (mapM_get h6).1
    rw [ht] at this
    exact List.eq_nil_of_length_eq_zero this.symm
  exact iter_of_wp hm h1 h2 h3 h4 hr hflat (by rw [h5]; exact hw)
/-- What reads as a weaker value says less: an argument may be handed on so. -/
theorem Does.weaken {P : Program} {f : Nat} {args args' : List PV} {r : PV} (h : Does P f args r) (hl : args'.length = args.length) (hw : ∀ (i : Nat) (c c' : PV), args[i]? = some c → args'[i]? = some c' → ∀ Φ x, Rd Φ c' x → Rd Φ c x) : Does P f args' r := by
  refine ⟨h.1, fun w Φ xs hΦ hs hr => h.2 w Φ xs hΦ (by omega) fun i c x hc hx => ?_⟩
  have hlt : i < args'.length := by rw [hl]; exact (List.getElem?_eq_some_iff.1 hc).1
  exact hw i c _ hc (List.getElem?_eq_getElem hlt) Φ x (hr i _ x (List.getElem?_eq_getElem hlt) hx)
end
end Go.Proofs.Ytcamoojddlpbgaa.V
