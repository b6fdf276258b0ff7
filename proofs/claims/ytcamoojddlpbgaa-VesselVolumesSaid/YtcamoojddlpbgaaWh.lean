import Derived.Test.YtcamoojddlpbgaaWg
namespace Go.Proofs.Ytcamoojddlpbgaa.V
set_option linter.unusedVariables false
set_option linter.unusedSimpArgs false
open Go.RowKit
noncomputable section
/-! ### Walking, by simp: what is not yet decided stays folded -/
def onO (e : Option Ef) (k : Ef → Prop) : Prop := match e with
  | none => False
  | some ef => k ef
def onE (P : Program) (Y : Ys) (σ : St) (d : Option Nat) (K : St → Prop) : Ef → Prop
  | .call f args ks => ∃ r, Does P f args r ∧ ((Flat r ∧ K (σ.put d (.p r))) ∨ K ((σ.fz ks).put d (.p r)))
  | .yld l args => l = Y.l ∧ σ.stop = false ∧ Y.xs[σ.y]? = some args ∧ ∀ b, K (σ.yielded d b)
  | ef => K (σ.after d σ.bx.length ef)
/-- the same in a region that draws: also the accounts -/
def onD (P : Program) (Y : Ys) (σ : St) (x : D) (acc : Acc) (K : Acc → St → Prop) : Ef → Prop
  | .call f args ks => ∃ r, Does P f args r ∧ (((ks = [] ∨ Flat r) ∧ chk acc x.un (some (foot σ x.c.a (.call f args ks), [])) = true ∧ K ((x.j, some (foot σ x.c.a (.call f args ks), [])) :: acc) (σ.put x.c.dst (.p r))) ∨
      (chk acc x.un none = true ∧ K ((x.j, none) :: acc) ((σ.fz ks).put x.c.dst (.p r))))
  | .yld m args => chk acc x.un none = true ∧ m = Y.l ∧ σ.stop = false ∧ Y.xs[σ.y]? = some args ∧ ∀ b, K ((x.j, none) :: acc) (σ.yielded x.c.dst b)
  | .fz v ks => chk acc x.un none = true ∧ K ((x.j, none) :: acc) (σ.after x.c.dst x.s (.fz v ks))
  | ef => chk acc x.un (some (foot σ x.c.a ef, ef.wrs x.s)) = true ∧ K ((x.j, some (foot σ x.c.a ef, ef.wrs x.s)) :: acc) (σ.after x.c.dst x.s ef)
def onC (b : Bool) (a : Prop) : Prop := b = true ∧ a
def onW (P : Program) (Y : Ys) (Q : St → Prop) (w : Option Bool) (c : C) (cs : List C) (σ : St) : Prop := match w with
  | none => False
  | some false => wpCs P Y Q cs (σ.put c.dst (.p (.tup [])))
  | some true => onO (eff σ c.a) (onE P Y σ c.dst (wpCs P Y Q cs))
def onV (P : Program) (Y : Ys) (Q : St → Prop) (w : Option Bool) (x : D) (l : List D) (acc : Acc) (σ : St) : Prop := match w with
  | none => False
  | some false => onC (chk acc x.un (some ([], []))) (wpDs P Y Q l ((x.j, some ([], [])) :: acc) (σ.put x.c.dst (.p (.tup []))))
  | some true => onO (eff σ x.c.a) (onD P Y σ x acc (wpDs P Y Q l))
def onB (P : Program) (Y : Ys) (R : Ex → St → Prop) (v : LV) (k l : K) (σ : St) : Prop := match v with
  | .p (.bool t) => (t = true → wpK P Y k R σ) ∧ (t = false → wpK P Y l R σ)
  | _ => False
section
variable {P : Program} {Y : Ys} {Q : St → Prop} {R : Ex → St → Prop} {σ τ : St} {d : Option Nat} {KS : St → Prop} {x : D} {acc acc' : Acc} {KD : Acc → St → Prop}
@[congr] theorem onO_congr {e e' : Option Ef} {k : Ef → Prop} (h : e = e') : onO e k = onO e' k := by rw [h]
@[congr] theorem onC_congr {v v' : Bool} {a : Prop} (h : v = v') : onC v a = onC v' a := by rw [h]
@[congr] theorem onE_congr {e e' : Ef} (h : e = e') : onE P Y σ d KS e = onE P Y σ d KS e' := by rw [h]
@[congr] theorem onD_congr {e e' : Ef} (h : e = e') : onD P Y σ x acc KD e = onD P Y σ x acc KD e' := by rw [h]
@[congr] theorem wpCs_congr {cs : List C} (h : σ = τ) : wpCs P Y Q cs σ = wpCs P Y Q cs τ := by rw [h]
@[congr] theorem wpDs_congr {l : List D} (h : σ = τ) (h2 : acc = acc') : wpDs P Y Q l acc σ = wpDs P Y Q l acc' τ := by rw [h, h2]
@[congr] theorem wpK_congr {k : K} (h : σ = τ) : wpK P Y k R σ = wpK P Y k R τ := by rw [h]
theorem onW_true {c : C} {cs : List C} : onW P Y Q (some true) c cs σ = onO (eff σ c.a) (onE P Y σ c.dst (wpCs P Y Q cs)) := rfl
theorem onW_false {c : C} {cs : List C} : onW P Y Q (some false) c cs σ = wpCs P Y Q cs (σ.put c.dst (.p (.tup []))) := rfl
theorem onV_true {l : List D} : onV P Y Q (some true) x l acc σ = onO (eff σ x.c.a) (onD P Y σ x acc (wpDs P Y Q l)) := rfl
theorem onV_false {l : List D} : onV P Y Q (some false) x l acc σ = onC (chk acc x.un (some ([], []))) (wpDs P Y Q l ((x.j, some ([], [])) :: acc) (σ.put x.c.dst (.p (.tup [])))) := rfl
theorem onO_some {e : Ef} {k : Ef → Prop} : onO (some e) k = k e := rfl
theorem onB_true {k l : K} : onB P Y R (.p (.bool true)) k l σ = wpK P Y k R σ := by simp [onB]
theorem onB_false {k l : K} : onB P Y R (.p (.bool false)) k l σ = wpK P Y l R σ := by simp [onB]
theorem onC_true {a : Prop} : onC true a = a := by simp [onC]
theorem onE_val {v : LV} : onE P Y σ d KS (.val v) = KS (σ.put d v) := rfl
theorem onE_new {v : Nat → LV} {ty : Nat} {cs : List LV} : onE P Y σ d KS (.new v ty cs) = KS (σ.after d σ.bx.length (.new v ty cs)) := rfl
theorem onE_wr {b st off : Nat} {vs : List LV} : onE P Y σ d KS (.wr b st off vs) = KS (σ.after d 0 (.wr b st off vs)) := rfl
theorem onE_app {b st n z k : Nat} {g : Bool} {cs : List LV} : onE P Y σ d KS (.app b st n z g k cs) = KS (σ.after d 0 (.app b st n z g k cs)) := rfl
theorem onE_fz {v : PV} {ks : List Nat} : onE P Y σ d KS (.fz v ks) = KS (σ.after d 0 (.fz v ks)) := rfl
theorem onD_val {v : LV} : onD P Y σ x acc KD (.val v) = onC (chk acc x.un (some (foot σ x.c.a (.val v), []))) (KD ((x.j, some (foot σ x.c.a (.val v), [])) :: acc) (σ.put x.c.dst v)) := rfl
theorem onD_new {v : Nat → LV} {ty : Nat} {cs : List LV} : onD P Y σ x acc KD (.new v ty cs) = onC (chk acc x.un (some (foot σ x.c.a (.new v ty cs), [x.s]))) (KD ((x.j, some (foot σ x.c.a (.new v ty cs), [x.s])) :: acc) (σ.after x.c.dst x.s (.new v ty cs))) := rfl
theorem onD_wr {b st off : Nat} {vs : List LV} : onD P Y σ x acc KD (.wr b st off vs) = onC (chk acc x.un (some (foot σ x.c.a (.wr b st off vs), [b]))) (KD ((x.j, some (foot σ x.c.a (.wr b st off vs), [b])) :: acc) (σ.after x.c.dst x.s (.wr b st off vs))) := rfl
theorem onD_app {b st n z k : Nat} {g : Bool} {cs : List LV} : onD P Y σ x acc KD (.app b st n z g k cs) = onC (chk acc x.un (some (foot σ x.c.a (.app b st n z g k cs), [b]))) (KD ((x.j, some (foot σ x.c.a (.app b st n z g k cs), [b])) :: acc) (σ.after x.c.dst x.s (.app b st n z g k cs))) := rfl
theorem onD_fz {v : PV} {ks : List Nat} : onD P Y σ x acc KD (.fz v ks) = onC (chk acc x.un none) (KD ((x.j, none) :: acc) (σ.after x.c.dst x.s (.fz v ks))) := rfl
theorem wpCs_nil : wpCs P Y Q [] σ = Q σ := rfl
theorem wpCs_cons {c : C} {cs : List C} : wpCs P Y Q (c :: cs) σ = onW P Y Q (wantedC σ c.g) c cs σ := by
  simp only [wpCs]
  cases wantedC σ c.g with
  | none => rfl
  | some b => cases b with
    | false => rfl
    | true =>
      simp only [onW_true]
      cases eff σ c.a with
      | none => rfl
      | some ef => cases ef <;> rfl
theorem wpDs_nil : wpDs P Y Q [] acc σ = Q σ := rfl
theorem wpDs_cons {j s un : Nat} {c : C} {l : List D} : wpDs P Y Q (⟨j, s, un, c⟩ :: l) acc σ = onV P Y Q (wantedC σ c.g) ⟨j, s, un, c⟩ l acc σ := by
  simp only [wpDs]
  cases wantedC σ c.g with
  | none => rfl
  | some b => cases b with
    | false => rfl
    | true =>
      simp only [onV_true]
      cases eff σ c.a with
      | none => rfl
      | some ef => cases ef <;> rfl
theorem wpK_skip : wpK P Y .skip R σ = R .normal σ := rfl
theorem wpK_reg {cs : List C} : wpK P Y (.reg cs) R σ = wpCs P Y (R .normal) cs σ := rfl
theorem wpK_regd {cs : List C} {un : List Nat} : wpK P Y (.regd cs un) R σ = wpDs P Y (R .normal) (place un 0 σ.bx.length cs) [] (σ.ext (makes cs)) := rfl
theorem wpK_seq {k l : K} : wpK P Y (.seq k l) R σ = wpK P Y k (Ex.next (wpK P Y l R) R) σ := rfl
theorem wpK_cond {c : Opd} {k l : K} : wpK P Y (.cond c k l) R σ = onB P Y R (σ.get c) k l σ := by
  simp only [wpK]
  generalize σ.get c = v
  cases v with
  | p v => cases v <;> rfl
  | _ => rfl
theorem wpK_block {id : Nat} {k : K} : wpK P Y (.block id k) R σ = wpK P Y k (Ex.inB id R) σ := rfl
theorem wpK_exit {id : Nat} : wpK P Y (.exit id) R σ = R (.exit id) σ := rfl
theorem wpK_ret : wpK P Y .ret R σ = R .ret σ := rfl
theorem next_normal {N : St → Prop} : Ex.next N R .normal σ = N σ := rfl
theorem next_exit {N : St → Prop} {id : Nat} : Ex.next N R (.exit id) σ = R (.exit id) σ := rfl
theorem next_ret {N : St → Prop} : Ex.next N R .ret σ = R .ret σ := rfl
theorem inB_normal {id : Nat} : Ex.inB id R .normal σ = R .normal σ := rfl
theorem inB_ret {id : Nat} : Ex.inB id R .ret σ = R .ret σ := rfl
theorem inB_same {id : Nat} : Ex.inB id R (.exit id) σ = R .normal σ := by simp [Ex.inB]
theorem inB_other {id i : Nat} (h : (i == id) = false) : Ex.inB id R (.exit i) σ = R (.exit i) σ := by simp only [Ex.inB]; rw [if_neg (by simpa using h)]
/-- a test parts -/
theorem onB_split {t : Bool} {k l : K} (h1 : t = true → wpK P Y k R σ) (h2 : t = false → wpK P Y l R σ) : onB P Y R (.p (.bool t)) k l σ := ⟨h1, h2⟩
theorem onB_dec {p : Prop} [Decidable p] {k l : K} (h1 : p → wpK P Y k R σ) (h2 : ¬ p → wpK P Y l R σ) : onB P Y R (.p (.bool (decide p))) k l σ := ⟨fun h => h1 (of_decide_eq_true h), fun h => h2 (of_decide_eq_false h)⟩
/-- a guard parts -/
theorem onW_split {t : Bool} {c : C} {cs : List C} (h1 : t = true → onW P Y Q (some true) c cs σ) (h2 : t = false → onW P Y Q (some false) c cs σ) : onW P Y Q (some t) c cs σ := by
  cases t
  · exact h2 rfl
  · exact h1 rfl
theorem onV_split {t : Bool} {l : List D} (h1 : t = true → onV P Y Q (some true) x l acc σ) (h2 : t = false → onV P Y Q (some false) x l acc σ) : onV P Y Q (some t) x l acc σ := by
  cases t
  · exact h2 rfl
  · exact h1 rfl
theorem onC_intro {b : Bool} {a : Prop} (h1 : b = true) (h2 : a) : onC b a := ⟨h1, h2⟩
/-- a call, by what it does -/
theorem call_flat {f : Nat} {args : List PV} {ks : List Nat} {r : PV} (h : Does P f args r) (hf : Flat r) (hk : KS (σ.put d (.p r))) : onE P Y σ d KS (.call f args ks) := ⟨r, h, .inl ⟨hf, hk⟩⟩
theorem call_ {f : Nat} {args : List PV} {r : PV} (h : Does P f args r) (hk : KS (σ.put d (.p r))) : onE P Y σ d KS (.call f args []) := ⟨r, h, .inr (by rw [St.fz_nil]; exact hk)⟩
theorem call_fz {f : Nat} {args : List PV} {ks : List Nat} {r : PV} (h : Does P f args r) (hk : KS ((σ.fz ks).put d (.p r))) : onE P Y σ d KS (.call f args ks) := ⟨r, h, .inr hk⟩
theorem dcall_flat {f : Nat} {args : List PV} {ks : List Nat} {r : PV} (h : Does P f args r) (hf : Flat r) (hk : onC (chk acc x.un (some (foot σ x.c.a (.call f args ks), []))) (KD ((x.j, some (foot σ x.c.a (.call f args ks), [])) :: acc) (σ.put x.c.dst (.p r)))) : onD P Y σ x acc KD (.call f args ks) := ⟨r, h, .inl ⟨.inr hf, hk⟩⟩
theorem dcall_ {f : Nat} {args : List PV} {r : PV} (h : Does P f args r) (hk : onC (chk acc x.un (some (foot σ x.c.a (.call f args []), []))) (KD ((x.j, some (foot σ x.c.a (.call f args []), [])) :: acc) (σ.put x.c.dst (.p r)))) : onD P Y σ x acc KD (.call f args []) := ⟨r, h, .inl ⟨.inl rfl, hk⟩⟩
theorem dcall_fz {f : Nat} {args : List PV} {ks : List Nat} {r : PV} (h : Does P f args r) (hk : onC (chk acc x.un none) (KD ((x.j, none) :: acc) ((σ.fz ks).put x.c.dst (.p r)))) : onD P Y σ x acc KD (.call f args ks) := ⟨r, h, .inr hk⟩
theorem yld_ {l : Nat} {args : List PV} (h1 : l = Y.l) (h2 : σ.stop = false) (h3 : Y.xs[σ.y]? = some args) (hk : ∀ b, KS (σ.yielded d b)) : onE P Y σ d KS (.yld l args) := ⟨h1, h2, h3, hk⟩
theorem dyld_ {l : Nat} {args : List PV} (h0 : chk acc x.un none = true) (h1 : l = Y.l) (h2 : σ.stop = false) (h3 : Y.xs[σ.y]? = some args) (hk : ∀ b, KD ((x.j, none) :: acc) (σ.yielded x.c.dst b)) : onD P Y σ x acc KD (.yld l args) := ⟨h0, h1, h2, h3, hk⟩
/-- a loop -/
theorem wk_loop {b : K} (I : St → Prop) (μ : St → Nat) (h0 : ∃ (keep : Option (List Nat)) (ρ : List Nat), ρ.Nodup ∧ I (σ.ren keep ρ))
   (h : ∀ σ, I σ → wpK P Y b (Ex.next (fun σ' => ∃ (keep : Option (List Nat)) (ρ : List Nat), ρ.Nodup ∧ I (σ'.ren keep ρ) ∧ μ (σ'.ren keep ρ) < μ σ) R) σ) : wpK P Y (.loop b) R σ := ⟨I, μ, h0, h⟩
/-- a loop whose states are a family -/
theorem wk_fam {α : Type} (S : α → St) (p : α → Prop) (m : α → Nat) {b : K} (a0 : α) (h0 : p a0) (hs : ∃ (keep : Option (List Nat)) (ρ : List Nat), ρ.Nodup ∧ σ.ren keep ρ = S a0)
   (h : ∀ (G : St → Prop) (a : α), p a → (∀ (a' : α) (σ' : St) (keep : Option (List Nat)) (ρ : List Nat), ρ.Nodup → σ'.ren keep ρ = S a' → p a' → m a' < m a → G σ') → wpK P Y b (Ex.next G R) (S a)) : wpK P Y (.loop b) R σ := by
  classical
  let T : St → Nat → Prop := fun σ n => ∃ a, S a = σ ∧ p a ∧ m a = n
  let μ : St → Nat := fun σ => if h : ∃ n, T σ n then Classical.choose (least_ex h) else 0
  obtain ⟨keep, ρ, hn, hs⟩ := hs
  refine wk_loop (fun σ => ∃ n, T σ n) μ ⟨keep, ρ, hn, by rw [hs]; exact ⟨_, a0, rfl, h0, rfl⟩⟩ fun σ hex => ?_
  obtain ⟨⟨a, rfl, hp, hm⟩, _⟩ := Classical.choose_spec (least_ex hex)
  have hμ : μ (S a) = Classical.choose (least_ex hex) := dif_pos hex
  refine h _ a hp fun a' σ' keep ρ hn hs hp' hlt => ⟨keep, ρ, hn, by rw [hs]; exact ⟨_, a', rfl, hp', rfl⟩, ?_⟩
  rw [hs, hμ, ← hm]
  have hS : ∃ n, T (S a') n := ⟨_, a', rfl, hp', rfl⟩
  have : μ (S a') = Classical.choose (least_ex hS) := dif_pos hS
  rw [this]
  exact Nat.lt_of_le_of_lt ((Classical.choose_spec (least_ex hS)).2 _ ⟨a', rfl, hp', rfl⟩) hlt
end
theorem memB_nil (x : Nat) : memB x [] = false := rfl
theorem memB_cons (x y : Nat) (l : List Nat) : memB x (y :: l) = (Nat.beq x y || memB x l) := by
  show (Bool.rec (memB x l) true (Nat.beq x y) : Bool) = _
  cases Nat.beq x y <;> rfl
theorem nbeq (x y : Nat) : Nat.beq x y = (x == y) := by
  rw [Bool.eq_iff_iff]
  exact ⟨fun h => by rw [Nat.eq_of_beq_eq_true h]; exact beq_self_eq_true y, fun h => by rw [eq_of_beq h]; exact Nat.beq_refl y⟩
theorem bitB_def (m i : Nat) : bitB m i = ((m >>> i) % 2 == 1) := nbeq _ _
theorem chk_nil (un : Nat) (m : Mark) : chk [] un m = true := rfl
theorem chk_cons (q : Nat × Mark) (acc : Acc) (un : Nat) (m : Mark) : chk (q :: acc) un m = ((Mark.apart q.2 m || !bitB un q.1) && chk acc un m) := rfl
theorem disj_nil (b : List Nat) : disj [] b = true := rfl
theorem disj_cons (x : Nat) (a b : List Nat) : disj (x :: a) b = (!memB x b && disj a b) := rfl
theorem put_lt {bx : Bxs} {i : Nat} {B : Box} : Bxs.put bx i B = if i < bx.length then setN bx i (some B) else bx ++ [some B] := rfl
theorem box_def (bx : Bxs) (b : Nat) : Bxs.box bx b = nthD none bx b := rfl
/-- registers, but for some not known -/
def regsOf (n : Nat) (l : List (Nat × LV)) : List LV := l.foldl (fun r q => setN r q.1 q.2) (List.replicate n (.p .any))
def intR (σ : St) (t : Nat) : Int := match nthD (.p .any) σ.regs t with
  | .p (.int _ n) => n
  | _ => 0
attribute [simp] keepR regsOf St.ren LV.ren Bxs.ren Box.ren mapR intR wpCs_cons wpCs_nil wpDs_cons wpDs_nil wpK_skip wpK_reg wpK_regd wpK_seq wpK_cond wpK_block wpK_exit wpK_ret next_normal next_exit next_ret inB_normal inB_ret inB_same inB_other
  onW_true onW_false onV_true onV_false onO_some onB_true onB_false onC_true onE_val onE_new onE_wr onE_app onE_fz onD_val onD_new onD_wr onD_app onD_fz
  init eff wantedC St.get nthD_zero nthD_succ St.put setN_zero setN_succ St.after place makes A.makes St.ext St.yielded foot A.peeks A.opds LV.bxs Ef.ks chk_nil chk_cons Mark.apart disj_nil disj_cons memB_nil memB_cons nbeq bitB_def
  b64 PV.cells LV.lcells LV.pv PV.plain LV.plain fillL intPs cutB appSrc putL Bxs.at box_def put_lt frz parts retP resV Returns
/-! ### Small words -/
theorem wrap_id {x : Int} (h1 : -9223372036854775808 ≤ x) (h2 : x < 9223372036854775808) : IntKind.i64.wrap x = x := by
  show (if (true && decide (x % 18446744073709551616 ≥ 9223372036854775808)) = true then x % 18446744073709551616 - 18446744073709551616 else x % 18446744073709551616) = x
  by_cases h : x % 18446744073709551616 ≥ 9223372036854775808
  · rw [if_pos (by simpa using h)]; omega
  · rw [if_neg (by simpa using h)]; omega
/-- a list's values, read back -/
def decL {α : Type} (f : PV → Option α) : List PV → Option (List α)
  | [] => some []
  | v :: l => match f v, decL f l with
    | some a, some r => some (a :: r)
    | _, _ => none
theorem decL_spec {α : Type} {f : PV → Option α} {g : α → PV} (h : ∀ v a, f v = some a → v = g a) : ∀ (l : List PV) (r : List α), decL f l = some r → l = r.map g
  | [], r, e => by cases e; rfl
  | v :: l, r, e => by
    unfold decL at e
    split at e
    · rename_i a r' h1 h2
      cases e
      rw [h v a h1, decL_spec h l r' h2]; rfl
    · cases e
end
end Go.Proofs.Ytcamoojddlpbgaa.V
