import Derived.Test.YtigedaepbilokaaAb10
/-! Operations whose order is open: in whatever order their edges allow, the same comes out. -/
namespace Go.Ab
set_option linter.unusedVariables false
set_option linter.unusedSimpArgs false

def rO : Opd → List Nat
  | .t i => [i]
  | _ => []
def rOo : Option Opd → List Nat
  | none => []
  | some o => rO o
def reads : SOp → List Nat
  | .mv x => rO x
  | .pick c a b => rO c ++ rO a ++ rO b
  | .bin _ x y => rO x ++ rO y
  | .beq _ x y => rO x ++ rO y
  | .isnil _ x => rO x
  | .un _ x => rO x
  | .conv _ x => rO x
  | .cstr x => rO x
  | .len x => rO x
  | .lens x => rO x
  | .ld _ _ a => rO a
  | .st _ a v => rO a ++ rO v
  | .ix _ x i => rO x ++ rO i
  | .ixa _ _ x i => rO x ++ rO i
  | .idx _ _ _ x i => rO x ++ rO i
  | .idxs x i => rO x ++ rO i
  | .fa _ x => rO x
  | .fld _ _ _ x => rO x
  | .sl _ x lo hi mx => rO x ++ rOo lo ++ rOo hi ++ rOo mx
  | .sls x lo hi => rO x ++ rOo lo ++ rOo hi
  | .call _ args => args.flatMap rO
  | .callq _ args => args.flatMap rO
  | .callv _ x args => rO x ++ args.flatMap rO
  | .mkf _ a b => a.flatMap rO ++ b.flatMap rO
  | .ext x _ => rO x
  | .box _ _ x => rO x
  | .alloc _ _ _ => []
  | .build _ parts => parts.flatMap fun p => rO p.2.2
  | .bsl _ _ _ _ parts => parts.flatMap fun p => rO p.2
  | .mks _ _ _ l c => rO l ++ rO c
  | .app _ _ _ x y => rO x ++ rO y

variable {P : Program} {gl : Nat → Option (List AV)} {env env' : Env} {σ : Own}

theorem opdAV_congr {x : Opd} (h : ∀ i ∈ rO x, find env i = find env' i) : opdAV gl env x = opdAV gl env' x := by
  cases x <;> first
    | rfl
    | exact h _ (by simp [rO])
theorem opds_congr : ∀ {l : List Opd}, (∀ i ∈ l.flatMap rO, find env i = find env' i) → l.map (opdAV gl env) = l.map (opdAV gl env')
  | [], _ => rfl
  | o :: r, h => by
    simp only [List.map_cons]
    rw [opdAV_congr (fun i hi => h i (by simp [hi])), opds_congr (l := r) (fun i hi => h i (by simp only [List.flatMap_cons, List.mem_append]; exact .inr hi))]
theorem bnd_congr {d : Nat} {o : Option Opd} (h : ∀ i ∈ rOo o, find env i = find env' i) {K : Int → Prop} : bnd gl env d o K = bnd gl env' d o K := by
  cases o with
  | none => rfl
  | some o => simp only [bnd, ev_eq]; rw [opdAV_congr (fun i hi => h i hi)]
theorem lay_congr {K : List AV → Prop} : ∀ {ps : List (Nat × Nat × Opd)} {cs : List AV}, (∀ i ∈ ps.flatMap (fun p => rO p.2.2), find env i = find env' i) → lay gl env ps cs K = lay gl env' ps cs K
  | [], cs, _ => rfl
  | (off, size, x) :: r, cs, h => by
    simp only [lay, ev_eq]
    rw [opdAV_congr (fun i hi => h i (by simp [hi]))]
    split
    · exact lay_congr (fun i hi => h i (by simp only [List.flatMap_cons, List.mem_append]; exact .inr hi))
    · rfl

theorem opR_congr {s : SOp} (h : ∀ i ∈ reads s, find env i = find env' i) {K : AV → Own → Prop} : opR (cx P gl) env σ s K = opR (cx P gl) env' σ s K := by
  cases s <;> simp only [opR, ev_eq, evs_eq, cx]
  case mv x => rw [opdAV_congr (fun i hi => h i (by simp [reads, hi]))]
  case pick c x y => rw [opdAV_congr (x := c) (fun i hi => h i (by simp [reads, hi])), opdAV_congr (x := x) (fun i hi => h i (by simp [reads, hi])), opdAV_congr (x := y) (fun i hi => h i (by simp [reads, hi]))]
  case bin op x y => rw [opdAV_congr (x := x) (fun i hi => h i (by simp [reads, hi])), opdAV_congr (x := y) (fun i hi => h i (by simp [reads, hi]))]
  case beq n x y => rw [opdAV_congr (x := x) (fun i hi => h i (by simp [reads, hi])), opdAV_congr (x := y) (fun i hi => h i (by simp [reads, hi]))]
  case isnil n x => rw [opdAV_congr (x := x) (fun i hi => h i (by simp [reads, hi]))]
  case un op x => rw [opdAV_congr (x := x) (fun i hi => h i (by simp [reads, hi]))]
  case conv k x => rw [opdAV_congr (x := x) (fun i hi => h i (by simp [reads, hi]))]
  case cstr x => rw [opdAV_congr (x := x) (fun i hi => h i (by simp [reads, hi]))]
  case len x => rw [opdAV_congr (x := x) (fun i hi => h i (by simp [reads, hi]))]
  case lens x => rw [opdAV_congr (x := x) (fun i hi => h i (by simp [reads, hi]))]
  case ld b n x => rw [opdAV_congr (x := x) (fun i hi => h i (by simp [reads, hi]))]
  case st n x y => rw [opdAV_congr (x := x) (fun i hi => h i (by simp [reads, hi])), opdAV_congr (x := y) (fun i hi => h i (by simp [reads, hi]))]
  case ix n x y => rw [opdAV_congr (x := x) (fun i hi => h i (by simp [reads, hi])), opdAV_congr (x := y) (fun i hi => h i (by simp [reads, hi]))]
  case ixa l n x y => rw [opdAV_congr (x := x) (fun i hi => h i (by simp [reads, hi])), opdAV_congr (x := y) (fun i hi => h i (by simp [reads, hi]))]
  case idx b l n x y => rw [opdAV_congr (x := x) (fun i hi => h i (by simp [reads, hi])), opdAV_congr (x := y) (fun i hi => h i (by simp [reads, hi]))]
  case idxs x y => rw [opdAV_congr (x := x) (fun i hi => h i (by simp [reads, hi])), opdAV_congr (x := y) (fun i hi => h i (by simp [reads, hi]))]
  case fa n x => rw [opdAV_congr (x := x) (fun i hi => h i (by simp [reads, hi]))]
  case fld b o n x => rw [opdAV_congr (x := x) (fun i hi => h i (by simp [reads, hi]))]
  case sl n x lo hi mx =>
    rw [opdAV_congr (x := x) (fun i hi => h i (by simp [reads, hi])), bnd_congr (env := env) (env' := env') (o := lo) (fun i hi => h i (by simp [reads, hi]))]
    congr 1; funext l
    rw [bnd_congr (env := env) (env' := env') (o := hi) (fun i hi => h i (by simp [reads, hi]))]
    congr 1; funext k
    cases mx with
    | none => rfl
    | some m => simp only []; rw [bnd_congr (env := env) (env' := env') (o := some m) (fun i hi => h i (by simp [reads, hi]))]
  case sls x lo hi =>
    rw [opdAV_congr (x := x) (fun i hi => h i (by simp [reads, hi]))]
    unfold slsV
    split
    · rw [bnd_congr (env := env) (env' := env') (o := lo) (fun i hi => h i (by simp [reads, hi]))]
      congr 1; funext l
      rw [bnd_congr (env := env) (env' := env') (o := hi) (fun i hi => h i (by simp [reads, hi]))]
    · rfl
  case call f args => rw [opds_congr (l := args) (fun i hi => h i hi)]
  case callq f args => rw [opds_congr (l := args) (fun i hi => h i hi)]
  case callv q x args => rw [opdAV_congr (x := x) (fun i hi => h i (by simp [reads, hi])), opds_congr (l := args) (fun i hi => h i (by simp only [reads, List.mem_append]; exact .inr hi))]
  case mkf f x y => rw [opds_congr (l := x) (fun i hi => h i (by simp only [reads, List.mem_append]; exact .inl hi)), opds_congr (l := y) (fun i hi => h i (by simp only [reads, List.mem_append]; exact .inr hi))]
  case ext x n => rw [opdAV_congr (x := x) (fun i hi => h i (by simp [reads, hi]))]
  case box o n x => rw [opdAV_congr (x := x) (fun i hi => h i (by simp [reads, hi]))]
  case build z ps => rw [lay_congr (fun i hi => h i hi)]
  case bsl o n l z ps => rw [lay_congr (fun i hi => h i (by simpa [reads, List.flatMap_map] using hi))]
  case mks n b z x y => rw [opdAV_congr (x := x) (fun i hi => h i (by simp [reads, hi])), opdAV_congr (x := y) (fun i hi => h i (by simp [reads, hi]))]
  case app str n b x y => rw [opdAV_congr (x := x) (fun i hi => h i (by simp [reads, hi])), opdAV_congr (x := y) (fun i hi => h i (by simp [reads, hi]))]

/-- one operation, with its guard -/
def stepR (c : Cx) (i : SI) (K : Env → Own → Prop) (env : Env) (σ : Own) : Prop :=
  match i.guard with
  | none => opR c env σ i.op fun v σ' => K (putO env i.d v) σ'
  | some (t, want) => match find env t with
    | .w (.bool b) => (b = want → opR c env σ i.op fun v σ' => K (putO env i.d v) σ') ∧ (b = !want → K (putO env i.d .any) σ)
    | _ => False

theorem opsR_cons (c : Cx) (i : SI) (l : List SI) (K : Env → Own → Prop) (env : Env) (σ : Own) : opsR c (i :: l) K env σ = stepR c i (opsR c l K) env σ := by
  obtain ⟨d, op, g⟩ := i
  unfold stepR
  cases g with
  | none => cases d <;> rfl
  | some g =>
    obtain ⟨t, want⟩ := g
    simp only [opsR, look_eq]
    cases d <;> (cases find env t <;> try rfl) <;> (rename_i v; cases v <;> rfl)

theorem bool_of {x : AV} {A : Bool → Prop} (h : match x with | .w (.bool b) => A b | _ => False) : ∃ b, x = .w (.bool b) := by
  split at h
  · exact ⟨_, rfl⟩
  · exact h.elim

def readsI (i : SI) : List Nat := (match i.guard with | some (t, _) => [t] | none => []) ++ reads i.op

theorem stepR_mono {i : SI} {K K' : Env → Own → Prop} (m : ∀ env σ, K env σ → K' env σ) (h : stepR (cx P gl) i K env σ) : stepR (cx P gl) i K' env σ := by
  unfold stepR at *
  split at h
  · exact opR_mono (fun v σ => m _ _) h
  · split at h
    · exact ⟨fun q => opR_mono (fun v σ => m _ _) (h.1 q), fun q => m _ _ (h.2 q)⟩
    · exact h.elim
theorem opsR_mono {K K' : Env → Own → Prop} (m : ∀ env σ, K env σ → K' env σ) : ∀ {l : List SI} {env : Env} {σ : Own}, opsR (cx P gl) l K env σ → opsR (cx P gl) l K' env σ
  | [], env, σ, h => m _ _ h
  | i :: l, env, σ, h => by rw [opsR_cons] at *; exact stepR_mono (fun env σ h => opsR_mono m h) h

theorem stepR_congr {i : SI} {K K' : Env → Own → Prop} (ha : ∀ t ∈ readsI i, find env t = find env' t) (m : ∀ v σ', K (putO env' i.d v) σ' → K' (putO env i.d v) σ') (h : stepR (cx P gl) i K env' σ) : stepR (cx P gl) i K' env σ := by
  unfold stepR at *
  have hop : ∀ t ∈ reads i.op, find env t = find env' t := fun t ht => ha t (by simp [readsI, ht])
  cases hg : i.guard with
  | none =>
    simp only [hg] at h ⊢
    rw [opR_congr hop]
    exact opR_mono m h
  | some g =>
    obtain ⟨t, want⟩ := g
    simp only [hg] at h ⊢
    rw [ha t (by simp [readsI, hg])]
    obtain ⟨b, hb⟩ := bool_of h
    rw [hb] at h ⊢
    refine ⟨fun q => ?_, fun q => m _ _ (h.2 q)⟩
    rw [opR_congr hop]
    exact opR_mono m (h.1 q)

/-- it gives v -/
def Out (P : Program) (gl : Nat → Option (List AV)) (i : SI) (env : Env) (σ : Own) (v : AV) : Prop := stepR (cx P gl) i (fun env' σ' => env' = putO env i.d v ∧ σ' = σ) env σ

theorem putO_inj {d : Option Nat} {env : Env} {v v' : AV} {K : Env → Prop} (h : putO env d v' = putO env d v) (k : K (putO env d v)) : K (putO env d v') := by rw [h]; exact k

theorem step_det {i : SI} (hd : detOp i.op = true) {K : Env → Own → Prop} (h : stepR (cx P gl) i K env σ) : ∃ v, Out P gl i env σ v ∧ K (putO env i.d v) σ := by
  unfold Out stepR at *
  cases hg : i.guard with
  | none =>
    simp only [hg] at h ⊢
    obtain ⟨v, h1, h2⟩ := opR_det hd h
    exact ⟨v, opR_mono (fun v' σ' ⟨e1, e2⟩ => ⟨by rw [e1], e2⟩) h1, h2⟩
  | some g =>
    obtain ⟨t, want⟩ := g
    simp only [hg] at h ⊢
    obtain ⟨b, hb⟩ := bool_of h
    rw [hb] at h ⊢
    by_cases hw : b = want
    · obtain ⟨v, h1, h2⟩ := opR_det hd (h.1 hw)
      exact ⟨v, ⟨fun _ => opR_mono (fun v' σ' ⟨e1, e2⟩ => ⟨by rw [e1], e2⟩) h1, (fun q => by rw [hw] at q; cases want <;> cases q)⟩, h2⟩
    · have hw' : b = !want := by cases b <;> cases want <;> simp_all
      exact ⟨.any, ⟨fun q => absurd q hw, fun _ => ⟨rfl, trivial⟩⟩, h.2 hw'⟩
theorem out_step {i : SI} {v : AV} {K : Env → Own → Prop} (h : Out P gl i env σ v) (k : K (putO env i.d v) σ) : stepR (cx P gl) i K env σ :=
  stepR_mono (fun env' σ' ⟨e1, e2⟩ => by rw [e1, e2]; exact k) h
theorem out_congr {i : SI} {v : AV} (ha : ∀ t ∈ readsI i, find env t = find env' t) (h : Out P gl i env' σ v) : Out P gl i env σ v := by
  unfold Out at *
  refine stepR_congr ha (fun v' σ' ⟨e1, e2⟩ => ⟨?_, e2⟩) h
  cases hd : i.d with
  | none => simp [putO]
  | some d =>
    rw [hd] at e1
    have : v' = v := by simpa [putO] using e1
    rw [this]
theorem out_blind {i : SI} {v : AV} {σ' : Own} (hp : pOp i.op = true) (h : Out P gl i env σ v) : Out P gl i env σ' v := by
  have hd : detOp i.op = true := by revert hp; cases i.op <;> simp [pOp, detOp]
  unfold Out stepR at *
  cases hg : i.guard with
  | none =>
    simp only [hg] at h ⊢
    have h1 := opR_blind (σ' := σ') hp (opR_mono (K' := fun v' _ => putO env i.d v' = putO env i.d v) (fun v' σ' e => e.1) h)
    obtain ⟨u, h2, h3⟩ := opR_det hd h1
    exact opR_mono (fun v' σ'' ⟨e1, e2⟩ => ⟨by rw [e1]; exact h3, e2⟩) h2
  | some g =>
    obtain ⟨t, want⟩ := g
    simp only [hg] at h ⊢
    obtain ⟨b, hb⟩ := bool_of h
    rw [hb] at h ⊢
    refine ⟨fun q => ?_, fun q => ⟨(h.2 q).1, trivial⟩⟩
    have h1 := opR_blind (σ' := σ') hp (opR_mono (K' := fun v' _ => putO env i.d v' = putO env i.d v) (fun v' σ' e => e.1) (h.1 q))
    obtain ⟨u, h2, h3⟩ := opR_det hd h1
    exact opR_mono (fun v' σ'' ⟨e1, e2⟩ => ⟨by rw [e1]; exact h3, e2⟩) h2

/-- K does not see in which order the slots were written. -/
def Ext (K : Env → Own → Prop) : Prop := ∀ env env' σ, (∀ t, find env t = find env' t) → K env σ → K env' σ

theorem find_put {d : Option Nat} {v : AV} {t : Nat} : find (putO env d v) t = if d = some t then v else find env t := by
  cases d with
  | none => simp [putO]
  | some d => simp only [putO, find_cons, Option.some.injEq]
theorem ext_step {i : SI} {K : Env → Own → Prop} (h : Ext K) : Ext (stepR (cx P gl) i K) := by
  intro env env' σ he hs
  refine stepR_congr (fun t _ => (he t).symm) (fun v σ' k => h _ _ _ (fun t => ?_) k) hs
  rw [find_put, find_put, he t]
theorem ext_ops {K : Env → Own → Prop} (h : Ext K) : ∀ l : List SI, Ext (opsR (cx P gl) l K)
  | [] => h
  | i :: l => by
    have := ext_step (P := P) (gl := gl) (i := i) (ext_ops h l)
    intro env env' σ he hs
    rw [opsR_cons] at *
    exact this env env' σ he hs

/-- may i go ahead of x, which stands in front of it? -/
def comm (x i : SI) : Bool :=
  (match x.d with | some d => !(readsI i).contains d | none => true) && (match i.d with | some d => !(readsI x).contains d | none => true) &&
  (match x.d, i.d with | some d, some e => d != e | _, _ => true) && ((detOp x.op && detOp i.op) || pOp x.op)

theorem not_read {x i : SI} {d : Nat} (hd : x.d = some d) (h : (match x.d with | some d => !(readsI i).contains d | none => true) = true) : ∀ t ∈ readsI i, t ≠ d := by
  intro t ht e
  subst e
  rw [hd] at h
  simp at h
  exact h ht
theorem agree_put {d : Option Nat} {v : AV} {i : SI} (h : (match d with | some d => !(readsI i).contains d | none => true) = true) : ∀ t ∈ readsI i, find env t = find (putO env d v) t := by
  intro t ht
  rw [find_put]
  cases d with
  | none => simp
  | some d =>
    have : t ≠ d := by rintro rfl; simp at h; exact h ht
    rw [if_neg (by simpa using fun e => this e.symm)]

theorem swap {x i : SI} (hc : comm x i = true) {K : Env → Own → Prop} (hK : Ext K) (h : stepR (cx P gl) x (stepR (cx P gl) i K) env σ) : stepR (cx P gl) i (stepR (cx P gl) x K) env σ := by
  simp only [comm, Bool.and_eq_true, Bool.or_eq_true] at hc
  obtain ⟨⟨⟨h1, h2⟩, h3⟩, h4⟩ := hc
  have hdx : detOp x.op = true := by
    rcases h4 with h4 | h4
    · exact h4.1
    · revert h4; cases x.op <;> simp [pOp, detOp]
  obtain ⟨vx, ox, hi⟩ := step_det hdx h
  have hext : ∀ vi σ', K (putO (putO env x.d vx) i.d vi) σ' → K (putO (putO env i.d vi) x.d vx) σ' := by
    intro vi σ'
    refine hK _ _ _ (fun t => ?_)
    simp only [find_put]
    cases hx : x.d with
    | none => simp
    | some d =>
      cases hi : i.d with
      | none => simp
      | some e =>
        rw [hx, hi] at h3
        have hne : d ≠ e := by simpa using h3
        by_cases e1 : some e = some t
        · have : ¬ some d = some t := by intro e2; apply hne; rw [← e1] at e2; simpa using e2
          simp [e1, this]
        · simp [e1]
  rcases h4 with ⟨_, hdi⟩ | hp
  · obtain ⟨vi, oi, hk⟩ := step_det hdi hi
    exact out_step (out_congr (agree_put h1) oi) (out_step (out_congr (fun t ht => (agree_put (env := env) (v := vi) h2 t ht).symm) ox) (hext vi σ hk))
  · refine stepR_congr (agree_put h1) (fun vi σ' hk => ?_) hi
    exact out_step (out_blind hp (out_congr (fun t ht => (agree_put (env := env) (v := vi) h2 t ht).symm) ox)) (hext vi σ' hk)

theorem ahead {i : SI} {K : Env → Own → Prop} (hK : Ext K) : ∀ {l1 : List SI} {l2 : List SI} {env : Env} {σ : Own}, (∀ x ∈ l1, comm x i = true) → opsR (cx P gl) (l1 ++ i :: l2) K env σ → stepR (cx P gl) i (opsR (cx P gl) (l1 ++ l2) K) env σ
  | [], l2, env, σ, _, h => by simpa [opsR_cons] using h
  | x :: l1, l2, env, σ, hc, h => by
    rw [List.cons_append, opsR_cons] at h
    have h2 : stepR (cx P gl) x (stepR (cx P gl) i (opsR (cx P gl) (l1 ++ l2) K)) env σ := stepR_mono (fun env σ h => ahead hK (fun y hy => hc y (by simp [hy])) h) h
    have := swap (hc x (by simp)) (ext_ops hK _) h2
    exact stepR_mono (fun env σ h => by rw [List.cons_append, opsR_cons]; exact h) this

/-- what guards told is so -/
def Told (γ : List (Nat × Bool)) (env : Env) : Prop := ∀ t b, findB γ t = some b → find env t = .w (.bool b)

theorem findB_cons (γ : List (Nat × Bool)) (d t : Nat) (b : Bool) : findB ((d, b) :: γ) t = if d = t then some b else findB γ t := by
  simp only [findB]
  by_cases h : d = t
  · simp [h]
  · rw [if_neg h]
    have : Nat.beq d t = false := by
      cases hb : Nat.beq d t with
      | true => exact absurd (Nat.eq_of_beq_eq_true hb) h
      | false => rfl
    rw [this]
theorem findB_drop : ∀ (γ : List (Nat × Bool)) (d t : Nat), findB (dropB γ d) t = if d = t then none else findB γ t
  | [], d, t => by simp [dropB, findB]
  | (i, b) :: r, d, t => by
    simp only [dropB]
    cases hb : Nat.beq i d with
    | true =>
      have e := Nat.eq_of_beq_eq_true hb
      subst e
      rw [findB_drop r i t, findB_cons]
      by_cases h : i = t
      · rw [if_pos h, if_pos h]
      · rw [if_neg h, if_neg h, if_neg h]
    | false =>
      have hne : i ≠ d := by rintro rfl; simp at hb
      simp only
      rw [findB_cons, findB_drop r d t, findB_cons]
      by_cases h : i = t
      · subst h; rw [if_pos rfl, if_pos rfl, if_neg (fun e => hne e.symm)]
      · rw [if_neg h, if_neg h]
theorem Told.put {γ : List (Nat × Bool)} (h : Told γ env) (d : Nat) (v : AV) : Told (dropB γ d) ((d, v) :: env) := by
  intro t b hb
  rw [findB_drop] at hb
  rw [find_cons]
  by_cases e : d = t
  · rw [if_pos e] at hb; cases hb
  · rw [if_neg e] at hb ⊢; exact h t b hb
theorem Told.know {γ : List (Nat × Bool)} (h : Told γ env) {t : Nat} {b : Bool} (hb : find env t = .w (.bool b)) : Told ((t, b) :: γ) env := by
  intro t' b' h'
  rw [findB_cons] at h'
  by_cases e : t = t'
  · subst e; rw [if_pos rfl] at h'; cases h'; exact hb
  · rw [if_neg e] at h'; exact h t' b' h'

theorem opG_sound {γ : List (Nat × Bool)} (ht : Told γ env) {s : SOp} {K : AV → Own → Prop} (h : opG (cx P gl) γ env σ s K) : opR (cx P gl) env σ s K := by
  unfold opG at h
  split at h
  · rename_i t x y
    split at h
    · rename_i hb
      simp only [opR, ev_eq, opdAV] at h ⊢
      rw [ht t true hb]
      exact ⟨fun _ => h, fun e => by cases e⟩
    · rename_i hb
      simp only [opR, ev_eq, opdAV] at h ⊢
      rw [ht t false hb]
      exact ⟨fun e => (by cases e), fun _ => h⟩
    · exact h
  · exact h

theorem opsG_sound {K : Env → Own → Prop} : ∀ {l : List SI} {γ : List (Nat × Bool)} {env : Env} {σ : Own}, Told γ env → opsG (cx P gl) l γ K env σ → opsR (cx P gl) l K env σ
  | [], γ, env, σ, _, h => h
  | i :: l, γ, env, σ, ht, h => by
    rw [opsR_cons]
    have step : ∀ (γ' : List (Nat × Bool)), Told γ' env → (opG (cx P gl) γ' env σ i.op fun v σ' => match i.d with
        | some d => opsG (cx P gl) l (dropB γ' d) K ((d, v) :: env) σ'
        | none => opsG (cx P gl) l γ' K env σ') → opR (cx P gl) env σ i.op fun v σ' => opsR (cx P gl) l K (putO env i.d v) σ' := by
      intro γ' ht' h'
      refine opR_mono (fun v σ' h2 => ?_) (opG_sound ht' h')
      cases hd : i.d with
      | none => rw [hd] at h2; exact opsG_sound ht' h2
      | some d => rw [hd] at h2; exact opsG_sound (ht'.put d v) h2
    have skip : ∀ (γ' : List (Nat × Bool)), Told γ' env → (match i.d with
        | some d => opsG (cx P gl) l (dropB γ' d) K ((d, .any) :: env) σ
        | none => opsG (cx P gl) l γ' K env σ) → opsR (cx P gl) l K (putO env i.d .any) σ := by
      intro γ' ht' h2
      cases hd : i.d with
      | none => rw [hd] at h2; exact opsG_sound ht' h2
      | some d => rw [hd] at h2; exact opsG_sound (ht'.put d .any) h2
    unfold stepR
    unfold opsG at h
    cases hg : i.guard with
    | none =>
      simp only [hg] at h ⊢
      exact step γ ht h
    | some g =>
      obtain ⟨t, want⟩ := g
      simp only [hg] at h ⊢
      cases hb : findB γ t with
      | some b =>
        rw [ht t b hb]
        simp only [hb] at h
        cases b <;> cases want
        · exact ⟨fun _ => step γ ht h, fun e => by cases e⟩
        · exact ⟨fun e => (by cases e), fun _ => skip γ ht h⟩
        · exact ⟨fun e => (by cases e), fun _ => skip γ ht h⟩
        · exact ⟨fun _ => step γ ht h, fun e => by cases e⟩
      | none =>
        simp only [hb, look_eq] at h
        obtain ⟨b, hv⟩ := bool_of h
        rw [hv] at h ⊢
        refine ⟨fun e => step _ (ht.know (by rw [hv, e])) (h.1 e), fun e => skip _ (ht.know (by rw [hv, e])) (h.2 e)⟩

end Go.Ab
