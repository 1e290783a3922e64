import Derived.Test.YtigedaepbilokaaAb12
/-! The plain machine over whole functions. -/
namespace Go.Ab
set_option linter.unusedVariables false
set_option linter.unusedSimpArgs false
variable {P : Program} {gl : Nat → Option (List AV)} {N : Nat}

theorem exists_least {p : Nat → Prop} : ∀ n, p n → ∃ m, p m ∧ ∀ k, k < m → ¬ p k := by
  intro n
  induction n using Nat.strongRecOn with
  | _ n ih =>
    intro h
    by_cases hk : ∃ k, k < n ∧ p k
    · obtain ⟨k, h1, h2⟩ := hk; exact ih k h1 h2
    · exact ⟨n, h, fun k hk' hp => hk ⟨k, hk', hp⟩⟩

open Classical in
noncomputable def least (p : Nat → Prop) : Nat := if h : ∃ n, p n then Classical.choose (exists_least (Classical.choose h) (Classical.choose_spec h)) else 0
theorem least_spec {p : Nat → Prop} {n : Nat} (h : p n) : p (least p) ∧ least p ≤ n := by
  unfold least
  have hx : ∃ n, p n := ⟨n, h⟩
  rw [dif_pos hx]
  have := Classical.choose_spec (exists_least (Classical.choose hx) (Classical.choose_spec hx))
  refine ⟨this.1, ?_⟩
  rcases Nat.lt_or_ge n (Classical.choose (exists_least (Classical.choose hx) (Classical.choose_spec hx))) with h' | h'
  · exact absurd h (this.2 n h')
  · exact h'

theorem post_keep {σ0 : Own} {w0 : World} {env : Env} {σ : Own} {a : Act} {w : World} (h : At gl N σ0 w0 env σ a w) (l : List Nat) : At gl N σ0 w0 (keepE env l []) σ a w := ⟨h.rel, h.env.keep l, h.stays⟩

theorem code_sound (hm : P.follows .mixedOrders = true) {σ0 : Own} {w0 : World} : ∀ (g : SC) (c : Code) (s : SC), cCode P N g c = some s → ∀ (Q : AEx → Env → Own → Prop) (env : Env) (σ : Own) (a : Act) (w : World), At gl N σ0 w0 env σ a w →
    vc (cx P gl) s Q env σ → c.wp P (PostE gl N σ0 w0 Q) a w := by
  intro g
  induction g with
  | skip =>
    intro c s hc Q env σ a w hat h
    cases c <;> simp only [cCode] at hc <;> try (cases hc)
    exact wp_skip ⟨.normal, rfl, env, σ, h, hat⟩
  | region gs keep =>
    intro c s hc Q env σ a w hat h
    cases c <;> simp only [cCode] at hc <;> try (cases hc)
    · split at hc
      · cases hc
        simp only [vc, opsG, keepR_eq] at h
        exact wp_skip ⟨.normal, rfl, _, σ, h, post_keep hat keep⟩
      · cases hc
    rename_i id ops draw
    cases draw with
    | true => cases hc
    | false =>
      simp only at hc
      split at hc
      · rename_i l hl
        cases hc
        refine wp_region_list (ops_sound (J := fun env' σ' => Q .normal (keepE env' keep []) σ') (fun a w ⟨env', σ', h1, h2⟩ => ⟨.normal, rfl, _, σ', h1, post_keep h2 keep⟩) ops.toList gs l hl env σ a w hat ?_)
        simp only [vc, keepR_eq] at h
        exact opsG_sound (fun t b hb => by cases hb) h
      · cases hc
  | drawn perm gs keep =>
    intro c s hc Q env σ a w hat h
    cases c <;> simp only [cCode] at hc <;> try (cases hc)
    rename_i id ops draw
    cases draw with
    | false => cases hc
    | true =>
      simp only at hc
      split at hc
      · rename_i l hl
        split at hc
        · rename_i hh
          cases hc
          simp only [vc, keepR_eq] at h
          exact drawn_sound hm hl hh.1 hh.2.1 hh.2.2.1 hh.2.2.2 (J := fun env' σ' => Q .normal (keepE env' keep []) σ') (fun env1 env2 σ he hj => by have e := keepE_congr he keep []; simp only [e] at hj; exact hj)
            (fun a w ⟨env', σ', h1, h2⟩ => ⟨.normal, rfl, _, σ', h1, post_keep h2 keep⟩) hat (opsG_sound (fun t b hb => by cases hb) h)
        · cases hc
      · cases hc
  | says =>
    intro c s hc
    cases c <;> simp [cCode] at hc
  | seq g1 g2 ih1 ih2 =>
    intro c s hc Q env σ a w hat h
    by_cases hs : g1 = .says
    · subst hs
      simp only [cCode] at hc
      split at hc
      · rename_i t ht
        cases hc
        simp only [vc] at h
        obtain ⟨env', σ', hj, hat'⟩ := wk_sound hat h
        exact ih2 c t ht Q env' σ' a w hat' hj
      · cases hc
    · cases c with
      | seq x y =>
        have e : cCode P N (.seq g1 g2) (.seq x y) = match cCode P N g1 x with
            | some s => match cCode P N g2 y with
              | some t => some (.seq s t)
              | none => none
            | none => none := by
          cases g1 <;> first | rfl | exact absurd rfl hs
        rw [e] at hc
        split at hc
        · rename_i s1 h1
          split at hc
          · rename_i s2 h2
            cases hc
            simp only [vc] at h
            refine wp_seq (wp_mono (ih1 x s1 h1 _ env σ a w hat h) ?_)
            rintro e a' w' ⟨q, rfl, env', σ', hq, hat'⟩
            cases q with
            | normal => exact ih2 y s2 h2 Q env' σ' a' w' hat' hq
            | exit id => exact ⟨.exit id, rfl, env', σ', hq, hat'⟩
            | ret => exact ⟨.ret, rfl, env', σ', hq, hat'⟩
          · cases hc
        · cases hc
      | _ =>
        exfalso
        cases g1 <;> first | exact hs rfl | (simp [cCode] at hc)
  | cond o g1 g2 ih1 ih2 =>
    intro c s hc Q env σ a w hat h
    cases c <;> simp only [cCode] at hc <;> try (cases hc)
    rename_i cc x y
    split at hc
    · rename_i s1 h1
      split at hc
      · rename_i s2 h2
        cases hc
        simp only [vc, ev_eq] at h
        obtain ⟨b, hb⟩ := bool_of h
        have hb' : opdAV gl env (cOpd cc) = .w (.bool b) := hb
        rw [hb] at h
        have hv := opd_vr (gl := gl) hat.rel hat.env cc
        rw [hb'] at hv
        refine wp_cond_split hv.w_inv (fun t => ?_) (fun t => ?_)
        · exact ih1 x s1 h1 Q env σ a w hat (h.1 t)
        · exact ih2 y s2 h2 Q env σ a w hat (h.2 t)
      · cases hc
    · cases hc
  | block id keep g ih =>
    intro c s hc Q env σ a w hat h
    cases c <;> simp only [cCode] at hc <;> try (cases hc)
    rename_i id' x
    split at hc
    · rename_i s1 h1
      cases hc
      simp only [vc, keepR_eq] at h
      refine wp_block (wp_mono (ih x s1 h1 _ env σ a w hat h) ?_)
      rintro e a' w' ⟨q, rfl, env', σ', hq, hat'⟩
      cases q with
      | normal => exact ⟨.normal, rfl, _, σ', hq, post_keep hat' keep⟩
      | ret => exact ⟨.ret, rfl, env', σ', hq, hat'⟩
      | exit k =>
        simp only [AEx.ex, Exit.inBlock]
        simp only at hq
        split at hq
        · rename_i hb
          rw [if_pos (beq_eq hb)]
          exact ⟨.normal, rfl, _, σ', hq, post_keep hat' keep⟩
        · rename_i hb
          have hne : k ≠ id' := by
            rintro rfl
            have : Nat.beq k k = true := by simp
            rw [this] at hb; cases hb
          rw [if_neg hne]
          exact ⟨.exit k, rfl, env', σ', hq, hat'⟩
    · cases hc
  | loop keep g ih =>
    intro c s hc Q env σ a w hat h
    cases c <;> simp only [cCode] at hc <;> try (cases hc)
    rename_i x
    split at hc
    · rename_i s1 h1
      cases hc
      simp only [vc, keepR_eq] at h
      obtain ⟨I, h0, hround⟩ := h.out
      have hp0 := wk_sound (post_keep hat keep) h0
      refine wp_loop (fun a w => ∃ m, Post gl N σ0 w0 (I m) a w) (fun a w => least fun m => Post gl N σ0 w0 (I m) a w) ?_ ?_
      · obtain ⟨env', σ', ⟨m, hm'⟩, hat'⟩ := hp0
        exact ⟨m, env', σ', hm', hat'⟩
      · rintro a w ⟨m0, hp⟩
        obtain ⟨⟨env', σ', hI, hat'⟩, _⟩ := least_spec (p := fun m => Post gl N σ0 w0 (I m) a w) hp
        refine wp_mono (ih x s1 h1 _ env' σ' a w hat' (hround _ _ _ hI)) ?_
        rintro e a' w' ⟨q, rfl, env'', σ'', hq, hat''⟩
        cases q with
        | normal =>
          simp only [keepR_eq] at hq
          obtain ⟨env3, σ3, ⟨m', hlt, hI'⟩, hat3⟩ := wk_sound (post_keep hat'' keep) hq
          have hpost : Post gl N σ0 w0 (I m') a' w' := ⟨env3, σ3, hI', hat3⟩
          exact ⟨⟨m', hpost⟩, Nat.lt_of_le_of_lt (least_spec (p := fun m => Post gl N σ0 w0 (I m) a' w') hpost).2 hlt⟩
        | exit k => exact ⟨.exit k, rfl, env'', σ'', hq, hat''⟩
        | ret => exact ⟨.ret, rfl, env'', σ'', hq, hat''⟩
    · cases hc
  | exit id =>
    intro c s hc Q env σ a w hat h
    cases c <;> simp only [cCode] at hc <;> try (cases hc)
    exact wp_exit ⟨.exit _, rfl, env, σ, h, hat⟩
  | dead =>
    intro c s hc Q env σ a w hat h
    cases c <;> simp only [cCode] at hc <;> cases hc
    exact h.elim
  | ret =>
    intro c s hc Q env σ a w hat h
    cases c <;> simp only [cCode] at hc <;> try (cases hc)
    exact wp_ret ⟨.ret, rfl, env, σ, h, hat⟩

/-- The arguments' slots. -/
def argEnv : Nat → List AV → Env
  | _, [] => []
  | i, v :: r => (i, v) :: argEnv (i + 1) r

/-- What is handed back, said as the contract says it. -/
structure Ret (S : List AV → Own → List AV → Own → Prop) (v : AV) (σ : Own) (R : AV → Own → Prop) : Prop where
  out : ∃ v' σ', S [v] σ [v'] σ' ∧ R v' σ'

def looks (env : Env) : List Nat → (List AV → Prop) → Prop
  | [], K => K []
  | t :: r, K => look env t fun v => looks env r fun vs => K (v :: vs)
theorem looks_eq (env : Env) : ∀ (l : List Nat) (K : List AV → Prop), looks env l K = K (l.map (find env))
  | [], _ => rfl
  | t :: r, K => by simp only [looks, look_eq, List.map_cons]; exact looks_eq env r _

/-- What stands behind the body. -/
def finQ (S : List AV → Own → List AV → Own → Prop) (rs : List Nat) (R : AV → Own → Prop) (env : Env) (σ : Own) : Prop :=
  match rs with
  | [t] => look env t fun v => Ret S v σ R
  | rs => looks env rs fun vs => Ret S (.tup vs) σ R
def retQ (S : List AV → Own → List AV → Own → Prop) (rs : List Nat) (R : AV → Own → Prop) : AEx → Env → Own → Prop
  | .exit _, _, _ => False
  | _, env, σ => finQ S rs R env σ

theorem find_args : ∀ (args : List AV) (k i : Nat), find (argEnv k args) i = if k ≤ i then args.getD (i - k) .any else .any
  | [], k, i => by simp [argEnv, find]
  | v :: r, k, i => by
    rw [argEnv, find_cons, find_args r (k + 1) i]
    by_cases h : k = i
    · subst h; simp
    · rw [if_neg h]
      by_cases h2 : k + 1 ≤ i
      · rw [if_pos h2, if_pos (by omega)]
        have : i - k = (i - (k + 1)) + 1 := by omega
        rw [this]; rfl
      · rw [if_neg h2, if_neg (by omega)]

theorem acalls {f : FuncId} {fn : Func} {c : Code} {g s : SC} (hm : P.follows .mixedOrders = true) (hf : P.funcs[f]? = some fn) (hb : fn.body = some c) (hn : (fn.name == "runtime.NumGoroutine") = false) {rs : List Nat} (hr : fn.results.toList = rs.map .tmp)
    (hc : cCode P fn.ntmps g c = some s) {args : List AV} (ha : args.length ≤ fn.ntmps) {σ : Own} {R : AV → Own → Prop} (h : vc (cx P gl) s (retQ (Says gl) rs R) (argEnv 0 args) σ) : ACalls P gl f args σ R := by
  intro w cargs hrel hv
  have hrun : (callFunc f cargs).run P w = .ok (.enter f cargs) w := by
    have hn' : ¬ fn.name = "runtime.NumGoroutine" := by simpa using hn
    unfold callFunc
    simp [hf, hn', hb]
  rw [hrun]
  show Calls P f cargs w _
  refine calls_of_wp hf hb ?_
  have hsz : cargs.size = args.length := by have := hv.1; simpa using this
  have hat : At gl fn.ntmps σ w (argEnv 0 args) σ { tmps := cargs ++ Array.replicate (fn.ntmps - cargs.size) undef, defers := [] } w := by
    refine ⟨hrel, ⟨rfl, by simp; omega, fun i => ?_⟩, .refl _ _⟩
    rw [find_args, if_pos (Nat.zero_le _), Nat.sub_zero]
    by_cases hi : i < args.length
    · have := (VRs.iff.1 hv).2 i hi
      have e : (cargs ++ Array.replicate (fn.ntmps - cargs.size) undef).getD i undef = cargs.toList.getD i undef := by
        have hi' : i < cargs.size := by omega
        rw [Array.getD_eq_getD_getElem?, Array.getElem?_append_left hi']
        simp [List.getD_eq_getElem?_getD]
      rw [e]; exact this
    · rw [List.getD_eq_getElem?_getD, List.getElem?_eq_none (by omega)]
      exact .any _
  refine wp_mono (code_sound hm g c s hc _ _ _ _ _ hat h) ?_
  rintro e a' w' ⟨q, rfl, env, σ', hq, hat'⟩
  have fin : ∀ {v : AV} {cv : Value}, (results fn a'.tmps).run P w' = .ok cv w' → VR (Im σ' w') w' v cv → Ret (Says gl) v σ' R → bodyPost P fn (fun e w'' => ∃ v, e = Ending.returned v ∧ (fun cv w' => ∃ v σ', R v σ' ∧ Rel gl σ' w' ∧ Stays σ w σ' w' ∧ VR (Im σ' w') w' v cv) v w'') .ret a' w' := by
    intro v cv h1 h2 h3
    obtain ⟨v', σ'', k1, k2⟩ := h3.out
    obtain ⟨r1, r2, r3⟩ := k1 w' [cv] hat'.rel (.cons h2 .nil)
    refine ⟨hat'.env.defers, cv, h1, cv, rfl, v', σ'', k2, r1, hat'.stays.trans (stays_says r2), ?_⟩
    obtain ⟨v2, vs2, e2, hv2, _⟩ := r3.head
    cases e2; exact hv2
  have all : finQ (Says gl) rs R env σ' → bodyPost P fn (fun e w'' => ∃ v, e = Ending.returned v ∧ (fun cv w' => ∃ v σ', R v σ' ∧ Rel gl σ' w' ∧ Stays σ w σ' w' ∧ VR (Im σ' w') w' v cv) v w'') .ret a' w' := by
    intro hq
    have key : ∀ (F : ResultVar → Sem Value), (∀ t, F (.tmp t) = pure (a'.tmps.getD t undef)) → ∀ l : List Nat, (l.map ResultVar.tmp).mapM F = (pure (l.map fun t => a'.tmps.getD t undef) : Sem (List Value)) := by
      intro F hF l
      induction l with
      | nil => rfl
      | cons t l ih => rw [List.map_cons, List.mapM_cons, ih, hF]; rfl
    have hres : (results fn a'.tmps).run P w' = .ok (if h : (rs.map fun t => a'.tmps.getD t undef).toArray.size = 1 then (rs.map fun t => a'.tmps.getD t undef).toArray[0] else .tuple (rs.map fun t => a'.tmps.getD t undef).toArray) w' := by
      unfold results
      rw [Sem.run_bind, Array.mapM_eq_mapM_toList, hr, key _ (fun t => rfl) rs]
      rfl
    have hvs : ∀ l : List Nat, VRs (Im σ' w') w' (l.map (find env)) (l.map fun t => a'.tmps.getD t undef) := by
      intro l
      induction l with
      | nil => exact .nil
      | cons t l ih => exact .cons (hat'.env.val t) ih
    unfold finQ at hq
    split at hq
    · rename_i t _
      rw [look_eq] at hq
      refine fin ?_ (hat'.env.val _) hq
      rw [hres]; simp
    · rename_i hne
      rw [looks_eq] at hq
      refine fin ?_ (.mk_tup (cs := (rs.map fun t => a'.tmps.getD t undef).toArray) (by simpa using hvs rs)) hq
      rw [hres, dif_neg]
      intro h1
      cases rs with
      | nil => simp at h1
      | cons t rs =>
        cases rs with
        | nil => exact hne t rfl
        | cons u rs => simp at h1
  cases q with
  | exit id => exact hq.elim
  | normal => exact all hq
  | ret => exact all hq

end Go.Ab
