import Derived.Test.YtigedaepbilokaaAb8
/-! Each operation of the plain machine is sound. -/
namespace Go.Ab
set_option linter.unusedVariables false
set_option linter.unusedSimpArgs false
variable {P : Program} {gl : Nat → Option (List AV)} {N : Nat} {σ : Own} {w : World} {env : Env} {a : Act}

theorem out_of {s : Sem Value} {Post : Value → World → Prop} (h : ∃ v, s.run P w = .ok v w ∧ Post v w) : OpOut P ((do pure (.value (← s)) : Sem Next).run P w) Post := by
  obtain ⟨v, h1, h2⟩ := h; exact out_value h1 h2
theorem out_of' {s : Sem Value} {Post : Value → World → Prop} (h : ∃ v w', s.run P w = .ok v w' ∧ Post v w') : OpOut P ((do pure (.value (← s)) : Sem Next).run P w) Post := by
  obtain ⟨v, w', h1, h2⟩ := h; exact out_value h1 h2

theorem opds_eq (gl : Nat → Option (List AV)) (env : Env) (l : List Operand) : (l.map cOpd).map (opdAV gl env) = l.map fun o => opdAV gl env (cOpd o) := by simp [Function.comp_def]

theorem list1 {α : Type} {a : Array α} {x : α} (h : a.toList = [x]) : a = #[x] := by apply Array.ext'; simpa using h
theorem list2 {α : Type} {a : Array α} {x y : α} (h : a.toList = [x, y]) : a = #[x, y] := by apply Array.ext'; simpa using h

theorem call_sound {f : FuncId} {args : List Operand} {K : AV → Own → Prop} (hr : Rel gl σ w) (he : EnvR N σ w env a) (h : CallVC (ACalls P gl) (Says gl) f (args.map fun o => opdAV gl env (cOpd o)) σ K) {cargs : Array Value}
    (hc : cargs.toList = args.map a.eval) : OpOut P ((callFunc f cargs).run P w) (Sound P gl σ w K) := by
  obtain ⟨args', σ', hs, ha⟩ := h.out
  have hv := opds_vr (gl := gl) hr he args
  rw [← hc] at hv
  obtain ⟨r1, r2, r3⟩ := hs w _ hr hv
  refine (ha w cargs r1 r3).mono fun cv w' ⟨v, σ'', k1, k2, k3, k4⟩ => ⟨v, σ'', k1, k2, ?_, k4⟩
  exact (stays_says r2).trans k3

theorem sound_cstr {s d : TypeId} (hs : P.underlying s = some .string) (hd : P.underlying d = some .string) {x : AV} {u : Value} {K : AV → Own → Prop} (hr : Rel gl σ w) (hx : VR (Im σ w) w x u)
    (h : cstrV x fun v => K v σ) : ∃ z, (convert s d u).run P w = .ok z w ∧ Sound P gl σ w K z w := by
  unfold cstrV at h
  split at h
  · cases hx.w_inv
    refine ⟨_, ?_, sound_pure hr h (.w _)⟩
    unfold convert
    rw [Sem.run_bind, run_underlying hs, Result.andThen_ok, Sem.run_bind, run_underlying hd, Result.andThen_ok]
    rfl
  · exact h.elim

theorem VR.fn_inv {I : Nat → Prop} {f : Fn} {xs ys : List AV} {v : Value} (h : VR I w (.fn f xs ys) v) : ∃ cs ds, v = .func f cs ds ∧ VRs I w xs cs.toList ∧ VRs I w ys ds.toList := by
  cases h with | fn _ _ _ cs ds hl h kl k => exact ⟨cs, ds, rfl, .of_arr hl h, .of_arr kl k⟩

theorem sound_mkf {f : Fn} {first cap : Array Operand} {K : AV → Own → Prop} (hr : Rel gl σ w) (he : EnvR N σ w env a)
    (h : mkfV f (first.toList.map fun o => opdAV gl env (cOpd o)) (cap.toList.map fun o => opdAV gl env (cOpd o)) fun v => K v σ) : ∃ z, (Instr.makeFunc f (first.map a.eval) (cap.map a.eval)).run P w = .ok z w ∧ Sound P gl σ w K z w := by
  refine ⟨_, rfl, ?_⟩
  have h1 := opds_vr (gl := gl) hr he first.toList
  have h2 := opds_vr (gl := gl) hr he cap.toList
  have e1 : (first.map a.eval).toList = first.toList.map a.eval := by simp
  have e2 : (cap.map a.eval).toList = cap.toList.map a.eval := by simp
  rw [← e1] at h1
  rw [← e2] at h2
  unfold mkfV at h
  split at h
  · rename_i e1 e2
    have e1' : first = #[] := by apply Array.ext'; simpa using e1
    have e2' : cap = #[] := by apply Array.ext'; simpa using e2
    subst e1'; subst e2'
    exact sound_pure hr h (by simpa using VR.w _)
  · exact sound_pure hr h (.fn _ _ _ _ _ h1.arr.1 h1.arr.2 h2.arr.1 h2.arr.2)

/-- a call of a function value -/
theorem callv_sound {x : Operand} {args : Array Operand} {ats : Array TypeId} {ty : TypeId} {q : Bool} {K : AV → Own → Prop} (hr : Rel gl σ w) (he : EnvR N σ w env a)
    (h : fnV (opdAV gl env (cOpd x)) (args.toList.map fun o => opdAV gl env (cOpd o)) fun f vs => callX (cx P gl) q f vs σ K) :
    OpOut P ((do let d ← resolve a.eval { callee := .value x, args := args, argTypes := ats } ty; invoke d.target d.args : Sem Next).run P w) (Sound P gl σ w K) := by
  have hx := opd_vr (gl := gl) hr he x
  have hv := opds_vr (gl := gl) hr he args.toList
  have fin : ∀ (f : FuncId) (vs : List AV) (cargs : Array Value), VRs (Im σ w) w vs cargs.toList → callX (cx P gl) q f vs σ K → OpOut P ((callFunc f cargs).run P w) (Sound P gl σ w K) := by
    intro f vs cargs hvs hk
    have go : CallVC (ACalls P gl) (Says gl) f vs σ K → OpOut P ((callFunc f cargs).run P w) (Sound P gl σ w K) := by
      intro hk
      obtain ⟨args', σ', hs, ha⟩ := hk.out
      obtain ⟨r1, r2, r3⟩ := hs w _ hr hvs
      exact (ha w cargs r1 r3).mono fun cv w' ⟨v, σ'', k1, k2, k3, k4⟩ => ⟨v, σ'', k1, k2, (stays_says r2).trans k3, k4⟩
    cases q with
    | false => exact go hk
    | true =>
      obtain ⟨args', v, h1, h2, h3⟩ := hk.out
      exact go ⟨args', σ, h1, h2.mono fun v' σ' ⟨e1, e2⟩ => by rw [e1, e2]; exact h3⟩
  unfold fnV at h
  split at h
  · rename_i f heq
    rw [heq] at hx
    have e := hx.w_inv
    have e2 : (do let d ← resolve a.eval { callee := .value x, args := args, argTypes := ats } ty; invoke d.target d.args : Sem Next) = callFunc f (args.map a.eval) := by
      show (do let d ← Deferred.ofValue (a.eval x) (args.map a.eval); invoke d.target d.args : Sem Next) = _
      rw [e]
      show callFunc f ((#[] ++ args.map a.eval) ++ #[]) = _
      simp
    rw [e2]
    exact fin f _ _ (by simpa using hv) h
  · rename_i f vs ws heq
    rw [heq] at hx
    obtain ⟨cs, ds, e, h1, h2⟩ := hx.fn_inv
    have e2 : (do let d ← resolve a.eval { callee := .value x, args := args, argTypes := ats } ty; invoke d.target d.args : Sem Next) = callFunc f ((cs ++ args.map a.eval) ++ ds) := by
      show (do let d ← Deferred.ofValue (a.eval x) (args.map a.eval); invoke d.target d.args : Sem Next) = _
      rw [e]; rfl
    rw [e2]
    refine fin f _ _ ?_ h
    have : ((cs ++ args.map a.eval) ++ ds).toList = cs.toList ++ args.toList.map a.eval ++ ds.toList := by simp
    rw [this]
    exact (h1.append hv).append h2
  · exact h.elim

theorem op_sound {g s : SOp} {o : Oper} (hc : cOp P g o.op = some s) (hr : Rel gl σ w) (he : EnvR N σ w env a) {K : AV → Own → Prop} (h : opR (cx P gl) env σ s K) :
    OpOut P ((execOp a.eval o).run P w) (Sound P gl σ w K) := by
  have V : ∀ x, VR (Im σ w) w (opdAV gl env (cOpd x)) (a.eval x) := fun x => opd_vr hr he x
  unfold execOp
  generalize o.op = op at hc ⊢
  cases op <;> simp only [cOp] at hc ⊢
  case move x =>
    cases hc
    exact sound_mv (P := P) hr he x h
  case assign x =>
    cases hc
    exact sound_mv (P := P) hr he x h
  case pick c x y =>
    cases hc
    simp only [opR, ev_eq, cx, pickV] at h
    split at h
    · rename_i t ht
      have := V c
      rw [ht] at this
      rw [this.w_inv]
      simp only [asBool, Sem.run_bind, Sem.run_pure, Result.andThen_ok]
      cases t with
      | true => exact sound_mv (P := P) hr he x (by rw [ev_eq]; exact h.1 rfl)
      | false => exact sound_mv (P := P) hr he y (by rw [ev_eq]; exact h.2 rfl)
    · exact h.elim
  case alloc t =>
    split at hc
    · rename_i n z hn hz
      split at hc
      · cases hc
        simp only [opR, cx] at h
        exact out_of' (sound_alloc hz hr h)
      · cases hc
    · cases hc
  case box t x =>
    split at hc
    · cases hc
      simp only [opR, ev_eq, cx] at h
      split at h
      · rename_i hb
        exact out_of' (sound_box hr (V x) hb h)
      · exact h.elim
    · cases hc
  case build t parts =>
    split at hc
    · rename_i fs z ht hz
      split at hc
      · rename_i l hl
        split at hc
        · rename_i hfs
          cases hc
          exact out_of (sound_build_struct ht hfs hz hl hr he h)
        · cases hc
      · cases hc
    · rename_i n e z ht hz
      split at hc
      · rename_i k hk
        cases hc
        exact out_of (sound_build_array ht hk hz hr he h)
      · cases hc
    · cases hc
  case buildSlice t len parts =>
    split at hc
    · rename_i e ht
      split at hc
      · rename_i n z hn hz
        split at hc
        · rename_i hlen
          cases hc
          exact out_of' (sound_bsl ht hn hz hlen.1 hr he h)
        · cases hc
      · cases hc
    · cases hc
  case load t x =>
    split at hc
    · rename_i b n hb hn
      cases hc
      simp only [opR, ev_eq, cx] at h
      exact out_of (sound_ld hb hn hr (V x) h)
    · cases hc
  case store t x y =>
    split at hc
    · rename_i n hn
      cases hc
      simp only [opR, ev_eq, cx] at h
      obtain ⟨w', h1, h2⟩ := sound_st hn hr (V x) (V y) h
      exact out_unit h1 h2
    · cases hc
  case binOp op t x y yt =>
    split at hc
    · rename_i ht
      cases hc
      simp only [opR, ev_eq, cx] at h
      exact out_of (sound_beq (neg := false) ht hr (V x) (V y) h)
    · rename_i ht
      cases hc
      simp only [opR, ev_eq, cx] at h
      exact out_of (sound_beq (neg := true) ht hr (V x) (V y) h)
    · rename_i e ht
      split at hc
      · cases hc
        simp only [opR, ev_eq, cx] at h
        exact out_of (sound_nil (neg := false) ht hr (V x) h)
      · cases hc
    · rename_i e ht
      split at hc
      · cases hc
        simp only [opR, ev_eq, cx] at h
        exact out_of (sound_nil (neg := true) ht hr (V x) h)
      · cases hc
    · cases hc
      simp only [opR, ev_eq, cx] at h
      exact out_of (sound_bin (t' := t) hr (V x) (V y) h)
    · cases hc
      simp only [opR, ev_eq, cx] at h
      exact out_of (sound_bin (t' := t) hr (V x) (V y) h)
    · cases hc
  case unOp op t x =>
    cases hc
    simp only [opR, ev_eq, cx] at h
    exact out_of (sound_un hr (V x) h)
  case convert src dst x =>
    split at hc
    · rename_i j k hs hd
      cases hc
      simp only [opR, ev_eq, cx] at h
      exact out_of (sound_conv hs hd hr (V x) h)
    · rename_i hs hd
      cases hc
      simp only [opR, ev_eq, cx] at h
      exact out_of (sound_cstr hs hd hr (V x) h)
    · cases hc
  case makeSlice t l c =>
    split at hc
    · rename_i e ht
      split at hc
      · rename_i i hi
        split at hc
        · rename_i z hz
          cases hc
          simp only [opR, ev_eq, cx] at h
          exact out_of' (sound_mks ht hi hz hr (V l) (V c) h)
        · cases hc
      · cases hc
    · cases hc
  case slice t x lo hi mx =>
    split at hc
    · rename_i e ht
      split at hc
      · rename_i n hn
        split at hc
        · cases hc
        · rename_i hmx
          cases hc
          simp only [opR, ev_eq, cx] at h
          obtain ⟨l, hl, h⟩ := bnd_sound hr he h
          obtain ⟨k, hk, h⟩ := bnd_sound hr he h
          have h4 : (mx.map a.eval) ≠ none → (hi.map a.eval) ≠ none := by
            intro h1 h2
            cases mx with
            | none => exact h1 rfl
            | some m =>
              cases hi with
              | none => exact hmx m rfl rfl
              | some i => cases h2
          cases mx with
          | none =>
            exact out_of (slR_sound ht hn hr (V x) hl hk (.inl ⟨rfl, rfl⟩) h4 h)
          | some m =>
            simp only [cOpt] at h
            obtain ⟨j, hj, h⟩ := bnd_sound (o := some m) hr he h
            rcases hj with ⟨h1, _⟩ | ⟨kk, hj⟩
            · cases h1
            · exact out_of (slR_sound ht hn hr (V x) hl hk (.inr ⟨kk, j, hj, rfl⟩) h4 h)
      · cases hc
    · rename_i ht
      split at hc
      · cases hc
        simp only [opR, ev_eq, cx] at h
        exact out_of (sound_sls ht hr he h)
      · cases hc
    · cases hc
  case fieldAddr t x f =>
    split at hc
    · rename_i fs ht
      split at hc
      · rename_i fd hf
        split at hc
        · rename_i n hn
          cases hc
          simp only [opR, ev_eq, cx] at h
          exact out_of (sound_fa ht hf hn hr (V x) h)
        · cases hc
      · cases hc
    · cases hc
  case field t x f =>
    split at hc
    · rename_i fs ht
      split at hc
      · rename_i fd hf
        split at hc
        · rename_i b n hb hn
          cases hc
          simp only [opR, ev_eq, cx] at h
          exact out_of (sound_fld ht hf hb hn hr (V x) h)
        · cases hc
      · cases hc
    · cases hc
  case indexAddr t x i =>
    split at hc
    · rename_i e ht
      split at hc
      · rename_i n hn
        cases hc
        simp only [opR, ev_eq, cx] at h
        exact out_of (sound_ix ht hn hr (V x) (V i) h)
      · cases hc
    · rename_i l e ht
      split at hc
      · rename_i n hn
        split at hc
        · cases hc
          simp only [opR, ev_eq, cx] at h
          exact out_of (sound_ixa ht hn hr (V x) (V i) h)
        · cases hc
      · cases hc
    · cases hc
  case index t x i =>
    split at hc
    · rename_i ht
      cases hc
      simp only [opR, ev_eq, cx] at h
      exact out_of (sound_idxs ht hr (V x) (V i) h)
    · rename_i l e ht
      split at hc
      · rename_i b n hb hn
        cases hc
        simp only [opR, ev_eq, cx] at h
        exact out_of (sound_idx ht hb hn hr (V x) (V i) h)
      · cases hc
    · cases hc
  case extract t i =>
    cases hc
    simp only [opR, ev_eq, cx] at h
    exact out_of (sound_ext hr (V t) h)
  case makeFunc f first cap =>
    cases hc
    simp only [opR, evs_eq, cx, opds_eq] at h
    exact out_of (sound_mkf hr he h)
  case call c =>
    obtain ⟨callee, args, at_⟩ := c
    split at hc
    · rename_i f hf
      simp only at hf
      subst hf
      have e : (do let d ← resolve a.eval { callee := .value (.func f), args := args, argTypes := at_ } o.type; invoke d.target d.args : Sem Next) = callFunc f (args.map a.eval) := by
        show callFunc f ((#[] ++ args.map a.eval) ++ #[]) = _
        simp
      rw [e]
      split at hc
      · cases hc
        simp only [opR, evs_eq, cx, opds_eq] at h
        obtain ⟨args', v, h1, h2, h3⟩ := h.out
        exact call_sound hr he (cargs := args.map a.eval) ⟨args', σ, h1, h2.mono fun v' σ' ⟨e1, e2⟩ => by rw [e1, e2]; exact h3⟩ (by simp)
      · cases hc
        simp only [opR, evs_eq, cx, opds_eq] at h
        exact call_sound hr he h (cargs := args.map a.eval) (by simp)
    · rename_i t hf
      simp only at hf
      subst hf
      cases hc
      simp only [opR, ev_eq, evs_eq, cx, opds_eq] at h
      exact callv_sound (x := .tmp t) hr he h
    · rename_i hf
      simp only at hf
      subst hf
      split at hc
      · rename_i t x h1 h2
        have e1 := list1 h1
        have e2 := list1 h2
        simp only at e1 e2
        subst e1; subst e2
        have e : (do let d ← resolve a.eval { callee := .builtin .len, args := #[x], argTypes := #[t] } o.type; invoke d.target d.args : Sem Next) = (do pure (.value (← Builtin.len_ #[t] o.type #[a.eval x]))) := by simp [resolve, invoke, builtin]
        rw [e]
        split at hc
        · rename_i e ht
          cases hc
          simp only [opR, ev_eq, cx] at h
          exact out_of (sound_len ht hr (V x) h)
        · rename_i ht
          cases hc
          simp only [opR, ev_eq, cx] at h
          exact out_of (sound_lens ht hr (V x) h)
        · cases hc
      · cases hc
    · rename_i hf
      simp only at hf
      subst hf
      split at hc
      · rename_i t u x y h1 h2
        have e1 := list2 h1
        have e2 := list2 h2
        simp only at e1 e2
        subst e1; subst e2
        have e : (do let d ← resolve a.eval { callee := .builtin .append, args := #[x, y], argTypes := #[t, u] } o.type; invoke d.target d.args : Sem Next) = (do pure (.value (← Builtin.append_ #[t, u] o.type #[a.eval x, a.eval y]))) := by simp [resolve, invoke, builtin]
        rw [e]
        split at hc
        · rename_i el ht
          split at hc
          · rename_i i hi
            split at hc
            · rename_i z d hz hu
              split at hc
              · rename_i hzs
                cases hc
                simp only [opR, ev_eq, cx] at h
                exact out_of' (sound_app ht hi hz hzs (.inl ⟨d, hu⟩) hr (V x) (V y) h)
              · cases hc
            · rename_i z hz hu
              split at hc
              · rename_i hzs
                cases hc
                simp only [opR, ev_eq, cx] at h
                exact out_of' (sound_app ht hi hz hzs (.inr hu) hr (V x) (V y) h)
              · cases hc
            · cases hc
          · cases hc
        · cases hc
      · cases hc
    · cases hc
  all_goals cases hc

end Go.Ab
