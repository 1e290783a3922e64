import Derived.Test.YtigedaepbilokaaAb13
/-! Ways to say otherwise what is known; functions by their plain code. -/
namespace Go.Ab
set_option linter.unusedVariables false
set_option linter.unusedSimpArgs false
variable {P : Program} {gl : Nat → Option (List AV)} {N : Nat} {σ σ' : Own}

/-- fewer own blocks, else the same -/
def Del (σ σ' : Own) : Prop := ∀ b, σ' b = σ b ∨ σ' b = none ∨ ∃ ob k, σ b = some ob ∧ σ' b = some ⟨ob.xs.take k, ob.cap⟩
theorem Del.refl : Del σ σ := fun _ => .inl rfl
theorem Del.del (b : Nat) : Del σ (del σ b) := fun i => by
  unfold Go.Ab.del; split
  · exact .inr (.inl rfl)
  · exact .inl rfl
theorem Del.none (h : Del σ σ') {b : Nat} (hb : σ b = none) : σ' b = none := by
  rcases h b with h | h | ⟨ob, k, h, _⟩
  · rw [h, hb]
  · exact h
  · rw [hb] at h; cases h

/-- a value, said otherwise, while own blocks are given up -/
def Sub (gl : Nat → Option (List AV)) (σ σ' : Own) (v v' : AV) : Prop := ∀ (w : World) (cv : Value), Rel gl σ w → VR (Im σ w) w v cv → VR (Im σ' w) w v' cv

def Subs (gl : Nat → Option (List AV)) (σ σ' : Own) : List AV → List AV → Prop
  | [], [] => True
  | v :: vs, v' :: vs' => Sub gl σ σ' v v' ∧ Subs gl σ σ' vs vs'
  | _, _ => False

theorem im_del (h : Del σ σ') {w : World} : ∀ b, Im σ w b → Im σ' w b ∧ w.heap[b]? = w.heap[b]? := fun b hb => ⟨⟨hb.1, h.none hb.2⟩, rfl⟩

theorem Sub.refl (h : Del σ σ') (v : AV) : Sub gl σ σ' v v := fun w cv _ hv => hv.mono (im_del h)
theorem Subs.vrs : ∀ {vs vs' : List AV}, Subs gl σ σ' vs vs' → ∀ {w : World} {cs : List Value}, Rel gl σ w → VRs (Im σ w) w vs cs → VRs (Im σ' w) w vs' cs
  | [], [], _, w, cs, _, h => by rw [h.nil_inv]; exact .nil
  | v :: vs, v' :: vs', ⟨h1, h2⟩, w, cs, hr, h => by
    obtain ⟨c, cs', rfl, a, b⟩ := h.head
    exact .cons (h1 w c hr a) (Subs.vrs h2 hr b)
  | [], v' :: vs', h, _, _, _, _ => h.elim
  | v :: vs, [], h, _, _, _, _ => h.elim
theorem Subs.refl (h : Del σ σ') : ∀ vs : List AV, Subs gl σ σ' vs vs
  | [] => trivial
  | v :: vs => ⟨Sub.refl h v, Subs.refl h vs⟩
theorem Subs.length : ∀ {vs vs' : List AV}, Subs gl σ σ' vs vs' → vs'.length = vs.length
  | [], [], _ => rfl
  | v :: vs, v' :: vs', ⟨_, h⟩ => by simp [Subs.length h]
  | [], v' :: vs', h => h.elim
  | v :: vs, [], h => h.elim

theorem says_of (hd : Del σ σ') {vs vs' : List AV} (h : Subs gl σ σ' vs vs') : Says gl vs σ vs' σ' := by
  intro w cs hr hv
  refine ⟨⟨fun b ob hb => ?_, fun b xs hb => (hr.glo b xs hb).mono (im_del hd)⟩, fun b hb => hd.none hb, h.vrs hr hv⟩
  rcases hd b with e | e | ⟨ob', k, e1, e2⟩
  · rw [hb] at e
    obtain ⟨cs', T, h1, h2, h3, h4⟩ := hr.own b ob e.symm
    exact ⟨cs', T, h1, h2, h3, h4.mono (im_del hd)⟩
  · rw [e] at hb; cases hb
  · rw [hb] at e2
    cases e2
    obtain ⟨cs', T, h1, h2, h3, h4⟩ := hr.own b ob' e1
    refine ⟨cs', T, h1, h2, Nat.le_trans (by simp; omega) h3, ?_⟩
    have := (h4.take k).mono (im_del hd)
    rw [List.take_take] at this
    rw [List.length_take]
    exact this
theorem says_refl (vs : List AV) : Says gl vs σ vs σ := says_of .refl (.refl .refl vs)

theorem Sub.any (v : AV) : Sub gl σ σ' v .any := fun w cv _ _ => .any _
theorem Sub.nil_fs : Sub gl σ σ' (.w (.slice none 0 0)) (.fs [] 0) := fun w cv _ h => by rw [h.w_inv]; exact .fs0
theorem Sub.nil_ff : Sub gl σ σ' (.w (.slice none 0 0)) (.ff [] 0) := fun w cv _ h => by rw [h.w_inv]; exact .ff0
theorem Sub.ff_fs (hd : Del σ σ') (xs : List AV) (n : Nat) : Sub gl σ σ' (.ff xs n) (.fs xs n) := fun w cv _ h => by
  rcases h.ff_inv with ⟨ad, rfl, hA⟩ | ⟨rfl, rfl, rfl⟩
  · exact (VR.mk_fs (Nat.le_refl _) hA).mono (im_del hd)
  · exact .fs0
theorem Sub.agg {xs ys : List AV} (h : Subs gl σ σ' xs ys) : Sub gl σ σ' (.agg xs) (.agg ys) := fun w cv hr hv => by
  obtain ⟨cs, rfl, hc⟩ := hv.agg_inv; exact .mk_agg (h.vrs hr hc)
theorem Sub.tup {xs ys : List AV} (h : Subs gl σ σ' xs ys) : Sub gl σ σ' (.tup xs) (.tup ys) := fun w cv hr hv => by
  obtain ⟨cs, rfl, hc⟩ := hv.tup_inv; exact .mk_tup (h.vrs hr hc)

/-- cells of a block that is given up -/
theorem own_cells (hd : Del σ σ') {b : Nat} {ob : Ob} (hb : σ b = some ob) (hn : σ' b = none) {ys : List AV} {o k : Nat} (hk : Subs gl σ σ' ((ob.xs.drop o).take k) ys) {w : World} (hr : Rel gl σ w) : VRa (Im σ' w) w ys ⟨b, o, none⟩ := by
  obtain ⟨cs, T, h1, h2, h3, h4⟩ := hr.own b ob hb
  have hv := hk.vrs hr ((h4.drop o).take k)
  intro i hi
  have hl := hk.length
  have hi' : i < ((ob.xs.drop o).take k).length := by omega
  simp at hi'
  have hc : o + i < cs.size := by omega
  refine ⟨⟨hr.lt hb, hn⟩, cs[o + i], ?_, ?_⟩
  · rw [add_lit]; unfold World.cell?; rw [h1]; simp [hc]
  · have := hv.2 i hi
    have e : (((cs.toList.take ob.xs.length).drop o).take k).getD i undef = cs[o + i] := by
      rw [List.getD_eq_getElem?_getD, List.getElem?_take, if_pos (by omega), List.getElem?_drop, List.getElem?_take, if_pos (by omega)]
      simp [hc]
    rw [e] at this; exact this
theorem Sub.own_fs (hd : Del σ σ') {b : Nat} {ob : Ob} (hb : σ b = some ob) (hn : σ' b = none) {ys : List AV} {o n c k : Nat} (hk : Subs gl σ σ' ((ob.xs.drop o).take k) ys) (hc : n ≤ c) :
    Sub gl σ σ' (.w (.slice (some ⟨b, o, none⟩) n c)) (.fs ys n) := fun w cv hr hv => by
  rw [hv.w_inv]; exact .mk_fs hc (own_cells hd hb hn hk hr)
theorem Sub.own_ff (hd : Del σ σ') {b : Nat} {ob : Ob} (hb : σ b = some ob) (hn : σ' b = none) {ys : List AV} {o n k : Nat} (hk : Subs gl σ σ' ((ob.xs.drop o).take k) ys) :
    Sub gl σ σ' (.w (.slice (some ⟨b, o, none⟩) n n)) (.ff ys n) := fun w cv hr hv => by
  rw [hv.w_inv]; exact .mk_ff (own_cells hd hb hn hk hr)
theorem Sub.own_fp (hd : Del σ σ') {b : Nat} {ob : Ob} (hb : σ b = some ob) (hn : σ' b = none) {ys : List AV} {o k : Nat} (hk : Subs gl σ σ' ((ob.xs.drop o).take k) ys) :
    Sub gl σ σ' (.w (.pointer (some ⟨b, o, none⟩))) (.fp ys) := fun w cv hr hv => by
  rw [hv.w_inv]; exact .mk_fp (own_cells hd hb hn hk hr)

/-- A function and its plain code. -/
structure Codes (P : Program) (f : FuncId) (S : SC) (n : Nat) (rs : List Nat) : Prop where
  out : ∃ fn c, P.funcs[f]? = some fn ∧ fn.body = some c ∧ (fn.name == "runtime.NumGoroutine") = false ∧ fn.results.toList = rs.map .tmp ∧ fn.ntmps = n ∧ cCode P n S c = some S

theorem Codes.calls {f : FuncId} {S : SC} {n : Nat} {rs : List Nat} (h : Codes P f S n rs) (hm : P.follows .mixedOrders = true) {args : List AV} {R : AV → Own → Prop}
    (hv : vc (cx P gl) S (retQ (Says gl) rs R) (argEnv 0 args) σ) (ha : Nat.ble args.length n = true := by rfl) : ACalls P gl f args σ R := by
  obtain ⟨fn, c, h1, h2, h3, h4, h5, h6⟩ := h.out
  subst h5
  exact acalls hm h1 h2 h3 h4 h6 (Nat.le_of_ble_eq_true ha) hv

theorem Ret.here {v : AV} {R : AV → Own → Prop} (h : R v σ) : Ret (Says gl) v σ R := ⟨v, σ, says_refl _, h⟩
theorem Ret.sub {v v' : AV} {R : AV → Own → Prop} (hd : Del σ σ') (hs : Sub gl σ σ' v v') (h : R v' σ') : Ret (Says gl) v σ R := ⟨v', σ', says_of hd ⟨hs, trivial⟩, h⟩
def memN : Nat → List Nat → Bool
  | _, [] => false
  | x, y :: r => match Nat.beq x y with | true => true | false => memN x r
def nodupN : List Nat → Bool
  | [] => true
  | x :: r => match memN x r with | true => false | false => nodupN r
theorem memN_mem : ∀ {x : Nat} {l : List Nat}, memN x l = false → x ∉ l
  | x, [], _, h => by simp at h
  | x, y :: r, hm, h => by
    simp only [memN] at hm
    split at hm
    · cases hm
    · rename_i hb
      rcases List.mem_cons.1 h with e | h
      · subst e; simp at hb
      · exact memN_mem hm h
theorem nodupN_nodup : ∀ {l : List Nat}, nodupN l = true → l.Nodup
  | [], _ => .nil
  | x :: r, h => by
    simp only [nodupN] at h
    split at h
    · cases h
    · rename_i hb
      exact List.nodup_cons.2 ⟨memN_mem hb, nodupN_nodup h⟩
theorem Wk.here {env : Env} {J : Env → Own → Prop} (h : J env σ) (hn : nodupN (env.map (·.1)) = true := by rfl) : Wk (Says gl) env σ J := ⟨env, σ, rfl, nodupN_nodup hn, says_refl _, h⟩
/-- values said otherwise, slot by slot -/
theorem Wk.sub {env env' : Env} {J : Env → Own → Prop} (hd : Del σ σ') (hs : Subs gl σ σ' (env.map (·.2)) (env'.map (·.2))) (h : J env' σ') (hi : env'.map (·.1) = env.map (·.1) := by rfl) (hn : nodupN (env.map (·.1)) = true := by rfl) : Wk (Says gl) env σ J :=
  ⟨env', σ', hi, nodupN_nodup hn, says_of hd hs, h⟩
theorem CallVC.here {f : FuncId} {args : List AV} {R K : AV → Own → Prop} (h : ACalls P gl f args σ R) (k : ∀ v σ', R v σ' → K v σ') : CallVC (ACalls P gl) (Says gl) f args σ K := ⟨args, σ, says_refl _, h.mono k⟩
theorem CallVC.sub {f : FuncId} {args args' : List AV} {R K : AV → Own → Prop} (hd : Del σ σ') (hs : Subs gl σ σ' args args') (h : ACalls P gl f args' σ' R) (k : ∀ v σ', R v σ' → K v σ') : CallVC (ACalls P gl) (Says gl) f args σ K := ⟨args', σ', says_of hd hs, h.mono k⟩
theorem CallQ.here {f : FuncId} {args : List AV} {v : AV} {K : AV → Prop} (h : ACalls P gl f args σ fun v' σ' => v' = v ∧ σ' = σ) (k : K v) : CallQ (ACalls P gl) (Says gl) f args σ K := ⟨args, v, says_refl _, h, k⟩
theorem CallQ.sub {f : FuncId} {args args' : List AV} {v : AV} {K : AV → Prop} (hs : Subs gl σ σ args args') (h : ACalls P gl f args' σ fun v' σ' => v' = v ∧ σ' = σ) (k : K v) : CallQ (ACalls P gl) (Says gl) f args σ K := ⟨args', v, says_of .refl hs, h, k⟩

end Go.Ab
