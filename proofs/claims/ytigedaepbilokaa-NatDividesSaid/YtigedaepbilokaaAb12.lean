import Derived.Test.YtigedaepbilokaaAb11
import Derived.Eval
/-! From the model's code to the plain machine's; what the plain machine says holds of the model. -/
namespace Go.Ab
set_option linter.unusedVariables false
set_option linter.unusedSimpArgs false

def cGuard (ops : Array Oper) : Option (Nat × Bool) → Option (Option (Nat × Bool))
  | none => some none
  | some (j, b) => match (ops[j]?).bind (·.dst) with
    | some t => some (some (t, b))
    | none => none
def dOk (N : Nat) : Option Nat → Bool
  | none => true
  | some d => Nat.blt d N

def cSI (P : Program) (N : Nat) (ops : Array Oper) (o : Oper) (g : SI) : Option SI :=
  match dOk N o.dst with
  | false => none
  | true => match cOp P g.op o.op, cGuard ops o.guard with
    | some s, some gd => some ⟨o.dst, s, gd⟩
    | _, _ => none

def cOps (P : Program) (N : Nat) (ops : Array Oper) : List Oper → List SI → Option (List SI)
  | [], [] => some []
  | o :: os, g :: gs => match cSI P N ops o g with
    | some s => match cOps P N ops os gs with
      | some l => some (s :: l)
      | none => none
    | none => none
  | _, _ => none

/-- the order in which the plain machine takes them: each behind those that must come first; each two of which one may go ahead of the other one may do so -/
def permOk (ops : Array Oper) : List Nat → List SI → List Nat → Bool
  | [], [], _ => true
  | p :: ps, i :: is, done => match ops[p]? with
    | some o => o.after.all (fun e => !Region.binds .any e || done.contains e.on) && !done.contains p && permOk ops ps is (p :: done)
    | none => false
  | _, _, _ => false
/-- of each operation those that must come before it, as bits -/
def maskOf (acc : List Nat) (o : Oper) : Nat := o.after.toList.foldl (fun s e => if Region.binds .any e then s ||| 2 ^ e.on ||| acc.getD e.on 0 else s) 0
def clo : List Oper → List Nat → List Nat
  | [], acc => acc
  | o :: os, acc => clo os (acc ++ [maskOf acc o])
def commOk (ms : List Nat) : List Nat → List SI → Bool
  | [], [] => true
  | p :: ps, i :: is => ((ps.zip is).all fun q => (ms.getD q.1 0).testBit p || comm i q.2) && commOk ms ps is
  | _, _ => false

def cCode (P : Program) (N : Nat) : SC → Code → Option SC
  | .seq .says g, c => match cCode P N g c with
    | some s => some (.seq .says s)
    | none => none
  | .skip, .skip => some .skip
  | .region gs keep, .skip => match gs with
    | [] => some (.region [] keep)
    | _ :: _ => none
  | .region gs keep, .region _ ops draw => match draw with
    | true => none
    | false => match cOps P N ops ops.toList gs with
      | some l => some (.region l keep)
      | none => none
  | .drawn perm gs keep, .region _ ops draw => match draw with
    | false => none
    | true => match cOps P N ops (perm.map fun p => ops.getD p default) gs with
      | some l => if perm.length = ops.size ∧ permOk ops perm l [] = true ∧ commOk (clo ops.toList []) perm l = true ∧ (List.range ops.size).all (fun x => perm.contains x) = true then some (.drawn perm l keep) else none
      | none => none
  | .seq g h, .seq a b => match cCode P N g a with
    | some s => match cCode P N h b with
      | some t => some (.seq s t)
      | none => none
    | none => none
  | .cond _ g h, .cond c a b => match cCode P N g a with
    | some s => match cCode P N h b with
      | some t => some (.cond (cOpd c) s t)
      | none => none
    | none => none
  | .block _ keep g, .block id a => match cCode P N g a with
    | some s => some (.block id keep s)
    | none => none
  | .loop keep g, .loop a => match cCode P N g a with
    | some s => some (.loop keep s)
    | none => none
  | .exit _, .exit id => some (.exit id)
  | .ret, .ret => some .ret
  | .dead, c => match c with
    | .region _ _ _ => some .dead
    | _ => none
  | _, _ => none

variable {P : Program} {gl : Nat → Option (List AV)} {N : Nat}

/-- The world of a walk: where it began, what stands now. -/
structure At (gl : Nat → Option (List AV)) (N : Nat) (σ0 : Own) (w0 : World) (env : Env) (σ : Own) (a : Act) (w : World) : Prop where
  rel : Rel gl σ w
  env : EnvR N σ w env a
  stays : Stays σ0 w0 σ w

def Post (gl : Nat → Option (List AV)) (N : Nat) (σ0 : Own) (w0 : World) (J : Env → Own → Prop) (a : Act) (w : World) : Prop := ∃ env σ, J env σ ∧ At gl N σ0 w0 env σ a w

theorem yielded_of {ops : Array Oper} {a : Act} {j t : Nat} {b : Bool} (hj : (ops[j]?).bind (·.dst) = some t) (h : a.tmps.getD t undef = .bool b) : yielded ops a.tmps j = some b := by
  unfold yielded
  rw [hj]
  have : a.tmps[t]? = some (.bool b) := by
    rw [Array.getD_eq_getD_getElem?] at h
    cases hx : a.tmps[t]? with
    | none => rw [hx] at h; simp [undef] at h
    | some v => rw [hx] at h; simpa using h
  simp [this]

theorem out_wp {o : Oper} {a : Act} {w : World} {J : Value → World → Prop} {K : Act → World → Prop} {Q : Exit → Act → World → Prop} (h : OpOut P ((execOp a.eval o).run P w) J) (k : ∀ v w', J v w' → K (a.put o.dst v) w') : o.wp P a w K Q := by
  unfold Oper.wp
  unfold OpOut at h
  split at h
  · rename_i r v w' heq; rw [heq]; exact k _ _ h
  · rename_i r w' heq; rw [heq]; exact k _ _ h
  · rename_i r f args w' heq; rw [heq]
    exact Calls.mono h fun e w'' ⟨v, h1, h2⟩ => by subst h1; exact k _ _ h2
  · rename_i r row args w' heq; rw [heq]
    exact Rows.mono h fun v w'' q => k _ _ q
  · exact h.elim

/-- one operation with its guard -/
theorem si_sound {ops : Array Oper} {o : Oper} {g s : SI} (hc : cSI P N ops o g = some s) {σ0 : Own} {w0 : World} {env : Env} {σ : Own} {a : Act} {w : World} (hat : At gl N σ0 w0 env σ a w) {J : Env → Own → Prop} (h : stepR (cx P gl) s J env σ)
    {K : Act → World → Prop} {Q : Exit → Act → World → Prop} (k : ∀ a w, Post gl N σ0 w0 J a w → K a w) :
    if Region.wanted o (yielded ops a.tmps) then o.wp P a w K Q else K (a.put o.dst undef) w := by
  unfold cSI at hc
  split at hc
  · cases hc
  · rename_i hd
    split at hc
    · rename_i sop gd h1 h2
      cases hc
      have put : ∀ {v : AV} {cv : Value} {σ' : Own} {w' : World}, Rel gl σ' w' → Stays σ w σ' w' → VR (Im σ' w') w' v cv → At gl N σ0 w0 (putO env o.dst v) σ' (a.put o.dst cv) w' := by
        intro v cv σ' w' r1 r2 r3
        refine ⟨r1, ?_, hat.stays.trans r2⟩
        have he := hat.env.stay r2
        cases hdst : o.dst with
        | none => exact he
        | some d =>
          rw [hdst] at hd
          have hd' : d < N := by
            exact Nat.le_of_ble_eq_true hd
          exact he.put hd' r3
      have run : ∀ {J' : AV → Own → Prop}, opR (cx P gl) env σ sop J' → (∀ v σ', J' v σ' → J (putO env o.dst v) σ') → o.wp P a w K Q := by
        intro J' hJ hm
        refine out_wp (op_sound h1 hat.rel hat.env hJ) (fun cv w' ⟨v, σ', k1, k2, k3, k4⟩ => k _ _ ⟨_, σ', hm _ _ k1, put k2 k3 k4⟩)
      unfold stepR at h
      cases hg : o.guard with
      | none =>
        rw [hg] at h2
        cases h2
        simp only at h
        rw [if_pos (by simp [Region.wanted, hg])]
        exact run h (fun v σ' q => q)
      | some gp =>
        obtain ⟨j, want⟩ := gp
        rw [hg] at h2
        simp only [cGuard] at h2
        split at h2
        · rename_i t ht
          cases h2
          simp only at h
          obtain ⟨b, hb⟩ := bool_of h
          rw [hb] at h
          have hv := hat.env.val t
          rw [hb] at hv
          have hy := yielded_of ht hv.w_inv
          by_cases hw : b = want
          · rw [if_pos (by simp [Region.wanted, hg, hy, hw])]
            exact run (h.1 hw) (fun v σ' q => q)
          · rw [if_neg (by simp [Region.wanted, hg, hy, hw])]
            have hw' : b = !want := by cases b <;> cases want <;> simp_all
            exact k _ _ ⟨_, σ, h.2 hw', put hat.rel (.refl _ _) (.any _)⟩
        · cases h2
    · cases hc

theorem cOps_cons {ops : Array Oper} {o : Oper} {os : List Oper} {gs l : List SI} (h : cOps P N ops (o :: os) gs = some l) : ∃ g gs' s l', gs = g :: gs' ∧ l = s :: l' ∧ cSI P N ops o g = some s ∧ cOps P N ops os gs' = some l' := by
  cases gs with
  | nil => simp [cOps] at h
  | cons g gs' =>
    simp only [cOps] at h
    split at h
    · rename_i s hs
      split at h
      · rename_i l' hl
        cases h
        exact ⟨g, gs', s, l', rfl, rfl, hs, hl⟩
      · cases h
    · cases h

theorem ops_sound {ops : Array Oper} {σ0 : Own} {w0 : World} {J : Env → Own → Prop} {Q : Exit → Act → World → Prop} (hq : ∀ a w, Post gl N σ0 w0 J a w → Q .normal a w) : ∀ (os : List Oper) (gs l : List SI), cOps P N ops os gs = some l →
    ∀ (env : Env) (σ : Own) (a : Act) (w : World), At gl N σ0 w0 env σ a w → opsR (cx P gl) l J env σ → wpList P ops Q os a w
  | [], gs, l, hc, env, σ, a, w, hat, h => by
    cases gs with
    | nil =>
      simp only [cOps] at hc
      cases hc
      exact hq a w ⟨env, σ, h, hat⟩
    | cons g gs => simp [cOps] at hc
  | o :: os, gs, l, hc, env, σ, a, w, hat, h => by
    obtain ⟨g, gs', s, l', rfl, rfl, h1, h2⟩ := cOps_cons hc
    rw [opsR_cons] at h
    exact wpList_step fun K hK => si_sound h1 hat h fun a w ⟨env, σ, hj, hat'⟩ => hK a w (ops_sound hq os gs' l' h2 env σ a w hat' hj)

/-- one operation must come before another one -/
inductive Path (ops : Array Oper) (x : Nat) : Nat → Prop
  | one {i : Nat} {o : Oper} {e : Edge} (ho : ops[i]? = some o) (he : e ∈ o.after) (hb : Region.binds .any e = true) (hx : e.on = x) : Path ops x i
  | step {i : Nat} {o : Oper} {e : Edge} (ho : ops[i]? = some o) (he : e ∈ o.after) (hb : Region.binds .any e = true) (h : Path ops x e.on) : Path ops x i

/-- all that must come before i is done -/
def Behind (ops : Array Oper) (done : List Nat) (i : Nat) : Prop := ∀ o, ops[i]? = some o → ∀ e ∈ o.after, Region.binds .any e = true → e.on ∈ done

theorem Path.done {ops : Array Oper} {done : List Nat} {x i : Nat} (h : Path ops x i) (hd : ∀ p ∈ done, Behind ops done p) (hi : Behind ops done i) : x ∈ done := by
  induction h with
  | one ho he hb hx => rw [← hx]; exact hi _ ho _ he hb
  | step ho he hb h ih => exact ih (hd _ (hi _ ho _ he hb))

theorem mask_bit {acc : List Nat} {x : Nat} : ∀ {l : List Edge} {s : Nat}, (l.foldl (fun s e => if Region.binds .any e then s ||| 2 ^ e.on ||| acc.getD e.on 0 else s) s).testBit x = true →
    s.testBit x = true ∨ ∃ e ∈ l, Region.binds .any e = true ∧ (e.on = x ∨ (acc.getD e.on 0).testBit x = true)
  | [], s, h => .inl h
  | e :: l, s, h => by
    rw [List.foldl_cons] at h
    rcases mask_bit h with h | ⟨e', he', h1, h2⟩
    · split at h
      · rename_i hb
        rw [Nat.testBit_or, Nat.testBit_or, Bool.or_eq_true, Bool.or_eq_true, Nat.testBit_two_pow] at h
        rcases h with (h | h) | h
        · exact .inl h
        · exact .inr ⟨e, by simp, hb, .inl (by simpa using h)⟩
        · exact .inr ⟨e, by simp, hb, .inr h⟩
      · exact .inl h
    · exact .inr ⟨e', by simp [he'], h1, h2⟩

theorem clo_path {ops : Array Oper} : ∀ (os : List Oper) (acc : List Nat), (∀ j o, os[j]? = some o → ops[acc.length + j]? = some o) → (∀ i x, (acc.getD i 0).testBit x = true → Path ops x i) →
    ∀ i x, ((clo os acc).getD i 0).testBit x = true → Path ops x i
  | [], acc, _, h => h
  | o :: os, acc, ho, h => by
    refine clo_path os (acc ++ [maskOf acc o]) (fun j o' hj => ?_) (fun i x hx => ?_)
    · have := ho (j + 1) o' (by simpa using hj)
      rw [List.length_append, List.length_singleton]
      rw [← this]; congr 1; omega
    · by_cases hi : i < acc.length
      · refine h i x ?_
        simpa [List.getD_eq_getElem?_getD, List.getElem?_append_left hi] using hx
      · by_cases hi2 : i = acc.length
        · subst hi2
          have hx' : (maskOf acc o).testBit x = true := by
            simpa [List.getD_eq_getElem?_getD, List.getElem?_append_right (Nat.le_refl _)] using hx
          have hoo : ops[acc.length]? = some o := by simpa using ho 0 o rfl
          rcases mask_bit hx' with h0 | ⟨e, he, hb, h1⟩
          · simp at h0
          · rcases h1 with h1 | h1
            · exact .one hoo (by simpa using he) hb h1
            · exact .step hoo (by simpa using he) hb (h _ _ h1)
        · exfalso
          rw [List.getD_eq_getElem?_getD, List.getElem?_eq_none (by simp; omega)] at hx
          simp at hx

/-- what is left to do, in the plain machine's order, and what is done -/
def Left (P : Program) (N : Nat) (ops : Array Oper) : List Nat → List (Nat × SI) → Prop
  | _, [] => True
  | done, q :: r => (∃ o g, ops[q.1]? = some o ∧ cSI P N ops o g = some q.2 ∧ ∀ e ∈ o.after, Region.binds .any e = true → e.on ∈ done) ∧ q.1 ∉ done ∧
      (∀ q' ∈ r, Path ops q.1 q'.1 ∨ comm q.2 q'.2 = true) ∧ Left P N ops (q.1 :: done) r

theorem Left.same {ops : Array Oper} : ∀ {r : List (Nat × SI)} {d d' : List Nat}, (∀ x, x ∈ d ↔ x ∈ d') → Left P N ops d r → Left P N ops d' r
  | [], _, _, _, _ => trivial
  | q :: r, d, d', hd, ⟨⟨o, g, h1, h2, h3⟩, h4, h5, h6⟩ =>
    ⟨⟨o, g, h1, h2, fun e he hb => (hd _).1 (h3 e he hb)⟩, fun h => h4 ((hd _).2 h), h5, Left.same (fun x => by simp only [List.mem_cons, hd x]) h6⟩

theorem Left.mem {ops : Array Oper} : ∀ {r1 r2 : List (Nat × SI)} {q : Nat × SI} {d : List Nat}, Left P N ops d (r1 ++ q :: r2) →
    q.1 ∉ d ∧ (∃ o g, ops[q.1]? = some o ∧ cSI P N ops o g = some q.2) ∧ (∀ x ∈ r1, x.1 ∉ d ∧ x.1 ≠ q.1 ∧ (Path ops x.1 q.1 ∨ comm x.2 q.2 = true)) ∧ Left P N ops (q.1 :: d) (r1 ++ r2)
  | [], r2, q, d, ⟨⟨o, g, h1, h2, h3⟩, h4, h5, h6⟩ => ⟨h4, ⟨o, g, h1, h2⟩, fun x hx => by simp at hx, h6⟩
  | x :: r1, r2, q, d, ⟨⟨o, g, h1, h2, h3⟩, h4, h5, h6⟩ => by
    obtain ⟨k1, k2, k3, k4⟩ := Left.mem h6
    have hne : x.1 ≠ q.1 := fun e => k1 (by simp [e])
    refine ⟨fun h => k1 (by simp [h]), k2, fun y hy => ?_, ⟨⟨o, g, h1, h2, fun e he hb => by simp [h3 e he hb]⟩, ?_, fun q' hq' => h5 q' ?_, ?_⟩⟩
    · rcases List.mem_cons.1 hy with rfl | hy
      · exact ⟨h4, hne, h5 q (by simp)⟩
      · obtain ⟨a, b, c⟩ := k3 y hy
        exact ⟨fun h => a (by simp [h]), b, c⟩
    · intro h
      rcases List.mem_cons.1 h with h | h
      · exact hne h
      · exact h4 h
    · rcases List.mem_append.1 hq' with h | h
      · exact List.mem_append.2 (.inl h)
      · exact List.mem_append.2 (.inr (List.mem_cons_of_mem _ h))
    · refine Left.same (fun z => ?_) k4
      simp only [List.mem_cons]
      exact ⟨fun h => h.elim (fun h => .inr (.inl h)) (fun h => h.elim .inl (fun h => .inr (.inr h))), fun h => h.elim (fun h => .inr (.inl h)) (fun h => h.elim .inl (fun h => .inr (.inr h)))⟩

theorem drawn_any {ops : Array Oper} {σ0 : Own} {w0 : World} {J : Env → Own → Prop} (hJ : Ext J) {Q : Exit → Act → World → Prop} (hq : ∀ a w, Post gl N σ0 w0 J a w → Q .normal a w) : ∀ (n : Nat) (r : List (Nat × SI)) (done : List Nat) (listed : Array Bool),
    r.length = n → Left P N ops done r → (∀ x, x < ops.size → (listed.getD x true = true ↔ x ∈ done)) → listed.size = ops.size → (∀ x ∈ done, x < ops.size ∧ Behind ops done x) → (∀ x, x < ops.size → x ∈ done ∨ x ∈ r.map (·.1)) →
    ∀ (env : Env) (σ : Own) (a : Act) (w : World), At gl N σ0 w0 env σ a w → opsR (cx P gl) (r.map (·.2)) J env σ → wpAny P .any ops Q n listed a w := by
  intro n
  induction n with
  | zero =>
    intro r done listed hn hL hl hs hdl hall env σ a w hat h
    have hr : r = [] := by simpa using hn
    subst hr
    refine ⟨?_, hq a w ⟨env, σ, h, hat⟩⟩
    unfold Region.ready
    rw [List.filter_eq_nil_iff]
    intro i hi
    have hi' : i < ops.size := by simpa using hi
    have := (hl i hi').2 (by simpa using hall i hi')
    simp [this]
  | succ n ih =>
    intro r done listed hn hL hl hs hdl hall env σ a w hat h
    have gd : ∀ x, x < ops.size → listed.getD x true = listed.getD x false := by
      intro x hx
      have : x < listed.size := by omega
      simp [Array.getD_eq_getD_getElem?, this]
    refine ⟨fun hnil => ?_, fun i hi => ?_⟩
    · exfalso
      cases r with
      | nil => simp at hn
      | cons q r =>
        obtain ⟨⟨o, g, h1, h2, h3⟩, h4, _, _⟩ := hL
        have hlt : q.1 < ops.size := (Array.getElem?_eq_some_iff.1 h1).1
        unfold Region.ready at hnil
        rw [List.filter_eq_nil_iff] at hnil
        refine hnil q.1 (by simpa using hlt) ?_
        have hf : listed.getD q.1 true = false := by
          cases hb : listed.getD q.1 true with
          | false => rfl
          | true => exact absurd ((hl _ hlt).1 hb) h4
        simp only [hf, Bool.not_false, h1, Option.map_some, Option.getD_some, Bool.true_and]
        rw [Array.all_eq_true']
        intro e he
        cases hbd : Region.binds .any e with
        | false => rfl
        | true =>
          have hin := h3 e he hbd
          -- what is done stands in the list of what is done
          have hlt2 := (hdl _ hin).1
          rw [← gd _ hlt2, (hl _ hlt2).2 hin]; rfl
    · unfold Region.ready at hi
      rw [List.mem_filter] at hi
      obtain ⟨hi1, hi2⟩ := hi
      have hlt : i < ops.size := by simpa using hi1
      simp only [Bool.and_eq_true, Bool.not_eq_true'] at hi2
      have hnd : i ∉ done := fun hd => by rw [(hl i hlt).2 hd] at hi2; exact absurd hi2.1 (by simp)
      have hmem : i ∈ r.map (·.1) := (hall i hlt).resolve_left hnd
      obtain ⟨q, hq', rfl⟩ := List.mem_map.1 hmem
      obtain ⟨r1, r2, rfl⟩ := List.append_of_mem hq'
      obtain ⟨k1, ⟨o, g, ho, hc⟩, k3, k4⟩ := Left.mem hL
      have hbi : Behind ops done q.1 := by
        intro o' ho' e he hb
        rw [ho'] at hi2
        have := hi2.2
        simp only [Option.map_some, Option.getD_some] at this
        rw [Array.all_eq_true'] at this
        have := this e he
        rw [hb] at this
        simp only [Bool.not_true, Bool.false_or] at this
        have hylt : e.on < ops.size := by
          by_cases hlt3 : e.on < listed.size
          · omega
          · simp [Array.getD_eq_getD_getElem?, Array.getElem?_eq_none (Nat.le_of_not_lt hlt3)] at this
        rw [← gd _ hylt] at this
        exact (hl _ hylt).1 this
      have hcomm : ∀ x ∈ r1.map (·.2), comm x q.2 = true := by
        intro x hx
        obtain ⟨y, hy, rfl⟩ := List.mem_map.1 hx
        obtain ⟨a1, a2, a3⟩ := k3 y hy
        rcases a3 with hp | a3
        · exact absurd (hp.done (fun p hp => (hdl p hp).2) hbi) a1
        · exact a3
      rw [List.map_append, List.map_cons] at h
      have h' := ahead hJ hcomm h
      have key := si_sound hc hat h' (K := wpAny P .any ops Q n (listed.setIfInBounds q.1 true)) (Q := Q) (fun a w ⟨env, σ, hj, hat'⟩ => by
        refine ih (r1 ++ r2) (q.1 :: done) _ (by simp at hn ⊢; omega) k4 ?_ (by simp [hs]) (fun x hx => (List.mem_cons.1 hx).elim (fun e => by subst e; exact ⟨hlt, fun o ho e he hb => List.mem_cons_of_mem _ (hbi o ho e he hb)⟩) (fun hx => ⟨(hdl x hx).1, fun o ho e he hb => List.mem_cons_of_mem _ ((hdl x hx).2 o ho e he hb)⟩)) ?_ env σ a w hat' (by rw [List.map_append]; exact hj)
        · intro x hx
          by_cases e : x = q.1
          · subst e
            have : q.1 < listed.size := by omega
            simp [Array.getD_eq_getD_getElem?, this]
          · have : (listed.setIfInBounds q.1 true).getD x true = listed.getD x true := by
              simp [Array.getD_eq_getD_getElem?, Array.getElem?_setIfInBounds, Ne.symm e]
            rw [this, hl x hx]
            simp [e]
        · intro x hx
          rcases hall x hx with h | h
          · exact .inl (by simp [h])
          · simp only [List.map_append, List.map_cons, List.mem_append, List.mem_cons] at h ⊢
            rcases h with h | h | h
            · exact .inr (.inl h)
            · exact .inl (.inl h)
            · exact .inr (.inr h))
      unfold wpOp
      rw [ho]
      simp only
      split
      · rename_i hw; rw [if_pos hw] at key; exact .inl key
      · rename_i hw; rw [if_neg hw] at key; exact key

theorem cOps_zip {ops : Array Oper} : ∀ {os : List Oper} {gs l : List SI}, cOps P N ops os gs = some l → l.length = os.length ∧ ∀ (i : Nat) (o : Oper) (s : SI), os[i]? = some o → l[i]? = some s → ∃ g, cSI P N ops o g = some s
  | [], gs, l, h => by
    cases gs with
    | nil => simp only [cOps] at h; cases h; exact ⟨rfl, fun i o s h => by simp at h⟩
    | cons g gs => simp [cOps] at h
  | o :: os, gs, l, h => by
    obtain ⟨g, gs', s, l', rfl, rfl, h1, h2⟩ := cOps_cons h
    obtain ⟨k1, k2⟩ := cOps_zip h2
    refine ⟨by simp [k1], fun i o' s' ho hs => ?_⟩
    cases i with
    | zero =>
      have e1 : o = o' := by simpa using ho
      have e2 : s = s' := by simpa using hs
      subst e1; subst e2; exact ⟨g, h1⟩
    | succ i => exact k2 i o' s' (by simpa using ho) (by simpa using hs)

theorem left_of {ops : Array Oper} : ∀ (perm : List Nat) (l : List SI) (done : List Nat), perm.length = l.length → (∀ (i p : Nat) (s : SI), perm[i]? = some p → l[i]? = some s → ∃ o g, ops[p]? = some o ∧ cSI P N ops o g = some s) →
    permOk ops perm l done = true → commOk (clo ops.toList []) perm l = true → Left P N ops done (perm.zip l)
  | [], l, done, hl, _, _, _ => by simp [Left]
  | p :: ps, [], done, hl, _, _, _ => by simp at hl
  | p :: ps, s :: l, done, hl, hc, h1, h2 => by
    obtain ⟨o, g, ho, hg⟩ := hc 0 p s rfl rfl
    simp only [permOk, ho, Bool.and_eq_true, Bool.not_eq_true'] at h1
    obtain ⟨⟨h3, h4⟩, h5⟩ := h1
    simp only [commOk, Bool.and_eq_true] at h2
    obtain ⟨h6, h7⟩ := h2
    refine ⟨⟨o, g, ho, hg, fun e he hb => ?_⟩, fun hin => ?_, fun q' hq' => ?_, left_of ps l (p :: done) (by simpa using hl) (fun i p' s' a b => hc (i + 1) p' s' (by simpa using a) (by simpa using b)) h5 h7⟩
    · rw [Array.all_eq_true'] at h3
      have := h3 e he
      rw [hb] at this
      simpa using this
    · simp only at hin
      simp [hin] at h4
    · rw [List.all_eq_true] at h6
      have := h6 q' hq'
      rw [Bool.or_eq_true] at this
      exact this.imp (fun h => clo_path ops.toList [] (fun j o hj => by simpa using hj) (fun i x hx => by simp at hx) _ _ h) id

theorem At.drew {σ0 : Own} {w0 : World} {env : Env} {σ : Own} {a : Act} {w : World} (h : At gl N σ0 w0 env σ a w) (n : Nat) : At gl N σ0 w0 env σ a { w with drawn := n } :=
  ⟨h.rel.stay (Stays.drew σ w n) fun _ _ _ => rfl, h.env.stay (Stays.drew σ w n), h.stays.trans (Stays.drew σ w n)⟩

theorem drawn_sound (hm : P.follows .mixedOrders = true) {id : Nat} {ops : Array Oper} {perm : List Nat} {gs l : List SI} (hc : cOps P N ops (perm.map fun p => ops.getD p default) gs = some l) (hlen : perm.length = ops.size) (h1 : permOk ops perm l [] = true) (h2 : commOk (clo ops.toList []) perm l = true)
    (h3 : (List.range ops.size).all (fun x => perm.contains x) = true) {σ0 : Own} {w0 : World} {J : Env → Own → Prop} (hJ : Ext J) {Q : Exit → Act → World → Prop} (hq : ∀ a w, Post gl N σ0 w0 J a w → Q .normal a w)
    {env : Env} {σ : Own} {a : Act} {w : World} (hat : At gl N σ0 w0 env σ a w) (h : opsR (cx P gl) l J env σ) : (Code.region id ops true).wp P Q a w := by
  obtain ⟨k1, k2⟩ := cOps_zip hc
  have k1' : perm.length = l.length := by simpa using k1.symm
  have hperm : ∀ (ps : List Nat) (is : List SI) (d : List Nat), permOk ops ps is d = true → ∀ p ∈ ps, p < ops.size := by
    intro ps
    induction ps with
    | nil => intro is d _ p hp; simp at hp
    | cons x ps ih =>
      intro is d hh p hp
      cases is with
      | nil => simp [permOk] at hh
      | cons i is =>
        simp only [permOk] at hh
        split at hh
        · rename_i o ho
          rw [Bool.and_eq_true] at hh
          rcases List.mem_cons.1 hp with rfl | hp
          · exact (Array.getElem?_eq_some_iff.1 ho).1
          · exact ih is _ hh.2 p hp
        · cases hh
  have hL : Left P N ops [] (perm.zip l) := by
    refine left_of perm l [] k1' (fun i p s hp hs => ?_) h1 h2
    have hlt := hperm perm l [] h1 p (List.mem_of_getElem? hp)
    have ho : ops[p]? = some (ops.getD p default) := by simp [Array.getD_eq_getD_getElem?, hlt]
    obtain ⟨g, hg⟩ := k2 i (ops.getD p default) s (by rw [List.getElem?_map, hp]; rfl) hs
    exact ⟨_, g, ho, hg⟩
  have e1 : (perm.zip l).map (·.2) = l := by rw [List.map_snd_zip]; omega
  have e2 : (perm.zip l).map (·.1) = perm := by rw [List.map_fst_zip]; omega
  refine wp_region_any hm ?_
  refine drawn_any hJ hq ops.size (perm.zip l) [] _ (by simp; omega) hL (fun x hx => by simp [Array.getD_eq_getD_getElem?, hx]) (by simp) (fun x hx => by simp at hx) (fun x hx => .inr ?_) env σ a _ (hat.drew _) (by rw [e1]; exact h)
  rw [e2]
  rw [List.all_eq_true] at h3
  simpa using h3 x (by simpa using hx)

/-- The posts of the two machines. -/
def AEx.ex : AEx → Exit
  | .normal => .normal
  | .exit id => .exit id
  | .ret => .ret
def PostE (gl : Nat → Option (List AV)) (N : Nat) (σ0 : Own) (w0 : World) (Q : AEx → Env → Own → Prop) (e : Exit) (a : Act) (w : World) : Prop := ∃ x : AEx, e = x.ex ∧ Post gl N σ0 w0 (Q x) a w

theorem keepE_congr {env env' : Env} (h : ∀ t, find env t = find env' t) : ∀ (l : List Nat) (acc : Env), keepE env l acc = keepE env' l acc
  | [], _ => rfl
  | i :: r, acc => by simp only [keepE, h i]; exact keepE_congr h r _

theorem find_zip {ids : List Nat} : ∀ {vs : List AV} {i : Nat}, ids.length = vs.length → (find (ids.zip vs) i = .any ∨ ∃ j : Nat, ids[j]? = some i ∧ vs[j]? = some (find (ids.zip vs) i)) := by
  induction ids with
  | nil => intro vs i _; exact .inl rfl
  | cons k ids ih =>
    intro vs i hl
    cases vs with
    | nil => simp at hl
    | cons v vs =>
      rw [List.zip_cons_cons, find_cons]
      by_cases e : k = i
      · rw [if_pos e]; exact .inr ⟨0, by simp [e], rfl⟩
      · rw [if_neg e]
        rcases ih (vs := vs) (i := i) (by simpa using hl) with h | ⟨j, h1, h2⟩
        · exact .inl h
        · exact .inr ⟨j + 1, by simpa using h1, by simpa using h2⟩

theorem find_of_mem : ∀ {env : Env} {j i : Nat} {v : AV}, (env.map (·.1)).Nodup → env[j]? = some (i, v) → find env i = v
  | [], j, i, v, _, h => by simp at h
  | (k, u) :: env, j, i, v, hn, h => by
    rw [find_cons]
    rw [List.map_cons, List.nodup_cons] at hn
    cases j with
    | zero =>
      have : k = i ∧ u = v := by simpa using h
      rw [if_pos this.1]; exact this.2
    | succ j =>
      have h' : env[j]? = some (i, v) := by simpa using h
      have hne : k ≠ i := by
        rintro rfl
        exact hn.1 (List.mem_map.2 ⟨(k, v), List.mem_of_getElem? h', rfl⟩)
      rw [if_neg hne]
      exact find_of_mem hn.2 h'

theorem wk_sound {σ0 : Own} {w0 : World} {env : Env} {σ : Own} {a : Act} {w : World} {J : Env → Own → Prop} (hat : At gl N σ0 w0 env σ a w) (h : Wk (Says gl) env σ J) : Post gl N σ0 w0 J a w := by
  obtain ⟨env', σ', h1, h2, h3, h4⟩ := h.out
  have hv : VRs (Im σ w) w (env.map (·.2)) (env.map fun p => a.tmps.getD p.1 undef) := by
    rw [VRs.iff]
    refine ⟨by simp, fun j hj => ?_⟩
    have hj' : j < env.length := by simpa using hj
    have := find_of_mem (j := j) (i := env[j].1) (v := env[j].2) h2 (by simp [hj'])
    have hval := hat.env.val env[j].1
    rw [this] at hval
    simpa [List.getD_eq_getElem?_getD, hj'] using hval
  obtain ⟨r1, r2, r3⟩ := h3 w _ hat.rel hv
  refine ⟨env', σ', h4, r1, ⟨hat.env.defers, hat.env.size, fun i => ?_⟩, hat.stays.trans (stays_says r2)⟩
  have e : env' = (env'.map (·.1)).zip (env'.map (·.2)) := by
    rw [List.zip_map']; simp
  rw [e]
  rcases find_zip (ids := env'.map (·.1)) (vs := env'.map (·.2)) (i := i) (by simp) with hf | ⟨j, j1, j2⟩
  · rw [hf]; exact .any _
  · obtain ⟨u, u1, u2⟩ := r3.get j2
    rw [h1] at j1
    have : u = a.tmps.getD i undef := by
      rw [List.getElem?_map] at u1 j1
      cases hx : env[j]? with
      | none => simp [hx] at u1
      | some p =>
        rw [hx] at u1 j1
        have e1 : p.1 = i := by simpa using j1
        have e2 : a.tmps.getD p.1 undef = u := by simpa using u1
        rw [← e2, e1]
    rw [← this]; exact u2

end Go.Ab
