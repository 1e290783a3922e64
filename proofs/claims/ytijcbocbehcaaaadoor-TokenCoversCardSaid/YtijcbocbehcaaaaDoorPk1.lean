import Derived.Eval
import Derived.Test.YtijcbocbehcaaaaDoorPk0
/-! How the plain operations hang on what they read: monotone, of one answer, blind to the rest. -/
namespace Go.Ab
set_option linter.unusedVariables false
set_option linter.unusedSimpArgs false

theorem ldR_det {b : Bool} {n : Nat} {xs : List AV} {K : AV → Prop} (h : ldR b n xs K) : ∃ v, ldR b n xs (fun v' => v' = v) ∧ K v := by
  cases b with
  | true => obtain ⟨ys, h1, h2, h3⟩ := h; exact ⟨_, ⟨ys, h1, h2, rfl⟩, h3⟩
  | false => obtain ⟨x, h1, h2⟩ := h; exact ⟨_, ⟨x, h1, rfl⟩, h2⟩

def pOp : SOp → Bool
  | .mv _ | .pick _ _ _ | .bin _ _ _ | .beq _ _ _ | .eqa _ _ _ _ | .nilck _ | .callf _ _ | .un _ _ | .conv _ _ | .cstr _ | .len _ | .lens _ | .fa _ _ | .fld _ _ _ _ | .ext _ _ | .idx _ _ _ _ _ | .idxs _ _ | .ix _ _ _ | .ixa _ _ _ _ | .sl _ _ _ _ _ | .sls _ _ _ | .build _ _ | .mkf _ _ _ => true
  | _ => false
def detOp : SOp → Bool
  | .ld _ _ _ | .ldp _ _ _ _ | .callq _ _ | .callk _ _ => true
  | .callv q _ _ => q
  | s => pOp s

theorem binI_mono {op : BinOp} {k : IntKind} {x y : Int} {K K' : AV → Prop} (m : ∀ v, K v → K' v) (h : binI op k x y K) : binI op k x y K' := by
  cases op <;> simp only [binI] at h ⊢ <;> first
    | exact h
    | exact m _ h
    | (obtain ⟨z, h1, h2⟩ := h; exact ⟨z, h1, m _ h2⟩)
    | (obtain ⟨h0, z, h1, h2⟩ := h; exact ⟨h0, z, h1, m _ h2⟩)
theorem binI_det {op : BinOp} {k : IntKind} {x y : Int} {K : AV → Prop} (h : binI op k x y K) : ∃ v, binI op k x y (fun v' => v' = v) ∧ K v := by
  cases op <;> simp only [binI] at h ⊢ <;> first
    | exact h.elim
    | exact ⟨_, rfl, h⟩
    | (obtain ⟨z, h1, h2⟩ := h; exact ⟨_, ⟨z, h1, rfl⟩, h2⟩)
    | (obtain ⟨h0, z, h1, h2⟩ := h; exact ⟨_, ⟨h0, z, h1, rfl⟩, h2⟩)
theorem binR_mono {op : BinOp} {a b : AV} {K K' : AV → Prop} (m : ∀ v, K v → K' v) (h : binR op a b K) : binR op a b K' := by
  unfold binR at *
  split at h
  · split at h
    · obtain ⟨h0, z, h1, h2⟩ := h; exact ⟨h0, z, h1, m _ h2⟩
    · obtain ⟨h0, z, h1, h2⟩ := h; exact ⟨h0, z, h1, m _ h2⟩
    · split at h
      · exact binI_mono m h
      · exact h.elim
  · rename_i x y
    cases op <;> simp only [binS] at h ⊢ <;> first
      | exact h
      | exact m _ h
      | exact ⟨h.1, m _ h.2⟩
  · exact h.elim
theorem binR_det {op : BinOp} {a b : AV} {K : AV → Prop} (h : binR op a b K) : ∃ v, binR op a b (fun v' => v' = v) ∧ K v := by
  by_cases e : ∃ k x j y, a = .w (.int k x) ∧ b = .w (.int j y)
  · obtain ⟨k, x, j, y, rfl, rfl⟩ := e
    cases hk : sameK k j <;> cases op <;> simp only [binR, hk] at h ⊢ <;> first
      | exact h.elim
      | exact binI_det h
      | (obtain ⟨h0, z, h1, h2⟩ := h; exact ⟨_, ⟨h0, z, h1, rfl⟩, h2⟩)
  · unfold binR at h
    split at h
    · exact absurd ⟨_, _, _, _, rfl, rfl⟩ e
    · cases op <;> simp only [binR, binS] at h ⊢ <;> first
        | exact h.elim
        | exact ⟨_, rfl, h⟩
        | exact ⟨_, ⟨h.1, rfl⟩, h.2⟩
    · exact h.elim

/-- the leaves' shape: K of one value, under conditions -/
theorem slR_mono {x : AV} {size : Nat} {l h : Int} {mx : Option Int} {K K' : AV → Prop} (m : ∀ v, K v → K' v) (q : slR x size l h mx K) : slR x size l h mx K' := by
  unfold slR at *
  split at q
  · split at q
    · obtain ⟨l', h', a, b, c, d, q⟩ := q; exact ⟨l', h', a, b, c, d, m _ q⟩
    · obtain ⟨l', h', a, b, c, d, e, q⟩ := q; exact ⟨l', h', a, b, c, d, e, m _ q⟩
  · split at q
    · obtain ⟨l', h', a, b, c, d, q⟩ := q; exact ⟨l', h', a, b, c, d, m _ q⟩
    · obtain ⟨l', h', a, b, c, d, e, q⟩ := q; exact ⟨l', h', a, b, c, d, e, m _ q⟩
  · split at q
    · obtain ⟨l', h', a, b, c, d, o, e, f, q⟩ := q; exact ⟨l', h', a, b, c, d, o, e, f, m _ q⟩
    · obtain ⟨l', h', m', a, a2, b, c, d, d2, o, e, f, q⟩ := q; exact ⟨l', h', m', a, a2, b, c, d, d2, o, e, f, m _ q⟩
  · exact ⟨q.1, q.2.1, q.2.2.1, q.2.2.2.1, m _ q.2.2.2.2⟩
  · exact q.elim
theorem slR_det {x : AV} {size : Nat} {l h : Int} {mx : Option Int} {K : AV → Prop} (q : slR x size l h mx K) : ∃ v, slR x size l h mx (fun v' => v' = v) ∧ K v := by
  unfold slR at *
  split at q
  · split at q
    · obtain ⟨l', h', a, b, c, d, q⟩ := q; exact ⟨_, ⟨l', h', a, b, c, d, rfl⟩, q⟩
    · obtain ⟨l', h', a, b, c, d, e, q⟩ := q; exact ⟨_, ⟨l', h', a, b, c, d, e, rfl⟩, q⟩
  · split at q
    · obtain ⟨l', h', a, b, c, d, q⟩ := q; exact ⟨_, ⟨l', h', a, b, c, d, rfl⟩, q⟩
    · obtain ⟨l', h', a, b, c, d, e, q⟩ := q; exact ⟨_, ⟨l', h', a, b, c, d, e, rfl⟩, q⟩
  · split at q
    · obtain ⟨l', h', a, b, c, d, o, e, f, q⟩ := q; exact ⟨_, ⟨l', h', a, b, c, d, o, e, f, rfl⟩, q⟩
    · obtain ⟨l', h', m', a, a2, b, c, d, d2, o, e, f, q⟩ := q; exact ⟨_, ⟨l', h', m', a, a2, b, c, d, d2, o, e, f, rfl⟩, q⟩
  · exact ⟨_, ⟨q.1, q.2.1, q.2.2.1, q.2.2.2.1, rfl⟩, q.2.2.2.2⟩
  · exact q.elim

theorem bnd_mono {gl : Nat → Option (List AV)} {env : Env} {d : Nat} {o : Option Opd} {K K' : Int → Prop} (m : ∀ v, K v → K' v) (h : bnd gl env d o K) : bnd gl env d o K' := by
  cases o with
  | none => exact m _ h
  | some o =>
    simp only [bnd, ev_eq] at *
    split at h
    · exact m _ h
    · exact h.elim
theorem bnd_det {gl : Nat → Option (List AV)} {env : Env} {d : Nat} {o : Option Opd} {K : Int → Prop} (h : bnd gl env d o K) : ∃ n, (∀ K' : Int → Prop, K' n → bnd gl env d o K') ∧ K n := by
  cases o with
  | none => exact ⟨d, fun K' k => k, h⟩
  | some o =>
    simp only [bnd, ev_eq] at *
    split at h
    · rename_i k n hn
      exact ⟨n, fun K' k => k, h⟩
    · exact h.elim
theorem lay_mono {gl : Nat → Option (List AV)} {env : Env} {K K' : List AV → Prop} (m : ∀ v, K v → K' v) : ∀ (ps : List (Nat × Nat × Opd)) (cs : List AV), lay gl env ps cs K → lay gl env ps cs K'
  | [], cs, h => m _ h
  | (off, size, x) :: r, cs, h => by
    simp only [lay, ev_eq] at *
    split at h
    · exact lay_mono m r _ h
    · exact h.elim
theorem lay_det {gl : Nat → Option (List AV)} {env : Env} {K : List AV → Prop} : ∀ (ps : List (Nat × Nat × Opd)) (cs : List AV), lay gl env ps cs K → ∃ v, lay gl env ps cs (fun v' => v' = v) ∧ K v
  | [], cs, h => ⟨_, rfl, h⟩
  | (off, size, x) :: r, cs, h => by
    simp only [lay, ev_eq] at h ⊢
    cases h1 : boxable (opdAV gl env x) <;> cases h2 : Nat.beq (avCells (opdAV gl env x)).length size <;> cases h3 : Nat.ble (off + size) cs.length <;> simp only [h1, h2, h3] at h ⊢ <;> first
      | exact h.elim
      | exact lay_det r _ h

theorem appR_mono {size bytes : Nat} {x : AV} {ys : List AV} {n : Nat} {σ : Own} {K K' : AV → Own → Prop} (m : ∀ v σ, K v σ → K' v σ) (h : appR size bytes x ys n σ K) : appR size bytes x ys n σ K' := by
  unfold appR at *
  split at h
  · exact ⟨h.1, h.2.1, fun q => m _ _ (h.2.2.1 q), fun q => ⟨(h.2.2.2 q).1, (h.2.2.2 q).2.1, fun b c' hb hc => m _ _ ((h.2.2.2 q).2.2 b c' hb hc)⟩⟩
  · exact ⟨h.1, fun q => m _ _ (h.2.1 q), fun q => ⟨(h.2.2 q).1, (h.2.2 q).2.1, fun b c' hb hc => m _ _ ((h.2.2 q).2.2 b c' hb hc)⟩⟩
  · obtain ⟨ob, a, b, c, d, e, f, g, h, i⟩ := h
    exact ⟨ob, a, b, c, d, e, f, g, fun q => m _ _ (h q), fun q b' c' hb hc => m _ _ (i q b' c' hb hc)⟩
  · exact h.elim

variable {P : Program} {gl : Nat → Option (List AV)}

theorem srcR_mono {str : Bool} {size : Nat} {y : AV} {σ : Own} {K K' : List AV → Nat → Prop} (m : ∀ a b, K a b → K' a b) (h : srcR str size y σ K) : srcR str size y σ K' := by
  unfold srcR at *
  split at h
  · split at h
    · exact ⟨h.1, m _ _ h.2⟩
    · exact ⟨h.1, m _ _ h.2⟩
    · exact ⟨h.1, m _ _ h.2⟩
    · obtain ⟨ob, h1, h2, h3⟩ := h; exact ⟨ob, h1, h2, m _ _ h3⟩
    · exact h.elim
  · split at h
    · exact ⟨h.1, m _ _ h.2⟩
    · exact h.elim
theorem eqL_mono {K K' : Bool → Prop} (m : ∀ r, K r → K' r) : ∀ {ks : List EK} {xs ys : List AV} {acc : Bool}, eqL ks xs ys acc K → eqL ks xs ys acc K'
  | [], xs, ys, acc, h => by
    cases xs <;> cases ys <;> first
      | exact m _ h
      | exact h.elim
  | k :: ks, xs, ys, acc, h => by
    obtain ⟨x, xs', y, ys', e, rfl, rfl, h1, h2⟩ := eqL_cons h
    have := eqL_mono m h2
    cases h1 with
    | i kk a b => cases kk <;> exact this
    | b a b => exact this
    | s a b => exact this
theorem eqL_det {K : Bool → Prop} : ∀ {ks : List EK} {xs ys : List AV} {acc : Bool}, eqL ks xs ys acc K → ∃ r, eqL ks xs ys acc (fun r' => r' = r) ∧ K r
  | [], xs, ys, acc, h => by
    cases xs <;> cases ys <;> first
      | exact ⟨_, rfl, h⟩
      | exact h.elim
  | k :: ks, xs, ys, acc, h => by
    obtain ⟨x, xs', y, ys', e, rfl, rfl, h1, h2⟩ := eqL_cons h
    obtain ⟨r, h3, h4⟩ := eqL_det h2
    cases h1 with
    | i kk a b => cases kk <;> exact ⟨r, h3, h4⟩
    | b a b => exact ⟨r, h3, h4⟩
    | s a b => exact ⟨r, h3, h4⟩
theorem opR_mono {env : Env} {σ : Own} {s : SOp} {K K' : AV → Own → Prop} (m : ∀ v σ, K v σ → K' v σ) (h : opR (cx P gl) env σ s K) : opR (cx P gl) env σ s K' := by
  cases s <;> simp only [opR, ev_eq, evs_eq] at h ⊢
  case mv x => exact m _ _ h
  case pick c x y =>
    unfold pickV at *
    split at h
    · exact ⟨fun t => m _ _ (h.1 t), fun t => m _ _ (h.2 t)⟩
    · exact h.elim
  case bin => exact binR_mono (fun v => m v _) h
  case beq =>
    unfold beqV at *
    split at h
    · split at h <;> exact m _ _ h
    · exact h.elim
  case isnil =>
    unfold nilV at *
    split at h
    · intro b hb
      have := h b hb
      split <;> exact m _ _ this
    · intro b hb
      have := h b hb
      split <;> exact m _ _ this
    · split at h <;> exact m _ _ h
    · split at h <;> exact m _ _ h
    · exact h.elim
  case un =>
    unfold unV at *
    split at h
    · exact m _ _ h
    · obtain ⟨z, h1, h2⟩ := h; exact ⟨z, h1, m _ _ h2⟩
    · obtain ⟨z, h1, h2⟩ := h; exact ⟨z, h1, m _ _ h2⟩
    · exact h.elim
  case conv =>
    unfold convV at *
    split at h
    · obtain ⟨z, h1, h2⟩ := h; exact ⟨z, h1, m _ _ h2⟩
    · exact h.elim
  case cstr =>
    unfold cstrV at *
    split at h
    · exact m _ _ h
    · exact h.elim
  case bstr => exact srcR_mono (fun ys n ⟨bs, e, k⟩ => ⟨bs, e, m _ _ k⟩) h
  case len =>
    unfold lenV at *
    split at h <;> first | exact m _ _ h | exact h.elim
  case lens =>
    unfold lensV at *
    split at h <;> first | exact m _ _ h | exact h.elim
  case ld =>
    unfold ldV at *
    split at h
    · exact ldR_mono h (fun v => m v _)
    · obtain ⟨ob, h1, h2⟩ := h; exact ⟨ob, h1, ldR_mono h2 (fun v => m v _)⟩
    · exact h.elim
  case st =>
    unfold stV at *
    split at h
    · split at h
      · obtain ⟨ob, h1, h2, σ', h3, h4⟩ := h; exact ⟨ob, h1, h2, σ', h3, m _ _ h4⟩
      · exact h.elim
    · exact h.elim
  case stp => exact stV_mono (fun σ' ⟨q, k⟩ => ⟨q, m _ _ k⟩) h
  case eqa neg ks x y =>
    unfold eqaV at *
    split at h
    · refine eqL_mono (fun r h => ?_) h
      split at h <;> exact m _ _ h
    · exact h.elim
  case nilck =>
    unfold nilckV at *
    split at h <;> first | exact m _ _ h | exact h.elim
  case ix =>
    unfold ixV at *
    split at h
    · split at h <;> first | (obtain ⟨j, a, b, c⟩ := h; exact ⟨j, a, b, m _ _ c⟩) | exact h.elim
    · exact h.elim
  case ixa =>
    unfold ixaV at *
    split at h
    · split at h <;> first | (obtain ⟨j, a, b, c⟩ := h; exact ⟨j, a, b, m _ _ c⟩) | exact h.elim
    · exact h.elim
  case idx =>
    unfold idxV at *
    split at h
    · split at h <;> first | (obtain ⟨j, a, b, c⟩ := h; exact ⟨j, a, b, ldR_mono c (fun v => m v _)⟩) | exact h.elim
    · exact h.elim
  case idxs =>
    unfold idxsV at *
    split at h
    · split at h
      · obtain ⟨j, h0, c, h1, h2⟩ := h; exact ⟨j, h0, c, h1, m _ _ h2⟩
      · exact h.elim
    · exact h.elim
  case fa =>
    unfold faV at *
    split at h <;> first | exact m _ _ h | exact h.elim
  case fld =>
    unfold fldV at *
    split at h
    · exact ldR_mono h (fun v => m v _)
    · exact h.elim
  case sl size x lo hi mx =>
    refine bnd_mono (fun l h => bnd_mono (fun k h => ?_) h) h
    cases mx with
    | none => exact slR_mono (fun v => m v _) h
    | some mm => exact bnd_mono (fun j h => slR_mono (fun v => m v _) h) h
  case sls x lo hi =>
    unfold slsV at *
    split at h
    · exact bnd_mono (fun l h => bnd_mono (fun k h => by obtain ⟨l', h', a, b, c, d, q⟩ := h; exact ⟨l', h', a, b, c, d, m _ _ q⟩) h) h
    · exact h.elim
  case call f args =>
    obtain ⟨args', σ', h1, h2⟩ := h.out
    exact ⟨args', σ', h1, h2.mono m⟩
  case callq f args =>
    obtain ⟨args', v, h1, h2, h3⟩ := h.out
    exact ⟨args', v, h1, h2, m _ _ h3⟩
  case callk f args =>
    obtain ⟨args', v, h1, h3⟩ := h.out
    exact ⟨args', v, h1, m _ _ h3⟩
  case callf f args =>
    obtain ⟨args', v, h1, h3⟩ := h.out
    exact ⟨args', v, h1, m _ _ h3⟩
  case ldp =>
    refine ⟨h.1, ?_⟩
    have h := h.2
    unfold ldV at *
    split at h
    · exact ldR_mono h (fun v => m v _)
    · obtain ⟨ob, h1, h2⟩ := h; exact ⟨ob, h1, ldR_mono h2 (fun v => m v _)⟩
    · exact h.elim
  case calln f args =>
    obtain ⟨args', h1, h2⟩ := h.out
    exact ⟨args', h1, h2.mono fun v σ' ⟨a, b⟩ => ⟨a, m _ _ b⟩⟩
  case callv q x args =>
    unfold fnV at *
    have go : ∀ f vs, callX (cx P gl) q f vs σ K → callX (cx P gl) q f vs σ K' := by
      intro f vs h
      cases q with
      | false => obtain ⟨args', σ', h1, h2⟩ := h.out; exact ⟨args', σ', h1, h2.mono m⟩
      | true => obtain ⟨args', v, h1, h2, h3⟩ := h.out; exact ⟨args', v, h1, h2, m _ _ h3⟩
    split at h
    · exact go _ _ h
    · exact go _ _ h
    · exact h.elim
  case mkf f first cap =>
    unfold mkfV at *
    split at h <;> exact m _ _ h
  case ext =>
    unfold extV at *
    split at h
    · obtain ⟨x, h1, h2⟩ := h; exact ⟨x, h1, m _ _ h2⟩
    · exact h.elim
  case box own size x =>
    split at h
    · unfold boxV at *
      split at h
      · exact m _ _ h
      · intro b hb; exact m _ _ (h b hb)
    · exact h.elim
  case alloc own size zero =>
    unfold boxV at *
    split at h
    · exact m _ _ h
    · intro b hb; exact m _ _ (h b hb)
  case build => exact lay_mono (fun v => m _ _) _ _ h
  case bsl own size len zero parts =>
    refine lay_mono (fun v h => ?_) _ _ h
    unfold bslV at *
    split at h
    · exact m _ _ h
    · intro b hb; exact m _ _ (h b hb)
  case mks =>
    unfold mksV at *
    split at h
    · obtain ⟨a, b, c, d, e, f, g, h⟩ := h; exact ⟨a, b, c, d, e, f, g, fun b hb => m _ _ (h b hb)⟩
    · exact h.elim
  case app str size bytes x y =>
    unfold srcR at *
    split at h
    · split at h
      · exact ⟨h.1, appR_mono m h.2⟩
      · exact ⟨h.1, appR_mono m h.2⟩
      · exact ⟨h.1, appR_mono m h.2⟩
      · obtain ⟨ob, h1, h2, h3⟩ := h; exact ⟨ob, h1, h2, appR_mono m h3⟩
      · exact h.elim
    · split at h
      · exact ⟨h.1, appR_mono m h.2⟩
      · exact h.elim

/-- One answer: what holds behind it holds of a value that it must give. -/
theorem opR_det {env : Env} {σ : Own} {s : SOp} (hd : detOp s = true) {K : AV → Own → Prop} (h : opR (cx P gl) env σ s K) : ∃ v, opR (cx P gl) env σ s (fun v' σ' => v' = v ∧ σ' = σ) ∧ K v σ := by
  cases s <;> simp only [opR, ev_eq, evs_eq, and_true] at h ⊢ <;> try (cases hd; done)
  case mv x => exact ⟨_, rfl, h⟩
  case pick c x y =>
    unfold pickV at *
    split at h
    · rename_i t ht
      cases t with
      | true => exact ⟨_, ⟨fun _ => rfl, (fun q => by cases q)⟩, h.1 rfl⟩
      | false => exact ⟨_, ⟨(fun q => by cases q), fun _ => rfl⟩, h.2 rfl⟩
    · exact h.elim
  case bin => exact binR_det h
  case eqa neg ks x y =>
    unfold eqaV at *
    split at h
    · obtain ⟨r, h1, h2⟩ := eqL_det h
      cases neg with
      | false => exact ⟨_, eqL_mono (fun r' e => by rw [e]) h1, h2⟩
      | true => exact ⟨_, eqL_mono (fun r' e => by rw [e]) h1, h2⟩
    · exact h.elim
  case nilck =>
    unfold nilckV at *
    split at h <;> first | exact ⟨_, rfl, h⟩ | exact h.elim
  case beq =>
    unfold beqV at *
    split at h
    · split at h <;> exact ⟨_, rfl, h⟩
    · exact h.elim
  case un =>
    unfold unV at *
    split at h
    · exact ⟨_, rfl, h⟩
    · obtain ⟨z, h1, h2⟩ := h; exact ⟨_, ⟨z, h1, rfl⟩, h2⟩
    · obtain ⟨z, h1, h2⟩ := h; exact ⟨_, ⟨z, h1, rfl⟩, h2⟩
    · exact h.elim
  case conv =>
    unfold convV at *
    split at h
    · obtain ⟨z, h1, h2⟩ := h; exact ⟨_, ⟨z, h1, rfl⟩, h2⟩
    · exact h.elim
  case cstr =>
    unfold cstrV at *
    split at h
    · exact ⟨_, rfl, h⟩
    · exact h.elim
  case len =>
    unfold lenV at *
    split at h <;> first | exact ⟨_, rfl, h⟩ | exact h.elim
  case lens =>
    unfold lensV at *
    split at h <;> first | exact ⟨_, rfl, h⟩ | exact h.elim
  case ld =>
    unfold ldV at *
    split at h
    · exact ldR_det h
    · obtain ⟨ob, h1, h2⟩ := h
      obtain ⟨v, h3, h4⟩ := ldR_det h2
      exact ⟨v, ⟨ob, h1, h3⟩, h4⟩
    · exact h.elim
  case ix =>
    unfold ixV at *
    split at h
    · split at h <;> first | (obtain ⟨j, a, b, c⟩ := h; exact ⟨_, ⟨j, a, b, rfl⟩, c⟩) | exact h.elim
    · exact h.elim
  case ixa =>
    unfold ixaV at *
    split at h
    · split at h <;> first | (obtain ⟨j, a, b, c⟩ := h; exact ⟨_, ⟨j, a, b, rfl⟩, c⟩) | exact h.elim
    · exact h.elim
  case idx =>
    unfold idxV at *
    split at h
    · split at h
      · obtain ⟨j, a, b, c⟩ := h
        obtain ⟨v, h3, h4⟩ := ldR_det c
        exact ⟨v, ⟨j, a, b, h3⟩, h4⟩
      · exact h.elim
    · exact h.elim
  case idxs =>
    unfold idxsV at *
    split at h
    · split at h
      · obtain ⟨j, h0, c, h1, h2⟩ := h; exact ⟨_, ⟨j, h0, c, h1, rfl⟩, h2⟩
      · exact h.elim
    · exact h.elim
  case fa =>
    unfold faV at *
    split at h <;> first | exact ⟨_, rfl, h⟩ | exact h.elim
  case fld =>
    unfold fldV at *
    split at h
    · exact ldR_det h
    · exact h.elim
  case sl size x lo hi mx =>
    obtain ⟨l, m1, h⟩ := bnd_det h
    obtain ⟨k, m2, h⟩ := bnd_det h
    cases mx with
    | none =>
      obtain ⟨v, h1, h2⟩ := slR_det h
      exact ⟨v, m1 _ (m2 _ h1), h2⟩
    | some mm =>
      obtain ⟨j, m3, h⟩ := bnd_det h
      obtain ⟨v, h1, h2⟩ := slR_det h
      exact ⟨v, m1 _ (m2 _ (m3 _ h1)), h2⟩
  case sls x lo hi =>
    unfold slsV at *
    split at h
    · obtain ⟨l, m1, h⟩ := bnd_det h
      obtain ⟨k, m2, h⟩ := bnd_det h
      obtain ⟨l', h', a, b, c, d, q⟩ := h
      exact ⟨_, m1 _ (m2 _ ⟨l', h', a, b, c, d, rfl⟩), q⟩
    · exact h.elim
  case callq f args =>
    obtain ⟨args', v, h1, h2, h3⟩ := h.out
    exact ⟨v, ⟨args', v, h1, h2, rfl⟩, h3⟩
  case callk f args =>
    obtain ⟨args', v, h1, h3⟩ := h.out
    exact ⟨v, ⟨args', v, h1, rfl⟩, h3⟩
  case callf f args =>
    obtain ⟨args', v, h1, h3⟩ := h.out
    exact ⟨v, ⟨args', v, h1, rfl⟩, h3⟩
  case ldp =>
    obtain ⟨h0, h⟩ := h
    unfold ldV at *
    split at h
    · obtain ⟨v, h3, h4⟩ := ldR_det h
      exact ⟨v, ⟨h0, h3⟩, h4⟩
    · obtain ⟨ob, h1, h2⟩ := h
      obtain ⟨v, h3, h4⟩ := ldR_det h2
      exact ⟨v, ⟨h0, ob, h1, h3⟩, h4⟩
    · exact h.elim
  case callv q x args =>
    cases q with
    | false => cases hd
    | true =>
      unfold fnV callX at *
      split at h
      · obtain ⟨args', v, h1, h2, h3⟩ := h.out
        exact ⟨v, ⟨args', v, h1, h2, rfl, rfl⟩, h3⟩
      · obtain ⟨args', v, h1, h2, h3⟩ := h.out
        exact ⟨v, ⟨args', v, h1, h2, rfl, rfl⟩, h3⟩
      · exact h.elim
  case mkf f first cap =>
    unfold mkfV at *
    split at h <;> exact ⟨_, rfl, h⟩
  case ext =>
    unfold extV at *
    split at h
    · obtain ⟨x, h1, h2⟩ := h; exact ⟨_, ⟨x, h1, rfl⟩, h2⟩
    · exact h.elim
  case build =>
    obtain ⟨v, h1, h2⟩ := lay_det _ _ h
    exact ⟨_, lay_mono (fun u hu => by rw [hu]) _ _ h1, h2⟩

/-- An operation that reads no memory does not see it. -/
theorem opR_blind {env : Env} {σ σ' : Own} {s : SOp} (hp : pOp s = true) {J : AV → Prop} (h : opR (cx P gl) env σ s (fun v _ => J v)) : opR (cx P gl) env σ' s (fun v _ => J v) := by
  cases s <;> first
    | exact h
    | cases hp

end Go.Ab
/-! Operations whose order is open: in whatever order their edges allow, the same comes out. -/
namespace Go.Ab
set_option linter.unusedVariables false
set_option linter.unusedSimpArgs false

def rO : Opd → List Nat
  | .t i => [i]
  | _ => []
def rOo : Option Opd → List Nat
  | none => []
  | some o => rO o
def reads : SOp → List Nat
  | .mv x => rO x
  | .pick c a b => rO c ++ rO a ++ rO b
  | .bin _ x y => rO x ++ rO y
  | .beq _ x y => rO x ++ rO y
  | .isnil _ x => rO x
  | .un _ x => rO x
  | .conv _ x => rO x
  | .cstr x => rO x
  | .bstr x => rO x
  | .len x => rO x
  | .lens x => rO x
  | .ld _ _ a => rO a
  | .st _ a v => rO a ++ rO v
  | .stp _ a v os => rO a ++ rO v ++ os.flatMap rO
  | .eqa _ _ x y => rO x ++ rO y
  | .nilck x => rO x
  | .ix _ x i => rO x ++ rO i
  | .ixa _ _ x i => rO x ++ rO i
  | .idx _ _ _ x i => rO x ++ rO i
  | .idxs x i => rO x ++ rO i
  | .fa _ x => rO x
  | .fld _ _ _ x => rO x
  | .sl _ x lo hi mx => rO x ++ rOo lo ++ rOo hi ++ rOo mx
  | .sls x lo hi => rO x ++ rOo lo ++ rOo hi
  | .call _ args => args.flatMap rO
  | .callq _ args => args.flatMap rO
  | .callk _ args => args.flatMap rO
  | .callf _ args => args.flatMap rO
  | .ldp _ _ a os => rO a ++ os.flatMap rO
  | .calln _ args => args.flatMap rO
  | .callv _ x args => rO x ++ args.flatMap rO
  | .mkf _ a b => a.flatMap rO ++ b.flatMap rO
  | .ext x _ => rO x
  | .box _ _ x => rO x
  | .alloc _ _ _ => []
  | .build _ parts => parts.flatMap fun p => rO p.2.2
  | .bsl _ _ _ _ parts => parts.flatMap fun p => rO p.2
  | .mks _ _ _ l c => rO l ++ rO c
  | .app _ _ _ x y => rO x ++ rO y

variable {P : Program} {gl : Nat → Option (List AV)} {env env' : Env} {σ : Own}

theorem opdAV_congr {x : Opd} (h : ∀ i ∈ rO x, find env i = find env' i) : opdAV gl env x = opdAV gl env' x := by
  cases x <;> first
    | rfl
    | exact h _ (by simp [rO])
theorem opds_congr : ∀ {l : List Opd}, (∀ i ∈ l.flatMap rO, find env i = find env' i) → l.map (opdAV gl env) = l.map (opdAV gl env')
  | [], _ => rfl
  | o :: r, h => by
    simp only [List.map_cons]
    rw [opdAV_congr (fun i hi => h i (by simp [hi])), opds_congr (l := r) (fun i hi => h i (by simp only [List.flatMap_cons, List.mem_append]; exact .inr hi))]
theorem bnd_congr {d : Nat} {o : Option Opd} (h : ∀ i ∈ rOo o, find env i = find env' i) {K : Int → Prop} : bnd gl env d o K = bnd gl env' d o K := by
  cases o with
  | none => rfl
  | some o => simp only [bnd, ev_eq]; rw [opdAV_congr (fun i hi => h i hi)]
theorem lay_congr {K : List AV → Prop} : ∀ {ps : List (Nat × Nat × Opd)} {cs : List AV}, (∀ i ∈ ps.flatMap (fun p => rO p.2.2), find env i = find env' i) → lay gl env ps cs K = lay gl env' ps cs K
  | [], cs, _ => rfl
  | (off, size, x) :: r, cs, h => by
    simp only [lay, ev_eq]
    rw [opdAV_congr (fun i hi => h i (by simp [hi]))]
    split
    · exact lay_congr (fun i hi => h i (by simp only [List.flatMap_cons, List.mem_append]; exact .inr hi))
    · rfl

theorem apart_congr {b : Nat} : ∀ {os : List Opd}, (∀ i ∈ os.flatMap rO, find env i = find env' i) → apart gl env b os = apart gl env' b os
  | [], _ => rfl
  | o :: r, h => by
    simp only [apart, ev_eq]
    rw [opdAV_congr (x := o) (fun i hi => h i (by simp [hi])), apart_congr (os := r) (fun i hi => h i (by simp only [List.flatMap_cons, List.mem_append]; exact .inr hi))]
theorem apartV_congr {p : AV} {os : List Opd} (h : ∀ i ∈ os.flatMap rO, find env i = find env' i) : apartV gl env p os = apartV gl env' p os := by
  unfold apartV
  split
  · exact apart_congr h
  · rfl
theorem apartF_congr {p : AV} {os : List Opd} (h : ∀ i ∈ os.flatMap rO, find env i = find env' i) : apartF gl env p os = apartF gl env' p os := by
  unfold apartF
  split
  · rfl
  · exact apart_congr h
  · rfl
theorem opR_congr {s : SOp} (h : ∀ i ∈ reads s, find env i = find env' i) {K : AV → Own → Prop} : opR (cx P gl) env σ s K = opR (cx P gl) env' σ s K := by
  cases s <;> simp only [opR, ev_eq, evs_eq, cx]
  case mv x => rw [opdAV_congr (fun i hi => h i (by simp [reads, hi]))]
  case pick c x y => rw [opdAV_congr (x := c) (fun i hi => h i (by simp [reads, hi])), opdAV_congr (x := x) (fun i hi => h i (by simp [reads, hi])), opdAV_congr (x := y) (fun i hi => h i (by simp [reads, hi]))]
  case bin op x y => rw [opdAV_congr (x := x) (fun i hi => h i (by simp [reads, hi])), opdAV_congr (x := y) (fun i hi => h i (by simp [reads, hi]))]
  case beq n x y => rw [opdAV_congr (x := x) (fun i hi => h i (by simp [reads, hi])), opdAV_congr (x := y) (fun i hi => h i (by simp [reads, hi]))]
  case isnil n x => rw [opdAV_congr (x := x) (fun i hi => h i (by simp [reads, hi]))]
  case un op x => rw [opdAV_congr (x := x) (fun i hi => h i (by simp [reads, hi]))]
  case conv k x => rw [opdAV_congr (x := x) (fun i hi => h i (by simp [reads, hi]))]
  case cstr x => rw [opdAV_congr (x := x) (fun i hi => h i (by simp [reads, hi]))]
  case bstr x => rw [opdAV_congr (x := x) (fun i hi => h i (by simp [reads, hi]))]
  case len x => rw [opdAV_congr (x := x) (fun i hi => h i (by simp [reads, hi]))]
  case lens x => rw [opdAV_congr (x := x) (fun i hi => h i (by simp [reads, hi]))]
  case ld b n x => rw [opdAV_congr (x := x) (fun i hi => h i (by simp [reads, hi]))]
  case st n x y => rw [opdAV_congr (x := x) (fun i hi => h i (by simp [reads, hi])), opdAV_congr (x := y) (fun i hi => h i (by simp [reads, hi]))]
  case stp n x y os => rw [opdAV_congr (x := x) (fun i hi => h i (by simp [reads, hi])), opdAV_congr (x := y) (fun i hi => h i (by simp [reads, hi])), apartV_congr (os := os) (fun i hi => h i (by simp only [reads, List.mem_append]; exact .inr hi))]
  case eqa n k x y => rw [opdAV_congr (x := x) (fun i hi => h i (by simp [reads, hi])), opdAV_congr (x := y) (fun i hi => h i (by simp [reads, hi]))]
  case nilck x => rw [opdAV_congr (x := x) (fun i hi => h i (by simp [reads, hi]))]
  case ix n x y => rw [opdAV_congr (x := x) (fun i hi => h i (by simp [reads, hi])), opdAV_congr (x := y) (fun i hi => h i (by simp [reads, hi]))]
  case ixa l n x y => rw [opdAV_congr (x := x) (fun i hi => h i (by simp [reads, hi])), opdAV_congr (x := y) (fun i hi => h i (by simp [reads, hi]))]
  case idx b l n x y => rw [opdAV_congr (x := x) (fun i hi => h i (by simp [reads, hi])), opdAV_congr (x := y) (fun i hi => h i (by simp [reads, hi]))]
  case idxs x y => rw [opdAV_congr (x := x) (fun i hi => h i (by simp [reads, hi])), opdAV_congr (x := y) (fun i hi => h i (by simp [reads, hi]))]
  case fa n x => rw [opdAV_congr (x := x) (fun i hi => h i (by simp [reads, hi]))]
  case fld b o n x => rw [opdAV_congr (x := x) (fun i hi => h i (by simp [reads, hi]))]
  case sl n x lo hi mx =>
    rw [opdAV_congr (x := x) (fun i hi => h i (by simp [reads, hi])), bnd_congr (env := env) (env' := env') (o := lo) (fun i hi => h i (by simp [reads, hi]))]
    congr 1; funext l
    rw [bnd_congr (env := env) (env' := env') (o := hi) (fun i hi => h i (by simp [reads, hi]))]
    congr 1; funext k
    cases mx with
    | none => rfl
    | some m => simp only []; rw [bnd_congr (env := env) (env' := env') (o := some m) (fun i hi => h i (by simp [reads, hi]))]
  case sls x lo hi =>
    rw [opdAV_congr (x := x) (fun i hi => h i (by simp [reads, hi]))]
    unfold slsV
    split
    · rw [bnd_congr (env := env) (env' := env') (o := lo) (fun i hi => h i (by simp [reads, hi]))]
      congr 1; funext l
      rw [bnd_congr (env := env) (env' := env') (o := hi) (fun i hi => h i (by simp [reads, hi]))]
    · rfl
  case call f args => rw [opds_congr (l := args) (fun i hi => h i hi)]
  case callq f args => rw [opds_congr (l := args) (fun i hi => h i hi)]
  case callk f args => rw [opds_congr (l := args) (fun i hi => h i hi)]
  case callf f args => rw [opds_congr (l := args) (fun i hi => h i hi)]
  case ldp b n x os => rw [opdAV_congr (x := x) (fun i hi => h i (by simp [reads, hi])), apartF_congr (os := os) (fun i hi => h i (by simp only [reads, List.mem_append]; exact .inr hi))]
  case calln f args => rw [opds_congr (l := args) (fun i hi => h i hi)]
  case callv q x args => rw [opdAV_congr (x := x) (fun i hi => h i (by simp [reads, hi])), opds_congr (l := args) (fun i hi => h i (by simp only [reads, List.mem_append]; exact .inr hi))]
  case mkf f x y => rw [opds_congr (l := x) (fun i hi => h i (by simp only [reads, List.mem_append]; exact .inl hi)), opds_congr (l := y) (fun i hi => h i (by simp only [reads, List.mem_append]; exact .inr hi))]
  case ext x n => rw [opdAV_congr (x := x) (fun i hi => h i (by simp [reads, hi]))]
  case box o n x => rw [opdAV_congr (x := x) (fun i hi => h i (by simp [reads, hi]))]
  case build z ps => rw [lay_congr (fun i hi => h i hi)]
  case bsl o n l z ps => rw [lay_congr (fun i hi => h i (by simpa [reads, List.flatMap_map] using hi))]
  case mks n b z x y => rw [opdAV_congr (x := x) (fun i hi => h i (by simp [reads, hi])), opdAV_congr (x := y) (fun i hi => h i (by simp [reads, hi]))]
  case app str n b x y => rw [opdAV_congr (x := x) (fun i hi => h i (by simp [reads, hi])), opdAV_congr (x := y) (fun i hi => h i (by simp [reads, hi]))]

/-- one operation, with its guard -/
def stepR (c : Cx) (i : SI) (K : Env → Own → Prop) (env : Env) (σ : Own) : Prop :=
  match i.guard with
  | none => opR c env σ i.op fun v σ' => K (putO env i.d v) σ'
  | some (t, want) => match find env t with
    | .w (.bool b) => (b = want → opR c env σ i.op fun v σ' => K (putO env i.d v) σ') ∧ (b = !want → K (putO env i.d (.w (.tuple #[]))) σ)
    | .w (.tuple _) => K (putO env i.d (.w (.tuple #[]))) σ
    | _ => False

theorem opsR_cons (c : Cx) (i : SI) (l : List SI) (K : Env → Own → Prop) (env : Env) (σ : Own) : opsR c (i :: l) K env σ = stepR c i (opsR c l K) env σ := by
  obtain ⟨d, op, g⟩ := i
  unfold stepR
  cases g with
  | none => cases d <;> rfl
  | some g =>
    obtain ⟨t, want⟩ := g
    simp only [opsR, look_eq]
    cases d <;> (cases find env t <;> try rfl) <;> (rename_i v; cases v <;> rfl)

theorem bool_of {x : AV} {A : Bool → Prop} (h : match x with | .w (.bool b) => A b | _ => False) : ∃ b, x = .w (.bool b) := by
  split at h
  · exact ⟨_, rfl⟩
  · exact h.elim

theorem guard_of {x : AV} {A : Bool → Prop} {B : Prop} (h : match x with | .w (.bool b) => A b | .w (.tuple _) => B | _ => False) : (∃ b, x = .w (.bool b)) ∨ ∃ t, x = .w (.tuple t) := by
  split at h
  · exact .inl ⟨_, rfl⟩
  · exact .inr ⟨_, rfl⟩
  · exact h.elim

def readsI (i : SI) : List Nat := (match i.guard with | some (t, _) => [t] | none => []) ++ reads i.op

theorem stepR_mono {i : SI} {K K' : Env → Own → Prop} (m : ∀ env σ, K env σ → K' env σ) (h : stepR (cx P gl) i K env σ) : stepR (cx P gl) i K' env σ := by
  unfold stepR at *
  split at h
  · exact opR_mono (fun v σ => m _ _) h
  · split at h
    · exact ⟨fun q => opR_mono (fun v σ => m _ _) (h.1 q), fun q => m _ _ (h.2 q)⟩
    · exact m _ _ h
    · exact h.elim
theorem opsR_mono {K K' : Env → Own → Prop} (m : ∀ env σ, K env σ → K' env σ) : ∀ {l : List SI} {env : Env} {σ : Own}, opsR (cx P gl) l K env σ → opsR (cx P gl) l K' env σ
  | [], env, σ, h => m _ _ h
  | i :: l, env, σ, h => by rw [opsR_cons] at *; exact stepR_mono (fun env σ h => opsR_mono m h) h

theorem stepR_congr {i : SI} {K K' : Env → Own → Prop} (ha : ∀ t ∈ readsI i, find env t = find env' t) (m : ∀ v σ', K (putO env' i.d v) σ' → K' (putO env i.d v) σ') (h : stepR (cx P gl) i K env' σ) : stepR (cx P gl) i K' env σ := by
  unfold stepR at *
  have hop : ∀ t ∈ reads i.op, find env t = find env' t := fun t ht => ha t (by simp [readsI, ht])
  cases hg : i.guard with
  | none =>
    simp only [hg] at h ⊢
    rw [opR_congr hop]
    exact opR_mono m h
  | some g =>
    obtain ⟨t, want⟩ := g
    simp only [hg] at h ⊢
    rw [ha t (by simp [readsI, hg])]
    obtain ⟨b, hb⟩ | ⟨b, hb⟩ := guard_of h
    · rw [hb] at h ⊢
      refine ⟨fun q => ?_, fun q => m _ _ (h.2 q)⟩
      rw [opR_congr hop]
      exact opR_mono m (h.1 q)
    · rw [hb] at h ⊢
      exact m _ _ h

/-- it gives v -/
def Out (P : Program) (gl : Nat → Option (List AV)) (i : SI) (env : Env) (σ : Own) (v : AV) : Prop := stepR (cx P gl) i (fun env' σ' => env' = putO env i.d v ∧ σ' = σ) env σ

theorem putO_inj {d : Option Nat} {env : Env} {v v' : AV} {K : Env → Prop} (h : putO env d v' = putO env d v) (k : K (putO env d v)) : K (putO env d v') := by rw [h]; exact k

theorem step_det {i : SI} (hd : detOp i.op = true) {K : Env → Own → Prop} (h : stepR (cx P gl) i K env σ) : ∃ v, Out P gl i env σ v ∧ K (putO env i.d v) σ := by
  unfold Out stepR at *
  cases hg : i.guard with
  | none =>
    simp only [hg] at h ⊢
    obtain ⟨v, h1, h2⟩ := opR_det hd h
    exact ⟨v, opR_mono (fun v' σ' ⟨e1, e2⟩ => ⟨by rw [e1], e2⟩) h1, h2⟩
  | some g =>
    obtain ⟨t, want⟩ := g
    simp only [hg] at h ⊢
    obtain ⟨b, hb⟩ | ⟨b, hb⟩ := guard_of h
    · rw [hb] at h ⊢
      by_cases hw : b = want
      · obtain ⟨v, h1, h2⟩ := opR_det hd (h.1 hw)
        exact ⟨v, ⟨fun _ => opR_mono (fun v' σ' ⟨e1, e2⟩ => ⟨by rw [e1], e2⟩) h1, (fun q => by rw [hw] at q; cases want <;> cases q)⟩, h2⟩
      · have hw' : b = !want := by cases b <;> cases want <;> simp_all
        exact ⟨.w (.tuple #[]), ⟨fun q => absurd q hw, fun _ => ⟨rfl, trivial⟩⟩, h.2 hw'⟩
    · rw [hb] at h ⊢
      exact ⟨.w (.tuple #[]), ⟨rfl, trivial⟩, h⟩
theorem out_step {i : SI} {v : AV} {K : Env → Own → Prop} (h : Out P gl i env σ v) (k : K (putO env i.d v) σ) : stepR (cx P gl) i K env σ :=
  stepR_mono (fun env' σ' ⟨e1, e2⟩ => by rw [e1, e2]; exact k) h
theorem out_congr {i : SI} {v : AV} (ha : ∀ t ∈ readsI i, find env t = find env' t) (h : Out P gl i env' σ v) : Out P gl i env σ v := by
  unfold Out at *
  refine stepR_congr ha (fun v' σ' ⟨e1, e2⟩ => ⟨?_, e2⟩) h
  cases hd : i.d with
  | none => simp [putO]
  | some d =>
    rw [hd] at e1
    have : v' = v := by simpa [putO] using e1
    rw [this]
theorem out_blind {i : SI} {v : AV} {σ' : Own} (hp : pOp i.op = true) (h : Out P gl i env σ v) : Out P gl i env σ' v := by
  have hd : detOp i.op = true := by revert hp; cases i.op <;> simp [pOp, detOp]
  unfold Out stepR at *
  cases hg : i.guard with
  | none =>
    simp only [hg] at h ⊢
    have h1 := opR_blind (σ' := σ') hp (opR_mono (K' := fun v' _ => putO env i.d v' = putO env i.d v) (fun v' σ' e => e.1) h)
    obtain ⟨u, h2, h3⟩ := opR_det hd h1
    exact opR_mono (fun v' σ'' ⟨e1, e2⟩ => ⟨by rw [e1]; exact h3, e2⟩) h2
  | some g =>
    obtain ⟨t, want⟩ := g
    simp only [hg] at h ⊢
    obtain ⟨b, hb⟩ | ⟨b, hb⟩ := guard_of h
    · rw [hb] at h ⊢
      refine ⟨fun q => ?_, fun q => ⟨(h.2 q).1, trivial⟩⟩
      have h1 := opR_blind (σ' := σ') hp (opR_mono (K' := fun v' _ => putO env i.d v' = putO env i.d v) (fun v' σ' e => e.1) (h.1 q))
      obtain ⟨u, h2, h3⟩ := opR_det hd h1
      exact opR_mono (fun v' σ'' ⟨e1, e2⟩ => ⟨by rw [e1]; exact h3, e2⟩) h2
    · rw [hb] at h ⊢
      exact ⟨h.1, trivial⟩

/-- K does not see in which order the slots were written. -/
def Ext (K : Env → Own → Prop) : Prop := ∀ env env' σ, (∀ t, find env t = find env' t) → K env σ → K env' σ

theorem find_put {d : Option Nat} {v : AV} {t : Nat} : find (putO env d v) t = if d = some t then v else find env t := by
  cases d with
  | none => simp [putO]
  | some d => simp only [putO, find_cons, Option.some.injEq]
theorem ext_step {i : SI} {K : Env → Own → Prop} (h : Ext K) : Ext (stepR (cx P gl) i K) := by
  intro env env' σ he hs
  refine stepR_congr (fun t _ => (he t).symm) (fun v σ' k => h _ _ _ (fun t => ?_) k) hs
  rw [find_put, find_put, he t]
theorem ext_ops {K : Env → Own → Prop} (h : Ext K) : ∀ l : List SI, Ext (opsR (cx P gl) l K)
  | [] => h
  | i :: l => by
    have := ext_step (P := P) (gl := gl) (i := i) (ext_ops h l)
    intro env env' σ he hs
    rw [opsR_cons] at *
    exact this env env' σ he hs

def isK : SOp → Bool
  | .callk _ _ => true
  | _ => false
def isN : SOp → Bool
  | .calln _ _ => true
  | _ => false
/-- is this slot among the operands? -/
def memT (k : Nat) : List Opd → Bool
  | [] => false
  | .t i :: r => Nat.beq i k || memT k r
  | _ :: r => memT k r
/-- two stores, the first one of which lies apart from where the second one goes -/
def isS : SOp → SOp → Bool
  | .stp _ _ _ os, .stp _ (.t k) _ _ => memT k os
  | _, _ => false
/-- a load apart from where a store goes -/
def isL : SOp → SOp → Bool
  | .ldp _ _ _ os, .stp _ (.t k) _ _ => memT k os
  | .ldp _ _ _ os, .st _ (.t k) _ => memT k os
  | _, _ => false
/-- it makes one block and writes nothing else -/
def isA : SOp → Bool
  | .alloc o _ _ => o
  | .box o _ _ => o
  | .bsl o _ _ _ _ => o
  | _ => false
def isAl : SOp → Bool
  | .alloc o _ _ => o
  | _ => false
/-- it gives the same where there is more own memory -/
def isM : SOp → Bool
  | .ld _ _ _ | .ldp _ _ _ _ | .callk _ _ => true
  | _ => false
/-- may i go ahead of x, which stands in front of it? -/
def comm (x i : SI) : Bool :=
  (match x.d with | some d => !(readsI i).contains d | none => true) && (match i.d with | some d => !(readsI x).contains d | none => true) &&
  (match x.d, i.d with | some d, some e => d != e | _, _ => true) && (((detOp x.op && detOp i.op) || pOp x.op) || (isK x.op && isN i.op && x.guard.isNone && i.guard.isNone) || (isS x.op i.op && x.guard.isNone && i.guard.isNone && x.d.isNone && i.d.isNone) || (isL x.op i.op && x.guard.isNone && i.guard.isNone && i.d.isNone) || ((isM x.op || (isA x.op && isAl i.op)) && isA i.op && x.guard.isNone && i.guard.isNone))

theorem not_read {x i : SI} {d : Nat} (hd : x.d = some d) (h : (match x.d with | some d => !(readsI i).contains d | none => true) = true) : ∀ t ∈ readsI i, t ≠ d := by
  intro t ht e
  subst e
  rw [hd] at h
  simp at h
  exact h ht
theorem agree_put {d : Option Nat} {v : AV} {i : SI} (h : (match d with | some d => !(readsI i).contains d | none => true) = true) : ∀ t ∈ readsI i, find env t = find (putO env d v) t := by
  intro t ht
  rw [find_put]
  cases d with
  | none => simp
  | some d =>
    have : t ≠ d := by rintro rfl; simp at h; exact h ht
    rw [if_neg (by simpa using fun e => this e.symm)]

theorem apart_mem {b k : Nat} : ∀ {os : List Opd}, memT k os = true → apart gl env b os → ∃ b' o, find env k = .w (.pointer (some ⟨b', o, none⟩)) ∧ b' ≠ b
  | [], hm, _ => by cases hm
  | o :: r, hm, h => by
    simp only [apart, ev_eq] at h
    cases o with
    | t i =>
      simp only [memT, Bool.or_eq_true] at hm
      rcases hm with hm | hm
      · obtain rfl := Nat.eq_of_beq_eq_true hm
        obtain ⟨h, _⟩ := h
        simp only [opdAV] at h
        split at h
        · rename_i b' o' e; exact ⟨b', o', e, h⟩
        · exact h.elim
      · exact apart_mem hm h.2
    | c v => exact apart_mem (os := r) hm h.2
    | g v => exact apart_mem (os := r) hm h.2
    | f v => exact apart_mem (os := r) hm h.2
theorem ldV_mono {agg : Bool} {n : Nat} {v : AV} {K K' : AV → Prop} (m : ∀ v, K v → K' v) (h : ldV agg n σ v K) : ldV agg n σ v K' := by
  unfold ldV at *
  split at h
  · exact ldR_mono h m
  · obtain ⟨ob, h1, h2⟩ := h; exact ⟨ob, h1, ldR_mono h2 m⟩
  · exact h.elim
theorem isL_inv {xo io : SOp} (h : isL xo io = true) : ∃ agg n1 a1 os1, xo = .ldp agg n1 a1 os1 ∧ ∃ k, memT k os1 = true ∧ ((∃ n2 v2 os2, io = .stp n2 (.t k) v2 os2) ∨ (∃ n2 v2, io = .st n2 (.t k) v2)) := by
  unfold isL at h
  split at h
  · exact ⟨_, _, _, _, rfl, _, h, .inl ⟨_, _, _, rfl⟩⟩
  · exact ⟨_, _, _, _, rfl, _, h, .inr ⟨_, _, rfl⟩⟩
  · cases h
theorem swap_ld {x i : SI} (hL : isL x.op i.op = true) (g1 : x.guard.isNone = true) (g2 : i.guard.isNone = true) (g3 : i.d.isNone = true) (h1 : (match x.d with | some d => !(readsI i).contains d | none => true) = true) {K : Env → Own → Prop} (h : stepR (cx P gl) x (stepR (cx P gl) i K) env σ) : stepR (cx P gl) i (stepR (cx P gl) x K) env σ := by
  obtain ⟨xd, xo, xg⟩ := x
  obtain ⟨idd, io, ig⟩ := i
  cases xg <;> simp at g1
  cases ig <;> simp at g2
  cases idd <;> simp at g3
  have fin : ∀ (agg : Bool) (n1 : Nat) (a1 : Opd) (os1 : List Opd) (k : Nat) (n2 : Nat) (v2 : Opd) (J : Own → Prop → Prop), (∀ σ' (A B : Prop), (A → B) → J σ' A → J σ' B) → memT k os1 = true → opdAV gl (putO env xd .any) v2 = opdAV gl env v2 →
      (apartF gl env (opdAV gl env a1) os1 ∧ ldV agg n1 σ (opdAV gl env a1) fun v => stV n2 σ (find env k) (opdAV gl env v2) fun σ' => J σ' (K (putO env xd v) σ')) →
      stV n2 σ (find env k) (opdAV gl env v2) fun σ' => J σ' (apartF gl env (opdAV gl env a1) os1 ∧ ldV agg n1 σ' (opdAV gl env a1) fun v => K (putO env xd v) σ') := by
    intro agg n1 a1 os1 k n2 v2 J hJ hm _ h
    generalize opdAV gl env v2 = x2 at *
    generalize opdAV gl env a1 = p1 at *
    obtain ⟨q3, h⟩ := h
    unfold ldV at h
    split at h
    · rename_i xs
      obtain ⟨v, l1, l2⟩ := ldR_det h
      exact stV_mono (fun σ' j => hJ _ _ _ (fun kk => ⟨q3, (show ldR agg n1 xs fun v => K (putO env xd v) σ' from ldR_mono l1 (fun v' e => by rw [e]; exact kk))⟩) j) l2
    · rename_i b1 o1
      obtain ⟨ob1, q1, h⟩ := h
      obtain ⟨v, l1, l2⟩ := ldR_det h
      simp only [apartF] at q3
      obtain ⟨b2, o2, hp2, hne⟩ := apart_mem hm q3
      rw [hp2] at l2 ⊢
      simp only [stV] at l2
      split at l2
      · rename_i c3 c4
        obtain ⟨ob2, r1, r2, σ2, rfl, r3⟩ := l2
        have hne' : b1 ≠ b2 := fun e => hne e.symm
        simp only [stV, c3, c4]
        refine ⟨ob2, r1, r2, _, rfl, hJ _ _ _ (fun kk => ⟨q3, ob1, by simp [upd, hne', q1], ldR_mono l1 (fun v' e => by rw [e]; exact kk)⟩) r3⟩
      · exact l2.elim
    · exact h.elim
  have hrd : ∀ t ∈ readsI ⟨none, io, none⟩, ∀ v, find (putO env xd v) t = find env t := by
    intro t ht v
    exact (agree_put (d := xd) (v := v) (i := ⟨none, io, none⟩) h1 t ht).symm
  obtain ⟨agg, n1, a1, os1, e0, k, hL, ⟨n2, v2, os2, e1⟩ | ⟨n2, v2, e1⟩⟩ := isL_inv hL
  · simp only at e0 e1
    subst e0; subst e1
    have e : ∀ v : AV, opdAV gl (putO env xd v) v2 = opdAV gl env v2 := fun v => opdAV_congr fun t ht => hrd t (by simp [readsI, reads, ht]) v
    have ek : ∀ v : AV, find (putO env xd v) k = find env k := fun v => hrd k (by simp [readsI, reads, rO]) v
    have eo : ∀ (v : AV) (p : AV), apartV gl (putO env xd v) p os2 = apartV gl env p os2 := fun v p => apartV_congr fun t ht => hrd t (by simp only [readsI, reads, List.mem_append]; exact .inr (.inr ht)) v
    simp only [stepR, opR, ev_eq, cx] at h ⊢
    have := fin agg n1 a1 os1 k n2 v2 (fun σ' A => apartV gl env (find env k) os2 ∧ A) (fun _ _ _ f ⟨a, b⟩ => ⟨a, f b⟩) hL (e .any) ⟨h.1, by
      have h2 := h.2
      refine ldV_mono (fun v q => ?_) h2
      rw [e v, show opdAV gl (putO env xd v) (.t k) = find env k from ek v, eo v] at q
      exact q⟩
    exact this
  · simp only at e0 e1
    subst e0; subst e1
    have e : ∀ v : AV, opdAV gl (putO env xd v) v2 = opdAV gl env v2 := fun v => opdAV_congr fun t ht => hrd t (by simp [readsI, reads, ht]) v
    have ek : ∀ v : AV, find (putO env xd v) k = find env k := fun v => hrd k (by simp [readsI, reads, rO]) v
    simp only [stepR, opR, ev_eq, cx] at h ⊢
    have := fin agg n1 a1 os1 k n2 v2 (fun σ' A => A) (fun _ _ _ f a => f a) hL (e .any) ⟨h.1, by
      have h2 := h.2
      refine ldV_mono (fun v q => ?_) h2
      rw [e v, show opdAV gl (putO env xd v) (.t k) = find env k from ek v] at q
      exact q⟩
    exact this

/-- what it makes -/
theorem adds_form {s : SOp} (hA : isA s = true) {K : AV → Own → Prop} (h : opR (cx P gl) env σ s K) : ∃ (g : Nat → AV) (ob : Ob), (∀ b, σ b = none → K (g b) (upd σ b ob)) ∧ ∀ (σ' : Own) (K' : AV → Own → Prop), (∀ b, σ' b = none → K' (g b) (upd σ' b ob)) → opR (cx P gl) env σ' s K' := by
  cases s <;> first
    | (cases hA; done)
    | skip
  case box own size x =>
    obtain rfl : own = true := hA
    simp only [opR, ev_eq] at h ⊢
    split at h
    · rename_i hb
      refine ⟨_, _, h, fun σ' K' k => ?_⟩
      exact (by first | (simp only [hb]; exact k) | (split; exact k; rename_i hb2; rw [hb] at hb2; cases hb2) | exact k)
    · exact h.elim
  case alloc own size zero =>
    obtain rfl : own = true := hA
    exact ⟨_, _, h, fun σ' K' k => k⟩
  case bsl own size len zero parts =>
    obtain rfl : own = true := hA
    simp only [opR] at h ⊢
    obtain ⟨cs, l1, l2⟩ := lay_det _ _ h
    exact ⟨_, _, l2, fun σ' K' k => lay_mono (fun cs' e => by rw [e]; exact k) _ _ l1⟩
theorem more_upd {σ : Own} {b : Nat} (hb : σ b = none) (ob : Ob) : More σ (upd σ b ob) := fun j o hj => by
  unfold upd
  split
  · rename_i e; subst e; rw [hb] at hj; cases hj
  · exact hj
theorem mono_more {s : SOp} (hM : isM s = true) {v : AV} {σ' : Own} (hm : More σ σ') (h : opR (cx P gl) env σ s (fun v' σ'' => v' = v ∧ σ'' = σ)) : opR (cx P gl) env σ' s (fun v' σ'' => v' = v ∧ σ'' = σ') := by
  cases s <;> first
    | cases hM
    | skip
  case ld agg size a =>
    simp only [opR, ev_eq, and_true] at h ⊢
    unfold ldV at *
    split at h
    · exact h
    · obtain ⟨ob, h1, h2⟩ := h; exact ⟨ob, hm _ _ h1, h2⟩
    · exact h.elim
  case ldp agg size a os =>
    simp only [opR, ev_eq, and_true] at h ⊢
    refine ⟨h.1, ?_⟩
    have h := h.2
    unfold ldV at *
    split at h
    · exact h
    · obtain ⟨ob, h1, h2⟩ := h; exact ⟨ob, hm _ _ h1, h2⟩
    · exact h.elim
  case callk f args =>
    simp only [opR, evs_eq, and_true] at h ⊢
    obtain ⟨args', v', h1, h2⟩ := h.out
    exact ⟨args', v', fun E hE => h1 E (fun b ob hb => hE b ob (hm b ob hb)), h2⟩
theorem swap_adds {x i : SI} (hM : isM x.op = true ∨ (isA x.op = true ∧ isAl i.op = true)) (hA : isA i.op = true) (g1 : x.guard.isNone = true) (g2 : i.guard.isNone = true) (h1 : (match x.d with | some d => !(readsI i).contains d | none => true) = true) (h2 : (match i.d with | some d => !(readsI x).contains d | none => true) = true) {K : Env → Own → Prop}
    (hext : ∀ (env : Env) (vx vi : AV) σ', K (putO (putO env x.d vx) i.d vi) σ' → K (putO (putO env i.d vi) x.d vx) σ') (h : stepR (cx P gl) x (stepR (cx P gl) i K) env σ) : stepR (cx P gl) i (stepR (cx P gl) x K) env σ := by
  obtain ⟨xd, xo, xg⟩ := x
  obtain ⟨idd, io, ig⟩ := i
  cases xg <;> simp at g1
  cases ig <;> simp at g2
  have ri : ∀ v : AV, ∀ t ∈ reads io, find env t = find (putO env xd v) t := fun v t ht => agree_put (i := ⟨idd, io, none⟩) h1 t (by simpa [readsI] using ht)
  have rx : ∀ v : AV, ∀ t ∈ reads xo, find (putO env idd v) t = find env t := fun v t ht => (agree_put (i := ⟨xd, xo, none⟩) h2 t (by simpa [readsI] using ht)).symm
  simp only [stepR] at h ⊢
  rcases hM with hM | hM
  · have hd : detOp xo = true := by revert hM; cases xo <;> simp [isM, detOp]
    obtain ⟨v, k1, k2⟩ := opR_det hd h
    rw [← opR_congr (ri v)] at k2
    obtain ⟨g, ob, j1, j2⟩ := adds_form hA k2
    refine j2 σ _ fun b hb => ?_
    rw [opR_congr (rx _)]
    refine opR_mono (fun v' σ' ⟨e1, e2⟩ => ?_) (mono_more hM (more_upd hb ob) k1)
    rw [e1, e2]
    exact hext _ _ _ _ (j1 b hb)
  · obtain ⟨hM, hl⟩ := hM
    cases io <;> first
      | (cases hl; done)
      | skip
    rename_i own size zero
    obtain rfl : own = true := hl
    obtain ⟨gx, obx, j1, j2⟩ := adds_form hM h
    show ∀ b2, σ b2 = none → _
    intro b2 hb2
    rw [opR_congr (rx _)]
    refine j2 _ _ fun b1 hb1 => ?_
    have hne : b1 ≠ b2 := fun e => by subst e; simp [upd] at hb1
    have hb1' : σ b1 = none := by simpa [upd, hne] using hb1
    have hb2' : upd σ b1 obx b2 = none := by simp [upd, hb2]; intro e; exact absurd e.symm hne
    have := j1 b1 hb1' b2 hb2'
    have e2 : upd (upd σ b1 obx) b2 ⟨zero.map cAV, (zero.map cAV).length⟩ = upd (upd σ b2 ⟨zero.map cAV, (zero.map cAV).length⟩) b1 obx := by funext j; unfold upd; split <;> split <;> simp_all
    rw [← e2]
    exact hext _ _ _ _ this

theorem swap_st {xo io : SOp} (hS : isS xo io = true) {K : Env → Own → Prop} (h : stepR (cx P gl) ⟨none, xo, none⟩ (stepR (cx P gl) ⟨none, io, none⟩ K) env σ) : stepR (cx P gl) ⟨none, io, none⟩ (stepR (cx P gl) ⟨none, xo, none⟩ K) env σ := by
  unfold isS at hS
  split at hS
  · rename_i n1 a1 v1 os1 n2 k v2 os2
    simp only [stepR, opR, ev_eq, putO, cx] at h ⊢
    rw [show opdAV gl env (.t k) = find env k from rfl] at h ⊢
    generalize opdAV gl env v1 = x1 at *
    generalize opdAV gl env v2 = x2 at *
    generalize hp1 : opdAV gl env a1 = p1 at *
    clear hp1
    unfold stV at h
    split at h
    · rename_i b1 o1
      split at h
      · rename_i c1 c2
        obtain ⟨ob1, q1, q2, σ1, rfl, q3, h⟩ := h
        simp only [apartV] at q3
        obtain ⟨b2, o2, hp2, hne⟩ := apart_mem hS q3
        rw [hp2] at h ⊢
        simp only [stV] at h
        split at h
        · rename_i c3 c4
          obtain ⟨ob2, r1, r2, σ2, rfl, r3, h⟩ := h
          have r1' : σ b2 = some ob2 := by simpa [upd, hne] using r1
          have hne' : b1 ≠ b2 := fun e => hne e.symm
          have q1' : upd σ b2 ⟨ob2.xs.take o2 ++ avCells x2 ++ ob2.xs.drop (o2 + n2), ob2.cap⟩ b1 = some ob1 := by simp [upd, hne', q1]
          have e : upd (upd σ b1 ⟨ob1.xs.take o1 ++ avCells x1 ++ ob1.xs.drop (o1 + n1), ob1.cap⟩) b2 ⟨ob2.xs.take o2 ++ avCells x2 ++ ob2.xs.drop (o2 + n2), ob2.cap⟩ = upd (upd σ b2 ⟨ob2.xs.take o2 ++ avCells x2 ++ ob2.xs.drop (o2 + n2), ob2.cap⟩) b1 ⟨ob1.xs.take o1 ++ avCells x1 ++ ob1.xs.drop (o1 + n1), ob1.cap⟩ := by
            funext j; unfold upd; split <;> split <;> simp_all
          simp only [stV, c3, c4, c1, c2]
          refine ⟨ob2, r1', r2, _, rfl, r3, ob1, q1', q2, _, rfl, q3, ?_⟩
          rw [← e]; exact h
        · exact h.elim
      · exact h.elim
    · exact h.elim
  · cases hS

theorem swap {x i : SI} (hc : comm x i = true) {K : Env → Own → Prop} (hK : Ext K) (h : stepR (cx P gl) x (stepR (cx P gl) i K) env σ) : stepR (cx P gl) i (stepR (cx P gl) x K) env σ := by
  simp only [comm, Bool.and_eq_true, Bool.or_eq_true] at hc
  obtain ⟨⟨⟨h1, h2⟩, h3⟩, h4⟩ := hc
  have hext0 : ∀ (env : Env) (vx vi : AV) σ', K (putO (putO env x.d vx) i.d vi) σ' → K (putO (putO env i.d vi) x.d vx) σ' := by
    intro env vx vi σ'
    refine hK _ _ _ (fun t => ?_)
    simp only [find_put]
    cases hx : x.d with
    | none => simp
    | some d =>
      cases hi : i.d with
      | none => simp
      | some e =>
        rw [hx, hi] at h3
        have hne : d ≠ e := by simpa using h3
        by_cases e1 : some e = some t
        · have : ¬ some d = some t := by intro e2; apply hne; rw [← e1] at e2; simpa using e2
          simp [e1, this]
        · simp [e1]
  rcases h4 with ((h4 | ⟨⟨⟨⟨hS, g1⟩, g2⟩, g3⟩, g4⟩) | ⟨⟨⟨hL, g1⟩, g2⟩, g3⟩) | ⟨⟨⟨hM, hA⟩, g1⟩, g2⟩
  rotate_left
  rotate_left
  · exact swap_ld hL g1 g2 g3 h1 h
  · exact swap_adds hM hA g1 g2 h1 h2 hext0 h
  rotate_left
  · obtain ⟨xd, xo, xg⟩ := x
    obtain ⟨idd, io, ig⟩ := i
    cases xg <;> simp at g1
    cases ig <;> simp at g2
    cases xd <;> simp at g3
    cases idd <;> simp at g4
    exact swap_st hS h
  have hdx : detOp x.op = true := by
    rcases h4 with (h4 | h4) | h4
    · exact h4.1
    · revert h4; cases x.op <;> simp [pOp, detOp]
    · have h4 := h4.1.1.1
      revert h4; cases x.op <;> simp [isK, detOp]
  obtain ⟨vx, ox, hi⟩ := step_det hdx h
  have hext : ∀ vi σ', K (putO (putO env x.d vx) i.d vi) σ' → K (putO (putO env i.d vi) x.d vx) σ' := by
    intro vi σ'
    refine hK _ _ _ (fun t => ?_)
    simp only [find_put]
    cases hx : x.d with
    | none => simp
    | some d =>
      cases hi : i.d with
      | none => simp
      | some e =>
        rw [hx, hi] at h3
        have hne : d ≠ e := by simpa using h3
        by_cases e1 : some e = some t
        · have : ¬ some d = some t := by intro e2; apply hne; rw [← e1] at e2; simpa using e2
          simp [e1, this]
        · simp [e1]
  rcases h4 with (⟨_, hdi⟩ | hp) | ⟨⟨⟨hk, hn⟩, g1⟩, g2⟩
  · obtain ⟨vi, oi, hk⟩ := step_det hdi hi
    exact out_step (out_congr (agree_put h1) oi) (out_step (out_congr (fun t ht => (agree_put (env := env) (v := vi) h2 t ht).symm) ox) (hext vi σ hk))
  · refine stepR_congr (agree_put h1) (fun vi σ' hk => ?_) hi
    exact out_step (out_blind hp (out_congr (fun t ht => (agree_put (env := env) (v := vi) h2 t ht).symm) ox)) (hext vi σ' hk)
  · obtain ⟨xd, xo, xg⟩ := x
    obtain ⟨idd, io, ig⟩ := i
    cases xg <;> simp at g1
    cases ig <;> simp at g2
    cases xo <;> simp [isK] at hk
    cases io <;> simp [isN] at hn
    rename_i f args f' args'
    clear hi ox hext hext0
    simp only [stepR, opR, evs_eq] at h ⊢
    obtain ⟨as, v, hs, hk⟩ := h.out
    obtain ⟨bs, s1, a1⟩ := hk.out
    have e1 : args'.map (opdAV (cx P gl).gl (putO env xd v)) = args'.map (opdAV (cx P gl).gl env) := (opds_congr fun t ht => agree_put (i := ⟨idd, .calln f' args', none⟩) h1 t (by simp [readsI, reads]; simpa using ht)).symm
    rw [e1] at s1
    refine ⟨bs, s1, a1.mono fun vi σ' ⟨hm, hK2⟩ => ⟨hm, ?_⟩⟩
    have e2 : args.map (opdAV (cx P gl).gl (putO env idd vi)) = args.map (opdAV (cx P gl).gl env) := (opds_congr fun t ht => agree_put (i := ⟨xd, .callk f args, none⟩) h2 t (by simp [readsI, reads]; simpa using ht)).symm
    rw [e2]
    refine ⟨as, v, fun E hE => hs E fun b ob hb => hE b ob (hm b ob hb), ?_⟩
    refine hK _ _ _ (fun t => ?_) hK2
    simp only [find_put]
    cases xd with
    | none => simp
    | some d =>
      cases idd with
      | none => simp
      | some e =>
        have hne : d ≠ e := by simpa using h3
        by_cases q1 : some e = some t
        · have : ¬ some d = some t := by intro q2; apply hne; rw [← q1] at q2; simpa using q2
          simp [q1, this]
        · simp [q1]

theorem ahead {i : SI} {K : Env → Own → Prop} (hK : Ext K) : ∀ {l1 : List SI} {l2 : List SI} {env : Env} {σ : Own}, (∀ x ∈ l1, comm x i = true) → opsR (cx P gl) (l1 ++ i :: l2) K env σ → stepR (cx P gl) i (opsR (cx P gl) (l1 ++ l2) K) env σ
  | [], l2, env, σ, _, h => by simpa [opsR_cons] using h
  | x :: l1, l2, env, σ, hc, h => by
    rw [List.cons_append, opsR_cons] at h
    have h2 : stepR (cx P gl) x (stepR (cx P gl) i (opsR (cx P gl) (l1 ++ l2) K)) env σ := stepR_mono (fun env σ h => ahead hK (fun y hy => hc y (by simp [hy])) h) h
    have := swap (hc x (by simp)) (ext_ops hK _) h2
    exact stepR_mono (fun env σ h => by rw [List.cons_append, opsR_cons]; exact h) this

/-- what guards told is so -/
def Told (γ : List (Nat × Bool)) (env : Env) : Prop := ∀ t b, findB γ t = some b → find env t = .w (.bool b)

theorem findB_cons (γ : List (Nat × Bool)) (d t : Nat) (b : Bool) : findB ((d, b) :: γ) t = if d = t then some b else findB γ t := by
  simp only [findB]
  by_cases h : d = t
  · simp [h]
  · rw [if_neg h]
    have : Nat.beq d t = false := by
      cases hb : Nat.beq d t with
      | true => exact absurd (Nat.eq_of_beq_eq_true hb) h
      | false => rfl
    rw [this]
theorem findB_drop : ∀ (γ : List (Nat × Bool)) (d t : Nat), findB (dropB γ d) t = if d = t then none else findB γ t
  | [], d, t => by simp [dropB, findB]
  | (i, b) :: r, d, t => by
    simp only [dropB]
    cases hb : Nat.beq i d with
    | true =>
      have e := Nat.eq_of_beq_eq_true hb
      subst e
      rw [findB_drop r i t, findB_cons]
      by_cases h : i = t
      · rw [if_pos h, if_pos h]
      · rw [if_neg h, if_neg h, if_neg h]
    | false =>
      have hne : i ≠ d := by rintro rfl; simp at hb
      simp only
      rw [findB_cons, findB_drop r d t, findB_cons]
      by_cases h : i = t
      · subst h; rw [if_pos rfl, if_pos rfl, if_neg (fun e => hne e.symm)]
      · rw [if_neg h, if_neg h]
theorem Told.put {γ : List (Nat × Bool)} (h : Told γ env) (d : Nat) (v : AV) : Told (dropB γ d) ((d, v) :: env) := by
  intro t b hb
  rw [findB_drop] at hb
  rw [find_cons]
  by_cases e : d = t
  · rw [if_pos e] at hb; cases hb
  · rw [if_neg e] at hb ⊢; exact h t b hb
theorem Told.know {γ : List (Nat × Bool)} (h : Told γ env) {t : Nat} {b : Bool} (hb : find env t = .w (.bool b)) : Told ((t, b) :: γ) env := by
  intro t' b' h'
  rw [findB_cons] at h'
  by_cases e : t = t'
  · subst e; rw [if_pos rfl] at h'; cases h'; exact hb
  · rw [if_neg e] at h'; exact h t' b' h'

theorem opG_sound {γ : List (Nat × Bool)} (ht : Told γ env) {s : SOp} {K : AV → Own → Prop} (h : opG (cx P gl) γ env σ s K) : opR (cx P gl) env σ s K := by
  unfold opG at h
  split at h
  · rename_i t x y
    split at h
    · rename_i hb
      simp only [opR, ev_eq, opdAV] at h ⊢
      rw [ht t true hb]
      exact ⟨fun _ => h, fun e => by cases e⟩
    · rename_i hb
      simp only [opR, ev_eq, opdAV] at h ⊢
      rw [ht t false hb]
      exact ⟨fun e => (by cases e), fun _ => h⟩
    · exact h
  · exact h

theorem opsG_sound {K : Env → Own → Prop} : ∀ {l : List SI} {γ : List (Nat × Bool)} {env : Env} {σ : Own}, Told γ env → opsG (cx P gl) l γ K env σ → opsR (cx P gl) l K env σ
  | [], γ, env, σ, _, h => h
  | i :: l, γ, env, σ, ht, h => by
    rw [opsR_cons]
    have step : ∀ (γ' : List (Nat × Bool)), Told γ' env → (opG (cx P gl) γ' env σ i.op fun v σ' => match i.d with
        | some d => opsG (cx P gl) l (dropB γ' d) K ((d, v) :: env) σ'
        | none => opsG (cx P gl) l γ' K env σ') → opR (cx P gl) env σ i.op fun v σ' => opsR (cx P gl) l K (putO env i.d v) σ' := by
      intro γ' ht' h'
      refine opR_mono (fun v σ' h2 => ?_) (opG_sound ht' h')
      cases hd : i.d with
      | none => rw [hd] at h2; exact opsG_sound ht' h2
      | some d => rw [hd] at h2; exact opsG_sound (ht'.put d v) h2
    have skip : ∀ (γ' : List (Nat × Bool)), Told γ' env → (match i.d with
        | some d => opsG (cx P gl) l (dropB γ' d) K ((d, .w (.tuple #[])) :: env) σ
        | none => opsG (cx P gl) l γ' K env σ) → opsR (cx P gl) l K (putO env i.d (.w (.tuple #[]))) σ := by
      intro γ' ht' h2
      cases hd : i.d with
      | none => rw [hd] at h2; exact opsG_sound ht' h2
      | some d => rw [hd] at h2; exact opsG_sound (ht'.put d _) h2
    unfold stepR
    unfold opsG at h
    cases hg : i.guard with
    | none =>
      simp only [hg] at h ⊢
      exact step γ ht h
    | some g =>
      obtain ⟨t, want⟩ := g
      simp only [hg] at h ⊢
      cases hb : findB γ t with
      | some b =>
        rw [ht t b hb]
        simp only [hb] at h
        cases b <;> cases want
        · exact ⟨fun _ => step γ ht h, fun e => by cases e⟩
        · exact ⟨fun e => (by cases e), fun _ => skip γ ht h⟩
        · exact ⟨fun e => (by cases e), fun _ => skip γ ht h⟩
        · exact ⟨fun _ => step γ ht h, fun e => by cases e⟩
      | none =>
        simp only [hb, look_eq] at h
        obtain ⟨b, hv⟩ | ⟨b, hv⟩ := guard_of h
        · rw [hv] at h ⊢
          refine ⟨fun e => step _ (ht.know (by rw [hv, e])) (h.1 e), fun e => skip _ (ht.know (by rw [hv, e])) (h.2 e)⟩
        · rw [hv] at h ⊢
          exact skip _ ht h

end Go.Ab
/-! From the model's code to the plain machine's; what the plain machine says holds of the model. -/
namespace Go.Ab
set_option linter.unusedVariables false
set_option linter.unusedSimpArgs false

def cGuard (ops : Array Oper) : Option (Nat × Bool) → Option (Option (Nat × Bool))
  | none => some none
  | some (j, b) => match (ops[j]?).bind (·.dst) with
    | some t => some (some (t, b))
    | none => none
def dOk (N : Nat) : Option Nat → Bool
  | none => true
  | some d => Nat.blt d N

def cSI (P : Program) (N : Nat) (ops : Array Oper) (o : Oper) (g : SI) : Option SI :=
  match dOk N o.dst with
  | false => none
  | true => match cOp P g.op o.op, cGuard ops o.guard with
    | some s, some gd => some ⟨o.dst, s, gd⟩
    | _, _ => none

def cOps (P : Program) (N : Nat) (ops : Array Oper) : List Oper → List SI → Option (List SI)
  | [], [] => some []
  | o :: os, g :: gs => match cSI P N ops o g with
    | some s => match cOps P N ops os gs with
      | some l => some (s :: l)
      | none => none
    | none => none
  | _, _ => none

/-- the order in which the plain machine takes them: each behind those that must come first; each two of which one may go ahead of the other one may do so -/
def permOk (ops : Array Oper) : List Nat → List SI → List Nat → Bool
  | [], [], _ => true
  | p :: ps, i :: is, done => match ops[p]? with
    | some o => o.after.all (fun e => !Region.binds .any e || done.contains e.on) && !done.contains p && permOk ops ps is (p :: done)
    | none => false
  | _, _, _ => false
/-- of each operation those that must come before it, as bits -/
def maskOf (acc : List Nat) (o : Oper) : Nat := o.after.toList.foldl (fun s e => if Region.binds .any e then s ||| 2 ^ e.on ||| acc.getD e.on 0 else s) 0
def clo : List Oper → List Nat → List Nat
  | [], acc => acc
  | o :: os, acc => clo os (acc ++ [maskOf acc o])
def commOk (ms : List Nat) : List Nat → List SI → Bool
  | [], [] => true
  | p :: ps, i :: is => ((ps.zip is).all fun q => (ms.getD q.1 0).testBit p || comm i q.2) && commOk ms ps is
  | _, _ => false

def cCode (P : Program) (N : Nat) : SC → Code → Option SC
  | .seq .says g, c => match cCode P N g c with
    | some s => some (.seq .says s)
    | none => none
  | .skip, .skip => some .skip
  | .region gs keep, .skip => match gs with
    | [] => some (.region [] keep)
    | _ :: _ => none
  | .region gs keep, .region _ ops draw => match draw with
    | true => none
    | false => match cOps P N ops ops.toList gs with
      | some l => some (.region l keep)
      | none => none
  | .drawn perm gs keep, .region _ ops draw => match draw with
    | false => none
    | true => match cOps P N ops (perm.map fun p => ops.getD p default) gs with
      | some l => if perm.length = ops.size ∧ permOk ops perm l [] = true ∧ commOk (clo ops.toList []) perm l = true ∧ (List.range ops.size).all (fun x => perm.contains x) = true then some (.drawn perm l keep) else none
      | none => none
  | .seq g h, .seq a b => match cCode P N g a with
    | some s => match cCode P N h b with
      | some t => some (.seq s t)
      | none => none
    | none => none
  | .cond _ g h, .cond c a b => match cCode P N g a with
    | some s => match cCode P N h b with
      | some t => some (.cond (cOpd c) s t)
      | none => none
    | none => none
  | .block _ keep g, .block id a => match cCode P N g a with
    | some s => some (.block id keep s)
    | none => none
  | .loop keep g, .loop a => match cCode P N g a with
    | some s => some (.loop keep s)
    | none => none
  | .exit _, .exit id => some (.exit id)
  | .ret, .ret => some .ret
  | .dead, c => match c with
    | .region _ _ _ => some .dead
    | _ => none
  | _, _ => none

variable {P : Program} {gl : Nat → Option (List AV)} {N : Nat}

/-- The world of a walk: where it began, what stands now. -/
structure At (gl : Nat → Option (List AV)) (N : Nat) (σ0 : Own) (w0 : World) (env : Env) (σ : Own) (a : Act) (w : World) : Prop where
  rel : Rel gl σ w
  env : EnvR N σ w env a
  stays : Stays σ0 w0 σ w

def Post (gl : Nat → Option (List AV)) (N : Nat) (σ0 : Own) (w0 : World) (J : Env → Own → Prop) (a : Act) (w : World) : Prop := ∃ env σ, J env σ ∧ At gl N σ0 w0 env σ a w

theorem yielded_of {ops : Array Oper} {a : Act} {j t : Nat} {b : Bool} (hj : (ops[j]?).bind (·.dst) = some t) (h : a.tmps.getD t undef = .bool b) : yielded ops a.tmps j = some b := by
  unfold yielded
  rw [hj]
  have : a.tmps[t]? = some (.bool b) := by
    rw [Array.getD_eq_getD_getElem?] at h
    cases hx : a.tmps[t]? with
    | none => rw [hx] at h; simp [undef] at h
    | some v => rw [hx] at h; simpa using h
  simp [this]

theorem yielded_none {ops : Array Oper} {a : Act} {j t : Nat} {b : Array Value} (hj : (ops[j]?).bind (·.dst) = some t) (h : a.tmps.getD t undef = .tuple b) : yielded ops a.tmps j = none := by
  unfold yielded
  rw [hj]
  rw [Array.getD_eq_getD_getElem?] at h
  cases hx : a.tmps[t]? with
  | none => simp [hx]
  | some v => rw [hx] at h; simp at h; subst h; simp [hx]
theorem out_wp {o : Oper} {a : Act} {w : World} {J : Value → World → Prop} {K : Act → World → Prop} {Q : Exit → Act → World → Prop} (h : OpOut P ((execOp a.eval o).run P w) J) (k : ∀ v w', J v w' → K (a.put o.dst v) w') : o.wp P a w K Q := by
  unfold Oper.wp
  unfold OpOut at h
  split at h
  · rename_i r v w' heq; rw [heq]; exact k _ _ h
  · rename_i r w' heq; rw [heq]; exact k _ _ h
  · rename_i r f args w' heq; rw [heq]
    exact Calls.mono h fun e w'' ⟨v, h1, h2⟩ => by subst h1; exact k _ _ h2
  · rename_i r row args w' heq; rw [heq]
    exact Rows.mono h fun v w'' q => k _ _ q
  · exact h.elim

/-- one operation with its guard -/
theorem si_sound {ops : Array Oper} {o : Oper} {g s : SI} (hc : cSI P N ops o g = some s) {σ0 : Own} {w0 : World} {env : Env} {σ : Own} {a : Act} {w : World} (hat : At gl N σ0 w0 env σ a w) {J : Env → Own → Prop} (h : stepR (cx P gl) s J env σ)
    {K : Act → World → Prop} {Q : Exit → Act → World → Prop} (k : ∀ a w, Post gl N σ0 w0 J a w → K a w) :
    if Region.wanted o (yielded ops a.tmps) then o.wp P a w K Q else K (a.put o.dst undef) w := by
  unfold cSI at hc
  split at hc
  · cases hc
  · rename_i hd
    split at hc
    · rename_i sop gd h1 h2
      cases hc
      have put : ∀ {v : AV} {cv : Value} {σ' : Own} {w' : World}, Rel gl σ' w' → Stays σ w σ' w' → VR (Im σ' w') w' v cv → At gl N σ0 w0 (putO env o.dst v) σ' (a.put o.dst cv) w' := by
        intro v cv σ' w' r1 r2 r3
        refine ⟨r1, ?_, hat.stays.trans r2⟩
        have he := hat.env.stay r2
        cases hdst : o.dst with
        | none => exact he
        | some d =>
          rw [hdst] at hd
          have hd' : d < N := by
            exact Nat.le_of_ble_eq_true hd
          exact he.put hd' r3
      have run : ∀ {J' : AV → Own → Prop}, opR (cx P gl) env σ sop J' → (∀ v σ', J' v σ' → J (putO env o.dst v) σ') → o.wp P a w K Q := by
        intro J' hJ hm
        refine out_wp (op_sound h1 hat.rel hat.env hJ) (fun cv w' ⟨v, σ', k1, k2, k3, k4⟩ => k _ _ ⟨_, σ', hm _ _ k1, put k2 k3 k4⟩)
      unfold stepR at h
      cases hg : o.guard with
      | none =>
        rw [hg] at h2
        cases h2
        simp only at h
        rw [if_pos (by simp [Region.wanted, hg])]
        exact run h (fun v σ' q => q)
      | some gp =>
        obtain ⟨j, want⟩ := gp
        rw [hg] at h2
        simp only [cGuard] at h2
        split at h2
        · rename_i t ht
          cases h2
          simp only at h
          have hv := hat.env.val t
          obtain ⟨b, hb⟩ | ⟨b, hb⟩ := guard_of h
          · rw [hb] at h
            rw [hb] at hv
            have hy := yielded_of ht hv.w_inv
            by_cases hw : b = want
            · rw [if_pos (by simp [Region.wanted, hg, hy, hw])]
              exact run (h.1 hw) (fun v σ' q => q)
            · rw [if_neg (by simp [Region.wanted, hg, hy, hw])]
              have hw' : b = !want := by cases b <;> cases want <;> simp_all
              exact k _ _ ⟨_, σ, h.2 hw', put hat.rel (.refl _ _) (.w _)⟩
          · rw [hb] at h
            rw [hb] at hv
            have hy := yielded_none ht hv.w_inv
            rw [if_neg (by simp [Region.wanted, hg, hy])]
            exact k _ _ ⟨_, σ, h, put hat.rel (.refl _ _) (.w _)⟩
        · cases h2
    · cases hc

theorem cOps_cons {ops : Array Oper} {o : Oper} {os : List Oper} {gs l : List SI} (h : cOps P N ops (o :: os) gs = some l) : ∃ g gs' s l', gs = g :: gs' ∧ l = s :: l' ∧ cSI P N ops o g = some s ∧ cOps P N ops os gs' = some l' := by
  cases gs with
  | nil => simp [cOps] at h
  | cons g gs' =>
    simp only [cOps] at h
    split at h
    · rename_i s hs
      split at h
      · rename_i l' hl
        cases h
        exact ⟨g, gs', s, l', rfl, rfl, hs, hl⟩
      · cases h
    · cases h

theorem ops_sound {ops : Array Oper} {σ0 : Own} {w0 : World} {J : Env → Own → Prop} {Q : Exit → Act → World → Prop} (hq : ∀ a w, Post gl N σ0 w0 J a w → Q .normal a w) : ∀ (os : List Oper) (gs l : List SI), cOps P N ops os gs = some l →
    ∀ (env : Env) (σ : Own) (a : Act) (w : World), At gl N σ0 w0 env σ a w → opsR (cx P gl) l J env σ → wpList P ops Q os a w
  | [], gs, l, hc, env, σ, a, w, hat, h => by
    cases gs with
    | nil =>
      simp only [cOps] at hc
      cases hc
      exact hq a w ⟨env, σ, h, hat⟩
    | cons g gs => simp [cOps] at hc
  | o :: os, gs, l, hc, env, σ, a, w, hat, h => by
    obtain ⟨g, gs', s, l', rfl, rfl, h1, h2⟩ := cOps_cons hc
    rw [opsR_cons] at h
    exact wpList_step fun K hK => si_sound h1 hat h fun a w ⟨env, σ, hj, hat'⟩ => hK a w (ops_sound hq os gs' l' h2 env σ a w hat' hj)

/-- one operation must come before another one -/
inductive Path (ops : Array Oper) (x : Nat) : Nat → Prop
  | one {i : Nat} {o : Oper} {e : Edge} (ho : ops[i]? = some o) (he : e ∈ o.after) (hb : Region.binds .any e = true) (hx : e.on = x) : Path ops x i
  | step {i : Nat} {o : Oper} {e : Edge} (ho : ops[i]? = some o) (he : e ∈ o.after) (hb : Region.binds .any e = true) (h : Path ops x e.on) : Path ops x i

/-- all that must come before i is done -/
def Behind (ops : Array Oper) (done : List Nat) (i : Nat) : Prop := ∀ o, ops[i]? = some o → ∀ e ∈ o.after, Region.binds .any e = true → e.on ∈ done

theorem Path.done {ops : Array Oper} {done : List Nat} {x i : Nat} (h : Path ops x i) (hd : ∀ p ∈ done, Behind ops done p) (hi : Behind ops done i) : x ∈ done := by
  induction h with
  | one ho he hb hx => rw [← hx]; exact hi _ ho _ he hb
  | step ho he hb h ih => exact ih (hd _ (hi _ ho _ he hb))

theorem mask_bit {acc : List Nat} {x : Nat} : ∀ {l : List Edge} {s : Nat}, (l.foldl (fun s e => if Region.binds .any e then s ||| 2 ^ e.on ||| acc.getD e.on 0 else s) s).testBit x = true →
    s.testBit x = true ∨ ∃ e ∈ l, Region.binds .any e = true ∧ (e.on = x ∨ (acc.getD e.on 0).testBit x = true)
  | [], s, h => .inl h
  | e :: l, s, h => by
    rw [List.foldl_cons] at h
    rcases mask_bit h with h | ⟨e', he', h1, h2⟩
    · split at h
      · rename_i hb
        rw [Nat.testBit_or, Nat.testBit_or, Bool.or_eq_true, Bool.or_eq_true, Nat.testBit_two_pow] at h
        rcases h with (h | h) | h
        · exact .inl h
        · exact .inr ⟨e, by simp, hb, .inl (by simpa using h)⟩
        · exact .inr ⟨e, by simp, hb, .inr h⟩
      · exact .inl h
    · exact .inr ⟨e', by simp [he'], h1, h2⟩

theorem clo_path {ops : Array Oper} : ∀ (os : List Oper) (acc : List Nat), (∀ j o, os[j]? = some o → ops[acc.length + j]? = some o) → (∀ i x, (acc.getD i 0).testBit x = true → Path ops x i) →
    ∀ i x, ((clo os acc).getD i 0).testBit x = true → Path ops x i
  | [], acc, _, h => h
  | o :: os, acc, ho, h => by
    refine clo_path os (acc ++ [maskOf acc o]) (fun j o' hj => ?_) (fun i x hx => ?_)
    · have := ho (j + 1) o' (by simpa using hj)
      rw [List.length_append, List.length_singleton]
      rw [← this]; congr 1; omega
    · by_cases hi : i < acc.length
      · refine h i x ?_
        simpa [List.getD_eq_getElem?_getD, List.getElem?_append_left hi] using hx
      · by_cases hi2 : i = acc.length
        · subst hi2
          have hx' : (maskOf acc o).testBit x = true := by
            simpa [List.getD_eq_getElem?_getD, List.getElem?_append_right (Nat.le_refl _)] using hx
          have hoo : ops[acc.length]? = some o := by simpa using ho 0 o rfl
          rcases mask_bit hx' with h0 | ⟨e, he, hb, h1⟩
          · simp at h0
          · rcases h1 with h1 | h1
            · exact .one hoo (by simpa using he) hb h1
            · exact .step hoo (by simpa using he) hb (h _ _ h1)
        · exfalso
          rw [List.getD_eq_getElem?_getD, List.getElem?_eq_none (by simp; omega)] at hx
          simp at hx

/-- what is left to do, in the plain machine's order, and what is done -/
def Left (P : Program) (N : Nat) (ops : Array Oper) : List Nat → List (Nat × SI) → Prop
  | _, [] => True
  | done, q :: r => (∃ o g, ops[q.1]? = some o ∧ cSI P N ops o g = some q.2 ∧ ∀ e ∈ o.after, Region.binds .any e = true → e.on ∈ done) ∧ q.1 ∉ done ∧
      (∀ q' ∈ r, Path ops q.1 q'.1 ∨ comm q.2 q'.2 = true) ∧ Left P N ops (q.1 :: done) r

theorem Left.same {ops : Array Oper} : ∀ {r : List (Nat × SI)} {d d' : List Nat}, (∀ x, x ∈ d ↔ x ∈ d') → Left P N ops d r → Left P N ops d' r
  | [], _, _, _, _ => trivial
  | q :: r, d, d', hd, ⟨⟨o, g, h1, h2, h3⟩, h4, h5, h6⟩ =>
    ⟨⟨o, g, h1, h2, fun e he hb => (hd _).1 (h3 e he hb)⟩, fun h => h4 ((hd _).2 h), h5, Left.same (fun x => by simp only [List.mem_cons, hd x]) h6⟩

theorem Left.mem {ops : Array Oper} : ∀ {r1 r2 : List (Nat × SI)} {q : Nat × SI} {d : List Nat}, Left P N ops d (r1 ++ q :: r2) →
    q.1 ∉ d ∧ (∃ o g, ops[q.1]? = some o ∧ cSI P N ops o g = some q.2) ∧ (∀ x ∈ r1, x.1 ∉ d ∧ x.1 ≠ q.1 ∧ (Path ops x.1 q.1 ∨ comm x.2 q.2 = true)) ∧ Left P N ops (q.1 :: d) (r1 ++ r2)
  | [], r2, q, d, ⟨⟨o, g, h1, h2, h3⟩, h4, h5, h6⟩ => ⟨h4, ⟨o, g, h1, h2⟩, fun x hx => by simp at hx, h6⟩
  | x :: r1, r2, q, d, ⟨⟨o, g, h1, h2, h3⟩, h4, h5, h6⟩ => by
    obtain ⟨k1, k2, k3, k4⟩ := Left.mem h6
    have hne : x.1 ≠ q.1 := fun e => k1 (by simp [e])
    refine ⟨fun h => k1 (by simp [h]), k2, fun y hy => ?_, ⟨⟨o, g, h1, h2, fun e he hb => by simp [h3 e he hb]⟩, ?_, fun q' hq' => h5 q' ?_, ?_⟩⟩
    · rcases List.mem_cons.1 hy with rfl | hy
      · exact ⟨h4, hne, h5 q (by simp)⟩
      · obtain ⟨a, b, c⟩ := k3 y hy
        exact ⟨fun h => a (by simp [h]), b, c⟩
    · intro h
      rcases List.mem_cons.1 h with h | h
      · exact hne h
      · exact h4 h
    · rcases List.mem_append.1 hq' with h | h
      · exact List.mem_append.2 (.inl h)
      · exact List.mem_append.2 (.inr (List.mem_cons_of_mem _ h))
    · refine Left.same (fun z => ?_) k4
      simp only [List.mem_cons]
      exact ⟨fun h => h.elim (fun h => .inr (.inl h)) (fun h => h.elim .inl (fun h => .inr (.inr h))), fun h => h.elim (fun h => .inr (.inl h)) (fun h => h.elim .inl (fun h => .inr (.inr h)))⟩

theorem drawn_any {ops : Array Oper} {σ0 : Own} {w0 : World} {J : Env → Own → Prop} (hJ : Ext J) {Q : Exit → Act → World → Prop} (hq : ∀ a w, Post gl N σ0 w0 J a w → Q .normal a w) : ∀ (n : Nat) (r : List (Nat × SI)) (done : List Nat) (listed : Array Bool),
    r.length = n → Left P N ops done r → (∀ x, x < ops.size → (listed.getD x true = true ↔ x ∈ done)) → listed.size = ops.size → (∀ x ∈ done, x < ops.size ∧ Behind ops done x) → (∀ x, x < ops.size → x ∈ done ∨ x ∈ r.map (·.1)) →
    ∀ (env : Env) (σ : Own) (a : Act) (w : World), At gl N σ0 w0 env σ a w → opsR (cx P gl) (r.map (·.2)) J env σ → wpAny P .any ops Q n listed a w := by
  intro n
  induction n with
  | zero =>
    intro r done listed hn hL hl hs hdl hall env σ a w hat h
    have hr : r = [] := by simpa using hn
    subst hr
    refine ⟨?_, hq a w ⟨env, σ, h, hat⟩⟩
    unfold Region.ready
    rw [List.filter_eq_nil_iff]
    intro i hi
    have hi' : i < ops.size := by simpa using hi
    have := (hl i hi').2 (by simpa using hall i hi')
    simp [this]
  | succ n ih =>
    intro r done listed hn hL hl hs hdl hall env σ a w hat h
    have gd : ∀ x, x < ops.size → listed.getD x true = listed.getD x false := by
      intro x hx
      have : x < listed.size := by omega
      simp [Array.getD_eq_getD_getElem?, this]
    refine ⟨fun hnil => ?_, fun i hi => ?_⟩
    · exfalso
      cases r with
      | nil => simp at hn
      | cons q r =>
        obtain ⟨⟨o, g, h1, h2, h3⟩, h4, _, _⟩ := hL
        have hlt : q.1 < ops.size := (Array.getElem?_eq_some_iff.1 h1).1
        unfold Region.ready at hnil
        rw [List.filter_eq_nil_iff] at hnil
        refine hnil q.1 (by simpa using hlt) ?_
        have hf : listed.getD q.1 true = false := by
          cases hb : listed.getD q.1 true with
          | false => rfl
          | true => exact absurd ((hl _ hlt).1 hb) h4
        simp only [hf, Bool.not_false, h1, Option.map_some, Option.getD_some, Bool.true_and]
        rw [Array.all_eq_true']
        intro e he
        cases hbd : Region.binds .any e with
        | false => rfl
        | true =>
          have hin := h3 e he hbd
          -- what is done stands in the list of what is done
          have hlt2 := (hdl _ hin).1
          rw [← gd _ hlt2, (hl _ hlt2).2 hin]; rfl
    · unfold Region.ready at hi
      rw [List.mem_filter] at hi
      obtain ⟨hi1, hi2⟩ := hi
      have hlt : i < ops.size := by simpa using hi1
      simp only [Bool.and_eq_true, Bool.not_eq_true'] at hi2
      have hnd : i ∉ done := fun hd => by rw [(hl i hlt).2 hd] at hi2; exact absurd hi2.1 (by simp)
      have hmem : i ∈ r.map (·.1) := (hall i hlt).resolve_left hnd
      obtain ⟨q, hq', rfl⟩ := List.mem_map.1 hmem
      obtain ⟨r1, r2, rfl⟩ := List.append_of_mem hq'
      obtain ⟨k1, ⟨o, g, ho, hc⟩, k3, k4⟩ := Left.mem hL
      have hbi : Behind ops done q.1 := by
        intro o' ho' e he hb
        rw [ho'] at hi2
        have := hi2.2
        simp only [Option.map_some, Option.getD_some] at this
        rw [Array.all_eq_true'] at this
        have := this e he
        rw [hb] at this
        simp only [Bool.not_true, Bool.false_or] at this
        have hylt : e.on < ops.size := by
          by_cases hlt3 : e.on < listed.size
          · omega
          · simp [Array.getD_eq_getD_getElem?, Array.getElem?_eq_none (Nat.le_of_not_lt hlt3)] at this
        rw [← gd _ hylt] at this
        exact (hl _ hylt).1 this
      have hcomm : ∀ x ∈ r1.map (·.2), comm x q.2 = true := by
        intro x hx
        obtain ⟨y, hy, rfl⟩ := List.mem_map.1 hx
        obtain ⟨a1, a2, a3⟩ := k3 y hy
        rcases a3 with hp | a3
        · exact absurd (hp.done (fun p hp => (hdl p hp).2) hbi) a1
        · exact a3
      rw [List.map_append, List.map_cons] at h
      have h' := ahead hJ hcomm h
      have key := si_sound hc hat h' (K := wpAny P .any ops Q n (listed.setIfInBounds q.1 true)) (Q := Q) (fun a w ⟨env, σ, hj, hat'⟩ => by
        refine ih (r1 ++ r2) (q.1 :: done) _ (by simp at hn ⊢; omega) k4 ?_ (by simp [hs]) (fun x hx => (List.mem_cons.1 hx).elim (fun e => by subst e; exact ⟨hlt, fun o ho e he hb => List.mem_cons_of_mem _ (hbi o ho e he hb)⟩) (fun hx => ⟨(hdl x hx).1, fun o ho e he hb => List.mem_cons_of_mem _ ((hdl x hx).2 o ho e he hb)⟩)) ?_ env σ a w hat' (by rw [List.map_append]; exact hj)
        · intro x hx
          by_cases e : x = q.1
          · subst e
            have : q.1 < listed.size := by omega
            simp [Array.getD_eq_getD_getElem?, this]
          · have : (listed.setIfInBounds q.1 true).getD x true = listed.getD x true := by
              simp [Array.getD_eq_getD_getElem?, Array.getElem?_setIfInBounds, Ne.symm e]
            rw [this, hl x hx]
            simp [e]
        · intro x hx
          rcases hall x hx with h | h
          · exact .inl (by simp [h])
          · simp only [List.map_append, List.map_cons, List.mem_append, List.mem_cons] at h ⊢
            rcases h with h | h | h
            · exact .inr (.inl h)
            · exact .inl (.inl h)
            · exact .inr (.inr h))
      unfold wpOp
      rw [ho]
      simp only
      split
      · rename_i hw; rw [if_pos hw] at key; exact .inl key
      · rename_i hw; rw [if_neg hw] at key; exact key

theorem cOps_zip {ops : Array Oper} : ∀ {os : List Oper} {gs l : List SI}, cOps P N ops os gs = some l → l.length = os.length ∧ ∀ (i : Nat) (o : Oper) (s : SI), os[i]? = some o → l[i]? = some s → ∃ g, cSI P N ops o g = some s
  | [], gs, l, h => by
    cases gs with
    | nil => simp only [cOps] at h; cases h; exact ⟨rfl, fun i o s h => by simp at h⟩
    | cons g gs => simp [cOps] at h
  | o :: os, gs, l, h => by
    obtain ⟨g, gs', s, l', rfl, rfl, h1, h2⟩ := cOps_cons h
    obtain ⟨k1, k2⟩ := cOps_zip h2
    refine ⟨by simp [k1], fun i o' s' ho hs => ?_⟩
    cases i with
    | zero =>
      have e1 : o = o' := by simpa using ho
      have e2 : s = s' := by simpa using hs
      subst e1; subst e2; exact ⟨g, h1⟩
    | succ i => exact k2 i o' s' (by simpa using ho) (by simpa using hs)

theorem left_of {ops : Array Oper} : ∀ (perm : List Nat) (l : List SI) (done : List Nat), perm.length = l.length → (∀ (i p : Nat) (s : SI), perm[i]? = some p → l[i]? = some s → ∃ o g, ops[p]? = some o ∧ cSI P N ops o g = some s) →
    permOk ops perm l done = true → commOk (clo ops.toList []) perm l = true → Left P N ops done (perm.zip l)
  | [], l, done, hl, _, _, _ => by simp [Left]
  | p :: ps, [], done, hl, _, _, _ => by simp at hl
  | p :: ps, s :: l, done, hl, hc, h1, h2 => by
    obtain ⟨o, g, ho, hg⟩ := hc 0 p s rfl rfl
    simp only [permOk, ho, Bool.and_eq_true, Bool.not_eq_true'] at h1
    obtain ⟨⟨h3, h4⟩, h5⟩ := h1
    simp only [commOk, Bool.and_eq_true] at h2
    obtain ⟨h6, h7⟩ := h2
    refine ⟨⟨o, g, ho, hg, fun e he hb => ?_⟩, fun hin => ?_, fun q' hq' => ?_, left_of ps l (p :: done) (by simpa using hl) (fun i p' s' a b => hc (i + 1) p' s' (by simpa using a) (by simpa using b)) h5 h7⟩
    · rw [Array.all_eq_true'] at h3
      have := h3 e he
      rw [hb] at this
      simpa using this
    · simp only at hin
      simp [hin] at h4
    · rw [List.all_eq_true] at h6
      have := h6 q' hq'
      rw [Bool.or_eq_true] at this
      exact this.imp (fun h => clo_path ops.toList [] (fun j o hj => by simpa using hj) (fun i x hx => by simp at hx) _ _ h) id

theorem At.drew {σ0 : Own} {w0 : World} {env : Env} {σ : Own} {a : Act} {w : World} (h : At gl N σ0 w0 env σ a w) (n : Nat) : At gl N σ0 w0 env σ a { w with drawn := n } :=
  ⟨h.rel.stay (Stays.drew σ w n) fun _ _ _ => rfl, h.env.stay (Stays.drew σ w n), h.stays.trans (Stays.drew σ w n)⟩

theorem drawn_sound (hm : P.follows .mixedOrders = true) {id : Nat} {ops : Array Oper} {perm : List Nat} {gs l : List SI} (hc : cOps P N ops (perm.map fun p => ops.getD p default) gs = some l) (hlen : perm.length = ops.size) (h1 : permOk ops perm l [] = true) (h2 : commOk (clo ops.toList []) perm l = true)
    (h3 : (List.range ops.size).all (fun x => perm.contains x) = true) {σ0 : Own} {w0 : World} {J : Env → Own → Prop} (hJ : Ext J) {Q : Exit → Act → World → Prop} (hq : ∀ a w, Post gl N σ0 w0 J a w → Q .normal a w)
    {env : Env} {σ : Own} {a : Act} {w : World} (hat : At gl N σ0 w0 env σ a w) (h : opsR (cx P gl) l J env σ) : (Code.region id ops true).wp P Q a w := by
  obtain ⟨k1, k2⟩ := cOps_zip hc
  have k1' : perm.length = l.length := by simpa using k1.symm
  have hperm : ∀ (ps : List Nat) (is : List SI) (d : List Nat), permOk ops ps is d = true → ∀ p ∈ ps, p < ops.size := by
    intro ps
    induction ps with
    | nil => intro is d _ p hp; simp at hp
    | cons x ps ih =>
      intro is d hh p hp
      cases is with
      | nil => simp [permOk] at hh
      | cons i is =>
        simp only [permOk] at hh
        split at hh
        · rename_i o ho
          rw [Bool.and_eq_true] at hh
          rcases List.mem_cons.1 hp with rfl | hp
          · exact (Array.getElem?_eq_some_iff.1 ho).1
          · exact ih is _ hh.2 p hp
        · cases hh
  have hL : Left P N ops [] (perm.zip l) := by
    refine left_of perm l [] k1' (fun i p s hp hs => ?_) h1 h2
    have hlt := hperm perm l [] h1 p (List.mem_of_getElem? hp)
    have ho : ops[p]? = some (ops.getD p default) := by simp [Array.getD_eq_getD_getElem?, hlt]
    obtain ⟨g, hg⟩ := k2 i (ops.getD p default) s (by rw [List.getElem?_map, hp]; rfl) hs
    exact ⟨_, g, ho, hg⟩
  have e1 : (perm.zip l).map (·.2) = l := by rw [List.map_snd_zip]; omega
  have e2 : (perm.zip l).map (·.1) = perm := by rw [List.map_fst_zip]; omega
  refine wp_region_any hm ?_
  refine drawn_any hJ hq ops.size (perm.zip l) [] _ (by simp; omega) hL (fun x hx => by simp [Array.getD_eq_getD_getElem?, hx]) (by simp) (fun x hx => by simp at hx) (fun x hx => .inr ?_) env σ a _ (hat.drew _) (by rw [e1]; exact h)
  rw [e2]
  rw [List.all_eq_true] at h3
  simpa using h3 x (by simpa using hx)

/-- The posts of the two machines. -/
def AEx.ex : AEx → Exit
  | .normal => .normal
  | .exit id => .exit id
  | .ret => .ret
def PostE (gl : Nat → Option (List AV)) (N : Nat) (σ0 : Own) (w0 : World) (Q : AEx → Env → Own → Prop) (e : Exit) (a : Act) (w : World) : Prop := ∃ x : AEx, e = x.ex ∧ Post gl N σ0 w0 (Q x) a w

theorem keepE_congr {env env' : Env} (h : ∀ t, find env t = find env' t) : ∀ (l : List Nat) (acc : Env), keepE env l acc = keepE env' l acc
  | [], _ => rfl
  | i :: r, acc => by simp only [keepE, h i]; exact keepE_congr h r _

theorem find_zip {ids : List Nat} : ∀ {vs : List AV} {i : Nat}, ids.length = vs.length → (find (ids.zip vs) i = .any ∨ ∃ j : Nat, ids[j]? = some i ∧ vs[j]? = some (find (ids.zip vs) i)) := by
  induction ids with
  | nil => intro vs i _; exact .inl rfl
  | cons k ids ih =>
    intro vs i hl
    cases vs with
    | nil => simp at hl
    | cons v vs =>
      rw [List.zip_cons_cons, find_cons]
      by_cases e : k = i
      · rw [if_pos e]; exact .inr ⟨0, by simp [e], rfl⟩
      · rw [if_neg e]
        rcases ih (vs := vs) (i := i) (by simpa using hl) with h | ⟨j, h1, h2⟩
        · exact .inl h
        · exact .inr ⟨j + 1, by simpa using h1, by simpa using h2⟩

theorem find_of_mem : ∀ {env : Env} {j i : Nat} {v : AV}, (env.map (·.1)).Nodup → env[j]? = some (i, v) → find env i = v
  | [], j, i, v, _, h => by simp at h
  | (k, u) :: env, j, i, v, hn, h => by
    rw [find_cons]
    rw [List.map_cons, List.nodup_cons] at hn
    cases j with
    | zero =>
      have : k = i ∧ u = v := by simpa using h
      rw [if_pos this.1]; exact this.2
    | succ j =>
      have h' : env[j]? = some (i, v) := by simpa using h
      have hne : k ≠ i := by
        rintro rfl
        exact hn.1 (List.mem_map.2 ⟨(k, v), List.mem_of_getElem? h', rfl⟩)
      rw [if_neg hne]
      exact find_of_mem hn.2 h'

theorem wk_sound {σ0 : Own} {w0 : World} {env : Env} {σ : Own} {a : Act} {w : World} {J : Env → Own → Prop} (hat : At gl N σ0 w0 env σ a w) (h : Wk (Says gl) env σ J) : Post gl N σ0 w0 J a w := by
  obtain ⟨env', σ', h1, h2, h3, h4⟩ := h.out
  have hv : VRs (Im σ w) w (env.map (·.2)) (env.map fun p => a.tmps.getD p.1 undef) := by
    rw [VRs.iff]
    refine ⟨by simp, fun j hj => ?_⟩
    have hj' : j < env.length := by simpa using hj
    have := find_of_mem (j := j) (i := env[j].1) (v := env[j].2) h2 (by simp [hj'])
    have hval := hat.env.val env[j].1
    rw [this] at hval
    simpa [List.getD_eq_getElem?_getD, hj'] using hval
  obtain ⟨r1, r2, r3⟩ := h3 w _ hat.rel hv
  refine ⟨env', σ', h4, r1, ⟨hat.env.defers, hat.env.size, fun i => ?_⟩, hat.stays.trans (stays_says r2)⟩
  have e : env' = (env'.map (·.1)).zip (env'.map (·.2)) := by
    rw [List.zip_map']; simp
  rw [e]
  rcases find_zip (ids := env'.map (·.1)) (vs := env'.map (·.2)) (i := i) (by simp) with hf | ⟨j, j1, j2⟩
  · rw [hf]; exact .any _
  · obtain ⟨u, u1, u2⟩ := r3.get j2
    rw [h1] at j1
    have : u = a.tmps.getD i undef := by
      rw [List.getElem?_map] at u1 j1
      cases hx : env[j]? with
      | none => simp [hx] at u1
      | some p =>
        rw [hx] at u1 j1
        have e1 : p.1 = i := by simpa using j1
        have e2 : a.tmps.getD p.1 undef = u := by simpa using u1
        rw [← e2, e1]
    rw [← this]; exact u2

end Go.Ab
/-! The plain machine over whole functions. -/
namespace Go.Ab
set_option linter.unusedVariables false
set_option linter.unusedSimpArgs false
variable {P : Program} {gl : Nat → Option (List AV)} {N : Nat}

theorem exists_least {p : Nat → Prop} : ∀ n, p n → ∃ m, p m ∧ ∀ k, k < m → ¬ p k := by
  intro n
  induction n using Nat.strongRecOn with
  | _ n ih =>
    intro h
    by_cases hk : ∃ k, k < n ∧ p k
    · obtain ⟨k, h1, h2⟩ := hk; exact ih k h1 h2
    · exact ⟨n, h, fun k hk' hp => hk ⟨k, hk', hp⟩⟩

open Classical in
noncomputable def least (p : Nat → Prop) : Nat := if h : ∃ n, p n then Classical.choose (exists_least (Classical.choose h) (Classical.choose_spec h)) else 0
theorem least_spec {p : Nat → Prop} {n : Nat} (h : p n) : p (least p) ∧ least p ≤ n := by
  unfold least
  have hx : ∃ n, p n := ⟨n, h⟩
  rw [dif_pos hx]
  have := Classical.choose_spec (exists_least (Classical.choose hx) (Classical.choose_spec hx))
  refine ⟨this.1, ?_⟩
  rcases Nat.lt_or_ge n (Classical.choose (exists_least (Classical.choose hx) (Classical.choose_spec hx))) with h' | h'
  · exact absurd h (this.2 n h')
  · exact h'

theorem post_keep {σ0 : Own} {w0 : World} {env : Env} {σ : Own} {a : Act} {w : World} (h : At gl N σ0 w0 env σ a w) (l : List Nat) : At gl N σ0 w0 (keepE env l []) σ a w := ⟨h.rel, h.env.keep l, h.stays⟩

theorem code_sound (hm : P.follows .mixedOrders = true) {σ0 : Own} {w0 : World} : ∀ (g : SC) (c : Code) (s : SC), cCode P N g c = some s → ∀ (Q : AEx → Env → Own → Prop) (env : Env) (σ : Own) (a : Act) (w : World), At gl N σ0 w0 env σ a w →
    vc (cx P gl) s Q env σ → c.wp P (PostE gl N σ0 w0 Q) a w := by
  intro g
  induction g with
  | skip =>
    intro c s hc Q env σ a w hat h
    cases c <;> simp only [cCode] at hc <;> try (cases hc)
    exact wp_skip ⟨.normal, rfl, env, σ, h, hat⟩
  | region gs keep =>
    intro c s hc Q env σ a w hat h
    cases c <;> simp only [cCode] at hc <;> try (cases hc)
    · split at hc
      · cases hc
        simp only [vc, opsG, keepR_eq] at h
        exact wp_skip ⟨.normal, rfl, _, σ, h, post_keep hat keep⟩
      · cases hc
    rename_i id ops draw
    cases draw with
    | true => cases hc
    | false =>
      simp only at hc
      split at hc
      · rename_i l hl
        cases hc
        refine wp_region_list (ops_sound (J := fun env' σ' => Q .normal (keepE env' keep []) σ') (fun a w ⟨env', σ', h1, h2⟩ => ⟨.normal, rfl, _, σ', h1, post_keep h2 keep⟩) ops.toList gs l hl env σ a w hat ?_)
        simp only [vc, keepR_eq] at h
        exact opsG_sound (fun t b hb => by cases hb) h
      · cases hc
  | drawn perm gs keep =>
    intro c s hc Q env σ a w hat h
    cases c <;> simp only [cCode] at hc <;> try (cases hc)
    rename_i id ops draw
    cases draw with
    | false => cases hc
    | true =>
      simp only at hc
      split at hc
      · rename_i l hl
        split at hc
        · rename_i hh
          cases hc
          simp only [vc, keepR_eq] at h
          exact drawn_sound hm hl hh.1 hh.2.1 hh.2.2.1 hh.2.2.2 (J := fun env' σ' => Q .normal (keepE env' keep []) σ') (fun env1 env2 σ he hj => by have e := keepE_congr he keep []; simp only [e] at hj; exact hj)
            (fun a w ⟨env', σ', h1, h2⟩ => ⟨.normal, rfl, _, σ', h1, post_keep h2 keep⟩) hat (opsG_sound (fun t b hb => by cases hb) h)
        · cases hc
      · cases hc
  | says =>
    intro c s hc
    cases c <;> simp [cCode] at hc
  | seq g1 g2 ih1 ih2 =>
    intro c s hc Q env σ a w hat h
    by_cases hs : g1 = .says
    · subst hs
      simp only [cCode] at hc
      split at hc
      · rename_i t ht
        cases hc
        simp only [vc] at h
        obtain ⟨env', σ', hj, hat'⟩ := wk_sound hat h
        exact ih2 c t ht Q env' σ' a w hat' hj
      · cases hc
    · cases c with
      | seq x y =>
        have e : cCode P N (.seq g1 g2) (.seq x y) = match cCode P N g1 x with
            | some s => match cCode P N g2 y with
              | some t => some (.seq s t)
              | none => none
            | none => none := by
          cases g1 <;> first | rfl | exact absurd rfl hs
        rw [e] at hc
        split at hc
        · rename_i s1 h1
          split at hc
          · rename_i s2 h2
            cases hc
            simp only [vc] at h
            refine wp_seq (wp_mono (ih1 x s1 h1 _ env σ a w hat h) ?_)
            rintro e a' w' ⟨q, rfl, env', σ', hq, hat'⟩
            cases q with
            | normal => exact ih2 y s2 h2 Q env' σ' a' w' hat' hq
            | exit id => exact ⟨.exit id, rfl, env', σ', hq, hat'⟩
            | ret => exact ⟨.ret, rfl, env', σ', hq, hat'⟩
          · cases hc
        · cases hc
      | _ =>
        exfalso
        cases g1 <;> first | exact hs rfl | (simp [cCode] at hc)
  | cond o g1 g2 ih1 ih2 =>
    intro c s hc Q env σ a w hat h
    cases c <;> simp only [cCode] at hc <;> try (cases hc)
    rename_i cc x y
    split at hc
    · rename_i s1 h1
      split at hc
      · rename_i s2 h2
        cases hc
        simp only [vc, ev_eq] at h
        obtain ⟨b, hb⟩ := bool_of h
        have hb' : opdAV gl env (cOpd cc) = .w (.bool b) := hb
        rw [hb] at h
        have hv := opd_vr (gl := gl) hat.rel hat.env cc
        rw [hb'] at hv
        refine wp_cond_split hv.w_inv (fun t => ?_) (fun t => ?_)
        · exact ih1 x s1 h1 Q env σ a w hat (h.1 t)
        · exact ih2 y s2 h2 Q env σ a w hat (h.2 t)
      · cases hc
    · cases hc
  | block id keep g ih =>
    intro c s hc Q env σ a w hat h
    cases c <;> simp only [cCode] at hc <;> try (cases hc)
    rename_i id' x
    split at hc
    · rename_i s1 h1
      cases hc
      simp only [vc, keepR_eq] at h
      refine wp_block (wp_mono (ih x s1 h1 _ env σ a w hat h) ?_)
      rintro e a' w' ⟨q, rfl, env', σ', hq, hat'⟩
      cases q with
      | normal => exact ⟨.normal, rfl, _, σ', hq, post_keep hat' keep⟩
      | ret => exact ⟨.ret, rfl, env', σ', hq, hat'⟩
      | exit k =>
        simp only [AEx.ex, Exit.inBlock]
        simp only at hq
        split at hq
        · rename_i hb
          rw [if_pos (beq_eq hb)]
          exact ⟨.normal, rfl, _, σ', hq, post_keep hat' keep⟩
        · rename_i hb
          have hne : k ≠ id' := by
            rintro rfl
            have : Nat.beq k k = true := by simp
            rw [this] at hb; cases hb
          rw [if_neg hne]
          exact ⟨.exit k, rfl, env', σ', hq, hat'⟩
    · cases hc
  | loop keep g ih =>
    intro c s hc Q env σ a w hat h
    cases c <;> simp only [cCode] at hc <;> try (cases hc)
    rename_i x
    split at hc
    · rename_i s1 h1
      cases hc
      simp only [vc, keepR_eq] at h
      obtain ⟨I, h0, hround⟩ := h.out
      have hp0 := wk_sound (post_keep hat keep) h0
      refine wp_loop (fun a w => ∃ m, Post gl N σ0 w0 (I m) a w) (fun a w => least fun m => Post gl N σ0 w0 (I m) a w) ?_ ?_
      · obtain ⟨env', σ', ⟨m, hm'⟩, hat'⟩ := hp0
        exact ⟨m, env', σ', hm', hat'⟩
      · rintro a w ⟨m0, hp⟩
        obtain ⟨⟨env', σ', hI, hat'⟩, _⟩ := least_spec (p := fun m => Post gl N σ0 w0 (I m) a w) hp
        refine wp_mono (ih x s1 h1 _ env' σ' a w hat' (hround _ _ _ hI)) ?_
        rintro e a' w' ⟨q, rfl, env'', σ'', hq, hat''⟩
        cases q with
        | normal =>
          simp only [keepR_eq] at hq
          obtain ⟨env3, σ3, ⟨m', hlt, hI'⟩, hat3⟩ := wk_sound (post_keep hat'' keep) hq
          have hpost : Post gl N σ0 w0 (I m') a' w' := ⟨env3, σ3, hI', hat3⟩
          exact ⟨⟨m', hpost⟩, Nat.lt_of_le_of_lt (least_spec (p := fun m => Post gl N σ0 w0 (I m) a' w') hpost).2 hlt⟩
        | exit k => exact ⟨.exit k, rfl, env'', σ'', hq, hat''⟩
        | ret => exact ⟨.ret, rfl, env'', σ'', hq, hat''⟩
    · cases hc
  | exit id =>
    intro c s hc Q env σ a w hat h
    cases c <;> simp only [cCode] at hc <;> try (cases hc)
    exact wp_exit ⟨.exit _, rfl, env, σ, h, hat⟩
  | dead =>
    intro c s hc Q env σ a w hat h
    cases c <;> simp only [cCode] at hc <;> cases hc
    exact h.elim
  | ret =>
    intro c s hc Q env σ a w hat h
    cases c <;> simp only [cCode] at hc <;> try (cases hc)
    exact wp_ret ⟨.ret, rfl, env, σ, h, hat⟩

/-- The arguments' slots. -/
def argEnv : Nat → List AV → Env
  | _, [] => []
  | i, v :: r => (i, v) :: argEnv (i + 1) r

/-- What is handed back, said as the contract says it. -/
structure Ret (S : List AV → Own → List AV → Own → Prop) (v : AV) (σ : Own) (R : AV → Own → Prop) : Prop where
  out : ∃ v' σ', S [v] σ [v'] σ' ∧ R v' σ'

def looks (env : Env) : List Nat → (List AV → Prop) → Prop
  | [], K => K []
  | t :: r, K => look env t fun v => looks env r fun vs => K (v :: vs)
theorem looks_eq (env : Env) : ∀ (l : List Nat) (K : List AV → Prop), looks env l K = K (l.map (find env))
  | [], _ => rfl
  | t :: r, K => by simp only [looks, look_eq, List.map_cons]; exact looks_eq env r _

/-- What stands behind the body. -/
def finQ (S : List AV → Own → List AV → Own → Prop) (rs : List Nat) (R : AV → Own → Prop) (env : Env) (σ : Own) : Prop :=
  match rs with
  | [t] => look env t fun v => Ret S v σ R
  | rs => looks env rs fun vs => Ret S (.tup vs) σ R
def retQ (S : List AV → Own → List AV → Own → Prop) (rs : List Nat) (R : AV → Own → Prop) : AEx → Env → Own → Prop
  | .exit _, _, _ => False
  | _, env, σ => finQ S rs R env σ

theorem find_args : ∀ (args : List AV) (k i : Nat), find (argEnv k args) i = if k ≤ i then args.getD (i - k) .any else .any
  | [], k, i => by simp [argEnv, find]
  | v :: r, k, i => by
    rw [argEnv, find_cons, find_args r (k + 1) i]
    by_cases h : k = i
    · subst h; simp
    · rw [if_neg h]
      by_cases h2 : k + 1 ≤ i
      · rw [if_pos h2, if_pos (by omega)]
        have : i - k = (i - (k + 1)) + 1 := by omega
        rw [this]; rfl
      · rw [if_neg h2, if_neg (by omega)]

theorem acalls {f : FuncId} {fn : Func} {c : Code} {g s : SC} (hm : P.follows .mixedOrders = true) (hf : P.funcs[f]? = some fn) (hb : fn.body = some c) (hn : (fn.name == "runtime.NumGoroutine") = false) {rs : List Nat} (hr : fn.results.toList = rs.map .tmp)
    (hc : cCode P fn.ntmps g c = some s) {args : List AV} (ha : args.length ≤ fn.ntmps) {σ : Own} {R : AV → Own → Prop} (h : vc (cx P gl) s (retQ (Says gl) rs R) (argEnv 0 args) σ) : ACalls P gl f args σ R := by
  intro w cargs hrel hv
  have hrun : (callFunc f cargs).run P w = .ok (.enter f cargs) w := by
    have hn' : ¬ fn.name = "runtime.NumGoroutine" := by simpa using hn
    unfold callFunc
    simp [hf, hn', hb]
  rw [hrun]
  show Calls P f cargs w _
  refine calls_of_wp hf hb ?_
  have hsz : cargs.size = args.length := by have := hv.1; simpa using this
  have hat : At gl fn.ntmps σ w (argEnv 0 args) σ { tmps := cargs ++ Array.replicate (fn.ntmps - cargs.size) undef, defers := [] } w := by
    refine ⟨hrel, ⟨rfl, by simp; omega, fun i => ?_⟩, .refl _ _⟩
    rw [find_args, if_pos (Nat.zero_le _), Nat.sub_zero]
    by_cases hi : i < args.length
    · have := (VRs.iff.1 hv).2 i hi
      have e : (cargs ++ Array.replicate (fn.ntmps - cargs.size) undef).getD i undef = cargs.toList.getD i undef := by
        have hi' : i < cargs.size := by omega
        rw [Array.getD_eq_getD_getElem?, Array.getElem?_append_left hi']
        simp [List.getD_eq_getElem?_getD]
      rw [e]; exact this
    · rw [List.getD_eq_getElem?_getD, List.getElem?_eq_none (by omega)]
      exact .any _
  refine wp_mono (code_sound hm g c s hc _ _ _ _ _ hat h) ?_
  rintro e a' w' ⟨q, rfl, env, σ', hq, hat'⟩
  have fin : ∀ {v : AV} {cv : Value}, (results fn a'.tmps).run P w' = .ok cv w' → VR (Im σ' w') w' v cv → Ret (Says gl) v σ' R → bodyPost P fn (fun e w'' => ∃ v, e = Ending.returned v ∧ (fun cv w' => ∃ v σ', R v σ' ∧ Rel gl σ' w' ∧ Stays σ w σ' w' ∧ VR (Im σ' w') w' v cv) v w'') .ret a' w' := by
    intro v cv h1 h2 h3
    obtain ⟨v', σ'', k1, k2⟩ := h3.out
    obtain ⟨r1, r2, r3⟩ := k1 w' [cv] hat'.rel (.cons h2 .nil)
    refine ⟨hat'.env.defers, cv, h1, cv, rfl, v', σ'', k2, r1, hat'.stays.trans (stays_says r2), ?_⟩
    obtain ⟨v2, vs2, e2, hv2, _⟩ := r3.head
    cases e2; exact hv2
  have all : finQ (Says gl) rs R env σ' → bodyPost P fn (fun e w'' => ∃ v, e = Ending.returned v ∧ (fun cv w' => ∃ v σ', R v σ' ∧ Rel gl σ' w' ∧ Stays σ w σ' w' ∧ VR (Im σ' w') w' v cv) v w'') .ret a' w' := by
    intro hq
    have key : ∀ (F : ResultVar → Sem Value), (∀ t, F (.tmp t) = pure (a'.tmps.getD t undef)) → ∀ l : List Nat, (l.map ResultVar.tmp).mapM F = (pure (l.map fun t => a'.tmps.getD t undef) : Sem (List Value)) := by
      intro F hF l
      induction l with
      | nil => rfl
      | cons t l ih => rw [List.map_cons, List.mapM_cons, ih, hF]; rfl
    have hres : (results fn a'.tmps).run P w' = .ok (if h : (rs.map fun t => a'.tmps.getD t undef).toArray.size = 1 then (rs.map fun t => a'.tmps.getD t undef).toArray[0] else .tuple (rs.map fun t => a'.tmps.getD t undef).toArray) w' := by
      unfold results
      rw [Sem.run_bind, Array.mapM_eq_mapM_toList, hr, key _ (fun t => rfl) rs]
      rfl
    have hvs : ∀ l : List Nat, VRs (Im σ' w') w' (l.map (find env)) (l.map fun t => a'.tmps.getD t undef) := by
      intro l
      induction l with
      | nil => exact .nil
      | cons t l ih => exact .cons (hat'.env.val t) ih
    unfold finQ at hq
    split at hq
    · rename_i t _
      rw [look_eq] at hq
      refine fin ?_ (hat'.env.val _) hq
      rw [hres]; simp
    · rename_i hne
      rw [looks_eq] at hq
      refine fin ?_ (.mk_tup (cs := (rs.map fun t => a'.tmps.getD t undef).toArray) (by simpa using hvs rs)) hq
      rw [hres, dif_neg]
      intro h1
      cases rs with
      | nil => simp at h1
      | cons t rs =>
        cases rs with
        | nil => exact hne t rfl
        | cons u rs => simp at h1
  cases q with
  | exit id => exact hq.elim
  | normal => exact all hq
  | ret => exact all hq

end Go.Ab
/-! Ways to say otherwise what is known; functions by their plain code. -/
namespace Go.Ab
set_option linter.unusedVariables false
set_option linter.unusedSimpArgs false
variable {P : Program} {gl : Nat → Option (List AV)} {N : Nat} {σ σ' : Own}

/-- fewer own blocks, else the same -/
def Del (σ σ' : Own) : Prop := ∀ b, σ' b = σ b ∨ σ' b = none ∨ ∃ ob k, σ b = some ob ∧ σ' b = some ⟨ob.xs.take k, ob.cap⟩
theorem Del.refl : Del σ σ := fun _ => .inl rfl
theorem Del.del (b : Nat) : Del σ (del σ b) := fun i => by
  unfold Go.Ab.del; split
  · exact .inr (.inl rfl)
  · exact .inl rfl
theorem Del.none (h : Del σ σ') {b : Nat} (hb : σ b = none) : σ' b = none := by
  rcases h b with h | h | ⟨ob, k, h, _⟩
  · rw [h, hb]
  · exact h
  · rw [hb] at h; cases h

/-- a value, said otherwise, while own blocks are given up -/
def Sub (gl : Nat → Option (List AV)) (σ σ' : Own) (v v' : AV) : Prop := ∀ (w : World) (cv : Value), Rel gl σ w → VR (Im σ w) w v cv → VR (Im σ' w) w v' cv

def Subs (gl : Nat → Option (List AV)) (σ σ' : Own) : List AV → List AV → Prop
  | [], [] => True
  | v :: vs, v' :: vs' => Sub gl σ σ' v v' ∧ Subs gl σ σ' vs vs'
  | _, _ => False

theorem im_del (h : Del σ σ') {w : World} : ∀ b, Im σ w b → Im σ' w b ∧ w.heap[b]? = w.heap[b]? := fun b hb => ⟨⟨hb.1, h.none hb.2⟩, rfl⟩

theorem Sub.refl (h : Del σ σ') (v : AV) : Sub gl σ σ' v v := fun w cv _ hv => hv.mono (im_del h)
theorem Subs.vrs : ∀ {vs vs' : List AV}, Subs gl σ σ' vs vs' → ∀ {w : World} {cs : List Value}, Rel gl σ w → VRs (Im σ w) w vs cs → VRs (Im σ' w) w vs' cs
  | [], [], _, w, cs, _, h => by rw [h.nil_inv]; exact .nil
  | v :: vs, v' :: vs', ⟨h1, h2⟩, w, cs, hr, h => by
    obtain ⟨c, cs', rfl, a, b⟩ := h.head
    exact .cons (h1 w c hr a) (Subs.vrs h2 hr b)
  | [], v' :: vs', h, _, _, _, _ => h.elim
  | v :: vs, [], h, _, _, _, _ => h.elim
theorem Subs.refl (h : Del σ σ') : ∀ vs : List AV, Subs gl σ σ' vs vs
  | [] => trivial
  | v :: vs => ⟨Sub.refl h v, Subs.refl h vs⟩
theorem Subs.length : ∀ {vs vs' : List AV}, Subs gl σ σ' vs vs' → vs'.length = vs.length
  | [], [], _ => rfl
  | v :: vs, v' :: vs', ⟨_, h⟩ => by simp [Subs.length h]
  | [], v' :: vs', h => h.elim
  | v :: vs, [], h => h.elim

theorem says_of (hd : Del σ σ') {vs vs' : List AV} (h : Subs gl σ σ' vs vs') : Says gl vs σ vs' σ' := by
  intro w cs hr hv
  refine ⟨⟨fun b ob hb => ?_, fun b xs hb => (hr.glo b xs hb).mono (im_del hd)⟩, fun b hb => hd.none hb, h.vrs hr hv⟩
  rcases hd b with e | e | ⟨ob', k, e1, e2⟩
  · rw [hb] at e
    obtain ⟨cs', T, h1, h2, h3, h4⟩ := hr.own b ob e.symm
    exact ⟨cs', T, h1, h2, h3, h4.mono (im_del hd)⟩
  · rw [e] at hb; cases hb
  · rw [hb] at e2
    cases e2
    obtain ⟨cs', T, h1, h2, h3, h4⟩ := hr.own b ob' e1
    refine ⟨cs', T, h1, h2, Nat.le_trans (by simp; omega) h3, ?_⟩
    have := (h4.take k).mono (im_del hd)
    rw [List.take_take] at this
    rw [List.length_take]
    exact this
theorem says_refl (vs : List AV) : Says gl vs σ vs σ := says_of .refl (.refl .refl vs)

theorem Sub.any (v : AV) : Sub gl σ σ' v .any := fun w cv _ _ => .any _
theorem Sub.nil_fs : Sub gl σ σ' (.w (.slice none 0 0)) (.fs [] 0) := fun w cv _ h => by rw [h.w_inv]; exact .fs0
theorem Sub.nil_ff : Sub gl σ σ' (.w (.slice none 0 0)) (.ff [] 0) := fun w cv _ h => by rw [h.w_inv]; exact .ff0
theorem Sub.ff_fs (hd : Del σ σ') (xs : List AV) (n : Nat) : Sub gl σ σ' (.ff xs n) (.fs xs n) := fun w cv _ h => by
  rcases h.ff_inv with ⟨ad, rfl, hA⟩ | ⟨rfl, rfl, rfl⟩
  · exact (VR.mk_fs (Nat.le_refl _) hA).mono (im_del hd)
  · exact .fs0
theorem Sub.agg {xs ys : List AV} (h : Subs gl σ σ' xs ys) : Sub gl σ σ' (.agg xs) (.agg ys) := fun w cv hr hv => by
  obtain ⟨cs, rfl, hc⟩ := hv.agg_inv; exact .mk_agg (h.vrs hr hc)
theorem Sub.tup {xs ys : List AV} (h : Subs gl σ σ' xs ys) : Sub gl σ σ' (.tup xs) (.tup ys) := fun w cv hr hv => by
  obtain ⟨cs, rfl, hc⟩ := hv.tup_inv; exact .mk_tup (h.vrs hr hc)

/-- cells of a block that is given up -/
theorem own_cells (hd : Del σ σ') {b : Nat} {ob : Ob} (hb : σ b = some ob) (hn : σ' b = none) {ys : List AV} {o k : Nat} (hk : Subs gl σ σ' ((ob.xs.drop o).take k) ys) {w : World} (hr : Rel gl σ w) : VRa (Im σ' w) w ys ⟨b, o, none⟩ := by
  obtain ⟨cs, T, h1, h2, h3, h4⟩ := hr.own b ob hb
  have hv := hk.vrs hr ((h4.drop o).take k)
  intro i hi
  have hl := hk.length
  have hi' : i < ((ob.xs.drop o).take k).length := by omega
  simp at hi'
  have hc : o + i < cs.size := by omega
  refine ⟨⟨hr.lt hb, hn⟩, cs[o + i], ?_, ?_⟩
  · rw [add_lit]; unfold World.cell?; rw [h1]; simp [hc]
  · have := hv.2 i hi
    have e : (((cs.toList.take ob.xs.length).drop o).take k).getD i undef = cs[o + i] := by
      rw [List.getD_eq_getElem?_getD, List.getElem?_take, if_pos (by omega), List.getElem?_drop, List.getElem?_take, if_pos (by omega)]
      simp [hc]
    rw [e] at this; exact this
theorem Sub.own_fs (hd : Del σ σ') {b : Nat} {ob : Ob} (hb : σ b = some ob) (hn : σ' b = none) {ys : List AV} {o n c k : Nat} (hk : Subs gl σ σ' ((ob.xs.drop o).take k) ys) (hc : n ≤ c) :
    Sub gl σ σ' (.w (.slice (some ⟨b, o, none⟩) n c)) (.fs ys n) := fun w cv hr hv => by
  rw [hv.w_inv]; exact .mk_fs hc (own_cells hd hb hn hk hr)
theorem Sub.own_ff (hd : Del σ σ') {b : Nat} {ob : Ob} (hb : σ b = some ob) (hn : σ' b = none) {ys : List AV} {o n k : Nat} (hk : Subs gl σ σ' ((ob.xs.drop o).take k) ys) :
    Sub gl σ σ' (.w (.slice (some ⟨b, o, none⟩) n n)) (.ff ys n) := fun w cv hr hv => by
  rw [hv.w_inv]; exact .mk_ff (own_cells hd hb hn hk hr)
theorem Sub.own_fp (hd : Del σ σ') {b : Nat} {ob : Ob} (hb : σ b = some ob) (hn : σ' b = none) {ys : List AV} {o k : Nat} (hk : Subs gl σ σ' ((ob.xs.drop o).take k) ys) :
    Sub gl σ σ' (.w (.pointer (some ⟨b, o, none⟩))) (.fp ys) := fun w cv hr hv => by
  rw [hv.w_inv]; exact .mk_fp (own_cells hd hb hn hk hr)

/-- A function and its plain code. -/
structure Codes (P : Program) (f : FuncId) (S : SC) (n : Nat) (rs : List Nat) : Prop where
  out : ∃ fn c, P.funcs[f]? = some fn ∧ fn.body = some c ∧ (fn.name == "runtime.NumGoroutine") = false ∧ fn.results.toList = rs.map .tmp ∧ fn.ntmps = n ∧ cCode P n S c = some S

theorem Codes.calls {f : FuncId} {S : SC} {n : Nat} {rs : List Nat} (h : Codes P f S n rs) (hm : P.follows .mixedOrders = true) {args : List AV} {R : AV → Own → Prop}
    (hv : vc (cx P gl) S (retQ (Says gl) rs R) (argEnv 0 args) σ) (ha : Nat.ble args.length n = true := by rfl) : ACalls P gl f args σ R := by
  obtain ⟨fn, c, h1, h2, h3, h4, h5, h6⟩ := h.out
  subst h5
  exact acalls hm h1 h2 h3 h4 h6 (Nat.le_of_ble_eq_true ha) hv

theorem Ret.here {v : AV} {R : AV → Own → Prop} (h : R v σ) : Ret (Says gl) v σ R := ⟨v, σ, says_refl _, h⟩
theorem Ret.sub {v v' : AV} {R : AV → Own → Prop} (hd : Del σ σ') (hs : Sub gl σ σ' v v') (h : R v' σ') : Ret (Says gl) v σ R := ⟨v', σ', says_of hd ⟨hs, trivial⟩, h⟩
def memN : Nat → List Nat → Bool
  | _, [] => false
  | x, y :: r => match Nat.beq x y with | true => true | false => memN x r
def nodupN : List Nat → Bool
  | [] => true
  | x :: r => match memN x r with | true => false | false => nodupN r
theorem memN_mem : ∀ {x : Nat} {l : List Nat}, memN x l = false → x ∉ l
  | x, [], _, h => by simp at h
  | x, y :: r, hm, h => by
    simp only [memN] at hm
    split at hm
    · cases hm
    · rename_i hb
      rcases List.mem_cons.1 h with e | h
      · subst e; simp at hb
      · exact memN_mem hm h
theorem nodupN_nodup : ∀ {l : List Nat}, nodupN l = true → l.Nodup
  | [], _ => .nil
  | x :: r, h => by
    simp only [nodupN] at h
    split at h
    · cases h
    · rename_i hb
      exact List.nodup_cons.2 ⟨memN_mem hb, nodupN_nodup h⟩
theorem Wk.here {env : Env} {J : Env → Own → Prop} (h : J env σ) (hn : nodupN (env.map (·.1)) = true := by rfl) : Wk (Says gl) env σ J := ⟨env, σ, rfl, nodupN_nodup hn, says_refl _, h⟩
/-- values said otherwise, slot by slot -/
theorem Wk.sub {env env' : Env} {J : Env → Own → Prop} (hd : Del σ σ') (hs : Subs gl σ σ' (env.map (·.2)) (env'.map (·.2))) (h : J env' σ') (hi : env'.map (·.1) = env.map (·.1) := by rfl) (hn : nodupN (env.map (·.1)) = true := by rfl) : Wk (Says gl) env σ J :=
  ⟨env', σ', hi, nodupN_nodup hn, says_of hd hs, h⟩
theorem CallVC.here {f : FuncId} {args : List AV} {R K : AV → Own → Prop} (h : ACalls P gl f args σ R) (k : ∀ v σ', R v σ' → K v σ') : CallVC (ACalls P gl) (Says gl) f args σ K := ⟨args, σ, says_refl _, h.mono k⟩
theorem CallVC.sub {f : FuncId} {args args' : List AV} {R K : AV → Own → Prop} (hd : Del σ σ') (hs : Subs gl σ σ' args args') (h : ACalls P gl f args' σ' R) (k : ∀ v σ', R v σ' → K v σ') : CallVC (ACalls P gl) (Says gl) f args σ K := ⟨args', σ', says_of hd hs, h.mono k⟩
theorem CallQ.here {f : FuncId} {args : List AV} {v : AV} {K : AV → Prop} (h : ACalls P gl f args σ fun v' σ' => v' = v ∧ σ' = σ) (k : K v) : CallQ (ACalls P gl) (Says gl) f args σ K := ⟨args, v, says_refl _, h, k⟩
theorem CallQ.sub {f : FuncId} {args args' : List AV} {v : AV} {K : AV → Prop} (hs : Subs gl σ σ args args') (h : ACalls P gl f args' σ fun v' σ' => v' = v ∧ σ' = σ) (k : K v) : CallQ (ACalls P gl) (Says gl) f args σ K := ⟨args', v, says_of .refl hs, h, k⟩

theorem CallK.here {f : FuncId} {args : List AV} {v : AV} {K : AV → Prop} (h : ∀ E, More σ E → ACalls P gl f args E fun v' σ' => v' = v ∧ σ' = E) (k : K v) : CallK (ACalls P gl) (Says gl) f args σ K := ⟨args, v, fun E hE => ⟨says_refl _, h E hE⟩, k⟩
theorem CallK.sub {f : FuncId} {args args' : List AV} {v : AV} {K : AV → Prop} (hs : ∀ E, Subs gl E E args args') (h : ∀ E, More σ E → ACalls P gl f args' E fun v' σ' => v' = v ∧ σ' = E) (k : K v) : CallK (ACalls P gl) (Says gl) f args σ K := ⟨args', v, fun E hE => ⟨says_of .refl (hs E), h E hE⟩, k⟩
theorem CallN.here {f : FuncId} {args : List AV} {R K : AV → Own → Prop} (h : ACalls P gl f args σ R) (m : ∀ v σ', R v σ' → More σ σ') (k : ∀ v σ', R v σ' → K v σ') : CallN (ACalls P gl) (Says gl) f args σ K := ⟨args, says_refl _, h.mono fun v σ' r => ⟨m v σ' r, k v σ' r⟩⟩
theorem CallN.sub {f : FuncId} {args args' : List AV} {R K : AV → Own → Prop} (hs : Subs gl σ σ args args') (h : ACalls P gl f args' σ R) (m : ∀ v σ', R v σ' → More σ σ') (k : ∀ v σ', R v σ' → K v σ') : CallN (ACalls P gl) (Says gl) f args σ K := ⟨args', says_of .refl hs, h.mono fun v σ' r => ⟨m v σ' r, k v σ' r⟩⟩

end Go.Ab
/-! Plain arithmetic of limbs: no program in sight. -/
namespace Go.Ab.Nn

def W (l : List Nat) : Prop := ∀ x ∈ l, x < 18446744073709551616
/-- The number that limbs say, the lowest first. -/
def val : List Nat → Nat
  | [] => 0
  | x :: l => x + 18446744073709551616 * val l
/-- A number's limbs. -/
def limbs (n : Nat) : List Nat := if _h : n = 0 then [] else n % 18446744073709551616 :: limbs (n / 18446744073709551616)
termination_by n
decreasing_by exact Nat.div_lt_self (by omega) (by decide)

theorem limbs_zero : limbs 0 = [] := by rw [limbs]; simp
theorem limbs_pos {n : Nat} (h : n ≠ 0) : limbs n = n % 18446744073709551616 :: limbs (n / 18446744073709551616) := by rw [limbs]; simp [h]

theorem W_nil : W [] := by intro x hx; cases hx
theorem W_cons {x : Nat} {l : List Nat} : W (x :: l) ↔ x < 18446744073709551616 ∧ W l := by simp [W]
theorem W_append {l m : List Nat} : W (l ++ m) ↔ W l ∧ W m := by
  simp only [W, List.mem_append]
  constructor
  · exact fun h => ⟨fun x hx => h x (.inl hx), fun x hx => h x (.inr hx)⟩
  · rintro ⟨h1, h2⟩ x (hx | hx)
    · exact h1 x hx
    · exact h2 x hx
theorem W_take {l : List Nat} (h : W l) (n : Nat) : W (l.take n) := fun x hx => h x (List.mem_of_mem_take hx)
theorem W_drop {l : List Nat} (h : W l) (n : Nat) : W (l.drop n) := fun x hx => h x (List.mem_of_mem_drop hx)
theorem W_replicate (n : Nat) : W (List.replicate n 0) := fun x hx => by rw [List.eq_of_mem_replicate hx]; omega

theorem W_limbs (n : Nat) : W (limbs n) := by
  induction n using Nat.strongRecOn with
  | _ n ih =>
    by_cases h : n = 0
    · rw [h, limbs_zero]; exact W_nil
    · rw [limbs_pos h, W_cons]
      exact ⟨by omega, ih _ (Nat.div_lt_self (by omega) (by decide))⟩
theorem val_limbs (n : Nat) : val (limbs n) = n := by
  induction n using Nat.strongRecOn with
  | _ n ih =>
    by_cases h : n = 0
    · rw [h, limbs_zero]; rfl
    · rw [limbs_pos h, val, ih _ (Nat.div_lt_self (by omega) (by decide))]
      omega
theorem limbs_inj {a b : Nat} (h : limbs a = limbs b) : a = b := by rw [← val_limbs a, ← val_limbs b, h]
theorem val_append (l m : List Nat) : val (l ++ m) = val l + 18446744073709551616 ^ l.length * val m := by
  induction l with
  | nil => simp [val]
  | cons x l ih =>
    rw [List.cons_append, val, ih, val, List.length_cons, Nat.pow_succ]
    have : 18446744073709551616 * (18446744073709551616 ^ l.length * val m) = 18446744073709551616 ^ l.length * 18446744073709551616 * val m := by rw [← Nat.mul_assoc, Nat.mul_comm 18446744073709551616]
    omega
theorem val_replicate (n : Nat) : val (List.replicate n 0) = 0 := by
  induction n with
  | zero => rfl
  | succ n ih => rw [List.replicate_succ, val, ih]
theorem val_lt {l : List Nat} (h : W l) : val l < 18446744073709551616 ^ l.length := by
  induction l with
  | nil => simp [val]
  | cons x l ih =>
    rw [W_cons] at h
    have := ih h.2
    rw [val, List.length_cons, Nat.pow_succ]
    have h1 := h.1
    omega
/-- A number's limbs bear no 0 on top. -/
theorem limbs_top (n : Nat) : ∀ x, (limbs n).getLast? = some x → x ≠ 0 := by
  induction n using Nat.strongRecOn with
  | _ n ih =>
    intro x hx
    by_cases h : n = 0
    · rw [h, limbs_zero] at hx; cases hx
    · rw [limbs_pos h] at hx
      by_cases h2 : n / 18446744073709551616 = 0
      · rw [h2, limbs_zero] at hx
        simp at hx
        omega
      · rw [List.getLast?_cons, limbs_pos h2] at hx
        have := ih (n / 18446744073709551616) (Nat.div_lt_self (by omega) (by decide)) x
        rw [limbs_pos h2] at this
        apply this
        rw [List.getLast?_cons] at hx ⊢
        simpa using hx
theorem limbs_len_le {n k : Nat} (h : n < 18446744073709551616 ^ k) : (limbs n).length ≤ k := by
  induction k generalizing n with
  | zero =>
    have : n = 0 := by simpa using h
    rw [this, limbs_zero]; simp
  | succ k ih =>
    by_cases h0 : n = 0
    · rw [h0, limbs_zero]; simp
    · rw [limbs_pos h0, List.length_cons]
      have : n / 18446744073709551616 < 18446744073709551616 ^ k := by
        rw [Nat.pow_succ] at h
        exact Nat.div_lt_of_lt_mul (by rw [Nat.mul_comm]; exact h)
      have := ih this
      omega
/-- Limbs without a 0 on top are their number's. -/
theorem limbs_val {l : List Nat} (h : W l) (ht : ∀ x, l.getLast? = some x → x ≠ 0) : limbs (val l) = l := by
  induction l with
  | nil => exact limbs_zero
  | cons x l ih =>
    rw [W_cons] at h
    have ht' : ∀ y, l.getLast? = some y → y ≠ 0 := by
      intro y hy
      apply ht y
      rw [List.getLast?_cons, hy]
      rfl
    have e := ih h.2 ht'
    have hne : val (x :: l) ≠ 0 := by
      rw [val]
      cases l with
      | nil =>
        have := ht x (by simp)
        have := h.1
        simp [val]
        omega
      | cons y l =>
        intro h0
        have h1 : val (y :: l) = 0 := by
          have : 18446744073709551616 * val (y :: l) = 0 := by omega
          rcases Nat.mul_eq_zero.1 this with h | h
          · cases h
          · exact h
        rw [h1, limbs_zero] at e
        cases e
    have h1 := h.1
    have hx : ((x + 18446744073709551616 * val l) % 18446744073709551616 : Nat) = x := by
      rw [Nat.add_mul_mod_self_left, Nat.mod_eq_of_lt (by omega)]
    have hd : ((x + 18446744073709551616 * val l) / 18446744073709551616 : Nat) = val l := by
      rw [Nat.add_mul_div_left _ _ (by decide), Nat.div_eq_of_lt (by omega)]; omega
    rw [limbs_pos hne]
    simp only [val]
    rw [hx, hd, e]
/-- Without noughts on top. -/
def strip (l : List Nat) : List Nat := limbs (val l)
theorem strip_snoc_zero {l : List Nat} : strip (l ++ [0]) = strip l := by
  unfold strip
  rw [val_append]
  simp [val]
theorem strip_limbs (n : Nat) : strip (limbs n) = limbs n := by unfold strip; rw [val_limbs]
/-- May these limbs be a number's? -/
def May (l : List Nat) : Prop := ∀ x, l.getLast? = some x → x ≠ 0
theorem May_limbs (n : Nat) : May (limbs n) := limbs_top n
theorem eq_limbs {l : List Nat} (h : W l) (hm : May l) : l = limbs (val l) := (limbs_val h hm).symm
theorem limbs_eq_nil {n : Nat} : limbs n = [] ↔ n = 0 := by
  constructor
  · intro h
    rw [← val_limbs n, h]; rfl
  · rintro rfl; exact limbs_zero
theorem pow_le_of_len {n k : Nat} (h : k < (limbs n).length) : 18446744073709551616 ^ k ≤ n := by
  apply Nat.le_of_not_lt
  intro h2
  have := limbs_len_le h2
  omega
theorem len_lt_pow (n : Nat) : n < 18446744073709551616 ^ (limbs n).length := by
  have := val_lt (W_limbs n)
  rwa [val_limbs] at this
/-- More limbs, the greater number. -/
theorem lt_of_len {a b : Nat} (h : (limbs a).length < (limbs b).length) : a < b := by
  have h1 := len_lt_pow a
  have h2 := pow_le_of_len (n := b) (k := (limbs a).length) h
  omega
theorem len_mono {a b : Nat} (h : a ≤ b) : (limbs a).length ≤ (limbs b).length := by
  apply Nat.le_of_not_lt
  intro h2
  have := lt_of_len h2
  omega
theorem len_add (a b : Nat) : (limbs (a + b)).length ≤ max (limbs a).length (limbs b).length + 1 := by
  apply limbs_len_le
  have h1 := len_lt_pow a
  have h2 := len_lt_pow b
  have h3 : 18446744073709551616 ^ (limbs a).length ≤ 18446744073709551616 ^ max (limbs a).length (limbs b).length := Nat.pow_le_pow_right (by decide) (Nat.le_max_left _ _)
  have h4 : 18446744073709551616 ^ (limbs b).length ≤ 18446744073709551616 ^ max (limbs a).length (limbs b).length := Nat.pow_le_pow_right (by decide) (Nat.le_max_right _ _)
  rw [Nat.pow_succ]
  omega
theorem len_mul (a b : Nat) : (limbs (a * b)).length ≤ (limbs a).length + (limbs b).length := by
  apply limbs_len_le
  rw [Nat.pow_add]
  have h1 := len_lt_pow a
  have h2 := len_lt_pow b
  exact Nat.mul_lt_mul'' h1 h2
theorem strip_len {l : List Nat} (h : W l) : (strip l).length ≤ l.length := limbs_len_le (val_lt h)
end Go.Ab.Nn
/-! Words for functions over limbs: lists of words as plain values; what is handed back in new memory. -/
namespace Go.Ab
set_option linter.unusedVariables false
variable {P : Program} {gl : Nat → Option (List AV)} {σ σ' : Own}
open Nn

theorem wi {z : Int} (h0 : -9223372036854775808 ≤ z) (h1 : z ≤ 9223372036854775807) : IntKind.i64.wrap z = z := by rw [IntKind.wrap_i64]; omega
theorem wu {z : Int} : IntKind.u64.wrap z = z % 18446744073709551616 := by simp [IntKind.wrap, IntKind.bits, IntKind.signed]
theorem wun {z : Int} (n : Nat) (h : z % 18446744073709551616 = n) : IntKind.u64.wrap z = n := by rw [wu, h]

def u (x : Nat) : AV := .w (.int .u64 x)
def i64 (x : Int) : AV := .w (.int .i64 x)
/-- A list of words that nobody writes. -/
def nat (l : List Nat) : AV := .fs (l.map u) l.length
/-- A number. -/
def num (n : Nat) : AV := nat (limbs n)

theorem hd1 {α : Type} {f : α → AV} {l : List α} {i : Nat} (d : α) (h : i < l.length) : ((l.map f).drop (i * 1)).head? = some (f (l.getD i d)) := by
  rw [Nat.mul_one, List.head?_drop, List.getElem?_map, List.getElem?_eq_getElem h, List.getD_eq_getElem?_getD, List.getElem?_eq_getElem h]; rfl
theorem hd0 {α : Type} {f : α → AV} {l : List α} {i : Nat} (d : α) (h : i < l.length) : ((l.map f).drop (0 + i * 1)).head? = some (f (l.getD i d)) := by rw [Nat.zero_add]; exact hd1 d h
theorem set1 {α : Type} {f : α → AV} {l : List α} {i : Nat} (z : α) (h : i < l.length) : (l.map f).take (0 + i * 1) ++ [f z] ++ (l.map f).drop (0 + i * 1 + 1) = (l.set i z).map f := by
  rw [Nat.zero_add, Nat.mul_one, List.map_set, List.set_eq_take_append_cons_drop, if_pos (by simpa using h)]; simp
theorem set1' {α : Type} {f : α → AV} {l : List α} {i o : Nat} (z : α) (h : o + i < l.length) : (l.map f).take (o + i * 1) ++ [f z] ++ (l.map f).drop (o + i * 1 + 1) = (l.set (o + i) z).map f := by
  rw [Nat.mul_one, List.map_set, List.set_eq_take_append_cons_drop, if_pos (by simpa using h)]; simp
theorem hd' {α : Type} {f : α → AV} {l : List α} {i o : Nat} (d : α) (h : o + i < l.length) : ((l.map f).drop (o + i * 1)).head? = some (f (l.getD (o + i) d)) := by
  rw [Nat.mul_one, List.head?_drop, List.getElem?_map, List.getElem?_eq_getElem h, List.getD_eq_getElem?_getD, List.getElem?_eq_getElem h]; rfl
theorem rep_u (n : Nat) : ((List.range (n * 1)).map fun i => cAV ([Value.int .u64 0][i % 1]!)) = (List.replicate n 0).map u := by
  rw [Nat.mul_one, List.map_replicate]
  apply List.ext_getElem
  · simp
  · intro i h1 h2
    simp [Nat.mod_one, cAV, u]

theorem upd_same (σ : Own) (b : Nat) (o : Ob) : upd σ b o b = some o := by simp [upd]
theorem upd_ne {σ : Own} {b k : Nat} (o : Ob) (h : k ≠ b) : upd σ b o k = σ k := by simp [upd, h]
theorem upd_upd (σ : Own) (b : Nat) (o o' : Ob) : upd (upd σ b o) b o' = upd σ b o' := by funext k; unfold upd; split <;> rfl
theorem del_upd {σ : Own} {b : Nat} (o : Ob) (h : σ b = none) : Del (upd σ b o) σ := fun k => by
  by_cases e : k = b
  · subst e; exact .inr (.inl h)
  · rw [upd_ne _ e]; exact .inl rfl

/-- New memory of the call's own holds these words (or there are none). -/
def Owns (σ : Own) (l : List Nat) (v : AV) (σ' : Own) : Prop :=
  (l = [] ∧ v = .w (.slice none 0 0) ∧ σ' = σ) ∨ (l = [] ∧ v = .ff [] 0 ∧ σ' = σ) ∨
  ∃ b c ob, σ b = none ∧ v = .w (.slice (some ⟨b, 0, none⟩) l.length c) ∧ l.length ≤ c ∧ c ≤ ob.cap ∧ ob.xs.take l.length = l.map u ∧ σ' = upd σ b ob

theorem Owns.sub {l : List Nat} {v : AV} (h : Owns σ l v σ') : Sub gl σ' σ v (nat l) := by
  rcases h with ⟨rfl, rfl, rfl⟩ | ⟨rfl, rfl, rfl⟩ | ⟨b, c, ob, hb, rfl, hc, _, hx, rfl⟩
  · exact .nil_fs
  · exact .ff_fs .refl _ _
  · refine .own_fs (del_upd ob hb) (upd_same _ _ _) hb (k := l.length) ?_ hc
    rw [List.drop_zero, hx]
    exact .refl (del_upd ob hb) _
theorem Owns.del {l : List Nat} {v : AV} (h : Owns σ l v σ') : Del σ' σ := by
  rcases h with ⟨rfl, rfl, rfl⟩ | ⟨rfl, rfl, rfl⟩ | ⟨b, c, ob, hb, rfl, hc, _, hx, rfl⟩
  · exact .refl
  · exact .refl
  · exact del_upd ob hb

/-- A contract whose answer is given up to all. -/
theorem ACalls.sub {f : FuncId} {args : List AV} {R R' : AV → Own → Prop} (h : ACalls P gl f args σ R) (k : ∀ v σ', R v σ' → ∃ v' σ'', Del σ' σ'' ∧ Sub gl σ' σ'' v v' ∧ R' v' σ'') : ACalls P gl f args σ R' := by
  intro w cargs hr hv
  refine (h w cargs hr hv).mono fun cv w' ⟨v, σ', h1, h2, h3, h4⟩ => ?_
  obtain ⟨v', σ'', k1, k2, k3⟩ := k v σ' h1
  obtain ⟨r1, r2, r3⟩ := says_of (gl := gl) k1 (vs := [v]) (vs' := [v']) ⟨k2, trivial⟩ w' [cv] h2 (.cons h4 .nil)
  obtain ⟨v2, vs2, e2, hv2, _⟩ := r3.head
  cases e2
  exact ⟨v', σ'', k3, r1, h3.trans (stays_says r2), hv2⟩
theorem ACalls.frozen {f : FuncId} {args : List AV} {l : List Nat} (h : ACalls P gl f args σ (Owns σ l)) : ACalls P gl f args σ (fun v σ' => v = nat l ∧ σ' = σ) :=
  h.sub fun v σ' ho => ⟨_, σ, ho.del, ho.sub, rfl, rfl⟩

/-! #### plain lemmas on limbs -/
namespace Nn
theorem getD_lt {l : List Nat} (h : W l) (i : Nat) : l.getD i 0 < 18446744073709551616 := by
  rw [List.getD_eq_getElem?_getD]
  by_cases hi : i < l.length
  · rw [List.getElem?_eq_getElem hi]; exact h _ (List.getElem_mem hi)
  · rw [List.getElem?_eq_none (by omega)]; decide
theorem take_succ_getD {l : List Nat} {i : Nat} (h : i < l.length) : l.take (i + 1) = l.take i ++ [l.getD i 0] := by
  rw [List.take_succ_eq_append_getElem h, List.getD_eq_getElem?_getD, List.getElem?_eq_getElem h]; rfl
theorem val_take_succ (l : List Nat) (i : Nat) : val (l.take (i + 1)) = val (l.take i) + 18446744073709551616 ^ i * l.getD i 0 := by
  by_cases h : i < l.length
  · rw [take_succ_getD h, val_append, List.length_take, Nat.min_eq_left (by omega)]; simp [val]
  · rw [List.take_of_length_le (by omega), List.take_of_length_le (by omega), List.getD_eq_getElem?_getD, List.getElem?_eq_none (by omega)]; simp
theorem W_set {l : List Nat} (h : W l) (i v : Nat) (hv : v < 18446744073709551616) : W (l.set i v) := fun x hx => by
  rcases List.mem_or_eq_of_mem_set hx with h1 | h1
  · exact h x h1
  · rw [h1]; exact hv
theorem take_set_succ {l : List Nat} {i : Nat} (h : i < l.length) (v : Nat) : (l.set i v).take (i + 1) = l.take i ++ [v] := by
  rw [take_succ_getD (by simpa using h), List.take_set_of_le (Nat.le_refl i)]
  simp [List.getD_eq_getElem?_getD, h]
theorem val_take_set {l : List Nat} {i : Nat} (h : i < l.length) (v : Nat) : val ((l.set i v).take (i + 1)) = val (l.take i) + 18446744073709551616 ^ i * v := by
  rw [take_set_succ h, val_append, List.length_take, Nat.min_eq_left (by omega)]; simp [val]
theorem W_getD_take {l : List Nat} (h : W l) (i : Nat) : val (l.take i) < 18446744073709551616 ^ i := by
  refine Nat.lt_of_lt_of_le (val_lt (W_take h i)) (Nat.pow_le_pow_right (by decide) ?_)
  rw [List.length_take]
  exact Nat.min_le_left _ _
theorem strip_val (l : List Nat) : val (strip l) = val l := by unfold strip; rw [val_limbs]
theorem take_strip {l : List Nat} (h : W l) : l.take (strip l).length = strip l := by
  induction l with
  | nil => simp [strip, val, limbs_zero]
  | cons x l ih =>
    rw [W_cons] at h
    have hv : val (x :: l) = x + 18446744073709551616 * val l := rfl
    by_cases h0 : val (x :: l) = 0
    · unfold strip; rw [h0, limbs_zero]; rfl
    · have e : strip (x :: l) = x :: strip l := by
        unfold strip
        rw [limbs_pos h0, hv, Nat.add_mul_mod_self_left, Nat.mod_eq_of_lt h.1, Nat.add_mul_div_left _ _ (by decide), Nat.div_eq_of_lt h.1, Nat.zero_add]
      rw [e, List.length_cons, List.take_succ_cons, ih h.2]
theorem strip_take_succ {l : List Nat} {i : Nat} (h : i < l.length) (h0 : l.getD i 0 = 0) : strip (l.take (i + 1)) = strip (l.take i) := by
  unfold strip; rw [val_take_succ, h0]; simp
theorem strip_top {l : List Nat} (h : W l) {i : Nat} (hi : i < l.length) (h0 : l.getD i 0 ≠ 0) : strip (l.take (i + 1)) = l.take (i + 1) := by
  unfold strip
  refine limbs_val (W_take h _) (fun x hx => ?_)
  rw [take_succ_getD hi, List.getLast?_append] at hx
  simp at hx
  rw [← hx]; simpa [List.getD_eq_getElem?_getD] using h0
end Nn
end Go.Ab
namespace Go.Ab
variable {P : Program} {gl : Nat → Option (List AV)} {σ σ' : Own}
namespace Nn
/-- May these limbs be a number's? -/
def mayB (l : List Nat) : Bool := match l.getLast? with
  | some x => x != 0
  | none => true
theorem mayB_limbs (n : Nat) : mayB (limbs n) = true := by
  unfold mayB
  split
  · rename_i x hx; simpa using limbs_top n x hx
  · rfl
theorem mayB_eq {l : List Nat} (hw : W l) (h : mayB l = true) : l = limbs (val l) := by
  refine eq_limbs hw (fun x hx => ?_)
  unfold mayB at h
  rw [hx] at h
  simpa using h
theorem mayB_last {l : List Nat} (h : l.length ≠ 0) : mayB l = (((l.getD (l.length - 1) 0 : Nat) : Int) != 0) := by
  unfold mayB
  rw [List.getLast?_eq_getElem?, List.getElem?_eq_getElem (by omega), List.getD_eq_getElem?_getD, List.getElem?_eq_getElem (by omega)]
  simp only [Option.getD_some]
  rw [Bool.eq_iff_iff]; simp
/-- the order as a number -/
def c3 (m n : Nat) : Int := if m < n then -1 else if n < m then 1 else 0
theorem c3_lt {m n : Nat} (h : m < n) : c3 m n = -1 := by simp [c3, h]
theorem c3_gt {m n : Nat} (h : n < m) : c3 m n = 1 := by simp [c3, h]; omega
theorem c3_self (m : Nat) : c3 m m = 0 := by simp [c3]
theorem lt_of_top {V V' P x y : Nat} (hV : V < P) (hy : x < y) : V + P * x < V' + P * y := by
  have h2 := Nat.mul_le_mul_left P (show x + 1 ≤ y from hy)
  rw [Nat.mul_add, Nat.mul_one] at h2
  omega
theorem add_step {V A Bv P s c x y cy : Nat} (h : V + P * cy = A + Bv) (hs : s + 18446744073709551616 * c = x + y + cy) :
    V + P * s + P * 18446744073709551616 * c = A + P * x + (Bv + P * y) := by
  have h2 := congrArg (P * ·) hs
  simp only [Nat.mul_add, ← Nat.mul_assoc] at h2
  omega
theorem sub_step {V A Bv P s c x y bo : Nat} (h : V + Bv = A + P * bo) (hs : s + y + bo = x + 18446744073709551616 * c) :
    V + P * s + (Bv + P * y) = A + P * x + P * 18446744073709551616 * c := by
  have h2 := congrArg (P * ·) hs
  simp only [Nat.mul_add, ← Nat.mul_assoc] at h2
  omega
end Nn

/-- A function of Go's library for which the model stands in, upon words. -/
theorem ACalls.ext {f : FuncId} {vs : List Value} {cv : Value} {v : AV} (h : ∀ w, (callFunc f vs.toArray).run P w = .ok (.value cv) w) (hv : ∀ (I : Nat → Prop) w, VR I w v cv) : ACalls P gl f (vs.map .w) σ (fun v' σ' => v' = v ∧ σ' = σ) := by
  intro w cargs hr hvs
  have e : cargs = vs.toArray := by
    apply Array.ext'
    have key : ∀ (vs : List Value) (cs : List Value), VRs (Im σ w) w (vs.map .w) cs → cs = vs := by
      intro vs
      induction vs with
      | nil => intro cs h; exact h.nil_inv
      | cons x xs ih =>
        intro cs h
        obtain ⟨c, cs', rfl, h1, h2⟩ := h.head
        rw [h1.w_inv, ih _ h2]
    exact key vs _ hvs
  subst e
  rw [h w]
  exact ⟨v, σ, ⟨rfl, rfl⟩, hr, .refl _ _, hv _ _⟩
end Go.Ab
namespace Go.Ab.Nn
theorem c3_neg (m n : Nat) : c3 n m = -c3 m n := by unfold c3; split <;> split <;> first | omega | (split <;> omega) | rfl
theorem c3_eq0 (m n : Nat) : (c3 m n == 0) = decide (m = n) := by
  unfold c3; split
  · rw [decide_eq_false (by omega)]; rfl
  · split
    · rw [decide_eq_false (by omega)]; rfl
    · rw [decide_eq_true (by omega)]; rfl
theorem c3_congr {m n m' n' : Nat} (h1 : m < n ↔ m' < n') (h2 : n < m ↔ n' < m') : c3 m n = c3 m' n' := by
  unfold c3; simp only [h1, h2]
theorem c3_add (m n k : Nat) : c3 (m + k) (n + k) = c3 m n := c3_congr (by omega) (by omega)
theorem c3_mul {m n k : Nat} (h : 0 < k) : c3 (m * k) (n * k) = c3 m n := c3_congr (Nat.mul_lt_mul_right h) (Nat.mul_lt_mul_right h)
theorem c3_lt0 {m n : Nat} : c3 m n < 0 ↔ m < n := by unfold c3; split <;> first | (split <;> omega) | omega
theorem c3_le0 {m n : Nat} : c3 m n ≤ 0 ↔ m ≤ n := by unfold c3; split <;> first | (split <;> omega) | omega
theorem c3_bounds (m n : Nat) : -1 ≤ c3 m n ∧ c3 m n ≤ 1 := by unfold c3; split <;> first | (split <;> omega) | omega
theorem len_lim {l : List Nat} (hw : W l) : (limbs (val l)).length ≤ l.length := strip_len hw
end Go.Ab.Nn
/-! Plain arithmetic of digits of 32 bits: as Ln1. -/
namespace Go.Ab.Hn
set_option linter.unusedVariables false

def W (l : List Nat) : Prop := ∀ x ∈ l, x < 4294967296
/-- The number that limbs say, the lowest first. -/
def val : List Nat → Nat
  | [] => 0
  | x :: l => x + 4294967296 * val l
/-- A number's limbs. -/
def limbs (n : Nat) : List Nat := if _h : n = 0 then [] else n % 4294967296 :: limbs (n / 4294967296)
termination_by n
decreasing_by exact Nat.div_lt_self (by omega) (by decide)

theorem limbs_zero : limbs 0 = [] := by rw [limbs]; simp
theorem limbs_pos {n : Nat} (h : n ≠ 0) : limbs n = n % 4294967296 :: limbs (n / 4294967296) := by rw [limbs]; simp [h]

theorem W_nil : W [] := by intro x hx; cases hx
theorem W_cons {x : Nat} {l : List Nat} : W (x :: l) ↔ x < 4294967296 ∧ W l := by simp [W]
theorem W_append {l m : List Nat} : W (l ++ m) ↔ W l ∧ W m := by
  simp only [W, List.mem_append]
  constructor
  · exact fun h => ⟨fun x hx => h x (.inl hx), fun x hx => h x (.inr hx)⟩
  · rintro ⟨h1, h2⟩ x (hx | hx)
    · exact h1 x hx
    · exact h2 x hx
theorem W_take {l : List Nat} (h : W l) (n : Nat) : W (l.take n) := fun x hx => h x (List.mem_of_mem_take hx)
theorem W_drop {l : List Nat} (h : W l) (n : Nat) : W (l.drop n) := fun x hx => h x (List.mem_of_mem_drop hx)
theorem W_replicate (n : Nat) : W (List.replicate n 0) := fun x hx => by rw [List.eq_of_mem_replicate hx]; omega

theorem W_limbs (n : Nat) : W (limbs n) := by
  induction n using Nat.strongRecOn with
  | _ n ih =>
    by_cases h : n = 0
    · rw [h, limbs_zero]; exact W_nil
    · rw [limbs_pos h, W_cons]
      exact ⟨by omega, ih _ (Nat.div_lt_self (by omega) (by decide))⟩
theorem val_limbs (n : Nat) : val (limbs n) = n := by
  induction n using Nat.strongRecOn with
  | _ n ih =>
    by_cases h : n = 0
    · rw [h, limbs_zero]; rfl
    · rw [limbs_pos h, val, ih _ (Nat.div_lt_self (by omega) (by decide))]
      omega
theorem limbs_inj {a b : Nat} (h : limbs a = limbs b) : a = b := by rw [← val_limbs a, ← val_limbs b, h]
theorem val_append (l m : List Nat) : val (l ++ m) = val l + 4294967296 ^ l.length * val m := by
  induction l with
  | nil => simp [val]
  | cons x l ih =>
    rw [List.cons_append, val, ih, val, List.length_cons, Nat.pow_succ]
    have : 4294967296 * (4294967296 ^ l.length * val m) = 4294967296 ^ l.length * 4294967296 * val m := by rw [← Nat.mul_assoc, Nat.mul_comm 4294967296]
    omega
theorem val_replicate (n : Nat) : val (List.replicate n 0) = 0 := by
  induction n with
  | zero => rfl
  | succ n ih => rw [List.replicate_succ, val, ih]
theorem val_lt {l : List Nat} (h : W l) : val l < 4294967296 ^ l.length := by
  induction l with
  | nil => simp [val]
  | cons x l ih =>
    rw [W_cons] at h
    have := ih h.2
    rw [val, List.length_cons, Nat.pow_succ]
    have h1 := h.1
    omega
/-- A number's limbs bear no 0 on top. -/
theorem limbs_top (n : Nat) : ∀ x, (limbs n).getLast? = some x → x ≠ 0 := by
  induction n using Nat.strongRecOn with
  | _ n ih =>
    intro x hx
    by_cases h : n = 0
    · rw [h, limbs_zero] at hx; cases hx
    · rw [limbs_pos h] at hx
      by_cases h2 : n / 4294967296 = 0
      · rw [h2, limbs_zero] at hx
        simp at hx
        omega
      · rw [List.getLast?_cons, limbs_pos h2] at hx
        have := ih (n / 4294967296) (Nat.div_lt_self (by omega) (by decide)) x
        rw [limbs_pos h2] at this
        apply this
        rw [List.getLast?_cons] at hx ⊢
        simpa using hx
theorem limbs_len_le {n k : Nat} (h : n < 4294967296 ^ k) : (limbs n).length ≤ k := by
  induction k generalizing n with
  | zero =>
    have : n = 0 := by simpa using h
    rw [this, limbs_zero]; simp
  | succ k ih =>
    by_cases h0 : n = 0
    · rw [h0, limbs_zero]; simp
    · rw [limbs_pos h0, List.length_cons]
      have : n / 4294967296 < 4294967296 ^ k := by
        rw [Nat.pow_succ] at h
        exact Nat.div_lt_of_lt_mul (by rw [Nat.mul_comm]; exact h)
      have := ih this
      omega
/-- Limbs without a 0 on top are their number's. -/
theorem limbs_val {l : List Nat} (h : W l) (ht : ∀ x, l.getLast? = some x → x ≠ 0) : limbs (val l) = l := by
  induction l with
  | nil => exact limbs_zero
  | cons x l ih =>
    rw [W_cons] at h
    have ht' : ∀ y, l.getLast? = some y → y ≠ 0 := by
      intro y hy
      apply ht y
      rw [List.getLast?_cons, hy]
      rfl
    have e := ih h.2 ht'
    have hne : val (x :: l) ≠ 0 := by
      rw [val]
      cases l with
      | nil =>
        have := ht x (by simp)
        have := h.1
        simp [val]
        omega
      | cons y l =>
        intro h0
        have h1 : val (y :: l) = 0 := by
          have : 4294967296 * val (y :: l) = 0 := by omega
          rcases Nat.mul_eq_zero.1 this with h | h
          · cases h
          · exact h
        rw [h1, limbs_zero] at e
        cases e
    have h1 := h.1
    have hx : ((x + 4294967296 * val l) % 4294967296 : Nat) = x := by
      rw [Nat.add_mul_mod_self_left, Nat.mod_eq_of_lt (by omega)]
    have hd : ((x + 4294967296 * val l) / 4294967296 : Nat) = val l := by
      rw [Nat.add_mul_div_left _ _ (by decide), Nat.div_eq_of_lt (by omega)]; omega
    rw [limbs_pos hne]
    simp only [val]
    rw [hx, hd, e]
/-- Without noughts on top. -/
def strip (l : List Nat) : List Nat := limbs (val l)
theorem strip_snoc_zero {l : List Nat} : strip (l ++ [0]) = strip l := by
  unfold strip
  rw [val_append]
  simp [val]
theorem strip_limbs (n : Nat) : strip (limbs n) = limbs n := by unfold strip; rw [val_limbs]
/-- May these limbs be a number's? -/
def May (l : List Nat) : Prop := ∀ x, l.getLast? = some x → x ≠ 0
theorem May_limbs (n : Nat) : May (limbs n) := limbs_top n
theorem eq_limbs {l : List Nat} (h : W l) (hm : May l) : l = limbs (val l) := (limbs_val h hm).symm
theorem limbs_eq_nil {n : Nat} : limbs n = [] ↔ n = 0 := by
  constructor
  · intro h
    rw [← val_limbs n, h]; rfl
  · rintro rfl; exact limbs_zero
theorem pow_le_of_len {n k : Nat} (h : k < (limbs n).length) : 4294967296 ^ k ≤ n := by
  apply Nat.le_of_not_lt
  intro h2
  have := limbs_len_le h2
  omega
theorem len_lt_pow (n : Nat) : n < 4294967296 ^ (limbs n).length := by
  have := val_lt (W_limbs n)
  rwa [val_limbs] at this
/-- More limbs, the greater number. -/
theorem lt_of_len {a b : Nat} (h : (limbs a).length < (limbs b).length) : a < b := by
  have h1 := len_lt_pow a
  have h2 := pow_le_of_len (n := b) (k := (limbs a).length) h
  omega
theorem len_mono {a b : Nat} (h : a ≤ b) : (limbs a).length ≤ (limbs b).length := by
  apply Nat.le_of_not_lt
  intro h2
  have := lt_of_len h2
  omega
theorem len_add (a b : Nat) : (limbs (a + b)).length ≤ max (limbs a).length (limbs b).length + 1 := by
  apply limbs_len_le
  have h1 := len_lt_pow a
  have h2 := len_lt_pow b
  have h3 : 4294967296 ^ (limbs a).length ≤ 4294967296 ^ max (limbs a).length (limbs b).length := Nat.pow_le_pow_right (by decide) (Nat.le_max_left _ _)
  have h4 : 4294967296 ^ (limbs b).length ≤ 4294967296 ^ max (limbs a).length (limbs b).length := Nat.pow_le_pow_right (by decide) (Nat.le_max_right _ _)
  rw [Nat.pow_succ]
  omega
theorem len_mul (a b : Nat) : (limbs (a * b)).length ≤ (limbs a).length + (limbs b).length := by
  apply limbs_len_le
  rw [Nat.pow_add]
  have h1 := len_lt_pow a
  have h2 := len_lt_pow b
  exact Nat.mul_lt_mul'' h1 h2
theorem strip_len {l : List Nat} (h : W l) : (strip l).length ≤ l.length := limbs_len_le (val_lt h)
theorem getD_lt {l : List Nat} (h : W l) (i : Nat) : l.getD i 0 < 4294967296 := by
  rw [List.getD_eq_getElem?_getD]
  by_cases hi : i < l.length
  · rw [List.getElem?_eq_getElem hi]; exact h _ (List.getElem_mem hi)
  · rw [List.getElem?_eq_none (by omega)]; decide
theorem take_succ_getD {l : List Nat} {i : Nat} (h : i < l.length) : l.take (i + 1) = l.take i ++ [l.getD i 0] := by
  rw [List.take_succ_eq_append_getElem h, List.getD_eq_getElem?_getD, List.getElem?_eq_getElem h]; rfl
theorem val_take_succ (l : List Nat) (i : Nat) : val (l.take (i + 1)) = val (l.take i) + 4294967296 ^ i * l.getD i 0 := by
  by_cases h : i < l.length
  · rw [take_succ_getD h, val_append, List.length_take, Nat.min_eq_left (by omega)]; simp [val]
  · rw [List.take_of_length_le (by omega), List.take_of_length_le (by omega), List.getD_eq_getElem?_getD, List.getElem?_eq_none (by omega)]; simp
theorem W_set {l : List Nat} (h : W l) (i v : Nat) (hv : v < 4294967296) : W (l.set i v) := fun x hx => by
  rcases List.mem_or_eq_of_mem_set hx with h1 | h1
  · exact h x h1
  · rw [h1]; exact hv
theorem take_set_succ {l : List Nat} {i : Nat} (h : i < l.length) (v : Nat) : (l.set i v).take (i + 1) = l.take i ++ [v] := by
  rw [take_succ_getD (by simpa using h), List.take_set_of_le (Nat.le_refl i)]
  simp [List.getD_eq_getElem?_getD, h]
theorem val_take_set {l : List Nat} {i : Nat} (h : i < l.length) (v : Nat) : val ((l.set i v).take (i + 1)) = val (l.take i) + 4294967296 ^ i * v := by
  rw [take_set_succ h, val_append, List.length_take, Nat.min_eq_left (by omega)]; simp [val]
theorem W_getD_take {l : List Nat} (h : W l) (i : Nat) : val (l.take i) < 4294967296 ^ i := by
  refine Nat.lt_of_lt_of_le (val_lt (W_take h i)) (Nat.pow_le_pow_right (by decide) ?_)
  rw [List.length_take]
  exact Nat.min_le_left _ _
theorem strip_val (l : List Nat) : val (strip l) = val l := by unfold strip; rw [val_limbs]
theorem take_strip {l : List Nat} (h : W l) : l.take (strip l).length = strip l := by
  induction l with
  | nil => simp [strip, val, limbs_zero]
  | cons x l ih =>
    rw [W_cons] at h
    have hv : val (x :: l) = x + 4294967296 * val l := rfl
    by_cases h0 : val (x :: l) = 0
    · unfold strip; rw [h0, limbs_zero]; rfl
    · have e : strip (x :: l) = x :: strip l := by
        unfold strip
        rw [limbs_pos h0, hv, Nat.add_mul_mod_self_left, Nat.mod_eq_of_lt h.1, Nat.add_mul_div_left _ _ (by decide), Nat.div_eq_of_lt h.1, Nat.zero_add]
      rw [e, List.length_cons, List.take_succ_cons, ih h.2]
theorem strip_take_succ {l : List Nat} {i : Nat} (h : i < l.length) (h0 : l.getD i 0 = 0) : strip (l.take (i + 1)) = strip (l.take i) := by
  unfold strip; rw [val_take_succ, h0]; simp
theorem strip_top {l : List Nat} (h : W l) {i : Nat} (hi : i < l.length) (h0 : l.getD i 0 ≠ 0) : strip (l.take (i + 1)) = l.take (i + 1) := by
  unfold strip
  refine limbs_val (W_take h _) (fun x hx => ?_)
  rw [take_succ_getD hi, List.getLast?_append] at hx
  simp at hx
  rw [← hx]; simpa [List.getD_eq_getElem?_getD] using h0
end Go.Ab.Hn

namespace Go.Ab.Hn
open Go.Ab
theorem val_set {l : List Nat} {k : Nat} (h : k < l.length) (v : Nat) : val (l.set k v) + 4294967296 ^ k * l.getD k 0 = val l + 4294967296 ^ k * v := by
  induction l generalizing k with
  | nil => simp at h
  | cons x l ih =>
    cases k with
    | zero => simp [val]; omega
    | succ k =>
      have := ih (k := k) (by simpa using h)
      simp only [List.set_cons_succ, val, List.getD_cons_succ, Nat.pow_succ]
      rw [Nat.mul_comm (4294967296 ^ k) 4294967296, Nat.mul_assoc, Nat.mul_assoc]
      omega
theorem val_snoc (l : List Nat) (x : Nat) : val (l ++ [x]) = val l + 4294967296 ^ l.length * x := by rw [val_append]; simp [val]
/-- the digits of words -/
def halves (l : List Nat) : List Nat := l.flatMap fun a => [a % 4294967296, a / 4294967296]
theorem halves_len (l : List Nat) : (halves l).length = 2 * l.length := by
  induction l with
  | nil => rfl
  | cons x l ih => simp only [halves, List.flatMap_cons, List.length_append, List.length_cons, List.length_nil] at *; omega
theorem halves_W {l : List Nat} (h : Nn.W l) : W (halves l) := by
  intro x hx
  simp only [halves, List.mem_flatMap] at hx
  obtain ⟨a, ha, hx⟩ := hx
  have := h a ha
  simp at hx
  omega
theorem halves_val (l : List Nat) : val (halves l) = Nn.val l := by
  induction l with
  | nil => rfl
  | cons x l ih =>
    have e : halves (x :: l) = x % 4294967296 :: x / 4294967296 :: halves l := rfl
    rw [e, val, val, ih, Nn.val]; omega
theorem halves_take (l : List Nat) {i : Nat} (h : i < l.length) : halves (l.take (i + 1)) = halves (l.take i) ++ [l.getD i 0 % 4294967296, l.getD i 0 / 4294967296] := by
  rw [Nn.take_succ_getD h]; simp [halves]
/-- words of digits -/
def join : List Nat → List Nat
  | [] => []
  | [x] => [x]
  | x :: y :: r => (x + 4294967296 * y) :: join r
theorem join_W : ∀ {l : List Nat}, W l → Nn.W (join l)
  | [], _ => Nn.W_nil
  | [x], h => by
    have := h x (by simp)
    intro y hy; simp [join] at hy; omega
  | x :: y :: r, h => by
    have h1 := h x (by simp)
    have h2 := h y (by simp)
    exact Nn.W_cons.2 ⟨by omega, join_W fun z hz => h z (by simp [hz])⟩
theorem join_val : ∀ l : List Nat, Nn.val (join l) = val l
  | [] => rfl
  | [x] => by simp [join, Nn.val, val]
  | x :: y :: r => by rw [join, Nn.val, join_val r, val, val]; omega
theorem join_len : ∀ l : List Nat, (join l).length = (l.length + 1) / 2
  | [] => by simp [join]
  | [x] => by simp [join]
  | x :: y :: r => by rw [join, List.length_cons, join_len r]; simp; omega
theorem join_append : ∀ (l m : List Nat), l.length % 2 = 0 → join (l ++ m) = join l ++ join m
  | [], m, _ => rfl
  | [x], m, h => by simp at h
  | x :: y :: r, m, h => by
    rw [List.cons_append, List.cons_append, join, join, join_append r m (by simp at h; omega)]; rfl
theorem limbs_len (n : Nat) : (limbs n).length ≤ 2 * (Nn.limbs n).length := by
  refine limbs_len_le ?_
  have := Nn.len_lt_pow n
  rwa [show 18446744073709551616 = 4294967296 ^ 2 from rfl, ← Nat.pow_mul] at this
end Go.Ab.Hn
/-! Lists that grow by append. -/
namespace Go.Ab
set_option linter.unusedVariables false
variable {P : Program} {gl : Nat → Option (List AV)} {σ σ' : Own}

/-- one block gives way to another -/
theorem del_swap' {σ : Own} {a b : Nat} {x : Ob} (ha : σ a = none) (hb : upd σ a x b = none) (y : Ob) : Del (upd (upd σ a x) b y) (upd σ b y) := fun k => by
  by_cases e : k = b
  · subst e; rw [upd_same, upd_same]; exact .inl rfl
  · rw [upd_ne _ e, upd_ne _ e]
    by_cases e2 : k = a
    · subst e2; exact .inr (.inl ha)
    · rw [upd_ne _ e2]; exact .inl rfl

/-- These cells, in new memory of the call's own (or no memory: there are none). -/
def OwnsA (σ : Own) (sz : Nat) (xs : List AV) (n : Nat) (v : AV) (σ' : Own) : Prop :=
  (n = 0 ∧ xs = [] ∧ v = .w (.slice none 0 0) ∧ σ' = σ) ∨
  ∃ b c ob, σ b = none ∧ v = .w (.slice (some ⟨b, 0, none⟩) n c) ∧ n ≤ c ∧ c * sz ≤ ob.cap ∧ xs.length = n * sz ∧ ob.xs.take (n * sz) = xs ∧ σ' = upd σ b ob

theorem OwnsA.nil (σ : Own) (sz : Nat) : OwnsA σ sz [] 0 (.w (.slice none 0 0)) σ := .inl ⟨rfl, rfl, rfl, rfl⟩
theorem OwnsA.len {sz n : Nat} {xs : List AV} {v : AV} (h : OwnsA σ sz xs n v σ') : xs.length = n * sz := by
  rcases h with ⟨rfl, rfl, _⟩ | ⟨b, c, ob, _, _, _, _, h, _⟩
  · simp
  · exact h
theorem OwnsA.lenV {sz n : Nat} {xs : List AV} {v : AV} (h : OwnsA σ sz xs n v σ') {K : AV → Prop} (k : K (.w (.int .i64 n))) : lenV v K := by
  rcases h with ⟨rfl, rfl, rfl, _⟩ | ⟨b, c, ob, _, rfl, _⟩ <;> exact k
theorem OwnsA.del {sz n : Nat} {xs : List AV} {v : AV} (h : OwnsA σ sz xs n v σ') : Del σ' σ := by
  rcases h with ⟨rfl, rfl, rfl, rfl⟩ | ⟨b, c, ob, hb, rfl, _, _, _, _, rfl⟩
  · exact .refl
  · exact del_upd ob hb
theorem OwnsA.sub {sz n : Nat} {xs : List AV} {v : AV} (h : OwnsA σ sz xs n v σ') : Sub gl σ' σ v (.fs xs n) := by
  rcases h with ⟨rfl, rfl, rfl, rfl⟩ | ⟨b, c, ob, hb, rfl, hc, _, hl, hx, rfl⟩
  · exact .nil_fs
  · refine .own_fs (del_upd ob hb) (upd_same _ _ _) hb (k := n * sz) ?_ hc
    rw [List.drop_zero, hx]
    exact .refl (del_upd ob hb) _
theorem OwnsA.app {sz bytes n k : Nat} {xs ys : List AV} {v : AV} {K : AV → Own → Prop} (h : OwnsA σ sz xs n v σ') (hy : ys.length = k * sz) (h1 : ys.all oneCell = true) (hb : n + k ≤ 9223372036854775807) (hb2 : (n + k) * 2 * bytes ≤ 281474976710656)
    (kk : ∀ v' σ2 σ3, OwnsA σ sz (xs ++ ys) (n + k) v' σ3 → Del σ2 σ3 → K v' σ2) : appR sz bytes v ys k σ' K := by
  rcases h with ⟨rfl, rfl, rfl, rfl⟩ | ⟨b, c, ob, hb', rfl, hc, hcap, hl, hx, rfl⟩
  · refine ⟨rfl, rfl, fun h0 => ?_, fun h0 => ⟨by omega, by rwa [Nat.zero_add] at hb2, fun b c' hb hc => ?_⟩⟩
    · subst h0
      have : ys = [] := List.eq_nil_of_length_eq_zero (by omega)
      subst this
      exact kk _ _ _ (.nil _ _) .refl
    · exact kk _ _ _ (.inr ⟨b, c', _, hb, by rw [Nat.zero_add], by omega, by show c' * sz ≤ c' * sz; omega, by simp [hy], by rw [Nat.zero_add, List.nil_append]; exact List.take_of_length_le (by rw [hy]; exact Nat.le_refl _), rfl⟩) .refl
  · have hxl : n * sz ≤ ob.xs.length := by
      have := congrArg List.length hx
      rw [List.length_take, hl] at this
      omega
    have e0 : 0 + n * sz = n * sz := Nat.zero_add _
    refine ⟨ob, upd_same _ _ _, by omega, by omega, hc, hb, hb2, h1, fun h => ?_, fun h b' c' hb2' hc' => ?_⟩
    · refine kk _ _ _ (.inr ⟨b, c, ⟨(ob.xs.take (0 + n * sz)) ++ ys ++ ob.xs.drop (0 + (n + k) * sz), ob.cap⟩, hb', rfl, h, hcap, by rw [List.length_append, hl, hy, Nat.add_mul], ?_, rfl⟩) (by rw [upd_upd]; exact .refl)
      show ((ob.xs.take (0 + n * sz)) ++ ys ++ ob.xs.drop (0 + (n + k) * sz)).take ((n + k) * sz) = _
      rw [e0, hx, List.take_left' (by rw [List.length_append, hl, hy, Nat.add_mul])]
    · have hne : b' ≠ b := fun e => by subst e; rw [upd_same] at hb2'; cases hb2'
      have hb3 : σ b' = none := by rwa [upd_ne _ hne] at hb2'
      refine kk _ _ _ (.inr ⟨b', c', ⟨(ob.xs.drop 0).take (n * sz) ++ ys, c' * sz⟩, hb3, rfl, hc', Nat.le_refl _, by rw [List.length_append, hl, hy, Nat.add_mul], ?_, rfl⟩) (del_swap' hb' hb2' _)
      show ((ob.xs.drop 0).take (n * sz) ++ ys).take ((n + k) * sz) = _
      rw [List.drop_zero, hx, List.take_of_length_le (by rw [List.length_append, hl, hy, Nat.add_mul]; exact Nat.le_refl _)]
/-- the memory behind it changes in a block that it does not use -/
theorem OwnsA.base {σ : Own} {h : Nat} {X X' : Ob} {sz n : Nat} {xs : List AV} {v : AV} (k : OwnsA (upd σ h X) sz xs n v σ') : OwnsA (upd σ h X') sz xs n v (upd σ' h X') ∧ σ' h = some X := by
  rcases k with ⟨rfl, rfl, rfl, rfl⟩ | ⟨b, c, ob, hb, rfl, hc, hcap, hl, hx, rfl⟩
  · exact ⟨.inl ⟨rfl, rfl, rfl, by rw [upd_upd]⟩, upd_same _ _ _⟩
  · have hne : b ≠ h := fun e => by subst e; rw [upd_same] at hb; cases hb
    refine ⟨.inr ⟨b, c, ob, by rw [upd_ne _ hne] at hb ⊢; exact hb, rfl, hc, hcap, hl, hx, ?_⟩, by rw [upd_ne _ (fun e => hne e.symm), upd_same]⟩
    funext j
    unfold upd
    by_cases e1 : j = h
    · subst e1; simp; intro e; exact absurd e (fun e => hne e.symm)
    · by_cases e2 : j = b
      · subst e2; simp [e1]
      · simp [e1, e2]
end Go.Ab
/-! Results that lie in cells: functions by their plain code. -/
namespace Go.Ab
set_option linter.unusedVariables false
set_option linter.unusedSimpArgs false

inductive RV where
  | t (i : Nat)
  | c (i : Nat) (agg : Bool) (size : Nat)
def cRV (P : Program) : ResultVar → Option RV
  | .tmp t => some (.t t)
  | .cell a ty => match aggT P ty, szOf P ty with
    | some b, some n => some (.c a b n)
    | _, _ => none
def cRVs (P : Program) : List ResultVar → Option (List RV)
  | [] => some []
  | r :: l => match cRV P r, cRVs P l with
    | some s, some m => some (s :: m)
    | _, _ => none
def rv1 (σ : Own) (env : Env) : RV → (AV → Prop) → Prop
  | .t i, K => look env i K
  | .c i b n, K => look env i fun p => ldV b n σ p K
def rvs (σ : Own) (env : Env) : List RV → (List AV → Prop) → Prop
  | [], K => K []
  | r :: l, K => rv1 σ env r fun v => rvs σ env l fun vs => K (v :: vs)
def finC (S : List AV → Own → List AV → Own → Prop) (rs : List RV) (R : AV → Own → Prop) (env : Env) (σ : Own) : Prop :=
  match rs with
  | [r] => rv1 σ env r fun v => Ret S v σ R
  | rs => rvs σ env rs fun vs => Ret S (.tup vs) σ R
def retC (S : List AV → Own → List AV → Own → Prop) (rs : List RV) (R : AV → Own → Prop) : AEx → Env → Own → Prop
  | .exit _, _, _ => False
  | _, env, σ => finC S rs R env σ

variable {P : Program} {gl : Nat → Option (List AV)} {N : Nat} {σ : Own} {w : World} {env : Env} {a : Act}

def rdF (tmps : Array Value) : ResultVar → Sem Value
  | .tmp t => pure (tmps.getD t undef)
  | .cell a t => do loadVar t (← asAddr (tmps.getD a undef))

theorem rv1_sound {r : ResultVar} {s : RV} (hc : cRV P r = some s) (hr : Rel gl σ w) (he : EnvR N σ w env a) {K : AV → Prop} (h : rv1 σ env s K) : ∃ v cv, (rdF a.tmps r).run P w = .ok cv w ∧ VR (Im σ w) w v cv ∧ K v := by
  cases r with
  | tmp t =>
    cases hc
    simp only [rv1, look_eq] at h
    exact ⟨_, _, rfl, he.val t, h⟩
  | cell ad ty =>
    simp only [cRV] at hc
    split at hc
    · rename_i b n hb hn
      cases hc
      simp only [rv1, look_eq] at h
      have hv := he.val ad
      unfold ldV at h
      split at h
      · rename_i xs hx
        rw [hx] at hv
        obtain ⟨p, hp, hA⟩ := hv.fp_inv
        obtain ⟨y, u, h1, h2, h3⟩ := run_loadVar (P := P) hb hn hA h
        exact ⟨y, u, by simp [rdF, hp, asAddr, h1], h3, h2⟩
      · rename_i b' o hx
        rw [hx] at hv
        have hp := hv.w_inv
        obtain ⟨ob, hk, h⟩ := h
        obtain ⟨y, u, h1, h2, h3⟩ := run_loadVar_own (P := P) hb hn hr hk _ h
        exact ⟨y, u, by simp [rdF, hp, asAddr, h1], h3, h2⟩
      · exact h.elim
    · cases hc

theorem rvs_sound (hr : Rel gl σ w) (he : EnvR N σ w env a) : ∀ {l : List ResultVar} {m : List RV} {K : List AV → Prop}, cRVs P l = some m → rvs σ env m K → ∃ vs cvs, (l.mapM (rdF a.tmps)).run P w = .ok cvs w ∧ VRs (Im σ w) w vs cvs ∧ K vs
  | [], m, K, hc, h => by cases hc; exact ⟨[], [], rfl, .nil, h⟩
  | r :: l, m, K, hc, h => by
    simp only [cRVs] at hc
    split at hc
    · rename_i s m' h1 h2
      cases hc
      simp only [rvs] at h
      obtain ⟨v, cv, k1, k2, k3⟩ := rv1_sound h1 hr he h
      obtain ⟨vs, cvs, j1, j2, j3⟩ := rvs_sound hr he h2 k3
      refine ⟨v :: vs, cv :: cvs, ?_, .cons k2 j2, j3⟩
      rw [List.mapM_cons, Sem.run_bind, k1, Result.andThen_ok, Sem.run_bind, j1, Result.andThen_ok]; rfl
    · cases hc

theorem acallsC {f : FuncId} {fn : Func} {c : Code} {g s : SC} (hm : P.follows .mixedOrders = true) (hf : P.funcs[f]? = some fn) (hb : fn.body = some c) (hn : (fn.name == "runtime.NumGoroutine") = false) {rs : List RV} (hr : cRVs P fn.results.toList = some rs)
    (hc : cCode P fn.ntmps g c = some s) {args : List AV} (ha : args.length ≤ fn.ntmps) {σ : Own} {R : AV → Own → Prop} (h : vc (cx P gl) s (retC (Says gl) rs R) (argEnv 0 args) σ) : ACalls P gl f args σ R := by
  intro w cargs hrel hv
  have hrun : (callFunc f cargs).run P w = .ok (.enter f cargs) w := by
    have hn' : ¬ fn.name = "runtime.NumGoroutine" := by simpa using hn
    unfold callFunc
    simp [hf, hn', hb]
  rw [hrun]
  show Calls P f cargs w _
  refine calls_of_wp hf hb ?_
  have hsz : cargs.size = args.length := by have := hv.1; simpa using this
  have hat : At gl fn.ntmps σ w (argEnv 0 args) σ { tmps := cargs ++ Array.replicate (fn.ntmps - cargs.size) undef, defers := [] } w := by
    refine ⟨hrel, ⟨rfl, by simp; omega, fun i => ?_⟩, .refl _ _⟩
    rw [find_args, if_pos (Nat.zero_le _), Nat.sub_zero]
    by_cases hi : i < args.length
    · have := (VRs.iff.1 hv).2 i hi
      have e : (cargs ++ Array.replicate (fn.ntmps - cargs.size) undef).getD i undef = cargs.toList.getD i undef := by
        have hi' : i < cargs.size := by omega
        rw [Array.getD_eq_getD_getElem?, Array.getElem?_append_left hi']
        simp [List.getD_eq_getElem?_getD]
      rw [e]; exact this
    · rw [List.getD_eq_getElem?_getD, List.getElem?_eq_none (by omega)]
      exact .any _
  refine wp_mono (code_sound hm g c s hc _ _ _ _ _ hat h) ?_
  rintro e a' w' ⟨q, rfl, env, σ', hq, hat'⟩
  have fin : ∀ {v : AV} {cv : Value}, (results fn a'.tmps).run P w' = .ok cv w' → VR (Im σ' w') w' v cv → Ret (Says gl) v σ' R → bodyPost P fn (fun e w'' => ∃ v, e = Ending.returned v ∧ (fun cv w' => ∃ v σ', R v σ' ∧ Rel gl σ' w' ∧ Stays σ w σ' w' ∧ VR (Im σ' w') w' v cv) v w'') .ret a' w' := by
    intro v cv h1 h2 h3
    obtain ⟨v', σ'', k1, k2⟩ := h3.out
    obtain ⟨r1, r2, r3⟩ := k1 w' [cv] hat'.rel (.cons h2 .nil)
    refine ⟨hat'.env.defers, cv, h1, cv, rfl, v', σ'', k2, r1, hat'.stays.trans (stays_says r2), ?_⟩
    obtain ⟨v2, vs2, e2, hv2, _⟩ := r3.head
    cases e2; exact hv2
  have all : finC (Says gl) rs R env σ' → bodyPost P fn (fun e w'' => ∃ v, e = Ending.returned v ∧ (fun cv w' => ∃ v σ', R v σ' ∧ Rel gl σ' w' ∧ Stays σ w σ' w' ∧ VR (Im σ' w') w' v cv) v w'') .ret a' w' := by
    intro hq
    have hF : ∀ l : List Value, (fn.results.toList.mapM (rdF a'.tmps)).run P w' = .ok l w' → (results fn a'.tmps).run P w' = .ok (if h : l.toArray.size = 1 then l.toArray[0] else .tuple l.toArray) w' := by
      intro l hl
      unfold results
      have e : ∀ F : ResultVar → Sem Value, (∀ r, F r = rdF a'.tmps r) → fn.results.mapM F = fn.results.mapM (rdF a'.tmps) := fun F h => by rw [funext h]
      rw [e _ (fun r => by cases r <;> rfl), Sem.run_bind, Array.mapM_eq_mapM_toList, Sem.run_map, hl]
      rfl
    unfold finC at hq
    split at hq
    · rename_i s
      obtain ⟨vs, cvs, k1, k2, k3⟩ := rvs_sound (K := fun vs => match vs with | [v] => Ret (Says gl) v σ' R | _ => False) hat'.rel hat'.env hr hq
      split at k3
      · obtain ⟨cv, r, rfl, hv1, hr1⟩ := k2.head
        obtain rfl := hr1.nil_inv
        refine fin ?_ hv1 k3
        rw [hF _ k1]; simp
      · exact k3.elim
    · rename_i hne
      obtain ⟨vs, cvs, k1, k2, k3⟩ := rvs_sound hat'.rel hat'.env hr hq
      refine fin ?_ (.mk_tup (cs := cvs.toArray) (by simpa using k2)) k3
      rw [hF _ k1, dif_neg]
      intro h1
      have hl1 : cvs.length = fn.results.toList.length := by
        have key : ∀ (l : List ResultVar) (m : List RV) (K : List AV → Prop), cRVs P l = some m → rvs σ' env m K → ∀ cvs, (l.mapM (rdF a'.tmps)).run P w' = .ok cvs w' → cvs.length = l.length := by
          intro l
          induction l with
          | nil => intro m K hc h cvs hk; cases hk; rfl
          | cons r l ih =>
            intro m K hc h cvs hk
            simp only [cRVs] at hc
            split at hc
            · rename_i s m' g1 g2
              cases hc
              simp only [rvs] at h
              obtain ⟨v, cv, q1, q2, q3⟩ := rv1_sound g1 hat'.rel hat'.env h
              obtain ⟨vs, cvs', j1, j2, j3⟩ := rvs_sound hat'.rel hat'.env g2 q3
              rw [List.mapM_cons, Sem.run_bind, q1, Result.andThen_ok, Sem.run_bind, j1, Result.andThen_ok] at hk
              cases hk
              rw [List.length_cons, List.length_cons, ih _ _ g2 q3 _ j1]
            · cases hc
        exact key _ _ _ hr hq _ k1
      have hl2 : rs.length = fn.results.toList.length := by
        have key : ∀ (l : List ResultVar) (m : List RV), cRVs P l = some m → m.length = l.length := by
          intro l
          induction l with
          | nil => intro m hc; cases hc; rfl
          | cons r l ih =>
            intro m hc
            simp only [cRVs] at hc
            split at hc
            · rename_i s m' g1 g2
              cases hc
              rw [List.length_cons, List.length_cons, ih _ g2]
            · cases hc
        exact key _ _ hr
      have h3 : cvs.length = 1 := by simpa using h1
      cases rs with
      | nil => rw [List.length_nil] at hl2; omega
      | cons t rs =>
        cases rs with
        | nil => exact hne t rfl
        | cons u rs => rw [List.length_cons, List.length_cons] at hl2; omega
  cases q with
  | exit id => exact hq.elim
  | normal => exact all hq
  | ret => exact all hq

/-- A function whose results (some) lie in cells, and its plain code. -/
structure CodesC (P : Program) (f : FuncId) (S : SC) (n : Nat) (rs : List RV) : Prop where
  out : ∃ fn c, P.funcs[f]? = some fn ∧ fn.body = some c ∧ (fn.name == "runtime.NumGoroutine") = false ∧ cRVs P fn.results.toList = some rs ∧ fn.ntmps = n ∧ cCode P n S c = some S
theorem CodesC.calls {f : FuncId} {S : SC} {n : Nat} {rs : List RV} (h : CodesC P f S n rs) (hm : P.follows .mixedOrders = true) {args : List AV} {R : AV → Own → Prop}
    (hv : vc (cx P gl) S (retC (Says gl) rs R) (argEnv 0 args) σ) (ha : Nat.ble args.length n = true := by rfl) : ACalls P gl f args σ R := by
  obtain ⟨fn, c, h1, h2, h3, h4, h5, h6⟩ := h.out
  subst h5
  exact acallsC hm h1 h2 h3 h4 h6 (Nat.le_of_ble_eq_true ha) hv
end Go.Ab
/-! Cells of the call's own: locals that are structs, results. -/
namespace Go.Ab
set_option linter.unusedVariables false
variable {P : Program} {gl : Nat → Option (List AV)} {σ σ' : Own}

/-- a slot's value set -/
def setE : Env → Nat → AV → Env
  | [], _, _ => []
  | (i, v) :: r, t, x => match Nat.beq i t with
    | true => (i, x) :: r
    | false => (i, v) :: setE r t x
theorem setE_keys : ∀ (env : Env) (t : Nat) (x : AV), (setE env t x).map (·.1) = env.map (·.1)
  | [], _, _ => rfl
  | (i, v) :: r, t, x => by
    simp only [setE]
    split
    · rfl
    · rw [List.map_cons, List.map_cons, setE_keys r t x]
theorem setE_subs (hd : Del σ σ') {t : Nat} {x v : AV} (hs : Sub gl σ σ' v x) : ∀ env : Env, (find env t = v ∨ ¬ t ∈ env.map (·.1)) → Subs gl σ σ' (env.map (·.2)) ((setE env t x).map (·.2))
  | [], _ => trivial
  | (i, y) :: r, h => by
    simp only [setE]
    split
    · rename_i hb
      have := Nat.eq_of_beq_eq_true hb
      subst this
      refine ⟨?_, .refl hd _⟩
      rcases h with h | h
      · simp only [find, hb] at h; rw [← h] at hs; exact hs
      · exact absurd (by simp) h
    · rename_i hb
      refine ⟨.refl hd _, setE_subs hd hs r ?_⟩
      rcases h with h | h
      · simp only [find, hb] at h; exact .inl h
      · exact .inr fun hm => h (by simp only [List.map_cons, List.mem_cons]; exact .inr hm)
theorem find_setE {env : Env} {t t' : Nat} {x : AV} (h : t ≠ t') : find (setE env t x) t' = find env t' := by
  induction env with
  | nil => rfl
  | cons p r ih =>
    obtain ⟨i, v⟩ := p
    simp only [setE]
    split
    · rename_i hb
      have := Nat.eq_of_beq_eq_true hb
      subst this
      simp only [find]
      split
      · rename_i hb2; exact absurd (Nat.eq_of_beq_eq_true hb2) h
      · rfl
    · simp only [find]
      split
      · rfl
      · exact ih
theorem sub_fp (hd : Del σ σ') {b : Nat} {ob : Ob} (hb : σ b = some ob) (hn : σ' b = none) : Sub gl σ σ' (.w (.pointer (some ⟨b, 0, none⟩))) (.fp ob.xs) := by
  refine .own_fp hd hb hn (k := ob.xs.length) ?_
  rw [List.drop_zero, List.take_length]
  exact .refl hd _
/-- a cell that is written no more -/
theorem Wk.frz {env : Env} {J : Env → Own → Prop} (t : Nat) {b : Nat} {ob : Ob} (h1 : find env t = .w (.pointer (some ⟨b, 0, none⟩))) (h2 : σ b = some ob) (h3 : Del σ σ') (h4 : σ' b = none) (h : J (setE env t (.fp ob.xs)) σ') (hn : nodupN (env.map (·.1)) = true := by rfl) : Wk (Says gl) env σ J :=
  ⟨_, σ', setE_keys _ _ _, nodupN_nodup hn, says_of h3 (setE_subs h3 (sub_fp h3 h2 h4) env (.inl h1)), h⟩
theorem Wk.frz2 {env : Env} {J : Env → Own → Prop} (t u : Nat) {b c : Nat} {ob oc : Ob} (h1 : find env t = .w (.pointer (some ⟨b, 0, none⟩))) (k1 : find (setE env t (.fp ob.xs)) u = .w (.pointer (some ⟨c, 0, none⟩))) (h2 : σ b = some ob) (k2 : σ c = some oc) (h3 : Del σ σ') (h4 : σ' b = none) (k4 : σ' c = none)
    (h : J (setE (setE env t (.fp ob.xs)) u (.fp oc.xs)) σ') (hn : nodupN (env.map (·.1)) = true := by rfl) : Wk (Says gl) env σ J := by
  refine ⟨_, σ', by rw [setE_keys, setE_keys], nodupN_nodup hn, ?_, h⟩
  have s1 := setE_subs (gl := gl) h3 (sub_fp h3 h2 h4) env (.inl h1)
  have s2 := setE_subs (gl := gl) (.refl (σ := σ')) (v := .w (.pointer (some ⟨c, 0, none⟩))) (x := .fp oc.xs) (t := u) (σ := σ') (σ' := σ')
  intro w cs hr hv
  have hs := says_of h3 s1 w cs hr hv
  refine ⟨hs.1, hs.2.1, ?_⟩
  -- the second cell, told from the first world
  have hc := sub_fp (gl := gl) h3 k2 k4
  have key : ∀ (e e' : Env) (cs : List Value), e'.map (·.1) = e.map (·.1) → (∀ i, find e' i = find e i ∨ True) → True := fun _ _ _ _ _ => trivial
  have go : ∀ (e0 : Env) (e : Env) (cs : List Value), VRs (Im σ w) w (e0.map (·.2)) cs → VRs (Im σ' w) w (e.map (·.2)) cs → (find e u = .w (.pointer (some ⟨c, 0, none⟩)) ∨ ¬ u ∈ e.map (·.1)) → VRs (Im σ' w) w ((setE e u (.fp oc.xs)).map (·.2)) cs := by
    intro e0 e
    induction e generalizing e0 with
    | nil => intro cs _ h _; exact h
    | cons p r ih =>
      obtain ⟨i, y⟩ := p
      intro cs h0 hv hf
      obtain ⟨v0, cs', rfl, a, b⟩ := hv.head
      simp only [setE]
      split
      · rename_i hb
        have := Nat.eq_of_beq_eq_true hb
        subst this
        rcases hf with hf | hf
        · simp only [find, hb] at hf
          subst hf
          refine .cons ?_ b
          have hvv := a.w_inv
          subst hvv
          exact hc w _ hr (.w _)
        · exact absurd (by simp) hf
      · rename_i hb
        cases e0 with
        | nil => have := h0.1; simp at this
        | cons q e0 =>
          obtain ⟨c', cs'', e1, a', b'⟩ := h0.head
          cases e1
          refine .cons a (ih e0 cs' b' b ?_)
          rcases hf with hf | hf
          · simp only [find, hb] at hf; exact .inl hf
          · exact .inr fun hm => hf (by simp only [List.map_cons, List.mem_cons]; exact .inr hm)
  exact go env _ cs hv hs.2.2 (.inl k1)
/-- a result's cell -/
theorem Ret.cell {b : Nat} {X : Ob} {v : AV} {R : AV → Own → Prop} (hb : σ b = none) (h : R v σ) : Ret (Says gl) v (upd σ b X) R := Ret.sub (del_upd X hb) (.refl (del_upd X hb) _) h
theorem del_upd2 {b : Nat} (x y : Ob) (h : σ b = none) : Del (upd (upd σ b x) b y) σ := by rw [upd_upd]; exact del_upd y h
theorem Ret.cell2 {b : Nat} {X Y : Ob} {v : AV} {R : AV → Own → Prop} (hb : σ b = none) (h : R v σ) : Ret (Says gl) v (upd (upd σ b X) b Y) R := Ret.sub (del_upd2 X Y hb) (.refl (del_upd2 X Y hb) _) h
/-- a cell written, all given up -/
theorem del_at {S : Own} {b : Nat} (Z : Ob) (hn : σ b = none) (hd : Del S σ) : Del (upd S b Z) σ := fun k => by
  by_cases e : k = b
  · subst e; exact .inr (.inl hn)
  · rcases hd k with h1 | h1 | ⟨ob, j, h1, h2⟩
    · exact .inl (by rw [upd_ne _ e]; exact h1)
    · exact .inr (.inl h1)
    · exact .inr (.inr ⟨ob, j, by rw [upd_ne _ e]; exact h1, h2⟩)
theorem CallF.here {f : FuncId} {args : List AV} {v : AV} {K : AV → Prop} (h : ∀ E, ACalls P gl f args E fun v' σ' => v' = v ∧ σ' = E) (k : K v) : CallF (ACalls P gl) (Says gl) f args K := ⟨args, v, fun E => ⟨says_refl _, h E⟩, k⟩
theorem CallF.sub {f : FuncId} {args args' : List AV} {v : AV} {K : AV → Prop} (hs : ∀ E, Subs gl E E args args') (h : ∀ E, ACalls P gl f args' E fun v' σ' => v' = v ∧ σ' = E) (k : K v) : CallF (ACalls P gl) (Says gl) f args K := ⟨args', v, fun E => ⟨says_of .refl (hs E), h E⟩, k⟩
/-- two cells made one behind the other -/
theorem two_get {b1 b2 : Nat} {X Y : Ob} (h1 : σ b1 = none) (h2 : upd σ b1 X b2 = none) :
    b1 ≠ b2 ∧ σ b2 = none ∧ upd (upd σ b1 X) b2 Y b1 = some X ∧ upd (upd σ b1 X) b2 Y b2 = some Y ∧ Del (upd (upd σ b1 X) b2 Y) σ := by
  have n1 : b1 ≠ b2 := fun e => by subst e; simp [upd] at h2
  have k2 : σ b2 = none := by rw [upd_ne _ (fun e => n1 e.symm)] at h2; exact h2
  exact ⟨n1, k2, (upd_ne _ n1).trans (upd_same _ _ _), upd_same _ _ _, del_at _ k2 (del_upd _ h1)⟩
/-- two cells made and filled -/
theorem init2 {b1 b2 : Nat} {Z Z' : Ob} (h1 : σ b1 = none) (h2 : upd σ b1 Z b2 = none) (X Y : Ob) :
    upd (upd σ b1 Z) b2 Z' b1 = some Z ∧ upd (upd (upd σ b1 Z) b2 Z') b1 X b2 = some Z' ∧ upd (upd (upd (upd σ b1 Z) b2 Z') b1 X) b2 Y b1 = some X ∧ upd (upd (upd (upd σ b1 Z) b2 Z') b1 X) b2 Y b2 = some Y ∧ Del (upd (upd (upd (upd σ b1 Z) b2 Z') b1 X) b2 Y) σ ∧ σ b2 = none := by
  obtain ⟨n1, k2, g1, g2, hd⟩ := two_get (Y := Z') h1 h2
  exact ⟨g1, (upd_ne _ (fun e => n1 e.symm)).trans g2, (upd_ne _ n1).trans (upd_same _ _ _), upd_same _ _ _, del_at _ k2 (del_at _ h1 hd), k2⟩
end Go.Ab
/-! Lists of structs, as cells; small things that any walk wants. -/
namespace Go.Ab
theorem flat_at {α : Type} {f : α → List AV} {sz : Nat} (hf : ∀ a, (f a).length = sz) (d : α) : ∀ {ls : List α} {i : Nat}, i < ls.length → (ls.flatMap f).drop (i * sz) = f (ls.getD i d) ++ (ls.flatMap f).drop ((i + 1) * sz)
  | [], i, h => by simp at h
  | t :: r, 0, h => by
    rw [Nat.zero_mul, List.drop_zero, Nat.zero_add, Nat.one_mul, List.flatMap_cons, ← hf t, List.drop_left]; rfl
  | t :: r, i + 1, h => by
    have := flat_at hf d (ls := r) (i := i) (by simpa using h)
    rw [show (i + 1) * sz = sz + i * sz by rw [Nat.add_mul]; omega, show (i + 1 + 1) * sz = sz + (i + 1) * sz by rw [Nat.add_mul (i + 1)]; omega, List.flatMap_cons, ← List.drop_drop, ← List.drop_drop]
    have e : (f t ++ r.flatMap f).drop sz = r.flatMap f := by rw [← hf t, List.drop_left]
    rw [e, this]; rfl
theorem all_at {α : Type} {p : α → Prop} {ls : List α} (h : ∀ t ∈ ls, p t) (d : α) {i : Nat} (hi : i < ls.length) : p (ls.getD i d) := by
  rw [List.getD_eq_getElem?_getD, List.getElem?_eq_getElem hi]; exact h _ (List.getElem_mem hi)
theorem nay {P : Prop} {b : Bool} (e : b = false) (h : b = true) : P := by rw [e] at h; cases h
theorem yea {P : Prop} {b : Bool} (e : b = true) (h : b = false) : P := by rw [e] at h; cases h
end Go.Ab
