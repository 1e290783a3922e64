import Derived.Test.YtigedaepbilokaaAb9
/-! How the plain operations hang on what they read: monotone, of one answer, blind to the rest. -/
namespace Go.Ab
set_option linter.unusedVariables false
set_option linter.unusedSimpArgs false

theorem ldR_det {b : Bool} {n : Nat} {xs : List AV} {K : AV → Prop} (h : ldR b n xs K) : ∃ v, ldR b n xs (fun v' => v' = v) ∧ K v := by
  cases b with
  | true => obtain ⟨ys, h1, h2, h3⟩ := h; exact ⟨_, ⟨ys, h1, h2, rfl⟩, h3⟩
  | false => obtain ⟨x, h1, h2⟩ := h; exact ⟨_, ⟨x, h1, rfl⟩, h2⟩

def pOp : SOp → Bool
  | .mv _ | .pick _ _ _ | .bin _ _ _ | .beq _ _ _ | .un _ _ | .conv _ _ | .cstr _ | .len _ | .lens _ | .fa _ _ | .fld _ _ _ _ | .ext _ _ | .idx _ _ _ _ _ | .idxs _ _ | .ix _ _ _ | .ixa _ _ _ _ | .sl _ _ _ _ _ | .sls _ _ _ | .build _ _ | .mkf _ _ _ => true
  | _ => false
def detOp : SOp → Bool
  | .ld _ _ _ | .callq _ _ => true
  | .callv q _ _ => q
  | s => pOp s

theorem binI_mono {op : BinOp} {k : IntKind} {x y : Int} {K K' : AV → Prop} (m : ∀ v, K v → K' v) (h : binI op k x y K) : binI op k x y K' := by
  cases op <;> simp only [binI] at h ⊢ <;> first
    | exact h
    | exact m _ h
    | (obtain ⟨z, h1, h2⟩ := h; exact ⟨z, h1, m _ h2⟩)
    | (obtain ⟨h0, z, h1, h2⟩ := h; exact ⟨h0, z, h1, m _ h2⟩)
theorem binI_det {op : BinOp} {k : IntKind} {x y : Int} {K : AV → Prop} (h : binI op k x y K) : ∃ v, binI op k x y (fun v' => v' = v) ∧ K v := by
  cases op <;> simp only [binI] at h ⊢ <;> first
    | exact h.elim
    | exact ⟨_, rfl, h⟩
    | (obtain ⟨z, h1, h2⟩ := h; exact ⟨_, ⟨z, h1, rfl⟩, h2⟩)
    | (obtain ⟨h0, z, h1, h2⟩ := h; exact ⟨_, ⟨h0, z, h1, rfl⟩, h2⟩)
theorem binR_mono {op : BinOp} {a b : AV} {K K' : AV → Prop} (m : ∀ v, K v → K' v) (h : binR op a b K) : binR op a b K' := by
  unfold binR at *
  split at h
  · split at h
    · obtain ⟨h0, z, h1, h2⟩ := h; exact ⟨h0, z, h1, m _ h2⟩
    · obtain ⟨h0, z, h1, h2⟩ := h; exact ⟨h0, z, h1, m _ h2⟩
    · split at h
      · exact binI_mono m h
      · exact h.elim
  · rename_i x y
    cases op <;> simp only [binS] at h ⊢ <;> first
      | exact h
      | exact m _ h
      | exact ⟨h.1, m _ h.2⟩
  · exact h.elim
theorem binR_det {op : BinOp} {a b : AV} {K : AV → Prop} (h : binR op a b K) : ∃ v, binR op a b (fun v' => v' = v) ∧ K v := by
  by_cases e : ∃ k x j y, a = .w (.int k x) ∧ b = .w (.int j y)
  · obtain ⟨k, x, j, y, rfl, rfl⟩ := e
    cases hk : sameK k j <;> cases op <;> simp only [binR, hk] at h ⊢ <;> first
      | exact h.elim
      | exact binI_det h
      | (obtain ⟨h0, z, h1, h2⟩ := h; exact ⟨_, ⟨h0, z, h1, rfl⟩, h2⟩)
  · unfold binR at h
    split at h
    · exact absurd ⟨_, _, _, _, rfl, rfl⟩ e
    · cases op <;> simp only [binR, binS] at h ⊢ <;> first
        | exact h.elim
        | exact ⟨_, rfl, h⟩
        | exact ⟨_, ⟨h.1, rfl⟩, h.2⟩
    · exact h.elim

/-- the leaves' shape: K of one value, under conditions -/
theorem slR_mono {x : AV} {size : Nat} {l h : Int} {mx : Option Int} {K K' : AV → Prop} (m : ∀ v, K v → K' v) (q : slR x size l h mx K) : slR x size l h mx K' := by
  unfold slR at *
  split at q
  · split at q
    · obtain ⟨l', h', a, b, c, d, q⟩ := q; exact ⟨l', h', a, b, c, d, m _ q⟩
    · obtain ⟨l', h', a, b, c, d, e, q⟩ := q; exact ⟨l', h', a, b, c, d, e, m _ q⟩
  · split at q
    · obtain ⟨l', h', a, b, c, d, q⟩ := q; exact ⟨l', h', a, b, c, d, m _ q⟩
    · obtain ⟨l', h', a, b, c, d, e, q⟩ := q; exact ⟨l', h', a, b, c, d, e, m _ q⟩
  · split at q
    · obtain ⟨l', h', a, b, c, d, o, e, f, q⟩ := q; exact ⟨l', h', a, b, c, d, o, e, f, m _ q⟩
    · obtain ⟨l', h', m', a, a2, b, c, d, d2, o, e, f, q⟩ := q; exact ⟨l', h', m', a, a2, b, c, d, d2, o, e, f, m _ q⟩
  · exact ⟨q.1, q.2.1, q.2.2.1, q.2.2.2.1, m _ q.2.2.2.2⟩
  · exact q.elim
theorem slR_det {x : AV} {size : Nat} {l h : Int} {mx : Option Int} {K : AV → Prop} (q : slR x size l h mx K) : ∃ v, slR x size l h mx (fun v' => v' = v) ∧ K v := by
  unfold slR at *
  split at q
  · split at q
    · obtain ⟨l', h', a, b, c, d, q⟩ := q; exact ⟨_, ⟨l', h', a, b, c, d, rfl⟩, q⟩
    · obtain ⟨l', h', a, b, c, d, e, q⟩ := q; exact ⟨_, ⟨l', h', a, b, c, d, e, rfl⟩, q⟩
  · split at q
    · obtain ⟨l', h', a, b, c, d, q⟩ := q; exact ⟨_, ⟨l', h', a, b, c, d, rfl⟩, q⟩
    · obtain ⟨l', h', a, b, c, d, e, q⟩ := q; exact ⟨_, ⟨l', h', a, b, c, d, e, rfl⟩, q⟩
  · split at q
    · obtain ⟨l', h', a, b, c, d, o, e, f, q⟩ := q; exact ⟨_, ⟨l', h', a, b, c, d, o, e, f, rfl⟩, q⟩
    · obtain ⟨l', h', m', a, a2, b, c, d, d2, o, e, f, q⟩ := q; exact ⟨_, ⟨l', h', m', a, a2, b, c, d, d2, o, e, f, rfl⟩, q⟩
  · exact ⟨_, ⟨q.1, q.2.1, q.2.2.1, q.2.2.2.1, rfl⟩, q.2.2.2.2⟩
  · exact q.elim

theorem bnd_mono {gl : Nat → Option (List AV)} {env : Env} {d : Nat} {o : Option Opd} {K K' : Int → Prop} (m : ∀ v, K v → K' v) (h : bnd gl env d o K) : bnd gl env d o K' := by
  cases o with
  | none => exact m _ h
  | some o =>
    simp only [bnd, ev_eq] at *
    split at h
    · exact m _ h
    · exact h.elim
theorem bnd_det {gl : Nat → Option (List AV)} {env : Env} {d : Nat} {o : Option Opd} {K : Int → Prop} (h : bnd gl env d o K) : ∃ n, (∀ K' : Int → Prop, K' n → bnd gl env d o K') ∧ K n := by
  cases o with
  | none => exact ⟨d, fun K' k => k, h⟩
  | some o =>
    simp only [bnd, ev_eq] at *
    split at h
    · rename_i k n hn
      exact ⟨n, fun K' k => k, h⟩
    · exact h.elim
theorem lay_mono {gl : Nat → Option (List AV)} {env : Env} {K K' : List AV → Prop} (m : ∀ v, K v → K' v) : ∀ (ps : List (Nat × Nat × Opd)) (cs : List AV), lay gl env ps cs K → lay gl env ps cs K'
  | [], cs, h => m _ h
  | (off, size, x) :: r, cs, h => by
    simp only [lay, ev_eq] at *
    split at h
    · exact lay_mono m r _ h
    · exact h.elim
theorem lay_det {gl : Nat → Option (List AV)} {env : Env} {K : List AV → Prop} : ∀ (ps : List (Nat × Nat × Opd)) (cs : List AV), lay gl env ps cs K → ∃ v, lay gl env ps cs (fun v' => v' = v) ∧ K v
  | [], cs, h => ⟨_, rfl, h⟩
  | (off, size, x) :: r, cs, h => by
    simp only [lay, ev_eq] at h ⊢
    cases h1 : boxable (opdAV gl env x) <;> cases h2 : Nat.beq (avCells (opdAV gl env x)).length size <;> cases h3 : Nat.ble (off + size) cs.length <;> simp only [h1, h2, h3] at h ⊢ <;> first
      | exact h.elim
      | exact lay_det r _ h

theorem appR_mono {size bytes : Nat} {x : AV} {ys : List AV} {n : Nat} {σ : Own} {K K' : AV → Own → Prop} (m : ∀ v σ, K v σ → K' v σ) (h : appR size bytes x ys n σ K) : appR size bytes x ys n σ K' := by
  unfold appR at *
  split at h
  · exact ⟨h.1, h.2.1, fun q => m _ _ (h.2.2.1 q), fun q => ⟨(h.2.2.2 q).1, (h.2.2.2 q).2.1, fun b c' hb hc => m _ _ ((h.2.2.2 q).2.2 b c' hb hc)⟩⟩
  · exact ⟨h.1, fun q => m _ _ (h.2.1 q), fun q => ⟨(h.2.2 q).1, (h.2.2 q).2.1, fun b c' hb hc => m _ _ ((h.2.2 q).2.2 b c' hb hc)⟩⟩
  · obtain ⟨ob, a, b, c, d, e, f, g, h, i⟩ := h
    exact ⟨ob, a, b, c, d, e, f, g, fun q => m _ _ (h q), fun q b' c' hb hc => m _ _ (i q b' c' hb hc)⟩
  · exact h.elim

variable {P : Program} {gl : Nat → Option (List AV)}

theorem opR_mono {env : Env} {σ : Own} {s : SOp} {K K' : AV → Own → Prop} (m : ∀ v σ, K v σ → K' v σ) (h : opR (cx P gl) env σ s K) : opR (cx P gl) env σ s K' := by
  cases s <;> simp only [opR, ev_eq, evs_eq] at h ⊢
  case mv x => exact m _ _ h
  case pick c x y =>
    unfold pickV at *
    split at h
    · exact ⟨fun t => m _ _ (h.1 t), fun t => m _ _ (h.2 t)⟩
    · exact h.elim
  case bin => exact binR_mono (fun v => m v _) h
  case beq =>
    unfold beqV at *
    split at h
    · split at h <;> exact m _ _ h
    · exact h.elim
  case isnil =>
    unfold nilV at *
    split at h
    · intro b hb
      have := h b hb
      split <;> exact m _ _ this
    · intro b hb
      have := h b hb
      split <;> exact m _ _ this
    · split at h <;> exact m _ _ h
    · split at h <;> exact m _ _ h
    · exact h.elim
  case un =>
    unfold unV at *
    split at h
    · exact m _ _ h
    · obtain ⟨z, h1, h2⟩ := h; exact ⟨z, h1, m _ _ h2⟩
    · obtain ⟨z, h1, h2⟩ := h; exact ⟨z, h1, m _ _ h2⟩
    · exact h.elim
  case conv =>
    unfold convV at *
    split at h
    · obtain ⟨z, h1, h2⟩ := h; exact ⟨z, h1, m _ _ h2⟩
    · exact h.elim
  case cstr =>
    unfold cstrV at *
    split at h
    · exact m _ _ h
    · exact h.elim
  case len =>
    unfold lenV at *
    split at h <;> first | exact m _ _ h | exact h.elim
  case lens =>
    unfold lensV at *
    split at h <;> first | exact m _ _ h | exact h.elim
  case ld =>
    unfold ldV at *
    split at h
    · exact ldR_mono h (fun v => m v _)
    · obtain ⟨ob, h1, h2⟩ := h; exact ⟨ob, h1, ldR_mono h2 (fun v => m v _)⟩
    · exact h.elim
  case st =>
    unfold stV at *
    split at h
    · split at h
      · obtain ⟨ob, h1, h2, σ', h3, h4⟩ := h; exact ⟨ob, h1, h2, σ', h3, m _ _ h4⟩
      · exact h.elim
    · exact h.elim
  case ix =>
    unfold ixV at *
    split at h
    · split at h <;> first | (obtain ⟨j, a, b, c⟩ := h; exact ⟨j, a, b, m _ _ c⟩) | exact h.elim
    · exact h.elim
  case ixa =>
    unfold ixaV at *
    split at h
    · split at h <;> first | (obtain ⟨j, a, b, c⟩ := h; exact ⟨j, a, b, m _ _ c⟩) | exact h.elim
    · exact h.elim
  case idx =>
    unfold idxV at *
    split at h
    · split at h <;> first | (obtain ⟨j, a, b, c⟩ := h; exact ⟨j, a, b, ldR_mono c (fun v => m v _)⟩) | exact h.elim
    · exact h.elim
  case idxs =>
    unfold idxsV at *
    split at h
    · split at h
      · obtain ⟨j, h0, c, h1, h2⟩ := h; exact ⟨j, h0, c, h1, m _ _ h2⟩
      · exact h.elim
    · exact h.elim
  case fa =>
    unfold faV at *
    split at h <;> first | exact m _ _ h | exact h.elim
  case fld =>
    unfold fldV at *
    split at h
    · exact ldR_mono h (fun v => m v _)
    · exact h.elim
  case sl size x lo hi mx =>
    refine bnd_mono (fun l h => bnd_mono (fun k h => ?_) h) h
    cases mx with
    | none => exact slR_mono (fun v => m v _) h
    | some mm => exact bnd_mono (fun j h => slR_mono (fun v => m v _) h) h
  case sls x lo hi =>
    unfold slsV at *
    split at h
    · exact bnd_mono (fun l h => bnd_mono (fun k h => by obtain ⟨l', h', a, b, c, d, q⟩ := h; exact ⟨l', h', a, b, c, d, m _ _ q⟩) h) h
    · exact h.elim
  case call f args =>
    obtain ⟨args', σ', h1, h2⟩ := h.out
    exact ⟨args', σ', h1, h2.mono m⟩
  case callq f args =>
    obtain ⟨args', v, h1, h2, h3⟩ := h.out
    exact ⟨args', v, h1, h2, m _ _ h3⟩
  case callv q x args =>
    unfold fnV at *
    have go : ∀ f vs, callX (cx P gl) q f vs σ K → callX (cx P gl) q f vs σ K' := by
      intro f vs h
      cases q with
      | false => obtain ⟨args', σ', h1, h2⟩ := h.out; exact ⟨args', σ', h1, h2.mono m⟩
      | true => obtain ⟨args', v, h1, h2, h3⟩ := h.out; exact ⟨args', v, h1, h2, m _ _ h3⟩
    split at h
    · exact go _ _ h
    · exact go _ _ h
    · exact h.elim
  case mkf f first cap =>
    unfold mkfV at *
    split at h <;> exact m _ _ h
  case ext =>
    unfold extV at *
    split at h
    · obtain ⟨x, h1, h2⟩ := h; exact ⟨x, h1, m _ _ h2⟩
    · exact h.elim
  case box own size x =>
    split at h
    · unfold boxV at *
      split at h
      · exact m _ _ h
      · intro b hb; exact m _ _ (h b hb)
    · exact h.elim
  case alloc own size zero =>
    unfold boxV at *
    split at h
    · exact m _ _ h
    · intro b hb; exact m _ _ (h b hb)
  case build => exact lay_mono (fun v => m _ _) _ _ h
  case bsl own size len zero parts =>
    refine lay_mono (fun v h => ?_) _ _ h
    unfold bslV at *
    split at h
    · exact m _ _ h
    · intro b hb; exact m _ _ (h b hb)
  case mks =>
    unfold mksV at *
    split at h
    · obtain ⟨a, b, c, d, e, f, g, h⟩ := h; exact ⟨a, b, c, d, e, f, g, fun b hb => m _ _ (h b hb)⟩
    · exact h.elim
  case app str size bytes x y =>
    unfold srcR at *
    split at h
    · split at h
      · exact ⟨h.1, appR_mono m h.2⟩
      · exact ⟨h.1, appR_mono m h.2⟩
      · exact ⟨h.1, appR_mono m h.2⟩
      · obtain ⟨ob, h1, h2, h3⟩ := h; exact ⟨ob, h1, h2, appR_mono m h3⟩
      · exact h.elim
    · split at h
      · exact ⟨h.1, appR_mono m h.2⟩
      · exact h.elim

/-- One answer: what holds behind it holds of a value that it must give. -/
theorem opR_det {env : Env} {σ : Own} {s : SOp} (hd : detOp s = true) {K : AV → Own → Prop} (h : opR (cx P gl) env σ s K) : ∃ v, opR (cx P gl) env σ s (fun v' σ' => v' = v ∧ σ' = σ) ∧ K v σ := by
  cases s <;> simp only [opR, ev_eq, evs_eq, and_true] at h ⊢ <;> try (cases hd; done)
  case mv x => exact ⟨_, rfl, h⟩
  case pick c x y =>
    unfold pickV at *
    split at h
    · rename_i t ht
      cases t with
      | true => exact ⟨_, ⟨fun _ => rfl, (fun q => by cases q)⟩, h.1 rfl⟩
      | false => exact ⟨_, ⟨(fun q => by cases q), fun _ => rfl⟩, h.2 rfl⟩
    · exact h.elim
  case bin => exact binR_det h
  case beq =>
    unfold beqV at *
    split at h
    · split at h <;> exact ⟨_, rfl, h⟩
    · exact h.elim
  case un =>
    unfold unV at *
    split at h
    · exact ⟨_, rfl, h⟩
    · obtain ⟨z, h1, h2⟩ := h; exact ⟨_, ⟨z, h1, rfl⟩, h2⟩
    · obtain ⟨z, h1, h2⟩ := h; exact ⟨_, ⟨z, h1, rfl⟩, h2⟩
    · exact h.elim
  case conv =>
    unfold convV at *
    split at h
    · obtain ⟨z, h1, h2⟩ := h; exact ⟨_, ⟨z, h1, rfl⟩, h2⟩
    · exact h.elim
  case cstr =>
    unfold cstrV at *
    split at h
    · exact ⟨_, rfl, h⟩
    · exact h.elim
  case len =>
    unfold lenV at *
    split at h <;> first | exact ⟨_, rfl, h⟩ | exact h.elim
  case lens =>
    unfold lensV at *
    split at h <;> first | exact ⟨_, rfl, h⟩ | exact h.elim
  case ld =>
    unfold ldV at *
    split at h
    · exact ldR_det h
    · obtain ⟨ob, h1, h2⟩ := h
      obtain ⟨v, h3, h4⟩ := ldR_det h2
      exact ⟨v, ⟨ob, h1, h3⟩, h4⟩
    · exact h.elim
  case ix =>
    unfold ixV at *
    split at h
    · split at h <;> first | (obtain ⟨j, a, b, c⟩ := h; exact ⟨_, ⟨j, a, b, rfl⟩, c⟩) | exact h.elim
    · exact h.elim
  case ixa =>
    unfold ixaV at *
    split at h
    · split at h <;> first | (obtain ⟨j, a, b, c⟩ := h; exact ⟨_, ⟨j, a, b, rfl⟩, c⟩) | exact h.elim
    · exact h.elim
  case idx =>
    unfold idxV at *
    split at h
    · split at h
      · obtain ⟨j, a, b, c⟩ := h
        obtain ⟨v, h3, h4⟩ := ldR_det c
        exact ⟨v, ⟨j, a, b, h3⟩, h4⟩
      · exact h.elim
    · exact h.elim
  case idxs =>
    unfold idxsV at *
    split at h
    · split at h
      · obtain ⟨j, h0, c, h1, h2⟩ := h; exact ⟨_, ⟨j, h0, c, h1, rfl⟩, h2⟩
      · exact h.elim
    · exact h.elim
  case fa =>
    unfold faV at *
    split at h <;> first | exact ⟨_, rfl, h⟩ | exact h.elim
  case fld =>
    unfold fldV at *
    split at h
    · exact ldR_det h
    · exact h.elim
  case sl size x lo hi mx =>
    obtain ⟨l, m1, h⟩ := bnd_det h
    obtain ⟨k, m2, h⟩ := bnd_det h
    cases mx with
    | none =>
      obtain ⟨v, h1, h2⟩ := slR_det h
      exact ⟨v, m1 _ (m2 _ h1), h2⟩
    | some mm =>
      obtain ⟨j, m3, h⟩ := bnd_det h
      obtain ⟨v, h1, h2⟩ := slR_det h
      exact ⟨v, m1 _ (m2 _ (m3 _ h1)), h2⟩
  case sls x lo hi =>
    unfold slsV at *
    split at h
    · obtain ⟨l, m1, h⟩ := bnd_det h
      obtain ⟨k, m2, h⟩ := bnd_det h
      obtain ⟨l', h', a, b, c, d, q⟩ := h
      exact ⟨_, m1 _ (m2 _ ⟨l', h', a, b, c, d, rfl⟩), q⟩
    · exact h.elim
  case callq f args =>
    obtain ⟨args', v, h1, h2, h3⟩ := h.out
    exact ⟨v, ⟨args', v, h1, h2, rfl⟩, h3⟩
  case callv q x args =>
    cases q with
    | false => cases hd
    | true =>
      unfold fnV callX at *
      split at h
      · obtain ⟨args', v, h1, h2, h3⟩ := h.out
        exact ⟨v, ⟨args', v, h1, h2, rfl, rfl⟩, h3⟩
      · obtain ⟨args', v, h1, h2, h3⟩ := h.out
        exact ⟨v, ⟨args', v, h1, h2, rfl, rfl⟩, h3⟩
      · exact h.elim
  case mkf f first cap =>
    unfold mkfV at *
    split at h <;> exact ⟨_, rfl, h⟩
  case ext =>
    unfold extV at *
    split at h
    · obtain ⟨x, h1, h2⟩ := h; exact ⟨_, ⟨x, h1, rfl⟩, h2⟩
    · exact h.elim
  case build =>
    obtain ⟨v, h1, h2⟩ := lay_det _ _ h
    exact ⟨_, lay_mono (fun u hu => by rw [hu]) _ _ h1, h2⟩

/-- An operation that reads no memory does not see it. -/
theorem opR_blind {env : Env} {σ σ' : Own} {s : SOp} (hp : pOp s = true) {J : AV → Prop} (h : opR (cx P gl) env σ s (fun v _ => J v)) : opR (cx P gl) env σ' s (fun v _ => J v) := by
  cases s <;> first
    | exact h
    | cases hp

end Go.Ab
