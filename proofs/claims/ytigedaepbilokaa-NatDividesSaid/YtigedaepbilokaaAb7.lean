import Derived.Test.YtigedaepbilokaaAb6
/-! Each operation of the plain machine is sound: structs, rows, make, append. -/
namespace Go.Ab
set_option linter.unusedVariables false
set_option linter.unusedSimpArgs false
variable {P : Program} {gl : Nat → Option (List AV)} {N : Nat} {σ : Own} {w : World} {env : Env} {a : Act}

theorem mapM_some {α β : Type} {f : α → Option β} : ∀ {l : List α} {r : List β}, l.mapM f = some r → r.length = l.length ∧ ∀ (i : Nat) (p : α) (q : β), l[i]? = some p → r[i]? = some q → f p = some q
  | [], r, h => by
    have : r = [] := by simpa using h.symm
    subst this
    exact ⟨rfl, fun i p q h => by simp at h⟩
  | x :: l, r, h => by
    rw [List.mapM_cons] at h
    cases hx : f x with
    | none => simp [hx] at h
    | some y =>
      cases hl : l.mapM f with
      | none => simp [hx, hl] at h
      | some ys =>
        have e : r = y :: ys := by simpa [hx, hl] using h.symm
        subst e
        obtain ⟨h1, h2⟩ := mapM_some hl
        refine ⟨by simp [h1], fun i p q hp hq => ?_⟩
        cases i with
        | zero =>
          have e1 : x = p := by simpa using hp
          have e2 : y = q := by simpa using hq
          subst e1; subst e2; exact hx
        | succ i => exact h2 i p q (by simpa using hp) (by simpa using hq)

theorem sound_build_struct {t : TypeId} {fs : Array Field} (ht : P.underlying t = some (.struct fs)) (hfs : fs.all (fun f => (szOf P f.type).isSome) = true) {z : List Value} (hz : zeroOf P t = some z)
    {parts : Array (Nat × Operand)} {l : List (Nat × Nat × Opd)} (hl : parts.toList.mapM (fun p => match fs[p.1]? with
        | some fd => (szOf P fd.type).map fun n => (fd.offset, n, cOpd p.2)
        | none => none) = some l) {K : AV → Own → Prop} (hr : Rel gl σ w) (he : EnvR N σ w env a) (hk : lay gl env l (z.map cAV) fun cs => K (.agg cs) σ) :
    ∃ v, (Instr.build t (parts.map fun (i, x) => (i, a.eval x))).run P w = .ok v w ∧ Sound P gl σ w K v w := by
  obtain ⟨zv, hz1, hz2⟩ := zeroOf_run (w := w) hz
  obtain ⟨m1, m2⟩ := mapM_some hl
  have hf : ∀ f ∈ fs, ∃ n, szOf P f.type = some n := by
    intro f hf
    have := Array.all_eq_true'.1 hfs f hf
    exact Option.isSome_iff_exists.1 this
  have places : ∀ (i : Nat) (p : Nat × Operand) (q : Nat × Nat × Opd), parts.toList[i]? = some p → l[i]? = some q → (fs.map fun f => (f.offset, P.cellsOf f.type))[p.1]? = some (q.1, q.2.1) ∧ q.2.2 = cOpd p.2 := by
    intro i p q hp hq
    have := m2 i p q hp hq
    cases hfd : fs[p.1]? with
    | none => simp [hfd] at this
    | some fd =>
      cases hn : szOf P fd.type with
      | none => simp [hfd, hn] at this
      | some n =>
        have e : (fd.offset, n, cOpd p.2) = q := by simpa [hfd, hn] using this
        subst e
        obtain ⟨i', hi', hsz⟩ := lt_of_szOf hn
        simp [Array.getElem?_map, hfd, Program.cellsOf, hi', hsz]
  obtain ⟨cs', ds', k1, k2, k3⟩ := lay_sound hr he _ parts.toList l (z.map cAV) zv.cells m1 places (by rw [hz2]; exact map_cAV_vr z) hk
  refine ⟨.agg ds', ?_, sound_pure hr k3 (.mk_agg k2)⟩
  unfold Instr.build
  simp only [Sem.run_bind, hz1, Result.andThen_ok, run_underlying ht, run_places fs hf]
  have : (parts.map fun (x : Nat × Operand) => (x.1, a.eval x.2)).toList = parts.toList.map fun p => (p.1, a.eval p.2) := by simp
  simp only [this, k1]
  rfl

theorem sound_build_array {t e : TypeId} {n len : Nat} (ht : P.underlying t = some (.array len e)) (hn : szOf P e = some n) {z : List Value} (hz : zeroOf P t = some z)
    {parts : Array (Nat × Operand)} {K : AV → Own → Prop} (hr : Rel gl σ w) (he : EnvR N σ w env a) (hk : lay gl env (parts.toList.map fun p => (p.1 * n, n, cOpd p.2)) (z.map cAV) fun cs => K (.agg cs) σ) :
    ∃ v, (Instr.build t (parts.map fun (i, x) => (i, a.eval x))).run P w = .ok v w ∧ Sound P gl σ w K v w := by
  obtain ⟨zv, hz1, hz2⟩ := zeroOf_run (w := w) hz
  have places : ∀ (i : Nat) (p : Nat × Operand) (q : Nat × Nat × Opd), parts.toList[i]? = some p → (parts.toList.map fun p => (p.1 * n, n, cOpd p.2))[i]? = some q → some (p.1 * n, n) = some (q.1, q.2.1) ∧ q.2.2 = cOpd p.2 := by
    intro i p q hp hq
    rw [List.getElem?_map, hp] at hq
    have e : (p.1 * n, n, cOpd p.2) = q := by simpa using hq
    subst e
    simp
  obtain ⟨cs', ds', k1, k2, k3⟩ := lay_sound hr he (fun i => some (i * n, n)) parts.toList _ (z.map cAV) zv.cells (by simp) places (by rw [hz2]; exact map_cAV_vr z) hk
  refine ⟨.agg ds', ?_, sound_pure hr k3 (.mk_agg k2)⟩
  unfold Instr.build
  simp only [Sem.run_bind, hz1, Result.andThen_ok, run_underlying ht, run_sizeOf_sz hn]
  have : (parts.map fun (x : Nat × Operand) => (x.1, a.eval x.2)).toList = parts.toList.map fun p => (p.1, a.eval p.2) := by simp
  simp only [this, k1]
  rfl

theorem sound_slice_row {cs : List AV} {ds : Array Value} {own : Bool} {len : Nat} (t : TypeId) {K : AV → Own → Prop} (hr : Rel gl σ w) (h : VRs (Im σ w) w cs ds.toList) (hk : bslV own len cs σ K) :
    Sound P gl σ w K (.slice (some ⟨w.heap.size, 0, none⟩) len len) (w.alloc (.cells ds t)) := by
  cases own with
  | false => exact ⟨_, σ, hk, rel_new hr _, stays_new σ w _, .mk_ff (vra_new h hr.fresh)⟩
  | true =>
    obtain ⟨r1, r2⟩ := own_new hr t h
    exact ⟨_, _, hk _ hr.fresh, r1, r2, .w _⟩

theorem sound_bsl {t e : TypeId} {n len : Nat} {own : Bool} (ht : P.underlying t = some (.slice e)) (hn : szOf P e = some n) {z : List Value} (hz : zeroOf P e = some z) (hlen : len * n ≤ 16777216)
    {parts : Array (Nat × Operand)} {K : AV → Own → Prop} (hr : Rel gl σ w) (he : EnvR N σ w env a)
    (hk : lay gl env ((parts.toList.map fun p => (p.1, cOpd p.2)).map fun p => (p.1 * n, n, p.2)) ((List.range (len * n)).map fun i => cAV (z[i % z.length]!)) fun cs => bslV own len cs σ K) :
    ∃ v w', (Instr.buildSlice t len (parts.map fun (i, x) => (i, a.eval x))).run P w = .ok v w' ∧ Sound P gl σ w K v w' := by
  obtain ⟨zv, hz1, hz2⟩ := zeroOf_run (w := w) hz
  have places : ∀ (i : Nat) (p : Nat × Operand) (q : Nat × Nat × Opd), parts.toList[i]? = some p → ((parts.toList.map fun p => (p.1, cOpd p.2)).map fun p => (p.1 * n, n, p.2))[i]? = some q → some (p.1 * n, n) = some (q.1, q.2.1) ∧ q.2.2 = cOpd p.2 := by
    intro i p q hp hq
    rw [List.map_map, List.getElem?_map, hp] at hq
    have e : (p.1 * n, n, cOpd p.2) = q := by simpa using hq
    subst e
    simp
  obtain ⟨cs', ds', k1, k2, k3⟩ := lay_sound hr he (fun i => some (i * n, n)) parts.toList _ _ ((Array.range (len * n)).map (zv.cells[· % zv.cells.size]!)) (by simp) places (get_range_vr hz2 (len * n)) hk
  refine ⟨_, _, ?_, sound_slice_row e hr k2 k3⟩
  unfold Instr.buildSlice
  simp only [Sem.run_bind, Result.andThen_ok, run_underlying ht, run_sizeOf_sz hn]
  rw [if_neg (by simp; omega)]
  have e2 : (parts.map fun (x : Nat × Operand) => (x.1, a.eval x.2)).toList = parts.toList.map fun p => (p.1, a.eval p.2) := by simp
  by_cases h0 : len * n = 0
  · have e3 : (Array.range (len * n)).map (zv.cells[· % zv.cells.size]!) = #[] := by rw [h0]; simp
    have e4 : ∀ f : Nat → Value, (Array.range (len * n)).map f = #[] := fun f => by rw [h0]; simp
    rw [e3] at k1
    simp only [if_pos h0, Sem.run_bind, Sem.run_pure, Result.andThen_ok, e2, e4, k1]
    simp [newRow]
  · simp only [if_neg h0, Sem.run_bind, hz1, Sem.run_pure, Result.andThen_ok, e2, k1]
    simp [newRow]

theorem wrap_i64_of {n : Nat} (h : n ≤ 9223372036854775807) : IntKind.i64.wrap (n : Int) = n := by
  rw [IntKind.wrap_i64]; omega

theorem sound_mks {t e : TypeId} {i : TypeInfo} {z : Value} (ht : P.underlying t = some (.slice e)) (hi : P.info? e = some i) (hz : i.zero = some z) {x y : AV} {u v : Value} {K : AV → Own → Prop} (hr : Rel gl σ w)
    (hx : VR (Im σ w) w x u) (hy : VR (Im σ w) w y v) (hk : mksV i.size i.bytes z.cells.toList x y σ K) : ∃ r w', (Instr.makeSlice t u v).run P w = .ok r w' ∧ Sound P gl σ w K r w' := by
  unfold mksV at hk
  split at hk
  · cases hx.w_inv; cases hy.w_inv
    obtain ⟨n, m, rfl, rfl, hnm, hb, hm, hk⟩ := hk
    have hv := get_range_vr (w := w) (I := Im σ w) (z := z.cells.toList) (v := z) rfl (m * i.size)
    have hw1 := wrap_i64_of (n := n) (by omega)
    have hw2 := wrap_i64_of (n := m) hm
    obtain ⟨r1, r2⟩ := own_new hr e hv
    refine ⟨_, w.alloc (.cells ((Array.range (m * i.size)).map (z.cells[· % z.cells.size]!)) e), ?_, ⟨_, _, hk _ hr.fresh, ?_, ?_, .w _⟩⟩
    · unfold Instr.makeSlice
      simp only [Sem.run_bind, Result.andThen_ok, run_underlying ht, run_typeInfo w hi, asInt, asIntOf, Sem.run_pure, hw1, hw2]
      have t1 : (decide ((m : Int) < 0) || decide ((i.bytes : Int) * m > 2 ^ 48)) = false := by
        have : ¬ (i.bytes : Int) * m > 2 ^ 48 := by
          have e1 : (i.bytes : Int) * m = ((m * i.bytes : Nat) : Int) := by rw [Nat.mul_comm]; simp
          rw [e1]; omega
        simp [this]
        omega
      simp only [t1]
      rw [if_neg (by simp; omega)]
      simp only [Sem.run_bind, run_askRoom, Result.andThen_ok, Int.toNat_natCast, run_sizeOf w hi]
      have hcs : P.cellsOf e = i.size := by simp [Program.cellsOf, hi]
      rw [hcs]
      by_cases h0 : m * i.size = 0
      · have e4 : ∀ f : Nat → Value, (Array.range (m * i.size)).map f = #[] := fun f => by rw [h0]; simp
        simp only [if_pos h0, Sem.run_bind, Sem.run_pure, Result.andThen_ok, e4]
        simp [newRow]
      · simp only [if_neg h0, Sem.run_bind, zeroValue, run_typeInfo w hi, hz, Sem.run_pure, Result.andThen_ok]
        simp [newRow]
    · simpa using r1
    · simpa using r2
  · exact hk.elim

end Go.Ab
