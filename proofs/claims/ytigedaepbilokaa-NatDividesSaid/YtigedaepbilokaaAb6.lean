import Derived.Test.YtigedaepbilokaaAb5
/-! Each operation of the plain machine is sound: structs and rows made out of parts; make. -/
namespace Go.Ab
set_option linter.unusedVariables false
set_option linter.unusedSimpArgs false
variable {P : Program} {gl : Nat → Option (List AV)} {N : Nat} {σ : Own} {w : World} {env : Env} {a : Act}

theorem fold_set (off : Nat) : ∀ (l : List Value) (k : Nat) (cs : Array Value), off + k + l.length ≤ cs.size →
    ((l.zipIdx k).foldl (fun (cs : Array Value) (p : Value × Nat) => cs.setIfInBounds (off + p.2) p.1) cs).toList = cs.toList.take (off + k) ++ l ++ cs.toList.drop (off + k + l.length)
  | [], k, cs, _ => by simp
  | v :: r, k, cs, h => by
    have h' : off + (k + 1) + r.length ≤ (cs.setIfInBounds (off + k) v).size := by simp at h ⊢; omega
    simp only [List.zipIdx_cons, List.foldl_cons]
    rw [fold_set off r (k + 1) _ h']
    have e := list_seg_step cs.toList (off + k) v r (by simp at h ⊢; omega)
    simpa [Array.toList_setIfInBounds, Nat.add_assoc] using e

theorem fold_set' (off : Nat) (v : Array Value) (cs : Array Value) (h : off + v.size ≤ cs.size) :
    (v.zipIdx.foldl (fun (cs : Array Value) (p : Value × Nat) => cs.setIfInBounds (off + p.2) p.1) cs).toList = cs.toList.take off ++ v.toList ++ cs.toList.drop (off + v.size) := by
  rw [← Array.foldl_toList, Array.toList_zipIdx]
  have := fold_set off v.toList 0 cs (by simpa using h)
  simpa using this

theorem lay_sound (hr : Rel gl σ w) (he : EnvR N σ w env a) (place : Nat → Option (Nat × Nat)) {K : List AV → Prop} : ∀ (parts : List (Nat × Operand)) (ps : List (Nat × Nat × Opd)) (cs : List AV) (ds : Array Value),
    ps.length = parts.length → (∀ (i : Nat) (p : Nat × Operand) (q : Nat × Nat × Opd), parts[i]? = some p → ps[i]? = some q → place p.1 = some (q.1, q.2.1) ∧ q.2.2 = cOpd p.2) →
    VRs (Im σ w) w cs ds.toList → lay gl env ps cs K → ∃ cs' ds', Instr.fill place ds (parts.map fun p => (p.1, a.eval p.2)) = some ds' ∧ VRs (Im σ w) w cs' ds'.toList ∧ K cs'
  | [], ps, cs, ds, hl, _, hv, hk => by
    cases ps with
    | nil => exact ⟨cs, ds, rfl, hv, hk⟩
    | cons q ps => simp at hl
  | p :: parts, ps, cs, ds, hl, hp, hv, hk => by
    cases ps with
    | nil => simp at hl
    | cons q ps =>
      obtain ⟨off, size, x⟩ := q
      obtain ⟨h1, h2⟩ := hp 0 p (off, size, x) rfl rfl
      simp only at h1 h2
      subst h2
      simp only [lay, ev_eq] at hk
      split at hk
      · rename_i e1 e2 e3
        have hx := opd_vr (gl := gl) hr he p.2
        have hc := boxable_vr hx e1
        have hs := beq_eq e2
        have hle : off + size ≤ cs.length := Nat.le_of_ble_eq_true e3
        have hcs : (a.eval p.2).cells.size = size := by have := hc.1; simp at this; omega
        have hds : ds.size = cs.length := by have := hv.1; simpa using this
        have hfold := fold_set' off (a.eval p.2).cells ds (by omega)
        have hnew : VRs (Im σ w) w (cs.take off ++ avCells (opdAV gl env (cOpd p.2)) ++ cs.drop (off + size)) ((a.eval p.2).cells.zipIdx.foldl (fun (cs : Array Value) (p : Value × Nat) => cs.setIfInBounds (off + p.2) p.1) ds).toList := by
          rw [hfold, hcs]
          exact ((hv.take off).append hc).append (hv.drop (off + size))
        obtain ⟨cs', ds', k1, k2, k3⟩ := lay_sound hr he place parts ps _ _ (by simpa using hl) (fun i p' q' a1 a2 => hp (i + 1) p' q' (by simpa using a1) (by simpa using a2)) hnew hk
        refine ⟨cs', ds', ?_, k2, k3⟩
        simp only [List.map_cons, Instr.fill, h1]
        rw [if_neg (by simp; omega)]
        exact k1
      · exact hk.elim

theorem zeroOf_run {t : TypeId} {z : List Value} (h : zeroOf P t = some z) : ∃ v, (zeroValue t).run P w = .ok v w ∧ v.cells.toList = z := by
  unfold zeroOf at h
  cases hi : P.info? t with
  | none => simp [hi] at h
  | some i =>
    cases hz : i.zero with
    | none => simp [hi, hz] at h
    | some v => exact ⟨v, by simp [zeroValue, run_typeInfo w hi, hz], by simpa [hi, hz] using h⟩

theorem get_range_vr {I : Nat → Prop} {z : List Value} {v : Value} (e : v.cells.toList = z) (n : Nat) :
    VRs I w ((List.range n).map fun i => cAV (z[i % z.length]!)) ((Array.range n).map (v.cells[· % v.cells.size]!)).toList := by
  have : ((Array.range n).map (v.cells[· % v.cells.size]!)).toList = ((List.range n).map fun i => z[i % z.length]!) := by
    subst e
    simp only [Array.toList_map, Array.toList_range, Array.length_toList]
    apply List.map_congr_left
    intro i _
    simp [List.getElem!_eq_getElem?_getD, Array.getElem!_eq_getD, Array.getD_eq_getD_getElem?]
  rw [this]
  have e2 : ((List.range n).map fun i => cAV (z[i % z.length]!)) = ((List.range n).map fun i => z[i % z.length]!).map cAV := by simp [Function.comp_def]
  rw [e2]
  exact map_cAV_vr _

/-- a struct's places -/
theorem run_places (fs : Array Field) (h : ∀ f ∈ fs, ∃ n, szOf P f.type = some n) :
    (fs.mapM fun f => do pure (f.offset, ← sizeOf f.type) : Sem (Array (Nat × Nat))).run P w = .ok (fs.map fun f => (f.offset, P.cellsOf f.type)) w := by
  rw [Array.mapM_eq_mapM_toList]
  have key : ∀ l : List Field, (∀ f ∈ l, ∃ n, szOf P f.type = some n) → (l.mapM fun f => do pure (f.offset, ← sizeOf f.type) : Sem (List (Nat × Nat))).run P w = .ok (l.map fun f => (f.offset, P.cellsOf f.type)) w := by
    intro l
    induction l with
    | nil => intro _; rfl
    | cons f l ih =>
      intro hl
      obtain ⟨n, hn⟩ := hl f (by simp)
      obtain ⟨i, hi, hsz⟩ := lt_of_szOf hn
      rw [List.mapM_cons]
      simp only [Sem.run_bind, run_sizeOf_sz hn, Result.andThen_ok, Sem.run_pure, ih (fun g hg => hl g (by simp [hg]))]
      simp [Program.cellsOf, hi, hsz]
  rw [Sem.run_map, key fs.toList (fun f hf => h f (by simpa using hf)), Result.andThen_ok]
  congr 1
  rw [← Array.toList_map]

end Go.Ab
