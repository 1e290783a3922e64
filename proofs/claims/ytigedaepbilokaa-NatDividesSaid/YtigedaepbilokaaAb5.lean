import Derived.Test.YtigedaepbilokaaAb4
/-! Each operation of the plain machine is sound: stores and what makes memory. -/
namespace Go.Ab
set_option linter.unusedVariables false
set_option linter.unusedSimpArgs false
variable {P : Program} {gl : Nat → Option (List AV)} {N : Nat} {σ : Own} {w : World} {env : Env} {a : Act}

/-- a row of cells whose first ones are known -/
def VRp (I : Nat → Prop) (w : World) (xs : List AV) (cs : List Value) : Prop :=
  xs.length ≤ cs.length ∧ ∀ i, i < xs.length → VR I w (xs.getD i .any) (cs.getD i undef)

theorem VRs.iff {I : Nat → Prop} {xs : List AV} {cs : List Value} : VRs I w xs cs ↔ cs.length = xs.length ∧ ∀ i, i < xs.length → VR I w (xs.getD i .any) (cs.getD i undef) := by
  unfold VRs
  refine and_congr_right fun _ => forall_congr' fun i => ?_
  constructor
  · intro h hi
    rw [List.getD_eq_getElem?_getD, List.getElem?_eq_getElem hi]; exact h hi
  · intro h hi
    have := h hi
    rw [List.getD_eq_getElem?_getD (l := xs), List.getElem?_eq_getElem hi] at this; exact this
theorem VRp.iff {I : Nat → Prop} {xs : List AV} {cs : List Value} (hl : xs.length ≤ cs.length) : VRs I w xs (cs.take xs.length) ↔ VRp I w xs cs := by
  rw [VRs.iff]
  constructor
  · rintro ⟨_, h⟩
    refine ⟨hl, fun i hi => ?_⟩
    have := h i hi
    rw [List.getD_eq_getElem?_getD (l := cs.take _), List.getElem?_take, if_pos hi, ← List.getD_eq_getElem?_getD] at this
    exact this
  · rintro ⟨_, h⟩
    refine ⟨by simp; omega, fun i hi => ?_⟩
    rw [List.getD_eq_getElem?_getD (l := cs.take _), List.getElem?_take, if_pos hi, ← List.getD_eq_getElem?_getD]
    exact h i hi
theorem VRs.p {I : Nat → Prop} {xs : List AV} {cs : List Value} (h : VRs I w xs cs) : VRp I w xs cs := ⟨by rw [h.1]; exact Nat.le_refl _, (VRs.iff.1 h).2⟩
theorem getD_splice {α : Type} (A B : List α) (o : Nat) (d : α) (ho : o + B.length ≤ A.length) (i : Nat) :
    (A.take o ++ B ++ A.drop (o + B.length)).getD i d = if i < o then A.getD i d else if i < o + B.length then B.getD (i - o) d else A.getD i d := by
  simp only [List.getD_eq_getElem?_getD]
  have hA : (A.take o).length = o := by simp; omega
  by_cases h1 : i < o
  · rw [if_pos h1, List.append_assoc, List.getElem?_append_left (by omega), List.getElem?_take, if_pos h1]
  · rw [if_neg h1]
    by_cases h2 : i < o + B.length
    · rw [if_pos h2, List.getElem?_append_left (by simp; omega), List.getElem?_append_right (by omega), hA]
    · rw [if_neg h2, List.getElem?_append_right (by simp; omega), List.getElem?_drop]
      congr 2
      simp; omega
theorem VRp.splice {I : Nat → Prop} {xs ys : List AV} {cs ds : List Value} (h : VRp I w xs cs) (k : VRs I w ys ds) {o : Nat} (ho : o + ys.length ≤ xs.length) :
    VRp I w (xs.take o ++ ys ++ xs.drop (o + ys.length)) (cs.take o ++ ds ++ cs.drop (o + ys.length)) := by
  have hl : ds.length = ys.length := k.1
  refine ⟨by have := h.1; simp; omega, fun i hi => ?_⟩
  rw [getD_splice xs ys o .any ho i, ← hl, getD_splice cs ds o undef (by have := h.1; omega) i]
  have hi' : i < xs.length := by simp at hi; omega
  by_cases h1 : i < o
  · rw [if_pos h1, if_pos h1]; exact h.2 i hi'
  · rw [if_neg h1, if_neg h1]
    by_cases h2 : i < o + ds.length
    · rw [if_pos h2, if_pos (by omega)]; exact (VRs.iff.1 k).2 _ (by omega)
    · rw [if_neg h2, if_neg (by omega)]; exact h.2 i hi'

theorem oneCell_vr {I : Nat → Prop} {x : AV} {u : Value} (h : VR I w x u) (hx : oneCell x = true) : u.oneCell' = true := by
  cases h <;> first
    | rfl
    | (simp [oneCell] at hx; done)
    | (cases u <;> first | rfl | (simp [oneCell] at hx))

theorem cells_vr {I : Nat → Prop} {x : AV} {u : Value} (h : VR I w x u) (hx : (avCells x).all oneCell = true) : VRs I w (avCells x) u.cells.toList ∧ ∀ c ∈ u.cells.toList, c.oneCell' = true := by
  by_cases ha : ∃ xs, x = .agg xs
  · obtain ⟨xs, rfl⟩ := ha
    obtain ⟨cs, rfl, hc⟩ := h.agg_inv
    refine ⟨hc, fun c hcm => ?_⟩
    replace hcm : c ∈ cs.toList := hcm
    obtain ⟨i, hi, rfl⟩ := List.getElem_of_mem hcm
    have hx' : ∀ y ∈ xs, oneCell y = true := by simpa [avCells] using hx
    have hi' : i < xs.length := by have := hc.1; omega
    have := hc.2 i hi'
    rw [List.getD_eq_getElem?_getD, List.getElem?_eq_getElem hi] at this
    exact oneCell_vr this (hx' _ (List.getElem_mem hi'))
  · have e : avCells x = [x] := by cases x <;> first | rfl | exact absurd ⟨_, rfl⟩ ha
    rw [e] at hx ⊢
    have h1 : oneCell x = true := by simpa using hx
    have h2 := oneCell_vr h h1
    have e2 : u.cells = #[u] := by cases u <;> first | rfl | (simp [Value.oneCell'] at h2; done)
    rw [e2]
    exact ⟨.cons h .nil, fun c hc => by simp at hc; rw [hc]; exact h2⟩

theorem beq_eq {m n : Nat} (h : Nat.beq m n = true) : m = n := Nat.eq_of_beq_eq_true h

theorem sound_st {t : TypeId} {n : Nat} (hn : szOf P t = some n) {x y : AV} {u v : Value} {K : AV → Own → Prop} (hr : Rel gl σ w) (hx : VR (Im σ w) w x u) (hy : VR (Im σ w) w y v)
    (h : stV n σ x y fun σ' => K .any σ') : ∃ w', (Instr.storeAt t u v).run P w = .ok () w' ∧ Sound P gl σ w K undef w' := by
  unfold stV at h
  split at h
  · rename_i b o
    cases hx.w_inv
    split at h
    · rename_i e1 e2
      obtain ⟨ob, hb, hl, _, rfl, hk⟩ := h
      obtain ⟨hv, h1⟩ := cells_vr hy e2
      have hsz := beq_eq e1
      obtain ⟨cs, T, c1, c2, c3, c4⟩ := hr.own b ob hb
      have hvl : v.cells.toList.length = n := by rw [hv.1, hsz]
      have run := run_storeCells_at (P := P) b o T v.cells.toList 0 cs w c1 (by omega) h1
      simp only [Nat.add_zero] at run
      have hp : VRp (Im σ w) w ob.xs cs.toList := (VRp.iff (by simp; omega)).1 c4
      have hq := hp.splice hv (o := o) (by omega)
      have hlen : (ob.xs.take o ++ avCells y ++ ob.xs.drop (o + n)).length = ob.xs.length := by simp; omega
      obtain ⟨r1, r2⟩ := rel_set hr hb (ob' := ⟨ob.xs.take o ++ avCells y ++ ob.xs.drop (o + n), ob.cap⟩) (cs' := (cs.toList.take o ++ v.cells.toList ++ cs.toList.drop (o + v.cells.toList.length)).toArray) c1
        (by show _ = ob.cap; simp only [List.size_toArray, List.length_append, List.length_take, List.length_drop, Array.length_toList] at hvl ⊢; omega) (by show _ ≤ ob.cap; rw [hlen]; exact c3)
        (by
          rw [VRp.iff (by simp at hvl ⊢; omega), hvl]
          rw [hsz] at hq
          simpa using hq)
      refine ⟨_, ?_, .any, _, hk, r1, r2, .any _⟩
      unfold Instr.storeAt
      simp only [Instr.sureAddr, Sem.run_bind, Sem.run_pure, Result.andThen_ok, storeVar, run_sizeOf_sz hn]
      have : v.cells.size = n := by simpa using hvl
      simp only [this, ne_eq, not_true_eq_false, if_false]
      simpa using run
    · exact h.elim
  · exact h.elim

/-- a new row -/
theorem run_newRow (t : TypeId) (cs : Array Value) : (newRow t cs).run P w = .ok ⟨w.heap.size, 0, none⟩ (w.alloc (.cells cs t)) := by
  simp [newRow]

/-- cells that nobody writes, just made -/
theorem vra_new {xs : List AV} {cs : Array Value} {t : TypeId} (h : VRs (Im σ w) w xs cs.toList) (hf : σ w.heap.size = none) : VRa (Im σ (w.alloc (.cells cs t))) (w.alloc (.cells cs t)) xs ⟨w.heap.size, 0, none⟩ := by
  intro i hi
  have hi' : i < cs.size := by have := h.1; simp at this; omega
  refine ⟨⟨by simp, hf⟩, cs[i], ?_, ?_⟩
  · rw [add_lit]
    have : (w.alloc (.cells cs t)).heap[w.heap.size]? = some (.cells cs t (0, 0)) := by show (w.heap.push _)[w.heap.size]? = _; simp
    unfold World.cell?
    rw [this]
    simp [hi']
  · have := h.2 i hi
    rw [List.getD_eq_getElem?_getD, List.getElem?_eq_getElem (by simpa using hi')] at this
    exact (stays_new σ w _).vr (by simpa using this)

theorem own_new (hr : Rel gl σ w) {xs : List AV} {cs : Array Value} (t : TypeId) (h : VRs (Im σ w) w xs cs.toList) :
    Rel gl (upd σ w.heap.size ⟨xs, xs.length⟩) (w.alloc (.cells cs t)) ∧ Stays σ w (upd σ w.heap.size ⟨xs, xs.length⟩) (w.alloc (.cells cs t)) := by
  have hl : cs.size = xs.length := by have := h.1; simpa using this
  refine rel_own hr (ob := ⟨xs, xs.length⟩) hl (Nat.le_refl _) ?_
  show VRs _ _ xs (cs.toList.take xs.length)
  rw [List.take_of_length_le (by simp; omega)]
  exact h

theorem sound_row {xs : List AV} {cs : Array Value} {own : Bool} (t : TypeId) {K : AV → Own → Prop} (hr : Rel gl σ w) (h : VRs (Im σ w) w xs cs.toList) (hk : boxV own xs σ K) :
    Sound P gl σ w K (.pointer (some ⟨w.heap.size, 0, none⟩)) (w.alloc (.cells cs t)) := by
  cases own with
  | false => exact ⟨_, σ, hk, rel_new hr _, stays_new σ w _, .mk_fp (vra_new h hr.fresh)⟩
  | true =>
    obtain ⟨r1, r2⟩ := own_new hr t h
    exact ⟨_, _, hk _ hr.fresh, r1, r2, .w _⟩

theorem boxable_vr {I : Nat → Prop} {x : AV} {u : Value} (hx : VR I w x u) (h : boxable x = true) : VRs I w (avCells x) u.cells.toList := by
  by_cases ha : ∃ xs, x = .agg xs
  · obtain ⟨xs, rfl⟩ := ha
    obtain ⟨cs, rfl, hc⟩ := hx.agg_inv; exact hc
  · have h1 : oneCell x = true := by cases x <;> first | exact h | exact absurd ⟨_, rfl⟩ ha
    have h2 := oneCell_vr hx h1
    have e : avCells x = [x] := by cases x <;> first | rfl | exact absurd ⟨_, rfl⟩ ha
    have e2 : u.cells = #[u] := by cases u <;> first | rfl | (simp [Value.oneCell'] at h2; done)
    rw [e, e2]; exact .cons hx .nil

theorem sound_box {t : TypeId} {own : Bool} {x : AV} {u : Value} {K : AV → Own → Prop} (hr : Rel gl σ w) (hx : VR (Im σ w) w x u) (h1 : boxable x = true) (hk : boxV own (avCells x) σ K) :
    ∃ z w', (Instr.box t u).run P w = .ok z w' ∧ Sound P gl σ w K z w' := by
  have hc : VRs (Im σ w) w (avCells x) u.cells.toList := boxable_vr hx h1
  refine ⟨_, _, ?_, sound_row t hr hc hk⟩
  simp [Instr.box, newVar, newRow]

theorem map_cAV_vr {I : Nat → Prop} : ∀ l : List Value, VRs I w (l.map cAV) l
  | [] => .nil
  | v :: r => .cons (cAV_vr v) (map_cAV_vr r)

theorem sound_alloc {t : TypeId} {z : List Value} {own : Bool} (hz : zeroOf P t = some z) {K : AV → Own → Prop} (hr : Rel gl σ w) (hk : boxV own (z.map cAV) σ K) :
    ∃ v w', (Instr.alloc t true (.tuple #[])).run P w = .ok v w' ∧ Sound P gl σ w K v w' := by
  unfold zeroOf at hz
  cases hi : P.info? t with
  | none => simp [hi] at hz
  | some i =>
    cases hzz : i.zero with
    | none => simp [hi, hzz] at hz
    | some v =>
      have e : v.cells.toList = z := by simpa [hi, hzz] using hz
      refine ⟨_, _, ?_, sound_row (cs := v.cells) t hr (by rw [e]; exact map_cAV_vr z) hk⟩
      simp [Instr.alloc, zeroValue, run_typeInfo w hi, hzz, newVar, newRow]

end Go.Ab
