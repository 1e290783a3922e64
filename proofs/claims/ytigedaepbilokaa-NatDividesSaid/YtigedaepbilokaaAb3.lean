import Derived.Test.YtigedaepbilokaaAb2
/-! Each operation of the plain machine is sound: operations that write no memory. -/
namespace Go.Ab
set_option linter.unusedVariables false
set_option linter.unusedSimpArgs false
variable {P : Program} {gl : Nat → Option (List AV)} {N : Nat} {σ : Own} {w : World} {env : Env} {a : Act}

theorem lt_of_szOf {t : TypeId} {n : Nat} (h : szOf P t = some n) : ∃ i, P.info? t = some i ∧ i.size = n := by
  unfold szOf at h
  cases hi : P.info? t with
  | none => simp [hi] at h
  | some i => exact ⟨i, rfl, by simpa [hi] using h⟩
theorem run_sizeOf_sz {t : TypeId} {n : Nat} (h : szOf P t = some n) (w : World) : (sizeOf t).run P w = .ok n w := by
  obtain ⟨i, hi, rfl⟩ := lt_of_szOf h
  rw [run_sizeOf w hi]
  simp [Program.cellsOf, hi]
theorem run_isAgg {t : TypeId} {b : Bool} (h : aggT P t = some b) (w : World) : (isAgg t).run P w = .ok b w := by
  unfold aggT at h
  cases hu : P.underlying t with
  | none => simp [hu] at h
  | some d =>
    unfold isAgg
    rw [Sem.run_bind, run_underlying hu, Result.andThen_ok]
    cases d <;> simp [hu] at h <;> subst h <;> rfl

theorem vra_list {I : Nat → Prop} {xs : List AV} {a : Addr} (h : VRa I w xs a) : ∃ cs : List Value, VRs I w xs cs ∧ ∀ j v, cs[j]? = some v → w.cell? (a.add j) = some v := by
  obtain ⟨cv, h1, h2⟩ := h.cv
  refine ⟨(List.range xs.length).map cv, ⟨by simp, fun i hi => ?_⟩, fun j v hj => ?_⟩
  · have : ((List.range xs.length).map cv).getD i undef = cv i := by
      simp [List.getD, hi]
    rw [this]; exact h2 i hi
  · have hj' : j < xs.length := by
      have := (List.getElem?_eq_some_iff.1 hj).1
      simpa using this
    have : v = cv j := by
      rw [List.getElem?_map, List.getElem?_range hj'] at hj
      simpa using hj.symm
    rw [this]; exact (h1 j hj').2

theorem run_loadVar {t : TypeId} {b : Bool} {n : Nat} (hb : aggT P t = some b) (hn : szOf P t = some n) {xs : List AV} {a : Addr} {I : Nat → Prop} (h : VRa I w xs a) {K : AV → Prop}
    (hk : ldR b n xs K) : ∃ x v, (loadVar t a).run P w = .ok v w ∧ K x ∧ VR I w x v := by
  unfold loadVar
  rw [Sem.run_bind, run_isAgg hb, Result.andThen_ok]
  cases b with
  | true =>
    obtain ⟨ys, h1, h2, h3⟩ := hk
    subst h1
    obtain ⟨cs, hv, hcell⟩ := vra_list (h.take n)
    have hl : cs.length = n := by rw [hv.1, h2]
    refine ⟨_, .agg cs.toArray, ?_, h3, .mk_agg (by simpa using hv)⟩
    simp only [if_true]
    rw [Sem.run_bind, run_sizeOf_sz hn, Result.andThen_ok, Sem.run_bind, ← hl, run_loadCells_list w a cs hcell]
    rfl
  | false =>
    obtain ⟨x, h1, h2⟩ := hk
    cases xs with
    | nil => simp at h1
    | cons y ys =>
      have e : y = x := by simpa using h1
      subst e
      obtain ⟨_, v, hc, hv⟩ := h 0 (by simp)
      have hc' : w.cell? a = some v := by simpa [Addr.add] using hc
      refine ⟨_, v, ?_, h2, hv⟩
      simp [hc']

/-- Cells of a block of the call's own, from a place on. -/
theorem own_vra (hr : Rel gl σ w) {b : Nat} {ob : Ob} (hb : σ b = some ob) (o : Nat) : ∃ cs T, w.heap[b]? = some (.cells cs T (0, 0)) ∧ cs.size = ob.cap ∧ ob.xs.length ≤ ob.cap ∧ VRs (Im σ w) w ob.xs (cs.toList.take ob.xs.length) ∧
    ∀ i (hi : i < (ob.xs.drop o).length), ∃ v, w.cell? ((⟨b, o, none⟩ : Addr).add i) = some v ∧ VR (Im σ w) w ((ob.xs.drop o)[i]) v := by
  obtain ⟨cs, T, h1, h2, h3, h4⟩ := hr.own b ob hb
  refine ⟨cs, T, h1, h2, h3, h4, fun i hi => ?_⟩
  have hi' : o + i < ob.xs.length := by simp at hi; omega
  have := h4.2 (o + i) hi'
  rw [List.getElem_drop]
  have hc : o + i < cs.size := by omega
  refine ⟨cs[o + i], ?_, ?_⟩
  · rw [add_lit]; simp [World.cell?, h1, hc]
  · have e : (cs.toList.take ob.xs.length).getD (o + i) undef = cs[o + i] := by
      simp [List.getD, hi', hc]
    rw [e] at this; exact this

theorem run_loadVar_own {t : TypeId} {b : Bool} {n : Nat} (hb : aggT P t = some b) (hn : szOf P t = some n) (hr : Rel gl σ w) {k : Nat} {ob : Ob} (hk : σ k = some ob) (o : Nat) {K : AV → Prop}
    (h : ldR b n (ob.xs.drop o) K) : ∃ x v, (loadVar t ⟨k, o, none⟩).run P w = .ok v w ∧ K x ∧ VR (Im σ w) w x v := by
  obtain ⟨cs, T, h1, h2, h3, h4, h5⟩ := own_vra hr hk o
  -- the same proof, the block being the call's own
  unfold loadVar
  rw [Sem.run_bind, run_isAgg hb, Result.andThen_ok]
  cases b with
  | true =>
    obtain ⟨ys, e1, e2, e3⟩ := h
    subst e1
    have hv : VRs (Im σ w) w ((ob.xs.drop o).take n) (((cs.toList.take ob.xs.length).drop o).take n) := (h4.drop o).take n
    have hl : (((cs.toList.take ob.xs.length).drop o).take n).length = n := by rw [hv.1, e2]
    refine ⟨_, .agg (((cs.toList.take ob.xs.length).drop o).take n).toArray, ?_, e3, .mk_agg (by simpa using hv)⟩
    simp only [if_true]
    rw [Sem.run_bind, run_sizeOf_sz hn, Result.andThen_ok, Sem.run_bind]
    have := run_loadCells_list (P := P) w ⟨k, o, none⟩ (((cs.toList.take ob.xs.length).drop o).take n) (fun j v hj => by
      rw [add_lit]
      rw [List.getElem?_take] at hj
      split at hj
      · rw [List.getElem?_drop, List.getElem?_take] at hj
        split at hj
        · simp [World.cell?, h1]; simpa using hj
        · cases hj
      · cases hj)
    rw [hl] at this
    rw [this]; rfl
  | false =>
    obtain ⟨x, e1, e2⟩ := h
    have hpos : 0 < (ob.xs.drop o).length := by
      cases hd : ob.xs.drop o with
      | nil => rw [hd] at e1; simp at e1
      | cons y ys => simp
    obtain ⟨v, hc, hv⟩ := h5 0 hpos
    have e : (ob.xs.drop o)[0] = x := by
      rw [List.head?_eq_getElem?, List.getElem?_eq_getElem hpos] at e1
      simpa using e1
    rw [e] at hv
    have hc' : w.cell? ⟨k, o, none⟩ = some v := by simpa [Addr.add] using hc
    refine ⟨_, v, ?_, e2, hv⟩
    simp [hc']

theorem run_part {t : TypeId} {b : Bool} {n : Nat} (hb : aggT P t = some b) (hn : szOf P t = some n) {xs : List AV} {cs : Array Value} {I : Nat → Prop} (h : VRs I w xs cs.toList) (off : Nat) {K : AV → Prop}
    (hk : ldR b n (xs.drop off) K) : ∃ x v, (part t cs off).run P w = .ok v w ∧ K x ∧ VR I w x v := by
  unfold part
  rw [Sem.run_bind, run_isAgg hb, Result.andThen_ok]
  cases b with
  | true =>
    obtain ⟨ys, e1, e2, e3⟩ := hk
    subst e1
    refine ⟨_, .agg (cs.extract off (off + n)), ?_, e3, .mk_agg ?_⟩
    · simp only [if_true]
      rw [Sem.run_bind, run_sizeOf_sz hn, Result.andThen_ok]; rfl
    · have := (h.drop off).take n
      simpa [Array.toList_extract, List.extract_eq_take_drop] using this
  | false =>
    obtain ⟨x, e1, e2⟩ := hk
    have e3 : xs[off]? = some x := by rw [List.head?_drop] at e1; exact e1
    obtain ⟨v, hv1, hv2⟩ := h.get e3
    refine ⟨_, v, ?_, e2, hv2⟩
    have : cs[off]? = some v := by simpa using hv1
    simp [this]

theorem asInt_vr {I : Nat → Prop} {k : IntKind} {j : Int} {v : Value} (h : VR I w (.w (.int k j)) v) : v = .int k j := h.w_inv

/-- an element's address -/
theorem run_indexAt_slice {t e : TypeId} {n size : Nat} (ht : P.underlying t = some (.slice e)) (hn : szOf P e = some size) (b : Addr) (c : Nat) (k : IntKind) (j : Int) (h0 : 0 ≤ j) (h1 : j < n) :
    (Instr.indexAt t (.slice (some b) n c) (.int k j)).run P w = .ok (.pointer (some (b.add (j.toNat * size)))) w := by
  unfold Instr.indexAt
  simp only [asIntOf, Sem.run_bind, Sem.run_pure, Result.andThen_ok, run_underlying ht]
  rw [if_pos ⟨h0, h1⟩, Sem.run_bind, run_sizeOf_sz hn, Result.andThen_ok]
  rfl
theorem run_indexAt_array {t e : TypeId} {n size : Nat} (ht : P.underlying t = some (.array n e)) (hn : szOf P e = some size) (b : Addr) (k : IntKind) (j : Int) (h0 : 0 ≤ j) (h1 : j < n) :
    (Instr.indexAt t (.pointer (some b)) (.int k j)).run P w = .ok (.pointer (some (b.add (j.toNat * size)))) w := by
  unfold Instr.indexAt
  simp only [asIntOf, Sem.run_bind, Sem.run_pure, Result.andThen_ok, run_underlying ht, Instr.sureAddr]
  rw [if_pos ⟨h0, h1⟩, Sem.run_bind, run_sizeOf_sz hn, Result.andThen_ok]
  rfl

theorem run_sliceBound (k : IntKind) (i : Int) (y : Nat) (c : BoundsCode) (h0 : 0 ≤ i) (h1 : i ≤ y) : (Instr.sliceBound (.int k i) y c).run P w = .ok i.toNat w := by
  unfold Instr.sliceBound
  simp only [asIntOf, Sem.run_bind, Sem.run_pure, Result.andThen_ok]
  rw [if_pos ⟨h0, h1⟩]; rfl

/-- a bound that is given, or the one that stands for it -/
def BndV (o : Option Value) (d : Int) (n : Int) : Prop := (o = none ∧ n = d) ∨ ∃ k, o = some (.int k n)

theorem bnd_sound (hr : Rel gl σ w) (he : EnvR N σ w env a) {d : Nat} {o : Option Operand} {K : Int → Prop} (h : bnd gl env d (cOpt o) K) : ∃ n, BndV (o.map a.eval) d n ∧ K n := by
  cases o with
  | none => exact ⟨d, .inl ⟨rfl, rfl⟩, h⟩
  | some o =>
    simp only [cOpt, bnd, ev_eq] at h
    have hv := opd_vr (gl := gl) hr he o
    split at h
    · rename_i k n heq
      rw [heq] at hv
      exact ⟨n, .inr ⟨k, by simp [hv.w_inv]⟩, h⟩
    · exact h.elim

theorem run_sliceBounds {isS : Bool} {len cap : Nat} {lo hi mx : Option Value} {l h m : Int} (hl : BndV lo 0 l) (hh : BndV hi len h) (hm : BndV mx cap m) (h0 : 0 ≤ l) (h1 : l ≤ h)
    (h2 : h ≤ m) (h3 : m ≤ cap) (h4 : mx ≠ none → hi ≠ none) : (Instr.sliceBounds isS len cap lo hi mx).run P w = .ok (l.toNat, h.toNat, m.toNat) w := by
  have b1 : ∀ k c, (Instr.sliceBound (.int k l) h.toNat c).run P w = .ok l.toNat w := fun k c => run_sliceBound k l h.toNat c h0 (by omega)
  have b2 : ∀ k c, (Instr.sliceBound (.int k h) cap c).run P w = .ok h.toNat w := fun k c => run_sliceBound k h cap c (by omega) (by omega)
  have b3 : ∀ k c, (Instr.sliceBound (.int k h) m.toNat c).run P w = .ok h.toNat w := fun k c => run_sliceBound k h m.toNat c (by omega) (by omega)
  have b4 : ∀ k c, (Instr.sliceBound (.int k m) cap c).run P w = .ok m.toNat w := fun k c => run_sliceBound k m cap c (by omega) h3
  unfold Instr.sliceBounds
  rcases hl with ⟨rfl, rfl⟩ | ⟨kl, rfl⟩ <;> rcases hh with ⟨rfl, rfl⟩ | ⟨kh, rfl⟩ <;> rcases hm with ⟨rfl, rfl⟩ | ⟨km, rfl⟩ <;>
    first
      | (simp [b1, b2, b3, b4]; done)
      | (simp only [Int.toNat_natCast] at b1 b2 b3 b4
         simp [b1, b2, b3, b4]; done)
      | exact absurd rfl (h4 (by simp))

/-- a slice expression over a slice -/
theorem run_slice_slice {t e : TypeId} {size : Nat} (ht : P.underlying t = some (.slice e)) (hn : szOf P e = some size) (x : Option Addr) (len cap : Nat) {lo hi mx : Option Value} {l h m : Int}
    (hl : BndV lo 0 l) (hh : BndV hi len h) (hm : BndV mx cap m) (h0 : 0 ≤ l) (h1 : l ≤ h) (h2 : h ≤ m) (h3 : m ≤ cap) (h4 : mx ≠ none → hi ≠ none) :
    (Instr.sliceAt t (.slice x len cap) lo hi mx).run P w = .ok (.slice (if m.toNat = l.toNat then x else x.map (·.add (l.toNat * size))) (h.toNat - l.toNat) (m.toNat - l.toNat)) w := by
  unfold Instr.sliceAt
  rw [Sem.run_bind, run_underlying ht, Result.andThen_ok]
  show (Instr.slice t (.slice x len cap) lo hi mx).run P w = _
  unfold Instr.slice
  rw [Sem.run_bind, run_underlying ht, Result.andThen_ok]
  simp only [Sem.run_bind]
  rw [run_sliceBounds hl hh hm h0 h1 h2 h3 h4]
  simp only [Result.andThen_ok]
  rw [run_sizeOf_sz hn]
  rfl
theorem run_slice_string {t : TypeId} (ht : P.underlying t = some .string) (s : ByteArray) {lo hi : Option Value} {l h : Int}
    (hl : BndV lo 0 l) (hh : BndV hi s.size h) (h0 : 0 ≤ l) (h1 : l ≤ h) (h2 : h ≤ s.size) :
    (Instr.sliceAt t (.string s) lo hi none).run P w = .ok (.string (s.extract l.toNat h.toNat)) w := by
  unfold Instr.sliceAt
  rw [Sem.run_bind, run_underlying ht, Result.andThen_ok]
  show (Instr.slice t (.string s) lo hi none).run P w = _
  unfold Instr.slice
  rw [Sem.run_bind, run_underlying ht, Result.andThen_ok]
  simp only [Sem.run_bind, Option.isSome_none, Bool.false_eq_true, if_false]
  rw [run_sliceBounds hl hh (.inl ⟨rfl, rfl⟩) h0 h1 h2 (by omega) (fun h => absurd rfl h)]
  rfl

/-- Operations that leave memory alone. -/
theorem sound_mv {K : AV → Own → Prop} (hr : Rel gl σ w) (he : EnvR N σ w env a) (x : Operand) (h : ev gl env (cOpd x) fun v => K v σ) : Sound P gl σ w K (a.eval x) w := by
  rw [ev_eq] at h
  exact sound_pure hr h (opd_vr hr he x)

theorem ldR_mono {b : Bool} {n : Nat} {xs : List AV} {K K' : AV → Prop} (h : ldR b n xs K) (k : ∀ v, K v → K' v) : ldR b n xs K' := by
  cases b with
  | true => obtain ⟨ys, h1, h2, h3⟩ := h; exact ⟨ys, h1, h2, k _ h3⟩
  | false => obtain ⟨x, h1, h2⟩ := h; exact ⟨x, h1, k _ h2⟩

theorem sound_ld {t : TypeId} {b : Bool} {n : Nat} (hb : aggT P t = some b) (hn : szOf P t = some n) {K : AV → Own → Prop} (hr : Rel gl σ w) {x : AV} {v : Value} (hv : VR (Im σ w) w x v)
    (h : ldV b n σ x fun v => K v σ) : ∃ u, (Instr.loadAt t v).run P w = .ok u w ∧ Sound P gl σ w K u w := by
  unfold ldV at h
  split at h
  · obtain ⟨ad, rfl, hA⟩ := hv.fp_inv
    obtain ⟨y, u, h1, h2, h3⟩ := run_loadVar (P := P) hb hn hA h
    exact ⟨u, by simp [Instr.loadAt, Instr.sureAddr, h1], sound_pure hr h2 h3⟩
  · cases hv.w_inv
    obtain ⟨ob, hk, h⟩ := h
    obtain ⟨y, u, h1, h2, h3⟩ := run_loadVar_own (P := P) hb hn hr hk _ h
    exact ⟨u, by simp [Instr.loadAt, Instr.sureAddr, h1], sound_pure hr h2 h3⟩
  · exact h.elim

theorem sound_ix {t e : TypeId} {size : Nat} (ht : P.underlying t = some (.slice e)) (hn : szOf P e = some size) {K : AV → Own → Prop} (hr : Rel gl σ w) {x y : AV} {u v : Value} (hx : VR (Im σ w) w x u) (hy : VR (Im σ w) w y v)
    (h : ixV size x y fun v => K v σ) : ∃ z, (Instr.indexAt t u v).run P w = .ok z w ∧ Sound P gl σ w K z w := by
  unfold ixV at h
  split at h
  · cases hy.w_inv
    split at h
    · obtain ⟨j', rfl, h1, h2⟩ := h
      rcases hx.fs_inv with ⟨ad, c, rfl, hc, hA⟩ | ⟨rfl, rfl, rfl⟩
      · exact ⟨_, run_indexAt_slice ht hn ad c _ _ (by omega) (by omega), sound_pure hr h2 (by simpa using VR.mk_fp (hA.drop _))⟩
      · omega
    · obtain ⟨j', rfl, h1, h2⟩ := h
      rcases hx.ff_inv with ⟨ad, rfl, hA⟩ | ⟨rfl, rfl, rfl⟩
      · exact ⟨_, run_indexAt_slice ht hn ad _ _ _ (by omega) (by omega), sound_pure hr h2 (by simpa using VR.mk_fp (hA.drop _))⟩
      · omega
    · cases hx.w_inv
      obtain ⟨j', rfl, h1, h2⟩ := h
      refine ⟨_, run_indexAt_slice ht hn _ _ _ _ (by omega) (by omega), sound_pure hr h2 ?_⟩
      rw [add_lit]; simpa using VR.w _
    · exact h.elim
  · exact h.elim

theorem sound_ixa {t e : TypeId} {n size : Nat} (ht : P.underlying t = some (.array n e)) (hn : szOf P e = some size) {K : AV → Own → Prop} (hr : Rel gl σ w) {x y : AV} {u v : Value} (hx : VR (Im σ w) w x u) (hy : VR (Im σ w) w y v)
    (h : ixaV n size x y fun v => K v σ) : ∃ z, (Instr.indexAt t u v).run P w = .ok z w ∧ Sound P gl σ w K z w := by
  unfold ixaV at h
  split at h
  · cases hy.w_inv
    split at h
    · obtain ⟨j', rfl, h1, h2⟩ := h
      obtain ⟨ad, rfl, hA⟩ := hx.fp_inv
      exact ⟨_, run_indexAt_array ht hn ad _ _ (by omega) (by omega), sound_pure hr h2 (by simpa using VR.mk_fp (hA.drop _))⟩
    · cases hx.w_inv
      obtain ⟨j', rfl, h1, h2⟩ := h
      refine ⟨_, run_indexAt_array ht hn _ _ _ (by omega) (by omega), sound_pure hr h2 ?_⟩
      rw [add_lit]; simpa using VR.w _
    · exact h.elim
  · exact h.elim

theorem sound_idx {t e : TypeId} {n size : Nat} {b : Bool} (ht : P.underlying t = some (.array n e)) (hb : aggT P e = some b) (hn : szOf P e = some size) {K : AV → Own → Prop} (hr : Rel gl σ w) {x y : AV} {u v : Value} (hx : VR (Im σ w) w x u) (hy : VR (Im σ w) w y v)
    (h : idxV b n size x y fun v => K v σ) : ∃ z, (Instr.index t u v).run P w = .ok z w ∧ Sound P gl σ w K z w := by
  unfold idxV at h
  split at h
  · cases hy.w_inv
    split at h
    · obtain ⟨j', rfl, h1, h2⟩ := h
      obtain ⟨cs, rfl, hc⟩ := hx.agg_inv
      obtain ⟨y, z, k1, k2, k3⟩ := run_part (P := P) hb hn hc _ h2
      refine ⟨z, ?_, sound_pure hr k2 k3⟩
      unfold Instr.index
      simp only [asIntOf, Sem.run_bind, Sem.run_pure, Result.andThen_ok, run_underlying ht]
      rw [if_pos ⟨by omega, by omega⟩, Sem.run_bind, run_sizeOf_sz hn, Result.andThen_ok, Int.toNat_natCast, k1]
    · exact h.elim
  · exact h.elim

theorem bytes_get {s : ByteArray} {i : Nat} {c : UInt8} (h : s.toList[i]? = some c) : s[i]? = some c := by
  rw [ByteArray.toList_eq] at h
  obtain ⟨hl, h⟩ := List.getElem?_eq_some_iff.1 h
  have hi : i < s.size := by simpa using hl
  rw [getElem?_pos s i hi, ← h]
  rfl

theorem sound_idxs {t : TypeId} (ht : P.underlying t = some .string) {K : AV → Own → Prop} (hr : Rel gl σ w) {x y : AV} {u v : Value} (hx : VR (Im σ w) w x u) (hy : VR (Im σ w) w y v)
    (h : idxsV x y fun v => K v σ) : ∃ z, (Instr.index t u v).run P w = .ok z w ∧ Sound P gl σ w K z w := by
  unfold idxsV at h
  split at h
  · cases hy.w_inv
    split at h
    · cases hx.w_inv
      obtain ⟨j', rfl, c, h2, h3⟩ := h
      refine ⟨_, ?_, sound_pure hr h3 (.w _)⟩
      unfold Instr.index
      simp only [asIntOf, Sem.run_bind, Sem.run_pure, Result.andThen_ok, run_underlying ht]
      rw [if_pos (by omega), Int.toNat_natCast, bytes_get h2]; rfl
    · exact h.elim
  · exact h.elim

end Go.Ab
