import Derived.Test.YtigedaepbilokaaAb7
/-! Each operation of the plain machine is sound: append. -/
namespace Go.Ab
set_option linter.unusedVariables false
set_option linter.unusedSimpArgs false
variable {P : Program} {gl : Nat → Option (List AV)} {N : Nat} {σ : Own} {w : World} {env : Env} {a : Act}

theorem growBy_le (need : Nat) (h : 256 ≤ need) : ∀ (r c : Nat), c ≤ 2 * need → Builtin.growBy need r c ≤ 2 * need
  | 0, c, hc => hc
  | r + 1, c, hc => by
    unfold Builtin.growBy
    split
    · exact hc
    · exact growBy_le need h r _ (by omega)
theorem nextcap_le {need cap : Nat} (h : cap < need) : Builtin.nextslicecap need cap ≤ 2 * need := by
  unfold Builtin.nextslicecap
  split
  · omega
  · split
    · omega
    · exact growBy_le need (by omega) 4 cap (by omega)

/-- the operand's first cells, in this world and in every one that reads alike -/
def Firsts (P : Program) (w : World) (size n : Nat) (v : Value) (cs : List Value) : Prop :=
  ∀ w' : World, (∀ a, w'.cell? a = w.cell? a) → (Builtin.firstCells size n v).run P w' = .ok cs.toArray w'

theorem firsts_addr {size n : Nat} {ad : Addr} {l c : Nat} {cs : List Value} (hl : cs.length = n * size) (h : ∀ j v, cs[j]? = some v → w.cell? (ad.add j) = some v) : Firsts P w size n (.slice (some ad) l c) cs := by
  intro w' hw
  have := run_loadCells_list (P := P) w' ad cs (fun j v hj => by rw [hw]; exact h j v hj)
  rw [hl] at this
  simpa [Builtin.firstCells] using this
theorem firsts_nil {size n : Nat} {l c : Nat} : Firsts P w size n (.slice none l c) [] := by
  intro w' hw; rfl

theorem firsts_vra {xs : List AV} {ad : Addr} {size n : Nat} {l c : Nat} (h : VRa (Im σ w) w xs ad) (hl : n * size ≤ xs.length) : ∃ cs, Firsts P w size n (.slice (some ad) l c) cs ∧ VRs (Im σ w) w (xs.take (n * size)) cs := by
  obtain ⟨cs, h1, h2⟩ := vra_list (h.take (n * size))
  exact ⟨cs, firsts_addr (by rw [h1.1]; simp; omega) h2, h1⟩
theorem firsts_own (hr : Rel gl σ w) {b o : Nat} {ob : Ob} (hb : σ b = some ob) {size n : Nat} {l c : Nat} (hl : o + n * size ≤ ob.xs.length) :
    ∃ cs, Firsts P w size n (.slice (some ⟨b, o, none⟩) l c) cs ∧ VRs (Im σ w) w ((ob.xs.drop o).take (n * size)) cs := by
  obtain ⟨cs, T, h1, h2, h3, h4, h5⟩ := own_vra hr hb o
  have hv := (h4.drop o).take (n * size)
  refine ⟨_, firsts_addr (by rw [hv.1]; simp; omega) (fun j v hj => ?_), hv⟩
  rw [add_lit]
  rw [List.getElem?_take] at hj
  split at hj
  · rw [List.getElem?_drop, List.getElem?_take] at hj
    split at hj
    · simp [World.cell?, h1]; simpa using hj
    · cases hj
  · cases hj

theorem srcR_sound {str : Bool} {size : Nat} {y : AV} {v : Value} {K : List AV → Nat → Prop} (hr : Rel gl σ w) (hy : VR (Im σ w) w y v) (h : srcR str size y σ K) :
    ∃ ys n cs, K ys n ∧ (Builtin.lenOf v).run P w = .ok n w ∧ Firsts P w size n v cs ∧ VRs (Im σ w) w ys cs ∧ cs.length = n * size := by
  unfold srcR at h
  split at h
  · split at h
    · obtain ⟨h1, h2⟩ := h
      rcases hy.fs_inv with ⟨ad, c, rfl, hc, hA⟩ | ⟨rfl, rfl, rfl⟩
      · obtain ⟨cs, k1, k2⟩ := firsts_vra (P := P) (l := _) (c := c) hA h1
        exact ⟨_, _, cs, h2, rfl, k1, k2, by rw [k2.1]; simp; omega⟩
      · exact ⟨_, _, [], h2, rfl, firsts_nil, by simpa using VRs.nil, by simp⟩
    · obtain ⟨h1, h2⟩ := h
      rcases hy.ff_inv with ⟨ad, rfl, hA⟩ | ⟨rfl, rfl, rfl⟩
      · obtain ⟨cs, k1, k2⟩ := firsts_vra (P := P) (l := _) (c := _) hA h1
        exact ⟨_, _, cs, h2, rfl, k1, k2, by rw [k2.1]; simp; omega⟩
      · exact ⟨_, _, [], h2, rfl, firsts_nil, by simpa using VRs.nil, by simp⟩
    · cases hy.w_inv
      obtain ⟨rfl, h2⟩ := h
      exact ⟨_, _, [], h2, rfl, firsts_nil, .nil, by simp⟩
    · cases hy.w_inv
      obtain ⟨ob, hb, h1, h2⟩ := h
      obtain ⟨cs, k1, k2⟩ := firsts_own (P := P) hr hb h1
      exact ⟨_, _, cs, h2, rfl, k1, k2, by rw [k2.1]; simp; omega⟩
    · exact h.elim
  · split at h
    · rename_i s
      cases hy.w_inv
      obtain ⟨rfl, h2⟩ := h
      refine ⟨_, _, s.toList.map fun b => .int .u8 b.toNat, h2, rfl, ?_, ?_, ?_⟩
      · intro w' hw
        have e : s.extract 0 s.size = s := by
          apply ByteArray.ext
          simp
        simp only [Builtin.firstCells, e, ByteArray.toList_eq, Sem.run_pure]
        congr 1
        apply Array.ext'
        simp
      · have : (s.toList.map fun b => AV.w (.int .u8 b.toNat)) = (s.toList.map fun b => Value.int .u8 b.toNat).map cAV := by simp [cAV]
        rw [this]; exact map_cAV_vr _
      · simp [ByteArray.toList_eq]
    · exact h.elim

theorem vrs_append_pad {I : Nat → Prop} {xs : List AV} {cs ds : List Value} (h : VRs I w xs cs) : VRs I w xs ((cs ++ ds).take xs.length) := by
  have : (cs ++ ds).take xs.length = cs := by rw [← h.1]; simp
  rw [this]; exact h

/-- new memory behind an append: what was there, what comes, noughts -/
theorem sound_grown (hr : Rel gl σ w) {xs ys : List AV} {cs ds : List Value} (hx : VRs (Im σ w) w xs cs) (hy : VRs (Im σ w) w ys ds) {zs : List Value} {size need c' : Nat} (e : TypeId) (hl : cs.length + ds.length = need * size)
    (hz : zs.length = (c' - need) * size) (hc : need ≤ c') {K : AV → Own → Prop} (n : Nat) (hk : ∀ b, σ b = none → K (.w (.slice (some ⟨b, 0, none⟩) need c')) (upd σ b ⟨xs ++ ys, c' * size⟩)) :
    Sound P gl σ w K (.slice (some ⟨w.heap.size, 0, none⟩) need c') ({ w with drawn := n }.alloc (.cells (cs ++ ds ++ zs).toArray e)) := by
  have hr' : Rel gl σ { w with drawn := n } := hr.stay (Stays.drew σ w n) fun _ _ _ => rfl
  have hxy : VRs (Im σ { w with drawn := n }) { w with drawn := n } (xs ++ ys) (cs ++ ds) := ((hx.append hy).mono (Stays.drew σ w n).I)
  have hlen : (xs ++ ys).length = need * size := by have := hx.1; have := hy.1; simp; omega
  have hmul : need * size + (c' - need) * size = c' * size := by rw [← Nat.add_mul]; congr 1; omega
  obtain ⟨r1, r2⟩ := rel_own hr' (ob := ⟨xs ++ ys, c' * size⟩) (cs := (cs ++ ds ++ zs).toArray) (T := e) (by simp; omega) (by show (xs ++ ys).length ≤ c' * size; rw [hlen]; exact Nat.mul_le_mul_right _ hc)
    (by show VRs _ _ (xs ++ ys) (((cs ++ ds ++ zs).toArray).toList.take (xs ++ ys).length); exact vrs_append_pad hxy)
  exact ⟨_, _, hk _ hr.fresh, r1, (Stays.drew σ w n).trans r2, .w _⟩

theorem zeroCells_length (z : Array Value) (n : Nat) : (Builtin.zeroCells z n).toList.length = n * z.size := by simp [Builtin.zeroCells]

/-- the run of an append that grows -/
theorem run_append_grow {t u e : TypeId} {i : TypeInfo} {z : Value} (ht : P.underlying t = some (.slice e)) (hi : P.info? e = some i) (hz : i.zero = some z) (hu : (∃ d, P.underlying u = some (.slice d)) ∨ P.underlying u = some .string)
    {ty : TypeId} {base : Option Addr} {m c n : Nat} {v : Value} {cs ds : List Value} (hn : (Builtin.lenOf v).run P w = .ok n w) (hc : c < m + n) (h1 : m + n ≤ 9223372036854775807) (h2 : (m + n) * 2 * i.bytes ≤ 281474976710656)
    (hx : Firsts P w i.size m (.slice base m c) cs) (hy : Firsts P w i.size n v ds) : ∃ c' k, m + n ≤ c' ∧
    (Builtin.append_ #[t, u] ty #[.slice base m c, v]).run P w = .ok (.slice (some ⟨w.heap.size, 0, none⟩) (m + n) c') ({ w with drawn := k }.alloc (.cells (cs ++ ds ++ (Builtin.zeroCells z.cells (c' - (m + n))).toList).toArray e)) := by
  refine ⟨(Question.appendCap (m + n) c e).cut (w.tape w.drawn (.appendCap (m + n) c e)), w.drawn + 1, by simp [Question.cut], ?_⟩
  have hcs : P.cellsOf e = i.size := by simp [Program.cellsOf, hi]
  have hcap : ¬ (Builtin.nextslicecap (m + n) c * i.bytes > 2 ^ 48) := by
    have h3 := nextcap_le hc
    have h4 : Builtin.nextslicecap (m + n) c * i.bytes ≤ (2 * (m + n)) * i.bytes := Nat.mul_le_mul_right _ h3
    have h5 : (2 * (m + n)) * i.bytes = (m + n) * 2 * i.bytes := by rw [Nat.mul_comm 2]
    omega
  have hbig : ¬ (((m + n : Nat) : Int) > IntKind.i64.max ∧ ((false : Bool) = true ∨ i.bytes = 0)) := by
    have := IntKind.max_i64; omega
  have hwd : ∀ a, ({ w with drawn := w.drawn + 1 } : World).cell? a = w.cell? a := fun a => rfl
  have hx' := hx _ hwd
  have hy' := hy _ hwd
  rcases hu with ⟨d, hd⟩ | hd
  all_goals
    unfold Builtin.append_
    simp only [List.getElem?_toArray, List.getElem?_cons_zero, List.getElem?_cons_succ, Sem.run_bind, run_underlying ht, Result.andThen_ok, run_sizeOf w hi, hcs, run_underlying hd, Sem.run_pure,
      Bool.false_eq_true, if_false, hn]
    rw [if_neg (by omega)]
    simp only [Sem.run_bind, run_typeInfo w hi, Result.andThen_ok]
    rw [if_neg (by have := IntKind.max_i64; omega)]
    simp only [Sem.run_bind, run_typeInfo w hi, Result.andThen_ok]
    rw [if_neg hcap]
    simp only [Sem.run_bind, run_choose, Question.forced, Bool.false_eq_true, if_false, Result.andThen_ok, run_typeInfo _ hi, run_askRoom, hx', Bool.not_false, if_true, hy']
    simp only [zeroValue, Sem.run_bind, run_typeInfo _ hi, hz, Sem.run_pure, Result.andThen_ok, run_newRow]
    have earr : ∀ q : Array Value, cs.toArray ++ ds.toArray ++ q = (cs ++ ds ++ q.toList).toArray := by
      intro q
      apply Array.ext'
      simp
    rw [earr]

/-- the run of an append in place -/
theorem run_append_here {t u e : TypeId} {i : TypeInfo} (ht : P.underlying t = some (.slice e)) (hi : P.info? e = some i) (hu : (∃ d, P.underlying u = some (.slice d)) ∨ P.underlying u = some .string)
    {ty : TypeId} {base : Option Addr} {m c n : Nat} {v : Value} {ds : List Value} (hn : (Builtin.lenOf v).run P w = .ok n w) (hc : m + n ≤ c)
    (hy : Firsts P w i.size n v ds) : (Builtin.append_ #[t, u] ty #[.slice base m c, v]).run P w = match base with
      | some a => ((storeCells (a.add (m * i.size)) ds).run P w).andThen fun _ w' => .ok (.slice base (m + n) c) w'
      | none => .ok (.slice none (m + n) c) w := by
  have hcs : P.cellsOf e = i.size := by simp [Program.cellsOf, hi]
  have hy' := hy w (fun _ => rfl)
  rcases hu with ⟨d, hd⟩ | hd
  all_goals
    unfold Builtin.append_
    simp only [List.getElem?_toArray, List.getElem?_cons_zero, List.getElem?_cons_succ, Sem.run_bind, run_underlying ht, Result.andThen_ok, run_sizeOf w hi, hcs, run_underlying hd, Sem.run_pure,
      Bool.false_eq_true, if_false, hn]
    rw [if_pos hc]
    simp only [Sem.run_bind, Bool.not_false, if_true, hy', Result.andThen_ok]
    cases base with
    | none => rfl
    | some a => simp

theorem sound_app {t u e : TypeId} {i : TypeInfo} {z : Value} (ht : P.underlying t = some (.slice e)) (hi : P.info? e = some i) (hz : i.zero = some z) (hzs : z.cells.size = i.size) (hu : (∃ d, P.underlying u = some (.slice d)) ∨ P.underlying u = some .string)
    {ty : TypeId} {str : Bool} {x y : AV} {p v : Value} {K : AV → Own → Prop} (hr : Rel gl σ w) (hx : VR (Im σ w) w x p) (hy : VR (Im σ w) w y v)
    (h : srcR str i.size y σ fun ys n => appR i.size i.bytes x ys n σ K) : ∃ r w', (Builtin.append_ #[t, u] ty #[p, v]).run P w = .ok r w' ∧ Sound P gl σ w K r w' := by
  obtain ⟨ys, n, ds, hk, hn, hf, hv, hl⟩ := srcR_sound (P := P) hr hy h
  have hzl : ∀ k, (Builtin.zeroCells z.cells k).toList.length = k * i.size := fun k => by rw [zeroCells_length, hzs]
  unfold appR at hk
  split at hk
  · cases hx.w_inv
    obtain ⟨rfl, rfl, h1, h2⟩ := hk
    by_cases h0 : n = 0
    · subst h0
      exact ⟨_, _, run_append_here ht hi hu hn (by omega) hf, sound_pure hr (h1 rfl) (.w _)⟩
    · obtain ⟨h3, h4, h5⟩ := h2 (by omega)
      obtain ⟨c', k, hc', run⟩ := run_append_grow (ty := ty) (base := none) (m := 0) (c := 0) ht hi hz hu hn (by omega) (by omega) (by simpa using h4) firsts_nil hf
      simp only [Nat.zero_add] at hc' run
      exact ⟨_, _, run, sound_grown hr (xs := []) (cs := []) .nil hv e (by simpa using hl) (hzl _) hc' k (fun b hb => by simpa using h5 b c' hb hc')⟩
  · rename_i xs m
    obtain ⟨hlx, h1, h2⟩ := hk
    rcases hx.ff_inv with ⟨ad, rfl, hA⟩ | ⟨rfl, rfl, rfl⟩
    · by_cases h0 : n = 0
      · subst h0
        have hd : ds = [] := by simpa using hl
        subst hd
        refine ⟨_, w, ?_, sound_pure hr (h1 rfl) (.mk_ff hA)⟩
        rw [run_append_here ht hi hu hn (by omega) hf]
        simp [storeCells]
      · obtain ⟨h3, h4, h5⟩ := h2 (by omega)
        obtain ⟨cs, k1, k2⟩ := firsts_vra (P := P) (l := m) (c := m) hA hlx
        obtain ⟨c', k, hc', run⟩ := run_append_grow (ty := ty) ht hi hz hu hn (by omega) h3 h4 k1 hf
        exact ⟨_, _, run, sound_grown hr k2 hv e (by rw [hl, k2.1]; simp only [List.length_take]; rw [Nat.min_eq_left hlx, Nat.add_mul]) (hzl _) hc' k (fun b hb => h5 b c' hb hc')⟩
    · by_cases h0 : n = 0
      · subst h0
        exact ⟨_, _, run_append_here ht hi hu hn (by omega) hf, sound_pure hr (h1 rfl) .ff0⟩
      · obtain ⟨h3, h4, h5⟩ := h2 (by omega)
        obtain ⟨c', k, hc', run⟩ := run_append_grow (ty := ty) (base := none) (m := 0) (c := 0) ht hi hz hu hn (by omega) h3 h4 firsts_nil hf
        exact ⟨_, _, run, sound_grown hr (xs := []) (cs := []) .nil hv e (by simpa using hl) (hzl _) hc' k (fun b hb => by simpa using h5 b c' hb hc')⟩
  · rename_i b o m c
    cases hx.w_inv
    obtain ⟨ob, hb, h1, h2, h3, h4, h5, h6, h7, h8⟩ := hk
    by_cases hc : m + n ≤ c
    · obtain ⟨cs, T, c1, c2, c3, c4⟩ := hr.own b ob hb
      have hone : ∀ q ∈ ds, q.oneCell' = true := by
        intro q hq
        obtain ⟨j, hj, rfl⟩ := List.getElem_of_mem hq
        have hj' : j < ys.length := by have := hv.1; omega
        have := hv.2 j hj'
        rw [List.getD_eq_getElem?_getD, List.getElem?_eq_getElem hj] at this
        exact oneCell_vr this (List.all_eq_true.1 h6 _ (List.getElem_mem hj'))
      have hmn : o + m * i.size + n * i.size ≤ ob.cap := by
        have : (m + n) * i.size ≤ c * i.size := Nat.mul_le_mul_right _ hc
        rw [Nat.add_mul] at this
        omega
      have run := run_storeCells_at (P := P) b (o + m * i.size) T ds 0 cs w c1 (by rw [hl]; omega) hone
      simp only [Nat.add_zero] at run
      have hyl : ys.length = n * i.size := by rw [← hv.1, hl]
      have hp : VRp (Im σ w) w ob.xs cs.toList := (VRp.iff (by simp; omega)).1 c4
      -- what is known of the block afterwards
      have hq : VRp (Im σ w) w (ob.xs.take (o + m * i.size) ++ ys ++ ob.xs.drop (o + (m + n) * i.size)) (cs.toList.take (o + m * i.size) ++ ds ++ cs.toList.drop (o + m * i.size + ds.length)) := by
        have e1 : o + (m + n) * i.size = o + m * i.size + ds.length := by rw [hl, Nat.add_mul]; omega
        rw [e1]
        have a1 := ((VRp.iff (w := w) (I := Im σ w) (by simp; omega)).2 hp).take (o + m * i.size)
        have a2 : VRs (Im σ w) w (ob.xs.take (o + m * i.size)) (cs.toList.take (o + m * i.size)) := by
          have e2 : (cs.toList.take ob.xs.length).take (o + m * i.size) = cs.toList.take (o + m * i.size) := by rw [List.take_take]; congr 1; omega
          rw [e2] at a1; exact a1
        have a3 := ((VRp.iff (w := w) (I := Im σ w) (by simp; omega)).2 hp).drop (o + m * i.size + ds.length)
        rw [List.drop_take] at a3
        have a4 := ((a2.append hv).append a3)
        refine ⟨by have := a4.1; have := hv.1; simp at *; omega, fun j hj => ?_⟩
        have := (VRs.iff.1 a4).2 j hj
        have e5 : ∀ (A B : List Value) (k : Nat), j < (A ++ B.take k).length → (A ++ B.take k).getD j undef = (A ++ B).getD j undef := by
          intro A B k hjk
          simp only [List.getD_eq_getElem?_getD]
          by_cases hjA : j < A.length
          · rw [List.getElem?_append_left hjA, List.getElem?_append_left hjA]
          · rw [List.getElem?_append_right (by omega), List.getElem?_append_right (by omega), List.getElem?_take]
            rw [if_pos (by simp at hjk; omega)]
        rw [e5 _ _ _ (by rw [a4.1]; exact hj)] at this
        exact this
      have hlen : (ob.xs.take (o + m * i.size) ++ ys ++ ob.xs.drop (o + (m + n) * i.size)).length ≤ ob.cap := by
        simp only [List.length_append, List.length_take, List.length_drop, hyl]
        rw [Nat.add_mul]; omega
      obtain ⟨r1, r2⟩ := rel_set hr hb (ob' := ⟨ob.xs.take (o + m * i.size) ++ ys ++ ob.xs.drop (o + (m + n) * i.size), ob.cap⟩)
        (cs' := (cs.toList.take (o + m * i.size) ++ ds ++ cs.toList.drop (o + m * i.size + ds.length)).toArray) c1
        (by show _ = ob.cap; simp only [List.size_toArray, List.length_append, List.length_take, List.length_drop, Array.length_toList]; omega) hlen
        (by
          show VRs _ _ (ob.xs.take (o + m * i.size) ++ ys ++ ob.xs.drop (o + (m + n) * i.size)) _
          rw [VRp.iff]
          · simpa using hq
          · have := hq.1; simpa using this)
      refine ⟨_, _, ?_, _, _, h7 hc, r1, r2, .w _⟩
      rw [run_append_here ht hi hu hn hc hf]
      simp only [add_lit, run, Result.andThen_ok]
    · obtain ⟨cs, k1, k2⟩ := firsts_own (P := P) hr hb (l := m) (c := c) h1
      obtain ⟨c', k, hc', run⟩ := run_append_grow (ty := ty) ht hi hz hu hn (by omega) h4 h5 k1 hf
      have hld : m * i.size ≤ (ob.xs.drop o).length := by simp; omega
      exact ⟨_, _, run, sound_grown hr k2 hv e (by rw [hl, k2.1]; simp only [List.length_take]; rw [Nat.min_eq_left hld, Nat.add_mul]) (hzl _) hc' k (fun b' hb' => h8 (by omega) b' c' hb' hc')⟩
  · exact hk.elim

end Go.Ab
