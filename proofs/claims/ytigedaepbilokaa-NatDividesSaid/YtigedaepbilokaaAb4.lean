import Derived.Test.YtigedaepbilokaaAb3
import Derived.WalkSpells
/-! Each operation of the plain machine is sound: the rest of those that write no memory; calls. -/
namespace Go.Ab
set_option linter.unusedVariables false
set_option linter.unusedSimpArgs false
variable {P : Program} {gl : Nat → Option (List AV)} {N : Nat} {σ : Own} {w : World} {env : Env} {a : Act}

theorem sound_bin {op : BinOp} {t t' : TypeId} {x y : AV} {u v : Value} {ox oy : Operand} {K : AV → Own → Prop} (hr : Rel gl σ w) (hx : VR (Im σ w) w x u) (hy : VR (Im σ w) w y v)
    (h : binR op x y fun v => K v σ) : ∃ z, (do eqGuard op t ox oy u v; binOp op t u v : Sem Value).run P w = .ok z w ∧ Sound P gl σ w K z w := by
  obtain ⟨z, h1, h2⟩ := binR_sound (P := P) (w := w) (σ := σ) t hx hy h
  have hg : eqGuard op t ox oy u v = pure () := by
    unfold binR at h
    split at h
    · cases hx.w_inv; cases op <;> rfl
    · cases hx.w_inv; cases op <;> rfl
    · exact h.elim
  refine ⟨z, ?_, sound_pure hr h2 (.w _)⟩
  rw [hg]; exact h1

theorem sound_beq {neg : Bool} {t : TypeId} (ht : P.underlying t = some .bool) {x y : AV} {u v : Value} {ox oy : Operand} {K : AV → Own → Prop} (hr : Rel gl σ w) (hx : VR (Im σ w) w x u) (hy : VR (Im σ w) w y v)
    (h : beqV neg x y fun v => K v σ) : ∃ z, (do eqGuard (if neg then .neq else .eql) t ox oy u v; binOp (if neg then .neq else .eql) t u v : Sem Value).run P w = .ok z w ∧ Sound P gl σ w K z w := by
  unfold beqV at h
  split at h
  · rename_i x y
    cases hx.w_inv; cases hy.w_inv
    have he : (Op.equal t (.bool x) (.bool y)).run P w = .ok (x == y) w := by
      show (Op.equalIn 10000 t (.bool x) (.bool y)).run P w = _
      unfold Op.equalIn
      rw [Sem.run_bind, run_underlying ht, Result.andThen_ok]
      rfl
    cases neg with
    | false =>
      refine ⟨_, ?_, sound_pure hr h (.w _)⟩
      have : (binOp .eql t (.bool x) (.bool y)).run P w = .ok (.bool (x == y)) w := by
        simp only [binOp, Sem.run_bind, he, Result.andThen_ok]; rfl
      exact this
    | true =>
      refine ⟨_, ?_, sound_pure hr h (.w _)⟩
      have : (binOp .neq t (.bool x) (.bool y)).run P w = .ok (.bool (!(x == y))) w := by
        simp only [binOp, Sem.run_bind, he, Result.andThen_ok]; rfl
      exact this
  · exact h.elim

theorem run_nil {neg : Bool} {t e : TypeId} (ht : P.underlying t = some (.slice e)) (b : Option Addr) (n c : Nat) {ox : Operand} :
    (do eqGuard (if neg then .neq else .eql) t ox (.const (.slice none 0 0)) (.slice b n c) (.slice none 0 0); binOp (if neg then .neq else .eql) t (.slice b n c) (.slice none 0 0) : Sem Value).run P w =
      .ok (.bool (if neg then !b.isNone else b.isNone)) w := by
  have he : (Op.equal t (.slice b n c) (.slice none 0 0)).run P w = .ok b.isNone w := by
    show (Op.equalIn 10000 t (.slice b n c) (.slice none 0 0)).run P w = _
    unfold Op.equalIn
    rw [Sem.run_bind, run_underlying ht, Result.andThen_ok]
    cases b <;> rfl
  cases neg with
  | false =>
    have : (binOp .eql t (.slice b n c) (.slice none 0 0)).run P w = .ok (.bool b.isNone) w := by
      simp only [binOp, Sem.run_bind, he, Result.andThen_ok]; rfl
    exact this
  | true =>
    have : (binOp .neq t (.slice b n c) (.slice none 0 0)).run P w = .ok (.bool (!b.isNone)) w := by
      simp only [binOp, Sem.run_bind, he, Result.andThen_ok]; rfl
    exact this

theorem sound_nil {neg : Bool} {t e : TypeId} (ht : P.underlying t = some (.slice e)) {x : AV} {u : Value} {ox : Operand} {K : AV → Own → Prop} (hr : Rel gl σ w) (hx : VR (Im σ w) w x u)
    (h : nilV neg x fun v => K v σ) : ∃ z, (do eqGuard (if neg then .neq else .eql) t ox (.const (.slice none 0 0)) u (.slice none 0 0); binOp (if neg then .neq else .eql) t u (.slice none 0 0) : Sem Value).run P w = .ok z w ∧ Sound P gl σ w K z w := by
  unfold nilV at h
  split at h
  · rcases hx.fs_inv with ⟨ad, c, rfl, hc, hA⟩ | ⟨rfl, rfl, rfl⟩
    · refine ⟨_, run_nil ht _ _ _, sound_pure (v := .w _) hr ?_ (.w _)⟩
      have := h false (fun _ => rfl)
      cases neg <;> exact this
    · refine ⟨_, run_nil ht _ _ _, sound_pure (v := .w _) hr ?_ (.w _)⟩
      have := h true (fun h => absurd h (by omega))
      cases neg <;> exact this
  · rcases hx.ff_inv with ⟨ad, rfl, hA⟩ | ⟨rfl, rfl, rfl⟩
    · refine ⟨_, run_nil ht _ _ _, sound_pure (v := .w _) hr ?_ (.w _)⟩
      have := h false (fun _ => rfl)
      cases neg <;> exact this
    · refine ⟨_, run_nil ht _ _ _, sound_pure (v := .w _) hr ?_ (.w _)⟩
      have := h true (fun h => absurd h (by omega))
      cases neg <;> exact this
  · cases hx.w_inv
    refine ⟨_, run_nil ht _ _ _, sound_pure (v := .w _) hr ?_ (.w _)⟩
    cases neg <;> exact h
  · cases hx.w_inv
    refine ⟨_, run_nil ht _ _ _, sound_pure (v := .w _) hr ?_ (.w _)⟩
    cases neg <;> exact h
  · exact h.elim

theorem sound_un {op : UnOp} {x : AV} {u : Value} {K : AV → Own → Prop} (hr : Rel gl σ w) (hx : VR (Im σ w) w x u) (h : unV op x fun v => K v σ) :
    ∃ z, (Op.unary op u).run P w = .ok z w ∧ Sound P gl σ w K z w := by
  unfold unV at h
  split at h
  · cases hx.w_inv; exact ⟨_, rfl, sound_pure hr h (.w _)⟩
  · cases hx.w_inv; obtain ⟨z, rfl, h⟩ := h; exact ⟨_, rfl, sound_pure hr h (.w _)⟩
  · cases hx.w_inv; obtain ⟨z, rfl, h⟩ := h; exact ⟨_, rfl, sound_pure hr h (.w _)⟩
  · exact h.elim

theorem sound_conv {k j : IntKind} {s d : TypeId} (hs : P.underlying s = some (.int j)) (hd : P.underlying d = some (.int k)) {x : AV} {u : Value} {K : AV → Own → Prop} (hr : Rel gl σ w) (hx : VR (Im σ w) w x u)
    (h : convV k x fun v => K v σ) : ∃ z, (convert s d u).run P w = .ok z w ∧ Sound P gl σ w K z w := by
  unfold convV at h
  split at h
  · cases hx.w_inv
    obtain ⟨z, rfl, h⟩ := h
    refine ⟨_, ?_, sound_pure hr h (.w _)⟩
    unfold convert
    rw [Sem.run_bind, run_underlying hs, Result.andThen_ok, Sem.run_bind, run_underlying hd, Result.andThen_ok]
    rfl
  · exact h.elim

theorem sound_len {t e ty : TypeId} (ht : P.underlying t = some (.slice e)) {x : AV} {u : Value} {K : AV → Own → Prop} (hr : Rel gl σ w) (hx : VR (Im σ w) w x u)
    (h : lenV x fun v => K v σ) : ∃ z, (Builtin.len_ #[t] ty #[u]).run P w = .ok z w ∧ Sound P gl σ w K z w := by
  have sl : ∀ b n c, (Builtin.len_ #[t] ty #[.slice b n c]).run P w = .ok (.int .i64 n) w := by
    intro b n c
    simp [Builtin.len_, run_underlying ht, goInt]
  unfold lenV at h
  split at h
  · rcases hx.fs_inv with ⟨ad, c, rfl, hc, hA⟩ | ⟨rfl, rfl, rfl⟩
    · exact ⟨_, sl _ _ _, sound_pure hr h (.w _)⟩
    · exact ⟨_, sl _ _ _, sound_pure hr h (.w _)⟩
  · rcases hx.ff_inv with ⟨ad, rfl, hA⟩ | ⟨rfl, rfl, rfl⟩
    · exact ⟨_, sl _ _ _, sound_pure hr h (.w _)⟩
    · exact ⟨_, sl _ _ _, sound_pure hr h (.w _)⟩
  · cases hx.w_inv; exact ⟨_, sl _ _ _, sound_pure hr h (.w _)⟩
  · exact h.elim

theorem sound_lens {t ty : TypeId} (ht : P.underlying t = some .string) {x : AV} {u : Value} {K : AV → Own → Prop} (hr : Rel gl σ w) (hx : VR (Im σ w) w x u)
    (h : lensV x fun v => K v σ) : ∃ z, (Builtin.len_ #[t] ty #[u]).run P w = .ok z w ∧ Sound P gl σ w K z w := by
  unfold lensV at h
  split at h
  · rename_i s
    cases hx.w_inv
    refine ⟨.int .i64 s.size, ?_, sound_pure hr h (.w _)⟩
    simp [Builtin.len_, run_underlying ht, goInt]
  · exact h.elim

theorem sound_fa {s : TypeId} {fs : Array Field} {i : Nat} {fd : Field} {n : Nat} (ht : P.underlying s = some (.struct fs)) (hf : fs[i]? = some fd) (hn : szOf P fd.type = some (n + 1))
    {x : AV} {u : Value} {K : AV → Own → Prop} (hr : Rel gl σ w) (hx : VR (Im σ w) w x u) (h : faV fd.offset x fun v => K v σ) :
    ∃ z, (Instr.fieldAt s u i).run P w = .ok z w ∧ Sound P gl σ w K z w := by
  have run : ∀ ad : Addr, (Instr.fieldAt s (.pointer (some ad)) i).run P w = .ok (.pointer (some (ad.add fd.offset))) w := by
    intro ad
    unfold Instr.fieldAt
    rw [Sem.run_bind, run_underlying ht, Result.andThen_ok]
    simp only [hf, Instr.sureAddr, fieldPlace, Sem.run_bind, Sem.run_pure, Result.andThen_ok, run_sizeOf_sz hn]
    simp
  unfold faV at h
  split at h
  · obtain ⟨ad, rfl, hA⟩ := hx.fp_inv
    exact ⟨_, run ad, sound_pure hr h (.mk_fp (hA.drop _))⟩
  · cases hx.w_inv
    refine ⟨_, run _, sound_pure hr h ?_⟩
    rw [add_lit]; exact .w _
  · exact h.elim

theorem sound_fld {s : TypeId} {fs : Array Field} {i : Nat} {fd : Field} {n : Nat} {b : Bool} (ht : P.underlying s = some (.struct fs)) (hf : fs[i]? = some fd) (hb : aggT P fd.type = some b) (hn : szOf P fd.type = some n)
    {x : AV} {u : Value} {K : AV → Own → Prop} (hr : Rel gl σ w) (hx : VR (Im σ w) w x u) (h : fldV b fd.offset n x fun v => K v σ) :
    ∃ z, (Instr.field s u i).run P w = .ok z w ∧ Sound P gl σ w K z w := by
  unfold fldV at h
  split at h
  · obtain ⟨cs, rfl, hc⟩ := hx.agg_inv
    obtain ⟨y, z, k1, k2, k3⟩ := run_part (P := P) hb hn hc _ h
    refine ⟨z, ?_, sound_pure hr k2 k3⟩
    unfold Instr.field
    rw [Sem.run_bind, run_underlying ht, Result.andThen_ok]
    simp only [hf, asAgg, Sem.run_bind, Sem.run_pure, Result.andThen_ok, k1]
  · exact h.elim

theorem sound_ext {x : AV} {u : Value} {i : Nat} {K : AV → Own → Prop} (hr : Rel gl σ w) (hx : VR (Im σ w) w x u) (h : extV x i fun v => K v σ) :
    ∃ z, (Instr.extract u i).run P w = .ok z w ∧ Sound P gl σ w K z w := by
  unfold extV at h
  split at h
  · obtain ⟨cs, rfl, hc⟩ := hx.tup_inv
    obtain ⟨y, h1, h2⟩ := h
    obtain ⟨v, h3, h4⟩ := hc.get h1
    refine ⟨v, ?_, sound_pure hr h2 h4⟩
    have : cs[i]? = some v := by simpa using h3
    simp [Instr.extract, this]
  · exact h.elim

/-- a slice expression -/
theorem slR_sound {x : AV} {u : Value} {size : Nat} {l h : Int} {mx : Option Int} {K : AV → Own → Prop} {t e : TypeId} (ht : P.underlying t = some (.slice e)) (hn : szOf P e = some size)
    (hr : Rel gl σ w) (hx : VR (Im σ w) w x u) {lo hi m : Option Value} (hl : BndV lo 0 l) (hh : BndV hi (lenAV x) h)
    (hm : (m = none ∧ mx = none) ∨ ∃ k j, m = some (.int k j) ∧ mx = some j) (h4 : m ≠ none → hi ≠ none)
    (hs : slR x size l h mx fun v => K v σ) : ∃ z, (Instr.sliceAt t u lo hi m).run P w = .ok z w ∧ Sound P gl σ w K z w := by
  have hbm : ∀ c : Nat, BndV m c (mx.getD c) := by
    intro c
    rcases hm with ⟨rfl, rfl⟩ | ⟨k, j, rfl, rfl⟩
    · exact .inl ⟨rfl, rfl⟩
    · exact .inr ⟨k, rfl⟩
  unfold slR at hs
  split at hs
  · rename_i xs n
    rcases hx.fs_inv with ⟨ad, c, rfl, hc, hA⟩ | ⟨rfl, rfl, rfl⟩
    · split at hs
      · obtain ⟨l', h', rfl, rfl, h1, h2, hk⟩ := hs
        refine ⟨_, run_slice_slice ht hn (some ad) n c hl hh (hbm c) (by omega) (by omega) (by simp; omega) (by simp) h4, sound_pure hr hk ?_⟩
        simp only [Option.getD_none, Int.toNat_natCast]
        split
        · refine .mk_fs (by omega) ?_
          have : h' - l' = 0 := by omega
          rw [this]; simp only [Nat.zero_mul, List.take_zero]
          intro i hi; simp at hi
        · exact .mk_fs (by omega) ((hA.drop _).take _)
      · rename_i m'
        obtain ⟨l', h', rfl, rfl, h1, h2, rfl, hk⟩ := hs
        refine ⟨_, run_slice_slice ht hn (some ad) n c hl hh (hbm c) (by omega) (by omega) (by simp) (by simp; omega) h4, sound_pure hr hk ?_⟩
        simp only [Option.getD_some, Int.toNat_natCast]
        split
        · refine .mk_ff ?_
          have : h' - l' = 0 := by omega
          rw [this]; simp only [Nat.zero_mul, List.take_zero]
          intro i hi; simp at hi
        · exact .mk_ff ((hA.drop _).take _)
    · split at hs
      · obtain ⟨l', h', rfl, rfl, h1, h2, hk⟩ := hs
        obtain rfl : h' = 0 := by omega
        obtain rfl : l' = 0 := by omega
        exact ⟨_, run_slice_slice ht hn none 0 0 hl hh (hbm 0) (by omega) (by omega) (by simp) (by simp) h4, sound_pure hr hk (by simpa using .fs0)⟩
      · obtain ⟨l', h', rfl, rfl, h1, h2, rfl, hk⟩ := hs
        obtain rfl : h' = 0 := by omega
        obtain rfl : l' = 0 := by omega
        exact ⟨_, run_slice_slice ht hn none 0 0 hl hh (hbm 0) (by omega) (by omega) (by simp) (by simp) h4, sound_pure hr hk (by simpa using .ff0)⟩
  · rename_i xs n
    rcases hx.ff_inv with ⟨ad, rfl, hA⟩ | ⟨rfl, rfl, rfl⟩
    · split at hs
      · obtain ⟨l', h', rfl, rfl, h1, h2, hk⟩ := hs
        refine ⟨_, run_slice_slice ht hn (some ad) n n hl hh (hbm n) (by omega) (by omega) (by simp; omega) (by simp) h4, sound_pure hr hk ?_⟩
        simp only [Option.getD_none, Int.toNat_natCast]
        split
        · refine .mk_fs (by omega) ?_
          have : h' - l' = 0 := by omega
          rw [this]; simp only [Nat.zero_mul, List.take_zero]
          intro i hi; simp at hi
        · exact .mk_fs (by omega) ((hA.drop _).take _)
      · rename_i m'
        obtain ⟨l', h', rfl, rfl, h1, h2, rfl, hk⟩ := hs
        refine ⟨_, run_slice_slice ht hn (some ad) n n hl hh (hbm n) (by omega) (by omega) (by simp) (by simp; omega) h4, sound_pure hr hk ?_⟩
        simp only [Option.getD_some, Int.toNat_natCast]
        split
        · refine .mk_ff ?_
          have : h' - l' = 0 := by omega
          rw [this]; simp only [Nat.zero_mul, List.take_zero]
          intro i hi; simp at hi
        · exact .mk_ff ((hA.drop _).take _)
    · split at hs
      · obtain ⟨l', h', rfl, rfl, h1, h2, hk⟩ := hs
        obtain rfl : h' = 0 := by omega
        obtain rfl : l' = 0 := by omega
        exact ⟨_, run_slice_slice ht hn none 0 0 hl hh (hbm 0) (by omega) (by omega) (by simp) (by simp) h4, sound_pure hr hk (by simpa using .fs0)⟩
      · obtain ⟨l', h', rfl, rfl, h1, h2, rfl, hk⟩ := hs
        obtain rfl : h' = 0 := by omega
        obtain rfl : l' = 0 := by omega
        exact ⟨_, run_slice_slice ht hn none 0 0 hl hh (hbm 0) (by omega) (by omega) (by simp) (by simp) h4, sound_pure hr hk (by simpa using .ff0)⟩
  · rename_i b o n c
    cases hx.w_inv
    split at hs
    · obtain ⟨l', h', rfl, rfl, h1, h2, o', h5, h6, hk⟩ := hs
      refine ⟨_, run_slice_slice ht hn (some ⟨b, o, none⟩) n c hl hh (hbm c) (by omega) (by omega) (by simp; omega) (by simp) h4, sound_pure hr hk ?_⟩
      simp only [Option.getD_none, Int.toNat_natCast]
      split
      · rw [h6 (by omega)]; exact .w _
      · rw [h5 (by omega)]
        simp only [Option.map_some, add_lit]; exact .w _
    · obtain ⟨l', h', m', rfl, rfl, rfl, h1, h2, h3, o', h5, h6, hk⟩ := hs
      refine ⟨_, run_slice_slice ht hn (some ⟨b, o, none⟩) n c hl hh (hbm c) (by omega) (by omega) (by simp; omega) (by simp; omega) h4, sound_pure hr hk ?_⟩
      simp only [Option.getD_some, Int.toNat_natCast]
      split
      · rw [h6 (by omega)]; exact .w _
      · rw [h5 (by omega)]
        simp only [Option.map_some, add_lit]; exact .w _
  · cases hx.w_inv
    obtain ⟨rfl, rfl, h2, rfl, hk⟩ := hs
    refine ⟨_, run_slice_slice ht hn none _ 0 hl hh (hbm 0) (by omega) (by omega) (by simp [h2]) (by simp [h2]) h4, sound_pure hr hk ?_⟩
    have : mx.getD ((0 : Nat) : Int) = 0 := h2
    rw [this]
    exact .w _
  · exact hs.elim

theorem sound_sls {t : TypeId} (ht : P.underlying t = some .string) {x : Operand} {lo hi : Option Operand} {K : AV → Own → Prop} (hr : Rel gl σ w) (he : EnvR N σ w env a)
    (h : slsV gl env (opdAV gl env (cOpd x)) (cOpt lo) (cOpt hi) fun v => K v σ) :
    ∃ z, (Instr.sliceAt t (a.eval x) (lo.map a.eval) (hi.map a.eval) none).run P w = .ok z w ∧ Sound P gl σ w K z w := by
  have hx := opd_vr (gl := gl) hr he x
  unfold slsV at h
  split at h
  · rename_i s hs
    rw [hs] at hx
    rw [hx.w_inv]
    obtain ⟨l, hl, h⟩ := bnd_sound hr he h
    obtain ⟨k, hk, h⟩ := bnd_sound hr he h
    obtain ⟨l', h', rfl, rfl, h1, h2, h3⟩ := h
    exact ⟨_, run_slice_string ht s hl hk (by omega) (by omega) (by omega), sound_pure hr h3 (by simpa using VR.w _)⟩
  · exact h.elim

end Go.Ab
