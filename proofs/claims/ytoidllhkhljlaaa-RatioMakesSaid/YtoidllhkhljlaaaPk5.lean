import Derived.ChangeArms
import Derived.Deep.Slices
import Derived.SizedLaws
import Derived.OpenShut
import Derived.Below
import Derived.Test.YtoidllhkhljlaaaPk4
namespace Go.Ab.Nn
theorem len_zero {n : Nat} : (((limbs n).length : Int) == 0) = decide (n = 0) := by
  rw [Bool.eq_iff_iff, beq_iff_eq, decide_eq_true_iff]
  constructor
  · intro h
    exact limbs_eq_nil.1 (List.eq_nil_of_length_eq_zero (by omega))
  · rintro rfl
    rw [limbs_zero]; rfl
end Go.Ab.Nn
namespace Go.Proofs.Ytoidllhkhljlaaa.Nat
open Go Go.Ab Go.Ab.Nn
set_option linter.unusedVariables false
set_option maxRecDepth 8000
theorem tot5 (a b c d e : List Nat) : tot [a, b, c, d, e] = a.length + b.length + c.length + d.length + e.length := by simp [tot]; omega
set_option smartUnfolding false
variable {gl : Nat → Option (List AV)} {σ : Own}

theorem RatioMakes_spec (ls : List Raw33) (hf : ∀ t ∈ ls, Fine33 t) (hn : ls.length < 1125899906842624) : ACalls P gl F_gaugelaw3_RatioMakes [.fs (ls.flatMap raw33) ls.length] σ (fun v σ' => v = .w (.bool true) ∧ σ' = σ) := by
  refine C_gaugelaw3_RatioMakes.calls hm ?_
  refine ⟨fun m env σ' => ∃ i : Nat, m = ls.length - i ∧ i ≤ ls.length ∧ σ' = σ ∧ env = [(0, .fs (ls.flatMap raw33) ls.length), (3, .w (.int .i64 i))], Wk.here ⟨ls.length, 0, rfl, by omega, rfl, rfl⟩, ?_⟩
  rintro m env σ' ⟨i, rfl, hi, rfl, rfl⟩
  refine ⟨fun h => ⟨fun h60 => ?_, fun _ => ?_⟩, fun h => ⟨(fun h => by cases h), fun _ => ?_⟩⟩
  rotate_left
  · refine CallVC.here l3wakes_spec ?_
    rintro v σ' ⟨rfl, rfl⟩
    exact Ret.here ⟨rfl, rfl⟩
  · refine CallVC.here l3wakes_spec ?_
    rintro v σ' ⟨rfl, rfl⟩
    exact Ret.here ⟨rfl, rfl⟩
  have hl : i < ls.length := by have := of_decide_eq_true h; omega
  have hfl := flat_drop (f := raw33) (sz := 9) (fun _ => rfl) ((false, []), (false, []), (false, []), [], [], []) hl
  obtain ⟨⟨wa, la⟩, ⟨wb, lb⟩, ⟨wc, lc⟩, ⟨wd, ld⟩, ⟨we, le⟩, ⟨wf, lf⟩⟩ := get_all hf ((false, []), (false, []), (false, []), [], [], []) hl
  generalize ls.getD i ((false, []), (false, []), (false, []), [], [], []) = t at *
  obtain ⟨⟨na, a⟩, ⟨nb, b⟩, ⟨nc, c⟩, d, e, f⟩ := t
  simp only at wa la wb lb wc lc wd ld we le wf lf
  have hA : ((ls.flatMap raw33).drop (i * 9)).take 9 = raw33 ((na, a), (nb, b), (nc, c), d, e, f) := by rw [hfl]; rfl
  refine ⟨i, rfl, hl, _, hA, rfl, fun b4 h4 => ⟨_, upd_same _ _ _, Nat.le_refl 9, _, rfl, Wk.frz 4 rfl (upd_same _ _ _) (del_upd2 _ _ h4) h4 ?_⟩⟩
  refine ⟨_, rfl, _, rfl, _, rfl, _, rfl, _, rfl, CallVC.here (Limbs_spec 24 [a, b, d, e, f] (by simp) (by rw [tot5]; omega)) ?_⟩
  rintro v σ' ⟨rfl, rfl⟩
  refine ⟨fun _ => Ret.here ⟨rfl, rfl⟩, fun ht => ?_⟩
  have ht : a.length + b.length + d.length + e.length + f.length ≤ 24 := by have := of_decide_eq_false ht; rw [tot5] at this; omega
  have ln : (limbs (sgn na (val a)).natAbs).length ≤ a.length := by rw [sgn_abs]; exact len_lim wa
  have lm : (limbs (sgn nb (val b)).natAbs).length ≤ b.length := by rw [sgn_abs]; exact len_lim wb
  have lD := len_lim wd
  have lE := len_lim we
  have lF := len_lim wf
  refine Wk.here ⟨_, rfl, _, rfl, CallF.here (fun E => Trim_spec a wa (by omega)) (CallF.here (fun E => Made_spec na (val a)) (fun b5 h5 => ⟨_, upd_same _ _ _, Nat.le_refl 2, _, rfl, Wk.frz 5 rfl (upd_same _ _ _) (del_upd2 _ _ h5) h5 ?_⟩))⟩
  refine Wk.here ⟨_, rfl, _, rfl, CallF.here (fun E => Trim_spec b wb (by omega)) (CallF.here (fun E => Made_spec nb (val b)) (fun b6 h6 => ⟨_, upd_same _ _ _, Nat.le_refl 2, _, rfl, Wk.frz 6 rfl (upd_same _ _ _) (del_upd2 _ _ h6) h6 ?_⟩))⟩
  refine ⟨_, rfl, CallVC.here (Trim_spec d wd (by omega)) ?_⟩
  rintro v σ' ⟨rfl, rfl⟩
  refine ⟨_, rfl, CallVC.here (Trim_spec e we (by omega)) ?_⟩
  rintro v σ' ⟨rfl, rfl⟩
  refine ⟨_, rfl, CallVC.here (Trim_spec f wf (by omega)) ?_⟩
  rintro v σ' ⟨rfl, rfl⟩
  generalize sgn na (val a) = n at *
  generalize sgn nb (val b) = m at *
  generalize val d = D at *
  generalize val e = E at *
  generalize val f = F at *
  refine ⟨fun h1 => ⟨fun h2 => ⟨fun h3 => Wk.here ⟨(i + 1 : Nat), by rw [wi] <;> omega, Wk.here ⟨ls.length - (i + 1), by omega, i + 1, rfl, by omega, rfl, rfl⟩⟩, fun h3 => ?_⟩, fun h2 => ⟨fun _ => Wk.here ⟨(i + 1 : Nat), by rw [wi] <;> omega, Wk.here ⟨ls.length - (i + 1), by omega, i + 1, rfl, by omega, rfl, rfl⟩⟩, fun h => by cases h⟩⟩, fun h1 => ⟨(fun h => by cases h), fun _ => ⟨fun _ => Wk.here ⟨(i + 1 : Nat), by rw [wi] <;> omega, Wk.here ⟨ls.length - (i + 1), by omega, i + 1, rfl, by omega, rfl, rfl⟩⟩, fun h => by cases h⟩⟩⟩
  have D0 : D ≠ 0 := fun e => by rw [len_zero, decide_eq_true e] at h1; cases h1
  have E0 : E ≠ 0 := fun e => by rw [len_zero, decide_eq_true e] at h2; cases h2
  have F0 : F ≠ 0 := fun e => by rw [len_zero, decide_eq_true e] at h3; cases h3
  have sF : ∀ k : Nat, sgn false k = k := fun _ => rfl
  have hM := fun (k : Nat) σ => Made_spec (gl := gl) (σ := σ) false k
  simp only [sF] at hM
  have nF : ∀ k : Nat, (k : Int).natAbs = k := Int.natAbs_natCast
  have i1 := imul_len n (F : Int)
  have i2 := len_mul D F
  have i3 := imul_len n (E : Int)
  have i4 := imul_len m (D : Int)
  rw [nF] at i1 i3 i4
  have q1 := rsz_mk n D0
  have q2 := rsz_mk m E0
  have hC : decide (mkRat n D = mkRat m E) = decide (n * E = m * D) := decide_eq_decide.2 (Rat.mkRat_eq_iff D0 E0)
  have hC2 : ((mkRat n D - mkRat m E).num.sign == 0) = decide (n * E = m * D) := by
    rw [← hC, Bool.eq_iff_iff, beq_iff_eq, decide_eq_true_iff]
    constructor
    · intro h
      have := sign_zero h
      grind
    · intro h
      rw [h, Rat.sub_self]; rfl
  have hK : mkRat n D = mkRat (n * F) (D * F) := (Rat.mkRat_mul_right F0).symm
  refine ⟨_, rfl, rfl, CallVC.here (rMake_spec n D D0 (by omega) (by omega)) ?_⟩
  rintro v σ' ⟨rfl, rfl⟩
  refine ⟨_, rfl, _, rfl, fun b10 h10 => ⟨_, upd_same _ _ _, Nat.le_refl 3, _, rfl, Wk.frz 10 rfl (upd_same _ _ _) (del_upd2 _ _ h10) h10 ?_⟩⟩
  refine ⟨_, rfl, rfl, CallVC.here (rMake_spec m E E0 (by omega) (by omega)) ?_⟩
  rintro v σ' ⟨rfl, rfl⟩
  refine ⟨_, rfl, _, rfl, fun b12 h12 => ⟨_, upd_same _ _ _, Nat.le_refl 3, _, rfl, Wk.frz 12 rfl (upd_same _ _ _) (del_upd2 _ _ h12) h12 ?_⟩⟩
  refine Wk.here ⟨_, rfl, rfl, CallF.here (hM F) (CallF.here (fun _ => Times2_spec n F (by omega) (by rw [nF]; omega)) (CallF.here (fun _ => rTimes_spec D F (by omega) (by omega)) (CallF.here (fun _ => rMake_spec (n * F) (D * F) (Nat.mul_ne_zero D0 F0) (by omega) (by omega)) ⟨_, rfl, _, rfl, fun b14 h14 => ⟨_, upd_same _ _ _, Nat.le_refl 3, _, rfl, Wk.frz 14 rfl (upd_same _ _ _) (del_upd2 _ _ h14) h14 ?_⟩⟩)))⟩
  refine Wk.here ⟨_, rfl, rfl, CallQ.here (hM E _) (CallQ.here (Times2_spec n E (by omega) (by rw [nF]; omega)) ⟨_, rfl, rfl, CallQ.here (hM D _) (CallQ.here (Times2_spec m D (by omega) (by rw [nF]; omega)) (CallQ.here (EqInt_spec (n * E) (m * D) (by omega)) ?_))⟩)⟩
  refine Wk.here (CallVC.here (l3num_spec 0) ?_)
  rintro v σ' ⟨rfl, rfl⟩
  refine ⟨fun _ => ?_, (fun h => by cases h)⟩
  refine CallVC.here (l3num_spec 0) ?_
  rintro v σ' ⟨rfl, rfl⟩
  refine ⟨fun _ => ?_, (fun h => by cases h)⟩
  refine CallVC.here (l3num_spec 0) ?_
  rintro v σ' ⟨rfl, rfl⟩
  refine ⟨fun _ => ⟨_, rfl, rfl, _, rfl, rfl, CallVC.here (EqRat_spec (mkRat n D) (mkRat m E) (by omega)) ?_⟩, (fun h => by cases h)⟩
  rintro v σ' ⟨rfl, rfl⟩
  have g1 : (!(decide (mkRat n D = mkRat m E) == decide (n * E = m * D))) = false := by rw [hC, beq_self_eq_true]; rfl
  have g2 : (!(((mkRat n D - mkRat m E).num.sign == 0) == decide (n * E = m * D))) = false := by rw [hC2, beq_self_eq_true]; rfl
  refine ⟨fun _ => ⟨_, rfl, rfl, _, rfl, rfl, CallVC.here (EqRat_spec (mkRat n D) (mkRat (n * F) (D * F)) (by omega)) ?_⟩, fun h => no g1 h⟩
  rintro v σ' ⟨rfl, rfl⟩
  refine ⟨fun _ => ⟨_, rfl, rfl, CallVC.here (rCheck_spec (mkRat n D) (by omega)) ?_⟩, fun h => no (nq hK) h⟩
  rintro v σ' ⟨rfl, rfl⟩
  refine CallVC.here (l3num_spec 0) ?_
  rintro v σ' ⟨rfl, rfl⟩
  refine ⟨fun _ => ⟨_, rfl, rfl, _, rfl, rfl, CallVC.here (rCmpR_spec (mkRat n D) (mkRat m E) (by omega) (by omega)) ?_⟩, (fun h => by cases h)⟩
  rintro v σ' ⟨rfl, rfl⟩
  exact ⟨fun h => no g2 h, fun _ => Wk.here ⟨(i + 1 : Nat), by rw [wi] <;> omega, Wk.here ⟨ls.length - (i + 1), by omega, i + 1, rfl, by omega, rfl, rfl⟩⟩⟩
end Go.Proofs.Ytoidllhkhljlaaa.Nat
/-! What comes in as data, read as plain values; a function's contract, told to a row. -/
namespace Go.Ab
open Go.ChangeShapes Go.WideShapes Go.RowKit
set_option linter.unusedVariables false
set_option linter.unusedSimpArgs false
variable {P : Program}

def none' : Own := fun _ => none
def noGl : Nat → Option (List AV) := fun _ => none
theorem rel_none (w : World) : Rel noGl none' w := ⟨(fun b ob h => by cases h), (fun b xs h => by cases h)⟩
/-- blocks of a world -/
def Bl (w : World) : Nat → Prop := fun b => b < w.heap.size
theorem Bl.im {w : World} {x : AV} {v : Value} (h : VR (Bl w) w x v) : VR (Im none' w) w x v := h.mono fun b hb => ⟨⟨hb, rfl⟩, rfl⟩

/-- What is read there is some plain value. -/
structure Opens (P : Program) (t : TypeId) {α : Type} (f : α → List AV) (g : α → Prop) : Prop where
  out : ∀ {H : Type} {enc : TypeId × Value → H} {w : World} {base : Nat} {spare : Nat → Bool} {held : Bool} {fuel : Nat} {cs : List Value} {x : DataW H × List MemPlace},
    DataW.trod enc P w base spare held fuel t cs = some x → (∀ n ∈ x.1.weights P t, n ≤ reachBytes) → ∃ a, VRs (Bl w) w (f a) cs ∧ g a
theorem weights_all {H : Type} {P : Program} {e : TypeId} {d : DataW H} {n : Nat} : ∀ {ds : List (DataW H)}, d ∈ ds → n ∈ d.weights P e → n ∈ DataW.weightsAll P e ds
  | d0 :: ds, hd, hn => by
    simp only [DataW.weightsAll, List.mem_append]
    rcases List.mem_cons.1 hd with rfl | hd
    · exact .inl hn
    · exact .inr (weights_all hd hn)
theorem opens_int {t : TypeId} {k : IntKind} (ht : P.underlying t = some (.int k)) : Opens P t (fun n : Int => [.w (.int k n)]) (fun n => (Lit.int k n).wf = true) := by
  constructor; intro H enc w base spare held fuel cs x h _
  obtain ⟨n, rfl, _, hw⟩ := DataW.trod_int ht h
  exact ⟨n, .cons (.w _) .nil, hw⟩
theorem opens_bool {t : TypeId} (ht : P.underlying t = some .bool) : Opens P t (fun b : Bool => [.w (.bool b)]) (fun _ => True) := by
  constructor; intro H enc w base spare held fuel cs x h _
  obtain ⟨n, rfl, _⟩ := DataW.trod_bool ht h
  exact ⟨n, .cons (.w _) .nil, trivial⟩
theorem opens_string {t : TypeId} (ht : P.underlying t = some .string) : Opens P t (fun s : ByteArray => [.w (.string s)]) (fun s => s.size ≤ maxLen) := by
  constructor; intro H enc w base spare held fuel cs x h hz
  obtain ⟨s, rfl, _, hs⟩ := DataW.trod_string ht h
  exact ⟨s, .cons (.w _) .nil, hs⟩
theorem Opens.map {t : TypeId} {α β : Type} {f : α → List AV} {g : α → Prop} {f' : β → List AV} {g' : β → Prop} (h : Opens P t f g) (k : α → β) (hk : ∀ a, g a → f' (k a) = f a ∧ g' (k a)) : Opens P t f' g' := by
  constructor; intro H enc w base spare held fuel cs x hx hz
  obtain ⟨a, ha, hg⟩ := h.out hx hz
  exact ⟨k a, by rw [(hk a hg).1]; exact ha, (hk a hg).2⟩
theorem list_choose {α : Type} {p : Nat → α → Prop} : ∀ n : Nat, (∀ i, i < n → ∃ a, p i a) → ∃ l : List α, l.length = n ∧ ∀ i a, l[i]? = some a → p i a
  | 0, _ => ⟨[], rfl, fun i a h => by simp at h⟩
  | n + 1, h => by
    obtain ⟨l, hl, hp⟩ := list_choose n (fun i hi => h i (by omega))
    obtain ⟨a, ha⟩ := h n (by omega)
    refine ⟨l ++ [a], by simp [hl], fun i b hb => ?_⟩
    by_cases hi : i < n
    · rw [List.getElem?_append_left (by omega)] at hb
      exact hp i b hb
    · rw [List.getElem?_append_right (by omega)] at hb
      have hi2 : i = n := by
        have := (List.getElem?_eq_some_iff.1 hb).1
        simp at this
        omega
      subst hi2
      rw [hl] at hb
      simp at hb
      exact hb ▸ ha
theorem flatMap_get {α : Type} {f : α → List AV} {sz : Nat} (hf : ∀ a, (f a).length = sz) : ∀ (l : List α) (k : Nat) (hk : k < (l.flatMap f).length), ∃ a, l[k / sz]? = some a ∧ (f a)[k % sz]? = some ((l.flatMap f)[k])
  | [], k, hk => by simp at hk
  | a :: l, k, hk => by
    rw [List.flatMap_cons, List.length_append, hf] at hk
    by_cases h : k < sz
    · refine ⟨a, by rw [Nat.div_eq_of_lt h]; rfl, ?_⟩
      rw [Nat.mod_eq_of_lt h, List.getElem?_eq_getElem (by rw [hf]; exact h)]
      congr 1
      simp only [List.flatMap_cons]
      rw [List.getElem_append_left (by rw [hf]; exact h)]
    · have hs : 0 < sz := by
        rcases Nat.eq_zero_or_pos sz with h0 | h0
        · exfalso
          subst h0
          have : (l.flatMap f) = [] := by
            rw [List.flatMap_eq_nil_iff]; intro x _; exact List.eq_nil_of_length_eq_zero (hf x)
          rw [this] at hk; simp at hk
        · exact h0
      obtain ⟨b, h1, h2⟩ := flatMap_get hf l (k - sz) (by omega)
      refine ⟨b, ?_, ?_⟩
      · rw [Nat.div_eq_sub_div hs (by omega), List.getElem?_cons_succ]; exact h1
      · rw [Nat.mod_eq_sub_mod (by omega), h2]
        congr 1
        simp only [List.flatMap_cons]
        rw [List.getElem_append_right (by rw [hf]; omega)]
        simp only [hf]
theorem cell_bl {w : World} {a : Addr} {v : Value} (h : w.cell? a = some v) : Bl w a.block := by
  unfold World.cell? at h
  unfold Bl
  rcases Nat.lt_or_ge a.block w.heap.size with hl | hl
  · exact hl
  · rw [Array.getElem?_eq_none hl] at h
    simp at h
theorem opens_slice {t e : TypeId} {α : Type} {f : α → List AV} {g : α → Prop} {sz : Nat} (ht : P.underlying t = some (.slice e)) (hs : P.cellsOf e = sz) (hf : ∀ a, (f a).length = sz) (hd : Opens P e f g) :
    Opens P t (fun l : List α => [.fs (l.flatMap f) l.length]) (fun xs => (∀ x ∈ xs, g x) ∧ xs.length * P.bytesOf e ≤ reachBytes) := by
  constructor; intro H enc w base spare held fuel cs x h hz
  rcases Go.Deep.open_slice ht h with ⟨rfl, _⟩ | ⟨a, len, cap, m, n, D, Pl, rfl, hb, hl, hm, hmm, rfl, hx⟩
  · exact ⟨[], .cons .fs0 .nil, by simp, by simp [reachBytes]⟩
  · have hlm : len ≤ m := by rw [hmm]; split <;> omega
    obtain ⟨l, hll, hp⟩ := list_choose (p := fun i b => g b ∧ ∃ c : List Value, c.length = sz ∧ VRs (Bl w) w (f b) c ∧ ∀ j u, c[j]? = some u → w.cell? (a.add (i * sz + j)) = some u) len (fun i hi => by
      obtain ⟨cs', h1, h2⟩ := hx i (by omega)
      obtain ⟨b, hk, hg⟩ := hd.out h2 (fun q hq => hz q (by
        show q ∈ DataW.weights P t (.slice ((List.range len).map D) _)
        unfold DataW.weights
        simp only [ht, List.mem_cons, List.mem_append]
        exact .inr (.inl (weights_all (List.mem_map_of_mem (List.mem_range.2 hi)) hq))))
      obtain ⟨_, hlen, hcell⟩ := World.cells?_some h1
      refine ⟨b, hg, cs', by rw [hlen, hs], hk, fun j u hj => ?_⟩
      have hj2 : j < cs'.length := (List.getElem?_eq_some_iff.1 hj).1
      have := hcell j (by omega)
      rw [hj, Go.Deep.add_add, hs] at this
      exact this)
    have hg : ∀ x ∈ l, g x := by
      intro x hx
      obtain ⟨i, hi, rfl⟩ := List.getElem_of_mem hx
      exact (hp i _ (List.getElem?_eq_getElem hi)).1
    subst hll
    refine ⟨l, .cons (.mk_fs hl ?_) .nil, hg, ?_⟩
    · intro k hk
      obtain ⟨b, h1, h2⟩ := flatMap_get hf l k hk
      obtain ⟨_, c, hc, hv, hcell⟩ := hp _ _ h1
      obtain ⟨u, hu, hvr⟩ := VRs.get hv h2
      have := hcell _ _ hu
      rw [Nat.mul_comm, Nat.div_add_mod] at this
      have hbl : Bl w a.block := by
        have h3 := cell_bl this
        rwa [add_block] at h3
      exact ⟨hbl, u, this, hvr⟩
    · have := hz ((((List.range l.length).map D).length + ((List.range (m - l.length)).map fun j => D (l.length + j)).length) * P.bytesOf e) (by
        show _ ∈ DataW.weights P t (.slice ((List.range l.length).map D) _)
        unfold DataW.weights
        simp only [ht, List.mem_cons, true_or])
      refine Nat.le_trans (Nat.mul_le_mul_right _ ?_) this
      simp
/-- Fields in a row. -/
structure OpensFs (P : Program) (fs : List Field) (off : Nat) {α : Type} (f : α → List AV) (g : α → Prop) (sz : Nat) : Prop where
  out : ∀ {H : Type} {enc : TypeId × Value → H} {w : World} {base : Nat} {spare : Nat → Bool} {held : Bool} {fuel : Nat} {cs : List Value},
    (∀ f ∈ fs, ∃ y, DataW.trod enc P w base spare held fuel f.type ((cs.drop f.offset).take (P.cellsOf f.type)) = some y ∧ ∀ n ∈ y.1.weights P f.type, n ≤ reachBytes) → ∃ a, VRs (Bl w) w (f a) ((cs.drop off).take sz) ∧ g a
theorem opensFs_one {f : Field} {off sz : Nat} {α : Type} {d : α → List AV} {g : α → Prop} (ho : f.offset = off) (hs : P.cellsOf f.type = sz) (hd : Opens P f.type d g) : OpensFs P [f] off d g sz := by
  constructor; intro H enc w base spare held fuel cs h
  obtain ⟨y, hy, hz⟩ := h f (by simp)
  rw [ho, hs] at hy
  exact hd.out hy hz
theorem opensFs_cons {f : Field} {fs : List Field} {off sz sz' : Nat} {α β : Type} {d : α → List AV} {d' : β → List AV} {g : α → Prop} {g' : β → Prop} (ho : f.offset = off) (hs : P.cellsOf f.type = sz) (hd : Opens P f.type d g) (hr : OpensFs P fs (off + sz) d' g' sz') :
    OpensFs P (f :: fs) off (fun p : α × β => d p.1 ++ d' p.2) (fun p => g p.1 ∧ g' p.2) (sz + sz') := by
  constructor; intro H enc w base spare held fuel cs h
  obtain ⟨y, hy, hz⟩ := h f (by simp)
  rw [ho, hs] at hy
  obtain ⟨a, ha, hga⟩ := hd.out hy hz
  obtain ⟨b, hb, hgb⟩ := hr.out (fun f' hf' => h f' (List.mem_cons_of_mem _ hf'))
  refine ⟨(a, b), ?_, hga, hgb⟩
  rw [List.take_add, List.drop_drop]
  exact VRs.append ha hb
theorem opens_struct {t : TypeId} {fs : Array Field} {α : Type} {d : α → List AV} {g : α → Prop} {sz : Nat} (ht : P.underlying t = some (.struct fs)) (hs : P.cellsOf t = sz) (hd : OpensFs P fs.toList 0 d g sz) :
    Opens P t d g := by
  constructor; intro H enc w base spare held fuel cs x h hz
  obtain ⟨xs, n, _, rfl, hl, hxl, hf⟩ := DataW.trod_struct ht h
  obtain ⟨a, ha, hg⟩ := hd.out (enc := enc) (w := w) (base := base) (spare := spare) (held := held) (fuel := n) (cs := cs) (fun fl hfl => by
    obtain ⟨i, hi, rfl⟩ := List.getElem_of_mem hfl
    have hi2 : i < fs.size := by simpa using hi
    have := hf i fs[i] (Array.getElem?_eq_getElem hi2)
    rw [List.getElem?_eq_getElem (by omega)] at this
    refine ⟨xs[i]'(by omega), by simpa using this, fun q hq => hz q ?_⟩
    show q ∈ DataW.weights P t (.agg (xs.map (·.1)))
    unfold DataW.weights
    simp only [ht]
    exact DataW.weights_mem_each (j := i) (t := fs[i].type) (d := (xs[i]'(by omega)).1) (by simp [List.getElem?_eq_getElem hi2]) (by simp [List.getElem?_eq_getElem (show i < xs.length by omega)]) q (by simpa using hq))
  refine ⟨a, ?_, hg⟩
  rwa [List.drop_zero, List.take_of_length_le (by omega)] at ha

/-- A contract over no own memory, told as a run. -/
theorem Codes.told {f : FuncId} {S : SC} {n : Nat} {rs : List Nat} (hcode : Codes P f S n rs) {args : List AV} {v : AV} (h : ACalls P noGl f args none' (fun v' σ' => v' = v ∧ σ' = none'))
    {w : World} {cargs : Array Value} (hv : VRs (Bl w) w args cargs.toList) : Calls P f cargs w fun e w' => ∃ cv, e = .returned cv ∧ VR (Bl w') w' v cv ∧ Below w.heap.size w w' := by
  obtain ⟨fn, c, hf, hb, hn, _, _, _⟩ := hcode.out
  have hv' : VRs (Im none' w) w args cargs.toList := hv.mono fun b hb => ⟨⟨hb, rfl⟩, rfl⟩
  have := h w cargs (rel_none w) hv'
  have hrun : (callFunc f cargs).run P w = .ok (.enter f cargs) w := by
    have hn' : ¬ fn.name = "runtime.NumGoroutine" := by simpa using hn
    unfold callFunc
    simp [hf, hn', hb]
  rw [hrun] at this
  refine Calls.mono this fun e w' => ?_
  rintro ⟨cv, rfl, v', σ', ⟨rfl, rfl⟩, hr, hs, hvr⟩
  exact ⟨cv, rfl, hvr.mono fun b hb => ⟨hb.1, rfl⟩, hs.os, hs.tape, hs.output, hs.size, fun k hk => (hs.im k hk rfl).2⟩
end Go.Ab
