import Derived.Test.YtigedaepbilokaaNatC
namespace Go.Proofs.Ytigedaepbilokaa.Nat
open Go Go.Ab Go.Ab.Nn
set_option linter.unusedVariables false
set_option maxRecDepth 8000
variable {gl : Nat → Option (List AV)} {σ : Own}

theorem trim_nil : ACalls P gl F_nat_trim [.w (.slice none 0 0)] σ (fun v σ' => v = .w (.slice none 0 0) ∧ σ' = σ) := by
  refine C_nat_trim.calls hm ?_
  refine ⟨fun m env σ' => σ' = σ ∧ env = [(0, .w (.slice none 0 0)), (3, .w (.int .i64 0))], Wk.here ⟨0, rfl, rfl⟩, ?_⟩
  rintro m env σ' ⟨rfl, rfl⟩
  refine ⟨(fun h => by cases h), fun _ => ?_⟩
  refine ⟨(fun h => by cases h), fun _ => ?_⟩
  exact ⟨rfl, rfl, rfl, rfl, Ret.here ⟨rfl, rfl⟩⟩
theorem trim_ff : ACalls P gl F_nat_trim [.ff [] 0] σ (fun v σ' => v = .ff [] 0 ∧ σ' = σ) := by
  refine C_nat_trim.calls hm ?_
  refine ⟨fun m env σ' => σ' = σ ∧ env = [(0, .ff [] 0), (3, .w (.int .i64 0))], Wk.here ⟨0, rfl, rfl⟩, ?_⟩
  rintro m env σ' ⟨rfl, rfl⟩
  refine ⟨(fun h => by cases h), fun _ => ?_⟩
  refine ⟨(fun h => by cases h), fun _ => ?_⟩
  exact ⟨0, 0, rfl, rfl, by omega, by omega, rfl, Ret.here ⟨rfl, rfl⟩⟩

theorem owns_strip' {b : Nat} {l : List Nat} {n : Nat} (hb : σ b = none) (hw : W l) (hn : l.length ≤ n) : Owns σ (strip l) (.w (.slice (some ⟨b, 0, none⟩) (strip l).length (strip l).length)) (upd σ b ⟨l.map u, n⟩) :=
  .inr (.inr ⟨b, _, _, hb, rfl, Nat.le_refl _, by show _ ≤ n; have := strip_len hw; omega, by rw [← List.map_take, take_strip hw], rfl⟩)

/-- one limb of a difference -/
theorem sub_digit {x y bo : Nat} (hx : x < 18446744073709551616) (hy : y < 18446744073709551616) (hb : bo ≤ 1) :
    ∃ s z k : Nat, s < 18446744073709551616 ∧ z < 18446744073709551616 ∧ k ≤ 1 ∧ z + y + bo = x + 18446744073709551616 * k ∧ ((bo : Int) + y) % 18446744073709551616 = s ∧ ((x : Int) - s) % 18446744073709551616 = z ∧
      k = (if (s : Int) < y then 1 else 0) + (if (x : Int) < s then 1 else 0) := by
  refine ⟨(bo + y) % 18446744073709551616, (((x : Int) - ((bo + y) % 18446744073709551616 : Nat)) % 18446744073709551616).toNat, (if x < y + bo then 1 else 0), by omega, by omega, by split <;> omega, ?_, by omega, by omega, ?_⟩
  · split <;> omega
  · split <;> split <;> split <;> omega

theorem sub_spec (a b : List Nat) (wa : W a) (wb : W b) (ha : a.length < 1099511627775) (hb : b.length ≤ a.length) (hle : val b ≤ val a) : ACalls P gl F_nat_sub [nat a, nat b] σ (Owns σ (limbs (val a - val b))) := by
  refine C_nat_sub.calls hm ?_
  refine CallVC.here (clone_fresh a (by omega)) ?_
  rintro v σ' (⟨rfl, rfl, rfl⟩ | ⟨rfl, rfl, rfl⟩ | ⟨g, c, cc, hg, rfl, hc, hcc, rfl⟩)
  · refine ⟨fun m env σ'' => σ'' = σ' ∧ env = [(1, nat b), (5, .w (.slice none 0 0)), (6, .w (.int .u64 0)), (12, .w (.int .i64 0)), (13, .w (.int .i64 0))], Wk.here ⟨0, rfl, rfl⟩, ?_⟩
    rintro m env σ'' ⟨rfl, rfl⟩
    refine ⟨(fun h => by cases h), fun _ => ?_⟩
    refine CallVC.here trim_nil ?_
    rintro v σ' ⟨rfl, rfl⟩
    exact Ret.here (.inl ⟨by simp [val, limbs_zero], rfl, rfl⟩)
  · refine ⟨fun m env σ'' => σ'' = σ' ∧ env = [(1, nat b), (5, .ff [] 0), (6, .w (.int .u64 0)), (12, .w (.int .i64 0)), (13, .w (.int .i64 0))], Wk.here ⟨0, rfl, rfl⟩, ?_⟩
    rintro m env σ'' ⟨rfl, rfl⟩
    refine ⟨(fun h => by cases h), fun _ => ?_⟩
    refine CallVC.here trim_ff ?_
    rintro v σ' ⟨rfl, rfl⟩
    exact Ret.here (.inr (.inl ⟨by simp [val, limbs_zero], rfl, rfl⟩))
  refine ⟨fun m env σ' => ∃ i z bo, m = a.length - i ∧ i ≤ a.length ∧ z.length = a.length ∧ W z ∧ bo ≤ 1 ∧ val (z.take i) + val (b.take i) = val (a.take i) + 18446744073709551616 ^ i * bo ∧ z.drop i = a.drop i ∧ σ' = upd σ g ⟨z.map u, cc⟩ ∧
    env = [(1, nat b), (5, .w (.slice (some ⟨g, 0, none⟩) a.length c)), (6, u bo), (12, .w (.int .i64 a.length)), (13, .w (.int .i64 i))], Wk.here ⟨a.length, 0, a, 0, rfl, by omega, rfl, wa, by omega, by simp [val], rfl, rfl, rfl⟩, ?_⟩
  rintro m env σ' ⟨i, z, bo, rfl, hi, hz, hw, hbo, hv, hd, rfl, rfl⟩
  refine ⟨fun h => ?_, fun h => ?_⟩
  · have h : i < a.length := by have := of_decide_eq_true h; omega
    have hzi : z.getD i 0 = a.getD i 0 := by
      have := congrArg List.head? hd
      rw [List.head?_drop, List.head?_drop] at this
      rw [List.getD_eq_getElem?_getD, List.getD_eq_getElem?_getD, this]
    obtain ⟨s, t, k, hs, ht, hk, hsum, hse, hte, hkk⟩ := sub_digit (getD_lt hw i) (getD_lt wb i) hbo
    have hv' : val ((z.set i t).take (i + 1)) + val (b.take (i + 1)) = val (a.take (i + 1)) + 18446744073709551616 ^ (i + 1) * k := by
      rw [val_take_set (by omega), val_take_succ b, val_take_succ a, Nat.pow_succ, ← hzi]
      exact sub_step hv hsum
    have hσ : upd (upd σ g ⟨z.map u, cc⟩) g ⟨(z.map u).take (0 + i * 1) ++ [u t] ++ (z.map u).drop (0 + i * 1 + 1), cc⟩ = upd σ g ⟨(z.set i t).map u, cc⟩ := by rw [upd_upd, set1 _ (by omega)]
    have hlen : 0 + i * 1 + 1 ≤ (z.map u).length := by rw [List.length_map]; omega
    have hd' : (z.set i t).drop (i + 1) = a.drop (i + 1) := by
      rw [List.drop_set_of_lt (by omega), ← List.drop_drop, ← List.drop_drop, hd]
    have hy2 : ¬ i < b.length → 0 = (if (s : Int) < b.getD i 0 then 1 else 0) ∧ (bo : Int) = s := fun h2 => by
      have hy0 : b.getD i 0 = 0 := by rw [List.getD_eq_getElem?_getD, List.getElem?_eq_none (by omega)]; rfl
      rw [hy0] at hse ⊢
      rw [if_neg (show ¬ (s : Int) < ((0 : Nat) : Int) by omega)]
      omega
    refine have key : ∀ (k1 : Nat) (s' : Int), k1 = (if (s : Int) < b.getD i 0 then 1 else 0) → s' = s → vc (cx P gl) S_nat_sub_j1 _ [(1, nat b), (5, .w (.slice (some ⟨g, 0, none⟩) a.length c)), (6, u k1), (7, .w (.int .i64 i)), (8, .w (.int .u64 s')), (12, .w (.int .i64 a.length)), (13, .w (.int .i64 i))] _ := ?_
      ⟨fun h2 => have h2 : i < b.length := (by have := of_decide_eq_true h2; omega)
        ⟨i, rfl, h2, _, hd1 0 h2, s, (by rw [wu]; exact hse), i, rfl, h2, _, hd1 0 h2, fun h3 => Wk.here (key 1 _ (by rw [if_pos (of_decide_eq_true h3)]) rfl), fun h3 => Wk.here (key 0 _ (by rw [if_neg (of_decide_eq_false h3)]) rfl)⟩,
        fun h2 => Wk.here (key 0 _ (hy2 (by have := of_decide_eq_false h2; omega)).1 (hy2 (by have := of_decide_eq_false h2; omega)).2)⟩
    rintro k1 _ hk1 rfl
    rw [← hk1] at hkk
    refine ⟨i, rfl, by show i < a.length; omega, _, upd_same _ _ _, _, hd0 0 (by omega), ?_⟩
    refine have key : ∀ (k' : Nat), k' = k → vc (cx P gl) S_nat_sub_j2 _ [(1, nat b), (5, .w (.slice (some ⟨g, 0, none⟩) a.length c)), (6, u k'), (7, .w (.int .i64 i)), (8, .w (.int .u64 s)), (12, .w (.int .i64 a.length)), (13, .w (.int .i64 i))] _ := ?_
      ⟨fun h3 => ⟨(k1 + 1 : Nat), (by rw [wu]; have := hk; omega), Wk.here (key _ (by rw [hkk, if_pos (of_decide_eq_true h3)]))⟩, fun h3 => Wk.here (key _ (by rw [hkk, if_neg (of_decide_eq_false h3)]; rfl))⟩
    rintro _ rfl
    exact ⟨i, rfl, by show i < a.length; omega, _, upd_same _ _ _, _, hd0 0 (by omega), t, by rw [wu]; exact hte, i, rfl, by show i < a.length; omega, _, upd_same _ _ _, hlen, _, rfl, (i + 1 : Nat), by rw [wi] <;> omega,
      Wk.here ⟨a.length - (i + 1), by omega, i + 1, z.set i t, _, rfl, by omega, by rw [List.length_set]; exact hz, W_set hw _ _ ht, hk, hv', hd', hσ, rfl⟩⟩
  · have h : ¬ i < a.length := by have := of_decide_eq_false h; omega
    obtain rfl : i = a.length := by omega
    have hbl : b.take a.length = b := List.take_of_length_le hb
    rw [List.take_of_length_le (by omega), hbl, List.take_length] at hv
    have hlt : val z < 18446744073709551616 ^ a.length := by rw [← hz]; exact val_lt hw
    obtain rfl : bo = 0 := by
      rcases Nat.lt_or_ge 0 bo with h0 | h0
      · obtain rfl : bo = 1 := by omega
        omega
      · omega
    have hval : strip z = limbs (val a - val b) := by
      unfold strip; congr 1; omega
    have ht := trim_own (gl := gl) (σ := upd σ g ⟨z.map u, cc⟩) (b := g) (l := z) (c := c) (upd_same _ _ _) rfl (by omega) (by omega) hw
    rw [hz] at ht
    refine CallVC.here ht ?_
    rintro v σ' ⟨rfl, rfl⟩
    refine Ret.here ?_
    have := owns_strip' (σ := σ) (b := g) (n := cc) hg hw (by omega)
    rw [hval] at this ⊢
    exact this
end Go.Proofs.Ytigedaepbilokaa.Nat
