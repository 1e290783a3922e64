import Derived.Test.YtigedaepbilokaaNatR
namespace Go.Proofs.Ytigedaepbilokaa.Nat
open Go Go.Ab Go.Ab.Nn
set_option linter.unusedVariables false
set_option maxRecDepth 8000
variable {gl : Nat → Option (List AV)} {σ : Own}

theorem own_nat {σ σ' : Own} {b c cc : Nat} {l : List Nat} (hd : Del σ σ') (hb : σ b = some ⟨l.map u, cc⟩) (hn : σ' b = none) (hc : l.length ≤ c) : Sub gl σ σ' (.w (.slice (some ⟨b, 0, none⟩) l.length c)) (nat l) := by
  refine .own_fs hd hb hn (k := l.length) ?_ hc
  show Subs gl σ σ' (((l.map u).drop 0).take l.length) (l.map u)
  rw [List.drop_zero, List.take_of_length_le (by simp)]
  exact .refl hd _

theorem stu2 {σ : Own} {h b K i q : Nat} {z : List Nat} {X : Ob} (hne : h ≠ b) (hi : i < z.length) : upd (upd (upd σ h ⟨z.map u, K⟩) b X) h ⟨(z.map u).take (0 + i * 1) ++ [u q] ++ (z.map u).drop (0 + i * 1 + 1), K⟩ = upd (upd σ h ⟨(z.set i q).map u, K⟩) b X := by
  rw [upd_two hne, set1 _ hi]
theorem del_two {σ : Own} {h b : Nat} (hh : σ h = none) (hb : σ b = none) (x y : Ob) : Del (upd (upd σ h x) b y) σ := fun k => by
  by_cases e : k = b
  · subst e; exact .inr (.inl hb)
  · rw [upd_ne _ e]; exact del_upd x hh k

theorem div_spec (m n : Nat) (hn : 0 < n) (h1 : (limbs m).length < 274877906944) (h2n : (limbs n).length < 274877906944) : ACalls P gl F_nat_div [num m, num n] σ (fun v σ' => v = .tup [num (m / n), num (m % n)] ∧ σ' = σ) := by
  by_cases hlt : m < n
  · have hbig : (limbs n).length < 1099511627775 := by omega
    · refine C_nat_div.calls hm ?_
      refine CallVC.here (cmp_spec m n (by omega) (by omega)) ?_
      rintro v σ' ⟨rfl, rfl⟩
      refine ⟨fun _ => ?_, fun h => absurd (c3_lt0.2 hlt) (of_decide_eq_false h)⟩
      refine CallVC.here (clone_spec _ (by omega)).frozen ?_
      rintro v σ' ⟨rfl, rfl⟩
      refine Ret.sub .refl (.tup (ys := [.fs [] 0, nat (limbs m)]) ⟨.nil_fs, .refl .refl _, trivial⟩) ⟨?_, rfl⟩
      rw [Nat.div_eq_of_lt hlt, Nat.mod_eq_of_lt hlt]
      unfold num; rw [limbs_zero]; rfl
  have hlen := len_mono (show n ≤ m by omega)
  have hm0 : 0 < m := by omega
  refine C_nat_div.calls hm ?_
  refine CallVC.here (cmp_spec m n (by omega) (by omega)) ?_
  rintro v σ' ⟨rfl, rfl⟩
  refine ⟨fun h => absurd (c3_lt0.1 (of_decide_eq_true h)) hlt, fun _ => ?_⟩
  have hn0 : limbs n ≠ [] := fun e => by rw [limbs_eq_nil] at e; omega
  have hnl : 0 < (limbs n).length := List.length_pos_iff.2 hn0
  refine ⟨fun h => ?_, fun h => ?_⟩
  · have h : (limbs n).length = 1 := by
      have : ((limbs n).length : Int) = 1 := by simpa using h
      omega
    have hnB : n < 18446744073709551616 := by have := len_lt_pow n; rw [h, Nat.pow_one] at this; exact this
    have hget : (limbs n).getD 0 0 = n := by
      rw [limbs_pos (by omega), Nat.mod_eq_of_lt hnB]; rfl
    have hD := fun σ => divWord_spec (gl := gl) (σ := σ) (limbs m) n (W_limbs m) (by omega) hn hnB
    simp only [val_limbs] at hD
    have hD2 : ∀ σ, ACalls P gl F_nat_divWord [nat (limbs m), u n] σ (fun v σ' => v = .tup [num (m / n), u (m % n)] ∧ σ' = σ) := fun σ => (hD σ).sub fun v σ' h => by
      obtain ⟨w, rfl, ho⟩ := h
      exact ⟨_, σ, ho.del, .tup (ys := [num (m / n), u (m % n)]) ⟨ho.sub, .refl ho.del _, trivial⟩, rfl, rfl⟩
    refine ⟨0, rfl, by omega, _, hd1 0 (by omega), ?_⟩
    rw [hget]
    refine CallVC.here (hD2 _) ?_
    rintro v σ' ⟨rfl, rfl⟩
    refine ⟨_, rfl, _, rfl, CallVC.here (from_spec (m % n) (Nat.lt_trans (Nat.mod_lt _ hn) hnB)) ?_⟩
    rintro v σ' ⟨rfl, rfl⟩
    exact Ret.here ⟨rfl, rfl⟩
  obtain ⟨t, ht⟩ : ∃ t, (limbs n).length = t + 1 := ⟨(limbs n).length - 1, by omega⟩
  have htl := getD_lt (W_limbs n) t
  have ht0 : (limbs n).getD t 0 ≠ 0 := by
    have := mayB_limbs n
    rw [mayB_last (by omega), show (limbs n).length - 1 = t by omega] at this
    simpa using this
  refine ⟨t, by rw [wi] <;> omega, t, rfl, by omega, _, hd1 0 (by omega), CallVC.here (LZ_spec _ htl) ?_⟩
  rintro v σ' ⟨rfl, rfl⟩
  obtain ⟨s, hs⟩ : ∃ s, s = 64 - bl ((limbs n).getD t 0) := ⟨_, rfl⟩
  rw [← hs]
  have hbl : 0 < bl ((limbs n).getD t 0) := bl_lt.2 (by rw [Nat.pow_zero]; omega)
  have hs64 : s < 64 := by omega
  have hp0 : 0 < 2 ^ s := Nat.pow_pos (by decide)
  have hL := fun σ => (left_spec (gl := gl) (σ := σ) (limbs n) s (W_limbs n) (by omega) (by omega)).frozen
  have hX := fun σ => left_spec (gl := gl) (σ := σ) (limbs m) s (W_limbs m) (by omega) (by omega)
  simp only [val_limbs] at hL hX
  have hYl : (limbs (n * 2 ^ s)).length ≤ (limbs m).length + 1 := by
    have h2 := len_mul n (2 ^ s)
    have h3 : (limbs (2 ^ s)).length ≤ 1 := limbs_len_le (by rw [Nat.pow_one]; exact Nat.pow_lt_pow_right (a := 2) (by decide) (show s < 64 from hs64))
    omega
  have hXl : (limbs (m * 2 ^ s)).length ≤ (limbs m).length + 1 := by
    have h2 := len_mul m (2 ^ s)
    have h3 : (limbs (2 ^ s)).length ≤ 1 := limbs_len_le (by rw [Nat.pow_one]; exact Nat.pow_lt_pow_right (a := 2) (by decide) (show s < 64 from hs64))
    omega
  have hMY : n * 2 ^ s ≤ m * 2 ^ s := Nat.mul_le_mul_right _ (by omega)
  have hYX := len_mono hMY
  have hY0 : 0 < n * 2 ^ s := Nat.mul_pos hn hp0
  have hMn : limbs (m * 2 ^ s) ≠ [] := fun e => by
    rw [limbs_eq_nil] at e
    have := Nat.mul_pos hm0 hp0
    omega
  have hq : m * 2 ^ s / (n * 2 ^ s) = m / n := Nat.mul_div_mul_right _ _ hp0
  have hr : m * 2 ^ s % (n * 2 ^ s) / 2 ^ s = m % n := by rw [Nat.mul_mod_mul_right, Nat.mul_div_cancel _ hp0]
  generalize hM : m * 2 ^ s = M at *
  generalize hN : n * 2 ^ s = N at *
  refine CallVC.here (hL _) ?_
  rintro v σ' ⟨rfl, rfl⟩
  refine CallVC.here (hX _) ?_
  intro v σ1 hv
  have hg := Go.Ab.Owns.grown hv hMn
  refine ⟨by show 1 ≤ 1; omega, grow hg (by omega) (W_limbs M) _ ?_⟩
  intro b c ob hb hc hcap hx σ2 hd2
  have hlen0 : (limbs M ++ [0]).length = (limbs M).length + 1 := by simp
  refine ⟨fun k env σ'' => ∃ (l : List Nat) (b c : Nat) (ob : Ob), k = (limbs m).length + 1 - l.length ∧ l.length ≤ (limbs m).length + 2 ∧ (limbs N).length + 1 ≤ l.length ∧ W l ∧ val l = M ∧ val l < 18446744073709551616 ^ (l.length - 1) ∧ σ' b = none ∧ l.length ≤ c ∧ c ≤ ob.cap ∧ ob.xs.take l.length = l.map u ∧ σ'' = upd σ' b ob ∧
    env = [(0, num m), (8, .w (.int .i64 s)), (9, num N), (10, .w (.slice (some ⟨b, 0, none⟩) l.length c))],
    Wk.sub hd2 (.refl hd2 _) ⟨_, limbs M ++ [0], b, c, ob, rfl, by omega, by omega, W_append.2 ⟨W_limbs M, W_cons.2 ⟨by decide, W_nil⟩⟩, by rw [val_snoc_zero, val_limbs], by rw [val_snoc_zero, hlen0, val_limbs]; exact len_lt_pow M, hb, by omega, hcap, by rw [hlen0]; exact hx, rfl, by rw [hlen0]; rfl⟩, ?_⟩
  clear hv hg hx hc hcap hb hd2
  rintro k env σ'' ⟨l, b, c, ob, rfl, hl1, hl2, hw, hvl, hvp, hb, hc, hcap, hx, rfl, rfl⟩
  refine ⟨fun h => ?_, fun h => ?_⟩
  · have h : l.length ≤ (limbs m).length := by have := of_decide_eq_true h; omega
    refine ⟨by show 1 ≤ 1; omega, grow ⟨b, c, ob, hb, rfl, hc, hcap, hx, rfl⟩ (by omega) hw _ ?_⟩
    intro b c ob hb hc hcap hx σ2 hd2
    have hlen0 : (l ++ [0]).length = l.length + 1 := by simp
    exact Wk.sub hd2 (.refl hd2 _) ⟨_, by omega, l ++ [0], b, c, ob, rfl, by omega, by omega, W_append.2 ⟨hw, W_cons.2 ⟨by decide, W_nil⟩⟩, by rw [val_snoc_zero]; exact hvl, by rw [val_snoc_zero, hlen0]; exact Nat.lt_of_lt_of_le hvp (Nat.pow_le_pow_right (by decide) (by omega)), hb, by omega, hcap, by rw [hlen0]; exact hx, rfl, by rw [hlen0]⟩
  · clear h
    obtain ⟨K, hK⟩ : ∃ K, K = l.length - (limbs N).length := ⟨_, rfl⟩
    have hK0 : 0 < K := by omega
    refine ⟨(K : Nat), by rw [wi] <;> omega, K, K, rfl, rfl, by omega, by omega, by omega, fun h hh => ?_⟩
    have hne : b ≠ h := fun e => by subst e; rw [upd_same] at hh; cases hh
    have hh2 : σ' h = none := by rwa [upd_ne _ (fun e => hne e.symm)] at hh
    refine ⟨((K : Int) - 1), by rw [wi] <;> omega, ?_⟩
    have hNp : 18446744073709551616 ^ ((limbs N).length - 1) ≤ N := pow_le_of_len (by
      have : limbs N ≠ [] := fun e => by rw [limbs_eq_nil] at e; omega
      have := List.length_pos_iff.2 this
      omega)
    have hstart : val l < 18446744073709551616 ^ K * N := by
      refine Nat.lt_of_lt_of_le hvp (Nat.le_trans ?_ (Nat.mul_le_mul_left _ hNp))
      rw [← Nat.pow_add]
      exact Nat.pow_le_pow_right (by decide) (by omega)
    have hd2 : Del (upd (upd σ' b ob) h ⟨(List.range (K * 1)).map fun i => cAV ([Value.int .u64 0][i % [Value.int IntKind.u64 0].length]!), K * 1⟩) (upd (upd σ' h ⟨(List.replicate K 0).map u, K⟩) b ⟨l.map u, ob.cap⟩) := by
      rw [mk_u, upd_comm hne, ← hx]; exact del_take _ _ _
    refine ⟨fun k env σ'' => ∃ x z : List Nat, k ≤ K ∧ x.length = l.length ∧ W x ∧ z.length = K ∧ W z ∧ val x + 18446744073709551616 ^ k * (val (z.drop k) * N) = M ∧ val x < 18446744073709551616 ^ k * N ∧ σ'' = upd (upd σ' h ⟨z.map u, K⟩) b ⟨x.map u, ob.cap⟩ ∧
      env = [(4, .w (.slice (some ⟨h, 0, none⟩) K K)), (8, .w (.int .i64 s)), (9, num N), (10, .w (.slice (some ⟨b, 0, none⟩) l.length c)), (11, .w (.int .i64 ((k : Int) - 1)))],
      Wk.sub hd2 (.refl hd2 _) ⟨K, l, List.replicate K 0, by omega, rfl, hw, by simp, W_replicate _, by rw [List.drop_eq_nil_of_le (by simp)]; simp [val, hvl], hstart, rfl, rfl⟩, ?_⟩
    clear hd2 hstart hvp hvl hw
    rintro k env σ'' ⟨x, z, hk, hxl, hw, hzl, hzw, hv, hvl, rfl, rfl⟩
    refine ⟨fun h2 => ?_, fun h2 => ?_⟩
    · have h2 : (k : Int) - 1 ≥ 0 := of_decide_eq_true h2
      obtain ⟨i, rfl⟩ : ∃ i, k = i + 1 := ⟨k - 1, by omega⟩
      have hup : val (x.drop (i + (limbs N).length + 1)) = 0 := by
        rw [val_drop hw, Nat.div_eq_of_lt]
        refine Nat.lt_of_lt_of_le hvl ?_
        rw [show i + (limbs N).length + 1 = i + 1 + (limbs N).length by omega, Nat.pow_add 18446744073709551616 (i + 1) (limbs N).length]
        exact Nat.mul_le_mul_left _ (Nat.le_of_lt (len_lt_pow N))
      have hS := step_spec (gl := gl) (σ := upd σ' h ⟨z.map u, K⟩) (g := b) (cap := ob.cap) (i := i) (m := i + (limbs N).length + 1 - i) (c := x) (b := limbs N) (W_limbs N) (by
        have : limbs N ≠ [] := fun e => by rw [limbs_eq_nil] at e; omega
        exact List.length_pos_iff.2 this) (by omega) (by omega) (by omega) hw hup (by rw [val_limbs]; exact hvl)
      rw [val_limbs] at hS
      have eT : val x / (18446744073709551616 ^ i * N) < 18446744073709551616 := by
        refine (Nat.div_lt_iff_lt_mul (Nat.mul_pos (Nat.pow_pos (by decide)) hY0)).2 ?_
        rw [Nat.pow_succ, Nat.mul_right_comm, Nat.mul_comm] at hvl
        exact hvl
      refine ⟨(i + (limbs N).length : Nat), by rw [wi] <;> omega, (i + (limbs N).length + 1 : Nat), by rw [wi] <;> omega, (i + (limbs N).length : Nat), by rw [wi] <;> omega, (i + (limbs N).length + 1 : Nat), by rw [wi] <;> omega,
        i, i + (limbs N).length + 1, i + (limbs N).length + 1, by omega, rfl, rfl, by omega, by omega, by omega, i, fun _ => by omega, fun h => by omega, CallVC.here hS ?_⟩
      rintro v σ'' ⟨x', rfl, hx1, hx2, hx3, rfl⟩
      refine ⟨i, by omega, by show i < K; omega, _, (upd_ne _ (fun e => hne e.symm)).trans (upd_same _ _ _), by rw [List.length_map]; omega, _, stu2 (fun e => hne e.symm) (by omega), (i : Int) - 1, by rw [wi] <;> omega,
        Wk.here ⟨i, by omega, x', z.set i (val x / (18446744073709551616 ^ i * N)), by omega, by omega, hx2, by rw [List.length_set]; exact hzl, W_set hzw _ _ eT, ?_, ?_, rfl, rfl⟩⟩
      · rw [drop_set_self (by omega)]
        rw [Nat.pow_succ] at hv
        exact div_step rfl hv (by rw [hx3]; exact Nat.div_add_mod _ _)
      · rw [hx3]; exact Nat.mod_lt _ (Nat.mul_pos (Nat.pow_pos (by decide)) hY0)
    · have h2 : ¬ (k : Int) - 1 ≥ 0 := of_decide_eq_false h2
      obtain rfl : k = 0 := by omega
      rw [Nat.pow_zero, Nat.one_mul, List.drop_zero] at hv
      rw [Nat.pow_zero, Nat.one_mul] at hvl
      have hqz : val z = M / N := by rw [← hv, Nat.mul_comm, Nat.add_mul_div_left _ _ hY0, Nat.div_eq_of_lt hvl, Nat.zero_add]
      have hrx : val x = M % N := by rw [← hv, Nat.mul_comm, Nat.add_mul_mod_self_left, Nat.mod_eq_of_lt hvl]
      have hd3 := del_two (σ := σ') hh2 hb ⟨z.map u, K⟩ ⟨x.map u, ob.cap⟩
      have hs4 : Sub gl (upd (upd σ' h ⟨z.map u, K⟩) b ⟨x.map u, ob.cap⟩) σ' (.w (.slice (some ⟨h, 0, none⟩) K K)) (nat z) := by
        have := own_nat (gl := gl) (c := K) (l := z) hd3 ((upd_ne _ (fun e => hne e.symm)).trans (upd_same _ _ _)) hh2 (by omega)
        rwa [hzl] at this
      have hs10 : Sub gl (upd (upd σ' h ⟨z.map u, K⟩) b ⟨x.map u, ob.cap⟩) σ' (.w (.slice (some ⟨b, 0, none⟩) l.length c)) (nat x) := by
        have := own_nat (gl := gl) (c := c) (l := x) hd3 (upd_same _ _ _) hb (by omega)
        rwa [hxl] at this
      refine Wk.sub (env' := [(4, nat z), (8, .w (.int .i64 s)), (9, num N), (10, nat x)]) hd3 ⟨hs4, .refl hd3 _, .refl hd3 _, hs10, trivial⟩ ?_
      have hvt : val (x.take (limbs N).length) = M % N := by rw [val_take_lt (Nat.lt_trans hvl (len_lt_pow N)), hrx]
      have hcut : AV.ff (((x.map u).drop (0 * 1)).take (((limbs N).length - 0) * 1)) ((limbs N).length - 0) = .ff ((x.take (limbs N).length).map u) (x.take (limbs N).length).length := by
        rw [List.length_take, Nat.min_eq_left (by omega), List.map_take]; simp
      refine CallQ.here (trim_fr z hzw (by omega)) ⟨0, (limbs N).length, rfl, rfl, by omega, by show _ ≤ x.length; omega, rfl, ?_⟩
      refine CallQ.sub (args' := [nat (x.take (limbs N).length)]) ⟨by rw [hcut]; exact .ff_fs .refl _ _, trivial⟩ (trim_fr _ (W_take hw _) (by rw [List.length_take]; omega)) ?_
      have hrl := strip_len (W_take hw (limbs N).length)
      rw [List.length_take] at hrl
      refine CallQ.sub (args' := [nat (strip (x.take (limbs N).length)), .w (.int .i64 s)]) ⟨.ff_fs .refl _ _, .refl .refl _, trivial⟩ (right_spec (strip (x.take (limbs N).length)) s (W_limbs _) (by omega) (by omega)).frozen ?_
      refine Ret.sub .refl (.tup (ys := [nat (strip z), nat (limbs (val (strip (x.take (limbs N).length)) / 2 ^ s))]) ⟨.ff_fs .refl _ _, .refl .refl _, trivial⟩) ⟨?_, rfl⟩
      rw [strip_val, hvt, hr]
      unfold strip
      rw [hqz, hq]; rfl
end Go.Proofs.Ytigedaepbilokaa.Nat
