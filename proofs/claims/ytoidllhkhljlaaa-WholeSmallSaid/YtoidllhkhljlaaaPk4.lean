import Derived.Test.YtoidllhkhljlaaaProg
import Derived.ChangeArms
import Derived.Deep.Slices
import Derived.SizedLaws
import Derived.OpenShut
import Derived.Below
import Derived.Test.YtoidllhkhljlaaaPk3
/-! Lists that grow by append. -/
namespace Go.Ab
set_option linter.unusedVariables false
variable {P : Program} {gl : Nat → Option (List AV)} {σ σ' : Own}

/-- one block gives way to another -/
theorem del_swap' {σ : Own} {a b : Nat} {x : Ob} (ha : σ a = none) (hb : upd σ a x b = none) (y : Ob) : Del (upd (upd σ a x) b y) (upd σ b y) := fun k => by
  by_cases e : k = b
  · subst e; rw [upd_same, upd_same]; exact .inl rfl
  · rw [upd_ne _ e, upd_ne _ e]
    by_cases e2 : k = a
    · subst e2; exact .inr (.inl ha)
    · rw [upd_ne _ e2]; exact .inl rfl

/-- These cells, in new memory of the call's own (or no memory: there are none). -/
def OwnsA (σ : Own) (sz : Nat) (xs : List AV) (n : Nat) (v : AV) (σ' : Own) : Prop :=
  (n = 0 ∧ xs = [] ∧ v = .w (.slice none 0 0) ∧ σ' = σ) ∨
  ∃ b c ob, σ b = none ∧ v = .w (.slice (some ⟨b, 0, none⟩) n c) ∧ n ≤ c ∧ c * sz ≤ ob.cap ∧ xs.length = n * sz ∧ ob.xs.take (n * sz) = xs ∧ σ' = upd σ b ob

theorem OwnsA.nil (σ : Own) (sz : Nat) : OwnsA σ sz [] 0 (.w (.slice none 0 0)) σ := .inl ⟨rfl, rfl, rfl, rfl⟩
theorem OwnsA.len {sz n : Nat} {xs : List AV} {v : AV} (h : OwnsA σ sz xs n v σ') : xs.length = n * sz := by
  rcases h with ⟨rfl, rfl, _⟩ | ⟨b, c, ob, _, _, _, _, h, _⟩
  · simp
  · exact h
theorem OwnsA.lenV {sz n : Nat} {xs : List AV} {v : AV} (h : OwnsA σ sz xs n v σ') {K : AV → Prop} (k : K (.w (.int .i64 n))) : lenV v K := by
  rcases h with ⟨rfl, rfl, rfl, _⟩ | ⟨b, c, ob, _, rfl, _⟩ <;> exact k
theorem OwnsA.del {sz n : Nat} {xs : List AV} {v : AV} (h : OwnsA σ sz xs n v σ') : Del σ' σ := by
  rcases h with ⟨rfl, rfl, rfl, rfl⟩ | ⟨b, c, ob, hb, rfl, _, _, _, _, rfl⟩
  · exact .refl
  · exact del_upd ob hb
theorem OwnsA.sub {sz n : Nat} {xs : List AV} {v : AV} (h : OwnsA σ sz xs n v σ') : Sub gl σ' σ v (.fs xs n) := by
  rcases h with ⟨rfl, rfl, rfl, rfl⟩ | ⟨b, c, ob, hb, rfl, hc, _, hl, hx, rfl⟩
  · exact .nil_fs
  · refine .own_fs (del_upd ob hb) (upd_same _ _ _) hb (k := n * sz) ?_ hc
    rw [List.drop_zero, hx]
    exact .refl (del_upd ob hb) _
theorem OwnsA.app {sz bytes n k : Nat} {xs ys : List AV} {v : AV} {K : AV → Own → Prop} (h : OwnsA σ sz xs n v σ') (hy : ys.length = k * sz) (h1 : ys.all oneCell = true) (hb : n + k ≤ 9223372036854775807) (hb2 : (n + k) * 2 * bytes ≤ 281474976710656)
    (kk : ∀ v' σ2 σ3, OwnsA σ sz (xs ++ ys) (n + k) v' σ3 → Del σ2 σ3 → K v' σ2) : appR sz bytes v ys k σ' K := by
  rcases h with ⟨rfl, rfl, rfl, rfl⟩ | ⟨b, c, ob, hb', rfl, hc, hcap, hl, hx, rfl⟩
  · refine ⟨rfl, rfl, fun h0 => ?_, fun h0 => ⟨by omega, by rwa [Nat.zero_add] at hb2, fun b c' hb hc => ?_⟩⟩
    · subst h0
      have : ys = [] := List.eq_nil_of_length_eq_zero (by omega)
      subst this
      exact kk _ _ _ (.nil _ _) .refl
    · exact kk _ _ _ (.inr ⟨b, c', _, hb, by rw [Nat.zero_add], by omega, by show c' * sz ≤ c' * sz; omega, by simp [hy], by rw [Nat.zero_add, List.nil_append]; exact List.take_of_length_le (by rw [hy]; exact Nat.le_refl _), rfl⟩) .refl
  · have hxl : n * sz ≤ ob.xs.length := by
      have := congrArg List.length hx
      rw [List.length_take, hl] at this
      omega
    have e0 : 0 + n * sz = n * sz := Nat.zero_add _
    refine ⟨ob, upd_same _ _ _, by omega, by omega, hc, hb, hb2, h1, fun h => ?_, fun h b' c' hb2' hc' => ?_⟩
    · refine kk _ _ _ (.inr ⟨b, c, ⟨(ob.xs.take (0 + n * sz)) ++ ys ++ ob.xs.drop (0 + (n + k) * sz), ob.cap⟩, hb', rfl, h, hcap, by rw [List.length_append, hl, hy, Nat.add_mul], ?_, rfl⟩) (by rw [upd_upd]; exact .refl)
      show ((ob.xs.take (0 + n * sz)) ++ ys ++ ob.xs.drop (0 + (n + k) * sz)).take ((n + k) * sz) = _
      rw [e0, hx, List.take_left' (by rw [List.length_append, hl, hy, Nat.add_mul])]
    · have hne : b' ≠ b := fun e => by subst e; rw [upd_same] at hb2'; cases hb2'
      have hb3 : σ b' = none := by rwa [upd_ne _ hne] at hb2'
      refine kk _ _ _ (.inr ⟨b', c', ⟨(ob.xs.drop 0).take (n * sz) ++ ys, c' * sz⟩, hb3, rfl, hc', Nat.le_refl _, by rw [List.length_append, hl, hy, Nat.add_mul], ?_, rfl⟩) (del_swap' hb' hb2' _)
      show ((ob.xs.drop 0).take (n * sz) ++ ys).take ((n + k) * sz) = _
      rw [List.drop_zero, hx, List.take_of_length_le (by rw [List.length_append, hl, hy, Nat.add_mul]; exact Nat.le_refl _)]
/-- the memory behind it changes in a block that it does not use -/
theorem OwnsA.base {σ : Own} {h : Nat} {X X' : Ob} {sz n : Nat} {xs : List AV} {v : AV} (k : OwnsA (upd σ h X) sz xs n v σ') : OwnsA (upd σ h X') sz xs n v (upd σ' h X') ∧ σ' h = some X := by
  rcases k with ⟨rfl, rfl, rfl, rfl⟩ | ⟨b, c, ob, hb, rfl, hc, hcap, hl, hx, rfl⟩
  · exact ⟨.inl ⟨rfl, rfl, rfl, by rw [upd_upd]⟩, upd_same _ _ _⟩
  · have hne : b ≠ h := fun e => by subst e; rw [upd_same] at hb; cases hb
    refine ⟨.inr ⟨b, c, ob, by rw [upd_ne _ hne] at hb ⊢; exact hb, rfl, hc, hcap, hl, hx, ?_⟩, by rw [upd_ne _ (fun e => hne e.symm), upd_same]⟩
    funext j
    unfold upd
    by_cases e1 : j = h
    · subst e1; simp; intro e; exact absurd e (fun e => hne e.symm)
    · by_cases e2 : j = b
      · subst e2; simp [e1]
      · simp [e1, e2]
end Go.Ab
namespace Go.Ab
set_option linter.unusedVariables false
def u32 (x : Nat) : AV := .w (.int .u32 x)
/-- digits of 32 bits that nobody writes -/
def hh (l : List Nat) : AV := .fs (l.map u32) l.length
def hn (n : Nat) : AV := hh (Hn.limbs n)
theorem w32 {z : Int} : IntKind.u32.wrap z = z % 4294967296 := by simp [IntKind.wrap, IntKind.bits, IntKind.signed]
theorem c32 (x : Nat) : IntKind.u32.wrap (x : Int) = (x % 4294967296 : Nat) := by rw [w32]; omega
theorem c32' {x : Nat} (h : x < 4294967296) : IntKind.u32.wrap (x : Int) = (x : Nat) := by rw [w32]; omega
theorem c64 {x : Nat} (h : x < 18446744073709551616) : IntKind.u64.wrap (x : Int) = (x : Nat) := by rw [wu]; omega
theorem ci64 {x : Nat} (h : x < 9223372036854775808) : IntKind.i64.wrap (x : Int) = (x : Nat) := by rw [wi] <;> omega
end Go.Ab
namespace Go.Ab.Hn
theorem getD_lt' {l : List Nat} (h : W l) (i : Nat) : l.getD i 0 < 4294967296 := getD_lt h i
theorem join_take {l : List Nat} {k : Nat} (h : 2 * k < l.length) : join (l.take (2 * (k + 1))) = join (l.take (2 * k)) ++ [l.getD (2 * k) 0 + 4294967296 * l.getD (2 * k + 1) 0] := by
  have hl : (l.take (2 * k)).length % 2 = 0 := by rw [List.length_take, Nat.min_eq_left (by omega)]; omega
  by_cases h2 : 2 * k + 1 < l.length
  · rw [show 2 * (k + 1) = 2 * k + 1 + 1 by omega, take_succ_getD h2, take_succ_getD (show 2 * k < l.length by omega), List.append_assoc, join_append _ _ hl]; rfl
  · rw [show l.take (2 * (k + 1)) = l.take (2 * k + 1) by rw [List.take_of_length_le (by omega), List.take_of_length_le (by omega)], take_succ_getD (show 2 * k < l.length by omega), join_append _ _ hl]
    rw [show l.getD (2 * k + 1) 0 = 0 by rw [List.getD_eq_getElem?_getD, List.getElem?_eq_none (by omega)]; rfl]; rfl
end Go.Ab.Hn
namespace Go.Proofs.Ytoidllhkhljlaaa.Nat
open Go Go.Ab Go.Ab.Nn
set_option linter.unusedVariables false
set_option maxRecDepth 8000
variable {gl : Nat → Option (List AV)} {σ : Own}

theorem cut_spec (l : List Nat) (hw : Hn.W l) (hl : l.length < 1099511627776) : ACalls P gl F_gaugeref1_cut [hh l] σ (fun v σ' => v = hn (Hn.val l) ∧ σ' = σ) := by
  refine C_gaugeref1_cut.calls hm ?_
  refine ⟨fun m env σ' => σ' = σ ∧ env = [(0, hh l), (3, .w (.int .i64 m))] ∧ m ≤ l.length ∧ Hn.strip (l.take m) = Hn.strip l, Wk.here ⟨l.length, rfl, rfl, Nat.le_refl _, by rw [List.take_length]⟩, ?_⟩
  rintro m env σ' ⟨rfl, rfl, hml, hs⟩
  refine ⟨fun h1 => ?_, fun h1 => ?_⟩
  · have h1 : (m : Int) > 0 := of_decide_eq_true h1
    obtain ⟨m, rfl⟩ : ∃ k, m = k + 1 := ⟨m - 1, by omega⟩
    refine ⟨m, by rw [wi] <;> omega, m, rfl, by omega, _, hd1 0 (by omega), ?_⟩
    refine ⟨fun h2 => ?_, fun h2 => ?_⟩
    · refine ⟨m, by rw [wi] <;> omega, Wk.here ⟨m, by omega, rfl, rfl, by omega, ?_⟩⟩
      rw [← hs, Hn.strip_take_succ (by omega) (by simpa using h2)]
    · refine ⟨0, m + 1, rfl, rfl, by omega, by omega, Ret.here ⟨?_, rfl⟩⟩
      have : Hn.strip l = l.take (m + 1) := by rw [← hs]; exact Hn.strip_top hw (by omega) (by simpa using h2)
      have h3 : (Hn.strip l).length = m + 1 := by rw [this, List.length_take]; omega
      show AV.fs (List.take ((m + 1 - 0) * 1) (List.drop (0 * 1) (l.map u32))) (m + 1 - 0) = .fs ((Hn.strip l).map u32) (Hn.strip l).length
      rw [h3, this, List.map_take]; simp
  · have h1 : ¬ (m : Int) > 0 := of_decide_eq_false h1
    obtain rfl : m = 0 := by omega
    refine ⟨(fun h => by cases h), fun _ => ?_⟩
    refine ⟨0, 0, rfl, rfl, by omega, by omega, Ret.here ⟨?_, rfl⟩⟩
    show _ = AV.fs ((Hn.strip l).map u32) (Hn.strip l).length
    rw [← hs]; simp [Hn.strip, Hn.val, Hn.limbs_zero]

theorem halves_spec (l : List Nat) (hw : W l) (hl : l.length < 274877906944) : ACalls P gl F_gaugeref1_halves [nat l] σ (fun v σ' => v = hn (val l) ∧ σ' = σ) := by
  refine C_gaugeref1_halves.calls hm ?_
  refine ⟨fun m env σ' => ∃ i v, m = l.length - i ∧ i ≤ l.length ∧ OwnsA σ 1 ((Hn.halves (l.take i)).map u32) (2 * i) v σ' ∧ env = [(0, nat l), (3, v), (4, .w (.int .i64 i))], Wk.here ⟨l.length, 0, _, rfl, by omega, .nil _ _, rfl⟩, ?_⟩
  rintro m env σ' ⟨i, v, rfl, hi, ho, rfl⟩
  refine ⟨fun h => ?_, fun h => ?_⟩
  · have h : i < l.length := by have := of_decide_eq_true h; omega
    have hx := getD_lt hw i
    refine ⟨i, rfl, h, _, hd1 0 h, _, c32 _, i, rfl, h, _, hd1 0 h, by decide, _, wshr _ 32, _, c32' (by omega), by show 2 * 1 ≤ 2; omega, ho.app (k := 2) rfl rfl (by omega) (by omega) fun v' σ2 σ3 ho' hd => ?_⟩
    refine ⟨(i + 1 : Nat), by rw [wi] <;> omega, Wk.sub hd (.refl hd _) ⟨l.length - (i + 1), by omega, i + 1, v', rfl, by omega, ?_, rfl⟩⟩
    rw [Hn.halves_take l h, List.map_append]; exact ho'
  · have h : ¬ i < l.length := by have := of_decide_eq_false h; omega
    obtain rfl : i = l.length := by omega
    rw [List.take_length] at ho
    have hc := cut_spec (gl := gl) (σ := σ) (Hn.halves l) (Hn.halves_W hw) (by rw [Hn.halves_len]; omega)
    rw [Hn.halves_val] at hc
    have e : hh (Hn.halves l) = .fs ((Hn.halves l).map u32) (2 * l.length) := by unfold hh; rw [Hn.halves_len]
    refine CallVC.sub ho.del (args' := [hh (Hn.halves l)]) ⟨by rw [e]; exact ho.sub, trivial⟩ hc ?_
    rintro v σ' ⟨rfl, rfl⟩
    exact Ret.here ⟨rfl, rfl⟩
theorem halves_num (n : Nat) (hl : (limbs n).length < 274877906944) : ACalls P gl F_gaugeref1_halves [num n] σ (fun v σ' => v = hn n ∧ σ' = σ) := by
  have := halves_spec (gl := gl) (σ := σ) (limbs n) (W_limbs n) hl
  rwa [val_limbs] at this

theorem whole_spec (l : List Nat) (hw : Hn.W l) (hl : l.length < 1099511627776) : ACalls P gl F_gaugeref1_whole [hh l] σ (fun v σ' => v = num (Hn.val l) ∧ σ' = σ) := by
  refine C_gaugeref1_whole.calls hm ?_
  refine ⟨fun m env σ' => ∃ k v, m = l.length + 1 - 2 * k ∧ 2 * k ≤ l.length + 1 ∧ OwnsA σ 1 ((Hn.join (l.take (2 * k))).map u) k v σ' ∧ env = [(0, hh l), (3, v), (4, .w (.int .i64 (2 * k : Nat)))], Wk.here ⟨_, 0, _, rfl, by omega, .nil _ _, rfl⟩, ?_⟩
  rintro m env σ' ⟨k, v, rfl, hk, ho, rfl⟩
  refine ⟨fun h => ?_, fun h => ?_⟩
  · have h : 2 * k < l.length := by have := of_decide_eq_true h; omega
    have hx := Hn.getD_lt hw (2 * k)
    have hy := Hn.getD_lt hw (2 * k + 1)
    refine ⟨2 * k, rfl, h, _, hd1 0 h, _, c64 (by omega), (2 * k + 1 : Nat), by rw [wi] <;> omega, ?_⟩
    refine have key : ∀ x : Nat, x = l.getD (2 * k) 0 + 4294967296 * l.getD (2 * k + 1) 0 → vc (cx P gl) S_gaugeref1_whole_j1 _ [(0, hh l), (3, v), (4, .w (.int .i64 (2 * k : Nat))), (5, u x)] _ := ?_;
      ⟨fun h2 => have h2 : 2 * k + 1 < l.length := (by have := of_decide_eq_true h2; omega)
        ⟨(2 * k + 1 : Nat), (by rw [wi] <;> omega), 2 * k + 1, rfl, h2, _, hd1 0 h2, _, c64 (by omega), by decide, _, rfl, _, ?_, Wk.here (key (l.getD (2 * k + 1) 0 * 2 ^ 32 + l.getD (2 * k) 0) (by omega))⟩,
       fun h2 => have h2 : ¬ 2 * k + 1 < l.length := (by have := of_decide_eq_false h2; omega)
        Wk.here (key (l.getD (2 * k) 0) (by rw [show l.getD (2 * k + 1) 0 = 0 by rw [List.getD_eq_getElem?_getD, List.getElem?_eq_none (by omega)]; rfl]; omega))⟩
    · rintro x rfl
      refine ⟨by show 1 * 1 ≤ 1; omega, ho.app (k := 1) rfl rfl (by omega) (by omega) fun v' σ2 σ3 ho' hd => ?_⟩
      refine ⟨(2 * (k + 1) : Nat), by rw [wi] <;> omega, Wk.sub hd (.refl hd _) ⟨l.length + 1 - 2 * (k + 1), by omega, k + 1, v', rfl, by omega, ?_, rfl⟩⟩
      rw [Hn.join_take h, List.map_append]; exact ho'
    · have e : IntKind.u64.wrap (((l.getD (2 * k + 1) 0 : Nat) : Int) * 2 ^ (min ((32 : Nat) : Int).toNat IntKind.u64.bits)) = (l.getD (2 * k + 1) 0 * 2 ^ 32 : Nat) := by rw [wshlv _ (by omega), Nat.mod_eq_of_lt (by omega)]
      refine Eq.trans ?_ (wor' (a := l.getD (2 * k + 1) 0) (b := l.getD (2 * k) 0) (s := 32) (by omega) (by omega) (by omega))
      rw [← e]; rfl
  · have h : ¬ 2 * k < l.length := by have := of_decide_eq_false h; omega
    rw [List.take_of_length_le (by omega)] at ho
    have hc := Trim_spec (gl := gl) (σ := σ) (Hn.join l) (Hn.join_W hw) (by rw [Hn.join_len]; omega)
    rw [Hn.join_val] at hc
    have e : nat (Hn.join l) = .fs ((Hn.join l).map u) k := by unfold nat; rw [Hn.join_len, show (l.length + 1) / 2 = k by omega]
    refine CallVC.sub ho.del (args' := [nat (Hn.join l)]) ⟨by rw [e]; exact ho.sub, trivial⟩ hc ?_
    rintro v σ' ⟨rfl, rfl⟩
    exact Ret.here ⟨rfl, rfl⟩

theorem Of_spec (n : Nat) (hn : n < 18446744073709551616) : ACalls P gl F_gaugeref1_Of [.w (.int .u64 n)] σ (fun v σ' => v = num n ∧ σ' = σ) := by
  refine C_gaugeref1_Of.calls hm ?_
  have ht := Trim_spec (gl := gl) (σ := σ) [n] (W_cons.2 ⟨hn, W_nil⟩) (by simp)
  rw [show val [n] = n by simp [val]] at ht
  refine CallVC.sub .refl (args' := [nat [n]]) ⟨.ff_fs .refl _ _, trivial⟩ ht ?_
  rintro v σ' ⟨rfl, rfl⟩
  exact Ret.here ⟨rfl, rfl⟩

theorem rCmp_spec (m n : Nat) (h1 : (limbs m).length < 1099511627776) (h2 : (limbs n).length < 1099511627776) : ACalls P gl F_gaugeref1_Cmp [num m, num n] σ (fun v σ' => v = .w (.int .i64 (c3 m n)) ∧ σ' = σ) := by
  refine C_gaugeref1_Cmp.calls hm ?_
  refine ⟨fun h => ?_, fun h => ?_⟩
  · have h : (limbs m).length ≠ (limbs n).length := by
      intro e; simp [e] at h
    refine ⟨fun h => ?_, fun h => ?_⟩
    · have h : ((limbs m).length : Int) < (limbs n).length := of_decide_eq_true h
      exact Ret.here ⟨by rw [c3_lt (lt_of_len (by omega))], rfl⟩
    · have h : ¬ ((limbs m).length : Int) < (limbs n).length := of_decide_eq_false h
      exact Ret.here ⟨by rw [c3_gt (lt_of_len (by omega))], rfl⟩
  · have h : (limbs m).length = (limbs n).length := by
      have : ((limbs m).length : Int) = (limbs n).length := by simpa using h
      omega
    refine ⟨(limbs m).length - 1, by rw [wi] <;> omega, ?_⟩
    refine ⟨fun k env σ' => σ' = σ ∧ env = [(0, num m), (1, num n), (5, .w (.int .i64 ((k : Int) - 1)))] ∧ k ≤ (limbs m).length ∧ (limbs m).drop k = (limbs n).drop k, Wk.here ⟨(limbs m).length, rfl, rfl, Nat.le_refl _, by rw [List.drop_length, h, List.drop_length]⟩, ?_⟩
    rintro k env σ' ⟨rfl, rfl, hk, hd⟩
    have hvm : m = val ((limbs m).take k) + 18446744073709551616 ^ k * val ((limbs m).drop k) := by
      have := val_append ((limbs m).take k) ((limbs m).drop k)
      rwa [List.take_append_drop, val_limbs, List.length_take, Nat.min_eq_left hk] at this
    have hvn : n = val ((limbs n).take k) + 18446744073709551616 ^ k * val ((limbs n).drop k) := by
      have := val_append ((limbs n).take k) ((limbs n).drop k)
      rwa [List.take_append_drop, val_limbs, List.length_take, Nat.min_eq_left (by omega)] at this
    refine ⟨fun h => ?_, fun h => ?_⟩
    · have h : ((k : Int) - 1) ≥ 0 := of_decide_eq_true h
      obtain ⟨k, rfl⟩ : ∃ j, k = j + 1 := ⟨k - 1, by omega⟩
      rw [val_take_succ] at hvm hvn
      have w1 := W_getD_take (W_limbs m) k
      have w2 := W_getD_take (W_limbs n) k
      refine ⟨k, by omega, by show k < _; omega, _, hd1 0 (by omega), k, by omega, by show k < _; omega, _, hd1 0 (by omega), ?_⟩
      refine ⟨fun h => ?_, fun h => ?_⟩
      · have h : (((limbs m).getD k 0 : Nat) : Int) < (limbs n).getD k 0 := of_decide_eq_true h
        refine Ret.here ⟨?_, rfl⟩
        rw [c3_lt]
        have := lt_of_top (V' := val ((limbs n).take k)) w1 (x := (limbs m).getD k 0) (y := (limbs n).getD k 0) (by omega)
        rw [hd] at hvm
        omega
      · have h : ¬ (((limbs m).getD k 0 : Nat) : Int) < (limbs n).getD k 0 := of_decide_eq_false h
        refine ⟨k, by omega, by show k < _; omega, _, hd1 0 (by omega), k, by omega, by show k < _; omega, _, hd1 0 (by omega), ?_⟩
        refine ⟨fun h' => ?_, fun h' => ?_⟩
        · have h' : (((limbs m).getD k 0 : Nat) : Int) > (limbs n).getD k 0 := of_decide_eq_true h'
          refine Ret.here ⟨?_, rfl⟩
          rw [c3_gt]
          have := lt_of_top (V' := val ((limbs m).take k)) w2 (x := (limbs n).getD k 0) (y := (limbs m).getD k 0) (by omega)
          rw [hd] at hvm
          omega
        · have h' : ¬ (((limbs m).getD k 0 : Nat) : Int) > (limbs n).getD k 0 := of_decide_eq_false h'
          refine ⟨(k : Int) - 1, by rw [wi] <;> omega, Wk.here ⟨k, by omega, rfl, rfl, by omega, ?_⟩⟩
          have e : (limbs m).getD k 0 = (limbs n).getD k 0 := by omega
          rw [List.drop_eq_getElem_cons (by omega), hd]
          rw [List.drop_eq_getElem_cons (show k < (limbs n).length by omega)]
          congr 1
          simpa [List.getD_eq_getElem?_getD, show k < (limbs m).length by omega, show k < (limbs n).length by omega] using e
    · have h : ¬ ((k : Int) - 1) ≥ 0 := of_decide_eq_false h
      obtain rfl : k = 0 := by omega
      refine Ret.here ⟨?_, rfl⟩
      have : m = n := limbs_inj (by simpa using hd)
      rw [this, c3_self]

theorem bl_half {x : Nat} (h : x ≠ 0) : bl x = bl (x / 2 ^ 1) + 1 := by
  by_cases h1 : x = 1
  · subst h1; rfl
  · exact bl_shift (j := 1) (by omega)
theorem rLen_spec (n : Nat) (h : (limbs n).length < 274877906944) : ACalls P gl F_gaugeref1_Len [num n] σ (fun v σ' => v = .w (.int .i64 (bl n : Nat)) ∧ σ' = σ) := by
  refine C_gaugeref1_Len.calls hm ?_
  refine ⟨fun h1 => ?_, fun h1 => ?_⟩
  · have h1 : n = 0 := by
      have : (limbs n).length = 0 := by simpa using h1
      exact limbs_eq_nil.1 (List.eq_nil_of_length_eq_zero this)
    subst h1
    exact Ret.here ⟨rfl, rfl⟩
  · have h1 : (limbs n).length ≠ 0 := by
      intro e; rw [e] at h1; simp at h1
    have ht := getD_lt (W_limbs n) ((limbs n).length - 1)
    have h0 : (limbs n).getD ((limbs n).length - 1) 0 ≠ 0 := by
      have := mayB_limbs n
      rw [mayB_last h1] at this
      simpa using this
    have hv := len_val (W_limbs n) (i := (limbs n).length - 1) (by omega) h0
    rw [show (limbs n).length - 1 + 1 = (limbs n).length by omega, List.take_length, val_limbs] at hv
    have hb : bl ((limbs n).getD ((limbs n).length - 1) 0) ≤ 64 := bl_le.2 ht
    refine ⟨((limbs n).length - 1 : Nat), by rw [wi] <;> omega, (64 * ((limbs n).length - 1) : Nat), by rw [wi] <;> omega, ((limbs n).length - 1 : Nat), by rw [wi] <;> omega, (limbs n).length - 1, rfl, by omega, _, hd1 0 (by omega), ?_⟩
    refine ⟨fun m env σ' => ∃ x k : Nat, m = x ∧ k + bl x = bl n ∧ bl n < 35184372088832 ∧ σ' = σ ∧ env = [(3, .w (.int .i64 k)), (4, u x)], Wk.here ⟨_, _, 64 * ((limbs n).length - 1), rfl, by omega, by omega, rfl, rfl⟩, ?_⟩
    rintro m env σ' ⟨x, k, rfl, hk, hbn, rfl, rfl⟩
    refine ⟨fun h2 => ?_, fun h2 => ?_⟩
    · have h2 : m ≠ 0 := by intro e; subst e; simp at h2
      have hh := bl_half h2
      refine ⟨(k + 1 : Nat), by rw [wi] <;> omega, by decide, _, wshr m 1, Wk.here ⟨m / 2 ^ 1, by omega, m / 2 ^ 1, k + 1, rfl, by omega, hbn, rfl, rfl⟩⟩
    · have h2 : m = 0 := by simpa using h2
      subst h2
      rw [bl_zero] at hk
      exact Ret.here ⟨by rw [← hk]; rfl, rfl⟩
end Go.Proofs.Ytoidllhkhljlaaa.Nat
namespace Go.Ab
set_option linter.unusedVariables false
variable {gl : Nat → Option (List AV)} {σ σ' σ'' : Own}
theorem Del.trans (h : Del σ σ') (k : Del σ' σ'') : Del σ σ'' := fun b => by
  rcases k b with e | e | ⟨ob, j, e1, e2⟩
  · rw [e]; exact h b
  · exact .inr (.inl e)
  · rcases h b with f | f | ⟨ob', j', f1, f2⟩
    · exact .inr (.inr ⟨ob, j, by rw [← f, e1], e2⟩)
    · rw [f] at e1; cases e1
    · rw [f2] at e1; cases e1
      exact .inr (.inr ⟨ob', min j j', f1, by rw [e2, List.take_take]⟩)
theorem Sub.trans {v v' v'' : AV} (hd : Del σ σ') (h1 : Sub gl σ σ' v v') (h2 : Sub gl σ' σ'' v' v'') : Sub gl σ σ'' v v'' := fun w cv hr hv =>
  h2 w cv ((says_of hd (vs := []) (vs' := []) trivial w [] hr .nil).1) (h1 w cv hr hv)
theorem OwnsA.sub2 {sz n : Nat} {xs : List AV} {v : AV} (h : OwnsA σ sz xs n v σ') (hd : Del σ'' σ') : Sub gl σ'' σ v (.fs xs n) := Sub.trans hd (.refl hd _) h.sub
theorem stg {f : Nat → AV} {σ : Own} {b cap i z : Nat} {l : List Nat} (h : i < l.length) : upd (upd σ b ⟨l.map f, cap⟩) b ⟨(l.map f).take (0 + i * 1) ++ [f z] ++ (l.map f).drop (0 + i * 1 + 1), cap⟩ = upd σ b ⟨(l.set i z).map f, cap⟩ := by
  rw [upd_upd, set1 _ h]
theorem mk_u32 (n : Nat) : ({ xs := (List.range (n * 1)).map fun i => cAV ([Value.int .u32 0][i % [Value.int IntKind.u32 0].length]!), cap := n * 1 } : Ob) = ⟨(List.replicate n 0).map u32, n⟩ := by
  rw [Nat.mul_one, List.map_replicate]
  congr 1
  apply List.ext_getElem
  · simp
  · intro i h1 h2
    simp [Nat.mod_one, cAV, u32]
theorem own_hh {b c cc : Nat} {l : List Nat} (hd : Del σ σ') (hb : σ b = some ⟨l.map u32, cc⟩) (hn : σ' b = none) (hc : l.length ≤ c) : Sub gl σ σ' (.w (.slice (some ⟨b, 0, none⟩) l.length c)) (hh l) := by
  refine .own_fs hd hb hn (k := l.length) ?_ hc
  show Subs gl σ σ' (((l.map u32).drop 0).take l.length) (l.map u32)
  rw [List.drop_zero, List.take_of_length_le (by simp)]
  exact .refl hd _
theorem getD_ge {l : List Nat} {i : Nat} (h : ¬ i < l.length) : l.getD i 0 = 0 := by rw [List.getD_eq_getElem?_getD, List.getElem?_eq_none (by omega)]; rfl
end Go.Ab
namespace Go.Ab.Hn
theorem plus_step {V X Y P c x y : Nat} (h : V + P * c = X + Y) : V + P * ((c + x + y) % 4294967296) + P * 4294967296 * ((c + x + y) / 4294967296) = X + P * x + (Y + P * y) := by
  have h2 := congrArg (P * ·) (Nat.mod_add_div (c + x + y) 4294967296)
  simp only [Nat.mul_add, ← Nat.mul_assoc] at h2
  omega
theorem less_step {V A Bv P s c x y bo : Nat} (h : V + Bv = A + P * bo) (hs : s + y + bo = x + 4294967296 * c) : V + P * s + (Bv + P * y) = A + P * x + P * 4294967296 * c := by
  have h2 := congrArg (P * ·) hs
  simp only [Nat.mul_add, ← Nat.mul_assoc] at h2
  omega
theorem times_step {VS VZ V0 P Pi Bj r cy x y T t : Nat} (e : P = Pi * Bj) (h1 : VS + P * r = VZ + P * (t % 4294967296)) (h2 : VZ + P * cy = V0 + Pi * (x * T)) (ht : t = cy + r + x * y) : VS + P * 4294967296 * (t / 4294967296) = V0 + Pi * (x * (T + Bj * y)) := by
  have h3 := congrArg (P * ·) (Nat.mod_add_div t 4294967296)
  simp only [Nat.mul_add, ← Nat.mul_assoc] at h3
  have h5 : P * t = P * cy + P * r + P * (x * y) := by rw [ht, Nat.mul_add, Nat.mul_add]
  have h4 : Pi * (x * (Bj * y)) = P * (x * y) := by subst e; simp only [Nat.mul_left_comm, Nat.mul_comm]
  rw [Nat.mul_add x, Nat.mul_add Pi, h4]
  omega
theorem drop_set_self {l : List Nat} {j : Nat} (h : j < l.length) (d : Nat) : (l.set j d).drop j = d :: l.drop (j + 1) := by
  rw [List.drop_eq_getElem_cons (by rw [List.length_set]; exact h), List.getElem_set_self, List.drop_set_of_lt (by omega)]
theorem drop_getD {l : List Nat} {j : Nat} (h : j < l.length) : l.drop j = l.getD j 0 :: l.drop (j + 1) := by
  rw [List.drop_eq_getElem_cons h, List.getD_eq_getElem?_getD, List.getElem?_eq_getElem h]; rfl
theorem divw_step {Z A r x y d r' B : Nat} (h : Z * y + r = A) (hd : d * y + r' = r * B + x) : (d + B * Z) * y + r' = x + B * A := by
  rw [← h, Nat.add_mul, Nat.mul_add B, Nat.mul_assoc, Nat.mul_comm B r]
  omega
theorem len_le_of_le {a b : Nat} (h : a ≤ b) : (limbs a).length ≤ (limbs b).length := len_mono h
end Go.Ab.Hn
namespace Go.Proofs.Ytoidllhkhljlaaa.Nat
open Go Go.Ab Go.Ab.Nn
set_option linter.unusedVariables false
set_option maxRecDepth 8000
variable {gl : Nat → Option (List AV)} {σ : Own}

theorem whole_num (n : Nat) (hl : (Hn.limbs n).length < 1099511627776) : ACalls P gl F_gaugeref1_whole [hn n] σ (fun v σ' => v = num n ∧ σ' = σ) := by
  have := whole_spec (gl := gl) (σ := σ) (Hn.limbs n) (Hn.W_limbs n) hl
  rwa [Hn.val_limbs] at this

theorem rPlus_spec (a b : Nat) (ha : (limbs a).length < 68719476736) (hb : (limbs b).length < 68719476736) : ACalls P gl F_gaugeref1_Plus [num a, num b] σ (fun v σ' => v = num (a + b) ∧ σ' = σ) := by
  refine C_gaugeref1_Plus.calls hm ?_
  refine CallVC.here (halves_num a (by omega)) ?_
  rintro v σ' ⟨rfl, rfl⟩
  refine CallVC.here (halves_num b (by omega)) ?_
  rintro v σ' ⟨rfl, rfl⟩
  have la := Hn.limbs_len a
  have lb := Hn.limbs_len b
  refine ⟨fun m env σ'' => ∃ i l c v, m = max (Hn.limbs a).length (Hn.limbs b).length - i ∧ i ≤ max (Hn.limbs a).length (Hn.limbs b).length ∧ l.length = i ∧ Hn.W l ∧ c ≤ 1 ∧ Hn.val l + 4294967296 ^ i * c = Hn.val ((Hn.limbs a).take i) + Hn.val ((Hn.limbs b).take i) ∧ OwnsA σ' 1 (l.map u32) i v σ'' ∧ env = [(5, hn a), (6, hn b), (7, v), (8, u c), (9, .w (.int .i64 i))],
    Wk.here ⟨_, 0, [], 0, _, rfl, by omega, rfl, Hn.W_nil, by omega, by simp [Hn.val], .nil _ _, rfl⟩, ?_⟩
  rintro m env σ'' ⟨i, l, c, v, rfl, hi, hl, hw, hc, hv, ho, rfl⟩
  refine have key : ∀ t : Bool, (t = true ↔ (i < (Hn.limbs a).length ∨ i < (Hn.limbs b).length)) → vc (cx P gl) S_gaugeref1_Plus_j1 _ [(5, hn a), (6, hn b), (7, v), (8, u c), (9, .w (.int .i64 i)), (23, .w (.bool t))] _ := ?_;
    ⟨fun h1 => Wk.here (key _ ?_), fun h1 => Wk.here (key true ?_)⟩
  rotate_left
  · have h1 : ¬ (i : Int) < (Hn.limbs a).length := of_decide_eq_false h1
    rw [decide_eq_true_iff]; omega
  · have h1 : (i : Int) < (Hn.limbs a).length := of_decide_eq_true h1
    simp; omega
  intro t ht
  refine ⟨fun h => ?_, fun h => ?_⟩
  · have h := ht.1 h
    have hx := Hn.getD_lt (Hn.W_limbs a) i
    have hy := Hn.getD_lt (Hn.W_limbs b) i
    refine have key2 : ∀ c1 : Nat, c1 = c + (Hn.limbs a).getD i 0 → vc (cx P gl) S_gaugeref1_Plus_j2 _ [(5, hn a), (6, hn b), (7, v), (8, u c1), (9, .w (.int .i64 i))] _ := ?_;
      ⟨fun h2 => have h2 : i < (Hn.limbs a).length := (by have := of_decide_eq_true h2; omega)
        ⟨i, rfl, h2, _, hd1 0 h2, _, c64 (by omega), _, wadd' (by omega), Wk.here (key2 _ rfl)⟩,
       fun h2 => Wk.here (key2 c (by rw [getD_ge (by have := of_decide_eq_false h2; omega)]; omega))⟩
    rintro c1 rfl
    refine have key3 : ∀ c1 : Nat, c1 = c + (Hn.limbs a).getD i 0 + (Hn.limbs b).getD i 0 → vc (cx P gl) S_gaugeref1_Plus_j3 _ [(5, hn a), (6, hn b), (7, v), (8, u c1), (9, .w (.int .i64 i))] _ := ?_;
      ⟨fun h2 => have h2 : i < (Hn.limbs b).length := (by have := of_decide_eq_true h2; omega)
        ⟨i, rfl, h2, _, hd1 0 h2, _, c64 (by omega), _, wadd' (by omega), Wk.here (key3 _ rfl)⟩,
       fun h2 => Wk.here (key3 _ (by rw [getD_ge (l := Hn.limbs b) (by have := of_decide_eq_false h2; omega)]; omega))⟩
    rintro c1 rfl
    refine ⟨_, c32 _, by show 1 * 1 ≤ 1; omega, ho.app (k := 1) rfl rfl (by omega) (by omega) fun v' σ2 σ3 ho' hd => ?_⟩
    refine ⟨by decide, _, wshr _ 32, (i + 1 : Nat), by rw [wi] <;> omega, Wk.sub hd (.refl hd _) ⟨_, ?_, i + 1, l ++ [(c + (Hn.limbs a).getD i 0 + (Hn.limbs b).getD i 0) % 4294967296], (c + (Hn.limbs a).getD i 0 + (Hn.limbs b).getD i 0) / 2 ^ 32, v', rfl, by omega, by simp [hl], Hn.W_append.2 ⟨hw, Hn.W_cons.2 ⟨by omega, Hn.W_nil⟩⟩, by omega, ?_, by rw [List.map_append]; exact ho', rfl⟩⟩
    · omega
    · rw [Hn.val_snoc, hl, Hn.val_take_succ, Hn.val_take_succ, Nat.pow_succ]
      exact Hn.plus_step hv
  · have h : ¬ (i < (Hn.limbs a).length ∨ i < (Hn.limbs b).length) := fun e => by rw [ht.2 e] at h; cases h
    rw [List.take_of_length_le (by omega), List.take_of_length_le (by omega), Hn.val_limbs, Hn.val_limbs] at hv
    have hV : Hn.val (l ++ [c]) = a + b := by rw [Hn.val_snoc, hl, hv]
    refine ⟨_, c32' (by omega), by show 1 * 1 ≤ 1; omega, ho.app (k := 1) rfl rfl (by omega) (by omega) fun v' σ2 σ3 ho' hd => ?_⟩
    have hcut := cut_spec (gl := gl) (σ := σ') (l ++ [c]) (Hn.W_append.2 ⟨hw, Hn.W_cons.2 ⟨by omega, Hn.W_nil⟩⟩) (by simp; omega)
    rw [hV] at hcut
    refine CallVC.sub (hd.trans ho'.del) (args' := [hh (l ++ [c])]) ⟨?_, trivial⟩ hcut ?_
    · have e : hh (l ++ [c]) = .fs (l.map u32 ++ [u32 c]) (i + 1) := by unfold hh; rw [List.map_append, List.length_append, hl]; rfl
      rw [e]; exact ho'.sub2 hd
    rintro v σ' ⟨rfl, rfl⟩
    have h3 := Hn.limbs_len (a + b)
    have h4 := len_add a b
    refine CallVC.here (whole_num (a + b) (by omega)) ?_
    rintro v σ' ⟨rfl, rfl⟩
    exact Ret.here ⟨rfl, rfl⟩

theorem wshri (t : Int) : t.fdiv (2 ^ (min ((32 : Int)).toNat IntKind.i64.bits)) = t / 4294967296 := by
  rw [show ((2 : Int) ^ (min ((32 : Int)).toNat IntKind.i64.bits)) = 4294967296 from rfl, Int.fdiv_eq_ediv_of_nonneg _ (by decide)]

theorem rLess_spec (a b : Nat) (hle : b ≤ a) (ha : (limbs a).length < 68719476736) : ACalls P gl F_gaugeref1_Less [num a, num b] σ (fun v σ' => v = num (a - b) ∧ σ' = σ) := by
  have hmb := len_mono hle
  have hmb2 := Hn.len_mono hle
  refine C_gaugeref1_Less.calls hm ?_
  refine CallVC.here (halves_num a (by omega)) ?_
  rintro v σ' ⟨rfl, rfl⟩
  refine CallVC.here (halves_num b (by omega)) ?_
  rintro v σ' ⟨rfl, rfl⟩
  have la := Hn.limbs_len a
  refine ⟨fun m env σ'' => ∃ i l bo v, m = (Hn.limbs a).length - i ∧ i ≤ (Hn.limbs a).length ∧ l.length = i ∧ Hn.W l ∧ bo ≤ 1 ∧ Hn.val l + Hn.val ((Hn.limbs b).take i) = Hn.val ((Hn.limbs a).take i) + 4294967296 ^ i * bo ∧ OwnsA σ' 1 (l.map u32) i v σ'' ∧ env = [(5, hn a), (6, hn b), (7, v), (8, .w (.int .i64 (-(bo : Int)))), (9, .w (.int .i64 i))],
    Wk.here ⟨_, 0, [], 0, _, rfl, by omega, rfl, Hn.W_nil, by omega, by simp [Hn.val], .nil _ _, rfl⟩, ?_⟩
  rintro m env σ'' ⟨i, l, bo, v, rfl, hi, hl, hw, hc, hv, ho, rfl⟩
  refine ⟨fun h => ?_, fun h => ?_⟩
  · have h : i < (Hn.limbs a).length := by have := of_decide_eq_true h; omega
    have hx := Hn.getD_lt (Hn.W_limbs a) i
    have hy := Hn.getD_lt (Hn.W_limbs b) i
    refine ⟨i, rfl, h, _, hd1 0 h, _, ci64 (by omega), -(bo : Int) + ((Hn.limbs a).getD i 0 : Nat), by rw [wi] <;> omega, ?_⟩
    refine have key : ∀ t : Int, t = -(bo : Int) + ((Hn.limbs a).getD i 0 : Nat) - ((Hn.limbs b).getD i 0 : Nat) → vc (cx P gl) S_gaugeref1_Less_j1 _ [(5, hn a), (6, hn b), (7, v), (8, .w (.int .i64 t)), (9, .w (.int .i64 i))] _ := ?_;
      ⟨fun h2 => have h2 : i < (Hn.limbs b).length := (by have := of_decide_eq_true h2; omega)
        ⟨i, rfl, h2, _, hd1 0 h2, _, ci64 (by omega), _, (by rw [wi] <;> omega), Wk.here (key _ rfl)⟩,
       fun h2 => Wk.here (key _ (by rw [getD_ge (l := Hn.limbs b) (by have := of_decide_eq_false h2; omega)]; omega))⟩
    intro t ht
    obtain ⟨s, c, hs, hcc, hsum, e1, e2⟩ : ∃ s c : Nat, s < 4294967296 ∧ c ≤ 1 ∧ s + (Hn.limbs b).getD i 0 + bo = (Hn.limbs a).getD i 0 + 4294967296 * c ∧ t % 18446744073709551616 % 4294967296 = s ∧ t / 4294967296 = -(c : Int) := by
      by_cases hlt : (Hn.limbs a).getD i 0 < (Hn.limbs b).getD i 0 + bo
      · exact ⟨(Hn.limbs a).getD i 0 + 4294967296 - ((Hn.limbs b).getD i 0 + bo), 1, by omega, by omega, by omega, by omega, by omega⟩
      · exact ⟨(Hn.limbs a).getD i 0 - ((Hn.limbs b).getD i 0 + bo), 0, by omega, by omega, by omega, by omega, by omega⟩
    refine ⟨_, wu, (s : Nat), by rw [w32, e1], by show 1 * 1 ≤ 1; omega, ho.app (k := 1) rfl rfl (by omega) (by omega) fun v' σ2 σ3 ho' hd => ?_⟩
    refine ⟨by decide, -(c : Int), (wshri t).trans e2, (i + 1 : Nat), by rw [wi] <;> omega, Wk.sub hd (.refl hd _) ⟨_, ?_, i + 1, l ++ [s], c, v', rfl, by omega, by simp [hl], Hn.W_append.2 ⟨hw, Hn.W_cons.2 ⟨hs, Hn.W_nil⟩⟩, hcc, ?_, by rw [List.map_append]; exact ho', rfl⟩⟩
    · omega
    · rw [Hn.val_snoc, hl, Hn.val_take_succ, Hn.val_take_succ, Nat.pow_succ]
      exact Hn.less_step hv hsum
  · have h : ¬ i < (Hn.limbs a).length := by have := of_decide_eq_false h; omega
    rw [List.take_of_length_le (l := Hn.limbs b) (by omega), List.take_of_length_le (by omega), Hn.val_limbs, Hn.val_limbs] at hv
    have hlt := Hn.val_lt hw
    rw [hl] at hlt
    have hb0 : bo = 0 := by
      rcases Nat.eq_zero_or_pos bo with h0 | h0
      · exact h0
      · exfalso
        have := Nat.mul_le_mul_left (4294967296 ^ i) h0
        omega
    subst hb0
    have hV : Hn.val l = a - b := by rw [Nat.mul_zero] at hv; omega
    have hcut := cut_spec (gl := gl) (σ := σ') l hw (by omega)
    rw [hV] at hcut
    refine CallVC.sub ho.del (args' := [hh l]) ⟨?_, trivial⟩ hcut ?_
    · have e : hh l = .fs (l.map u32) i := by unfold hh; rw [hl]
      rw [e]; exact ho.sub
    rintro v σ' ⟨rfl, rfl⟩
    have h3 := Hn.len_mono (Nat.sub_le a b)
    refine CallVC.here (whole_num (a - b) (by omega)) ?_
    rintro v σ' ⟨rfl, rfl⟩
    exact Ret.here ⟨rfl, rfl⟩

theorem short_spec (l : List Nat) (d : Nat) (hw : Hn.W l) (hl : l.length < 274877906944) (hd0 : 0 < d) (hd : d < 4294967296) : ACalls P gl F_gaugeref1_short [hh l, u32 d] σ (fun v σ' => v = .tup [hn (Hn.val l / d), u32 (Hn.val l % d)] ∧ σ' = σ) := by
  refine C_gaugeref1_short.calls hm ?_
  refine ⟨l.length, l.length, rfl, rfl, by omega, by omega, by omega, fun g hg => ?_⟩
  refine ⟨(l.length : Int) - 1, by rw [wi] <;> omega, ?_⟩
  refine ⟨fun k env σ' => ∃ z r, k ≤ l.length ∧ z.length = l.length ∧ Hn.W z ∧ r < d ∧ Hn.val (z.drop k) * d + r = Hn.val (l.drop k) ∧ σ' = upd σ g ⟨z.map u32, l.length⟩ ∧
    env = [(0, hh l), (1, u32 d), (6, .w (.slice (some ⟨g, 0, none⟩) l.length l.length)), (7, u r), (8, .w (.int .i64 ((k : Int) - 1)))], Wk.here ⟨l.length, List.replicate l.length 0, 0, by omega, by simp, Hn.W_replicate _, hd0, by simp [Hn.val], by rw [← mk_u32], rfl⟩, ?_⟩
  rintro k env σ' ⟨z, r, hk, hz, hwz, hr, hv, rfl, rfl⟩
  refine ⟨fun h => ?_, fun h => ?_⟩
  · have h : (k : Int) - 1 ≥ 0 := of_decide_eq_true h
    obtain ⟨j, rfl⟩ : ∃ j, k = j + 1 := ⟨k - 1, by omega⟩
    have hx := Hn.getD_lt hw j
    have hq : (r * 2 ^ 32 + l.getD j 0) / d < 4294967296 := by
      refine (Nat.div_lt_iff_lt_mul hd0).2 ?_
      have := Nat.mul_le_mul_right 4294967296 (show r + 1 ≤ d from hr)
      rw [Nat.add_mul, Nat.one_mul, Nat.mul_comm d] at this
      omega
    have hdm := Nat.div_add_mod (r * 2 ^ 32 + l.getD j 0) d
    rw [Nat.mul_comm] at hdm
    have e : IntKind.u64.wrap (((r : Nat) : Int) * 2 ^ (min ((32 : Nat) : Int).toNat IntKind.u64.bits)) = (r * 2 ^ 32 : Nat) := by rw [wshlv _ (by omega), Nat.mod_eq_of_lt (by omega)]
    have hne : ((d : Nat) : Int) ≠ 0 := by omega
    refine ⟨by decide, (r * 2 ^ 32 : Nat), e, j, by omega, by show j < l.length; omega, _, hd1 0 (by omega), _, c64 (by omega), _, wor (by omega) (by omega) (by omega), ?_⟩
    refine ⟨_, c64 (by omega), hne, _, wquo (by omega), _, c32' hq, j, by omega, by show j < l.length; omega, _, upd_same _ _ _, by rw [List.length_map]; omega, _, stg (by omega), ?_⟩
    refine ⟨_, c64 (by omega), hne, _, wrem _ _, (j : Int) - 1, by rw [wi] <;> omega,
      Wk.here ⟨j, by omega, z.set j ((r * 2 ^ 32 + l.getD j 0) / d), (r * 2 ^ 32 + l.getD j 0) % d, by omega, by rw [List.length_set]; exact hz, Hn.W_set hwz _ _ hq, Nat.mod_lt _ hd0, ?_, rfl, rfl⟩⟩
    rw [Hn.drop_set_self (by omega), Hn.drop_getD (l := l) (by omega)]
    exact Hn.divw_step hv hdm
  · have h : ¬ (k : Int) - 1 ≥ 0 := of_decide_eq_false h
    obtain rfl : k = 0 := by omega
    rw [List.drop_zero, List.drop_zero] at hv
    have hqv : Hn.val z = Hn.val l / d := by rw [← hv, Nat.mul_comm, Nat.mul_add_div hd0, Nat.div_eq_of_lt hr, Nat.add_zero]
    have hrr : Hn.val l % d = r := by rw [← hv, Nat.mul_comm, Nat.mul_add_mod, Nat.mod_eq_of_lt hr]
    have hcut := cut_spec (gl := gl) (σ := σ) z hwz (by omega)
    rw [hqv] at hcut
    have hs := own_hh (gl := gl) (c := l.length) (l := z) (del_upd ⟨z.map u32, l.length⟩ hg) (upd_same _ _ _) hg (by omega)
    rw [hz] at hs
    refine CallVC.sub (del_upd _ hg) (args' := [hh z]) ⟨hs, trivial⟩ hcut ?_
    rintro v σ' ⟨rfl, rfl⟩
    exact ⟨_, c32' (by omega), Ret.here ⟨by rw [hrr]; rfl, rfl⟩⟩
end Go.Proofs.Ytoidllhkhljlaaa.Nat
namespace Go.Ab.Nn
theorem bl_len (a : Nat) : bl a ≤ 64 * (limbs a).length := by
  rw [bl_le]
  have := len_lt_pow a
  rwa [show 18446744073709551616 = 2 ^ 64 from rfl, ← Nat.pow_mul] at this
theorem pow_split (n : Nat) : 2 ^ n = 18446744073709551616 ^ (n / 64) * 2 ^ (n % 64) := by
  rw [show 18446744073709551616 = 2 ^ 64 from rfl, ← Nat.pow_mul, ← Nat.pow_add, Nat.div_add_mod]
theorem val_rep_app (q : Nat) (l : List Nat) : val (List.replicate q 0 ++ l) = 18446744073709551616 ^ q * val l := by rw [val_append, val_replicate, List.length_replicate]; omega
theorem val_snoc (l : List Nat) (x : Nat) : val (l ++ [x]) = val l + 18446744073709551616 ^ l.length * x := by rw [val_append]; simp [val]
theorem up_step {V A P s2 c lo h x : Nat} (h1 : V + P * c = A * s2) (h2 : lo + 18446744073709551616 * h = x * s2) : V + P * (lo + c) + P * 18446744073709551616 * h = (A + P * x) * s2 := by
  have h3 := congrArg (P * ·) h2
  simp only [Nat.mul_add, ← Nat.mul_assoc] at h3
  rw [Nat.mul_add, Nat.add_mul]
  omega
end Go.Ab.Nn
namespace Go.Proofs.Ytoidllhkhljlaaa.Nat
open Go Go.Ab Go.Ab.Nn
set_option linter.unusedVariables false
set_option maxRecDepth 8000
variable {gl : Nat → Option (List AV)} {σ : Own}

theorem rTimes_spec (a b : Nat) (ha : (limbs a).length < 68719476736) (hb : (limbs b).length < 68719476736) : ACalls P gl F_gaugeref1_Times [num a, num b] σ (fun v σ' => v = num (a * b) ∧ σ' = σ) := by
  refine C_gaugeref1_Times.calls hm ?_
  refine CallVC.here (halves_num a (by omega)) ?_
  rintro v σ' ⟨rfl, rfl⟩
  refine CallVC.here (halves_num b (by omega)) ?_
  rintro v σ' ⟨rfl, rfl⟩
  have la := Hn.limbs_len a
  have lb := Hn.limbs_len b
  have hva := Hn.val_limbs a
  have hvb := Hn.val_limbs b
  have wx := Hn.W_limbs a
  have wy := Hn.W_limbs b
  unfold hn
  generalize Hn.limbs a = x at *
  generalize Hn.limbs b = y at *
  refine ⟨(x.length + y.length : Nat), by rw [wi] <;> omega, x.length + y.length, x.length + y.length, rfl, rfl, by omega, by omega, by omega, fun g hg => ?_⟩
  refine ⟨fun m env σ'' => ∃ i z, m = x.length - i ∧ i ≤ x.length ∧ z.length = x.length + y.length ∧ Hn.W z ∧ Hn.val z = Hn.val (x.take i) * Hn.val y ∧ (∀ k, i + y.length ≤ k → z.getD k 0 = 0) ∧ σ'' = upd σ' g ⟨z.map u32, x.length + y.length⟩ ∧
    env = [(5, hh x), (6, hh y), (7, .w (.slice (some ⟨g, 0, none⟩) (x.length + y.length) (x.length + y.length))), (8, .w (.int .i64 i))],
    Wk.here ⟨x.length, 0, List.replicate (x.length + y.length) 0, rfl, by omega, by simp, Hn.W_replicate _, by simp [Hn.val, Hn.val_replicate], fun k _ => by simp [List.getD_eq_getElem?_getD, List.getElem?_replicate]; split <;> rfl, by rw [← mk_u32], rfl⟩, ?_⟩
  rintro m env σ'' ⟨i, z, rfl, hi, hz, hw, hv, h0, rfl, rfl⟩
  refine ⟨fun h => ?_, fun h => ?_⟩
  · have h : i < x.length := by have := of_decide_eq_true h; omega
    refine ⟨fun m env σ'' => ∃ j z' cy, m = y.length - j ∧ j ≤ y.length ∧ z'.length = x.length + y.length ∧ Hn.W z' ∧ cy < 4294967296 ∧ Hn.val z' + 4294967296 ^ (i + j) * cy = Hn.val z + 4294967296 ^ i * (x.getD i 0 * Hn.val (y.take j)) ∧ (∀ k, i + y.length ≤ k → z'.getD k 0 = 0) ∧ σ'' = upd σ' g ⟨z'.map u32, x.length + y.length⟩ ∧
      env = [(5, hh x), (6, hh y), (7, .w (.slice (some ⟨g, 0, none⟩) (x.length + y.length) (x.length + y.length))), (8, .w (.int .i64 i)), (9, u cy), (10, .w (.int .i64 j))],
      Wk.here ⟨y.length, 0, z, 0, rfl, by omega, hz, hw, by omega, by simp [Hn.val], h0, rfl, rfl⟩, ?_⟩
    rintro m env σ'' ⟨j, z', cy, rfl, hj, hz', hw', hcy, hv', h0', rfl, rfl⟩
    refine ⟨fun h2 => ?_, fun h2 => ?_⟩
    · have h2 : j < y.length := by have := of_decide_eq_true h2; omega
      have b1 := Hn.getD_lt wx i
      have b2 := Hn.getD_lt wy j
      have b3 := Hn.getD_lt hw' (i + j)
      have hp : x.getD i 0 * y.getD j 0 ≤ 4294967295 * 4294967295 := Nat.mul_le_mul (by omega) (by omega)
      have hwm := wmul' (x := x.getD i 0) (y := y.getD j 0) (by omega)
      have hst := Hn.times_step (t := cy + z'.getD (i + j) 0 + x.getD i 0 * y.getD j 0) (Nat.pow_add _ _ _) (Hn.val_set (by omega) _) hv' rfl
      generalize hpe : x.getD i 0 * y.getD j 0 = p at *
      refine ⟨(i + j : Nat), by rw [wi] <;> omega, i + j, rfl, by show i + j < x.length + y.length; omega, _, upd_same _ _ _, _, hd0 0 (by omega), _, c64 (by omega), _, wadd' (by omega), i, rfl, by show i < x.length; omega, _, hd1 0 h, _, c64 (by omega), j, rfl, by show j < y.length; omega, _, hd1 0 h2, _, c64 (by omega), (p : Nat), hwm, _, wadd' (by omega), ?_⟩
      refine ⟨(i + j : Nat), by rw [wi] <;> omega, _, c32 _, i + j, rfl, by show i + j < x.length + y.length; omega, _, upd_same _ _ _, by rw [List.length_map]; omega, _, stg (by omega), by decide, _, wshr _ 32, (j + 1 : Nat), by rw [wi] <;> omega,
        Wk.here ⟨y.length - (j + 1), by omega, j + 1, z'.set (i + j) ((cy + z'.getD (i + j) 0 + p) % 4294967296), (cy + z'.getD (i + j) 0 + p) / 2 ^ 32, rfl, by omega, by rw [List.length_set]; exact hz', Hn.W_set hw' _ _ (by omega), by omega, ?_, ?_, rfl, rfl⟩⟩
      · rw [Hn.val_take_succ, ← Nat.add_assoc, Nat.pow_succ]
        exact hst
      · intro k hk
        rw [List.getD_eq_getElem?_getD, List.getElem?_set_ne (by omega), ← List.getD_eq_getElem?_getD]; exact h0' k hk
    · have h2 : ¬ j < y.length := by have := of_decide_eq_false h2; omega
      obtain rfl : j = y.length := by omega
      refine ⟨(i + y.length : Nat), by rw [wi] <;> omega, _, c32' hcy, i + y.length, rfl, by show i + y.length < x.length + y.length; omega, _, upd_same _ _ _, by rw [List.length_map]; omega, _, stg (by omega), (i + 1 : Nat), by rw [wi] <;> omega,
        Wk.here ⟨x.length - (i + 1), by omega, i + 1, z'.set (i + y.length) cy, rfl, by omega, by rw [List.length_set]; exact hz', Hn.W_set hw' _ _ hcy, ?_, ?_, rfl, rfl⟩⟩
      · have := Hn.val_set (l := z') (k := i + y.length) (by omega) cy
        rw [h0' _ (Nat.le_refl _)] at this
        rw [List.take_length, hv] at hv'
        rw [Hn.val_take_succ, Nat.add_mul, Nat.mul_assoc]
        omega
      · intro k hk
        rw [List.getD_eq_getElem?_getD, List.getElem?_set_ne (by omega), ← List.getD_eq_getElem?_getD]; exact h0' k (by omega)
  · have h : ¬ i < x.length := by have := of_decide_eq_false h; omega
    obtain rfl : i = x.length := by omega
    rw [List.take_length, hva, hvb] at hv
    have hcut := cut_spec (gl := gl) (σ := σ') z hw (by omega)
    rw [hv] at hcut
    have hs := own_hh (gl := gl) (c := x.length + y.length) (l := z) (del_upd ⟨z.map u32, x.length + y.length⟩ hg) (upd_same _ _ _) hg (by omega)
    rw [hz] at hs
    refine CallVC.sub (del_upd _ hg) (args' := [hh z]) ⟨hs, trivial⟩ hcut ?_
    rintro v σ' ⟨rfl, rfl⟩
    have h3 := Hn.limbs_len (a * b)
    have h4 := len_mul a b
    refine CallVC.here (whole_num (a * b) (by omega)) ?_
    rintro v σ' ⟨rfl, rfl⟩
    exact Ret.here ⟨rfl, rfl⟩

theorem rep_owns {b q : Nat} (hb : σ b = none) : OwnsA σ 1 ((List.replicate q 0 ++ ([] : List Nat)).map u) q (.w (.slice (some ⟨b, 0, none⟩) q q)) (upd σ b ⟨(List.replicate q 0).map u, q⟩) :=
  .inr ⟨b, q, _, hb, rfl, Nat.le_refl _, by show q * 1 ≤ q; omega, by simp, by show List.take (q * 1) ((List.replicate q 0).map u) = _; rw [List.append_nil]; exact List.take_of_length_le (by simp), rfl⟩
theorem Up2_spec (a n : Nat) (ha : (limbs a).length < 68719476736) (hn : n < 2199023255552) : ACalls P gl F_gaugeref1_Up2 [num a, .w (.int .i64 n)] σ (fun v σ' => v = num (a * 2 ^ n) ∧ σ' = σ) := by
  refine C_gaugeref1_Up2.calls hm ?_
  refine ⟨fun h => ?_, fun h => ?_⟩
  · have h : a = 0 := by
      have : (limbs a).length = 0 := by simpa using h
      exact limbs_eq_nil.1 (List.eq_nil_of_length_eq_zero this)
    subst h
    refine Ret.sub .refl .nil_fs ⟨?_, rfl⟩
    rw [Nat.zero_mul, num_zero]
  clear h
  have hva := val_limbs a
  have hw0 := W_limbs a
  have hpn := pow_split n
  obtain ⟨q, hq⟩ : ∃ q, q = n / 64 := ⟨_, rfl⟩
  obtain ⟨s, hs⟩ : ∃ s, s = n % 64 := ⟨_, rfl⟩
  rw [← hq, ← hs] at hpn
  have eq : IntKind.i64.wrap ((n : Int).tdiv 64) = (q : Nat) := by rw [hq]; exact wquoi n (y := 64) (by omega)
  have er : (n : Int).tmod 64 = (s : Nat) := by rw [hs]; exact wrem n 64
  have hs64 : s < 64 := by omega
  have hp1 : 0 < 2 ^ (64 - s) := Nat.pow_pos (by decide)
  unfold num
  generalize limbs a = x at *
  refine ⟨by decide, q, eq, q, q, rfl, rfl, by omega, by omega, by omega, fun g hg => ?_⟩
  refine ⟨by decide, s, er, _, c64 (by omega), ?_⟩
  refine ⟨fun m env σ' => ∃ i l c v, m = x.length - i ∧ i ≤ x.length ∧ l.length = i ∧ W l ∧ c < 2 ^ s ∧ val l + 18446744073709551616 ^ i * c = val (x.take i) * 2 ^ s ∧ OwnsA σ 1 ((List.replicate q 0 ++ l).map u) (q + i) v σ' ∧ env = [(0, nat x), (5, v), (6, u s), (7, u c), (8, .w (.int .i64 i))],
    Wk.here ⟨_, 0, [], 0, _, rfl, by omega, rfl, W_nil, Nat.pow_pos (by decide), by simp [val], by rw [Nat.add_zero]; exact (by rw [mk_u]; exact rep_owns hg), rfl⟩, ?_⟩
  rintro m env σ' ⟨i, l, c, v, rfl, hi, hl, hw, hc, hv, ho, rfl⟩
  refine ⟨fun h => ?_, fun h => ?_⟩
  · have h : i < x.length := by have := of_decide_eq_true h; omega
    have hx := getD_lt hw0 i
    have hsh := shl_mod (x.getD i 0) (s := s) (by omega)
    have hpt := shl_parts (x.getD i 0) (s := s) (by omega)
    obtain ⟨lo, hlo⟩ : ∃ lo, lo = x.getD i 0 % 2 ^ (64 - s) := ⟨_, rfl⟩
    obtain ⟨hi', hhi⟩ : ∃ hi', hi' = x.getD i 0 / 2 ^ (64 - s) := ⟨_, rfl⟩
    rw [← hlo] at hsh hpt
    rw [← hhi] at hpt
    have hlolt : lo * 2 ^ s < 18446744073709551616 := by rw [← hsh]; exact Nat.mod_lt _ (by decide)
    have hhilt : hi' < 2 ^ s := by rw [hhi]; exact (Nat.div_lt_iff_lt_mul hp1).2 (by rw [two_split (by omega)]; exact hx)
    have hs2 : 2 ^ s ≤ 9223372036854775808 := Nat.pow_le_pow_right (n := 2) (by decide) (show s ≤ 63 by omega)
    have hsum : lo * 2 ^ s + c < 18446744073709551616 := by
      have h1 : lo < 2 ^ (64 - s) := by rw [hlo]; exact Nat.mod_lt _ hp1
      have h2 := Nat.mul_le_mul_right (2 ^ s) (show lo + 1 ≤ 2 ^ (64 - s) from h1)
      rw [Nat.add_mul, Nat.one_mul, Nat.mul_comm (2 ^ (64 - s)), two_split (by omega)] at h2
      omega
    have e1 : IntKind.u64.wrap (((x.getD i 0 : Nat) : Int) * 2 ^ (min ((s : Nat) : Int).toNat IntKind.u64.bits)) = (lo * 2 ^ s : Nat) := by rw [wshlv _ (by omega), hsh]
    refine ⟨i, rfl, h, _, hd1 0 h, by omega, (lo * 2 ^ s : Nat), e1, _, wor (by omega) hlolt hc, by show 1 * 1 ≤ 1; omega, ho.app (k := 1) rfl rfl (by omega) (by omega) fun v' σ2 σ3 ho' hd => ?_⟩
    refine have key : ∀ c' : Nat, c' = hi' → vc (cx P gl) S_gaugeref1_Up2_j1 _ [(0, nat x), (5, v'), (6, u s), (7, u c'), (8, .w (.int .i64 i))] σ3 := ?_;
      ⟨fun h2 => ⟨i, rfl, h, _, hd1 0 h, (64 - s : Nat), (by rw [wu]; omega), (by omega), _, wshrv _ (by omega), Wk.sub hd (.refl hd _) (key _ hhi.symm)⟩,
       fun h2 => Wk.sub hd (.refl hd _) (key 0 (by
         have : s = 0 := by have := of_decide_eq_false h2; omega
         rw [hhi, this, Nat.sub_zero, Nat.div_eq_of_lt hx]))⟩
    rintro c' rfl
    refine ⟨(i + 1 : Nat), by rw [wi] <;> omega, Wk.here ⟨x.length - (i + 1), by omega, i + 1, l ++ [lo * 2 ^ s + c], c', v', rfl, by omega, by simp [hl], W_append.2 ⟨hw, W_cons.2 ⟨hsum, W_nil⟩⟩, hhilt, ?_, ?_, rfl⟩⟩
    · rw [val_snoc, hl, val_take_succ, Nat.pow_succ]
      exact up_step hv hpt
    · rw [← List.append_assoc, List.map_append (l₂ := [lo * 2 ^ s + c])]; exact ho'
  · have h : ¬ i < x.length := by have := of_decide_eq_false h; omega
    obtain rfl : i = x.length := by omega
    have hs2 : 2 ^ s ≤ 9223372036854775808 := Nat.pow_le_pow_right (n := 2) (by decide) (show s ≤ 63 by omega)
    rw [List.take_length, hva] at hv
    refine ⟨by show 1 * 1 ≤ 1; omega, ho.app (k := 1) rfl rfl (by omega) (by omega) fun v' σ2 σ3 ho' hd => ?_⟩
    have hW : W (List.replicate q 0 ++ l ++ [c]) := W_append.2 ⟨W_append.2 ⟨W_replicate _, hw⟩, W_cons.2 ⟨by omega, W_nil⟩⟩
    have hV : val (List.replicate q 0 ++ l ++ [c]) = a * 2 ^ n := by
      rw [List.append_assoc, val_rep_app, val_snoc, hl, hv, hpn, Nat.mul_left_comm]
    have ht := Trim_spec (gl := gl) (σ := σ) _ hW (by simp; omega)
    rw [hV] at ht
    refine CallVC.sub (hd.trans ho'.del) (args' := [nat (List.replicate q 0 ++ l ++ [c])]) ⟨?_, trivial⟩ ht ?_
    · have e : nat (List.replicate q 0 ++ l ++ [c]) = .fs ((List.replicate q 0 ++ l).map u ++ [u c]) (q + x.length + 1) := by
        unfold nat; rw [List.map_append (l₂ := [c]), List.length_append, List.length_append, List.length_replicate, hl]; rfl
      rw [e]; exact ho'.sub2 hd
    rintro v σ' ⟨rfl, rfl⟩
    exact Ret.here ⟨rfl, rfl⟩

theorem Down2_spec (a n : Nat) (ha : (limbs a).length < 68719476736) (hn : n < 9223372036854775808) : ACalls P gl F_gaugeref1_Down2 [num a, .w (.int .i64 n)] σ (fun v σ' => v = num (a / 2 ^ n) ∧ σ' = σ) := by
  refine C_gaugeref1_Down2.calls hm ?_
  refine CallVC.here (rLen_spec a (by omega)) ?_
  rintro v σ' ⟨rfl, rfl⟩
  refine ⟨fun h => ?_, fun h => ?_⟩
  · have h : bl a ≤ n := by have := of_decide_eq_true h; omega
    refine Ret.sub .refl .nil_fs ⟨?_, rfl⟩
    rw [Nat.div_eq_of_lt (bl_le.1 h), num_zero]
  have h : n < bl a := by have := of_decide_eq_false h; omega
  have hbl := bl_len a
  have hva := val_limbs a
  have hw0 := W_limbs a
  have hpn := pow_split n
  obtain ⟨q, hq⟩ : ∃ q, q = n / 64 := ⟨_, rfl⟩
  obtain ⟨s, hs⟩ : ∃ s, s = n % 64 := ⟨_, rfl⟩
  rw [← hq, ← hs] at hpn
  have eq : IntKind.i64.wrap ((n : Int).tdiv 64) = (q : Nat) := by rw [hq]; exact wquoi n (y := 64) (by omega)
  have er : (n : Int).tmod 64 = (s : Nat) := by rw [hs]; exact wrem n 64
  have hs64 : s < 64 := by omega
  have hp0 : 0 < 2 ^ s := Nat.pow_pos (by decide)
  unfold num
  generalize limbs a = x at *
  have hqx : q ≤ x.length := by omega
  have wb := W_drop hw0 q
  have hvb := val_drop hw0 q
  have hbl' : (x.drop q).length = x.length - q := List.length_drop
  have hgd : ∀ j, (x.drop q).getD j 0 = x.getD (q + j) 0 := fun j => by rw [List.getD_eq_getElem?_getD, List.getD_eq_getElem?_getD, List.getElem?_drop]
  refine ⟨by decide, s, er, _, c64 (by omega), by decide, q, eq, ?_⟩
  refine ⟨fun m env σ'' => ∃ j z v, m = x.length - (q + j) ∧ q + j ≤ x.length ∧ z.length = j ∧ W z ∧ val z * 2 ^ s + (x.drop q).getD 0 0 % 2 ^ s = val ((x.drop q).take j) + 18446744073709551616 ^ j * ((x.drop q).getD j 0 % 2 ^ s) ∧ OwnsA σ' 1 (z.map u) j v σ'' ∧ env = [(0, nat x), (5, u s), (6, v), (7, .w (.int .i64 (q + j : Nat)))],
    Wk.here ⟨_, 0, [], _, rfl, by omega, rfl, W_nil, by simp [val], .nil _ _, rfl⟩, ?_⟩
  rintro m env σ'' ⟨j, z, v, rfl, hj, hz, hw, hv, ho, rfl⟩
  refine ⟨fun h2 => ?_, fun h2 => ?_⟩
  · have h2 : q + j < x.length := by have := of_decide_eq_true h2; omega
    have hx := getD_lt wb j
    have hy := getD_lt wb (j + 1)
    have e28 : ((x.getD (q + j) 0 : Nat) : Int).fdiv (2 ^ (min ((s : Nat) : Int).toNat IntKind.u64.bits)) = ((x.drop q).getD j 0 / 2 ^ s : Nat) := by rw [hgd]; exact wshrv _ (by omega)
    have hlo : (x.drop q).getD j 0 / 2 ^ s < 2 ^ (64 - s) := (Nat.div_lt_iff_lt_mul hp0).2 (by rw [Nat.mul_comm, two_split (by omega)]; exact hx)
    have h64 : 2 ^ (64 - s) ≤ 18446744073709551616 := Nat.pow_le_pow_right (n := 2) (by decide) (show 64 - s ≤ 64 by omega)
    have hdm := Nat.div_add_mod ((x.drop q).getD j 0) (2 ^ s)
    have hhi : (x.drop q).getD (j + 1) 0 % 2 ^ s * 2 ^ (64 - s) < 18446744073709551616 := by
      have := Nat.mul_lt_mul_of_pos_right (Nat.mod_lt ((x.drop q).getD (j + 1) 0) hp0) (Nat.pow_pos (n := 64 - s) (show 0 < 2 by decide))
      rwa [two_split (by omega)] at this
    have hsum : (x.drop q).getD (j + 1) 0 % 2 ^ s * 2 ^ (64 - s) + (x.drop q).getD j 0 / 2 ^ s < 18446744073709551616 := by
      have h1 := Nat.mul_le_mul_right (2 ^ (64 - s)) (show (x.drop q).getD (j + 1) 0 % 2 ^ s + 1 ≤ 2 ^ s from Nat.mod_lt _ hp0)
      rw [Nat.add_mul, Nat.one_mul, two_split (by omega)] at h1
      omega
    have e3 : IntKind.u64.wrap (((x.getD (q + j + 1) 0 : Nat) : Int) * 2 ^ (min ((64 - s : Nat) : Int).toNat IntKind.u64.bits)) = ((x.drop q).getD (j + 1) 0 % 2 ^ s * 2 ^ (64 - s) : Nat) := by
      rw [Nat.add_assoc, ← hgd, wshlv _ (show 64 - s ≤ 64 by omega), shl_mod _ (by omega), show 64 - (64 - s) = s by omega]
    refine ⟨q + j, rfl, h2, _, hd1 0 h2, by omega, _, e28, ?_⟩
    refine have key : ∀ t : Bool, (t = true ↔ (0 < s ∧ q + j + 1 < x.length)) → vc (cx P gl) S_gaugeref1_Down2_j1 _ [(0, nat x), (5, u s), (6, v), (7, .w (.int .i64 (q + j : Nat))), (8, u ((x.drop q).getD j 0 / 2 ^ s)), (38, .w (.bool t))] _ := ?_;
      ⟨fun h3 => ⟨(q + j + 1 : Nat), (by rw [wi] <;> omega), Wk.here (key _ ?_)⟩, fun h3 => Wk.here (key false ?_)⟩
    rotate_left
    · have h3 := of_decide_eq_true h3
      rw [decide_eq_true_iff]; omega
    · have h3 := of_decide_eq_false h3
      simp; omega
    intro t ht
    refine have key2 : ∀ (w : Nat), w < 18446744073709551616 → w * 2 ^ s + (x.drop q).getD j 0 % 2 ^ s = (x.drop q).getD j 0 + 18446744073709551616 * ((x.drop q).getD (j + 1) 0 % 2 ^ s) → vc (cx P gl) S_gaugeref1_Down2_j2 _ [(0, nat x), (5, u s), (6, v), (7, .w (.int .i64 (q + j : Nat))), (8, u w)] _ := ?_;
      ⟨fun h3 => have h3 := ht.1 h3
        ⟨(q + j + 1 : Nat), (by rw [wi] <;> omega), q + j + 1, rfl, h3.2, _, hd1 0 h3.2, (64 - s : Nat), (by rw [wu]; omega), (by omega), _, e3, _, wor' (by omega) hhi hlo, Wk.here (key2 _ hsum ?_)⟩,
       fun h3 => Wk.here (key2 _ (by omega) ?_)⟩
    · intro w hwl hws
      refine ⟨by show 1 * 1 ≤ 1; omega, ho.app (k := 1) rfl rfl (by omega) (by omega) fun v' σ2 σ3 ho' hd => ?_⟩
      refine ⟨(q + (j + 1) : Nat), by rw [wi] <;> omega, Wk.sub hd (.refl hd _) ⟨x.length - (q + (j + 1)), by omega, j + 1, z ++ [w], v', rfl, by omega, by simp [hz], W_append.2 ⟨hw, W_cons.2 ⟨hwl, W_nil⟩⟩, ?_, by rw [List.map_append]; exact ho', rfl⟩⟩
      rw [val_snoc, hz, val_take_succ, Nat.pow_succ]
      exact right_step _ hv hws
    · rw [Nat.add_mul, Nat.mul_assoc, Nat.mul_comm (2 ^ (64 - s)), two_split (by omega), Nat.mul_comm ((x.drop q).getD j 0 / 2 ^ s)]
      omega
    · have hz0 : (x.drop q).getD (j + 1) 0 % 2 ^ s = 0 := by
        by_cases hs0 : s = 0
        · rw [hs0, Nat.pow_zero, Nat.mod_one]
        · rw [getD_ge (by
            intro h4
            have : ¬ (0 < s ∧ q + j + 1 < x.length) := fun h5 => by rw [ht.2 h5] at h3; cases h3
            omega), Nat.zero_mod]
      rw [hz0, Nat.mul_comm]; omega
  · have h2 : ¬ q + j < x.length := by have := of_decide_eq_false h2; omega
    rw [List.take_of_length_le (by omega), getD_ge (i := j) (by omega), Nat.zero_mod, Nat.mul_zero, Nat.add_zero] at hv
    have hlt := Nat.mod_lt ((x.drop q).getD 0 0) hp0
    have hval : val z = a / 2 ^ n := by
      rw [hpn, ← Nat.div_div_eq_div_mul, ← hva, ← hvb, ← hv, Nat.mul_comm, Nat.mul_add_div hp0, Nat.div_eq_of_lt hlt, Nat.add_zero]
    have ht := Trim_spec (gl := gl) (σ := σ') z hw (by omega)
    rw [hval] at ht
    refine CallVC.sub ho.del (args' := [nat z]) ⟨?_, trivial⟩ ht ?_
    · have e : nat z = .fs (z.map u) j := by unfold nat; rw [hz]
      rw [e]; exact ho.sub
    rintro v σ' ⟨rfl, rfl⟩
    exact Ret.here ⟨rfl, rfl⟩
end Go.Proofs.Ytoidllhkhljlaaa.Nat
namespace Go.Ab.Nn
/-- a number whose low bits are 0: its word's low bits are 0 -/
theorem word_bits {z : List Nat} (hw : W z) {Q q s : Nat} (hs : s < 64) (hv : val z = Q * 2 ^ (64 * q + s + 1)) : ∃ a, z.getD q 0 = a * 2 ^ (s + 1) := by
  have hp : 2 ^ (64 * q + s + 1) = 2 ^ (s + 1) * 18446744073709551616 ^ q := by
    rw [show 18446744073709551616 = 2 ^ 64 from rfl, ← Nat.pow_mul, ← Nat.pow_add]; congr 1; omega
  have hd := val_drop hw q
  rw [hv, hp, ← Nat.mul_assoc, Nat.mul_div_cancel _ (Nat.pow_pos (by decide))] at hd
  by_cases hq : q < z.length
  · rw [drop_getD hq, val] at hd
    have hB : 18446744073709551616 = 2 ^ (s + 1) * 2 ^ (63 - s) := by rw [← Nat.pow_add, show s + 1 + (63 - s) = 64 by omega]
    have hm := congrArg (· % 2 ^ (s + 1)) hd
    simp only [Nat.mul_mod_left] at hm
    rw [show (18446744073709551616 : Nat) * val (z.drop (q + 1)) = 2 ^ (s + 1) * (2 ^ (63 - s) * val (z.drop (q + 1))) by rw [← Nat.mul_assoc, ← hB], Nat.add_mul_mod_self_left] at hm
    exact ⟨z.getD q 0 / 2 ^ (s + 1), (Nat.div_mul_cancel (Nat.dvd_of_mod_eq_zero hm)).symm⟩
  · exact ⟨0, by rw [List.getD_eq_getElem?_getD, List.getElem?_eq_none (by omega)]; simp⟩
theorem bl_ge {a : Nat} (h : a ≠ 0) : 2 ^ (bl a - 1) ≤ a := bl_lt.1 (by
  have : 0 < bl a := bl_lt.2 (by rw [Nat.pow_zero]; omega)
  omega)
end Go.Ab.Nn
namespace Go.Proofs.Ytoidllhkhljlaaa.Nat
open Go Go.Ab Go.Ab.Nn
set_option linter.unusedVariables false
set_option maxRecDepth 8000
variable {gl : Nat → Option (List AV)} {σ : Own}

theorem rDivide_spec (a b : Nat) (hb0 : 0 < b) (ha : (limbs a).length < 17179869184) (hb : (limbs b).length < 17179869184) : ACalls P gl F_gaugeref1_Divide [num a, num b] σ (fun v σ' => v = .tup [num (a / b), num (a % b)] ∧ σ' = σ) := by
  refine C_gaugeref1_Divide.calls hm ?_
  refine CallVC.here (halves_num b (by omega)) ?_
  rintro v σ' ⟨rfl, rfl⟩
  have lla := Hn.limbs_len a
  refine ⟨fun h => ?_, fun h => ?_⟩
  · have h : (Hn.limbs b).length = 1 := by
      have : ((Hn.limbs b).length : Int) = 1 := by simpa using h
      omega
    have hbB : b < 4294967296 := by have := Hn.len_lt_pow b; rw [h, Nat.pow_one] at this; exact this
    have hget : (Hn.limbs b).getD 0 0 = b := by
      rw [Hn.limbs_pos (by omega), Nat.mod_eq_of_lt hbB]; rfl
    have hS := short_spec (gl := gl) (σ := σ') (Hn.limbs a) b (Hn.W_limbs a) (by omega) hb0 hbB
    rw [Hn.val_limbs] at hS
    have hr := Nat.mod_lt a hb0
    have hq := Hn.len_mono (Nat.div_le_self a b)
    refine Wk.here (CallQ.here (halves_num a (by omega)) ⟨0, rfl, by omega, _, hd1 0 (by omega), ?_⟩)
    rw [hget]
    refine CallQ.here hS ⟨_, rfl, _, rfl, ?_⟩
    refine CallVC.here (whole_num (a / b) (by omega)) ?_
    rintro v σ' ⟨rfl, rfl⟩
    refine ⟨_, c64 (by omega), CallVC.here (Of_spec (a % b) (by omega)) ?_⟩
    rintro v σ' ⟨rfl, rfl⟩
    exact Ret.here ⟨rfl, rfl⟩
  clear h
  refine CallVC.here (rLen_spec a (by omega)) ?_
  rintro v σ' ⟨rfl, rfl⟩
  refine CallVC.here (rLen_spec b (by omega)) ?_
  rintro v σ' ⟨rfl, rfl⟩
  have hba := bl_len a
  have hbb := bl_len b
  have la1 := bl_le.1 (Nat.le_refl (bl a))
  have lb1 := bl_le.1 (Nat.le_refl (bl b))
  refine ⟨(bl a : Int) - bl b, by rw [wi] <;> omega, ⟨fun h => ?_, fun h => ?_⟩⟩
  · have h : bl a < bl b := by have := of_decide_eq_true h; omega
    have hlt : a < b := Nat.lt_of_not_le fun e => by have := bl_mono e; omega
    refine Ret.sub .refl (.tup (ys := [.fs [] 0, num a]) ⟨.nil_fs, .refl .refl _, trivial⟩) ⟨?_, rfl⟩
    rw [Nat.div_eq_of_lt hlt, Nat.mod_eq_of_lt hlt, num_zero]
  have h : bl b ≤ bl a := by have := of_decide_eq_false h; omega
  obtain ⟨n, hn⟩ : ∃ n, n = bl a - bl b := ⟨_, rfl⟩
  have en : (bl a : Int) - bl b = (n : Nat) := by omega
  rw [en]
  have eqn : IntKind.i64.wrap ((n : Int).tdiv 64) = (n / 64 : Nat) := wquoi n (y := 64) (by omega)
  refine ⟨by decide, _, eqn, (n / 64 + 1 : Nat), by rw [wi] <;> omega, n / 64 + 1, n / 64 + 1, rfl, rfl, by omega, by omega, by omega, fun g hg => ?_⟩
  refine CallVC.here (Up2_spec b n (by omega) (by omega)) ?_
  rintro v σ'' ⟨rfl, rfl⟩
  have hbig : a < 2 ^ (n + 1) * b := by
    refine Nat.lt_of_lt_of_le la1 ?_
    have h1 := Nat.mul_le_mul_left (2 ^ (n + 1)) (bl_ge (show b ≠ 0 by omega))
    have hb1 : 0 < bl b := bl_lt.2 (by rw [Nat.pow_zero]; omega)
    rw [← Nat.pow_add, show n + 1 + (bl b - 1) = bl a by omega] at h1
    exact h1
  have hdl : ∀ d, d ≤ b * 2 ^ n → (limbs d).length ≤ (limbs a).length := by
    intro d hd
    refine limbs_len_le ?_
    have h1 : b * 2 ^ n < 2 ^ bl a := by
      have := Nat.mul_lt_mul_of_pos_right lb1 (Nat.pow_pos (n := n) (show 0 < 2 by decide))
      rwa [← Nat.pow_add, show bl b + n = bl a by omega] at this
    have h2 : 2 ^ bl a ≤ 18446744073709551616 ^ (limbs a).length := by
      rw [show 18446744073709551616 = 2 ^ 64 from rfl, ← Nat.pow_mul]
      exact Nat.pow_le_pow_right (by decide) hba
    omega
  refine ⟨fun k env σ'' => ∃ (z : List Nat) (r d Q : Nat) (j : Int), j = (k : Int) - 1 ∧ k ≤ n + 1 ∧ z.length = n / 64 + 1 ∧ W z ∧ val z = Q * 2 ^ k ∧ r < 2 ^ k * b ∧ Q * (2 ^ k * b) + r = a ∧ (∀ i, k = i + 1 → d = b * 2 ^ i) ∧ d ≤ b * 2 ^ n ∧ σ'' = upd σ' g ⟨z.map u, n / 64 + 1⟩ ∧
    env = [(10, .w (.slice (some ⟨g, 0, none⟩) (n / 64 + 1) (n / 64 + 1))), (11, num r), (12, num d), (13, .w (.int .i64 j))],
    Wk.here ⟨n + 1, List.replicate (n / 64 + 1) 0, a, b * 2 ^ n, 0, (n : Nat), by omega, by omega, by simp, W_replicate _, by rw [val_replicate, Nat.zero_mul], hbig, by rw [Nat.zero_mul, Nat.zero_add], fun i hi => by rw [show i = n by omega], Nat.le_refl _, by rw [← mk_u], rfl⟩, ?_⟩
  rintro k env σ'' ⟨z, r, d, Q, j, hj, hk, hz, hw, hv, hr, hQ, hd, hdn, rfl, rfl⟩
  have hra : r ≤ a := by rw [← hQ]; exact Nat.le_add_left _ _
  have lr := len_mono hra
  refine ⟨fun h => ?_, fun h => ?_⟩
  · have h : j ≥ 0 := of_decide_eq_true h
    obtain ⟨i, rfl⟩ : ∃ i, k = i + 1 := ⟨k - 1, by omega⟩
    obtain rfl : j = (i : Nat) := by omega
    obtain rfl := hd i rfl
    have ld := hdl _ hdn
    clear hd hj
    have hp2 : 2 ^ (i + 1) * b = 2 * (b * 2 ^ i) := by rw [Nat.pow_succ, Nat.mul_comm b, Nat.mul_right_comm, Nat.mul_comm]
    have hp1 : 2 ^ i * b = b * 2 ^ i := Nat.mul_comm _ _
    rw [hp2] at hr hQ
    have hqlt : i / 64 < n / 64 + 1 := by omega
    refine CallVC.here (rCmp_spec r (b * 2 ^ i) (by omega) (by omega)) ?_
    rintro v σ'' ⟨rfl, rfl⟩
    refine have key : ∀ (z' : List Nat) (r' Q' : Nat), z'.length = n / 64 + 1 → W z' → val z' = Q' * 2 ^ i → r' < 2 ^ i * b → Q' * (2 ^ i * b) + r' = a → vc (cx P gl) S_gaugeref1_Divide_j1 _ [(10, .w (.slice (some ⟨g, 0, none⟩) (n / 64 + 1) (n / 64 + 1))), (11, num r'), (12, num (b * 2 ^ i)), (13, .w (.int .i64 (i : Nat)))] (upd σ' g ⟨z'.map u, n / 64 + 1⟩) := ?_;
      ⟨fun h2 => ?_, fun h2 => Wk.here (key z r (2 * Q) hz hw (by rw [hv, Nat.pow_succ, Nat.mul_comm 2, Nat.mul_assoc Q 2, Nat.mul_comm 2]) (by
        have h2 := of_decide_eq_false h2
        have := (c3_lt0 (m := r) (n := b * 2 ^ i)).1 (by omega)
        omega) (by rw [hp1, Nat.mul_comm 2, Nat.mul_assoc]; exact hQ))⟩
    · intro z' r' Q' hz' hw' hv' hr' hQ'
      refine CallVC.here (Down2_spec (b * 2 ^ i) 1 (by omega) (by omega)) ?_
      rintro v σ'' ⟨rfl, rfl⟩
      refine ⟨(i : Int) - 1, by rw [wi] <;> omega, Wk.here ⟨i, by omega, z', r', b * 2 ^ i / 2 ^ 1, Q', (i : Int) - 1, rfl, by omega, hz', hw', hv', hr', hQ', ?_, Nat.le_trans (Nat.div_le_self _ _) hdn, rfl, rfl⟩⟩
      rintro i' rfl
      rw [Nat.pow_succ, Nat.pow_one, ← Nat.mul_assoc, Nat.mul_div_cancel _ (by decide)]
    · have hle : b * 2 ^ i ≤ r := by
        have h2 := of_decide_eq_true h2
        rcases Nat.lt_or_ge r (b * 2 ^ i) with h3 | h3
        · have := (c3_lt0 (m := r) (n := b * 2 ^ i)).2 h3; omega
        · exact h3
      refine CallVC.here (rLess_spec r (b * 2 ^ i) hle (by omega)) ?_
      rintro v σ'' ⟨rfl, rfl⟩
      have eqi : IntKind.i64.wrap ((i : Int).tdiv 64) = (i / 64 : Nat) := wquoi i (y := 64) (by omega)
      have eri : (i : Int).tmod 64 = (i % 64 : Nat) := wrem i 64
      obtain ⟨w, hwz⟩ := word_bits (Q := Q) (q := i / 64) (s := i % 64) hw (by omega) (by rw [hv]; congr 2; omega)
      have hzl := getD_lt hw (i / 64)
      have hs2 : 2 ^ (i % 64) ≤ 9223372036854775808 := Nat.pow_le_pow_right (n := 2) (by decide) (show i % 64 ≤ 63 by omega)
      have hsl : 2 ^ (i % 64) < 2 ^ (i % 64 + 1) := Nat.pow_lt_pow_right (by decide) (by omega)
      have eshl : IntKind.u64.wrap ((1 : Int) * 2 ^ (min ((i % 64 : Nat) : Int).toNat IntKind.u64.bits)) = (2 ^ (i % 64) : Nat) := by
        have := wshlv 1 (k := i % 64) (by omega)
        rw [Nat.one_mul, Nat.mod_eq_of_lt (show 2 ^ (i % 64) < 18446744073709551616 by omega)] at this
        exact this
      have eor : IntKind.u64.wrap ((BitVec.ofInt IntKind.u64.bits ((z.getD (i / 64) 0 : Nat) : Int) ||| BitVec.ofInt IntKind.u64.bits ((2 ^ (i % 64) : Nat) : Int)).toNat) = (z.getD (i / 64) 0 + 2 ^ (i % 64) : Nat) := by
        rw [hwz] at hzl ⊢
        exact wor (by omega) hzl hsl
      have hsum : z.getD (i / 64) 0 + 2 ^ (i % 64) < 18446744073709551616 := by
        rw [hwz] at hzl ⊢
        have hB : 18446744073709551616 = 2 ^ (63 - i % 64) * 2 ^ (i % 64 + 1) := by rw [← Nat.pow_add, show 63 - i % 64 + (i % 64 + 1) = 64 by omega]
        rw [hB] at hzl ⊢
        have h1 := Nat.lt_of_mul_lt_mul_right hzl
        have h2 := Nat.mul_le_mul_right (2 ^ (i % 64 + 1)) h1
        rw [Nat.succ_mul] at h2
        omega
      have hV : val (z.set (i / 64) (z.getD (i / 64) 0 + 2 ^ (i % 64))) = (2 * Q + 1) * 2 ^ i := by
        have h1 := val_set (l := z) (k := i / 64) (by omega) (z.getD (i / 64) 0 + 2 ^ (i % 64))
        rw [Nat.mul_add, ← pow_split, hv, Nat.pow_succ] at h1
        rw [Nat.add_mul, Nat.one_mul, Nat.mul_comm 2 Q, Nat.mul_assoc Q 2, Nat.mul_comm 2 (2 ^ i)]
        omega
      refine ⟨by decide, _, eqi, by decide, _, eqi, i / 64, rfl, by show i / 64 < n / 64 + 1; omega, _, upd_same _ _ _, _, hd0 0 (by omega), by decide, _, eri, _, c64 (by omega), by omega, _, eshl, _, eor, i / 64, rfl, by show i / 64 < n / 64 + 1; omega, _, upd_same _ _ _, by rw [List.length_map]; omega, _, stu0 (by omega),
        Wk.here (key (z.set (i / 64) (z.getD (i / 64) 0 + 2 ^ (i % 64))) (r - b * 2 ^ i) (2 * Q + 1) (by rw [List.length_set]; exact hz) (W_set hw _ _ hsum) hV (by omega) ?_)⟩
      rw [hp1, Nat.add_mul, Nat.one_mul, Nat.mul_comm 2, Nat.mul_assoc]
      omega
  · have h : ¬ j ≥ 0 := of_decide_eq_false h
    obtain rfl : k = 0 := by omega
    rw [Nat.pow_zero, Nat.mul_one] at hv
    rw [Nat.pow_zero, Nat.one_mul] at hr hQ
    have hq : val z = a / b := by rw [hv, ← hQ, Nat.mul_comm, Nat.mul_add_div hb0, Nat.div_eq_of_lt hr, Nat.add_zero]
    have hrr : r = a % b := by rw [← hQ, Nat.mul_comm, Nat.mul_add_mod, Nat.mod_eq_of_lt hr]
    have ht := Trim_spec (gl := gl) (σ := σ') z hw (by omega)
    rw [hq] at ht
    have hs := own_nat (gl := gl) (c := n / 64 + 1) (l := z) (del_upd ⟨z.map u, n / 64 + 1⟩ hg) (upd_same _ _ _) hg (by omega)
    rw [hz] at hs
    refine CallVC.sub (del_upd _ hg) (args' := [nat z]) ⟨hs, trivial⟩ ht ?_
    rintro v σ' ⟨rfl, rfl⟩
    exact Ret.here ⟨by rw [hrr], rfl⟩

theorem rGcd_spec (m n : Nat) (h1 : (limbs m).length < 17179869184) (h2 : (limbs n).length < 17179869184) : ACalls P gl F_gaugeref1_Gcd [num m, num n] σ (fun v σ' => v = num (Nat.gcd m n) ∧ σ' = σ) := by
  refine C_gaugeref1_Gcd.calls hm ?_
  refine ⟨fun k env σ'' => ∃ a : Nat, Nat.gcd a k = Nat.gcd m n ∧ (limbs a).length < 17179869184 ∧ (limbs k).length < 17179869184 ∧ σ'' = σ ∧ env = [(0, num a), (1, num k)], Wk.here ⟨n, m, rfl, h1, h2, rfl, rfl⟩, ?_⟩
  rintro k env σ'' ⟨a, hg, ha, hb, rfl, rfl⟩
  refine ⟨fun h => ?_, fun h => ?_⟩
  · have hk : 0 < k := by
      have h := of_decide_eq_true h
      rcases Nat.eq_zero_or_pos k with h0 | h0
      · subst h0; rw [limbs_zero] at h; simp at h
      · exact h0
    refine CallVC.here (rDivide_spec a k hk ha hb) ?_
    rintro v σ' ⟨rfl, rfl⟩
    have hlt := Nat.mod_lt a hk
    refine ⟨_, rfl, _, rfl, Wk.here ⟨a % k, hlt, k, ?_, hb, by have := len_mono (Nat.le_of_lt hlt); omega, rfl, rfl⟩⟩
    rw [← hg, Nat.gcd_comm a k, Nat.gcd_rec k a, Nat.gcd_comm]
  · have hk : k = 0 := by
      have h := of_decide_eq_false h
      have : (limbs k).length = 0 := by omega
      exact limbs_eq_nil.1 (List.eq_nil_of_length_eq_zero this)
    subst hk
    refine Ret.here ⟨?_, rfl⟩
    rw [← hg, Nat.gcd_zero_right]
end Go.Proofs.Ytoidllhkhljlaaa.Nat
/-! Cells of the call's own: locals that are structs, results. -/
namespace Go.Ab
set_option linter.unusedVariables false
variable {P : Program} {gl : Nat → Option (List AV)} {σ σ' : Own}

/-- a slot's value set -/
def setE : Env → Nat → AV → Env
  | [], _, _ => []
  | (i, v) :: r, t, x => match Nat.beq i t with
    | true => (i, x) :: r
    | false => (i, v) :: setE r t x
theorem setE_keys : ∀ (env : Env) (t : Nat) (x : AV), (setE env t x).map (·.1) = env.map (·.1)
  | [], _, _ => rfl
  | (i, v) :: r, t, x => by
    simp only [setE]
    split
    · rfl
    · rw [List.map_cons, List.map_cons, setE_keys r t x]
theorem setE_subs (hd : Del σ σ') {t : Nat} {x v : AV} (hs : Sub gl σ σ' v x) : ∀ env : Env, (find env t = v ∨ ¬ t ∈ env.map (·.1)) → Subs gl σ σ' (env.map (·.2)) ((setE env t x).map (·.2))
  | [], _ => trivial
  | (i, y) :: r, h => by
    simp only [setE]
    split
    · rename_i hb
      have := Nat.eq_of_beq_eq_true hb
      subst this
      refine ⟨?_, .refl hd _⟩
      rcases h with h | h
      · simp only [find, hb] at h; rw [← h] at hs; exact hs
      · exact absurd (by simp) h
    · rename_i hb
      refine ⟨.refl hd _, setE_subs hd hs r ?_⟩
      rcases h with h | h
      · simp only [find, hb] at h; exact .inl h
      · exact .inr fun hm => h (by simp only [List.map_cons, List.mem_cons]; exact .inr hm)
theorem find_setE {env : Env} {t t' : Nat} {x : AV} (h : t ≠ t') : find (setE env t x) t' = find env t' := by
  induction env with
  | nil => rfl
  | cons p r ih =>
    obtain ⟨i, v⟩ := p
    simp only [setE]
    split
    · rename_i hb
      have := Nat.eq_of_beq_eq_true hb
      subst this
      simp only [find]
      split
      · rename_i hb2; exact absurd (Nat.eq_of_beq_eq_true hb2) h
      · rfl
    · simp only [find]
      split
      · rfl
      · exact ih
theorem sub_fp (hd : Del σ σ') {b : Nat} {ob : Ob} (hb : σ b = some ob) (hn : σ' b = none) : Sub gl σ σ' (.w (.pointer (some ⟨b, 0, none⟩))) (.fp ob.xs) := by
  refine .own_fp hd hb hn (k := ob.xs.length) ?_
  rw [List.drop_zero, List.take_length]
  exact .refl hd _
/-- a cell that is written no more -/
theorem Wk.frz {env : Env} {J : Env → Own → Prop} (t : Nat) {b : Nat} {ob : Ob} (h1 : find env t = .w (.pointer (some ⟨b, 0, none⟩))) (h2 : σ b = some ob) (h3 : Del σ σ') (h4 : σ' b = none) (h : J (setE env t (.fp ob.xs)) σ') (hn : nodupN (env.map (·.1)) = true := by rfl) : Wk (Says gl) env σ J :=
  ⟨_, σ', setE_keys _ _ _, nodupN_nodup hn, says_of h3 (setE_subs h3 (sub_fp h3 h2 h4) env (.inl h1)), h⟩
theorem Wk.frz2 {env : Env} {J : Env → Own → Prop} (t u : Nat) {b c : Nat} {ob oc : Ob} (h1 : find env t = .w (.pointer (some ⟨b, 0, none⟩))) (k1 : find (setE env t (.fp ob.xs)) u = .w (.pointer (some ⟨c, 0, none⟩))) (h2 : σ b = some ob) (k2 : σ c = some oc) (h3 : Del σ σ') (h4 : σ' b = none) (k4 : σ' c = none)
    (h : J (setE (setE env t (.fp ob.xs)) u (.fp oc.xs)) σ') (hn : nodupN (env.map (·.1)) = true := by rfl) : Wk (Says gl) env σ J := by
  refine ⟨_, σ', by rw [setE_keys, setE_keys], nodupN_nodup hn, ?_, h⟩
  have s1 := setE_subs (gl := gl) h3 (sub_fp h3 h2 h4) env (.inl h1)
  have s2 := setE_subs (gl := gl) (.refl (σ := σ')) (v := .w (.pointer (some ⟨c, 0, none⟩))) (x := .fp oc.xs) (t := u) (σ := σ') (σ' := σ')
  intro w cs hr hv
  have hs := says_of h3 s1 w cs hr hv
  refine ⟨hs.1, hs.2.1, ?_⟩
  -- the second cell, told from the first world
  have hc := sub_fp (gl := gl) h3 k2 k4
  have key : ∀ (e e' : Env) (cs : List Value), e'.map (·.1) = e.map (·.1) → (∀ i, find e' i = find e i ∨ True) → True := fun _ _ _ _ _ => trivial
  have go : ∀ (e0 : Env) (e : Env) (cs : List Value), VRs (Im σ w) w (e0.map (·.2)) cs → VRs (Im σ' w) w (e.map (·.2)) cs → (find e u = .w (.pointer (some ⟨c, 0, none⟩)) ∨ ¬ u ∈ e.map (·.1)) → VRs (Im σ' w) w ((setE e u (.fp oc.xs)).map (·.2)) cs := by
    intro e0 e
    induction e generalizing e0 with
    | nil => intro cs _ h _; exact h
    | cons p r ih =>
      obtain ⟨i, y⟩ := p
      intro cs h0 hv hf
      obtain ⟨v0, cs', rfl, a, b⟩ := hv.head
      simp only [setE]
      split
      · rename_i hb
        have := Nat.eq_of_beq_eq_true hb
        subst this
        rcases hf with hf | hf
        · simp only [find, hb] at hf
          subst hf
          refine .cons ?_ b
          have hvv := a.w_inv
          subst hvv
          exact hc w _ hr (.w _)
        · exact absurd (by simp) hf
      · rename_i hb
        cases e0 with
        | nil => have := h0.1; simp at this
        | cons q e0 =>
          obtain ⟨c', cs'', e1, a', b'⟩ := h0.head
          cases e1
          refine .cons a (ih e0 cs' b' b ?_)
          rcases hf with hf | hf
          · simp only [find, hb] at hf; exact .inl hf
          · exact .inr fun hm => hf (by simp only [List.map_cons, List.mem_cons]; exact .inr hm)
  exact go env _ cs hv hs.2.2 (.inl k1)
/-- a result's cell -/
theorem Ret.cell {b : Nat} {X : Ob} {v : AV} {R : AV → Own → Prop} (hb : σ b = none) (h : R v σ) : Ret (Says gl) v (upd σ b X) R := Ret.sub (del_upd X hb) (.refl (del_upd X hb) _) h
theorem del_upd2 {b : Nat} (x y : Ob) (h : σ b = none) : Del (upd (upd σ b x) b y) σ := by rw [upd_upd]; exact del_upd y h
theorem Ret.cell2 {b : Nat} {X Y : Ob} {v : AV} {R : AV → Own → Prop} (hb : σ b = none) (h : R v σ) : Ret (Says gl) v (upd (upd σ b X) b Y) R := Ret.sub (del_upd2 X Y hb) (.refl (del_upd2 X Y hb) _) h
/-- a cell written, all given up -/
theorem del_at {S : Own} {b : Nat} (Z : Ob) (hn : σ b = none) (hd : Del S σ) : Del (upd S b Z) σ := fun k => by
  by_cases e : k = b
  · subst e; exact .inr (.inl hn)
  · rcases hd k with h1 | h1 | ⟨ob, j, h1, h2⟩
    · exact .inl (by rw [upd_ne _ e]; exact h1)
    · exact .inr (.inl h1)
    · exact .inr (.inr ⟨ob, j, by rw [upd_ne _ e]; exact h1, h2⟩)
theorem CallF.here {f : FuncId} {args : List AV} {v : AV} {K : AV → Prop} (h : ∀ E, ACalls P gl f args E fun v' σ' => v' = v ∧ σ' = E) (k : K v) : CallF (ACalls P gl) (Says gl) f args K := ⟨args, v, fun E => ⟨says_refl _, h E⟩, k⟩
theorem CallF.sub {f : FuncId} {args args' : List AV} {v : AV} {K : AV → Prop} (hs : ∀ E, Subs gl E E args args') (h : ∀ E, ACalls P gl f args' E fun v' σ' => v' = v ∧ σ' = E) (k : K v) : CallF (ACalls P gl) (Says gl) f args K := ⟨args', v, fun E => ⟨says_of .refl (hs E), h E⟩, k⟩
/-- two cells made one behind the other -/
theorem two_get {b1 b2 : Nat} {X Y : Ob} (h1 : σ b1 = none) (h2 : upd σ b1 X b2 = none) :
    b1 ≠ b2 ∧ σ b2 = none ∧ upd (upd σ b1 X) b2 Y b1 = some X ∧ upd (upd σ b1 X) b2 Y b2 = some Y ∧ Del (upd (upd σ b1 X) b2 Y) σ := by
  have n1 : b1 ≠ b2 := fun e => by subst e; simp [upd] at h2
  have k2 : σ b2 = none := by rw [upd_ne _ (fun e => n1 e.symm)] at h2; exact h2
  exact ⟨n1, k2, (upd_ne _ n1).trans (upd_same _ _ _), upd_same _ _ _, del_at _ k2 (del_upd _ h1)⟩
/-- two cells made and filled -/
theorem init2 {b1 b2 : Nat} {Z Z' : Ob} (h1 : σ b1 = none) (h2 : upd σ b1 Z b2 = none) (X Y : Ob) :
    upd (upd σ b1 Z) b2 Z' b1 = some Z ∧ upd (upd (upd σ b1 Z) b2 Z') b1 X b2 = some Z' ∧ upd (upd (upd (upd σ b1 Z) b2 Z') b1 X) b2 Y b1 = some X ∧ upd (upd (upd (upd σ b1 Z) b2 Z') b1 X) b2 Y b2 = some Y ∧ Del (upd (upd (upd (upd σ b1 Z) b2 Z') b1 X) b2 Y) σ ∧ σ b2 = none := by
  obtain ⟨n1, k2, g1, g2, hd⟩ := two_get (Y := Z') h1 h2
  exact ⟨g1, (upd_ne _ (fun e => n1 e.symm)).trans g2, (upd_ne _ n1).trans (upd_same _ _ _), upd_same _ _ _, del_at _ k2 (del_at _ h1 hd), k2⟩
end Go.Ab
namespace Go.Ab.Nn
/-- a sign and a size -/
def sgn (neg : Bool) (n : Nat) : Int := if neg then -(n : Int) else n
theorem sgn_abs (neg : Bool) (n : Nat) : (sgn neg n).natAbs = n := by unfold sgn; split <;> omega
theorem sgn_neg (neg : Bool) (n : Nat) : decide (sgn neg n < 0) = (neg && decide (0 < n)) := by
  unfold sgn
  cases neg <;> simp
theorem sgn_self (z : Int) : sgn (decide (z < 0)) z.natAbs = z := by
  unfold sgn
  by_cases h : z < 0
  · simp [h]; omega
  · simp [h]; omega
theorem sgn_mul (x y : Int) : sgn (decide (x < 0) != decide (y < 0)) (x.natAbs * y.natAbs) = x * y := by
  have h := Int.natAbs_mul x y
  rw [← h]
  by_cases hx : x < 0 <;> by_cases hy : y < 0
  · have := Int.mul_pos_of_neg_of_neg hx hy
    simp [sgn, hx, hy]; omega
  · have := Int.mul_nonneg (show 0 ≤ -x by omega) (show 0 ≤ y by omega)
    rw [Int.neg_mul] at this
    simp only [sgn, hx, hy]; simp; omega
  · have := Int.mul_nonneg (show 0 ≤ x by omega) (show 0 ≤ -y by omega)
    rw [Int.mul_neg] at this
    simp only [sgn, hx, hy]; simp; omega
  · have := Int.mul_nonneg (show 0 ≤ x by omega) (show 0 ≤ y by omega)
    simp [sgn, hx, hy]; omega
end Go.Ab.Nn
namespace Go.Ab
open Nn
set_option linter.unusedVariables false
/-- the cells of a whole number -/
def ic (z : Int) : List AV := [.w (.bool (decide (z < 0))), num z.natAbs]
def int (z : Int) : AV := .agg (ic z)
theorem int_sgn (neg : Bool) (n : Nat) : int (sgn neg n) = .agg [.w (.bool (neg && decide (0 < n))), num n] := by
  unfold int ic; rw [sgn_abs, sgn_neg]
theorem len_pos (n : Nat) : decide (((limbs n).length : Int) > 0) = decide (0 < n) := by
  rw [decide_eq_decide]
  rcases Nat.eq_zero_or_pos n with h | h
  · subst h; rw [limbs_zero]; simp
  · have : (limbs n).length ≠ 0 := fun e => by have := limbs_eq_nil.1 (List.eq_nil_of_length_eq_zero e); omega
    omega
theorem int_zero : int 0 = .agg [.w (.bool false), .fs [] 0] := by
  unfold int ic
  rw [show (0 : Int).natAbs = 0 from rfl]
  congr 2
  unfold num; rw [limbs_zero]; rfl
/-- three cells made one behind the other -/
theorem three_get {σ : Own} {b1 b2 b3 : Nat} {X Y Z : Ob} (h1 : σ b1 = none) (h2 : upd σ b1 X b2 = none) (h3 : upd (upd σ b1 X) b2 Y b3 = none) :
    b1 ≠ b2 ∧ b1 ≠ b3 ∧ b2 ≠ b3 ∧ upd (upd (upd σ b1 X) b2 Y) b3 Z b1 = some X ∧ upd (upd (upd σ b1 X) b2 Y) b3 Z b2 = some Y ∧ upd (upd (upd σ b1 X) b2 Y) b3 Z b3 = some Z ∧ Del (upd (upd (upd σ b1 X) b2 Y) b3 Z) σ ∧ σ b2 = none ∧ σ b3 = none := by
  have n1 : b1 ≠ b2 := fun e => by subst e; simp [upd] at h2
  have n3 : b2 ≠ b3 := fun e => by subst e; simp [upd] at h3
  have n2 : b1 ≠ b3 := fun e => by subst e; simp [upd, n1] at h3
  have k2 : σ b2 = none := by rw [upd_ne _ (fun e => n1 e.symm)] at h2; exact h2
  have k3 : σ b3 = none := by rw [upd_ne _ (fun e => n3 e.symm), upd_ne _ (fun e => n2 e.symm)] at h3; exact h3
  refine ⟨n1, n2, n3, by simp [upd, n1, n2], by simp [upd, n3], by simp [upd], fun k => ?_, k2, k3⟩
  by_cases e1 : k = b1
  · subst e1; exact .inr (.inl h1)
  · by_cases e2 : k = b2
    · subst e2; exact .inr (.inl k2)
    · by_cases e3 : k = b3
      · subst e3; exact .inr (.inl k3)
      · exact .inl (by simp [upd, e1, e2, e3])
end Go.Ab
namespace Go.Proofs.Ytoidllhkhljlaaa.Nat
open Go Go.Ab Go.Ab.Nn
set_option linter.unusedVariables false
set_option maxRecDepth 8000
variable {gl : Nat → Option (List AV)} {σ : Own}

theorem check_num (n : Nat) (hl : (limbs n).length < 1099511627776) : ACalls P gl F_nat_Check [num n] σ (fun v σ' => v = .w (.int .i64 0) ∧ σ' = σ) := by
  have := check_spec (gl := gl) (σ := σ) (limbs n) hl
  rw [mayB_limbs] at this
  exact this
theorem wof_spec (neg : Bool) (n : Nat) : ACalls P gl F_whole_of [.w (.bool neg), num n] σ (fun v σ' => v = int (sgn neg n) ∧ σ' = σ) := by
  refine C_whole_of.calls hm ?_
  refine fun b hb => ⟨fun h => ?_, fun h => ?_⟩
  · refine ⟨_, upd_same _ _ _, Nat.le_refl 2, _, rfl, _, upd_same _ _ _, _, rfl, rfl, Ret.cell2 hb ⟨?_, rfl⟩⟩
    rw [int_sgn, h, Bool.true_and, ← len_pos]; rfl
  · refine ⟨_, upd_same _ _ _, Nat.le_refl 2, _, rfl, _, upd_same _ _ _, _, rfl, rfl, Ret.cell2 hb ⟨?_, rfl⟩⟩
    rw [int_sgn, h]; rfl
theorem wgood_spec (z : Int) (hl : (limbs z.natAbs).length < 1099511627776) : ACalls P gl F_whole_good [int z] σ (fun v σ' => v = .w (.bool true) ∧ σ' = σ) := by
  refine C_whole_good.calls hm ?_
  refine ⟨_, rfl, CallVC.here (check_num z.natAbs hl) ?_⟩
  rintro v σ' ⟨rfl, rfl⟩
  refine ⟨fun _ => ⟨_, rfl, ⟨fun h1 => ⟨_, rfl, Ret.here ⟨?_, rfl⟩⟩, fun h1 => Ret.here ⟨rfl, rfl⟩⟩⟩, fun h1 => absurd h1 (by decide)⟩
  have h1 : z < 0 := by simpa using h1
  show AV.w (.bool (decide (((limbs z.natAbs).length : Int) > 0))) = _
  rw [len_pos, decide_eq_true (by omega)]
theorem wCheck_spec (z : Int) (hl : (limbs z.natAbs).length < 1099511627776) : ACalls P gl F_whole_Check [int z] σ (fun v σ' => v = .w (.int .i64 0) ∧ σ' = σ) := by
  refine C_whole_Check.calls hm ?_
  refine ⟨_, rfl, rfl, CallVC.here (wgood_spec z hl) ?_⟩
  rintro v σ' ⟨rfl, rfl⟩
  exact ⟨fun _ => Ret.here ⟨rfl, rfl⟩, fun h => by cases h⟩

theorem wneg_spec (z : Int) (hl : (limbs z.natAbs).length < 68719476736) : ACalls P gl F_whole_num_neg [int z] σ (fun v σ' => v = int (-z) ∧ σ' = σ) := by
  refine C_whole_num_neg.calls hm ?_
  refine fun b hb => Wk.here ⟨_, rfl, _, rfl, CallQ.here (clone_spec _ (by omega)).frozen ?_⟩
  refine CallQ.here (wof_spec _ z.natAbs) ?_
  refine ⟨_, upd_same _ _ _, Nat.le_refl 2, _, rfl, _, upd_same _ _ _, _, rfl, rfl, Ret.cell2 hb ⟨?_, rfl⟩⟩
  have e : sgn (!decide (z < 0)) z.natAbs = -z := by
    unfold sgn
    by_cases h : z < 0
    · simp [h]; omega
    · simp [h]; omega
  rw [← e]; rfl
theorem wtimes_spec (x y : Int) (hx : (limbs x.natAbs).length < 68719476736) (hy : (limbs y.natAbs).length < 68719476736) : ACalls P gl F_whole_num_times [int x, int y] σ (fun v σ' => v = int (x * y) ∧ σ' = σ) := by
  refine C_whole_num_times.calls hm ?_
  refine fun b hb => ⟨_, rfl, _, rfl, CallVC.here (Mul_spec x.natAbs y.natAbs (by omega)).numE ?_⟩
  rintro v σ' ⟨rfl, rfl⟩
  refine ⟨_, rfl, _, rfl, _, rfl, _, rfl, CallVC.here (wof_spec _ (x.natAbs * y.natAbs)) ?_⟩
  rintro v σ' ⟨rfl, rfl⟩
  refine ⟨_, upd_same _ _ _, Nat.le_refl 2, _, rfl, _, upd_same _ _ _, _, rfl, rfl, Ret.cell2 hb ⟨?_, rfl⟩⟩
  have e := sgn_mul x y
  rw [← e]; rfl
theorem wplus_spec (x y : Int) (hx : (limbs x.natAbs).length < 68719476736) (hy : (limbs y.natAbs).length < 68719476736) : ACalls P gl F_whole_num_plus [int x, int y] σ (fun v σ' => v = int (x + y) ∧ σ' = σ) := by
  refine C_whole_num_plus.calls hm ?_
  refine fun b1 h1 b2 h2 b3 h3 => ?_
  obtain ⟨n1, n2, n3, g1, g2, g3, hd, k2, k3⟩ := three_get (X := ⟨ic x, 2⟩) (Y := ⟨ic y, 2⟩) (Z := ⟨[.w (.bool false), .w (.slice none 0 0)], 2⟩) h1 h2 h3
  refine ⟨_, g1, _, rfl, _, g2, _, rfl, ⟨fun h => ?_, fun h => ?_⟩⟩
  · have h : decide (x < 0) = decide (y < 0) := by simpa using h
    refine ⟨_, g1, _, rfl, _, g2, _, rfl, CallVC.here (Add_spec x.natAbs y.natAbs (by omega) (by omega)).numE ?_⟩
    rintro v S ⟨rfl, rfl⟩
    refine ⟨_, rfl, _, rfl, _, g1, _, rfl, CallVC.here (wof_spec _ (x.natAbs + y.natAbs)) ?_⟩
    rintro v S ⟨rfl, rfl⟩
    have hd2 := fun Z => del_at (Z := Z) k3 hd
    refine ⟨_, g3, Nat.le_refl 2, _, rfl, _, upd_same _ _ _, _, rfl, rfl, Ret.sub (hd2 _) (.refl (hd2 _) _) ⟨?_, rfl⟩⟩
    have e : sgn (decide (x < 0)) (x.natAbs + y.natAbs) = x + y := by
      unfold sgn
      by_cases hx : x < 0
      · have hy : y < 0 := by rw [decide_eq_true hx] at h; exact of_decide_eq_true h.symm
        simp [hx]; omega
      · have hy : ¬ y < 0 := by rw [decide_eq_false hx] at h; exact of_decide_eq_false h.symm
        simp [hx]; omega
    rw [← e]; rfl
  · have h : decide (x < 0) ≠ decide (y < 0) := by simpa using h
    refine ⟨_, g1, _, rfl, _, g2, _, rfl, CallVC.here (Cmp_num x.natAbs y.natAbs (by omega) (by omega)) ?_⟩
    rintro v S ⟨rfl, rfl⟩
    refine have key : ∀ (S : Own) (p q : Int), S b1 = some ⟨ic p, 2⟩ → S b2 = some ⟨ic q, 2⟩ → S b3 = some ⟨[.w (.bool false), .w (.slice none 0 0)], 2⟩ → Del S σ → q.natAbs ≤ p.natAbs → p + q = x + y → decide (p < 0) ≠ decide (q < 0) → (limbs p.natAbs).length < 68719476736 → (limbs q.natAbs).length < 68719476736 → vc (cx P gl) S_whole_num_plus_j1 _ [(2, .w (.pointer (some ⟨b1, 0, none⟩))), (3, .w (.pointer (some ⟨b2, 0, none⟩))), (4, .w (.pointer (some ⟨b3, 0, none⟩)))] S := ?_;
      ⟨fun hlt => ⟨_, g2, _, rfl, rfl, _, g1, _, rfl, rfl, _, g1, Nat.le_refl 2, _, rfl, _, (upd_ne _ (fun e => n1 e.symm)).trans g2, Nat.le_refl 2, _, rfl, Wk.here (key _ y x ?_ ?_ ?_ ?_ ?_ ?_ ?_ hy hx)⟩,
       fun hge => Wk.here (key _ x y g1 g2 g3 hd ?_ rfl h hx hy)⟩
    · intro S p q g1 g2 g3 hd hle he hne hp hq
      refine ⟨_, g1, _, rfl, _, g2, _, rfl, CallVC.here (SubE_spec p.natAbs q.natAbs (by omega) (by omega)) ?_⟩
      rintro v S ⟨rfl, rfl⟩
      refine ⟨_, rfl, _, rfl, _, g1, _, rfl, CallVC.here (wof_spec _ (p.natAbs - q.natAbs)) ?_⟩
      rintro v S ⟨rfl, rfl⟩
      have hd2 := fun Z => del_at (Z := Z) k3 hd
      refine ⟨_, g3, Nat.le_refl 2, _, rfl, _, upd_same _ _ _, _, rfl, rfl, Ret.sub (hd2 _) (.refl (hd2 _) _) ⟨?_, rfl⟩⟩
      have e : sgn (decide (p < 0)) (p.natAbs - q.natAbs) = x + y := by
        rw [← he]
        unfold sgn
        by_cases hp : p < 0
        · have hq : ¬ q < 0 := fun hq => hne (by rw [decide_eq_true hp, decide_eq_true hq])
          simp [hp]; omega
        · have hq : q < 0 := Decidable.of_not_not fun hq => hne (by rw [decide_eq_false hp, decide_eq_false hq])
          simp [hp]; omega
      rw [← e]; rfl
    · exact (upd_ne _ n1).trans (upd_same _ _ _)
    · exact upd_same _ _ _
    · exact (upd_ne _ (fun e => n3 e.symm)).trans ((upd_ne _ (fun e => n2 e.symm)).trans g3)
    · exact del_at _ k2 (del_at _ h1 hd)
    · have hlt := (c3_lt0 (m := x.natAbs) (n := y.natAbs)).1 (of_decide_eq_true hlt)
      omega
    · exact Int.add_comm _ _
    · exact fun e => h e.symm
    · have hge := of_decide_eq_false hge
      rcases Nat.lt_or_ge x.natAbs y.natAbs with h2 | h2
      · exact absurd ((c3_lt0 (m := x.natAbs) (n := y.natAbs)).2 h2) hge
      · exact h2
end Go.Proofs.Ytoidllhkhljlaaa.Nat
namespace Go.Ab.Nn
set_option linter.unusedSimpArgs false
theorem natAbs_lt {z : Int} (h : z ≠ 0) : 0 < z.natAbs := by omega
/-- rounded down, by sizes -/
theorem div_sizes (x y : Int) (hy : y ≠ 0) :
    (x.natAbs % y.natAbs = 0 ∨ decide (x < 0) = decide (y < 0) → x.fdiv y = sgn (!(decide (x < 0) == decide (y < 0))) (x.natAbs / y.natAbs) ∧ x.fmod y = sgn (decide (x < 0)) (x.natAbs % y.natAbs)) ∧
    (x.natAbs % y.natAbs ≠ 0 → decide (x < 0) ≠ decide (y < 0) → x.fdiv y = sgn (!(decide (x < 0) == decide (y < 0))) (x.natAbs / y.natAbs) - 1 ∧ x.fmod y = sgn (decide (x < 0)) (x.natAbs % y.natAbs) + y) := by
  have key : ∀ q r : Int, x = y * q + r → (0 < y → 0 ≤ r ∧ r < y) → (y < 0 → y < r ∧ r ≤ 0) → x.fdiv y = q ∧ x.fmod y = r := by
    intro q r h h1 h2
    have e : x = r + y * q := by omega
    have hm : x.fmod y = r.fmod y := by rw [e, Int.add_mul_fmod_self_left]
    have hq : x.fdiv y = r.fdiv y + q := by rw [e, Int.add_mul_fdiv_left _ _ hy]
    have hr : r.fdiv y = 0 ∧ r.fmod y = r := by
      rcases Int.lt_or_gt_of_ne hy with h3 | h3
      · obtain ⟨h4, h5⟩ := h2 h3
        have e1 := Int.neg_fdiv_neg r y
        have e2 := Int.neg_fmod_neg r y
        have e3 : (-r).fdiv (-y) = 0 := by rw [Int.fdiv_eq_ediv_of_nonneg _ (by omega)]; exact Int.ediv_eq_zero_of_lt (by omega) (by omega)
        have e4 : (-r).fmod (-y) = -r := by rw [Int.fmod_eq_emod_of_nonneg _ (by omega)]; exact Int.emod_eq_of_lt (by omega) (by omega)
        omega
      · obtain ⟨h4, h5⟩ := h1 h3
        rw [Int.fdiv_eq_ediv_of_nonneg _ (by omega), Int.fmod_eq_emod_of_nonneg _ (by omega)]
        exact ⟨Int.ediv_eq_zero_of_lt h4 h5, Int.emod_eq_of_lt h4 h5⟩
    omega
  have hp : 0 < y.natAbs := by omega
  have hdm := Nat.div_add_mod x.natAbs y.natAbs
  have hlt := Nat.mod_lt x.natAbs hp
  generalize hqq : x.natAbs / y.natAbs = q at *
  generalize hrr : x.natAbs % y.natAbs = r at *
  have hdm' : ((y.natAbs * q + r : Nat) : Int) = x.natAbs := by rw [hdm]
  rw [Int.natCast_add, Int.natCast_mul] at hdm'
  by_cases hx0 : x < 0 <;> by_cases hy0 : y < 0
  · have ex : (x.natAbs : Int) = -x := by omega
    have ey : (y.natAbs : Int) = -y := by omega
    rw [ex, ey, Int.neg_mul] at hdm'
    refine ⟨fun _ => ?_, fun _ h => absurd (by simp [hx0, hy0]) h⟩
    simp only [sgn, hx0, hy0, decide_true, beq_self_eq_true, Bool.not_true, Bool.false_eq_true, if_false, if_true]
    exact key _ _ (by omega) (fun h => by omega) (fun _ => by omega)
  · have ex : (x.natAbs : Int) = -x := by omega
    have ey : (y.natAbs : Int) = y := by omega
    rw [ex, ey] at hdm'
    have e1 : y * (-(q : Int)) = -(y * q) := Int.mul_neg _ _
    have e2 : y * (-(q : Int) - 1) = -(y * q) - y := by rw [Int.mul_sub, Int.mul_neg, Int.mul_one]
    simp only [sgn, hx0, hy0, decide_true, decide_false, Bool.true_eq_false, Bool.false_eq_true, if_true, beq_iff_eq, ne_eq, not_false_eq_true, or_false, show (!(true == false)) = true from rfl]
    exact ⟨fun h => key _ _ (by omega) (fun h => by omega) (fun _ => by omega), fun h _ => key _ _ (by omega) (fun h => by omega) (fun _ => by omega)⟩
  · have ex : (x.natAbs : Int) = x := by omega
    have ey : (y.natAbs : Int) = -y := by omega
    rw [ex, ey, Int.neg_mul] at hdm'
    have e1 : y * (-(q : Int)) = -(y * q) := Int.mul_neg _ _
    have e2 : y * (-(q : Int) - 1) = -(y * q) - y := by rw [Int.mul_sub, Int.mul_neg, Int.mul_one]
    simp only [sgn, hx0, hy0, decide_true, decide_false, Bool.false_eq_true, if_true, if_false, ne_eq, not_false_eq_true, or_false, show (!(false == true)) = true from rfl]
    exact ⟨fun h => key _ _ (by omega) (fun h => by omega) (fun _ => by omega), fun h _ => key _ _ (by omega) (fun h => by omega) (fun _ => by omega)⟩
  · have ex : (x.natAbs : Int) = x := by omega
    have ey : (y.natAbs : Int) = y := by omega
    rw [ex, ey] at hdm'
    refine ⟨fun _ => ?_, fun _ h => absurd (by simp [hx0, hy0]) h⟩
    simp only [sgn, hx0, hy0, decide_false, beq_self_eq_true, Bool.not_true, Bool.false_eq_true, if_false]
    exact key _ _ (by omega) (fun h => by omega) (fun _ => by omega)
end Go.Ab.Nn
namespace Go.Proofs.Ytoidllhkhljlaaa.Nat
open Go Go.Ab Go.Ab.Nn
set_option linter.unusedVariables false
set_option maxRecDepth 8000
variable {gl : Nat → Option (List AV)} {σ : Own}

theorem wless_spec (x y : Int) (hx : (limbs x.natAbs).length < 68719476736) (hy : (limbs y.natAbs).length < 68719476736) : ACalls P gl F_whole_num_less [int x, int y] σ (fun v σ' => v = int (x - y) ∧ σ' = σ) := by
  refine C_whole_num_less.calls hm ?_
  refine fun b hb => Wk.here ⟨_, rfl, rfl, _, rfl, rfl, CallQ.here (wneg_spec y hy) ?_⟩
  refine CallQ.here (wplus_spec x (-y) hx (by rw [Int.natAbs_neg]; exact hy)) ?_
  refine ⟨_, upd_same _ _ _, Nat.le_refl 2, _, rfl, _, upd_same _ _ _, _, rfl, rfl, Ret.cell2 hb ⟨?_, rfl⟩⟩
  rw [Int.sub_eq_add_neg]; rfl
theorem wcalls_spec : ACalls P gl F_whole_calls [] σ (fun v σ' => v = .ff [.w (.func (.func F_whole_num_plus) #[] #[]), .w (.func (.func F_whole_num_less) #[] #[]), .w (.func (.func F_whole_num_times) #[] #[])] 3 ∧ σ' = σ) := by
  refine C_whole_calls.calls hm ?_
  exact Ret.here ⟨rfl, rfl⟩
def intE (z : Int) : AV := .tup [int z, .w (.int .i64 0)]
theorem reckon0_spec (x y : Int) (hx : (limbs x.natAbs).length < 68719476736) (hy : (limbs y.natAbs).length < 68719476736) : ACalls P gl F_whole_reckon [.w (.int .i64 0), int x, int y] σ (fun v σ' => v = intE (x + y) ∧ σ' = σ) := by
  refine C_whole_reckon.calls hm ?_
  refine fun b hb => ⟨_, rfl, rfl, CallVC.here (wgood_spec x (by omega)) ?_⟩
  rintro v σ' ⟨rfl, rfl⟩
  refine ⟨fun _ => ⟨_, rfl, rfl, CallVC.here (wgood_spec y (by omega)) ?_⟩, fun h => by cases h⟩
  rintro v σ' ⟨rfl, rfl⟩
  refine ⟨(fun h => by cases h), fun _ => Wk.here (CallQ.here wcalls_spec ⟨0, rfl, by omega, _, rfl, _, rfl, rfl, _, rfl, rfl, CallQ.here (wplus_spec x y hx hy) ?_⟩)⟩
  exact ⟨_, upd_same _ _ _, Nat.le_refl 2, _, rfl, _, upd_same _ _ _, _, rfl, rfl, Ret.cell2 hb ⟨rfl, rfl⟩⟩
theorem reckon1_spec (x y : Int) (hx : (limbs x.natAbs).length < 68719476736) (hy : (limbs y.natAbs).length < 68719476736) : ACalls P gl F_whole_reckon [.w (.int .i64 1), int x, int y] σ (fun v σ' => v = intE (x - y) ∧ σ' = σ) := by
  refine C_whole_reckon.calls hm ?_
  refine fun b hb => ⟨_, rfl, rfl, CallVC.here (wgood_spec x (by omega)) ?_⟩
  rintro v σ' ⟨rfl, rfl⟩
  refine ⟨fun _ => ⟨_, rfl, rfl, CallVC.here (wgood_spec y (by omega)) ?_⟩, fun h => by cases h⟩
  rintro v σ' ⟨rfl, rfl⟩
  refine ⟨(fun h => by cases h), fun _ => Wk.here (CallQ.here wcalls_spec ⟨1, rfl, by omega, _, rfl, _, rfl, rfl, _, rfl, rfl, CallQ.here (wless_spec x y hx hy) ?_⟩)⟩
  exact ⟨_, upd_same _ _ _, Nat.le_refl 2, _, rfl, _, upd_same _ _ _, _, rfl, rfl, Ret.cell2 hb ⟨rfl, rfl⟩⟩
theorem reckon2_spec (x y : Int) (hx : (limbs x.natAbs).length < 68719476736) (hy : (limbs y.natAbs).length < 68719476736) : ACalls P gl F_whole_reckon [.w (.int .i64 2), int x, int y] σ (fun v σ' => v = intE (x * y) ∧ σ' = σ) := by
  refine C_whole_reckon.calls hm ?_
  refine fun b hb => ⟨_, rfl, rfl, CallVC.here (wgood_spec x (by omega)) ?_⟩
  rintro v σ' ⟨rfl, rfl⟩
  refine ⟨fun _ => ⟨_, rfl, rfl, CallVC.here (wgood_spec y (by omega)) ?_⟩, fun h => by cases h⟩
  rintro v σ' ⟨rfl, rfl⟩
  refine ⟨(fun h => by cases h), fun _ => Wk.here (CallQ.here wcalls_spec ⟨2, rfl, by omega, _, rfl, _, rfl, rfl, _, rfl, rfl, CallQ.here (wtimes_spec x y hx hy) ?_⟩)⟩
  exact ⟨_, upd_same _ _ _, Nat.le_refl 2, _, rfl, _, upd_same _ _ _, _, rfl, rfl, Ret.cell2 hb ⟨rfl, rfl⟩⟩
theorem wAdd_spec (x y : Int) (hx : (limbs x.natAbs).length < 68719476736) (hy : (limbs y.natAbs).length < 68719476736) : ACalls P gl F_whole_Add [int x, int y] σ (fun v σ' => v = intE (x + y) ∧ σ' = σ) := by
  refine C_whole_Add.calls hm ?_
  refine fun b hb => ⟨_, rfl, rfl, _, rfl, rfl, CallVC.here (reckon0_spec x y hx hy) ?_⟩
  rintro v σ' ⟨rfl, rfl⟩
  exact ⟨_, rfl, _, rfl, _, upd_same _ _ _, Nat.le_refl 2, _, rfl, _, upd_same _ _ _, _, rfl, rfl, Ret.cell2 hb ⟨rfl, rfl⟩⟩
theorem wSub_spec (x y : Int) (hx : (limbs x.natAbs).length < 68719476736) (hy : (limbs y.natAbs).length < 68719476736) : ACalls P gl F_whole_Sub [int x, int y] σ (fun v σ' => v = intE (x - y) ∧ σ' = σ) := by
  refine C_whole_Sub.calls hm ?_
  refine fun b hb => ⟨_, rfl, rfl, _, rfl, rfl, CallVC.here (reckon1_spec x y hx hy) ?_⟩
  rintro v σ' ⟨rfl, rfl⟩
  exact ⟨_, rfl, _, rfl, _, upd_same _ _ _, Nat.le_refl 2, _, rfl, _, upd_same _ _ _, _, rfl, rfl, Ret.cell2 hb ⟨rfl, rfl⟩⟩
theorem wMul_spec (x y : Int) (hx : (limbs x.natAbs).length < 68719476736) (hy : (limbs y.natAbs).length < 68719476736) : ACalls P gl F_whole_Mul [int x, int y] σ (fun v σ' => v = intE (x * y) ∧ σ' = σ) := by
  refine C_whole_Mul.calls hm ?_
  refine fun b hb => ⟨_, rfl, rfl, _, rfl, rfl, CallVC.here (reckon2_spec x y hx hy) ?_⟩
  rintro v σ' ⟨rfl, rfl⟩
  exact ⟨_, rfl, _, rfl, _, upd_same _ _ _, Nat.le_refl 2, _, rfl, _, upd_same _ _ _, _, rfl, rfl, Ret.cell2 hb ⟨rfl, rfl⟩⟩
theorem wNeg_spec (z : Int) (hl : (limbs z.natAbs).length < 68719476736) : ACalls P gl F_whole_Neg [int z] σ (fun v σ' => v = int (-z) ∧ σ' = σ) := by
  refine C_whole_Neg.calls hm ?_
  refine fun b hb => ⟨_, rfl, rfl, CallVC.here (wgood_spec z (by omega)) ?_⟩
  rintro v σ' ⟨rfl, rfl⟩
  refine ⟨(fun h => by cases h), fun _ => ⟨_, rfl, rfl, CallVC.here (wneg_spec z hl) ?_⟩⟩
  rintro v σ' ⟨rfl, rfl⟩
  exact ⟨_, upd_same _ _ _, Nat.le_refl 2, _, rfl, _, upd_same _ _ _, _, rfl, rfl, Ret.cell2 hb ⟨rfl, rfl⟩⟩
theorem wSign_spec (z : Int) (hl : (limbs z.natAbs).length < 68719476736) : ACalls P gl F_whole_Sign [int z] σ (fun v σ' => v = .w (.int .i64 z.sign) ∧ σ' = σ) := by
  refine C_whole_Sign.calls hm ?_
  refine ⟨_, rfl, rfl, CallVC.here (wgood_spec z (by omega)) ?_⟩
  rintro v σ' ⟨rfl, rfl⟩
  refine ⟨fun _ => ⟨_, rfl, ⟨fun h => ?_, fun h => ⟨_, rfl, ⟨fun h2 => ?_, fun h2 => ?_⟩⟩⟩⟩, fun h => by cases h⟩
  · have h : (limbs z.natAbs).length = 0 := by simpa using h
    have h := limbs_eq_nil.1 (List.eq_nil_of_length_eq_zero h)
    have : z = 0 := by omega
    subst this
    exact Ret.here ⟨rfl, rfl⟩
  · have h2 : z < 0 := by simpa using h2
    exact Ret.here ⟨by rw [Int.sign_eq_neg_one_of_neg h2], rfl⟩
  · have h2 : ¬ z < 0 := by simpa using h2
    have h : (limbs z.natAbs).length ≠ 0 := by intro e; rw [e] at h; simp at h
    have hz : z ≠ 0 := by rintro rfl; exact h (by rw [show (0 : Int).natAbs = 0 from rfl, limbs_zero]; rfl)
    exact Ret.here ⟨by rw [Int.sign_eq_one_of_pos (by omega)], rfl⟩
theorem sub_small {x y : Int} (hx : (limbs x.natAbs).length < 17179869184) (hy : (limbs y.natAbs).length < 17179869184) : (limbs (x - y).natAbs).length < 68719476736 := by
  have h1 := len_mono (Int.natAbs_sub_le x y)
  have h2 := len_add x.natAbs y.natAbs
  omega
theorem add_small {x y : Int} (hx : (limbs x.natAbs).length < 17179869184) (hy : (limbs y.natAbs).length < 17179869184) : (limbs (x + y).natAbs).length < 68719476736 := by
  have h1 := len_mono (Int.natAbs_add_le x y)
  have h2 := len_add x.natAbs y.natAbs
  omega
theorem wCmp_spec (x y : Int) (hx : (limbs x.natAbs).length < 17179869184) (hy : (limbs y.natAbs).length < 17179869184) : ACalls P gl F_whole_Cmp [int x, int y] σ (fun v σ' => v = .w (.int .i64 (x - y).sign) ∧ σ' = σ) := by
  refine C_whole_Cmp.calls hm ?_
  refine ⟨_, rfl, rfl, CallVC.here (wgood_spec x (by omega)) ?_⟩
  rintro v σ' ⟨rfl, rfl⟩
  refine ⟨fun _ => ⟨_, rfl, rfl, CallVC.here (wgood_spec y (by omega)) ?_⟩, fun h => by cases h⟩
  rintro v σ' ⟨rfl, rfl⟩
  refine ⟨(fun h => by cases h), fun _ => ⟨_, rfl, rfl, _, rfl, rfl, CallVC.here (wless_spec x y (by omega) (by omega)) ?_⟩⟩
  rintro v σ' ⟨rfl, rfl⟩
  refine CallVC.here (wSign_spec (x - y) (sub_small hx hy)) ?_
  rintro v σ' ⟨rfl, rfl⟩
  exact Ret.here ⟨rfl, rfl⟩
theorem wFrom_spec (n : Int) (h0 : -9223372036854775808 ≤ n) (h1 : n ≤ 9223372036854775807) : ACalls P gl F_whole_From [.w (.int .i64 n)] σ (fun v σ' => v = int n ∧ σ' = σ) := by
  refine C_whole_From.calls hm ?_
  refine fun b hb => ⟨fun h => ?_, fun h => ?_⟩
  · have h : n < 0 := of_decide_eq_true h
    refine ⟨_, wu, (n.natAbs : Nat), by rw [wu]; omega, CallVC.here (from_spec n.natAbs (by omega)) ?_⟩
    rintro v σ' ⟨rfl, rfl⟩
    refine ⟨_, upd_same _ _ _, Nat.le_refl 2, _, rfl, _, upd_same _ _ _, _, rfl, rfl, Ret.cell2 hb ⟨?_, rfl⟩⟩
    unfold int ic; rw [decide_eq_true h]; rfl
  · have h : ¬ n < 0 := of_decide_eq_false h
    refine ⟨(n.natAbs : Nat), by rw [wu]; omega, CallVC.here (from_spec n.natAbs (by omega)) ?_⟩
    rintro v σ' ⟨rfl, rfl⟩
    refine ⟨_, upd_same _ _ _, Nat.le_refl 2, _, rfl, _, upd_same _ _ _, _, rfl, rfl, Ret.cell2 hb ⟨?_, rfl⟩⟩
    unfold int ic; rw [decide_eq_false h]; rfl
theorem EqInt_spec (x y : Int) (hx : (limbs x.natAbs).length < 68719476736) : ACalls P gl F_gaugeref0_EqInt [int x, int y] σ (fun v σ' => v = .w (.bool (decide (x = y))) ∧ σ' = σ) := by
  refine C_gaugeref0_EqInt.calls hm ?_
  refine ⟨_, rfl, _, rfl, ⟨fun h => ⟨_, rfl, _, rfl, CallVC.here (EqNum x.natAbs y.natAbs (by omega)) ?_⟩, fun h => Ret.here ⟨?_, rfl⟩⟩⟩
  · rintro v σ' ⟨rfl, rfl⟩
    refine Ret.here ⟨?_, rfl⟩
    have h : decide (x < 0) = decide (y < 0) := by simpa using h
    rw [decide_eq_decide.2 (show x.natAbs = y.natAbs ↔ x = y from ?_)]
    by_cases h2 : x < 0
    · rw [decide_eq_true h2] at h; have := of_decide_eq_true h.symm; omega
    · rw [decide_eq_false h2] at h; have := of_decide_eq_false h.symm; omega
  · have h : decide (x < 0) ≠ decide (y < 0) := by simpa using h
    rw [decide_eq_false]
    rintro rfl; exact h rfl
end Go.Proofs.Ytoidllhkhljlaaa.Nat
namespace Go.Proofs.Ytoidllhkhljlaaa.Nat
open Go Go.Ab Go.Ab.Nn
set_option linter.unusedVariables false
set_option maxRecDepth 8000
variable {gl : Nat → Option (List AV)} {σ : Own}

theorem wdivide_spec (x y : Int) (hy0 : y ≠ 0) (hx : (limbs x.natAbs).length < 17179869184) (hy : (limbs y.natAbs).length < 17179869184) : ACalls P gl F_whole_divide [int x, int y] σ (fun v σ' => v = .tup [int (x.fdiv y), int (x.fmod y)] ∧ σ' = σ) := by
  refine C_whole_divide.calls hm ?_
  refine fun b4 h4 b5 h5 => ?_
  obtain ⟨n1, k5, g4, g5, hd⟩ := two_get (X := ⟨[.w (.bool false), .w (.slice none 0 0)], 2⟩) (Y := ⟨[.w (.bool false), .w (.slice none 0 0)], 2⟩) h4 h5
  obtain ⟨D1, D2⟩ := div_sizes x y hy0
  have hyp : 0 < y.natAbs := natAbs_lt hy0
  have lq := len_mono (Nat.div_le_self x.natAbs y.natAbs)
  have lr := len_mono (Nat.le_of_lt (Nat.mod_lt x.natAbs hyp))
  refine ⟨_, rfl, _, rfl, CallVC.here (DivMod_spec x.natAbs y.natAbs hyp (by omega) (by omega)) ?_⟩
  rintro v S ⟨rfl, rfl⟩
  generalize x.natAbs / y.natAbs = q at *
  generalize hrr : x.natAbs % y.natAbs = r at *
  refine ⟨_, rfl, _, rfl, _, rfl, Wk.here ⟨_, rfl, _, rfl, CallF.here (fun E => wof_spec _ q) ⟨_, rfl, CallF.here (fun E => wof_spec _ r) ⟨_, g4, Nat.le_refl 2, _, rfl, _, (upd_ne _ (fun e => n1 e.symm)).trans g5, Nat.le_refl 2, _, rfl, ?_⟩⟩⟩⟩
  have f4 : ∀ (S : Own) (X Y : Ob), upd (upd S b4 X) b5 Y b4 = some X := fun S X Y => (upd_ne _ n1).trans (upd_same _ _ _)
  have hdd : ∀ (X Y : Ob), Del (upd (upd (upd (upd σ b4 ⟨[.w (.bool false), .w (.slice none 0 0)], 2⟩) b5 ⟨[.w (.bool false), .w (.slice none 0 0)], 2⟩) b4 X) b5 Y) σ := fun X Y => del_at _ k5 (del_at _ h4 hd)
  refine have key : ∀ (S : Own) (p s : Int), S b4 = some ⟨ic p, 2⟩ → S b5 = some ⟨ic s, 2⟩ → Del S σ → p = x.fdiv y → s = x.fmod y → vc (cx P gl) S_whole_divide_j1 _ [(4, .w (.pointer (some ⟨b4, 0, none⟩))), (5, .w (.pointer (some ⟨b5, 0, none⟩)))] S := ?_;
    ⟨fun hr => ⟨_, rfl, _, rfl, ⟨fun hne => ?_, fun heq => Wk.here (key _ _ _ (f4 _ _ _) (upd_same _ _ _) (hdd _ _) ?_ ?_)⟩⟩, fun hr0 => ⟨(fun h => by cases h), fun _ => Wk.here (key _ _ _ (f4 _ _ _) (upd_same _ _ _) (hdd _ _) ?_ ?_)⟩⟩
  · rintro S p s e4 e5 hd rfl rfl
    have hd' := fun X Y => del_at Y k5 (del_at X h4 hd)
    refine ⟨_, e4, _, rfl, rfl, ⟨n1, trivial⟩, _, e5, _, rfl, rfl, _, e4, Nat.le_refl 2, _, rfl, _, (upd_ne _ (fun e => n1 e.symm)).trans e5, Nat.le_refl 2, _, rfl, _, f4 _ _ _, _, rfl, rfl, _, upd_same _ _ _, _, rfl, rfl, Ret.sub (hd' _ _) (.refl (hd' _ _) _) ⟨rfl, rfl⟩⟩
  · have hne : decide (x < 0) ≠ decide (y < 0) := by simpa using hne
    have hr : r ≠ 0 := by
      have := hr
      rw [len_pos] at this
      have := of_decide_eq_true this
      omega
    obtain ⟨e1, e2⟩ := D2 hr hne
    have la : (sgn (!(decide (x < 0) == decide (y < 0))) q).natAbs = q := sgn_abs _ _
    have lb : (sgn (decide (x < 0)) r).natAbs = r := sgn_abs _ _
    have l1 : (limbs (1 : Int).natAbs).length ≤ 1 := limbs_len_le (by decide)
    refine Wk.here ⟨_, f4 _ _ _, _, rfl, rfl, CallF.here (fun E => wFrom_spec 1 (by decide) (by decide)) (CallF.here (fun E => wless_spec (sgn (!(decide (x < 0) == decide (y < 0))) q) 1 (by rw [la]; omega) (by omega)) ?_)⟩
    refine ⟨_, upd_same _ _ _, _, rfl, rfl, _, rfl, rfl, CallF.here (fun E => wplus_spec (sgn (decide (x < 0)) r) y (by rw [lb]; omega) (by omega)) ?_⟩
    refine ⟨_, f4 _ _ _, Nat.le_refl 2, _, rfl, _, (upd_ne _ (fun e => n1 e.symm)).trans (upd_same _ _ _), Nat.le_refl 2, _, rfl, Wk.here (key _ _ _ (f4 _ _ _) (upd_same _ _ _) (del_at _ k5 (del_at _ h4 (hdd _ _))) e1.symm e2.symm)⟩
  · have heq : decide (x < 0) = decide (y < 0) := by simpa using heq
    exact (D1 (.inr heq)).1.symm
  · have heq : decide (x < 0) = decide (y < 0) := by simpa using heq
    exact (D1 (.inr heq)).2.symm
  · have hr : r = 0 := by
      rw [len_pos] at hr0
      have := of_decide_eq_false hr0
      omega
    exact (D1 (.inl hr)).1.symm
  · have hr : r = 0 := by
      rw [len_pos] at hr0
      have := of_decide_eq_false hr0
      omega
    exact (D1 (.inl hr)).2.symm

theorem wDivide_spec (x y : Int) (hy0 : y ≠ 0) (hx : (limbs x.natAbs).length < 17179869184) (hy : (limbs y.natAbs).length < 17179869184) : ACalls P gl F_whole_Divide [int x, int y] σ (fun v σ' => v = .tup [int (x.fdiv y), int (x.fmod y), .w (.int .i64 0)] ∧ σ' = σ) := by
  refine C_whole_Divide.calls hm ?_
  refine fun b4 h4 b5 h5 => ?_
  obtain ⟨n1, k5, g4, g5, hd⟩ := two_get (X := ⟨[.w (.bool false), .w (.slice none 0 0)], 2⟩) (Y := ⟨[.w (.bool false), .w (.slice none 0 0)], 2⟩) h4 h5
  refine ⟨_, rfl, rfl, CallVC.here (wgood_spec x (by omega)) ?_⟩
  rintro v S ⟨rfl, hS⟩
  refine ⟨fun _ => ⟨_, rfl, rfl, CallVC.here (wgood_spec y (by omega)) ?_⟩, fun h => by cases h⟩
  rintro v S2 ⟨rfl, hS2⟩
  rw [hS] at hS2
  clear hS
  subst hS2
  refine ⟨(fun h => by cases h), fun _ => ⟨_, rfl, ⟨fun h => ?_, fun _ => ?_⟩⟩⟩
  · have h : (limbs y.natAbs).length = 0 := by simpa using h
    have := limbs_eq_nil.1 (List.eq_nil_of_length_eq_zero h)
    omega
  refine ⟨_, rfl, rfl, _, rfl, rfl, CallVC.here (wdivide_spec x y hy0 hx hy) ?_⟩
  rintro v S ⟨rfl, rfl⟩
  refine ⟨_, rfl, _, rfl, fun b7 h7 b8 h8 => ?_⟩
  obtain ⟨i1, i2, i3, i4, i5, i6⟩ := init2 h7 h8 ⟨ic (x.fdiv y), 2⟩ ⟨ic (x.fmod y), 2⟩ (Z' := ⟨[.w (.bool false), .w (.slice none 0 0)], 2⟩)
  refine ⟨_, i1, Nat.le_refl 2, _, rfl, _, i2, Nat.le_refl 2, _, rfl, Wk.frz2 7 8 rfl rfl i3 i4 i5 h7 i6 ?_⟩
  have hd' := fun X Y => del_at Y k5 (del_at X h4 hd)
  refine ⟨_, rfl, rfl, trivial, _, rfl, rfl, _, g4, Nat.le_refl 2, _, rfl, _, (upd_ne _ (fun e => n1 e.symm)).trans g5, Nat.le_refl 2, _, rfl, _, (upd_ne _ n1).trans (upd_same _ _ _), _, rfl, rfl, _, upd_same _ _ _, _, rfl, rfl, Ret.sub (hd' _ _) (.refl (hd' _ _) _) ⟨rfl, rfl⟩⟩

theorem Made_spec (neg : Bool) (n : Nat) : ACalls P gl F_gaugeref2_Made [.w (.bool neg), num n] σ (fun v σ' => v = int (sgn neg n) ∧ σ' = σ) := by
  refine C_gaugeref2_Made.calls hm ?_
  refine fun b hb => ⟨fun h => ?_, fun h => ?_⟩
  · refine ⟨_, upd_same _ _ _, Nat.le_refl 2, _, rfl, _, upd_same _ _ _, _, rfl, rfl, Ret.cell2 hb ⟨?_, rfl⟩⟩
    rw [int_sgn, h, Bool.true_and, ← len_pos]; rfl
  · refine ⟨_, upd_same _ _ _, Nat.le_refl 2, _, rfl, _, upd_same _ _ _, _, rfl, rfl, Ret.cell2 hb ⟨?_, rfl⟩⟩
    rw [int_sgn, h]; rfl
theorem Zero_spec (z : Int) : ACalls P gl F_gaugeref2_Zero [int z] σ (fun v σ' => v = .w (.bool (decide (z = 0))) ∧ σ' = σ) := by
  refine C_gaugeref2_Zero.calls hm ?_
  refine ⟨_, rfl, Ret.here ⟨?_, rfl⟩⟩
  congr 2
  rw [Bool.eq_iff_iff, decide_eq_true_iff, beq_iff_eq]
  constructor
  · intro h
    have := limbs_eq_nil.1 (List.eq_nil_of_length_eq_zero (show (limbs z.natAbs).length = 0 by omega))
    omega
  · rintro rfl
    rw [show (0 : Int).natAbs = 0 from rfl, limbs_zero]; rfl
theorem Size_spec (n : Int) (h0 : -9223372036854775808 ≤ n) (h1 : n ≤ 9223372036854775807) : ACalls P gl F_gaugeref2_Size [.w (.int .i64 n)] σ (fun v σ' => v = u n.natAbs ∧ σ' = σ) := by
  refine C_gaugeref2_Size.calls hm ?_
  refine ⟨fun h => ?_, fun h => ?_⟩
  · have h : n < 0 := of_decide_eq_true h
    exact ⟨_, wu, (n.natAbs : Nat), by rw [wu]; omega, Ret.here ⟨rfl, rfl⟩⟩
  · have h : ¬ n < 0 := of_decide_eq_false h
    exact ⟨(n.natAbs : Nat), by rw [wu]; omega, Ret.here ⟨rfl, rfl⟩⟩
theorem rFrom_spec (n : Int) (h0 : -9223372036854775808 ≤ n) (h1 : n ≤ 9223372036854775807) : ACalls P gl F_gaugeref2_From [.w (.int .i64 n)] σ (fun v σ' => v = int n ∧ σ' = σ) := by
  refine C_gaugeref2_From.calls hm ?_
  refine fun b hb => CallVC.here (Size_spec n h0 h1) ?_
  rintro v σ' ⟨rfl, rfl⟩
  refine CallVC.here (Of_spec n.natAbs (by omega)) ?_
  rintro v σ' ⟨rfl, rfl⟩
  refine CallVC.here (Made_spec _ n.natAbs) ?_
  rintro v σ' ⟨rfl, rfl⟩
  refine ⟨_, upd_same _ _ _, Nat.le_refl 2, _, rfl, _, upd_same _ _ _, _, rfl, rfl, Ret.cell2 hb ⟨?_, rfl⟩⟩
  have := sgn_self n
  exact congrArg int this
theorem lnum_spec (k : Int) : ACalls P gl F_gaugelaw2_num [.w (.int .i64 k)] σ (fun v σ' => v = .w (.int .i64 k) ∧ σ' = σ) := by
  refine C_gaugelaw2_num.calls hm ?_
  exact Ret.here ⟨rfl, rfl⟩
theorem lmade_spec (neg : Bool) (l : List Nat) (hw : W l) (hl : l.length < 1099511627776) : ACalls P gl F_gaugelaw2_made [.agg [.w (.bool neg), nat l]] σ (fun v σ' => v = int (sgn neg (val l)) ∧ σ' = σ) := by
  refine C_gaugelaw2_made.calls hm ?_
  refine fun b hb => Wk.here ⟨_, rfl, _, rfl, CallQ.here (Trim_spec l hw hl) (CallQ.here (Made_spec neg (val l)) ?_)⟩
  exact ⟨_, upd_same _ _ _, Nat.le_refl 2, _, rfl, _, upd_same _ _ _, _, rfl, rfl, Ret.cell2 hb ⟨rfl, rfl⟩⟩
theorem ladd_spec (x y : Int) (hx : (limbs x.natAbs).length < 68719476736) (hy : (limbs y.natAbs).length < 68719476736) : ACalls P gl F_gaugelaw2_add [int x, int y] σ (fun v σ' => v = int (x + y) ∧ σ' = σ) := by
  refine C_gaugelaw2_add.calls hm ?_
  refine fun b4 h4 => ⟨_, rfl, rfl, _, rfl, rfl, CallVC.here (wAdd_spec x y hx hy) ?_⟩
  rintro v σ' ⟨rfl, rfl⟩
  refine ⟨_, rfl, _, rfl, fun b5 h5 => ⟨_, upd_same _ _ _, Nat.le_refl 2, _, rfl, Wk.frz 5 rfl (upd_same _ _ _) (del_upd2 _ _ h5) h5 ⟨_, rfl, rfl, _, upd_same _ _ _, Nat.le_refl 2, _, rfl, _, upd_same _ _ _, _, rfl, rfl, Ret.cell2 h4 ⟨rfl, rfl⟩⟩⟩⟩
theorem lmul_spec (x y : Int) (hx : (limbs x.natAbs).length < 68719476736) (hy : (limbs y.natAbs).length < 68719476736) : ACalls P gl F_gaugelaw2_mul [int x, int y] σ (fun v σ' => v = int (x * y) ∧ σ' = σ) := by
  refine C_gaugelaw2_mul.calls hm ?_
  refine fun b4 h4 => ⟨_, rfl, rfl, _, rfl, rfl, CallVC.here (wMul_spec x y hx hy) ?_⟩
  rintro v σ' ⟨rfl, rfl⟩
  refine ⟨_, rfl, _, rfl, fun b5 h5 => ⟨_, upd_same _ _ _, Nat.le_refl 2, _, rfl, Wk.frz 5 rfl (upd_same _ _ _) (del_upd2 _ _ h5) h5 ⟨_, rfl, rfl, _, upd_same _ _ _, Nat.le_refl 2, _, rfl, _, upd_same _ _ _, _, rfl, rfl, Ret.cell2 h4 ⟨rfl, rfl⟩⟩⟩⟩
theorem small_abs {z : Int} (h : z.natAbs < 18446744073709551616) : (limbs z.natAbs).length ≤ 1 := limbs_len_le (by rw [Nat.pow_one]; exact h)
theorem lwakes_spec : ACalls P gl F_gaugelaw2_wakes [] σ (fun v σ' => v = .w (.bool true) ∧ σ' = σ) := by
  have l1 := small_abs (z := -7) (by decide)
  have l2 := small_abs (z := 2) (by decide)
  have l3 := small_abs (z := -4) (by decide)
  have l4 := small_abs (z := 1) (by decide)
  refine C_gaugelaw2_wakes.calls hm ?_
  refine CallVC.here (wFrom_spec (-7) (by decide) (by decide)) ?_
  rintro v σ' ⟨rfl, rfl⟩
  refine CallVC.here (wFrom_spec 2 (by decide) (by decide)) ?_
  rintro v σ' ⟨rfl, rfl⟩
  refine CallVC.here (wDivide_spec (-7) 2 (by decide) (by omega) (by omega)) ?_
  rintro v σ' ⟨rfl, rfl⟩
  refine ⟨_, rfl, _, rfl, _, rfl, fun b1 h1 b2 h2 => ?_⟩
  obtain ⟨i1, i2, i3, i4, i5, i6⟩ := init2 h1 h2 ⟨ic (Int.fdiv (-7) 2), 2⟩ ⟨ic (Int.fmod (-7) 2), 2⟩ (Z' := ⟨[.w (.bool false), .w (.slice none 0 0)], 2⟩)
  refine ⟨_, i1, Nat.le_refl 2, _, rfl, _, i2, Nat.le_refl 2, _, rfl, Wk.frz2 1 2 rfl rfl i3 i4 i5 h1 i6 ?_⟩
  refine Wk.here (CallQ.here (lnum_spec 0) ⟨fun _ => ⟨_, rfl, rfl, CallQ.here (rFrom_spec (-4) (by decide) (by decide)) (CallQ.here (EqInt_spec (-4) (-4) (by omega)) ⟨fun _ => ⟨_, rfl, rfl, CallQ.here (rFrom_spec 1 (by decide) (by decide)) (CallQ.here (EqInt_spec 1 1 (by omega)) (Ret.here ⟨rfl, rfl⟩))⟩, fun h => absurd h (by decide)⟩)⟩, fun h => absurd h (by decide)⟩)
end Go.Proofs.Ytoidllhkhljlaaa.Nat
namespace Go.Ab
open Nn
theorem flat_drop {α : Type} {f : α → List AV} {sz : Nat} (hf : ∀ a, (f a).length = sz) (d : α) : ∀ {ls : List α} {i : Nat}, i < ls.length → (ls.flatMap f).drop (i * sz) = f (ls.getD i d) ++ (ls.flatMap f).drop ((i + 1) * sz)
  | [], i, h => by simp at h
  | t :: r, 0, h => by
    rw [Nat.zero_mul, List.drop_zero, Nat.zero_add, Nat.one_mul, List.flatMap_cons, ← hf t, List.drop_left]; rfl
  | t :: r, i + 1, h => by
    have := flat_drop hf d (ls := r) (i := i) (by simpa using h)
    rw [show (i + 1) * sz = sz + i * sz by rw [Nat.add_mul]; omega, show (i + 1 + 1) * sz = sz + (i + 1) * sz by rw [Nat.add_mul (i + 1)]; omega, List.flatMap_cons, ← List.drop_drop, ← List.drop_drop]
    have e : (f t ++ r.flatMap f).drop sz = r.flatMap f := by rw [← hf t, List.drop_left]
    rw [e, this]; rfl
/-- a sign and limbs, as they come in -/
abbrev Raw := Bool × List Nat
def raw (p : Raw) : List AV := [.w (.bool p.1), nat p.2]
def FineR (p : Raw) : Prop := W p.2 ∧ p.2.length < 17592186044416
abbrev Op2 := Raw × Raw × Int
def op2 (t : Op2) : List AV := raw t.1 ++ (raw t.2.1 ++ [.w (.int .i64 t.2.2)])
def FineO (t : Op2) : Prop := FineR t.1 ∧ FineR t.2.1 ∧ (-9223372036854775808 ≤ t.2.2 ∧ t.2.2 ≤ 9223372036854775807)
abbrev Raw3 := Raw × Raw × Raw
def raw3 (t : Raw3) : List AV := raw t.1 ++ (raw t.2.1 ++ raw t.2.2)
def Fine3 (t : Raw3) : Prop := FineR t.1 ∧ FineR t.2.1 ∧ FineR t.2.2
theorem get_all {α : Type} {p : α → Prop} {ls : List α} (h : ∀ t ∈ ls, p t) (d : α) {i : Nat} (hi : i < ls.length) : p (ls.getD i d) := by
  rw [List.getD_eq_getElem?_getD, List.getElem?_eq_getElem hi]; exact h _ (List.getElem_mem hi)
end Go.Ab
namespace Go.Ab.Nn
theorem fmod_abs (x : Int) {y : Int} (hy0 : y ≠ 0) : (x.fmod y).natAbs < y.natAbs ∧ (x.fmod y ≠ 0 → (x.fmod y).sign = y.sign) := by
  rcases Int.lt_or_gt_of_ne hy0 with h3 | h3
  · have e2 := Int.neg_fmod_neg x y
    have g1 := Int.fmod_nonneg_of_pos (-x) (show 0 < -y by omega)
    have g2 := Int.fmod_lt_of_pos (-x) (show 0 < -y by omega)
    refine ⟨by omega, fun h => ?_⟩
    rw [Int.sign_eq_neg_one_of_neg h3, Int.sign_eq_neg_one_of_neg (by omega)]
  · have g1 := Int.fmod_nonneg_of_pos x h3
    have g2 := Int.fmod_lt_of_pos x h3
    refine ⟨by omega, fun h => ?_⟩
    rw [Int.sign_eq_one_of_pos h3, Int.sign_eq_one_of_pos (by omega)]
theorem fmod_len (x : Int) {y : Int} (hy0 : y ≠ 0) : (limbs (x.fmod y).natAbs).length ≤ (limbs y.natAbs).length := len_mono (Nat.le_of_lt (fmod_abs x hy0).1)
theorem fdiv_abs (x : Int) {y : Int} (hy0 : y ≠ 0) : (x.fdiv y).natAbs ≤ x.natAbs + 1 := by
  obtain ⟨D1, D2⟩ := div_sizes x y hy0
  have lq := Nat.div_le_self x.natAbs y.natAbs
  by_cases hc : x.natAbs % y.natAbs = 0 ∨ decide (x < 0) = decide (y < 0)
  · rw [(D1 hc).1, sgn_abs]; omega
  · rw [(D2 (fun e => hc (.inl e)) (fun e => hc (.inr e))).1]
    have := sgn_abs (!(decide (x < 0) == decide (y < 0))) (x.natAbs / y.natAbs)
    omega
theorem one_len : (limbs 1).length ≤ 1 := limbs_len_le (by decide)
theorem fdiv_len (x : Int) {y : Int} (hy0 : y ≠ 0) : (limbs (x.fdiv y).natAbs).length ≤ (limbs x.natAbs).length + 2 := by
  have h1 := len_mono (fdiv_abs x hy0)
  have h2 := len_add x.natAbs 1
  have h3 := one_len
  omega
theorem iadd_len (x y : Int) : (limbs (x + y).natAbs).length ≤ max (limbs x.natAbs).length (limbs y.natAbs).length + 1 := Nat.le_trans (len_mono (Int.natAbs_add_le x y)) (len_add _ _)
theorem isub_len (x y : Int) : (limbs (x - y).natAbs).length ≤ max (limbs x.natAbs).length (limbs y.natAbs).length + 1 := Nat.le_trans (len_mono (Int.natAbs_sub_le x y)) (len_add _ _)
theorem imul_len (x y : Int) : (limbs (x * y).natAbs).length ≤ (limbs x.natAbs).length + (limbs y.natAbs).length := by rw [Int.natAbs_mul]; exact len_mul _ _
theorem ineg_len (x : Int) : (limbs (-x).natAbs).length = (limbs x.natAbs).length := by rw [Int.natAbs_neg]
end Go.Ab.Nn
/-! Fractions: signs and sizes, no program in sight. -/
namespace Go.Ab.Nn
theorem natAbs_div_dvd {n : Int} {g : Nat} (h : g ∣ n.natAbs) (hg : 0 < g) : (n / (g : Int)).natAbs = n.natAbs / g ∧ (n / (g : Int)).sign = n.sign := by
  obtain ⟨k, hk⟩ := h
  have e : n = n.sign * (g * k : Nat) := by
    have := Int.sign_mul_natAbs n
    rw [hk] at this; exact this.symm
  have e2 : n = (n.sign * k) * g := by
    rw [Int.natCast_mul] at e
    rw [Int.mul_assoc, Int.mul_comm (k : Int), ← e]
  have hd : n / (g : Int) = n.sign * k := by
    conv => lhs; rw [e2]
    exact Int.mul_ediv_cancel _ (by omega)
  rw [hd]
  constructor
  · rw [Int.natAbs_mul, hk, Nat.mul_div_cancel_left _ hg]
    by_cases h0 : n = 0
    · subst h0
      have : k = 0 := by
        rcases Nat.mul_eq_zero.1 (show g * k = 0 from hk.symm) with h | h
        · omega
        · exact h
      simp [this]
    · rw [Int.natAbs_sign_of_ne_zero h0]; simp
  · by_cases h0 : n = 0
    · subst h0; simp
    · have hk0 : 0 < k := by
        rcases Nat.eq_zero_or_pos k with h | h
        · subst h; simp at hk; omega
        · exact h
      rw [Int.sign_mul, Int.sign_sign, Int.sign_eq_one_of_pos (show (0 : Int) < k by omega), Int.mul_one]
theorem mk_num (n : Int) {d : Nat} (hd : d ≠ 0) : (mkRat n d).num.natAbs = n.natAbs / Nat.gcd n.natAbs d ∧ (mkRat n d).num.sign = n.sign ∧ (mkRat n d).den = d / Nat.gcd n.natAbs d := by
  rw [Rat.num_mkRat, Rat.den_mkRat, if_neg hd, if_neg hd, Nat.gcd_comm d]
  have hg := Nat.gcd_pos_of_pos_right n.natAbs (Nat.pos_of_ne_zero hd)
  obtain ⟨h1, h2⟩ := natAbs_div_dvd (Nat.gcd_dvd_left n.natAbs d) hg
  exact ⟨h1, h2, rfl⟩
theorem sign_lt {x y : Int} (h : x.sign = y.sign) : decide (x < 0) = decide (y < 0) := by
  rw [decide_eq_decide]
  have h1 := @Int.sign_eq_neg_one_iff_neg x
  have h2 := @Int.sign_eq_neg_one_iff_neg y
  rw [← h1, ← h2, h]
/-- the greater one of a fraction's limbs -/
def rsz (q : Rat) : Nat := max (limbs q.num.natAbs).length (limbs q.den).length
theorem rsz_mk (n : Int) {d : Nat} (hd : d ≠ 0) : rsz (mkRat n d) ≤ max (limbs n.natAbs).length (limbs d).length := by
  obtain ⟨h1, _, h3⟩ := mk_num n hd
  unfold rsz
  rw [h1, h3]
  have a := len_mono (Nat.div_le_self n.natAbs (Nat.gcd n.natAbs d))
  have b := len_mono (Nat.div_le_self d (Nat.gcd n.natAbs d))
  omega
theorem den_ne (a b : Rat) : a.den * b.den ≠ 0 := Nat.mul_ne_zero a.den_nz b.den_nz
theorem rsz_add (a b : Rat) : rsz (a + b) ≤ rsz a + rsz b + 1 := by
  rw [Rat.add_def']
  refine Nat.le_trans (rsz_mk _ (den_ne a b)) ?_
  have h1 := iadd_len (a.num * b.den) (b.num * a.den)
  have h2 := imul_len a.num b.den
  have h3 := imul_len b.num a.den
  have h4 := len_mul a.den b.den
  simp only [Int.natAbs_natCast] at h2 h3
  unfold rsz
  omega
theorem rsz_sub (a b : Rat) : rsz (a - b) ≤ rsz a + rsz b + 1 := by
  rw [Rat.sub_def']
  refine Nat.le_trans (rsz_mk _ (den_ne a b)) ?_
  have h1 := isub_len (a.num * b.den) (b.num * a.den)
  have h2 := imul_len a.num b.den
  have h3 := imul_len b.num a.den
  have h4 := len_mul a.den b.den
  simp only [Int.natAbs_natCast] at h2 h3
  unfold rsz
  omega
theorem rsz_mul (a b : Rat) : rsz (a * b) ≤ rsz a + rsz b := by
  rw [Rat.mul_def']
  refine Nat.le_trans (rsz_mk _ (den_ne a b)) ?_
  have h2 := imul_len a.num b.num
  have h4 := len_mul a.den b.den
  unfold rsz
  omega
theorem rsz_neg (a : Rat) : rsz (-a) = rsz a := by unfold rsz; rw [Rat.neg_num, Rat.neg_den, Int.natAbs_neg]
theorem inv_parts {a : Rat} (h : a ≠ 0) : a⁻¹.num.natAbs = a.den ∧ a⁻¹.den = a.num.natAbs ∧ a⁻¹.num.sign = a.num.sign := by
  have h0 : a.num ≠ 0 := fun e => h (Rat.num_eq_zero.1 e)
  refine ⟨?_, by rw [Rat.den_inv, if_neg h0], ?_⟩
  · rw [Rat.num_inv, Int.natAbs_mul, Int.natAbs_sign_of_ne_zero h0]; simp
  · rw [Rat.num_inv, Int.sign_mul, Int.sign_sign, Int.sign_eq_one_of_pos (show (0 : Int) < a.den from by have := a.den_pos; omega), Int.mul_one]
theorem rsz_inv {a : Rat} (h : a ≠ 0) : rsz a⁻¹ = rsz a := by
  obtain ⟨h1, h2, _⟩ := inv_parts h
  unfold rsz; rw [h1, h2, Nat.max_comm]
theorem rsz_div {a b : Rat} (h : b ≠ 0) : rsz (a / b) ≤ rsz a + rsz b := by
  rw [Rat.div_def]
  have := rsz_mul a b⁻¹
  rwa [rsz_inv h] at this
theorem sign_mulR (a b : Rat) : (a * b).num.sign = a.num.sign * b.num.sign := by
  rw [Rat.mul_def', (mk_num _ (den_ne a b)).2.1, Int.sign_mul]
theorem sign_subR (a b : Rat) : (a - b).num.sign = (a.num * b.den - b.num * a.den).sign := by
  rw [Rat.sub_def', (mk_num _ (den_ne a b)).2.1]
theorem sign_divR {a b : Rat} (h : b ≠ 0) : (a / b).num.sign = a.num.sign * b.num.sign := by
  rw [Rat.div_def, sign_mulR, (inv_parts h).2.2]
end Go.Ab.Nn
namespace Go.Ab
open Nn
/-- a fraction's cells -/
def rc (q : Rat) : List AV := [.w (.bool (decide (q.num < 0))), num q.num.natAbs, num q.den]
def rat (q : Rat) : AV := .agg (rc q)
def ratE (q : Rat) : AV := .tup [rat q, .w (.int .i64 0)]
theorem int_nat (d : Nat) : int (d : Int) = .agg [.w (.bool false), num d] := by
  unfold int ic
  rw [decide_eq_false (by omega), Int.natAbs_natCast]
theorem rat_mk (n : Int) {d : Nat} (hd : d ≠ 0) : rat (mkRat n d) = .agg [.w (.bool (decide (n < 0))), num (n.natAbs / Nat.gcd n.natAbs d), num (d / Nat.gcd n.natAbs d)] := by
  obtain ⟨h1, h2, h3⟩ := mk_num n hd
  unfold rat rc
  rw [h1, h3, sign_lt h2]
end Go.Ab
namespace Go.Proofs.Ytoidllhkhljlaaa.Nat
open Go Go.Ab Go.Ab.Nn
set_option linter.unusedVariables false
set_option maxRecDepth 8000
variable {gl : Nat → Option (List AV)} {σ : Own}

theorem small_num (n : Nat) (hl : (limbs n).length < 1099511627776) : ACalls P gl F_nat_Small [num n] σ (fun v σ' => v = .tup [u (if n < 18446744073709551616 then n else 0), .w (.bool (decide (n < 18446744073709551616)))] ∧ σ' = σ) := by
  have := small_spec (gl := gl) (σ := σ) (limbs n) hl
  rw [mayB_limbs] at this
  have e1 : (limbs n).length ≤ 1 ↔ n < 18446744073709551616 := by
    constructor
    · intro h
      have h1 := len_lt_pow n
      have h2 : 18446744073709551616 ^ (limbs n).length ≤ 18446744073709551616 ^ 1 := Nat.pow_le_pow_right (by decide) h
      omega
    · intro h; exact limbs_len_le (by rw [Nat.pow_one]; exact h)
  rw [show (true && decide ((limbs n).length ≤ 1)) = decide (n < 18446744073709551616) by rw [Bool.true_and]; exact decide_eq_decide.2 e1] at this
  rw [show (if true = true ∧ (limbs n).length ≤ 1 then (limbs n).getD 0 0 else 0) = if n < 18446744073709551616 then n else 0 from ?_] at this
  · exact this
  · by_cases h : n < 18446744073709551616
    · rw [if_pos h, if_pos ⟨rfl, e1.2 h⟩]
      by_cases h0 : n = 0
      · subst h0; rw [limbs_zero]; rfl
      · rw [limbs_pos h0, Nat.mod_eq_of_lt h]; rfl
    · rw [if_neg h, if_neg (fun e => h (e1.1 e.2))]
theorem isOne_spec (n : Nat) (hl : (limbs n).length < 1099511627776) : ACalls P gl F_ratio_isOne [num n] σ (fun v σ' => v = .w (.bool (decide (n = 1))) ∧ σ' = σ) := by
  refine C_ratio_isOne.calls hm ?_
  refine CallVC.here (small_num n hl) ?_
  rintro v σ' ⟨rfl, rfl⟩
  refine ⟨_, rfl, _, rfl, ⟨fun h => Ret.here ⟨?_, rfl⟩, fun h => Ret.here ⟨?_, rfl⟩⟩⟩
  · have h : n < 18446744073709551616 := of_decide_eq_true h
    rw [if_pos h]
    congr 2
    rw [Bool.eq_iff_iff, beq_iff_eq, decide_eq_true_iff]; omega
  · have h : ¬ n < 18446744073709551616 := of_decide_eq_false h
    rw [decide_eq_false (by omega)]
theorem rgood_spec (q : Rat) (hq : rsz q < 17179869184) : ACalls P gl F_ratio_good [rat q] σ (fun v σ' => v = .w (.bool true) ∧ σ' = σ) := by
  have z6 : (limbs q.num.natAbs).length ≤ rsz q := Nat.le_max_left _ _
  have z7 : (limbs q.den).length ≤ rsz q := Nat.le_max_right _ _
  refine C_ratio_good.calls hm ?_
  refine ⟨_, rfl, rfl, CallVC.here (wCheck_spec q.num (by omega)) ?_⟩
  rintro v σ' ⟨rfl, rfl⟩
  refine ⟨fun _ => ⟨_, rfl, CallVC.here (check_num q.den (by omega)) ?_⟩, fun h => by cases h⟩
  rintro v σ' ⟨rfl, rfl⟩
  refine ⟨fun _ => ⟨_, rfl, ⟨fun h => ?_, fun _ => ?_⟩⟩, fun h => by cases h⟩
  · have h : (limbs q.den).length = 0 := by simpa using h
    exact absurd (limbs_eq_nil.1 (List.eq_nil_of_length_eq_zero h)) q.den_nz
  refine ⟨_, rfl, _, rfl, CallVC.here (Gcd_spec q.num.natAbs q.den (by omega) (by omega)) ?_⟩
  rintro v σ' ⟨rfl, rfl⟩
  have hg : Nat.gcd q.num.natAbs q.den = 1 := q.reduced
  have l1 := one_len
  refine ⟨_, rfl, _, rfl, CallVC.here (isOne_spec (Nat.gcd q.num.natAbs q.den) (by rw [hg]; omega)) ?_⟩
  rintro v σ' ⟨rfl, rfl⟩
  exact Ret.here ⟨by rw [decide_eq_true hg], rfl⟩
theorem quotient_spec (n : Int) (d : Nat) (hd : d ≠ 0) (hn : (limbs n.natAbs).length < 17179869184) (hdl : (limbs d).length < 17179869184) : ACalls P gl F_ratio_quotient [int n, num d] σ (fun v σ' => v = rat (mkRat n d) ∧ σ' = σ) := by
  have hg := Nat.gcd_pos_of_pos_right n.natAbs (Nat.pos_of_ne_zero hd)
  have lg := len_mono (Nat.le_of_dvd (Nat.pos_of_ne_zero hd) (Nat.gcd_dvd_right n.natAbs d))
  refine C_ratio_quotient.calls hm ?_
  refine fun b hb => ⟨_, rfl, CallVC.here (Gcd_spec n.natAbs d (by omega) (by omega)) ?_⟩
  rintro v σ' ⟨rfl, rfl⟩
  refine ⟨_, rfl, _, rfl, _, rfl, CallVC.here (DivMod_spec n.natAbs (Nat.gcd n.natAbs d) hg (by omega) (by omega)) ?_⟩
  rintro v σ' ⟨rfl, rfl⟩
  refine ⟨_, rfl, _, rfl, _, rfl, CallVC.here (DivMod_spec d (Nat.gcd n.natAbs d) hg (by omega) (by omega)) ?_⟩
  rintro v σ' ⟨rfl, rfl⟩
  refine ⟨_, rfl, _, rfl, _, rfl, _, rfl, _, upd_same _ _ _, Nat.le_refl 3, _, rfl, _, upd_same _ _ _, _, rfl, rfl, Ret.cell2 hb ⟨?_, rfl⟩⟩
  rw [rat_mk n hd]; rfl
theorem over_spec (a : Int) (d : Nat) (ha : (limbs a.natAbs).length < 68719476736) (hd : (limbs d).length < 68719476736) : ACalls P gl F_ratio_over [int a, num d] σ (fun v σ' => v = int (a * d) ∧ σ' = σ) := by
  refine C_ratio_over.calls hm ?_
  have hM := fun σ => wMul_spec (gl := gl) (σ := σ) a (d : Int) ha (by rw [Int.natAbs_natCast]; exact hd)
  rw [int_nat] at hM
  refine fun b4 h4 => ⟨_, rfl, rfl, CallVC.here (hM _) ?_⟩
  rintro v σ' ⟨rfl, rfl⟩
  exact ⟨_, rfl, _, rfl, fun b5 h5 => ⟨_, upd_same _ _ _, Nat.le_refl 2, _, rfl, Wk.frz 5 rfl (upd_same _ _ _) (del_upd2 _ _ h5) h5 ⟨_, rfl, rfl, _, upd_same _ _ _, Nat.le_refl 2, _, rfl, _, upd_same _ _ _, _, rfl, rfl, Ret.cell2 h4 ⟨rfl, rfl⟩⟩⟩⟩
theorem rneg_spec (q : Rat) (hq : rsz q < 17179869184) : ACalls P gl F_ratio_neg [rat q] σ (fun v σ' => v = rat (-q) ∧ σ' = σ) := by
  have z6 : (limbs q.num.natAbs).length ≤ rsz q := Nat.le_max_left _ _
  have z7 : (limbs q.den).length ≤ rsz q := Nat.le_max_right _ _
  refine C_ratio_neg.calls hm ?_
  refine fun b hb => Wk.here ⟨_, rfl, rfl, CallQ.here (wNeg_spec q.num (by omega)) ⟨_, rfl, CallQ.here (clone_spec _ (by omega)).frozen ?_⟩⟩
  refine ⟨_, upd_same _ _ _, Nat.le_refl 3, _, rfl, _, upd_same _ _ _, _, rfl, rfl, Ret.cell2 hb ⟨?_, rfl⟩⟩
  unfold rat rc; rw [Rat.neg_num, Rat.neg_den]; rfl
theorem EqRat_spec (p q : Rat) (hp : rsz p < 17179869184) : ACalls P gl F_gaugeref0_EqRat [rat p, rat q] σ (fun v σ' => v = .w (.bool (decide (p = q))) ∧ σ' = σ) := by
  have z6 : (limbs p.num.natAbs).length ≤ rsz p := Nat.le_max_left _ _
  have z7 : (limbs p.den).length ≤ rsz p := Nat.le_max_right _ _
  refine C_gaugeref0_EqRat.calls hm ?_
  refine ⟨_, rfl, rfl, _, rfl, rfl, CallVC.here (EqInt_spec p.num q.num (by omega)) ?_⟩
  rintro v σ' ⟨rfl, rfl⟩
  refine ⟨fun h => ⟨_, rfl, _, rfl, CallVC.here (EqNum p.den q.den (by omega)) ?_⟩, fun h => Ret.here ⟨?_, rfl⟩⟩
  · rintro v σ' ⟨rfl, rfl⟩
    have h : p.num = q.num := of_decide_eq_true h
    exact Ret.here ⟨by rw [decide_eq_decide.2 (show p.den = q.den ↔ p = q from ⟨fun e => Rat.ext h e, fun e => by rw [e]⟩)], rfl⟩
  · have h : p.num ≠ q.num := of_decide_eq_false h
    rw [decide_eq_false (fun e => h (by rw [e]))]
theorem rCheck_spec (q : Rat) (hq : rsz q < 17179869184) : ACalls P gl F_ratio_Check [rat q] σ (fun v σ' => v = .w (.int .i64 0) ∧ σ' = σ) := by
  refine C_ratio_Check.calls hm ?_
  refine ⟨_, rfl, rfl, CallVC.here (rgood_spec q hq) ?_⟩
  rintro v σ' ⟨rfl, rfl⟩
  exact ⟨fun _ => Ret.here ⟨rfl, rfl⟩, fun h => by cases h⟩
theorem rMake_spec (n : Int) (d : Nat) (hd : d ≠ 0) (hn : (limbs n.natAbs).length < 17179869184) (hdl : (limbs d).length < 17179869184) : ACalls P gl F_ratio_Make [int n, num d] σ (fun v σ' => v = ratE (mkRat n d) ∧ σ' = σ) := by
  refine C_ratio_Make.calls hm ?_
  refine fun b hb => ⟨_, rfl, rfl, CallVC.here (wCheck_spec n (by omega)) ?_⟩
  rintro v σ' ⟨rfl, rfl⟩
  refine ⟨fun _ => CallVC.here (check_num d (by omega)) ?_, fun h => by cases h⟩
  rintro v σ' ⟨rfl, rfl⟩
  refine ⟨(fun h => by cases h), fun _ => ⟨fun h => ?_, fun _ => ?_⟩⟩
  · have h : (limbs d).length = 0 := by simpa using h
    exact absurd (limbs_eq_nil.1 (List.eq_nil_of_length_eq_zero h)) hd
  refine ⟨_, rfl, rfl, CallVC.here (quotient_spec n d hd hn hdl) ?_⟩
  rintro v σ' ⟨rfl, rfl⟩
  exact ⟨_, upd_same _ _ _, Nat.le_refl 3, _, rfl, _, upd_same _ _ _, _, rfl, rfl, Ret.cell2 hb ⟨rfl, rfl⟩⟩
theorem rFromR_spec (n : Int) (hn : (limbs n.natAbs).length < 17179869184) : ACalls P gl F_ratio_From [int n] σ (fun v σ' => v = rat (n : Rat) ∧ σ' = σ) := by
  have l1 := one_len
  refine C_ratio_From.calls hm ?_
  refine fun b hb => ⟨_, rfl, rfl, CallVC.here (wCheck_spec n (by omega)) ?_⟩
  rintro v σ' ⟨rfl, rfl⟩
  refine ⟨(fun h => by cases h), fun _ => Wk.here ⟨_, rfl, rfl, CallQ.here (from_spec 1 (by decide)) (CallQ.here (quotient_spec n 1 (by decide) hn (by omega)) ?_)⟩⟩
  refine ⟨_, upd_same _ _ _, Nat.le_refl 3, _, rfl, _, upd_same _ _ _, _, rfl, rfl, Ret.cell2 hb ⟨?_, rfl⟩⟩
  rw [show (n : Rat) = mkRat n 1 from (Rat.mkRat_one n).symm]; rfl
theorem rNegR_spec (q : Rat) (hq : rsz q < 17179869184) : ACalls P gl F_ratio_Neg [rat q] σ (fun v σ' => v = rat (-q) ∧ σ' = σ) := by
  refine C_ratio_Neg.calls hm ?_
  refine fun b hb => ⟨_, rfl, rfl, CallVC.here (rgood_spec q hq) ?_⟩
  rintro v σ' ⟨rfl, rfl⟩
  refine ⟨(fun h => by cases h), fun _ => ⟨_, rfl, rfl, CallVC.here (rneg_spec q hq) ?_⟩⟩
  rintro v σ' ⟨rfl, rfl⟩
  exact ⟨_, upd_same _ _ _, Nat.le_refl 3, _, rfl, _, upd_same _ _ _, _, rfl, rfl, Ret.cell2 hb ⟨rfl, rfl⟩⟩
theorem rCmpR_spec (a b : Rat) (ha : rsz a < 1073741824) (hb : rsz b < 1073741824) : ACalls P gl F_ratio_Cmp [rat a, rat b] σ (fun v σ' => v = .w (.int .i64 (a - b).num.sign) ∧ σ' = σ) := by
  have z1 := imul_len a.num b.den
  have z2 := imul_len b.num a.den
  simp only [Int.natAbs_natCast] at z1 z2
  have z6 : (limbs a.num.natAbs).length ≤ rsz a := Nat.le_max_left _ _
  have z7 : (limbs a.den).length ≤ rsz a := Nat.le_max_right _ _
  have z8 : (limbs b.num.natAbs).length ≤ rsz b := Nat.le_max_left _ _
  have z9 : (limbs b.den).length ≤ rsz b := Nat.le_max_right _ _
  refine C_ratio_Cmp.calls hm ?_
  refine ⟨_, rfl, rfl, CallVC.here (rgood_spec a (by omega)) ?_⟩
  rintro v σ' ⟨rfl, rfl⟩
  refine ⟨fun _ => ⟨_, rfl, rfl, CallVC.here (rgood_spec b (by omega)) ?_⟩, fun h => by cases h⟩
  rintro v σ' ⟨rfl, rfl⟩
  refine ⟨(fun h => by cases h), fun _ => Wk.here ⟨_, rfl, rfl, _, rfl, CallQ.here (over_spec a.num b.den (by omega) (by omega)) ⟨_, rfl, rfl, _, rfl, CallQ.here (over_spec b.num a.den (by omega) (by omega)) (CallQ.here (wCmp_spec (a.num * b.den) (b.num * a.den) (by omega) (by omega)) (Ret.here ⟨?_, rfl⟩))⟩⟩⟩
  rw [sign_subR]
theorem rSignR_spec (q : Rat) (hq : rsz q < 17179869184) : ACalls P gl F_ratio_Sign [rat q] σ (fun v σ' => v = .w (.int .i64 q.num.sign) ∧ σ' = σ) := by
  have z6 : (limbs q.num.natAbs).length ≤ rsz q := Nat.le_max_left _ _
  refine C_ratio_Sign.calls hm ?_
  refine ⟨_, rfl, rfl, CallVC.here (rgood_spec q hq) ?_⟩
  rintro v σ' ⟨rfl, rfl⟩
  refine ⟨(fun h => by cases h), fun _ => ⟨_, rfl, rfl, CallVC.here (wSign_spec q.num (by omega)) ?_⟩⟩
  rintro v σ' ⟨rfl, rfl⟩
  exact Ret.here ⟨rfl, rfl⟩
theorem Make3_spec (n : Int) (d : Nat) (hd : d ≠ 0) (hn : (limbs n.natAbs).length < 17179869184) (hdl : (limbs d).length < 17179869184) : ACalls P gl F_gaugeref3_Make [int n, num d] σ (fun v σ' => v = rat (mkRat n d) ∧ σ' = σ) := by
  have hg := Nat.gcd_pos_of_pos_right n.natAbs (Nat.pos_of_ne_zero hd)
  have lg := len_mono (Nat.le_of_dvd (Nat.pos_of_ne_zero hd) (Nat.gcd_dvd_right n.natAbs d))
  obtain ⟨h1, h2, h3⟩ := mk_num n hd
  refine C_gaugeref3_Make.calls hm ?_
  refine fun b hb => ⟨_, rfl, CallVC.here (rGcd_spec n.natAbs d hn hdl) ?_⟩
  rintro v σ' ⟨rfl, rfl⟩
  refine ⟨_, rfl, CallVC.here (rDivide_spec n.natAbs (Nat.gcd n.natAbs d) hg hn (by omega)) ?_⟩
  rintro v σ' ⟨rfl, rfl⟩
  refine ⟨_, rfl, _, rfl, CallVC.here (rDivide_spec d (Nat.gcd n.natAbs d) hg hdl (by omega)) ?_⟩
  rintro v σ' ⟨rfl, rfl⟩
  refine ⟨_, rfl, _, rfl, _, rfl, CallVC.here (Made_spec _ (n.natAbs / Nat.gcd n.natAbs d)) ?_⟩
  rintro v σ' ⟨rfl, rfl⟩
  refine ⟨_, upd_same _ _ _, Nat.le_refl 3, _, rfl, _, upd_same _ _ _, _, rfl, rfl, Ret.cell2 hb ⟨?_, rfl⟩⟩
  have e : sgn (decide (n < 0)) (n.natAbs / Nat.gcd n.natAbs d) = (mkRat n d).num := by
    rw [← h1, ← sign_lt h2, sgn_self]
  unfold rat rc
  rw [h3, ← e]; rfl
theorem law_of_spec (n : Int) (d : Nat) (h0 : -9223372036854775808 ≤ n) (h1 : n ≤ 9223372036854775807) (hd0 : d ≠ 0) (hd : d < 18446744073709551616) : ACalls P gl F_gaugelaw3_of [.w (.int .i64 n), .w (.int .u64 d)] σ (fun v σ' => v = rat (mkRat n d) ∧ σ' = σ) := by
  have l1 : (limbs n.natAbs).length ≤ 1 := small_abs (by omega)
  have l2 : (limbs d).length ≤ 1 := limbs_len_le (by rw [Nat.pow_one]; exact hd)
  refine C_gaugelaw3_of.calls hm ?_
  refine fun b hb => CallVC.here (rFrom_spec n h0 h1) ?_
  rintro v σ' ⟨rfl, rfl⟩
  refine CallVC.here (Of_spec d hd) ?_
  rintro v σ' ⟨rfl, rfl⟩
  refine CallVC.here (Make3_spec n d hd0 (by omega) (by omega)) ?_
  rintro v σ' ⟨rfl, rfl⟩
  exact ⟨_, upd_same _ _ _, Nat.le_refl 3, _, rfl, _, upd_same _ _ _, _, rfl, rfl, Ret.cell2 hb ⟨rfl, rfl⟩⟩
theorem l3num_spec (k : Int) : ACalls P gl F_gaugelaw3_num [.w (.int .i64 k)] σ (fun v σ' => v = .w (.int .i64 k) ∧ σ' = σ) := by
  refine C_gaugelaw3_num.calls hm ?_
  exact Ret.here ⟨rfl, rfl⟩
end Go.Proofs.Ytoidllhkhljlaaa.Nat
namespace Go.Proofs.Ytoidllhkhljlaaa.Nat
open Go Go.Ab
open Go.Ab.SOp Go.Ab.SC Go.Ab.Opd
set_option linter.unusedVariables false
set_option maxRecDepth 20000
def F_gaugelaw2_WholeSmall : FuncId := 6
/-- gauge / gaugelaw2.WholeSmall -/
def S_gaugelaw2_WholeSmall : SC :=
 .seq (.region [⟨some 2, .mv (.c (.bool false)), none⟩] [0])
 (.seq (.seq (.region [⟨some 3, .mv (.c (.int .i64 0)), none⟩] [3, 0])
 (.block 0 [] (.loop [3, 0] (.seq (.seq (.region [⟨some 18, .mv (.t 3), none⟩, ⟨some 19, .mv (.t 0), none⟩, ⟨some 20, .len (.t 19), none⟩, ⟨some 21, .bin .lss (.t 18) (.t 20), none⟩, ⟨some 22, .mv (.t 21), none⟩, ⟨some 23, .mv (.t 3), some (22, true)⟩, ⟨some 24, .bin .lss (.t 23) (.c (.int .i64 60)), some (22, true)⟩, ⟨some 25, .pick (.t 22) (.t 24) (.c (.bool false)), none⟩] [25, 3, 0])
 (.cond (.t 25) (.region [] [3, 0])
 (.exit 0)))
 (.seq (.block 1 [3, 0] (.seq (.region [⟨some 29, .mv (.t 0), none⟩, ⟨some 30, .mv (.t 3), none⟩, ⟨some 31, .ix 1 (.t 29) (.t 30), none⟩, ⟨some 32, .ld false 1 (.t 31), none⟩, ⟨some 33, .call 33 [.t 32], none⟩, ⟨some 34, .call 32 [.t 33], none⟩, ⟨some 28, .mv (.t 34), none⟩, ⟨some 35, .ext (.t 28) 0, none⟩, ⟨some 36, .ext (.t 28) 1, none⟩, ⟨some 4, .mv (.t 35), none⟩, ⟨some 5, .mv (.t 36), none⟩] [5, 4, 3, 0])
 (.seq (.seq (.region [⟨some 37, .mv (.t 5), none⟩, ⟨some 38, .un .not (.t 37), none⟩, ⟨some 39, .mv (.t 38), none⟩, ⟨some 40, .mv (.t 4), some (39, false)⟩, ⟨some 41, .mv (.t 0), some (39, false)⟩, ⟨some 42, .mv (.t 3), some (39, false)⟩, ⟨some 43, .ix 1 (.t 41) (.t 42), some (39, false)⟩, ⟨some 44, .ld false 1 (.t 43), some (39, false)⟩, ⟨some 45, .bin .neq (.t 40) (.t 44), some (39, false)⟩, ⟨some 46, .pick (.t 39) (.c (.bool true)) (.t 45), none⟩] [46, 3, 0])
 (.cond (.t 46) (.seq (.region [⟨some 2, .mv (.c (.bool false)), none⟩] [2])
 (.ret))
 (.region [] [3, 0])))
 (.seq (.drawn [0, 1, 2, 3, 4, 5, 6, 7, 8, 9, 10] [⟨some 47, .mv (.t 0), none⟩, ⟨some 48, .ix 1 (.t 47) (.c (.int .i64 0)), none⟩, ⟨some 49, .ld false 1 (.t 48), none⟩, ⟨some 50, .bin .shr (.t 49) (.c (.int .u64 2)), none⟩, ⟨some 51, .mv (.t 0), none⟩, ⟨some 52, .mv (.t 3), none⟩, ⟨some 53, .ix 1 (.t 51) (.t 52), none⟩, ⟨some 54, .ld false 1 (.t 53), none⟩, ⟨some 55, .bin .shr (.t 54) (.c (.int .u64 2)), none⟩, ⟨some 56, .bin .add (.t 50) (.t 55), none⟩, ⟨some 6, .mv (.t 56), none⟩] [6, 3, 0])
 (.seq (.seq .says (.drawn [0, 1, 2, 3, 4, 5, 6, 7, 8, 9, 10, 11, 12, 13, 14, 15, 16, 17] [⟨some 58, .mv (.t 0), none⟩, ⟨some 59, .ix 1 (.t 58) (.c (.int .i64 0)), none⟩, ⟨some 60, .ld false 1 (.t 59), none⟩, ⟨some 61, .bin .shr (.t 60) (.c (.int .u64 2)), none⟩, ⟨some 62, .callq 33 [.t 61], none⟩, ⟨some 63, .mv (.t 0), none⟩, ⟨some 64, .mv (.t 3), none⟩, ⟨some 65, .ix 1 (.t 63) (.t 64), none⟩, ⟨some 66, .ld false 1 (.t 65), none⟩, ⟨some 67, .bin .shr (.t 66) (.c (.int .u64 2)), none⟩, ⟨some 68, .callq 33 [.t 67], none⟩, ⟨some 69, .callq 15 [.t 62, .t 68], none⟩, ⟨some 70, .callq 32 [.t 69], none⟩, ⟨some 57, .mv (.t 70), none⟩, ⟨some 71, .ext (.t 57) 0, none⟩, ⟨some 72, .ext (.t 57) 1, none⟩, ⟨some 7, .mv (.t 71), none⟩, ⟨some 8, .mv (.t 72), none⟩] [8, 7, 6, 3, 0]))
 (.seq (.seq .says (.drawn [0, 1, 2, 3, 4, 5, 6, 7, 8, 9, 10, 11, 12, 13, 14, 15, 16, 17] [⟨some 74, .mv (.t 0), none⟩, ⟨some 75, .ix 1 (.t 74) (.c (.int .i64 0)), none⟩, ⟨some 76, .ld false 1 (.t 75), none⟩, ⟨some 77, .bin .shr (.t 76) (.c (.int .u64 33)), none⟩, ⟨some 78, .callq 33 [.t 77], none⟩, ⟨some 79, .mv (.t 0), none⟩, ⟨some 80, .mv (.t 3), none⟩, ⟨some 81, .ix 1 (.t 79) (.t 80), none⟩, ⟨some 82, .ld false 1 (.t 81), none⟩, ⟨some 83, .bin .shr (.t 82) (.c (.int .u64 33)), none⟩, ⟨some 84, .callq 33 [.t 83], none⟩, ⟨some 85, .callq 16 [.t 78, .t 84], none⟩, ⟨some 86, .callq 32 [.t 85], none⟩, ⟨some 73, .mv (.t 86), none⟩, ⟨some 87, .ext (.t 73) 0, none⟩, ⟨some 88, .ext (.t 73) 1, none⟩, ⟨some 9, .mv (.t 87), none⟩, ⟨some 10, .mv (.t 88), none⟩] [10, 9, 8, 7, 6, 3, 0]))
 (.seq (.seq (.drawn [0, 1, 2, 3, 4, 5, 6, 7, 8, 9, 10, 11, 12, 13, 14, 15, 16, 17, 18, 19, 20, 21, 22, 23, 24] [⟨some 89, .mv (.t 8), none⟩, ⟨some 90, .un .not (.t 89), none⟩, ⟨some 91, .mv (.t 90), none⟩, ⟨some 92, .mv (.t 7), some (91, false)⟩, ⟨some 93, .mv (.t 6), some (91, false)⟩, ⟨some 94, .bin .neq (.t 92) (.t 93), some (91, false)⟩, ⟨some 95, .pick (.t 91) (.c (.bool true)) (.t 94), none⟩, ⟨some 96, .mv (.t 95), none⟩, ⟨some 97, .mv (.t 10), some (96, false)⟩, ⟨some 98, .un .not (.t 97), some (96, false)⟩, ⟨some 99, .pick (.t 96) (.c (.bool true)) (.t 98), none⟩, ⟨some 100, .mv (.t 99), none⟩, ⟨some 101, .mv (.t 9), some (100, false)⟩, ⟨some 102, .mv (.t 0), some (100, false)⟩, ⟨some 103, .ix 1 (.t 102) (.c (.int .i64 0)), some (100, false)⟩, ⟨some 104, .ld false 1 (.t 103), some (100, false)⟩, ⟨some 105, .bin .shr (.t 104) (.c (.int .u64 33)), some (100, false)⟩, ⟨some 106, .mv (.t 0), some (100, false)⟩, ⟨some 107, .mv (.t 3), some (100, false)⟩, ⟨some 108, .ix 1 (.t 106) (.t 107), some (100, false)⟩, ⟨some 109, .ld false 1 (.t 108), some (100, false)⟩, ⟨some 110, .bin .shr (.t 109) (.c (.int .u64 33)), some (100, false)⟩, ⟨some 111, .bin .mul (.t 105) (.t 110), some (100, false)⟩, ⟨some 112, .bin .neq (.t 101) (.t 111), some (100, false)⟩, ⟨some 113, .pick (.t 100) (.c (.bool true)) (.t 112), none⟩] [113, 3, 0])
 (.cond (.t 113) (.seq (.region [⟨some 2, .mv (.c (.bool false)), none⟩] [2])
 (.ret))
 (.region [] [3, 0])))
 (.seq (.seq .says (.drawn [0, 1, 2, 3, 4, 5, 6, 7, 8, 9, 10, 11, 12, 13, 14, 15, 16, 17, 18, 19] [⟨some 115, .mv (.t 0), none⟩, ⟨some 116, .mv (.t 3), none⟩, ⟨some 117, .ix 1 (.t 115) (.t 116), none⟩, ⟨some 118, .ld false 1 (.t 117), none⟩, ⟨some 119, .callf 33 [.t 118], none⟩, ⟨some 120, .mv (.t 0), none⟩, ⟨some 121, .ix 1 (.t 120) (.c (.int .i64 0)), none⟩, ⟨some 122, .ld false 1 (.t 121), none⟩, ⟨some 123, .bin .or (.t 122) (.c (.int .i64 1)), none⟩, ⟨some 124, .callf 33 [.t 123], none⟩, ⟨some 125, .callf 14 [.t 119, .t 124], none⟩, ⟨some 114, .mv (.t 125), none⟩, ⟨some 126, .ext (.t 114) 0, none⟩, ⟨some 127, .ext (.t 114) 1, none⟩, ⟨some 128, .ext (.t 114) 2, none⟩, ⟨some 11, .alloc true 2 [.bool false, .slice none 0 0], none⟩, ⟨some 12, .alloc true 2 [.bool false, .slice none 0 0], none⟩, ⟨none, .st 2 (.t 11) (.t 126), none⟩, ⟨none, .st 2 (.t 12) (.t 127), none⟩, ⟨some 13, .mv (.t 128), none⟩] [13, 12, 11, 3, 0]))
 (.seq .says (.seq (.region [⟨some 130, .ld true 2 (.t 11), none⟩, ⟨some 131, .call 32 [.t 130], none⟩, ⟨some 129, .mv (.t 131), none⟩, ⟨some 132, .ext (.t 129) 0, none⟩, ⟨some 133, .ext (.t 129) 1, none⟩, ⟨some 14, .mv (.t 132), none⟩, ⟨some 15, .mv (.t 133), none⟩] [15, 14, 13, 12, 3, 0])
 (.seq (.region [⟨some 135, .ld true 2 (.t 12), none⟩, ⟨some 136, .call 32 [.t 135], none⟩, ⟨some 134, .mv (.t 136), none⟩, ⟨some 137, .ext (.t 134) 0, none⟩, ⟨some 138, .ext (.t 134) 1, none⟩, ⟨some 16, .mv (.t 137), none⟩, ⟨some 17, .mv (.t 138), none⟩] [17, 16, 15, 14, 13, 3, 0])
 (.seq (.seq .says (.drawn [0, 1, 2, 3, 4, 5, 6, 7, 8, 9, 10, 11, 12, 13, 14, 15, 16, 17, 18, 19, 20, 21, 22, 23] [⟨some 139, .mv (.t 13), none⟩, ⟨some 140, .callq 18 [.t 139], none⟩, ⟨some 141, .bin .neq (.t 140) (.c (.int .i64 0)), none⟩, ⟨some 142, .mv (.t 141), none⟩, ⟨some 143, .mv (.t 15), some (142, false)⟩, ⟨some 144, .mv (.t 143), some (142, false)⟩, ⟨some 145, .mv (.t 17), some (144, true)⟩, ⟨some 146, .pick (.t 144) (.t 145) (.c (.bool false)), some (142, false)⟩, ⟨some 147, .mv (.t 146), some (142, false)⟩, ⟨some 148, .mv (.t 14), some (147, true)⟩, ⟨some 149, .mv (.t 0), some (147, true)⟩, ⟨some 150, .ix 1 (.t 149) (.c (.int .i64 0)), some (147, true)⟩, ⟨some 151, .ld false 1 (.t 150), some (147, true)⟩, ⟨some 152, .bin .or (.t 151) (.c (.int .i64 1)), some (147, true)⟩, ⟨some 153, .bin .mul (.t 148) (.t 152), some (147, true)⟩, ⟨some 154, .mv (.t 16), some (147, true)⟩, ⟨some 155, .bin .add (.t 153) (.t 154), some (147, true)⟩, ⟨some 156, .mv (.t 0), some (147, true)⟩, ⟨some 157, .mv (.t 3), some (147, true)⟩, ⟨some 158, .ix 1 (.t 156) (.t 157), some (147, true)⟩, ⟨some 159, .ld false 1 (.t 158), some (147, true)⟩, ⟨some 160, .bin .neq (.t 155) (.t 159), some (147, true)⟩, ⟨some 161, .pick (.t 147) (.t 160) (.c (.bool false)), some (142, false)⟩, ⟨some 162, .pick (.t 142) (.c (.bool true)) (.t 161), none⟩] [162, 3, 0]))
 (.cond (.t 162) (.seq (.region [⟨some 2, .mv (.c (.bool false)), none⟩] [2])
 (.ret))
 (.region [] [3, 0]))))))))))))))
 (.region [⟨some 26, .mv (.t 3), none⟩, ⟨some 27, .bin .add (.t 26) (.c (.int .i64 1)), none⟩, ⟨some 3, .mv (.t 27), none⟩] [3, 0]))))))
 (.seq (.region [⟨some 163, .call 20 [], none⟩, ⟨some 2, .mv (.t 163), none⟩] [2])
 (.ret)))
theorem C_gaugelaw2_WholeSmall : Codes Go.Proofs.Try.prog F_gaugelaw2_WholeSmall S_gaugelaw2_WholeSmall 164 [2] := ⟨Go.Proofs.Try.f6, Go.Proofs.Try.f6.body.getD .skip, Go.Proofs.Try.func6, by kernel_rfl, by kernel_rfl, by kernel_rfl, by kernel_rfl, by kernel_rfl⟩
end Go.Proofs.Ytoidllhkhljlaaa.Nat
namespace Go.Ab.Nn
/-- fits in 64 bits -/
def fit (z : Int) : Prop := -9223372036854775808 ≤ z ∧ z ≤ 9223372036854775807
instance (z : Int) : Decidable (fit z) := inferInstanceAs (Decidable (_ ∧ _))
def fitv (z : Int) : Int := if fit z then z else 0
/-- made odd -/
def odd (x : Int) : Int := IntKind.i64.wrap ((BitVec.ofInt 64 x ||| BitVec.ofInt 64 1).toNat : Nat)
theorem odd_fit (x : Int) : odd x ≠ 0 ∧ fit (odd x) := by
  have h1 : (BitVec.ofInt 64 x ||| BitVec.ofInt 64 1).toNat < 18446744073709551616 := (BitVec.ofInt 64 x ||| BitVec.ofInt 64 1).isLt
  have h2 : 1 ≤ (BitVec.ofInt 64 x ||| BitVec.ofInt 64 1).toNat := by
    rw [BitVec.toNat_or]
    exact Nat.right_le_or
  unfold odd fit
  rw [IntKind.wrap_i64]
  omega
theorem sh2 (x : Int) : x.fdiv (2 ^ (min (2 : Int).toNat 64)) = x / 4 := by
  rw [show (2 : Int) ^ (min (2 : Int).toNat 64) = 4 by decide]; exact Int.fdiv_eq_ediv_of_nonneg x (by decide)
theorem sh33 (x : Int) : x.fdiv (2 ^ (min (33 : Int).toNat 64)) = x / 8589934592 := by
  rw [show (2 : Int) ^ (min (33 : Int).toNat 64) = 8589934592 by decide]; exact Int.fdiv_eq_ediv_of_nonneg x (by decide)
theorem mul_fit {a b : Int} (ha : -1073741824 ≤ a ∧ a < 1073741824) (hb : -1073741824 ≤ b ∧ b < 1073741824) : fit (a * b) := by
  have h1 : (a * b).natAbs ≤ 1073741824 * 1073741824 := by rw [Int.natAbs_mul]; exact Nat.mul_le_mul (by omega) (by omega)
  unfold fit; omega
theorem wrap_back (a r x : Int) (h : a + r = x) (hx : fit x) : IntKind.i64.wrap (IntKind.i64.wrap a + r) = x := by
  unfold fit at hx
  rw [IntKind.wrap_i64, IntKind.wrap_i64]
  omega
end Go.Ab.Nn
namespace Go.Proofs.Ytoidllhkhljlaaa.Nat
open Go Go.Ab Go.Ab.Nn
set_option linter.unusedVariables false
set_option maxRecDepth 8000
variable {gl : Nat → Option (List AV)} {σ : Own}

theorem wSmall_spec (z : Int) (hl : (limbs z.natAbs).length < 68719476736) : ACalls P gl F_whole_Small [int z] σ (fun v σ' => v = .tup [.w (.int .i64 (fitv z)), .w (.bool (decide (fit z)))] ∧ σ' = σ) := by
  refine C_whole_Small.calls hm ?_
  refine ⟨_, rfl, CallVC.here (small_num z.natAbs (by omega)) ?_⟩
  rintro v σ' ⟨rfl, rfl⟩
  refine ⟨_, rfl, _, rfl, _, rfl, rfl, CallVC.here (wgood_spec z (by omega)) ?_⟩
  rintro v σ' ⟨rfl, rfl⟩
  by_cases hz : z.natAbs < 18446744073709551616
  · rw [if_pos hz, decide_eq_true hz]
    refine ⟨fun _ => ⟨(fun h => by cases h), fun _ => ⟨_, rfl, ⟨fun h1 => ⟨fun h2 => ?_, fun h2 => ?_⟩, fun h1 => ⟨(fun h => by cases h), fun _ => ?_⟩⟩⟩⟩, fun h => by cases h⟩
    · have h1 : z < 0 := of_decide_eq_true h1
      have h2 : (z.natAbs : Int) ≤ 9223372036854775808 := of_decide_eq_true h2
      have hf : fit z := by unfold fit; omega
      refine ⟨_, wu, z, by rw [IntKind.wrap_i64]; omega, Ret.here ⟨?_, rfl⟩⟩
      unfold fitv
      rw [if_pos hf, decide_eq_true hf]
    · have h2 : ¬ (z.natAbs : Int) ≤ 9223372036854775808 := of_decide_eq_false h2
      have nf : ¬ fit z := by unfold fit; omega
      refine ⟨_, rfl, ⟨(fun h3 => by rw [h1] at h3; cases h3), fun _ => ⟨(fun h => by cases h), fun _ => Ret.here ⟨?_, rfl⟩⟩⟩⟩
      unfold fitv
      rw [if_neg nf, decide_eq_false nf]
    · have h0 : ¬ z < 0 := of_decide_eq_false h1
      refine ⟨_, rfl, ⟨fun _ => ⟨fun h4 => ?_, fun h4 => ?_⟩, fun h3 => by rw [h1] at h3; cases h3⟩⟩
      · have h4 : (z.natAbs : Int) ≤ 9223372036854775807 := of_decide_eq_true h4
        have hf : fit z := by unfold fit; omega
        refine ⟨z, by rw [IntKind.wrap_i64]; omega, Ret.here ⟨?_, rfl⟩⟩
        unfold fitv
        rw [if_pos hf, decide_eq_true hf]
      · have h4 : ¬ (z.natAbs : Int) ≤ 9223372036854775807 := of_decide_eq_false h4
        have nf : ¬ fit z := by unfold fit; omega
        refine Ret.here ⟨?_, rfl⟩
        unfold fitv
        rw [if_neg nf, decide_eq_false nf]
  · rw [if_neg hz, decide_eq_false hz]
    have nf : ¬ fit z := by unfold fit; omega
    refine ⟨fun _ => ⟨fun _ => Ret.here ⟨?_, rfl⟩, fun h => by cases h⟩, fun h => by cases h⟩
    unfold fitv
    rw [if_neg nf, decide_eq_false nf]
end Go.Proofs.Ytoidllhkhljlaaa.Nat
namespace Go.Ab
open Nn
def word (n : Int) : List AV := [.w (.int .i64 n)]
theorem word_at {ls : List Int} {i : Nat} (h : i < ls.length) : ((ls.flatMap word).drop (i * 1)).head? = some (.w (.int .i64 (ls.getD i 0))) := by
  rw [flat_drop (f := word) (sz := 1) (fun _ => rfl) 0 h]; rfl
end Go.Ab
namespace Go.Proofs.Ytoidllhkhljlaaa.Nat
open Go Go.Ab Go.Ab.Nn
set_option linter.unusedVariables false
set_option maxRecDepth 8000
variable {gl : Nat → Option (List AV)} {σ : Own}

theorem fit_len {z : Int} (h : fit z) : (limbs z.natAbs).length ≤ 1 := small_abs (by unfold fit at h; omega)
theorem Small_fit {z : Int} (h : fit z) : ACalls P gl F_whole_Small [int z] σ (fun v σ' => v = .tup [.w (.int .i64 z), .w (.bool true)] ∧ σ' = σ) := by
  have h1 := wSmall_spec (gl := gl) (σ := σ) z (by have := fit_len h; omega)
  unfold fitv at h1
  rw [if_pos h, decide_eq_true h] at h1
  exact h1
theorem WholeSmall_spec (ls : List Int) (hf : ∀ n ∈ ls, -9223372036854775808 ≤ n ∧ n ≤ 9223372036854775807) (hn : ls.length < 1125899906842624) : ACalls P gl F_gaugelaw2_WholeSmall [.fs (ls.flatMap word) ls.length] σ (fun v σ' => v = .w (.bool true) ∧ σ' = σ) := by
  refine C_gaugelaw2_WholeSmall.calls hm ?_
  refine ⟨fun m env σ' => ∃ i : Nat, m = ls.length - i ∧ i ≤ ls.length ∧ σ' = σ ∧ env = [(0, .fs (ls.flatMap word) ls.length), (3, .w (.int .i64 i))], Wk.here ⟨ls.length, 0, rfl, by omega, rfl, rfl⟩, ?_⟩
  rintro m env σ' ⟨i, rfl, hi, rfl, rfl⟩
  refine ⟨fun h => ⟨fun h60 => ?_, fun _ => ?_⟩, fun h => ⟨(fun h => by cases h), fun _ => ?_⟩⟩
  rotate_left
  · refine CallVC.here lwakes_spec ?_
    rintro v σ' ⟨rfl, rfl⟩
    exact Ret.here ⟨rfl, rfl⟩
  · refine CallVC.here lwakes_spec ?_
    rintro v σ' ⟨rfl, rfl⟩
    exact Ret.here ⟨rfl, rfl⟩
  have hl : i < ls.length := by have := of_decide_eq_true h; omega
  have hl0 : 0 < ls.length := by omega
  obtain ⟨f1, f2⟩ := get_all hf 0 hl
  obtain ⟨g1, g2⟩ := get_all hf 0 hl0
  have hx := word_at hl
  have hy := word_at hl0
  generalize ls.getD i 0 = x at *
  generalize ls.getD 0 0 = y at *
  have ix : ∃ j' : Nat, (i : Int) = j' ∧ j' < ls.length := ⟨i, rfl, hl⟩
  refine ⟨i, rfl, hl, _, hx, CallVC.here (wFrom_spec x f1 f2) ?_⟩
  rintro v σ' ⟨rfl, rfl⟩
  refine CallVC.here (Small_fit ⟨f1, f2⟩) ?_
  rintro v σ' ⟨rfl, rfl⟩
  refine ⟨_, rfl, _, rfl, ⟨fun _ => ⟨i, rfl, hl, _, hx, ⟨fun h => by simp at h, fun _ => ?_⟩⟩, fun h => by cases h⟩⟩
  have a1 : fit (y / 4) := by unfold fit; omega
  have a2 : fit (x / 4) := by unfold fit; omega
  have a3 : fit (y / 4 + x / 4) := by unfold fit; omega
  have b1 : fit (y / 8589934592) := by unfold fit; omega
  have b2 : fit (x / 8589934592) := by unfold fit; omega
  have b3 : fit (y / 8589934592 * (x / 8589934592)) := mul_fit (by omega) (by omega)
  have k1 := fit_len a1
  have k2 := fit_len a2
  have k3 := fit_len b1
  have k4 := fit_len b2
  refine ⟨0, rfl, hl0, _, hy, by decide, y / 4, sh2 y, i, rfl, hl, _, hx, by decide, x / 4, sh2 x, y / 4 + x / 4, wi a3.1 a3.2, ?_⟩
  refine Wk.here ⟨0, rfl, hl0, _, hy, by decide, y / 4, sh2 y, CallQ.here (wFrom_spec (y / 4) a1.1 a1.2) ⟨i, rfl, hl, _, hx, by decide, x / 4, sh2 x, CallQ.here (wFrom_spec (x / 4) a2.1 a2.2) (CallQ.here (ladd_spec (y / 4) (x / 4) (by omega) (by omega)) (CallQ.here (Small_fit a3) ⟨_, rfl, _, rfl, ?_⟩))⟩⟩
  refine Wk.here ⟨0, rfl, hl0, _, hy, by decide, y / 8589934592, sh33 y, CallQ.here (wFrom_spec (y / 8589934592) b1.1 b1.2) ⟨i, rfl, hl, _, hx, by decide, x / 8589934592, sh33 x, CallQ.here (wFrom_spec (x / 8589934592) b2.1 b2.2) (CallQ.here (lmul_spec (y / 8589934592) (x / 8589934592) (by omega) (by omega)) (CallQ.here (Small_fit b3) ⟨_, rfl, _, rfl, ?_⟩))⟩⟩
  refine ⟨fun _ => ⟨fun _ => ⟨fun _ => ?_, fun h => by cases h⟩, fun h => by simp at h⟩, fun h => by cases h⟩
  refine ⟨0, rfl, hl0, _, hy, by decide, y / 8589934592, sh33 y, i, rfl, hl, _, hx, by decide, x / 8589934592, sh33 x, y / 8589934592 * (x / 8589934592), wi b3.1 b3.2, ⟨fun h => by simp at h, fun _ => ?_⟩⟩
  obtain ⟨o1, o2⟩ := odd_fit y
  have l1 := fit_len (z := x) ⟨f1, f2⟩
  have l2 := fit_len o2
  have q1 := fdiv_len x o1
  have q2 := fmod_len x o1
  refine Wk.here ⟨i, rfl, hl, _, hx, CallF.here (fun E => wFrom_spec x f1 f2) ⟨0, rfl, hl0, _, hy, odd y, rfl, CallF.here (fun E => wFrom_spec (odd y) o2.1 o2.2) (CallF.here (fun E => wDivide_spec x (odd y) o1 (by omega) (by omega)) ⟨_, rfl, _, rfl, _, rfl, fun b11 h11 b12 h12 => ?_⟩)⟩⟩
  obtain ⟨i1, i2, i3, i4, i5, i6⟩ := init2 h11 h12 ⟨ic (x.fdiv (odd y)), 2⟩ ⟨ic (x.fmod (odd y)), 2⟩ (Z' := ⟨[.w (.bool false), .w (.slice none 0 0)], 2⟩)
  refine ⟨_, i1, Nat.le_refl 2, _, rfl, _, i2, Nat.le_refl 2, _, rfl, Wk.frz2 11 12 rfl rfl i3 i4 i5 h11 i6 ?_⟩
  clear i1 i2 i3 i4 i5 i6
  have hb : x.fdiv (odd y) * odd y + x.fmod (odd y) = x := Int.fdiv_mul_add_fmod x (odd y)
  refine ⟨_, rfl, rfl, CallVC.here (wSmall_spec (x.fdiv (odd y)) (by omega)) ?_⟩
  rintro v σ' ⟨rfl, rfl⟩
  refine ⟨_, rfl, _, rfl, _, rfl, rfl, CallVC.here (wSmall_spec (x.fmod (odd y)) (by omega)) ?_⟩
  rintro v σ' ⟨rfl, rfl⟩
  have fv : ∀ z : Int, decide (fit z) = true → fitv z = z := fun z h => by unfold fitv; rw [if_pos (of_decide_eq_true h)]
  refine ⟨_, rfl, _, rfl, Wk.here (CallQ.here (lnum_spec 0) ⟨fun _ => ⟨fun h15 => ⟨fun h17 => ⟨0, rfl, hl0, _, hy, odd y, rfl, _, rfl, x, ?_, i, rfl, hl, _, hx, ⟨fun h => by simp at h, fun _ => ?_⟩⟩, fun h17 => ⟨(fun h => by cases h), fun _ => ?_⟩⟩, fun h15 => ⟨(fun h => by cases h), fun _ => ⟨(fun h => by cases h), fun _ => ?_⟩⟩⟩, fun h => by cases h⟩)⟩
  · rw [fv _ h15, fv _ h17]
    exact wrap_back _ _ _ hb ⟨f1, f2⟩
  all_goals exact ⟨(i + 1 : Nat), by rw [wi] <;> omega, Wk.here ⟨ls.length - (i + 1), by omega, i + 1, rfl, by omega, rfl, rfl⟩⟩
end Go.Proofs.Ytoidllhkhljlaaa.Nat
/-! What comes in as data, read as plain values; a function's contract, told to a row. -/
namespace Go.Ab
open Go.ChangeShapes Go.WideShapes Go.RowKit
set_option linter.unusedVariables false
set_option linter.unusedSimpArgs false
variable {P : Program}

def none' : Own := fun _ => none
def noGl : Nat → Option (List AV) := fun _ => none
theorem rel_none (w : World) : Rel noGl none' w := ⟨(fun b ob h => by cases h), (fun b xs h => by cases h)⟩
/-- blocks of a world -/
def Bl (w : World) : Nat → Prop := fun b => b < w.heap.size
theorem Bl.im {w : World} {x : AV} {v : Value} (h : VR (Bl w) w x v) : VR (Im none' w) w x v := h.mono fun b hb => ⟨⟨hb, rfl⟩, rfl⟩

/-- What is read there is some plain value. -/
structure Opens (P : Program) (t : TypeId) {α : Type} (f : α → List AV) (g : α → Prop) : Prop where
  out : ∀ {H : Type} {enc : TypeId × Value → H} {w : World} {base : Nat} {spare : Nat → Bool} {held : Bool} {fuel : Nat} {cs : List Value} {x : DataW H × List MemPlace},
    DataW.trod enc P w base spare held fuel t cs = some x → (∀ n ∈ x.1.weights P t, n ≤ reachBytes) → ∃ a, VRs (Bl w) w (f a) cs ∧ g a
theorem weights_all {H : Type} {P : Program} {e : TypeId} {d : DataW H} {n : Nat} : ∀ {ds : List (DataW H)}, d ∈ ds → n ∈ d.weights P e → n ∈ DataW.weightsAll P e ds
  | d0 :: ds, hd, hn => by
    simp only [DataW.weightsAll, List.mem_append]
    rcases List.mem_cons.1 hd with rfl | hd
    · exact .inl hn
    · exact .inr (weights_all hd hn)
theorem opens_int {t : TypeId} {k : IntKind} (ht : P.underlying t = some (.int k)) : Opens P t (fun n : Int => [.w (.int k n)]) (fun n => (Lit.int k n).wf = true) := by
  constructor; intro H enc w base spare held fuel cs x h _
  obtain ⟨n, rfl, _, hw⟩ := DataW.trod_int ht h
  exact ⟨n, .cons (.w _) .nil, hw⟩
theorem opens_bool {t : TypeId} (ht : P.underlying t = some .bool) : Opens P t (fun b : Bool => [.w (.bool b)]) (fun _ => True) := by
  constructor; intro H enc w base spare held fuel cs x h _
  obtain ⟨n, rfl, _⟩ := DataW.trod_bool ht h
  exact ⟨n, .cons (.w _) .nil, trivial⟩
theorem opens_string {t : TypeId} (ht : P.underlying t = some .string) : Opens P t (fun s : ByteArray => [.w (.string s)]) (fun s => s.size ≤ maxLen) := by
  constructor; intro H enc w base spare held fuel cs x h hz
  obtain ⟨s, rfl, _, hs⟩ := DataW.trod_string ht h
  exact ⟨s, .cons (.w _) .nil, hs⟩
theorem Opens.map {t : TypeId} {α β : Type} {f : α → List AV} {g : α → Prop} {f' : β → List AV} {g' : β → Prop} (h : Opens P t f g) (k : α → β) (hk : ∀ a, g a → f' (k a) = f a ∧ g' (k a)) : Opens P t f' g' := by
  constructor; intro H enc w base spare held fuel cs x hx hz
  obtain ⟨a, ha, hg⟩ := h.out hx hz
  exact ⟨k a, by rw [(hk a hg).1]; exact ha, (hk a hg).2⟩
theorem list_choose {α : Type} {p : Nat → α → Prop} : ∀ n : Nat, (∀ i, i < n → ∃ a, p i a) → ∃ l : List α, l.length = n ∧ ∀ i a, l[i]? = some a → p i a
  | 0, _ => ⟨[], rfl, fun i a h => by simp at h⟩
  | n + 1, h => by
    obtain ⟨l, hl, hp⟩ := list_choose n (fun i hi => h i (by omega))
    obtain ⟨a, ha⟩ := h n (by omega)
    refine ⟨l ++ [a], by simp [hl], fun i b hb => ?_⟩
    by_cases hi : i < n
    · rw [List.getElem?_append_left (by omega)] at hb
      exact hp i b hb
    · rw [List.getElem?_append_right (by omega)] at hb
      have hi2 : i = n := by
        have := (List.getElem?_eq_some_iff.1 hb).1
        simp at this
        omega
      subst hi2
      rw [hl] at hb
      simp at hb
      exact hb ▸ ha
theorem flatMap_get {α : Type} {f : α → List AV} {sz : Nat} (hf : ∀ a, (f a).length = sz) : ∀ (l : List α) (k : Nat) (hk : k < (l.flatMap f).length), ∃ a, l[k / sz]? = some a ∧ (f a)[k % sz]? = some ((l.flatMap f)[k])
  | [], k, hk => by simp at hk
  | a :: l, k, hk => by
    rw [List.flatMap_cons, List.length_append, hf] at hk
    by_cases h : k < sz
    · refine ⟨a, by rw [Nat.div_eq_of_lt h]; rfl, ?_⟩
      rw [Nat.mod_eq_of_lt h, List.getElem?_eq_getElem (by rw [hf]; exact h)]
      congr 1
      simp only [List.flatMap_cons]
      rw [List.getElem_append_left (by rw [hf]; exact h)]
    · have hs : 0 < sz := by
        rcases Nat.eq_zero_or_pos sz with h0 | h0
        · exfalso
          subst h0
          have : (l.flatMap f) = [] := by
            rw [List.flatMap_eq_nil_iff]; intro x _; exact List.eq_nil_of_length_eq_zero (hf x)
          rw [this] at hk; simp at hk
        · exact h0
      obtain ⟨b, h1, h2⟩ := flatMap_get hf l (k - sz) (by omega)
      refine ⟨b, ?_, ?_⟩
      · rw [Nat.div_eq_sub_div hs (by omega), List.getElem?_cons_succ]; exact h1
      · rw [Nat.mod_eq_sub_mod (by omega), h2]
        congr 1
        simp only [List.flatMap_cons]
        rw [List.getElem_append_right (by rw [hf]; omega)]
        simp only [hf]
theorem cell_bl {w : World} {a : Addr} {v : Value} (h : w.cell? a = some v) : Bl w a.block := by
  unfold World.cell? at h
  unfold Bl
  rcases Nat.lt_or_ge a.block w.heap.size with hl | hl
  · exact hl
  · rw [Array.getElem?_eq_none hl] at h
    simp at h
theorem opens_slice {t e : TypeId} {α : Type} {f : α → List AV} {g : α → Prop} {sz : Nat} (ht : P.underlying t = some (.slice e)) (hs : P.cellsOf e = sz) (hf : ∀ a, (f a).length = sz) (hd : Opens P e f g) :
    Opens P t (fun l : List α => [.fs (l.flatMap f) l.length]) (fun xs => (∀ x ∈ xs, g x) ∧ xs.length * P.bytesOf e ≤ reachBytes) := by
  constructor; intro H enc w base spare held fuel cs x h hz
  rcases Go.Deep.open_slice ht h with ⟨rfl, _⟩ | ⟨a, len, cap, m, n, D, Pl, rfl, hb, hl, hm, hmm, rfl, hx⟩
  · exact ⟨[], .cons .fs0 .nil, by simp, by simp [reachBytes]⟩
  · have hlm : len ≤ m := by rw [hmm]; split <;> omega
    obtain ⟨l, hll, hp⟩ := list_choose (p := fun i b => g b ∧ ∃ c : List Value, c.length = sz ∧ VRs (Bl w) w (f b) c ∧ ∀ j u, c[j]? = some u → w.cell? (a.add (i * sz + j)) = some u) len (fun i hi => by
      obtain ⟨cs', h1, h2⟩ := hx i (by omega)
      obtain ⟨b, hk, hg⟩ := hd.out h2 (fun q hq => hz q (by
        show q ∈ DataW.weights P t (.slice ((List.range len).map D) _)
        unfold DataW.weights
        simp only [ht, List.mem_cons, List.mem_append]
        exact .inr (.inl (weights_all (List.mem_map_of_mem (List.mem_range.2 hi)) hq))))
      obtain ⟨_, hlen, hcell⟩ := World.cells?_some h1
      refine ⟨b, hg, cs', by rw [hlen, hs], hk, fun j u hj => ?_⟩
      have hj2 : j < cs'.length := (List.getElem?_eq_some_iff.1 hj).1
      have := hcell j (by omega)
      rw [hj, Go.Deep.add_add, hs] at this
      exact this)
    have hg : ∀ x ∈ l, g x := by
      intro x hx
      obtain ⟨i, hi, rfl⟩ := List.getElem_of_mem hx
      exact (hp i _ (List.getElem?_eq_getElem hi)).1
    subst hll
    refine ⟨l, .cons (.mk_fs hl ?_) .nil, hg, ?_⟩
    · intro k hk
      obtain ⟨b, h1, h2⟩ := flatMap_get hf l k hk
      obtain ⟨_, c, hc, hv, hcell⟩ := hp _ _ h1
      obtain ⟨u, hu, hvr⟩ := VRs.get hv h2
      have := hcell _ _ hu
      rw [Nat.mul_comm, Nat.div_add_mod] at this
      have hbl : Bl w a.block := by
        have h3 := cell_bl this
        rwa [add_block] at h3
      exact ⟨hbl, u, this, hvr⟩
    · have := hz ((((List.range l.length).map D).length + ((List.range (m - l.length)).map fun j => D (l.length + j)).length) * P.bytesOf e) (by
        show _ ∈ DataW.weights P t (.slice ((List.range l.length).map D) _)
        unfold DataW.weights
        simp only [ht, List.mem_cons, true_or])
      refine Nat.le_trans (Nat.mul_le_mul_right _ ?_) this
      simp
/-- Fields in a row. -/
structure OpensFs (P : Program) (fs : List Field) (off : Nat) {α : Type} (f : α → List AV) (g : α → Prop) (sz : Nat) : Prop where
  out : ∀ {H : Type} {enc : TypeId × Value → H} {w : World} {base : Nat} {spare : Nat → Bool} {held : Bool} {fuel : Nat} {cs : List Value},
    (∀ f ∈ fs, ∃ y, DataW.trod enc P w base spare held fuel f.type ((cs.drop f.offset).take (P.cellsOf f.type)) = some y ∧ ∀ n ∈ y.1.weights P f.type, n ≤ reachBytes) → ∃ a, VRs (Bl w) w (f a) ((cs.drop off).take sz) ∧ g a
theorem opensFs_one {f : Field} {off sz : Nat} {α : Type} {d : α → List AV} {g : α → Prop} (ho : f.offset = off) (hs : P.cellsOf f.type = sz) (hd : Opens P f.type d g) : OpensFs P [f] off d g sz := by
  constructor; intro H enc w base spare held fuel cs h
  obtain ⟨y, hy, hz⟩ := h f (by simp)
  rw [ho, hs] at hy
  exact hd.out hy hz
theorem opensFs_cons {f : Field} {fs : List Field} {off sz sz' : Nat} {α β : Type} {d : α → List AV} {d' : β → List AV} {g : α → Prop} {g' : β → Prop} (ho : f.offset = off) (hs : P.cellsOf f.type = sz) (hd : Opens P f.type d g) (hr : OpensFs P fs (off + sz) d' g' sz') :
    OpensFs P (f :: fs) off (fun p : α × β => d p.1 ++ d' p.2) (fun p => g p.1 ∧ g' p.2) (sz + sz') := by
  constructor; intro H enc w base spare held fuel cs h
  obtain ⟨y, hy, hz⟩ := h f (by simp)
  rw [ho, hs] at hy
  obtain ⟨a, ha, hga⟩ := hd.out hy hz
  obtain ⟨b, hb, hgb⟩ := hr.out (fun f' hf' => h f' (List.mem_cons_of_mem _ hf'))
  refine ⟨(a, b), ?_, hga, hgb⟩
  rw [List.take_add, List.drop_drop]
  exact VRs.append ha hb
theorem opens_struct {t : TypeId} {fs : Array Field} {α : Type} {d : α → List AV} {g : α → Prop} {sz : Nat} (ht : P.underlying t = some (.struct fs)) (hs : P.cellsOf t = sz) (hd : OpensFs P fs.toList 0 d g sz) :
    Opens P t d g := by
  constructor; intro H enc w base spare held fuel cs x h hz
  obtain ⟨xs, n, _, rfl, hl, hxl, hf⟩ := DataW.trod_struct ht h
  obtain ⟨a, ha, hg⟩ := hd.out (enc := enc) (w := w) (base := base) (spare := spare) (held := held) (fuel := n) (cs := cs) (fun fl hfl => by
    obtain ⟨i, hi, rfl⟩ := List.getElem_of_mem hfl
    have hi2 : i < fs.size := by simpa using hi
    have := hf i fs[i] (Array.getElem?_eq_getElem hi2)
    rw [List.getElem?_eq_getElem (by omega)] at this
    refine ⟨xs[i]'(by omega), by simpa using this, fun q hq => hz q ?_⟩
    show q ∈ DataW.weights P t (.agg (xs.map (·.1)))
    unfold DataW.weights
    simp only [ht]
    exact DataW.weights_mem_each (j := i) (t := fs[i].type) (d := (xs[i]'(by omega)).1) (by simp [List.getElem?_eq_getElem hi2]) (by simp [List.getElem?_eq_getElem (show i < xs.length by omega)]) q (by simpa using hq))
  refine ⟨a, ?_, hg⟩
  rwa [List.drop_zero, List.take_of_length_le (by omega)] at ha

/-- A contract over no own memory, told as a run. -/
theorem Codes.told {f : FuncId} {S : SC} {n : Nat} {rs : List Nat} (hcode : Codes P f S n rs) {args : List AV} {v : AV} (h : ACalls P noGl f args none' (fun v' σ' => v' = v ∧ σ' = none'))
    {w : World} {cargs : Array Value} (hv : VRs (Bl w) w args cargs.toList) : Calls P f cargs w fun e w' => ∃ cv, e = .returned cv ∧ VR (Bl w') w' v cv ∧ Below w.heap.size w w' := by
  obtain ⟨fn, c, hf, hb, hn, _, _, _⟩ := hcode.out
  have hv' : VRs (Im none' w) w args cargs.toList := hv.mono fun b hb => ⟨⟨hb, rfl⟩, rfl⟩
  have := h w cargs (rel_none w) hv'
  have hrun : (callFunc f cargs).run P w = .ok (.enter f cargs) w := by
    have hn' : ¬ fn.name = "runtime.NumGoroutine" := by simpa using hn
    unfold callFunc
    simp [hf, hn', hb]
  rw [hrun] at this
  refine Calls.mono this fun e w' => ?_
  rintro ⟨cv, rfl, v', σ', ⟨rfl, rfl⟩, hr, hs, hvr⟩
  exact ⟨cv, rfl, hvr.mono fun b hb => ⟨hb.1, rfl⟩, hs.os, hs.tape, hs.output, hs.size, fun k hk => (hs.im k hk rfl).2⟩
end Go.Ab
