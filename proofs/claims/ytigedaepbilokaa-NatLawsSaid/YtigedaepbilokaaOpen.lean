import Derived.Test.YtigedaepbilokaaLMore
import Derived.Test.YtigedaepbilokaaLShare
import Derived.ChangeArms
import Derived.Deep.Slices
import Derived.SizedLaws
/-! What comes in as data is read as a kind says: for any kinds of numbers, strings, slices, structs. -/
namespace Go.Proofs.Ytigedaepbilokaa.Open
open Go.RowKit Go.Proofs.YtigedaepbilokaaL.PrintWords Go.Proofs.YtigedaepbilokaaL.PrintLast Go.Proofs.YtigedaepbilokaaL.PrintMore
set_option linter.unusedVariables false

def Opens (P : Program) (t : TypeId) {α : Type} (d : Kd α) (g : α → Prop) : Prop :=
  ∀ {H : Type} {enc : TypeId × Value → H} {w : World} {base : Nat} {spare : Nat → Bool} {held : Bool} {fuel : Nat} {cs : List Value} {x : DataW H × List MemPlace},
    DataW.trod enc P w base spare held fuel t cs = some x → (∀ n ∈ x.1.weights P t, n ≤ reachBytes) → ∃ a, d.K w a cs ∧ g a
theorem weights_all {H : Type} {P : Program} {e : TypeId} {d : DataW H} {n : Nat} : ∀ {ds : List (DataW H)}, d ∈ ds → n ∈ d.weights P e → n ∈ DataW.weightsAll P e ds
  | d0 :: ds, hd, hn => by
    simp only [DataW.weightsAll, List.mem_append]
    rcases List.mem_cons.1 hd with rfl | hd
    · exact .inl hn
    · exact .inr (weights_all hd hn)
theorem opens_int {P : Program} {t : TypeId} {k : IntKind} (ht : P.underlying t = some (.int k)) : Opens P t (Kd.int k) (fun n => (Lit.int k n).wf = true) := by
  intro H enc w base spare held fuel cs x h _
  obtain ⟨n, hc, _, hw⟩ := DataW.trod_int ht h
  exact ⟨n, hc, hw⟩
theorem opens_bool {P : Program} {t : TypeId} (ht : P.underlying t = some .bool) : Opens P t Kd.bool (fun _ => True) := by
  intro H enc w base spare held fuel cs x h _
  obtain ⟨n, hc, _⟩ := DataW.trod_bool ht h
  exact ⟨n, hc, trivial⟩
theorem opens_string {P : Program} {t : TypeId} (ht : P.underlying t = some .string) : Opens P t Kd.string (fun s => s.size ≤ maxLen) := by
  intro H enc w base spare held fuel cs x h hz
  obtain ⟨s, hc, _, hs⟩ := DataW.trod_string ht h
  exact ⟨s, hc, hs⟩
theorem list_choose {α : Type} {p : Nat → α → Prop} : ∀ n : Nat, (∀ i, i < n → ∃ a, p i a) → ∃ l : List α, l.length = n ∧ ∀ i a, l[i]? = some a → p i a
  | 0, _ => ⟨[], rfl, fun i a h => by simp at h⟩
  | n + 1, h => by
    obtain ⟨l, hl, hp⟩ := list_choose n (fun i hi => h i (by omega))
    obtain ⟨a, ha⟩ := h n (by omega)
    refine ⟨l ++ [a], by simp [hl], fun i b hb => ?_⟩
    by_cases hi : i < n
    · rw [List.getElem?_append_left (by omega)] at hb
      exact hp i b hb
    · rw [List.getElem?_append_right (by omega)] at hb
      have hi2 : i = n := by
        have := (List.getElem?_eq_some_iff.1 hb).1
        simp at this
        omega
      subst hi2
      rw [hl] at hb
      simp at hb
      exact hb ▸ ha
theorem opens_slice {P : Program} {t e : TypeId} {α : Type} {d : Kd α} {g : α → Prop} (e' : Nat) (ht : P.underlying t = some (.slice e)) (hs : P.cellsOf e = d.sz) (hd : Opens P e d g) :
    Opens P t (Kd.slice e' d) (fun xs => (∀ x ∈ xs, g x) ∧ xs.length * P.bytesOf e ≤ reachBytes) := by
  intro H enc w base spare held fuel cs x h hz
  rcases Go.Deep.open_slice ht h with ⟨rfl, _⟩ | ⟨a, len, cap, m, n, D, Pl, rfl, hb, hl, hm, hmm, rfl, hx⟩
  · exact ⟨[], ⟨none, 0, rfl, Nat.le_refl _, rfl, by simp, fun h0 => by simp at h0⟩, by simp, by simp [reachBytes]⟩
  · have hlm : len ≤ m := by rw [hmm]; split <;> omega
    obtain ⟨l, hll, hp⟩ := list_choose (p := fun i b => g b ∧ ∃ c : List Value, c.length = d.sz ∧ d.K w b c ∧ ∀ j u, c[j]? = some u → w.cell? (a.add (i * d.sz + j)) = some u) len (fun i hi => by
      obtain ⟨cs', h1, h2⟩ := hx i (by omega)
      obtain ⟨b, hk, hg⟩ := hd h2 (fun q hq => hz q (by
        show q ∈ DataW.weights P t (.slice ((List.range len).map D) _)
        unfold DataW.weights
        simp only [ht, List.mem_cons, List.mem_append]
        exact .inr (.inl (weights_all (List.mem_map_of_mem (List.mem_range.2 hi)) hq))))
      obtain ⟨_, hlen, hcell⟩ := World.cells?_some h1
      refine ⟨b, hg, cs', by rw [hlen, hs], hk, fun j u hj => ?_⟩
      have hj2 : j < cs'.length := (List.getElem?_eq_some_iff.1 hj).1
      have := hcell j (by omega)
      rw [hj, Go.Deep.add_add, hs] at this
      exact this)
    have hg : ∀ x ∈ l, g x := by
      intro x hx
      obtain ⟨i, hi, rfl⟩ := List.getElem_of_mem hx
      exact (hp i _ (List.getElem?_eq_getElem hi)).1
    refine ⟨l, ⟨some a, cap, by rw [hll], by omega, rfl, by rw [hll]; simp only [maxLen] at hm; omega, fun h0 => ⟨a, rfl, fun j p hj => ?_⟩⟩, hg, ?_⟩
    rotate_left
    · have := hz ((((List.range len).map D).length + ((List.range (m - len)).map fun j => D (len + j)).length) * P.bytesOf e) (by
        show _ ∈ DataW.weights P t (.slice ((List.range len).map D) _)
        unfold DataW.weights
        simp only [ht, List.mem_cons, true_or])
      refine Nat.le_trans (Nat.mul_le_mul_right _ ?_) this
      simp [hll]
    obtain ⟨_, c, h1, h2, h3⟩ := hp j p hj
    exact ⟨c, h1, h2, h3⟩
/-- Fields in a row. -/
def OpensFs (P : Program) (fs : List Field) (off : Nat) {α : Type} (d : Kd α) (g : α → Prop) : Prop :=
  ∀ {H : Type} {enc : TypeId × Value → H} {w : World} {base : Nat} {spare : Nat → Bool} {held : Bool} {fuel : Nat} {cs : List Value},
    (∀ f ∈ fs, ∃ y, DataW.trod enc P w base spare held fuel f.type ((cs.drop f.offset).take (P.cellsOf f.type)) = some y ∧ ∀ n ∈ y.1.weights P f.type, n ≤ reachBytes) → ∃ a, d.K w a ((cs.drop off).take d.sz) ∧ g a
theorem opensFs_one {P : Program} {f : Field} {off : Nat} {α : Type} {d : Kd α} {g : α → Prop} (ho : f.offset = off) (hs : P.cellsOf f.type = d.sz) (hd : Opens P f.type d g) : OpensFs P [f] off d g := by
  intro H enc w base spare held fuel cs h
  obtain ⟨y, hy, hz⟩ := h f (by simp)
  rw [ho, hs] at hy
  exact hd hy hz
theorem opensFs_cons {P : Program} {f : Field} {fs : List Field} {off : Nat} {α β : Type} {d : Kd α} {d' : Kd β} {g : α → Prop} {g' : β → Prop} (ho : f.offset = off) (hs : P.cellsOf f.type = d.sz) (hd : Opens P f.type d g) (hr : OpensFs P fs (off + d.sz) d' g') :
    OpensFs P (f :: fs) off (Kd.pair d d') (fun p => g p.1 ∧ g' p.2) := by
  intro H enc w base spare held fuel cs h
  obtain ⟨y, hy, hz⟩ := h f (by simp)
  rw [ho, hs] at hy
  obtain ⟨a, ha, hga⟩ := hd hy hz
  obtain ⟨b, hb, hgb⟩ := hr (fun f' hf' => h f' (List.mem_cons_of_mem _ hf'))
  refine ⟨(a, b), ⟨_, _, ?_, ha, hb⟩, hga, hgb⟩
  show (cs.drop off).take (d.sz + d'.sz) = _
  rw [List.take_add, List.drop_drop]
theorem opens_struct {P : Program} {t : TypeId} {fs : Array Field} {α β : Type} {d : Kd α} {g : α → Prop} (f : β → α) (mk : α → β) (hmk : ∀ a, f (mk a) = a) (ht : P.underlying t = some (.struct fs)) (hs : P.cellsOf t = d.sz) (hd : OpensFs P fs.toList 0 d g) :
    Opens P t (Kd.iso d f) (fun b => g (f b)) := by
  intro H enc w base spare held fuel cs x h hz
  obtain ⟨xs, n, _, rfl, hl, hxl, hf⟩ := DataW.trod_struct ht h
  obtain ⟨a, ha, hg⟩ := hd (enc := enc) (w := w) (base := base) (spare := spare) (held := held) (fuel := n) (cs := cs) (fun fl hfl => by
    obtain ⟨i, hi, rfl⟩ := List.getElem_of_mem hfl
    have hi2 : i < fs.size := by simpa using hi
    have := hf i fs[i] (Array.getElem?_eq_getElem hi2)
    rw [List.getElem?_eq_getElem (by omega)] at this
    refine ⟨xs[i]'(by omega), by simpa using this, fun q hq => hz q ?_⟩
    show q ∈ DataW.weights P t (.agg (xs.map (·.1)))
    unfold DataW.weights
    simp only [ht]
    exact DataW.weights_mem_each (j := i) (t := fs[i].type) (d := (xs[i]'(by omega)).1) (by simp [List.getElem?_eq_getElem hi2]) (by simp [List.getElem?_eq_getElem (show i < xs.length by omega)]) q (by simpa using hq))
  refine ⟨mk a, ?_, by show g (f (mk a)); rw [hmk]; exact hg⟩
  show d.K w (f (mk a)) cs
  rw [hmk]
  rwa [List.drop_zero, List.take_of_length_le (by omega)] at ha
end Go.Proofs.Ytigedaepbilokaa.Open
