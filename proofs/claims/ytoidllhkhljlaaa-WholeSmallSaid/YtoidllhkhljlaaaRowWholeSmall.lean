/- For every list of words, gaugelaw2.WholeSmall returns true, and what was handed in reads behind the call as before. Conditions: none of ours; the row alone says what input means (what the model lets come in, lists as long as the reach lets them be). -/
import Derived.Test.YtoidllhkhljlaaaRows
import Derived.WalkKit
import Derived.ProofKit
import Derived.OpenShut
import Derived.ShutString
import Derived.ChangeOld
import Derived.Below
import Derived.SizedLaws
import Derived.Test.YtoidllhkhljlaaaPk4
/-! The row of WholeSmall: what came in is read as a list, the law's contract; what came in stands as it did. -/
namespace Go.Proofs.Ytoidllhkhljlaaa.rowWholeSmall
open Go.ChangeShapes Go.WideShapes Go.ChangeAt Go.RowKit
open Go.Ab Go.Ab.Nn Go.Proofs.Ytoidllhkhljlaaa.Nat
set_option linter.unusedVariables false
theorem own : ownKnob Try.prog.godebug = none := by kernel_rfl
theorem laidOut : laidOutB Try.prog = true := by kernel_rfl
theorem wf_word {n : Int} (h : (Lit.int .u64 n).wf = true) : ∃ k : Nat, n = k ∧ k < 18446744073709551616 := by
  simp [Lit.wf, IntKind.min, IntKind.max, IntKind.bits, IntKind.signed] at h
  exact ⟨n.toNat, by omega, by omega⟩
theorem opens_word : Opens Try.prog 81 (fun n : Nat => [u n]) (fun n => n < 18446744073709551616) :=
  (opens_int Try.underlying81).map (fun z : Int => z.toNat) fun z hz => by
    obtain ⟨k, rfl, hk⟩ := wf_word hz
    exact ⟨rfl, hk⟩
theorem flat_words (l : List Nat) : l.flatMap (fun n => [u n]) = l.map u := by induction l with
  | nil => rfl
  | cons x l ih => simpa using ih
theorem opens_nat : Opens Try.prog 25 (fun l : List Nat => [nat l]) (fun l => W l ∧ l.length < 17592186044416) :=
  (opens_slice (sz := 1) Try.underlying25 (by kernel_rfl) (fun _ => rfl) opens_word).map id fun l ⟨h1, h2⟩ => by
    rw [show Try.prog.bytesOf 81 = 8 by kernel_rfl, show reachBytes = 140737488351232 from rfl] at h2
    exact ⟨by rw [flat_words]; rfl, h1, by show l.length < _; omega⟩
theorem wf_i64 {n : Int} (h : (Lit.int .i64 n).wf = true) : -9223372036854775808 ≤ n ∧ n ≤ 9223372036854775807 := by
  simp [Lit.wf, IntKind.min, IntKind.max, IntKind.bits, IntKind.signed] at h
  omega
theorem opens_elem : Opens Try.prog 2 word (fun n : Int => -9223372036854775808 ≤ n ∧ n ≤ 9223372036854775807) :=
  (opens_int Try.underlying2).map id fun _ h => ⟨rfl, wf_i64 h⟩
set_option maxRecDepth 100000 in
theorem lifted (os : Os) (started : os.Started) (H : Type) (enc : TypeId × Value → H) :
    ReturnsInHanded {} Try.checked os 6 .any (Rows.wholeSmallSpec.pre6 enc Try.prog Try.f6 Rows.wholeSmallRow.domain false) (Rows.wholeSmallSpec.post enc Try.prog Try.f6 false true false false) := by
  refine returnsInHanded_of_change_sized (C := Try.checked) own started (by kernel_rfl) Try.func6
    (ChangeSpec.witness6 (enc := enc) (C := Try.checked) false ⟨#[], #[.slice none 0 0], []⟩ 8 (by kernel_rfl) (by kernel_rfl) (by kernel_rfl) (by kernel_rfl)) ?_
  intro W base args ds gs before hval0 hW hcnd hsz0 _
  have hsz : (DataW.weightsEach Try.prog (Try.f6.params.toList ++ Rows.wholeSmallSpec.plain.varTypes Try.prog) (ds ++ gs)).all (· ≤ reachBytes) = true := hsz0
  have hval : ∀ (j : Nat) t v, Try.f6.params[j]? = some t → args[j]? = some v → Value.okWide Try.prog W .any base t v := hval0
  have hW' := hW
  obtain ⟨p, q, hA0, hV, rfl, hfz, hnd⟩ := hW
  have hA : DataW.TrodAll enc Try.prog W 0 (fun _ => true) true Try.f6.params.toList args.toList ds p := hA0
  rw [Try.params6] at hA hval hsz
  obtain ⟨v0, vs0, d0, ds0, p0, q0, hargs, rfl, rfl, h0, r0⟩ := trodAll_cons hA
  obtain ⟨rfl, rfl, rfl⟩ := trodAll_nil r0
  obtain rfl : args = #[v0] := by cases args; simp_all
  obtain ⟨rfl, rfl⟩ := trodVars_none hV
  obtain ⟨a0, len0, cap0, rfl⟩ := okWide_slice Try.underlying51 (hval 0 51 v0 rfl rfl)
  have k0 := h0
  have lt0 : ∀ x ∈ p0, x.block < W.heap.size := by obtain ⟨m, hm⟩ := k0; exact DataW.trod_lt m _ _ _ hm
  have y0 : ∃ xs : List Int, VRs (Bl W) W [.fs (xs.flatMap word) xs.length] [.slice a0 len0 cap0] ∧ (∀ x ∈ xs, (fun n : Int => -9223372036854775808 ≤ n ∧ n ≤ 9223372036854775807) x) ∧ xs.length * Try.prog.bytesOf 2 ≤ reachBytes := by
    obtain ⟨fuel, hf⟩ := h0
    refine (opens_slice (sz := 1) Try.underlying51 (by kernel_rfl) (fun _ => rfl) opens_elem).out hf (fun n hn => ?_)
    have := List.all_eq_true.1 hsz n (DataW.weights_mem_each (j := 0) (t := 51) (d := d0) rfl rfl n hn)
    simpa using this
  obtain ⟨xs, hxs, hfine, hlen⟩ := y0
  rw [show Try.prog.bytesOf 2 = 8 by kernel_rfl, show reachBytes = 140737488351232 from rfl] at hlen
  clear hA0 hval0 hsz0 hsz
  refine (C_gaugelaw2_WholeSmall.told (WholeSmall_spec xs hfine (by omega)) hxs).mono fun e W' ⟨cv, he, hcv, bel⟩ => ?_
  subst he
  obtain rfl := hcv.w_inv
  exact ⟨_, rfl, _, _, _, [], _, [], hW', trodAll_mk1 (shut_bool Try.underlying4 _), (trodAll_cons_mk (Below.trod laidOut (by kernel_rfl) (of_decide_eq_true (by kernel_rfl)) k0 bel lt0) trodAll_mk0), rfl, bel.frame _, fun h => by cases h⟩
theorem over : Rows.wholeSmallRow.holds Try.pinned (OpenSpec.ofChange Rows.wholeSmallSpec) :=
  OpenClaim.holds_of_wide 6 Try.f6 rfl rfl rfl rfl rfl rfl rfl ⟨rfl, rfl, rfl, rfl, rfl⟩ rfl rfl rfl rfl rfl (by kernel_rfl) Try.func6 (by kernel_rfl)
    (of_decide_eq_true (by kernel_rfl)) (by unfold Func.isWrapper; first | (rw [if_pos (by decide +kernel)]; kernel_rfl) | (rw [if_neg (by decide +kernel)]; exact ⟨rfl, rfl⟩))
    (fun os started H enc _ => lifted os started H enc)
theorem proved : Rows.WholeSmallSaid := over
#print axioms proved
end Go.Proofs.Ytoidllhkhljlaaa.rowWholeSmall
namespace Go.Proofs.Ytoidllhkhljlaaa
theorem wholeSmall_holds : Rows.WholeSmallSaid := rowWholeSmall.proved
end Go.Proofs.Ytoidllhkhljlaaa
