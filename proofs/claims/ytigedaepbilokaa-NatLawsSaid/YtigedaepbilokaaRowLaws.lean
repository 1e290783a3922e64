/- For every list of threes of numbers, gaugelaw1.NatLaws returns true, and what was handed in reads behind the call as before. Conditions: none of ours; the row alone says what input means (what the model lets come in, lists as long as the reach lets them be). -/
import Derived.Test.YtigedaepbilokaaRows
import Derived.Test.YtigedaepbilokaaN5
import Derived.Test.YtigedaepbilokaaOpen
import Derived.WalkKit
import Derived.ProofKit
import Derived.OpenShut
import Derived.ShutString
import Derived.ChangeOld
import Derived.Below
import Derived.SizedLaws
/-! NatLaws' row: what came in is read as a list of threes, the law's walk, its plain law; what came in stands as it did. -/
namespace Go.Proofs.Ytigedaepbilokaa.natLaws
open Go.ChangeShapes Go.WideShapes Go.ChangeAt Go.RowKit
open Go.Proofs.YtigedaepbilokaaL.PrintWords Go.Proofs.YtigedaepbilokaaL.PrintLast Go.Proofs.YtigedaepbilokaaL.PrintMore
open Go.Proofs.Ytigedaepbilokaa.Open Go.Proofs.Ytigedaepbilokaa.PLaw
set_option linter.unusedVariables false
theorem own : ownKnob Try.prog.godebug = none := by kernel_rfl
theorem laidOut : laidOutB Try.prog = true := by kernel_rfl
theorem wf_word {n : Int} (h : (Lit.int .u64 n).wf = true) : 0 ≤ n ∧ n < 18446744073709551616 := by
  simp [Lit.wf, IntKind.min, IntKind.max, IntKind.bits, IntKind.signed] at h
  omega
theorem opens_nat : Opens Try.prog 25 (Kd.slice 37 (Kd.int .u64)) (fun l => Plain.W l ∧ l.length < 17592186044416) := by
  intro H enc w base spare held fuel cs x h hz
  obtain ⟨a, h1, h2, h3⟩ := opens_slice 37 Try.underlying25 (by kernel_rfl) (opens_int Try.underlying37) h hz
  rw [show Try.prog.bytesOf 37 = 8 by kernel_rfl, show reachBytes = 140737488351232 from rfl] at h3
  exact ⟨a, h1, fun n hn => wf_word (h2 n hn), by omega⟩
theorem opens_three : Opens Try.prog 27 k27 Fine :=
  opens_struct (fun x : S27 => (x.f0, x.f1, x.f2)) (fun p => ⟨p.1, p.2.1, p.2.2⟩) (fun _ => rfl) Try.underlying27 (by kernel_rfl)
    (opensFs_cons rfl (by kernel_rfl) opens_nat (opensFs_cons rfl (by kernel_rfl) opens_nat (opensFs_one rfl (by kernel_rfl) opens_nat)))
theorem heap_three : Kd.Heap k27 :=
  Kd.heap_iso _ (Kd.heap_pair (Kd.heap_slice _ (Kd.heap_int _)) (Kd.heap_pair (Kd.heap_slice _ (Kd.heap_int _)) (Kd.heap_slice _ (Kd.heap_int _))))
set_option maxRecDepth 100000 in
theorem lifted (os : Os) (started : os.Started) (H : Type) (enc : TypeId × Value → H) :
    ReturnsInHanded {} Try.checked os 3 .any (Rows.natLawsSpec.pre6 enc Try.prog Try.f3 Rows.natLawsRow.domain false) (Rows.natLawsSpec.post enc Try.prog Try.f3 false true false false) := by
  refine returnsInHanded_of_change_sized (C := Try.checked) own started (by kernel_rfl) Try.func3
    (ChangeSpec.witness6 (enc := enc) (C := Try.checked) false ⟨#[], #[.slice none 0 0], []⟩ 8 (by kernel_rfl) (by kernel_rfl) (by kernel_rfl) (by kernel_rfl)) ?_
  intro W base args ds gs before hval0 hW hcnd hsz0 _
  have hsz : (DataW.weightsEach Try.prog (Try.f3.params.toList ++ Rows.natLawsSpec.plain.varTypes Try.prog) (ds ++ gs)).all (· ≤ reachBytes) = true := hsz0
  have hval : ∀ (j : Nat) t v, Try.f3.params[j]? = some t → args[j]? = some v → Value.okWide Try.prog W .any base t v := hval0
  have hW' := hW
  obtain ⟨p, q, hA0, hV, rfl, hfz, hnd⟩ := hW
  have hA : DataW.TrodAll enc Try.prog W 0 (fun _ => true) true Try.f3.params.toList args.toList ds p := hA0
  rw [Try.params3] at hA hval hsz
  obtain ⟨v0, vs0, d0, ds0, p0, q0, hargs, rfl, rfl, h0, r0⟩ := trodAll_cons hA
  obtain ⟨rfl, rfl, rfl⟩ := trodAll_nil r0
  obtain rfl : args = #[v0] := by cases args; simp_all
  obtain ⟨rfl, rfl⟩ := trodVars_none hV
  obtain ⟨a0, len0, cap0, rfl⟩ := okWide_slice Try.underlying22 (hval 0 22 v0 rfl rfl)
  have k0 := h0
  have lt0 : ∀ x ∈ p0, x.block < W.heap.size := by obtain ⟨m, hm⟩ := k0; exact DataW.trod_lt m _ _ _ hm
  have y0 : ∃ xs : List S27, ((Kd.slice 27 k27).K W xs [.slice a0 len0 cap0]) ∧ (∀ x ∈ xs, Fine x) ∧ xs.length * Try.prog.bytesOf 27 ≤ reachBytes := by
    obtain ⟨fuel, hf⟩ := h0
    refine opens_slice 27 Try.underlying22 (by kernel_rfl) opens_three hf (fun n hn => ?_)
    have := List.all_eq_true.1 hsz n (DataW.weights_mem_each (j := 0) (t := 22) (d := d0) rfl rfl n hn)
    simpa using this
  obtain ⟨xs, ⟨A, c, hv, hlc, hC⟩, hfine, hlen⟩ := y0
  rw [show Try.prog.bytesOf 27 = 72 by kernel_rfl, show reachBytes = 140737488351232 from rfl] at hlen
  obtain ⟨rfl, rfl, rfl⟩ : a0 = A ∧ len0 = xs.length ∧ cap0 = c := by
    injection hv with hv _
    injection hv with h1 h2 h3
    exact ⟨h1, h2, h3⟩
  clear hA0 hval0 hsz0 hsz
  obtain ⟨k, hk⟩ := NatLaws_true xs hfine (by omega)
  refine (PLaw.gaugelaw1_NatLaws.calls k (fun k_ => k_ < W.heap.size) a0 cap0 xs true W ⟨a0, cap0, rfl, hlc, Kd.C_F heap_three hC⟩ hk).mono fun e W' ⟨he, bel⟩ => ?_
  subst he
  exact ⟨_, rfl, _, _, _, [], _, [], hW', trodAll_mk1 (shut_bool Try.underlying4 _), (trodAll_cons_mk (Below.trod laidOut (by kernel_rfl) (of_decide_eq_true (by kernel_rfl)) k0 bel lt0) trodAll_mk0), rfl, bel.frame _, fun h => by cases h⟩
theorem over : Rows.natLawsRow.holds Try.pinned (OpenSpec.ofChange Rows.natLawsSpec) :=
  OpenClaim.holds_of_wide 3 Try.f3 rfl rfl rfl rfl rfl rfl rfl ⟨rfl, rfl, rfl, rfl, rfl⟩ rfl rfl rfl rfl rfl (by kernel_rfl) Try.func3 (by kernel_rfl)
    (of_decide_eq_true (by kernel_rfl)) (by unfold Func.isWrapper; first | (rw [if_pos (by decide +kernel)]; kernel_rfl) | (rw [if_neg (by decide +kernel)]; exact ⟨rfl, rfl⟩))
    (fun os started H enc _ => lifted os started H enc)
theorem proved : Rows.NatLawsSaid := over
#print axioms proved
end Go.Proofs.Ytigedaepbilokaa.natLaws
namespace Go.Proofs.Ytigedaepbilokaa
theorem natLaws_holds : Rows.NatLawsSaid := natLaws.proved
end Go.Proofs.Ytigedaepbilokaa
