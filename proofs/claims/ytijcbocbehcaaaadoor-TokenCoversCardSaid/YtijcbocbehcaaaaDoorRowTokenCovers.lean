/- For every list of texts, gaugelaw8.TokenCovers returns true, and what was handed in reads behind the call as before. Conditions: none of ours; the row alone says what input means; token.spans holds what the program's text lays (the card ties it). -/
import Derived.Test.YtijcbocbehcaaaaDoorRows
import Derived.Test.YtijcbocbehcaaaaDoorCards
import Derived.Test.YtijcbocbehcaaaaDoorTie
import Derived.WalkKit
import Derived.ProofKit
import Derived.OpenShut
import Derived.ShutString
import Derived.ChangeOld
import Derived.Below
import Derived.SizedLaws
import Derived.ChangeVars
import Derived.JoinedOf
import Derived.Test.YtijcbocbehcaaaaDoorPk2
/-! The row of TokenCovers: what came in is read as a list of texts, the law's contract; what came in stands as it did. -/
namespace Go.Proofs.YtijcbocbehcaaaaDoor.rowTokenCovers
open Go.ChangeShapes Go.WideShapes Go.ChangeAt Go.RowKit
open Go.Ab Go.Ab.Nn Go.Proofs.YtijcbocbehcaaaaDoor.Nat
set_option linter.unusedVariables false
theorem own : ownKnob Go.Proofs.Tryd.prog.godebug = none := by kernel_rfl
theorem laidOut : laidOutB Go.Proofs.Tryd.prog = true := by kernel_rfl
theorem glob : Go.Proofs.Tryd.prog.globalNamed "gauge/token.spans" = some 0 := by kernel_rfl
theorem globType : (Go.Proofs.Tryd.prog.globals[0]?).map (·.type) = some 82 := by kernel_rfl
theorem chunks {α β : Type} {f : α → List β} (d : α) : ∀ (xs : List α) (l : List β), l.length = xs.length * 3 → (∀ i, i < xs.length → (l.drop (i * 3)).take 3 = f (xs.getD i d)) → l = xs.flatMap f
  | [], l, h, _ => List.eq_nil_of_length_eq_zero (by simpa using h)
  | x :: xs, l, h, hi => by
    have h0 : l.take 3 = f x := by simpa using hi 0 (by simp)
    have ih := chunks d xs (l.drop 3) (by rw [List.length_drop, h, List.length_cons]; omega) (fun i hi' => by
      have := hi (i + 1) (by simpa using hi')
      rw [List.drop_drop, show 3 + i * 3 = (i + 1) * 3 by omega, this]; rfl)
    rw [List.flatMap_cons, ← h0, ← ih, List.take_append_drop]
theorem cells_of_laid {W : World} (h : laidMet Go.Proofs.Tryd.prog [("gauge/token.spans", Rows.laid_gauge_token_spans)] W) : W.var? Go.Proofs.Tryd.prog "gauge/token.spans" = some spCells := by
  obtain ⟨ps, ⟨g, t, cs, fuel, p, q, hg, ht, hvar, hd, _, _⟩, _⟩ := h
  obtain rfl := Option.some.inj (glob.symm.trans hg)
  obtain rfl := Option.some.inj (globType.symm.trans ht)
  rw [hvar]
  congr 1
  obtain ⟨xs, m, _, hx, hl, hn, hf⟩ := DataW.trod_array Go.Proofs.Tryd.underlying82 hd
  rw [show Go.Proofs.Tryd.prog.cellsOf 81 = 3 by kernel_rfl] at hf
  rw [show Go.Proofs.Tryd.prog.cellsOf 82 = 24 by kernel_rfl] at hl
  have hxs : xs.map (·.1) = sp.map spD := by
    have h1 := congrArg Prod.fst hx
    have h2 : Rows.laid_gauge_token_spans = DataW.agg (xs.map (·.1)) := h1
    have h3 : (Rows.laid_gauge_token_spans : DataW Unit) = .agg (sp.map spD) := rfl
    rw [h3] at h2
    exact (DataW.agg.inj h2).symm
  refine Array.ext' (chunks (f := spV) (0, 0, 0) sp cs.toList hl fun i hi => ?_)
  have h8 : i < xs.length := by rw [hn]; exact hi
  have hfi := hf i hi
  rw [List.getElem?_eq_getElem h8] at hfi
  refine span_cells Go.Proofs.Tryd.underlying81 (by kernel_rfl) rfl rfl rfl rfl rfl rfl Go.Proofs.Tryd.underlying5 Go.Proofs.Tryd.underlying5 Go.Proofs.Tryd.underlying3 (by kernel_rfl) (by kernel_rfl) (by kernel_rfl) hfi ?_
  have := congrArg (fun l => l[i]?) hxs
  simp only [List.getElem?_map, List.getElem?_eq_getElem h8, List.getElem?_eq_getElem hi, Option.map_some, Option.some.injEq] at this
  rw [this, List.getD_eq_getElem?_getD, List.getElem?_eq_getElem hi]; rfl
theorem globs {W : World} (hv : W.var? Go.Proofs.Tryd.prog "gauge/token.spans" = some spCells) : ∀ b xs, tgl b = some xs → VRa (Bl W) W xs ⟨b, 0, none⟩ := by
  intro b xs h
  have hc := fun i => World.var?_cell glob hv i
  have h0 : 0 < W.heap.size := by
    have := hc 0
    by_cases hs : 0 < W.heap.size
    · exact hs
    · have e : W.heap = #[] := Array.eq_empty_of_size_eq_zero (by omega)
      simp [World.cell?, e] at this
      exact absurd this (by decide)
  match b, h with
  | 0, h =>
    obtain rfl : sp.flatMap spc = xs := Option.some.inj h
    have e : sp.flatMap spc = spCells.toList.map AV.w := rfl
    rw [e]
    refine VRa.of (cv := fun i => spCells.getD i undef) (fun i hi => ⟨h0, ?_⟩) (fun i hi => ?_)
    · have hi' : i < spCells.size := by simpa using hi
      have ea : (⟨0, 0, none⟩ : Addr).add i = ⟨0, i, none⟩ := by
        simp [Addr.add]
        exact fun h => h.symm
      rw [ea, hc i]
      simp [hi']
    · have hi' : i < spCells.size := by simpa using hi
      simp only [List.getElem_map, Array.getElem_toList]
      simp [hi']
      exact .w _
/-- a world at which the row's condition holds -/
noncomputable def laidWorld (os : Os) : World :=
  { World.holding Go.Proofs.Tryd.prog os ⟨#[], #[], []⟩ with heap := (World.holding Go.Proofs.Tryd.prog os ⟨#[], #[], []⟩).heap.modify 0 fun
      | .cells _ t frozen => .cells spCells t frozen
      | o => o }
theorem laidWorld_row (os : Os) : ((laidWorld os).forCall (fun _ _ => 0) ⟨#[], #[.slice none 0 0], []⟩).memory.heap[0]? = some (.cells spCells 82 (0, 0)) := by kernel_rfl
set_option maxRecDepth 100000 in
theorem lifted (os : Os) (started : os.Started) (H : Type) (enc : TypeId × Value → H) :
    ReturnsInHanded {} Go.Proofs.Tryd.checked os 3 .any (fun w args => (Rows.tokenCoversSpec.pre enc Go.Proofs.Tryd.prog Go.Proofs.Tryd.f3 [] false w args ∧ laidMet Go.Proofs.Tryd.prog [("gauge/token.spans", Rows.laid_gauge_token_spans)] w) ∧ sizedMet enc Go.Proofs.Tryd.prog Go.Proofs.Tryd.f3 (OpenSpec.ofChange Rows.tokenCoversSpec) false w args) (Rows.tokenCoversSpec.post enc Go.Proofs.Tryd.prog Go.Proofs.Tryd.f3 false true false false) := by
  refine returnsInHanded_of_change_and (C := Go.Proofs.Tryd.checked) (X := fun w _ => laidMet Go.Proofs.Tryd.prog [("gauge/token.spans", Rows.laid_gauge_token_spans)] w) (fun _ _ _ hh h => h.of_heap hh) own started (by kernel_rfl) Go.Proofs.Tryd.func3
    (ChangeSpec.witness_at (enc := enc) (C := Go.Proofs.Tryd.checked) (os := os) (X := fun w _ => laidMet Go.Proofs.Tryd.prog [("gauge/token.spans", Rows.laid_gauge_token_spans)] w) false (laidWorld os) #[.slice none 0 0] 8 rfl (by kernel_rfl) (by kernel_rfl) (by kernel_rfl) (by kernel_rfl) (by kernel_rfl)
      ⟨_, ⟨0, 82, spCells, 8, [], [], by kernel_rfl, by kernel_rfl, by kernel_rfl, by kernel_rfl, rfl, rfl⟩, by decide +kernel, fun b off h => by
        have h' : MemPlace.cell b off ∈ (List.range 24).map (fun i => MemPlace.cell 0 i) := h
        obtain ⟨i, _, hi⟩ := List.mem_map.1 h'
        cases hi
        refine ⟨⟨_, _, laidWorld_row os⟩, fun u v hc => ?_⟩
        simp only [World.cell?, laidWorld_row os] at hc
        have hm : Value.iface u v ∈ spCells.toList := by
          have := Array.mem_of_getElem? hc
          simpa using this
        simp [spCells, sp, spV] at hm⟩) ?_
  intro W base args ds gs before hval0 hW hcnd hsz0 hL _
  have hsz : (DataW.weightsEach Go.Proofs.Tryd.prog (Go.Proofs.Tryd.f3.params.toList ++ Rows.tokenCoversSpec.plain.varTypes Go.Proofs.Tryd.prog) (ds ++ gs)).all (· ≤ reachBytes) = true := hsz0
  have hval : ∀ (j : Nat) t v, Go.Proofs.Tryd.f3.params[j]? = some t → args[j]? = some v → Value.okWide Go.Proofs.Tryd.prog W .any base t v := hval0
  have hW' := hW
  obtain ⟨p, q, hA0, hV, rfl, hfz, hnd⟩ := hW
  have hA : DataW.TrodAll enc Go.Proofs.Tryd.prog W 0 (fun _ => true) true Go.Proofs.Tryd.f3.params.toList args.toList ds p := hA0
  rw [Go.Proofs.Tryd.params3] at hA hval hsz
  obtain ⟨v0, vs0, d0, ds0, p0, q0, hargs, rfl, rfl, h0, r0⟩ := trodAll_cons hA
  obtain ⟨rfl, rfl, rfl⟩ := trodAll_nil r0
  obtain rfl : args = #[v0] := by cases args; simp_all
  obtain ⟨rfl, rfl⟩ := trodVars_none hV
  obtain ⟨a0, len0, cap0, rfl⟩ := okWide_slice Go.Proofs.Tryd.underlying22 (hval 0 22 v0 rfl rfl)
  have k0 := h0
  have lt0 : ∀ x ∈ p0, x.block < W.heap.size := by obtain ⟨m, hm⟩ := k0; exact DataW.trod_lt m _ _ _ hm
  have y0 : ∃ xs : List ByteArray, VRs (Bl W) W [.fs (xs.flatMap txt) xs.length] [.slice a0 len0 cap0] ∧ (∀ x ∈ xs, x.size ≤ maxLen) ∧ xs.length * Go.Proofs.Tryd.prog.bytesOf 9 ≤ reachBytes := by
    obtain ⟨fuel, hf⟩ := h0
    refine (opens_slice (sz := 1) (f := txt) (g := fun s => s.size ≤ maxLen) Go.Proofs.Tryd.underlying22 (by kernel_rfl) (fun _ => rfl) (opens_string Go.Proofs.Tryd.underlying9)).out hf (fun n hn => ?_)
    have := List.all_eq_true.1 hsz n (DataW.weights_mem_each (j := 0) (t := 22) (d := d0) rfl rfl n hn)
    simpa using this
  obtain ⟨xs, hxs, hfine, hlen⟩ := y0
  rw [show Go.Proofs.Tryd.prog.bytesOf 9 = 16 by kernel_rfl, show reachBytes = 140737488351232 from rfl] at hlen
  clear hA0 hval0 hsz0 hsz
  refine (C_gaugelaw8_TokenCovers.toldG (TokenCovers_spec xs (by omega)) (globs (cells_of_laid hL)) hxs).mono fun e W' ⟨cv, he, hcv, bel⟩ => ?_
  subst he
  obtain rfl := hcv.w_inv
  exact ⟨_, rfl, _, _, _, [], _, [], hW', trodAll_mk1 (shut_bool Go.Proofs.Tryd.underlying4 _), (trodAll_cons_mk (Below.trod laidOut (by kernel_rfl) (of_decide_eq_true (by kernel_rfl)) k0 bel lt0) trodAll_mk0), rfl, bel.frame _, fun h => by cases h⟩
theorem over : Rows.TokenCoversSaid :=
  OpenClaim.holds_of_wide 3 Go.Proofs.Tryd.f3 rfl rfl rfl rfl rfl rfl rfl ⟨rfl, rfl, rfl, rfl, rfl⟩ rfl rfl rfl rfl rfl (by kernel_rfl) Go.Proofs.Tryd.func3 (by kernel_rfl)
    (of_decide_eq_true (by kernel_rfl)) (by unfold Func.isWrapper; first | (rw [if_pos (by decide +kernel)]; kernel_rfl) | (rw [if_neg (by decide +kernel)]; exact ⟨rfl, rfl⟩))
    (fun os started H enc _ => lifted os started H enc)
theorem proved : Rows.TokenCoversCardSaid :=
  Claim7.holds_tied_plain_at .later [] [.data] true (true, "c05490e020f2f31cdabdfe7bfcbb1f52424e7100544b716d455f7f80916d516d") false
    over (fun _ h => by cases h) (by kernel_rfl) (fun _ h => by cases h) tokenCovers_row_tie rfl ⟨rfl, rfl⟩ (by kernel_rfl) rfl
    (fun f fn hf hfn => by
      obtain rfl : f = 3 := Option.some.inj ((show Go.Proofs.Tryd.prog.funcNamed "gauge/gaugelaw8.TokenCovers" = some 3 by kernel_rfl).symm.trans hf) |>.symm
      obtain rfl : fn = Go.Proofs.Tryd.f3 := (Option.some.inj (Go.Proofs.Tryd.func3.symm.trans hfn)).symm
      exact ⟨by kernel_rfl, fun j t ht => by
        rw [Go.Proofs.Tryd.params3] at ht
        have h3 : t = 22 := by
          rcases j with _ | j
          · simpa using ht.symm
          · simp at ht
        subst h3
        exact (show Go.Proofs.Tryd.prog.wantsStandIn 22 = false by kernel_rfl)⟩)
    (by kernel_rfl)
#print axioms proved
end Go.Proofs.YtijcbocbehcaaaaDoor.rowTokenCovers
namespace Go.Proofs.YtijcbocbehcaaaaDoor
theorem tokenCovers_holds : Rows.TokenCoversCardSaid := rowTokenCovers.proved
end Go.Proofs.YtijcbocbehcaaaaDoor
