/- The law FnPiPut holds for all arguments. -/
import Derived.Test.YtifjnagbhfnmgaaDoorCards
import Derived.Test.YtifjnagbhfnmgaaDoorTie
import Derived.SevenTiedAt
import Derived.ProofKit
import Derived.LaidMore
import Derived.OpenShut
import Derived.Stop.Joined
import Derived.Test.YtifjnagbhfnmgaaDoorRows
import Derived.Test.YtifjnagbhfnmgaaDoorCl
import Derived.Test.YtifjnagbhfnmgaaDoorAnD
import Derived.Test.YtifjnagbhfnmgaaDoorEqA
import Derived.Test.YtifjnagbhfnmgaaDoorEqE
section
/- FnPiPut holds for all arguments. -/
set_option maxRecDepth 100000
set_option linter.unusedVariables false
set_option linter.unusedSimpArgs false
namespace Go.Proofs.YtifjnagbhfnmgaaDoor
open Go.ChangeShapes Go.WideShapes Go.ChangeAt Go.RowKit Go.Am
theorem own : ownKnob Tryd.prog.godebug = none := by kernel_rfl
theorem laidOut : laidOutB Tryd.prog = true := by kernel_rfl
theorem door_met (os : Os) (args : Array Value) : laidMetH Tryd.prog Rows.fnPiPutRow.laid ((World.doorLaid Tryd.prog 24 os).forCall (fun _ _ => 0) ⟨#[], args, []⟩).memory :=
  laidMetH_of_parts3 (fuel := 8) (laidMet_of_run' 8 (by kernel_rfl) (by kernel_rfl)) (by kernel_rfl) (by kernel_rfl)
theorem lifted (heq : ∀ n0 x0, Ty Tryd.prog n0 34 [x0] → callI V 7 [x0] [] = some (.b true, [])) (os : Os) (started : os.Started) (H : Type) (enc : TypeId × Value → H) :
    ReturnsInHanded {} Tryd.checked os 7 .any (fun w args => (Rows.fnPiPutSpec.pre enc Tryd.prog Tryd.f7 [] false w args ∧ laidMetH Tryd.prog Rows.fnPiPutRow.laid w) ∧ sizedMet enc Tryd.prog Tryd.f7 (OpenSpec.ofChange Rows.fnPiPutSpec) false w args)
      (Rows.fnPiPutSpec.post enc Tryd.prog Tryd.f7 false true false false) := by
  refine returnsInHanded_of_change_and (C := Tryd.checked) (X := fun w _ => laidMetH Tryd.prog Rows.fnPiPutRow.laid w) (fun _ _ _ hh h => h.of_heap hh) own started (by kernel_rfl) Tryd.func7
    (ChangeSpec.witness_shaped (enc := enc) (C := Tryd.checked) (os := os) (X := fun w _ => laidMetH Tryd.prog Rows.fnPiPutRow.laid w) false (World.doorLaid Tryd.prog 24 os) #[.slice none 0 0] 8 rfl (World.shaped_of_RefB (by kernel_rfl) (by kernel_rfl)) (by kernel_rfl) (by kernel_rfl) (by kernel_rfl) (door_met os _)) ?_
  intro W base args ds gs before hval0 hW _ _ hL _
  have hval : ∀ (j : Nat) t v, Tryd.f7.params[j]? = some t → args[j]? = some v → Value.okWide Tryd.prog W .any base t v := hval0
  have hW' := hW
  obtain ⟨p, q, hA0, hV, rfl, hfz, hnd⟩ := hW
  have hA : DataW.TrodAll enc Tryd.prog W 0 (fun _ => true) true Tryd.f7.params.toList args.toList ds p := hA0
  rw [Tryd.params7] at hA hval
  obtain ⟨v0, d0, rfl, rfl, t0⟩ := trodAll_one hA
  obtain ⟨rfl, rfl⟩ := trodVars_none hV
  simp only [List.append_nil] at hW'
  obtain ⟨n0, c0, e0⟩ := read_agg (P := Tryd.prog) (Ts := [34, 5]) (by kernel_rfl) (by simp) t0
  obtain ⟨x0, rfl, r0⟩ := arg_cell (hval 0 34 v0 rfl rfl) (by kernel_rfl) (by kernel_rfl) e0
  have hr : RVals (cAll W) (gt []) (hp W) [x0] [v0] := ⟨v0, [], rfl, r0, rfl⟩
  have hlt : ∀ y ∈ p, y.block < W.heap.size := fun y hy => hW'.lt y hy
  refine (law_calls progOKV hr (heq n0 x0 e0.1)).mono fun e W' hend => ?_
  obtain ⟨rfl, ho, hu, hb, hz⟩ := hend
  have hkept : W.keptBut W' (· ∈ p) := keptBut_same ho hu hb _
  exact ⟨_, rfl, post_kept (pa := p) (pv := []) hW' (fun b sp hd => trodAll_mk1 (trod_bool Tryd.underlying4 true))
    (fun sp hsp => (trodAll_mk1 (WideElems.Trod_stays laidOut (by kernel_rfl) (of_decide_eq_true (by kernel_rfl)) t0 (fun y hy => sameAt_of hb (hlt y hy)) hsp)))
    (fun _ _ => rfl) (by simp) hkept hz (ok_one (by kernel_rfl) rfl (okWide_bool' Tryd.underlying4 true))⟩
theorem said (heq : ∀ n0 x0, Ty Tryd.prog n0 34 [x0] → callI V 7 [x0] [] = some (.b true, [])) : Rows.FnPiPutSaid :=
  OpenClaim.holds_of_wide 7 Tryd.f7 rfl rfl rfl rfl rfl rfl rfl ⟨rfl, rfl, rfl, rfl, rfl⟩ rfl rfl rfl rfl rfl (by kernel_rfl) Tryd.func7 closedF
    (of_decide_eq_true (by kernel_rfl)) (by unfold Func.isWrapper; first | (rw [if_pos (by decide +kernel)]; kernel_rfl) | (rw [if_neg (by decide +kernel)]; exact ⟨rfl, rfl⟩))
    (fun os started H enc _ => lifted heq os started H enc)
theorem rowHolds : Rows.FnPiPutSaid := said fun n0 x0 h0 => by
  obtain ⟨B, e, a1, a2⟩ := ty_bytes n0 x0 h0
  rw [e]; exact lawFnPiPut B a1 a2
/-- The tied card. -/
theorem holds : Rows.FnPiPutCardSaid :=
  Claim7.holds_tied_plain_at .later [] [.data, .data, .data] true Rows.fnPiPutCard.stood.harness false
    rowHolds (fun _ h => by cases h) (by kernel_rfl) (fun _ h => by cases h) fnPiPut_row_tie rfl ⟨rfl, rfl⟩ (by kernel_rfl) rfl
    (fun f fn hf hfn => by
      obtain rfl : f = 7 := Option.some.inj ((show Tryd.prog.funcNamed "loop.example/mobilenames/laws.FnPiPut" = some 7 by kernel_rfl).symm.trans hf) |>.symm
      obtain rfl : fn = Tryd.f7 := (Option.some.inj (Tryd.func7.symm.trans hfn)).symm
      exact ⟨by kernel_rfl, fun j t ht => by
        rw [Tryd.params7] at ht
        have hm : t ∈ [34] := by simpa using Array.mem_of_getElem? ht
        have hall : ([34].all fun u => !Tryd.prog.wantsStandIn u) = true := by kernel_rfl
        exact (show Tryd.prog.wantsStandIn t = false by simpa using List.all_eq_true.1 hall t hm)⟩)
    (by kernel_rfl)
end Go.Proofs.YtifjnagbhfnmgaaDoor
#print axioms Go.Proofs.YtifjnagbhfnmgaaDoor.holds
end
