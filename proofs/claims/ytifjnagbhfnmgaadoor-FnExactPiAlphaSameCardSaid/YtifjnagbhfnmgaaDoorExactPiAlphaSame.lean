/- The law FnExactPiAlphaSame holds for all arguments. -/
import Derived.Test.YtifjnagbhfnmgaaDoorCards
import Derived.Test.YtifjnagbhfnmgaaDoorTie
import Derived.SevenTiedAt
import Derived.ProofKit
import Derived.LaidMore
import Derived.OpenShut
import Derived.Stop.Joined
import Derived.Test.YtifjnagbhfnmgaaDoorRows
import Derived.Test.YtifjnagbhfnmgaaDoorCl
import Derived.Test.YtifjnagbhfnmgaaDoorAnD
import Derived.Test.YtifjnagbhfnmgaaDoorEqA
section
/- FnExactPiAlphaSame holds for all arguments. -/
set_option maxRecDepth 100000
set_option linter.unusedVariables false
set_option linter.unusedSimpArgs false
namespace Go.Proofs.YtifjnagbhfnmgaaDoor
open Go.ChangeShapes Go.WideShapes Go.ChangeAt Go.RowKit Go.Am
theorem own : ownKnob Tryd.prog.godebug = none := by kernel_rfl
theorem laidOut : laidOutB Tryd.prog = true := by kernel_rfl
theorem door_met (os : Os) (args : Array Value) : laidMetH Tryd.prog Rows.fnExactPiAlphaSameRow.laid ((World.doorLaid Tryd.prog 24 os).forCall (fun _ _ => 0) ⟨#[], args, []⟩).memory :=
  laidMetH_of_parts3 (fuel := 8) (laidMet_of_run' 8 (by kernel_rfl) (by kernel_rfl)) (by kernel_rfl) (by kernel_rfl)
theorem lifted (heq : ∀ n0 n1 x0 x1, Ty Tryd.prog n0 24 x0 → Ty Tryd.prog n1 24 x1 → callI G 4 [.agg x0, .agg x1] [] = some (.b true, [])) (os : Os) (started : os.Started) (H : Type) (enc : TypeId × Value → H) :
    ReturnsInHanded {} Tryd.checked os 4 .any (fun w args => (Rows.fnExactPiAlphaSameSpec.pre enc Tryd.prog Tryd.f4 [] false w args ∧ laidMetH Tryd.prog Rows.fnExactPiAlphaSameRow.laid w) ∧ sizedMet enc Tryd.prog Tryd.f4 (OpenSpec.ofChange Rows.fnExactPiAlphaSameSpec) false w args)
      (Rows.fnExactPiAlphaSameSpec.post enc Tryd.prog Tryd.f4 false true false false) := by
  refine returnsInHanded_of_change_and (C := Tryd.checked) (X := fun w _ => laidMetH Tryd.prog Rows.fnExactPiAlphaSameRow.laid w) (fun _ _ _ hh h => h.of_heap hh) own started (by kernel_rfl) Tryd.func4
    (ChangeSpec.witness_shaped (enc := enc) (C := Tryd.checked) (os := os) (X := fun w _ => laidMetH Tryd.prog Rows.fnExactPiAlphaSameRow.laid w) false (World.doorLaid Tryd.prog 24 os) #[.agg #[.int .i64 0, .int .i64 0, .int .i64 0, .slice none 0 0], .agg #[.int .i64 0, .int .i64 0, .int .i64 0, .slice none 0 0]] 8 rfl (World.shaped_of_RefB (by kernel_rfl) (by kernel_rfl)) (by kernel_rfl) (by kernel_rfl) (by kernel_rfl) (door_met os _)) ?_
  intro W base args ds gs before hval0 hW _ _ hL _
  have hval : ∀ (j : Nat) t v, Tryd.f4.params[j]? = some t → args[j]? = some v → Value.okWide Tryd.prog W .any base t v := hval0
  have hW' := hW
  obtain ⟨p, q, hA0, hV, rfl, hfz, hnd⟩ := hW
  have hA : DataW.TrodAll enc Tryd.prog W 0 (fun _ => true) true Tryd.f4.params.toList args.toList ds p := hA0
  rw [Tryd.params4] at hA hval
  obtain ⟨v0, v1, d0, d1, p0, p1, rfl, rfl, rfl, t0, t1⟩ := trodAll_two hA
  obtain ⟨rfl, rfl⟩ := trodVars_none hV
  simp only [List.append_nil] at hW'
  obtain ⟨n0, c0, e0⟩ := read_agg (P := Tryd.prog) (Ts := [24, 3, 22]) (by kernel_rfl) (by simp) t0
  have r0 := arg_agg (hval 0 24 v0 rfl rfl) (by kernel_rfl) e0
  obtain ⟨n1, c1, e1⟩ := read_agg (P := Tryd.prog) (Ts := [24, 3, 22]) (by kernel_rfl) (by simp) t1
  have r1 := arg_agg (hval 1 24 v1 rfl rfl) (by kernel_rfl) e1
  have hr : RVals (cAll W) (gt []) (hp W) [.agg c0, .agg c1] [v0, v1] := ⟨v0, [v1], rfl, r0, ⟨v1, [], rfl, r1, rfl⟩⟩
  have hlt : ∀ y ∈ p0 ++ p1, y.block < W.heap.size := fun y hy => hW'.lt y hy
  have hlt0 : ∀ y ∈ p0, y.block < W.heap.size := fun y hy => hlt y (by simp [hy])
  have hlt1 : ∀ y ∈ p1, y.block < W.heap.size := fun y hy => hlt y (by simp [hy])
  refine (law_calls progOK hr (heq n0 n1 c0 c1 e0.1 e1.1)).mono fun e W' hend => ?_
  obtain ⟨rfl, ho, hu, hb, hz⟩ := hend
  have hkept : W.keptBut W' (· ∈ p0 ++ p1) := keptBut_same ho hu hb _
  exact ⟨_, rfl, post_kept (pa := p0 ++ p1) (pv := []) hW' (fun b sp hd => trodAll_mk1 (trod_bool Tryd.underlying4 true))
    (fun sp hsp => (trodAll_mk2 (WideElems.Trod_stays laidOut (by kernel_rfl) (of_decide_eq_true (by kernel_rfl)) t0 (fun y hy => sameAt_of hb (hlt0 y hy)) (fun y hy => hsp y (by simp [hy]))) (WideElems.Trod_stays laidOut (by kernel_rfl) (of_decide_eq_true (by kernel_rfl)) t1 (fun y hy => sameAt_of hb (hlt1 y hy)) (fun y hy => hsp y (by simp [hy])))))
    (fun _ _ => rfl) (by simp) hkept hz (ok_one (by kernel_rfl) rfl (okWide_bool' Tryd.underlying4 true))⟩
theorem said (heq : ∀ n0 n1 x0 x1, Ty Tryd.prog n0 24 x0 → Ty Tryd.prog n1 24 x1 → callI G 4 [.agg x0, .agg x1] [] = some (.b true, [])) : Rows.FnExactPiAlphaSameSaid :=
  OpenClaim.holds_of_wide 4 Tryd.f4 rfl rfl rfl rfl rfl rfl rfl ⟨rfl, rfl, rfl, rfl, rfl⟩ rfl rfl rfl rfl rfl (by kernel_rfl) Tryd.func4 closedF
    (of_decide_eq_true (by kernel_rfl)) (by unfold Func.isWrapper; first | (rw [if_pos (by decide +kernel)]; kernel_rfl) | (rw [if_neg (by decide +kernel)]; exact ⟨rfl, rfl⟩))
    (fun os started H enc _ => lifted heq os started H enc)
theorem rowHolds : Rows.FnExactPiAlphaSameSaid := said fun n0 n1 x0 x1 h0 h1 => by
  obtain ⟨p, e, f⟩ := ty_pi n0 x0 h0
  obtain ⟨q, e2, f2⟩ := ty_pi n1 x1 h1
  rw [e, e2]; exact lawPiAlpha p q f f2
/-- The tied card. -/
theorem holds : Rows.FnExactPiAlphaSameCardSaid :=
  Claim7.holds_tied_plain_at .later [] [.data, .data, .data] true Rows.fnExactPiAlphaSameCard.stood.harness false
    rowHolds (fun _ h => by cases h) (by kernel_rfl) (fun _ h => by cases h) fnExactPiAlphaSame_row_tie rfl ⟨rfl, rfl⟩ (by kernel_rfl) rfl
    (fun f fn hf hfn => by
      obtain rfl : f = 4 := Option.some.inj ((show Tryd.prog.funcNamed "loop.example/mobilenames/laws.FnExactPiAlphaSame" = some 4 by kernel_rfl).symm.trans hf) |>.symm
      obtain rfl : fn = Tryd.f4 := (Option.some.inj (Tryd.func4.symm.trans hfn)).symm
      exact ⟨by kernel_rfl, fun j t ht => by
        rw [Tryd.params4] at ht
        have hm : t ∈ [24, 24] := by simpa using Array.mem_of_getElem? ht
        have hall : ([24, 24].all fun u => !Tryd.prog.wantsStandIn u) = true := by kernel_rfl
        exact (show Tryd.prog.wantsStandIn t = false by simpa using List.all_eq_true.1 hall t hm)⟩)
    (by kernel_rfl)
end Go.Proofs.YtifjnagbhfnmgaaDoor
#print axioms Go.Proofs.YtifjnagbhfnmgaaDoor.holds
end
