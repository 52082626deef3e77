/- The law FnEquationsSolve holds for all arguments. -/
import Derived.Test.YtopipkiebngakaaRows
import Derived.Test.YtopipkiebngakaaCl
import Derived.Test.YtopipkiebngakaaAnC
import Derived.Test.YtopipkiebngakaaEqA
import Derived.Test.YtopipkiebngakaaEqH
section
/- FnEquationsSolve holds for all arguments. -/
set_option maxRecDepth 100000
set_option linter.unusedVariables false
set_option linter.unusedSimpArgs false
namespace Go.Proofs.Ytopipkiebngakaa
open Go.ChangeShapes Go.WideShapes Go.ChangeAt Go.RowKit Go.Am
theorem own : ownKnob Try.prog.godebug = none := by kernel_rfl
theorem laidOut : laidOutB Try.prog = true := by kernel_rfl
theorem lifted (heq : ∀ n0 x0, Ty Try.prog n0 22 [x0] → callI W 4 [x0] [] = some (.b true, [])) (os : Os) (started : os.Started) (H : Type) (enc : TypeId × Value → H) :
    ReturnsInHanded {} Try.checked os 4 .any (Rows.fnEquationsSolveSpec.pre6 enc Try.prog Try.f4 Rows.fnEquationsSolveRow.domain false) (Rows.fnEquationsSolveSpec.post enc Try.prog Try.f4 false true false false) := by
  refine returnsInHanded_of_change (C := Try.checked) own started (by kernel_rfl) Try.func4
    (ChangeSpec.witness6 (enc := enc) (C := Try.checked) false ⟨#[], #[.slice none 0 0], []⟩ 8 (by kernel_rfl) (by kernel_rfl) (by kernel_rfl) (by kernel_rfl)) ?_
  intro W base args ds gs before hval0 hW hcnd _
  have hval : ∀ (j : Nat) t v, Try.f4.params[j]? = some t → args[j]? = some v → Value.okWide Try.prog W .any base t v := hval0
  have hW' := hW
  obtain ⟨p, q, hA0, hV, rfl, hfz, hnd⟩ := hW
  have hA : DataW.TrodAll enc Try.prog W 0 (fun _ => true) true Try.f4.params.toList args.toList ds p := hA0
  rw [Try.params4] at hA hval
  obtain ⟨v0, d0, rfl, rfl, t0⟩ := trodAll_one hA
  obtain ⟨rfl, rfl⟩ := trodVars_none hV
  simp only [List.append_nil] at hW'
  obtain ⟨n0, c0, e0⟩ := read_agg (P := Try.prog) (Ts := [22, 5]) (by kernel_rfl) (by simp) t0
  obtain ⟨x0, rfl, r0⟩ := arg_cell (hval 0 22 v0 rfl rfl) (by kernel_rfl) (by kernel_rfl) e0
  have hr : RVals (cAll W) (gt []) (hp W) [x0] [v0] := ⟨v0, [], rfl, r0, rfl⟩
  have hlt : ∀ y ∈ p, y.block < W.heap.size := fun y hy => hW'.lt y hy
  refine (law_calls progOKW hr (heq n0 x0 e0.1)).mono fun e W' hend => ?_
  obtain ⟨rfl, ho, hu, hb, hz⟩ := hend
  have hkept : W.keptBut W' (· ∈ p) := keptBut_same ho hu hb _
  exact ⟨_, rfl, post_kept (pa := p) (pv := []) hW' (fun b sp hd => trodAll_mk1 (trod_bool Try.underlying4 true))
    (fun sp hsp => (trodAll_mk1 (WideElems.Trod_stays laidOut (by kernel_rfl) (of_decide_eq_true (by kernel_rfl)) t0 (fun y hy => sameAt_of hb (hlt y hy)) hsp)))
    (fun _ _ => rfl) (by simp) hkept hz (ok_one (by kernel_rfl) rfl (okWide_bool' Try.underlying4 true))⟩
theorem said (heq : ∀ n0 x0, Ty Try.prog n0 22 [x0] → callI W 4 [x0] [] = some (.b true, [])) : Rows.FnEquationsSolveSaid :=
  OpenClaim.holds_of_wide 4 Try.f4 rfl rfl rfl rfl rfl rfl rfl ⟨rfl, rfl, rfl, rfl, rfl⟩ rfl rfl rfl rfl rfl (by kernel_rfl) Try.func4 closedF
    (of_decide_eq_true (by kernel_rfl)) (by unfold Func.isWrapper; first | (rw [if_pos (by decide +kernel)]; kernel_rfl) | (rw [if_neg (by decide +kernel)]; exact ⟨rfl, rfl⟩))
    (fun os started H enc _ => lifted heq os started H enc)
theorem holds : Rows.FnEquationsSolveSaid := said fun n0 x0 h0 => by
  obtain ⟨B, e, a1, a2⟩ := ty_bytes n0 x0 h0
  rw [e]; exact lawFnEquationsSolve B a1 a2
end Go.Proofs.Ytopipkiebngakaa
#print axioms Go.Proofs.Ytopipkiebngakaa.holds
end
