/- The program's PiOk returns what the reference's returns, for all arguments; no conditions. -/
import Derived.Test.YtmangpajpmpjgaaRows
import Derived.Test.YtmangpajpmpjgaaAmB
import Derived.Test.YtmangpajpmpjgaaPiOkEqs
section
set_option maxRecDepth 100000
set_option linter.unusedVariables false
set_option linter.unusedSimpArgs false
namespace Go.Proofs.Ytmangpajpmpjgaa
open Go.ChangeShapes Go.WideShapes Go.ChangeAt Go.RowKit Go.Am
theorem own : ownKnob Try.prog.godebug = none := by kernel_rfl
theorem laidOut : laidOutB Try.prog = true := by kernel_rfl
theorem lifted (heq : ∀ n x, Ty Try.prog n 24 x → callI G 3 [.agg x] [] = some (.b true, [])) (os : Os) (started : os.Started) (H : Type) (enc : TypeId × Value → H) :
    ReturnsInHanded {} Try.checked os 3 .any (Rows.fnExactPiOkSpec.pre6 enc Try.prog Try.f3 Rows.fnExactPiOkRow.domain false) (Rows.fnExactPiOkSpec.post enc Try.prog Try.f3 false true false false) := by
  refine returnsInHanded_of_change (C := Try.checked) own started (by kernel_rfl) Try.func3
    (ChangeSpec.witness6 (enc := enc) (C := Try.checked) false ⟨#[], #[.agg #[.int .i64 0, .int .i64 0, .int .i64 0, .slice none 0 0]], []⟩ 8 (by kernel_rfl) (by kernel_rfl) (by kernel_rfl) (by kernel_rfl)) ?_
  intro W base args ds gs before hval0 hW hcnd _
  have hval : ∀ (j : Nat) t v, Try.f3.params[j]? = some t → args[j]? = some v → Value.okWide Try.prog W .any base t v := hval0
  have hW' := hW
  obtain ⟨p, q, hA0, hV, rfl, hfz, hnd⟩ := hW
  have hA : DataW.TrodAll enc Try.prog W 0 (fun _ => true) true Try.f3.params.toList args.toList ds p := hA0
  rw [Try.params3] at hA hval
  obtain ⟨v0, d0, rfl, rfl, h0⟩ := trodAll_one hA
  obtain ⟨rfl, rfl⟩ := trodVars_none hV
  simp only [List.append_nil] at hW'
  obtain ⟨n, xs, hx⟩ := read_agg (P := Try.prog) (Ts := [24, 22, 3]) (by kernel_rfl) (by simp) h0
  have hr : RVals (cAll W) (gt []) (hp W) [.agg xs] [v0] := ⟨v0, [], rfl, arg_agg (hval 0 24 v0 rfl rfl) (by kernel_rfl) hx, rfl⟩
  have hlt : ∀ y ∈ p, y.block < W.heap.size := fun y hy => hW'.lt y hy
  refine (law_calls progOK hr (heq n xs hx.1)).mono fun e W' hend => ?_
  obtain ⟨rfl, ho, hu, hb, hz⟩ := hend
  have hkept : W.keptBut W' (· ∈ p) := keptBut_same ho hu hb _
  exact ⟨_, rfl, post_of_same (pa := p) (pv := []) hW' (fun b sp hd => trodAll_mk1 (trod_bool Try.underlying4 true))
    (fun sp hsp => trodAll_mk1 (WideElems.Trod_stays laidOut (by kernel_rfl) (of_decide_eq_true (by kernel_rfl)) h0 (fun y hy => sameAt_of hb (hlt y hy)) hsp))
    (fun _ _ => rfl) (by simp) hkept hz (ok_one (by kernel_rfl) rfl (okWide_bool' Try.underlying4 true))⟩
theorem said (heq : ∀ n x, Ty Try.prog n 24 x → callI G 3 [.agg x] [] = some (.b true, [])) : Rows.FnExactPiOkSaid :=
  OpenClaim.holds_of_wide 3 Try.f3 rfl rfl rfl rfl rfl rfl rfl ⟨rfl, rfl, rfl, rfl, rfl⟩ rfl rfl rfl rfl rfl (by kernel_rfl) Try.func3 (by kernel_rfl)
    (of_decide_eq_true (by kernel_rfl)) (by unfold Func.isWrapper; first | (rw [if_pos (by decide +kernel)]; kernel_rfl) | (rw [if_neg (by decide +kernel)]; exact ⟨rfl, rfl⟩))
    (fun os started H enc _ => lifted heq os started H enc)
theorem holds : Rows.FnExactPiOkSaid := said fun n x h => by
  obtain ⟨p, hp, hf⟩ := ty_pi n x h
  rw [hp]; exact law3 p hf
end Go.Proofs.Ytmangpajpmpjgaa
#print axioms Go.Proofs.Ytmangpajpmpjgaa.holds
end
