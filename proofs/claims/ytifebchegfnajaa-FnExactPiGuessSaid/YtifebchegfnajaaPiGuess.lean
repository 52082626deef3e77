/- The program PiGuess returns what the reference one returns, for all arguments; no conditions. -/
import Derived.Test.YtifebchegfnajaaRows
import Derived.Test.YtifebchegfnajaaAmB
import Derived.Test.YtifebchegfnajaaPoolEqs
import Derived.Test.YtifebchegfnajaaGuessEqs
section
/- FnExactPiGuess holds for all arguments. -/
set_option maxRecDepth 100000
set_option linter.unusedVariables false
set_option linter.unusedSimpArgs false
namespace Go.Proofs.Ytifebchegfnajaa
open Go.ChangeShapes Go.WideShapes Go.ChangeAt Go.RowKit Go.Am
theorem own : ownKnob Try.prog.godebug = none := by kernel_rfl
theorem laidOut : laidOutB Try.prog = true := by kernel_rfl
theorem lifted (heq : ∀ n0 n1 x0 x1, Ty Try.prog n0 24 x0 → Ty Try.prog n1 25 [x1] → callI G 3 [.agg x0, x1] [] = some (.b true, [])) (os : Os) (started : os.Started) (H : Type) (enc : TypeId × Value → H) :
    ReturnsInHanded {} Try.checked os 3 .any (Rows.fnExactPiGuessSpec.pre6 enc Try.prog Try.f3 Rows.fnExactPiGuessRow.domain false) (Rows.fnExactPiGuessSpec.post enc Try.prog Try.f3 false true false false) := by
  refine returnsInHanded_of_change (C := Try.checked) own started (by kernel_rfl) Try.func3
    (ChangeSpec.witness6 (enc := enc) (C := Try.checked) false ⟨#[], #[.agg #[.int .i64 0, .int .i64 0, .int .i64 0, .slice none 0 0], .slice none 0 0], []⟩ 8 (by kernel_rfl) (by kernel_rfl) (by kernel_rfl) (by kernel_rfl)) ?_
  intro W base args ds gs before hval0 hW hcnd _
  have hval : ∀ (j : Nat) t v, Try.f3.params[j]? = some t → args[j]? = some v → Value.okWide Try.prog W .any base t v := hval0
  have hW' := hW
  obtain ⟨p, q, hA0, hV, rfl, hfz, hnd⟩ := hW
  have hA : DataW.TrodAll enc Try.prog W 0 (fun _ => true) true Try.f3.params.toList args.toList ds p := hA0
  rw [Try.params3] at hA hval
  obtain ⟨v0, v1, d0, d1, p0, p1, rfl, rfl, rfl, t0, t1⟩ := trodAll_two hA
  obtain ⟨rfl, rfl⟩ := trodVars_none hV
  simp only [List.append_nil] at hW'
  obtain ⟨n0, c0, e0⟩ := read_agg (P := Try.prog) (Ts := [24, 3, 22]) (by kernel_rfl) (by simp) t0
  have r0 := arg_agg (hval 0 24 v0 rfl rfl) (by kernel_rfl) e0
  obtain ⟨n1, c1, e1⟩ := read_agg (P := Try.prog) (Ts := [25, 3]) (by kernel_rfl) (by simp) t1
  obtain ⟨x1, rfl, r1⟩ := arg_cell (hval 1 25 v1 rfl rfl) (by kernel_rfl) (by kernel_rfl) e1
  have hr : RVals (cAll W) (gt []) (hp W) [.agg c0, x1] [v0, v1] := ⟨v0, [v1], rfl, r0, ⟨v1, [], rfl, r1, rfl⟩⟩
  have hlt : ∀ y ∈ p0 ++ p1, y.block < W.heap.size := fun y hy => hW'.lt y hy
  have hlt0 : ∀ y ∈ p0, y.block < W.heap.size := fun y hy => hlt y (by simp [hy])
  have hlt1 : ∀ y ∈ p1, y.block < W.heap.size := fun y hy => hlt y (by simp [hy])
  refine (law_calls progOK hr (heq n0 n1 c0 x1 e0.1 e1.1)).mono fun e W' hend => ?_
  obtain ⟨rfl, ho, hu, hb, hz⟩ := hend
  have hkept : W.keptBut W' (· ∈ p0 ++ p1) := keptBut_same ho hu hb _
  exact ⟨_, rfl, post_of_same (pa := p0 ++ p1) (pv := []) hW' (fun b sp hd => trodAll_mk1 (trod_bool Try.underlying4 true))
    (fun sp hsp => (trodAll_mk2 (WideElems.Trod_stays laidOut (by kernel_rfl) (of_decide_eq_true (by kernel_rfl)) t0 (fun y hy => sameAt_of hb (hlt0 y hy)) (fun y hy => hsp y (by simp [hy]))) (WideElems.Trod_stays laidOut (by kernel_rfl) (of_decide_eq_true (by kernel_rfl)) t1 (fun y hy => sameAt_of hb (hlt1 y hy)) (fun y hy => hsp y (by simp [hy])))))
    (fun _ _ => rfl) (by simp) hkept hz (ok_one (by kernel_rfl) rfl (okWide_bool' Try.underlying4 true))⟩
theorem said (heq : ∀ n0 n1 x0 x1, Ty Try.prog n0 24 x0 → Ty Try.prog n1 25 [x1] → callI G 3 [.agg x0, x1] [] = some (.b true, [])) : Rows.FnExactPiGuessSaid :=
  OpenClaim.holds_of_wide 3 Try.f3 rfl rfl rfl rfl rfl rfl rfl ⟨rfl, rfl, rfl, rfl, rfl⟩ rfl rfl rfl rfl rfl (by kernel_rfl) Try.func3 (by kernel_rfl)
    (of_decide_eq_true (by kernel_rfl)) (by unfold Func.isWrapper; first | (rw [if_pos (by decide +kernel)]; kernel_rfl) | (rw [if_neg (by decide +kernel)]; exact ⟨rfl, rfl⟩))
    (fun os started H enc _ => lifted heq os started H enc)
theorem holds : Rows.FnExactPiGuessSaid := said fun n0 n1 x0 x1 h0 h1 => by
  obtain ⟨p, hp, hf⟩ := ty_pi n0 x0 h0
  obtain ⟨cs, e1, l1⟩ := ty_ints n1 x1 h1
  rw [hp, e1]; exact lawPiGuess p hf cs l1
end Go.Proofs.Ytifebchegfnajaa
#print axioms Go.Proofs.Ytifebchegfnajaa.holds
end
