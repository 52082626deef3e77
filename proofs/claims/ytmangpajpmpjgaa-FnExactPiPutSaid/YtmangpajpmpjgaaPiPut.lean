/- The program s PiPut returns what the reference s returns, for all arguments; no conditions. -/
import Derived.Test.YtmangpajpmpjgaaRows
import Derived.Test.YtmangpajpmpjgaaAmC
import Derived.Test.YtmangpajpmpjgaaPutD
section
/- FnExactPiPut holds for all arguments. -/
set_option maxRecDepth 100000
set_option linter.unusedVariables false
set_option linter.unusedSimpArgs false
namespace Go.Proofs.Ytmangpajpmpjgaa
open Go.ChangeShapes Go.WideShapes Go.ChangeAt Go.RowKit Go.Am
theorem own : ownKnob Try.prog.godebug = none := by kernel_rfl
theorem laidOut : laidOutB Try.prog = true := by kernel_rfl
theorem lifted (heq : ∀ n0 n1 n2 x0 x1 x2, Ty Try.prog n0 24 x0 → Ty Try.prog n1 3 [x1] → Ty Try.prog n2 3 [x2] → callI G 8 [.agg x0, x1, x2] [] = some (.b true, [])) (os : Os) (started : os.Started) (H : Type) (enc : TypeId × Value → H) :
    ReturnsInHanded {} Try.checked os 8 .any (Rows.fnExactPiPutSpec.pre6 enc Try.prog Try.f8 Rows.fnExactPiPutRow.domain false) (Rows.fnExactPiPutSpec.post enc Try.prog Try.f8 false true false false) := by
  refine returnsInHanded_of_change (C := Try.checked) own started (by kernel_rfl) Try.func8
    (ChangeSpec.witness6 (enc := enc) (C := Try.checked) false ⟨#[], #[.agg #[.int .i64 0, .int .i64 0, .int .i64 0, .slice none 0 0], .int .i64 0, .int .i64 0], []⟩ 8 (by kernel_rfl) (by kernel_rfl) (by kernel_rfl) (by kernel_rfl)) ?_
  intro W base args ds gs before hval0 hW hcnd _
  have hval : ∀ (j : Nat) t v, Try.f8.params[j]? = some t → args[j]? = some v → Value.okWide Try.prog W .any base t v := hval0
  have hW' := hW
  obtain ⟨p, q, hA0, hV, rfl, hfz, hnd⟩ := hW
  have hA : DataW.TrodAll enc Try.prog W 0 (fun _ => true) true Try.f8.params.toList args.toList ds p := hA0
  rw [Try.params8] at hA hval
  obtain ⟨v0, v1, v2, d0, d1, d2, p0, p1, p2, rfl, rfl, rfl, t0, t1, t2⟩ := trodAll_three hA
  obtain ⟨rfl, rfl⟩ := trodVars_none hV
  simp only [List.append_nil] at hW'
  obtain ⟨n0, c0, e0⟩ := read_agg (P := Try.prog) (Ts := [24, 3, 22]) (by kernel_rfl) (by simp) t0
  have r0 := arg_agg (hval 0 24 v0 rfl rfl) (by kernel_rfl) e0
  obtain ⟨n1, c1, e1⟩ := read_agg (P := Try.prog) (Ts := [3]) (by kernel_rfl) (by simp) t1
  obtain ⟨x1, rfl, r1⟩ := arg_cell (hval 1 3 v1 rfl rfl) (by kernel_rfl) (by kernel_rfl) e1
  obtain ⟨n2, c2, e2⟩ := read_agg (P := Try.prog) (Ts := [3]) (by kernel_rfl) (by simp) t2
  obtain ⟨x2, rfl, r2⟩ := arg_cell (hval 2 3 v2 rfl rfl) (by kernel_rfl) (by kernel_rfl) e2
  have hr : RVals (cAll W) (gt []) (hp W) [.agg c0, x1, x2] [v0, v1, v2] := ⟨v0, [v1, v2], rfl, r0, ⟨v1, [v2], rfl, r1, ⟨v2, [], rfl, r2, rfl⟩⟩⟩
  have hlt : ∀ y ∈ p0 ++ p1 ++ p2, y.block < W.heap.size := fun y hy => hW'.lt y hy
  have hlt0 : ∀ y ∈ p0, y.block < W.heap.size := fun y hy => hlt y (by simp [hy])
  have hlt1 : ∀ y ∈ p1, y.block < W.heap.size := fun y hy => hlt y (by simp [hy])
  have hlt2 : ∀ y ∈ p2, y.block < W.heap.size := fun y hy => hlt y (by simp [hy])
  refine (law_calls progOK hr (heq n0 n1 n2 c0 x1 x2 e0.1 e1.1 e2.1)).mono fun e W' hend => ?_
  obtain ⟨rfl, ho, hu, hb, hz⟩ := hend
  have hkept : W.keptBut W' (· ∈ p0 ++ p1 ++ p2) := keptBut_same ho hu hb _
  exact ⟨_, rfl, post_of_same (pa := p0 ++ p1 ++ p2) (pv := []) hW' (fun b sp hd => trodAll_mk1 (trod_bool Try.underlying4 true))
    (fun sp hsp => (by rw [List.append_assoc]; exact trodAll_mk3 (WideElems.Trod_stays laidOut (by kernel_rfl) (of_decide_eq_true (by kernel_rfl)) t0 (fun y hy => sameAt_of hb (hlt0 y hy)) (fun y hy => hsp y (by simp [hy]))) (WideElems.Trod_stays laidOut (by kernel_rfl) (of_decide_eq_true (by kernel_rfl)) t1 (fun y hy => sameAt_of hb (hlt1 y hy)) (fun y hy => hsp y (by simp [hy]))) (WideElems.Trod_stays laidOut (by kernel_rfl) (of_decide_eq_true (by kernel_rfl)) t2 (fun y hy => sameAt_of hb (hlt2 y hy)) (fun y hy => hsp y (by simp [hy])))))
    (fun _ _ => rfl) (by simp) hkept hz (ok_one (by kernel_rfl) rfl (okWide_bool' Try.underlying4 true))⟩
theorem said (heq : ∀ n0 n1 n2 x0 x1 x2, Ty Try.prog n0 24 x0 → Ty Try.prog n1 3 [x1] → Ty Try.prog n2 3 [x2] → callI G 8 [.agg x0, x1, x2] [] = some (.b true, [])) : Rows.FnExactPiPutSaid :=
  OpenClaim.holds_of_wide 8 Try.f8 rfl rfl rfl rfl rfl rfl rfl ⟨rfl, rfl, rfl, rfl, rfl⟩ rfl rfl rfl rfl rfl (by kernel_rfl) Try.func8 (by kernel_rfl)
    (of_decide_eq_true (by kernel_rfl)) (by unfold Func.isWrapper; first | (rw [if_pos (by decide +kernel)]; kernel_rfl) | (rw [if_neg (by decide +kernel)]; exact ⟨rfl, rfl⟩))
    (fun os started H enc _ => lifted heq os started H enc)
theorem holds : Rows.FnExactPiPutSaid := said fun n0 n1 n2 x0 x1 x2 h0 h1 h2 => by
  obtain ⟨p, hp, hf⟩ := ty_pi n0 x0 h0
  obtain ⟨f, hf1⟩ := ty_int n1 x1 h1
  obtain ⟨t, ht1⟩ := ty_int n2 x2 h2
  rw [hp, hf1, ht1]; exact lawPiPut p hf f t
end Go.Proofs.Ytmangpajpmpjgaa
#print axioms Go.Proofs.Ytmangpajpmpjgaa.holds
end
