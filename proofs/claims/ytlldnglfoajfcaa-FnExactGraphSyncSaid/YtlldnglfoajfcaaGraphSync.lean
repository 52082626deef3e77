/- GraphSync of the program returns what the reference's returns, for all arguments. -/
import Derived.Test.YtlldnglfoajfcaaGtC
import Derived.Test.YtlldnglfoajfcaaAnD
import Derived.Test.YtlldnglfoajfcaaPrA
import Derived.Test.YtlldnglfoajfcaaRows
import Derived.Test.YtlldnglfoajfcaaCl
import Derived.Test.YtlldnglfoajfcaaPrC
section
set_option maxRecDepth 10000
set_option linter.unusedSimpArgs false
set_option linter.unusedVariables false
namespace Go.Am
open Go.Proofs
theorem ty_int : ∀ (n : Nat) (x : PV), Ty Try.prog n 3 [x] → ∃ m : Int, x = .i m
  | 0, _, h => h.elim
  | n + 1, x, h => by
    simp only [Ty, Try.underlying3] at h
    obtain ⟨m, e, _⟩ := h
    exact ⟨m, (List.cons.inj e).1⟩
theorem ty_mv : ∀ (n : Nat) (x : List PV), Ty Try.prog n 147 x → ∃ m : Mv, PV.agg x = mvP m
  | 0, _, h => h.elim
  | 1, x, h => by
    simp only [Ty, Try.underlying147, TyF] at h
    simp at h
  | n + 2, x, h => by
    unfold Ty at h
    simp only [Try.underlying147] at h
    simp only [TyF, Ty, Try.underlying3] at h
    obtain ⟨_, _, rfl, ⟨a, rfl, _⟩, _, _, rfl, ⟨b, rfl, _⟩, rfl⟩ := h
    exact ⟨(a, b), rfl⟩
theorem mvs_of : ∀ (n : Nat) (css : List (List PV)), (∀ cs ∈ css, Ty Try.prog n 147 cs) → ∃ l : List Mv, css.map (mkE Try.prog 147) = l.map mvP ∧ l.length = css.length
  | _, [], _ => ⟨[], rfl, rfl⟩
  | n, cs :: css, h => by
    obtain ⟨m, h1⟩ := ty_mv n cs (h cs List.mem_cons_self)
    obtain ⟨l, h3, h4⟩ := mvs_of n css (fun c hc => h c (List.mem_cons_of_mem _ hc))
    refine ⟨m :: l, ?_, by simp [h4]⟩
    rw [List.map_cons, List.map_cons, h3, ← h1]
    simp [mkE, isAg, Try.underlying147]
theorem ty_mvs : ∀ (n : Nat) (x : List PV), Ty Try.prog n 123 x → ∃ l : List Mv, x = [.sl false 2 (l.map mvP)] ∧ l.length ≤ 9223372036854775807
  | 0, _, h => h.elim
  | n + 1, x, h => by
    simp only [Ty, Try.underlying123] at h
    obtain ⟨css, e, hl, hc⟩ := h
    obtain ⟨l, h1, h2⟩ := mvs_of n css hc
    rw [h1] at e
    exact ⟨l, by rw [e, show Try.prog.cellsOf 147 = 2 from by kernel_rfl], by rw [h2]; exact hl⟩
theorem grs_of : ∀ (n : Nat) (css : List (List PV)), (∀ cs ∈ css, Ty Try.prog n 123 cs) → ∃ g : Gr, css.map (mkE Try.prog 123) = encGs false false g ∧ g.length = css.length ∧ ∀ l ∈ g, l.length ≤ 9223372036854775807
  | _, [], _ => ⟨[], rfl, rfl, fun l hl => by cases hl⟩
  | n, cs :: css, h => by
    obtain ⟨l, h1, h2⟩ := ty_mvs n cs (h cs List.mem_cons_self)
    obtain ⟨g, h3, h4, h5⟩ := grs_of n css (fun c hc => h c (List.mem_cons_of_mem _ hc))
    refine ⟨l :: g, ?_, by simp [h4], fun y hy => ?_⟩
    · rw [List.map_cons, h3, h1]
      simp [mkE, isAg, Try.underlying123, encGs]
    · rcases List.mem_cons.1 hy with rfl | hy
      · exact h2
      · exact h5 y hy
theorem ty_graph : ∀ (n : Nat) (x : List PV), Ty Try.prog n 24 x → ∃ g : Gr, PV.agg x = encG false false g ∧ FitG g
  | 0, _, h => h.elim
  | 1, x, h => by
    simp only [Ty, Try.underlying24, TyF] at h
    simp at h
  | n + 2, x, h => by
    unfold Ty at h
    simp only [Try.underlying24] at h
    simp only [TyF, Ty, Try.underlying22] at h
    obtain ⟨_, _, rfl, ⟨css, rfl, hl, hc⟩, rfl⟩ := h
    obtain ⟨g, h1, h2, h3⟩ := grs_of n css hc
    exact ⟨g, by simp [encG, h1, show Try.prog.cellsOf 123 = 1 from by kernel_rfl], by rw [h2]; exact hl, h3⟩
end Go.Am
end
section
set_option maxRecDepth 10000
set_option linter.unusedSimpArgs false
set_option linter.unusedVariables false
namespace Go.Am
open Go.Proofs
theorem bools_of : ∀ (n : Nat) (css : List (List PV)), (∀ cs ∈ css, Ty Try.prog n 4 cs) → ∃ l : List Bool, css.map (mkE Try.prog 4) = bools l ∧ l.length = css.length
  | _, [], _ => ⟨[], rfl, rfl⟩
  | 0, cs :: css, h => (h cs List.mem_cons_self).elim
  | n + 1, cs :: css, h => by
    have h1 := h cs List.mem_cons_self
    simp only [Ty, Try.underlying4] at h1
    obtain ⟨b, rfl⟩ := h1
    obtain ⟨l, h3, h4⟩ := bools_of (n + 1) css (fun c hc => h c (List.mem_cons_of_mem _ hc))
    refine ⟨b :: l, ?_, by simp [h4]⟩
    rw [List.map_cons, h3]
    simp [mkE, isAg, Try.underlying4, bools]
theorem ty_bools : ∀ (n : Nat) (x : PV), Ty Try.prog n 64 [x] → ∃ l : List Bool, x = .sl false 1 (bools l) ∧ l.length ≤ 9223372036854775807
  | 0, _, h => h.elim
  | n + 1, x, h => by
    simp only [Ty, Try.underlying64] at h
    obtain ⟨css, e, hl, hc⟩ := h
    obtain ⟨l, h1, h2⟩ := bools_of n css hc
    rw [h1] at e
    refine ⟨l, ?_, by rw [h2]; exact hl⟩
    have := List.cons.inj e
    rw [this.1, show Try.prog.cellsOf 4 = 1 from by kernel_rfl]
end Go.Am
end
section
/- FnExactGraphSync holds for all arguments. -/
set_option maxRecDepth 100000
set_option linter.unusedVariables false
set_option linter.unusedSimpArgs false
namespace Go.Proofs.Ytlldnglfoajfcaa
open Go.ChangeShapes Go.WideShapes Go.ChangeAt Go.RowKit Go.Am
theorem own : ownKnob Try.prog.godebug = none := by kernel_rfl
theorem laidOut : laidOutB Try.prog = true := by kernel_rfl
theorem lifted (heq : ∀ n0 n1 n2 x0 x1 x2, Ty Try.prog n0 24 x0 → Ty Try.prog n1 24 x1 → Ty Try.prog n2 64 [x2] → callI G 12 [.agg x0, .agg x1, x2] [] = some (.b true, [])) (os : Os) (started : os.Started) (H : Type) (enc : TypeId × Value → H) :
    ReturnsInHanded {} Try.checked os 12 .any (Rows.fnExactGraphSyncSpec.pre6 enc Try.prog Try.f12 Rows.fnExactGraphSyncRow.domain false) (Rows.fnExactGraphSyncSpec.post enc Try.prog Try.f12 false true false false) := by
  refine returnsInHanded_of_change (C := Try.checked) own started (by kernel_rfl) Try.func12
    (ChangeSpec.witness6 (enc := enc) (C := Try.checked) false ⟨#[], #[.agg #[.slice none 0 0], .agg #[.slice none 0 0], .slice none 0 0], []⟩ 8 (by kernel_rfl) (by kernel_rfl) (by kernel_rfl) (by kernel_rfl)) ?_
  intro W base args ds gs before hval0 hW hcnd _
  have hval : ∀ (j : Nat) t v, Try.f12.params[j]? = some t → args[j]? = some v → Value.okWide Try.prog W .any base t v := hval0
  have hW' := hW
  obtain ⟨p, q, hA0, hV, rfl, hfz, hnd⟩ := hW
  have hA : DataW.TrodAll enc Try.prog W 0 (fun _ => true) true Try.f12.params.toList args.toList ds p := hA0
  rw [Try.params12] at hA hval
  obtain ⟨v0, v1, v2, d0, d1, d2, p0, p1, p2, rfl, rfl, rfl, t0, t1, t2⟩ := trodAll_three hA
  obtain ⟨rfl, rfl⟩ := trodVars_none hV
  simp only [List.append_nil] at hW'
  obtain ⟨n0, c0, e0⟩ := read_agg (P := Try.prog) (Ts := [24, 22, 123, 147, 3]) (by kernel_rfl) (by simp) t0
  have r0 := arg_agg (hval 0 24 v0 rfl rfl) (by kernel_rfl) e0
  obtain ⟨n1, c1, e1⟩ := read_agg (P := Try.prog) (Ts := [24, 22, 123, 147, 3]) (by kernel_rfl) (by simp) t1
  have r1 := arg_agg (hval 1 24 v1 rfl rfl) (by kernel_rfl) e1
  obtain ⟨n2, c2, e2⟩ := read_agg (P := Try.prog) (Ts := [64, 4]) (by kernel_rfl) (by simp) t2
  obtain ⟨x2, rfl, r2⟩ := arg_cell (hval 2 64 v2 rfl rfl) (by kernel_rfl) (by kernel_rfl) e2
  have hr : RVals (cAll W) (gt []) (hp W) [.agg c0, .agg c1, x2] [v0, v1, v2] := ⟨v0, [v1, v2], rfl, r0, ⟨v1, [v2], rfl, r1, ⟨v2, [], rfl, r2, rfl⟩⟩⟩
  have hlt : ∀ y ∈ p0 ++ p1 ++ p2, y.block < W.heap.size := fun y hy => hW'.lt y hy
  have hlt0 : ∀ y ∈ p0, y.block < W.heap.size := fun y hy => hlt y (by simp [hy])
  have hlt1 : ∀ y ∈ p1, y.block < W.heap.size := fun y hy => hlt y (by simp [hy])
  have hlt2 : ∀ y ∈ p2, y.block < W.heap.size := fun y hy => hlt y (by simp [hy])
  refine (law_calls progOK hr (heq n0 n1 n2 c0 c1 x2 e0.1 e1.1 e2.1)).mono fun e W' hend => ?_
  obtain ⟨rfl, ho, hu, hb, hz⟩ := hend
  have hkept : W.keptBut W' (· ∈ p0 ++ p1 ++ p2) := keptBut_same ho hu hb _
  exact ⟨_, rfl, post_kept (pa := p0 ++ p1 ++ p2) (pv := []) hW' (fun b sp hd => trodAll_mk1 (trod_bool Try.underlying4 true))
    (fun sp hsp => (by rw [List.append_assoc]; exact trodAll_mk3 (WideElems.Trod_stays laidOut (by kernel_rfl) (of_decide_eq_true (by kernel_rfl)) t0 (fun y hy => sameAt_of hb (hlt0 y hy)) (fun y hy => hsp y (by simp [hy]))) (WideElems.Trod_stays laidOut (by kernel_rfl) (of_decide_eq_true (by kernel_rfl)) t1 (fun y hy => sameAt_of hb (hlt1 y hy)) (fun y hy => hsp y (by simp [hy]))) (WideElems.Trod_stays laidOut (by kernel_rfl) (of_decide_eq_true (by kernel_rfl)) t2 (fun y hy => sameAt_of hb (hlt2 y hy)) (fun y hy => hsp y (by simp [hy])))))
    (fun _ _ => rfl) (by simp) hkept hz (ok_one (by kernel_rfl) rfl (okWide_bool' Try.underlying4 true))⟩
theorem said (heq : ∀ n0 n1 n2 x0 x1 x2, Ty Try.prog n0 24 x0 → Ty Try.prog n1 24 x1 → Ty Try.prog n2 64 [x2] → callI G 12 [.agg x0, .agg x1, x2] [] = some (.b true, [])) : Rows.FnExactGraphSyncSaid :=
  OpenClaim.holds_of_wide 12 Try.f12 rfl rfl rfl rfl rfl rfl rfl ⟨rfl, rfl, rfl, rfl, rfl⟩ rfl rfl rfl rfl rfl (by kernel_rfl) Try.func12 closedF
    (of_decide_eq_true (by kernel_rfl)) (by unfold Func.isWrapper; first | (rw [if_pos (by decide +kernel)]; kernel_rfl) | (rw [if_neg (by decide +kernel)]; exact ⟨rfl, rfl⟩))
    (fun os started H enc _ => lifted heq os started H enc)
theorem holds : Rows.FnExactGraphSyncSaid := said fun n0 n1 n2 x0 x1 x2 h0 h1 h2 => by
  obtain ⟨e, e0, hfe⟩ := ty_graph n0 x0 h0
  obtain ⟨g, e1, hfg⟩ := ty_graph n1 x1 h1
  obtain ⟨bs, rfl, hl⟩ := ty_bools n2 x2 h2
  rw [e0, e1]
  exact lawGraphSync e g hfe hfg bs hl
end Go.Proofs.Ytlldnglfoajfcaa
#print axioms Go.Proofs.Ytlldnglfoajfcaa.holds
end
