/- FnExactPoolSorted holds for all arguments. -/
import Derived.Test.YtlldnglfoajfcaaPiEqs
import Derived.Test.YtlldnglfoajfcaaAmC
import Derived.Test.YtlldnglfoajfcaaPoolEqs
import Derived.Test.YtlldnglfoajfcaaRows
import Derived.Test.YtlldnglfoajfcaaCl
import Derived.Test.YtlldnglfoajfcaaSortEqs
section
set_option maxRecDepth 10000
set_option linter.unusedSimpArgs false
set_option linter.unusedVariables false
namespace Go.Am
open Go.Proofs
theorem encs_of : ∀ css : List (List PV), (∀ cs ∈ css, ∃ p, PV.agg cs = enc p ∧ Fit p) → ∃ ps : List Pi, css.map PV.agg = encs ps ∧ Fits ps ∧ ps.length = css.length
  | [], _ => ⟨[], rfl, trivial, rfl⟩
  | cs :: css, h => by
    obtain ⟨p, h1, h2⟩ := h cs List.mem_cons_self
    obtain ⟨ps, h3, h4, h5⟩ := encs_of css (fun c hc => h c (List.mem_cons_of_mem _ hc))
    exact ⟨p :: ps, by simp only [List.map_cons, encs, h1, h3], ⟨h2, h4⟩, by simp [h5]⟩
theorem ty_pi : ∀ n x, Ty Try.prog n 131 x → ∃ p, PV.agg x = enc p ∧ Fit p
  | 0, _, h => h.elim
  | 1, x, h => by
    simp only [Ty, Try.underlying131, TyF] at h
    simp at h
  | n + 2, x, h => by
    have ih := ty_pi n
    unfold Ty at h
    simp only [Try.underlying131] at h
    simp only [TyF, Ty, Try.underlying3, Try.underlying43] at h
    obtain ⟨_, _, rfl, ⟨o, rfl, _⟩, _, _, rfl, ⟨u, rfl, _⟩, _, _, rfl, ⟨v, rfl, _⟩, _, _, rfl, ⟨css, rfl, hl, hc⟩, rfl⟩ := h
    obtain ⟨ps, h1, h2, h3⟩ := encs_of css (fun cs hcs => ih cs (hc cs hcs))
    have hm : css.map (mkE Try.prog 131) = encs ps := by
      rw [← h1]
      refine List.map_congr_left fun cs _ => ?_
      simp [mkE, isAg, Try.underlying131]
    exact ⟨.mk o u v ps, by simp [enc, hm, show Try.prog.cellsOf 131 = 4 from by kernel_rfl], by rw [h3]; exact hl, h2⟩
end Go.Am
end
section
set_option maxRecDepth 10000
set_option linter.unusedSimpArgs false
set_option linter.unusedVariables false
namespace Go.Am
open Go.Proofs
theorem ints_of : ∀ (n : Nat) (css : List (List PV)), (∀ cs ∈ css, Ty Try.prog n 3 cs) → ∃ xs : List Int, css.map (mkE Try.prog 3) = ints xs ∧ xs.length = css.length
  | _, [], _ => ⟨[], rfl, rfl⟩
  | 0, cs :: css, h => (h cs List.mem_cons_self).elim
  | n + 1, cs :: css, h => by
    have h1 := h cs List.mem_cons_self
    simp only [Ty, Try.underlying3] at h1
    obtain ⟨m, rfl, _⟩ := h1
    obtain ⟨xs, h3, h4⟩ := ints_of (n + 1) css (fun c hc => h c (List.mem_cons_of_mem _ hc))
    refine ⟨m :: xs, ?_, by simp [h4]⟩
    simp [h3, ints, mkE, isAg, Try.underlying3]
theorem ty_ints : ∀ (n : Nat) (x : PV), Ty Try.prog n 42 [x] → ∃ xs : List Int, x = .sl false 1 (ints xs) ∧ xs.length ≤ 9223372036854775807
  | 0, _, h => h.elim
  | n + 1, x, h => by
    simp only [Ty, Try.underlying42] at h
    obtain ⟨css, e, hl, hc⟩ := h
    obtain ⟨xs, h1, h2⟩ := ints_of n css hc
    rw [h1] at e
    refine ⟨xs, ?_, by rw [h2]; exact hl⟩
    have := List.cons.inj e
    rw [this.1, show Try.prog.cellsOf 3 = 1 from by kernel_rfl]
theorem ty_pis : ∀ (n : Nat) (x : PV), Ty Try.prog n 43 [x] → ∃ ps : List Pi, x = .sl false 4 (encs ps) ∧ ps.length ≤ 9223372036854775807 ∧ Fits ps
  | 0, _, h => h.elim
  | n + 1, x, h => by
    simp only [Ty, Try.underlying43] at h
    obtain ⟨css, e, hl, hc⟩ := h
    obtain ⟨ps, h1, h2, h3⟩ := encs_of css (fun cs hcs => ty_pi n cs (hc cs hcs))
    have hm : css.map (mkE Try.prog 131) = encs ps := by
      rw [← h1]
      refine List.map_congr_left fun cs _ => ?_
      simp [mkE, isAg, Try.underlying131]
    rw [hm] at e
    refine ⟨ps, ?_, by rw [h3]; exact hl, h2⟩
    have := List.cons.inj e
    rw [this.1, show Try.prog.cellsOf 131 = 4 from by kernel_rfl]
theorem one_of {n : Nat} {t : TypeId} {x : List PV} (h : Ty Try.prog n t x) (hs : (∃ e, Try.prog.underlying t = some (.slice e))) : ∃ y, x = [y] := by
  cases n with
  | zero => exact h.elim
  | succ n =>
    obtain ⟨e, he⟩ := hs
    simp only [Ty, he] at h
    obtain ⟨css, rfl, _⟩ := h
    exact ⟨_, rfl⟩
theorem ty_pool : ∀ (n : Nat) (x : List PV), Ty Try.prog n 45 x → ∃ ss ms, PV.agg x = encPool ss ms ∧ ss.length ≤ 9223372036854775807 ∧ ms.length ≤ 9223372036854775807 ∧ Fits ms
  | 0, _, h => h.elim
  | n + 1, x, h => by
    unfold Ty at h
    simp only [Try.underlying45] at h
    simp only [TyF] at h
    obtain ⟨a, _, rfl, ha, b, _, rfl, hb, rfl⟩ := h
    obtain ⟨a, rfl⟩ := one_of ha ⟨_, Try.underlying42⟩
    obtain ⟨b, rfl⟩ := one_of hb ⟨_, Try.underlying43⟩
    obtain ⟨ss, rfl, h1⟩ := ty_ints n a ha
    obtain ⟨ms, rfl, h2, h3⟩ := ty_pis n b hb
    exact ⟨ss, ms, rfl, h1, h2, h3⟩
end Go.Am
end
section
/- FnExactPoolSorted holds for all arguments. -/
set_option maxRecDepth 100000
set_option linter.unusedVariables false
set_option linter.unusedSimpArgs false
namespace Go.Proofs.Ytlldnglfoajfcaa
open Go.ChangeShapes Go.WideShapes Go.ChangeAt Go.RowKit Go.Am
theorem own : ownKnob Try.prog.godebug = none := by kernel_rfl
theorem laidOut : laidOutB Try.prog = true := by kernel_rfl
theorem lifted (heq : ∀ n0 n1 n2 x0 x1 x2, Ty Try.prog n0 45 x0 → Ty Try.prog n1 42 [x1] → Ty Try.prog n2 42 [x2] → callI G 4 [.agg x0, x1, x2] [] = some (.b true, [])) (os : Os) (started : os.Started) (H : Type) (enc : TypeId × Value → H) :
    ReturnsInHanded {} Try.checked os 4 .any (Rows.fnExactPoolSortedSpec.pre6 enc Try.prog Try.f4 Rows.fnExactPoolSortedRow.domain false) (Rows.fnExactPoolSortedSpec.post enc Try.prog Try.f4 false true false false) := by
  refine returnsInHanded_of_change (C := Try.checked) own started (by kernel_rfl) Try.func4
    (ChangeSpec.witness6 (enc := enc) (C := Try.checked) false ⟨#[], #[.agg #[.slice none 0 0, .slice none 0 0], .slice none 0 0, .slice none 0 0], []⟩ 8 (by kernel_rfl) (by kernel_rfl) (by kernel_rfl) (by kernel_rfl)) ?_
  intro W base args ds gs before hval0 hW hcnd _
  have hval : ∀ (j : Nat) t v, Try.f4.params[j]? = some t → args[j]? = some v → Value.okWide Try.prog W .any base t v := hval0
  have hW' := hW
  obtain ⟨p, q, hA0, hV, rfl, hfz, hnd⟩ := hW
  have hA : DataW.TrodAll enc Try.prog W 0 (fun _ => true) true Try.f4.params.toList args.toList ds p := hA0
  rw [Try.params4] at hA hval
  obtain ⟨v0, v1, v2, d0, d1, d2, p0, p1, p2, rfl, rfl, rfl, t0, t1, t2⟩ := trodAll_three hA
  obtain ⟨rfl, rfl⟩ := trodVars_none hV
  simp only [List.append_nil] at hW'
  obtain ⟨n0, c0, e0⟩ := read_agg (P := Try.prog) (Ts := [45, 42, 3, 43, 131]) (by kernel_rfl) (by simp) t0
  have r0 := arg_agg (hval 0 45 v0 rfl rfl) (by kernel_rfl) e0
  obtain ⟨n1, c1, e1⟩ := read_agg (P := Try.prog) (Ts := [42, 3]) (by kernel_rfl) (by simp) t1
  obtain ⟨x1, rfl, r1⟩ := arg_cell (hval 1 42 v1 rfl rfl) (by kernel_rfl) (by kernel_rfl) e1
  obtain ⟨n2, c2, e2⟩ := read_agg (P := Try.prog) (Ts := [42, 3]) (by kernel_rfl) (by simp) t2
  obtain ⟨x2, rfl, r2⟩ := arg_cell (hval 2 42 v2 rfl rfl) (by kernel_rfl) (by kernel_rfl) e2
  have hr : RVals (cAll W) (gt []) (hp W) [.agg c0, x1, x2] [v0, v1, v2] := ⟨v0, [v1, v2], rfl, r0, ⟨v1, [v2], rfl, r1, ⟨v2, [], rfl, r2, rfl⟩⟩⟩
  have hlt : ∀ y ∈ p0 ++ p1 ++ p2, y.block < W.heap.size := fun y hy => hW'.lt y hy
  have hlt0 : ∀ y ∈ p0, y.block < W.heap.size := fun y hy => hlt y (by simp [hy])
  have hlt1 : ∀ y ∈ p1, y.block < W.heap.size := fun y hy => hlt y (by simp [hy])
  have hlt2 : ∀ y ∈ p2, y.block < W.heap.size := fun y hy => hlt y (by simp [hy])
  refine (law_calls progOK hr (heq n0 n1 n2 c0 x1 x2 e0.1 e1.1 e2.1)).mono fun e W' hend => ?_
  obtain ⟨rfl, ho, hu, hb, hz⟩ := hend
  have hkept : W.keptBut W' (· ∈ p0 ++ p1 ++ p2) := keptBut_same ho hu hb _
  exact ⟨_, rfl, post_kept (pa := p0 ++ p1 ++ p2) (pv := []) hW' (fun b sp hd => trodAll_mk1 (trod_bool Try.underlying4 true))
    (fun sp hsp => (by rw [List.append_assoc]; exact trodAll_mk3 (WideElems.Trod_stays laidOut (by kernel_rfl) (of_decide_eq_true (by kernel_rfl)) t0 (fun y hy => sameAt_of hb (hlt0 y hy)) (fun y hy => hsp y (by simp [hy]))) (WideElems.Trod_stays laidOut (by kernel_rfl) (of_decide_eq_true (by kernel_rfl)) t1 (fun y hy => sameAt_of hb (hlt1 y hy)) (fun y hy => hsp y (by simp [hy]))) (WideElems.Trod_stays laidOut (by kernel_rfl) (of_decide_eq_true (by kernel_rfl)) t2 (fun y hy => sameAt_of hb (hlt2 y hy)) (fun y hy => hsp y (by simp [hy])))))
    (fun _ _ => rfl) (by simp) hkept hz (ok_one (by kernel_rfl) rfl (okWide_bool' Try.underlying4 true))⟩
theorem said (heq : ∀ n0 n1 n2 x0 x1 x2, Ty Try.prog n0 45 x0 → Ty Try.prog n1 42 [x1] → Ty Try.prog n2 42 [x2] → callI G 4 [.agg x0, x1, x2] [] = some (.b true, [])) : Rows.FnExactPoolSortedSaid :=
  OpenClaim.holds_of_wide 4 Try.f4 rfl rfl rfl rfl rfl rfl rfl ⟨rfl, rfl, rfl, rfl, rfl⟩ rfl rfl rfl rfl rfl (by kernel_rfl) Try.func4 closedF
    (of_decide_eq_true (by kernel_rfl)) (by unfold Func.isWrapper; first | (rw [if_pos (by decide +kernel)]; kernel_rfl) | (rw [if_neg (by decide +kernel)]; exact ⟨rfl, rfl⟩))
    (fun os started H enc _ => lifted heq os started H enc)
theorem holds : Rows.FnExactPoolSortedSaid := said fun n0 n1 n2 x0 x1 x2 h0 h1 h2 => by
  obtain ⟨ss, ms, e, a1, a2, a3⟩ := ty_pool n0 x0 h0
  obtain ⟨st, e1, l1⟩ := ty_ints n1 x1 h1
  obtain ⟨cs, e2, l2⟩ := ty_ints n2 x2 h2
  rw [e, e1, e2]; exact lawPoolSorted ss ms a1 a2 a3 st cs l1 l2
end Go.Proofs.Ytlldnglfoajfcaa
#print axioms Go.Proofs.Ytlldnglfoajfcaa.holds
end
