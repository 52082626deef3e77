/- What the functions that the law reaches compute. -/
import Derived.Test.YtmpbcedglimhkaaEqD
import Derived.Test.YtmpbcedglimhkaaEqA
import Derived.Test.YtmpbcedglimhkaaEqB
import Derived.Test.YtmpbcedglimhkaaEqC
section
set_option maxRecDepth 10000
set_option maxHeartbeats 4000000
set_option linter.unusedSimpArgs false
set_option linter.unusedVariables false
namespace Go.Am
open Go.Proofs Go.Sort Go.Shelf
theorem weaks_mapI : ∀ l : List Int, weaks 2 (l.map PV.i) = l.map PV.i
  | [] => rfl
  | x :: l => by
    have := weaks_mapI l
    simp only [List.map_cons, weaks] at this ⊢
    rw [this]; rfl
theorem wkG_ints (l : List Int) : wkG (.sl false 1 (l.map PV.i)) = .sl false 1 (l.map PV.i) := by
  show weak 2 (.sl false 1 (l.map PV.i)) = _
  simp only [weak, weaks_mapI]
theorem wkG_i (a : Int) : wkG (.i a) = .i a := rfl
theorem encGf (g : Gr) : encG false false g = .agg [.sl false 1 (encGs false false g)] := by simp [encG, encM']
theorem hGraphOk (g : Gr) (hf : FitG g) : callI H 44 [encG true false g] [] = some (.b (grOk g), []) := by
  rw [callI_prim' (p := viaP G 44 wkG) rfl]
  simp only [viaP, List.map_cons, List.map_nil, wkG_enc]
  exact eqOkI g hf
theorem hSlip (g : Gr) (hg : OkTo g) (hs : SmallG g) (L : List Int) (hL : ∀ x ∈ L, 0 ≤ x ∧ x < g.length) (hl : L.length ≤ 2147483648) :
    callI H 114 [encG true false g, .sl false 1 (L.map PV.i)] [] = some (.sl false 1 ((slip g L).map PV.i), []) := by
  rw [callI_prim' (p := lowP G 114 wkG) rfl]
  have h := eqSlip (encGs false false g) g (encR_G false false g) hg hs L hL hl
  simp only [lowP, viaP, List.map_cons, List.map_nil, wkG_enc, wkG_ints, encGf]
  rw [h]
  simp only [lowR, fals_i]
theorem hAfter (g : Gr) (hg : OkTo g) (hs : SmallG g) (h60 : g.length ≤ 1000) (S : List Int) (hS : InN g.length S) (a : Int) :
    callI H 115 [encG true false g, .sl false 1 (S.map PV.i), .i a] [] = some (.sl false 1 ((aft g S a).map PV.i), []) := by
  rw [callI_prim' (p := lowP G 115 wkG) rfl]
  have h := eqAfter (encGs false false g) g (encR_G false false g) hg hs h60 S hS a
  simp only [lowP, viaP, List.map_cons, List.map_nil, wkG_enc, wkG_ints, wkG_i, encGf]
  rw [h]
  simp only [lowR, fals_i]
/-! impl.behind -/
theorem loopBe (g : Gr) (hg : OkTo g) (hs : SmallG g) (h60 : g.length ≤ 1000) : ∀ (rest done S : List Int), InN g.length S → (done ++ rest).length ≤ 1000 →
    loopI H [2, 5, 11, 12, 13] [2, 9, 10, 20] c99l0 ⟨[(2, .ref (0, 2) 1 0 0), (5, .sl false 1 (S.map PV.i)), (11, .sl false 1 ((done ++ rest).map PV.i)), (12, .i (done ++ rest).length), (13, .i done.length)], [(2, .box [encM' true false g]), (9, .frz 1 [.i 0])], []⟩ =
      some (.exit 0, ⟨[(2, .ref (0, 2) 1 0 0), (5, .sl false 1 ((behind g S rest).map PV.i)), (11, .sl false 1 ((done ++ rest).map PV.i)), (12, .i (done ++ rest).length), (13, .i (done ++ rest).length), (14, .b false)], [(2, .box [encM' true false g]), (9, .frz 1 [.i 0])], []⟩)
  | [], done, S, hS, h => by
    rw [loopI_eq]
    rcases encM_two true false g with ⟨e, _⟩ | e <;>
      (rw [e]
       simp [r99l0, b99l0, behind])
  | a :: rest, done, S, hS, h => by
    have hlt : (done.length : Int) < (done.length : Int) + ((rest.length : Int) + 1) := by omega
    have hw : IntKind.i64.wrap ((done.length : Int) + 1) = (done.length : Int) + 1 := wr (by simp at h; omega)
    have hat : nth ((done ++ a :: rest).map PV.i) done.length = some (.i a) := by simp [nth]
    have hn := loopBe g hg hs h60 rest (done ++ [a]) (aft g S a) (aft_in hg S a) (by simpa using h)
    have hA := hAfter g hg hs h60 S hS a
    have e1 : done ++ [a] ++ rest = done ++ a :: rest := by simp
    have e2 : (done ++ a :: rest).length = done.length + (rest.length + 1) := by simp
    have e3 : ((done ++ a :: rest).map PV.i).length = done.length + (rest.length + 1) := by simp
    simp only [e1, e2] at hn ⊢
    have hB : behind g S (a :: rest) = behind g (aft g S a) rest := rfl
    rw [hB]
    simp only [encG] at hA
    generalize (done ++ a :: rest).map PV.i = F at hat hn e3 ⊢
    generalize (aft g S a).map PV.i = T at hA hn ⊢
    generalize S.map PV.i = SS at hA hn ⊢
    rw [loopI_eq]
    rcases encM_two true false g with ⟨e, _⟩ | e <;>
      (rw [e] at hA hn ⊢
       simp [r99l0, b99l0, hlt, hat, e3, hw, hA]
       simpa [Int.add_assoc] using hn)
theorem eqBehind (g : Gr) (hg : OkTo g) (hs : SmallG g) (h0 : 1 ≤ g.length) (h60 : g.length ≤ 1000) (w : List Int) (hw : w.length ≤ 1000) :
    callI H 99 [encG true false g, .sl false 1 (w.map PV.i)] [] = some (.sl false 1 ((behind g (slip g [0]) w).map PV.i), []) := by
  have h1 : ∀ x ∈ [(0 : Int)], 0 ≤ x ∧ x < g.length := fun x hx => by rw [List.mem_singleton.1 hx]; omega
  have hS := hSlip g hg hs [0] h1 (by simp)
  have hl := loopBe g hg hs h60 w [] (slip g [0]) (slip_in hg h1) (by simpa using hw)
  simp only [List.nil_append, List.length_nil, show ((0 : Nat) : Int) = 0 from rfl, List.map_cons, List.map_nil] at hl hS
  simp only [encG] at hS ⊢
  have hW : (w.map PV.i).length = w.length := by simp
  generalize (behind g (slip g [0]) w).map PV.i = T at hl ⊢
  generalize (slip g [0]).map PV.i = SS at hS hl
  generalize w.map PV.i = W at hl hW ⊢
  rw [callI_eq]
  rcases encM_two true false g with ⟨e, _⟩ | e <;>
    (rw [e] at hS hl ⊢
     simp [body1_eq _ _ (gpH 99) g99, c99, a99, hS, hW, hl])
/-! words -/
theorem hActOk (a : Int) : callI H 74 [.i a] [] = some (.b (actOk a), []) := by
  rw [callI_eq]
  unfold actOk
  by_cases h : -4 ≤ a <;> simp [body1_eq _ _ (gpH 74) g74, c74, a74, h]
theorem hSeen (a : Int) : callI H 62 [.i a] [] = some (.b (seenA a), []) := by
  have h := hActOk a
  rw [callI_eq]
  unfold seenA
  by_cases h1 : actOk a = true <;> simp [body1_eq _ _ (gpH 62) g62, c62, a62, h, h1]
theorem hUnseen (a : Int) : callI H 136 [.i a] [] = some (.b (!seenA a), []) := by
  have h := hSeen a
  rw [callI_eq]
  simp [body1_eq _ _ (gpH 136) g136, c136, a136, h]
def idxU : List Int → Nat → Int
  | [], _ => -1
  | a :: w, k => if seenA a then idxU w (k + 1) else k
theorem idxU_all : ∀ (w : List Int) (k : Nat), (0 ≤ idxU w k) ↔ w.all seenA = false
  | [], k => by simp [idxU]
  | a :: w, k => by
    have ih := idxU_all w (k + 1)
    by_cases h : seenA a = true
    · simp [idxU, h, ih]
    · simp [idxU, h]
theorem loopIxW : ∀ (rest done : List Int), (done ++ rest).length ≤ 1000 → ∃ ex, loopI H [0, 1, 7, 8] [] c151l0 ⟨[(0, .sl false 1 ((done ++ rest).map PV.i)), (1, .clo 136 []), (7, .i (done ++ rest).length), (8, .i done.length)], [], []⟩ = some ex ∧
    ((idxU rest done.length = -1 ∧ ex = (.exit 0, ⟨[(0, .sl false 1 ((done ++ rest).map PV.i)), (1, .clo 136 []), (7, .i (done ++ rest).length), (8, .i (done ++ rest).length), (9, .b false)], [], []⟩)) ∨
     (∃ k : Nat, idxU rest done.length = k ∧ ex.1 = .ret ∧ ex.2.l = [] ∧ ex.2.o = [] ∧ getR ex.2.r 4 = .i k))
  | [], done, h => by
    refine ⟨_, ?_, .inl ⟨rfl, rfl⟩⟩
    rw [loopI_eq]
    simp [r151l0, b151l0]
  | a :: rest, done, h => by
    have hlt : (done.length : Int) < (done.length : Int) + ((rest.length : Int) + 1) := by omega
    have hw : IntKind.i64.wrap ((done.length : Int) + 1) = (done.length : Int) + 1 := wr (by simp at h; omega)
    have hat : nth ((done ++ a :: rest).map PV.i) done.length = some (.i a) := by simp [nth]
    obtain ⟨ex, hn, hx⟩ := loopIxW rest (done ++ [a]) (by simpa using h)
    have hU := hUnseen a
    have e1 : done ++ [a] ++ rest = done ++ a :: rest := by simp
    have e2 : (done ++ a :: rest).length = done.length + (rest.length + 1) := by simp
    have e3 : ((done ++ a :: rest).map PV.i).length = done.length + (rest.length + 1) := by simp
    have e4 : (done ++ [a]).length = done.length + 1 := by simp
    simp only [e1, e2, e4] at hn hx ⊢
    generalize (done ++ a :: rest).map PV.i = F at hat hn hx e3 ⊢
    by_cases hs : seenA a = true
    · refine ⟨ex, ?_, ?_⟩
      · rw [loopI_eq]
        simp [r151l0, b151l0, hlt, hat, e3, hw, hU, hs]
        simpa [Int.add_assoc] using hn
      · simpa [idxU, hs] using hx
    · refine ⟨(.ret, ⟨[(4, .i done.length)], [], []⟩), ?_, .inr ⟨done.length, by simp [idxU, hs], rfl, rfl, rfl, rfl⟩⟩
      rw [loopI_eq]
      simp [r151l0, b151l0, hlt, hat, e3, hw, hU, hs]
theorem hIdx (w : List Int) (hw : w.length ≤ 1000) : callI H 151 [.sl false 1 (w.map PV.i), .clo 136 []] [] = some (.i (idxU w 0), []) := by
  obtain ⟨ex, hl, hx⟩ := loopIxW w [] (by simpa using hw)
  simp only [List.nil_append, List.length_nil, show ((0 : Nat) : Int) = 0 from rfl] at hl hx
  have hW : (w.map PV.i).length = w.length := by simp
  generalize w.map PV.i = W at hl hx hW ⊢
  rw [callI_eq]
  rcases hx with ⟨e, rfl⟩ | ⟨k, e, h1, h2, h3, h4⟩
  · rw [e]
    simp [body1_eq _ _ (gpH 151) g151, c151, a151, hW, hl]
  · rw [e]
    obtain ⟨x1, r, l, o⟩ := ex
    simp only at h1 h2 h3 h4
    subst h1 h2 h3
    simp [body1_eq _ _ (gpH 151) g151, c151, a151, hW, hl, h4]
theorem hContains (w : List Int) (hw : w.length ≤ 1000) : callI H 135 [.sl false 1 (w.map PV.i), .clo 136 []] [] = some (.b (!w.all seenA), []) := by
  have h := hIdx w hw
  have hi := idxU_all w 0
  generalize w.map PV.i = W at h ⊢
  rw [callI_eq]
  by_cases c : 0 ≤ idxU w 0
  · have : w.all seenA = false := hi.1 c
    simp [body1_eq _ _ (gpH 135) g135, c135, a135, h, c, this]
  · have : w.all seenA = true := by
      cases h0 : w.all seenA
      · exact absurd (hi.2 h0) c
      · rfl
    simp [body1_eq _ _ (gpH 135) g135, c135, a135, h, c, this]
theorem hActsSeen (w : List Int) (hw : w.length ≤ 1000) : callI H 113 [.sl false 1 (w.map PV.i)] [] = some (.b (w.all seenA), []) := by
  have h := hContains w hw
  generalize w.map PV.i = W at h ⊢
  generalize w.all seenA = s at h ⊢
  rw [callI_eq]
  simp [body1_eq _ _ (gpH 113) g113, c113, a113, h]
theorem hWordOk (w : List Int) (hw : w.length ≤ 1000) : callI H 98 [.sl false 1 (w.map PV.i)] [] = some (.b (wordOk w), []) := by
  have h := hActsSeen w hw
  have hW : (w.map PV.i).length = w.length := by simp
  unfold wordOk
  generalize w.map PV.i = W at h hW ⊢
  generalize w.all seenA = s at h ⊢
  rw [callI_eq]
  by_cases c : (w.length : Int) ≤ 20
  · have c' : w.length ≤ 20 := by omega
    simp [body1_eq _ _ (gpH 98) g98, c98, a98, h, hW, c, c']
  · have c' : ¬ w.length ≤ 20 := by omega
    simp [body1_eq _ _ (gpH 98) g98, c98, a98, h, hW, c, c']
def behV (g : Gr) (w : List Int) : PV := if (grOk g && wordOk w) = true then .sl false 1 ((behind g (slip g [0]) w).map PV.i) else .nils
theorem hTraceBehind (g : Gr) (hs : SmallG g) (hf : FitG g) (w : List Int) (hw : w.length ≤ 1000) : callI H 72 [encG true false g, .sl false 1 (w.map PV.i)] [] = some (behV g w, []) := by
  have h1 := hGraphOk g hf
  have h2 := hWordOk w hw
  unfold behV
  cases c1 : grOk g with
  | false =>
    rw [c1] at h1
    simp only [encG] at h1 ⊢
    generalize w.map PV.i = W at h2 ⊢
    rw [callI_eq]
    rcases encM_two true false g with ⟨e, _⟩ | e <;>
      (rw [e] at h1 ⊢
       simp [body1_eq _ _ (gpH 72) g72, c72, a72, h1, h2])
  | true =>
    rw [c1] at h1
    obtain ⟨p1, p2, p3⟩ := grOk_to c1
    have h3 := eqBehind g p1 hs p2 (by omega) w hw
    simp only [encG] at h1 h3 ⊢
    generalize (behind g (slip g [0]) w).map PV.i = T at h3 ⊢
    generalize w.map PV.i = W at h2 h3 ⊢
    generalize wordOk w = k at h2 ⊢
    rw [callI_eq]
    rcases encM_two true false g with ⟨e, _⟩ | e <;> cases k <;>
      (rw [e] at h1 h3 ⊢
       simp [body1_eq _ _ (gpH 72) g72, c72, a72, h1, h2, h3])
theorem hTraceDoes (g : Gr) (hs : SmallG g) (hf : FitG g) (w : List Int) (hw : w.length ≤ 1000) : callI H 32 [encG true false g, .sl false 1 (w.map PV.i)] [] = some (.b (traceB g w), []) := by
  have h := hTraceBehind g hs hf w hw
  unfold behV at h
  unfold traceB
  simp only [encG] at h ⊢
  generalize hb : behind g (slip g [0]) w = b at h ⊢
  have hW : (b.map PV.i).length = b.length := by simp
  generalize w.map PV.i = W at h ⊢
  generalize b.map PV.i = B at h hW
  rw [callI_eq]
  cases c1 : grOk g with
  | false =>
    simp only [c1, Bool.false_and, Bool.false_eq_true, if_false] at h
    rcases encM_two true false g with ⟨e, _⟩ | e <;>
      (rw [e] at h ⊢
       simp [body1_eq _ _ (gpH 32) g32, c32, a32, h])
  | true =>
    cases c2 : wordOk w with
    | false =>
      simp only [c1, c2, Bool.and_false, Bool.false_eq_true, if_false] at h
      rcases encM_two true false g with ⟨e, _⟩ | e <;>
        (rw [e] at h ⊢
         simp [body1_eq _ _ (gpH 32) g32, c32, a32, h])
    | true =>
      simp only [c1, c2, Bool.and_true, if_true] at h
      cases b with
      | nil =>
        rcases encM_two true false g with ⟨e, _⟩ | e <;>
          (rw [e] at h ⊢
           simp [body1_eq _ _ (gpH 32) g32, c32, a32, h, hW])
      | cons x b =>
        have hp : (0 : Int) < (b.length : Int) + 1 := by omega
        rcases encM_two true false g with ⟨e, _⟩ | e <;>
          (rw [e] at h ⊢
           simp [body1_eq _ _ (gpH 32) g32, c32, a32, h, hW, hp])
end Go.Am
end
section
set_option maxRecDepth 10000
set_option maxHeartbeats 64000000
set_option linter.unusedSimpArgs false
set_option linter.unusedVariables false
namespace Go.Am
open Go.Proofs Go.Sort Go.Shelf
/-! an action ahead is done first -/
theorem actG_act {a : Int} (ha : actOk a = true) {g : Gr} (h : ∀ l ∈ g, ∀ m ∈ l, actOk m.1 = true) : ∀ l ∈ actG a g, ∀ m ∈ l, actOk m.1 = true := by
  intro l hl m hm
  simp only [actG, List.mem_cons, List.mem_map] at hl
  rcases hl with rfl | ⟨r, hr, rfl⟩
  · rw [List.mem_singleton] at hm; subst hm; exact ha
  · simp only [shL, List.mem_map] at hm
    obtain ⟨y, hy, rfl⟩ := hm
    exact h r hr y hy
theorem actG_row {a : Int} {g : Gr} {x : Int} (h : 0 ≤ x) : rowZ (actG a g) (x + 1) = shL 1 (rowZ g x) := by
  unfold rowZ actG
  rw [show (x + 1).toNat = x.toNat + 1 by omega, List.getD_cons_succ, List.getD_eq_getElem?_getD, List.getD_eq_getElem?_getD, List.getElem?_map]
  cases g[x.toNat]? <;> simp [shL]
theorem act_wk {a : Int} {g : Gr} (hg : OkTo g) (b : Int) (h0 : a ≠ 0) : (∃ y, Wk (actG a g) 0 [a, b] y) ↔ ∃ y, Wk g 0 [b] y := by
  constructor
  · rintro ⟨y, t⟩
    obtain ⟨u, m, t1, hm, e, t2⟩ := wk_inv t
    have hu : u = 0 := by
      cases t1 with
      | refl _ => rfl
      | step _ _ m' h1 h2 _ =>
        simp only [rowZ, actG, Int.toNat_zero, List.getD_cons_zero, List.mem_singleton] at h1
        subst h1
        exact absurd h2 h0
    subst hu
    simp only [rowZ, actG, Int.toNat_zero, List.getD_cons_zero, List.mem_singleton] at hm
    subst hm
    obtain ⟨y', k, _⟩ := wk_sim (g' := g) (C := fun x x' => x = x' + 1 ∧ 0 ≤ x') (fun x x' hc m hm => by
      obtain ⟨rfl, hx⟩ := hc
      rw [actG_row hx] at hm
      simp only [shL, List.mem_map] at hm
      obtain ⟨k, hk, rfl⟩ := hm
      have : 0 ≤ k.2 := by
        by_cases hl : x'.toNat < g.length
        · exact (hg _ (gr_mem hl) k hk).1
        · simp only [rowZ, List.getD_eq_getElem?_getD, List.getElem?_eq_none (show g.length ≤ x'.toNat by omega)] at hk
          cases hk
      exact ⟨k, hk, rfl, rfl, this⟩) t2 (x' := 0) ⟨rfl, Int.le_refl _⟩
    exact ⟨y', k⟩
  · rintro ⟨y, t⟩
    obtain ⟨y', k, _⟩ := wk_sim (g' := actG a g) (C := fun x x' => x' = x + 1 ∧ 0 ≤ x) (fun x x' hc m hm => by
      obtain ⟨rfl, hx⟩ := hc
      have : 0 ≤ m.2 := by
        by_cases hl : x.toNat < g.length
        · exact (hg _ (gr_mem hl) m hm).1
        · simp only [rowZ, List.getD_eq_getElem?_getD, List.getElem?_eq_none (show g.length ≤ x.toNat by omega)] at hm
          cases hm
      refine ⟨(m.1, m.2 + 1), ?_, rfl, rfl, this⟩
      rw [actG_row hx]
      simp only [shL, List.mem_map]
      exact ⟨m, hm, rfl⟩) t (x' := 1) ⟨rfl, Int.le_refl _⟩
    refine ⟨y', ?_⟩
    have := Wk.cons (g := actG a g) 0 0 y' (a, 1) [b] (.refl _) (by simp [rowZ, actG]) k
    simpa using this
/-- What the graph is like that does an action first. -/
theorem act_made {a : Int} {g x : Gr} (h : graphAct a g = (x, true)) : (∃ k rest, x = [(a, k)] :: rest) ∧ actOk a = true ∧ ∀ b, seenA a = true → seenA b = true → traceB x [a, b] = traceB g [b] := by
  unfold graphAct at h
  split at h
  · rename_i hc
    simp only [Bool.and_eq_true] at hc
    obtain ⟨q1, q2, q3⟩ := grOk_to hc.2
    have hto := actG_to (a := a) q1 q2
    have hac := actG_act (a := a) hc.1 (grOk_act hc.2)
    have h0 : 0 < (actG a g).length := by simp [actG]
    obtain ⟨e1, e2⟩ := made_two (q := actG a g) (by rw [h])
    rw [e1] at h
    simp only [Prod.mk.injEq, and_true] at h
    subst h
    have hok := part_ok hto h0 hac e2
    refine ⟨?_, hc.1, fun b ha hb => ?_⟩
    · have hf := reach_first (actG a g)
      have hr := part_row (actG a g) (i := 0) hf.2
      rw [hf.1] at hr
      have hrow : (actG a g).getD (0 : Int).toNat [] = [(a, 1)] := by simp [actG]
      rw [hrow] at hr
      have ht : tidyL (reT (reach (actG a g) 0) [(a, 1)]) = [(a, atOf (reach (actG a g) 0) 1)] := by
        refine tidy_sd ?_
        exact List.pairwise_singleton _ _
      rw [ht] at hr
      have hl : 0 < (partG (actG a g) 0).length := by rw [part_len]; exact hf.2
      cases hp : partG (actG a g) 0 with
      | nil => rw [hp] at hl; simp at hl
      | cons r rest =>
        rw [hp] at hr
        simp only [List.getD_cons_zero] at hr
        exact ⟨_, rest, by rw [hr]⟩
    · have hw2 : wordOk [a, b] = true := by simp [wordOk, ha, hb]
      have hw1 : wordOk [b] = true := by simp [wordOk, hb]
      have hne : a ≠ 0 := by
        intro e
        simp [seenA, e] at ha
      rw [Bool.eq_iff_iff, traceB_iff hok hw2, traceB_iff hc.2 hw1, part_wk hto h0, act_wk q1 b hne]
  · simp at h
theorem act_small {g : Gr} (sg : SmallG g) (a : Int) : SmallG (graphAct a g).1 := by
  unfold graphAct
  split
  · rename_i hc
    simp only [Bool.and_eq_true] at hc
    obtain ⟨q1, q2, q3⟩ := grOk_to hc.2
    exact made_small (actG_small sg q3)
  · exact ⟨by simp, fun l hl => by cases hl⟩
theorem lDrawAct (B : List Nat) (hB : B.length ≤ 9223372036854775807) (hb : ∀ b ∈ B, b < 256) : ∃ a g, SmallG g ∧ callI L 33 [.sl false 1 (byVs B)] [] = some (.tup [.i a, encG true false g], []) := by
  obtain ⟨a, g, sg, _, h⟩ := eqDrawGraphAct B hB hb
  refine ⟨a, g, sg, ?_⟩
  have e : callI L 33 [.sl false 1 (byVs B)] [] = lowTP H 33 id [.sl false 1 (byVs B)] [] := callI_prim' (p := lowTP H 33 id) rfl _ _
  rw [e]
  simp only [lowTP, viaP, List.map_cons, List.map_nil, id, h]
  exact low_xg g (.i a) rfl
theorem lActI (g : Gr) (sg : SmallG g) (a : Int) : callI L 34 [.i a, encG true false g] [] = some (.tup [encG true false (graphAct a g).1, .b (graphAct a g).2], []) := by
  have e : callI L 34 [.i a, encG true false g] [] = lowTP G 34 wkG [.i a, encG true false g] [] := callI_prim' (p := lowTP G 34 wkG) rfl _ _
  rw [e]
  simp only [lowTP, viaP, List.map_cons, List.map_nil, wkG_enc, wkG_i]
  rw [eqGraphActI a g sg sg.fit]
  exact low_gb _ _
theorem lActS (g : Gr) (sg : SmallG g) (a : Int) : callI L 35 [.i a, encG true false g] [] = some (.tup [encG true false (graphAct a g).1, .b (graphAct a g).2], []) := by
  have e : callI L 35 [.i a, encG true false g] [] = lowTP G 35 wkG [.i a, encG true false g] [] := callI_prim' (p := lowTP G 35 wkG) rfl _ _
  rw [e]
  simp only [lowTP, viaP, List.map_cons, List.map_nil, wkG_enc, wkG_i]
  rw [eqGraphActS a g sg sg.fit]
  exact low_gb _ _
theorem lTraceDoes (g : Gr) (sg : SmallG g) (w : List Int) (hw : w.length ≤ 1000) : callI L 32 [encG true false g, .sl false 1 (w.map PV.i)] [] = some (.b (traceB g w), []) := by
  have e : callI L 32 [encG true false g, .sl false 1 (w.map PV.i)] [] = viaP H 32 id [encG true false g, .sl false 1 (w.map PV.i)] [] := callI_prim' (p := viaP H 32 id) rfl _ _
  rw [e]
  simp only [viaP, List.map_cons, List.map_nil, id]
  exact hTraceDoes g sg sg.fit w hw
theorem loopAl0 (a : Int) (ha : -4 ≤ a ∧ a ≤ 4) (g x : Gr) (sg : SmallG g) (sx : SmallG x) (ht : ∀ b, seenA a = true → seenA b = true → traceB x [a, b] = traceB g [b]) : ∀ (k : Nat) (b : Int), -4 ≤ b → b + k = 5 →
    loopI L [3, 4, 5, 9] [4, 5, 15, 21] c8l0 ⟨[(3, .i a), (4, .ref (0, 4) 1 0 0), (5, .ref (0, 5) 1 0 0), (9, .i b)], [(4, .box [encM' true false g]), (5, .box [encM' true false x])], []⟩ =
      some (.exit 0, ⟨[(3, .i a), (4, .ref (0, 4) 1 0 0), (5, .ref (0, 5) 1 0 0), (9, .i 5), (59, .b false)], [(4, .box [encM' true false g]), (5, .box [encM' true false x])], []⟩)
  | 0, b, hb, e => by
    obtain rfl : b = 5 := by omega
    rw [loopI_eq]
    rcases encM_cases true false g with e | ⟨E, e⟩ <;> rw [e] <;> rcases encM_cases true false x with e' | ⟨E', e'⟩ <;> rw [e'] <;> simp [r8l0, b8l0]
  | k + 1, b, hb, e => by
    have hle : b ≤ 4 := by omega
    have hw : IntKind.i64.wrap (b + 1) = b + 1 := wr (by omega)
    have hn := loopAl0 a ha g x sg sx ht k (b + 1) (by omega) (by omega)
    refine Eq.trans ?_ hn
    have t1 := lTraceDoes g sg [b] (by simp)
    have t2 := lTraceDoes x sx [a, b] (by simp)
    simp only [List.map_cons, List.map_nil, encG] at t1 t2
    rw [loopI_eq]
    by_cases h0 : a = 0
    · rcases encM_cases true false g with e | ⟨E, e⟩ <;> rw [e] <;> rcases encM_cases true false x with e' | ⟨E', e'⟩ <;> rw [e'] <;> simp [r8l0, b8l0, hle, hw, h0]
    · by_cases hb0 : b = 0
      · rcases encM_cases true false g with e | ⟨E, e⟩ <;> rw [e] <;> rcases encM_cases true false x with e' | ⟨E', e'⟩ <;> rw [e'] <;> simp [r8l0, b8l0, hle, hw, h0, hb0, wr1]
      · have hs := ht b (by simp [seenA, actOk, ha.1, ha.2, h0]) (by simp [seenA, actOk, hb, hle, hb0])
        rw [hs] at t2
        generalize traceB g [b] = q at t1 t2
        rcases encM_cases true false g with e | ⟨E, e⟩ <;> rw [e] at t1 ⊢ <;> rcases encM_cases true false x with e' | ⟨E', e'⟩ <;> rw [e'] at t2 ⊢ <;> simp [r8l0, b8l0, hle, hw, h0, hb0, t1, t2]
theorem lawFnGraphAct (B : List Nat) (hB : B.length ≤ 9223372036854775807) (hb : ∀ b ∈ B, b < 256) : callI L 8 [.sl false 1 (byVs B)] [] = some (.b true, []) := by
  have hBl := byVs_len B
  by_cases hbig : (1048576 : Int) < B.length
  · rw [callI_eq]
    simp [body1_eq _ _ (gpL 8) g8, c8, a8, hBl, hbig]
  obtain ⟨a, g, sg, hd⟩ := lDrawAct B hB hb
  have hI := lActI g sg a
  have hS := lActS g sg a
  have sx := act_small sg a
  have hag := fun h : graphAct a g = ((graphAct a g).1, true) => act_made h
  have hM := hMnGraphL _ sx
  generalize graphAct a g = X at *
  obtain ⟨x, bx⟩ := X
  simp only at *
  cases bx with
  | false =>
    rw [callI_eq]
    simp only [encG] at hd hI hS hM
    rcases encM_cases true false g with e | ⟨E, e⟩ <;> rw [e] at hd hI hS <;> rcases encM_cases true false x with e' | ⟨E', e'⟩ <;> rw [e'] at hI hS hM <;>
      simp [body1_eq _ _ (gpL 8) g8, c8, a8, hBl, hbig, hd, hI, hS, hM]
  | true =>
    obtain ⟨⟨k, rest, rfl⟩, ha, ht⟩ := hag rfl
    have ha4 : -4 ≤ a ∧ a ≤ 4 := by simpa [actOk] using ha
    have hl := loopAl0 a ha4 g _ sg sx ht 9 (-4) (by omega) (by omega)
    have hx : encM' true false ([(a, k)] :: rest) = .sl false 1 (.sl false 2 [mvP (a, k)] :: encGs true false rest) := by simp [encM', encGs, encL]
    simp only [encG, hx] at hd hI hS hM hl
    rw [callI_eq]
    generalize encGs true false rest = E at *
    simp only [mvP] at hI hS hM hl ⊢
    rcases encM_cases true false g with e | ⟨E', e⟩ <;> rw [e] at hd hI hS hl <;>
      simp [body1_eq _ _ (gpL 8) g8, c8, a8, hBl, hbig, hd, hI, hS, hM, hl, mvP]
end Go.Am
end
