/- The rounds of strong likeness of a graph and that they stop. -/
import Derived.Test.YtlldnglfoajfcaaGtD
section
set_option maxRecDepth 10000
set_option maxHeartbeats 1000000
set_option linter.unusedSimpArgs false
set_option linter.unusedVariables false
namespace Go.Am
open Go.Proofs Go.Sort Go.Shelf
/-! spec.l4Has: a move with an action into a class -/
def clAt (cl : List Int) (x : Int) : Int := cl.getD x.toNat 0
def hasM (cl : List Int) (act to : Int) (m : Mv) : Bool := decide (m.1 = act) && decide (clAt cl m.2 = to)
def hasL (cl : List Int) (l : List Mv) (act to : Int) : Bool := l.any (hasM cl act to)
theorem loopHas (E : List PV) (g : Gr) (hE : EncR false E g) (cl : List Int) (hcl : cl.length = g.length) (s : Int) (hs : 0 ≤ s ∧ s < g.length) (L : List Mv) (hL : g.getD s.toNat [] = L) (hLl : L.length ≤ 1048576) (hto : ∀ m ∈ L, 0 ≤ m.2 ∧ m.2 < g.length) (act to : Int) : ∀ (rest done : List Mv), L = done ++ rest →
    ∃ r, loopI G [1, 2, 3, 4, 5, 11] [5] c144l0 ⟨[(1, .i s), (2, .i act), (3, .sl false 1 (cl.map PV.i)), (4, .i to), (5, .ref (0, 5) 1 0 0), (11, .i done.length)], [(5, .box [PV.sl false 1 E])], []⟩ = some r ∧
      ((hasL cl rest act to = true ∧ r = (.ret, ⟨[(10, .b true)], [], []⟩)) ∨ (hasL cl rest act to = false ∧ r = (.exit 0, ⟨[(1, .i s), (2, .i act), (3, .sl false 1 (cl.map PV.i)), (4, .i to), (5, .ref (0, 5) 1 0 0), (11, .i L.length), (20, .b false)], [(5, .box [PV.sl false 1 E])], []⟩)))
  | [], done, hd => by
    rw [List.append_nil] at hd
    subst hd
    have hEl := hE.1
    have hsn : s.toNat < g.length := by omega
    obtain ⟨nl, hat⟩ := hE.2 s.toNat hsn
    rw [hL] at hat
    have hs1 := hs.1
    have hs2 := hs.2
    refine ⟨_, ?_, .inr ⟨rfl, rfl⟩⟩
    clear hE
    rw [loopI_eq]
    rcases encL_two nl false L with ⟨e, e2⟩ | e
    · rw [e] at hat
      subst e2
      simp [r144l0, b144l0, hEl, hs1, hs2, hat]
    · rw [e] at hat
      simp [r144l0, b144l0, hEl, hs1, hs2, hat]
  | m :: rest, done, hd => by
    have hEl := hE.1
    have hsn : s.toNat < g.length := by omega
    obtain ⟨nl, hat⟩ := hE.2 s.toNat hsn
    rw [hL] at hat
    have hs1 := hs.1
    have hs2 := hs.2
    have hen : encL nl false L = .sl false 2 (L.map mvP) := encL_ne (by rw [hd]; simp)
    rw [hen] at hat
    have hLl2 : L.length = done.length + (rest.length + 1) := by rw [hd]; simp
    have hlt : (done.length : Int) < L.length := by omega
    have hlt2 : done.length < L.length := by omega
    have hw : IntKind.i64.wrap ((done.length : Int) + 1) = (done.length : Int) + 1 := wr (by omega)
    have hat2 : nth (L.map mvP) done.length = some (mvP m) := by rw [hd]; exact mv_at done m rest
    have hm := hto m (by rw [hd]; simp)
    have hm1 := hm.1
    have hm2 := hm.2
    have hc : nth (cl.map PV.i) m.2.toNat = some (.i (clAt cl m.2)) := int_nth cl m.2.toNat (by omega)
    have hcl2 : (cl.map PV.i).length = g.length := by simp [hcl]
    obtain ⟨r, hn, hr⟩ := loopHas E g hE cl hcl s hs L hL hLl hto act to rest (done ++ [m]) (by simpa using hd)
    simp only [List.length_append, List.length_cons, List.length_nil, Int.natCast_add, show ((0 + 1 : Nat) : Int) = 1 from rfl] at hn
    have hml : (L.map mvP).length = L.length := by simp
    clear hE
    generalize hM : L.map mvP = M at hat hat2 hml
    generalize hC : cl.map PV.i = C at hc hcl2 hn hr ⊢
    simp only [mvP] at hat2
    by_cases c1 : m.1 = act
    · by_cases c2 : clAt cl m.2 = to
      · refine ⟨_, ?_, .inl ⟨by simp [hasL, hasM, c1, c2], rfl⟩⟩
        rw [loopI_eq]
        simp [r144l0, b144l0, hEl, hs1, hs2, hat, hat2, hml, hlt, hlt2, hm1, hm2, hc, hcl2, c1, c2, unAgg]
      · refine ⟨r, ?_, by simpa [hasL, hasM, c1, c2] using hr⟩
        rw [loopI_eq]
        simp [r144l0, b144l0, hEl, hs1, hs2, hat, hat2, hml, hlt, hlt2, hm1, hm2, hc, hcl2, c1, c2, unAgg, hw]
        exact hn
    · refine ⟨r, ?_, by simpa [hasL, hasM, c1] using hr⟩
      rw [loopI_eq]
      simp [r144l0, b144l0, hEl, hs1, hs2, hat, hat2, hml, hlt, hlt2, hm1, hm2, hc, hcl2, c1, unAgg, hw]
      exact hn
theorem eqHas (E : List PV) (g : Gr) (hE : EncR false E g) (cl : List Int) (hcl : cl.length = g.length) (s : Int) (hs : 0 ≤ s ∧ s < g.length) (hsm : SmallG g) (hto : OkTo g) (act to : Int) :
    callI G 144 [.agg [.sl false 1 E], .i s, .i act, .sl false 1 (cl.map PV.i), .i to] [] = some (.b (hasL cl (g.getD s.toNat []) act to), []) := by
  have hsn : s.toNat < g.length := by omega
  have hLl : (g.getD s.toNat []).length ≤ 1048576 := hsm.2 _ (by rw [List.getD_eq_getElem?_getD, List.getElem?_eq_getElem hsn, Option.getD_some]; exact List.getElem_mem hsn)
  obtain ⟨r, hn, hr⟩ := loopHas E g hE cl hcl s hs _ rfl hLl (hto.row _) act to (g.getD s.toNat []) [] rfl
  simp only [List.length_nil, show ((0 : Nat) : Int) = 0 from rfl] at hn
  rw [callI_eq]
  rcases hr with ⟨h1, rfl⟩ | ⟨h1, rfl⟩
  · rw [h1]
    simp [body1_eq _ _ (gp 144) g144, c144, a144, hn]
  · rw [h1]
    simp [body1_eq _ _ (gp 144) g144, c144, a144, hn]
end Go.Am
end
section
set_option maxRecDepth 10000
set_option maxHeartbeats 1000000
set_option linter.unusedSimpArgs false
set_option linter.unusedVariables false
namespace Go.Am
open Go.Proofs Go.Sort Go.Shelf
/-! spec.l4Covers: each move is one of another state, too -/
def covL (cl : List Int) (L M : List Mv) : Bool := L.all fun m => hasL cl M m.1 (clAt cl m.2)
theorem loopCov (E : List PV) (g : Gr) (hE : EncR false E g) (cl : List Int) (hcl : cl.length = g.length) (s t : Int) (hs : 0 ≤ s ∧ s < g.length) (ht : 0 ≤ t ∧ t < g.length) (hsm : SmallG g) (hok : OkTo g) (L : List Mv) (hL : g.getD s.toNat [] = L) (hLl : L.length ≤ 1048576) (hto : ∀ m ∈ L, 0 ≤ m.2 ∧ m.2 < g.length) : ∀ (rest done : List Mv), L = done ++ rest →
    ∃ r, loopI G [1, 2, 3, 4, 9] [4] c186l0 ⟨[(1, .i s), (2, .i t), (3, .sl false 1 (cl.map PV.i)), (4, .ref (0, 4) 1 0 0), (9, .i done.length)], [(4, .box [PV.sl false 1 E])], []⟩ = some r ∧
      ((covL cl rest (g.getD t.toNat []) = false ∧ r = (.ret, ⟨[(8, .b false)], [], []⟩)) ∨ (covL cl rest (g.getD t.toNat []) = true ∧ r = (.exit 0, ⟨[(1, .i s), (2, .i t), (3, .sl false 1 (cl.map PV.i)), (4, .ref (0, 4) 1 0 0), (9, .i L.length), (18, .b false)], [(4, .box [PV.sl false 1 E])], []⟩)))
  | [], done, hd => by
    rw [List.append_nil] at hd
    subst hd
    have hEl := hE.1
    have hsn : s.toNat < g.length := by omega
    obtain ⟨nl, hat⟩ := hE.2 s.toNat hsn
    rw [hL] at hat
    have hs1 := hs.1
    have hs2 := hs.2
    refine ⟨_, ?_, .inr ⟨rfl, rfl⟩⟩
    clear hE
    rw [loopI_eq]
    rcases encL_two nl false L with ⟨e, e2⟩ | e
    · rw [e] at hat
      subst e2
      simp [r186l0, b186l0, hEl, hs1, hs2, hat]
    · rw [e] at hat
      simp [r186l0, b186l0, hEl, hs1, hs2, hat]
  | m :: rest, done, hd => by
    have hEl := hE.1
    have hsn : s.toNat < g.length := by omega
    obtain ⟨nl, hat⟩ := hE.2 s.toNat hsn
    rw [hL] at hat
    have hs1 := hs.1
    have hs2 := hs.2
    have hen : encL nl false L = .sl false 2 (L.map mvP) := encL_ne (by rw [hd]; simp)
    rw [hen] at hat
    have hLl2 : L.length = done.length + (rest.length + 1) := by rw [hd]; simp
    have hlt : (done.length : Int) < L.length := by omega
    have hlt2 : done.length < L.length := by omega
    have hw : IntKind.i64.wrap ((done.length : Int) + 1) = (done.length : Int) + 1 := wr (by omega)
    have hat2 : nth (L.map mvP) done.length = some (mvP m) := by rw [hd]; exact mv_at done m rest
    have hm := hto m (by rw [hd]; simp)
    have hm1 := hm.1
    have hm2 := hm.2
    have hc : nth (cl.map PV.i) m.2.toNat = some (.i (clAt cl m.2)) := int_nth cl m.2.toNat (by omega)
    have hcl2 : (cl.map PV.i).length = g.length := by simp [hcl]
    have hh := eqHas E g hE cl hcl t ht hsm hok m.1 (clAt cl m.2)
    obtain ⟨r, hn, hr⟩ := loopCov E g hE cl hcl s t hs ht hsm hok L hL hLl hto rest (done ++ [m]) (by simpa using hd)
    simp only [List.length_append, List.length_cons, List.length_nil, Int.natCast_add, show ((0 + 1 : Nat) : Int) = 1 from rfl] at hn
    have hml : (L.map mvP).length = L.length := by simp
    clear hE
    generalize hM : L.map mvP = M at hat hat2 hml
    generalize hC : cl.map PV.i = C at hc hcl2 hn hr hh ⊢
    simp only [mvP] at hat2
    cases hv : hasL cl (g.getD t.toNat []) m.1 (clAt cl m.2) with
    | false =>
      rw [hv] at hh
      refine ⟨_, ?_, .inl ⟨by simp only [covL, List.all_cons, hv, Bool.false_and], rfl⟩⟩
      rw [loopI_eq]
      simp [r186l0, b186l0, hEl, hs1, hs2, hat, hat2, hml, hlt, hlt2, hm1, hm2, hc, hcl2, unAgg, hh]
    | true =>
      rw [hv] at hh
      refine ⟨r, ?_, by simpa only [covL, List.all_cons, hv, Bool.true_and] using hr⟩
      rw [loopI_eq]
      simp [r186l0, b186l0, hEl, hs1, hs2, hat, hat2, hml, hlt, hlt2, hm1, hm2, hc, hcl2, unAgg, hh, hw]
      exact hn
theorem eqCov (E : List PV) (g : Gr) (hE : EncR false E g) (cl : List Int) (hcl : cl.length = g.length) (s t : Int) (hs : 0 ≤ s ∧ s < g.length) (ht : 0 ≤ t ∧ t < g.length) (hsm : SmallG g) (hok : OkTo g) :
    callI G 186 [.agg [.sl false 1 E], .i s, .i t, .sl false 1 (cl.map PV.i)] [] = some (.b (covL cl (g.getD s.toNat []) (g.getD t.toNat [])), []) := by
  have hsn : s.toNat < g.length := by omega
  have hLl : (g.getD s.toNat []).length ≤ 1048576 := hsm.2 _ (by rw [List.getD_eq_getElem?_getD, List.getElem?_eq_getElem hsn, Option.getD_some]; exact List.getElem_mem hsn)
  obtain ⟨r, hn, hr⟩ := loopCov E g hE cl hcl s t hs ht hsm hok _ rfl hLl (hok.row _) (g.getD s.toNat []) [] rfl
  simp only [List.length_nil, show ((0 : Nat) : Int) = 0 from rfl] at hn
  rw [callI_eq]
  rcases hr with ⟨h1, rfl⟩ | ⟨h1, rfl⟩
  · rw [h1]
    simp [body1_eq _ _ (gp 186) g186, c186, a186, hn]
  · rw [h1]
    simp [body1_eq _ _ (gp 186) g186, c186, a186, hn]
end Go.Am
end
section
set_option maxRecDepth 10000
set_option maxHeartbeats 1000000
set_option linter.unusedSimpArgs false
set_option linter.unusedVariables false
namespace Go.Am
open Go.Proofs Go.Sort Go.Shelf
/-! spec.l4Next: one more round -/
def smS (cl : List Int) (g : Gr) (s t : Nat) : Bool := decide (cl.getD t 0 = cl.getD s 0) && (covL cl (g.getD s []) (g.getD t []) && covL cl (g.getD t []) (g.getD s []))
/-- The least below t that has the property; else b. -/
def lst (P : Nat → Bool) : Nat → Nat → Nat
  | 0, b => b
  | t + 1, b => lst P t (if P t = true then t else b)
def nxt (cl : List Int) (g : Gr) (s : Nat) : Nat := lst (smS cl g s) s s
theorem loopNx0 (E : List PV) (g : Gr) (hE : EncR false E g) (cl : List Int) (hcl : cl.length = g.length) (hsm : SmallG g) (hok : OkTo g) (Y : PV) (YL : Objs) (xs : List PV) (hY : OwnS 50 1 Y YL xs) (s : Nat) (hs : s < g.length) : ∀ (t b : Nat), t ≤ s →
    loopI G [1, 2, 5, 6, 7, 8] [2, 9, 50] c164l0 ⟨[(1, .sl false 1 (cl.map PV.i)), (2, .ref (0, 2) 1 0 0), (5, Y), (6, .i s), (7, .i b), (8, .i ((t : Int) - 1))], (2, .box [PV.sl false 1 E]) :: YL, []⟩ =
      some (.exit 2, ⟨[(1, .sl false 1 (cl.map PV.i)), (2, .ref (0, 2) 1 0 0), (5, Y), (6, .i s), (7, .i (lst (smS cl g s) t b)), (8, .i (-1)), (20, .b false)], (2, .box [PV.sl false 1 E]) :: YL, []⟩)
  | 0, b, ht => by
    rw [loopI_eq]
    rcases hY with ⟨rfl, rfl, rfl⟩ | ⟨hxs, rfl, rfl⟩
    · simp [r164l0, b164l0, lst]
    · simp [r164l0, b164l0, lst]
  | t + 1, b, ht => by
    have hgl := hsm.1
    have htg : t < g.length := by omega
    have hti : (t : Int) < g.length := by omega
    have hsi : (s : Int) < g.length := by omega
    have h8 : ((t + 1 : Nat) : Int) - 1 = t := by omega
    have hw : IntKind.i64.wrap ((t : Int) - 1) = (t : Int) - 1 := wr (by omega)
    have hcl2 : (cl.map PV.i).length = g.length := by simp [hcl]
    have hct := int_nth cl t (by omega)
    have hcs := int_nth cl s (by omega)
    have k1 := eqCov E g hE cl hcl s t (by omega) (by omega) hsm hok
    have k2 := eqCov E g hE cl hcl t s (by omega) (by omega) hsm hok
    simp only [Int.toNat_natCast] at k1 k2
    have hn := loopNx0 E g hE cl hcl hsm hok Y YL xs hY s hs t (if smS cl g s t = true then t else b) (by omega)
    rw [h8]
    have hl : lst (smS cl g s) (t + 1) b = lst (smS cl g s) t (if smS cl g s t = true then t else b) := rfl
    rw [hl]
    clear hE hl
    generalize hC : cl.map PV.i = C at hcl2 hct hcs k1 k2 hn ⊢
    have ht0 : (0 : Int) ≤ t := by omega
    by_cases c1 : cl.getD t 0 = cl.getD s 0
    · cases c2 : covL cl (g.getD s []) (g.getD t []) with
      | false =>
        have hS : smS cl g s t = false := by simp only [smS, c1, c2, decide_true, Bool.false_and, Bool.and_false]
        rw [hS] at hn
        rw [c2] at k1
        rw [← c1] at hcs
        simp only [Bool.false_eq_true, if_false] at hn
        rw [hS]
        generalize lst (smS cl g s) t = LL at hn ⊢
        simp only [Bool.false_eq_true, if_false]
        rw [loopI_eq]
        rcases hY with ⟨rfl, rfl, rfl⟩ | ⟨hxs, rfl, rfl⟩
        · simp [r164l0, b164l0, hcl2, hs, htg, hti, hsi, hct, hcs, k1, hw]
          exact hn
        · simp [r164l0, b164l0, hcl2, hs, htg, hti, hsi, hct, hcs, k1, hw]
          exact hn
      | true =>
        rw [c2] at k1
        rw [← c1] at hcs
        cases c3 : covL cl (g.getD t []) (g.getD s []) with
        | false =>
          have hS : smS cl g s t = false := by simp only [smS, c1, c2, c3, decide_true, Bool.true_and]
          rw [hS] at hn
          rw [c3] at k2
          simp only [Bool.false_eq_true, if_false] at hn
          rw [hS]
          generalize lst (smS cl g s) t = LL at hn ⊢
          simp only [Bool.false_eq_true, if_false]
          rw [loopI_eq]
          rcases hY with ⟨rfl, rfl, rfl⟩ | ⟨hxs, rfl, rfl⟩
          · simp [r164l0, b164l0, hcl2, hs, htg, hti, hsi, hct, hcs, k1, k2, hw]
            exact hn
          · simp [r164l0, b164l0, hcl2, hs, htg, hti, hsi, hct, hcs, k1, k2, hw]
            exact hn
        | true =>
          have hS : smS cl g s t = true := by simp only [smS, c1, c2, c3, decide_true, Bool.true_and]
          rw [hS] at hn
          rw [c3] at k2
          simp only [if_true] at hn
          rw [hS]
          generalize lst (smS cl g s) t = LL at hn ⊢
          simp only [if_true]
          rw [loopI_eq]
          rcases hY with ⟨rfl, rfl, rfl⟩ | ⟨hxs, rfl, rfl⟩
          · simp [r164l0, b164l0, hcl2, hs, htg, hti, hsi, hct, hcs, k1, k2, hw]
            exact hn
          · simp [r164l0, b164l0, hcl2, hs, htg, hti, hsi, hct, hcs, k1, k2, hw]
            exact hn
    · have hS : smS cl g s t = false := by simp only [smS, c1, decide_false, Bool.false_and]
      rw [hS] at hn
      simp only [Bool.false_eq_true, if_false] at hn
      rw [hS]
      generalize lst (smS cl g s) t = LL at hn ⊢
      generalize cl.getD t 0 = ct at hct c1
      generalize cl.getD s 0 = cs at hcs c1
      simp only [Bool.false_eq_true, if_false]
      rw [loopI_eq]
      rcases hY with ⟨rfl, rfl, rfl⟩ | ⟨hxs, rfl, rfl⟩
      · simp [r164l0, b164l0, hcl2, hs, htg, hti, hsi, hct, hcs, c1, hw]
        exact hn
      · simp [r164l0, b164l0, hcl2, hs, htg, hti, hsi, hct, hcs, c1, hw]
        exact hn
/-- A row of numbers that grows from nothing. -/
def owIP (d : Nat) (l : List Int) : PV := if l = [] then .nils else .own (0, d) l.length
def owIL (d : Nat) (l : List Int) : Objs := if l = [] then [] else [(d, .row 1 (l.map PV.i))]
theorem owI_S (d : Nat) (l : List Int) : OwnS d 1 (owIP d l) (owIL d l) (l.map PV.i) := by
  unfold owIP owIL
  by_cases h : l = []
  · exact .inl ⟨by simp [h], by simp [h], by simp [h]⟩
  · exact .inr ⟨by simp [h], by simp [h], by simp [h]⟩
def nextC (cl : List Int) (g : Gr) : List Int := (List.range g.length).map fun s => (nxt cl g s : Int)
theorem nextC_len (cl : List Int) (g : Gr) : (nextC cl g).length = g.length := by simp [nextC]
theorem loopNx1 (E : List PV) (g : Gr) (hE : EncR false E g) (cl : List Int) (hcl : cl.length = g.length) (hsm : SmallG g) (hok : OkTo g) : ∀ (n s : Nat), s + n = g.length → ∀ O : List Int, O = (List.range s).map (fun s => (nxt cl g s : Int)) →
    loopI G [1, 2, 5, 6] [2, 9, 50] c164l1 ⟨[(1, .sl false 1 (cl.map PV.i)), (2, .ref (0, 2) 1 0 0), (5, owIP 50 O), (6, .i s)], (2, .box [PV.sl false 1 E]) :: owIL 50 O, []⟩ =
      some (.exit 0, ⟨[(1, .sl false 1 (cl.map PV.i)), (2, .ref (0, 2) 1 0 0), (5, owIP 50 (nextC cl g)), (6, .i g.length), (13, .b false)], (2, .box [PV.sl false 1 E]) :: owIL 50 (nextC cl g), []⟩)
  | 0, s, hs, O, hO => by
    have he : s = g.length := by omega
    subst he
    have hOn : O = nextC cl g := hO
    rw [← hOn]
    have hcl2 : (cl.map PV.i).length = g.length := by simp [hcl]
    generalize hC : cl.map PV.i = C at hcl2 ⊢
    rw [loopI_eq]
    by_cases hd : O = []
    · subst hd
      simp [r164l1, b164l1, owIP, owIL, hcl2]
    · simp [r164l1, b164l1, owIP, owIL, hd, hcl2]
  | n + 1, s, hs, O, hO => by
    have hgl := hsm.1
    have hOl : O.length = s := by rw [hO]; simp
    have hsg : s < g.length := by omega
    have hsi : (s : Int) < g.length := by omega
    have hw : IntKind.i64.wrap ((s : Int) + 1) = (s : Int) + 1 := wr (by omega)
    have hw1 : IntKind.i64.wrap ((s : Int) - 1) = (s : Int) - 1 := wr (by omega)
    have hcl2 : (cl.map PV.i).length = g.length := by simp [hcl]
    have h0 := loopNx0 E g hE cl hcl hsm hok _ _ _ (owI_S 50 O) s hsg s s (Nat.le_refl _)
    have hnx : lst (smS cl g s) s s = nxt cl g s := rfl
    rw [hnx] at h0
    have hn := loopNx1 E g hE cl hcl hsm hok n (s + 1) (by omega) (O ++ [(nxt cl g s : Int)]) (by rw [hO, List.range_succ]; simp)
    have hne : O ++ [(nxt cl g s : Int)] ≠ [] := by simp
    have hol : O.length ≤ 4294967295 := by omega
    simp only [owIP, owIL, hne, if_false, List.length_append, List.length_cons, List.length_nil, Nat.zero_add, Int.natCast_add, show ((1 : Nat) : Int) = 1 from rfl] at hn
    clear hE
    generalize hC : cl.map PV.i = C at hcl2 h0 hn ⊢
    generalize nxt cl g s = v at h0 hn
    rw [loopI_eq]
    by_cases hd : O = []
    · subst hd
      simp [owIP, owIL] at h0 hn
      simp [r164l1, b164l1, owIP, owIL, hcl2, hsi, hsg, hw, hw1, h0]
      exact hn
    · simp only [owIP, owIL, hd, if_false] at h0
      simp at hn
      simp [r164l1, b164l1, owIP, owIL, hd, hcl2, hsi, hsg, hw, hw1, h0, hol]
      exact hn
theorem eqNext (E : List PV) (g : Gr) (hE : EncR false E g) (cl : List Int) (hcl : cl.length = g.length) (hsm : SmallG g) (hok : OkTo g) (hg : 1 ≤ g.length) :
    callI G 164 [.agg [.sl false 1 E], .sl false 1 (cl.map PV.i)] [] = some (.sl true 1 ((nextC cl g).map PV.i), []) := by
  have l1 := loopNx1 E g hE cl hcl hsm hok g.length 0 (by omega) [] rfl
  have hne : nextC cl g ≠ [] := by
    intro e
    have := congrArg List.length e
    rw [nextC_len] at this
    simp at this
    rw [this] at hg; simp at hg
  simp only [owIP, owIL, hne, if_false, if_true, show ((0 : Nat) : Int) = 0 from rfl] at l1
  rw [callI_eq]
  simp [body1_eq _ _ (gp 164) g164, c164, a164, l1]
end Go.Am
end
section
set_option maxRecDepth 10000
set_option maxHeartbeats 1000000
set_option linter.unusedSimpArgs false
set_option linter.unusedVariables false
namespace Go.Am
open Go.Proofs Go.Sort Go.Shelf
/-! spec.l4Same -/
theorem ii_at (a : List Int) (x : Int) (b : List Int) : nth ((a ++ x :: b).map PV.i) a.length = some (.i x) := by
  unfold nth; simp
theorem loopSame (p q : List Int) : ∀ (a b : List Int), a.length = b.length → p.length = q.length → (p ++ a).length ≤ 4611686018427387904 →
    ∃ r, loopI G [0, 1, 5] [] c165l0 ⟨[(0, .sl false 1 ((p ++ a).map PV.i)), (1, .sl false 1 ((q ++ b).map PV.i)), (5, .i p.length)], [], []⟩ = some r ∧
      ((a ≠ b ∧ r = (.ret, ⟨[(4, .b false)], [], []⟩)) ∨ (a = b ∧ r = (.exit 0, ⟨[(0, .sl false 1 ((p ++ a).map PV.i)), (1, .sl false 1 ((q ++ b).map PV.i)), (5, .i (p ++ a).length), (14, .b false)], [], []⟩))) := by
  intro a
  induction a generalizing p q with
  | nil =>
    intro b hab hpq hl
    have hb : b = [] := List.length_eq_zero_iff.1 hab.symm
    subst hb
    refine ⟨_, ?_, .inr ⟨rfl, rfl⟩⟩
    rw [loopI_eq]
    simp [r165l0, b165l0]
  | cons x a ih =>
    intro b hab hpq hl
    cases b with
    | nil => cases hab
    | cons y b =>
      have hab' : a.length = b.length := by simpa using hab
      have hA := ii_at p x a
      have hB := ii_at q y b
      rw [← hpq] at hB
      have hll : (p ++ x :: a).length = p.length + (a.length + 1) := by simp
      have hlq : (q ++ y :: b).length = p.length + (a.length + 1) := by simp; omega
      have hlA : ((p ++ x :: a).map PV.i).length = p.length + (a.length + 1) := by simp
      have hlB : ((q ++ y :: b).map PV.i).length = p.length + (a.length + 1) := by simp; omega
      have hlt : (p.length : Int) < (p.length : Int) + ((a.length : Int) + 1) := by omega
      have hlt2 : p.length < p.length + (a.length + 1) := by omega
      have hw : IntKind.i64.wrap ((p.length : Int) + 1) = (p.length : Int) + 1 := wr (by omega)
      obtain ⟨r, hn, hr⟩ := ih (p ++ [x]) (q ++ [y]) b hab' (by simp [hpq]) (by simpa using hl)
      have e1 : p ++ [x] ++ a = p ++ x :: a := by simp
      have e2 : q ++ [y] ++ b = q ++ y :: b := by simp
      rw [e1, e2] at hn hr
      simp only [List.length_append, List.length_cons, List.length_nil, Int.natCast_add, show ((0 + 1 : Nat) : Int) = 1 from rfl] at hn
      generalize hX : (p ++ x :: a).map PV.i = X at hA hlA hn hr ⊢
      generalize hZ : (q ++ y :: b).map PV.i = Z at hB hlB hn hr ⊢
      by_cases c : x = y
      · subst c
        refine ⟨r, ?_, by simpa using hr⟩
        rw [loopI_eq]
        simp [r165l0, b165l0, hlA, hlB, hlt, hlt2, hA, hB, hw]
        exact hn
      · refine ⟨_, ?_, .inl ⟨by simp [c], rfl⟩⟩
        rw [loopI_eq]
        simp [r165l0, b165l0, hlA, hlB, hlt, hlt2, hA, hB, c]
theorem eqSame (a b : List Int) (h : a.length ≤ 4611686018427387904) : callI G 165 [.sl false 1 (a.map PV.i), .sl false 1 (b.map PV.i)] [] = some (.b (decide (a = b)), []) := by
  rw [callI_eq]
  by_cases hl : a.length = b.length
  · obtain ⟨r, hn, hr⟩ := loopSame [] [] a b hl rfl (by simpa using h)
    simp only [List.nil_append, List.length_nil, show ((0 : Nat) : Int) = 0 from rfl] at hn hr
    have hli : (a.length : Int) = b.length := by omega
    rcases hr with ⟨h1, rfl⟩ | ⟨h1, rfl⟩
    · simp [body1_eq _ _ (gp 165) g165, c165, a165, hli, hn, h1]
    · subst h1
      simp [body1_eq _ _ (gp 165) g165, c165, a165, hn]
  · have hne : a ≠ b := fun e => hl (by rw [e])
    have hli : ¬ (a.length : Int) = b.length := by omega
    simp [body1_eq _ _ (gp 165) g165, c165, a165, hli, hne]
end Go.Am
end
section
set_option maxRecDepth 10000
set_option maxHeartbeats 1000000
set_option linter.unusedSimpArgs false
set_option linter.unusedVariables false
namespace Go.Am
open Go.Proofs Go.Sort Go.Shelf
/-! spec.l4Rounds -/
def encI (l : List Int) : PV := .sl false 1 (l.map PV.i)
theorem fals_i : ∀ l : List Int, fals (l.map PV.i) = l.map PV.i
  | [] => rfl
  | x :: l => by simp only [List.map_cons, fals, fals_i l]; rfl
def Stops (g : Gr) : Nat → List Int → Prop
  | 0, _ => False
  | f + 1, last => nextC last g = last ∨ Stops g f (nextC last g)
def rnds (g : Gr) : Nat → List (List Int) → List Int → List (List Int)
  | 0, R, last => R ++ [last]
  | f + 1, R, last => if nextC last g = last then R ++ [last] else rnds g f (R ++ [last]) (nextC last g)
theorem loopRn (E : List PV) (g : Gr) (hE : EncR false E g) (hsm : SmallG g) (hok : OkTo g) (hg : 1 ≤ g.length) : ∀ (f : Nat) (R : List (List Int)) (last : List Int), Stops g f last → last.length = g.length → R.length + f ≤ 1000000 →
    loopI G [1, 3] [1, 9, 30] c145l0 ⟨[(1, .ref (0, 1) 1 0 0), (3, .own (0, 9) (R.length + 1))], [(1, .box [.sl false 1 E]), (9, .row 1 ((R ++ [last]).map encI))], []⟩ =
      some (.ret, ⟨[(2, .own (0, 9) (rnds g f R last).length)], [(9, .row 1 ((rnds g f R last).map encI))], []⟩)
  | 0, R, last, hst, hl, hR => hst.elim
  | f + 1, R, last, hst, hl, hR => by
    have hgl := hsm.1
    have k1 := eqNext E g hE last hl hsm hok hg
    have k2 := eqSame (nextC last g) last (by rw [nextC_len]; omega)
    have hw : IntKind.i64.wrap ((R.length : Int) + 1 - 1) = R.length := by rw [wr (by omega)]; omega
    have hw3 : IntKind.i64.wrap (R.length : Int) = R.length := wr (by omega)
    have hlt : (R.length : Int) < (R.length : Int) + 1 := by omega
    have hat : nth ((R ++ [last]).map encI) R.length = some (.sl false 1 (last.map PV.i)) := by
      rw [List.map_append]; exact at_D _ _ _ _ (by simp)
    have hml : ((R ++ [last]).map encI).length = R.length + 1 := by simp
    have hRb : R.length + 1 ≤ 4294967295 := by omega
    by_cases he : nextC last g = last
    · have hr : rnds g (f + 1) R last = R ++ [last] := by simp [rnds, he]
      have hrl : (R ++ [last]).length = R.length + 1 := by simp
      rw [hr, hrl]
      rw [he] at k1 k2
      simp only [decide_true] at k2
      generalize hM : (R ++ [last]).map encI = M at hat hml ⊢
      rw [loopI_eq]
      simp [r145l0, b145l0, hw, hw3, hlt, hat, hml, k1, k2, fals_i]
    · have hr : rnds g (f + 1) R last = rnds g f (R ++ [last]) (nextC last g) := by simp [rnds, he]
      rw [hr]
      have hst2 : Stops g f (nextC last g) := hst.resolve_left he
      have hn := loopRn E g hE hsm hok hg f (R ++ [last]) (nextC last g) hst2 (nextC_len _ _) (by simp; omega)
      have e1 : (R ++ [last] ++ [nextC last g]).map encI = (R ++ [last]).map encI ++ [.sl false 1 ((nextC last g).map PV.i)] := by simp [encI]
      rw [e1] at hn
      simp only [List.length_append, List.length_cons, List.length_nil, Nat.zero_add] at hn
      simp only [he, decide_false] at k2
      generalize hM : (R ++ [last]).map encI = M at hat hml hn ⊢
      generalize nextC last g = N at k1 k2 hn
      rw [loopI_eq]
      simp [r145l0, b145l0, hw, hw3, hlt, hat, hml, k1, k2, hRb, fals_i]
      exact ⟨by omega, hn⟩
end Go.Am
end
section
set_option linter.unusedSimpArgs false
set_option linter.unusedVariables false
namespace Go.Am
theorem lst_spec (P : Nat → Bool) : ∀ (t b : Nat), (∃ u, u < t ∧ P u = true ∧ lst P t b = u ∧ ∀ v, v < u → P v = false) ∨ ((∀ u, u < t → P u = false) ∧ lst P t b = b)
  | 0, b => .inr ⟨fun u hu => absurd hu (Nat.not_lt_zero u), rfl⟩
  | t + 1, b => by
    simp only [lst]
    rcases lst_spec P t (if P t = true then t else b) with ⟨u, h1, h2, h3, h4⟩ | ⟨h1, h2⟩
    · exact .inl ⟨u, by omega, h2, h3, h4⟩
    · rw [h2]
      cases hv : P t with
      | true => exact .inl ⟨t, by omega, hv, by simp, h1⟩
      | false =>
        refine .inr ⟨fun u hu => ?_, by simp⟩
        by_cases e : u = t
        · rw [e]; exact hv
        · exact h1 u (by omega)
/-- Classes by their least states. -/
def Nrm (n : Nat) (f : Nat → Nat) : Prop := ∀ s, s < n → f s ≤ s ∧ f (f s) = f s
def nrts (f : Nat → Nat) (n : Nat) : Nat := ((List.range n).filter fun s => f s == s).length
/-- One more round on functions: the least state of the same class that is alike. -/
def stp (R : Nat → Nat → Bool) (f : Nat → Nat) (s : Nat) : Nat := lst (fun t => decide (f t = f s) && R s t) s s
theorem stp_le (R : Nat → Nat → Bool) (f : Nat → Nat) (s : Nat) : stp R f s ≤ s ∧ f (stp R f s) = f s := by
  unfold stp
  rcases lst_spec (fun t => decide (f t = f s) && R s t) s s with ⟨u, h1, h2, h3, _⟩ | ⟨_, h2⟩
  · rw [h3]
    simp only [Bool.and_eq_true, decide_eq_true_eq] at h2
    exact ⟨by omega, h2.1⟩
  · rw [h2]; exact ⟨Nat.le_refl _, rfl⟩
/-- A root stays one. -/
theorem stp_root {n : Nat} {R : Nat → Nat → Bool} {f : Nat → Nat} (hf : Nrm n f) {s : Nat} (hs : s < n) (h : f s = s) : stp R f s = s := by
  unfold stp
  rcases lst_spec (fun t => decide (f t = f s) && R s t) s s with ⟨u, h1, h2, _⟩ | ⟨_, h2⟩
  · simp only [Bool.and_eq_true, decide_eq_true_eq] at h2
    have := (hf u (by omega)).1
    omega
  · exact h2
end Go.Am
end
section
set_option linter.unusedSimpArgs false
set_option linter.unusedVariables false
namespace Go.Am
/-! The rounds stop: roots stay, and each round that changes something makes a new one. -/
theorem hasL_iff {cl : List Int} {l : List Mv} {act to : Int} : hasL cl l act to = true ↔ ∃ m ∈ l, m.1 = act ∧ clAt cl m.2 = to := by
  simp [hasL, hasM, List.any_eq_true]
theorem covL_iff {cl : List Int} {L M : List Mv} : covL cl L M = true ↔ ∀ m ∈ L, ∃ k ∈ M, k.1 = m.1 ∧ clAt cl k.2 = clAt cl m.2 := by
  simp only [covL, List.all_eq_true, hasL_iff]
def alk (cl : List Int) (g : Gr) (s t : Nat) : Prop := cl.getD t 0 = cl.getD s 0 ∧ ∀ a c, (∃ m ∈ g.getD s [], m.1 = a ∧ clAt cl m.2 = c) ↔ (∃ m ∈ g.getD t [], m.1 = a ∧ clAt cl m.2 = c)
theorem smS_iff {cl : List Int} {g : Gr} {s t : Nat} : smS cl g s t = true ↔ alk cl g s t := by
  simp only [smS, Bool.and_eq_true, decide_eq_true_eq, covL_iff, alk]
  refine and_congr Iff.rfl ⟨fun h a c => ⟨?_, ?_⟩, fun h => ⟨fun m hm => ?_, fun m hm => ?_⟩⟩
  · rintro ⟨m, hm, rfl, rfl⟩
    obtain ⟨k, h1, h2, h3⟩ := h.1 m hm
    exact ⟨k, h1, h2, h3⟩
  · rintro ⟨m, hm, rfl, rfl⟩
    obtain ⟨k, h1, h2, h3⟩ := h.2 m hm
    exact ⟨k, h1, h2, h3⟩
  · exact (h m.1 (clAt cl m.2)).1 ⟨m, hm, rfl, rfl⟩
  · exact (h m.1 (clAt cl m.2)).2 ⟨m, hm, rfl, rfl⟩
theorem alk_refl (cl : List Int) (g : Gr) (s : Nat) : alk cl g s s := ⟨rfl, fun _ _ => Iff.rfl⟩
theorem alk_symm {cl : List Int} {g : Gr} {s t : Nat} (h : alk cl g s t) : alk cl g t s := ⟨h.1.symm, fun a c => (h.2 a c).symm⟩
theorem alk_trans {cl : List Int} {g : Gr} {s t u : Nat} (h : alk cl g s t) (h2 : alk cl g t u) : alk cl g s u := ⟨h2.1.trans h.1, fun a c => (h.2 a c).trans (h2.2 a c)⟩
theorem nxt_spec (cl : List Int) (g : Gr) (s : Nat) : nxt cl g s ≤ s ∧ alk cl g s (nxt cl g s) ∧ ∀ t, t < nxt cl g s → ¬ alk cl g s t := by
  unfold nxt
  rcases lst_spec (smS cl g s) s s with ⟨u, h1, h2, h3, h4⟩ | ⟨h1, h2⟩
  · rw [h3]
    exact ⟨by omega, smS_iff.1 h2, fun t ht h => by have := h4 t ht; rw [smS_iff.2 h] at this; cases this⟩
  · rw [h2]
    exact ⟨Nat.le_refl _, alk_refl _ _ _, fun t ht h => by have := h1 t ht; rw [smS_iff.2 h] at this; cases this⟩
theorem nxt_eq {cl : List Int} {g : Gr} {s t : Nat} : nxt cl g s = nxt cl g t ↔ alk cl g s t := by
  obtain ⟨a1, a2, a3⟩ := nxt_spec cl g s
  obtain ⟨b1, b2, b3⟩ := nxt_spec cl g t
  constructor
  · intro h
    rw [← h] at b2
    exact alk_trans a2 (alk_symm b2)
  · intro h
    rcases Nat.lt_trichotomy (nxt cl g s) (nxt cl g t) with h1 | h1 | h1
    · exact (b3 _ h1 (alk_trans (alk_symm h) a2)).elim
    · exact h1
    · exact (a3 _ h1 (alk_trans h b2)).elim
theorem nxt_nxt (cl : List Int) (g : Gr) (s : Nat) : nxt cl g (nxt cl g s) = nxt cl g s :=
  nxt_eq.2 (alk_symm (nxt_spec cl g s).2.1)
def NrmC (cl : List Int) : Prop := ∀ s, s < cl.length → ∃ u : Nat, cl.getD s 0 = u ∧ u ≤ s ∧ cl.getD u 0 = u
theorem nextC_at {cl : List Int} {g : Gr} {s : Nat} (hs : s < g.length) : (nextC cl g).getD s 0 = nxt cl g s := by
  rw [List.getD_eq_getElem?_getD, nextC, List.getElem?_map, List.getElem?_range hs]; rfl
theorem nextC_nrm (cl : List Int) (g : Gr) : NrmC (nextC cl g) := by
  intro s hs
  rw [nextC_len] at hs
  have h := nxt_spec cl g s
  refine ⟨nxt cl g s, nextC_at hs, h.1, ?_⟩
  rw [nextC_at (by omega), nxt_nxt]
def rts (cl : List Int) : Nat := (List.range cl.length).countP fun s => decide (cl.getD s 0 = (s : Int))
theorem countP_le (p q : Nat → Bool) : ∀ l : List Nat, (∀ x ∈ l, p x = true → q x = true) → l.countP p ≤ l.countP q ∧ (l.countP p = l.countP q → ∀ x ∈ l, q x = true → p x = true)
  | [], _ => ⟨Nat.le_refl _, fun _ x hx => by cases hx⟩
  | y :: l, h => by
    obtain ⟨h1, h2⟩ := countP_le p q l fun x hx => h x (List.mem_cons_of_mem _ hx)
    have hy := h y List.mem_cons_self
    simp only [List.countP_cons]
    cases ep : p y with
    | true =>
      have eq := hy ep
      simp only [eq, if_true]
      refine ⟨by omega, fun e x hx hq => ?_⟩
      rcases List.mem_cons.1 hx with rfl | hx
      · exact ep
      · exact h2 (by omega) x hx hq
    | false =>
      cases eq : q y with
      | true =>
        simp only [if_true, Bool.false_eq_true, if_false]
        exact ⟨by omega, fun e => by omega⟩
      | false =>
        simp only [Bool.false_eq_true, if_false]
        refine ⟨by omega, fun e x hx hq => ?_⟩
        rcases List.mem_cons.1 hx with rfl | hx
        · rw [eq] at hq; cases hq
        · exact h2 (by omega) x hx hq
theorem nxt_root {cl : List Int} {g : Gr} (hn : NrmC cl) (hl : cl.length = g.length) {s : Nat} (hs : s < g.length) (h : cl.getD s 0 = s) : nxt cl g s = s := by
  obtain ⟨a1, a2, _⟩ := nxt_spec cl g s
  obtain ⟨u, b1, b2, _⟩ := hn (nxt cl g s) (by omega)
  have := a2.1
  rw [b1, h] at this
  omega
theorem rts_grow {cl : List Int} {g : Gr} (hn : NrmC cl) (hl : cl.length = g.length) : rts cl ≤ rts (nextC cl g) ∧ (rts cl = rts (nextC cl g) → nextC cl g = cl) := by
  have hlen := nextC_len cl g
  have key := countP_le (fun s => decide (cl.getD s 0 = (s : Int))) (fun s => decide ((nextC cl g).getD s 0 = (s : Int))) (List.range g.length) (by
    intro s hs h
    have hs := List.mem_range.1 hs
    have h := of_decide_eq_true h
    rw [nextC_at hs, nxt_root hn hl hs h]; simp)
  unfold rts
  rw [hlen, hl]
  refine ⟨key.1, fun e => ?_⟩
  have k2 := key.2 e
  apply List.ext_getElem (by rw [hlen, hl])
  intro s h1 h2
  have hs : s < g.length := by omega
  have hsp := nxt_spec cl g s
  have e1 : (nextC cl g)[s] = nxt cl g s := by
    have := nextC_at (cl := cl) hs
    rwa [List.getD_eq_getElem?_getD, List.getElem?_eq_getElem h1, Option.getD_some] at this
  have e2 : cl[s] = cl.getD s 0 := by rw [List.getD_eq_getElem?_getD, List.getElem?_eq_getElem h2, Option.getD_some]
  have k3 := k2 (nxt cl g s) (List.mem_range.2 (by omega)) (by rw [nextC_at (by omega), nxt_nxt]; simp)
  have k3 := of_decide_eq_true k3
  rw [e1, e2, ← hsp.2.1.1, k3]
theorem rts_le (cl : List Int) : rts cl ≤ cl.length := by
  unfold rts
  exact Nat.le_trans List.countP_le_length (by simp)
theorem stops (g : Gr) : ∀ (f : Nat) (cl : List Int), NrmC cl → cl.length = g.length → g.length < f + rts cl → Stops g f cl
  | 0, cl, hn, hl, hf => by have := rts_le cl; omega
  | f + 1, cl, hn, hl, hf => by
    by_cases h : nextC cl g = cl
    · exact .inl h
    · have hg := rts_grow hn hl
      have hne : rts cl ≠ rts (nextC cl g) := fun e => h (hg.2 e)
      exact .inr (stops g f _ (nextC_nrm _ _) (nextC_len _ _) (by omega))
def zer (n : Nat) : List Int := List.replicate n 0
theorem zer_at (n s : Nat) : (zer n).getD s 0 = 0 := by
  unfold zer
  rw [List.getD_eq_getElem?_getD, List.getElem?_replicate]
  by_cases h : s < n <;> simp [h]
theorem zer_nrm (n : Nat) : NrmC (zer n) := fun s _ => ⟨0, by rw [zer_at]; rfl, Nat.zero_le _, by rw [zer_at]; rfl⟩
theorem zer_len (n : Nat) : (zer n).length = n := by simp [zer]
theorem stops0 (g : Gr) : Stops g (g.length + 1) (zer g.length) := stops g _ _ (zer_nrm _) (zer_len _) (by omega)
/-- The classes behind f rounds. -/
def itC (g : Gr) : Nat → List Int → List Int
  | 0, cl => cl
  | f + 1, cl => itC g f (nextC cl g)
theorem itC_fix (g : Gr) {cl : List Int} (h : nextC cl g = cl) : ∀ f, itC g f cl = cl
  | 0 => rfl
  | f + 1 => by show itC g f (nextC cl g) = cl; rw [h]; exact itC_fix g h f
theorem rnds_last (g : Gr) : ∀ (f : Nat) (R : List (List Int)) (cl : List Int), ∃ R', rnds g f R cl = R' ++ [itC g f cl] ∧ R'.length ≤ R.length + f
  | 0, R, cl => ⟨R, rfl, by omega⟩
  | f + 1, R, cl => by
    by_cases h : nextC cl g = cl
    · exact ⟨R, by rw [itC_fix g h]; simp [rnds, h], by omega⟩
    · obtain ⟨R', h1, h2⟩ := rnds_last g f (R ++ [cl]) (nextC cl g)
      exact ⟨R', by rw [rnds, if_neg h, h1]; rfl, by simp at h2; omega⟩
theorem itC_len (g : Gr) : ∀ (f : Nat) (cl : List Int), cl.length = g.length → (itC g f cl).length = g.length
  | 0, _, h => h
  | f + 1, cl, _ => itC_len g f _ (nextC_len _ _)
/-- The classes of a graph. -/
def clsG (g : Gr) : List Int := itC g (g.length + 1) (zer g.length)
theorem clsG_len (g : Gr) : (clsG g).length = g.length := itC_len g _ _ (zer_len _)
end Go.Am
end
