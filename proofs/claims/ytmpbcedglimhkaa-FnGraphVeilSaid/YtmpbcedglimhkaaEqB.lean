/- What the functions that the law reaches compute. -/
import Derived.Test.YtmpbcedglimhkaaEqA
section
set_option maxRecDepth 10000
set_option linter.unusedSimpArgs false
set_option linter.unusedVariables false
namespace Go.Am
open Go.Proofs Go.Sort Go.Shelf
theorem eqNaN (a : Int) : callI G 116 [.i a] [] = some (.b false, []) := by
  rw [callI_eq]
  simp [body1_eq _ _ (gp 116) g116, c116, a116]
theorem eqCmp (a b : Int) : callI G 103 [.i a, .i b] [] = some (.i (cmpI a b), []) := by
  have h1 := eqNaN a
  have h2 := eqNaN b
  rw [callI_eq]
  unfold cmpI
  by_cases c1 : a < b
  · simp [body1_eq _ _ (gp 103) g103, c103, a103, h1, h2, c1]
  · by_cases c2 : b < a
    · simp [body1_eq _ _ (gp 103) g103, c103, a103, h1, h2, c1, c2]
    · simp [body1_eq _ _ (gp 103) g103, c103, a103, h1, h2, c1, c2]
theorem eqByMove (x y : Int × Int) : callI G 89 [mvP x, mvP y] [] = some (.i (cmpM x y), []) := by
  have h1 := eqCmp x.1 y.1
  have h2 := eqCmp x.2 y.2
  rw [callI_eq]
  unfold cmpM
  by_cases c1 : cmpI x.1 y.1 = 0
  · simp [body1_eq _ _ (gp 89) g89, c89, a89, mvP, h1, h2, c1]
  · simp [body1_eq _ _ (gp 89) g89, c89, a89, mvP, h1, h2, c1]
theorem cmpM_ge (x y : Mv) : decide (0 ≤ cmpM x y) = !ltM x y := by
  unfold ltM ltOf
  by_cases h : cmpM x y < 0
  · have : ¬ 0 ≤ cmpM x y := by omega
    simp [h, this]
  · have : 0 ≤ cmpM x y := by omega
    simp [h, this]
theorem eqLess (x y : Mv) : callI G 90 [mvP x, mvP y] [] = some (.b (ltM x y), []) := by
  rw [callI_eq]
  have h : ltM x y = (decide (x.1 < y.1) || decide (x.1 = y.1) && decide (x.2 < y.2)) := by
    have := ltM_iff x y
    cases e : ltM x y with
    | true => have := this.1 e; rcases this with h | ⟨h1, h2⟩ <;> simp [*]
    | false =>
      have h3 := (ltM_false x y).1 e
      have : ¬ x.1 < y.1 := by omega
      by_cases c : x.1 = y.1
      · have : ¬ x.2 < y.2 := by omega
        simp [*]
      · simp [*]
  rw [h]
  by_cases c1 : x.1 < y.1
  · simp [body1_eq _ _ (gp 90) g90, c90, a90, mvP, c1]
  · by_cases c2 : x.1 = y.1
    · simp [body1_eq _ _ (gp 90) g90, c90, a90, mvP, c1, c2]
    · simp [body1_eq _ _ (gp 90) g90, c90, a90, mvP, c1, c2]
theorem l6In (n a b : Int) : callI G 60 [.i n, .i a, .i b] [] = some (.b (decide (a ≤ n) && decide (n ≤ b)), []) := by
  rw [callI_eq]
  by_cases h : a ≤ n <;> simp [body1_eq _ _ (gp 60) g60, c60, a60, h]
def actOk (a : Int) : Bool := decide (-4 ≤ a) && decide (a ≤ 4)
theorem eqActS (a : Int) : callI G 76 [.i a] [] = some (.b (actOk a), []) := by
  have h := l6In a (-4) 4
  rw [callI_eq]
  unfold actOk
  simp [body1_eq _ _ (gp 76) g76, c76, a76, h]
theorem eqActI (a : Int) : callI G 74 [.i a] [] = some (.b (actOk a), []) := by
  rw [callI_eq]
  unfold actOk
  by_cases h : -4 ≤ a <;> simp [body1_eq _ _ (gp 74) g74, c74, a74, h]
def mvOk (n : Nat) (m : Mv) : Bool := actOk m.1 && (decide (0 ≤ m.2) && decide (m.2 < n))
def prevOk : Option Mv → Mv → Bool
  | none, _ => true
  | some p, m => ltM p m
def rowOk (n : Nat) : Option Mv → List Mv → Bool
  | _, [] => true
  | p, m :: l => mvOk n m && (prevOk p m && rowOk n (some m) l)
def grOk (g : Gr) : Bool := decide (1 ≤ g.length) && (decide (g.length ≤ 60) && g.all (rowOk g.length none))
theorem last_cases (d : List Mv) : (d = [] ∧ d.getLast? = none) ∨ ∃ d' p, d = d' ++ [p] ∧ d.getLast? = some p := by
  rcases List.eq_nil_or_concat d with h | ⟨d', p, h⟩
  · exact .inl ⟨h, by rw [h]; rfl⟩
  · exact .inr ⟨d', p, by simpa using h, by rw [h]; simp⟩
/-! impl.GraphOk -/
theorem loopOkI0 (g : Gr) (T : PV) (hT : ∀ f n, known f n T = true) (i m : Int) : ∀ (rest done : List Mv), (done ++ rest).length ≤ 9223372036854775807 → g.length ≤ 60 →
    ∃ r, loopI G [1, 4, 18, 19, 20, 24, 25, 26] [1] c44l0 ⟨[(1, .ref (0, 1) 1 0 0), (4, .sl false 2 ((done ++ rest).map mvP)), (18, T), (19, .i m), (20, .i i), (24, .sl false 2 ((done ++ rest).map mvP)), (25, .i (done ++ rest).length), (26, .i done.length)], [(1, .box [PV.sl false 1 (encGs false false g)])], []⟩ = some r ∧
      ((rowOk g.length done.getLast? rest = false ∧ r = (.ret, ⟨[(2, .b false)], [], []⟩)) ∨ (rowOk g.length done.getLast? rest = true ∧ r = (.exit 2, ⟨[(1, .ref (0, 1) 1 0 0), (4, .sl false 2 ((done ++ rest).map mvP)), (18, T), (19, .i m), (20, .i i), (24, .sl false 2 ((done ++ rest).map mvP)), (25, .i (done ++ rest).length), (26, .i (done ++ rest).length), (27, .b false)], [(1, .box [PV.sl false 1 (encGs false false g)])], []⟩)))
  | [], done, h, hg => by
    rw [loopI_eq]
    refine ⟨_, ?_, .inr ⟨rfl, rfl⟩⟩
    simp [r44l0, b44l0, hT]
  | x :: rest, done, h, hg => by
    have hlt : (done.length : Int) < (done.length : Int) + ((rest.length : Int) + 1) := by omega
    have hw : IntKind.i64.wrap ((done.length : Int) + 1) = (done.length : Int) + 1 := wr (by simp at h; omega)
    have hat := mv_at done x rest
    have ha := eqActI x.1
    obtain ⟨r, hn, hr⟩ := loopOkI0 g T hT i m rest (done ++ [x]) (by simpa using h) hg
    have hgl : (done ++ [x]).getLast? = some x := by simp
    rw [hgl] at hr
    simp only [List.append_assoc, List.cons_append, List.nil_append, List.length_append, List.length_cons, List.length_nil, Int.natCast_add, show ((0 + 1 : Nat) : Int) = 1 from rfl, show ((1 : Nat) : Int) = 1 from rfl, List.map_append, List.map_cons, mvP] at hn hr hat
    rw [loopI_eq]
    by_cases h1 : actOk x.1 = true
    · by_cases h2 : x.2 < 0
      · refine ⟨_, ?_, .inl ⟨?_, rfl⟩⟩
        · simp [r44l0, b44l0, hT, hlt, hat, mvP, ha, h1, h2]
        · have : ¬ 0 ≤ x.2 := by omega
          simp [rowOk, mvOk, this]
      · by_cases h3 : (g.length : Int) ≤ x.2
        · refine ⟨_, ?_, .inl ⟨?_, rfl⟩⟩
          · simp [r44l0, b44l0, hT, hlt, hat, mvP, ha, h1, h2, h3]
          · have : ¬ x.2 < g.length := by omega
            simp [rowOk, mvOk, this]
        · have h2' : 0 ≤ x.2 := by omega
          have h3' : x.2 < g.length := by omega
          have hm : mvOk g.length x = true := by simp [mvOk, h1, h2', h3']
          rcases last_cases done with ⟨hd, hl⟩ | ⟨d', p, hd, hl⟩
          · subst hd
            simp only [List.length_nil, List.nil_append, show ((0 : Nat) : Int) = 0 from rfl, List.map_nil, Int.zero_add] at hn hat hlt hw hr ⊢
            refine ⟨r, ?_, ?_⟩
            · simp [r44l0, b44l0, hT, hlt, hat, mvP, ha, h1, h2, h3, hw]
              simpa [mvP] using hn
            · rcases hr with ⟨q1, q2⟩ | ⟨q1, q2⟩
              · exact .inl ⟨by simp [rowOk, prevOk, q1], q2⟩
              · exact .inr ⟨by simp [rowOk, prevOk, q1, hm], by simpa [mvP] using q2⟩
          · have hb := eqByMove p x
            have hge := cmpM_ge p x
            have hdl : (done.length : Int) = (d'.length : Int) + 1 := by rw [hd]; simp
            have hpos : 0 < (done.length : Int) := by omega
            have hne : done ≠ [] := by rw [hd]; simp
            have hwm : IntKind.i64.wrap ((done.length : Int) - 1) = d'.length := by rw [hdl, wr (by simp at h; omega)]; omega
            have hat2 : nth (done.map mvP ++ mvP x :: rest.map mvP) d'.length = some (mvP p) := by
              rw [hd]; simp only [List.map_append, List.map_cons, List.map_nil, List.append_assoc, List.cons_append, List.nil_append]
              exact at_D _ _ _ _ (by simp)
            have hlt2 : (d'.length : Int) < (done.length : Int) + ((rest.length : Int) + 1) := by omega
            simp only [mvP] at hb hat2
            cases hv : ltM p x with
            | false =>
              rw [hv] at hge
              have hge' : 0 ≤ cmpM p x := by simpa using hge
              refine ⟨_, ?_, .inl ⟨by rw [hl]; simp [rowOk, prevOk, hv], rfl⟩⟩
              simp [r44l0, b44l0, hT, hlt, hat, mvP, ha, h1, h2, h3, hpos, hwm, hat2, hlt2, hb, hge', hne]
            | true =>
              rw [hv] at hge
              have hge' : ¬ 0 ≤ cmpM p x := by simpa using hge
              refine ⟨r, ?_, ?_⟩
              · simp [r44l0, b44l0, hT, hlt, hat, mvP, ha, h1, h2, h3, hpos, hwm, hat2, hlt2, hb, hge', hw, hne]
                simpa [mvP] using hn
              · rw [hl]
                rcases hr with ⟨q1, q2⟩ | ⟨q1, q2⟩
                · exact .inl ⟨by simp [rowOk, prevOk, q1], q2⟩
                · exact .inr ⟨by simp [rowOk, prevOk, q1, hm, hv], by simpa [mvP] using q2⟩
    · have h1' : actOk x.1 = false := by simpa using h1
      refine ⟨_, ?_, .inl ⟨by simp [rowOk, mvOk, h1'], rfl⟩⟩
      simp [r44l0, b44l0, hT, hlt, hat, mvP, ha, h1']
theorem loopOkI1 (g : Gr) (hf : FitG g) (hg : g.length ≤ 60) : ∀ (rest done : Gr), g = done ++ rest →
    ∃ r, loopI G [1, 18, 19, 20] [1] c44l1 ⟨[(1, .ref (0, 1) 1 0 0), (18, .sl false 1 (encGs false false g)), (19, .i g.length), (20, .i done.length)], [(1, .box [PV.sl false 1 (encGs false false g)])], []⟩ = some r ∧
      ((rest.all (rowOk g.length none) = false ∧ r = (.ret, ⟨[(2, .b false)], [], []⟩)) ∨ (rest.all (rowOk g.length none) = true ∧ ∃ s, r = (.exit 0, s) ∧ s.o = [] ∧ s.l = [(1, .box [PV.sl false 1 (encGs false false g)])]))
  | [], done, h => by
    rw [loopI_eq]
    have : done.length = g.length := by rw [h]; simp
    refine ⟨(.exit 0, ⟨[(1, .ref (0, 1) 1 0 0), (18, .sl false 1 (encGs false false g)), (19, .i g.length), (20, .i g.length), (21, .b false)], [(1, .box [PV.sl false 1 (encGs false false g)])], []⟩), ?_, .inr ⟨rfl, _, rfl, rfl, rfl⟩⟩
    simp [r44l1, b44l1, this]
  | l :: rest, done, h => by
    have hlt : (done.length : Int) < g.length := by rw [h]; simp; omega
    have hw : IntKind.i64.wrap ((done.length : Int) + 1) = (done.length : Int) + 1 := wr (by omega)
    have hat : nth (encGs false false g) done.length = some (.sl false 2 (l.map mvP)) := by rw [h]; exact gr_at false false done l rest
    have hll : l.length ≤ 9223372036854775807 := hf.2 l (by rw [h]; simp)
    obtain ⟨r0, h0, hr0⟩ := loopOkI0 g (.sl false 1 (encGs false false g)) (by intro f n; rfl) done.length g.length l [] (by simpa using hll) hg
    obtain ⟨r, hn, hr⟩ := loopOkI1 g hf hg rest (done ++ [l]) (by rw [h]; simp)
    simp only [List.nil_append, List.length_nil, show ((0 : Nat) : Int) = 0 from rfl, List.getLast?_nil] at h0 hr0
    rw [loopI_eq]
    rcases hr0 with ⟨q1, q2⟩ | ⟨q1, q2⟩
    · subst q2
      refine ⟨_, ?_, .inl ⟨by simp [q1], rfl⟩⟩
      simp [r44l1, b44l1, hlt, hat, h0]
    · subst q2
      refine ⟨r, ?_, ?_⟩
      · simp [r44l1, b44l1, hlt, hat, h0, hw]
        simpa using hn
      · rcases hr with ⟨p1, p2⟩ | ⟨p1, p2⟩
        · exact .inl ⟨by simp only [List.all_cons, p1, Bool.and_false], p2⟩
        · exact .inr ⟨by simp only [List.all_cons, p1, q1, Bool.and_true], p2⟩
theorem eqOkI (g : Gr) (hf : FitG g) : callI G 44 [encG false false g] [] = some (.b (grOk g), []) := by
  rw [callI_eq]
  unfold grOk
  by_cases h1 : (g.length : Int) < 1
  · have : ¬ 1 ≤ g.length := by omega
    simp [body1_eq _ _ (gp 44) g44, c44, a44, h1, this]
  · have h1' : 1 ≤ g.length := by omega
    by_cases h2 : (60 : Int) < g.length
    · have : ¬ g.length ≤ 60 := by omega
      simp [body1_eq _ _ (gp 44) g44, c44, a44, h1, h2, this]
    · have h2' : g.length ≤ 60 := by omega
      obtain ⟨r, hl, hr⟩ := loopOkI1 g hf h2' g [] rfl
      simp only [List.length_nil, show ((0 : Nat) : Int) = 0 from rfl, encM_f] at hl hr
      rcases hr with ⟨p1, p2⟩ | ⟨p1, s, p2, p3, p4⟩
      · subst p2
        simp only [p1]
        simp [body1_eq _ _ (gp 44) g44, c44, a44, h1, h2, hl]
      · subst p2
        obtain ⟨sr, sl, so⟩ := s
        simp only at p3 p4
        subst p3 p4
        simp only [p1]
        simp [body1_eq _ _ (gp 44) g44, c44, a44, h1, h2, h1', h2', hl]
end Go.Am
end
section
set_option maxRecDepth 10000
set_option linter.unusedSimpArgs false
set_option linter.unusedVariables false
namespace Go.Am
open Go.Proofs Go.Sort Go.Shelf
/-! spec.GraphOk -/
theorem loopOkS0 (g : Gr) (D : Nat) (hD : D < g.length) (hg : g.length ≤ 60) : ∀ (rest done : List Mv), nth (encGs false false g) D = some (.sl false 2 ((done ++ rest).map mvP)) → (done ++ rest).length ≤ 9223372036854775807 →
    ∃ r, loopI G [1, 3, 4] [1] c47l0 ⟨[(1, .ref (0, 1) 1 0 0), (3, .i D), (4, .i done.length)], [(1, .box [PV.sl false 1 (encGs false false g)])], []⟩ = some r ∧
      ((rowOk g.length done.getLast? rest = false ∧ r = (.ret, ⟨[(2, .b false)], [], []⟩)) ∨ (rowOk g.length done.getLast? rest = true ∧ r = (.exit 2, ⟨[(1, .ref (0, 1) 1 0 0), (3, .i D), (4, .i (done ++ rest).length), (25, .b false)], [(1, .box [PV.sl false 1 (encGs false false g)])], []⟩)))
  | [], done, hn, h => by
    have hlt : (D : Int) < g.length := by omega
    rw [loopI_eq]
    refine ⟨_, ?_, .inr ⟨rfl, rfl⟩⟩
    simp only [List.append_nil] at hn
    simp [r47l0, b47l0, hlt, hn]
  | x :: rest, done, hnD, h => by
    have hltD : (D : Int) < g.length := by omega
    have hlt : (done.length : Int) < (done.length : Int) + ((rest.length : Int) + 1) := by omega
    have hw : IntKind.i64.wrap ((done.length : Int) + 1) = (done.length : Int) + 1 := wr (by simp at h; omega)
    have hwg : IntKind.i64.wrap ((g.length : Int) - 1) = (g.length : Int) - 1 := wr (by omega)
    have hat := mv_at done x rest
    have ha := eqActS x.1
    have h6 := l6In x.2 0 ((g.length : Int) - 1)
    obtain ⟨r, hn, hr⟩ := loopOkS0 g D hD hg rest (done ++ [x]) (by simpa using hnD) (by simpa using h)
    have hgl : (done ++ [x]).getLast? = some x := by simp
    rw [hgl] at hr
    simp only [List.append_assoc, List.cons_append, List.nil_append, List.length_append, List.length_cons, List.length_nil, Int.natCast_add, show ((0 + 1 : Nat) : Int) = 1 from rfl, show ((1 : Nat) : Int) = 1 from rfl, List.map_append, List.map_cons, mvP] at hn hr hat hnD
    rw [loopI_eq]
    by_cases h1 : actOk x.1 = true
    · have h6b : (decide (0 ≤ x.2) && decide (x.2 ≤ (g.length : Int) - 1)) = (decide (0 ≤ x.2) && decide (x.2 < g.length)) := by
        congr 1
        exact decide_eq_decide.2 (by omega)
      rw [h6b] at h6
      by_cases h2 : (decide (0 ≤ x.2) && decide (x.2 < g.length)) = true
      · rw [h2] at h6
        have hm : mvOk g.length x = true := by unfold mvOk; rw [h1, h2]; rfl
        rcases last_cases done with ⟨hd, hl⟩ | ⟨d', p, hd, hl⟩
        · subst hd
          simp only [List.length_nil, List.nil_append, show ((0 : Nat) : Int) = 0 from rfl, List.map_nil, Int.zero_add] at hn hat hlt hw hr hnD ⊢
          refine ⟨r, ?_, ?_⟩
          · simp [r47l0, b47l0, hltD, hnD, hlt, hat, mvP, ha, h1, h6, hw, hwg]
            simpa [mvP] using hn
          · rcases hr with ⟨q1, q2⟩ | ⟨q1, q2⟩
            · exact .inl ⟨by simp [rowOk, prevOk, q1], q2⟩
            · exact .inr ⟨by simp [rowOk, prevOk, q1, hm], by simpa [mvP] using q2⟩
        · have hb := eqLess p x
          have hdl : (done.length : Int) = (d'.length : Int) + 1 := by rw [hd]; simp
          have hpos : 0 < (done.length : Int) := by omega
          have hne : done ≠ [] := by rw [hd]; simp
          have hwm : IntKind.i64.wrap ((done.length : Int) - 1) = d'.length := by rw [hdl, wr (by simp at h; omega)]; omega
          have hat2 : nth (done.map mvP ++ mvP x :: rest.map mvP) d'.length = some (mvP p) := by
            rw [hd]; simp only [List.map_append, List.map_cons, List.map_nil, List.append_assoc, List.cons_append, List.nil_append]
            exact at_D _ _ _ _ (by simp)
          have hlt2 : (d'.length : Int) < (done.length : Int) + ((rest.length : Int) + 1) := by omega
          simp only [mvP] at hb hat2
          cases hv : ltM p x with
          | false =>
            rw [hv] at hb
            refine ⟨_, ?_, .inl ⟨by rw [hl]; simp [rowOk, prevOk, hv], rfl⟩⟩
            simp [r47l0, b47l0, hltD, hnD, hlt, hat, mvP, ha, h1, h6, hwg, hpos, hne, hwm, hat2, hlt2, hb]
          | true =>
            rw [hv] at hb
            refine ⟨r, ?_, ?_⟩
            · simp [r47l0, b47l0, hltD, hnD, hlt, hat, mvP, ha, h1, h6, hwg, hpos, hne, hwm, hat2, hlt2, hb, hw]
              simpa [mvP] using hn
            · rw [hl]
              rcases hr with ⟨q1, q2⟩ | ⟨q1, q2⟩
              · exact .inl ⟨by simp [rowOk, prevOk, q1], q2⟩
              · exact .inr ⟨by simp [rowOk, prevOk, q1, hm, hv], by simpa [mvP] using q2⟩
      · have h2' : (decide (0 ≤ x.2) && decide (x.2 < g.length)) = false := by simpa using h2
        rw [h2'] at h6
        refine ⟨_, ?_, .inl ⟨by simp only [rowOk, mvOk, h2', Bool.and_false, Bool.false_and], rfl⟩⟩
        simp [r47l0, b47l0, hltD, hnD, hlt, hat, mvP, ha, h1, h6, hwg]
    · have h1' : actOk x.1 = false := by simpa using h1
      refine ⟨_, ?_, .inl ⟨by simp [rowOk, mvOk, h1'], rfl⟩⟩
      simp [r47l0, b47l0, hltD, hnD, hlt, hat, mvP, ha, h1']
theorem loopOkS1 (g : Gr) (hf : FitG g) (hg : g.length ≤ 60) : ∀ (rest done : Gr), g = done ++ rest →
    ∃ r, loopI G [1, 3] [1] c47l1 ⟨[(1, .ref (0, 1) 1 0 0), (3, .i done.length)], [(1, .box [PV.sl false 1 (encGs false false g)])], []⟩ = some r ∧
      ((rest.all (rowOk g.length none) = false ∧ r = (.ret, ⟨[(2, .b false)], [], []⟩)) ∨ (rest.all (rowOk g.length none) = true ∧ ∃ s, r = (.exit 0, s) ∧ s.o = [] ∧ s.l = [(1, .box [PV.sl false 1 (encGs false false g)])]))
  | [], done, h => by
    rw [loopI_eq]
    have : done.length = g.length := by rw [h]; simp
    refine ⟨(.exit 0, ⟨[(1, .ref (0, 1) 1 0 0), (3, .i g.length), (15, .b false)], [(1, .box [PV.sl false 1 (encGs false false g)])], []⟩), ?_, .inr ⟨rfl, _, rfl, rfl, rfl⟩⟩
    simp [r47l1, b47l1, this]
  | l :: rest, done, h => by
    have hD : done.length < g.length := by rw [h]; simp
    have hlt : (done.length : Int) < g.length := by omega
    have hw : IntKind.i64.wrap ((done.length : Int) + 1) = (done.length : Int) + 1 := wr (by omega)
    have hat : nth (encGs false false g) done.length = some (.sl false 2 (l.map mvP)) := by rw [h]; exact gr_at false false done l rest
    have hll : l.length ≤ 9223372036854775807 := hf.2 l (by rw [h]; simp)
    obtain ⟨r0, h0, hr0⟩ := loopOkS0 g done.length hD hg l [] (by simpa using hat) (by simpa using hll)
    obtain ⟨r, hn, hr⟩ := loopOkS1 g hf hg rest (done ++ [l]) (by rw [h]; simp)
    simp only [List.nil_append, List.length_nil, show ((0 : Nat) : Int) = 0 from rfl, List.getLast?_nil] at h0 hr0
    rw [loopI_eq]
    rcases hr0 with ⟨q1, q2⟩ | ⟨q1, q2⟩
    · subst q2
      refine ⟨_, ?_, .inl ⟨by simp [q1], rfl⟩⟩
      simp [r47l1, b47l1, hlt, h0]
    · subst q2
      refine ⟨r, ?_, ?_⟩
      · simp [r47l1, b47l1, hlt, h0, hw]
        simpa using hn
      · rcases hr with ⟨p1, p2⟩ | ⟨p1, p2⟩
        · exact .inl ⟨by simp only [List.all_cons, p1, Bool.and_false], p2⟩
        · exact .inr ⟨by simp only [List.all_cons, p1, q1, Bool.and_true], p2⟩
theorem eqOkS (g : Gr) (hf : FitG g) : callI G 47 [encG false false g] [] = some (.b (grOk g), []) := by
  rw [callI_eq]
  unfold grOk
  have h6 := l6In g.length 1 60
  by_cases h1 : (1 : Int) ≤ g.length
  · have h1' : 1 ≤ g.length := by omega
    by_cases h2 : (g.length : Int) ≤ 60
    · have h2' : g.length ≤ 60 := by omega
      rw [decide_eq_true h1, decide_eq_true h2] at h6
      obtain ⟨r, hl, hr⟩ := loopOkS1 g hf h2' g [] rfl
      simp only [List.length_nil, show ((0 : Nat) : Int) = 0 from rfl, encM_f] at hl hr
      rcases hr with ⟨p1, p2⟩ | ⟨p1, s, p2, p3, p4⟩
      · subst p2
        simp only [p1]
        simp [body1_eq _ _ (gp 47) g47, c47, a47, h6, hl]
      · subst p2
        obtain ⟨sr, sl, so⟩ := s
        simp only at p3 p4
        subst p3 p4
        simp only [p1]
        simp [body1_eq _ _ (gp 47) g47, c47, a47, h6, h1', h2', hl]
    · have : ¬ g.length ≤ 60 := by omega
      rw [decide_eq_false h2] at h6
      simp [body1_eq _ _ (gp 47) g47, c47, a47, h6, this]
  · have : ¬ 1 ≤ g.length := by omega
    rw [decide_eq_false h1] at h6
    simp [body1_eq _ _ (gp 47) g47, c47, a47, h6, this]
end Go.Am
end
section
set_option maxRecDepth 10000
set_option linter.unusedSimpArgs false
set_option linter.unusedVariables false
namespace Go.Am
open Go.Proofs Go.Sort Go.Shelf
/-- Without neighbours that are the same. -/
def ddup : Mv → List Mv → List Mv
  | _, [] => []
  | p, x :: l => if x = p then ddup p l else x :: ddup x l
def dd : List Mv → List Mv
  | [] => []
  | x :: l => x :: ddup x l
theorem ddup_len : ∀ (p : Mv) (l : List Mv), (ddup p l).length ≤ l.length
  | _, [] => Nat.le_refl _
  | p, x :: l => by
    simp only [ddup]
    split
    · have := ddup_len p l; simp; omega
    · have := ddup_len x l; simp; omega
theorem loopCp0 (id : Id) (N : Nat) (k0 : Nat) : ∀ (rest W M : List Mv) (p : Mv) (o : Stack), id.1 < o.length → getS o id = some (.row 2 ((W ++ (M ++ p :: rest)).map mvP)) → N = W.length + M.length + 1 + rest.length → N ≤ 4611686018427387904 → ∀ k2 : Nat, 1 ≤ k2 → k0 + k2 = W.length + M.length + 1 →
    ∃ Z : List Mv, Z.length = N - (W ++ ddup p rest).length ∧ loopI G [0, 3, 4, 5] [28] c97l0 ⟨[(0, .own id N), (3, .i W.length), (4, .sub id N k0), (5, .i k2)], [], o⟩ =
      some (.exit 2, ⟨[(0, .own id N), (3, .i (W ++ ddup p rest).length), (4, .sub id N k0), (5, .i (k2 + rest.length)), (32, .b false)], [], setS o id (.row 2 (((W ++ ddup p rest) ++ Z).map mvP))⟩)
  | [], W, M, p, o, hid, hg, hN, hNN, k2, hk2, hk => by
    have hne : ¬ id.1 = o.length := by omega
    refine ⟨M ++ [p], by simp [ddup]; simp at hN; omega, ?_⟩
    have e2 : setS o id (.row 2 (((W ++ ddup p []) ++ (M ++ [p])).map mvP)) = o := setS_same o id _ (by simpa [ddup] using hg)
    rw [e2, loopI_eq]
    have hget : ∀ r l, St.get ⟨r, l, o⟩ id = some (.row 2 ((W ++ (M ++ [p])).map mvP)) := fun r l => by rw [get_low hid, hg]
    have hl : N = W.length + (M.length + 1) := by simp at hN; omega
    have hsub : N - k0 = k2 := by simp at hN; omega
    simp [-St.get, -St.set, r97l0, b97l0, hne, hget, ← hl, hsub, ddup]
  | x :: rest, W, M, p, o, hid, hg, hN, hNN, k2, hk2, hk => by
    simp only [List.length_cons] at hN
    have hne : ¬ id.1 = o.length := by omega
    have hget : ∀ r l, St.get ⟨r, l, o⟩ id = some (.row 2 ((W ++ (M ++ p :: x :: rest)).map mvP)) := fun r l => by rw [get_low hid, hg]
    have hset : ∀ r l R, St.set ⟨r, l, o⟩ id R = ⟨r, l, setS o id R⟩ := fun r l R => set_low hid
    have hget2 : ∀ r l R, St.get ⟨r, l, setS o id R⟩ id = some R := fun r l R => by rw [get_low (by rw [setS_len]; exact hid), getS_setS hid]
    have hl : W.length + (M.length + (rest.length + 1 + 1)) = N := by omega
    have hlt : (k2 : Int) < ((N - k0 : Nat) : Int) := by omega
    have hlt2 : (k2 : Int) - 1 < ((N - k0 : Nat) : Int) := by omega
    have hge : (0 : Int) ≤ (k2 : Int) - 1 := by omega
    have htn : ((k2 : Int) - 1).toNat = k2 - 1 := by omega
    have hw : IntKind.i64.wrap ((k2 : Int) + 1) = (k2 : Int) + 1 := wr (by omega)
    have hw1 : IntKind.i64.wrap ((k2 : Int) - 1) = (k2 : Int) - 1 := wr (by omega)
    have hwW : IntKind.i64.wrap ((W.length : Int) + 1) = (W.length : Int) + 1 := wr (by omega)
    have hat : nth (W.map mvP ++ (M.map mvP ++ mvP p :: mvP x :: rest.map mvP)) (k0 + k2) = some (mvP x) := by
      have := at_D ((W ++ (M ++ [p])).map mvP) (mvP x) (rest.map mvP) (k0 + k2) (by simp; omega)
      simpa using this
    have hat1 : nth (W.map mvP ++ (M.map mvP ++ mvP p :: mvP x :: rest.map mvP)) (k0 + (k2 - 1)) = some (mvP p) := by
      have := at_D ((W ++ M).map mvP) (mvP p) ((x :: rest).map mvP) (k0 + (k2 - 1)) (by simp; omega)
      simpa using this
    have hlW : (W.length : Int) < N := by omega
    have hk1 : (1 : Int) ≤ k2 := by omega
    by_cases he : x = p
    · subst he
      obtain ⟨Z, hZ, hn⟩ := loopCp0 id N k0 rest W (M ++ [x]) x o hid (by simpa using hg) (by simp; omega) hNN (k2 + 1) (by omega) (by simp; omega)
      refine ⟨Z, by simpa [ddup] using hZ, ?_⟩
      simp only [Int.natCast_add, show ((1 : Nat) : Int) = 1 from rfl] at hn
      rw [loopI_eq]
      simp only [mvP] at hat hat1
      simp [-St.get, -St.set, r97l0, b97l0, mvP, hne, hget, hl, hk1, hlt, hlt2, hge, htn, hw, hw1, hat, hat1]
      simpa [ddup, Int.add_assoc, Int.add_comm 1] using hn
    · obtain ⟨M', hM', hrow⟩ : ∃ M' : List Mv, M'.length = M.length ∧ (W.map mvP ++ (M.map mvP ++ mvP p :: mvP x :: rest.map mvP)).set W.length (mvP x) = ((W ++ [x]) ++ (M' ++ x :: rest)).map mvP := by
        cases M with
        | nil =>
          refine ⟨[], rfl, ?_⟩
          rw [List.map_nil, List.nil_append, List.set_append_right _ _ (by simp)]
          simp
        | cons m M0 =>
          refine ⟨M0 ++ [p], by simp, ?_⟩
          rw [List.set_append_right _ _ (by simp)]
          simp
      have hatW : ∃ e, nth (W.map mvP ++ (M.map mvP ++ mvP p :: mvP x :: rest.map mvP)) W.length = some (mvP e) := by
        cases M with
        | nil => exact ⟨p, by have := at_D (W.map mvP) (mvP p) (mvP x :: rest.map mvP) W.length (by simp); simpa using this⟩
        | cons m M0 => exact ⟨m, by have := at_D (W.map mvP) (mvP m) (M0.map mvP ++ mvP p :: mvP x :: rest.map mvP) W.length (by simp); simpa using this⟩
      obtain ⟨e, hatW⟩ := hatW
      obtain ⟨Z, hZ, hn⟩ := loopCp0 id N k0 rest (W ++ [x]) M' x (setS o id (.row 2 (((W ++ [x]) ++ (M' ++ x :: rest)).map mvP))) (by rw [setS_len]; exact hid) (by rw [getS_setS hid]) (by simp; omega) hNN (k2 + 1) (by omega) (by simp; omega)
      rw [setS_setS] at hn
      have hdd : W ++ ddup p (x :: rest) = (W ++ [x]) ++ ddup x rest := by simp [ddup, he]
      refine ⟨Z, by rw [hdd]; exact hZ, ?_⟩
      rw [hdd]
      simp only [Int.natCast_add, show ((1 : Nat) : Int) = 1 from rfl] at hn
      rw [loopI_eq]
      have hxp : ¬ (x.1 = p.1 ∧ x.2 = p.2) := fun h => he (Prod.ext h.1 h.2)
      have hdec : (decide (x.1 = p.1) && decide (x.2 = p.2)) = false := by
        rw [← Bool.decide_and]; exact decide_eq_false hxp
      simp only [mvP] at hat hat1 hatW hrow
      simp [-St.get, -St.set, r97l0, b97l0, mvP, hne, hget, hset, hl, hk1, hlt, hlt2, hge, htn, hw, hw1, hwW, hat, hat1, hatW, hdec, hlW, unAgg, hrow, setS_len]
      simpa [mvP, Int.add_assoc, Int.add_comm 1, setS_len] using hn
theorem loopCp1 (id : Id) (N : Nat) : ∀ (rest done : List Mv) (p : Mv) (o : Stack), id.1 < o.length → getS o id = some (.row 2 ((done ++ p :: rest).map mvP)) → N = done.length + 1 + rest.length → N ≤ 4611686018427387904 →
    (ddup p rest = rest ∧ loopI G [0, 3] [] c97l1 ⟨[(0, .own id N), (3, .i (done.length + 1))], [], o⟩ = some (.exit 0, ⟨[(0, .own id N), (3, .i N), (13, .b false)], [], o⟩)) ∨
    loopI G [0, 3] [] c97l1 ⟨[(0, .own id N), (3, .i (done.length + 1))], [], o⟩ = some (.ret, ⟨[(2, .own (o.length, 59) (done ++ p :: ddup p rest).length)], [(59, .row 2 ((done ++ p :: ddup p rest).map mvP))], setS o id .dead⟩)
  | [], done, p, o, hid, hg, hN, hNN => by
    refine .inl ⟨rfl, ?_⟩
    have hl : (done.length : Int) + 1 = N := by simp at hN; omega
    have hne : ¬ id.1 = o.length := by omega
    have hget : ∀ r l, St.get ⟨r, l, o⟩ id = some (.row 2 ((done ++ [p]).map mvP)) := fun r l => by rw [get_low hid, hg]
    have hln : N = done.length + 1 := by simpa using hN
    rw [hl, loopI_eq]
    simp [-St.get, -St.set, r97l1, b97l1, hne, hget, ← hln]
  | x :: rest, done, p, o, hid, hg, hN, hNN => by
    simp only [List.length_cons] at hN
    have hne : ¬ id.1 = o.length := by omega
    have hget : ∀ r l, St.get ⟨r, l, o⟩ id = some (.row 2 ((done ++ p :: x :: rest).map mvP)) := fun r l => by rw [get_low hid, hg]
    have hset : ∀ r l R, St.set ⟨r, l, o⟩ id R = ⟨r, l, setS o id R⟩ := fun r l R => set_low hid
    have hget2 : ∀ r l R, St.get ⟨r, l, setS o id R⟩ id = some R := fun r l R => by rw [get_low (by rw [setS_len]; exact hid), getS_setS hid]
    have hlt : (done.length : Int) + 1 < N := by omega
    have hw : IntKind.i64.wrap ((done.length : Int) + 1 + 1) = (done.length : Int) + 1 + 1 := wr (by omega)
    have hw2 : IntKind.i64.wrap ((done.length : Int) + 2) = (done.length : Int) + 2 := wr (by omega)
    have hw1 : IntKind.i64.wrap ((done.length : Int) + 1 - 1) = (done.length : Int) := by rw [wr (by omega)]; omega
    have hw3 : IntKind.i64.wrap (done.length : Int) = (done.length : Int) := wr (by omega)
    have hlt0 : (done.length : Int) < N := by omega
    have hge0 : (0 : Int) ≤ (done.length : Int) + 1 := by omega
    have hle : (done.length : Int) + 1 ≤ N := by omega
    have hl : done.length + (rest.length + 1 + 1) = N := by omega
    have hat : nth (done.map mvP ++ mvP p :: mvP x :: rest.map mvP) (done.length + 1) = some (mvP x) := by
      have := at_D ((done ++ [p]).map mvP) (mvP x) (rest.map mvP) (done.length + 1) (by simp)
      simpa using this
    have hat1 : nth (done.map mvP ++ mvP p :: mvP x :: rest.map mvP) done.length = some (mvP p) := at_D _ _ _ _ (by simp)
    by_cases he : x = p
    · subst he
      refine .inr ?_
      obtain ⟨Z, hZ, hn⟩ := loopCp0 id N (done.length + 1) rest (done ++ [x]) [] x o hid (by simpa using hg) (by simp; omega) hNN 1 (by omega) (by simp)
      obtain ⟨K, hK⟩ : ∃ K, (done ++ [x]) ++ ddup x rest = K := ⟨_, rfl⟩
      have hK2 : done ++ x :: ddup x (x :: rest) = K := by rw [← hK]; simp [ddup]
      have hdl := ddup_len x rest
      have hKl : K.length ≤ N := by rw [← hK]; simp; omega
      rw [hK] at hn hZ
      obtain ⟨o2, ho2⟩ : ∃ o2, setS o id (.row 2 ((K ++ Z).map mvP)) = o2 := ⟨_, rfl⟩
      rw [ho2] at hn
      have hl2 : o2.length = o.length := by rw [← ho2, setS_len]
      have hget3 : ∀ r l, St.get ⟨r, l, o2⟩ id = some (.row 2 ((K ++ Z).map mvP)) := fun r l => by rw [← ho2]; exact hget2 _ _ _
      have hset3 : ∀ r l R, St.set ⟨r, l, o2⟩ id R = ⟨r, l, setS o id R⟩ := fun r l R => by rw [← ho2, set_low (by rw [setS_len]; exact hid), setS_setS]
      have hset4 : ∀ r l R R', St.set ⟨r, l, setS o id R'⟩ id R = ⟨r, l, setS o id R⟩ := fun r l R R' => by rw [set_low (by rw [setS_len]; exact hid), setS_setS]
      have hgl : ∀ r R, St.get ⟨r, [], setS o id R⟩ (o.length, 59) = none := fun r R => by simp [St.get, setS_len, getO]
      have hsl : ∀ r R R', St.set ⟨r, [], setS o id R⟩ (o.length, 59) R' = ⟨r, [(59, R')], setS o id R⟩ := fun r R R' => by simp [St.set, setS_len, setO]
      have hKZ : K.length + Z.length = N := by omega
      have hKN : N = K.length + (N - K.length) := by omega
      have hKi : (K.length : Int) ≤ N := by omega
      rw [hK2]
      simp only [List.length_append, List.length_cons, List.length_nil, Int.natCast_add, show ((0 + 1 : Nat) : Int) = 1 from rfl, show ((1 : Nat) : Int) = 1 from rfl] at hn
      rw [loopI_eq]
      simp only [mvP] at hat hat1
      simp [-St.get, -St.set, r97l1, b97l1, mvP, hne, hget, hl, hge0, hle, hlt, hlt0, hw, hw1, hw2, hw3, hat, hat1, hn, hl2, hget3, hset3, hset4, hget2, hKZ, hKi, setS_len, hgl, hsl]
      exact hKN
    · rcases loopCp1 id N rest (done ++ [p]) x o hid (by simpa using hg) (by simp; omega) hNN with ⟨hd, hn⟩ | hn
      · refine .inl ⟨by simp [ddup, he, hd], ?_⟩
        simp only [List.length_append, List.length_cons, List.length_nil, Int.natCast_add, show ((0 + 1 : Nat) : Int) = 1 from rfl, show ((1 : Nat) : Int) = 1 from rfl] at hn
        have hxp : ¬ (x.1 = p.1 ∧ x.2 = p.2) := fun h => he (Prod.ext h.1 h.2)
        have hdec : (decide (x.1 = p.1) && decide (x.2 = p.2)) = false := by
          rw [← Bool.decide_and]; exact decide_eq_false hxp
        rw [loopI_eq]
        simp only [mvP] at hat hat1
        simp [-St.get, -St.set, r97l1, b97l1, mvP, hne, hget, hl, hge0, hle, hlt, hlt0, hw, hw1, hw2, hw3, hat, hat1, hdec]
        simpa [Int.add_assoc] using hn
      · refine .inr ?_
        simp only [List.length_append, List.length_cons, List.length_nil, Int.natCast_add, show ((0 + 1 : Nat) : Int) = 1 from rfl, show ((1 : Nat) : Int) = 1 from rfl] at hn
        have hxp : ¬ (x.1 = p.1 ∧ x.2 = p.2) := fun h => he (Prod.ext h.1 h.2)
        have hdec : (decide (x.1 = p.1) && decide (x.2 = p.2)) = false := by
          rw [← Bool.decide_and]; exact decide_eq_false hxp
        rw [loopI_eq]
        simp only [mvP] at hat hat1
        simp [-St.get, -St.set, r97l1, b97l1, mvP, hne, hget, hl, hge0, hle, hlt, hlt0, hw, hw1, hw2, hw3, hat, hat1, hdec]
        have hlen : done.length + 1 + ((ddup x rest).length + 1) = done.length + ((ddup x rest).length + 1 + 1) := by omega
        simpa [ddup, he, Int.add_assoc, mvP, hlen] using hn
end Go.Am
end
section
set_option maxRecDepth 10000
set_option linter.unusedSimpArgs false
set_option linter.unusedVariables false
namespace Go.Am
open Go.Proofs Go.Sort Go.Shelf
theorem get_setS_top {r : Regs} {l : Objs} {o : Stack} {id : Id} {R : OB} {d : Nat} : St.get ⟨r, l, setS o id R⟩ (o.length, d) = getO l d := by simp [St.get, setS_len]
theorem set_setS_top {r : Regs} {l : Objs} {o : Stack} {id : Id} {R R' : OB} {d : Nat} : St.set ⟨r, l, setS o id R⟩ (o.length, d) R' = ⟨r, setO l d R', setS o id R⟩ := by simp [St.set, setS_len]
theorem eqCompact (id : Id) (l : List Mv) (o : Stack) (hid : id.1 < o.length) (hg : getS o id = some (.row 2 (l.map mvP))) (hN : l.length ≤ 4611686018427387904) :
    (dd l = l ∧ callI G 97 [.own id l.length] o = some (.own id l.length, o)) ∨ callI G 97 [.own id l.length] o = some (.sl true 2 ((dd l).map mvP), setS o id .dead) := by
  have hne : ¬ id.1 = o.length := by omega
  have hgl : ∀ r l R, St.get ⟨r, l, setS o id R⟩ (o.length, 59) = getO l 59 := fun r l R => by simp [St.get, setS_len]
  have hget : ∀ r l', St.get ⟨r, l', o⟩ id = some (.row 2 (l.map mvP)) := fun r l' => by rw [get_low hid, hg]
  rw [callI_eq]
  match l, hg, hN, hget with
  | [], hg, hN, hget =>
    refine .inl ⟨rfl, ?_⟩
    simp [-St.get, -St.set, body1_eq _ _ (gp 97) g97, c97, a97, hne, hget, hid]
  | [x], hg, hN, hget =>
    refine .inl ⟨rfl, ?_⟩
    simp [-St.get, -St.set, body1_eq _ _ (gp 97) g97, c97, a97, hne, hget, hid]
  | x :: y :: l, hg, hN, hget =>
    have h2 : ¬ ((l.length : Int) + 1 + 1 < 2) := by omega
    rcases loopCp1 id (x :: y :: l).length (y :: l) [] x o hid (by simpa using hg) (by simp; omega) hN with ⟨hd, hn⟩ | hn
    · refine .inl ⟨by simp [dd, hd], ?_⟩
      simp only [List.length_cons, List.length_nil, Int.natCast_add, show ((0 : Nat) : Int) = 0 from rfl, show ((1 : Nat) : Int) = 1 from rfl, Int.zero_add] at hn
      simp [-St.get, -St.set, body1_eq _ _ (gp 97) g97, c97, a97, hne, hget, hid, h2, hn]
    · refine .inr ?_
      simp only [List.length_cons, List.length_nil, Int.natCast_add, show ((0 : Nat) : Int) = 0 from rfl, show ((1 : Nat) : Int) = 1 from rfl, Int.zero_add, List.nil_append] at hn
      simp [-St.get, -St.set, body1_eq _ _ (gp 97) g97, c97, a97, hne, hget, hid, h2, hn, dd, setS_len, hgl]
theorem eqCompactN (o : Stack) : callI G 97 [.nils] o = some (.nils, o) := by
  rw [callI_eq]
  simp [-St.get, -St.set, body1_eq _ _ (gp 97) g97, c97, a97]
/-- What tidy makes. -/
def srtM (l : List Mv) : List Mv := l.mergeSort fun x y => !ltM y x
def tidyL (l : List Mv) : List Mv := dd (srtM l)
theorem eqTidy (id : Id) (l : List Mv) (o : Stack) (hid : id.1 < o.length) (hg : getS o id = some (.row 2 (l.map mvP))) (hN : l.length < 4611686018427387904) :
    (tidyL l = srtM l ∧ callI G 66 [.own id l.length] o = some (.own id l.length, setS o id (.row 2 ((tidyL l).map mvP)))) ∨ callI G 66 [.own id l.length] o = some (.sl true 2 ((tidyL l).map mvP), setS o id .dead) := by
  have hne : ¬ id.1 = o.length := by omega
  have hid2 : id.1 < (o ++ [[]]).length := by simp; omega
  have hS : sortP 89 ltM [.own id l.length, .clo 89 []] (o ++ [[]]) = some (.tup [], setS o id (.row 2 ((srtM l).map mvP)) ++ [[]]) := by
    simp [sortP, hN, getS_app _ _ _ hid, hg, unMs_map, setS_app _ _ _ _ hid]
    rfl
  have hsl : (srtM l).length = l.length := by simp [srtM]
  have hc := eqCompact id (srtM l) (setS o id (.row 2 ((srtM l).map mvP)) ++ [[]]) (by simp [setS_len]; omega) (by rw [getS_app _ _ _ (by rw [setS_len]; exact hid), getS_setS hid]) (by simp [srtM]; omega)
  rw [hsl, setS_app _ _ _ _ (by rw [setS_len]; exact hid), setS_setS] at hc
  rw [callI_eq]
  rcases hc with ⟨hd, hc⟩ | hc
  · refine .inl ⟨hd, ?_⟩
    rw [tidyL, hd]
    simp [-St.get, -St.set, body1_eq _ _ (gp 66) g66, c66, a66, hne, hid, eqSortM, hS, hc, setS_len]
  · refine .inr ?_
    simp [-St.get, -St.set, body1_eq _ _ (gp 66) g66, c66, a66, hne, hid, eqSortM, hS, hc, setS_len, tidyL, get_setS_top, set_setS_top]
theorem eqTidyN (o : Stack) : callI G 66 [.nils] o = some (.nils, o) := by
  have hS : sortP 89 ltM [.nils, .clo 89 []] [] = some (.tup [], []) := by simp [sortP]
  rw [callI_eq]
  simp [-St.get, -St.set, body1_eq _ _ (gp 66) g66, c66, a66, eqSortM, hS, eqCompactN]
end Go.Am
end
section
set_option maxRecDepth 10000
set_option linter.unusedSimpArgs false
set_option linter.unusedVariables false
namespace Go.Am
open Go.Proofs Go.Sort Go.Shelf
/-- A row of moves whose states stand k further on. -/
def shL (k : Int) (l : List Mv) : List Mv := l.map fun x => (x.1, x.2 + k)
@[simp] theorem shL_len (k : Int) (l : List Mv) : (shL k l).length = l.length := by simp [shL]
/-- A row that grows from nothing: its value and its block. -/
def owP (d : Nat) (l : List Mv) : PV := if l = [] then .nils else .own (0, d) l.length
def owL (d : Nat) (l : List Mv) : Objs := if l = [] then [] else [(d, .row 2 (l.map mvP))]
@[simp] theorem owP_n (d : Nat) : owP d [] = .nils := rfl
@[simp] theorem owL_n (d : Nat) : owL d [] = [] := rfl
@[simp] theorem owP_c (d : Nat) (x : Mv) (l : List Mv) : owP d (x :: l) = .own (0, d) (l.length + 1) := rfl
@[simp] theorem owL_c (d : Nat) (x : Mv) (l : List Mv) : owL d (x :: l) = [(d, .row 2 (mvP x :: l.map mvP))] := rfl
@[simp] theorem owP_s (d : Nat) (a : List Mv) (x : Mv) (l : List Mv) : owP d (a ++ x :: l) = .own (0, d) (a.length + (l.length + 1)) := by simp [owP]
@[simp] theorem owL_s (d : Nat) (a : List Mv) (x : Mv) (l : List Mv) : owL d (a ++ x :: l) = [(d, .row 2 (a.map mvP ++ mvP x :: l.map mvP))] := by simp [owL]
theorem wr1 : IntKind.i64.wrap 1 = 1 := by rfl
end Go.Am
end
section
set_option maxRecDepth 10000
set_option linter.unusedSimpArgs false
set_option linter.unusedVariables false
namespace Go.Am
open Go.Proofs Go.Sort Go.Shelf
/-! The states that one comes to. -/
def addNew : List Int → List Mv → List Int
  | row, [] => row
  | row, m :: l => addNew (if m.2 ∈ row then row else row ++ [m.2]) l
def bfs (g : Gr) : Nat → Nat → List Int → List Int
  | 0, _, row => row
  | f + 1, i, row => if i < row.length then bfs g f (i + 1) (addNew row (g.getD (row.getD i 0).toNat [])) else row
def reach (g : Gr) (s : Int) : List Int := bfs g (g.length + 1) 0 [s]
def InN (n : Nat) (row : List Int) : Prop := row.Nodup ∧ ∀ x ∈ row, 0 ≤ x ∧ x < n
def OkTo (g : Gr) : Prop := ∀ l ∈ g, ∀ m ∈ l, 0 ≤ m.2 ∧ m.2 < g.length
theorem nodup_le : ∀ (l m : List Nat), l.Nodup → (∀ x ∈ l, x ∈ m) → l.length ≤ m.length
  | [], m, _, _ => Nat.zero_le _
  | x :: l, m, hn, hs => by
    have hx := hs x List.mem_cons_self
    have h1 := List.nodup_cons.1 hn
    have := nodup_le l (m.erase x) h1.2 (fun y hy => (List.mem_erase_of_ne (fun e => h1.1 (by rw [← e]; exact hy))).2 (hs y (List.mem_cons_of_mem _ hy)))
    rw [List.length_erase_of_mem hx] at this
    have hm := List.length_pos_of_mem hx
    simp only [List.length_cons]; omega
theorem InN.len {n : Nat} {row : List Int} (h : InN n row) : row.length ≤ n := by
  have := nodup_le (row.map Int.toNat) (List.range n) (by
    unfold List.Nodup
    rw [List.pairwise_map]
    exact List.Pairwise.imp_of_mem (fun {a b} ha hb hab e => hab (by have := h.2 a ha; have := h.2 b hb; omega)) h.1) (fun x hx => by
    obtain ⟨y, hy, rfl⟩ := List.mem_map.1 hx
    have := h.2 y hy
    rw [List.mem_range]; omega)
  simpa using this
theorem InN.add {n : Nat} : ∀ {l : List Mv} {row : List Int}, InN n row → (∀ m ∈ l, 0 ≤ m.2 ∧ m.2 < n) → InN n (addNew row l)
  | [], row, h, _ => h
  | m :: l, row, h, hl => by
    simp only [addNew]
    refine InN.add ?_ (fun y hy => hl y (List.mem_cons_of_mem _ hy))
    split
    · exact h
    · rename_i hm
      refine ⟨List.nodup_append.2 ⟨h.1, by simp, fun a ha b hb e => hm ?_⟩, fun x hx => ?_⟩
      · rw [List.mem_singleton] at hb; subst hb; subst e; exact ha
      · rcases List.mem_append.1 hx with hx | hx
        · exact h.2 x hx
        · rw [List.mem_singleton] at hx; subst hx; exact hl m List.mem_cons_self
theorem addNew_len : ∀ (l : List Mv) (row : List Int), row.length ≤ (addNew row l).length
  | [], row => Nat.le_refl _
  | m :: l, row => by
    simp only [addNew]
    refine Nat.le_trans ?_ (addNew_len l _)
    split <;> simp
theorem OkTo.row {g : Gr} (h : OkTo g) (i : Nat) : ∀ m ∈ g.getD i [], 0 ≤ m.2 ∧ m.2 < g.length := by
  intro m hm
  by_cases hi : i < g.length
  · rw [List.getD_eq_getElem?_getD, List.getElem?_eq_getElem hi, Option.getD_some] at hm
    exact h _ (List.getElem_mem hi) m hm
  · rw [List.getD_eq_getElem?_getD, List.getElem?_eq_none (by omega)] at hm; cases hm
theorem InN.bfs {g : Gr} (hg : OkTo g) : ∀ (f i : Nat) {row : List Int}, InN g.length row → InN g.length (bfs g f i row)
  | 0, _, _, h => h
  | f + 1, i, row, h => by
    simp only [Am.bfs]
    split
    · exact InN.bfs hg f (i + 1) (h.add (hg.row _))
    · exact h
theorem InN.one {n : Nat} {s : Int} (h : 0 ≤ s ∧ s < n) : InN n [s] := ⟨by simp, fun x hx => by rw [List.mem_singleton] at hx; subst hx; exact h⟩
theorem gr_nth (nl u : Bool) (g : Gr) (i : Nat) (h : i < g.length) : nth (encGs nl u g) i = some (encL nl u (g.getD i [])) := by
  unfold nth encGs
  simp [List.getElem?_map, List.getElem?_eq_getElem h]
theorem int_nth (row : List Int) (i : Nat) (h : i < row.length) : nth (row.map PV.i) i = some (.i (row.getD i 0)) := by
  unfold nth
  simp [List.getElem?_map, List.getElem?_eq_getElem h]
theorem getD_mem {row : List Int} {i : Nat} (h : i < row.length) : row.getD i 0 ∈ row := by
  rw [List.getD_eq_getElem?_getD, List.getElem?_eq_getElem h, Option.getD_some]
  exact List.getElem_mem h
theorem encL_two (nl u : Bool) (l : List Mv) : (encL nl u l = .nils ∧ l = []) ∨ encL nl u l = .sl u 2 (l.map mvP) := by
  unfold encL
  split
  · rename_i h; simp only [Bool.and_eq_true, List.isEmpty_iff] at h; exact .inl ⟨rfl, h.2⟩
  · exact .inr rfl
/-- The rows of a graph, nil or not. -/
def EncR (u : Bool) (E : List PV) (g : Gr) : Prop := E.length = g.length ∧ ∀ i, i < g.length → ∃ nl, nth E i = some (encL nl u (g.getD i []))
theorem encR_G (nl u : Bool) (g : Gr) : EncR u (encGs nl u g) g := ⟨by simp, fun i h => ⟨nl, gr_nth nl u g i h⟩⟩
theorem EncR.app {u : Bool} {E F : List PV} {g h : Gr} (hE : EncR u E g) (hF : EncR u F h) : EncR u (E ++ F) (g ++ h) := by
  refine ⟨by simp [hE.1, hF.1], fun i hi => ?_⟩
  rw [List.length_append] at hi
  by_cases c : i < g.length
  · obtain ⟨nl, e⟩ := hE.2 i c
    refine ⟨nl, ?_⟩
    unfold nth at e ⊢
    rw [List.getElem?_append_left (by rw [hE.1]; exact c), e]
    simp [List.getD_eq_getElem?_getD, List.getElem?_append_left c]
  · obtain ⟨nl, e⟩ := hF.2 (i - g.length) (by omega)
    refine ⟨nl, ?_⟩
    unfold nth at e ⊢
    rw [List.getElem?_append_right (by rw [hE.1]; omega), hE.1, e]
    simp [List.getD_eq_getElem?_getD, List.getElem?_append_right (show g.length ≤ i by omega)]
theorem fals_map : ∀ E : List PV, fals E = E.map fal
  | [] => rfl
  | x :: E => by simp [fals, fals_map E]
theorem EncR.fal {u : Bool} {E : List PV} {g : Gr} (hE : EncR u E g) : EncR false (fals E) g := by
  refine ⟨by rw [fals_map]; simp [hE.1], fun i hi => ?_⟩
  obtain ⟨nl, e⟩ := hE.2 i hi
  refine ⟨nl, ?_⟩
  unfold nth at e ⊢
  rw [fals_map, List.getElem?_map, e, Option.map_some, fal_encL]
/-! impl.reached: what is seen is a map. -/
def seenM (row : List Int) : List (Key × PV) := row.map fun n => (.i n, .b true)
theorem lkp_seen (x : Int) : ∀ row : List Int, (lkp (.i x) (seenM row)).getD (.b false) = .b (decide (x ∈ row))
  | [] => rfl
  | y :: row => by
    have ih := lkp_seen x row
    simp only [seenM, List.map_cons, lkp, Key.i.injEq]
    by_cases h : y = x
    · simp [h]
    · have h2 : ¬ x = y := fun e => h e.symm
      simp only [seenM] at ih
      simp [h, ih, h2]
theorem ins_seen (x : Int) : ∀ row : List Int, x ∉ row → ins (.i x) (.b true) (seenM row) = seenM (row ++ [x])
  | [], _ => rfl
  | y :: row, h => by
    have hy : y ≠ x := fun e => h (e ▸ List.mem_cons_self)
    have ih := ins_seen x row (fun e => h (List.mem_cons_of_mem _ e))
    simp only [seenM, List.map_cons, ins, Key.i.injEq, hy, if_false, List.cons_append] at ih ⊢
    rw [ih]
theorem loopRe0 (nl : Bool) (E : List PV) (j : Int) : ∀ (rest done : List Mv) (row : List Int), (done ++ rest).length ≤ 4294967296 → row.length + rest.length ≤ 4294967296 →
    loopI G [2, 5, 6, 7, 28, 29, 30] [2, 11, 12, 46] c69l0 ⟨[(2, .ref (0, 2) 1 0 0), (5, .own (0, 11) row.length), (6, .mp (0, 12)), (7, .i j), (28, encL nl false (done ++ rest)), (29, .i (done ++ rest).length), (30, .i done.length)], [(2, .box [PV.sl false 1 (E)]), (11, .row 1 (row.map PV.i)), (12, .map false (seenM row))], []⟩ =
      some (.exit 2, ⟨[(2, .ref (0, 2) 1 0 0), (5, .own (0, 11) (addNew row rest).length), (6, .mp (0, 12)), (7, .i j), (28, encL nl false (done ++ rest)), (29, .i (done ++ rest).length), (30, .i (done ++ rest).length), (31, .b false)], [(2, .box [PV.sl false 1 (E)]), (11, .row 1 ((addNew row rest).map PV.i)), (12, .map false (seenM (addNew row rest)))], []⟩)
  | [], done, row, h, hr => by
    rw [loopI_eq]
    simp [r69l0, b69l0, addNew]
  | x :: rest, done, row, h, hr => by
    have hlt : (done.length : Int) < (done.length : Int) + ((rest.length : Int) + 1) := by omega
    have hw : IntKind.i64.wrap ((done.length : Int) + 1) = (done.length : Int) + 1 := wr (by simp at h; omega)
    have hrl : row.length ≤ 4294967295 := by simp at hr; omega
    have hat := mv_at done x rest
    have hlk := lkp_seen x.2 row
    have hen : encL nl false (done ++ x :: rest) = .sl false 2 ((done ++ x :: rest).map mvP) := encL_ne (by simp)
    have hn := fun row' hr' => loopRe0 nl E j rest (done ++ [x]) row' (by simpa using h) hr'
    have e1 : done ++ [x] ++ rest = done ++ x :: rest := by simp
    simp only [e1] at hn
    rw [hen] at hn ⊢
    rw [loopI_eq]
    simp only [mvP, List.map_append, List.map_cons] at hat
    by_cases hm : x.2 ∈ row
    · have hn := hn row (by simp at hr; omega)
      simp [r69l0, b69l0, hlt, hat, mvP, unAgg, hw, hrl, hlk, hm, addNew]
      simpa [mvP, Int.add_assoc] using hn
    · have hn := hn (row ++ [x.2]) (by simp at hr ⊢; omega)
      have hins := ins_seen x.2 row hm
      simp [r69l0, b69l0, hlt, hat, mvP, unAgg, hw, hrl, hlk, hm, addNew, hins]
      simpa [mvP, Int.add_assoc] using hn
theorem loopRe1 (E : List PV) (g : Gr) (hE : EncR false E g) (hg : OkTo g) (hs : SmallG g) : ∀ (f i : Nat) (row : List Int), InN g.length row → i ≤ row.length → g.length + 1 ≤ i + f →
    loopI G [2, 5, 6, 7] [2, 11, 12, 46] c69l1 ⟨[(2, .ref (0, 2) 1 0 0), (5, .own (0, 11) row.length), (6, .mp (0, 12)), (7, .i i)], [(2, .box [PV.sl false 1 (E)]), (11, .row 1 (row.map PV.i)), (12, .map false (seenM row))], []⟩ =
      some (.exit 0, ⟨[(2, .ref (0, 2) 1 0 0), (5, .own (0, 11) (bfs g f i row).length), (6, .mp (0, 12)), (7, .i (bfs g f i row).length), (18, .b false)], [(2, .box [PV.sl false 1 (E)]), (11, .row 1 ((bfs g f i row).map PV.i)), (12, .map false (seenM (bfs g f i row)))], []⟩)
  | 0, i, row, hr, hi, hf => by have := hr.len; omega
  | f + 1, i, row, hr, hi, hf => by
    have hl := hr.len
    have hgl := hs.1
    by_cases h : i < row.length
    · have hlt : (i : Int) < row.length := by omega
      have hx := hr.2 _ (getD_mem h)
      have hat := int_nth row i h
      generalize hxe : row.getD i 0 = x at hx hat
      have hxl : x < g.length := hx.2
      have hxn : x.toNat < g.length := by omega
      obtain ⟨nl, hat2⟩ := hE.2 x.toNat hxn
      have hEl := hE.1
      have hrow : ∀ m ∈ g.getD x.toNat [], 0 ≤ m.2 ∧ m.2 < g.length := hg.row _
      have hrl : (g.getD x.toNat []).length ≤ 1048576 := hs.2 _ (by rw [List.getD_eq_getElem?_getD, List.getElem?_eq_getElem hxn, Option.getD_some]; exact List.getElem_mem hxn)
      have hb : bfs g (f + 1) i row = bfs g f (i + 1) (addNew row (g.getD x.toNat [])) := by simp [bfs, h, ← hxe]
      rw [hb]
      generalize hL : g.getD x.toNat [] = L at hat2 hrow hrl
      have h0 := loopRe0 nl E i L [] row (by simp; omega) (by omega)
      simp only [List.nil_append, List.length_nil, show ((0 : Nat) : Int) = 0 from rfl] at h0
      have hn := loopRe1 E g hE hg hs f (i + 1) (addNew row L) (hr.add hrow) (by have := addNew_len L row; omega) (by omega)
      have hw : IntKind.i64.wrap ((i : Int) + 1) = (i : Int) + 1 := wr (by omega)
      rw [loopI_eq]
      rcases encL_two nl false L with ⟨e, e2⟩ | e
      · rw [e] at hat2 h0
        subst e2
        simp only [List.length_nil, show ((0 : Nat) : Int) = 0 from rfl] at h0
        simp [r69l1, b69l1, h, hlt, hat, hat2, hx.1, hxl, h0, hw, hEl]
        simpa using hn
      · rw [e] at hat2 h0
        simp [r69l1, b69l1, h, hlt, hat, hat2, hx.1, hxl, h0, hw, hEl]
        simpa using hn
    · have he : i = row.length := by omega
      have hb : bfs g (f + 1) i row = row := by simp [bfs, h]
      rw [hb, loopI_eq]
      subst he
      simp [r69l1, b69l1]
theorem eqReached (E : List PV) (g : Gr) (hE : EncR false E g) (hg : OkTo g) (hs : SmallG g) (s : Int) (h : 0 ≤ s ∧ s < g.length) :
    callI G 69 [.agg [.sl false 1 (E)], .i s] [] = some (.sl true 1 ((reach g s).map PV.i), []) := by
  have hl := loopRe1 E g hE hg hs (g.length + 1) 0 [s] (InN.one h) (by simp) (by omega)
  have hsm : seenM [s] = [(.i s, .b true)] := rfl
  simp only [show ((0 : Nat) : Int) = 0 from rfl, List.length_cons, List.length_nil, List.map_cons, List.map_nil, hsm] at hl
  rw [callI_eq]
  have hi : ins (.i s) (.b true) [] = [(.i s, .b true)] := rfl
  simp [body1_eq _ _ (gp 69) g69, c69, a69, hl, hi, reach]
end Go.Am
end
section
set_option maxRecDepth 10000
set_option linter.unusedSimpArgs false
set_option linter.unusedVariables false
namespace Go.Am
open Go.Proofs Go.Sort Go.Shelf
/-! The part of a graph: states numbered in the order in which they come. -/
def atG : Nat → List Int → Int → Int
  | _, [], _ => 0
  | i, y :: l, x => if y = x then i else atG (i + 1) l x
def atOf (row : List Int) (x : Int) : Int := atG 0 row x
def atM : Nat → List Int → List (Key × PV)
  | _, [] => []
  | i, x :: l => (.i x, .i i) :: atM (i + 1) l
theorem lkp_at (x : Int) : ∀ (row : List Int) (i : Nat), (lkp (.i x) (atM i row)).getD (.i 0) = .i (atG i row x)
  | [], _ => rfl
  | y :: row, i => by
    simp only [atM, lkp, atG, Key.i.injEq]
    by_cases h : y = x
    · simp [h]
    · simp [h, lkp_at x row (i + 1)]
theorem ins_at (x : Int) : ∀ (row : List Int) (i n : Nat), n = i + row.length → x ∉ row → ins (.i x) (.i n) (atM i row) = atM i (row ++ [x])
  | [], i, n, hn, _ => by subst hn; rfl
  | y :: row, i, n, hn, h => by
    have hy : y ≠ x := fun e => h (by rw [e]; exact List.mem_cons_self)
    have ih := ins_at x row (i + 1) n (by simp at hn; omega) (fun e => h (List.mem_cons_of_mem _ e))
    simp only [atM, ins, Key.i.injEq, hy, if_false, List.cons_append, ih]
/-- Moves with the new numbers. -/
def reT (row : List Int) (l : List Mv) : List Mv := l.map fun m => (m.1, atOf row m.2)
@[simp] theorem reT_len (row : List Int) (l : List Mv) : (reT row l).length = l.length := by simp [reT]
def partG (g : Gr) (s : Int) : Gr := (reach g s).map fun r => tidyL (reT (reach g s) (g.getD r.toNat []))
def made (g : Gr) : Gr × Bool := if (reach g 0).length ≤ 60 then (partG g 0, true) else ([], false)
theorem addNew_pre : ∀ (l : List Mv) (row : List Int), ∃ t, addNew row l = row ++ t
  | [], row => ⟨[], by simp [addNew]⟩
  | m :: l, row => by
    simp only [addNew]
    split
    · exact addNew_pre l row
    · obtain ⟨t, ht⟩ := addNew_pre l (row ++ [m.2])
      exact ⟨m.2 :: t, by rw [ht]; simp⟩
/-! impl.partOf -/
theorem loopPt0 (A : PV) (hA : ∀ f n, known f n A = true) (N : Nat) (hN : N ≤ 4294967296) : ∀ (rest done : List Int), (done ++ rest).Nodup → (done ++ rest).length = N →
    loopI G [0, 4, 6, 7, 25, 26, 27] [4, 19, 24, 69] c59l0 ⟨[(0, A), (4, .ref (0, 4) 1 0 0), (6, .own (0, 19) N), (7, .mp (0, 24)), (25, .own (0, 19) N), (26, .i N), (27, .i done.length)], [(4, .box [.nils]), (19, .row 1 ((done ++ rest).map PV.i)), (24, .map false (atM 0 done))], []⟩ =
      some (.exit 0, ⟨[(0, A), (4, .ref (0, 4) 1 0 0), (6, .own (0, 19) N), (7, .mp (0, 24)), (25, .own (0, 19) N), (26, .i N), (27, .i N), (28, .b false)], [(4, .box [.nils]), (19, .row 1 ((done ++ rest).map PV.i)), (24, .map false (atM 0 (done ++ rest)))], []⟩)
  | [], done, hd, h => by
    simp only [List.append_nil] at h ⊢
    rw [h, loopI_eq]
    simp [r59l0, b59l0, hA, h]
  | x :: rest, done, hd, h => by
    have hlt : (done.length : Int) < N := by simp at h; omega
    have hlt2 : done.length < N := by omega
    have hw : IntKind.i64.wrap ((done.length : Int) + 1) = (done.length : Int) + 1 := wr (by omega)
    have hat : nth ((done ++ x :: rest).map PV.i) done.length = some (.i x) := by rw [List.map_append, List.map_cons]; exact at_D _ _ _ _ (by simp)
    have hx : x ∉ done := fun hm => (List.nodup_append.1 hd).2.2 x hm x List.mem_cons_self rfl
    have hins := ins_at x done 0 done.length (by omega) hx
    have hn := loopPt0 A hA N hN rest (done ++ [x]) (by simpa using hd) (by simpa using h)
    have e1 : done ++ [x] ++ rest = done ++ x :: rest := by simp
    rw [e1] at hn
    have hl2 : ((done ++ x :: rest).map PV.i).length = N := by simpa using h
    generalize hR : (done ++ x :: rest).map PV.i = R at hat hn hl2 ⊢
    rw [loopI_eq]
    simp [r59l0, b59l0, hA, hlt, hlt2, hl2, hw, hat, hins]
    simpa using hn
/-- A value and its block: a slice that may be there already. -/
def OwnS (d k : Nat) (Y : PV) (L : Objs) (xs : List PV) : Prop := (xs = [] ∧ Y = .nils ∧ L = []) ∨ (xs ≠ [] ∧ Y = .own (0, d) xs.length ∧ L = [(d, .row k xs)])
theorem loopPt1 (nl : Bool) (A Y R : PV) (hA : ∀ f n, known f n A = true) (YL : Objs) (xs rs : List PV) (hY : OwnS 69 1 Y YL xs) (row : List Int) (j : Int) : ∀ (rest done : List Mv), (done ++ rest).length ≤ 4294967296 →
    loopI G [0, 4, 7, 10, 13, 37, 38, 39, 47, 48, 49] [4, 10, 19, 24, 43, 62, 69] c59l1 ⟨[(0, A), (4, .ref (0, 4) 1 0 0), (7, .mp (0, 24)), (10, .ref (0, 10) 1 0 0), (13, owP 62 (reT row done)), (37, .own (0, 19) row.length), (38, .i row.length), (39, .i j), (47, encL nl false (done ++ rest)), (48, .i (done ++ rest).length), (49, .i done.length)], (4, .box [.nils]) :: (10, .box [Y]) :: (19, .row 1 (row.map PV.i)) :: (24, .map false (atM 0 row)) :: (owL 62 (reT row done) ++ YL), []⟩ =
      some (.exit 4, ⟨[(0, A), (4, .ref (0, 4) 1 0 0), (7, .mp (0, 24)), (10, .ref (0, 10) 1 0 0), (13, owP 62 (reT row (done ++ rest))), (37, .own (0, 19) row.length), (38, .i row.length), (39, .i j), (47, encL nl false (done ++ rest)), (48, .i (done ++ rest).length), (49, .i (done ++ rest).length), (50, .b false)], (4, .box [.nils]) :: (10, .box [Y]) :: (19, .row 1 (row.map PV.i)) :: (24, .map false (atM 0 row)) :: (owL 62 (reT row (done ++ rest)) ++ YL), []⟩)
  | [], done, h => by
    rw [loopI_eq]
    rcases hY with ⟨rfl, rfl, rfl⟩ | ⟨hxs, rfl, rfl⟩
    · by_cases hd : done = []
      · subst hd
        simp [r59l1, b59l1, hA, reT]
      · have hp : owP 62 (reT row done) = .own (0, 62) done.length := by simp [owP, reT, hd]
        have ho : owL 62 (reT row done) = [(62, .row 2 ((reT row done).map mvP))] := by simp [owL, reT, hd]
        simp [r59l1, b59l1, hA, hp, ho]
    · by_cases hd : done = []
      · subst hd
        simp [r59l1, b59l1, hA, reT]
      · have hp : owP 62 (reT row done) = .own (0, 62) done.length := by simp [owP, reT, hd]
        have ho : owL 62 (reT row done) = [(62, .row 2 ((reT row done).map mvP))] := by simp [owL, reT, hd]
        simp [r59l1, b59l1, hA, hp, ho]
  | x :: rest, done, h => by
    have hlt : (done.length : Int) < (done.length : Int) + ((rest.length : Int) + 1) := by omega
    have hw : IntKind.i64.wrap ((done.length : Int) + 1) = (done.length : Int) + 1 := wr (by simp at h; omega)
    have hdl : done.length ≤ 4294967295 := by simp at h; omega
    have hat := mv_at done x rest
    have hlk := lkp_at x.2 row 0
    have hn := loopPt1 nl A Y R hA YL xs rs hY row j rest (done ++ [x]) (by simpa using h)
    have hen : encL nl false (done ++ x :: rest) = .sl false 2 ((done ++ x :: rest).map mvP) := encL_ne (by simp)
    have e1 : done ++ [x] ++ rest = done ++ x :: rest := by simp
    rw [e1] at hn
    rw [hen] at hn ⊢
    rw [loopI_eq]
    simp only [mvP, List.map_append, List.map_cons] at hat
    rcases hY with ⟨rfl, rfl, rfl⟩ | ⟨hxs, rfl, rfl⟩
    · by_cases hd : done = []
      · subst hd
        simp at hat hn
        simp [r59l1, b59l1, hlt, hat, mvP, unAgg, hw, hdl, reT, wr1, hA, hlk]
        simpa [reT, mvP, Int.add_assoc, atOf] using hn
      · have hp : owP 62 (reT row done) = .own (0, 62) done.length := by simp [owP, reT, hd]
        have ho : owL 62 (reT row done) = [(62, .row 2 ((reT row done).map mvP))] := by simp [owL, reT, hd]
        rw [hp, ho]
        simp [r59l1, b59l1, hlt, hat, mvP, unAgg, hw, hdl, hA, hlk]
        simpa [reT, mvP, Int.add_assoc, atOf] using hn
    · by_cases hd : done = []
      · subst hd
        simp at hat hn
        simp [r59l1, b59l1, hlt, hat, mvP, unAgg, hw, hdl, reT, wr1, hA, hlk]
        simpa [reT, mvP, Int.add_assoc, atOf] using hn
      · have hp : owP 62 (reT row done) = .own (0, 62) done.length := by simp [owP, reT, hd]
        have ho : owL 62 (reT row done) = [(62, .row 2 ((reT row done).map mvP))] := by simp [owL, reT, hd]
        rw [hp, ho]
        simp [r59l1, b59l1, hlt, hat, mvP, unAgg, hw, hdl, hA, hlk]
        simpa [reT, mvP, Int.add_assoc, atOf] using hn
end Go.Am
end
section
set_option maxRecDepth 10000
set_option maxHeartbeats 1000000
set_option linter.unusedSimpArgs false
set_option linter.unusedVariables false
namespace Go.Am
open Go.Proofs Go.Sort Go.Shelf
theorem tidyL_n : tidyL [] = [] := by simp [tidyL, srtM, dd]
theorem tidyL_ne {l : List Mv} (h : l ≠ []) : tidyL l ≠ [] := by
  unfold tidyL
  cases hs : srtM l with
  | nil =>
    have : (srtM l).length = l.length := by simp [srtM]
    rw [hs] at this
    exact absurd (List.length_eq_zero_iff.1 this.symm) h
  | cons x m => simp [dd]
def ptR (g : Gr) (row : List Int) (r : Int) : List Mv := tidyL (reT row (g.getD r.toNat []))
theorem loopPt2 (E : List PV) (g : Gr) (hE : EncR false E g) (hs : SmallG g) (row : List Int) (hrow : InN g.length row) : ∀ (rest done : List Int), row = done ++ rest → ∀ Y YL, OwnS 69 1 Y YL (encGs true true (done.map (ptR g row))) →
    ∃ Y' YL', OwnS 69 1 Y' YL' (encGs true true (row.map (ptR g row))) ∧
    loopI G [0, 4, 7, 10, 37, 38, 39] [4, 10, 19, 24, 69] c59l2 ⟨[(0, .sl false 1 (E)), (4, .ref (0, 4) 1 0 0), (7, .mp (0, 24)), (10, .ref (0, 10) 1 0 0), (37, .own (0, 19) row.length), (38, .i row.length), (39, .i done.length)], (4, .box [.nils]) :: (10, .box [Y]) :: (19, .row 1 (row.map PV.i)) :: (24, .map false (atM 0 row)) :: YL, []⟩ =
      some (.exit 2, ⟨[(0, .sl false 1 (E)), (4, .ref (0, 4) 1 0 0), (7, .mp (0, 24)), (10, .ref (0, 10) 1 0 0), (37, .own (0, 19) row.length), (38, .i row.length), (39, .i row.length), (40, .b false)], (4, .box [.nils]) :: (10, .box [Y']) :: (19, .row 1 (row.map PV.i)) :: (24, .map false (atM 0 row)) :: YL', []⟩)
  | [], done, hd, Y, YL, hY => by
    rw [List.append_nil] at hd
    subst hd
    refine ⟨Y, YL, hY, ?_⟩
    rw [loopI_eq]
    rcases hY with ⟨h1, rfl, rfl⟩ | ⟨h1, rfl, rfl⟩
    · simp [r59l2, b59l2]
    · simp [r59l2, b59l2]
  | x :: rest, done, hd, Y, YL, hY => by
    have hl := hrow.len
    have hgl := hs.1
    have hrl : row.length = done.length + (rest.length + 1) := by rw [hd]; simp
    have hlt : (done.length : Int) < row.length := by omega
    have hlt2 : done.length < row.length := by omega
    have hw : IntKind.i64.wrap ((done.length : Int) + 1) = (done.length : Int) + 1 := wr (by omega)
    have hx := hrow.2 x (by rw [hd]; simp)
    have hat : nth (row.map PV.i) done.length = some (.i x) := by rw [hd, List.map_append, List.map_cons]; exact at_D _ _ _ _ (by simp)
    have hxl : x < g.length := hx.2
    have hxn : x.toNat < g.length := by omega
    obtain ⟨nl, hat2⟩ := hE.2 x.toNat hxn
    have hEl := hE.1
    have hLl : (g.getD x.toNat []).length ≤ 1048576 := hs.2 _ (by rw [List.getD_eq_getElem?_getD, List.getElem?_eq_getElem hxn, Option.getD_some]; exact List.getElem_mem hxn)
    have hpt : ptR g row x = tidyL (reT row (g.getD x.toNat [])) := rfl
    have hYl : (encGs true true (done.map (ptR g row))).length = done.length := by simp
    have hdl : done.length ≤ 4294967295 := by omega
    generalize hL : g.getD x.toNat [] = L at hat2 hLl hpt
    have h0 := loopPt1 nl (.sl false 1 (E)) Y .nils (by intro f n; simp) YL _ [] hY row done.length L [] (by simp; omega)
    simp only [List.nil_append, List.length_nil, show ((0 : Nat) : Int) = 0 from rfl, show reT row [] = [] from rfl, owP_n, owL_n] at h0
    have hnew : encGs true true ((done ++ [x]).map (ptR g row)) = encGs true true (done.map (ptR g row)) ++ [encL true true (ptR g row x)] := by simp [encGs]
    have hnn : encGs true true ((done ++ [x]).map (ptR g row)) ≠ [] := by rw [hnew]; simp
    have hYn : OwnS 69 1 (.own (0, 69) (done.length + 1)) [(69, .row 1 (encGs true true (done.map (ptR g row)) ++ [encL true true (ptR g row x)]))] (encGs true true ((done ++ [x]).map (ptR g row))) := by
      refine .inr ⟨hnn, ?_, ?_⟩
      · rw [hnew]; simp
      · rw [hnew]
    obtain ⟨Y', YL', hY', hn⟩ := loopPt2 E g hE hs row hrow rest (done ++ [x]) (by simpa using hd) _ _ hYn
    refine ⟨Y', YL', hY', ?_⟩
    simp only [List.length_append, List.length_cons, List.length_nil, Int.natCast_add, show ((0 + 1 : Nat) : Int) = 1 from rfl] at hn
    clear hY'
    rw [loopI_eq]
    by_cases hLe : L = []
    · subst hLe
      have hr0 : reT row [] = [] := rfl
      rw [hr0, tidyL_n] at hpt
      rw [hpt] at hn
      have htN := eqTidyN []
      have e1 : encL nl false [] = .nils ∨ encL nl false [] = .sl false 2 [] := by cases nl <;> simp [encL]
      rcases hY with ⟨h1, rfl, rfl⟩ | ⟨h1, rfl, rfl⟩
      · have hd0 : done = [] := by cases done with | nil => rfl | cons a b => simp [encGs] at h1
        subst hd0
        have hlt0 : 0 < row.length := by omega
        rcases e1 with e | e
        all_goals
          rw [e] at hat2 h0
          simp [hr0] at h0 hn hat
          simp [r59l2, b59l2, hlt, hlt2, hw, hat, hat2, hx.1, hxl, hEl, h0, htN, wr1, hlt0]
          simpa [encGs] using hn
      · rcases e1 with e | e
        all_goals
          rw [e] at hat2 h0
          simp [hr0] at h0 hn
          simp [r59l2, b59l2, hlt, hlt2, hw, hat, hat2, hx.1, hxl, hEl, h0, htN, hdl]
          simpa [encGs] using hn
    · have hen : encL nl false L = .sl false 2 (L.map mvP) := encL_ne hLe
      have hp : owP 62 (reT row L) = .own (0, 62) L.length := by simp [owP, reT, hLe]
      have ho : owL 62 (reT row L) = [(62, .row 2 ((reT row L).map mvP))] := by simp [owL, reT, hLe]
      have hlt3 : encL true true (ptR g row x) = .sl true 2 ((tidyL (reT row L)).map mvP) := by rw [hpt]; exact encL_ne (tidyL_ne (by simp [reT, hLe]))
      rw [hlt3] at hn
      rw [hen] at hat2 h0
      rw [hp, ho] at h0
      rcases hY with ⟨h1, rfl, rfl⟩ | ⟨h1, rfl, rfl⟩
      · have hd0 : done = [] := by cases done with | nil => rfl | cons a b => simp [encGs] at h1
        subst hd0
        have hlt0 : 0 < row.length := by omega
        have ht := eqTidy (0, 62) (reT row L) [[(4, .box [.nils]), (10, .box [.nils]), (19, .row 1 (row.map PV.i)), (24, .map false (atM 0 row)), (62, .row 2 ((reT row L).map mvP))]] (by simp) (by simp [getS, getO]) (by simp; omega)
        simp [setS, setO] at ht
        simp at h0 hn hat
        rcases ht with ⟨hts, ht⟩ | ht
        · have hTl : (tidyL (reT row L)).length = L.length := by rw [hts]; simp [srtM]
          simp [r59l2, b59l2, hlt, hlt2, hw, hat, hat2, hx.1, hxl, hEl, h0, ht, wr1, hlt0, hTl]
          simpa [encGs] using hn
        · simp [r59l2, b59l2, hlt, hlt2, hw, hat, hat2, hx.1, hxl, hEl, h0, ht, wr1, hlt0]
          simpa [encGs] using hn
      · have ht := eqTidy (0, 62) (reT row L) [[(4, .box [.nils]), (10, .box [.own (0, 69) (encGs true true (done.map (ptR g row))).length]), (19, .row 1 (row.map PV.i)), (24, .map false (atM 0 row)), (62, .row 2 ((reT row L).map mvP)), (69, .row 1 (encGs true true (done.map (ptR g row))))]] (by simp) (by simp [getS, getO]) (by simp; omega)
        simp [setS, setO] at ht
        simp at h0 hn
        rcases ht with ⟨hts, ht⟩ | ht
        · have hTl : (tidyL (reT row L)).length = L.length := by rw [hts]; simp [srtM]
          simp [r59l2, b59l2, hlt, hlt2, hw, hat, hat2, hx.1, hxl, hEl, h0, ht, hdl, hTl]
          simpa [encGs] using hn
        · simp [r59l2, b59l2, hlt, hlt2, hw, hat, hat2, hx.1, hxl, hEl, h0, ht, hdl]
          simpa [encGs] using hn
theorem bfs_len (g : Gr) : ∀ (f i : Nat) (row : List Int), row.length ≤ (bfs g f i row).length
  | 0, _, row => Nat.le_refl _
  | f + 1, i, row => by
    simp only [bfs]
    split
    · exact Nat.le_trans (addNew_len _ row) (bfs_len g f (i + 1) _)
    · exact Nat.le_refl _
/-- What partOf and the specification's l12Made make. -/
theorem eqPartOf (E : List PV) (g : Gr) (hE : EncR false E g) (hg : OkTo g) (hs : SmallG g) (h : 0 < g.length) :
    callI G 59 [.sl false 1 (E), .i 0] [] = some (.tup [encG true true (made g).1, .b (made g).2], []) := by
  have h1 := eqReached E g hE hg hs 0 (by omega)
  have hr : InN g.length (reach g 0) := InN.bfs hg _ _ (InN.one (by omega))
  have hl := hr.len
  have hgl := hs.1
  have hbl := bfs_len g (g.length + 1) 0 [0]
  unfold made
  have hpg : partG g 0 = (reach g 0).map (ptR g (reach g 0)) := rfl
  rw [hpg]
  have hrl : 1 ≤ (reach g 0).length := by unfold reach; simpa using hbl
  generalize hR : reach g 0 = row at h1 hr hl
  rw [hR] at hrl
  have hne : row ≠ [] := by intro e; rw [e] at hrl; cases hrl
  rw [callI_eq]
  by_cases hc : row.length ≤ 60
  · have hc2 : ¬ (60 : Int) < row.length := by omega
    have l0 := loopPt0 (.sl false 1 (E)) (by intro f n; simp) row.length (by omega) row [] hr.1 rfl
    obtain ⟨Y, YL, hY, l2⟩ := loopPt2 E g hE hs row hr row [] rfl .nils [] (.inl ⟨rfl, rfl, rfl⟩)
    simp only [List.nil_append, List.length_nil, show ((0 : Nat) : Int) = 0 from rfl, show atM 0 [] = [] from rfl] at l0 l2
    have hne2 : encGs true true (row.map (ptR g row)) ≠ [] := by simp [encGs, hne]
    rcases hY with ⟨q, _⟩ | ⟨_, rfl, rfl⟩
    · exact absurd q hne2
    · have he : encG true true (row.map (ptR g row)) = .agg [.sl true 1 (encGs true true (row.map (ptR g row)))] := by simp [encG, encM', hne]
      simp only [hc, if_true, he]
      simp [body1_eq _ _ (gp 59) g59, c59, a59, h1, hc, hc2, l0, l2]
  · have hc2 : (60 : Int) < row.length := by omega
    simp [body1_eq _ _ (gp 59) g59, c59, a59, h1, hc, hc2]
end Go.Am
end
section
set_option maxRecDepth 10000
set_option maxHeartbeats 1000000
set_option linter.unusedSimpArgs false
set_option linter.unusedVariables false
namespace Go.Am
open Go.Proofs Go.Sort Go.Shelf
theorem rowOk_mem {n : Nat} : ∀ {l : List Mv} {p : Option Mv}, rowOk n p l = true → ∀ m ∈ l, mvOk n m = true
  | [], _, _, m, hm => by cases hm
  | x :: l, p, h, m, hm => by
    simp only [rowOk, Bool.and_eq_true] at h
    rcases List.mem_cons.1 hm with rfl | hm
    · exact h.1
    · exact rowOk_mem h.2.2 m hm
theorem grOk_to {g : Gr} (h : grOk g = true) : OkTo g ∧ 1 ≤ g.length ∧ g.length ≤ 60 := by
  simp only [grOk, Bool.and_eq_true, decide_eq_true_eq, List.all_eq_true] at h
  refine ⟨fun l hl m hm => ?_, h.1, h.2.1⟩
  have := rowOk_mem (h.2.2 l hl) m hm
  simp only [mvOk, Bool.and_eq_true, decide_eq_true_eq] at this
  exact this.2
theorem noShares_mv : ∀ l : List Mv, noShares (l.map mvP) = true
  | [] => rfl
  | x :: l => by simp [noShares, noShare, mvP]; exact noShares_mv l
theorem noShare_encL (nl : Bool) (l : List Mv) : noShare (encL nl true l) = true := by
  rcases encL_two nl true l with ⟨e, _⟩ | e <;> simp [e, noShare, noShares_mv]
theorem noShares_encGs (nl : Bool) : ∀ g : Gr, noShares (encGs nl true g) = true
  | [] => rfl
  | x :: g => by
    have := noShares_encGs nl g
    simp only [encGs, List.map_cons, noShares] at this ⊢
    simp [this, noShare_encL]
theorem encM_two (nl u : Bool) (g : Gr) : (encM' nl u g = .nils ∧ g = []) ∨ encM' nl u g = .sl u 1 (encGs nl u g) := by
  unfold encM'
  split
  · rename_i h; simp only [Bool.and_eq_true, List.isEmpty_iff] at h; exact .inl ⟨rfl, h.2⟩
  · exact .inr rfl
/-! impl.GraphAct -/
end Go.Am
end
section
set_option maxRecDepth 10000
set_option maxHeartbeats 1000000
set_option linter.unusedSimpArgs false
set_option linter.unusedVariables false
namespace Go.Am
open Go.Proofs Go.Sort Go.Shelf
end Go.Am
end
section
set_option maxRecDepth 10000
set_option maxHeartbeats 1000000
set_option linter.unusedSimpArgs false
set_option linter.unusedVariables false
namespace Go.Am
open Go.Proofs Go.Sort Go.Shelf
end Go.Am
end
