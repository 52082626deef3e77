/- What the functions on sorts yield. -/
import Derived.Test.YtlldnglfoajfcaaPoolEqs
section
set_option maxRecDepth 10000
set_option linter.unusedSimpArgs false
set_option linter.unusedVariables false
namespace Go.Am
open Go.Proofs
/-! slices.ContainsFunc at lists of numbers -/
theorem loopIdxI (cf : Nat) (F : Int → Bool) (rest : List Int) (ih : ∀ x ∈ rest, callI G cf [.i x] [] = some (.b (F x), [])) :
    ∀ (done : List Int), (done ++ rest).length ≤ 9223372036854775807 →
      ∃ r, loopI G [0, 1, 7, 8] [] c160l0 ⟨[(0, .sl false 1 (ints (done ++ rest))), (1, .clo cf []), (7, .i (done ++ rest).length), (8, .i done.length)], [], []⟩ = some r ∧
        ((rest.any F = true ∧ ∃ i : Int, 0 ≤ i ∧ r = (.ret, ⟨[(4, .i i)], [], []⟩)) ∨ (rest.any F = false ∧ r = (.exit 0, ⟨[(0, .sl false 1 (ints (done ++ rest))), (1, .clo cf []), (7, .i (done ++ rest).length), (8, .i (done ++ rest).length), (9, .b false)], [], []⟩))) := by
  induction rest with
  | nil =>
    intro done h
    rw [loopI_eq]
    simp [r160l0, b160l0, ints_len]
  | cons x rest ih2 =>
    intro done h
    rw [loopI_eq]
    have hat := ints_at done x rest
    have hlt2 : (done.length : Int) < (done.length : Int) + ((rest.length : Int) + 1) := by omega
    have hw : IntKind.i64.wrap ((done.length : Int) + 1) = (done.length : Int) + 1 := wr (by simp at h; omega)
    have hc := ih x List.mem_cons_self
    by_cases hs : F x = true
    · simp [r160l0, b160l0, ints_len, hat, hlt2, hc, hw, hs]
    · have hs2 : F x = false := by simpa using hs
      have hn := ih2 (fun y hy => ih y (List.mem_cons_of_mem _ hy)) (done ++ [x]) (by simpa using h)
      simp [r160l0, b160l0, ints_len, hat, hlt2, hc, hw, hs2]
      simpa [hs2, Int.add_assoc] using hn
theorem eqContI (cf : Nat) (F : Int → Bool) (ps : List Int) (hl : ps.length ≤ 9223372036854775807) (ih : ∀ x ∈ ps, callI G cf [.i x] [] = some (.b (F x), [])) : callI G 133 [.sl false 1 (ints ps), .clo cf []] [] = some (.b (ps.any F), []) := by
  have h73 : ∃ i : Int, (decide (0 ≤ i)) = ps.any F ∧ callI G 160 [.sl false 1 (ints ps), .clo cf []] [] = some (.i i, []) := by
    obtain ⟨r, hl, hr⟩ := loopIdxI cf F ps ih [] (by simpa using hl)
    simp only [List.nil_append, List.length_nil, show ((0 : Nat) : Int) = 0 from rfl] at hl hr
    rcases hr with ⟨ha, i, hi, hr⟩ | ⟨ha, hr⟩
    · refine ⟨i, by simp [ha, hi], ?_⟩
      rw [callI_eq]
      simp [body1_eq _ _ (gp 160) g160, c160, a160, ints_len, hl, hr]
    · refine ⟨-1, by simp [ha], ?_⟩
      rw [callI_eq]
      simp [body1_eq _ _ (gp 160) g160, c160, a160, ints_len, hl, hr]
  obtain ⟨i, hi, hc⟩ := h73
  rw [callI_eq]
  simp [body1_eq _ _ (gp 133) g133, c133, a133, hc, hi]
/-! numbers of sorts -/
def nums (xs : List Int) (m : Int) : Bool := decide ((xs.length : Int) = m) && xs.all srt
theorem eqNot3 (x : Int) : callI G 134 [.i x] [] = some (.b (!srt x), []) := by
  rw [callI_eq]
  unfold srt
  by_cases h1 : x < 0
  · have h2 : ¬ 0 ≤ x := by omega
    simp [body1_eq _ _ (gp 134) g134, c134, a134, h1, h2]
  · have h2 : 0 ≤ x := by omega
    by_cases h3 : 3 ≤ x
    · have h4 : ¬ x ≤ 2 := by omega
      simp [body1_eq _ _ (gp 134) g134, c134, a134, h1, h2, h3, h4]
    · have h4 : x ≤ 2 := by omega
      simp [body1_eq _ _ (gp 134) g134, c134, a134, h1, h2, h3, h4]
theorem any_not_srt : ∀ xs : List Int, (xs.any fun x => !srt x) = !xs.all srt
  | [] => rfl
  | x :: xs => by simp [any_not_srt xs]
theorem eqNumsI (xs : List Int) (hl : xs.length ≤ 9223372036854775807) (m : Int) : callI G 77 [.sl false 1 (ints xs), .i m] [] = some (.b (nums xs m), []) := by
  have h := eqContI 134 (fun x => !srt x) xs hl (fun x _ => eqNot3 x)
  rw [any_not_srt] at h
  rw [callI_eq]
  by_cases hm : (xs.length : Int) = m
  · simp [body1_eq _ _ (gp 77) g77, c77, a77, ints_len, hm, h, nums]
  · simp [body1_eq _ _ (gp 77) g77, c77, a77, ints_len, hm, nums]
theorem loop42 (m : Int) (rest : List Int) :
    ∀ (done : List Int), (done ++ rest).length ≤ 9223372036854775807 →
      ∃ r, loopI G [0, 1, 5] [] c73l0 ⟨[(0, .sl false 1 (ints (done ++ rest))), (1, .i m), (5, .i done.length)], [], []⟩ = some r ∧
        ((rest.all srt = false ∧ r = (.ret, ⟨[(4, .b false)], [], []⟩)) ∨ (rest.all srt = true ∧ r = (.exit 0, ⟨[(0, .sl false 1 (ints (done ++ rest))), (1, .i m), (5, .i (done ++ rest).length), (9, .b false)], [], []⟩))) := by
  induction rest with
  | nil =>
    intro done h
    rw [loopI_eq]
    simp [r73l0, b73l0, ints_len]
  | cons u rest ih2 =>
    intro done h
    rw [loopI_eq]
    have hat := ints_at done u rest
    have hlt2 : (done.length : Int) < (done.length : Int) + ((rest.length : Int) + 1) := by omega
    have hw : IntKind.i64.wrap ((done.length : Int) + 1) = (done.length : Int) + 1 := wr (by simp at h; omega)
    have hn := ih2 (done ++ [u]) (by simpa using h)
    by_cases h1 : 0 ≤ u ∧ u ≤ 2
    · simp [r73l0, b73l0, ints_len, hat, hlt2, hw, l6In, h1.1, h1.2]
      simpa [srt, h1.1, h1.2, Int.add_assoc] using hn
    · have h2 : (decide (0 ≤ u) && decide (u ≤ 2)) = false := by
        simp only [Bool.and_eq_false_iff, decide_eq_false_iff_not]; omega
      simp [r73l0, b73l0, ints_len, hat, hlt2, hw, l6In, h2, srt]
theorem eqNumsS (xs : List Int) (hl : xs.length ≤ 9223372036854775807) (m : Int) : callI G 73 [.sl false 1 (ints xs), .i m] [] = some (.b (nums xs m), []) := by
  obtain ⟨r, hlp, hr⟩ := loop42 m xs [] (by simpa using hl)
  simp only [List.nil_append, List.length_nil, show ((0 : Nat) : Int) = 0 from rfl] at hlp hr
  rw [callI_eq]
  rcases hr with ⟨h2, hr⟩ | ⟨h2, hr⟩ <;> simp [body1_eq _ _ (gp 73) g73, c73, a73, ints_len, hlp, hr, h2, nums]
/-! sorted terms -/
def gi (l : List Int) (i : Int) : Int := l.getD i.toNat 0
theorem ints_nth : ∀ (l : List Int) (i : Nat), i < l.length → nth (ints l) i = some (.i (l.getD i 0))
  | x :: l, 0, _ => rfl
  | x :: l, i + 1, h => by
    have := ints_nth l i (by simpa using h)
    simpa [nth, ints] using this
theorem ints_gi (l : List Int) (i : Int) (h0 : 0 ≤ i) (h : i < l.length) : nth (ints l) i.toNat = some (.i (gi l i)) := ints_nth l i.toNat (by omega)
def Srts (n : Nat) (l : List Int) : Prop := l.length = n ∧ ∀ s ∈ l, 0 ≤ s ∧ s < 3
theorem Srts.gi {n l} (h : Srts n l) (i : Int) (h0 : 0 ≤ i) (h1 : i < n) : 0 ≤ gi l i ∧ gi l i < 3 := by
  have hlt : i.toNat < l.length := by rw [h.1]; omega
  have : Go.Am.gi l i ∈ l := by
    unfold Go.Am.gi
    rw [List.getD_eq_getElem?_getD, List.getElem?_eq_getElem hlt]
    exact List.getElem_mem hlt
  exact h.2 _ this
theorem Srts.set {n l} (h : Srts n l) (i : Nat) (v : Int) (hv : 0 ≤ v ∧ v < 3) : Srts n (l.set i v) := by
  refine ⟨by simp [h.1], fun s hs => ?_⟩
  rcases List.mem_or_eq_of_mem_set hs with e | e
  · exact h.2 s e
  · rw [e]; exact hv
def nxt (o x y : Int) (ss cs : List Int) : List Int := if o = 2 then ss.set y.toNat (gi cs (gi ss x)) else if o = 6 then ss.set x.toNat y else ss
def chkS (o x y : Int) (ss cs : List Int) : Bool := if o = 1 then decide (gi ss y = gi cs (gi ss x)) else if o = 7 then decide (gi ss x = gi ss y) else true
mutual
def srtd : Pi → List Int → List Int → Bool
  | .mk o x y ps, ss, cs => chkS o x y ss cs && srtds ps (nxt o x y ss cs) cs
def srtds : List Pi → List Int → List Int → Bool
  | [], _, _ => true
  | p :: ps, ss, cs => srtd p ss cs && srtds ps ss cs
end
/-- What the names of a term say of a list of sorts. -/
def NmS (o x y : Int) : Prop := (o = 1 ∨ o = 2 ∨ o = 7 → (0 ≤ x ∧ x < 30) ∧ (0 ≤ y ∧ y < 30)) ∧ (o = 6 → (0 ≤ x ∧ x < 30) ∧ (0 ≤ y ∧ y < 3))
theorem nmS {o x y : Int} {k : Nat} (hk : kindOK o x y = some (true, k)) : NmS o x y := by
  constructor
  · intro h
    have a0 : ¬ o = 0 := by omega
    have a3 : ¬ o = 3 := by omega
    have a4 : ¬ (o = 4 ∨ o = 5) := by omega
    have a6 : ¬ o = 6 := by omega
    unfold kindOK at hk
    rw [if_neg a0, if_neg a3, if_neg a4, if_neg a6, if_pos h] at hk
    simp [nm_iff] at hk
    exact hk.1
  · intro h
    subst h
    unfold kindOK at hk
    simp [nm_iff] at hk
    omega
theorem nxt_ok {o x y : Int} {ss cs : List Int} (hn : NmS o x y) (h1 : Srts 30 ss) (h2 : Srts 3 cs) : Srts 30 (nxt o x y ss cs) := by
  unfold nxt
  split
  · rename_i h
    have hx := (hn.1 (by omega)).1
    have hg := h1.gi x hx.1 (by omega)
    exact h1.set _ _ (h2.gi _ hg.1 (by omega))
  · split
    · rename_i h
      exact h1.set _ _ (hn.2 h).2
    · exact h1
theorem loop43 (o x y : Int) (ss cs : List Int) (hs : ss.length = 30) (rest : List Pi) (ih : ∀ p ∈ rest, callI G 74 [enc p, .sl false 1 (ints ss), .sl false 1 (ints cs)] [] = some (.b (srtd p ss cs), [])) :
    ∀ (done : List Pi), (done ++ rest).length ≤ 9223372036854775807 →
      ∃ r, loopI G [2, 3, 7, 8] [3, 9, 11] c74l0 ⟨[(2, .sl false 1 (ints cs)), (3, .ref (0, 3) 1 0 0), (7, .own (0, 11) 30), (8, .i done.length)], [(3, .box [.i o, .i x, .i y, .sl false 4 (encs (done ++ rest))]), (11, .row 1 (ints ss))], []⟩ = some r ∧
        ((srtds rest ss cs = false ∧ r = (.ret, ⟨[(6, .b false)], [], []⟩)) ∨ (srtds rest ss cs = true ∧ r = (.exit 1, ⟨[(2, .sl false 1 (ints cs)), (3, .ref (0, 3) 1 0 0), (7, .own (0, 11) 30), (8, .i (done ++ rest).length), (69, .b false)], [(3, .box [.i o, .i x, .i y, .sl false 4 (encs (done ++ rest))]), (11, .row 1 (ints ss))], []⟩))) := by
  induction rest with
  | nil =>
    intro done h
    rw [loopI_eq]
    simp [r74l0, b74l0, encs_len, srtds]
  | cons p rest ih2 =>
    intro done h
    rw [loopI_eq]
    have hat := encs_at done p rest
    have hlt2 : (done.length : Int) < (done.length : Int) + ((rest.length : Int) + 1) := by omega
    have hw : IntKind.i64.wrap ((done.length : Int) + 1) = (done.length : Int) + 1 := wr (by simp at h; omega)
    have hc := ih p List.mem_cons_self
    by_cases hv : srtd p ss cs = true
    · have hn := ih2 (fun y hy => ih y (List.mem_cons_of_mem _ hy)) (done ++ [p]) (by simpa using h)
      obtain ⟨o', a', b', ps⟩ := p
      simp only [enc] at hc hat
      simp [r74l0, b74l0, encs_len, ints_len, hs, fals_ints, hat, hlt2, hc, hw, hv]
      simpa [hv, srtds, Int.add_assoc] using hn
    · have hv : srtd p ss cs = false := by simpa using hv
      obtain ⟨o', a', b', ps⟩ := p
      simp only [enc] at hc hat
      simp [r74l0, b74l0, encs_len, ints_len, hs, fals_ints, hat, hlt2, hc, hw, hv, srtds]
end Go.Am
end
section
set_option maxRecDepth 10000
set_option linter.unusedSimpArgs false
set_option linter.unusedVariables false
namespace Go.Am
open Go.Proofs
theorem b43 (o x y : Int) (ps : List Pi) (ss cs : List Int) (hl : ps.length ≤ 9223372036854775807) (hn : NmS o x y) (h1 : Srts 30 ss) (h2 : Srts 3 cs)
    (ih : ∀ p ∈ ps, ∀ ss, Srts 30 ss → callI G 74 [enc p, .sl false 1 (ints ss), .sl false 1 (ints cs)] [] = some (.b (srtd p ss cs), [])) :
    callI G 74 [enc (.mk o x y ps), .sl false 1 (ints ss), .sl false 1 (ints cs)] [] = some (.b (srtd (.mk o x y ps) ss cs), []) := by
  have hnx := nxt_ok hn h1 h2
  obtain ⟨r, hlp, hr⟩ := loop43 o x y (nxt o x y ss cs) cs hnx.1 ps (fun p hp => ih p hp _ hnx) [] (by simpa using hl)
  simp only [List.nil_append, List.length_nil, show ((0 : Nat) : Int) = 0 from rfl] at hlp hr
  have hs30 : ss.length = 30 := h1.1
  have hs3 : cs.length = 3 := h2.1
  rw [callI_eq]
  by_cases o1 : o = 1
  · subst o1
    obtain ⟨⟨hx0, hx1⟩, hy0, hy1⟩ := hn.1 (.inl rfl)
    have gx := ints_gi ss x hx0 (by omega)
    have gy := ints_gi ss y hy0 (by omega)
    have gg := h1.gi x hx0 (by omega)
    have gc := ints_gi cs (gi ss x) gg.1 (by omega)
    have hnn : nxt 1 x y ss cs = ss := by simp [nxt]
    rw [hnn] at hlp hr
    by_cases he : gi ss y = gi cs (gi ss x)
    · rcases hr with ⟨h3, hr⟩ | ⟨h3, hr⟩ <;> simp [body1_eq _ _ (gp 74) g74, c74, a74, enc, ints_len, hs30, hs3, gx, gy, gc, gg.1, gg.2, hx0, hx1, hy0, hy1, he, hlp, hr, h3, srtd, chkS, hnn]
    · simp [body1_eq _ _ (gp 74) g74, c74, a74, enc, ints_len, hs30, hs3, gx, gy, gc, gg.1, gg.2, hx0, hx1, hy0, hy1, he, srtd, chkS]
  by_cases o7 : o = 7
  · subst o7
    obtain ⟨⟨hx0, hx1⟩, hy0, hy1⟩ := hn.1 (.inr (.inr rfl))
    have gx := ints_gi ss x hx0 (by omega)
    have gy := ints_gi ss y hy0 (by omega)
    have hnn : nxt 7 x y ss cs = ss := by simp [nxt]
    rw [hnn] at hlp hr
    by_cases he : gi ss x = gi ss y
    · rcases hr with ⟨h3, hr⟩ | ⟨h3, hr⟩ <;> simp [body1_eq _ _ (gp 74) g74, c74, a74, enc, ints_len, hs30, hs3, gx, gy, hx0, hx1, hy0, hy1, he, hlp, hr, h3, srtd, chkS, hnn]
    · simp [body1_eq _ _ (gp 74) g74, c74, a74, enc, ints_len, hs30, hs3, gx, gy, hx0, hx1, hy0, hy1, he, srtd, chkS]
  by_cases o2 : o = 2
  · subst o2
    obtain ⟨⟨hx0, hx1⟩, hy0, hy1⟩ := hn.1 (.inr (.inl rfl))
    have gx := ints_gi ss x hx0 (by omega)
    have gy := ints_gi ss y hy0 (by omega)
    have gg := h1.gi x hx0 (by omega)
    have gc := ints_gi cs (gi ss x) gg.1 (by omega)
    have hnn : nxt 2 x y ss cs = ss.set y.toNat (gi cs (gi ss x)) := by simp [nxt]
    rw [hnn] at hlp hr
    rcases hr with ⟨h3, hr⟩ | ⟨h3, hr⟩ <;> simp [body1_eq _ _ (gp 74) g74, c74, a74, enc, ints_len, hs30, hs3, gx, gy, gc, gg.1, gg.2, hx0, hx1, hy0, hy1, unAgg, ints_set, hlp, hr, h3, srtd, chkS, hnn]
  by_cases o6 : o = 6
  · subst o6
    obtain ⟨⟨hx0, hx1⟩, hy0, hy1⟩ := hn.2 rfl
    have gx := ints_gi ss x hx0 (by omega)
    have hnn : nxt 6 x y ss cs = ss.set x.toNat y := by simp [nxt]
    rw [hnn] at hlp hr
    rcases hr with ⟨h3, hr⟩ | ⟨h3, hr⟩ <;> simp [body1_eq _ _ (gp 74) g74, c74, a74, enc, ints_len, hs30, hs3, gx, hx0, hx1, unAgg, ints_set, hlp, hr, h3, srtd, chkS, hnn]
  · have hnn : nxt o x y ss cs = ss := by simp [nxt, o2, o6]
    rw [hnn] at hlp hr
    rcases hr with ⟨h3, hr⟩ | ⟨h3, hr⟩ <;> simp [body1_eq _ _ (gp 74) g74, c74, a74, enc, ints_len, hs30, hs3, o1, o7, o2, o6, hlp, hr, h3, srtd, chkS, hnn]
mutual
theorem eq43 : ∀ p : Pi, Fit p → shape p = true → ∀ ss cs, Srts 30 ss → Srts 3 cs → callI G 74 [enc p, .sl false 1 (ints ss), .sl false 1 (ints cs)] [] = some (.b (srtd p ss cs), [])
  | .mk o x y ps, hf, hs, ss, cs, h1, h2 => by
    simp only [shape] at hs
    rcases hk : kindOK o x y with _ | ⟨ok, k⟩
    · simp [hk] at hs
    simp only [hk, Bool.and_eq_true, decide_eq_true_eq] at hs
    obtain ⟨hs1, hs2, hs3⟩ := hs
    subst hs1
    exact b43 o x y ps ss cs hf.1 (nmS hk) h1 h2 (fun p hp ss h => eq43s ps hf.2 hs3 p hp ss cs h h2)
theorem eq43s : ∀ ps : List Pi, Fits ps → shapes ps = true → ∀ p ∈ ps, ∀ ss cs, Srts 30 ss → Srts 3 cs → callI G 74 [enc p, .sl false 1 (ints ss), .sl false 1 (ints cs)] [] = some (.b (srtd p ss cs), [])
  | [], _, _, p, h, _, _, _, _ => by cases h
  | q :: ps, hf, hs, p, h, ss, cs, h1, h2 => by
    simp only [shapes, Bool.and_eq_true] at hs
    rcases List.mem_cons.1 h with h | h
    · rw [h]; exact eq43 q hf.1 hs.1 ss cs h1 h2
    · exact eq43s ps hf.2 hs.2 p h ss cs h1 h2
end
/-! impl.sortedIn -/
theorem eqCloneI (ss : List Int) (h : ss ≠ []) (hl : ss.length ≤ 4294967296) : callI G 78 [.sl false 1 (ints ss)] [] = some (.sl true 1 (ints ss), []) := by
  rw [callI_eq]
  rcases ss with _ | ⟨s, ss⟩
  · exact absurd rfl h
  · simp only [List.length_cons] at hl
    simp [body1_eq _ _ (gp 78) g78, c78, a78, ints, ints_len, hl]
theorem eq65a (X : OB) (ss cs : List Int) (rest : Stack) (p : Pi) (h : callI G 81 [enc p, .sl false 1 (ints ss), .sl false 1 (ints cs)] [] = some (.b (srtd p ss cs), [])) :
    callI G 136 [enc p, .ref (0, 4) 1 0 0, .ref (0, 5) 1 0 0] ([(3, X), (4, .box [.sl false 1 (ints ss)]), (5, .box [.sl false 1 (ints cs)])] :: rest) = some (.b (!srtd p ss cs), [(3, X), (4, .box [.sl false 1 (ints ss)]), (5, .box [.sl false 1 (ints cs)])] :: rest) := by
  rw [callI_eq]
  obtain ⟨o, x, y, ps⟩ := p
  simp only [enc] at h
  simp [body1_eq _ _ (gp 136) g136, c136, a136, enc, h]
theorem eq65b (d : Nat) (hd : d = 50 ∨ d = 59) (X : OB) (ss cs : List Int) (hs : ss.length = 30) (rest : Stack) (p : Pi) (h : callI G 81 [enc p, .sl false 1 (ints ss), .sl false 1 (ints cs)] [] = some (.b (srtd p ss cs), [])) :
    callI G 136 [enc p, .ref (0, 4) 1 0 0, .ref (0, 5) 1 0 0] ([(3, X), (4, .box [.own (0, d) 30]), (5, .box [.sl false 1 (ints cs)]), (d, .row 1 (ints ss))] :: rest) = some (.b (!srtd p ss cs), [(3, X), (4, .box [.own (0, d) 30]), (5, .box [.sl false 1 (ints cs)]), (d, .row 1 (ints ss))] :: rest) := by
  rw [callI_eq]
  obtain ⟨o, x, y, ps⟩ := p
  simp only [enc] at h
  rcases hd with hd | hd <;> subst hd <;> simp [body1_eq _ _ (gp 136) g136, c136, a136, enc, h, ints_len, hs, fals_ints]
theorem any_not_srtd (ss cs : List Int) : ∀ ps : List Pi, (ps.any fun p => !srtd p ss cs) = !srtds ps ss cs
  | [] => rfl
  | p :: ps => by simp [srtds, any_not_srtd ss cs ps]
theorem b45 (o x y : Int) (ps : List Pi) (ss cs : List Int) (hl : ps.length ≤ 9223372036854775807) (hn : NmS o x y) (h1 : Srts 30 ss) (h2 : Srts 3 cs)
    (ih : ∀ p ∈ ps, ∀ ss, Srts 30 ss → callI G 81 [enc p, .sl false 1 (ints ss), .sl false 1 (ints cs)] [] = some (.b (srtd p ss cs), [])) :
    callI G 81 [enc (.mk o x y ps), .sl false 1 (ints ss), .sl false 1 (ints cs)] [] = some (.b (srtd (.mk o x y ps) ss cs), []) := by
  have hnx := nxt_ok hn h1 h2
  have hs30 : ss.length = 30 := h1.1
  have hs3 : cs.length = 3 := h2.1
  have hne : ss ≠ [] := by intro e; rw [e] at hs30; cases hs30
  have hcl := eqCloneI ss hne (by omega)
  have hca : nxt o x y ss cs = ss → callI G 79 [.sl false 4 (encs ps), .clo 136 [.ref (0, 4) 1 0 0, .ref (0, 5) 1 0 0]] [[(3, .box [.i o, .i x, .i y, .sl false 4 (encs ps)]), (4, .box [.sl false 1 (ints ss)]), (5, .box [.sl false 1 (ints cs)])]] = some (.b (!srtds ps ss cs), [[(3, .box [.i o, .i x, .i y, .sl false 4 (encs ps)]), (4, .box [.sl false 1 (ints ss)]), (5, .box [.sl false 1 (ints cs)])]]) := by
    intro e
    rw [← any_not_srtd]
    exact eq53c 136 _ _ (fun p => !srtd p ss cs) rfl rfl (by intro g; simp) rfl (by intro g; simp) ps hl (fun p hp => eq65a _ ss cs [[], []] p (ih p hp ss h1))
  have hcb : ∀ d, d = 50 ∨ d = 59 → callI G 79 [.sl false 4 (encs ps), .clo 136 [.ref (0, 4) 1 0 0, .ref (0, 5) 1 0 0]] [[(3, .box [.i o, .i x, .i y, .sl false 4 (encs ps)]), (4, .box [.own (0, d) 30]), (5, .box [.sl false 1 (ints cs)]), (d, .row 1 (ints (nxt o x y ss cs)))]] = some (.b (!srtds ps (nxt o x y ss cs) cs), [[(3, .box [.i o, .i x, .i y, .sl false 4 (encs ps)]), (4, .box [.own (0, d) 30]), (5, .box [.sl false 1 (ints cs)]), (d, .row 1 (ints (nxt o x y ss cs)))]]) := by
    intro d hd
    rw [← any_not_srtd]
    exact eq53c 136 _ _ (fun p => !srtd p (nxt o x y ss cs) cs) rfl rfl (by intro g; simp) rfl (by intro g; simp) ps hl (fun p hp => eq65b d hd _ _ cs hnx.1 [[], []] p (ih p hp _ hnx))
  rw [callI_eq]
  by_cases o1 : o = 1
  · subst o1
    obtain ⟨⟨hx0, hx1⟩, hy0, hy1⟩ := hn.1 (.inl rfl)
    have gx := ints_gi ss x hx0 (by omega)
    have gy := ints_gi ss y hy0 (by omega)
    have gg := h1.gi x hx0 (by omega)
    have gc := ints_gi cs (gi ss x) gg.1 (by omega)
    have hnn : nxt 1 x y ss cs = ss := by simp [nxt]
    have hca := hca hnn
    by_cases he : gi ss y = gi cs (gi ss x)
    · simp [body1_eq _ _ (gp 81) g81, c81, a81, enc, ints_len, hs30, hs3, gx, gy, gc, gg.1, gg.2, hx0, hx1, hy0, hy1, he, hca, srtd, chkS, hnn]
    · simp [body1_eq _ _ (gp 81) g81, c81, a81, enc, ints_len, hs30, hs3, gx, gy, gc, gg.1, gg.2, hx0, hx1, hy0, hy1, he, srtd, chkS]
  by_cases o7 : o = 7
  · subst o7
    obtain ⟨⟨hx0, hx1⟩, hy0, hy1⟩ := hn.1 (.inr (.inr rfl))
    have gx := ints_gi ss x hx0 (by omega)
    have gy := ints_gi ss y hy0 (by omega)
    have hnn : nxt 7 x y ss cs = ss := by simp [nxt]
    have hca := hca hnn
    by_cases he : gi ss x = gi ss y
    · simp [body1_eq _ _ (gp 81) g81, c81, a81, enc, ints_len, hs30, hs3, gx, gy, hx0, hx1, hy0, hy1, he, hca, srtd, chkS, hnn]
    · simp [body1_eq _ _ (gp 81) g81, c81, a81, enc, ints_len, hs30, hs3, gx, gy, hx0, hx1, hy0, hy1, he, srtd, chkS]
  by_cases o2 : o = 2
  · subst o2
    obtain ⟨⟨hx0, hx1⟩, hy0, hy1⟩ := hn.1 (.inr (.inl rfl))
    have gx := ints_gi ss x hx0 (by omega)
    have gy := ints_gi ss y hy0 (by omega)
    have gg := h1.gi x hx0 (by omega)
    have gc := ints_gi cs (gi ss x) gg.1 (by omega)
    have hnn : nxt 2 x y ss cs = ss.set y.toNat (gi cs (gi ss x)) := by simp [nxt]
    have hcb := hcb 50 (.inl rfl)
    rw [hnn] at hcb
    simp [body1_eq _ _ (gp 81) g81, c81, a81, enc, ints_len, hs30, hs3, gx, gy, gc, gg.1, gg.2, hx0, hx1, hy0, hy1, hcl, unAgg, ints_set, hcb, srtd, chkS, hnn]
  by_cases o6 : o = 6
  · subst o6
    obtain ⟨⟨hx0, hx1⟩, hy0, hy1⟩ := hn.2 rfl
    have gx := ints_gi ss x hx0 (by omega)
    have hnn : nxt 6 x y ss cs = ss.set x.toNat y := by simp [nxt]
    have hcb := hcb 59 (.inr rfl)
    rw [hnn] at hcb
    simp [body1_eq _ _ (gp 81) g81, c81, a81, enc, ints_len, hs30, hs3, gx, hx0, hx1, hcl, unAgg, ints_set, hcb, srtd, chkS, hnn]
  · have hnn : nxt o x y ss cs = ss := by simp [nxt, o2, o6]
    have hca := hca hnn
    simp [body1_eq _ _ (gp 81) g81, c81, a81, enc, ints_len, hs30, hs3, o1, o7, o2, o6, hca, srtd, chkS, hnn]
mutual
theorem eq45 : ∀ p : Pi, Fit p → shape p = true → ∀ ss cs, Srts 30 ss → Srts 3 cs → callI G 81 [enc p, .sl false 1 (ints ss), .sl false 1 (ints cs)] [] = some (.b (srtd p ss cs), [])
  | .mk o x y ps, hf, hs, ss, cs, h1, h2 => by
    simp only [shape] at hs
    rcases hk : kindOK o x y with _ | ⟨ok, k⟩
    · simp [hk] at hs
    simp only [hk, Bool.and_eq_true, decide_eq_true_eq] at hs
    obtain ⟨hs1, hs2, hs3⟩ := hs
    subst hs1
    exact b45 o x y ps ss cs hf.1 (nmS hk) h1 h2 (fun p hp ss h => eq45s ps hf.2 hs3 p hp ss cs h h2)
theorem eq45s : ∀ ps : List Pi, Fits ps → shapes ps = true → ∀ p ∈ ps, ∀ ss cs, Srts 30 ss → Srts 3 cs → callI G 81 [enc p, .sl false 1 (ints ss), .sl false 1 (ints cs)] [] = some (.b (srtd p ss cs), [])
  | [], _, _, p, h, _, _, _, _ => by cases h
  | q :: ps, hf, hs, p, h, ss, cs, h1, h2 => by
    simp only [shapes, Bool.and_eq_true] at hs
    rcases List.mem_cons.1 h with h | h
    · rw [h]; exact eq45 q hf.1 hs.1 ss cs h1 h2
    · exact eq45s ps hf.2 hs.2 p h ss cs h1 h2
end
/-! PiSorted -/
def piSorted (p : Pi) (ss cs : List Int) : Bool := ok p && (nums ss 30 && (nums cs 3 && srtd p ss cs))
theorem nums_srts {xs : List Int} {n : Nat} (h : nums xs n = true) : Srts n xs := by
  unfold nums at h
  simp only [Bool.and_eq_true, decide_eq_true_eq, List.all_eq_true, srt] at h
  exact ⟨by omega, fun s hs => by have := h.2 s hs; omega⟩
theorem ok_shape {p : Pi} (h : ok p = true) : shape p = true := by unfold ok at h; simp at h; exact h.2
end Go.Am
end
section
set_option maxRecDepth 10000
set_option linter.unusedSimpArgs false
set_option linter.unusedVariables false
namespace Go.Am
open Go.Proofs
def over (l : List Int) : Nat → List Int → List Int
  | _, [] => l
  | i, x :: xs => over (l.set i x) (i + 1) xs
theorem over_len : ∀ (xs l : List Int) (i : Nat), (over l i xs).length = l.length
  | [], _, _ => rfl
  | x :: xs, l, i => by simp [over, over_len xs]
theorem over_eq : ∀ (xs l : List Int) (i : Nat), i + xs.length ≤ l.length → over l i xs = l.take i ++ xs ++ l.drop (i + xs.length)
  | [], l, i, h => by simp [over]
  | x :: xs, l, i, h => by
    simp only [List.length_cons] at h
    simp only [over]
    rw [over_eq xs (l.set i x) (i + 1) (by simp; omega), List.set_eq_take_append_cons_drop]
    have hi : i < l.length := by omega
    simp only [hi, if_true, List.length_cons]
    rw [List.take_append, List.drop_append]
    have h1 : (l.take i).length = i := by simp; omega
    have e1 : i + 1 - i = 1 := by omega
    have e2 : i + 1 + xs.length - i = xs.length + 1 := by omega
    have e3 : i + (xs.length + 1) = i + 1 + xs.length := by omega
    simp [h1, e1, e2, e3, List.take_of_length_le, List.drop_eq_nil_of_le, h1]
    omega
theorem over_srts : ∀ (xs l : List Int) (i n : Nat), Srts n l → (∀ x ∈ xs, 0 ≤ x ∧ x < 3) → Srts n (over l i xs)
  | [], _, _, _, h, _ => h
  | x :: xs, l, i, n, h, hx => over_srts xs _ _ n (h.set i x (hx x List.mem_cons_self)) (fun y hy => hx y (List.mem_cons_of_mem _ hy))
theorem srt_spec {ss : List Int} (h : ss.all srt = true) : ∀ x ∈ ss, 0 ≤ x ∧ x < 3 := fun x hx => by
  have := List.all_eq_true.1 h x hx
  simp only [srt, Bool.and_eq_true, decide_eq_true_eq] at this
  omega
theorem scs_ints : ∀ xs : List Int, scs (ints xs) = true
  | [] => rfl
  | x :: xs => by simp [ints, scs, scs_ints xs]
theorem ints_take : ∀ (n : Nat) (a : List Int), (ints a).take n = ints (a.take n)
  | 0, _ => by simp [ints]
  | n + 1, [] => rfl
  | n + 1, x :: a => by simp [ints, ints_take n a]
theorem ints_drop : ∀ (n : Nat) (a : List Int), (ints a).drop n = ints (a.drop n)
  | 0, _ => by simp
  | n + 1, [] => rfl
  | n + 1, x :: a => by simp [ints, ints_drop n a]
def poolSorted (ss : List Int) (ms : List Pi) (st cs : List Int) : Bool := poolI ss ms && (nums st 30 && (nums cs 3 && srtds ms (over st 6 ss) cs))
theorem pool_shapes {ss : List Int} {ms : List Pi} (h : poolI ss ms = true) : ss.length ≤ 4 ∧ (∀ x ∈ ss, 0 ≤ x ∧ x < 3) ∧ ∀ p ∈ ms, shape p = true := by
  unfold poolI at h
  simp only [Bool.and_eq_true, decide_eq_true_eq] at h
  obtain ⟨h1, h2, h3⟩ := h
  refine ⟨h1, srt_spec h2, fun p hp => ?_⟩
  have h4 : (ms.any fun p => !mok ss.length p) = false := by simpa using h3
  have h5 : mok ss.length p = true := by
    by_cases hm : mok ss.length p = true
    · exact hm
    · have : (ms.any fun p => !mok ss.length p) = true := List.any_eq_true.2 ⟨p, hp, by simpa using hm⟩
      rw [h4] at this; cases this
  unfold mok at h5
  simp only [Bool.and_eq_true] at h5
  exact ok_shape h5.1.1
/-! spec.PoolSorted -/
theorem loopPS0 (C b : PV) (hb : ∀ g n, known g n b = true) (hC : ∀ g n, known g n C = true) : ∀ (rest done st : List Int), st.length = 30 → done.length + rest.length ≤ 4 →
    loopI G [2, 3, 7, 8] [3, 23, 25] c27l0 ⟨[(2, C), (3, .ref (0, 3) 1 0 0), (7, .own (0, 25) 30), (8, .i done.length)], [(3, .box [.sl false 1 (ints (done ++ rest)), b]), (25, .row 1 (ints st))], []⟩ =
      some (.exit 0, ⟨[(2, C), (3, .ref (0, 3) 1 0 0), (7, .own (0, 25) 30), (8, .i (done ++ rest).length), (30, .b false)], [(3, .box [.sl false 1 (ints (done ++ rest)), b]), (25, .row 1 (ints (over st (6 + done.length) rest)))], []⟩)
  | [], done, st, hs, h => by
    rw [loopI_eq]
    simp [r27l0, b27l0, ints_len, hb, hC, over]
  | x :: rest, done, st, hs, h => by
    simp only [List.length_cons] at h
    have hat := ints_at done x rest
    have hlt : (done.length : Int) < (done.length : Int) + ((rest.length : Int) + 1) := by omega
    have hw : IntKind.i64.wrap ((done.length : Int) + 1) = (done.length : Int) + 1 := wr (by omega)
    have hw6 : IntKind.i64.wrap (6 + (done.length : Int)) = 6 + (done.length : Int) := wr (by omega)
    have hn := loopPS0 C b hb hC rest (done ++ [x]) (st.set (6 + done.length) x) (by simp [hs]) (by simp; omega)
    have hi1 : (0 : Int) ≤ 6 + done.length := by omega
    have hi2 : (6 : Int) + done.length < 30 := by omega
    have htn : (6 + (done.length : Int)).toNat = 6 + done.length := by omega
    have hnth : nth (ints st) (6 + done.length) = some (.i (gi st (6 + done.length))) := by
      have := ints_gi st (6 + done.length) (by omega) (by omega)
      rwa [htn] at this
    rw [loopI_eq]
    simp [r27l0, b27l0, ints_len, hb, hC, hlt, hat, hw, hw6, hi1, hi2, hs, htn, hnth, unAgg, ints_set]
    simpa [over, Nat.add_assoc, Int.add_assoc] using hn
theorem loopPS1 (ss cs st : List Int) (h1 : Srts 30 st) (h2 : Srts 3 cs) : ∀ (rest done : List Pi), Fits rest → (∀ p ∈ rest, shape p = true) → (done ++ rest).length ≤ 9223372036854775807 →
    ∃ r, loopI G [2, 3, 7, 9] [3, 23, 25] c27l1 ⟨[(2, .sl false 1 (ints cs)), (3, .ref (0, 3) 1 0 0), (7, .own (0, 25) 30), (9, .i done.length)], [(3, .box [.sl false 1 (ints ss), .sl false 4 (encs (done ++ rest))]), (25, .row 1 (ints st))], []⟩ = some r ∧
      ((srtds rest st cs = false ∧ r = (.ret, ⟨[(6, .b false)], [], []⟩)) ∨ (srtds rest st cs = true ∧ r = (.exit 2, ⟨[(2, .sl false 1 (ints cs)), (3, .ref (0, 3) 1 0 0), (7, .own (0, 25) 30), (9, .i (done ++ rest).length), (46, .b false)], [(3, .box [.sl false 1 (ints ss), .sl false 4 (encs (done ++ rest))]), (25, .row 1 (ints st))], []⟩)))
  | [], done, hf, hs, h => by
    rw [loopI_eq]
    have hs30 : st.length = 30 := h1.1
    refine ⟨_, ?_, .inr ⟨rfl, rfl⟩⟩
    simp [r27l1, b27l1, encs_len, ints_len, hs30]
  | p :: rest, done, hf, hs, h => by
    have hs30 : st.length = 30 := h1.1
    have hat := encs_at done p rest
    have hlt : (done.length : Int) < (done.length : Int) + ((rest.length : Int) + 1) := by omega
    have hw : IntKind.i64.wrap ((done.length : Int) + 1) = (done.length : Int) + 1 := wr (by simp at h; omega)
    have h43 := eq43 p hf.1 (hs p List.mem_cons_self) st cs h1 h2
    obtain ⟨r, hr1, hr2⟩ := loopPS1 ss cs st h1 h2 rest (done ++ [p]) hf.2 (fun q hq => hs q (List.mem_cons_of_mem _ hq)) (by simpa using h)
    rw [loopI_eq]
    obtain ⟨o, x, y, ps⟩ := p
    simp only [enc] at hat h43
    cases hv : srtd (.mk o x y ps) st cs with
    | false =>
      rw [hv] at h43
      refine ⟨_, ?_, .inl ⟨by simp [srtds, hv], rfl⟩⟩
      simp [r27l1, b27l1, encs_len, ints_len, hs30, hlt, hat, fals_ints, h43]
    | true =>
      rw [hv] at h43
      refine ⟨r, ?_, by simpa [srtds, hv] using hr2⟩
      simp [r27l1, b27l1, encs_len, ints_len, hs30, hlt, hat, fals_ints, h43, hw]
      simpa [Int.add_assoc] using hr1
theorem eqPoolSortedS (ss : List Int) (ms : List Pi) (hl : ss.length ≤ 9223372036854775807) (hm : ms.length ≤ 9223372036854775807) (hf : Fits ms) (st cs : List Int) (h1 : st.length ≤ 9223372036854775807) (h2 : cs.length ≤ 9223372036854775807) :
    callI G 27 [encPool ss ms, .sl false 1 (ints st), .sl false 1 (ints cs)] [] = some (.b (poolSorted ss ms st cs), []) := by
  have a1 := eqPoolOkS ss ms hl hm hf
  rw [pool_same] at a1
  have a2 := eqNumsS st h1 30
  have a3 := eqNumsS cs h2 3
  unfold poolSorted
  rw [callI_eq]
  by_cases b1 : poolI ss ms = true
  · obtain ⟨q1, q2, q3⟩ := pool_shapes b1
    by_cases b2 : nums st 30 = true
    · by_cases b3 : nums cs 3 = true
      · have s1 := nums_srts b2
        have s2 := nums_srts b3
        have hs30 : st.length = 30 := s1.1
        have l0 := loopPS0 (.sl false 1 (ints cs)) (.sl false 4 (encs ms)) (by intro g n; simp) (by intro g n; simp) ss [] st hs30 (by simpa using q1)
        obtain ⟨r, l1, hr⟩ := loopPS1 ss cs (over st 6 ss) (over_srts ss st 6 30 s1 q2) s2 ms [] hf q3 (by simpa using hm)
        simp only [List.nil_append, List.length_nil, show ((0 : Nat) : Int) = 0 from rfl, Nat.add_zero] at l0 l1
        rcases hr with ⟨hr1, hr⟩ | ⟨hr1, hr⟩
        · subst hr
          simp [body1_eq _ _ (gp 27) g27, c27, a27, a1, a2, a3, b1, b2, b3, ints_len, hs30, l0, l1, hr1]
        · subst hr
          simp [body1_eq _ _ (gp 27) g27, c27, a27, a1, a2, a3, b1, b2, b3, ints_len, hs30, l0, l1, hr1]
      · have b3 : nums cs 3 = false := by simpa using b3
        simp [body1_eq _ _ (gp 27) g27, c27, a27, a1, a2, a3, b1, b2, b3]
    · have b2 : nums st 30 = false := by simpa using b2
      simp [body1_eq _ _ (gp 27) g27, c27, a27, a1, a2, b1, b2]
  · have b1 : poolI ss ms = false := by simpa using b1
    simp [body1_eq _ _ (gp 27) g27, c27, a27, a1, b1]
end Go.Am
end
section
set_option maxRecDepth 10000
set_option linter.unusedSimpArgs false
set_option linter.unusedVariables false
namespace Go.Am
open Go.Proofs
theorem eqPSc (X : OB) (st cs : List Int) (hs : st.length = 30) (rest : Stack) (p : Pi) (h : callI G 81 [enc p, .sl false 1 (ints st), .sl false 1 (ints cs)] [] = some (.b (srtd p st cs), [])) :
    callI G 80 [enc p, .ref (0, 4) 1 0 0, .ref (0, 5) 1 0 0] ([(3, X), (4, .box [.own (0, 21) 30]), (5, .box [.sl false 1 (ints cs)]), (21, .row 1 (ints st))] :: rest) = some (.b (!srtd p st cs), [(3, X), (4, .box [.own (0, 21) 30]), (5, .box [.sl false 1 (ints cs)]), (21, .row 1 (ints st))] :: rest) := by
  rw [callI_eq]
  obtain ⟨o, x, y, ps⟩ := p
  simp only [enc] at h
  simp [body1_eq _ _ (gp 80) g80, c80, a80, enc, h, ints_len, hs, fals_ints]
theorem eqPoolSortedI (ss : List Int) (ms : List Pi) (hl : ss.length ≤ 9223372036854775807) (hm : ms.length ≤ 9223372036854775807) (hf : Fits ms) (st cs : List Int) (h1 : st.length ≤ 9223372036854775807) (h2 : cs.length ≤ 9223372036854775807) :
    callI G 30 [encPool ss ms, .sl false 1 (ints st), .sl false 1 (ints cs)] [] = some (.b (poolSorted ss ms st cs), []) := by
  have a1 := eqPoolOkI ss ms hl hm hf
  have a2 := eqNumsI st h1 30
  have a3 := eqNumsI cs h2 3
  unfold poolSorted
  rw [callI_eq]
  by_cases b1 : poolI ss ms = true
  · obtain ⟨q1, q2, q3⟩ := pool_shapes b1
    by_cases b2 : nums st 30 = true
    · by_cases b3 : nums cs 3 = true
      · have s1 := nums_srts b2
        have s2 := nums_srts b3
        have hs30 : st.length = 30 := s1.1
        have hne : st ≠ [] := by intro e; rw [e] at hs30; cases hs30
        have hcl := eqCloneI st hne (by omega)
        have ho := over_srts ss st 6 30 s1 q2
        have hca := eq53c 80 [.ref (0, 4) 1 0 0, .ref (0, 5) 1 0 0] [[(3, .box [.sl false 1 (ints ss), .sl false 4 (encs ms)]), (4, .box [.own (0, 21) 30]), (5, .box [.sl false 1 (ints cs)]), (21, .row 1 (ints (over st 6 ss)))]] (fun p => !srtd p (over st 6 ss) cs) rfl rfl (by intro g; simp) rfl (by intro g; simp) ms hm (fun p hp => eqPSc _ _ cs ho.1 [[], []] p (eq45 p (fits_mem hf p hp) (q3 p hp) _ cs ho s2))
        rw [any_not_srtd] at hca
        have hmin : min 24 ss.length = ss.length := by omega
        have hrow : List.take 6 (ints st) ++ (List.take ss.length (ints ss) ++ List.drop (6 + ss.length) (ints st)) = ints (over st 6 ss) := by
          rw [over_eq ss st 6 (by omega), ints_take, ints_take, ints_drop, ints_app, ints_app, List.take_length, List.append_assoc]
        simp [body1_eq _ _ (gp 30) g30, c30, a30, a1, a2, a3, b1, b2, b3, ints_len, hs30, hcl, scs_ints, hmin, hrow, hca]
      · have b3 : nums cs 3 = false := by simpa using b3
        simp [body1_eq _ _ (gp 30) g30, c30, a30, a1, a2, a3, b1, b2, b3]
    · have b2 : nums st 30 = false := by simpa using b2
      simp [body1_eq _ _ (gp 30) g30, c30, a30, a1, a2, b1, b2]
  · have b1 : poolI ss ms = false := by simpa using b1
    simp [body1_eq _ _ (gp 30) g30, c30, a30, a1, b1]
theorem lawPoolSorted (ss : List Int) (ms : List Pi) (hl : ss.length ≤ 9223372036854775807) (hm : ms.length ≤ 9223372036854775807) (hf : Fits ms) (st cs : List Int) (h1 : st.length ≤ 9223372036854775807) (h2 : cs.length ≤ 9223372036854775807) :
    callI G 4 [encPool ss ms, .sl false 1 (ints st), .sl false 1 (ints cs)] [] = some (.b true, []) := by
  have hz := eqSzPool ss ms 1048576 (by omega) (by omega) hl hm hf
  rw [callI_eq]
  by_cases c1 : (1048576 : Int) < st.length
  · simp [body1_eq _ _ (gp 4) g4, c4, a4, ints_len, c1]
  by_cases c2 : (1048576 : Int) < cs.length
  · simp [body1_eq _ _ (gp 4) g4, c4, a4, ints_len, c1, c2]
  by_cases hs : szPool ss ms 1048576 < 0
  · simp [body1_eq _ _ (gp 4) g4, c4, a4, ints_len, c1, c2, hz, hs]
  · obtain ⟨q1, q2, q3⟩ := szPool_small ss ms 1048576 (by omega) (by omega) hs
    have ht := eqToPool ss ms q1 q2 q3
    have t1 := eqToIntS st (by omega)
    have t2 := eqToIntS cs (by omega)
    have e1 := eqEqIntS st h1
    have e2 := eqEqIntS cs h2
    have hS := eqPoolSortedS ss ms hl hm hf st cs h1 h2
    have hI := eqPoolSortedI ss ms hl hm hf st cs h1 h2
    have h3 := eqEqPool ss ms hl hm hf
    simp [body1_eq _ _ (gp 4) g4, c4, a4, ints_len, c1, c2, hz, hs, ht, t1, t2, e1, e2, hS, hI, h3, fals_encU, encUs_len, ints_len, fals_ints]
end Go.Am
end
