/- What is marked, and which names are free. -/
import Derived.Test.YtifebchegfnajaaPoolEqs
section
set_option maxRecDepth 10000
set_option linter.unusedSimpArgs false
set_option linter.unusedVariables false
namespace Go.Am
open Go.Proofs
/-! #### objects of outer frames -/
def getS (o : Stack) (id : Id) : Option OB := (o[id.1]?).bind (getO · id.2)
def setS (o : Stack) (id : Id) (ob : OB) : Stack := o.modify id.1 (setO · id.2 ob)
theorem setS_len (o : Stack) (id : Id) (ob : OB) : (setS o id ob).length = o.length := by simp [setS]
theorem setO_setO (d : Nat) (a b : OB) : ∀ l : Objs, setO (setO l d a) d b = setO l d b
  | [] => by simp [setO]
  | (k, v) :: l => by
    by_cases h : k = d
    · simp [setO, h]
    · simp [setO, h, setO_setO d a b l]
theorem setS_setS (o : Stack) (id : Id) (a b : OB) : setS (setS o id a) id b = setS o id b := by
  unfold setS
  apply List.ext_getElem?
  intro i
  simp only [List.getElem?_modify]
  by_cases h : id.1 = i
  · subst h
    cases o[id.1]? with
    | none => simp
    | some l => simp [setO_setO]
  · simp [h]
theorem getS_setS {o : Stack} {id : Id} (h : id.1 < o.length) (a : OB) : getS (setS o id a) id = some a := by
  unfold getS setS
  rw [List.getElem?_modify, List.getElem?_eq_getElem h]
  simp [getO_setO]
theorem get_low {r l} {o : Stack} {id : Id} (h : id.1 < o.length) : St.get ⟨r, l, o⟩ id = getS o id := by
  have : ¬ id.1 = o.length := by omega
  simp [St.get, getS, this]
theorem set_low {r l} {o : Stack} {id : Id} {ob : OB} (h : id.1 < o.length) : St.set ⟨r, l, o⟩ id ob = ⟨r, l, setS o id ob⟩ := by
  have : ¬ id.1 = o.length := by omega
  simp [St.set, setS, this]
theorem get_own {r l} {o : Stack} {d : Nat} : St.get ⟨r, l, o⟩ (o.length, d) = getO l d := by simp [St.get]
theorem set_own {r l} {o : Stack} {d : Nat} {ob : OB} : St.set ⟨r, l, o⟩ (o.length, d) ob = ⟨r, setO l d ob, o⟩ := by simp [St.set]
theorem getS_last (o : Stack) (l : Objs) (d : Nat) : getS (o ++ [l]) (o.length, d) = getO l d := by simp [getS]
theorem setS_last (o : Stack) (l : Objs) (d : Nat) (ob : OB) : setS (o ++ [l]) (o.length, d) ob = o ++ [setO l d ob] := by
  unfold setS
  apply List.ext_getElem?
  intro i
  simp only [List.getElem?_modify]
  rcases Nat.lt_trichotomy i o.length with h | h | h
  · have : ¬ o.length = i := by omega
    simp [List.getElem?_append_left, h, this]
  · subst h; simp
  · have : ¬ o.length = i := by omega
    rw [List.getElem?_eq_none (by simp; omega), List.getElem?_eq_none (by simp; omega)]
    rfl
/-! #### marked terms -/
theorem encUs_cons (p : Pi) (ps : List Pi) : encUs (p :: ps) = encU p :: encUs ps := rfl
def mkd : Int → List Pi → List PV
  | _, [] => []
  | k, p :: ps => .agg [.i k, .i (k + 1), .i (k + 2), .undef] :: mkd (k + 3 * cnt p) ps
theorem mkd_len : ∀ (k : Int) (ps : List Pi), (mkd k ps).length = ps.length
  | _, [] => rfl
  | k, p :: ps => by simp [mkd, mkd_len _ ps]
theorem at_D (D : List PV) (x : PV) (E : List PV) (n : Nat) (h : n = D.length) : nth (D ++ x :: E) n = some x := by
  subst h
  unfold nth
  rw [List.getElem?_append_right (Nat.le_refl _)]
  simp
theorem set_D (D : List PV) (x y : PV) (E : List PV) (n : Nat) (h : n = D.length) : (D ++ x :: E).set n y = D ++ y :: E := by
  subst h
  rw [List.set_append_right _ _ (Nat.le_refl _)]
  simp
theorem loop48 (id : Id) (N : Nat) (rest : List Pi) (ih : ∀ p ∈ rest, ∀ o x y qs, p = .mk o x y qs → ∀ (st : Stack) (d : Nat) (k : Int), 0 ≤ k → k + 3 * cnts qs ≤ 1152921504606846976 →
      callI G 31 [.own (st.length, d) qs.length, .i k] (st ++ [[(d, .row 4 (encUs qs))]]) = some (.i (k + 3 * cnts qs), st ++ [[(d, .row 4 (mkd k qs))]])) :
    ∀ (D : List PV) (k : Int) (o : Stack), id.1 < o.length → getS o id = some (.row 4 (D ++ encUs rest)) → N = D.length + rest.length → N ≤ 1152921504606846976 → 0 ≤ k → k + 3 * cnts rest ≤ 1152921504606846976 → ∀ i : Int, i = D.length →
      loopI G [0, 1, 5] [] c31l0 ⟨[(0, .own id N), (1, .i k), (5, .i i)], [], o⟩ =
        some (.exit 0, ⟨[(0, .own id N), (1, .i (k + 3 * cnts rest)), (5, .i N), (9, .b false)], [], setS o id (.row 4 (D ++ mkd k rest))⟩) := by
  induction rest with
  | nil =>
    intro D k o hid hg hN hNN hk0 hk i hi
    rw [loopI_eq]
    have hne : ¬ id.1 = o.length := by omega
    have e1 : i = N := by rw [hi, hN]; simp
    have e2 : setS o id (.row 4 (D ++ mkd k [])) = o := by
      unfold setS
      apply List.ext_getElem?
      intro j
      rw [List.getElem?_modify]
      by_cases h : id.1 = j
      · subst h
        unfold getS at hg
        cases hl : o[id.1]? with
        | none => rw [hl] at hg; cases hg
        | some l =>
          rw [hl] at hg
          simp only [Option.bind_some] at hg
          simp only [if_true, mkd]
          have : ∀ l : Objs, getO l id.2 = some (.row 4 (D ++ encUs [])) → setO l id.2 (.row 4 (D ++ [])) = l := by
            intro l
            induction l with
            | nil => intro h; cases h
            | cons a l ih =>
              obtain ⟨k, v⟩ := a
              intro h
              simp only [getO] at h
              by_cases hk : k = id.2
              · rw [if_pos hk] at h
                simp only [Option.some.injEq] at h
                simp [setO, hk, h, encUs]
              · rw [if_neg hk] at h
                have hh := ih h
                simp only [setO, if_neg hk, hh]
          show (some (setO l id.2 (.row 4 (D ++ [])))) = some l
          rw [this l hg]
      · simp [h]
    rw [e2]
    have hlN : ¬ i < N := by omega
    have hl : N = (D ++ encUs []).length := by simp [encUs, hN]
    have hget : ∀ r l, St.get ⟨r, l, o⟩ id = some (.row 4 (D ++ encUs [])) := fun r l => by rw [get_low hid, hg]
    simp [-St.get, -St.set, r31l0, b31l0, hne, hget, e1, cnts, encUs, hN]
  | cons p rest ih2 =>
    intro D k o hid hg hN hNN hk0 hk i hi
    obtain ⟨po, px, py, qs⟩ := p
    rw [loopI_eq]
    have hne : ¬ id.1 = o.length := by omega
    have hcp := cnts_pos rest
    have hcq := cnts_pos qs
    have hcc : cnts (.mk po px py qs :: rest) = 1 + cnts qs + cnts rest := rfl
    have hcn : cnt (.mk po px py qs) = 1 + cnts qs := rfl
    rw [hcc] at hk
    have hlt : i < N := by simp at hN; omega
    have hge : 0 ≤ i := by omega
    have htn : i.toNat = D.length := by omega
    have hlen : N = (D ++ encUs (.mk po px py qs :: rest)).length := by simp [encUs_len, hN]
    have hget : ∀ r l, St.get ⟨r, l, o⟩ id = some (.row 4 (D ++ encU (.mk po px py qs) :: encUs rest)) := fun r l => by rw [get_low hid, hg, encUs_cons]
    have hget2 : ∀ r l R, St.get ⟨r, l, setS o id R⟩ id = some R := fun r l R => by rw [get_low (by rw [setS_len]; exact hid), getS_setS hid]
    have hset : ∀ r l R, St.set ⟨r, l, o⟩ id R = ⟨r, l, setS o id R⟩ := fun r l R => set_low hid
    have hset2 : ∀ r l R Q, St.set ⟨r, l, setS o id R⟩ id Q = ⟨r, l, setS o id Q⟩ := fun r l R Q => by rw [set_low (by rw [setS_len]; exact hid), setS_setS]
    have hgo : ∀ r l R d, St.get ⟨r, l, setS o id R⟩ (o.length, d) = getO l d := fun r l R d => by rw [← setS_len o id R, get_own]
    have hso : ∀ r l R d ob, St.set ⟨r, l, setS o id R⟩ (o.length, d) ob = ⟨r, setO l d ob, setS o id R⟩ := fun r l R d ob => by rw [← setS_len o id R, set_own]
    have hw : IntKind.i64.wrap (i + 1) = i + 1 := wr (by omega)
    have hw1 : IntKind.i64.wrap (k + 1) = k + 1 := wr (by omega)
    have hw2 : IntKind.i64.wrap (k + 1 + 1) = k + 1 + 1 := wr (by omega)
    have hw3 : IntKind.i64.wrap (k + 1 + 1 + 1) = k + 1 + 1 + 1 := wr (by omega)
    have hat := fun x => at_D D x (encUs rest) i.toNat htn
    have hst := fun x y => set_D D x y (encUs rest) i.toNat htn
    have hl2 : ∀ x, (D ++ x :: encUs rest).length = N := fun x => by simp [encUs_len, hN]
    have hc := fun R => ih (.mk po px py qs) List.mem_cons_self po px py qs rfl (setS o id R) 37 (k + 1 + 1 + 1) (by omega) (by omega)
    simp only [setS_len] at hc
    have hn := ih2 (fun q hq => ih q (List.mem_cons_of_mem _ hq)) (D ++ [.agg [.i k, .i (k + 1), .i (k + 2), .undef]]) (k + 1 + 1 + 1 + 3 * cnts qs) (setS o id (.row 4 (D ++ .agg [.i k, .i (k + 1), .i (k + 1 + 1), .undef] :: encUs rest))) (by rw [setS_len]; exact hid) (by rw [getS_setS hid, show k + 1 + 1 = k + 2 by omega]; simp) (by simp at hN ⊢; omega) hNN (by omega) (by omega) (i + 1) (by simp; omega)
    rw [setS_setS] at hn
    simp only [encU] at hget
    simp [-St.get, -St.set, r31l0, b31l0, hne, hget, hget2, hset, hset2, hgo, hso, hlt, hge, hat, hst, hl2, hw, hw1, hw2, hw3, setS_len, unAgg, hc, encUs_len, mkd_len]
    rw [hn]
    simp only [mkd, hcc, hcn, List.append_assoc, List.cons_append, List.nil_append]
    have e3 : k + 1 + 1 + 1 + 3 * cnts qs = k + 3 * (1 + cnts qs) := by omega
    have e4 : k + 1 + 1 + 1 + 3 * cnts qs + 3 * cnts rest = k + 3 * (1 + cnts qs + cnts rest) := by omega
    rw [e4, e3]
end Go.Am
end
section
set_option maxRecDepth 10000
set_option linter.unusedSimpArgs false
set_option linter.unusedVariables false
namespace Go.Am
open Go.Proofs
theorem len_cnts : ∀ ps : List Pi, (ps.length : Int) ≤ cnts ps
  | [] => by simp [cnts]
  | p :: ps => by
    have := len_cnts ps
    have := cnt_pos p
    simp only [cnts, List.length_cons, Int.natCast_add, show ((1 : Nat) : Int) = 1 from rfl]
    omega
theorem markS_of (ps : List Pi) (ih : ∀ p ∈ ps, ∀ o x y qs, p = .mk o x y qs → ∀ (st : Stack) (d : Nat) (k : Int), 0 ≤ k → k + 3 * cnts qs ≤ 1152921504606846976 →
      callI G 31 [.own (st.length, d) qs.length, .i k] (st ++ [[(d, .row 4 (encUs qs))]]) = some (.i (k + 3 * cnts qs), st ++ [[(d, .row 4 (mkd k qs))]]))
    (o : Stack) (id : Id) (k : Int) (hid : id.1 < o.length) (hg : getS o id = some (.row 4 (encUs ps))) (hk0 : 0 ≤ k) (hk : k + 3 * cnts ps ≤ 1152921504606846976) :
    callI G 31 [.own id ps.length, .i k] o = some (.i (k + 3 * cnts ps), setS o id (.row 4 (mkd k ps))) := by
  have hl := len_cnts ps
  have hlp := loop48 id ps.length ps ih [] k o hid (by simpa using hg) (by simp) (by omega) hk0 hk 0 (by simp)
  simp only [List.nil_append] at hlp
  have hne : ¬ id.1 = o.length := by omega
  rw [callI_eq]
  simp [-St.get, -St.set, body1_eq _ _ (gp 31) g31, c31, a31, hne, hlp]
mutual
theorem eqMarkP : ∀ p : Pi, ∀ o x y qs, p = .mk o x y qs → ∀ (st : Stack) (d : Nat) (k : Int), 0 ≤ k → k + 3 * cnts qs ≤ 1152921504606846976 →
      callI G 31 [.own (st.length, d) qs.length, .i k] (st ++ [[(d, .row 4 (encUs qs))]]) = some (.i (k + 3 * cnts qs), st ++ [[(d, .row 4 (mkd k qs))]])
  | .mk o' x' y' qs', o, x, y, qs, e, st, d, k, h0, h1 => by
    have e2 : qs = qs' := by injection e with _ _ _ e2; exact e2.symm
    subst e2
    have h := markS_of qs (eqMarkPs qs) (st ++ [[(d, OB.row 4 (encUs qs))]]) (st.length, d) k (by simp) (by rw [getS_last]; simp [getO]) h0 h1
    rw [h, setS_last]
    simp [setO]
theorem eqMarkPs : ∀ ps : List Pi, ∀ p ∈ ps, ∀ o x y qs, p = .mk o x y qs → ∀ (st : Stack) (d : Nat) (k : Int), 0 ≤ k → k + 3 * cnts qs ≤ 1152921504606846976 →
      callI G 31 [.own (st.length, d) qs.length, .i k] (st ++ [[(d, .row 4 (encUs qs))]]) = some (.i (k + 3 * cnts qs), st ++ [[(d, .row 4 (mkd k qs))]])
  | [], p, h => by cases h
  | q :: ps, p, h => by
    rcases List.mem_cons.1 h with h | h
    · rw [h]; exact eqMarkP q
    · exact eqMarkPs ps p h
end
theorem eqMarkS (ps : List Pi) (o : Stack) (id : Id) (k : Int) (hid : id.1 < o.length) (hg : getS o id = some (.row 4 (encUs ps))) (hk0 : 0 ≤ k) (hk : k + 3 * cnts ps ≤ 1152921504606846976) :
    callI G 31 [.own id ps.length, .i k] o = some (.i (k + 3 * cnts ps), setS o id (.row 4 (mkd k ps))) := markS_of ps (eqMarkPs ps) o id k hid hg hk0 hk
theorem eqMarkPi (ps : List Pi) (L : Objs) (d : Nat) (a b c k : Int) (hg : getO L d = some (.row 4 (encUs ps))) (hk0 : 0 ≤ k) (hk : k + 3 * cnts ps ≤ 1152921504606846976) :
    callI G 12 [.agg [.i a, .i b, .i c, .own (0, d) ps.length], .i k] [L] = some (.i (k + 3 * cnts ps), [setO L d (.row 4 (mkd k ps))]) := by
  have h := eqMarkS ps [L, []] (0, d) k (by simp) (by simpa [getS] using hg) hk0 hk
  rw [callI_eq]
  simp [body1_eq _ _ (gp 12) g12, c12, a12, h, setS]
/-! #### marked numbers -/
def marks : Int → Nat → List Int
  | _, 0 => []
  | k, n + 1 => k :: marks (k + 1) n
theorem marks_len : ∀ (k : Int) (n : Nat), (marks k n).length = n
  | _, 0 => rfl
  | k, n + 1 => by simp [marks, marks_len _ n]
theorem loopMarkI (id : Id) (N : Nat) (rest : List Int) :
    ∀ (done : List Int) (k : Int) (o : Stack), id.1 < o.length → getS o id = some (.row 1 (ints (done ++ rest))) → N = done.length + rest.length → N ≤ 1152921504606846976 → 0 ≤ k → k + rest.length ≤ 1152921504606846976 → ∀ i : Int, i = done.length →
      ∃ o', loopI G [0, 1, 5] [] c13l0 ⟨[(0, .own id N), (1, .i k), (5, .i i)], [], o⟩ =
        some (.exit 0, ⟨[(0, .own id N), (1, .i (k + rest.length)), (5, .i N), (9, .b false)], [], o'⟩) ∧ (rest = [] → o' = o) ∧ (rest ≠ [] → o' = setS o id (.row 1 (ints (done ++ marks k rest.length)))) := by
  induction rest with
  | nil =>
    intro done k o hid hg hN hNN hk0 hk i hi
    refine ⟨o, ?_, fun _ => rfl, fun h => absurd rfl h⟩
    rw [loopI_eq]
    have hne : ¬ id.1 = o.length := by omega
    have e1 : i = N := by rw [hi, hN]; simp
    have hN' : N = done.length := by simpa using hN
    have hget : ∀ r l, St.get ⟨r, l, o⟩ id = some (.row 1 (ints done)) := fun r l => by rw [get_low hid, hg]; simp
    simp [-St.get, -St.set, r13l0, b13l0, hne, hget, e1, ints_len, hN']
  | cons x rest ih2 =>
    intro done k o hid hg hN hNN hk0 hk i hi
    simp only [List.length_cons] at hk hN
    have hne : ¬ id.1 = o.length := by omega
    have hlt : i < N := by omega
    have hge : 0 ≤ i := by omega
    have htn : i.toNat = done.length := by omega
    have hget : ∀ r l, St.get ⟨r, l, o⟩ id = some (.row 1 (ints (done ++ x :: rest))) := fun r l => by rw [get_low hid, hg]
    have hset : ∀ r l R, St.set ⟨r, l, o⟩ id R = ⟨r, l, setS o id R⟩ := fun r l R => set_low hid
    have hw : IntKind.i64.wrap (i + 1) = i + 1 := wr (by omega)
    have hw1 : IntKind.i64.wrap (k + 1) = k + 1 := wr (by omega)
    have hat := ints_at done x rest
    rw [← htn] at hat
    have hst : (ints (done ++ x :: rest)).set i.toNat (.i k) = ints (done ++ k :: rest) := by
      rw [ints_set, htn, List.set_append_right _ _ (Nat.le_refl _)]
      simp
    have hl2 : done.length + (rest.length + 1) = N := by omega
    obtain ⟨o', hn, h1, h2⟩ := ih2 (done ++ [k]) (k + 1) (setS o id (.row 1 (ints (done ++ k :: rest)))) (by rw [setS_len]; exact hid) (by rw [getS_setS hid]; simp) (by simp; omega) hNN (by omega) (by omega) (i + 1) (by simp; omega)
    refine ⟨o', ?_, fun h => (by cases h), fun _ => ?_⟩
    · rw [loopI_eq]
      simp [-St.get, -St.set, r13l0, b13l0, hne, hget, hset, hlt, hge, hat, hst, hl2, hw, hw1, setS_len, unAgg, ints_len]
      rw [hn]
      have e3 : k + 1 + (rest.length : Int) = k + ((rest.length : Int) + 1) := by omega
      simp [e3]
    · by_cases hr : rest = []
      · subst hr
        rw [h1 rfl]
        simp [marks]
      · rw [h2 hr, setS_setS]
        simp [marks]
theorem eqMarkI (xs : List Int) (hx : xs ≠ []) (hl : xs.length ≤ 1000000) (L : Objs) (d : Nat) (k : Int) (hg : getO L d = some (.row 1 (ints xs))) (hk0 : 0 ≤ k) (hk : k ≤ 1000000) :
    callI G 13 [.own (0, d) xs.length, .i k] [L] = some (.i (k + xs.length), [setO L d (.row 1 (ints (marks k xs.length)))]) := by
  obtain ⟨o', hlp, _, h2⟩ := loopMarkI (0, d) xs.length xs [] k [L] (by simp) (by simpa [getS] using hg) (by simp) (by omega) hk0 (by omega) 0 (by simp)
  rw [h2 hx] at hlp
  simp only [setS, List.nil_append] at hlp
  rw [callI_eq]
  simp [body1_eq _ _ (gp 13) g13, c13, a13, hlp]
theorem eqMarkI0 (k : Int) : callI G 13 [.nils, .i k] [] = some (.i k, []) := by
  have hlp : loopI G [0, 1, 5] [] c13l0 ⟨[(0, .nils), (1, .i k), (5, .i 0)], [], []⟩ = some (.exit 0, ⟨[(0, .nils), (1, .i k), (5, .i 0), (9, .b false)], [], []⟩) := by
    rw [loopI_eq]
    simp [r13l0, b13l0]
  rw [callI_eq]
  simp [body1_eq _ _ (gp 13) g13, c13, a13, hlp]
theorem eqHeldI0 (k : Int) : callI G 14 [.nils, .i k] [] = some (.i k, []) := by
  have hlp : loopI G [0, 1, 5] [] c14l0 ⟨[(0, .nils), (1, .i k), (5, .i 0)], [], []⟩ = some (.exit 0, ⟨[(0, .nils), (1, .i k), (5, .i 0), (9, .b false)], [], []⟩) := by
    rw [loopI_eq]
    simp [r14l0, b14l0]
  rw [callI_eq]
  simp [body1_eq _ _ (gp 14) g14, c14, a14, hlp]
theorem eqEqI0 : callI G 10 [.nils, .nils] [] = some (.b true, []) := by
  have hlp : loopI G [0, 1, 5] [] c10l0 ⟨[(0, .nils), (1, .nils), (5, .i 0)], [], []⟩ = some (.exit 0, ⟨[(0, .nils), (1, .nils), (5, .i 0), (14, .b false)], [], []⟩) := by
    rw [loopI_eq]
    simp [r10l0, b10l0]
  rw [callI_eq]
  simp [body1_eq _ _ (gp 10) g10, c10, a10, hlp]
theorem loopHeldI : ∀ (n : Nat) (done : List Int) (k : Int), 0 ≤ k → k + n ≤ 1152921504606846976 → done.length + n ≤ 1152921504606846976 →
      loopI G [0, 1, 5] [] c14l0 ⟨[(0, .sl false 1 (ints (done ++ marks k n))), (1, .i k), (5, .i done.length)], [], []⟩ =
        some (.exit 0, ⟨[(0, .sl false 1 (ints (done ++ marks k n))), (1, .i (k + n)), (5, .i (done.length + n)), (9, .b false)], [], []⟩)
  | 0, done, k, h0, h1, h2 => by
    rw [loopI_eq]
    simp [r14l0, b14l0, ints_len, marks]
  | n + 1, done, k, h0, h1, h2 => by
    rw [loopI_eq]
    have hat := ints_at done k (marks (k + 1) n)
    have hlt2 : (done.length : Int) < (done.length : Int) + ((n : Int) + 1) := by omega
    have hw : IntKind.i64.wrap ((done.length : Int) + 1) = (done.length : Int) + 1 := wr (by omega)
    have hw1 : IntKind.i64.wrap (k + 1) = k + 1 := wr (by omega)
    have hn := loopHeldI n (done ++ [k]) (k + 1) (by omega) (by omega) (by simp; omega)
    have e1 : k + 1 + (n : Int) = k + ((n : Int) + 1) := by omega
    have e2 : (done.length : Int) + 1 + (n : Int) = (done.length : Int) + ((n : Int) + 1) := by omega
    simp [r14l0, b14l0, ints_len, marks_len, marks, hat, hlt2, hw, hw1]
    simpa [e1, e2] using hn
theorem eqHeldI (n : Nat) (k : Int) (h0 : 0 ≤ k) (h1 : k ≤ 1000000) (hn : n ≤ 1000000) : callI G 14 [.sl false 1 (ints (marks k n)), .i k] [] = some (.i (k + n), []) := by
  have hlp := loopHeldI n [] k h0 (by omega) (by simp; omega)
  simp only [List.nil_append, List.length_nil, show ((0 : Nat) : Int) = 0 from rfl] at hlp
  rw [callI_eq]
  simp [body1_eq _ _ (gp 14) g14, c14, a14, hlp]
end Go.Am
end
section
set_option maxRecDepth 10000
set_option linter.unusedSimpArgs false
set_option linter.unusedVariables false
namespace Go.Am
open Go.Proofs
theorem ok_shape' {p : Pi} (h : ok p = true) : shape p = true := by unfold ok at h; simp at h; exact h.2
/-! a list that grows by appending: nil, or a row of the frame's own -/
def rv (d : Nat) : List Int → PV
  | [] => .nils
  | x :: xs => .own (0, d) (x :: xs).length
def ro (d : Nat) : List Int → Objs
  | [] => []
  | x :: xs => [(d, .row 1 (ints (x :: xs)))]
def fv : List Int → PV
  | [] => .nils
  | x :: xs => .sl true 1 (ints (x :: xs))
def fl (p : Pi) : Nat → Int → List Int
  | 0, _ => []
  | k + 1, n => if fr p n = true then n :: fl p k (n + 1) else fl p k (n + 1)
theorem fl_len (p : Pi) : ∀ k n, (fl p k n).length ≤ k
  | 0, _ => by simp [fl]
  | k + 1, n => by
    have := fl_len p k (n + 1)
    simp only [fl]
    split
    · simp; omega
    · omega
theorem loop18 (p : Pi) (hf : Fit p) (hok : ok p = true) : ∀ (k : Nat) (n : Int) (acc : List Int), 0 ≤ n → n + k = 30 → acc.length + k ≤ 30 →
    loopI G [1, 3, 4] [1, 5, 20] c21l0 ⟨[(1, .ref (0, 1) 1 0 0), (3, rv 20 acc), (4, .i n)], (1, .box (enc p).cells) :: ro 20 acc, []⟩ =
      some (.exit 0, ⟨[(1, .ref (0, 1) 1 0 0), (3, rv 20 (acc ++ fl p k n)), (4, .i 30), (11, .b false)], (1, .box (enc p).cells) :: ro 20 (acc ++ fl p k n), []⟩)
  | 0, n, acc, h0, h1, h2 => by
    have e : n = 30 := by omega
    subst e
    rw [loopI_eq]
    obtain ⟨o, x, y, ps⟩ := p
    cases acc <;> simp [r21l0, b21l0, enc, rv, ro, fl]
  | k + 1, n, acc, h0, h1, h2 => by
    have hlt : n < 30 := by omega
    have hw : IntKind.i64.wrap (n + 1) = n + 1 := wr (by omega)
    have h46 := eq46 p hf n
    have h10 := eqOkS p hf
    rw [hok] at h10
    by_cases hfr : fr p n = true
    · have hn := loop18 p hf hok k (n + 1) (acc ++ [n]) (by omega) (by omega) (by simp; omega)
      rw [loopI_eq]
      rw [hfr] at h46
      obtain ⟨o, x, y, ps⟩ := p
      simp only [enc, PV.cells] at h46 h10 hn
      cases acc with
      | nil =>
        simp [r21l0, b21l0, enc, rv, ro, hlt, h10, h46, hw]
        simpa [rv, ro, fl, hfr, ints] using hn
      | cons a acc =>
        have hb : acc.length + 1 + 1 ≤ 4294967296 := by simp at h2; omega
        simp [r21l0, b21l0, enc, rv, ro, hlt, h10, h46, hw, ints_len, hb]
        simpa [rv, ro, fl, hfr, ints, ints_app] using hn
    · have hfr : fr p n = false := by simpa using hfr
      have hn := loop18 p hf hok k (n + 1) acc (by omega) (by omega) (by omega)
      rw [loopI_eq]
      rw [hfr] at h46
      obtain ⟨o, x, y, ps⟩ := p
      simp only [enc, PV.cells] at h46 h10 hn
      cases acc with
      | nil =>
        simp [r21l0, b21l0, enc, rv, ro, hlt, h10, h46, hw]
        simpa [rv, ro, fl, hfr] using hn
      | cons a acc =>
        simp [r21l0, b21l0, enc, rv, ro, hlt, h10, h46, hw]
        simpa [rv, ro, fl, hfr] using hn
def freeL (p : Pi) : List Int := if ok p = true then fl p 30 0 else []
theorem eqFreeS (p : Pi) (hf : Fit p) : callI G 21 [enc p] [] = some (fv (freeL p), []) := by
  by_cases hok : ok p = true
  · have hlp := loop18 p hf hok 30 0 [] (by omega) (by omega) (by simp)
    have hfl : freeL p = fl p 30 0 := by simp [freeL, hok]
    rw [hfl]
    rw [callI_eq]
    obtain ⟨o, x, y, ps⟩ := p
    simp only [enc, PV.cells, rv, ro, List.nil_append] at hlp
    cases hL : fl (.mk o x y ps) 30 0 with
    | nil =>
      simp only [hL, rv, ro] at hlp
      simp [body1_eq _ _ (gp 21) g21, c21, a21, enc, hlp, fv]
    | cons a acc =>
      simp only [hL, rv, ro] at hlp
      simp [body1_eq _ _ (gp 21) g21, c21, a21, enc, hlp, fv, ints_len]
  · have hok : ok p = false := by simpa using hok
    have h10 := eqOkS p hf
    rw [hok] at h10
    have hfl : freeL p = [] := by simp [freeL, hok]
    rw [hfl]
    have hx : loopI G [1, 3, 4] [1, 5, 20] c21l0 ⟨[(1, .ref (0, 1) 1 0 0), (3, .nils), (4, .i 0)], [(1, .box (enc p).cells)], []⟩ = some (.exit 0, ⟨[(1, .ref (0, 1) 1 0 0), (3, .nils), (4, .i 0), (11, .b false)], [(1, .box (enc p).cells)], []⟩) := by
      rw [loopI_eq]
      obtain ⟨o, x, y, ps⟩ := p
      simp only [enc] at h10
      simp [r21l0, b21l0, enc, h10]
    rw [callI_eq]
    obtain ⟨o, x, y, ps⟩ := p
    simp only [enc, PV.cells] at hx
    simp [body1_eq _ _ (gp 21) g21, c21, a21, enc, hx, fv]
def gl : List Bool → Int → List Int
  | [], _ => []
  | b :: bs, i => if b = true then i :: gl bs (i + 1) else gl bs (i + 1)
theorem loop19 : ∀ (cr cd : List Bool) (acc : List Int), cd.length + cr.length = 30 → acc.length + cr.length ≤ 30 → ∀ i : Int, i = cd.length →
    loopI G [3, 12, 13] [6, 21] c26l0 ⟨[(3, rv 21 acc), (12, .agg (bls (cd ++ cr))), (13, .i i)], ro 21 acc, []⟩ =
      some (.exit 0, ⟨[(3, rv 21 (acc ++ gl cr i)), (12, .agg (bls (cd ++ cr))), (13, .i 30), (14, .b false)], ro 21 (acc ++ gl cr i), []⟩)
  | [], cd, acc, h, h2, i, hi => by
    have e : i = 30 := by simp at h; omega
    subst e
    rw [loopI_eq]
    cases acc <;> simp [r26l0, b26l0, rv, ro, gl]
  | c :: cr, cd, acc, h, h2, i, hi => by
    have hlt : i < 30 := by simp at h; omega
    have hge : 0 ≤ i := by omega
    have hc1 := bls_at cd c cr i.toNat (by omega)
    have hw : IntKind.i64.wrap (i + 1) = i + 1 := wr (by omega)
    cases c with
    | true =>
      have hn := loop19 cr (cd ++ [true]) (acc ++ [i]) (by simp at h ⊢; omega) (by simp at h2 ⊢; omega) (i + 1) (by simp; omega)
      rw [loopI_eq]
      cases acc with
      | nil =>
        simp [r26l0, b26l0, rv, ro, hlt, hge, hc1, hw]
        simpa [rv, ro, gl, ints] using hn
      | cons a acc =>
        have hb : acc.length + 1 + 1 ≤ 4294967296 := by simp at h2; omega
        simp [r26l0, b26l0, rv, ro, hlt, hge, hc1, hw, ints_len, hb]
        simpa [rv, ro, gl, ints, ints_app] using hn
    | false =>
      have hn := loop19 cr (cd ++ [false]) acc (by simp at h ⊢; omega) (by simp at h2 ⊢; omega) (i + 1) (by simp; omega)
      rw [loopI_eq]
      cases acc with
      | nil =>
        simp [r26l0, b26l0, rv, ro, hlt, hge, hc1, hw]
        simpa [rv, ro, gl] using hn
      | cons a acc =>
        simp [r26l0, b26l0, rv, ro, hlt, hge, hc1, hw]
        simpa [rv, ro, gl] using hn
theorem gl_fl (p : Pi) : ∀ (cr : List Bool) (k : Int), 0 ≤ k → (∀ j : Nat, j < cr.length → cr.getD j false = fr p (k + j)) → gl cr k = fl p cr.length k
  | [], k, _, _ => rfl
  | b :: bs, k, hk, h => by
    have h0 := h 0 (by simp)
    simp only [List.getD_cons_zero, show ((0 : Nat) : Int) = 0 from rfl, Int.add_zero] at h0
    have ih := gl_fl p bs (k + 1) (by omega) (fun j hj => by
      have := h (j + 1) (by simp; omega)
      simp only [List.getD_cons_succ, Int.natCast_add, show ((1 : Nat) : Int) = 1 from rfl] at this
      rw [this]; congr 1; omega)
    simp only [gl, List.length_cons, fl, ih, h0]
theorem eqFreeI (p : Pi) (hf : Fit p) : callI G 26 [enc p] [] = some (fv (freeL p), []) := by
  have h12 := eqOkI p hf
  by_cases hok : ok p = true
  · have hs := ok_shape' hok
    have h47 := eq47 p hf hs
    have hlp := loop19 (fre p) [] [] (by simp [fre_len]) (by simp [fre_len]) 0 rfl
    have hfl : freeL p = gl (fre p) 0 := by
      rw [gl_fl p (fre p) 0 (by omega) (fun j hj => by
        have := fre_fr p hs j (by omega)
        simpa [at30] using this), fre_len]
      simp [freeL, hok]
    rw [hfl]
    rw [hok] at h12
    rw [callI_eq]
    generalize fre p = F at *
    obtain ⟨o, x, y, ps⟩ := p
    simp only [enc] at h12 h47
    simp only [rv, ro, List.nil_append] at hlp
    cases hL : gl F 0 with
    | nil =>
      simp only [hL, rv, ro] at hlp
      simp [body1_eq _ _ (gp 26) g26, c26, a26, enc, h12, h47, hlp, fv]
    | cons a acc =>
      simp only [hL, rv, ro] at hlp
      simp [body1_eq _ _ (gp 26) g26, c26, a26, enc, h12, h47, hlp, fv, ints_len]
  · have hok : ok p = false := by simpa using hok
    rw [hok] at h12
    have hfl : freeL p = [] := by simp [freeL, hok]
    rw [hfl]
    rw [callI_eq]
    obtain ⟨o, x, y, ps⟩ := p
    simp only [enc] at h12
    simp [body1_eq _ _ (gp 26) g26, c26, a26, enc, h12, fv]
/-! the law -/
mutual
theorem szPi_cnt : ∀ (p : Pi) (l : Int), 0 ≤ l → 0 ≤ szPi p l → szPi p l = l + 1 - cnt p
  | .mk _ _ _ ps, l, h0, h => by
    simp only [szPi, cnt] at h ⊢
    split at h
    · omega
    · rename_i hn
      rw [if_neg hn, szL_cnt ps (l - ps.length) (by omega) h]
      omega
theorem szL_cnt : ∀ (ps : List Pi) (l : Int), 0 ≤ l → 0 ≤ szL ps l → szL ps l = l + ps.length - cnts ps
  | [], l, h0, h => by simp [szL, cnts]
  | p :: ps, l, h0, h => by
    simp only [szL, cnts] at h ⊢
    split at h
    · omega
    · rename_i hn
      have h1 := szPi_cnt p l h0 (by omega)
      rw [if_neg hn, szL_cnt ps (szPi p l) (by omega) h, h1]
      simp
      omega
end
end Go.Am
end
