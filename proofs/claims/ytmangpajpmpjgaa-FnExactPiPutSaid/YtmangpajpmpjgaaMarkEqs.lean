/- What the functions that mark memory do. -/
import Derived.Test.YtmangpajpmpjgaaFreeEqs
section
set_option maxRecDepth 10000
set_option linter.unusedSimpArgs false
set_option linter.unusedVariables false
namespace Go.Am
open Go.Proofs
/-! #### objects of outer frames -/
def getS (o : Stack) (id : Id) : Option OB := (o[id.1]?).bind (getO · id.2)
def setS (o : Stack) (id : Id) (ob : OB) : Stack := o.modify id.1 (setO · id.2 ob)
theorem setS_len (o : Stack) (id : Id) (ob : OB) : (setS o id ob).length = o.length := by simp [setS]
theorem setO_setO (d : Nat) (a b : OB) : ∀ l : Objs, setO (setO l d a) d b = setO l d b
  | [] => by simp [setO]
  | (k, v) :: l => by
    by_cases h : k = d
    · simp [setO, h]
    · simp [setO, h, setO_setO d a b l]
theorem setS_setS (o : Stack) (id : Id) (a b : OB) : setS (setS o id a) id b = setS o id b := by
  unfold setS
  apply List.ext_getElem?
  intro i
  simp only [List.getElem?_modify]
  by_cases h : id.1 = i
  · subst h
    cases o[id.1]? with
    | none => simp
    | some l => simp [setO_setO]
  · simp [h]
theorem getS_setS {o : Stack} {id : Id} (h : id.1 < o.length) (a : OB) : getS (setS o id a) id = some a := by
  unfold getS setS
  rw [List.getElem?_modify, List.getElem?_eq_getElem h]
  simp [getO_setO]
theorem get_low {r l} {o : Stack} {id : Id} (h : id.1 < o.length) : St.get ⟨r, l, o⟩ id = getS o id := by
  have : ¬ id.1 = o.length := by omega
  simp [St.get, getS, this]
theorem set_low {r l} {o : Stack} {id : Id} {ob : OB} (h : id.1 < o.length) : St.set ⟨r, l, o⟩ id ob = ⟨r, l, setS o id ob⟩ := by
  have : ¬ id.1 = o.length := by omega
  simp [St.set, setS, this]
theorem get_own {r l} {o : Stack} {d : Nat} : St.get ⟨r, l, o⟩ (o.length, d) = getO l d := by simp [St.get]
theorem set_own {r l} {o : Stack} {d : Nat} {ob : OB} : St.set ⟨r, l, o⟩ (o.length, d) ob = ⟨r, setO l d ob, o⟩ := by simp [St.set]
theorem getS_last (o : Stack) (l : Objs) (d : Nat) : getS (o ++ [l]) (o.length, d) = getO l d := by simp [getS]
theorem setS_last (o : Stack) (l : Objs) (d : Nat) (ob : OB) : setS (o ++ [l]) (o.length, d) ob = o ++ [setO l d ob] := by
  unfold setS
  apply List.ext_getElem?
  intro i
  simp only [List.getElem?_modify]
  rcases Nat.lt_trichotomy i o.length with h | h | h
  · have : ¬ o.length = i := by omega
    simp [List.getElem?_append_left, h, this]
  · subst h; simp
  · have : ¬ o.length = i := by omega
    rw [List.getElem?_eq_none (by simp; omega), List.getElem?_eq_none (by simp; omega)]
    rfl
theorem setO_same (d : Nat) (ob : OB) : ∀ l : Objs, getO l d = some ob → setO l d ob = l
  | [], h => by cases h
  | (k, v) :: l, h => by
    simp only [getO] at h
    by_cases hk : k = d
    · rw [if_pos hk] at h
      simp only [Option.some.injEq] at h
      simp [setO, hk, h]
    · rw [if_neg hk] at h
      have hh := setO_same d ob l h
      simp only [setO, if_neg hk, hh]
theorem setS_same (o : Stack) (id : Id) (ob : OB) (hg : getS o id = some ob) : setS o id ob = o := by
  unfold setS
  apply List.ext_getElem?
  intro j
  rw [List.getElem?_modify]
  by_cases h : id.1 = j
  · subst h
    unfold getS at hg
    cases hl : o[id.1]? with
    | none => rw [hl] at hg; cases hg
    | some l =>
      rw [hl] at hg
      simp only [Option.bind_some] at hg
      simp only [if_true]
      show (some (setO l id.2 ob)) = some l
      rw [setO_same _ _ l hg]
  · simp [h]
/-! #### marked terms -/
/-- Owned or frozen, the empty lists nil or not. -/
def encP (nl u : Bool) (xs : List PV) : PV := if (nl && xs.isEmpty) = true then .nils else .sl u 4 xs
mutual
def encX (nl u : Bool) : Pi → PV
  | .mk o x y ps => .agg [.i o, .i x, .i y, encP nl u (encXs nl u ps)]
def encXs (nl u : Bool) : List Pi → List PV
  | [] => []
  | p :: ps => encX nl u p :: encXs nl u ps
end
theorem encXs_len (nl u : Bool) : ∀ ps : List Pi, (encXs nl u ps).length = ps.length
  | [] => rfl
  | _ :: ps => by simp [encXs, encXs_len nl u ps]
theorem encP_nil (u : Bool) : encP true u [] = .nils := rfl
theorem encP_sl (nl u : Bool) (xs : List PV) (h : nl = false ∨ xs ≠ []) : encP nl u xs = .sl u 4 xs := by
  unfold encP
  rcases h with h | h
  · simp [h]
  · cases xs with
    | nil => exact absurd rfl h
    | cons _ _ => simp
theorem encXs_nil (nl u : Bool) {ps : List Pi} (h : encXs nl u ps = []) : ps = [] := by
  cases ps with
  | nil => rfl
  | cons _ _ => simp [encXs] at h
mutual
theorem encU_X : ∀ p : Pi, encU p = encX false true p
  | .mk o x y ps => by simp [encU, encX, encUs_X ps, encP]
theorem encUs_X : ∀ ps : List Pi, encUs ps = encXs false true ps
  | [] => rfl
  | p :: ps => by simp [encUs, encXs, encU_X p, encUs_X ps]
end
mutual
theorem fal_encX (nl : Bool) : ∀ p : Pi, fal (encX nl true p) = encX nl false p
  | .mk o x y ps => by
    have h := fals_encXs nl ps
    simp only [encX, fal, fals, encP]
    cases hps : encXs nl true ps with
    | nil =>
      have := encXs_nil nl true hps
      subst this
      cases nl <;> simp [encXs, fal, fals]
    | cons a l =>
      rw [hps] at h
      rw [← h]
      simp [fal, fals]
theorem fals_encXs (nl : Bool) : ∀ ps : List Pi, fals (encXs nl true ps) = encXs nl false ps
  | [] => rfl
  | p :: ps => by simp [encXs, fals, fal_encX nl p, fals_encXs nl ps]
end
theorem encXs_cons (nl u : Bool) (p : Pi) (ps : List Pi) : encXs nl u (p :: ps) = encX nl u p :: encXs nl u ps := rfl
mutual
/-- A term marked: every field bears the next number. -/
def mk1 : Int → Pi → Pi
  | k, .mk _ _ _ qs => .mk k (k + 1) (k + 2) (mkP (k + 3) qs)
def mkP : Int → List Pi → List Pi
  | _, [] => []
  | k, p :: ps => mk1 k p :: mkP (k + 3 * cnt p) ps
end
theorem mkP_len : ∀ (k : Int) (ps : List Pi), (mkP k ps).length = ps.length
  | _, [] => rfl
  | k, p :: ps => by simp [mkP, mkP_len _ ps]
theorem at_D (D : List PV) (x : PV) (E : List PV) (n : Nat) (h : n = D.length) : nth (D ++ x :: E) n = some x := by
  subst h
  unfold nth
  rw [List.getElem?_append_right (Nat.le_refl _)]
  simp
theorem set_D (D : List PV) (x y : PV) (E : List PV) (n : Nat) (h : n = D.length) : (D ++ x :: E).set n y = D ++ y :: E := by
  subst h
  rw [List.set_append_right _ _ (Nat.le_refl _)]
  simp
theorem loop48 (nl : Bool) (id : Id) (N : Nat) (rest : List Pi) (ih : ∀ p ∈ rest, ∀ o x y qs, p = .mk o x y qs → nl = false ∨ qs ≠ [] → ∀ (k : Int), 0 ≤ k → k + 3 * cnts qs ≤ 1152921504606846976 →
      callI G 48 [.own (0, 0) qs.length, .i k] [[(0, .row 4 (encXs nl true qs))]] = some (.i (k + 3 * cnts qs), [[(0, .row 4 (encXs nl true (mkP k qs)))]]))
    (ihn : ∀ k : Int, callI G 48 [.nils, .i k] [] = some (.i k, [])) :
    ∀ (D : List PV) (k : Int) (o : Stack), id.1 < o.length → getS o id = some (.row 4 (D ++ encXs nl true rest)) → N = D.length + rest.length → N ≤ 1152921504606846976 → 0 ≤ k → k + 3 * cnts rest ≤ 1152921504606846976 → ∀ i : Int, i = D.length →
      loopI G [0, 1, 5] [] c48l0 ⟨[(0, .own id N), (1, .i k), (5, .i i)], [], o⟩ =
        some (.exit 0, ⟨[(0, .own id N), (1, .i (k + 3 * cnts rest)), (5, .i N), (9, .b false)], [], setS o id (.row 4 (D ++ encXs nl true (mkP k rest)))⟩) := by
  induction rest with
  | nil =>
    intro D k o hid hg hN hNN hk0 hk i hi
    rw [loopI_eq]
    have hne : ¬ id.1 = o.length := by omega
    have e1 : i = N := by rw [hi, hN]; simp
    have e2 : setS o id (.row 4 (D ++ encXs nl true (mkP k []))) = o := setS_same o id _ hg
    rw [e2]
    have hget : ∀ r l, St.get ⟨r, l, o⟩ id = some (.row 4 (D ++ encXs nl true [])) := fun r l => by rw [get_low hid, hg]
    simp [-St.get, -St.set, r48l0, b48l0, hne, hget, e1, cnts, encXs, hN]
  | cons p rest ih2 =>
    intro D k o hid hg hN hNN hk0 hk i hi
    obtain ⟨po, px, py, qs⟩ := p
    rw [loopI_eq]
    have hne : ¬ id.1 = o.length := by omega
    have hcp := cnts_pos rest
    have hcq := cnts_pos qs
    have hcc : cnts (.mk po px py qs :: rest) = 1 + cnts qs + cnts rest := rfl
    have hcn : cnt (.mk po px py qs) = 1 + cnts qs := rfl
    rw [hcc] at hk
    have hlt : i < N := by simp at hN; omega
    have hge : 0 ≤ i := by omega
    have htn : i.toNat = D.length := by omega
    have hget : ∀ r l, St.get ⟨r, l, o⟩ id = some (.row 4 (D ++ encX nl true (.mk po px py qs) :: encXs nl true rest)) := fun r l => by rw [get_low hid, hg, encXs_cons]
    have hget2 : ∀ r l R, St.get ⟨r, l, setS o id R⟩ id = some R := fun r l R => by rw [get_low (by rw [setS_len]; exact hid), getS_setS hid]
    have hset : ∀ r l R, St.set ⟨r, l, o⟩ id R = ⟨r, l, setS o id R⟩ := fun r l R => set_low hid
    have hset2 : ∀ r l R Q, St.set ⟨r, l, setS o id R⟩ id Q = ⟨r, l, setS o id Q⟩ := fun r l R Q => by rw [set_low (by rw [setS_len]; exact hid), setS_setS]
    have hw : IntKind.i64.wrap (i + 1) = i + 1 := wr (by omega)
    have hw1 : IntKind.i64.wrap (k + 1) = k + 1 := wr (by omega)
    have hw2 : IntKind.i64.wrap (k + 1 + 1) = k + 1 + 1 := wr (by omega)
    have hw3 : IntKind.i64.wrap (k + 1 + 1 + 1) = k + 1 + 1 + 1 := wr (by omega)
    have hat := fun x => at_D D x (encXs nl true rest) i.toNat htn
    have hst := fun x y => set_D D x y (encXs nl true rest) i.toNat htn
    have hl2 : ∀ x, (D ++ x :: encXs nl true rest).length = N := fun x => by simp [encXs_len, hN]
    have e3 : k + 1 + 1 + 1 + 3 * cnts qs = k + 3 * (1 + cnts qs) := by omega
    have e4 : k + 1 + 1 + 1 + 3 * cnts qs + 3 * cnts rest = k + 3 * (1 + cnts qs + cnts rest) := by omega
    have e5 : k + 1 + 1 = k + 2 := by omega
    have e6 : k + 1 + 1 + 1 = k + 3 := by omega
    have hn := ih2 (fun q hq => ih q (List.mem_cons_of_mem _ hq)) (D ++ [.agg [.i k, .i (k + 1), .i (k + 1 + 1), encP nl true (encXs nl true (mkP (k + 1 + 1 + 1) qs))]]) (k + 1 + 1 + 1 + 3 * cnts qs) (setS o id (.row 4 (D ++ .agg [.i k, .i (k + 1), .i (k + 1 + 1), encP nl true (encXs nl true (mkP (k + 1 + 1 + 1) qs))] :: encXs nl true rest))) (by rw [setS_len]; exact hid) (by rw [getS_setS hid]; simp) (by simp at hN ⊢; omega) hNN (by omega) (by omega) (i + 1) (by simp; omega)
    rw [setS_setS] at hn
    by_cases hq : nl = false ∨ qs ≠ []
    · have hq' : nl = false ∨ encXs nl true qs ≠ [] := hq.imp (fun h => h) (fun h e => h (encXs_nil nl true e))
      have hq2 : nl = false ∨ encXs nl true (mkP (k + 1 + 1 + 1) qs) ≠ [] := hq.imp (fun h => h) (fun h e => h (by
        have := encXs_nil nl true e
        cases qs with
        | nil => rfl
        | cons _ _ => simp [mkP] at this))
      have hc := ih (.mk po px py qs) List.mem_cons_self po px py qs rfl hq (k + 1 + 1 + 1) (by omega) (by omega)
      simp only [encX, encP_sl nl true _ hq'] at hget
      simp only [encP_sl nl true _ hq2] at hn
      simp [-St.get, -St.set, r48l0, b48l0, hne, hget, hget2, hset, hset2, hlt, hge, hat, hst, hl2, hw, hw1, hw2, hw3, setS_len, unAgg, hc, encXs_len, mkP_len]
      rw [hn]
      simp only [mkP, mk1, encXs, encX, hcc, hcn, List.append_assoc, List.cons_append, List.nil_append]
      rw [e6] at hq2
      rw [e4, e3, e6, e5, encP_sl nl true _ hq2]
    · have hnl : nl = true := by cases nl <;> simp_all
      have hqs : qs = [] := by cases qs <;> simp_all
      subst hnl hqs
      simp only [encX, encXs, encP_nil] at hget
      simp only [mkP, encXs, encP_nil, cnts, Int.mul_zero, Int.add_zero] at hn
      simp [-St.get, -St.set, r48l0, b48l0, hne, hget, hget2, hset, hset2, hlt, hge, hat, hst, hl2, hw, hw1, hw2, hw3, setS_len, unAgg, ihn, encXs_len, mkP_len]
      rw [hn]
      simp only [mkP, mk1, encXs, encX, encP_nil, hcc, hcn, cnts, Int.add_zero, List.append_assoc, List.cons_append, List.nil_append]
      simp only [cnts] at e4 e3
      have e7 : k + 1 + 1 + 1 = k + 3 * 1 := by omega
      have e8 : k + 1 + 1 + 1 + 3 * cnts rest = k + 3 * (1 + cnts rest) := by omega
      rw [e8, e7, e5]
end Go.Am
end
section
set_option maxRecDepth 10000
set_option linter.unusedSimpArgs false
set_option linter.unusedVariables false
namespace Go.Am
open Go.Proofs
theorem len_cnts : ∀ ps : List Pi, (ps.length : Int) ≤ cnts ps
  | [] => by simp [cnts]
  | p :: ps => by
    have := len_cnts ps
    have := cnt_pos p
    simp only [cnts, List.length_cons, Int.natCast_add, show ((1 : Nat) : Int) = 1 from rfl]
    omega
theorem eqMarkNil (k : Int) : callI G 48 [.nils, .i k] [] = some (.i k, []) := by
  have hlp : loopI G [0, 1, 5] [] c48l0 ⟨[(0, .nils), (1, .i k), (5, .i 0)], [], []⟩ = some (.exit 0, ⟨[(0, .nils), (1, .i k), (5, .i 0), (9, .b false)], [], []⟩) := by
    rw [loopI_eq]
    simp [r48l0, b48l0]
  rw [callI_eq]
  simp [body1_eq _ _ (gp 48) g48, c48, a48, hlp]
theorem markS_of (nl : Bool) (ps : List Pi) (ih : ∀ p ∈ ps, ∀ o x y qs, p = .mk o x y qs → nl = false ∨ qs ≠ [] → ∀ (k : Int), 0 ≤ k → k + 3 * cnts qs ≤ 1152921504606846976 →
      callI G 48 [.own (0, 0) qs.length, .i k] [[(0, .row 4 (encXs nl true qs))]] = some (.i (k + 3 * cnts qs), [[(0, .row 4 (encXs nl true (mkP k qs)))]]))
    (o : Stack) (id : Id) (k : Int) (hid : id.1 < o.length) (hg : getS o id = some (.row 4 (encXs nl true ps))) (hk0 : 0 ≤ k) (hk : k + 3 * cnts ps ≤ 1152921504606846976) :
    callI G 48 [.own id ps.length, .i k] o = some (.i (k + 3 * cnts ps), setS o id (.row 4 (encXs nl true (mkP k ps)))) := by
  have hl := len_cnts ps
  have hlp := loop48 nl id ps.length ps ih eqMarkNil [] k o hid (by simpa using hg) (by simp) (by omega) hk0 hk 0 (by simp)
  simp only [List.nil_append] at hlp
  have hne : ¬ id.1 = o.length := by omega
  rw [callI_eq]
  simp [-St.get, -St.set, body1_eq _ _ (gp 48) g48, c48, a48, hne, hlp]
mutual
theorem eqMarkP (nl : Bool) : ∀ p : Pi, ∀ o x y qs, p = .mk o x y qs → nl = false ∨ qs ≠ [] → ∀ (k : Int), 0 ≤ k → k + 3 * cnts qs ≤ 1152921504606846976 →
      callI G 48 [.own (0, 0) qs.length, .i k] [[(0, .row 4 (encXs nl true qs))]] = some (.i (k + 3 * cnts qs), [[(0, .row 4 (encXs nl true (mkP k qs)))]])
  | .mk o' x' y' qs', o, x, y, qs, e, hq, k, h0, h1 => by
    have e2 : qs = qs' := by injection e with _ _ _ e2; exact e2.symm
    subst e2
    have h := markS_of nl qs (eqMarkPs nl qs) [[(0, OB.row 4 (encXs nl true qs))]] (0, 0) k (by simp) (by simp [getS, getO]) h0 h1
    rw [h]
    simp [setS, setO]
theorem eqMarkPs (nl : Bool) : ∀ ps : List Pi, ∀ p ∈ ps, ∀ o x y qs, p = .mk o x y qs → nl = false ∨ qs ≠ [] → ∀ (k : Int), 0 ≤ k → k + 3 * cnts qs ≤ 1152921504606846976 →
      callI G 48 [.own (0, 0) qs.length, .i k] [[(0, .row 4 (encXs nl true qs))]] = some (.i (k + 3 * cnts qs), [[(0, .row 4 (encXs nl true (mkP k qs)))]])
  | [], p, h => by cases h
  | q :: ps, p, h => by
    rcases List.mem_cons.1 h with h | h
    · rw [h]; exact eqMarkP nl q
    · exact eqMarkPs nl ps p h
end
theorem eqMarkS (nl : Bool) (ps : List Pi) (o : Stack) (id : Id) (k : Int) (hid : id.1 < o.length) (hg : getS o id = some (.row 4 (encXs nl true ps))) (hk0 : 0 ≤ k) (hk : k + 3 * cnts ps ≤ 1152921504606846976) :
    callI G 48 [.own id ps.length, .i k] o = some (.i (k + 3 * cnts ps), setS o id (.row 4 (encXs nl true (mkP k ps)))) := markS_of nl ps (eqMarkPs nl ps) o id k hid hg hk0 hk
theorem eqMarkPiX (nl : Bool) (ps : List Pi) (L : Objs) (d : Nat) (a b c k : Int) (hg : getO L d = some (.row 4 (encXs nl true ps))) (hk0 : 0 ≤ k) (hk : k + 3 * cnts ps ≤ 1152921504606846976) :
    callI G 20 [.agg [.i a, .i b, .i c, .own (0, d) ps.length], .i k] [L] = some (.i (k + 3 * cnts ps), [setO L d (.row 4 (encXs nl true (mkP k ps)))]) := by
  have h := eqMarkS nl ps [L, []] (0, d) k (by simp) (by simpa [getS] using hg) hk0 hk
  rw [callI_eq]
  simp [body1_eq _ _ (gp 20) g20, c20, a20, h, setS]
theorem eqMarkPi (ps : List Pi) (L : Objs) (d : Nat) (a b c k : Int) (hg : getO L d = some (.row 4 (encUs ps))) (hk0 : 0 ≤ k) (hk : k + 3 * cnts ps ≤ 1152921504606846976) :
    callI G 20 [.agg [.i a, .i b, .i c, .own (0, d) ps.length], .i k] [L] = some (.i (k + 3 * cnts ps), [setO L d (.row 4 (encUs (mkP k ps)))]) := by
  rw [encUs_X] at hg
  rw [encUs_X]
  exact eqMarkPiX false ps L d a b c k hg hk0 hk
/-! #### marked numbers -/
def marks : Int → Nat → List Int
  | _, 0 => []
  | k, n + 1 => k :: marks (k + 1) n
theorem marks_len : ∀ (k : Int) (n : Nat), (marks k n).length = n
  | _, 0 => rfl
  | k, n + 1 => by simp [marks, marks_len _ n]
theorem loopMarkI (id : Id) (N : Nat) (rest : List Int) :
    ∀ (done : List Int) (k : Int) (o : Stack), id.1 < o.length → getS o id = some (.row 1 (ints (done ++ rest))) → N = done.length + rest.length → N ≤ 1152921504606846976 → 0 ≤ k → k + rest.length ≤ 1152921504606846976 → ∀ i : Int, i = done.length →
      ∃ o', loopI G [0, 1, 5] [] c21l0 ⟨[(0, .own id N), (1, .i k), (5, .i i)], [], o⟩ =
        some (.exit 0, ⟨[(0, .own id N), (1, .i (k + rest.length)), (5, .i N), (9, .b false)], [], o'⟩) ∧ (rest = [] → o' = o) ∧ (rest ≠ [] → o' = setS o id (.row 1 (ints (done ++ marks k rest.length)))) := by
  induction rest with
  | nil =>
    intro done k o hid hg hN hNN hk0 hk i hi
    refine ⟨o, ?_, fun _ => rfl, fun h => absurd rfl h⟩
    rw [loopI_eq]
    have hne : ¬ id.1 = o.length := by omega
    have e1 : i = N := by rw [hi, hN]; simp
    have hN' : N = done.length := by simpa using hN
    have hget : ∀ r l, St.get ⟨r, l, o⟩ id = some (.row 1 (ints done)) := fun r l => by rw [get_low hid, hg]; simp
    simp [-St.get, -St.set, r21l0, b21l0, hne, hget, e1, ints_len, hN']
  | cons x rest ih2 =>
    intro done k o hid hg hN hNN hk0 hk i hi
    simp only [List.length_cons] at hk hN
    have hne : ¬ id.1 = o.length := by omega
    have hlt : i < N := by omega
    have hge : 0 ≤ i := by omega
    have htn : i.toNat = done.length := by omega
    have hget : ∀ r l, St.get ⟨r, l, o⟩ id = some (.row 1 (ints (done ++ x :: rest))) := fun r l => by rw [get_low hid, hg]
    have hset : ∀ r l R, St.set ⟨r, l, o⟩ id R = ⟨r, l, setS o id R⟩ := fun r l R => set_low hid
    have hw : IntKind.i64.wrap (i + 1) = i + 1 := wr (by omega)
    have hw1 : IntKind.i64.wrap (k + 1) = k + 1 := wr (by omega)
    have hat := ints_at done x rest
    rw [← htn] at hat
    have hst : (ints (done ++ x :: rest)).set i.toNat (.i k) = ints (done ++ k :: rest) := by
      rw [ints_set, htn, List.set_append_right _ _ (Nat.le_refl _)]
      simp
    have hl2 : done.length + (rest.length + 1) = N := by omega
    obtain ⟨o', hn, h1, h2⟩ := ih2 (done ++ [k]) (k + 1) (setS o id (.row 1 (ints (done ++ k :: rest)))) (by rw [setS_len]; exact hid) (by rw [getS_setS hid]; simp) (by simp; omega) hNN (by omega) (by omega) (i + 1) (by simp; omega)
    refine ⟨o', ?_, fun h => (by cases h), fun _ => ?_⟩
    · rw [loopI_eq]
      simp [-St.get, -St.set, r21l0, b21l0, hne, hget, hset, hlt, hge, hat, hst, hl2, hw, hw1, setS_len, unAgg, ints_len]
      rw [hn]
      have e3 : k + 1 + (rest.length : Int) = k + ((rest.length : Int) + 1) := by omega
      simp [e3]
    · by_cases hr : rest = []
      · subst hr
        rw [h1 rfl]
        simp [marks]
      · rw [h2 hr, setS_setS]
        simp [marks]
theorem eqMarkI (xs : List Int) (hx : xs ≠ []) (hl : xs.length ≤ 1000000) (L : Objs) (d : Nat) (k : Int) (hg : getO L d = some (.row 1 (ints xs))) (hk0 : 0 ≤ k) (hk : k ≤ 1000000) :
    callI G 21 [.own (0, d) xs.length, .i k] [L] = some (.i (k + xs.length), [setO L d (.row 1 (ints (marks k xs.length)))]) := by
  obtain ⟨o', hlp, _, h2⟩ := loopMarkI (0, d) xs.length xs [] k [L] (by simp) (by simpa [getS] using hg) (by simp) (by omega) hk0 (by omega) 0 (by simp)
  rw [h2 hx] at hlp
  simp only [setS, List.nil_append] at hlp
  rw [callI_eq]
  simp [body1_eq _ _ (gp 21) g21, c21, a21, hlp]
theorem eqMarkI0 (k : Int) : callI G 21 [.nils, .i k] [] = some (.i k, []) := by
  have hlp : loopI G [0, 1, 5] [] c21l0 ⟨[(0, .nils), (1, .i k), (5, .i 0)], [], []⟩ = some (.exit 0, ⟨[(0, .nils), (1, .i k), (5, .i 0), (9, .b false)], [], []⟩) := by
    rw [loopI_eq]
    simp [r21l0, b21l0]
  rw [callI_eq]
  simp [body1_eq _ _ (gp 21) g21, c21, a21, hlp]
theorem eqHeldI0 (k : Int) : callI G 22 [.nils, .i k] [] = some (.i k, []) := by
  have hlp : loopI G [0, 1, 5] [] c22l0 ⟨[(0, .nils), (1, .i k), (5, .i 0)], [], []⟩ = some (.exit 0, ⟨[(0, .nils), (1, .i k), (5, .i 0), (9, .b false)], [], []⟩) := by
    rw [loopI_eq]
    simp [r22l0, b22l0]
  rw [callI_eq]
  simp [body1_eq _ _ (gp 22) g22, c22, a22, hlp]
theorem eqEqI0 : callI G 17 [.nils, .nils] [] = some (.b true, []) := by
  have hlp : loopI G [0, 1, 5] [] c17l0 ⟨[(0, .nils), (1, .nils), (5, .i 0)], [], []⟩ = some (.exit 0, ⟨[(0, .nils), (1, .nils), (5, .i 0), (14, .b false)], [], []⟩) := by
    rw [loopI_eq]
    simp [r17l0, b17l0]
  rw [callI_eq]
  simp [body1_eq _ _ (gp 17) g17, c17, a17, hlp]
theorem loopHeldI : ∀ (n : Nat) (done : List Int) (k : Int), 0 ≤ k → k + n ≤ 1152921504606846976 → done.length + n ≤ 1152921504606846976 →
      loopI G [0, 1, 5] [] c22l0 ⟨[(0, .sl false 1 (ints (done ++ marks k n))), (1, .i k), (5, .i done.length)], [], []⟩ =
        some (.exit 0, ⟨[(0, .sl false 1 (ints (done ++ marks k n))), (1, .i (k + n)), (5, .i (done.length + n)), (9, .b false)], [], []⟩)
  | 0, done, k, h0, h1, h2 => by
    rw [loopI_eq]
    simp [r22l0, b22l0, ints_len, marks]
  | n + 1, done, k, h0, h1, h2 => by
    rw [loopI_eq]
    have hat := ints_at done k (marks (k + 1) n)
    have hlt2 : (done.length : Int) < (done.length : Int) + ((n : Int) + 1) := by omega
    have hw : IntKind.i64.wrap ((done.length : Int) + 1) = (done.length : Int) + 1 := wr (by omega)
    have hw1 : IntKind.i64.wrap (k + 1) = k + 1 := wr (by omega)
    have hn := loopHeldI n (done ++ [k]) (k + 1) (by omega) (by omega) (by simp; omega)
    have e1 : k + 1 + (n : Int) = k + ((n : Int) + 1) := by omega
    have e2 : (done.length : Int) + 1 + (n : Int) = (done.length : Int) + ((n : Int) + 1) := by omega
    simp [r22l0, b22l0, ints_len, marks_len, marks, hat, hlt2, hw, hw1]
    simpa [e1, e2] using hn
theorem eqHeldI (n : Nat) (k : Int) (h0 : 0 ≤ k) (h1 : k ≤ 1000000) (hn : n ≤ 1000000) : callI G 22 [.sl false 1 (ints (marks k n)), .i k] [] = some (.i (k + n), []) := by
  have hlp := loopHeldI n [] k h0 (by omega) (by simp; omega)
  simp only [List.nil_append, List.length_nil, show ((0 : Nat) : Int) = 0 from rfl] at hlp
  rw [callI_eq]
  simp [body1_eq _ _ (gp 22) g22, c22, a22, hlp]
end Go.Am
end
section
set_option maxRecDepth 10000
set_option linter.unusedSimpArgs false
set_option linter.unusedVariables false
namespace Go.Am
open Go.Proofs
theorem ok_shape' {p : Pi} (h : ok p = true) : shape p = true := by unfold ok at h; simp at h; exact h.2
/-! a list that grows by appending: nil, or a row of the frame's own -/
def rv (d : Nat) : List Int → PV
  | [] => .nils
  | x :: xs => .own (0, d) (x :: xs).length
def ro (d : Nat) : List Int → Objs
  | [] => []
  | x :: xs => [(d, .row 1 (ints (x :: xs)))]
def fv : List Int → PV
  | [] => .nils
  | x :: xs => .sl true 1 (ints (x :: xs))
def fl (p : Pi) : Nat → Int → List Int
  | 0, _ => []
  | k + 1, n => if fr p n = true then n :: fl p k (n + 1) else fl p k (n + 1)
theorem fl_len (p : Pi) : ∀ k n, (fl p k n).length ≤ k
  | 0, _ => by simp [fl]
  | k + 1, n => by
    have := fl_len p k (n + 1)
    simp only [fl]
    split
    · simp; omega
    · omega
theorem loop18 (p : Pi) (hf : Fit p) (hok : ok p = true) : ∀ (k : Nat) (n : Int) (acc : List Int), 0 ≤ n → n + k = 30 → acc.length + k ≤ 30 →
    loopI G [1, 3, 4] [1, 5, 20] c18l0 ⟨[(1, .ref (0, 1) 1 0 0), (3, rv 20 acc), (4, .i n)], (1, .box (enc p).cells) :: ro 20 acc, []⟩ =
      some (.exit 0, ⟨[(1, .ref (0, 1) 1 0 0), (3, rv 20 (acc ++ fl p k n)), (4, .i 30), (11, .b false)], (1, .box (enc p).cells) :: ro 20 (acc ++ fl p k n), []⟩)
  | 0, n, acc, h0, h1, h2 => by
    have e : n = 30 := by omega
    subst e
    rw [loopI_eq]
    obtain ⟨o, x, y, ps⟩ := p
    cases acc <;> simp [r18l0, b18l0, enc, rv, ro, fl]
  | k + 1, n, acc, h0, h1, h2 => by
    have hlt : n < 30 := by omega
    have hw : IntKind.i64.wrap (n + 1) = n + 1 := wr (by omega)
    have h46 := eq46 p hf n
    have h10 := eqOkS p hf
    rw [hok] at h10
    by_cases hfr : fr p n = true
    · have hn := loop18 p hf hok k (n + 1) (acc ++ [n]) (by omega) (by omega) (by simp; omega)
      rw [loopI_eq]
      rw [hfr] at h46
      obtain ⟨o, x, y, ps⟩ := p
      simp only [enc, PV.cells] at h46 h10 hn
      cases acc with
      | nil =>
        simp [r18l0, b18l0, enc, rv, ro, hlt, h10, h46, hw]
        simpa [rv, ro, fl, hfr, ints] using hn
      | cons a acc =>
        have hb : acc.length + 1 + 1 ≤ 4294967296 := by simp at h2; omega
        simp [r18l0, b18l0, enc, rv, ro, hlt, h10, h46, hw, ints_len, hb]
        simpa [rv, ro, fl, hfr, ints, ints_app] using hn
    · have hfr : fr p n = false := by simpa using hfr
      have hn := loop18 p hf hok k (n + 1) acc (by omega) (by omega) (by omega)
      rw [loopI_eq]
      rw [hfr] at h46
      obtain ⟨o, x, y, ps⟩ := p
      simp only [enc, PV.cells] at h46 h10 hn
      cases acc with
      | nil =>
        simp [r18l0, b18l0, enc, rv, ro, hlt, h10, h46, hw]
        simpa [rv, ro, fl, hfr] using hn
      | cons a acc =>
        simp [r18l0, b18l0, enc, rv, ro, hlt, h10, h46, hw]
        simpa [rv, ro, fl, hfr] using hn
def freeL (p : Pi) : List Int := if ok p = true then fl p 30 0 else []
theorem eqFreeS (p : Pi) (hf : Fit p) : callI G 18 [enc p] [] = some (fv (freeL p), []) := by
  by_cases hok : ok p = true
  · have hlp := loop18 p hf hok 30 0 [] (by omega) (by omega) (by simp)
    have hfl : freeL p = fl p 30 0 := by simp [freeL, hok]
    rw [hfl]
    rw [callI_eq]
    obtain ⟨o, x, y, ps⟩ := p
    simp only [enc, PV.cells, rv, ro, List.nil_append] at hlp
    cases hL : fl (.mk o x y ps) 30 0 with
    | nil =>
      simp only [hL, rv, ro] at hlp
      simp [body1_eq _ _ (gp 18) g18, c18, a18, enc, hlp, fv]
    | cons a acc =>
      simp only [hL, rv, ro] at hlp
      simp [body1_eq _ _ (gp 18) g18, c18, a18, enc, hlp, fv, ints_len]
  · have hok : ok p = false := by simpa using hok
    have h10 := eqOkS p hf
    rw [hok] at h10
    have hfl : freeL p = [] := by simp [freeL, hok]
    rw [hfl]
    have hx : loopI G [1, 3, 4] [1, 5, 20] c18l0 ⟨[(1, .ref (0, 1) 1 0 0), (3, .nils), (4, .i 0)], [(1, .box (enc p).cells)], []⟩ = some (.exit 0, ⟨[(1, .ref (0, 1) 1 0 0), (3, .nils), (4, .i 0), (11, .b false)], [(1, .box (enc p).cells)], []⟩) := by
      rw [loopI_eq]
      obtain ⟨o, x, y, ps⟩ := p
      simp only [enc] at h10
      simp [r18l0, b18l0, enc, h10]
    rw [callI_eq]
    obtain ⟨o, x, y, ps⟩ := p
    simp only [enc, PV.cells] at hx
    simp [body1_eq _ _ (gp 18) g18, c18, a18, enc, hx, fv]
def gl : List Bool → Int → List Int
  | [], _ => []
  | b :: bs, i => if b = true then i :: gl bs (i + 1) else gl bs (i + 1)
theorem loop19 : ∀ (cr cd : List Bool) (acc : List Int), cd.length + cr.length = 30 → acc.length + cr.length ≤ 30 → ∀ i : Int, i = cd.length →
    loopI G [3, 12, 13] [6, 21] c19l0 ⟨[(3, rv 21 acc), (12, .agg (bls (cd ++ cr))), (13, .i i)], ro 21 acc, []⟩ =
      some (.exit 0, ⟨[(3, rv 21 (acc ++ gl cr i)), (12, .agg (bls (cd ++ cr))), (13, .i 30), (14, .b false)], ro 21 (acc ++ gl cr i), []⟩)
  | [], cd, acc, h, h2, i, hi => by
    have e : i = 30 := by simp at h; omega
    subst e
    rw [loopI_eq]
    cases acc <;> simp [r19l0, b19l0, rv, ro, gl]
  | c :: cr, cd, acc, h, h2, i, hi => by
    have hlt : i < 30 := by simp at h; omega
    have hge : 0 ≤ i := by omega
    have hc1 := bls_at cd c cr i.toNat (by omega)
    have hw : IntKind.i64.wrap (i + 1) = i + 1 := wr (by omega)
    cases c with
    | true =>
      have hn := loop19 cr (cd ++ [true]) (acc ++ [i]) (by simp at h ⊢; omega) (by simp at h2 ⊢; omega) (i + 1) (by simp; omega)
      rw [loopI_eq]
      cases acc with
      | nil =>
        simp [r19l0, b19l0, rv, ro, hlt, hge, hc1, hw]
        simpa [rv, ro, gl, ints] using hn
      | cons a acc =>
        have hb : acc.length + 1 + 1 ≤ 4294967296 := by simp at h2; omega
        simp [r19l0, b19l0, rv, ro, hlt, hge, hc1, hw, ints_len, hb]
        simpa [rv, ro, gl, ints, ints_app] using hn
    | false =>
      have hn := loop19 cr (cd ++ [false]) acc (by simp at h ⊢; omega) (by simp at h2 ⊢; omega) (i + 1) (by simp; omega)
      rw [loopI_eq]
      cases acc with
      | nil =>
        simp [r19l0, b19l0, rv, ro, hlt, hge, hc1, hw]
        simpa [rv, ro, gl] using hn
      | cons a acc =>
        simp [r19l0, b19l0, rv, ro, hlt, hge, hc1, hw]
        simpa [rv, ro, gl] using hn
theorem gl_fl (p : Pi) : ∀ (cr : List Bool) (k : Int), 0 ≤ k → (∀ j : Nat, j < cr.length → cr.getD j false = fr p (k + j)) → gl cr k = fl p cr.length k
  | [], k, _, _ => rfl
  | b :: bs, k, hk, h => by
    have h0 := h 0 (by simp)
    simp only [List.getD_cons_zero, show ((0 : Nat) : Int) = 0 from rfl, Int.add_zero] at h0
    have ih := gl_fl p bs (k + 1) (by omega) (fun j hj => by
      have := h (j + 1) (by simp; omega)
      simp only [List.getD_cons_succ, Int.natCast_add, show ((1 : Nat) : Int) = 1 from rfl] at this
      rw [this]; congr 1; omega)
    simp only [gl, List.length_cons, fl, ih, h0]
theorem eqFreeI (p : Pi) (hf : Fit p) : callI G 19 [enc p] [] = some (fv (freeL p), []) := by
  have h12 := eqOkI p hf
  by_cases hok : ok p = true
  · have hs := ok_shape' hok
    have h47 := eq47 p hf hs
    have hlp := loop19 (fre p) [] [] (by simp [fre_len]) (by simp [fre_len]) 0 rfl
    have hfl : freeL p = gl (fre p) 0 := by
      rw [gl_fl p (fre p) 0 (by omega) (fun j hj => by
        have := fre_fr p hs j (by omega)
        simpa [at30] using this), fre_len]
      simp [freeL, hok]
    rw [hfl]
    rw [hok] at h12
    rw [callI_eq]
    generalize fre p = F at *
    obtain ⟨o, x, y, ps⟩ := p
    simp only [enc] at h12 h47
    simp only [rv, ro, List.nil_append] at hlp
    cases hL : gl F 0 with
    | nil =>
      simp only [hL, rv, ro] at hlp
      simp [body1_eq _ _ (gp 19) g19, c19, a19, enc, h12, h47, hlp, fv]
    | cons a acc =>
      simp only [hL, rv, ro] at hlp
      simp [body1_eq _ _ (gp 19) g19, c19, a19, enc, h12, h47, hlp, fv, ints_len]
  · have hok : ok p = false := by simpa using hok
    rw [hok] at h12
    have hfl : freeL p = [] := by simp [freeL, hok]
    rw [hfl]
    rw [callI_eq]
    obtain ⟨o, x, y, ps⟩ := p
    simp only [enc] at h12
    simp [body1_eq _ _ (gp 19) g19, c19, a19, enc, h12, fv]
/-! the law -/
mutual
theorem szPi_cnt : ∀ (p : Pi) (l : Int), 0 ≤ l → 0 ≤ szPi p l → szPi p l = l + 1 - cnt p
  | .mk _ _ _ ps, l, h0, h => by
    simp only [szPi, cnt] at h ⊢
    split at h
    · omega
    · rename_i hn
      rw [if_neg hn, szL_cnt ps (l - ps.length) (by omega) h]
      omega
theorem szL_cnt : ∀ (ps : List Pi) (l : Int), 0 ≤ l → 0 ≤ szL ps l → szL ps l = l + ps.length - cnts ps
  | [], l, h0, h => by simp [szL, cnts]
  | p :: ps, l, h0, h => by
    simp only [szL, cnts] at h ⊢
    split at h
    · omega
    · rename_i hn
      have h1 := szPi_cnt p l h0 (by omega)
      rw [if_neg hn, szL_cnt ps (szPi p l) (by omega) h, h1]
      simp
      omega
end
end Go.Am
end
