/- What the functions that the law reaches compute. -/
import Derived.Test.YtifjnagbhfnmgaaDoorEqD
import Derived.Test.YtifjnagbhfnmgaaDoorEqC
import Derived.Test.YtifjnagbhfnmgaaDoorEqA
import Derived.Test.YtifjnagbhfnmgaaDoorAnD
section
set_option maxRecDepth 10000
set_option maxHeartbeats 4000000
set_option linter.unusedSimpArgs false
set_option linter.unusedVariables false
namespace Go.Am
open Go.Proofs
theorem expT (a : PV) (l : List PV) (nl : Bool) : encP nl true (a :: l) = .sl true 4 (a :: l) := encP_sl nl true _ (.inr (by simp))
theorem loopPutS1 (nl : Bool) (o x y f t : Int) (p q : Pi) (hc : callI G 43 [encX nl false p, .i f, .i t] [] = some (encX true true q, [])) :
      loopI G [1, 2, 6, 7, 8, 11] [6, 7, 99, 123] c43l0 ⟨[(1, .i f), (2, .i t), (6, .ref (0, 6) 1 0 0), (7, .ref (0, 7) 1 0 0), (8, encP nl false [encX nl false p]), (11, .i 0)], [(6, .box [.i 0, .i 0, .i 0, .nils]), (7, .box [.i o, .i x, .i y, .nils])], []⟩ =
        some (.exit 0, ⟨[(1, .i f), (2, .i t), (6, .ref (0, 6) 1 0 0), (7, .ref (0, 7) 1 0 0), (8, encP nl false [encX nl false p]), (11, .i 1), (110, .b false)], [(6, .box [.i 0, .i 0, .i 0, .nils]), (7, .box [.i o, .i x, .i y, .own (0, 123) 1]), (123, .row 4 [encX true true q])], []⟩) := by
  have h := loopPutS nl o x y f t (fun _ => q) [p] (by intro p' hp; rw [List.mem_singleton.1 hp]; exact hc) [] [] (by simp) rfl
  simpa [rvP, roP, encXs] using h
theorem l13Put_b1 (o : Int) (ho : o = 2 ∨ o = 6) (nl : Bool) (x y f t : Int) (p q : Pi) (hB0 : 0 ≤ bnd o x y) (c1 : bnd o x y = f)
    (hc : callI G 43 [encX nl false p, .i t, .i t] [] = some (encX true true q, [])) :
    callI G 43 [encX nl false (.mk o x y [p]), .i f, .i t] [] = some (encX true true (.mk o (px o x f t) (py o y f t) [q]), []) := by
  have hbb := eqBindsSX nl o x y [p]
  have hlp := fun X Y => loopPutS1 nl o X Y t t p q hc
  rw [callI_eq]
  obtain ⟨po, pa, pb, qs⟩ := p
  obtain ⟨so, sa, sb, ss⟩ := q
  simp only [encX, encXs] at hbb hlp
  generalize bnd o x y = B at *
  subst c1
  by_cases hq : ss = []
  · subst hq
    simp only [encXs, encP_nil] at hlp
    by_cases ht : B = t
    · subst ht
      rcases ho with h | h <;> subst h
      · by_cases hx : x = B <;> (try simp only [hx] at hbb) <;> simp [body1_eq _ _ (gp 43) g43, c43, a43, encX, encXs, encP_nil, expT, hbb, encXs_len, px, py, hB0, hlp, hx]
      · simp [body1_eq _ _ (gp 43) g43, c43, a43, encX, encXs, encP_nil, expT, hbb, encXs_len, px, py, hB0, hlp]
    · rcases ho with h | h <;> subst h
      · by_cases hx : x = B <;> (try simp only [hx] at hbb) <;> simp [body1_eq _ _ (gp 43) g43, c43, a43, encX, encXs, encP_nil, expT, hbb, encXs_len, px, py, hB0, hlp, hx, ht]
      · simp [body1_eq _ _ (gp 43) g43, c43, a43, encX, encXs, encP_nil, expT, hbb, encXs_len, px, py, hB0, hlp, ht]
  · simp only [expP ss hq] at hlp
    by_cases ht : B = t
    · subst ht
      rcases ho with h | h <;> subst h
      · by_cases hx : x = B <;> (try simp only [hx] at hbb) <;> simp [body1_eq _ _ (gp 43) g43, c43, a43, encX, encXs, encP_nil, expT, hbb, encXs_len, px, py, hB0, hlp, hx, expP ss hq, noShares_XU]
      · simp [body1_eq _ _ (gp 43) g43, c43, a43, encX, encXs, encP_nil, expT, hbb, encXs_len, px, py, hB0, hlp, expP ss hq, noShares_XU]
    · rcases ho with h | h <;> subst h
      · by_cases hx : x = B <;> (try simp only [hx] at hbb) <;> simp [body1_eq _ _ (gp 43) g43, c43, a43, encX, encXs, encP_nil, expT, hbb, encXs_len, px, py, hB0, hlp, hx, ht, expP ss hq, noShares_XU]
      · simp [body1_eq _ _ (gp 43) g43, c43, a43, encX, encXs, encP_nil, expT, hbb, encXs_len, px, py, hB0, hlp, ht, expP ss hq, noShares_XU]
theorem l13Put_b2 (o : Int) (ho : o = 2 ∨ o = 6) (nl : Bool) (x y f t : Int) (p q : Pi) (hB0 : 0 ≤ bnd o x y) (c1 : ¬ bnd o x y = f) (hs : shape p = true) (c2 : ¬ bnd o x y = t ∨ fr p f = false)
    (hc : callI G 43 [encX nl false p, .i f, .i t] [] = some (encX true true q, [])) :
    callI G 43 [encX nl false (.mk o x y [p]), .i f, .i t] [] = some (encX true true (.mk o (px o x f t) (py o y f t) [q]), []) := by
  have hbb := eqBindsSX nl o x y [p]
  have hlp := fun X Y => loopPutS1 nl o X Y f t p q hc
  have hfr := eq46X nl p (shape_fit p hs) f
  rw [callI_eq]
  by_cases ht : bnd o x y = t
  · have c3 : fr p f = false := c2.resolve_left (fun h => h ht)
    rw [c3] at hfr
    have hft : ¬ f = t := fun e => c1 (ht.trans e.symm)
    clear c2
    obtain ⟨po, pa, pb, qs⟩ := p
    obtain ⟨so, sa, sb, ss⟩ := q
    simp only [encX, encXs] at hbb hlp hfr
    generalize bnd o x y = B at *
    subst ht
    have c1' : ¬ f = B := fun e => c1 e.symm
    by_cases hq : ss = []
    · subst hq
      simp only [encXs, encP_nil] at hlp
      rcases ho with h | h <;> subst h
      · by_cases hx : x = f <;> (try simp only [hx] at hbb) <;> simp [body1_eq _ _ (gp 43) g43, c43, a43, encX, encXs, encP_nil, expT, hbb, encXs_len, px, py, hB0, hlp, hx, c1, c1', hfr]
      · simp [body1_eq _ _ (gp 43) g43, c43, a43, encX, encXs, encP_nil, expT, hbb, encXs_len, px, py, hB0, hlp, c1, c1', hfr]
    · simp only [expP ss hq] at hlp
      rcases ho with h | h <;> subst h
      · by_cases hx : x = f <;> (try simp only [hx] at hbb) <;> simp [body1_eq _ _ (gp 43) g43, c43, a43, encX, encXs, encP_nil, expT, hbb, encXs_len, px, py, hB0, hlp, hx, c1, c1', hfr, expP ss hq, noShares_XU]
      · simp [body1_eq _ _ (gp 43) g43, c43, a43, encX, encXs, encP_nil, expT, hbb, encXs_len, px, py, hB0, hlp, c1, c1', hfr, expP ss hq, noShares_XU]
  · clear c2 hfr
    obtain ⟨po, pa, pb, qs⟩ := p
    obtain ⟨so, sa, sb, ss⟩ := q
    simp only [encX, encXs] at hbb hlp
    generalize bnd o x y = B at *
    by_cases hq : ss = []
    · subst hq
      simp only [encXs, encP_nil] at hlp
      rcases ho with h | h <;> subst h
      · by_cases hx : x = f <;> (try simp only [hx] at hbb) <;> simp [body1_eq _ _ (gp 43) g43, c43, a43, encX, encXs, encP_nil, expT, hbb, encXs_len, px, py, hB0, hlp, hx, c1, ht]
      · simp [body1_eq _ _ (gp 43) g43, c43, a43, encX, encXs, encP_nil, expT, hbb, encXs_len, px, py, hB0, hlp, c1, ht]
    · simp only [expP ss hq] at hlp
      rcases ho with h | h <;> subst h
      · by_cases hx : x = f <;> (try simp only [hx] at hbb) <;> simp [body1_eq _ _ (gp 43) g43, c43, a43, encX, encXs, encP_nil, expT, hbb, encXs_len, px, py, hB0, hlp, hx, c1, ht, expP ss hq, noShares_XU]
      · simp [body1_eq _ _ (gp 43) g43, c43, a43, encX, encXs, encP_nil, expT, hbb, encXs_len, px, py, hB0, hlp, c1, ht, expP ss hq, noShares_XU]
theorem l13Put_b3 (o : Int) (ho : o = 2 ∨ o = 6) (nl : Bool) (x y f t : Int) (p q1 q2 : Pi) (hB0 : 0 ≤ bnd o x y) (c1 : ¬ bnd o x y = f) (hs : shape p = true) (hcn : cnt p ≤ 13) (ht : bnd o x y = t) (c3 : fr p f = true)
    (i2 : callI G 43 [encX nl false p, .i t, .i (fsh p f t 30 0)] [] = some (encX true true q1, []))
    (i3 : callI G 43 [encX true false q1, .i f, .i t] [] = some (encX true true q2, [])) :
    callI G 43 [encX nl false (.mk o x y [p]), .i f, .i t] [] = some (encX true true (.mk o (if o = 2 then px o x f t else fsh p f t 30 0) (if o = 2 then fsh p f t 30 0 else y) [q2]), []) := by
  have hbb := eqBindsSX nl o x y [p]
  have hlp := fun X Y => loopPutOwn o X Y f t q1 q2 i3
  have hfr := eq46X nl p (shape_fit p hs) f
  have hfs := eqFresh nl p (fun n => eq46X nl p (shape_fit p hs) n) hcn f t
  rw [c3] at hfr
  rw [callI_eq]
  generalize fsh p f t 30 0 = z at *
  have hft : ¬ f = t := fun e => c1 (ht.trans e.symm)
  obtain ⟨po, pa, pb, qs⟩ := p
  obtain ⟨ro, ra, rb, rs⟩ := q1
  obtain ⟨so, sa, sb, ss⟩ := q2
  simp only [encX, encXs] at hbb hlp hfr hfs i2
  generalize bnd o x y = B at *
  subst ht
  have c1' : ¬ f = B := fun e => c1 e.symm
  by_cases hr : rs = []
  · subst hr
    by_cases hq : ss = []
    · subst hq
      simp only [encXs, encP_nil] at hlp i2
      rcases ho with h | h <;> subst h
      · by_cases hx : x = f <;> (try simp only [hx] at hbb) <;> simp [body1_eq _ _ (gp 43) g43, c43, a43, encX, encXs, encP_nil, expT, hbb, encXs_len, px, py, hB0, hlp, hx, c1, c1', hfr, hfs, i2]
      · simp [body1_eq _ _ (gp 43) g43, c43, a43, encX, encXs, encP_nil, expT, hbb, encXs_len, px, py, hB0, hlp, c1, c1', hfr, hfs, i2]
    · simp only [encXs, encP_nil, expP ss hq] at hlp i2
      rcases ho with h | h <;> subst h
      · by_cases hx : x = f <;> (try simp only [hx] at hbb) <;> simp [body1_eq _ _ (gp 43) g43, c43, a43, encX, encXs, encP_nil, expT, hbb, encXs_len, px, py, hB0, hlp, hx, c1, c1', hfr, hfs, i2, expP ss hq, noShares_XU]
      · simp [body1_eq _ _ (gp 43) g43, c43, a43, encX, encXs, encP_nil, expT, hbb, encXs_len, px, py, hB0, hlp, c1, c1', hfr, hfs, i2, expP ss hq, noShares_XU]
  · have hr2 : encP true false (encXs true false rs) = .sl false 4 (encXs true false rs) := encP_sl _ _ _ (.inr (fun e => hr (encXs_nil _ _ e)))
    by_cases hq : ss = []
    · subst hq
      simp only [encXs, encP_nil, expP rs hr, hr2] at hlp i2
      rcases ho with h | h <;> subst h
      · by_cases hx : x = f <;> (try simp only [hx] at hbb) <;> simp [body1_eq _ _ (gp 43) g43, c43, a43, encX, encXs, encP_nil, expT, hbb, encXs_len, px, py, hB0, hlp, hx, c1, c1', hfr, hfs, i2, fals_encXs, noShares_XU]
      · simp [body1_eq _ _ (gp 43) g43, c43, a43, encX, encXs, encP_nil, expT, hbb, encXs_len, px, py, hB0, hlp, c1, c1', hfr, hfs, i2, fals_encXs, noShares_XU]
    · simp only [expP rs hr, hr2, expP ss hq] at hlp i2
      rcases ho with h | h <;> subst h
      · by_cases hx : x = f <;> (try simp only [hx] at hbb) <;> simp [body1_eq _ _ (gp 43) g43, c43, a43, encX, encXs, encP_nil, expT, hbb, encXs_len, px, py, hB0, hlp, hx, c1, c1', hfr, hfs, i2, fals_encXs, expP ss hq, noShares_XU]
      · simp [body1_eq _ _ (gp 43) g43, c43, a43, encX, encXs, encP_nil, expT, hbb, encXs_len, px, py, hB0, hlp, c1, c1', hfr, hfs, i2, fals_encXs, expP ss hq, noShares_XU]
end Go.Am
end
section
set_option maxRecDepth 10000
set_option linter.unusedSimpArgs false
set_option linter.unusedVariables false
namespace Go.Am
open Go.Proofs

/-! #### marked terms are held -/
end Go.Am
end
section
set_option maxRecDepth 10000
set_option linter.unusedSimpArgs false
set_option linter.unusedVariables false
namespace Go.Am
open Go.Proofs
theorem ok_shape' {p : Pi} (h : ok p = true) : shape p = true := by unfold ok at h; simp at h; exact h.2
/-! a list that grows by appending: nil, or a row of the frame's own -/
def rv (d : Nat) : List Int → PV
  | [] => .nils
  | x :: xs => .own (0, d) (x :: xs).length
def ro (d : Nat) : List Int → Objs
  | [] => []
  | x :: xs => [(d, .row 1 (ints (x :: xs)))]
def fv : List Int → PV
  | [] => .nils
  | x :: xs => .sl true 1 (ints (x :: xs))
def fl (p : Pi) : Nat → Int → List Int
  | 0, _ => []
  | k + 1, n => if fr p n = true then n :: fl p k (n + 1) else fl p k (n + 1)
theorem fl_len (p : Pi) : ∀ k n, (fl p k n).length ≤ k
  | 0, _ => by simp [fl]
  | k + 1, n => by
    have := fl_len p k (n + 1)
    simp only [fl]
    split
    · simp; omega
    · omega
def freeL (p : Pi) : List Int := if ok p = true then fl p 30 0 else []
def gl : List Bool → Int → List Int
  | [], _ => []
  | b :: bs, i => if b = true then i :: gl bs (i + 1) else gl bs (i + 1)
theorem loop19 : ∀ (cr cd : List Bool) (acc : List Int), cd.length + cr.length = 30 → acc.length + cr.length ≤ 30 → ∀ i : Int, i = cd.length →
    loopI G [3, 12, 13] [6, 21] c22l0 ⟨[(3, rv 21 acc), (12, .agg (bls (cd ++ cr))), (13, .i i)], ro 21 acc, []⟩ =
      some (.exit 0, ⟨[(3, rv 21 (acc ++ gl cr i)), (12, .agg (bls (cd ++ cr))), (13, .i 30), (14, .b false)], ro 21 (acc ++ gl cr i), []⟩)
  | [], cd, acc, h, h2, i, hi => by
    have e : i = 30 := by simp at h; omega
    subst e
    rw [loopI_eq]
    cases acc <;> simp [r22l0, b22l0, rv, ro, gl]
  | c :: cr, cd, acc, h, h2, i, hi => by
    have hlt : i < 30 := by simp at h; omega
    have hge : 0 ≤ i := by omega
    have hc1 := bls_at cd c cr i.toNat (by omega)
    have hw : IntKind.i64.wrap (i + 1) = i + 1 := wr (by omega)
    cases c with
    | true =>
      have hn := loop19 cr (cd ++ [true]) (acc ++ [i]) (by simp at h ⊢; omega) (by simp at h2 ⊢; omega) (i + 1) (by simp; omega)
      rw [loopI_eq]
      cases acc with
      | nil =>
        simp [r22l0, b22l0, rv, ro, hlt, hge, hc1, hw]
        simpa [rv, ro, gl, ints] using hn
      | cons a acc =>
        have hb : acc.length + 1 + 1 ≤ 4294967296 := by simp at h2; omega
        simp [r22l0, b22l0, rv, ro, hlt, hge, hc1, hw, ints_len, hb]
        simpa [rv, ro, gl, ints, ints_app] using hn
    | false =>
      have hn := loop19 cr (cd ++ [false]) acc (by simp at h ⊢; omega) (by simp at h2 ⊢; omega) (i + 1) (by simp; omega)
      rw [loopI_eq]
      cases acc with
      | nil =>
        simp [r22l0, b22l0, rv, ro, hlt, hge, hc1, hw]
        simpa [rv, ro, gl] using hn
      | cons a acc =>
        simp [r22l0, b22l0, rv, ro, hlt, hge, hc1, hw]
        simpa [rv, ro, gl] using hn
theorem gl_fl (p : Pi) : ∀ (cr : List Bool) (k : Int), 0 ≤ k → (∀ j : Nat, j < cr.length → cr.getD j false = fr p (k + j)) → gl cr k = fl p cr.length k
  | [], k, _, _ => rfl
  | b :: bs, k, hk, h => by
    have h0 := h 0 (by simp)
    simp only [List.getD_cons_zero, show ((0 : Nat) : Int) = 0 from rfl, Int.add_zero] at h0
    have ih := gl_fl p bs (k + 1) (by omega) (fun j hj => by
      have := h (j + 1) (by simp; omega)
      simp only [List.getD_cons_succ, Int.natCast_add, show ((1 : Nat) : Int) = 1 from rfl] at this
      rw [this]; congr 1; omega)
    simp only [gl, List.length_cons, fl, ih, h0]
theorem eqFreeI (p : Pi) (hf : Fit p) : callI G 22 [enc p] [] = some (fv (freeL p), []) := by
  have h12 := eqOkI p hf
  by_cases hok : ok p = true
  · have hs := ok_shape' hok
    have h47 := eq47 p hf hs
    have hlp := loop19 (fre p) [] [] (by simp [fre_len]) (by simp [fre_len]) 0 rfl
    have hfl : freeL p = gl (fre p) 0 := by
      rw [gl_fl p (fre p) 0 (by omega) (fun j hj => by
        have := fre_fr p hs j (by omega)
        simpa [at30] using this), fre_len]
      simp [freeL, hok]
    rw [hfl]
    rw [hok] at h12
    rw [callI_eq]
    generalize fre p = F at *
    obtain ⟨o, x, y, ps⟩ := p
    simp only [enc] at h12 h47
    simp only [rv, ro, List.nil_append] at hlp
    cases hL : gl F 0 with
    | nil =>
      simp only [hL, rv, ro] at hlp
      simp [body1_eq _ _ (gp 22) g22, c22, a22, enc, h12, h47, hlp, fv]
    | cons a acc =>
      simp only [hL, rv, ro] at hlp
      simp [body1_eq _ _ (gp 22) g22, c22, a22, enc, h12, h47, hlp, fv, ints_len]
  · have hok : ok p = false := by simpa using hok
    rw [hok] at h12
    have hfl : freeL p = [] := by simp [freeL, hok]
    rw [hfl]
    rw [callI_eq]
    obtain ⟨o, x, y, ps⟩ := p
    simp only [enc] at h12
    simp [body1_eq _ _ (gp 22) g22, c22, a22, enc, h12, fv]
/-! the law -/
end Go.Am
end
section
set_option maxRecDepth 10000
set_option linter.unusedSimpArgs false
set_option linter.unusedVariables false
namespace Go.Am
open Go.Proofs
theorem cnts_mem : ∀ (ps : List Pi) (p : Pi), p ∈ ps → cnt p ≤ cnts ps
  | [], p, h => by cases h
  | q :: ps, p, h => by
    have hp := cnts_pos ps
    have hq := cnt_pos q
    simp only [cnts]
    rcases List.mem_cons.1 h with h | h
    · rw [h]; omega
    · have := cnts_mem ps p h; omega
theorem shapes_mem : ∀ (ps : List Pi) (p : Pi), shapes ps = true → p ∈ ps → shape p = true
  | [], p, _, h => by cases h
  | q :: ps, p, hs, h => by
    simp only [shapes, Bool.and_eq_true] at hs
    rcases List.mem_cons.1 h with h | h
    · rw [h]; exact hs.1
    · exact shapes_mem ps p hs.2 h
theorem kind_not2 {o x y : Int} {k : Nat} (hk : kindOK o x y = some (true, k)) (hb : bnd o x y < 0) : ¬ o = 2 := by
  intro h
  subst h
  simp [kindOK] at hk
  have := (nm_iff y).1 hk.1.2
  simp [bnd] at hb
  omega
theorem kind_one {o x y : Int} {k : Nat} (ho : o = 2 ∨ o = 6) (hk : kindOK o x y = some (true, k)) : k = 1 := by
  rcases ho with h | h <;> subst h <;> simp [kindOK] at hk <;> omega
theorem eqPutI : ∀ (n : Nat) (p : Pi), cnt p ≤ n → n ≤ 14 → shape p = true → ∀ (nl : Bool) (f t : Int), nm f = true → nm t = true →
    callI G 39 [encX nl false p, .i f, .i t] [] = some (encX true true (putF n p f t), [])
  | 0, p, hc, _, _, _, _, _, _, _ => by have := cnt_pos p; omega
  | n + 1, .mk o x y ps, hc, hn, hs, nl, f, t, hf, ht => by
    simp only [shape] at hs
    rcases hk : kindOK o x y with _ | ⟨ok, k⟩
    · simp [hk] at hs
    simp only [hk, Bool.and_eq_true, decide_eq_true_eq] at hs
    obtain ⟨h1, h2, h3⟩ := hs
    subst h1
    have hk2 := kind_le hk
    simp only [cnt] at hc
    by_cases hb : bnd o x y < 0
    · simp only [putF, if_pos hb]
      exact putIn_n nl o x y f t (fun p => putF n p f t) ps hb (kind_not2 hk hb) (by omega) (fun p hp => eqPutI n p (by have := cnts_mem ps p hp; omega) (by omega) (shapes_mem ps p h3 hp) nl f t hf ht)
    · have ho := bnd_cases hb
      have hk1 := kind_one ho hk
      rcases ps with _ | ⟨p, _ | ⟨q, l⟩⟩
      · simp at h2; omega
      · simp only [shapes, Bool.and_true] at h3
        simp only [cnts] at hc
        exact putIn_b o ho nl x y f t p n ⟨k, hk⟩ h3 (by omega) hf ht (fun nl f t q hq hcq hf ht => eqPutI n q (by omega) (by omega) hq nl f t hf ht)
      · simp at h2; omega
theorem eqPutS : ∀ (n : Nat) (p : Pi), cnt p ≤ n → n ≤ 14 → shape p = true → ∀ (nl : Bool) (f t : Int), nm f = true → nm t = true →
    callI G 43 [encX nl false p, .i f, .i t] [] = some (encX true true (putF n p f t), [])
  | 0, p, hc, _, _, _, _, _, _, _ => by have := cnt_pos p; omega
  | n + 1, .mk o x y ps, hc, hn, hs, nl, f, t, hf, ht => by
    simp only [shape] at hs
    rcases hk : kindOK o x y with _ | ⟨ok, k⟩
    · simp [hk] at hs
    simp only [hk, Bool.and_eq_true, decide_eq_true_eq] at hs
    obtain ⟨h1, h2, h3⟩ := hs
    subst h1
    have hk2 := kind_le hk
    simp only [cnt] at hc
    by_cases hb : bnd o x y < 0
    · simp only [putF, if_pos hb]
      exact l13Put_n nl o x y f t (fun p => putF n p f t) ps hb (kind_not2 hk hb) (by omega) (fun p hp => eqPutS n p (by have := cnts_mem ps p hp; omega) (by omega) (shapes_mem ps p h3 hp) nl f t hf ht)
    · have ho := bnd_cases hb
      have hk1 := kind_one ho hk
      rcases ps with _ | ⟨p, _ | ⟨q, l⟩⟩
      · simp at h2; omega
      · simp only [shapes, Bool.and_true] at h3
        simp only [cnts] at hc
        have ih := fun (nl : Bool) (f t : Int) (q : Pi) (hq : shape q = true) (hcq : cnt q = cnt p) (hf : nm f = true) (ht : nm t = true) => eqPutS n q (by omega) (by omega) hq nl f t hf ht
        simp only [putF, if_neg hb]
        by_cases c1 : bnd o x y = f
        · rw [if_pos (.inl c1)]
          have h := ih nl t t p h3 rfl ht ht
          rw [put_id] at h
          exact l13Put_b1 o ho nl x y f t p p (by omega) c1 h
        · by_cases c2 : fr p f = false
          · rw [if_pos (.inr c2)]
            have h := ih nl f t p h3 rfl hf ht
            rw [put_nfr n p f t ((nm_iff f).1 hf).1 c2] at h
            exact l13Put_b2 o ho nl x y f t p p (by omega) c1 h3 (.inr c2) h
          · rw [if_neg (fun h => h.elim c1 c2)]
            by_cases c3 : bnd o x y = t
            · rw [if_pos c3]
              have hz := fsh_nm p f t (by omega)
              have sh := put_shape n p t (fsh p f t 30 0) h3 (by omega) hz.1
              exact l13Put_b3 o ho nl x y f t p _ _ (by omega) c1 h3 (by omega) c3 (by simpa using c2) (ih nl t _ p h3 rfl ht hz.1) (ih true f t _ sh.1 sh.2 hf ht)
            · rw [if_neg c3]
              exact l13Put_b2 o ho nl x y f t p _ (by omega) c1 h3 (.inl c3) (ih nl f t p h3 rfl hf ht)
      · simp at h2; omega
def putR (p : Pi) (f t : Int) : Pi × Bool := if ok p = true ∧ nm f = true ∧ nm t = true then (putF 14 p f t, true) else (.mk 0 0 0 [], false)
theorem ok_cnt {p : Pi} (h : ok p = true) : cnt p ≤ 14 := by
  unfold ok at h
  simp only [Bool.and_eq_true, decide_eq_true_eq] at h
  have := pn_cnt p 14 (by omega)
  by_cases hc : cnt p ≤ 14
  · exact hc
  · have := this.2 (by omega); omega
theorem eqPutPiI (p : Pi) (hf : Fit p) (f t : Int) : callI G 20 [enc p, .i f, .i t] [] = some (.tup [encX true true (putR p f t).1, .b (putR p f t).2], []) := by
  have h12 := eqOkI p hf
  have n1 := eq58 f
  have n2 := eq58 t
  by_cases h1 : ok p = true
  · by_cases h2 : nm f = true
    · by_cases h3 : nm t = true
      · have hr : putR p f t = (putF 14 p f t, true) := by simp [putR, h1, h2, h3]
        have hput := eqPutI 14 p (ok_cnt h1) (by omega) (ok_shape' h1) false f t h2 h3
        rw [← enc_X] at hput
        rw [hr]
        rw [h1] at h12; rw [h2] at n1; rw [h3] at n2
        generalize putF 14 p f t = q at *
        clear hr
        obtain ⟨o, x, y, ps⟩ := p
        obtain ⟨so, sa, sb, ss⟩ := q
        rw [callI_eq]
        by_cases hs : ss = []
        · subst hs
          simp only [enc, encX, encXs, encP_nil] at h12 hput
          simp [body1_eq _ _ (gp 20) g20, c20, a20, enc, encX, encXs, encP_nil, h12, n1, n2, hput]
        · simp only [enc, encX, expP ss hs] at h12 hput
          simp [body1_eq _ _ (gp 20) g20, c20, a20, enc, encX, expP ss hs, h12, n1, n2, hput, noShares_XU]
      · have hr : putR p f t = (.mk 0 0 0 [], false) := by simp [putR, h3]
        have h3 : nm t = false := by simpa using h3
        rw [hr, callI_eq]
        rw [h1] at h12; rw [h2] at n1; rw [h3] at n2
        obtain ⟨o, x, y, ps⟩ := p
        simp only [enc] at h12
        simp [body1_eq _ _ (gp 20) g20, c20, a20, enc, encX, encXs, encP_nil, h12, n1, n2]
    · have hr : putR p f t = (.mk 0 0 0 [], false) := by simp [putR, h2]
      have h2 : nm f = false := by simpa using h2
      rw [hr, callI_eq]
      rw [h1] at h12; rw [h2] at n1
      obtain ⟨o, x, y, ps⟩ := p
      simp only [enc] at h12
      simp [body1_eq _ _ (gp 20) g20, c20, a20, enc, encX, encXs, encP_nil, h12, n1]
  · have hr : putR p f t = (.mk 0 0 0 [], false) := by simp [putR, h1]
    have h1 : ok p = false := by simpa using h1
    rw [hr, callI_eq]
    rw [h1] at h12
    obtain ⟨o, x, y, ps⟩ := p
    simp only [enc] at h12
    simp [body1_eq _ _ (gp 20) g20, c20, a20, enc, encX, encXs, encP_nil, h12]
theorem eqPutPiS (p : Pi) (hf : Fit p) (f t : Int) : callI G 24 [enc p, .i f, .i t] [] = some (.tup [encX true true (putR p f t).1, .b (putR p f t).2], []) := by
  have h12 := eqOkS p hf
  have n1 : callI G 42 [.i f] [] = some (.b (nm f), []) := l13Name f
  have n2 : callI G 42 [.i t] [] = some (.b (nm t), []) := l13Name t
  by_cases h1 : ok p = true
  · by_cases h2 : nm f = true
    · by_cases h3 : nm t = true
      · have hr : putR p f t = (putF 14 p f t, true) := by simp [putR, h1, h2, h3]
        have hput := eqPutS 14 p (ok_cnt h1) (by omega) (ok_shape' h1) false f t h2 h3
        rw [← enc_X] at hput
        rw [hr]
        rw [h1] at h12; rw [h2] at n1; rw [h3] at n2
        generalize putF 14 p f t = q at *
        clear hr
        obtain ⟨o, x, y, ps⟩ := p
        obtain ⟨so, sa, sb, ss⟩ := q
        rw [callI_eq]
        by_cases hs : ss = []
        · subst hs
          simp only [enc, encX, encXs, encP_nil] at h12 hput
          simp [body1_eq _ _ (gp 24) g24, c24, a24, enc, encX, encXs, encP_nil, h12, n1, n2, hput]
        · simp only [enc, encX, expP ss hs] at h12 hput
          simp [body1_eq _ _ (gp 24) g24, c24, a24, enc, encX, expP ss hs, h12, n1, n2, hput, noShares_XU]
      · have hr : putR p f t = (.mk 0 0 0 [], false) := by simp [putR, h3]
        have h3 : nm t = false := by simpa using h3
        rw [hr, callI_eq]
        rw [h1] at h12; rw [h2] at n1; rw [h3] at n2
        obtain ⟨o, x, y, ps⟩ := p
        simp only [enc] at h12
        simp [body1_eq _ _ (gp 24) g24, c24, a24, enc, encX, encXs, encP_nil, h12, n1, n2]
    · have hr : putR p f t = (.mk 0 0 0 [], false) := by simp [putR, h2]
      have h2 : nm f = false := by simpa using h2
      rw [hr, callI_eq]
      rw [h1] at h12; rw [h2] at n1
      obtain ⟨o, x, y, ps⟩ := p
      simp only [enc] at h12
      simp [body1_eq _ _ (gp 24) g24, c24, a24, enc, encX, encXs, encP_nil, h12, n1]
  · have hr : putR p f t = (.mk 0 0 0 [], false) := by simp [putR, h1]
    have h1 : ok p = false := by simpa using h1
    rw [hr, callI_eq]
    rw [h1] at h12
    obtain ⟨o, x, y, ps⟩ := p
    simp only [enc] at h12
    simp [body1_eq _ _ (gp 24) g24, c24, a24, enc, encX, encXs, encP_nil, h12]
end Go.Am
end
section
set_option maxRecDepth 10000
set_option linter.unusedSimpArgs false
set_option linter.unusedVariables false
namespace Go.Am
open Go.Proofs
/-! What a key of a term with a name put for another one is. -/
mutual
theorem key_congr (σ τ : Int → List UInt8) (d : Int) : ∀ p : Pi, shape p = true → (∀ k, 0 ≤ k → fr p k = true → σ k = τ k) → key σ d p = key τ d p
  | .mk o x y ps, hs, h => by
    obtain ⟨hx, hy, hss, ho⟩ := shape_parts hs
    have hps : ∀ k, 0 ≤ k → ¬ bnd o x y = k → frs ps k = true → σ k = τ k := fun k h0 h1 h2 => h k h0 (by simp [fr, h1, h2])
    have hup : ∀ n, bnd o x y = n → ∀ k, 0 ≤ k → frs ps k = true → up σ n d k = up τ n d k := by
      intro n hn k h0 hk
      unfold up
      by_cases e : k = n
      · simp [e]
      · rw [if_neg e, if_neg e]; exact hps k h0 (by rw [hn]; exact fun e2 => e e2.symm) hk
    have hno : bnd o x y = -1 → keys σ d ps = keys τ d ps := fun e => keys_congr σ τ d ps hss (fun k h0 hk => hps k h0 (by omega) hk)
    have hux : o = 1 ∨ o = 7 ∨ o = 2 → σ x = τ x := fun e => h x hx.1 (by rcases e with rfl | rfl | rfl <;> simp [fr, usB, usesL])
    have huy : o = 1 ∨ o = 7 → σ y = τ y := fun e => h y hy.1 (by rcases e with rfl | rfl <;> simp [fr, usB, usesL])
    rcases ho with rfl | rfl | rfl | rfl | rfl | rfl | rfl | rfl
    · simp [key]
    · simp [key, hno (by simp [bnd]), hux, huy]
    · have e := keys_congr (up σ y d) (up τ y d) (d + 1) ps hss (fun k h0 hk => hup y (by simp [bnd]) k h0 hk)
      simp [key, e, hux]
    · simp [key, hno (by simp [bnd])]
    · simp [key, hno (by simp [bnd])]
    · simp [key, hno (by simp [bnd])]
    · have e := keys_congr (up σ x d) (up τ x d) (d + 1) ps hss (fun k h0 hk => hup x (by simp [bnd]) k h0 hk)
      simp [key, e]
    · simp [key, hno (by simp [bnd]), hux, huy]
theorem keys_congr (σ τ : Int → List UInt8) (d : Int) : ∀ ps : List Pi, shapes ps = true → (∀ k, 0 ≤ k → frs ps k = true → σ k = τ k) → keys σ d ps = keys τ d ps
  | [], _, _ => rfl
  | p :: ps, hs, h => by
    simp only [shapes, Bool.and_eq_true] at hs
    simp only [keys]
    rw [key_congr σ τ d p hs.1 (fun k h0 hk => h k h0 (by simp [frs, hk])), keys_congr σ τ d ps hs.2 (fun k h0 hk => h k h0 (by simp [frs, hk]))]
end
/-- Names' texts, one put for another. -/
def sub (σ : Int → List UInt8) (f t : Int) : Int → List UInt8 := fun k => if k = f then σ t else σ k
theorem up_at (σ : Int → List UInt8) (n d k : Int) : up σ n d k = if k = n then 35 :: dg d else σ k := rfl
theorem put_key : ∀ (n : Nat) (p : Pi) (f t : Int) (σ : Int → List UInt8) (d : Int), cnt p ≤ n → cnt p ≤ 14 → shape p = true → nm f = true → nm t = true → key σ d (putF n p f t) = key (sub σ f t) d p
  | 0, p, _, _, _, _, h, _, _, _, _ => by have := cnt_pos p; omega
  | n + 1, .mk o x y ps, f, t, σ, d, hc, hc2, hs, hf, ht => by
    obtain ⟨hx, hy, hss, ho⟩ := shape_parts hs
    obtain ⟨n0, n1, n2⟩ := shape_len hs
    simp only [cnt] at hc hc2
    have hm : ∀ (ps : List Pi), cnts ps ≤ n → cnts ps ≤ 14 → shapes ps = true → keys σ d (ps.map (fun p => putF n p f t)) = keys (sub σ f t) d ps := by
      intro ps
      induction ps with
      | nil => intro _ _ _; rfl
      | cons q qs ih =>
        intro h1 h2 h3
        have := cnt_pos q
        have := cnts_pos qs
        simp only [cnts] at h1 h2
        simp only [shapes, Bool.and_eq_true] at h3
        simp only [List.map_cons, keys]
        rw [put_key n q f t σ d (by omega) (by omega) h3.1 hf ht, ih (by omega) (by omega) h3.2]
    have hpx : o = 1 ∨ o = 7 ∨ o = 2 → σ (px o x f t) = sub σ f t x := by
      intro h
      unfold px sub
      by_cases e : x = f <;> simp [h, e]
    have hpy : o = 1 ∨ o = 7 → σ (py o y f t) = sub σ f t y := by
      intro h
      unfold py sub
      by_cases e : y = f <;> simp [h, e]
    by_cases hb : bnd o x y < 0
    · have hk := hm ps (by omega) (by omega) hss
      simp only [putF, if_pos hb]
      rcases ho with rfl | rfl | rfl | rfl | rfl | rfl | rfl | rfl
      · simp [key]
      · simp [key, hk, hpx, hpy]
      · simp [bnd] at hb; omega
      · simp [key, hk]
      · simp [key, hk]
      · simp [key, hk]
      · simp [bnd] at hb; omega
      · simp [key, hk, hpx, hpy]
    · have ho2 := bnd_cases hb
      obtain ⟨p, rfl⟩ := len1 (n1 (by omega))
      simp only [shapes, Bool.and_true] at hss
      simp only [cnts] at hc hc2
      have hz := fsh_nm p f t (by omega)
      have sh := put_shape n p t (fsh p f t 30 0) hss (by omega) hz.1
      have i1 := fun σ' => put_key n p f t σ' (d + 1) (by omega) (by omega) hss hf ht
      have i2 := fun σ' => put_key n p t (fsh p f t 30 0) σ' (d + 1) (by omega) (by omega) hss ht hz.1
      have i3 := fun σ' => put_key n (putF n p t (fsh p f t 30 0)) f t σ' (d + 1) (by omega) (by omega) sh.1 hf ht
      simp only [putF, if_neg hb]
      generalize fsh p f t 30 0 = z at *
      obtain ⟨hzn, hzf, hzt, hzr⟩ := hz
      -- the part under its binder
      have A : ∀ b, bnd o x y = b → (b = f ∨ fr p f = false) → key (up σ b d) (d + 1) p = key (up (sub σ f t) b d) (d + 1) p := by
        intro b hb' h
        refine key_congr _ _ _ p hss fun k h0 hk => ?_
        simp only [up_at, sub]
        by_cases e : k = b
        · simp [e]
        · rw [if_neg e, if_neg e]
          by_cases e2 : k = f
          · subst e2
            rcases h with h | h
            · exact absurd h.symm e
            · rw [h] at hk; cases hk
          · rw [if_neg e2]
      have B : ∀ b, ¬ b = f → b = t → key (up σ z d) (d + 1) (putF n (putF n p t z) f t) = key (up (sub σ f t) b d) (d + 1) p := by
        intro b h1 h2
        rw [i3, i2]
        refine key_congr _ _ _ p hss fun k h0 hk => ?_
        simp only [up_at, sub]
        have hkz : ¬ k = z := by intro e; rw [e, hzr] at hk; cases hk
        have htz : ¬ t = z := fun e => hzt e.symm
        subst h2
        by_cases e : k = b
        · simp [e, hzf]
        · by_cases e2 : k = f
          · subst e2; simp [e, htz]
          · simp [e, e2, hkz]
      have C : ∀ b, ¬ b = f → ¬ b = t → key (up σ b d) (d + 1) (putF n p f t) = key (up (sub σ f t) b d) (d + 1) p := by
        intro b h1 h2
        rw [i1]
        refine key_congr _ _ _ p hss fun k h0 hk => ?_
        simp only [up_at, sub]
        have h2' : ¬ t = b := fun e => h2 e.symm
        by_cases e : k = b
        · simp [e, h1]
        · by_cases e2 : k = f
          · subst e2; simp [e, h2']
          · simp [e, e2]
      by_cases c1 : bnd o x y = f ∨ fr p f = false
      · rw [if_pos c1]
        rcases ho2 with rfl | rfl
        · have hA := A y (by simp [bnd]) (by simpa [bnd] using c1)
          simp [key, keys, hA, hpx, py]
        · have hA := A x (by simp [bnd]) (by simpa [bnd] using c1)
          simp [key, keys, hA, px, py]
      · rw [if_neg c1]
        simp only [not_or] at c1
        by_cases c2 : bnd o x y = t
        · rw [if_pos c2]
          rcases ho2 with rfl | rfl
          · have hB := B y (by simpa [bnd] using c1.1) (by simpa [bnd] using c2)
            simp [key, keys, hB, hpx]
          · have hB := B x (by simpa [bnd] using c1.1) (by simpa [bnd] using c2)
            simp [key, keys, hB]
        · rw [if_neg c2]
          rcases ho2 with rfl | rfl
          · have hC := C y (by simpa [bnd] using c1.1) (by simpa [bnd] using c2)
            simp [key, keys, hC, hpx, py]
          · have hC := C x (by simpa [bnd] using c1.1) (by simpa [bnd] using c2)
            simp [key, keys, hC, px, py]
end Go.Am
end
section
set_option maxRecDepth 10000
set_option linter.unusedSimpArgs false
set_option linter.unusedVariables false
namespace Go.Am
open Go.Proofs
end Go.Am
end
section
set_option maxRecDepth 10000
set_option maxHeartbeats 4000000
set_option linter.unusedSimpArgs false
set_option linter.unusedVariables false
namespace Go.Am
open Go.Proofs
/-! What is free in a term with a name put for another one. -/
def rn (F : Int → Bool) (f t k : Int) : Bool := (F k && decide (¬ k = f)) || (decide (k = t) && F f)
theorem dx (x f t k : Int) : decide ((if x = f then t else x) = k) = ((decide (x = k) && decide (¬ k = f)) || (decide (k = t) && decide (x = f))) := by
  by_cases e : x = f
  · subst e
    by_cases e2 : t = k
    · subst e2; simp
    · have e3 : ¬ k = t := fun e => e2 e.symm
      by_cases e4 : x = k
      · subst e4; simp [e2, e3]
      · simp [e2, e3, e4]
  · by_cases e4 : x = k
    · subst e4; simp [e]
    · simp [e, e4]
theorem px_us (o x y f t k : Int) : usB (usesL o (px o x f t) (py o y f t)) k = rn (usB (usesL o x y)) f t k := by
  have dX := dx x f t k
  have dY := dx y f t k
  have key : o = 1 ∨ o = 7 → usB (usesL o (px o x f t) (py o y f t)) k = rn (usB (usesL o x y)) f t k := by
    intro ho
    have e1 : px o x f t = if x = f then t else x := by unfold px; rcases ho with rfl | rfl <;> simp
    have e2 : py o y f t = if y = f then t else y := by unfold py; rcases ho with rfl | rfl <;> simp
    rw [e1, e2]
    unfold usesL usB rn
    rw [if_pos ho, if_pos ho]
    simp only [List.any_cons, List.any_nil, Bool.or_false]
    rw [dX, dY]
    generalize decide (x = k) = a1; generalize decide (y = k) = a2; generalize decide (¬ k = f) = a3; generalize decide (k = t) = a4; generalize decide (x = f) = a5; generalize decide (y = f) = a6
    cases a1 <;> cases a2 <;> cases a3 <;> cases a4 <;> cases a5 <;> cases a6 <;> rfl
  by_cases h17 : o = 1 ∨ o = 7
  · exact key h17
  · by_cases h2 : o = 2
    · subst h2
      have e1 : px 2 x f t = if x = f then t else x := by unfold px; simp
      have h1 : ¬ ((2 : Int) = 1 ∨ (2 : Int) = 7) := by omega
      rw [e1]
      unfold usesL usB rn
      simp only [h1, if_false, if_true, List.any_cons, List.any_nil, Bool.or_false]
      rw [dX]
    · unfold usesL usB rn
      simp [h17, h2]
theorem frs_map (F : Pi → Pi) (R : Pi → Int → Bool) (f t k : Int) : ∀ ps : List Pi, (∀ p ∈ ps, fr (F p) k = rn (fr p) f t k) → frs (ps.map F) k = rn (frs ps) f t k
  | [], _ => by simp [frs, rn]
  | p :: ps, h => by
    have h1 := h p (by simp)
    have h2 := frs_map F R f t k ps (fun q hq => h q (List.mem_cons_of_mem _ hq))
    simp only [List.map_cons, frs, h1, h2]
    unfold rn
    simp only [frs]
    generalize fr p k = a1; generalize fr p f = a2; generalize frs ps k = a3; generalize frs ps f = a4
    generalize decide (¬ k = f) = a5; generalize decide (k = t) = a6
    cases a1 <;> cases a2 <;> cases a3 <;> cases a4 <;> cases a5 <;> cases a6 <;> rfl
theorem put_fr : ∀ (n : Nat) (p : Pi) (f t k : Int), cnt p ≤ n → cnt p ≤ 14 → shape p = true → nm f = true → nm t = true → 0 ≤ k → fr (putF n p f t) k = rn (fr p) f t k
  | 0, p, _, _, _, h, _, _, _, _, _ => by have := cnt_pos p; omega
  | n + 1, .mk o x y ps, f, t, k, hc, hc2, hs, hf, ht, hk => by
    obtain ⟨hx, hy, hss, ho⟩ := shape_parts hs
    obtain ⟨n0, n1, n2⟩ := shape_len hs
    simp only [cnt] at hc hc2
    have hf0 := ((nm_iff f).1 hf).1
    have ht0 := ((nm_iff t).1 ht).1
    have hU := px_us o x y f t k
    by_cases hb : bnd o x y < 0
    · have hm : ∀ p ∈ ps, fr (putF n p f t) k = rn (fr p) f t k := by
        intro p hp
        have hcp : cnt p ≤ cnts ps := by
          clear hs hss n1 n2 n0 hc hc2
          induction ps with
          | nil => cases hp
          | cons q qs ih =>
            have := cnt_pos q
            have := cnts_pos qs
            simp only [cnts]
            rcases List.mem_cons.1 hp with rfl | hp
            · omega
            · have := ih hp; omega
        have hsp : shape p = true := by
          clear hs n1 n2 n0 hc hc2 hcp
          induction ps with
          | nil => cases hp
          | cons q qs ih =>
            simp only [shapes, Bool.and_eq_true] at hss
            rcases List.mem_cons.1 hp with rfl | hp
            · exact hss.1
            · exact ih hss.2 hp
        exact put_fr n p f t k (by omega) (by omega) hsp hf ht hk
      have hK := frs_map (fun p => putF n p f t) (fun p k => fr p k) f t k ps hm
      have hb1 : ∀ X Y, bnd o X Y < 0 := by
        intro X Y
        unfold bnd at hb ⊢
        by_cases h2 : o = 2
        · rw [if_pos h2] at hb; omega
        · by_cases h6 : o = 6
          · rw [if_neg h2, if_pos h6] at hb; omega
          · simp [h2, h6]
      have d1 := hb1 (px o x f t) (py o y f t)
      simp only [putF, if_pos hb, fr, hK, hU]
      have e1 : decide (¬ bnd o (px o x f t) (py o y f t) = k) = true := by simp; omega
      have e2 : decide (¬ bnd o x y = k) = true := by simp; omega
      have e3 : decide (¬ bnd o x y = f) = true := by simp; omega
      simp only [rn, fr, e1, e2, e3, Bool.true_and]
      generalize usB (usesL o x y) k = a1; generalize usB (usesL o x y) f = a2; generalize frs ps k = a3; generalize frs ps f = a4
      generalize decide (¬ k = f) = a5; generalize decide (k = t) = a6
      cases a1 <;> cases a2 <;> cases a3 <;> cases a4 <;> cases a5 <;> cases a6 <;> rfl
    · have ho2 := bnd_cases hb
      obtain ⟨p, rfl⟩ := len1 (n1 (by omega))
      simp only [shapes, Bool.and_true] at hss
      simp only [cnts] at hc hc2
      have hz := fsh_nm p f t (by omega)
      have sh := put_shape n p t (fsh p f t 30 0) hss (by omega) hz.1
      have i1 := put_fr n p f t k (by omega) (by omega) hss hf ht hk
      have i2 := fun k hk => put_fr n p t (fsh p f t 30 0) k (by omega) (by omega) hss ht hz.1 hk
      have i3 := put_fr n (putF n p t (fsh p f t 30 0)) f t k (by omega) (by omega) sh.1 hf ht hk
      have j2 := i2 k hk
      have j3 := i2 f hf0
      simp only [putF, if_neg hb]
      have hbb : bnd o (px o x f t) (py o y f t) = bnd o x y := by
        rcases ho2 with rfl | rfl <;> simp [bnd, px, py]
      by_cases c1 : bnd o x y = f ∨ fr p f = false
      · rw [if_pos c1]
        simp only [fr, hU, hbb, frs, Bool.or_false, rn]
        generalize bnd o x y = B at *
        generalize usB (usesL o x y) k = a1; generalize usB (usesL o x y) f = a2
        by_cases e1 : k = f
        · subst e1
          rcases c1 with rfl | c1
          · simp
          · simp [c1]
        · rcases c1 with rfl | c1
          · have e2 : ¬ B = k := fun e => e1 e.symm
            simp [e1, e2]; cases a1 <;> cases a2 <;> cases fr p k <;> cases decide (k = t) <;> rfl
          · simp [e1, c1]; cases a1 <;> cases a2 <;> cases fr p k <;> cases decide (k = t) <;> cases decide (B = k) <;> rfl
      · rw [if_neg c1]
        simp only [not_or] at c1
        obtain ⟨c1a, c1b⟩ := c1
        have c1b : fr p f = true := by simpa using c1b
        by_cases c2 : bnd o x y = t
        · rw [if_pos c2]
          obtain ⟨z0, zf, zt, zr⟩ := hz
          have hz0 := ((nm_iff _).1 z0).1
          generalize fsh p f t 30 0 = z at *
          have hU' : usB (usesL o (if o = 2 then px o x f t else z) (if o = 2 then z else y)) k = rn (usB (usesL o x y)) f t k := by
            rw [← hU]
            rcases ho2 with rfl | rfl <;> simp [usesL]
          have hB' : bnd o (if o = 2 then px o x f t else z) (if o = 2 then z else y) = z := by
            rcases ho2 with rfl | rfl <;> simp [bnd]
          simp only [fr, hU', hB', frs, Bool.or_false]
          rw [i3]
          unfold rn
          rw [j2, j3]
          unfold rn
          simp only [fr, frs, Bool.or_false]
          have e0 : ¬ f = z := fun e => zf e.symm
          have e00 : ¬ t = z := fun e => zt e.symm
          rw [c2] at c1a ⊢
          generalize usB (usesL o x y) k = a1; generalize usB (usesL o x y) f = a2
          by_cases e1 : k = z
          · subst e1
            have q1 : ¬ t = k := fun e => zt e.symm
            simp [zr, zf, zt]
          · have e1' : ¬ z = k := fun e => e1 e.symm
            by_cases e2 : k = t
            · subst e2
              have c1a' : ¬ f = k := fun e => c1a e.symm
              simp [e0, e1', c1b, c1a, c1a', e1]
            · have e2' : ¬ t = k := fun e => e2 e.symm
              simp [e1', e2, e1, e2']
              all_goals cases a1 <;> cases a2 <;> cases fr p k <;> cases decide (k = f) <;> rfl
        · rw [if_neg c2]
          simp only [fr, hU, hbb, frs, Bool.or_false, i1]
          unfold rn
          simp only [fr, frs, Bool.or_false]
          generalize bnd o x y = B at *
          generalize usB (usesL o x y) k = a1; generalize usB (usesL o x y) f = a2
          by_cases e1 : k = t
          · subst e1
            simp [c2, c1b, c1a]
            all_goals (cases a1 <;> cases a2 <;> cases fr p k <;> cases decide (k = f) <;> rfl)
          · simp [e1]
            cases a1 <;> cases a2 <;> cases fr p k <;> cases decide (k = f) <;> cases decide (B = k) <;> rfl
end Go.Am
end
section
set_option maxRecDepth 10000
set_option linter.unusedSimpArgs false
set_option linter.unusedVariables false
namespace Go.Am
open Go.Proofs
/-! rows of numbers, as the laws look at them: nil or a row -/
def fvF (L : List Int) : PV := if L = [] then .nils else .sl false 1 (ints L)
def hasI : List Int → Int → Bool
  | [], _ => false
  | x :: l, n => decide (x = n) || hasI l n
theorem hasI_mem : ∀ (l : List Int) (n : Int), hasI l n = decide (n ∈ l)
  | [], n => by simp [hasI]
  | x :: l, n => by
    simp only [hasI, hasI_mem l n, List.mem_cons]
    by_cases h : x = n
    · simp [h]
    · have : ¬ n = x := fun e => h e.symm
      simp [h, this]
theorem loopMnHas (y : Int) : ∀ (rest done : List Int), (done ++ rest).length ≤ 4611686018427387904 →
    loopI H [0, 1, 5] [] c21l0 ⟨[(0, .sl false 1 (ints (done ++ rest))), (1, .i y), (5, .i done.length)], [], []⟩ =
      if hasI rest y = true then some (.ret, ⟨[(4, .b true)], [], []⟩) else some (.exit 0, ⟨[(0, .sl false 1 (ints (done ++ rest))), (1, .i y), (5, .i (done ++ rest).length), (9, .b false)], [], []⟩)
  | [], done, h => by
    rw [loopI_eq]
    simp [r21l0, b21l0, ints_len, hasI]
  | x :: rest, done, h => by
    have hat := ints_at done x rest
    have hlt : (done.length : Int) < (done.length : Int) + ((rest.length : Int) + 1) := by omega
    have hw : IntKind.i64.wrap ((done.length : Int) + 1) = (done.length : Int) + 1 := wr (by simp at h; omega)
    have hn := loopMnHas y rest (done ++ [x]) (by simpa using h)
    rw [loopI_eq]
    by_cases hx : x = y
    · subst hx
      simp [r21l0, b21l0, ints_len, hlt, hat, hw, hasI]
    · simp [r21l0, b21l0, ints_len, hlt, hat, hw, hx, hasI]
      simpa [Int.add_assoc] using hn
theorem eqMnHas (L : List Int) (y : Int) (hl : L.length ≤ 4611686018427387904) : callI H 21 [fvF L, .i y] [] = some (.b (hasI L y), []) := by
  rw [callI_eq]
  by_cases h : L = []
  · subst h
    have hlp : loopI H [0, 1, 5] [] c21l0 ⟨[(0, .nils), (1, .i y), (5, .i 0)], [], []⟩ = some (.exit 0, ⟨[(0, .nils), (1, .i y), (5, .i 0), (9, .b false)], [], []⟩) := by
      rw [loopI_eq]
      simp [r21l0, b21l0]
    simp [body1_eq _ _ (gpH 21) g21, c21, a21, fvF, hlp, hasI]
  · have hlp := loopMnHas y L [] (by simpa using hl)
    simp only [List.nil_append, List.length_nil, show ((0 : Nat) : Int) = 0 from rfl] at hlp
    by_cases hh : hasI L y = true
    · simp only [hh, if_true] at hlp
      simp [body1_eq _ _ (gpH 21) g21, c21, a21, fvF, h, hlp, hh]
    · simp only [hh, if_false] at hlp
      simp [body1_eq _ _ (gpH 21) g21, c21, a21, fvF, h, hlp, hh]
end Go.Am
end
section
set_option maxRecDepth 10000
set_option linter.unusedSimpArgs false
set_option linter.unusedVariables false
namespace Go.Am
open Go.Proofs
/-! what is free, as a list -/
theorem fl_mem (p : Pi) : ∀ (k : Nat) (n y : Int), y ∈ fl p k n ↔ n ≤ y ∧ y < n + k ∧ fr p y = true
  | 0, n, y => by simp [fl]; omega
  | k + 1, n, y => by
    have ih := fl_mem p k (n + 1) y
    simp only [fl]
    split
    · rename_i h
      rw [List.mem_cons, ih]
      constructor
      · rintro (rfl | ⟨a, b, c⟩)
        · exact ⟨by omega, by omega, h⟩
        · exact ⟨by omega, by omega, c⟩
      · rintro ⟨a, b, c⟩
        by_cases e : y = n
        · exact .inl e
        · exact .inr ⟨by omega, by omega, c⟩
    · rename_i h
      rw [ih]
      constructor
      · rintro ⟨a, b, c⟩
        exact ⟨by omega, by omega, c⟩
      · rintro ⟨a, b, c⟩
        refine ⟨?_, by omega, c⟩
        by_cases e : y = n
        · subst e; exact absurd c h
        · omega
theorem freeL_len (p : Pi) : (freeL p).length ≤ 30 := by
  unfold freeL
  split
  · exact fl_len p 30 0
  · simp
theorem has_fr {p : Pi} (h : ok p = true) {k : Int} (h0 : 0 ≤ k) (h1 : k < 30) : hasI (freeL p) k = fr p k := by
  have e : freeL p = fl p 30 0 := by simp [freeL, h]
  rw [hasI_mem, e]
  have := fl_mem p 30 0 k
  by_cases hk : fr p k = true
  · rw [hk]; exact decide_eq_true (this.2 ⟨h0, by omega, hk⟩)
  · rw [show fr p k = false by simpa using hk]
    exact decide_eq_false (fun hm => hk (this.1 hm).2.2)
end Go.Am
end
section
set_option maxRecDepth 10000
set_option linter.unusedSimpArgs false
set_option linter.unusedVariables false
namespace Go.Am
open Go.Proofs
/-- A name put for one that is not free. -/
theorem put_none (p : Pi) (f t : Int) (hs : shape p = true) (hc : cnt p ≤ 14) (hf : nm f = true) (ht : nm t = true) (hr : fr p f = false) (σ : Int → List UInt8) (d : Int) : key σ d (putF 14 p f t) = key σ d p := by
  rw [put_key 14 p f t σ d hc hc hs hf ht]
  refine key_congr _ _ _ p hs fun k h0 hk => ?_
  have hkt : ¬ k = f := by intro e; rw [e, hr] at hk; cases hk
  unfold sub
  rw [if_neg hkt]
theorem put_okB (p : Pi) (f t : Int) (hs : shape p = true) (hc : cnt p ≤ 14) (ht : nm t = true) : okB (putF 14 p f t) = true := by
  have sh := put_shape 14 p f t hs hc ht
  unfold okB
  simp only [Bool.and_eq_true, decide_eq_true_eq]
  refine ⟨?_, sh.1⟩
  rw [(pn_cnt _ 14 (by omega)).1 (by omega)]
  omega
theorem alpha_key {p q : Pi} (hp : okB p = true) (hq : okB q = true) (h : ∀ σ d, key σ d p = key σ d q) : alpha p q = true := by
  have e : pkey p = pkey q := by
    unfold pkey
    unfold okB at hp hq
    rw [if_pos hp, if_pos hq]
    exact h _ _
  unfold alpha
  rw [hp, hq, e]
  simp
/-- What is free behind a name put for another one, as lists. -/
theorem put_has (p : Pi) (f t k : Int) (hk : ok p = true) (hf : nm f = true) (ht : nm t = true) (h0 : 0 ≤ k) (h1 : k < 30) :
    hasI (freeL (putF 14 p f t)) k = ((hasI (freeL p) k && (decide (¬ k = f) || decide (f = t))) || (decide (k = t) && hasI (freeL p) f)) := by
  have hs := ok_shape' hk
  have hc := ok_cnt hk
  have f0 := (nm_iff f).1 hf
  have ho : ok (putF 14 p f t) = true := put_okB p f t hs hc ht
  rw [has_fr ho h0 h1, has_fr hk h0 h1, has_fr hk f0.1 f0.2, put_fr 14 p f t k hc hc hs hf ht h0]
  unfold rn
  by_cases e : k = f
  · subst e
    by_cases e2 : k = t
    · subst e2; simp
    · simp [e2]
  · by_cases e2 : f = t
    · subst e2; simp [e]
    · simp [e, e2]
end Go.Am
end
section
set_option maxRecDepth 10000
set_option linter.unusedSimpArgs false
set_option linter.unusedVariables false
namespace Go.Am
open Go.Proofs
theorem loopMnPi (o x y : Int) (rest : List Pi) (ih : ∀ p ∈ rest, callI G 25 [enc p, enc p] [] = some (.b true, [])) :
    ∀ (done : List Pi), (done ++ rest).length ≤ 9223372036854775807 →
      loopI G [2, 3, 5] [2, 3] c25l0 ⟨[(2, .ref (0, 2) 1 0 0), (3, .ref (0, 3) 1 0 0), (5, .i done.length)], [(2, .box [.i o, .i x, .i y, .sl false 4 (encs (done ++ rest))]), (3, .box [.i o, .i x, .i y, .sl false 4 (encs (done ++ rest))])], []⟩ =
        some (.exit 0, ⟨[(2, .ref (0, 2) 1 0 0), (3, .ref (0, 3) 1 0 0), (5, .i (done ++ rest).length), (38, .b false)], [(2, .box [.i o, .i x, .i y, .sl false 4 (encs (done ++ rest))]), (3, .box [.i o, .i x, .i y, .sl false 4 (encs (done ++ rest))])], []⟩) := by
  induction rest with
  | nil =>
    intro done h
    rw [loopI_eq]
    simp [r25l0, b25l0, encs_len]
  | cons p rest ih2 =>
    intro done h
    rw [loopI_eq]
    have hat := encs_at done p rest
    have hlt : (done.length : Int) < (done.length : Int) + ((rest.length : Int) + 1) := by omega
    have hw : IntKind.i64.wrap ((done.length : Int) + 1) = (done.length : Int) + 1 := wr (by simp at h; omega)
    have hc := ih p List.mem_cons_self
    have hn := ih2 (fun q hq => ih q (List.mem_cons_of_mem _ hq)) (done ++ [p]) (by simpa using h)
    obtain ⟨o', a', b', ps⟩ := p
    simp only [enc] at hc hat
    simp [r25l0, b25l0, encs_len, hat, hlt, hw, hc]
    simpa [Int.add_assoc] using hn
mutual
theorem eqMnPi : ∀ p : Pi, Fit p → callI G 25 [enc p, enc p] [] = some (.b true, [])
  | .mk o x y ps, hf => by
    have hl := loopMnPi o x y ps (eqMnPis ps hf.2) [] (by simpa using hf.1)
    simp only [List.nil_append, List.length_nil, show ((0 : Nat) : Int) = 0 from rfl] at hl
    rw [callI_eq]
    simp [body1_eq _ _ (gp 25) g25, c25, a25, enc, encs_len, hl]
theorem eqMnPis : ∀ ps : List Pi, Fits ps → ∀ p ∈ ps, callI G 25 [enc p, enc p] [] = some (.b true, [])
  | [], _, p, h => by cases h
  | q :: ps, hf, p, h => by
    rcases List.mem_cons.1 h with h | h
    · rw [h]; exact eqMnPi q hf.1
    · exact eqMnPis ps hf.2 p h
end
end Go.Am
end
section
set_option maxRecDepth 100000
set_option linter.unusedSimpArgs false
set_option linter.unusedVariables false
namespace Go.Am
open Go.Proofs
/-! the machine of the laws: what is drawn stays as it is -/
theorem reads_same : Reads (fun x => x) := fun r => r
noncomputable def primsV : Nat → Option (List PV → Stack → Option (PV × Stack))
  | 19 => some (lowXP H 19 (fun x => x))
  | 23 => some (lowTP H 23 (fun x => x))
  | 20 => some (lowTP G 20 (weak 4))
  | 24 => some (lowTP G 24 (weak 4))
  | 22 => some (lowXP G 22 (weak 4))
  | 25 => some (viaP G 25 (weak 4))
  | 21 => some (viaP H 21 (fun x => x))
  | n => primsH n
noncomputable def V : Prog := ⟨codes, primsV⟩
theorem gpV (n : Nat) (h : primsV n = none := by rfl) : V.prim n = none := h
theorem progOKV : ProgOK Tryd.prog V := by
  refine ⟨progOK.1, fun f af _ h => progOK0.code f af rfl h, fun f p h => ?_⟩
  simp only [V] at h
  unfold primsV at h
  split at h
  all_goals first
    | exact progOKH.prim _ _ h
    | (simp only [Option.some.injEq] at h; subst h; intro args o r o' e; first | exact lowXP_good progOKH reads_same e | exact lowTP_good progOKH reads_same e | exact lowTP_good progOK (reads_weak 4) e | exact lowXP_good progOK (reads_weak 4) e | exact viaP_good progOK (reads_weak 4) e | exact viaP_good progOKH reads_same e)
    | (cases h; done)
end Go.Am
end
section
set_option maxRecDepth 10000
set_option maxHeartbeats 4000000
set_option linter.unusedSimpArgs false
set_option linter.unusedVariables false
namespace Go.Am
open Go.Proofs
/-! the functions of the laws at terms that stay as they are -/
mutual
theorem encV_X (u : Bool) : ∀ p : Pi, encX true u p = encV u p
  | .mk o x y ps => by simp only [encV, encX]; rw [encW_X u ps]
theorem encW_X (u : Bool) : ∀ ps : List Pi, encP true u (encXs true u ps) = encW u ps
  | [] => by simp [encW, encXs, encP]
  | p :: ps => by simp only [encW, encXs, encP]; rw [encV_X u p, encVs_X u ps]; simp
theorem encVs_X (u : Bool) : ∀ ps : List Pi, encXs true u ps = encVs u ps
  | [] => rfl
  | p :: ps => by simp only [encVs, encXs]; rw [encV_X u p, encVs_X u ps]
end
mutual
theorem tree_encV (u : Bool) : ∀ p : Pi, tree (encV u p) = true
  | .mk o x y ps => by simp only [encV, tree, trees, Bool.true_and, Bool.and_true]; exact tree_encW u ps
theorem tree_encW (u : Bool) : ∀ ps : List Pi, tree (encW u ps) = true
  | [] => rfl
  | p :: ps => by simp only [encW, tree, trees]; rw [tree_encV u p, trees_encVs u ps]; rfl
theorem trees_encVs (u : Bool) : ∀ ps : List Pi, trees (encVs u ps) = true
  | [] => rfl
  | p :: ps => by simp only [encVs, trees]; rw [tree_encV u p, trees_encVs u ps]; rfl
end
theorem trees_ints : ∀ L : List Int, trees (ints L) = true
  | [] => rfl
  | x :: L => by simp only [ints, trees, tree, Bool.true_and]; exact trees_ints L
theorem vAlpha (t u : Pi) (hf : Fit t) (hu : Fit u) : callI V 15 [encV false t, encV false u] [] = some (.b (alpha t u), []) := by
  rw [callI_prim' (p := viaP G 15 (weak 4)) rfl]
  simp only [viaP, List.map_cons, List.map_nil, weak_encV]
  exact eqAlphaI t u hf hu
theorem vOk (t : Pi) (hf : Fit t) : callI V 17 [encV false t] [] = some (.b (okB t), []) := by
  rw [callI_prim' (p := viaP G 17 (weak 4)) rfl]
  simp only [viaP, List.map_cons, List.map_nil, weak_encV]
  exact eq12 t hf
theorem vFree (t : Pi) (hf : Fit t) : callI V 22 [encV false t] [] = some (fvF (freeL t), []) := by
  rw [callI_prim' (p := lowXP G 22 (weak 4)) rfl]
  simp only [lowXP, viaP, List.map_cons, List.map_nil, weak_encV, eqFreeI t hf]
  cases freeL t with
  | nil => rfl
  | cons x L => simp only [fv, lowXR, tree, trees_ints, if_true, fal, fals_ints, fvF, List.cons_ne_nil, if_false]
theorem vHas (L : List Int) (y : Int) (hl : L.length ≤ 4611686018427387904) : callI V 21 [fvF L, .i y] [] = some (.b (hasI L y), []) := by
  rw [callI_prim' (p := viaP H 21 (fun x => x)) rfl]
  simp only [viaP, List.map_cons, List.map_nil]
  exact eqMnHas L y hl
theorem vMnPi (t : Pi) (hf : Fit t) : callI V 25 [encV false t, encV false t] [] = some (.b true, []) := by
  rw [callI_prim' (p := viaP G 25 (weak 4)) rfl]
  simp only [viaP, List.map_cons, List.map_nil, weak_encV]
  exact eqMnPi t hf
theorem vPutI (p : Pi) (hf : Fit p) (f t : Int) : callI V 20 [encV false p, .i f, .i t] [] = some (.tup [encV false (putR p f t).1, .b (putR p f t).2], []) := by
  rw [callI_prim' (p := lowTP G 20 (weak 4)) rfl]
  simp only [lowTP, viaP, List.map_cons, List.map_nil, weak_encV, show ∀ n : Int, weak 4 (.i n) = .i n from fun _ => rfl, eqPutPiI p hf f t, encV_X, lowTR, trees, tree_encV, tree, Bool.and_self, if_true, fals, fal_encV, fal]
theorem vPutS (p : Pi) (hf : Fit p) (f t : Int) : callI V 24 [encV false p, .i f, .i t] [] = some (.tup [encV false (putR p f t).1, .b (putR p f t).2], []) := by
  rw [callI_prim' (p := lowTP G 24 (weak 4)) rfl]
  simp only [lowTP, viaP, List.map_cons, List.map_nil, weak_encV, show ∀ n : Int, weak 4 (.i n) = .i n from fun _ => rfl, eqPutPiS p hf f t, encV_X, lowTR, trees, tree_encV, tree, Bool.and_self, if_true, fals, fal_encV, fal]
theorem putR_fit (p : Pi) (f t : Int) : Fit (putR p f t).1 := by
  unfold putR
  split
  · rename_i h
    exact shape_fit _ (put_shape 14 p f t (ok_shape' h.1) (ok_cnt h.1) h.2.2).1
  · exact ⟨by simp, trivial⟩
/-! values that are nil or a slice, without looking which -/
theorem fvF_two (L : List Int) : fvF L = .nils ∨ fvF L = .sl false 1 (ints L) := by
  unfold fvF
  split
  · exact .inl rfl
  · exact .inr rfl
section
variable (L : List Int)
@[simp ↓ high] theorem cellP_F : cellP (fvF L) = true := by rcases fvF_two L with h | h <;> rw [h] <;> rfl
@[simp ↓ high] theorem cells_F : (fvF L).cells = [fvF L] := by rcases fvF_two L with h | h <;> rw [h] <;> rfl
@[simp ↓ high] theorem sure_F : sure (fvF L) = true := by rcases fvF_two L with h | h <;> rw [h] <;> rfl
@[simp ↓ high] theorem plain_F : plain (fvF L) = true := by rcases fvF_two L with h | h <;> rw [h] <;> rfl
@[simp ↓ high] theorem atLvl_F (n) : atLvl n (fvF L) = false := by rcases fvF_two L with h | h <;> rw [h] <;> rfl
@[simp ↓ high] theorem noRef_F : noRef (fvF L) = true := by rcases fvF_two L with h | h <;> rw [h] <;> rfl
@[simp ↓ high] theorem upTo_F (n) : upTo n (fvF L) = true := by rcases fvF_two L with h | h <;> rw [h] <;> rfl
@[simp ↓ high] theorem known_F (g n) : known g n (fvF L) = true := by rcases fvF_two L with h | h <;> rw [h] <;> rfl
@[simp ↓ high] theorem snap_F (g) : snap g (fvF L) = some (fvF L) := by rcases fvF_two L with h | h <;> rw [h] <;> rfl
@[simp ↓ high] theorem snapE_F (g) : snapE g (fvF L) = some (fvF L) := by rcases fvF_two L with h | h <;> rw [h] <;> rfl
@[simp ↓ high] theorem rowId_F (g) : rowId g (fvF L) = [] := by rcases fvF_two L with h | h <;> rw [h] <;> rfl
@[simp ↓ high] theorem rowIdE_F (g) : rowIdE g (fvF L) = [] := by rcases fvF_two L with h | h <;> rw [h] <;> rfl
@[simp ↓ high] theorem expo1_F (n g) : expo1 n g (fvF L) = some (fvF L, []) := by rcases fvF_two L with h | h <;> rw [h] <;> rfl
@[simp ↓ high] theorem impo1_F (n d q) : impo1 n d (fvF L) q = (fvF L, q, []) := by rcases fvF_two L with h | h <;> rw [h] <;> rfl
@[simp ↓ high] theorem impoE_F (n d q) : impoE n d (fvF L) q = (fvF L, q, []) := by rcases fvF_two L with h | h <;> rw [h] <;> rfl
@[simp ↓ high] theorem impo_F (n d q) : impo n d (fvF L) q = (fvF L, q, []) := by rcases fvF_two L with h | h <;> rw [h] <;> rfl
end
@[simp ↓ high] theorem fal_P (nl u : Bool) (xs : List PV) : fal (encP nl u xs) = encP nl false (fals xs) := by
  unfold encP
  cases nl <;> cases xs <;> simp [fal, fals]
theorem fals_encXsF (ps : List Pi) : fals (encXs true false ps) = encXs true false ps := by
  rw [encVs_X, fals_encVsF]
/-- A term's cells. -/
theorem encV_open (o x y : Int) (ps : List Pi) : encV false (.mk o x y ps) = .agg [.i o, .i x, .i y, encP true false (encXs true false ps)] := by rw [← encV_X]; rfl
end Go.Am
end
section
set_option maxRecDepth 10000
set_option maxHeartbeats 16000000
set_option linter.unusedSimpArgs false
set_option linter.unusedVariables false
namespace Go.Am
open Go.Proofs
theorem eqDrawPiPut (B : List Nat) (hB : B.length ≤ 9223372036854775807) (hb : ∀ b ∈ B, b < 256) : ∃ t a b, Nums t ∧ callI H 23 [.sl false 1 (byVs B)] [] = some (.tup [encV true t, .i a, .i b], []) := by
  obtain ⟨B', h1, h2, h3⟩ := eqOpen B hB
  have hr : RdrOK B' 0 := ⟨h1, fun b hb' => hb b (h2 b hb'), by omega, by omega⟩
  obtain ⟨t, q, e1, e2, nt, e3⟩ := eqDrawPi [[(2, .box [.i 0, .i 0, .i 0, .nils]), (10, rd B' 0)]] (0, 10) (by simp) B' 0 hr (by omega)
  have es : ∀ q, setS [[(2, .box [.i 0, .i 0, .i 0, .nils]), (10, rd B' 0)]] (0, 10) (rd B' q) = [[(2, .box [.i 0, .i 0, .i 0, .nils]), (10, rd B' q)]] := fun _ => rfl
  rw [es, es] at e3
  have nm : ∀ (b6 : OB) (O : Objs), ∃ k k2 q1 q2, callI H 41 [.ref (0, 10) 1 0 0] [(2, .box [.i 0, .i 0, .i 0, .nils]) :: (6, b6) :: (10, rd B' q) :: O] = some (.i k, [(2, .box [.i 0, .i 0, .i 0, .nils]) :: (6, b6) :: (10, rd B' q1) :: O]) ∧
      callI H 41 [.ref (0, 10) 1 0 0] [(2, .box [.i 0, .i 0, .i 0, .nils]) :: (6, b6) :: (10, rd B' q1) :: O] = some (.i k2, [(2, .box [.i 0, .i 0, .i 0, .nils]) :: (6, b6) :: (10, rd B' q2) :: O]) := by
    intro b6 O
    have es2 : ∀ q0 q, setS [(2, .box [.i 0, .i 0, .i 0, .nils]) :: (6, b6) :: (10, rd B' q0) :: O] (0, 10) (rd B' q) = [(2, .box [.i 0, .i 0, .i 0, .nils]) :: (6, b6) :: (10, rd B' q) :: O] := fun _ _ => rfl
    obtain ⟨k, q1, a1, a2, a3, a4, a5⟩ := eqName [(2, .box [.i 0, .i 0, .i 0, .nils]) :: (6, b6) :: (10, rd B' q) :: O] (0, 10) (by simp) B' q (hr.next (by omega) (by omega)) (by omega)
    obtain ⟨k2, q2, c1, c2, c3, c4, c5⟩ := eqName [(2, .box [.i 0, .i 0, .i 0, .nils]) :: (6, b6) :: (10, rd B' q1) :: O] (0, 10) (by simp) B' q1 (hr.next (by omega) (by omega)) (by omega)
    rw [es2, es2] at a5 c5
    exact ⟨k, k2, q1, q2, a5, c5⟩
  obtain ⟨to, tx, ty, tp, rfl, ⟨rfl, ht⟩ | ⟨ht, hE⟩⟩ := encV_two t
  · obtain ⟨k, k2, q1, q2, n1, n2⟩ := nm (.box [.i to, .i tx, .i ty, .nils]) []
    refine ⟨_, k, k2, nt, ?_⟩
    rw [callI_eq]
    rw [ht] at e3 ⊢
    simp only [rd] at e3 n1 n2
    simp [body1_eq _ _ (gpH 23) g23, c23, a23, h3, e3, n1, n2]
  · obtain ⟨k, k2, q1, q2, n1, n2⟩ := nm (.box [.i to, .i tx, .i ty, .own (0, 12) tp.length]) [(12, .row 4 (encVs true tp))]
    refine ⟨_, k, k2, nt, ?_⟩
    rw [callI_eq]
    rw [ht] at e3 ⊢
    simp only [rd] at e3 n1 n2
    simp [body1_eq _ _ (gpH 23) g23, c23, a23, h3, e3, encVs_len, n1, n2]
theorem vDrawPut (B : List Nat) (hB : B.length ≤ 9223372036854775807) (hb : ∀ b ∈ B, b < 256) : ∃ t a b, Nums t ∧ callI V 23 [.sl false 1 (byVs B)] [] = some (.tup [encV false t, .i a, .i b], []) := by
  obtain ⟨t, a, b, nt, h⟩ := eqDrawPiPut B hB hb
  refine ⟨t, a, b, nt, ?_⟩
  rw [callI_prim' (p := lowTP H 23 (fun x => x)) rfl]
  simp only [lowTP, viaP, List.map_cons, List.map_nil, h, lowTR, trees, tree_encV, tree, Bool.and_self, if_true, fals, fal_encV, fal]
theorem putR_fst' {p : Pi} {f t : Int} (h : (putR p f t).2 = true) : ok p = true ∧ nm f = true ∧ nm t = true ∧ (putR p f t).1 = putF 14 p f t := by
  unfold putR at h ⊢
  split at h
  · rename_i hc
    rw [if_pos hc]
    exact ⟨hc.1, hc.2.1, hc.2.2, rfl⟩
  · cases h
end Go.Am
end
section
set_option maxRecDepth 10000
set_option maxHeartbeats 16000000
set_option linter.unusedSimpArgs false
set_option linter.unusedVariables false
namespace Go.Am
open Go.Proofs
theorem loopPP (o x y o' x' y' a b : Int) (X X' : List PV) (L F : List Int) (hL : L.length ≤ 4611686018427387904) (hF : F.length ≤ 4611686018427387904)
    (hh : ∀ k, 0 ≤ k → k < 30 → hasI F k = ((hasI L k && (decide (¬ k = a) || decide (a = b))) || (decide (k = b) && hasI L a))) : ∀ (k : Nat) (n : Int), 0 ≤ n → n + k = 30 →
    loopI V [3, 4, 5, 6, 10, 11, 12] [3, 6, 18, 26, 48, 50] c7l0 ⟨[(3, .ref (0, 3) 1 0 0), (4, .i a), (5, .i b), (6, .ref (0, 6) 1 0 0), (10, fvF L), (11, fvF F), (12, .i n)], [(3, .box [.i o, .i x, .i y, encP true false X]), (6, .box [.i o', .i x', .i y', encP true false X'])], []⟩ =
      some (.exit 0, ⟨[(3, .ref (0, 3) 1 0 0), (4, .i a), (5, .i b), (6, .ref (0, 6) 1 0 0), (10, fvF L), (11, fvF F), (12, .i 30), (52, .b false)], [(3, .box [.i o, .i x, .i y, encP true false X]), (6, .box [.i o', .i x', .i y', encP true false X'])], []⟩)
  | 0, n, h0, h1 => by
    obtain rfl : n = 30 := by omega
    rw [loopI_eq]
    simp [r7l0, b7l0]
  | k + 1, n, h0, h1 => by
    have hn := loopPP o x y o' x' y' a b X X' L F hL hF hh k (n + 1) (by omega) (by omega)
    refine Eq.trans ?_ hn
    have hlt : n < 30 := by omega
    have hw : IntKind.i64.wrap (n + 1) = n + 1 := wr (by omega)
    have p1 := vHas F n hF
    have p2 := vHas L n hL
    have p3 := vHas L a hL
    rw [hh n h0 hlt] at p1
    clear hn hh
    rw [loopI_eq]
    by_cases e1 : n = a
    · by_cases e2 : a = b
      · have e3 : n = b := by omega
        subst e1; subst e2
        generalize hasI L n = q at *
        cases q <;> simp at p1 <;> simp [r7l0, b7l0, hlt, hw, p1, p2]
      · have e3 : ¬ n = b := by omega
        subst e1
        generalize hasI L n = q at *
        cases q <;> simp [e2] at p1 <;> simp [r7l0, b7l0, hlt, hw, p1, p2, e2]
    · generalize hasI L n = q at *
      generalize hasI L a = qa at *
      by_cases e3 : n = b
      · subst e3
        have e2 : ¬ a = n := by omega
        cases q <;> cases qa <;> simp [e1] at p1 <;> simp [r7l0, b7l0, hlt, hw, p1, p2, p3, e1, e2]
      · by_cases e2 : a = b
        · subst e2
          cases q <;> cases qa <;> simp [e1] at p1 <;> simp [r7l0, b7l0, hlt, hw, p1, p2, p3, e1]
        · cases q <;> cases qa <;> simp [e1, e2, e3] at p1 <;> simp [r7l0, b7l0, hlt, hw, p1, p2, p3, e1, e2, e3]
theorem put_fine (t : Pi) (a b : Int) (h1 : (putR t a b).2 = true) :
    (∀ k, 0 ≤ k → k < 30 → hasI (freeL (putR t a b).1) k = ((hasI (freeL t) k && (decide (¬ k = a) || decide (a = b))) || (decide (k = b) && hasI (freeL t) a))) ∧ okB (putR t a b).1 = true ∧ (hasI (freeL t) a = false → alpha t (putR t a b).1 = true) := by
  obtain ⟨hk, hn, hm, e⟩ := putR_fst' h1
  rw [e]
  have hs := ok_shape' hk
  have hc := ok_cnt hk
  have ha := (nm_iff a).1 hn
  have o2 : okB (putF 14 t a b) = true := put_okB t a b hs hc hm
  refine ⟨fun k h0 h1 => put_has t a b k hk hn hm h0 h1, o2, fun h => ?_⟩
  rw [has_fr hk ha.1 ha.2] at h
  exact alpha_key hk o2 fun σ d => (put_none t a b hs hc hn hm h σ d).symm
theorem lawFnPiPut (B : List Nat) (hB : B.length ≤ 9223372036854775807) (hb : ∀ b ∈ B, b < 256) : callI V 7 [.sl false 1 (byVs B)] [] = some (.b true, []) := by
  have hBl := byVs_len B
  by_cases hbig : (1048576 : Int) < B.length
  · rw [callI_eq]
    simp [body1_eq _ _ (gpV 7) g7, c7, a7, hBl, hbig]
  obtain ⟨t, a, b, nt, hd⟩ := vDrawPut B hB hb
  have hf := nt.fit
  have p1 := vPutI t hf a b
  have p2 := vPutS t hf a b
  have fu := putR_fit t a b
  have p3 := vMnPi _ fu
  have p4 := vFree t hf
  have p5 := vFree _ fu
  have p6 := vHas (freeL t) a (by have := freeL_len t; omega)
  have p7 := vOk _ fu
  have p8 := vAlpha t _ hf fu
  have hs := put_fine t a b
  have lp := fun o x y o' x' y' X X' hh => loopPP o x y o' x' y' a b X X' (freeL t) (freeL (putR t a b).1) (by have := freeL_len t; omega) (by have := freeL_len (putR t a b).1; omega) hh 30 0 (by omega) (by omega)
  generalize putR t a b = R at *
  obtain ⟨u, ok1⟩ := R
  dsimp only at *
  have he : ∃ o x y X, encV false t = .agg [.i o, .i x, .i y, encP true false X] ∧ fals X = X := by
    obtain ⟨o, x, y, ps⟩ := t
    exact ⟨o, x, y, _, encV_open o x y ps, fals_encXsF ps⟩
  have he' : ∃ o x y X, encV false u = .agg [.i o, .i x, .i y, encP true false X] ∧ fals X = X := by
    obtain ⟨o, x, y, ps⟩ := u
    exact ⟨o, x, y, _, encV_open o x y ps, fals_encXsF ps⟩
  obtain ⟨o, x, y, X, e, hX⟩ := he
  obtain ⟨o', x', y', X', e', hX'⟩ := he'
  rw [e] at hd p1 p2 p4 p8
  rw [e'] at p1 p2 p3 p5 p7 p8
  cases ok1 with
  | false =>
    clear lp hs
    rw [callI_eq]
    simp [body1_eq _ _ (gpV 7) g7, c7, a7, hBl, hbig, hd, p1, p2, p3, hX, hX']
  | true =>
    obtain ⟨hh, ho, hal⟩ := hs rfl
    have lp2 := lp o x y o' x' y' X X' hh
    clear lp
    rw [ho] at p7
    clear hh
    generalize hasI (freeL t) a = q1 at *
    generalize freeL t = L at *
    generalize freeL u = F at *
    generalize alpha t u = q2 at *
    rw [callI_eq]
    cases q1 with
    | false =>
      obtain rfl := hal rfl
      simp [body1_eq _ _ (gpV 7) g7, c7, a7, hBl, hbig, hd, p1, p2, p3, p4, p5, p6, p7, p8, hX, hX', lp2]
    | true =>
      simp [body1_eq _ _ (gpV 7) g7, c7, a7, hBl, hbig, hd, p1, p2, p3, p4, p5, p6, p7, p8, hX, hX', lp2]
end Go.Am
end
