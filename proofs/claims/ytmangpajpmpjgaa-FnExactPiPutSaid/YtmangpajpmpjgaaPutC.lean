/- What the reference computes. -/
import Derived.Test.YtmangpajpmpjgaaPutA
import Derived.Test.YtmangpajpmpjgaaPutB
section
set_option maxRecDepth 10000
set_option maxHeartbeats 4000000
set_option linter.unusedSimpArgs false
set_option linter.unusedVariables false
namespace Go.Am
open Go.Proofs
theorem loopPutOwn (o x y f t : Int) (q1 q2 : Pi) (hc : callI G 57 [encX true false q1, .i f, .i t] [] = some (encX true true q2, [])) :
      loopI G [1, 2, 6, 7, 8, 11] [6, 7, 99, 123] c57l0 ⟨[(1, .i f), (2, .i t), (6, .ref (0, 6) 1 0 0), (7, .ref (0, 7) 1 0 0), (8, .own (0, 99) 1), (11, .i 0)], [(6, .box [.i 0, .i 0, .i 0, .nils]), (7, .box [.i o, .i x, .i y, .nils]), (99, .row 4 [encX true false q1])], []⟩ =
        some (.exit 0, ⟨[(1, .i f), (2, .i t), (6, .ref (0, 6) 1 0 0), (7, .ref (0, 7) 1 0 0), (8, .own (0, 99) 1), (11, .i 1), (110, .b false)], [(6, .box [.i 0, .i 0, .i 0, .nils]), (7, .box [.i o, .i x, .i y, .own (0, 123) 1]), (99, .row 4 [encX true false q1]), (123, .row 4 [encX true true q2])], []⟩) := by
  have e : loopI G [1, 2, 6, 7, 8, 11] [6, 7, 99, 123] c57l0 ⟨[(1, .i f), (2, .i t), (6, .ref (0, 6) 1 0 0), (7, .ref (0, 7) 1 0 0), (8, .own (0, 99) 1), (11, .i 1)], [(6, .box [.i 0, .i 0, .i 0, .nils]), (7, .box [.i o, .i x, .i y, .own (0, 123) 1]), (99, .row 4 [encX true false q1]), (123, .row 4 [encX true true q2])], []⟩ =
        some (.exit 0, ⟨[(1, .i f), (2, .i t), (6, .ref (0, 6) 1 0 0), (7, .ref (0, 7) 1 0 0), (8, .own (0, 99) 1), (11, .i 1), (110, .b false)], [(6, .box [.i 0, .i 0, .i 0, .nils]), (7, .box [.i o, .i x, .i y, .own (0, 123) 1]), (99, .row 4 [encX true false q1]), (123, .row 4 [encX true true q2])], []⟩) := by
    rw [loopI_eq]
    simp [r57l0, b57l0]
  rw [loopI_eq]
  obtain ⟨ro, ra, rb, rs⟩ := q1
  obtain ⟨so, sa, sb, ss⟩ := q2
  by_cases hq : ss = []
  · subst hq
    simp only [encX, encXs, encP_nil] at hc e ⊢
    simp [r57l0, b57l0, hc, wr1, e]
  · simp only [encX, expP ss hq] at hc e ⊢
    simp [r57l0, b57l0, hc, wr1, e, noShares_XU]
theorem l13Put_n (nl : Bool) (o x y f t : Int) (H : Pi → Pi) (ps : List Pi) (hb : bnd o x y < 0) (h2 : ¬ o = 2) (hl : ps.length ≤ 4294967296)
    (ih : ∀ p ∈ ps, callI G 57 [encX nl false p, .i f, .i t] [] = some (encX true true (H p), [])) :
    callI G 57 [encX nl false (.mk o x y ps), .i f, .i t] [] = some (encX true true (.mk o (px o x f t) (py o y f t) (ps.map H)), []) := by
  have hbb := eqBindsSX nl o x y ps
  have hlp := fun X Y => loopPutS nl o X Y f t H ps ih [] [] (by simpa using hl) rfl
  simp only [encX] at hbb
  simp only [List.nil_append, List.length_nil, show ((0 : Nat) : Int) = 0 from rfl, rvP_nil, roP_nil] at hlp
  have hb' : ¬ 0 ≤ bnd o x y := by omega
  generalize bnd o x y = B at *
  rw [callI_eq]
  by_cases h : ps.map H = []
  · have hps : ps = [] := by simpa using h
    subst hps
    simp only [List.map_nil, rvP_nil, roP_nil, List.length_nil, show ((0 : Nat) : Int) = 0 from rfl] at hlp
    by_cases h1 : o = 1
    · subst h1
      by_cases hx : x = f <;> by_cases hy : y = f <;> simp [body1_eq _ _ (gp 57) g57, c57, a57, encX, encXs, encP_nil, encXs_len, px, py, hb', hx, hy] at hlp hbb ⊢ <;> simp [hlp, hbb, hb']
    · by_cases h7 : o = 7
      · subst h7
        by_cases hx : x = f <;> by_cases hy : y = f <;> simp [body1_eq _ _ (gp 57) g57, c57, a57, encX, encXs, encP_nil, encXs_len, px, py, hb', hx, hy] at hlp hbb ⊢ <;> simp [hlp, hbb, hb']
      · simp [body1_eq _ _ (gp 57) g57, c57, a57, encX, encXs, encP_nil, encXs_len, px, py, hb', h1, h7, h2] at hlp hbb ⊢
        simp [hlp, hbb, hb']
  · rw [rvP_ne _ h, roP_ne _ h] at hlp
    by_cases h1 : o = 1
    · subst h1
      by_cases hx : x = f <;> by_cases hy : y = f <;> (try simp only [hx] at hbb) <;> (try simp only [hy] at hbb) <;> simp [body1_eq _ _ (gp 57) g57, c57, a57, encX, expP _ h, hbb, hlp, encXs_len, hx, hy, px, py, hb', noShares_XU]
    · by_cases h7 : o = 7
      · subst h7
        by_cases hx : x = f <;> by_cases hy : y = f <;> (try simp only [hx] at hbb) <;> (try simp only [hy] at hbb) <;> simp [body1_eq _ _ (gp 57) g57, c57, a57, encX, expP _ h, hbb, hlp, encXs_len, hx, hy, px, py, hb', noShares_XU]
      · simp [body1_eq _ _ (gp 57) g57, c57, a57, encX, expP _ h, hbb, hlp, encXs_len, px, py, hb', h1, h7, h2, noShares_XU]
end Go.Am
end
section
set_option maxRecDepth 10000
set_option maxHeartbeats 4000000
set_option linter.unusedSimpArgs false
set_option linter.unusedVariables false
namespace Go.Am
open Go.Proofs
theorem expT (a : PV) (l : List PV) (nl : Bool) : encP nl true (a :: l) = .sl true 4 (a :: l) := encP_sl nl true _ (.inr (by simp))
theorem loopPutS1 (nl : Bool) (o x y f t : Int) (p q : Pi) (hc : callI G 57 [encX nl false p, .i f, .i t] [] = some (encX true true q, [])) :
      loopI G [1, 2, 6, 7, 8, 11] [6, 7, 99, 123] c57l0 ⟨[(1, .i f), (2, .i t), (6, .ref (0, 6) 1 0 0), (7, .ref (0, 7) 1 0 0), (8, encP nl false [encX nl false p]), (11, .i 0)], [(6, .box [.i 0, .i 0, .i 0, .nils]), (7, .box [.i o, .i x, .i y, .nils])], []⟩ =
        some (.exit 0, ⟨[(1, .i f), (2, .i t), (6, .ref (0, 6) 1 0 0), (7, .ref (0, 7) 1 0 0), (8, encP nl false [encX nl false p]), (11, .i 1), (110, .b false)], [(6, .box [.i 0, .i 0, .i 0, .nils]), (7, .box [.i o, .i x, .i y, .own (0, 123) 1]), (123, .row 4 [encX true true q])], []⟩) := by
  have h := loopPutS nl o x y f t (fun _ => q) [p] (by intro p' hp; rw [List.mem_singleton.1 hp]; exact hc) [] [] (by simp) rfl
  simpa [rvP, roP, encXs] using h
theorem bnd_nm {o x y : Int} (ho : o = 2 ∨ o = 6) {k : Nat} (hk : kindOK o x y = some (true, k)) : ¬ bnd o x y < 0 ∧ nm (bnd o x y) = true := by
  rcases ho with h | h <;> subst h <;> simp [kindOK, bnd] at hk ⊢
  · exact ⟨by have := (nm_iff y).1 hk.1.2; omega, hk.1.2⟩
  · exact ⟨by have := (nm_iff x).1 hk.1.1.1; omega, hk.1.1.1⟩
theorem l13Put_b1 (o : Int) (ho : o = 2 ∨ o = 6) (nl : Bool) (x y f t : Int) (p q : Pi) (hB0 : 0 ≤ bnd o x y) (c1 : bnd o x y = f)
    (hc : callI G 57 [encX nl false p, .i t, .i t] [] = some (encX true true q, [])) :
    callI G 57 [encX nl false (.mk o x y [p]), .i f, .i t] [] = some (encX true true (.mk o (px o x f t) (py o y f t) [q]), []) := by
  have hbb := eqBindsSX nl o x y [p]
  have hlp := fun X Y => loopPutS1 nl o X Y t t p q hc
  rw [callI_eq]
  obtain ⟨po, pa, pb, qs⟩ := p
  obtain ⟨so, sa, sb, ss⟩ := q
  simp only [encX, encXs] at hbb hlp
  generalize bnd o x y = B at *
  subst c1
  by_cases hq : ss = []
  · subst hq
    simp only [encXs, encP_nil] at hlp
    by_cases ht : B = t
    · subst ht
      rcases ho with h | h <;> subst h
      · by_cases hx : x = B <;> (try simp only [hx] at hbb) <;> simp [body1_eq _ _ (gp 57) g57, c57, a57, encX, encXs, encP_nil, expT, hbb, encXs_len, px, py, hB0, hlp, hx]
      · simp [body1_eq _ _ (gp 57) g57, c57, a57, encX, encXs, encP_nil, expT, hbb, encXs_len, px, py, hB0, hlp]
    · rcases ho with h | h <;> subst h
      · by_cases hx : x = B <;> (try simp only [hx] at hbb) <;> simp [body1_eq _ _ (gp 57) g57, c57, a57, encX, encXs, encP_nil, expT, hbb, encXs_len, px, py, hB0, hlp, hx, ht]
      · simp [body1_eq _ _ (gp 57) g57, c57, a57, encX, encXs, encP_nil, expT, hbb, encXs_len, px, py, hB0, hlp, ht]
  · simp only [expP ss hq] at hlp
    by_cases ht : B = t
    · subst ht
      rcases ho with h | h <;> subst h
      · by_cases hx : x = B <;> (try simp only [hx] at hbb) <;> simp [body1_eq _ _ (gp 57) g57, c57, a57, encX, encXs, encP_nil, expT, hbb, encXs_len, px, py, hB0, hlp, hx, expP ss hq, noShares_XU]
      · simp [body1_eq _ _ (gp 57) g57, c57, a57, encX, encXs, encP_nil, expT, hbb, encXs_len, px, py, hB0, hlp, expP ss hq, noShares_XU]
    · rcases ho with h | h <;> subst h
      · by_cases hx : x = B <;> (try simp only [hx] at hbb) <;> simp [body1_eq _ _ (gp 57) g57, c57, a57, encX, encXs, encP_nil, expT, hbb, encXs_len, px, py, hB0, hlp, hx, ht, expP ss hq, noShares_XU]
      · simp [body1_eq _ _ (gp 57) g57, c57, a57, encX, encXs, encP_nil, expT, hbb, encXs_len, px, py, hB0, hlp, ht, expP ss hq, noShares_XU]
theorem l13Put_b2 (o : Int) (ho : o = 2 ∨ o = 6) (nl : Bool) (x y f t : Int) (p q : Pi) (hB0 : 0 ≤ bnd o x y) (c1 : ¬ bnd o x y = f) (hs : shape p = true) (c2 : ¬ bnd o x y = t ∨ fr p f = false)
    (hc : callI G 57 [encX nl false p, .i f, .i t] [] = some (encX true true q, [])) :
    callI G 57 [encX nl false (.mk o x y [p]), .i f, .i t] [] = some (encX true true (.mk o (px o x f t) (py o y f t) [q]), []) := by
  have hbb := eqBindsSX nl o x y [p]
  have hlp := fun X Y => loopPutS1 nl o X Y f t p q hc
  have hfr := eq46X nl p (shape_fit p hs) f
  rw [callI_eq]
  by_cases ht : bnd o x y = t
  · have c3 : fr p f = false := c2.resolve_left (fun h => h ht)
    rw [c3] at hfr
    have hft : ¬ f = t := fun e => c1 (ht.trans e.symm)
    clear c2
    obtain ⟨po, pa, pb, qs⟩ := p
    obtain ⟨so, sa, sb, ss⟩ := q
    simp only [encX, encXs] at hbb hlp hfr
    generalize bnd o x y = B at *
    subst ht
    have c1' : ¬ f = B := fun e => c1 e.symm
    by_cases hq : ss = []
    · subst hq
      simp only [encXs, encP_nil] at hlp
      rcases ho with h | h <;> subst h
      · by_cases hx : x = f <;> (try simp only [hx] at hbb) <;> simp [body1_eq _ _ (gp 57) g57, c57, a57, encX, encXs, encP_nil, expT, hbb, encXs_len, px, py, hB0, hlp, hx, c1, c1', hfr]
      · simp [body1_eq _ _ (gp 57) g57, c57, a57, encX, encXs, encP_nil, expT, hbb, encXs_len, px, py, hB0, hlp, c1, c1', hfr]
    · simp only [expP ss hq] at hlp
      rcases ho with h | h <;> subst h
      · by_cases hx : x = f <;> (try simp only [hx] at hbb) <;> simp [body1_eq _ _ (gp 57) g57, c57, a57, encX, encXs, encP_nil, expT, hbb, encXs_len, px, py, hB0, hlp, hx, c1, c1', hfr, expP ss hq, noShares_XU]
      · simp [body1_eq _ _ (gp 57) g57, c57, a57, encX, encXs, encP_nil, expT, hbb, encXs_len, px, py, hB0, hlp, c1, c1', hfr, expP ss hq, noShares_XU]
  · clear c2 hfr
    obtain ⟨po, pa, pb, qs⟩ := p
    obtain ⟨so, sa, sb, ss⟩ := q
    simp only [encX, encXs] at hbb hlp
    generalize bnd o x y = B at *
    by_cases hq : ss = []
    · subst hq
      simp only [encXs, encP_nil] at hlp
      rcases ho with h | h <;> subst h
      · by_cases hx : x = f <;> (try simp only [hx] at hbb) <;> simp [body1_eq _ _ (gp 57) g57, c57, a57, encX, encXs, encP_nil, expT, hbb, encXs_len, px, py, hB0, hlp, hx, c1, ht]
      · simp [body1_eq _ _ (gp 57) g57, c57, a57, encX, encXs, encP_nil, expT, hbb, encXs_len, px, py, hB0, hlp, c1, ht]
    · simp only [expP ss hq] at hlp
      rcases ho with h | h <;> subst h
      · by_cases hx : x = f <;> (try simp only [hx] at hbb) <;> simp [body1_eq _ _ (gp 57) g57, c57, a57, encX, encXs, encP_nil, expT, hbb, encXs_len, px, py, hB0, hlp, hx, c1, ht, expP ss hq, noShares_XU]
      · simp [body1_eq _ _ (gp 57) g57, c57, a57, encX, encXs, encP_nil, expT, hbb, encXs_len, px, py, hB0, hlp, c1, ht, expP ss hq, noShares_XU]
theorem l13Put_b3 (o : Int) (ho : o = 2 ∨ o = 6) (nl : Bool) (x y f t : Int) (p q1 q2 : Pi) (hB0 : 0 ≤ bnd o x y) (c1 : ¬ bnd o x y = f) (hs : shape p = true) (hcn : cnt p ≤ 13) (ht : bnd o x y = t) (c3 : fr p f = true)
    (i2 : callI G 57 [encX nl false p, .i t, .i (fsh p f t 30 0)] [] = some (encX true true q1, []))
    (i3 : callI G 57 [encX true false q1, .i f, .i t] [] = some (encX true true q2, [])) :
    callI G 57 [encX nl false (.mk o x y [p]), .i f, .i t] [] = some (encX true true (.mk o (if o = 2 then px o x f t else fsh p f t 30 0) (if o = 2 then fsh p f t 30 0 else y) [q2]), []) := by
  have hbb := eqBindsSX nl o x y [p]
  have hlp := fun X Y => loopPutOwn o X Y f t q1 q2 i3
  have hfr := eq46X nl p (shape_fit p hs) f
  have hfs := eqFresh nl p (fun n => eq46X nl p (shape_fit p hs) n) hcn f t
  rw [c3] at hfr
  rw [callI_eq]
  generalize fsh p f t 30 0 = z at *
  have hft : ¬ f = t := fun e => c1 (ht.trans e.symm)
  obtain ⟨po, pa, pb, qs⟩ := p
  obtain ⟨ro, ra, rb, rs⟩ := q1
  obtain ⟨so, sa, sb, ss⟩ := q2
  simp only [encX, encXs] at hbb hlp hfr hfs i2
  generalize bnd o x y = B at *
  subst ht
  have c1' : ¬ f = B := fun e => c1 e.symm
  by_cases hr : rs = []
  · subst hr
    by_cases hq : ss = []
    · subst hq
      simp only [encXs, encP_nil] at hlp i2
      rcases ho with h | h <;> subst h
      · by_cases hx : x = f <;> (try simp only [hx] at hbb) <;> simp [body1_eq _ _ (gp 57) g57, c57, a57, encX, encXs, encP_nil, expT, hbb, encXs_len, px, py, hB0, hlp, hx, c1, c1', hfr, hfs, i2]
      · simp [body1_eq _ _ (gp 57) g57, c57, a57, encX, encXs, encP_nil, expT, hbb, encXs_len, px, py, hB0, hlp, c1, c1', hfr, hfs, i2]
    · simp only [encXs, encP_nil, expP ss hq] at hlp i2
      rcases ho with h | h <;> subst h
      · by_cases hx : x = f <;> (try simp only [hx] at hbb) <;> simp [body1_eq _ _ (gp 57) g57, c57, a57, encX, encXs, encP_nil, expT, hbb, encXs_len, px, py, hB0, hlp, hx, c1, c1', hfr, hfs, i2, expP ss hq, noShares_XU]
      · simp [body1_eq _ _ (gp 57) g57, c57, a57, encX, encXs, encP_nil, expT, hbb, encXs_len, px, py, hB0, hlp, c1, c1', hfr, hfs, i2, expP ss hq, noShares_XU]
  · have hr2 : encP true false (encXs true false rs) = .sl false 4 (encXs true false rs) := encP_sl _ _ _ (.inr (fun e => hr (encXs_nil _ _ e)))
    by_cases hq : ss = []
    · subst hq
      simp only [encXs, encP_nil, expP rs hr, hr2] at hlp i2
      rcases ho with h | h <;> subst h
      · by_cases hx : x = f <;> (try simp only [hx] at hbb) <;> simp [body1_eq _ _ (gp 57) g57, c57, a57, encX, encXs, encP_nil, expT, hbb, encXs_len, px, py, hB0, hlp, hx, c1, c1', hfr, hfs, i2, fals_encXs, noShares_XU]
      · simp [body1_eq _ _ (gp 57) g57, c57, a57, encX, encXs, encP_nil, expT, hbb, encXs_len, px, py, hB0, hlp, c1, c1', hfr, hfs, i2, fals_encXs, noShares_XU]
    · simp only [expP rs hr, hr2, expP ss hq] at hlp i2
      rcases ho with h | h <;> subst h
      · by_cases hx : x = f <;> (try simp only [hx] at hbb) <;> simp [body1_eq _ _ (gp 57) g57, c57, a57, encX, encXs, encP_nil, expT, hbb, encXs_len, px, py, hB0, hlp, hx, c1, c1', hfr, hfs, i2, fals_encXs, expP ss hq, noShares_XU]
      · simp [body1_eq _ _ (gp 57) g57, c57, a57, encX, encXs, encP_nil, expT, hbb, encXs_len, px, py, hB0, hlp, c1, c1', hfr, hfs, i2, fals_encXs, expP ss hq, noShares_XU]
end Go.Am
end
