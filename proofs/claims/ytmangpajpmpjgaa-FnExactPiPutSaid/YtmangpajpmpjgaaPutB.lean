/- What putIn computes. -/
import Derived.Test.YtmangpajpmpjgaaPutA
section
set_option maxRecDepth 10000
set_option maxHeartbeats 4000000
set_option maxHeartbeats 4000000
set_option linter.unusedSimpArgs false
set_option linter.unusedVariables false
namespace Go.Am
open Go.Proofs
theorem expS (a : PV) (l : List PV) (nl : Bool) : encP nl true (a :: l) = .sl true 4 (a :: l) := encP_sl nl true _ (.inr (by simp))
theorem putIn_n (nl : Bool) (o x y f t : Int) (H : Pi → Pi) (ps : List Pi) (hb : bnd o x y < 0) (h2 : ¬ o = 2) (hl : ps.length ≤ 4294967296)
    (ih : ∀ p ∈ ps, callI G 59 [encX nl false p, .i f, .i t] [] = some (encX true true (H p), [])) :
    callI G 59 [encX nl false (.mk o x y ps), .i f, .i t] [] = some (encX true true (.mk o (px o x f t) (py o y f t) (ps.map H)), []) := by
  have hbb := eqBindsIX nl o x y ps
  have hlp := fun X Y => loopPutI nl o X Y f t H ps ih [] [] (by simpa using hl) rfl
  have hx := eqPutName x f t
  have hy := eqPutName y f t
  simp only [encX] at hbb
  simp only [List.nil_append, List.length_nil, show ((0 : Nat) : Int) = 0 from rfl, rvP_nil, roP_nil] at hlp
  rw [callI_eq]
  have hml : (ps.map H).length = ps.length := List.length_map _
  by_cases h : ps.map H = []
  · have hps : ps = [] := by simpa using h
    subst hps
    simp only [List.map_nil, rvP_nil, roP_nil, List.length_nil, show ((0 : Nat) : Int) = 0 from rfl] at hlp
    by_cases h1 : o = 1
    · subst h1
      simp [body1_eq _ _ (gp 59) g59, c59, a59, encX, encXs, encP_nil, encXs_len, hx, hy, px, py, hb] at hlp hbb ⊢
      simp [hlp, hbb, hb]
    · by_cases h7 : o = 7
      · subst h7
        simp [body1_eq _ _ (gp 59) g59, c59, a59, encX, encXs, encP_nil, encXs_len, hx, hy, px, py, hb] at hlp hbb ⊢
        simp [hlp, hbb, hb]
      · simp [body1_eq _ _ (gp 59) g59, c59, a59, encX, encXs, encP_nil, encXs_len, hx, hy, px, py, hb, h1, h7, h2] at hlp hbb ⊢
        simp [hlp, hbb, hb]
  · rw [rvP_ne _ h, roP_ne _ h] at hlp
    by_cases h1 : o = 1
    · subst h1
      simp [body1_eq _ _ (gp 59) g59, c59, a59, encX, expP _ h, hbb, hlp, encXs_len, hx, hy, px, py, hb, noShares_XU]
    · by_cases h7 : o = 7
      · subst h7
        simp [body1_eq _ _ (gp 59) g59, c59, a59, encX, expP _ h, hbb, hlp, encXs_len, hx, hy, px, py, hb, noShares_XU]
      · simp [body1_eq _ _ (gp 59) g59, c59, a59, encX, expP _ h, hbb, hlp, encXs_len, hx, hy, px, py, hb, h1, h7, h2, noShares_XU]
theorem putIn_b (o : Int) (ho : o = 2 ∨ o = 6) (nl : Bool) (x y f t : Int) (p : Pi) (n : Nat) (hk : ∃ k, kindOK o x y = some (true, k)) (hs : shape p = true) (hc : cnt p ≤ 13) (hf : nm f = true) (ht : nm t = true)
    (ih : ∀ (nl : Bool) (f t : Int) (q : Pi), shape q = true → cnt q = cnt p → nm f = true → nm t = true → callI G 59 [encX nl false q, .i f, .i t] [] = some (encX true true (putF n q f t), [])) :
    callI G 59 [encX nl false (.mk o x y [p]), .i f, .i t] [] = some (encX true true (putF (n + 1) (.mk o x y [p]) f t), []) := by
  have hbb := eqBindsIX nl o x y [p]
  have hx := eqPutName x f t
  have hB : ¬ bnd o x y < 0 ∧ nm (bnd o x y) = true := by
    obtain ⟨k, hk⟩ := hk
    rcases ho with h | h <;> subst h <;> simp [kindOK, bnd] at hk ⊢
    · exact ⟨by have := (nm_iff y).1 hk.1.2; omega, hk.1.2⟩
    · exact ⟨by have := (nm_iff x).1 hk.1.1.1; omega, hk.1.1.1⟩
  have hcp := eqCopy nl p hs
  have hfr := eq47X nl p (shape_fit p hs) hs
  have hf' := (nm_iff f).1 hf
  have hat := fre_at p hs f hf'.1 hf'.2
  have hlen := fre_len p
  have hl2 : f.toNat + 1 ≤ 30 := by omega
  have hz := fsh_nm p f t hc
  have i1 := ih nl f t p hs rfl hf ht
  have i2 := ih nl t (fsh p f t 30 0) p hs rfl ht hz.1
  have sh := put_shape n p t (fsh p f t 30 0) hs (by omega) hz.1
  have i3 := ih true f t (putF n p t (fsh p f t 30 0)) sh.1 sh.2 hf ht
  obtain ⟨m, m0, m1, m3, m4, m5⟩ := spare p f t hc
  obtain ⟨m, m0, m1, m3, m4, m5⟩ := spare p f t hc
  obtain ⟨m, m0, m1, m3, m4, m5⟩ := spare p f t hc
  obtain ⟨m, m0, m1, m3, m4, m5⟩ := spare p f t hc
  have hlu := fun X Y o' x' y' B S Q hS hQ => loopUsed o x y X Y o' x' y' f t B S Q hS hQ p hs m m1 m3 m4 m5 30 0 (by omega) m0 (by omega)
  simp only [putF, if_neg hB.1]
  rw [callI_eq]
  generalize putF n (putF n p t (fsh p f t 30 0)) f t = q2 at *
  generalize putF n p t (fsh p f t 30 0) = q1 at *
  generalize putF n p f t = q0 at *
  generalize fsh p f t 30 0 = z at *
  have hB1 := hB.1
  have hat2 := at_in hat
  by_cases c1 : bnd o x y = f
  · rw [if_pos (.inl c1)]
    generalize bnd o x y = B at *
    clear hlu i1 i2 i3 ih sh hz hfr hat hat2
    subst c1
    obtain ⟨po, pa, pb, qs⟩ := p
    by_cases hq : qs = []
    · subst hq
      simp only [encX, encXs, encP_nil] at hbb hcp
      rcases ho with h | h <;> subst h <;> simp [body1_eq _ _ (gp 59) g59, c59, a59, encX, encXs, encP_nil, expS, hbb, encXs_len, hx, px, py, hB1, hcp]
    · simp only [encX, encXs, expP qs hq] at hbb hcp
      rcases ho with h | h <;> subst h <;> simp [body1_eq _ _ (gp 59) g59, c59, a59, encX, encXs, expP qs hq, expS, hbb, encXs_len, hx, px, py, hB1, hcp, noShares_XU]
  have hnf : ¬ (bnd o x y = f) := c1
  by_cases c2 : fr p f = false
  · rw [if_pos (.inr c2)]
    rw [c2] at hat hat2
    generalize bnd o x y = B at *
    clear hlu i1 i2 i3 ih sh hz c2 m5
    generalize fre p = FP at *
    obtain ⟨po, pa, pb, qs⟩ := p
    by_cases hq : qs = []
    · subst hq
      simp only [encX, encXs, encP_nil] at hbb hcp hfr
      rcases ho with h | h <;> subst h <;> simp [body1_eq _ _ (gp 59) g59, c59, a59, encX, encXs, encP_nil, expS, hbb, encXs_len, hx, px, py, hB1, hcp, hnf, hfr, hat, hat2, hlen, hl2, hf'.1, hf'.2]
    · simp only [encX, encXs, expP qs hq] at hbb hcp hfr
      rcases ho with h | h <;> subst h <;> simp [body1_eq _ _ (gp 59) g59, c59, a59, encX, encXs, encP_nil, expS, hbb, encXs_len, hx, px, py, hB1, expP qs hq, hcp, noShares_XU, hnf, hfr, hat, hat2, hlen, hl2, hf'.1, hf'.2]
  · rw [if_neg (by intro h; exact h.elim c1 c2)]
    have c2 : fr p f = true := by simpa using c2
    rw [c2] at hat hat2
    by_cases c3 : bnd o x y = t
    · rw [if_pos c3]
      generalize bnd o x y = B at *
      have hlu := fun X Y o' x' y' B qs => hlu X Y o' x' y' B (encP nl false [encX nl false p]) (encP nl false (encXs nl false qs)) ⟨_, _, rfl⟩ ⟨_, _, rfl⟩
      clear ih sh hz c2 m5 i1 m3 m4
      generalize fre p = FP at *
      have hput : putC Z30 0 (bls FP) = bls FP := putC_all _ _ (by simp [hlen])
      obtain ⟨po, pa, pb, qs⟩ := p
      obtain ⟨ro, ra, rb, rs⟩ := q1
      obtain ⟨so, sa, sb, ss⟩ := q2
      subst c3
      by_cases hr : rs = []
      · subst hr
        by_cases hq : ss = []
        · subst hq
          simp only [encX, encXs, encP_nil] at hbb hcp hfr i2 i3 hlu
          rcases ho with h | h <;> subst h <;> simp [body1_eq _ _ (gp 59) g59, c59, a59, encX, encXs, encP_nil, expS, hbb, encXs_len, hx, px, py, hB1, hnf, hfr, hat, hat2, hlen, hl2, hf'.1, hf'.2, hlu, hput, i2, i3]
        · simp only [encX, encXs, encP_nil, expP ss hq] at hbb hcp hfr i2 i3 hlu
          rcases ho with h | h <;> subst h <;> simp [body1_eq _ _ (gp 59) g59, c59, a59, encX, encXs, encP_nil, expS, hbb, encXs_len, hx, px, py, hB1, expP ss hq, noShares_XU, hnf, hfr, hat, hat2, hlen, hl2, hf'.1, hf'.2, hlu, hput, i2, i3]
      · have hr2 : encP true false (encXs true false rs) = .sl false 4 (encXs true false rs) := encP_sl _ _ _ (.inr (fun e => hr (encXs_nil _ _ e)))
        by_cases hq : ss = []
        · subst hq
          simp only [encX, encXs, encP_nil, expP rs hr, hr2] at hbb hcp hfr i2 i3 hlu
          rcases ho with h | h <;> subst h <;> simp [body1_eq _ _ (gp 59) g59, c59, a59, encX, encXs, encP_nil, expS, hbb, encXs_len, hx, px, py, hB1, fals_encXs, noShares_XU, hnf, hfr, hat, hat2, hlen, hl2, hf'.1, hf'.2, hlu, hput, i2, i3]
        · simp only [encX, encXs, expP rs hr, hr2, expP ss hq] at hbb hcp hfr i2 i3 hlu
          rcases ho with h | h <;> subst h <;> simp [body1_eq _ _ (gp 59) g59, c59, a59, encX, encXs, encP_nil, expS, hbb, encXs_len, hx, px, py, hB1, fals_encXs, expP ss hq, noShares_XU, hnf, hfr, hat, hat2, hlen, hl2, hf'.1, hf'.2, hlu, hput, i2, i3]
    · rw [if_neg c3]
      generalize bnd o x y = B at *
      clear hlu i2 i3 ih sh hz c2 m5
      generalize fre p = FP at *
      obtain ⟨po, pa, pb, qs⟩ := p
      obtain ⟨ro, ra, rb, rs⟩ := q0
      by_cases hr : rs = []
      · subst hr
        simp only [encX, encXs, encP_nil] at hbb hcp hfr i1
        rcases ho with h | h <;> subst h <;> simp [body1_eq _ _ (gp 59) g59, c59, a59, encX, encXs, encP_nil, expS, hbb, encXs_len, hx, px, py, hB1, hnf, c3, hfr, hat, hat2, hlen, hl2, hf'.1, hf'.2, i1]
      · simp only [encX, encXs, expP rs hr] at hbb hcp hfr i1
        rcases ho with h | h <;> subst h <;> simp [body1_eq _ _ (gp 59) g59, c59, a59, encX, encXs, encP_nil, expS, hbb, encXs_len, hx, px, py, hB1, expP rs hr, noShares_XU, hnf, c3, hfr, hat, hat2, hlen, hl2, hf'.1, hf'.2, i1]
end Go.Am
end
