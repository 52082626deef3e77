/- The law FnExactPiPut for the abstract machine. -/
import Derived.Test.YtmangpajpmpjgaaPutB
import Derived.Test.YtmangpajpmpjgaaPutC
import Derived.Test.YtmangpajpmpjgaaPutA
import Derived.Test.YtmangpajpmpjgaaMarkEqs
import Derived.Test.YtmangpajpmpjgaaPiEqs
import Derived.Test.YtmangpajpmpjgaaAmC
import Derived.Test.YtmangpajpmpjgaaCode
section
set_option maxRecDepth 10000
set_option linter.unusedSimpArgs false
set_option linter.unusedVariables false
namespace Go.Am
open Go.Proofs
theorem cnts_mem : ∀ (ps : List Pi) (p : Pi), p ∈ ps → cnt p ≤ cnts ps
  | [], p, h => by cases h
  | q :: ps, p, h => by
    have hp := cnts_pos ps
    have hq := cnt_pos q
    simp only [cnts]
    rcases List.mem_cons.1 h with h | h
    · rw [h]; omega
    · have := cnts_mem ps p h; omega
theorem shapes_mem : ∀ (ps : List Pi) (p : Pi), shapes ps = true → p ∈ ps → shape p = true
  | [], p, _, h => by cases h
  | q :: ps, p, hs, h => by
    simp only [shapes, Bool.and_eq_true] at hs
    rcases List.mem_cons.1 h with h | h
    · rw [h]; exact hs.1
    · exact shapes_mem ps p hs.2 h
theorem kind_not2 {o x y : Int} {k : Nat} (hk : kindOK o x y = some (true, k)) (hb : bnd o x y < 0) : ¬ o = 2 := by
  intro h
  subst h
  simp [kindOK] at hk
  have := (nm_iff y).1 hk.1.2
  simp [bnd] at hb
  omega
theorem kind_one {o x y : Int} {k : Nat} (ho : o = 2 ∨ o = 6) (hk : kindOK o x y = some (true, k)) : k = 1 := by
  rcases ho with h | h <;> subst h <;> simp [kindOK] at hk <;> omega
theorem eqPutI : ∀ (n : Nat) (p : Pi), cnt p ≤ n → n ≤ 14 → shape p = true → ∀ (nl : Bool) (f t : Int), nm f = true → nm t = true →
    callI G 59 [encX nl false p, .i f, .i t] [] = some (encX true true (putF n p f t), [])
  | 0, p, hc, _, _, _, _, _, _, _ => by have := cnt_pos p; omega
  | n + 1, .mk o x y ps, hc, hn, hs, nl, f, t, hf, ht => by
    simp only [shape] at hs
    rcases hk : kindOK o x y with _ | ⟨ok, k⟩
    · simp [hk] at hs
    simp only [hk, Bool.and_eq_true, decide_eq_true_eq] at hs
    obtain ⟨h1, h2, h3⟩ := hs
    subst h1
    have hk2 := kind_le hk
    simp only [cnt] at hc
    by_cases hb : bnd o x y < 0
    · simp only [putF, if_pos hb]
      exact putIn_n nl o x y f t (fun p => putF n p f t) ps hb (kind_not2 hk hb) (by omega) (fun p hp => eqPutI n p (by have := cnts_mem ps p hp; omega) (by omega) (shapes_mem ps p h3 hp) nl f t hf ht)
    · have ho := bnd_cases hb
      have hk1 := kind_one ho hk
      rcases ps with _ | ⟨p, _ | ⟨q, l⟩⟩
      · simp at h2; omega
      · simp only [shapes, Bool.and_true] at h3
        simp only [cnts] at hc
        exact putIn_b o ho nl x y f t p n ⟨k, hk⟩ h3 (by omega) hf ht (fun nl f t q hq hcq hf ht => eqPutI n q (by omega) (by omega) hq nl f t hf ht)
      · simp at h2; omega
theorem eqPutS : ∀ (n : Nat) (p : Pi), cnt p ≤ n → n ≤ 14 → shape p = true → ∀ (nl : Bool) (f t : Int), nm f = true → nm t = true →
    callI G 57 [encX nl false p, .i f, .i t] [] = some (encX true true (putF n p f t), [])
  | 0, p, hc, _, _, _, _, _, _, _ => by have := cnt_pos p; omega
  | n + 1, .mk o x y ps, hc, hn, hs, nl, f, t, hf, ht => by
    simp only [shape] at hs
    rcases hk : kindOK o x y with _ | ⟨ok, k⟩
    · simp [hk] at hs
    simp only [hk, Bool.and_eq_true, decide_eq_true_eq] at hs
    obtain ⟨h1, h2, h3⟩ := hs
    subst h1
    have hk2 := kind_le hk
    simp only [cnt] at hc
    by_cases hb : bnd o x y < 0
    · simp only [putF, if_pos hb]
      exact l13Put_n nl o x y f t (fun p => putF n p f t) ps hb (kind_not2 hk hb) (by omega) (fun p hp => eqPutS n p (by have := cnts_mem ps p hp; omega) (by omega) (shapes_mem ps p h3 hp) nl f t hf ht)
    · have ho := bnd_cases hb
      have hk1 := kind_one ho hk
      rcases ps with _ | ⟨p, _ | ⟨q, l⟩⟩
      · simp at h2; omega
      · simp only [shapes, Bool.and_true] at h3
        simp only [cnts] at hc
        have ih := fun (nl : Bool) (f t : Int) (q : Pi) (hq : shape q = true) (hcq : cnt q = cnt p) (hf : nm f = true) (ht : nm t = true) => eqPutS n q (by omega) (by omega) hq nl f t hf ht
        simp only [putF, if_neg hb]
        by_cases c1 : bnd o x y = f
        · rw [if_pos (.inl c1)]
          have h := ih nl t t p h3 rfl ht ht
          rw [put_id] at h
          exact l13Put_b1 o ho nl x y f t p p (by omega) c1 h
        · by_cases c2 : fr p f = false
          · rw [if_pos (.inr c2)]
            have h := ih nl f t p h3 rfl hf ht
            rw [put_nfr n p f t ((nm_iff f).1 hf).1 c2] at h
            exact l13Put_b2 o ho nl x y f t p p (by omega) c1 h3 (.inr c2) h
          · rw [if_neg (fun h => h.elim c1 c2)]
            by_cases c3 : bnd o x y = t
            · rw [if_pos c3]
              have hz := fsh_nm p f t (by omega)
              have sh := put_shape n p t (fsh p f t 30 0) h3 (by omega) hz.1
              exact l13Put_b3 o ho nl x y f t p _ _ (by omega) c1 h3 (by omega) c3 (by simpa using c2) (ih nl t _ p h3 rfl ht hz.1) (ih true f t _ sh.1 sh.2 hf ht)
            · rw [if_neg c3]
              exact l13Put_b2 o ho nl x y f t p _ (by omega) c1 h3 (.inl c3) (ih nl f t p h3 rfl hf ht)
      · simp at h2; omega
def putR (p : Pi) (f t : Int) : Pi × Bool := if ok p = true ∧ nm f = true ∧ nm t = true then (putF 14 p f t, true) else (.mk 0 0 0 [], false)
theorem ok_cnt {p : Pi} (h : ok p = true) : cnt p ≤ 14 := by
  unfold ok at h
  simp only [Bool.and_eq_true, decide_eq_true_eq] at h
  have := pn_cnt p 14 (by omega)
  by_cases hc : cnt p ≤ 14
  · exact hc
  · have := this.2 (by omega); omega
theorem eqPutPiI (p : Pi) (hf : Fit p) (f t : Int) : callI G 33 [enc p, .i f, .i t] [] = some (.tup [encX true true (putR p f t).1, .b (putR p f t).2], []) := by
  have h12 := eqOkI p hf
  have n1 := eq58 f
  have n2 := eq58 t
  by_cases h1 : ok p = true
  · by_cases h2 : nm f = true
    · by_cases h3 : nm t = true
      · have hr : putR p f t = (putF 14 p f t, true) := by simp [putR, h1, h2, h3]
        have hput := eqPutI 14 p (ok_cnt h1) (by omega) (ok_shape' h1) false f t h2 h3
        rw [← enc_X] at hput
        rw [hr]
        rw [h1] at h12; rw [h2] at n1; rw [h3] at n2
        generalize putF 14 p f t = q at *
        clear hr
        obtain ⟨o, x, y, ps⟩ := p
        obtain ⟨so, sa, sb, ss⟩ := q
        rw [callI_eq]
        by_cases hs : ss = []
        · subst hs
          simp only [enc, encX, encXs, encP_nil] at h12 hput
          simp [body1_eq _ _ (gp 33) g33, c33, a33, enc, encX, encXs, encP_nil, h12, n1, n2, hput]
        · simp only [enc, encX, expP ss hs] at h12 hput
          simp [body1_eq _ _ (gp 33) g33, c33, a33, enc, encX, expP ss hs, h12, n1, n2, hput, noShares_XU]
      · have hr : putR p f t = (.mk 0 0 0 [], false) := by simp [putR, h3]
        have h3 : nm t = false := by simpa using h3
        rw [hr, callI_eq]
        rw [h1] at h12; rw [h2] at n1; rw [h3] at n2
        obtain ⟨o, x, y, ps⟩ := p
        simp only [enc] at h12
        simp [body1_eq _ _ (gp 33) g33, c33, a33, enc, encX, encXs, encP_nil, h12, n1, n2]
    · have hr : putR p f t = (.mk 0 0 0 [], false) := by simp [putR, h2]
      have h2 : nm f = false := by simpa using h2
      rw [hr, callI_eq]
      rw [h1] at h12; rw [h2] at n1
      obtain ⟨o, x, y, ps⟩ := p
      simp only [enc] at h12
      simp [body1_eq _ _ (gp 33) g33, c33, a33, enc, encX, encXs, encP_nil, h12, n1]
  · have hr : putR p f t = (.mk 0 0 0 [], false) := by simp [putR, h1]
    have h1 : ok p = false := by simpa using h1
    rw [hr, callI_eq]
    rw [h1] at h12
    obtain ⟨o, x, y, ps⟩ := p
    simp only [enc] at h12
    simp [body1_eq _ _ (gp 33) g33, c33, a33, enc, encX, encXs, encP_nil, h12]
theorem eqPutPiS (p : Pi) (hf : Fit p) (f t : Int) : callI G 32 [enc p, .i f, .i t] [] = some (.tup [encX true true (putR p f t).1, .b (putR p f t).2], []) := by
  have h12 := eqOkS p hf
  have n1 : callI G 56 [.i f] [] = some (.b (nm f), []) := l13Name f
  have n2 : callI G 56 [.i t] [] = some (.b (nm t), []) := l13Name t
  by_cases h1 : ok p = true
  · by_cases h2 : nm f = true
    · by_cases h3 : nm t = true
      · have hr : putR p f t = (putF 14 p f t, true) := by simp [putR, h1, h2, h3]
        have hput := eqPutS 14 p (ok_cnt h1) (by omega) (ok_shape' h1) false f t h2 h3
        rw [← enc_X] at hput
        rw [hr]
        rw [h1] at h12; rw [h2] at n1; rw [h3] at n2
        generalize putF 14 p f t = q at *
        clear hr
        obtain ⟨o, x, y, ps⟩ := p
        obtain ⟨so, sa, sb, ss⟩ := q
        rw [callI_eq]
        by_cases hs : ss = []
        · subst hs
          simp only [enc, encX, encXs, encP_nil] at h12 hput
          simp [body1_eq _ _ (gp 32) g32, c32, a32, enc, encX, encXs, encP_nil, h12, n1, n2, hput]
        · simp only [enc, encX, expP ss hs] at h12 hput
          simp [body1_eq _ _ (gp 32) g32, c32, a32, enc, encX, expP ss hs, h12, n1, n2, hput, noShares_XU]
      · have hr : putR p f t = (.mk 0 0 0 [], false) := by simp [putR, h3]
        have h3 : nm t = false := by simpa using h3
        rw [hr, callI_eq]
        rw [h1] at h12; rw [h2] at n1; rw [h3] at n2
        obtain ⟨o, x, y, ps⟩ := p
        simp only [enc] at h12
        simp [body1_eq _ _ (gp 32) g32, c32, a32, enc, encX, encXs, encP_nil, h12, n1, n2]
    · have hr : putR p f t = (.mk 0 0 0 [], false) := by simp [putR, h2]
      have h2 : nm f = false := by simpa using h2
      rw [hr, callI_eq]
      rw [h1] at h12; rw [h2] at n1
      obtain ⟨o, x, y, ps⟩ := p
      simp only [enc] at h12
      simp [body1_eq _ _ (gp 32) g32, c32, a32, enc, encX, encXs, encP_nil, h12, n1]
  · have hr : putR p f t = (.mk 0 0 0 [], false) := by simp [putR, h1]
    have h1 : ok p = false := by simpa using h1
    rw [hr, callI_eq]
    rw [h1] at h12
    obtain ⟨o, x, y, ps⟩ := p
    simp only [enc] at h12
    simp [body1_eq _ _ (gp 32) g32, c32, a32, enc, encX, encXs, encP_nil, h12]
end Go.Am
end
section
set_option maxRecDepth 10000
set_option maxHeartbeats 2000000
set_option linter.unusedSimpArgs false
set_option linter.unusedVariables false
namespace Go.Am
open Go.Proofs
theorem putR_ok (p : Pi) (f t : Int) : Fit (putR p f t).1 ∧ cnt (putR p f t).1 ≤ 14 := by
  unfold putR
  split
  · rename_i h
    have hs := ok_shape' h.1
    have hc := ok_cnt h.1
    have := put_shape 14 p f t hs hc h.2.2
    exact ⟨shape_fit _ this.1, by show cnt (putF 14 p f t) ≤ 14; omega⟩
  · exact ⟨⟨by simp, trivial⟩, by simp [cnt, cnts]⟩
theorem mkP_ne {k : Int} {ps : List Pi} (h : ps ≠ []) : mkP k ps ≠ [] := by
  cases ps with
  | nil => exact absurd rfl h
  | cons _ _ => simp [mkP]
theorem lawPiPut (p : Pi) (hf : Fit p) (f t : Int) : callI G 8 [enc p, .i f, .i t] [] = some (.b true, []) := by
  have h9 := eq9 p hf 1048576 (by omega) (by omega)
  rw [callI_eq]
  by_cases hs : szPi p 1048576 < 0
  · obtain ⟨o, x, y, ps⟩ := p
    simp only [enc] at h9
    simp [body1_eq _ _ (gp 8) g8, c8, a8, enc, h9, hs]
  · have h11 := eq11 p (szPi_small p 1048576 (by omega) (by omega) (by omega))
    have hcn := szPi_cnt p 1048576 (by omega) (by omega)
    have hS := eqPutPiS p hf f t
    have hI := eqPutPiI p hf f t
    have h13 := eq13 p hf
    obtain ⟨hqf, hqc⟩ := putR_ok p f t
    have hE := eq13X true (putR p f t).1 hqf
    generalize putR p f t = r at *
    obtain ⟨q, b⟩ := r
    obtain ⟨o, x, y, ps⟩ := p
    have hcp := cnts_pos ps
    simp only [cnt] at hcn
    have hMP := fun Lo h => eqMarkPi ps Lo 32 o x y 1 h (by omega) (by omega)
    have hk : ¬ (1 + 3 * cnts ps < 0) := by omega
    obtain ⟨so, sa, sb, ss⟩ := q
    have hcs := cnts_pos ss
    simp only [cnt] at hqc
    have hk2 : ¬ (1 + 3 * cnts ss < 0) := by omega
    have hH := fun a b c => eqHeldPiX true ss a b c 1 (by omega) (by omega)
    by_cases hss : ss = []
    · subst hss
      simp only [enc, encU, encX, encXs, encP_nil, mkP, cnts, Int.mul_zero, Int.add_zero] at h9 h11 hS hI h13 hE hH
      have hM := fun a b c => eqMarkPi0 a b c 1
      simp [body1_eq _ _ (gp 8) g8, c8, a8, enc, h9, hs, h11, hS, hI, h13, hE, hH, hM, fals_encU, encUs_len, hMP, hk]
    · have hss2 : encP true false (encXs true false ss) = .sl false 4 (encXs true false ss) := encP_sl _ _ _ (.inr (fun e => hss (encXs_nil _ _ e)))
      have hss3 : encP true false (encXs true false (mkP 1 ss)) = .sl false 4 (encXs true false (mkP 1 ss)) := encP_sl _ _ _ (.inr (fun e => mkP_ne hss (encXs_nil _ _ e)))
      simp only [enc, encU, encX, expP ss hss, hss2, hss3] at h9 h11 hS hI h13 hE hH
      have hM := fun Lo h => eqMarkPiX true ss Lo 37 so sa sb 1 h (by omega) (by omega)
      simp [body1_eq _ _ (gp 8) g8, c8, a8, enc, h9, hs, h11, hS, hI, h13, hE, hH, hM, fals_encU, fals_encXs, encXs_len, mkP_len, encUs_len, hMP, hk, hk2, noShares_XU]
end Go.Am
end
section
set_option maxRecDepth 10000
set_option linter.unusedSimpArgs false
set_option linter.unusedVariables false
namespace Go.Am
open Go.Proofs
theorem encs_of : ∀ css : List (List PV), (∀ cs ∈ css, ∃ p, PV.agg cs = enc p ∧ Fit p) → ∃ ps : List Pi, css.map PV.agg = encs ps ∧ Fits ps ∧ ps.length = css.length
  | [], _ => ⟨[], rfl, trivial, rfl⟩
  | cs :: css, h => by
    obtain ⟨p, h1, h2⟩ := h cs List.mem_cons_self
    obtain ⟨ps, h3, h4, h5⟩ := encs_of css (fun c hc => h c (List.mem_cons_of_mem _ hc))
    exact ⟨p :: ps, by simp only [List.map_cons, encs, h1, h3], ⟨h2, h4⟩, by simp [h5]⟩
theorem ty_pi : ∀ n x, Ty Try.prog n 24 x → ∃ p, PV.agg x = enc p ∧ Fit p
  | 0, _, h => h.elim
  | 1, x, h => by
    simp only [Ty, Try.underlying24, TyF] at h
    simp at h
  | n + 2, x, h => by
    have ih := ty_pi n
    unfold Ty at h
    simp only [Try.underlying24] at h
    simp only [TyF, Ty, Try.underlying3, Try.underlying22] at h
    obtain ⟨_, _, rfl, ⟨o, rfl, _⟩, _, _, rfl, ⟨u, rfl, _⟩, _, _, rfl, ⟨v, rfl, _⟩, _, _, rfl, ⟨css, rfl, hl, hc⟩, rfl⟩ := h
    obtain ⟨ps, h1, h2, h3⟩ := encs_of css (fun cs hcs => ih cs (hc cs hcs))
    have hm : css.map (mkE Try.prog 24) = encs ps := by
      rw [← h1]
      refine List.map_congr_left fun cs _ => ?_
      simp [mkE, isAg, Try.underlying24]
    exact ⟨.mk o u v ps, by simp [enc, hm, show Try.prog.cellsOf 24 = 4 from by kernel_rfl], by rw [h3]; exact hl, h2⟩
end Go.Am
end
section
set_option maxRecDepth 10000
set_option linter.unusedSimpArgs false
set_option linter.unusedVariables false
namespace Go.Am
open Go.Proofs
theorem ty_int : ∀ n x, Ty Try.prog n 3 [x] → ∃ v, x = PV.i v
  | 0, _, h => h.elim
  | n + 1, x, h => by
    unfold Ty at h
    simp only [Try.underlying3, TyF] at h
    obtain ⟨v, hv, _⟩ := h
    exact ⟨v, by simpa using hv⟩
end Go.Am
end
