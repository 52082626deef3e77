/- What the functions that the law reaches compute. -/
import Derived.Test.YtifjnagbhfnmgaaDoorEqA
section
set_option maxRecDepth 10000
set_option linter.unusedSimpArgs false
set_option linter.unusedVariables false
namespace Go.Am
open Go.Proofs
mutual
def shape : Pi → Bool
  | .mk o x y ps => match kindOK o x y with
    | none => false
    | some (ok, k) => ok && (decide (ps.length = k) && shapes ps)
def shapes : List Pi → Bool
  | [] => true
  | p :: ps => shape p && shapes ps
end
theorem any_not_shape : ∀ ps : List Pi, ps.any (fun p => !shape p) = !shapes ps
  | [] => rfl
  | p :: ps => by simp [shapes, any_not_shape ps]
theorem eq58 (k : Int) : callI G 38 [.i k] [] = some (.b (nm k), []) := by
  rw [piName]
  have : decide (k < 30) = decide (k ≤ 29) := by
    by_cases h : k < 30
    · have : k ≤ 29 := by omega
      simp [h, this]
    · have : ¬ k ≤ 29 := by omega
      simp [h, this]
  simp [nm, this]
theorem eq61 (x : Pi) (b : Bool) (h : callI G 35 [enc x] [] = some (.b b, [])) : callI G 51 [enc x] [] = some (.b (!b), []) := by
  rw [callI_eq]
  obtain ⟨o', a', b', ps⟩ := x
  simp only [enc] at h
  simp [body1_eq _ _ (gp 51) g51, c51, a51, enc, h]
theorem b40_0 (x y : Int) (ps : List Pi) (hl : ps.length ≤ 9223372036854775807) (ih : ∀ p ∈ ps, callI G 35 [enc p] [] = some (.b (shape p), [])) : callI G 35 [enc (.mk 0 x y ps)] [] = some (.b (shape (.mk 0 x y ps)), []) := by
  have h53 := eq53 51 (fun p => !shape p) ps hl (fun x hx => eq61 x _ (ih x hx))
  simp only [any_not_shape] at h53
  rw [callI_eq]
  by_cases hk : (ps.length : Int) = 0
  · have hk2 : ps.length = 0 := by omega
    simp [body1_eq _ _ (gp 35) g35, c35, a35, enc, eq58, encs_len, h53, hk, shape, kindOK, hk2]
    repeat' split
    all_goals (try simp_all)
    all_goals (try omega)
  · have hk2 : ¬ ps.length = 0 := by omega
    simp [body1_eq _ _ (gp 35) g35, c35, a35, enc, eq58, encs_len, hk, shape, kindOK, hk2]
theorem b40_1 (x y : Int) (ps : List Pi) (hl : ps.length ≤ 9223372036854775807) (ih : ∀ p ∈ ps, callI G 35 [enc p] [] = some (.b (shape p), [])) : callI G 35 [enc (.mk 1 x y ps)] [] = some (.b (shape (.mk 1 x y ps)), []) := by
  have h53 := eq53 51 (fun p => !shape p) ps hl (fun x hx => eq61 x _ (ih x hx))
  simp only [any_not_shape] at h53
  rw [callI_eq]
  by_cases hk : (ps.length : Int) = 1
  · have hk2 : ps.length = 1 := by omega
    simp [body1_eq _ _ (gp 35) g35, c35, a35, enc, eq58, encs_len, h53, hk, shape, kindOK, hk2]
    repeat' split
    all_goals (try simp_all)
    all_goals (try omega)
  · have hk2 : ¬ ps.length = 1 := by omega
    simp [body1_eq _ _ (gp 35) g35, c35, a35, enc, eq58, encs_len, hk, shape, kindOK, hk2]
theorem b40_2 (x y : Int) (ps : List Pi) (hl : ps.length ≤ 9223372036854775807) (ih : ∀ p ∈ ps, callI G 35 [enc p] [] = some (.b (shape p), [])) : callI G 35 [enc (.mk 2 x y ps)] [] = some (.b (shape (.mk 2 x y ps)), []) := by
  have h53 := eq53 51 (fun p => !shape p) ps hl (fun x hx => eq61 x _ (ih x hx))
  simp only [any_not_shape] at h53
  rw [callI_eq]
  by_cases hk : (ps.length : Int) = 1
  · have hk2 : ps.length = 1 := by omega
    simp [body1_eq _ _ (gp 35) g35, c35, a35, enc, eq58, encs_len, h53, hk, shape, kindOK, hk2]
    repeat' split
    all_goals (try simp_all)
    all_goals (try omega)
  · have hk2 : ¬ ps.length = 1 := by omega
    simp [body1_eq _ _ (gp 35) g35, c35, a35, enc, eq58, encs_len, hk, shape, kindOK, hk2]
theorem b40_3 (x y : Int) (ps : List Pi) (hl : ps.length ≤ 9223372036854775807) (ih : ∀ p ∈ ps, callI G 35 [enc p] [] = some (.b (shape p), [])) : callI G 35 [enc (.mk 3 x y ps)] [] = some (.b (shape (.mk 3 x y ps)), []) := by
  have h53 := eq53 51 (fun p => !shape p) ps hl (fun x hx => eq61 x _ (ih x hx))
  simp only [any_not_shape] at h53
  rw [callI_eq]
  by_cases hk : (ps.length : Int) = 1
  · have hk2 : ps.length = 1 := by omega
    simp [body1_eq _ _ (gp 35) g35, c35, a35, enc, eq58, encs_len, h53, hk, shape, kindOK, hk2]
    repeat' split
    all_goals (try simp_all)
    all_goals (try omega)
  · have hk2 : ¬ ps.length = 1 := by omega
    simp [body1_eq _ _ (gp 35) g35, c35, a35, enc, eq58, encs_len, hk, shape, kindOK, hk2]
theorem b40_4 (x y : Int) (ps : List Pi) (hl : ps.length ≤ 9223372036854775807) (ih : ∀ p ∈ ps, callI G 35 [enc p] [] = some (.b (shape p), [])) : callI G 35 [enc (.mk 4 x y ps)] [] = some (.b (shape (.mk 4 x y ps)), []) := by
  have h53 := eq53 51 (fun p => !shape p) ps hl (fun x hx => eq61 x _ (ih x hx))
  simp only [any_not_shape] at h53
  rw [callI_eq]
  by_cases hk : (ps.length : Int) = 2
  · have hk2 : ps.length = 2 := by omega
    simp [body1_eq _ _ (gp 35) g35, c35, a35, enc, eq58, encs_len, h53, hk, shape, kindOK, hk2]
    repeat' split
    all_goals (try simp_all)
    all_goals (try omega)
  · have hk2 : ¬ ps.length = 2 := by omega
    simp [body1_eq _ _ (gp 35) g35, c35, a35, enc, eq58, encs_len, hk, shape, kindOK, hk2]
theorem b40_5 (x y : Int) (ps : List Pi) (hl : ps.length ≤ 9223372036854775807) (ih : ∀ p ∈ ps, callI G 35 [enc p] [] = some (.b (shape p), [])) : callI G 35 [enc (.mk 5 x y ps)] [] = some (.b (shape (.mk 5 x y ps)), []) := by
  have h53 := eq53 51 (fun p => !shape p) ps hl (fun x hx => eq61 x _ (ih x hx))
  simp only [any_not_shape] at h53
  rw [callI_eq]
  by_cases hk : (ps.length : Int) = 2
  · have hk2 : ps.length = 2 := by omega
    simp [body1_eq _ _ (gp 35) g35, c35, a35, enc, eq58, encs_len, h53, hk, shape, kindOK, hk2]
    repeat' split
    all_goals (try simp_all)
    all_goals (try omega)
  · have hk2 : ¬ ps.length = 2 := by omega
    simp [body1_eq _ _ (gp 35) g35, c35, a35, enc, eq58, encs_len, hk, shape, kindOK, hk2]
theorem b40_6 (x y : Int) (ps : List Pi) (hl : ps.length ≤ 9223372036854775807) (ih : ∀ p ∈ ps, callI G 35 [enc p] [] = some (.b (shape p), [])) : callI G 35 [enc (.mk 6 x y ps)] [] = some (.b (shape (.mk 6 x y ps)), []) := by
  have h53 := eq53 51 (fun p => !shape p) ps hl (fun x hx => eq61 x _ (ih x hx))
  simp only [any_not_shape] at h53
  rw [callI_eq]
  by_cases hk : (ps.length : Int) = 1
  · have hk2 : ps.length = 1 := by omega
    simp [body1_eq _ _ (gp 35) g35, c35, a35, enc, eq58, encs_len, h53, hk, shape, kindOK, hk2]
    have hy : (!decide (y < 0) && !decide (3 ≤ y)) = (nm y && decide (y < 3)) := by
      unfold nm
      by_cases h1 : y < 0
      · have : ¬ 0 ≤ y := by omega
        simp [h1, this]
      · by_cases h2 : y < 3
        · have a1 : 0 ≤ y := by omega
          have a2 : y ≤ 29 := by omega
          have a3 : ¬ 3 ≤ y := by omega
          simp [h1, h2, a1, a2, a3]
        · have a3 : 3 ≤ y := by omega
          simp [h2, a3]
    rw [hy]; simp only [Bool.and_assoc]
  · have hk2 : ¬ ps.length = 1 := by omega
    simp [body1_eq _ _ (gp 35) g35, c35, a35, enc, eq58, encs_len, hk, shape, kindOK, hk2]
theorem b40_7 (x y : Int) (ps : List Pi) (hl : ps.length ≤ 9223372036854775807) (ih : ∀ p ∈ ps, callI G 35 [enc p] [] = some (.b (shape p), [])) : callI G 35 [enc (.mk 7 x y ps)] [] = some (.b (shape (.mk 7 x y ps)), []) := by
  have h53 := eq53 51 (fun p => !shape p) ps hl (fun x hx => eq61 x _ (ih x hx))
  simp only [any_not_shape] at h53
  rw [callI_eq]
  by_cases hk : (ps.length : Int) = 1
  · have hk2 : ps.length = 1 := by omega
    simp [body1_eq _ _ (gp 35) g35, c35, a35, enc, eq58, encs_len, h53, hk, shape, kindOK, hk2]
    repeat' split
    all_goals (try simp_all)
    all_goals (try omega)
  · have hk2 : ¬ ps.length = 1 := by omega
    simp [body1_eq _ _ (gp 35) g35, c35, a35, enc, eq58, encs_len, hk, shape, kindOK, hk2]
theorem b40_d (o x y : Int) (ps : List Pi) (h : ¬ o = 0 ∧ ¬ o = 1 ∧ ¬ o = 2 ∧ ¬ o = 3 ∧ ¬ o = 4 ∧ ¬ o = 5 ∧ ¬ o = 6 ∧ ¬ o = 7) : callI G 35 [enc (.mk o x y ps)] [] = some (.b (shape (.mk o x y ps)), []) := by
  obtain ⟨h0, h1, h2, h3, h4, h5, h6, h7⟩ := h
  rw [callI_eq]
  simp [body1_eq _ _ (gp 35) g35, c35, a35, enc, eq58, shape, kindOK, h0, h1, h2, h3, h4, h5, h6, h7]
mutual
theorem eq40 : ∀ p : Pi, Fit p → callI G 35 [enc p] [] = some (.b (shape p), [])
  | .mk o x y ps, hf => by
    have ih := eq40s ps hf.2
    by_cases h0 : o = 0
    · rw [h0]; exact b40_0 x y ps hf.1 ih
    by_cases h1 : o = 1
    · rw [h1]; exact b40_1 x y ps hf.1 ih
    by_cases h2 : o = 2
    · rw [h2]; exact b40_2 x y ps hf.1 ih
    by_cases h3 : o = 3
    · rw [h3]; exact b40_3 x y ps hf.1 ih
    by_cases h4 : o = 4
    · rw [h4]; exact b40_4 x y ps hf.1 ih
    by_cases h5 : o = 5
    · rw [h5]; exact b40_5 x y ps hf.1 ih
    by_cases h6 : o = 6
    · rw [h6]; exact b40_6 x y ps hf.1 ih
    by_cases h7 : o = 7
    · rw [h7]; exact b40_7 x y ps hf.1 ih
    exact b40_d o x y ps ⟨h0, h1, h2, h3, h4, h5, h6, h7⟩
theorem eq40s : ∀ (ps : List Pi), Fits ps → ∀ p ∈ ps, callI G 35 [enc p] [] = some (.b (shape p), [])
  | [], _, p, h => by cases h
  | q :: ps, hf, p, h => by
    rcases List.mem_cons.1 h with h | h
    · rw [h]; exact eq40 q hf.1
    · exact eq40s ps hf.2 p h
end
theorem eq12 (p : Pi) (hf : Fit p) : callI G 17 [enc p] [] = some (.b (decide (pn p 14 ≤ 14) && shape p), []) := by
  have h := eq39 p hf 14 (by omega) (by omega)
  have h2 := eq40 p hf
  rw [callI_eq]
  obtain ⟨o, x, y, ps⟩ := p
  simp only [enc] at h h2
  simp [body1_eq _ _ (gp 17) g17, c17, a17, enc, h, h2]
end Go.Am
end
section
set_option maxRecDepth 10000
set_option linter.unusedSimpArgs false
set_option linter.unusedVariables false
namespace Go.Am
open Go.Proofs
/-! #### the plain law -/
/-! How many nodes there are. -/
mutual
def cnt : Pi → Int
  | .mk _ _ _ ps => 1 + cnts ps
def cnts : List Pi → Int
  | [] => 0
  | p :: ps => cnt p + cnts ps
end
mutual
theorem cnt_pos : ∀ p : Pi, 1 ≤ cnt p
  | .mk _ _ _ ps => by have := cnts_pos ps; simp only [cnt]; omega
theorem cnts_pos : ∀ ps : List Pi, 0 ≤ cnts ps
  | [] => by simp [cnts]
  | p :: ps => by have h1 := cnt_pos p; have h2 := cnts_pos ps; simp only [cnts]; omega
end
mutual
theorem pn_cnt : ∀ (p : Pi) (m : Int), 0 ≤ m → (cnt p ≤ m → pn p m = cnt p) ∧ (m < cnt p → pn p m = m + 1)
  | .mk _ _ _ ps, m, h => by
    have := pnL_cnt ps 1 m h (by omega) (by omega)
    simp only [pn, cnt]
    exact this
theorem pnL_cnt : ∀ (ps : List Pi) (n m : Int), 0 ≤ m → 1 ≤ n → n ≤ m + 1 → (n + cnts ps ≤ m → pnL ps n m = n + cnts ps) ∧ (m < n + cnts ps → pnL ps n m = m + 1)
  | [], n, m, h, h1, h2 => by simp only [pnL, cnts]; omega
  | p :: ps, n, m, h, h1, h2 => by
    have hp := cnt_pos p
    have hps := cnts_pos ps
    simp only [pnL, cnts]
    split
    · omega
    · have := pn_cnt p (m - n) (by omega)
      have hb := pn_le p (m - n) (by omega)
      have h3 := pnL_cnt ps (n + pn p (m - n)) m h (by omega) (by omega)
      by_cases hc : cnt p ≤ m - n
      · rw [this.1 hc] at h3 ⊢
        constructor
        · intro h4; rw [h3.1 (by omega)]; omega
        · intro h4; exact h3.2 (by omega)
      · rw [this.2 (by omega)] at h3 ⊢
        constructor
        · intro h4; omega
        · intro h4; exact h3.2 (by omega)
end
mutual
theorem nodes_cnt : ∀ p : Pi, nodes p = if shape p = true then (if cnt p < 1000 then cnt p else 1000) else 0
  | .mk o x y ps => by
    rcases hk : kindOK o x y with _ | ⟨ok, k⟩
    · have e1 : nodes (.mk o x y ps) = 0 := by simp [nodes, hk]
      have e2 : shape (.mk o x y ps) = false := by simp [shape, hk]
      simp [e1, e2]
    · have e1 : nodes (.mk o x y ps) = if ok = true ∧ ps.length = k then nodesL ps 1 else 0 := by simp [nodes, hk]
      have e2 : shape (.mk o x y ps) = (ok && (decide (ps.length = k) && shapes ps)) := by simp [shape, hk]
      have hL := nodesL_cnt ps 1 (by omega) (by omega)
      rw [e1, hL]
      by_cases h1 : ok = true <;> by_cases h2 : ps.length = k <;> by_cases h3 : shapes ps = true <;> simp [e2, h1, h2, h3, cnt] <;> (by_cases h4 : 1 + cnts ps < 1000 <;> simp [h4])
theorem nodesL_cnt : ∀ (ps : List Pi) (n : Int), 1 ≤ n → n ≤ 1000 → nodesL ps n = if shapes ps = true then (if n + cnts ps < 1000 then n + cnts ps else 1000) else 0
  | [], n, h, h1 => by
    simp only [nodesL, shapes, cnts]
    simp
    omega
  | p :: ps, n, h, h1 => by
    have hp := nodes_cnt p
    have hc := cnt_pos p
    have hcs := cnts_pos ps
    have hC : cnts (p :: ps) = cnt p + cnts ps := rfl
    simp only [nodesL]
    generalize cnts (p :: ps) = C at hC ⊢
    by_cases hs : shape p = true
    · rw [hs, if_pos rfl] at hp
      have hz : ¬ nodes p = 0 := by rw [hp]; split <;> omega
      rw [if_neg hz, nodesL_cnt ps _ (by rw [hp]; split <;> split <;> omega) (by split <;> omega)]
      by_cases hss : shapes ps = true
      · have e : shapes (p :: ps) = true := by simp [shapes, hs, hss]
        rw [if_pos hss, if_pos e, hp]
        by_cases a1 : cnt p < 1000
        · simp only [a1, if_true]
          by_cases a2 : n + cnt p < 1000
          · simp only [a2, if_true]; split <;> split <;> omega
          · simp only [a2, if_false]; split <;> split <;> omega
        · have a2 : ¬ n + 1000 < 1000 := by omega
          simp only [a1, if_false, a2]; split <;> split <;> omega
      · have e : ¬ shapes (p :: ps) = true := by simp [shapes, hss]
        rw [if_neg hss, if_neg e]
    · have e : ¬ shapes (p :: ps) = true := by simp [shapes, hs]
      rw [if_neg hs] at hp
      rw [if_pos hp, if_neg e]
end
theorem plain_ok (p : Pi) : (decide (1 ≤ nodes p) && decide (nodes p ≤ 14)) = (decide (pn p 14 ≤ 14) && shape p) := by
  have h1 := nodes_cnt p
  have h2 := pn_cnt p 14 (by omega)
  have h3 := cnt_pos p
  by_cases hs : shape p = true
  · rw [if_pos hs] at h1
    rw [h1, hs]
    by_cases hc : cnt p ≤ 14
    · rw [h2.1 hc]
      have a1 : cnt p < 1000 := by omega
      simp [hc, a1, h3]
    · rw [h2.2 (by omega)]
      have a1 : ¬ (if cnt p < 1000 then cnt p else 1000) ≤ 14 := by split <;> omega
      simp [a1]
  · have hs2 : shape p = false := by simpa using hs
    rw [if_neg hs] at h1
    simp [h1, hs2]
end Go.Am
end
section
set_option maxRecDepth 10000
set_option linter.unusedSimpArgs false
set_option linter.unusedVariables false
namespace Go.Am
open Go.Proofs
/-! The text of a term, its bound names by their depths. -/
def S (l : List UInt8) : ByteArray := ⟨l.toArray⟩
theorem S_len (l : List UInt8) : (S l).size = l.length := by simp [S, ByteArray.size]
theorem S_app (a b : List UInt8) : S a ++ S b = S (a ++ b) := by
  apply ByteArray.ext
  simp [S]
theorem b_addS {a b : List UInt8} (h : a.length + b.length ≤ 9223372036854775807) : bin .add (.sc (.string (S a))) (.sc (.string (S b))) = some (.s (S (a ++ b))) := by
  rw [b_adds, S_len, S_len, if_pos h, S_app]
@[simp] theorem toS (l : List UInt8) : ByteArray.mk (List.toArray l) = S l := rfl
def dg (n : Int) : List UInt8 := Lib.decDigits n.toNat
theorem dg_len (n : Int) (h : 0 ≤ n ∧ n < 100) : (dg n).length ≤ 2 := by
  unfold dg
  rw [Lib.decDigits]
  split
  · simp
  · rw [Lib.decDigits, dif_pos (by omega)]
    simp
/-- The texts of the names, with one that is bound at a depth. -/
def up (σ : Int → List UInt8) (n d : Int) : Int → List UInt8 := fun k => if k = n then 35 :: dg d else σ k
mutual
def key (σ : Int → List UInt8) (d : Int) : Pi → List UInt8
  | .mk o x y ps =>
    if o = 0 then [48]
    else if o = 1 then [40] ++ σ x ++ [33] ++ σ y ++ keys σ d ps ++ [41]
    else if o = 2 then [40] ++ σ x ++ [63] ++ (35 :: dg d) ++ keys (up σ y d) (d + 1) ps ++ [41]
    else if o = 3 then [40, 116, 97, 117] ++ keys σ d ps ++ [41]
    else if o = 4 then [40, 115, 117, 109] ++ keys σ d ps ++ [41]
    else if o = 5 then [40, 112, 97, 114] ++ keys σ d ps ++ [41]
    else if o = 6 then [40, 110, 101, 119, 32] ++ (35 :: dg d) ++ [32] ++ dg y ++ keys (up σ x d) (d + 1) ps ++ [41]
    else [40] ++ σ x ++ [61] ++ σ y ++ keys σ d ps ++ [41]
def keys (σ : Int → List UInt8) (d : Int) : List Pi → List UInt8
  | [] => []
  | p :: ps => 32 :: key σ d p ++ keys σ d ps
end
/-- Short texts. -/
def Sh (σ : Int → List UInt8) : Prop := ∀ k, (σ k).length ≤ 3
theorem Sh.up {σ : Int → List UInt8} (h : Sh σ) (n d : Int) (hd : 0 ≤ d ∧ d < 100) : Sh (up σ n d) := by
  intro k
  unfold Am.up
  split
  · have := dg_len d hd; simp; omega
  · exact h k
mutual
theorem key_len (σ : Int → List UInt8) (d : Int) (hs : Sh σ) (hd : 0 ≤ d) : ∀ p : Pi, shape p = true → d + cnt p ≤ 100 → (key σ d p).length + 1 ≤ 16 * (cnt p).toNat
  | .mk o x y ps, h, hc => by
    have hp := cnts_pos ps
    simp only [cnt] at hc ⊢
    have e : (1 + cnts ps).toNat = 1 + (cnts ps).toNat := by omega
    rw [e]
    have h1 := hs x
    have h2 := hs y
    have hss : shapes ps = true ∧ (o = 6 → 0 ≤ y ∧ y < 3) := by
      unfold shape at h
      refine ⟨?_, fun ho => ?_⟩
      · split at h
        · cases h
        · simp only [Bool.and_eq_true] at h; exact h.2.2
      · subst ho
        simp [kindOK, nm] at h
        omega
    have k1 := fun σ' (hs' : Sh σ') => keys_len σ' d hs' hd ps hss.1 (by omega)
    have d0 := dg_len d (by omega)
    by_cases hd1 : cnts ps = 0
    · have hz : ps = [] := by
        cases ps with
        | nil => rfl
        | cons p ps => have := cnt_pos p; have := cnts_pos ps; simp only [cnts] at hd1; omega
      subst hz
      have := k1 σ hs
      simp only [key]
      repeat' split
      all_goals (simp only [List.length_append, List.length_cons, List.length_nil, keys]; try omega)
      have := dg_len y (by have := hss.2 (by assumption); omega)
      omega
    · have k2 := fun σ' (hs' : Sh σ') => keys_len σ' (d + 1) hs' (by omega) ps hss.1 (by omega)
      have a1 := k1 σ hs
      have a2 := k2 _ (hs.up y d (by omega))
      have a3 := k2 _ (hs.up x d (by omega))
      simp only [key]
      repeat' split
      all_goals (simp only [List.length_append, List.length_cons, List.length_nil]; try omega)
      have := dg_len y (by have := hss.2 (by assumption); omega)
      omega
theorem keys_len (σ : Int → List UInt8) (d : Int) (hs : Sh σ) (hd : 0 ≤ d) : ∀ ps : List Pi, shapes ps = true → d + cnts ps ≤ 100 → (keys σ d ps).length ≤ 16 * (cnts ps).toNat
  | [], _, _ => by simp [keys]
  | p :: ps, h, hc => by
    have h1 := cnt_pos p
    have h2 := cnts_pos ps
    simp only [cnts] at hc ⊢
    simp only [shapes, Bool.and_eq_true] at h
    have a1 := key_len σ d hs hd p h.1 (by omega)
    have a2 := keys_len σ d hs hd ps h.2 (by omega)
    have e : (cnt p + cnts ps).toNat = (cnt p).toNat + (cnts ps).toNat := by omega
    simp only [keys, List.length_append, List.length_cons, e]
    omega
end
end Go.Am
end
section
set_option maxRecDepth 10000
set_option linter.unusedSimpArgs false
set_option linter.unusedVariables false
namespace Go.Am
open Go.Proofs
theorem eqItoaS (n : Int) (h : 0 ≤ n ∧ n < 100) (o : Stack) : callI G 59 [.i n] o = some (.s (S (dg n)), o) := by
  rw [eqItoa]
  have : 0 ≤ n ∧ n < 100 := h
  unfold itoaP
  simp only [this, and_self, if_true]
  rfl
def kbnd : Pi → Int
  | .mk o x y _ => if o = 2 then y else if o = 6 then x else -1
theorem kBindsI (p : Pi) : callI G 53 [enc p] [] = some (.i (kbnd p), []) := by
  obtain ⟨o, x, y, ps⟩ := p
  rw [callI_eq]
  by_cases h2 : o = 2
  · simp [body1_eq _ _ (gp 53) g53, c53, a53, enc, kbnd, h2]
  · by_cases h6 : o = 6 <;> simp [body1_eq _ _ (gp 53) g53, c53, a53, enc, kbnd, h2, h6]
end Go.Am
end
section
set_option maxRecDepth 10000
set_option linter.unusedSimpArgs false
set_option linter.unusedVariables false
namespace Go.Am
open Go.Proofs
/-- The texts of the names themselves. -/
def σ0 : Int → List UInt8 := fun k => if 0 ≤ k ∧ k < 100 then 110 :: dg k else []
theorem σ0_eq (k : Int) (h : 0 ≤ k ∧ k < 100) : σ0 k = 110 :: dg k := if_pos h
theorem Sh0 : Sh σ0 := by
  intro k
  unfold σ0
  split
  · have := dg_len k (by assumption)
    simp; omega
  · simp
/-- A row of the first texts. -/
def tx (σ : Int → List UInt8) (n : Nat) : List PV := (List.range n).map fun (k : Nat) => .s (S (σ (k : Int)))
end Go.Am
end
section
set_option maxRecDepth 10000
set_option maxHeartbeats 1000000
set_option linter.unusedSimpArgs false
set_option linter.unusedVariables false
namespace Go.Am
open Go.Proofs
end Go.Am
end
section
set_option maxRecDepth 10000
set_option maxHeartbeats 1000000
set_option linter.unusedSimpArgs false
set_option linter.unusedVariables false
namespace Go.Am
open Go.Proofs
end Go.Am
end
section
set_option maxRecDepth 10000
set_option maxHeartbeats 1000000
set_option linter.unusedSimpArgs false
set_option linter.unusedVariables false
namespace Go.Am
open Go.Proofs
theorem shape_parts {o x y : Int} {ps : List Pi} (h : shape (.mk o x y ps) = true) : (0 ≤ x ∧ x < 30) ∧ (0 ≤ y ∧ y < 30) ∧ shapes ps = true ∧ (o = 0 ∨ o = 1 ∨ o = 2 ∨ o = 3 ∨ o = 4 ∨ o = 5 ∨ o = 6 ∨ o = 7) := by
  unfold shape kindOK nm at h
  by_cases h0 : o = 0
  · subst h0; simp at h; refine ⟨by omega, by omega, h.2.2, by omega⟩
  by_cases h3 : o = 3
  · subst h3; simp at h; refine ⟨by omega, by omega, h.2.2, by omega⟩
  by_cases h4 : o = 4 ∨ o = 5
  · simp [h0, h3, h4] at h; refine ⟨by omega, by omega, h.2.2, by omega⟩
  by_cases h6 : o = 6
  · subst h6; simp at h; refine ⟨by omega, by omega, h.2.2, by omega⟩
  by_cases h1 : o = 1 ∨ o = 2 ∨ o = 7
  · simp [h0, h3, h4, h6, h1] at h; refine ⟨by omega, by omega, h.2.2, by omega⟩
  · simp [h0, h3, h4, h6, h1] at h
/-- The key of a term. -/
def pkey (p : Pi) : List UInt8 := if (decide (pn p 14 ≤ 14) && shape p) = true then key σ0 0 p else []
end Go.Am
end
section
set_option maxRecDepth 10000
set_option maxHeartbeats 1000000
set_option linter.unusedSimpArgs false
set_option linter.unusedVariables false
namespace Go.Am
open Go.Proofs
/-- The names' texts as a map holds them. -/
def Tol (σ : Int → List UInt8) (es : List (Key × PV)) : Prop := ∀ k : Int, 0 ≤ k → k < 30 → lkp (.i k) es = some (.s (S (σ k))) ∨ (lkp (.i k) es = none ∧ σ k = σ0 k)
theorem k1_nil (l : Objs) (k : Int) (hk : 0 ≤ k ∧ k < 30) (hl : getO l 4 = some (.box [.sc (.map none)])) : callI G 58 [.i k, .ref (0, 4) 1 0 0] [l] = some (.s (S (σ0 k)), [l]) := by
  have h1 := eqItoaS k (by omega)
  have hb := b_addS (a := [110]) (b := dg k) (by have := dg_len k (by omega); simp; omega)
  have hz := σ0_eq k (by omega)
  rw [callI_eq]
  simp [body1_eq _ _ (gp 58) g58, c58, a58, hl, h1, hb, hz, -b_adds]
theorem k1_mp (σ : Int → List UInt8) (o : Stack) (l : Objs) (j t : Nat) (es : List (Key × PV)) (ob : OB) (hT : Tol σ es) (k : Int) (hk : 0 ≤ k ∧ k < 30) (hl : getO l 4 = some (.box [.mp (j, t)])) (hj : j < o.length) (hob : (o[j]?).bind (getO · t) = some ob) (hM : ob = .map false es ∨ ob = .fmap false es) :
    callI G 58 [.i k, .ref (o.length, 4) 1 0 0] (o ++ [l]) = some (.s (S (σ k)), o ++ [l]) := by
  have h1 := eqItoaS k (by omega)
  have hb := b_addS (a := [110]) (b := dg k) (by have := dg_len k (by omega); simp; omega)
  have hz := σ0_eq k (by omega)
  have hj1 : ¬ j = o.length + 1 := by omega
  have hj2 : (o ++ [l])[j]? = o[j]? := List.getElem?_append_left hj
  rw [callI_eq]
  rcases hT k hk.1 hk.2 with h | ⟨h, e⟩
  · rcases hM with rfl | rfl
    · simp [body1_eq _ _ (gp 58) g58, c58, a58, hl, hj1, hj2, hob, h, hb, hz, -b_adds]
    · simp [body1_eq _ _ (gp 58) g58, c58, a58, hl, hj1, hj2, hob, h, hb, hz, -b_adds]
  · rw [e]
    rcases hM with rfl | rfl
    · simp [body1_eq _ _ (gp 58) g58, c58, a58, hl, hj1, hj2, hob, h, h1, hb, hz, -b_adds]
    · simp [body1_eq _ _ (gp 58) g58, c58, a58, hl, hj1, hj2, hob, h, h1, hb, hz, -b_adds]
end Go.Am
end
section
set_option maxRecDepth 10000
set_option maxHeartbeats 1000000
set_option linter.unusedSimpArgs false
set_option linter.unusedVariables false
namespace Go.Am
open Go.Proofs
/-- The stack with another object at a name. -/
def updS (o : Stack) (j t : Nat) (ob : OB) : Stack := o.modify j (setO · t ob)
theorem modify_app {α : Type} (A B : List α) (j : Nat) (f : α → α) (h : j < A.length) : (A ++ B).modify j f = A.modify j f ++ B := by
  apply List.ext_getElem?
  intro i
  rw [List.getElem?_modify, List.getElem?_append, List.getElem?_append, List.getElem?_modify]
  simp only [List.length_modify]
  by_cases hi : i < A.length
  · simp [hi]
  · have : ¬ j = i := by omega
    simp [hi, this]
theorem updS_app (A : Stack) (B : Stack) (j t : Nat) (ob : OB) (h : j < A.length) : updS (A ++ B) j t ob = updS A j t ob ++ B := modify_app A B j _ h
theorem updS_last (o : Stack) (l : Objs) (t : Nat) (ob : OB) : updS (o ++ [l]) o.length t ob = o ++ [setO l t ob] := by
  unfold updS
  apply List.ext_getElem?
  intro i
  rw [List.getElem?_modify, List.getElem?_append, List.getElem?_append]
  by_cases hi : i < o.length
  · have : ¬ o.length = i := by omega
    simp [hi, this]
  · by_cases h2 : o.length = i
    · subst h2; simp
    · have : ¬ i - o.length < 1 := by omega
      simp [hi, h2]
      cases hh : i - o.length with
      | zero => omega
      | succ q => simp
theorem updS_len (o : Stack) (j t : Nat) (ob : OB) : (updS o j t ob).length = o.length := by simp [updS]
theorem getO_setO' (l : Objs) (t : Nat) (ob : OB) : getO (setO l t ob) t = some ob := by
  induction l with
  | nil => simp [setO, getO]
  | cons a l ih => obtain ⟨k, v⟩ := a; by_cases h : k = t <;> simp [setO, getO, h, ih]
theorem setO_setO' (l : Objs) (t : Nat) (a b : OB) : setO (setO l t a) t b = setO l t b := by
  induction l with
  | nil => simp [setO]
  | cons x l ih => obtain ⟨k, v⟩ := x; by_cases h : k = t <;> simp [setO, h, ih]
theorem setO_self' (l : Objs) (t : Nat) (ob : OB) (h : getO l t = some ob) : setO l t ob = l := by
  induction l with
  | nil => simp [getO] at h
  | cons x l ih =>
    obtain ⟨k, v⟩ := x
    by_cases hk : k = t
    · simp [getO, hk] at h; simp [setO, hk, h]
    · simp [getO, hk] at h; simp [setO, hk, ih h]
theorem updS_get (o : Stack) (j t : Nat) (ob : OB) (h : j < o.length) : ((updS o j t ob)[j]?).bind (getO · t) = some ob := by
  unfold updS
  rw [List.getElem?_modify]
  simp [h, getO_setO']
theorem updS_updS (o : Stack) (j t : Nat) (a b : OB) : updS (updS o j t a) j t b = updS o j t b := by
  unfold updS
  apply List.ext_getElem?
  intro i
  rw [List.getElem?_modify, List.getElem?_modify, List.getElem?_modify]
  by_cases h : j = i
  · simp [h, Function.comp_def, setO_setO']
  · simp [h]
theorem updS_self (o : Stack) (j t : Nat) (ob : OB) (h : (o[j]?).bind (getO · t) = some ob) : updS o j t ob = o := by
  unfold updS
  apply List.ext_getElem?
  intro i
  rw [List.getElem?_modify]
  by_cases hi : j = i
  · subst hi
    cases hc : o[j]? with
    | none => simp
    | some l => rw [hc] at h; simp at h; simp [setO_self' l t ob h]
  · simp [hi]
def okE (es : List (Key × PV)) : Prop := ∀ q ∈ es, ∃ (k : Int) (b : ByteArray), q = (.i k, .s b)
/-- A map with these entries, that may be ranged over or written. -/
def isM (es : List (Key × PV)) (ob : OB) : Prop := ob = .map false es ∨ ob = .fmap false es
/-- What the key of a term is under a map. -/
def PM (p : Pi) : Prop := ∀ (σ : Int → List UInt8) (d : Int) (o : Stack) (j t : Nat) (es : List (Key × PV)) (ob : OB), Sh σ → 0 ≤ d → d + cnt p ≤ 99 → Tol σ es → (es.map (·.1)).Nodup → okE es → j < o.length → (o[j]?).bind (getO · t) = some ob → isM es ob →
  ∃ ob', isM es ob' ∧ callI G 46 [enc p, .mp (j, t), .i d] o = some (.s (S (key σ d p)), updS o j t ob')
def PN (p : Pi) : Prop := ∀ (d : Int), 0 ≤ d → d + cnt p ≤ 99 → callI G 46 [enc p, .sc (.map none), .i d] [] = some (.s (S (key σ0 d p)), [])
theorem k2_nil (p : Pi) (ps : List Pi) (l : Objs) (x y : Int) (op d : Int) (i : Nat) (hp : nth (encs ps) i = some (enc p)) (hi : i < ps.length) (h3 : getO l 3 = some (.box [.i op, .i x, .i y, .sl false 4 (encs ps)])) (h8 : getO l 8 = some (.box [.sc (.map none)])) (h5 : getO l 5 = some (.box [.i d]))
    (hd : 0 ≤ d) (hc : d + cnt p ≤ 99) (ih : PN p) : callI G 60 [.i i, .ref (0, 3) 1 0 0, .ref (0, 8) 1 0 0, .ref (0, 5) 1 0 0] [l] = some (.s (S (key σ0 d p)), [l]) := by
  have h := ih d hd hc
  have hl := encs_len ps
  obtain ⟨o', a', b', qs⟩ := p
  simp only [enc] at h hp
  rw [callI_eq]
  simp [body1_eq _ _ (gp 60) g60, c60, a60, h3, h8, h5, hl, hi, hp, h]
theorem k2_mp (p : Pi) (ps : List Pi) (σ : Int → List UInt8) (o : Stack) (l : Objs) (x y : Int) (op d : Int) (i : Nat) (j t : Nat) (es : List (Key × PV)) (ob : OB) (hp : nth (encs ps) i = some (enc p)) (hi : i < ps.length) (h3 : getO l 3 = some (.box [.i op, .i x, .i y, .sl false 4 (encs ps)])) (h8 : getO l 8 = some (.box [.mp (j, t)])) (h5 : getO l 5 = some (.box [.i d]))
    (hs : Sh σ) (hd : 0 ≤ d) (hc : d + cnt p ≤ 99) (hT : Tol σ es) (hn : (es.map (·.1)).Nodup) (hE : okE es) (hj : j < (o ++ [l]).length) (hob : ((o ++ [l])[j]?).bind (getO · t) = some ob) (hM : isM es ob) (ih : PM p) :
    ∃ ob', isM es ob' ∧ callI G 60 [.i i, .ref (o.length, 3) 1 0 0, .ref (o.length, 8) 1 0 0, .ref (o.length, 5) 1 0 0] (o ++ [l]) = some (.s (S (key σ d p)), updS (o ++ [l]) j t ob') := by
  obtain ⟨ob', hM', h⟩ := ih σ d (o ++ [l] ++ [[]]) j t es ob hs hd hc hT hn hE (by simp at hj ⊢; omega) (by rw [List.getElem?_append_left hj]; exact hob) hM
  refine ⟨ob', hM', ?_⟩
  rw [updS_app _ _ _ _ _ hj] at h
  have hl := encs_len ps
  have hj2 : ¬ j = o.length + 1 := by simp at hj; omega
  obtain ⟨o', a', b', qs⟩ := p
  simp only [enc] at h hp
  simp only [List.append_assoc, List.cons_append, List.nil_append] at h
  rw [callI_eq]
  simp [body1_eq _ _ (gp 60) g60, c60, a60, h3, h8, h5, hl, hi, hp, hj2, h]
end Go.Am
end
section
set_option maxRecDepth 10000
set_option maxHeartbeats 1000000
set_option linter.unusedSimpArgs false
set_option linter.unusedVariables false
namespace Go.Am
open Go.Proofs
theorem ins_new (k : Key) (x : PV) : ∀ es : List (Key × PV), k ∉ es.map (·.1) → ins k x es = es ++ [(k, x)]
  | [], _ => rfl
  | (k', y) :: es, h => by
    simp only [List.map_cons, List.mem_cons, not_or] at h
    have h1 : ¬ k' = k := fun e => h.1 e.symm
    simp only [ins, h1, if_false, ins_new k x es h.2, List.cons_append]
def rgA (n : Nat) (K : ByteArray) (N : Int) (tl : Regs) : Regs := (3, .ref (n, 3) 1 0 0) :: (5, .ref (n, 5) 1 0 0) :: (7, .clo 58 [.ref (n, 4) 1 0 0]) :: (8, .ref (n, 8) 1 0 0) :: (9, .s K) :: (10, .i N) :: tl
def obA (n : Nat) (B3 B4 B5 : List PV) (es : List (Key × PV)) : Objs := [(3, .box B3), (4, .box B4), (5, .box B5), (8, .box [.mp (n, 23)]), (23, .map false es)]
theorem rounds (o : Stack) (z : Nat) (op a b d : Int) (ps : List PV) (w : PV) (K : ByteArray) (N : Int) (hw : ∀ g, known g o.length w = true) (es' : List (Key × PV)) : ∀ done : List (Key × PV), ((done ++ es').map (·.1)).Nodup → okE es' →
    mrounds c46l0 (ptrV z) 25 26 27 28 [⟨some 29, .ext 0, [.t 28], none⟩, ⟨some 30, .ext 1, [.t 28], none⟩, ⟨some 11, .move, [.t 29], none⟩, ⟨some 12, .move, [.t 30], none⟩] [3, 5, 7, 8, 9, 10, 11, 12, 25] [3, 4, 5, 8, 23] [3, 5, 7, 8, 9, 10, 25] [3, 4, 5, 8, 23] [3, 5, 7, 8, 9, 10] [3, 4, 5, 8, 23] es'
      ⟨rgA o.length K N [(25, ptrV z)], obA o.length [.i op, .i a, .i b, .sl false 4 ps] [w] [.i d] done, o⟩ = some ⟨rgA o.length K N [], obA o.length [.i op, .i a, .i b, .sl false 4 ps] [w] [.i d] (done ++ es'), o⟩ := by
  induction es' with
  | nil =>
    intro done hn ho
    unfold mrounds
    simp [rgA, obA, hw, ptrV]
  | cons q es' ih =>
    intro done hn ho
    obtain ⟨k, bb, rfl⟩ := ho _ List.mem_cons_self
    have h := ih (done ++ [(.i k, .s bb)]) (by simpa using hn) (fun q hq => ho q (List.mem_cons_of_mem _ hq))
    have hk : Key.i k ∉ done.map (·.1) := by
      intro hm
      rw [List.map_append, List.nodup_append] at hn
      exact hn.2.2 _ hm (.i k) (by simp) rfl
    have hi := ins_new (.i k) (.s bb) done hk
    unfold mrounds
    simp only [rgA, obA, ptrV] at h ⊢
    simp [r46l0, b46l0, runB, Key.val, hi, hw, ptrV]
    simpa using h
def rg4 (n : Nat) (w : PV) (K : ByteArray) (N : Int) : Regs := (24, w) :: (3, .ref (n, 3) 1 0 0) :: (4, .ref (n, 4) 1 0 0) :: (5, .ref (n, 5) 1 0 0) :: (7, .clo 58 [.ref (n, 4) 1 0 0]) :: (8, .ref (n, 8) 1 0 0) :: (9, .s K) :: (10, .i N) :: []
theorem SameO.rfl' (a : Option OB) : SameO a a := by
  unfold SameO
  split
  · rename_i h1 h2
    first
      | exact ⟨rfl, .refl _⟩
      | (cases h2; exact ⟨rfl, .refl _⟩)
  · rfl
theorem mfold_some {F : PV → List (Key × PV) → Option St} {es : List (Key × PV)} {R : St} (h : F (ptrV 0) es = some R) (h2 : ∀ (r : Nat) (es' : List (Key × PV)), es.Perm es' → ∃ s', F (ptrV r) es' = some s' ∧ SameS s' R) : mfold F es = some (.normal, R) := by
  unfold mfold
  rw [h]
  exact if_pos h2
theorem mstart_ok (s1 : St) (o : Stack) (op a b d : Int) (ps : List PV) (w : PV) (K : ByteArray) (N : Int) (hw : ∀ g, known g o.length w = true) (es : List (Key × PV)) (hn : (es.map (·.1)).Nodup) (ho : okE es) (hev : s1.ev (.t 24) = w)
    (hents : entsOf s1 w = some (es, ⟨rg4 o.length w K N, obA o.length [.i op, .i a, .i b, .sl false 4 ps] [w] [.i d] [], o⟩)) :
    mstart c46l0 (.t 24) 25 26 27 28 [⟨some 29, .ext 0, [.t 28], none⟩, ⟨some 30, .ext 1, [.t 28], none⟩, ⟨some 11, .move, [.t 29], none⟩, ⟨some 12, .move, [.t 30], none⟩] [3, 5, 7, 8, 9, 10, 11, 12, 25] [3, 4, 5, 8, 23] [3, 5, 7, 8, 9, 10, 25] [3, 4, 5, 8, 23] [3, 5, 7, 8, 9, 10] [3, 4, 5, 8, 23] (some s1) =
      some (.normal, ⟨rgA o.length K N [], obA o.length [.i op, .i a, .i b, .sl false 4 ps] [w] [.i d] es, o⟩) := by
  have hk : ∀ z, fin (((⟨rg4 o.length w K N, obA o.length [.i op, .i a, .i b, .sl false 4 ps] [w] [.i d] [], o⟩ : St).put (some 25) (ptrV z)).keep [3, 5, 7, 8, 9, 10, 25] [3, 4, 5, 8, 23]) = some (.normal, ⟨rgA o.length K N [(25, ptrV z)], obA o.length [.i op, .i a, .i b, .sl false 4 ps] [w] [.i d] [], o⟩) := by
    intro z
    simp [rg4, rgA, obA, hw, ptrV]
  have hr := fun z es' h1 h2 => rounds o z op a b d ps w K N hw es' [] h1 h2
  simp only [List.nil_append] at hr
  have hF : ∀ z es', (es'.map (·.1)).Nodup → okE es' → (match fin (((⟨rg4 o.length w K N, obA o.length [.i op, .i a, .i b, .sl false 4 ps] [w] [.i d] [], o⟩ : St).put (some 25) (ptrV z)).keep [3, 5, 7, 8, 9, 10, 25] [3, 4, 5, 8, 23]) with
        | some (_, s3) => mrounds c46l0 (ptrV z) 25 26 27 28 [⟨some 29, .ext 0, [.t 28], none⟩, ⟨some 30, .ext 1, [.t 28], none⟩, ⟨some 11, .move, [.t 29], none⟩, ⟨some 12, .move, [.t 30], none⟩] [3, 5, 7, 8, 9, 10, 11, 12, 25] [3, 4, 5, 8, 23] [3, 5, 7, 8, 9, 10, 25] [3, 4, 5, 8, 23] [3, 5, 7, 8, 9, 10] [3, 4, 5, 8, 23] es' s3
        | none => none) = some ⟨rgA o.length K N [], obA o.length [.i op, .i a, .i b, .sl false 4 ps] [w] [.i d] es', o⟩ := by
    intro z es' h1 h2
    rw [hk z]
    exact hr z es' h1 h2
  simp only [mstart, hev, hents]
  refine mfold_some (hF 0 es hn ho) fun z es' hp => ?_
  refine ⟨_, hF z es' ((hp.map _).nodup_iff.1 hn) (fun q hq => ho q (hp.mem_iff.2 hq)), rfl, rfl, fun id => ?_⟩
  simp only [St.get, obA, getO]
  split
  · repeat' split
    all_goals first
      | exact ⟨rfl, hp.symm⟩
      | exact SameO.rfl' _
  · exact SameO.rfl' _
end Go.Am
end
