/- What the functions that the law reaches compute. -/
import Derived.Test.YtifjnagbhfnmgaaDoorEqC
import Derived.Test.YtifjnagbhfnmgaaDoorEqD
import Derived.Test.YtifjnagbhfnmgaaDoorEqA
import Derived.Test.YtifjnagbhfnmgaaDoorAnD
section
set_option maxRecDepth 10000
set_option linter.unusedSimpArgs false
set_option linter.unusedVariables false
namespace Go.Am
open Go.Proofs
/-! What a key of a term with a name put for another one is. -/
mutual
theorem key_congr (σ τ : Int → List UInt8) (d : Int) : ∀ p : Pi, shape p = true → (∀ k, 0 ≤ k → fr p k = true → σ k = τ k) → key σ d p = key τ d p
  | .mk o x y ps, hs, h => by
    obtain ⟨hx, hy, hss, ho⟩ := shape_parts hs
    have hps : ∀ k, 0 ≤ k → ¬ bnd o x y = k → frs ps k = true → σ k = τ k := fun k h0 h1 h2 => h k h0 (by simp [fr, h1, h2])
    have hup : ∀ n, bnd o x y = n → ∀ k, 0 ≤ k → frs ps k = true → up σ n d k = up τ n d k := by
      intro n hn k h0 hk
      unfold up
      by_cases e : k = n
      · simp [e]
      · rw [if_neg e, if_neg e]; exact hps k h0 (by rw [hn]; exact fun e2 => e e2.symm) hk
    have hno : bnd o x y = -1 → keys σ d ps = keys τ d ps := fun e => keys_congr σ τ d ps hss (fun k h0 hk => hps k h0 (by omega) hk)
    have hux : o = 1 ∨ o = 7 ∨ o = 2 → σ x = τ x := fun e => h x hx.1 (by rcases e with rfl | rfl | rfl <;> simp [fr, usB, usesL])
    have huy : o = 1 ∨ o = 7 → σ y = τ y := fun e => h y hy.1 (by rcases e with rfl | rfl <;> simp [fr, usB, usesL])
    rcases ho with rfl | rfl | rfl | rfl | rfl | rfl | rfl | rfl
    · simp [key]
    · simp [key, hno (by simp [bnd]), hux, huy]
    · have e := keys_congr (up σ y d) (up τ y d) (d + 1) ps hss (fun k h0 hk => hup y (by simp [bnd]) k h0 hk)
      simp [key, e, hux]
    · simp [key, hno (by simp [bnd])]
    · simp [key, hno (by simp [bnd])]
    · simp [key, hno (by simp [bnd])]
    · have e := keys_congr (up σ x d) (up τ x d) (d + 1) ps hss (fun k h0 hk => hup x (by simp [bnd]) k h0 hk)
      simp [key, e]
    · simp [key, hno (by simp [bnd]), hux, huy]
theorem keys_congr (σ τ : Int → List UInt8) (d : Int) : ∀ ps : List Pi, shapes ps = true → (∀ k, 0 ≤ k → frs ps k = true → σ k = τ k) → keys σ d ps = keys τ d ps
  | [], _, _ => rfl
  | p :: ps, hs, h => by
    simp only [shapes, Bool.and_eq_true] at hs
    simp only [keys]
    rw [key_congr σ τ d p hs.1 (fun k h0 hk => h k h0 (by simp [frs, hk])), keys_congr σ τ d ps hs.2 (fun k h0 hk => h k h0 (by simp [frs, hk]))]
end
/-- Names' texts, one put for another. -/
def sub (σ : Int → List UInt8) (f t : Int) : Int → List UInt8 := fun k => if k = f then σ t else σ k
theorem up_at (σ : Int → List UInt8) (n d k : Int) : up σ n d k = if k = n then 35 :: dg d else σ k := rfl
theorem put_key : ∀ (n : Nat) (p : Pi) (f t : Int) (σ : Int → List UInt8) (d : Int), cnt p ≤ n → cnt p ≤ 14 → shape p = true → nm f = true → nm t = true → key σ d (putF n p f t) = key (sub σ f t) d p
  | 0, p, _, _, _, _, h, _, _, _, _ => by have := cnt_pos p; omega
  | n + 1, .mk o x y ps, f, t, σ, d, hc, hc2, hs, hf, ht => by
    obtain ⟨hx, hy, hss, ho⟩ := shape_parts hs
    obtain ⟨n0, n1, n2⟩ := shape_len hs
    simp only [cnt] at hc hc2
    have hm : ∀ (ps : List Pi), cnts ps ≤ n → cnts ps ≤ 14 → shapes ps = true → keys σ d (ps.map (fun p => putF n p f t)) = keys (sub σ f t) d ps := by
      intro ps
      induction ps with
      | nil => intro _ _ _; rfl
      | cons q qs ih =>
        intro h1 h2 h3
        have := cnt_pos q
        have := cnts_pos qs
        simp only [cnts] at h1 h2
        simp only [shapes, Bool.and_eq_true] at h3
        simp only [List.map_cons, keys]
        rw [put_key n q f t σ d (by omega) (by omega) h3.1 hf ht, ih (by omega) (by omega) h3.2]
    have hpx : o = 1 ∨ o = 7 ∨ o = 2 → σ (px o x f t) = sub σ f t x := by
      intro h
      unfold px sub
      by_cases e : x = f <;> simp [h, e]
    have hpy : o = 1 ∨ o = 7 → σ (py o y f t) = sub σ f t y := by
      intro h
      unfold py sub
      by_cases e : y = f <;> simp [h, e]
    by_cases hb : bnd o x y < 0
    · have hk := hm ps (by omega) (by omega) hss
      simp only [putF, if_pos hb]
      rcases ho with rfl | rfl | rfl | rfl | rfl | rfl | rfl | rfl
      · simp [key]
      · simp [key, hk, hpx, hpy]
      · simp [bnd] at hb; omega
      · simp [key, hk]
      · simp [key, hk]
      · simp [key, hk]
      · simp [bnd] at hb; omega
      · simp [key, hk, hpx, hpy]
    · have ho2 := bnd_cases hb
      obtain ⟨p, rfl⟩ := len1 (n1 (by omega))
      simp only [shapes, Bool.and_true] at hss
      simp only [cnts] at hc hc2
      have hz := fsh_nm p f t (by omega)
      have sh := put_shape n p t (fsh p f t 30 0) hss (by omega) hz.1
      have i1 := fun σ' => put_key n p f t σ' (d + 1) (by omega) (by omega) hss hf ht
      have i2 := fun σ' => put_key n p t (fsh p f t 30 0) σ' (d + 1) (by omega) (by omega) hss ht hz.1
      have i3 := fun σ' => put_key n (putF n p t (fsh p f t 30 0)) f t σ' (d + 1) (by omega) (by omega) sh.1 hf ht
      simp only [putF, if_neg hb]
      generalize fsh p f t 30 0 = z at *
      obtain ⟨hzn, hzf, hzt, hzr⟩ := hz
      -- the part under its binder
      have A : ∀ b, bnd o x y = b → (b = f ∨ fr p f = false) → key (up σ b d) (d + 1) p = key (up (sub σ f t) b d) (d + 1) p := by
        intro b hb' h
        refine key_congr _ _ _ p hss fun k h0 hk => ?_
        simp only [up_at, sub]
        by_cases e : k = b
        · simp [e]
        · rw [if_neg e, if_neg e]
          by_cases e2 : k = f
          · subst e2
            rcases h with h | h
            · exact absurd h.symm e
            · rw [h] at hk; cases hk
          · rw [if_neg e2]
      have B : ∀ b, ¬ b = f → b = t → key (up σ z d) (d + 1) (putF n (putF n p t z) f t) = key (up (sub σ f t) b d) (d + 1) p := by
        intro b h1 h2
        rw [i3, i2]
        refine key_congr _ _ _ p hss fun k h0 hk => ?_
        simp only [up_at, sub]
        have hkz : ¬ k = z := by intro e; rw [e, hzr] at hk; cases hk
        have htz : ¬ t = z := fun e => hzt e.symm
        subst h2
        by_cases e : k = b
        · simp [e, hzf]
        · by_cases e2 : k = f
          · subst e2; simp [e, htz]
          · simp [e, e2, hkz]
      have C : ∀ b, ¬ b = f → ¬ b = t → key (up σ b d) (d + 1) (putF n p f t) = key (up (sub σ f t) b d) (d + 1) p := by
        intro b h1 h2
        rw [i1]
        refine key_congr _ _ _ p hss fun k h0 hk => ?_
        simp only [up_at, sub]
        have h2' : ¬ t = b := fun e => h2 e.symm
        by_cases e : k = b
        · simp [e, h1]
        · by_cases e2 : k = f
          · subst e2; simp [e, h2']
          · simp [e, e2]
      by_cases c1 : bnd o x y = f ∨ fr p f = false
      · rw [if_pos c1]
        rcases ho2 with rfl | rfl
        · have hA := A y (by simp [bnd]) (by simpa [bnd] using c1)
          simp [key, keys, hA, hpx, py]
        · have hA := A x (by simp [bnd]) (by simpa [bnd] using c1)
          simp [key, keys, hA, px, py]
      · rw [if_neg c1]
        simp only [not_or] at c1
        by_cases c2 : bnd o x y = t
        · rw [if_pos c2]
          rcases ho2 with rfl | rfl
          · have hB := B y (by simpa [bnd] using c1.1) (by simpa [bnd] using c2)
            simp [key, keys, hB, hpx]
          · have hB := B x (by simpa [bnd] using c1.1) (by simpa [bnd] using c2)
            simp [key, keys, hB]
        · rw [if_neg c2]
          rcases ho2 with rfl | rfl
          · have hC := C y (by simpa [bnd] using c1.1) (by simpa [bnd] using c2)
            simp [key, keys, hC, hpx, py]
          · have hC := C x (by simpa [bnd] using c1.1) (by simpa [bnd] using c2)
            simp [key, keys, hC, px, py]
end Go.Am
end
section
set_option maxRecDepth 10000
set_option linter.unusedSimpArgs false
set_option linter.unusedVariables false
namespace Go.Am
open Go.Proofs
/-- What is bound may be called otherwise. -/
theorem key_get (t : Pi) (n m : Int) (hs : shape t = true) (hc : cnt t ≤ 14) (hn : nm n = true) (hm : nm m = true) (hf : fr t m = false) (σ : Int → List UInt8) (d : Int) : key σ d (.mk 2 1 n [t]) = key σ d (.mk 2 1 m [putF 14 t n m]) := by
  have h := put_key 14 t n m (up σ m d) (d + 1) hc hc hs hn hm
  have e : key (sub (up σ m d) n m) (d + 1) t = key (up σ n d) (d + 1) t := by
    refine key_congr _ _ _ t hs fun k h0 hk => ?_
    have hkm : ¬ k = m := by intro e; rw [e, hf] at hk; cases hk
    simp only [up_at, sub]
    by_cases e : k = n
    · simp [e]
    · simp [e, hkm]
  simp [key, keys, h, e]
end Go.Am
end
section
set_option maxRecDepth 10000
set_option maxHeartbeats 4000000
set_option linter.unusedSimpArgs false
set_option linter.unusedVariables false
namespace Go.Am
open Go.Proofs
/-! What is free in a term with a name put for another one. -/
end Go.Am
end
section
set_option maxRecDepth 10000
set_option linter.unusedSimpArgs false
set_option linter.unusedVariables false
namespace Go.Am
open Go.Proofs
/-! rows of numbers, as the laws look at them: nil or a row -/
def fvF (L : List Int) : PV := if L = [] then .nils else .sl false 1 (ints L)
def hasI : List Int → Int → Bool
  | [], _ => false
  | x :: l, n => decide (x = n) || hasI l n
theorem hasI_mem : ∀ (l : List Int) (n : Int), hasI l n = decide (n ∈ l)
  | [], n => by simp [hasI]
  | x :: l, n => by
    simp only [hasI, hasI_mem l n, List.mem_cons]
    by_cases h : x = n
    · simp [h]
    · have : ¬ n = x := fun e => h e.symm
      simp [h, this]
theorem loopMnHas (y : Int) : ∀ (rest done : List Int), (done ++ rest).length ≤ 4611686018427387904 →
    loopI H [0, 1, 5] [] c21l0 ⟨[(0, .sl false 1 (ints (done ++ rest))), (1, .i y), (5, .i done.length)], [], []⟩ =
      if hasI rest y = true then some (.ret, ⟨[(4, .b true)], [], []⟩) else some (.exit 0, ⟨[(0, .sl false 1 (ints (done ++ rest))), (1, .i y), (5, .i (done ++ rest).length), (9, .b false)], [], []⟩)
  | [], done, h => by
    rw [loopI_eq]
    simp [r21l0, b21l0, ints_len, hasI]
  | x :: rest, done, h => by
    have hat := ints_at done x rest
    have hlt : (done.length : Int) < (done.length : Int) + ((rest.length : Int) + 1) := by omega
    have hw : IntKind.i64.wrap ((done.length : Int) + 1) = (done.length : Int) + 1 := wr (by simp at h; omega)
    have hn := loopMnHas y rest (done ++ [x]) (by simpa using h)
    rw [loopI_eq]
    by_cases hx : x = y
    · subst hx
      simp [r21l0, b21l0, ints_len, hlt, hat, hw, hasI]
    · simp [r21l0, b21l0, ints_len, hlt, hat, hw, hx, hasI]
      simpa [Int.add_assoc] using hn
theorem eqMnHas (L : List Int) (y : Int) (hl : L.length ≤ 4611686018427387904) : callI H 21 [fvF L, .i y] [] = some (.b (hasI L y), []) := by
  rw [callI_eq]
  by_cases h : L = []
  · subst h
    have hlp : loopI H [0, 1, 5] [] c21l0 ⟨[(0, .nils), (1, .i y), (5, .i 0)], [], []⟩ = some (.exit 0, ⟨[(0, .nils), (1, .i y), (5, .i 0), (9, .b false)], [], []⟩) := by
      rw [loopI_eq]
      simp [r21l0, b21l0]
    simp [body1_eq _ _ (gpH 21) g21, c21, a21, fvF, hlp, hasI]
  · have hlp := loopMnHas y L [] (by simpa using hl)
    simp only [List.nil_append, List.length_nil, show ((0 : Nat) : Int) = 0 from rfl] at hlp
    by_cases hh : hasI L y = true
    · simp only [hh, if_true] at hlp
      simp [body1_eq _ _ (gpH 21) g21, c21, a21, fvF, h, hlp, hh]
    · simp only [hh, if_false] at hlp
      simp [body1_eq _ _ (gpH 21) g21, c21, a21, fvF, h, hlp, hh]
end Go.Am
end
section
set_option maxRecDepth 10000
set_option linter.unusedSimpArgs false
set_option linter.unusedVariables false
namespace Go.Am
open Go.Proofs
/-! what is free, as a list -/
theorem fl_mem (p : Pi) : ∀ (k : Nat) (n y : Int), y ∈ fl p k n ↔ n ≤ y ∧ y < n + k ∧ fr p y = true
  | 0, n, y => by simp [fl]; omega
  | k + 1, n, y => by
    have ih := fl_mem p k (n + 1) y
    simp only [fl]
    split
    · rename_i h
      rw [List.mem_cons, ih]
      constructor
      · rintro (rfl | ⟨a, b, c⟩)
        · exact ⟨by omega, by omega, h⟩
        · exact ⟨by omega, by omega, c⟩
      · rintro ⟨a, b, c⟩
        by_cases e : y = n
        · exact .inl e
        · exact .inr ⟨by omega, by omega, c⟩
    · rename_i h
      rw [ih]
      constructor
      · rintro ⟨a, b, c⟩
        exact ⟨by omega, by omega, c⟩
      · rintro ⟨a, b, c⟩
        refine ⟨?_, by omega, c⟩
        by_cases e : y = n
        · subst e; exact absurd c h
        · omega
theorem freeL_len (p : Pi) : (freeL p).length ≤ 30 := by
  unfold freeL
  split
  · exact fl_len p 30 0
  · simp
theorem has_fr {p : Pi} (h : ok p = true) {k : Int} (h0 : 0 ≤ k) (h1 : k < 30) : hasI (freeL p) k = fr p k := by
  have e : freeL p = fl p 30 0 := by simp [freeL, h]
  rw [hasI_mem, e]
  have := fl_mem p 30 0 k
  by_cases hk : fr p k = true
  · rw [hk]; exact decide_eq_true (this.2 ⟨h0, by omega, hk⟩)
  · rw [show fr p k = false by simpa using hk]
    exact decide_eq_false (fun hm => hk (this.1 hm).2.2)
end Go.Am
end
section
set_option maxRecDepth 10000
set_option linter.unusedSimpArgs false
set_option linter.unusedVariables false
namespace Go.Am
open Go.Proofs
end Go.Am
end
section
set_option maxRecDepth 10000
set_option linter.unusedSimpArgs false
set_option linter.unusedVariables false
namespace Go.Am
open Go.Proofs
end Go.Am
end
section
set_option maxRecDepth 100000
set_option linter.unusedSimpArgs false
set_option linter.unusedVariables false
namespace Go.Am
open Go.Proofs
/-! the machine of the laws: what is drawn stays as it is -/
theorem reads_same : Reads (fun x => x) := fun r => r
noncomputable def primsV : Nat → Option (List PV → Stack → Option (PV × Stack))
  | 19 => some (lowXP H 19 (fun x => x))
  | 23 => some (lowTP H 23 (fun x => x))
  | 20 => some (lowTP G 20 (weak 4))
  | 24 => some (lowTP G 24 (weak 4))
  | 22 => some (lowXP G 22 (weak 4))
  | 25 => some (viaP G 25 (weak 4))
  | 21 => some (viaP H 21 (fun x => x))
  | n => primsH n
noncomputable def V : Prog := ⟨codes, primsV⟩
theorem gpV (n : Nat) (h : primsV n = none := by rfl) : V.prim n = none := h
theorem progOKV : ProgOK Tryd.prog V := by
  refine ⟨progOK.1, fun f af _ h => progOK0.code f af rfl h, fun f p h => ?_⟩
  simp only [V] at h
  unfold primsV at h
  split at h
  all_goals first
    | exact progOKH.prim _ _ h
    | (simp only [Option.some.injEq] at h; subst h; intro args o r o' e; first | exact lowXP_good progOKH reads_same e | exact lowTP_good progOKH reads_same e | exact lowTP_good progOK (reads_weak 4) e | exact lowXP_good progOK (reads_weak 4) e | exact viaP_good progOK (reads_weak 4) e | exact viaP_good progOKH reads_same e)
    | (cases h; done)
end Go.Am
end
section
set_option maxRecDepth 10000
set_option maxHeartbeats 4000000
set_option linter.unusedSimpArgs false
set_option linter.unusedVariables false
namespace Go.Am
open Go.Proofs
/-! the functions of the laws at terms that stay as they are -/
mutual
theorem encV_X (u : Bool) : ∀ p : Pi, encX true u p = encV u p
  | .mk o x y ps => by simp only [encV, encX]; rw [encW_X u ps]
theorem encW_X (u : Bool) : ∀ ps : List Pi, encP true u (encXs true u ps) = encW u ps
  | [] => by simp [encW, encXs, encP]
  | p :: ps => by simp only [encW, encXs, encP]; rw [encV_X u p, encVs_X u ps]; simp
theorem encVs_X (u : Bool) : ∀ ps : List Pi, encXs true u ps = encVs u ps
  | [] => rfl
  | p :: ps => by simp only [encVs, encXs]; rw [encV_X u p, encVs_X u ps]
end
mutual
theorem tree_encV (u : Bool) : ∀ p : Pi, tree (encV u p) = true
  | .mk o x y ps => by simp only [encV, tree, trees, Bool.true_and, Bool.and_true]; exact tree_encW u ps
theorem tree_encW (u : Bool) : ∀ ps : List Pi, tree (encW u ps) = true
  | [] => rfl
  | p :: ps => by simp only [encW, tree, trees]; rw [tree_encV u p, trees_encVs u ps]; rfl
theorem trees_encVs (u : Bool) : ∀ ps : List Pi, trees (encVs u ps) = true
  | [] => rfl
  | p :: ps => by simp only [encVs, trees]; rw [tree_encV u p, trees_encVs u ps]; rfl
end
theorem trees_ints : ∀ L : List Int, trees (ints L) = true
  | [] => rfl
  | x :: L => by simp only [ints, trees, tree, Bool.true_and]; exact trees_ints L
theorem vKeyI (t : Pi) (hf : Fit t) : callI V 12 [encV false t] [] = some (.s (S (pkey t)), []) := by
  rw [callI_prim' (p := viaP G 12 (weak 4)) rfl]
  simp only [viaP, List.map_cons, List.map_nil, weak_encV]
  exact eqPiKeyI t hf
theorem vKeyS (t : Pi) (hf : Fit t) : callI V 10 [encV false t] [] = some (.s (S (pkey t)), []) := by
  rw [callI_prim' (p := viaP G 10 (weak 4)) rfl]
  simp only [viaP, List.map_cons, List.map_nil, weak_encV]
  exact eqPiKeyS t hf
theorem vOk (t : Pi) (hf : Fit t) : callI V 17 [encV false t] [] = some (.b (okB t), []) := by
  rw [callI_prim' (p := viaP G 17 (weak 4)) rfl]
  simp only [viaP, List.map_cons, List.map_nil, weak_encV]
  exact eq12 t hf
theorem vFree (t : Pi) (hf : Fit t) : callI V 22 [encV false t] [] = some (fvF (freeL t), []) := by
  rw [callI_prim' (p := lowXP G 22 (weak 4)) rfl]
  simp only [lowXP, viaP, List.map_cons, List.map_nil, weak_encV, eqFreeI t hf]
  cases freeL t with
  | nil => rfl
  | cons x L => simp only [fv, lowXR, tree, trees_ints, if_true, fal, fals_ints, fvF, List.cons_ne_nil, if_false]
theorem vHas (L : List Int) (y : Int) (hl : L.length ≤ 4611686018427387904) : callI V 21 [fvF L, .i y] [] = some (.b (hasI L y), []) := by
  rw [callI_prim' (p := viaP H 21 (fun x => x)) rfl]
  simp only [viaP, List.map_cons, List.map_nil]
  exact eqMnHas L y hl
theorem vPutI (p : Pi) (hf : Fit p) (f t : Int) : callI V 20 [encV false p, .i f, .i t] [] = some (.tup [encV false (putR p f t).1, .b (putR p f t).2], []) := by
  rw [callI_prim' (p := lowTP G 20 (weak 4)) rfl]
  simp only [lowTP, viaP, List.map_cons, List.map_nil, weak_encV, show ∀ n : Int, weak 4 (.i n) = .i n from fun _ => rfl, eqPutPiI p hf f t, encV_X, lowTR, trees, tree_encV, tree, Bool.and_self, if_true, fals, fal_encV, fal]
theorem putR_fit (p : Pi) (f t : Int) : Fit (putR p f t).1 := by
  unfold putR
  split
  · rename_i h
    exact shape_fit _ (put_shape 14 p f t (ok_shape' h.1) (ok_cnt h.1) h.2.2).1
  · exact ⟨by simp, trivial⟩
/-! values that are nil or a slice, without looking which -/
theorem fvF_two (L : List Int) : fvF L = .nils ∨ fvF L = .sl false 1 (ints L) := by
  unfold fvF
  split
  · exact .inl rfl
  · exact .inr rfl
section
variable (L : List Int)
@[simp ↓ high] theorem cellP_F : cellP (fvF L) = true := by rcases fvF_two L with h | h <;> rw [h] <;> rfl
@[simp ↓ high] theorem cells_F : (fvF L).cells = [fvF L] := by rcases fvF_two L with h | h <;> rw [h] <;> rfl
@[simp ↓ high] theorem sure_F : sure (fvF L) = true := by rcases fvF_two L with h | h <;> rw [h] <;> rfl
@[simp ↓ high] theorem plain_F : plain (fvF L) = true := by rcases fvF_two L with h | h <;> rw [h] <;> rfl
@[simp ↓ high] theorem atLvl_F (n) : atLvl n (fvF L) = false := by rcases fvF_two L with h | h <;> rw [h] <;> rfl
@[simp ↓ high] theorem noRef_F : noRef (fvF L) = true := by rcases fvF_two L with h | h <;> rw [h] <;> rfl
@[simp ↓ high] theorem upTo_F (n) : upTo n (fvF L) = true := by rcases fvF_two L with h | h <;> rw [h] <;> rfl
@[simp ↓ high] theorem known_F (g n) : known g n (fvF L) = true := by rcases fvF_two L with h | h <;> rw [h] <;> rfl
@[simp ↓ high] theorem snap_F (g) : snap g (fvF L) = some (fvF L) := by rcases fvF_two L with h | h <;> rw [h] <;> rfl
@[simp ↓ high] theorem snapE_F (g) : snapE g (fvF L) = some (fvF L) := by rcases fvF_two L with h | h <;> rw [h] <;> rfl
@[simp ↓ high] theorem rowId_F (g) : rowId g (fvF L) = [] := by rcases fvF_two L with h | h <;> rw [h] <;> rfl
@[simp ↓ high] theorem rowIdE_F (g) : rowIdE g (fvF L) = [] := by rcases fvF_two L with h | h <;> rw [h] <;> rfl
@[simp ↓ high] theorem expo1_F (n g) : expo1 n g (fvF L) = some (fvF L, []) := by rcases fvF_two L with h | h <;> rw [h] <;> rfl
@[simp ↓ high] theorem impo1_F (n d q) : impo1 n d (fvF L) q = (fvF L, q, []) := by rcases fvF_two L with h | h <;> rw [h] <;> rfl
@[simp ↓ high] theorem impoE_F (n d q) : impoE n d (fvF L) q = (fvF L, q, []) := by rcases fvF_two L with h | h <;> rw [h] <;> rfl
@[simp ↓ high] theorem impo_F (n d q) : impo n d (fvF L) q = (fvF L, q, []) := by rcases fvF_two L with h | h <;> rw [h] <;> rfl
end
@[simp ↓ high] theorem fal_P (nl u : Bool) (xs : List PV) : fal (encP nl u xs) = encP nl false (fals xs) := by
  unfold encP
  cases nl <;> cases xs <;> simp [fal, fals]
theorem fals_encXsF (ps : List Pi) : fals (encXs true false ps) = encXs true false ps := by
  rw [encVs_X, fals_encVsF]
/-- A term's cells. -/
theorem encV_open (o x y : Int) (ps : List Pi) : encV false (.mk o x y ps) = .agg [.i o, .i x, .i y, encP true false (encXs true false ps)] := by rw [← encV_X]; rfl
end Go.Am
end
section
set_option maxRecDepth 10000
set_option maxHeartbeats 16000000
set_option linter.unusedSimpArgs false
set_option linter.unusedVariables false
namespace Go.Am
open Go.Proofs
theorem eqDrawPiKey (B : List Nat) (hB : B.length ≤ 9223372036854775807) (hb : ∀ b ∈ B, b < 256) : ∃ t, Nums t ∧ callI H 19 [.sl false 1 (byVs B)] [] = some (encV true t, []) := by
  obtain ⟨B', h1, h2, h3⟩ := eqOpen B hB
  have hr : RdrOK B' 0 := ⟨h1, fun b hb' => hb b (h2 b hb'), by omega, by omega⟩
  obtain ⟨t, q, e1, e2, nt, e3⟩ := eqDrawPi [[(2, .box [.i 0, .i 0, .i 0, .nils]), (6, rd B' 0)]] (0, 6) (by simp) B' 0 hr (by omega)
  have es : ∀ q, setS [[(2, .box [.i 0, .i 0, .i 0, .nils]), (6, rd B' 0)]] (0, 6) (rd B' q) = [[(2, .box [.i 0, .i 0, .i 0, .nils]), (6, rd B' q)]] := fun _ => rfl
  rw [es, es] at e3
  refine ⟨t, nt, ?_⟩
  rw [callI_eq]
  obtain ⟨to, tx, ty, tp, rfl, ⟨rfl, ht⟩ | ⟨ht, hE⟩⟩ := encV_two t <;>
    (rw [ht] at e3
     simp only [rd] at e3
     simp [body1_eq _ _ (gpH 19) g19, c19, a19, h3, e3, encVs_len, encV]
     try simp only [encW, hE]
     try simp only [encW])
theorem vDrawKey (B : List Nat) (hB : B.length ≤ 9223372036854775807) (hb : ∀ b ∈ B, b < 256) : ∃ t, Nums t ∧ callI V 19 [.sl false 1 (byVs B)] [] = some (encV false t, []) := by
  obtain ⟨t, nt, h⟩ := eqDrawPiKey B hB hb
  refine ⟨t, nt, ?_⟩
  rw [callI_prim' (p := lowXP H 19 (fun x => x)) rfl]
  simp only [lowXP, viaP, List.map_cons, List.map_nil, h, lowXR, tree_encV, if_true, fal_encV]
theorem putR_fst {p : Pi} {f t : Int} (h : (putR p f t).2 = true) : ok p = true ∧ nm f = true ∧ nm t = true ∧ (putR p f t).1 = putF 14 p f t := by
  unfold putR at h ⊢
  split at h
  · rename_i hc
    rw [if_pos hc]
    exact ⟨hc.1, hc.2.1, hc.2.2, rfl⟩
  · cases h
theorem key_same (t : Pi) (n m : Int) (h1 : (putR t n m).2 = true) (h2 : hasI (freeL t) m = false) (h3 : okB (.mk 2 1 n [t]) = true) (h4 : okB (.mk 2 1 m [(putR t n m).1]) = true) :
    pkey (.mk 2 1 n [t]) = pkey (.mk 2 1 m [(putR t n m).1]) := by
  obtain ⟨hk, hn, hm, e⟩ := putR_fst h1
  rw [e] at h4 ⊢
  unfold okB at h3 h4
  unfold pkey
  rw [if_pos h3, if_pos h4]
  have hm' := (nm_iff m).1 hm
  rw [has_fr hk hm'.1 hm'.2] at h2
  exact key_get t n m (ok_shape' hk) (ok_cnt hk) hn hm h2 σ0 0
theorem loopPK (o x y : Int) (ps : List Pi) (hf : Fit (.mk o x y ps)) : ∀ (k : Nat) (n : Int), 0 ≤ n → n + k = 4 →
    loopI V [3, 6] [3, 16] c6l0 ⟨[(3, .ref (0, 3) 1 0 0), (6, .i n)], [(3, .box [.i o, .i x, .i y, encP true false (encXs true false ps)])], []⟩ =
      some (.exit 0, ⟨[(3, .ref (0, 3) 1 0 0), (6, .i 4), (25, .b false)], [(3, .box [.i o, .i x, .i y, encP true false (encXs true false ps)])], []⟩)
  | 0, n, h0, h1 => by
    obtain rfl : n = 4 := by omega
    rw [loopI_eq]
    simp [r6l0, b6l0]
  | k + 1, n, h0, h1 => by
    have hn := loopPK o x y ps hf k (n + 1) (by omega) (by omega)
    refine Eq.trans ?_ hn
    have hlt : n < 4 := by omega
    have hw : IntKind.i64.wrap (n + 1) = n + 1 := wr (by omega)
    have hw7 : IntKind.i64.wrap (7 + n) = 7 + n := wr (by omega)
    have he := encV_open o x y ps
    have hfl := fals_encXsF ps
    generalize Pi.mk o x y ps = t at *
    have hfP := putR_fit t n (7 + n)
    have fa : Fit (.mk 2 1 n [t]) := ⟨by simp, hf, trivial⟩
    have fb : Fit (.mk 2 1 (7 + n) [(putR t n (7 + n)).1]) := ⟨by simp, hfP, trivial⟩
    have p1 := vPutI t hf n (7 + n)
    have p2 := vFree t hf
    have p3 := vHas (freeL t) (7 + n) (by have := freeL_len t; omega)
    have p4 := vOk _ fa
    have p5 := vOk _ fb
    have p6 := vKeyI _ fa
    have p7 := vKeyI _ fb
    have hs := key_same t n (7 + n)
    simp only [encV, encW, encVs] at p4 p5 p6 p7
    generalize putR t n (7 + n) = R at *
    obtain ⟨⟨o', x', y', ps'⟩, okR⟩ := R
    dsimp only at *
    have hfl' := fals_encXsF ps'
    rw [encV_open] at p1 p5 p7
    generalize hasI (freeL t) (7 + n) = q1 at *
    generalize freeL t = L at *
    generalize okB (.mk 2 1 n [t]) = q2 at *
    generalize okB (.mk 2 1 (7 + n) [.mk o' x' y' ps']) = q3 at *
    generalize pkey (.mk 2 1 n [t]) = K1 at *
    generalize pkey (.mk 2 1 (7 + n) [.mk o' x' y' ps']) = K2 at *
    clear hn fa fb hfP
    rw [he] at p1 p2 p4 p6
    generalize encXs true false ps = X at *
    generalize encXs true false ps' = X' at *
    rw [loopI_eq]
    cases okR with
    | false => simp [r6l0, b6l0, hlt, hw, hw7, p1, hfl, hfl']
    | true =>
      cases q1 with
      | true => simp [r6l0, b6l0, hlt, hw, hw7, p1, p2, p3, hfl, hfl']
      | false =>
        cases q2 with
        | false => simp [r6l0, b6l0, hlt, hw, hw7, p1, p2, p3, p4, hfl, hfl']
        | true =>
          cases q3 with
          | false => simp [r6l0, b6l0, hlt, hw, hw7, p1, p2, p3, p4, p5, hfl, hfl']
          | true =>
            have hs := hs rfl rfl rfl rfl
            subst hs
            simp [r6l0, b6l0, hlt, hw, hw7, p1, p2, p3, p4, p5, p6, p7, hfl, hfl']
theorem lawFnPiKey (B : List Nat) (hB : B.length ≤ 9223372036854775807) (hb : ∀ b ∈ B, b < 256) : callI V 6 [.sl false 1 (byVs B)] [] = some (.b true, []) := by
  have hBl := byVs_len B
  by_cases hbig : (1048576 : Int) < B.length
  · rw [callI_eq]
    simp [body1_eq _ _ (gpV 6) g6, c6, a6, hBl, hbig]
  obtain ⟨t, nt, hd⟩ := vDrawKey B hB hb
  have hf := nt.fit
  have k1 := vKeyI t hf
  have k2 := vKeyS t hf
  obtain ⟨o, x, y, ps⟩ := t
  have hl := loopPK o x y ps hf 4 0 (by omega) (by omega)
  generalize pkey (.mk o x y ps) = K at *
  rw [encV_open] at hd k1 k2
  rw [callI_eq]
  simp [body1_eq _ _ (gpV 6) g6, c6, a6, hBl, hbig, hd, k1, k2, S_list, hl]
end Go.Am
end
