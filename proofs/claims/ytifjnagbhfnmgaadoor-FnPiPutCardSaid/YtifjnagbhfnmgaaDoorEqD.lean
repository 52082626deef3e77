/- What the functions that the law reaches compute. -/
import Derived.Test.YtifjnagbhfnmgaaDoorEqC
import Derived.Test.YtifjnagbhfnmgaaDoorEqB
section
set_option maxRecDepth 10000
set_option linter.unusedSimpArgs false
set_option linter.unusedVariables false
namespace Go.Am
open Go.Proofs
mutual
def fr : Pi → Int → Bool
  | .mk o x y ps, n => usB (usesL o x y) n || (decide (¬ bnd o x y = n) && frs ps n)
def frs : List Pi → Int → Bool
  | [], _ => false
  | p :: ps, n => fr p n || frs ps n
end
/-! the same names are free -/
def at30 (bs : List Bool) (k : Int) : Bool := bs.getD k.toNat false
theorem orL_getD : ∀ (a b : List Bool) (k : Nat), a.length = b.length → (orL a b).getD k false = (a.getD k false || b.getD k false)
  | [], [], _, _ => by simp [orL]
  | a :: r, b :: bs, 0, _ => by simp [orL]
  | a :: r, b :: bs, k + 1, h => by simpa [orL] using orL_getD r bs k (by simpa using h)
  | [], _ :: _, _, h => by simp at h
  | _ :: _, [], _, h => by simp at h
theorem set_getD (l : List Bool) (i k : Nat) (v : Bool) (h : i < l.length) : (l.set i v).getD k false = if i = k then v else l.getD k false := by
  simp only [List.getD_eq_getElem?_getD, List.getElem?_set]
  split
  · simp [h]
  · rfl
theorem usets_getD : ∀ (us : List Int) (bs : List Bool) (k : Int), bs.length = 30 → 0 ≤ k → (∀ u ∈ us, 0 ≤ u ∧ u < 30) → at30 (usets us bs) k = (usB us k || at30 bs k)
  | [], bs, k, _, _, _ => by simp [usets, usB]
  | u :: us, bs, k, h, hk, hu => by
    have h1 := hu u List.mem_cons_self
    simp only [usets]
    rw [usets_getD us _ k (by simp [h]) hk (fun v hv => hu v (List.mem_cons_of_mem _ hv))]
    simp only [at30, usB, List.any_cons]
    rw [set_getD _ _ _ _ (by omega)]
    by_cases e : u = k
    · simp [e]
    · have : ¬ u.toNat = k.toNat := by omega
      simp [e, this]
theorem bset_getD (b : Int) (bs : List Bool) (k : Int) (h : bs.length = 30) (hk : 0 ≤ k) (hb : b < 30) : at30 (bset b bs) k = (decide (¬ b = k) && at30 bs k) := by
  unfold bset at30
  by_cases h0 : 0 ≤ b
  · rw [if_pos h0, set_getD _ _ _ _ (by omega)]
    by_cases e : b = k
    · simp [e]
    · have : ¬ b.toNat = k.toNat := by omega
      simp [e, this]
  · have : ¬ b = k := by omega
    simp [h0, this]
theorem rep_getD (n k : Nat) : (List.replicate n false).getD k false = false := by
  simp only [List.getD_eq_getElem?_getD, List.getElem?_replicate]
  split <;> rfl
mutual
theorem fre_fr : ∀ (p : Pi), shape p = true → ∀ k : Int, 0 ≤ k → at30 (fre p) k = fr p k
  | .mk o x y ps, hs, k, hk => by
    simp only [shape] at hs
    rcases hko : kindOK o x y with _ | ⟨ok, m⟩
    · simp [hko] at hs
    simp only [hko, Bool.and_eq_true, decide_eq_true_eq] at hs
    obtain ⟨h1, h2, h3⟩ := hs
    subst h1
    have hn := nmOK hko
    have hL := freL_fr ps h3 (List.replicate 30 false) k hk (by simp)
    have e0 : at30 (List.replicate 30 false) k = false := rep_getD 30 k.toNat
    simp only [fre, fr]
    rw [usets_getD _ _ k (by simp [bset_len, freL_len]) hk hn.1, bset_getD _ _ k (by simp [freL_len]) hk hn.2, hL, e0, Bool.false_or]
theorem freL_fr : ∀ (ps : List Pi), shapes ps = true → ∀ (acc : List Bool) (k : Int), 0 ≤ k → acc.length = 30 → at30 (freL ps acc) k = (at30 acc k || frs ps k)
  | [], _, acc, k, _, _ => by simp [freL, frs]
  | p :: ps, hs, acc, k, hk, ha => by
    simp only [shapes, Bool.and_eq_true] at hs
    have h1 := fre_fr p hs.1 k hk
    simp only [freL, frs]
    rw [freL_fr ps hs.2 _ k hk (by rw [orL_len, ha])]
    have : at30 (orL acc (fre p)) k = (at30 acc k || at30 (fre p) k) := orL_getD _ _ _ (by rw [ha, fre_len])
    rw [this, h1, Bool.or_assoc]
end
end Go.Am
end
section
set_option maxRecDepth 10000
set_option linter.unusedSimpArgs false
set_option linter.unusedVariables false
namespace Go.Am
open Go.Proofs
end Go.Am
end
section
set_option maxRecDepth 10000
set_option linter.unusedSimpArgs false
set_option linter.unusedVariables false
namespace Go.Am
open Go.Proofs
/-! slices.ContainsFunc with a closure that holds references to outer frames -/
/-! members -/
def ok (p : Pi) : Bool := decide (pn p 14 ≤ 14) && shape p
theorem eqOkS (p : Pi) (hf : Fit p) : callI G 18 [enc p] [] = some (.b (ok p), []) := by rw [eq10 p hf, plain_ok]; rfl
theorem eqOkI (p : Pi) (hf : Fit p) : callI G 17 [enc p] [] = some (.b (ok p), []) := eq12 p hf
end Go.Am
end
section
set_option maxRecDepth 10000
set_option linter.unusedSimpArgs false
set_option linter.unusedVariables false
namespace Go.Am
open Go.Proofs
/-! impl.PoolOk -/
/-! spec.PoolOk -/
/-! the plain law -/
end Go.Am
end
section
set_option maxRecDepth 10000
set_option linter.unusedSimpArgs false
set_option linter.unusedVariables false
namespace Go.Am
open Go.Proofs
/-! #### marked terms -/
/-- Owned or frozen, the empty lists nil or not. -/
def encP (nl u : Bool) (xs : List PV) : PV := if (nl && xs.isEmpty) = true then .nils else .sl u 4 xs
mutual
def encX (nl u : Bool) : Pi → PV
  | .mk o x y ps => .agg [.i o, .i x, .i y, encP nl u (encXs nl u ps)]
def encXs (nl u : Bool) : List Pi → List PV
  | [] => []
  | p :: ps => encX nl u p :: encXs nl u ps
end
theorem encXs_len (nl u : Bool) : ∀ ps : List Pi, (encXs nl u ps).length = ps.length
  | [] => rfl
  | _ :: ps => by simp [encXs, encXs_len nl u ps]
theorem encP_nil (u : Bool) : encP true u [] = .nils := rfl
theorem encP_sl (nl u : Bool) (xs : List PV) (h : nl = false ∨ xs ≠ []) : encP nl u xs = .sl u 4 xs := by
  unfold encP
  rcases h with h | h
  · simp [h]
  · cases xs with
    | nil => exact absurd rfl h
    | cons _ _ => simp
theorem encXs_nil (nl u : Bool) {ps : List Pi} (h : encXs nl u ps = []) : ps = [] := by
  cases ps with
  | nil => rfl
  | cons _ _ => simp [encXs] at h
mutual
theorem fal_encX (nl : Bool) : ∀ p : Pi, fal (encX nl true p) = encX nl false p
  | .mk o x y ps => by
    have h := fals_encXs nl ps
    simp only [encX, fal, fals, encP]
    cases hps : encXs nl true ps with
    | nil =>
      have := encXs_nil nl true hps
      subst this
      cases nl <;> simp [encXs, fal, fals]
    | cons a l =>
      rw [hps] at h
      rw [← h]
      simp [fal, fals]
theorem fals_encXs (nl : Bool) : ∀ ps : List Pi, fals (encXs nl true ps) = encXs nl false ps
  | [] => rfl
  | p :: ps => by simp [encXs, fals, fal_encX nl p, fals_encXs nl ps]
end
end Go.Am
end
section
set_option maxRecDepth 10000
set_option linter.unusedSimpArgs false
set_option linter.unusedVariables false
namespace Go.Am
open Go.Proofs
/-! #### marked numbers -/
end Go.Am
end
section
set_option maxRecDepth 10000
set_option linter.unusedSimpArgs false
set_option linter.unusedVariables false
namespace Go.Am
open Go.Proofs
end Go.Am
end
section
set_option maxRecDepth 10000
set_option linter.unusedSimpArgs false
set_option linter.unusedVariables false
namespace Go.Am
open Go.Proofs
/-! #### a list that is nil or frozen, as one value -/
theorem encXs_app (nl u : Bool) : ∀ a b : List Pi, encXs nl u (a ++ b) = encXs nl u a ++ encXs nl u b
  | [], _ => rfl
  | _ :: a, b => by simp [encXs, encXs_app nl u a b]
theorem encXs_at (nl u : Bool) (a : List Pi) (x : Pi) (b : List Pi) : nth (encXs nl u (a ++ x :: b)) a.length = some (encX nl u x) := by
  unfold nth
  rw [encXs_app, List.getElem?_append_right (by simp [encXs_len])]
  simp [encXs_len, encXs]
theorem encP_cases (nl u : Bool) (xs : List PV) : encP nl u xs = .nils ∧ nl = true ∧ xs = [] ∨ encP nl u xs = .sl u 4 xs := by
  unfold encP
  cases nl <;> cases xs <;> simp
section
variable (nl : Bool) (xs : List PV)
@[simp ↓ high] theorem cellP_P (u) : cellP (encP nl u xs) = true := by rcases encP_cases nl u xs with ⟨h, _, _⟩ | h <;> rw [h] <;> rfl
@[simp ↓ high] theorem cells_P (u) : (encP nl u xs).cells = [encP nl u xs] := by rcases encP_cases nl u xs with ⟨h, _, _⟩ | h <;> rw [h] <;> rfl
@[simp ↓ high] theorem sure_P (u) : sure (encP nl u xs) = true := by rcases encP_cases nl u xs with ⟨h, _, _⟩ | h <;> rw [h] <;> rfl
@[simp ↓ high] theorem plain_P : plain (encP nl false xs) = true := by rcases encP_cases nl false xs with ⟨h, _, _⟩ | h <;> rw [h] <;> rfl
@[simp ↓ high] theorem atLvl_P (u n) : atLvl n (encP nl u xs) = false := by rcases encP_cases nl u xs with ⟨h, _, _⟩ | h <;> rw [h] <;> rfl
@[simp ↓ high] theorem noRef_P (u) : noRef (encP nl u xs) = true := by rcases encP_cases nl u xs with ⟨h, _, _⟩ | h <;> rw [h] <;> rfl
@[simp ↓ high] theorem upTo_P (u n) : upTo n (encP nl u xs) = true := by rcases encP_cases nl u xs with ⟨h, _, _⟩ | h <;> rw [h] <;> rfl
@[simp ↓ high] theorem known_P (u g n) : known g n (encP nl u xs) = true := by rcases encP_cases nl u xs with ⟨h, _, _⟩ | h <;> rw [h] <;> rfl
@[simp ↓ high] theorem snap_P (u g) : snap g (encP nl u xs) = some (encP nl u xs) := by rcases encP_cases nl u xs with ⟨h, _, _⟩ | h <;> rw [h] <;> rfl
@[simp ↓ high] theorem snapE_P (u g) : snapE g (encP nl u xs) = some (encP nl u xs) := by rcases encP_cases nl u xs with ⟨h, _, _⟩ | h <;> rw [h] <;> rfl
@[simp ↓ high] theorem rowId_P (u g) : rowId g (encP nl u xs) = [] := by rcases encP_cases nl u xs with ⟨h, _, _⟩ | h <;> rw [h] <;> rfl
@[simp ↓ high] theorem rowIdE_P (u g) : rowIdE g (encP nl u xs) = [] := by rcases encP_cases nl u xs with ⟨h, _, _⟩ | h <;> rw [h] <;> rfl
@[simp ↓ high] theorem expo1_P (n g) : expo1 n g (encP nl false xs) = some (encP nl false xs, []) := by rcases encP_cases nl false xs with ⟨h, _, _⟩ | h <;> rw [h] <;> rfl
@[simp ↓ high] theorem expoC_P (n g) : expoC n g (encP nl false xs) = some (encP nl false xs, []) := by rcases encP_cases nl false xs with ⟨h, _, _⟩ | h <;> rw [h] <;> rfl
@[simp ↓ high] theorem impo1_P (n d q) : impo1 n d (encP nl false xs) q = (encP nl false xs, q, []) := by rcases encP_cases nl false xs with ⟨h, _, _⟩ | h <;> rw [h] <;> rfl
@[simp ↓ high] theorem pack1_P (mv g) : pack1 mv g (encP nl false xs) = some (encP nl false xs, []) := by rcases encP_cases nl false xs with ⟨h, _, _⟩ | h <;> rw [h] <;> rfl
@[simp high] theorem c_lenP (n d g) : core1 n d g .len [encP nl false xs] = some (.i xs.length, []) := by
  rcases encP_cases nl false xs with ⟨h, _, h2⟩ | h <;> rw [h] <;> simp_all
@[simp high] theorem c_iaddrP (n d g es i) : core1 n d g (.iaddr es) [encP nl false xs, .sc (.int .i64 i)] = if 4 = es ∧ ib i xs.length = true then irK (nth xs i.toNat) else none := by
  rcases encP_cases nl false xs with ⟨h, _, h2⟩ | h
  · rw [h, h2]
    have : ¬ (4 = es ∧ ib i ([] : List PV).length = true) := by
      intro h; have := h.2; simp [ib] at this; omega
    rw [if_neg this]; rfl
  · rw [h]; simp
end
mutual
theorem enc_X : ∀ p : Pi, enc p = encX false false p
  | .mk o x y ps => by simp [enc, encX, encs_X ps, encP]
theorem encs_X : ∀ ps : List Pi, encs ps = encXs false false ps
  | [] => rfl
  | p :: ps => by simp [encs, encXs, enc_X p, encs_X ps]
end
theorem eqBindsIX (nl : Bool) (o x y : Int) (ps : List Pi) : callI G 53 [encX nl false (.mk o x y ps)] [] = some (.i (bnd o x y), []) := by
  rw [callI_eq]
  by_cases h : o = 2 <;> by_cases h2 : o = 6 <;> simp [body1_eq _ _ (gp 53) g53, c53, a53, encX, h, h2, bnd]
theorem eqBindsSX (nl : Bool) (o x y : Int) (ps : List Pi) : callI G 44 [encX nl false (.mk o x y ps)] [] = some (.i (bnd o x y), []) := by
  rw [callI_eq]
  by_cases h : o = 2 <;> by_cases h2 : o = 6 <;> simp [body1_eq _ _ (gp 44) g44, c44, a44, encX, h, h2, bnd]
theorem eqUsesIX (nl : Bool) (o x y : Int) (ps : List Pi) : callI G 55 [encX nl false (.mk o x y ps)] [] = some (usesV o x y, []) := by
  rw [callI_eq]
  by_cases h : o = 1 <;> by_cases h2 : o = 7 <;> by_cases h3 : o = 2 <;> simp [body1_eq _ _ (gp 55) g55, c55, a55, encX, h, h2, h3, usesV]
theorem eqUsesSX (nl : Bool) (o x y : Int) (ps : List Pi) (n : Int) : callI G 62 [encX nl false (.mk o x y ps), .i n] [] = some (.b (usB (usesL o x y) n), []) := by
  rw [callI_eq]
  by_cases h : o = 1 <;> by_cases h2 : o = 7 <;> by_cases h3 : o = 2 <;> simp [body1_eq _ _ (gp 62) g62, c62, a62, encX, h, h2, h3, usesL, usB]
theorem loopFre1X (nl : Bool) (o x y : Int) (rest : List Pi) (ih : ∀ p ∈ rest, callI G 40 [encX nl false p] [] = some (.agg (bls (fre p)), [])) :
    ∀ (done : List Pi) (acc : List Bool), acc.length = 30 → (done ++ rest).length ≤ 9223372036854775807 →
      loopI G [1, 2, 3, 13, 14, 15] [1, 2, 3] c40l1 ⟨[(1, .ref (0, 1) 1 0 0), (2, .ref (0, 2) 1 0 0), (3, .ref (0, 3) 1 0 0), (13, encP nl false (encXs nl false (done ++ rest))), (14, .i (done ++ rest).length), (15, .i done.length)], [(1, .box [.i o, .i x, .i y, encP nl false (encXs nl false (done ++ rest))]), (2, .box Z30), (3, .box (bls acc))], []⟩ =
        some (.exit 0, ⟨[(1, .ref (0, 1) 1 0 0), (2, .ref (0, 2) 1 0 0), (3, .ref (0, 3) 1 0 0), (13, encP nl false (encXs nl false (done ++ rest))), (14, .i (done ++ rest).length), (15, .i (done ++ rest).length), (16, .b false)], [(1, .box [.i o, .i x, .i y, encP nl false (encXs nl false (done ++ rest))]), (2, .box Z30), (3, .box (bls (freL rest acc)))], []⟩) := by
  induction rest with
  | nil =>
    intro done acc ha h
    rw [loopI_eq]
    simp [r40l1, b40l1, encXs_len, freL]
  | cons p rest ih2 =>
    intro done acc ha h
    rw [loopI_eq]
    have hat := encXs_at nl false done p rest
    have hlt2 : (done.length : Int) < (done.length : Int) + ((rest.length : Int) + 1) := by omega
    have hw : IntKind.i64.wrap ((done.length : Int) + 1) = (done.length : Int) + 1 := wr (by simp at h; omega)
    have hc := ih p List.mem_cons_self
    have hl0 := fun I => loopFre0 [.i o, .i x, .i y, encP nl false (encXs nl false (done ++ p :: rest))] (by simp) (by intro g n; simp) (encP nl false (encXs nl false (done ++ p :: rest))) (by intro g n; simp) (done ++ p :: rest).length I acc (fre p) [] [] rfl (by rw [ha, fre_len]) (by simp [ha]) 0 rfl
    have hn := ih2 (fun q hq => ih q (List.mem_cons_of_mem _ hq)) (done ++ [p]) (orL acc (fre p)) (by rw [orL_len, ha]) (by simpa using h)
    obtain ⟨o', a', b', ps⟩ := p
    simp only [encX] at hc hat
    simp only [List.nil_append, List.length_append, List.length_cons, Int.natCast_add, show ((1 : Nat) : Int) = 1 from rfl] at hl0
    simp [r40l1, b40l1, encXs_len, hat, hlt2, hw, hc, hl0]
    simpa [freL, Int.add_assoc] using hn
theorem b47X (nl : Bool) (o x y : Int) (ps : List Pi) (hl : ps.length ≤ 9223372036854775807) (hn : NmOK o x y) (ih : ∀ p ∈ ps, callI G 40 [encX nl false p] [] = some (.agg (bls (fre p)), [])) : callI G 40 [encX nl false (.mk o x y ps)] [] = some (.agg (bls (fre (.mk o x y ps))), []) := by
  have hl1 := loopFre1X nl o x y ps ih [] (List.replicate 30 false) (by simp) (by simpa using hl)
  rw [z30] at hl1
  simp only [List.nil_append, List.length_nil, show ((0 : Nat) : Int) = 0 from rfl] at hl1
  have hb := eqBindsIX nl o x y ps
  have hu := eqUsesIX nl o x y ps
  have hlen2 : (freL ps (List.replicate 30 false)).length = 30 := by simp [freL_len]
  have htk : ∀ l : List Bool, l.length = 30 → (bls l).take 30 = bls l := fun l h => List.take_of_length_le (by simp [h])
  have hput : ∀ l : List Bool, l.length = 30 → putC Z30 0 (bls l) = bls l := fun l h => putC_all _ _ (by simp [h])
  simp only [encX] at hb hu
  have hfre : fre (.mk o x y ps) = usets (usesL o x y) (bset (bnd o x y) (freL ps (List.replicate 30 false))) := rfl
  have hB30 := hn.2
  have hB1 := bset_box (bnd o x y) (freL ps (List.replicate 30 false))
  have hB2 : ¬ 0 ≤ bnd o x y → bset (bnd o x y) (freL ps (List.replicate 30 false)) = freL ps (List.replicate 30 false) := fun h => by simp [bset, h]
  have hBl : ∀ B, (bset B (freL ps (List.replicate 30 false))).length = 30 := by simp [bset_len, freL_len]
  have hl2 := loopFre2 (usesL o x y) hn.1 [] (bset (bnd o x y) (freL ps (List.replicate 30 false))) (hBl _) (by unfold usesL; split <;> (try split) <;> simp)
  simp only [List.nil_append, List.length_nil, show ((0 : Nat) : Int) = 0 from rfl] at hl2
  have hlen3 := fre_len (.mk o x y ps)
  rw [hfre] at hlen3 ⊢
  have hBl := hBl (bnd o x y)
  generalize freL ps (List.replicate 30 false) = FL at *
  generalize hBB : bnd o x y = B at *
  rw [callI_eq]
  by_cases hB : 0 ≤ B
  · have hBn : B.toNat + 1 ≤ 30 := by omega
    have hB1 := hB1 hB
    generalize hBS : bset B FL = BS at *
    by_cases h17 : o = 1 ∨ o = 7
    · simp only [usesL, usesV, h17, if_true, ints, List.length_cons, List.length_nil, Nat.zero_add, Nat.reduceAdd, show ((2 : Nat) : Int) = 2 from rfl] at hl2 hu hlen3 ⊢
      simp [body1_eq _ _ (gp 40) g40, c40, a40, encX, encXs_len, hl1, hb, hB, hB30, hBn, hB1, hlen2, hu, hl2, hBl, htk, hput, hlen3]
    · by_cases h2 : o = 2
      · have hU : usesL o x y = [x] := by simp [usesL, h2]
        have hV : usesV o x y = .sl true 1 [.i x] := by simp [usesV, h2]
        simp only [hU, hV, ints, List.length_cons, List.length_nil, Nat.zero_add, show ((1 : Nat) : Int) = 1 from rfl] at hl2 hu hlen3 ⊢
        simp [body1_eq _ _ (gp 40) g40, c40, a40, encX, encXs_len, hl1, hb, hB, hB30, hBn, hB1, hlen2, hu, hl2, hBl, htk, hput, hlen3]
      · have hl3 := loopFre2n BS
        simp only [usesL, usesV, h17, h2, if_false] at hu hlen3 ⊢
        simp [body1_eq _ _ (gp 40) g40, c40, a40, encX, encXs_len, hl1, hb, hB, hB30, hBn, hB1, hlen2, hu, hl3, hBl, htk, hput, hlen3, usets]
  · have e2 := hB2 hB
    rw [e2] at hl2 hlen3 ⊢
    by_cases h17 : o = 1 ∨ o = 7
    · simp only [usesL, usesV, h17, if_true, ints, List.length_cons, List.length_nil, Nat.zero_add, Nat.reduceAdd, show ((2 : Nat) : Int) = 2 from rfl] at hl2 hu hlen3 ⊢
      simp [body1_eq _ _ (gp 40) g40, c40, a40, encX, encXs_len, hl1, hb, hB, hlen2, hu, hl2, htk, hput, hlen3]
    · by_cases h2 : o = 2
      · have hU : usesL o x y = [x] := by simp [usesL, h2]
        have hV : usesV o x y = .sl true 1 [.i x] := by simp [usesV, h2]
        simp only [hU, hV, ints, List.length_cons, List.length_nil, Nat.zero_add, show ((1 : Nat) : Int) = 1 from rfl] at hl2 hu hlen3 ⊢
        simp [body1_eq _ _ (gp 40) g40, c40, a40, encX, encXs_len, hl1, hb, hB, hlen2, hu, hl2, htk, hput, hlen3]
      · have hl3 := loopFre2n FL
        simp only [usesL, usesV, h17, h2, if_false] at hu hlen3 ⊢
        simp [body1_eq _ _ (gp 40) g40, c40, a40, encX, encXs_len, hl1, hb, hB, hlen2, hu, hl3, htk, hput, hlen3, usets]
mutual
theorem eq47X (nl : Bool) : ∀ p : Pi, Fit p → shape p = true → callI G 40 [encX nl false p] [] = some (.agg (bls (fre p)), [])
  | .mk o x y ps, hf, hs => by
    simp only [shape] at hs
    rcases hk : kindOK o x y with _ | ⟨ok, k⟩
    · simp [hk] at hs
    simp only [hk, Bool.and_eq_true, decide_eq_true_eq] at hs
    obtain ⟨h1, h2, h3⟩ := hs
    subst h1
    exact b47X nl o x y ps hf.1 (nmOK hk) (eq47sX nl ps hf.2 h3)
theorem eq47sX (nl : Bool) : ∀ ps : List Pi, Fits ps → shapes ps = true → ∀ p ∈ ps, callI G 40 [encX nl false p] [] = some (.agg (bls (fre p)), [])
  | [], _, _, p, h => by cases h
  | q :: ps, hf, hs, p, h => by
    simp only [shapes, Bool.and_eq_true] at hs
    rcases List.mem_cons.1 h with h | h
    · rw [h]; exact eq47X nl q hf.1 hs.1
    · exact eq47sX nl ps hf.2 hs.2 p h
end
end Go.Am
end
section
set_option maxRecDepth 10000
set_option linter.unusedSimpArgs false
set_option linter.unusedVariables false
namespace Go.Am
open Go.Proofs
theorem loop46X (nl : Bool) (o x y n : Int) (hb : ¬ bnd o x y = n) (rest : List Pi) (ih : ∀ p ∈ rest, callI G 56 [encX nl false p, .i n] [] = some (.b (fr p n), [])) :
    ∀ (done : List Pi), (done ++ rest).length ≤ 9223372036854775807 →
      ∃ r, loopI G [1, 2, 5] [2] c56l0 ⟨[(1, .i n), (2, .ref (0, 2) 1 0 0), (5, .i done.length)], [(2, .box [.i o, .i x, .i y, encP nl false (encXs nl false (done ++ rest))])], []⟩ = some r ∧
        ((frs rest n = true ∧ r = (.ret, ⟨[(4, .b true)], [], []⟩)) ∨ (frs rest n = false ∧ r = (.exit 0, ⟨[(1, .i n), (2, .ref (0, 2) 1 0 0), (5, .i (done ++ rest).length), (19, .b false)], [(2, .box [.i o, .i x, .i y, encP nl false (encXs nl false (done ++ rest))])], []⟩))) := by
  induction rest with
  | nil =>
    intro done h
    rw [loopI_eq]
    simp [r56l0, b56l0, encXs_len, frs]
  | cons p rest ih2 =>
    intro done h
    rw [loopI_eq]
    have hat := encXs_at nl false done p rest
    have hlt2 : (done.length : Int) < (done.length : Int) + ((rest.length : Int) + 1) := by omega
    have hw : IntKind.i64.wrap ((done.length : Int) + 1) = (done.length : Int) + 1 := wr (by simp at h; omega)
    have hc := ih p List.mem_cons_self
    have hbb := eqBindsSX nl o x y (done ++ p :: rest)
    simp only [encX] at hbb
    by_cases hs : fr p n = true
    · obtain ⟨o', a', b', ps⟩ := p
      simp only [encX] at hat hc
      simp [r56l0, b56l0, encXs_len, hat, hlt2, hc, hw, hs, hbb, hb, frs]
    · have hs2 : fr p n = false := by simpa using hs
      have hn := ih2 (fun y hy => ih y (List.mem_cons_of_mem _ hy)) (done ++ [p]) (by simpa using h)
      obtain ⟨o', a', b', ps⟩ := p
      simp only [encX] at hc hat
      simp [r56l0, b56l0, encXs_len, hat, hlt2, hc, hw, hs2, hbb, hb]
      simpa [hs2, frs, Int.add_assoc] using hn
theorem b46X (nl : Bool) (o x y n : Int) (ps : List Pi) (hl : ps.length ≤ 9223372036854775807) (ih : ∀ p ∈ ps, callI G 56 [encX nl false p, .i n] [] = some (.b (fr p n), [])) : callI G 56 [encX nl false (.mk o x y ps), .i n] [] = some (.b (fr (.mk o x y ps) n), []) := by
  have hu := eqUsesSX nl o x y ps n
  have hbb := eqBindsSX nl o x y ps
  simp only [encX] at hu hbb
  rw [callI_eq]
  by_cases h1 : usB (usesL o x y) n = true
  · simp [body1_eq _ _ (gp 56) g56, c56, a56, encX, hu, h1, fr]
  · have h1 : usB (usesL o x y) n = false := by simpa using h1
    by_cases hb : bnd o x y = n
    · have hx : ∃ t, loopI G [1, 2, 5] [2] c56l0 ⟨[(1, .i n), (2, .ref (0, 2) 1 0 0), (5, .i 0)], [(2, .box [.i o, .i x, .i y, encP nl false (encXs nl false ps)])], []⟩ = some (.exit 0, ⟨[(1, .i n), (2, .ref (0, 2) 1 0 0), (5, .i 0), (19, .b false)], [(2, .box [.i o, .i x, .i y, encP nl false (encXs nl false ps)])], []⟩) ∧ t = (0 : Nat) := by
        refine ⟨0, ?_, rfl⟩
        rw [loopI_eq]
        by_cases hz : ps.length = 0
        · simp [r56l0, b56l0, encXs_len, hbb, hb, hz]
        · have : 0 < ps.length := by omega
          simp [r56l0, b56l0, encXs_len, hbb, hb, this]
      obtain ⟨_, hx, _⟩ := hx
      simp [body1_eq _ _ (gp 56) g56, c56, a56, encX, hu, h1, fr, hx, hb]
    · obtain ⟨r, hlp, hr⟩ := loop46X nl o x y n hb ps ih [] (by simpa using hl)
      simp only [List.nil_append, List.length_nil, show ((0 : Nat) : Int) = 0 from rfl] at hlp hr
      rcases hr with ⟨h2, hr⟩ | ⟨h2, hr⟩ <;> simp [body1_eq _ _ (gp 56) g56, c56, a56, encX, hu, h1, fr, hlp, hb, hr, h2]
mutual
theorem eq46X (nl : Bool) : ∀ p : Pi, Fit p → ∀ n, callI G 56 [encX nl false p, .i n] [] = some (.b (fr p n), [])
  | .mk o x y ps, hf, n => b46X nl o x y n ps hf.1 (fun p hp => eq46sX nl ps hf.2 p hp n)
theorem eq46sX (nl : Bool) : ∀ ps : List Pi, Fits ps → ∀ p ∈ ps, ∀ n, callI G 56 [encX nl false p, .i n] [] = some (.b (fr p n), [])
  | [], _, p, h, _ => by cases h
  | q :: ps, hf, p, h, n => by
    rcases List.mem_cons.1 h with h | h
    · rw [h]; exact eq46X nl q hf.1 n
    · exact eq46sX nl ps hf.2 p h n
end
end Go.Am
end
section
set_option maxRecDepth 10000
set_option linter.unusedSimpArgs false
set_option linter.unusedVariables false
namespace Go.Am
open Go.Proofs
/-! #### a list of terms that grows by appending -/
def rvP (d : Nat) (acc : List Pi) : PV := match acc with | [] => .nils | a :: acc => .own (0, d) (acc.length + 1)
def roP (d : Nat) (acc : List Pi) : Objs := match acc with | [] => [] | a :: acc => [(d, .row 4 (encXs true true (a :: acc)))]
theorem rvP_nil (d : Nat) : rvP d [] = .nils := rfl
theorem roP_nil (d : Nat) : roP d [] = [] := rfl
theorem rvP_ne (d : Nat) {acc : List Pi} (h : acc ≠ []) : rvP d acc = .own (0, d) acc.length := by
  cases acc with
  | nil => exact absurd rfl h
  | cons a l => simp [rvP]
theorem roP_ne (d : Nat) {acc : List Pi} (h : acc ≠ []) : roP d acc = [(d, .row 4 (encXs true true acc))] := by
  cases acc with
  | nil => exact absurd rfl h
  | cons a l => simp [roP]
theorem rvP_app (d : Nat) (acc : List Pi) (p : Pi) : rvP d (acc ++ [p]) = .own (0, d) (acc.length + 1) := by
  rw [rvP_ne d (by simp)]; simp
theorem roP_app (d : Nat) (acc : List Pi) (p : Pi) : roP d (acc ++ [p]) = [(d, .row 4 (encXs true true acc ++ [encX true true p]))] := by
  rw [roP_ne d (by simp), encXs_app]; rfl
theorem wr1 : IntKind.i64.wrap 1 = 1 := rfl
mutual
theorem noShare_XU (nl : Bool) : ∀ p : Pi, noShare (encX nl true p) = true
  | .mk o x y ps => by
    have := noShares_XU nl ps
    rcases encP_cases nl true (encXs nl true ps) with ⟨h, _, _⟩ | h <;> simp [encX, h, this]
theorem noShares_XU (nl : Bool) : ∀ ps : List Pi, noShares (encXs nl true ps) = true
  | [] => rfl
  | p :: ps => by simp [encXs, noShares, noShare_XU nl p, noShares_XU nl ps]
end
theorem eqPutName (k f t : Int) : callI G 52 [.i k, .i f, .i t] [] = some (.i (if k = f then t else k), []) := by
  rw [callI_eq]
  by_cases h : k = f <;> simp [body1_eq _ _ (gp 52) g52, c52, a52, h]
theorem loopCopy (nl : Bool) (o x y : Int) (rest : List Pi) (ih : ∀ p ∈ rest, callI G 54 [encX nl false p] [] = some (encX true true p, [])) :
    ∀ (done : List Pi), (done ++ rest).length ≤ 4294967296 →
      loopI G [2, 3, 14, 15, 16] [2, 3, 25] c54l0 ⟨[(2, .ref (0, 2) 1 0 0), (3, .ref (0, 3) 1 0 0), (14, encP nl false (encXs nl false (done ++ rest))), (15, .i (done ++ rest).length), (16, .i done.length)], (2, .box [.i 0, .i 0, .i 0, .nils]) :: (3, .box [.i o, .i x, .i y, rvP 25 done]) :: roP 25 done, []⟩ =
        some (.exit 0, ⟨[(2, .ref (0, 2) 1 0 0), (3, .ref (0, 3) 1 0 0), (14, encP nl false (encXs nl false (done ++ rest))), (15, .i (done ++ rest).length), (16, .i (done ++ rest).length), (17, .b false)], (2, .box [.i 0, .i 0, .i 0, .nils]) :: (3, .box [.i o, .i x, .i y, rvP 25 (done ++ rest)]) :: roP 25 (done ++ rest), []⟩) := by
  induction rest with
  | nil =>
    intro done h
    rw [loopI_eq]
    by_cases hd : done = []
    · subst hd
      simp [r54l0, b54l0, rvP_nil, roP_nil]
    · simp [r54l0, b54l0, rvP_ne _ hd, roP_ne _ hd, encXs_len]
  | cons p rest ih2 =>
    intro done h
    have hat := encXs_at nl false done p rest
    have hlt2 : (done.length : Int) < (done.length : Int) + ((rest.length : Int) + 1) := by omega
    have hw : IntKind.i64.wrap ((done.length : Int) + 1) = (done.length : Int) + 1 := wr (by simp at h; omega)
    have hc := ih p List.mem_cons_self
    have hb : done.length + 1 ≤ 4294967296 := by simp at h; omega
    have hn := ih2 (fun q hq => ih q (List.mem_cons_of_mem _ hq)) (done ++ [p]) (by simpa using h)
    rw [rvP_app, roP_app] at hn
    simp only [List.append_assoc, List.cons_append, List.nil_append] at hn
    generalize hD : done ++ p :: rest = D at *
    have hDl : D.length = done.length + (rest.length + 1) := by rw [← hD]; simp
    obtain ⟨o', a', b', qs⟩ := p
    have hns := noShares_XU true qs
    rw [loopI_eq]
    by_cases hq : qs = []
    · subst hq
      simp only [encX, encXs, encP_nil] at hat hc hn
      by_cases hd : done = []
      · subst hd
        simp only [List.nil_append, List.length_nil, show ((0 : Nat) : Int) = 0 from rfl] at hat hlt2 hw hn
        simp [r54l0, b54l0, encXs_len, hDl, hat, hlt2, hw, hc, rvP_nil, roP_nil, wr1]
        simpa [hDl, encXs, encX, encP_nil, Int.add_assoc] using hn
      · simp [r54l0, b54l0, encXs_len, hDl, hat, hlt2, hw, hc, rvP_ne _ hd, roP_ne _ hd, hb]
        simpa [hDl, encXs, encX, encP_nil, Int.add_assoc] using hn
    · have hq2 : encP true true (encXs true true qs) = .sl true 4 (encXs true true qs) := encP_sl _ _ _ (.inr (fun e => hq (encXs_nil _ _ e)))
      simp only [encX, hq2] at hat hc hn
      by_cases hd : done = []
      · subst hd
        simp only [List.nil_append, List.length_nil, show ((0 : Nat) : Int) = 0 from rfl] at hat hlt2 hw hn
        simp [r54l0, b54l0, encXs_len, hDl, hat, hlt2, hw, hc, rvP_nil, roP_nil, wr1, hns]
        simpa [hDl, encXs, encX, encP_nil, Int.add_assoc] using hn
      · simp [r54l0, b54l0, encXs_len, hDl, hat, hlt2, hw, hc, rvP_ne _ hd, roP_ne _ hd, hb, hns]
        simpa [hDl, encXs, encX, encP_nil, Int.add_assoc] using hn
end Go.Am
end
section
set_option maxRecDepth 10000
set_option linter.unusedSimpArgs false
set_option linter.unusedVariables false
namespace Go.Am
open Go.Proofs
theorem expP (ps : List Pi) (h : ps ≠ []) : encP true true (encXs true true ps) = .sl true 4 (encXs true true ps) := encP_sl _ _ _ (.inr (fun e => h (encXs_nil _ _ e)))
theorem eqCopyOf (nl : Bool) (o x y : Int) (ps : List Pi) (hl : ps.length ≤ 4294967296) (ih : ∀ p ∈ ps, callI G 54 [encX nl false p] [] = some (encX true true p, [])) :
    callI G 54 [encX nl false (.mk o x y ps)] [] = some (encX true true (.mk o x y ps), []) := by
  have hlp := loopCopy nl o x y ps ih [] (by simpa using hl)
  rw [callI_eq]
  simp only [List.nil_append, List.length_nil, show ((0 : Nat) : Int) = 0 from rfl, rvP_nil, roP_nil] at hlp
  by_cases h : ps = []
  · subst h
    simp only [rvP_nil, roP_nil, List.length_nil, show ((0 : Nat) : Int) = 0 from rfl] at hlp
    simp [body1_eq _ _ (gp 54) g54, c54, a54, encX, encXs, encP_nil, encXs_len] at hlp ⊢
    simp [hlp]
  · rw [rvP_ne _ h, roP_ne _ h] at hlp
    simp [body1_eq _ _ (gp 54) g54, c54, a54, encX, expP ps h, hlp, encXs_len, noShares_XU]
mutual
theorem eqCopy (nl : Bool) : ∀ p : Pi, shape p = true → callI G 54 [encX nl false p] [] = some (encX true true p, [])
  | .mk o x y ps, hs => by
    simp only [shape] at hs
    rcases hk : kindOK o x y with _ | ⟨ok, k⟩
    · simp [hk] at hs
    simp only [hk, Bool.and_eq_true, decide_eq_true_eq] at hs
    obtain ⟨h1, h2, h3⟩ := hs
    have hk2 : k ≤ 2 := by
      unfold kindOK at hk
      split at hk
      · cases hk; omega
      split at hk
      · cases hk; omega
      split at hk
      · cases hk; omega
      split at hk
      · cases hk; omega
      split at hk
      · cases hk; omega
      · cases hk
    exact eqCopyOf nl o x y ps (by omega) (eqCopys nl ps h3)
theorem eqCopys (nl : Bool) : ∀ ps : List Pi, shapes ps = true → ∀ p ∈ ps, callI G 54 [encX nl false p] [] = some (encX true true p, [])
  | [], _, p, h => by cases h
  | q :: ps, hs, p, h => by
    simp only [shapes, Bool.and_eq_true] at hs
    rcases List.mem_cons.1 h with h | h
    · rw [h]; exact eqCopy nl q hs.1
    · exact eqCopys nl ps hs.2 p h
end
/-! #### the least name that is free for use -/
mutual
def usd : Pi → List Int
  | .mk o x y ps => usesL o x y ++ usds ps
def usds : List Pi → List Int
  | [] => []
  | p :: ps => usd p ++ usds ps
end
theorem usesL_len (o x y : Int) : (usesL o x y).length ≤ 2 := by unfold usesL; split <;> (try split) <;> simp
mutual
theorem usd_len : ∀ p : Pi, ((usd p).length : Int) ≤ 2 * cnt p
  | .mk o x y ps => by
    have h1 := usesL_len o x y
    have h2 := usds_len ps
    simp only [usd, cnt, List.length_append, Int.natCast_add]
    omega
theorem usds_len : ∀ ps : List Pi, ((usds ps).length : Int) ≤ 2 * cnts ps
  | [] => by simp [usds, cnts]
  | p :: ps => by
    have h1 := usd_len p
    have h2 := usds_len ps
    simp only [usds, cnts, List.length_append, Int.natCast_add]
    omega
end
theorem usB_mem {us : List Int} {n : Int} (h : usB us n = true) : n ∈ us := by
  unfold usB at h
  obtain ⟨u, hu, h2⟩ := List.any_eq_true.1 h
  simp only [decide_eq_true_eq] at h2
  rw [← h2]; exact hu
mutual
theorem fr_usd : ∀ (p : Pi) (n : Int), fr p n = true → n ∈ usd p
  | .mk o x y ps, n, h => by
    simp only [fr, Bool.or_eq_true, Bool.and_eq_true] at h
    simp only [usd, List.mem_append]
    rcases h with h | h
    · exact .inl (usB_mem h)
    · exact .inr (frs_usds ps n h.2)
theorem frs_usds : ∀ (ps : List Pi) (n : Int), frs ps n = true → n ∈ usds ps
  | [], n, h => by cases h
  | p :: ps, n, h => by
    simp only [frs, Bool.or_eq_true] at h
    simp only [usds, List.mem_append]
    rcases h with h | h
    · exact .inl (fr_usd p n h)
    · exact .inr (frs_usds ps n h)
end
theorem pigeon : ∀ (k : Nat) (L : List Int), L.length < k → ∃ n : Int, 0 ≤ n ∧ n < k ∧ ¬ n ∈ L
  | 0, L, h => by omega
  | k + 1, L, h => by
    by_cases hk : (k : Int) ∈ L
    · have h1 := List.length_erase_of_mem hk
      have h2 : 0 < L.length := List.length_pos_of_mem hk
      obtain ⟨n, h3, h4, h5⟩ := pigeon k (L.erase k) (by omega)
      refine ⟨n, h3, by omega, fun hm => h5 ?_⟩
      exact (List.mem_erase_of_ne (by omega)).2 hm
    · exact ⟨k, by omega, by omega, hk⟩
theorem spare (p : Pi) (f t : Int) (h : cnt p ≤ 13) : ∃ n : Int, 0 ≤ n ∧ n < 30 ∧ ¬ n = f ∧ ¬ n = t ∧ fr p n = false := by
  have h1 := usd_len p
  obtain ⟨n, h2, h3, h4⟩ := pigeon 30 (f :: t :: usd p) (by simp only [List.length_cons]; omega)
  refine ⟨n, h2, h3, fun e => h4 (by simp [e]), fun e => h4 (by simp [e]), ?_⟩
  cases hf : fr p n with
  | false => rfl
  | true => exact absurd (List.mem_cons_of_mem _ (List.mem_cons_of_mem _ (fr_usd p n hf))) h4
def fsh (p : Pi) (f t : Int) : Nat → Int → Int
  | 0, n => n
  | k + 1, n => if n = f ∨ n = t ∨ fr p n = true then fsh p f t k (n + 1) else n
theorem fsh_ok (p : Pi) (f t : Int) : ∀ (k : Nat) (n m : Int), n ≤ m → m < n + k → ¬ m = f → ¬ m = t → fr p m = false → n ≤ fsh p f t k n ∧ fsh p f t k n ≤ m ∧ ¬ fsh p f t k n = f ∧ ¬ fsh p f t k n = t ∧ fr p (fsh p f t k n) = false
  | 0, n, m, h1, h2, _, _, _ => by omega
  | k + 1, n, m, h1, h2, h3, h4, h5 => by
    simp only [fsh]
    by_cases h : n = f ∨ n = t ∨ fr p n = true
    · rw [if_pos h]
      have hne : ¬ n = m := by
        intro e
        subst e
        rcases h with h | h | h
        · exact h3 h
        · exact h4 h
        · rw [h] at h5; cases h5
      have := fsh_ok p f t k (n + 1) m (by omega) (by omega) h3 h4 h5
      exact ⟨by omega, this.2⟩
    · rw [if_neg h]
      simp only [not_or] at h
      exact ⟨by omega, h1, h.1, h.2.1, by simpa using h.2.2⟩
theorem loopFresh (nl : Bool) (p : Pi) (hfr : ∀ n, callI G 56 [encX nl false p, .i n] [] = some (.b (fr p n), [])) (f t m : Int) (hm : m < 30) (h3 : ¬ m = f) (h4 : ¬ m = t) (h5 : fr p m = false) :
    ∀ (k : Nat) (n : Int), 0 ≤ n → n ≤ m → m < n + k →
      loopI G [1, 2, 3, 7] [3] c57l0 ⟨[(1, .i f), (2, .i t), (3, .ref (0, 3) 1 0 0), (7, .i n)], [(3, .box (encX nl false p).cells)], []⟩ =
        some (.exit 0, ⟨[(1, .i f), (2, .i t), (3, .ref (0, 3) 1 0 0), (7, .i (fsh p f t k n)), (20, .b false)], [(3, .box (encX nl false p).cells)], []⟩)
  | 0, n, h0, h1, h2 => by omega
  | k + 1, n, h0, h1, h2 => by
    have hc := hfr n
    have hw : IntKind.i64.wrap (n + 1) = n + 1 := wr (by omega)
    rw [loopI_eq]
    by_cases h : n = f ∨ n = t ∨ fr p n = true
    · have hne : ¬ n = m := by
        intro e
        subst e
        rcases h with h | h | h
        · exact h3 h
        · exact h4 h
        · rw [h] at h5; cases h5
      have hn := loopFresh nl p hfr f t m hm h3 h4 h5 k (n + 1) (by omega) (by omega) (by omega)
      have hfs : fsh p f t (k + 1) n = fsh p f t k (n + 1) := by simp [fsh, h]
      rw [hfs]
      obtain ⟨o, x, y, ps⟩ := p
      simp only [encX, PV.cells] at hc hn ⊢
      by_cases e1 : n = f
      · simp [r57l0, b57l0, e1] at hw hn ⊢
        simp [hw, hn]
      · by_cases e2 : n = t
        · simp [r57l0, b57l0, e1, e2] at hw hn e1 ⊢
          simp [hw, hn, e1]
        · have e3 : fr (.mk o x y ps) n = true := by rcases h with h | h | h <;> first | exact absurd h e1 | exact absurd h e2 | exact h
          rw [e3] at hc
          simp [r57l0, b57l0, e1, e2, hc, hw, hn]
    · have hfs : fsh p f t (k + 1) n = n := by simp [fsh, h]
      rw [hfs]
      simp only [not_or] at h
      have e3 : fr p n = false := by simpa using h.2.2
      rw [e3] at hc
      obtain ⟨o, x, y, ps⟩ := p
      simp only [encX, PV.cells] at hc ⊢
      simp [r57l0, b57l0, h.1, h.2.1, hc]
theorem eqFresh (nl : Bool) (p : Pi) (hfr : ∀ n, callI G 56 [encX nl false p, .i n] [] = some (.b (fr p n), [])) (hc : cnt p ≤ 13) (f t : Int) :
    callI G 57 [encX nl false p, .i f, .i t] [] = some (.i (fsh p f t 30 0), []) := by
  obtain ⟨m, h0, h1, h3, h4, h5⟩ := spare p f t hc
  have hlp := loopFresh nl p hfr f t m h1 h3 h4 h5 30 0 (by omega) h0 (by omega)
  rw [callI_eq]
  obtain ⟨o, x, y, ps⟩ := p
  simp only [encX, PV.cells] at hlp ⊢
  simp [body1_eq _ _ (gp 57) g57, c57, a57, hlp]
end Go.Am
end
section
set_option maxRecDepth 10000
set_option linter.unusedSimpArgs false
set_option linter.unusedVariables false
namespace Go.Am
open Go.Proofs
/-! #### a name put for another one -/
def px (o x f t : Int) : Int := if (o = 1 ∨ o = 7 ∨ o = 2) ∧ x = f then t else x
def py (o y f t : Int) : Int := if (o = 1 ∨ o = 7) ∧ y = f then t else y
def putF : Nat → Pi → Int → Int → Pi
  | 0, p, _, _ => p
  | n + 1, .mk o x y ps, f, t =>
    if bnd o x y < 0 then .mk o (px o x f t) (py o y f t) (ps.map (fun p => putF n p f t))
    else match ps with
      | [p] =>
        if bnd o x y = f ∨ fr p f = false then .mk o (px o x f t) (py o y f t) [p]
        else if bnd o x y = t then
          .mk o (if o = 2 then px o x f t else fsh p f t 30 0) (if o = 2 then fsh p f t 30 0 else y) [putF n (putF n p t (fsh p f t 30 0)) f t]
        else .mk o (px o x f t) (py o y f t) [putF n p f t]
      | ps => .mk o x y ps
theorem px_id (o x t : Int) : px o x t t = x := by unfold px; split <;> simp_all
theorem py_id (o y t : Int) : py o y t t = y := by unfold py; split <;> simp_all
theorem put_id : ∀ (n : Nat) (p : Pi) (t : Int), putF n p t t = p
  | 0, _, _ => rfl
  | n + 1, .mk o x y ps, t => by
    simp only [putF, px_id, py_id]
    split
    · have : ps.map (fun p => putF n p t t) = ps := by
        have h : ∀ p ∈ ps, (fun p => putF n p t t) p = id p := fun p _ => put_id n p t
        rw [List.map_congr_left h, List.map_id]
      rw [this]
    · rename_i hb
      split
      · rename_i p
        split
        · rfl
        · rename_i h
          have h1 : ¬ bnd o x y = t := fun e => h (.inl e)
          rw [if_neg h1, put_id n p t]
      · rfl
theorem px_nfr {o x y f : Int} (h : usB (usesL o x y) f = false) (t : Int) : px o x f t = x ∧ py o y f t = y := by
  unfold usesL usB at h
  unfold px py
  by_cases h1 : o = 1 ∨ o = 7
  · rw [if_pos h1] at h
    simp at h
    simp [h.1, h.2]
  · rw [if_neg h1] at h
    by_cases h2 : o = 2
    · rw [if_pos h2] at h
      simp at h
      simp [h, h1]
    · simp [h1, h2]
theorem put_nfr : ∀ (n : Nat) (p : Pi) (f t : Int), 0 ≤ f → fr p f = false → putF n p f t = p
  | 0, _, _, _, _, _ => rfl
  | n + 1, .mk o x y ps, f, t, hf, h => by
    simp only [fr, Bool.or_eq_false_iff, Bool.and_eq_false_iff, decide_eq_false_iff_not, Classical.not_not] at h
    obtain ⟨h1, h2⟩ := h
    obtain ⟨e1, e2⟩ := px_nfr h1 t
    simp only [putF, e1, e2]
    split
    · rename_i hb
      have h3 : frs ps f = false := by rcases h2 with h2 | h2; · omega
                                       · exact h2
      have h4 : ∀ (ps : List Pi), frs ps f = false → ∀ p ∈ ps, fr p f = false := by
        intro ps
        induction ps with
        | nil => intro _ p hp; cases hp
        | cons q ps ih =>
          intro h p hp
          simp only [frs, Bool.or_eq_false_iff] at h
          rcases List.mem_cons.1 hp with e | hp
          · rw [e]; exact h.1
          · exact ih h.2 p hp
      have : ps.map (fun p => putF n p f t) = ps := by
        have h : ∀ p ∈ ps, (fun p => putF n p f t) p = id p := fun p hp => put_nfr n p f t hf (h4 ps h3 p hp)
        rw [List.map_congr_left h, List.map_id]
      rw [this]
    · split
      · rename_i p
        split
        · rfl
        · rename_i h3
          simp only [frs, Bool.or_false] at h2
          exact absurd h2 h3
      · rfl
theorem kind_px {o x y : Int} {k : Nat} (f t : Int) (hk : kindOK o x y = some (true, k)) (ht : nm t = true) : kindOK o (px o x f t) (py o y f t) = some (true, k) := by
  have hc : o = 0 ∨ o = 3 ∨ o = 4 ∨ o = 5 ∨ o = 6 ∨ o = 1 ∨ o = 2 ∨ o = 7 := by
    unfold kindOK at hk
    by_cases h0 : o = 0
    · exact .inl h0
    by_cases h3 : o = 3
    · exact .inr (.inl h3)
    by_cases h4 : o = 4 ∨ o = 5
    · rcases h4 with h | h <;> simp [h]
    by_cases h6 : o = 6
    · simp [h6]
    by_cases h1 : o = 1 ∨ o = 2 ∨ o = 7
    · rcases h1 with h | h | h <;> simp [h]
    · rw [if_neg h0, if_neg h3, if_neg h4, if_neg h6, if_neg h1] at hk; cases hk
  rcases hc with h | h | h | h | h | h | h | h <;> subst h <;> simp [px, py, kindOK] at hk ⊢ <;> (try exact hk)
  · refine ⟨⟨?_, ?_⟩, hk.2⟩
    · split
      · exact ht
      · exact hk.1.1
    · split
      · exact ht
      · exact hk.1.2
  · refine ⟨⟨?_, hk.1.2⟩, hk.2⟩
    split
    · exact ht
    · exact hk.1.1
  · refine ⟨⟨?_, ?_⟩, hk.2⟩
    · split
      · exact ht
      · exact hk.1.1
    · split
      · exact ht
      · exact hk.1.2
theorem bnd_cases {o x y : Int} (hb : ¬ bnd o x y < 0) : o = 2 ∨ o = 6 := by
  unfold bnd at hb
  by_cases h2 : o = 2
  · exact .inl h2
  · by_cases h6 : o = 6
    · exact .inr h6
    · simp [h2, h6] at hb
theorem kind_z {o x y : Int} {k : Nat} (f t z : Int) (hb : ¬ bnd o x y < 0) (hk : kindOK o x y = some (true, k)) (ht : nm t = true) (hz : nm z = true) :
    kindOK o (if o = 2 then px o x f t else z) (if o = 2 then z else y) = some (true, k) := by
  rcases bnd_cases hb with h | h <;> subst h <;> simp [px, kindOK] at hk ⊢
  · refine ⟨⟨?_, hz⟩, hk.2⟩
    split
    · exact ht
    · exact hk.1.1
  · exact ⟨⟨⟨hz, hk.1.1.2⟩, hk.1.2⟩, hk.2⟩
theorem fsh_nm (p : Pi) (f t : Int) (h : cnt p ≤ 13) : nm (fsh p f t 30 0) = true ∧ ¬ fsh p f t 30 0 = f ∧ ¬ fsh p f t 30 0 = t ∧ fr p (fsh p f t 30 0) = false := by
  obtain ⟨m, h0, h1, h3, h4, h5⟩ := spare p f t h
  have := fsh_ok p f t 30 0 m h0 (by omega) h3 h4 h5
  exact ⟨(nm_iff _).2 ⟨this.1, by omega⟩, this.2.2⟩
theorem put_shape : ∀ (n : Nat) (p : Pi) (f t : Int), shape p = true → cnt p ≤ 14 → nm t = true → shape (putF n p f t) = true ∧ cnt (putF n p f t) = cnt p
  | 0, _, _, _, h, _, _ => ⟨h, rfl⟩
  | n + 1, .mk o x y ps, f, t, hs, hc, ht => by
    have hs0 := hs
    simp only [shape] at hs
    rcases hk : kindOK o x y with _ | ⟨ok, k⟩
    · simp [hk] at hs
    simp only [hk, Bool.and_eq_true, decide_eq_true_eq] at hs
    obtain ⟨h1, h2, h3⟩ := hs
    subst h1
    simp only [cnt] at hc
    have hk1 := kind_px f t hk ht
    simp only [putF]
    by_cases hb : bnd o x y < 0
    · rw [if_pos hb]
      have key : ∀ ps : List Pi, shapes ps = true → cnts ps ≤ 13 → shapes (ps.map (fun p => putF n p f t)) = true ∧ cnts (ps.map (fun p => putF n p f t)) = cnts ps := by
        intro ps
        induction ps with
        | nil => intro _ _; exact ⟨rfl, rfl⟩
        | cons q ps ih =>
          intro h hc
          simp only [shapes, Bool.and_eq_true] at h
          simp only [cnts] at hc
          have hp := cnts_pos ps
          have hq := cnt_pos q
          have a := put_shape n q f t h.1 (by omega) ht
          have b := ih h.2 (by omega)
          simp only [List.map_cons, shapes, cnts, a.1, a.2, b.1, b.2, Bool.and_self, true_and]
      have := key ps h3 (by omega)
      simp only [shape, hk1, this.1, List.length_map, h2, cnt, this.2, decide_true, Bool.and_self, true_and]
    · rw [if_neg hb]
      rcases ps with _ | ⟨p, _ | ⟨q, l⟩⟩
      · exact ⟨hs0, rfl⟩
      · simp only [shapes, Bool.and_true] at h3
        simp only [cnts] at hc
        have hz := fsh_nm p f t (by omega)
        dsimp only
        have h2 : k = 1 := by simpa using h2.symm
        subst h2
        by_cases c1 : bnd o x y = f ∨ fr p f = false
        · rw [if_pos c1]
          simp [shape, hk1, shapes, h3, cnt]
        · rw [if_neg c1]
          by_cases c2 : bnd o x y = t
          · rw [if_pos c2]
            have hk2 := kind_z f t _ hb hk ht hz.1
            have a := put_shape n p t (fsh p f t 30 0) h3 (by omega) hz.1
            have b := put_shape n (putF n p t (fsh p f t 30 0)) f t a.1 (by omega) ht
            simp only [shape, hk2, shapes, b.1, cnt, cnts, b.2, a.2, decide_true, Bool.and_self, true_and, List.length_cons, List.length_nil]
          · rw [if_neg c2]
            have a := put_shape n p f t h3 (by omega) ht
            simp only [shape, hk1, shapes, a.1, cnt, cnts, a.2, decide_true, Bool.and_self, true_and, List.length_cons, List.length_nil]
      · exact ⟨hs0, rfl⟩
end Go.Am
end
section
set_option maxRecDepth 10000
set_option linter.unusedSimpArgs false
set_option linter.unusedVariables false
namespace Go.Am
open Go.Proofs
theorem loopPutI (nl : Bool) (o x y f t : Int) (H : Pi → Pi) (rest : List Pi) (ih : ∀ p ∈ rest, callI G 39 [encX nl false p, .i f, .i t] [] = some (encX true true (H p), [])) :
    ∀ (done acc : List Pi), (done ++ rest).length ≤ 4294967296 → acc.length = done.length →
      loopI G [1, 2, 6, 7, 51, 52, 53] [6, 7, 64, 84, 122] c39l0 ⟨[(1, .i f), (2, .i t), (6, .ref (0, 6) 1 0 0), (7, .ref (0, 7) 1 0 0), (51, encP nl false (encXs nl false (done ++ rest))), (52, .i (done ++ rest).length), (53, .i done.length)], (6, .box [.i 0, .i 0, .i 0, .nils]) :: (7, .box [.i o, .i x, .i y, rvP 64 acc]) :: roP 64 acc, []⟩ =
        some (.exit 1, ⟨[(1, .i f), (2, .i t), (6, .ref (0, 6) 1 0 0), (7, .ref (0, 7) 1 0 0), (51, encP nl false (encXs nl false (done ++ rest))), (52, .i (done ++ rest).length), (53, .i (done ++ rest).length), (54, .b false)], (6, .box [.i 0, .i 0, .i 0, .nils]) :: (7, .box [.i o, .i x, .i y, rvP 64 (acc ++ rest.map H)]) :: roP 64 (acc ++ rest.map H), []⟩) := by
  induction rest with
  | nil =>
    intro done acc h ha
    rw [loopI_eq]
    by_cases hd : acc = []
    · subst hd
      simp [r39l0, b39l0, rvP_nil, roP_nil, encXs_len]
    · simp [r39l0, b39l0, rvP_ne _ hd, roP_ne _ hd, encXs_len]
  | cons p rest ih2 =>
    intro done acc h ha
    have hat := encXs_at nl false done p rest
    have hlt2 : (done.length : Int) < (done.length : Int) + ((rest.length : Int) + 1) := by omega
    have hw : IntKind.i64.wrap ((done.length : Int) + 1) = (done.length : Int) + 1 := wr (by simp at h; omega)
    have hc := ih p List.mem_cons_self
    have hb : acc.length + 1 ≤ 4294967296 := by simp at h; omega
    have hn := ih2 (fun q hq => ih q (List.mem_cons_of_mem _ hq)) (done ++ [p]) (acc ++ [H p]) (by simpa using h) (by simp [ha])
    rw [rvP_app, roP_app] at hn
    simp only [List.append_assoc, List.cons_append, List.nil_append] at hn
    simp only [List.map_cons]
    generalize hD : done ++ p :: rest = D at *
    have hDl : D.length = done.length + (rest.length + 1) := by rw [← hD]; simp
    generalize H p = q at *
    obtain ⟨o', a', b', qs⟩ := p
    obtain ⟨ro, rx, ry, rs⟩ := q
    have hns := noShares_XU true rs
    rw [loopI_eq]
    by_cases hq : rs = []
    · subst hq
      simp only [encX, encXs, encP_nil] at hat hc hn
      by_cases hd : acc = []
      · subst hd
        simp only [List.nil_append, List.length_nil, show ((0 : Nat) : Int) = 0 from rfl, encXs, Nat.zero_add] at hn
        simp [r39l0, b39l0, encXs_len, hDl, hat, hlt2, hw, hc, rvP_nil, roP_nil]
        simpa [hDl, encXs, encX, encP_nil, Int.add_assoc] using hn
      · simp [r39l0, b39l0, encXs_len, hDl, hat, hlt2, hw, hc, rvP_ne _ hd, roP_ne _ hd, hb]
        simpa [hDl, encXs, encX, encP_nil, Int.add_assoc] using hn
    · simp only [encX, expP rs hq] at hat hc hn
      by_cases hd : acc = []
      · subst hd
        simp only [List.nil_append, List.length_nil, show ((0 : Nat) : Int) = 0 from rfl, encXs, Nat.zero_add] at hn
        simp [r39l0, b39l0, encXs_len, hDl, hat, hlt2, hw, hc, rvP_nil, roP_nil, hns]
        simpa [hDl, encXs, encX, encP_nil, Int.add_assoc] using hn
      · simp [r39l0, b39l0, encXs_len, hDl, hat, hlt2, hw, hc, rvP_ne _ hd, roP_ne _ hd, hb, hns]
        simpa [hDl, encXs, encX, encP_nil, Int.add_assoc] using hn
theorem loopPutS (nl : Bool) (o x y f t : Int) (H : Pi → Pi) (rest : List Pi) (ih : ∀ p ∈ rest, callI G 43 [encX nl false p, .i f, .i t] [] = some (encX true true (H p), [])) :
    ∀ (done acc : List Pi), (done ++ rest).length ≤ 4294967296 → acc.length = done.length →
      loopI G [1, 2, 6, 7, 8, 11] [6, 7, 99, 123] c43l0 ⟨[(1, .i f), (2, .i t), (6, .ref (0, 6) 1 0 0), (7, .ref (0, 7) 1 0 0), (8, encP nl false (encXs nl false (done ++ rest))), (11, .i done.length)], (6, .box [.i 0, .i 0, .i 0, .nils]) :: (7, .box [.i o, .i x, .i y, rvP 123 acc]) :: roP 123 acc, []⟩ =
        some (.exit 0, ⟨[(1, .i f), (2, .i t), (6, .ref (0, 6) 1 0 0), (7, .ref (0, 7) 1 0 0), (8, encP nl false (encXs nl false (done ++ rest))), (11, .i (done ++ rest).length), (110, .b false)], (6, .box [.i 0, .i 0, .i 0, .nils]) :: (7, .box [.i o, .i x, .i y, rvP 123 (acc ++ rest.map H)]) :: roP 123 (acc ++ rest.map H), []⟩) := by
  induction rest with
  | nil =>
    intro done acc h ha
    rw [loopI_eq]
    by_cases hd : acc = []
    · subst hd
      simp [r43l0, b43l0, rvP_nil, roP_nil, encXs_len]
    · simp [r43l0, b43l0, rvP_ne _ hd, roP_ne _ hd, encXs_len]
  | cons p rest ih2 =>
    intro done acc h ha
    have hat := encXs_at nl false done p rest
    have hlt2 : (done.length : Int) < (done.length : Int) + ((rest.length : Int) + 1) := by omega
    have hw : IntKind.i64.wrap ((done.length : Int) + 1) = (done.length : Int) + 1 := wr (by simp at h; omega)
    have hc := ih p List.mem_cons_self
    have hb : acc.length + 1 ≤ 4294967296 := by simp at h; omega
    have hn := ih2 (fun q hq => ih q (List.mem_cons_of_mem _ hq)) (done ++ [p]) (acc ++ [H p]) (by simpa using h) (by simp [ha])
    rw [rvP_app, roP_app] at hn
    simp only [List.append_assoc, List.cons_append, List.nil_append] at hn
    simp only [List.map_cons]
    generalize hD : done ++ p :: rest = D at *
    have hDl : D.length = done.length + (rest.length + 1) := by rw [← hD]; simp
    generalize H p = q at *
    obtain ⟨o', a', b', qs⟩ := p
    obtain ⟨ro, rx, ry, rs⟩ := q
    have hns := noShares_XU true rs
    rw [loopI_eq]
    by_cases hq : rs = []
    · subst hq
      simp only [encX, encXs, encP_nil] at hat hc hn
      by_cases hd : acc = []
      · subst hd
        simp only [List.nil_append, List.length_nil, show ((0 : Nat) : Int) = 0 from rfl, encXs, Nat.zero_add] at hn
        simp [r43l0, b43l0, encXs_len, hDl, hat, hlt2, hw, hc, rvP_nil, roP_nil]
        simpa [hDl, encXs, encX, encP_nil, Int.add_assoc] using hn
      · simp [r43l0, b43l0, encXs_len, hDl, hat, hlt2, hw, hc, rvP_ne _ hd, roP_ne _ hd, hb]
        simpa [hDl, encXs, encX, encP_nil, Int.add_assoc] using hn
    · simp only [encX, expP rs hq] at hat hc hn
      by_cases hd : acc = []
      · subst hd
        simp only [List.nil_append, List.length_nil, show ((0 : Nat) : Int) = 0 from rfl, encXs, Nat.zero_add] at hn
        simp [r43l0, b43l0, encXs_len, hDl, hat, hlt2, hw, hc, rvP_nil, roP_nil, hns]
        simpa [hDl, encXs, encX, encP_nil, Int.add_assoc] using hn
      · simp [r43l0, b43l0, encXs_len, hDl, hat, hlt2, hw, hc, rvP_ne _ hd, roP_ne _ hd, hb, hns]
        simpa [hDl, encXs, encX, encP_nil, Int.add_assoc] using hn
end Go.Am
end
section
set_option maxRecDepth 10000
set_option linter.unusedSimpArgs false
set_option linter.unusedVariables false
namespace Go.Am
open Go.Proofs
theorem kind_le {o x y : Int} {ok : Bool} {k : Nat} (hk : kindOK o x y = some (ok, k)) : k ≤ 2 := by
  unfold kindOK at hk
  split at hk
  · cases hk; omega
  split at hk
  · cases hk; omega
  split at hk
  · cases hk; omega
  split at hk
  · cases hk; omega
  split at hk
  · cases hk; omega
  · cases hk
mutual
theorem shape_fit : ∀ p : Pi, shape p = true → Fit p
  | .mk o x y ps, hs => by
    simp only [shape] at hs
    rcases hk : kindOK o x y with _ | ⟨ok, k⟩
    · simp [hk] at hs
    simp only [hk, Bool.and_eq_true, decide_eq_true_eq] at hs
    have := kind_le hk
    exact ⟨by omega, shapes_fit ps hs.2.2⟩
theorem shapes_fit : ∀ ps : List Pi, shapes ps = true → Fits ps
  | [], _ => trivial
  | p :: ps, hs => by
    simp only [shapes, Bool.and_eq_true] at hs
    exact ⟨shape_fit p hs.1, shapes_fit ps hs.2⟩
end
theorem bls_get : ∀ (l : List Bool) (i : Nat), (bls l)[i]? = (l[i]?).map (fun b => PV.b b)
  | [], i => by simp [bls]
  | b :: l, 0 => by simp [bls]
  | b :: l, i + 1 => by simpa [bls] using bls_get l i
theorem fre_at (p : Pi) (hs : shape p = true) (z : Int) (h0 : 0 ≤ z) (h1 : z < 30) : (bls (fre p))[z.toNat]? = some (.b (fr p z)) := by
  have h := fre_fr p hs z h0
  have hl := fre_len p
  rw [bls_get]
  unfold at30 at h
  rw [List.getD_eq_getElem?_getD] at h
  have : z.toNat < (fre p).length := by omega
  rw [List.getElem?_eq_getElem this] at h ⊢
  simp only [Option.getD_some] at h
  simp [h]
theorem at_in {l : List PV} {i : Nat} {v : PV} (h : l[i]? = some v) : ∀ h2 : i < l.length, l[i] = v := by
  intro h2
  rw [List.getElem?_eq_getElem h2] at h
  exact Option.some.inj h
theorem loopUsed (o x y X Y o' x' y' f t B : Int) (S Q : PV) (hS : ∃ nl xs, S = encP nl false xs) (hQ : ∃ nl xs, Q = encP nl false xs) (p : Pi) (hs : shape p = true) (m : Int) (hm : m < 30) (h3 : ¬ m = f) (h4 : ¬ m = t) (h5 : fr p m = false) :
    ∀ (k : Nat) (n : Int), 0 ≤ n → n ≤ m → m < n + k →
      loopI G [1, 2, 3, 6, 7, 8, 11, 12, 13] [3, 6, 7, 11, 12, 64, 84, 110, 122] c39l1 ⟨[(1, .i f), (2, .i t), (3, .ref (0, 3) 1 0 0), (6, .ref (0, 6) 1 0 0), (7, .ref (0, 7) 1 0 0), (8, .i B), (11, .ref (0, 11) 1 0 0), (12, .ref (0, 12) 1 0 0), (13, .i n)], [(3, .box [.i o, .i x, .i y, S]), (6, .box [.i 0, .i 0, .i 0, .nils]), (7, .box [.i o, .i X, .i Y, .nils]), (11, .box [.i o', .i x', .i y', Q]), (12, .box (bls (fre p)))], []⟩ =
        some (.exit 3, ⟨[(1, .i f), (2, .i t), (3, .ref (0, 3) 1 0 0), (6, .ref (0, 6) 1 0 0), (7, .ref (0, 7) 1 0 0), (8, .i B), (11, .ref (0, 11) 1 0 0), (12, .ref (0, 12) 1 0 0), (13, .i (fsh p f t k n)), (104, .b false)], [(3, .box [.i o, .i x, .i y, S]), (6, .box [.i 0, .i 0, .i 0, .nils]), (7, .box [.i o, .i X, .i Y, .nils]), (11, .box [.i o', .i x', .i y', Q]), (12, .box (bls (fre p)))], []⟩)
  | 0, n, h0, h1, h2 => by omega
  | k + 1, n, h0, h1, h2 => by
    have hw : IntKind.i64.wrap (n + 1) = n + 1 := wr (by omega)
    have hat := fre_at p hs n h0 (by omega)
    have hlen := fre_len p
    have hlt : n < 30 := by omega
    have hl2 : n.toNat + 1 ≤ 30 := by omega
    by_cases h : n = f ∨ n = t ∨ fr p n = true
    · have hne : ¬ n = m := by
        intro e
        subst e
        rcases h with h | h | h
        · exact h3 h
        · exact h4 h
        · rw [h] at h5; cases h5
      have hn := loopUsed o x y X Y o' x' y' f t B S Q hS hQ p hs m hm h3 h4 h5 k (n + 1) (by omega) (by omega) (by omega)
      have hfs : fsh p f t (k + 1) n = fsh p f t k (n + 1) := by simp [fsh, h]
      rw [hfs, loopI_eq]
      generalize fsh p f t k (n + 1) = z at *
      obtain ⟨nl1, xs1, hS⟩ := hS
      obtain ⟨nl2, xs2, hQ⟩ := hQ
      subst hS hQ
      by_cases e1 : n = f
      · simp [r39l1, b39l1, e1] at hw hn ⊢
        simp [hw, hn]
      · by_cases e2 : n = t
        · simp [r39l1, b39l1, e1, e2] at hw hn e1 ⊢
          simp [hw, hn, e1]
        · have e3 : fr p n = true := by rcases h with h | h | h <;> first | exact absurd h e1 | exact absurd h e2 | exact h
          rw [e3] at hat
          generalize fre p = FP at *
          have hat2 := at_in hat
          simp [r39l1, b39l1, e1, e2, hat, hat2, hw, hn, hlen, h0, hlt, hl2]
    · have hfs : fsh p f t (k + 1) n = n := by simp [fsh, h]
      rw [hfs, loopI_eq]
      simp only [not_or] at h
      have e3 : fr p n = false := by simpa using h.2.2
      rw [e3] at hat
      obtain ⟨nl1, xs1, hS⟩ := hS
      obtain ⟨nl2, xs2, hQ⟩ := hQ
      subst hS hQ
      generalize fre p = FP at *
      have hat2 := at_in hat
      simp [r39l1, b39l1, h.1, h.2.1, hat, hat2, hlen, h0, hlt, hl2]
end Go.Am
end
section
set_option maxRecDepth 10000
set_option maxHeartbeats 4000000
set_option maxHeartbeats 4000000
set_option linter.unusedSimpArgs false
set_option linter.unusedVariables false
namespace Go.Am
open Go.Proofs
theorem expS (a : PV) (l : List PV) (nl : Bool) : encP nl true (a :: l) = .sl true 4 (a :: l) := encP_sl nl true _ (.inr (by simp))
theorem putIn_n (nl : Bool) (o x y f t : Int) (H : Pi → Pi) (ps : List Pi) (hb : bnd o x y < 0) (h2 : ¬ o = 2) (hl : ps.length ≤ 4294967296)
    (ih : ∀ p ∈ ps, callI G 39 [encX nl false p, .i f, .i t] [] = some (encX true true (H p), [])) :
    callI G 39 [encX nl false (.mk o x y ps), .i f, .i t] [] = some (encX true true (.mk o (px o x f t) (py o y f t) (ps.map H)), []) := by
  have hbb := eqBindsIX nl o x y ps
  have hlp := fun X Y => loopPutI nl o X Y f t H ps ih [] [] (by simpa using hl) rfl
  have hx := eqPutName x f t
  have hy := eqPutName y f t
  simp only [encX] at hbb
  simp only [List.nil_append, List.length_nil, show ((0 : Nat) : Int) = 0 from rfl, rvP_nil, roP_nil] at hlp
  rw [callI_eq]
  have hml : (ps.map H).length = ps.length := List.length_map _
  by_cases h : ps.map H = []
  · have hps : ps = [] := by simpa using h
    subst hps
    simp only [List.map_nil, rvP_nil, roP_nil, List.length_nil, show ((0 : Nat) : Int) = 0 from rfl] at hlp
    by_cases h1 : o = 1
    · subst h1
      simp [body1_eq _ _ (gp 39) g39, c39, a39, encX, encXs, encP_nil, encXs_len, hx, hy, px, py, hb] at hlp hbb ⊢
      simp [hlp, hbb, hb]
    · by_cases h7 : o = 7
      · subst h7
        simp [body1_eq _ _ (gp 39) g39, c39, a39, encX, encXs, encP_nil, encXs_len, hx, hy, px, py, hb] at hlp hbb ⊢
        simp [hlp, hbb, hb]
      · simp [body1_eq _ _ (gp 39) g39, c39, a39, encX, encXs, encP_nil, encXs_len, hx, hy, px, py, hb, h1, h7, h2] at hlp hbb ⊢
        simp [hlp, hbb, hb]
  · rw [rvP_ne _ h, roP_ne _ h] at hlp
    by_cases h1 : o = 1
    · subst h1
      simp [body1_eq _ _ (gp 39) g39, c39, a39, encX, expP _ h, hbb, hlp, encXs_len, hx, hy, px, py, hb, noShares_XU]
    · by_cases h7 : o = 7
      · subst h7
        simp [body1_eq _ _ (gp 39) g39, c39, a39, encX, expP _ h, hbb, hlp, encXs_len, hx, hy, px, py, hb, noShares_XU]
      · simp [body1_eq _ _ (gp 39) g39, c39, a39, encX, expP _ h, hbb, hlp, encXs_len, hx, hy, px, py, hb, h1, h7, h2, noShares_XU]
theorem putIn_b (o : Int) (ho : o = 2 ∨ o = 6) (nl : Bool) (x y f t : Int) (p : Pi) (n : Nat) (hk : ∃ k, kindOK o x y = some (true, k)) (hs : shape p = true) (hc : cnt p ≤ 13) (hf : nm f = true) (ht : nm t = true)
    (ih : ∀ (nl : Bool) (f t : Int) (q : Pi), shape q = true → cnt q = cnt p → nm f = true → nm t = true → callI G 39 [encX nl false q, .i f, .i t] [] = some (encX true true (putF n q f t), [])) :
    callI G 39 [encX nl false (.mk o x y [p]), .i f, .i t] [] = some (encX true true (putF (n + 1) (.mk o x y [p]) f t), []) := by
  have hbb := eqBindsIX nl o x y [p]
  have hx := eqPutName x f t
  have hB : ¬ bnd o x y < 0 ∧ nm (bnd o x y) = true := by
    obtain ⟨k, hk⟩ := hk
    rcases ho with h | h <;> subst h <;> simp [kindOK, bnd] at hk ⊢
    · exact ⟨by have := (nm_iff y).1 hk.1.2; omega, hk.1.2⟩
    · exact ⟨by have := (nm_iff x).1 hk.1.1.1; omega, hk.1.1.1⟩
  have hcp := eqCopy nl p hs
  have hfr := eq47X nl p (shape_fit p hs) hs
  have hf' := (nm_iff f).1 hf
  have hat := fre_at p hs f hf'.1 hf'.2
  have hlen := fre_len p
  have hl2 : f.toNat + 1 ≤ 30 := by omega
  have hz := fsh_nm p f t hc
  have i1 := ih nl f t p hs rfl hf ht
  have i2 := ih nl t (fsh p f t 30 0) p hs rfl ht hz.1
  have sh := put_shape n p t (fsh p f t 30 0) hs (by omega) hz.1
  have i3 := ih true f t (putF n p t (fsh p f t 30 0)) sh.1 sh.2 hf ht
  obtain ⟨m, m0, m1, m3, m4, m5⟩ := spare p f t hc
  obtain ⟨m, m0, m1, m3, m4, m5⟩ := spare p f t hc
  obtain ⟨m, m0, m1, m3, m4, m5⟩ := spare p f t hc
  obtain ⟨m, m0, m1, m3, m4, m5⟩ := spare p f t hc
  have hlu := fun X Y o' x' y' B S Q hS hQ => loopUsed o x y X Y o' x' y' f t B S Q hS hQ p hs m m1 m3 m4 m5 30 0 (by omega) m0 (by omega)
  simp only [putF, if_neg hB.1]
  rw [callI_eq]
  generalize putF n (putF n p t (fsh p f t 30 0)) f t = q2 at *
  generalize putF n p t (fsh p f t 30 0) = q1 at *
  generalize putF n p f t = q0 at *
  generalize fsh p f t 30 0 = z at *
  have hB1 := hB.1
  have hat2 := at_in hat
  by_cases c1 : bnd o x y = f
  · rw [if_pos (.inl c1)]
    generalize bnd o x y = B at *
    clear hlu i1 i2 i3 ih sh hz hfr hat hat2
    subst c1
    obtain ⟨po, pa, pb, qs⟩ := p
    by_cases hq : qs = []
    · subst hq
      simp only [encX, encXs, encP_nil] at hbb hcp
      rcases ho with h | h <;> subst h <;> simp [body1_eq _ _ (gp 39) g39, c39, a39, encX, encXs, encP_nil, expS, hbb, encXs_len, hx, px, py, hB1, hcp]
    · simp only [encX, encXs, expP qs hq] at hbb hcp
      rcases ho with h | h <;> subst h <;> simp [body1_eq _ _ (gp 39) g39, c39, a39, encX, encXs, expP qs hq, expS, hbb, encXs_len, hx, px, py, hB1, hcp, noShares_XU]
  have hnf : ¬ (bnd o x y = f) := c1
  by_cases c2 : fr p f = false
  · rw [if_pos (.inr c2)]
    rw [c2] at hat hat2
    generalize bnd o x y = B at *
    clear hlu i1 i2 i3 ih sh hz c2 m5
    generalize fre p = FP at *
    obtain ⟨po, pa, pb, qs⟩ := p
    by_cases hq : qs = []
    · subst hq
      simp only [encX, encXs, encP_nil] at hbb hcp hfr
      rcases ho with h | h <;> subst h <;> simp [body1_eq _ _ (gp 39) g39, c39, a39, encX, encXs, encP_nil, expS, hbb, encXs_len, hx, px, py, hB1, hcp, hnf, hfr, hat, hat2, hlen, hl2, hf'.1, hf'.2]
    · simp only [encX, encXs, expP qs hq] at hbb hcp hfr
      rcases ho with h | h <;> subst h <;> simp [body1_eq _ _ (gp 39) g39, c39, a39, encX, encXs, encP_nil, expS, hbb, encXs_len, hx, px, py, hB1, expP qs hq, hcp, noShares_XU, hnf, hfr, hat, hat2, hlen, hl2, hf'.1, hf'.2]
  · rw [if_neg (by intro h; exact h.elim c1 c2)]
    have c2 : fr p f = true := by simpa using c2
    rw [c2] at hat hat2
    by_cases c3 : bnd o x y = t
    · rw [if_pos c3]
      generalize bnd o x y = B at *
      have hlu := fun X Y o' x' y' B qs => hlu X Y o' x' y' B (encP nl false [encX nl false p]) (encP nl false (encXs nl false qs)) ⟨_, _, rfl⟩ ⟨_, _, rfl⟩
      clear ih sh hz c2 m5 i1 m3 m4
      generalize fre p = FP at *
      have hput : putC Z30 0 (bls FP) = bls FP := putC_all _ _ (by simp [hlen])
      obtain ⟨po, pa, pb, qs⟩ := p
      obtain ⟨ro, ra, rb, rs⟩ := q1
      obtain ⟨so, sa, sb, ss⟩ := q2
      subst c3
      by_cases hr : rs = []
      · subst hr
        by_cases hq : ss = []
        · subst hq
          simp only [encX, encXs, encP_nil] at hbb hcp hfr i2 i3 hlu
          rcases ho with h | h <;> subst h <;> simp [body1_eq _ _ (gp 39) g39, c39, a39, encX, encXs, encP_nil, expS, hbb, encXs_len, hx, px, py, hB1, hnf, hfr, hat, hat2, hlen, hl2, hf'.1, hf'.2, hlu, hput, i2, i3]
        · simp only [encX, encXs, encP_nil, expP ss hq] at hbb hcp hfr i2 i3 hlu
          rcases ho with h | h <;> subst h <;> simp [body1_eq _ _ (gp 39) g39, c39, a39, encX, encXs, encP_nil, expS, hbb, encXs_len, hx, px, py, hB1, expP ss hq, noShares_XU, hnf, hfr, hat, hat2, hlen, hl2, hf'.1, hf'.2, hlu, hput, i2, i3]
      · have hr2 : encP true false (encXs true false rs) = .sl false 4 (encXs true false rs) := encP_sl _ _ _ (.inr (fun e => hr (encXs_nil _ _ e)))
        by_cases hq : ss = []
        · subst hq
          simp only [encX, encXs, encP_nil, expP rs hr, hr2] at hbb hcp hfr i2 i3 hlu
          rcases ho with h | h <;> subst h <;> simp [body1_eq _ _ (gp 39) g39, c39, a39, encX, encXs, encP_nil, expS, hbb, encXs_len, hx, px, py, hB1, fals_encXs, noShares_XU, hnf, hfr, hat, hat2, hlen, hl2, hf'.1, hf'.2, hlu, hput, i2, i3]
        · simp only [encX, encXs, expP rs hr, hr2, expP ss hq] at hbb hcp hfr i2 i3 hlu
          rcases ho with h | h <;> subst h <;> simp [body1_eq _ _ (gp 39) g39, c39, a39, encX, encXs, encP_nil, expS, hbb, encXs_len, hx, px, py, hB1, fals_encXs, expP ss hq, noShares_XU, hnf, hfr, hat, hat2, hlen, hl2, hf'.1, hf'.2, hlu, hput, i2, i3]
    · rw [if_neg c3]
      generalize bnd o x y = B at *
      clear hlu i2 i3 ih sh hz c2 m5
      generalize fre p = FP at *
      obtain ⟨po, pa, pb, qs⟩ := p
      obtain ⟨ro, ra, rb, rs⟩ := q0
      by_cases hr : rs = []
      · subst hr
        simp only [encX, encXs, encP_nil] at hbb hcp hfr i1
        rcases ho with h | h <;> subst h <;> simp [body1_eq _ _ (gp 39) g39, c39, a39, encX, encXs, encP_nil, expS, hbb, encXs_len, hx, px, py, hB1, hnf, c3, hfr, hat, hat2, hlen, hl2, hf'.1, hf'.2, i1]
      · simp only [encX, encXs, expP rs hr] at hbb hcp hfr i1
        rcases ho with h | h <;> subst h <;> simp [body1_eq _ _ (gp 39) g39, c39, a39, encX, encXs, encP_nil, expS, hbb, encXs_len, hx, px, py, hB1, expP rs hr, noShares_XU, hnf, c3, hfr, hat, hat2, hlen, hl2, hf'.1, hf'.2, i1]
end Go.Am
end
section
set_option maxRecDepth 10000
set_option maxHeartbeats 4000000
set_option linter.unusedSimpArgs false
set_option linter.unusedVariables false
namespace Go.Am
open Go.Proofs
theorem loopPutOwn (o x y f t : Int) (q1 q2 : Pi) (hc : callI G 43 [encX true false q1, .i f, .i t] [] = some (encX true true q2, [])) :
      loopI G [1, 2, 6, 7, 8, 11] [6, 7, 99, 123] c43l0 ⟨[(1, .i f), (2, .i t), (6, .ref (0, 6) 1 0 0), (7, .ref (0, 7) 1 0 0), (8, .own (0, 99) 1), (11, .i 0)], [(6, .box [.i 0, .i 0, .i 0, .nils]), (7, .box [.i o, .i x, .i y, .nils]), (99, .row 4 [encX true false q1])], []⟩ =
        some (.exit 0, ⟨[(1, .i f), (2, .i t), (6, .ref (0, 6) 1 0 0), (7, .ref (0, 7) 1 0 0), (8, .own (0, 99) 1), (11, .i 1), (110, .b false)], [(6, .box [.i 0, .i 0, .i 0, .nils]), (7, .box [.i o, .i x, .i y, .own (0, 123) 1]), (99, .row 4 [encX true false q1]), (123, .row 4 [encX true true q2])], []⟩) := by
  have e : loopI G [1, 2, 6, 7, 8, 11] [6, 7, 99, 123] c43l0 ⟨[(1, .i f), (2, .i t), (6, .ref (0, 6) 1 0 0), (7, .ref (0, 7) 1 0 0), (8, .own (0, 99) 1), (11, .i 1)], [(6, .box [.i 0, .i 0, .i 0, .nils]), (7, .box [.i o, .i x, .i y, .own (0, 123) 1]), (99, .row 4 [encX true false q1]), (123, .row 4 [encX true true q2])], []⟩ =
        some (.exit 0, ⟨[(1, .i f), (2, .i t), (6, .ref (0, 6) 1 0 0), (7, .ref (0, 7) 1 0 0), (8, .own (0, 99) 1), (11, .i 1), (110, .b false)], [(6, .box [.i 0, .i 0, .i 0, .nils]), (7, .box [.i o, .i x, .i y, .own (0, 123) 1]), (99, .row 4 [encX true false q1]), (123, .row 4 [encX true true q2])], []⟩) := by
    rw [loopI_eq]
    simp [r43l0, b43l0]
  rw [loopI_eq]
  obtain ⟨ro, ra, rb, rs⟩ := q1
  obtain ⟨so, sa, sb, ss⟩ := q2
  by_cases hq : ss = []
  · subst hq
    simp only [encX, encXs, encP_nil] at hc e ⊢
    simp [r43l0, b43l0, hc, wr1, e]
  · simp only [encX, expP ss hq] at hc e ⊢
    simp [r43l0, b43l0, hc, wr1, e, noShares_XU]
theorem l13Put_n (nl : Bool) (o x y f t : Int) (H : Pi → Pi) (ps : List Pi) (hb : bnd o x y < 0) (h2 : ¬ o = 2) (hl : ps.length ≤ 4294967296)
    (ih : ∀ p ∈ ps, callI G 43 [encX nl false p, .i f, .i t] [] = some (encX true true (H p), [])) :
    callI G 43 [encX nl false (.mk o x y ps), .i f, .i t] [] = some (encX true true (.mk o (px o x f t) (py o y f t) (ps.map H)), []) := by
  have hbb := eqBindsSX nl o x y ps
  have hlp := fun X Y => loopPutS nl o X Y f t H ps ih [] [] (by simpa using hl) rfl
  simp only [encX] at hbb
  simp only [List.nil_append, List.length_nil, show ((0 : Nat) : Int) = 0 from rfl, rvP_nil, roP_nil] at hlp
  have hb' : ¬ 0 ≤ bnd o x y := by omega
  generalize bnd o x y = B at *
  rw [callI_eq]
  by_cases h : ps.map H = []
  · have hps : ps = [] := by simpa using h
    subst hps
    simp only [List.map_nil, rvP_nil, roP_nil, List.length_nil, show ((0 : Nat) : Int) = 0 from rfl] at hlp
    by_cases h1 : o = 1
    · subst h1
      by_cases hx : x = f <;> by_cases hy : y = f <;> simp [body1_eq _ _ (gp 43) g43, c43, a43, encX, encXs, encP_nil, encXs_len, px, py, hb', hx, hy] at hlp hbb ⊢ <;> simp [hlp, hbb, hb']
    · by_cases h7 : o = 7
      · subst h7
        by_cases hx : x = f <;> by_cases hy : y = f <;> simp [body1_eq _ _ (gp 43) g43, c43, a43, encX, encXs, encP_nil, encXs_len, px, py, hb', hx, hy] at hlp hbb ⊢ <;> simp [hlp, hbb, hb']
      · simp [body1_eq _ _ (gp 43) g43, c43, a43, encX, encXs, encP_nil, encXs_len, px, py, hb', h1, h7, h2] at hlp hbb ⊢
        simp [hlp, hbb, hb']
  · rw [rvP_ne _ h, roP_ne _ h] at hlp
    by_cases h1 : o = 1
    · subst h1
      by_cases hx : x = f <;> by_cases hy : y = f <;> (try simp only [hx] at hbb) <;> (try simp only [hy] at hbb) <;> simp [body1_eq _ _ (gp 43) g43, c43, a43, encX, expP _ h, hbb, hlp, encXs_len, hx, hy, px, py, hb', noShares_XU]
    · by_cases h7 : o = 7
      · subst h7
        by_cases hx : x = f <;> by_cases hy : y = f <;> (try simp only [hx] at hbb) <;> (try simp only [hy] at hbb) <;> simp [body1_eq _ _ (gp 43) g43, c43, a43, encX, expP _ h, hbb, hlp, encXs_len, hx, hy, px, py, hb', noShares_XU]
      · simp [body1_eq _ _ (gp 43) g43, c43, a43, encX, expP _ h, hbb, hlp, encXs_len, px, py, hb', h1, h7, h2, noShares_XU]
end Go.Am
end
