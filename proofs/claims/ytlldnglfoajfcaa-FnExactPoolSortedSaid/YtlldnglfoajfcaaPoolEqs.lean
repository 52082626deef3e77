/- What the functions on pools yield. -/
import Derived.Test.YtlldnglfoajfcaaCode
import Derived.Test.YtlldnglfoajfcaaAmC
import Derived.Test.YtlldnglfoajfcaaPiEqs
section
set_option maxRecDepth 10000
set_option linter.unusedSimpArgs false
set_option linter.unusedVariables false
namespace Go.Am
open Go.Proofs
def ints : List Int → List PV
  | [] => []
  | x :: xs => .i x :: ints xs
theorem ints_len : ∀ xs : List Int, (ints xs).length = xs.length
  | [] => rfl
  | _ :: xs => by simp [ints, ints_len xs]
theorem ints_app : ∀ a b : List Int, ints (a ++ b) = ints a ++ ints b
  | [], _ => rfl
  | _ :: a, b => by simp [ints, ints_app a b]
theorem ints_at (a : List Int) (x : Int) (b : List Int) : nth (ints (a ++ x :: b)) a.length = some (.i x) := by
  unfold nth
  rw [ints_app, List.getElem?_append_right (by simp [ints_len])]
  simp [ints_len, ints]
theorem fals_ints : ∀ xs : List Int, fals (ints xs) = ints xs
  | [] => rfl
  | x :: xs => by simp [ints, fals_ints xs]
@[simp] theorem noShares_ints : ∀ xs : List Int, noShares (ints xs) = true
  | [] => rfl
  | x :: xs => by simp [ints, noShares_ints xs]
@[simp] theorem plains_ints : ∀ xs : List Int, plains (ints xs) = true
  | [] => rfl
  | x :: xs => by simp [ints, plains_ints xs]
theorem irow_at (a : List Int) (m : Nat) (z : PV) : nth (ints a ++ z :: List.replicate m z) a.length = some z := by
  unfold nth
  rw [List.getElem?_append_right (by simp [ints_len])]
  simp [ints_len]
theorem irow_set (a : List Int) (m : Nat) (z y : PV) : (ints a ++ z :: List.replicate m z).set a.length y = ints a ++ y :: List.replicate m z := by
  rw [List.set_append_right _ _ (by simp [ints_len])]
  simp [ints_len]
theorem ints_set : ∀ (l : List Int) (i : Nat) (v : Int), (ints l).set i (.i v) = ints (l.set i v)
  | [], _, _ => rfl
  | x :: l, 0, v => rfl
  | x :: l, i + 1, v => by simp [ints, ints_set l i v]
/-! laws.toIntS -/
theorem loopToIntS (rest : List Int) :
    ∀ (done : List Int), (done ++ rest).length ≤ 9223372036854775807 →
      loopI G [0, 3, 4] [7] c29l0 ⟨[(0, .sl false 1 (ints (done ++ rest))), (3, .own (0, 7) (done ++ rest).length), (4, .i done.length)], [(7, .row 1 (ints done ++ List.replicate rest.length (.i 0)))], []⟩ =
        some (.exit 0, ⟨[(0, .sl false 1 (ints (done ++ rest))), (3, .own (0, 7) (done ++ rest).length), (4, .i (done ++ rest).length), (11, .b false)], [(7, .row 1 (ints (done ++ rest)))], []⟩) := by
  induction rest with
  | nil =>
    intro done h
    rw [loopI_eq]
    simp [r29l0, b29l0, ints_len]
  | cons x rest ih2 =>
    intro done h
    rw [loopI_eq]
    have hat := ints_at done x rest
    have hlt : (done.length : Int) < (done.length : Int) + ((rest.length : Int) + 1) := by omega
    have hw : IntKind.i64.wrap ((done.length : Int) + 1) = (done.length : Int) + 1 := wr (by simp at h; omega)
    have hn := ih2 (done ++ [x]) (by simpa using h)
    simp [r29l0, b29l0, ints_len, hat, hlt, hw, List.replicate_succ, irow_at, irow_set]
    simpa [ints_app, ints, unAgg, Int.add_assoc] using hn
theorem eqToIntS (xs : List Int) (hl : xs.length ≤ 4294967296) : callI G 29 [.sl false 1 (ints xs)] [] = some (.sl true 1 (ints xs), []) := by
  rw [callI_eq]
  have hlp := loopToIntS xs [] (by simp; omega)
  simp only [List.nil_append, List.length_nil, ints, show ((0 : Nat) : Int) = 0 from rfl] at hlp
  have h4 : (xs.length : Int) ≤ 4294967296 := by omega
  simp [body1_eq _ _ (gp 29) g29, c29, a29, ints_len, hl, h4, hlp]
/-! laws.eqIntS: of the same list -/
theorem loopEqIntS (rest : List Int) :
    ∀ (done : List Int), (done ++ rest).length ≤ 9223372036854775807 →
      loopI G [0, 1, 5] [] c32l0 ⟨[(0, .sl false 1 (ints (done ++ rest))), (1, .sl false 1 (ints (done ++ rest))), (5, .i done.length)], [], []⟩ =
        some (.exit 0, ⟨[(0, .sl false 1 (ints (done ++ rest))), (1, .sl false 1 (ints (done ++ rest))), (5, .i (done ++ rest).length), (14, .b false)], [], []⟩) := by
  induction rest with
  | nil =>
    intro done h
    rw [loopI_eq]
    simp [r32l0, b32l0, ints_len]
  | cons x rest ih2 =>
    intro done h
    rw [loopI_eq]
    have hat := ints_at done x rest
    have hlt2 : (done.length : Int) < (done.length : Int) + ((rest.length : Int) + 1) := by omega
    have hw : IntKind.i64.wrap ((done.length : Int) + 1) = (done.length : Int) + 1 := wr (by simp at h; omega)
    have hn := ih2 (done ++ [x]) (by simpa using h)
    simp [r32l0, b32l0, ints_len, hat, hlt2, hw]
    simpa [Int.add_assoc] using hn
theorem eqEqIntS (xs : List Int) (hl : xs.length ≤ 9223372036854775807) : callI G 32 [.sl false 1 (ints xs), .sl false 1 (ints xs)] [] = some (.b true, []) := by
  have hl := loopEqIntS xs [] (by simpa using hl)
  simp only [List.nil_append, List.length_nil, show ((0 : Nat) : Int) = 0 from rfl] at hl
  rw [callI_eq]
  simp [body1_eq _ _ (gp 32) g32, c32, a32, hl]
end Go.Am
end
section
set_option maxRecDepth 10000
set_option linter.unusedSimpArgs false
set_option linter.unusedVariables false
namespace Go.Am
open Go.Proofs
abbrev encPool (ss : List Int) (ms : List Pi) : PV := .agg [.sl false 1 (ints ss), .sl false 4 (encs ms)]
abbrev encPoolU (ss : List Int) (ms : List Pi) : PV := .agg [.sl true 1 (ints ss), .sl true 4 (encUs ms)]
def szI (n l : Int) : Int := if l - n < 0 then -1 else l - n
def szPool (ss : List Int) (ms : List Pi) (l : Int) : Int :=
  if szI ss.length l < 0 then -1 else if szI ss.length l - ms.length < 0 then -1 else if szL ms (szI ss.length l - ms.length) < 0 then -1 else szL ms (szI ss.length l - ms.length)
theorem eqSzIntS (ss : List Int) (l : Int) (h0 : 0 ≤ l) (h1 : l ≤ 1048576) (hl : ss.length ≤ 9223372036854775807) : callI G 70 [.sl false 1 (ints ss), .i l] [] = some (.i (szI ss.length l), []) := by
  rw [callI_eq]
  have hw : IntKind.i64.wrap (l - ss.length) = l - ss.length := wr (by omega)
  by_cases h : l - ss.length < 0 <;> simp [body1_eq _ _ (gp 70) g70, c70, a70, hw, ints_len, szI, h]
theorem eqSzPool (ss : List Int) (ms : List Pi) (l : Int) (h0 : 0 ≤ l) (h1 : l ≤ 1048576) (hl : ss.length ≤ 9223372036854775807) (hm : ms.length ≤ 9223372036854775807) (hf : Fits ms) : callI G 26 [encPool ss ms, .i l] [] = some (.i (szPool ss ms l), []) := by
  have hs := eqSzIntS ss l h0 h1 hl
  rw [callI_eq]
  unfold szPool
  by_cases h : szI ss.length l < 0
  · simp [body1_eq _ _ (gp 26) g26, c26, a26, hs, h]
  · have h2 : szI ss.length l ≤ 1048576 := by unfold szI at *; split <;> omega
    have h35 := eq35 ms hm (eq9s ms hf) (szI ss.length l) (by omega) h2
    generalize szI ss.length l = s at *
    by_cases h3 : s - ms.length < 0
    · simp only [h3, if_true] at h35
      simp [body1_eq _ _ (gp 26) g26, c26, a26, hs, h, h35, h3]
    · simp only [h3, if_false] at h35
      by_cases h4 : szL ms (s - ms.length) < 0
      · simp only [h4, if_true] at h35
        simp [body1_eq _ _ (gp 26) g26, c26, a26, hs, h, h35, h3, h4]
      · simp only [h4, if_false] at h35
        simp [body1_eq _ _ (gp 26) g26, c26, a26, hs, h, h35, h3, h4]
theorem szPool_small (ss : List Int) (ms : List Pi) (l : Int) (h0 : 0 ≤ l) (h1 : l ≤ 1048576) (h : ¬ szPool ss ms l < 0) : ss.length ≤ 4294967296 ∧ ms.length ≤ 4294967296 ∧ Smalls ms := by
  have hs : szI ss.length l ≤ 1048576 ∧ (¬ szI ss.length l < 0 → ss.length ≤ 4294967296) := by
    unfold szI
    split <;> constructor <;> omega
  unfold szPool at h
  generalize szI ss.length l = s at *
  by_cases h2 : s < 0
  · simp [h2] at h
  · rw [if_neg h2] at h
    by_cases h3 : s - ms.length < 0
    · simp [h3] at h
    · rw [if_neg h3] at h
      by_cases h4 : szL ms (s - ms.length) < 0
      · simp [h4] at h
      · exact ⟨hs.2 h2, by omega, szL_small ms (s - ms.length) (by omega) (by omega) (by omega)⟩
theorem eqToPool (ss : List Int) (ms : List Pi) (h1 : ss.length ≤ 4294967296) (h2 : ms.length ≤ 4294967296) (h3 : Smalls ms) : callI G 28 [encPool ss ms] [] = some (encPoolU ss ms, []) := by
  have a1 := eqToIntS ss h1
  have a2 := eq38 ms h2 (eq11s ms h3)
  rw [callI_eq]
  simp [body1_eq _ _ (gp 28) g28, c28, a28, a1, a2, encUs_len, ints_len]
theorem eqEqPiS (ps : List Pi) (hl : ps.length ≤ 9223372036854775807) (hf : Fits ps) : callI G 82 [.sl false 4 (encs ps), .sl false 4 (encs ps)] [] = some (.b true, []) := by
  have hl := loop41 ps (eq13s ps hf) [] (by simpa using hl)
  simp only [List.nil_append, List.length_nil, show ((0 : Nat) : Int) = 0 from rfl] at hl
  rw [callI_eq]
  simp [body1_eq _ _ (gp 82) g82, c82, a82, hl]
theorem eqEqPool (ss : List Int) (ms : List Pi) (h1 : ss.length ≤ 9223372036854775807) (h2 : ms.length ≤ 9223372036854775807) (h3 : Fits ms) : callI G 31 [encPool ss ms, encPool ss ms] [] = some (.b true, []) := by
  have a1 := eqEqIntS ss h1
  have a2 := eqEqPiS ms h2 h3
  rw [callI_eq]
  simp [body1_eq _ _ (gp 31) g31, c31, a31, a1, a2]
end Go.Am
end
section
set_option maxRecDepth 10000
set_option linter.unusedSimpArgs false
set_option linter.unusedVariables false
namespace Go.Am
open Go.Proofs
/-! #### lists of booleans -/
def bls : List Bool → List PV
  | [] => []
  | b :: bs => .b b :: bls bs
@[simp] theorem bls_len : ∀ xs : List Bool, (bls xs).length = xs.length
  | [] => rfl
  | _ :: xs => by simp [bls, bls_len xs]
theorem bls_app : ∀ a b : List Bool, bls (a ++ b) = bls a ++ bls b
  | [], _ => rfl
  | _ :: a, b => by simp [bls, bls_app a b]
theorem bls_at (a : List Bool) (x : Bool) (b : List Bool) (n : Nat) (h : n = a.length) : (bls (a ++ x :: b))[n]? = some (.b x) := by
  subst h
  rw [bls_app, List.getElem?_append_right (by simp)]
  simp [bls]
theorem bls_set : ∀ (a : List Bool) (n : Nat) (y : Bool), (bls a).set n (.b y) = bls (a.set n y)
  | [], _, _ => rfl
  | b :: a, 0, y => rfl
  | b :: a, n + 1, y => by simp [bls, bls_set a n y]
@[simp] theorem plains_bls : ∀ a : List Bool, plains (bls a) = true
  | [] => rfl
  | b :: a => by simp [bls, plains_bls a]
@[simp] theorem knowns_bls (g : Nat → Bool) (n : Nat) : ∀ a : List Bool, knowns g n (bls a) = true
  | [] => rfl
  | b :: a => by simp [bls, knowns_bls g n a]
@[simp] theorem allc_bls : ∀ a : List Bool, (bls a).all cellP = true
  | [] => rfl
  | b :: a => by simp only [bls, List.all_cons, allc_bls a]; rfl
@[simp] theorem noRefs_bls : ∀ a : List Bool, noRefs (bls a) = true
  | [] => rfl
  | b :: a => by simp [bls, noRefs_bls a]
@[simp] theorem noShares_bls : ∀ a : List Bool, noShares (bls a) = true
  | [] => rfl
  | b :: a => by simp [bls, noShares_bls a]
@[simp] theorem atLvls_bls (n : Nat) : ∀ a : List Bool, atLvls n (bls a) = false
  | [] => rfl
  | b :: a => by simp [bls, atLvls_bls n a]
@[simp] theorem upTos_bls (n : Nat) : ∀ a : List Bool, upTos n (bls a) = true
  | [] => rfl
  | b :: a => by simp [bls, upTos_bls n a]
@[simp] theorem expos_bls (n : Nat) (g) : ∀ a : List Bool, expos n g (bls a) = some (bls a, [])
  | [] => rfl
  | b :: a => by simp [bls, expos_bls n g a]
@[simp] theorem impos_bls (n d : Nat) : ∀ (a : List Bool) (q : Nat), impos n d (bls a) q = (bls a, q, [])
  | [], _ => rfl
  | b :: a, q => by simp [bls, impos_bls n d a q]
@[simp] theorem snaps_bls (g) : ∀ a : List Bool, snaps g (bls a) = some (bls a)
  | [] => rfl
  | b :: a => by simp [bls, snaps_bls g a]
@[simp] theorem rowIds_bls (g) : ∀ a : List Bool, rowIds g (bls a) = []
  | [] => rfl
  | b :: a => by simp [bls, rowIds_bls g a]
/-! #### what a term binds and uses -/
def bnd (o x y : Int) : Int := if o = 2 then y else if o = 6 then x else -1
def usesL (o x y : Int) : List Int := if o = 1 ∨ o = 7 then [x, y] else if o = 2 then [x] else []
def usB (us : List Int) (n : Int) : Bool := us.any (fun u => decide (u = n))
def usesV (o x y : Int) : PV := if o = 1 ∨ o = 7 then .sl true 1 [.i x, .i y] else if o = 2 then .sl true 1 [.i x] else .nils
theorem eqBindsI (o x y : Int) (ps : List Pi) : callI G 174 [enc (.mk o x y ps)] [] = some (.i (bnd o x y), []) := by
  rw [callI_eq]
  by_cases h : o = 2 <;> by_cases h2 : o = 6 <;> simp [body1_eq _ _ (gp 174) g174, c174, a174, enc, h, h2, bnd]
theorem eqBindsS (o x y : Int) (ps : List Pi) : callI G 157 [enc (.mk o x y ps)] [] = some (.i (bnd o x y), []) := by
  rw [callI_eq]
  by_cases h : o = 2 <;> by_cases h2 : o = 6 <;> simp [body1_eq _ _ (gp 157) g157, c157, a157, enc, h, h2, bnd]
theorem eqUsesI (o x y : Int) (ps : List Pi) : callI G 175 [enc (.mk o x y ps)] [] = some (usesV o x y, []) := by
  rw [callI_eq]
  by_cases h : o = 1 <;> by_cases h2 : o = 7 <;> by_cases h3 : o = 2 <;> simp [body1_eq _ _ (gp 175) g175, c175, a175, enc, h, h2, h3, usesV]
theorem eqUsesS (o x y : Int) (ps : List Pi) (n : Int) : callI G 156 [enc (.mk o x y ps), .i n] [] = some (.b (usB (usesL o x y) n), []) := by
  rw [callI_eq]
  by_cases h : o = 1 <;> by_cases h2 : o = 7 <;> by_cases h3 : o = 2 <;> simp [body1_eq _ _ (gp 156) g156, c156, a156, enc, h, h2, h3, usesL, usB]
/-! #### impl.free -/
def orL : List Bool → List Bool → List Bool
  | a :: r, b :: bs => (a || b) :: orL r bs
  | r, _ => r
theorem orL_len : ∀ a b : List Bool, (orL a b).length = a.length
  | [], _ => by simp [orL]
  | _ :: _, [] => by simp [orL]
  | a :: r, b :: bs => by simp [orL, orL_len r bs]
def bset (b : Int) (bs : List Bool) : List Bool := if 0 ≤ b then bs.set b.toNat false else bs
def usets : List Int → List Bool → List Bool
  | [], bs => bs
  | u :: us, bs => usets us (bs.set u.toNat true)
theorem usets_len : ∀ (us : List Int) (bs : List Bool), (usets us bs).length = bs.length
  | [], _ => rfl
  | u :: us, bs => by simp [usets, usets_len us]
mutual
def fre : Pi → List Bool
  | .mk o x y ps => usets (usesL o x y) (bset (bnd o x y) (freL ps (List.replicate 30 false)))
def freL : List Pi → List Bool → List Bool
  | [], acc => acc
  | p :: ps, acc => freL ps (orL acc (fre p))
end
theorem freL_len : ∀ (ps : List Pi) (acc : List Bool), (freL ps acc).length = acc.length
  | [], _ => rfl
  | p :: ps, acc => by simp [freL, freL_len ps, orL_len]
theorem bset_len (b : Int) (bs : List Bool) : (bset b bs).length = bs.length := by unfold bset; split <;> simp
theorem fre_len : ∀ p : Pi, (fre p).length = 30
  | .mk o x y ps => by simp [fre, usets_len, bset_len, freL_len]
abbrev Z30 : List PV := [.b false, .b false, .b false, .b false, .b false, .b false, .b false, .b false, .b false, .b false, .b false, .b false, .b false, .b false, .b false, .b false, .b false, .b false, .b false, .b false, .b false, .b false, .b false, .b false, .b false, .b false, .b false, .b false, .b false, .b false]
theorem z30 : bls (List.replicate 30 false) = Z30 := rfl
theorem loopFre0 (T : List PV) (hT : T.all cellP = true) (hk : ∀ g n, knowns g n T = true) (S : PV) (hS : ∀ g n, known g n S = true) (N I : Int) :
    ∀ (br cr bd cd : List Bool), bd.length = cd.length → br.length = cr.length → bd.length + br.length = 30 → ∀ i : Int, i = bd.length →
      loopI G [1, 2, 3, 13, 14, 15, 20, 21] [1, 2, 3] c159l0 ⟨[(1, .ref (0, 1) 1 0 0), (2, .ref (0, 2) 1 0 0), (3, .ref (0, 3) 1 0 0), (13, S), (14, .i N), (15, .i I), (20, .agg (bls (cd ++ cr))), (21, .i i)], [(1, .box T), (2, .box Z30), (3, .box (bls (bd ++ br)))], []⟩ =
        some (.exit 2, ⟨[(1, .ref (0, 1) 1 0 0), (2, .ref (0, 2) 1 0 0), (3, .ref (0, 3) 1 0 0), (13, S), (14, .i N), (15, .i I), (20, .agg (bls (cd ++ cr))), (21, .i 30), (22, .b false)], [(1, .box T), (2, .box Z30), (3, .box (bls (bd ++ orL br cr)))], []⟩)
  | [], cr, bd, cd, h1, h2, h3, i, hi => by
    rw [loopI_eq]
    have h4 : cr = [] := by cases cr with | nil => rfl | cons _ _ => simp at h2
    have h5 : i = 30 := by simp at h3; omega
    subst h4 h5
    simp [r159l0, b159l0, orL, hk, hS]
  | b :: br, cr, bd, cd, h1, h2, h3, i, hi => by
    rw [loopI_eq]
    rcases cr with _ | ⟨c, cr⟩
    · simp at h2
    have hlt : i < 30 := by simp at h3; omega
    have hge : 0 ≤ i := by omega
    have hb1 := bls_at bd b br i.toNat (by omega)
    have hc1 := bls_at cd c cr i.toNat (by omega)
    have hs1 := fun y => bls_set (bd ++ b :: br) i.toNat y
    have hs2 : ∀ y, (bd ++ b :: br).set i.toNat y = bd ++ y :: br := by
      intro y
      rw [show i.toNat = bd.length by omega, List.set_append_right _ _ (Nat.le_refl _)]
      simp
    have hw : IntKind.i64.wrap (i + 1) = i + 1 := wr (by omega)
    have hl2 : i.toNat + 1 ≤ bd.length + (br.length + 1) := by omega
    have hn := loopFre0 T hT hk S hS N I br cr (bd ++ [b || c]) (cd ++ [c]) (by simp [h1]) (by simpa using h2) (by simp at h3 ⊢; omega) (i + 1) (by simp; omega)
    cases b with
    | true =>
      simp [r159l0, b159l0, hk, hS, hlt, hge, hb1, hc1, hs1, hs2, hw, hl2]
      simpa [orL] using hn
    | false =>
      simp [r159l0, b159l0, hk, hS, hlt, hge, hb1, hc1, hs1, hs2, hw, hl2]
      simpa [orL] using hn
end Go.Am
end
section
set_option maxRecDepth 10000
set_option linter.unusedSimpArgs false
set_option linter.unusedVariables false
namespace Go.Am
open Go.Proofs
theorem loopFre1 (o x y : Int) (rest : List Pi) (ih : ∀ p ∈ rest, callI G 159 [enc p] [] = some (.agg (bls (fre p)), [])) :
    ∀ (done : List Pi) (acc : List Bool), acc.length = 30 → (done ++ rest).length ≤ 9223372036854775807 →
      loopI G [1, 2, 3, 13, 14, 15] [1, 2, 3] c159l1 ⟨[(1, .ref (0, 1) 1 0 0), (2, .ref (0, 2) 1 0 0), (3, .ref (0, 3) 1 0 0), (13, .sl false 4 (encs (done ++ rest))), (14, .i (done ++ rest).length), (15, .i done.length)], [(1, .box [.i o, .i x, .i y, .sl false 4 (encs (done ++ rest))]), (2, .box Z30), (3, .box (bls acc))], []⟩ =
        some (.exit 0, ⟨[(1, .ref (0, 1) 1 0 0), (2, .ref (0, 2) 1 0 0), (3, .ref (0, 3) 1 0 0), (13, .sl false 4 (encs (done ++ rest))), (14, .i (done ++ rest).length), (15, .i (done ++ rest).length), (16, .b false)], [(1, .box [.i o, .i x, .i y, .sl false 4 (encs (done ++ rest))]), (2, .box Z30), (3, .box (bls (freL rest acc)))], []⟩) := by
  induction rest with
  | nil =>
    intro done acc ha h
    rw [loopI_eq]
    simp [r159l1, b159l1, encs_len, freL]
  | cons p rest ih2 =>
    intro done acc ha h
    rw [loopI_eq]
    have hat := encs_at done p rest
    have hlt2 : (done.length : Int) < (done.length : Int) + ((rest.length : Int) + 1) := by omega
    have hw : IntKind.i64.wrap ((done.length : Int) + 1) = (done.length : Int) + 1 := wr (by simp at h; omega)
    have hc := ih p List.mem_cons_self
    have hl0 := fun I => loopFre0 [.i o, .i x, .i y, .sl false 4 (encs (done ++ p :: rest))] rfl (by intro g n; simp) (.sl false 4 (encs (done ++ p :: rest))) (by intro g n; simp) (done ++ p :: rest).length I acc (fre p) [] [] rfl (by rw [ha, fre_len]) (by simp [ha]) 0 rfl
    have hn := ih2 (fun q hq => ih q (List.mem_cons_of_mem _ hq)) (done ++ [p]) (orL acc (fre p)) (by rw [orL_len, ha]) (by simpa using h)
    obtain ⟨o', a', b', ps⟩ := p
    simp only [enc] at hc hat
    simp only [List.nil_append, List.length_append, List.length_cons, Int.natCast_add, show ((1 : Nat) : Int) = 1 from rfl] at hl0
    simp [r159l1, b159l1, encs_len, hat, hlt2, hw, hc, hl0]
    simpa [freL, Int.add_assoc] using hn
theorem loopFre2 (rest : List Int) (hr : ∀ u ∈ rest, 0 ≤ u ∧ u < 30) :
    ∀ (done : List Int) (acc : List Bool), acc.length = 30 → (done ++ rest).length ≤ 9223372036854775807 →
      loopI G [2, 3, 42, 43, 44] [2, 3, 42] c159l2 ⟨[(2, .ref (0, 2) 1 0 0), (3, .ref (0, 3) 1 0 0), (42, .own (0, 42) (done ++ rest).length), (43, .i (done ++ rest).length), (44, .i done.length)], [(2, .box Z30), (3, .box (bls acc)), (42, .row 1 (ints (done ++ rest)))], []⟩ =
        some (.exit 4, ⟨[(2, .ref (0, 2) 1 0 0), (3, .ref (0, 3) 1 0 0), (42, .own (0, 42) (done ++ rest).length), (43, .i (done ++ rest).length), (44, .i (done ++ rest).length), (45, .b false)], [(2, .box Z30), (3, .box (bls (usets rest acc))), (42, .row 1 (ints (done ++ rest)))], []⟩) := by
  induction rest with
  | nil =>
    intro done acc ha h
    rw [loopI_eq]
    simp [r159l2, b159l2, ints_len, usets]
  | cons u rest ih2 =>
    intro done acc ha h
    rw [loopI_eq]
    have hat := ints_at done u rest
    have hlt2 : (done.length : Int) < (done.length : Int) + ((rest.length : Int) + 1) := by omega
    have hw : IntKind.i64.wrap ((done.length : Int) + 1) = (done.length : Int) + 1 := wr (by simp at h; omega)
    obtain ⟨hu0, hu1⟩ := hr u List.mem_cons_self
    have hl2 : u.toNat + 1 ≤ 30 := by omega
    have hs1 := fun y => bls_set acc u.toNat y
    have hn := ih2 (fun q hq => hr q (List.mem_cons_of_mem _ hq)) (done ++ [u]) (acc.set u.toNat true) (by simp [ha]) (by simpa using h)
    simp [r159l2, b159l2, ints_len, hat, hlt2, hw, hu0, hu1, hl2, ha, hs1]
    simpa [usets, Int.add_assoc] using hn
/-- The names of a term are names. -/
def NmOK (o x y : Int) : Prop := (∀ u ∈ usesL o x y, 0 ≤ u ∧ u < 30) ∧ bnd o x y < 30
theorem nm_iff (k : Int) : nm k = true ↔ 0 ≤ k ∧ k < 30 := by
  simp only [nm, Bool.and_eq_true, decide_eq_true_eq]
  constructor <;> intro h <;> omega
theorem nmOK {o x y : Int} {k : Nat} (hk : kindOK o x y = some (true, k)) : NmOK o x y := by
  unfold kindOK at hk
  by_cases h0 : o = 0
  · subst h0; simp [NmOK, usesL, bnd]
  by_cases h3 : o = 3
  · subst h3; simp [NmOK, usesL, bnd]
  by_cases h4 : o = 4 ∨ o = 5
  · rcases h4 with h | h <;> subst h <;> simp [NmOK, usesL, bnd]
  by_cases h6 : o = 6
  · subst h6
    simp [nm_iff] at hk
    simp [NmOK, usesL, bnd]; omega
  by_cases h1 : o = 1 ∨ o = 2 ∨ o = 7
  · rw [if_neg h0, if_neg h3, if_neg h4, if_neg h6, if_pos h1] at hk
    simp [nm_iff] at hk
    rcases h1 with h | h | h <;> subst h <;> simp [NmOK, usesL, bnd] <;> omega
  · rw [if_neg h0, if_neg h3, if_neg h4, if_neg h6, if_neg h1] at hk
    cases hk
theorem bset_box (b : Int) (acc : List Bool) (h : 0 ≤ b) : (bls acc).set b.toNat (.b false) = bls (bset b acc) := by
  rw [bls_set]; simp [bset, h]
theorem putC_full : ∀ (vs pre old : List PV), old.length = vs.length → putC (pre ++ old) pre.length vs = pre ++ vs
  | [], pre, old, h => by
    have : old = [] := List.eq_nil_of_length_eq_zero (by simpa using h)
    simp [putC, this]
  | v :: vs, pre, old, h => by
    rcases old with _ | ⟨u, old⟩
    · simp at h
    have := putC_full vs (pre ++ [v]) old (by simpa using h)
    simp only [putC]
    rw [List.set_append_right _ _ (Nat.le_refl _)]
    simpa using this
theorem putC_all (vs old : List PV) (h : old.length = vs.length) : putC old 0 vs = vs := putC_full vs [] old h
theorem loopFre2n (acc : List Bool) :
      loopI G [2, 3, 42, 43, 44] [2, 3, 42] c159l2 ⟨[(2, .ref (0, 2) 1 0 0), (3, .ref (0, 3) 1 0 0), (42, .nils), (43, .i 0), (44, .i 0)], [(2, .box Z30), (3, .box (bls acc))], []⟩ =
        some (.exit 4, ⟨[(2, .ref (0, 2) 1 0 0), (3, .ref (0, 3) 1 0 0), (42, .nils), (43, .i 0), (44, .i 0), (45, .b false)], [(2, .box Z30), (3, .box (bls acc))], []⟩) := by
  rw [loopI_eq]
  simp [r159l2, b159l2]
theorem b47 (o x y : Int) (ps : List Pi) (hl : ps.length ≤ 9223372036854775807) (hn : NmOK o x y) (ih : ∀ p ∈ ps, callI G 159 [enc p] [] = some (.agg (bls (fre p)), [])) : callI G 159 [enc (.mk o x y ps)] [] = some (.agg (bls (fre (.mk o x y ps))), []) := by
  have hl1 := loopFre1 o x y ps ih [] (List.replicate 30 false) (by simp) (by simpa using hl)
  rw [z30] at hl1
  simp only [List.nil_append, List.length_nil, show ((0 : Nat) : Int) = 0 from rfl] at hl1
  have hb := eqBindsI o x y ps
  have hu := eqUsesI o x y ps
  have hlen2 : (freL ps (List.replicate 30 false)).length = 30 := by simp [freL_len]
  have htk : ∀ l : List Bool, l.length = 30 → (bls l).take 30 = bls l := fun l h => List.take_of_length_le (by simp [h])
  have hput : ∀ l : List Bool, l.length = 30 → putC Z30 0 (bls l) = bls l := fun l h => putC_all _ _ (by simp [h])
  simp only [enc] at hb hu
  have hfre : fre (.mk o x y ps) = usets (usesL o x y) (bset (bnd o x y) (freL ps (List.replicate 30 false))) := rfl
  have hB30 := hn.2
  have hB1 := bset_box (bnd o x y) (freL ps (List.replicate 30 false))
  have hB2 : ¬ 0 ≤ bnd o x y → bset (bnd o x y) (freL ps (List.replicate 30 false)) = freL ps (List.replicate 30 false) := fun h => by simp [bset, h]
  have hBl : ∀ B, (bset B (freL ps (List.replicate 30 false))).length = 30 := by simp [bset_len, freL_len]
  have hl2 := loopFre2 (usesL o x y) hn.1 [] (bset (bnd o x y) (freL ps (List.replicate 30 false))) (hBl _) (by unfold usesL; split <;> (try split) <;> simp)
  simp only [List.nil_append, List.length_nil, show ((0 : Nat) : Int) = 0 from rfl] at hl2
  have hlen3 := fre_len (.mk o x y ps)
  rw [hfre] at hlen3 ⊢
  have hBl := hBl (bnd o x y)
  generalize freL ps (List.replicate 30 false) = FL at *
  generalize hBB : bnd o x y = B at *
  rw [callI_eq]
  by_cases hB : 0 ≤ B
  · have hBn : B.toNat + 1 ≤ 30 := by omega
    have hB1 := hB1 hB
    generalize hBS : bset B FL = BS at *
    by_cases h17 : o = 1 ∨ o = 7
    · simp only [usesL, usesV, h17, if_true, ints, List.length_cons, List.length_nil, Nat.zero_add, Nat.reduceAdd, show ((2 : Nat) : Int) = 2 from rfl] at hl2 hu hlen3 ⊢
      simp [body1_eq _ _ (gp 159) g159, c159, a159, enc, encs_len, hl1, hb, hB, hB30, hBn, hB1, hlen2, hu, hl2, hBl, htk, hput, hlen3]
    · by_cases h2 : o = 2
      · have hU : usesL o x y = [x] := by simp [usesL, h2]
        have hV : usesV o x y = .sl true 1 [.i x] := by simp [usesV, h2]
        simp only [hU, hV, ints, List.length_cons, List.length_nil, Nat.zero_add, show ((1 : Nat) : Int) = 1 from rfl] at hl2 hu hlen3 ⊢
        simp [body1_eq _ _ (gp 159) g159, c159, a159, enc, encs_len, hl1, hb, hB, hB30, hBn, hB1, hlen2, hu, hl2, hBl, htk, hput, hlen3]
      · have hl3 := loopFre2n BS
        simp only [usesL, usesV, h17, h2, if_false] at hu hlen3 ⊢
        simp [body1_eq _ _ (gp 159) g159, c159, a159, enc, encs_len, hl1, hb, hB, hB30, hBn, hB1, hlen2, hu, hl3, hBl, htk, hput, hlen3, usets]
  · have e2 := hB2 hB
    rw [e2] at hl2 hlen3 ⊢
    by_cases h17 : o = 1 ∨ o = 7
    · simp only [usesL, usesV, h17, if_true, ints, List.length_cons, List.length_nil, Nat.zero_add, Nat.reduceAdd, show ((2 : Nat) : Int) = 2 from rfl] at hl2 hu hlen3 ⊢
      simp [body1_eq _ _ (gp 159) g159, c159, a159, enc, encs_len, hl1, hb, hB, hlen2, hu, hl2, htk, hput, hlen3]
    · by_cases h2 : o = 2
      · have hU : usesL o x y = [x] := by simp [usesL, h2]
        have hV : usesV o x y = .sl true 1 [.i x] := by simp [usesV, h2]
        simp only [hU, hV, ints, List.length_cons, List.length_nil, Nat.zero_add, show ((1 : Nat) : Int) = 1 from rfl] at hl2 hu hlen3 ⊢
        simp [body1_eq _ _ (gp 159) g159, c159, a159, enc, encs_len, hl1, hb, hB, hlen2, hu, hl2, htk, hput, hlen3]
      · have hl3 := loopFre2n FL
        simp only [usesL, usesV, h17, h2, if_false] at hu hlen3 ⊢
        simp [body1_eq _ _ (gp 159) g159, c159, a159, enc, encs_len, hl1, hb, hB, hlen2, hu, hl3, htk, hput, hlen3, usets]
mutual
theorem eq47 : ∀ p : Pi, Fit p → shape p = true → callI G 159 [enc p] [] = some (.agg (bls (fre p)), [])
  | .mk o x y ps, hf, hs => by
    simp only [shape] at hs
    rcases hk : kindOK o x y with _ | ⟨ok, k⟩
    · simp [hk] at hs
    simp only [hk, Bool.and_eq_true, decide_eq_true_eq] at hs
    obtain ⟨h1, h2, h3⟩ := hs
    subst h1
    exact b47 o x y ps hf.1 (nmOK hk) (eq47s ps hf.2 h3)
theorem eq47s : ∀ ps : List Pi, Fits ps → shapes ps = true → ∀ p ∈ ps, callI G 159 [enc p] [] = some (.agg (bls (fre p)), [])
  | [], _, _, p, h => by cases h
  | q :: ps, hf, hs, p, h => by
    simp only [shapes, Bool.and_eq_true] at hs
    rcases List.mem_cons.1 h with h | h
    · rw [h]; exact eq47 q hf.1 hs.1
    · exact eq47s ps hf.2 hs.2 p h
end
end Go.Am
end
section
set_option maxRecDepth 10000
set_option linter.unusedSimpArgs false
set_option linter.unusedVariables false
namespace Go.Am
open Go.Proofs
mutual
def fr : Pi → Int → Bool
  | .mk o x y ps, n => usB (usesL o x y) n || (decide (¬ bnd o x y = n) && frs ps n)
def frs : List Pi → Int → Bool
  | [], _ => false
  | p :: ps, n => fr p n || frs ps n
end
theorem loop46 (o x y n : Int) (hb : ¬ bnd o x y = n) (rest : List Pi) (ih : ∀ p ∈ rest, callI G 129 [enc p, .i n] [] = some (.b (fr p n), [])) :
    ∀ (done : List Pi), (done ++ rest).length ≤ 9223372036854775807 →
      ∃ r, loopI G [1, 2, 5] [2] c129l0 ⟨[(1, .i n), (2, .ref (0, 2) 1 0 0), (5, .i done.length)], [(2, .box [.i o, .i x, .i y, .sl false 4 (encs (done ++ rest))])], []⟩ = some r ∧
        ((frs rest n = true ∧ r = (.ret, ⟨[(4, .b true)], [], []⟩)) ∨ (frs rest n = false ∧ r = (.exit 0, ⟨[(1, .i n), (2, .ref (0, 2) 1 0 0), (5, .i (done ++ rest).length), (19, .b false)], [(2, .box [.i o, .i x, .i y, .sl false 4 (encs (done ++ rest))])], []⟩))) := by
  induction rest with
  | nil =>
    intro done h
    rw [loopI_eq]
    simp [r129l0, b129l0, encs_len, frs]
  | cons p rest ih2 =>
    intro done h
    rw [loopI_eq]
    have hat := encs_at done p rest
    have hlt2 : (done.length : Int) < (done.length : Int) + ((rest.length : Int) + 1) := by omega
    have hw : IntKind.i64.wrap ((done.length : Int) + 1) = (done.length : Int) + 1 := wr (by simp at h; omega)
    have hc := ih p List.mem_cons_self
    have hbb := eqBindsS o x y (done ++ p :: rest)
    simp only [enc] at hbb
    by_cases hs : fr p n = true
    · obtain ⟨o', a', b', ps⟩ := p
      simp only [enc] at hat hc
      simp [r129l0, b129l0, encs_len, hat, hlt2, hc, hw, hs, hbb, hb, frs]
    · have hs2 : fr p n = false := by simpa using hs
      have hn := ih2 (fun y hy => ih y (List.mem_cons_of_mem _ hy)) (done ++ [p]) (by simpa using h)
      obtain ⟨o', a', b', ps⟩ := p
      simp only [enc] at hc hat
      simp [r129l0, b129l0, encs_len, hat, hlt2, hc, hw, hs2, hbb, hb]
      simpa [hs2, frs, Int.add_assoc] using hn
theorem b46 (o x y n : Int) (ps : List Pi) (hl : ps.length ≤ 9223372036854775807) (ih : ∀ p ∈ ps, callI G 129 [enc p, .i n] [] = some (.b (fr p n), [])) : callI G 129 [enc (.mk o x y ps), .i n] [] = some (.b (fr (.mk o x y ps) n), []) := by
  have hu := eqUsesS o x y ps n
  have hbb := eqBindsS o x y ps
  simp only [enc] at hu hbb
  rw [callI_eq]
  by_cases h1 : usB (usesL o x y) n = true
  · simp [body1_eq _ _ (gp 129) g129, c129, a129, enc, hu, h1, fr]
  · have h1 : usB (usesL o x y) n = false := by simpa using h1
    by_cases hb : bnd o x y = n
    · have hx : ∃ t, loopI G [1, 2, 5] [2] c129l0 ⟨[(1, .i n), (2, .ref (0, 2) 1 0 0), (5, .i 0)], [(2, .box [.i o, .i x, .i y, .sl false 4 (encs ps)])], []⟩ = some (.exit 0, ⟨[(1, .i n), (2, .ref (0, 2) 1 0 0), (5, .i 0), (19, .b false)], [(2, .box [.i o, .i x, .i y, .sl false 4 (encs ps)])], []⟩) ∧ t = (0 : Nat) := by
        refine ⟨0, ?_, rfl⟩
        rw [loopI_eq]
        by_cases hz : ps.length = 0
        · simp [r129l0, b129l0, encs_len, hbb, hb, hz]
        · have : 0 < ps.length := by omega
          simp [r129l0, b129l0, encs_len, hbb, hb, this]
      obtain ⟨_, hx, _⟩ := hx
      simp [body1_eq _ _ (gp 129) g129, c129, a129, enc, hu, h1, fr, hx, hb]
    · obtain ⟨r, hlp, hr⟩ := loop46 o x y n hb ps ih [] (by simpa using hl)
      simp only [List.nil_append, List.length_nil, show ((0 : Nat) : Int) = 0 from rfl] at hlp hr
      rcases hr with ⟨h2, hr⟩ | ⟨h2, hr⟩ <;> simp [body1_eq _ _ (gp 129) g129, c129, a129, enc, hu, h1, fr, hlp, hb, hr, h2]
mutual
theorem eq46 : ∀ p : Pi, Fit p → ∀ n, callI G 129 [enc p, .i n] [] = some (.b (fr p n), [])
  | .mk o x y ps, hf, n => b46 o x y n ps hf.1 (fun p hp => eq46s ps hf.2 p hp n)
theorem eq46s : ∀ ps : List Pi, Fits ps → ∀ p ∈ ps, ∀ n, callI G 129 [enc p, .i n] [] = some (.b (fr p n), [])
  | [], _, p, h, _ => by cases h
  | q :: ps, hf, p, h, n => by
    rcases List.mem_cons.1 h with h | h
    · rw [h]; exact eq46 q hf.1 n
    · exact eq46s ps hf.2 p h n
end
/-! the same names are free -/
def at30 (bs : List Bool) (k : Int) : Bool := bs.getD k.toNat false
theorem orL_getD : ∀ (a b : List Bool) (k : Nat), a.length = b.length → (orL a b).getD k false = (a.getD k false || b.getD k false)
  | [], [], _, _ => by simp [orL]
  | a :: r, b :: bs, 0, _ => by simp [orL]
  | a :: r, b :: bs, k + 1, h => by simpa [orL] using orL_getD r bs k (by simpa using h)
  | [], _ :: _, _, h => by simp at h
  | _ :: _, [], _, h => by simp at h
theorem set_getD (l : List Bool) (i k : Nat) (v : Bool) (h : i < l.length) : (l.set i v).getD k false = if i = k then v else l.getD k false := by
  simp only [List.getD_eq_getElem?_getD, List.getElem?_set]
  split
  · simp [h]
  · rfl
theorem usets_getD : ∀ (us : List Int) (bs : List Bool) (k : Int), bs.length = 30 → 0 ≤ k → (∀ u ∈ us, 0 ≤ u ∧ u < 30) → at30 (usets us bs) k = (usB us k || at30 bs k)
  | [], bs, k, _, _, _ => by simp [usets, usB]
  | u :: us, bs, k, h, hk, hu => by
    have h1 := hu u List.mem_cons_self
    simp only [usets]
    rw [usets_getD us _ k (by simp [h]) hk (fun v hv => hu v (List.mem_cons_of_mem _ hv))]
    simp only [at30, usB, List.any_cons]
    rw [set_getD _ _ _ _ (by omega)]
    by_cases e : u = k
    · simp [e]
    · have : ¬ u.toNat = k.toNat := by omega
      simp [e, this]
theorem bset_getD (b : Int) (bs : List Bool) (k : Int) (h : bs.length = 30) (hk : 0 ≤ k) (hb : b < 30) : at30 (bset b bs) k = (decide (¬ b = k) && at30 bs k) := by
  unfold bset at30
  by_cases h0 : 0 ≤ b
  · rw [if_pos h0, set_getD _ _ _ _ (by omega)]
    by_cases e : b = k
    · simp [e]
    · have : ¬ b.toNat = k.toNat := by omega
      simp [e, this]
  · have : ¬ b = k := by omega
    simp [h0, this]
theorem rep_getD (n k : Nat) : (List.replicate n false).getD k false = false := by
  simp only [List.getD_eq_getElem?_getD, List.getElem?_replicate]
  split <;> rfl
mutual
theorem fre_fr : ∀ (p : Pi), shape p = true → ∀ k : Int, 0 ≤ k → at30 (fre p) k = fr p k
  | .mk o x y ps, hs, k, hk => by
    simp only [shape] at hs
    rcases hko : kindOK o x y with _ | ⟨ok, m⟩
    · simp [hko] at hs
    simp only [hko, Bool.and_eq_true, decide_eq_true_eq] at hs
    obtain ⟨h1, h2, h3⟩ := hs
    subst h1
    have hn := nmOK hko
    have hL := freL_fr ps h3 (List.replicate 30 false) k hk (by simp)
    have e0 : at30 (List.replicate 30 false) k = false := rep_getD 30 k.toNat
    simp only [fre, fr]
    rw [usets_getD _ _ k (by simp [bset_len, freL_len]) hk hn.1, bset_getD _ _ k (by simp [freL_len]) hk hn.2, hL, e0, Bool.false_or]
theorem freL_fr : ∀ (ps : List Pi), shapes ps = true → ∀ (acc : List Bool) (k : Int), 0 ≤ k → acc.length = 30 → at30 (freL ps acc) k = (at30 acc k || frs ps k)
  | [], _, acc, k, _, _ => by simp [freL, frs]
  | p :: ps, hs, acc, k, hk, ha => by
    simp only [shapes, Bool.and_eq_true] at hs
    have h1 := fre_fr p hs.1 k hk
    simp only [freL, frs]
    rw [freL_fr ps hs.2 _ k hk (by rw [orL_len, ha])]
    have : at30 (orL acc (fre p)) k = (at30 acc k || at30 (fre p) k) := orL_getD _ _ _ (by rw [ha, fre_len])
    rw [this, h1, Bool.or_assoc]
end
end Go.Am
end
section
set_option maxRecDepth 10000
set_option linter.unusedSimpArgs false
set_option linter.unusedVariables false
namespace Go.Am
open Go.Proofs
/-! slices.ContainsFunc with a closure that holds references to outer frames -/
theorem loop73c (cf : Nat) (caps : List PV) (o : Stack) (F : Pi → Bool) (hnr : noRefs caps = false) (ha : atLvls o.length caps = false) (hk : ∀ g, knowns g o.length caps = true) (rest : List Pi) (ih : ∀ x ∈ rest, callI G cf (enc x :: caps) (o ++ [[]]) = some (.b (F x), o ++ [[]])) :
    ∀ (done : List Pi), (done ++ rest).length ≤ 9223372036854775807 →
      ∃ r, loopI G [0, 1, 7, 8] [] c135l0 ⟨[(0, .sl false 4 (encs (done ++ rest))), (1, .clo cf caps), (7, .i (done ++ rest).length), (8, .i done.length)], [], o⟩ = some r ∧
        ((rest.any F = true ∧ ∃ i : Int, 0 ≤ i ∧ r = (.ret, ⟨[(4, .i i)], [], o⟩)) ∨ (rest.any F = false ∧ r = (.exit 0, ⟨[(0, .sl false 4 (encs (done ++ rest))), (1, .clo cf caps), (7, .i (done ++ rest).length), (8, .i (done ++ rest).length), (9, .b false)], [], o⟩))) := by
  induction rest with
  | nil =>
    intro done h
    rw [loopI_eq]
    simp [r135l0, b135l0, encs_len, hk]
  | cons x rest ih2 =>
    intro done h
    rw [loopI_eq]
    have hat := encs_at done x rest
    have hlt2 : (done.length : Int) < (done.length : Int) + ((rest.length : Int) + 1) := by omega
    have hw : IntKind.i64.wrap ((done.length : Int) + 1) = (done.length : Int) + 1 := wr (by simp at h; omega)
    have hc := ih x List.mem_cons_self
    by_cases hs : F x = true
    · obtain ⟨o', a', b', ps⟩ := x
      simp only [enc] at hat hc
      simp [r135l0, b135l0, encs_len, hat, hlt2, hc, hw, hs, hnr, ha, hk]
    · have hs2 : F x = false := by simpa using hs
      have hn := ih2 (fun y hy => ih y (List.mem_cons_of_mem _ hy)) (done ++ [x]) (by simpa using h)
      obtain ⟨o', a', b', ps⟩ := x
      simp only [enc] at hc hat
      simp [r135l0, b135l0, encs_len, hat, hlt2, hc, hw, hs2, hnr, ha, hk]
      simpa [hs2, Int.add_assoc] using hn
theorem eq53c (cf : Nat) (caps : List PV) (o : Stack) (F : Pi → Bool) (hnr : noRefs caps = false) (ha : atLvls o.length caps = false) (hk : ∀ g, knowns g o.length caps = true) (ha2 : atLvls (o.length + 1) caps = false) (hk2 : ∀ g, knowns g (o.length + 1) caps = true) (ps : List Pi) (hl : ps.length ≤ 9223372036854775807)
    (ih : ∀ x ∈ ps, callI G cf (enc x :: caps) (o ++ [[]] ++ [[]]) = some (.b (F x), o ++ [[]] ++ [[]])) : callI G 79 [.sl false 4 (encs ps), .clo cf caps] o = some (.b (ps.any F), o) := by
  have h73 : ∃ i : Int, (decide (0 ≤ i)) = ps.any F ∧ callI G 135 [.sl false 4 (encs ps), .clo cf caps] (o ++ [[]]) = some (.i i, o ++ [[]]) := by
    obtain ⟨r, hl, hr⟩ := loop73c cf caps (o ++ [[]]) F hnr (by simpa using ha2) (by simpa using hk2) ps ih [] (by simpa using hl)
    simp only [List.nil_append, List.length_nil, show ((0 : Nat) : Int) = 0 from rfl] at hl hr
    rcases hr with ⟨h1, i, hi, hr⟩ | ⟨h1, hr⟩
    · refine ⟨i, by simp [h1, hi], ?_⟩
      rw [callI_eq]
      simp [body1_eq _ _ (gp 135) g135, c135, a135, encs_len, hl, hr, hk2]
    · refine ⟨-1, by simp [h1], ?_⟩
      rw [callI_eq]
      simp [body1_eq _ _ (gp 135) g135, c135, a135, encs_len, hl, hr, hk2]
  obtain ⟨i, hi, hc⟩ := h73
  rw [callI_eq]
  simp [body1_eq _ _ (gp 79) g79, c79, a79, hc, hi, hnr, ha, hk]
theorem fits_mem : ∀ {ps : List Pi}, Fits ps → ∀ p ∈ ps, Fit p
  | q :: ps, h, p, hp => by
    rcases List.mem_cons.1 hp with e | e
    · rw [e]; exact h.1
    · exact fits_mem h.2 p e
/-! members -/
def ok (p : Pi) : Bool := decide (pn p 14 ≤ 14) && shape p
def memB : Pi → Bool
  | .mk o x y _ => !decide (o = 0) && !decide (o = 5) && !decide (o = 6) && !(decide (o = 7) && decide (x = y))
theorem eqOkS (p : Pi) (hf : Fit p) : callI G 127 [enc p] [] = some (.b (ok p), []) := by rw [eq10 p hf, plain_ok]; rfl
theorem eqOkI (p : Pi) (hf : Fit p) : callI G 158 [enc p] [] = some (.b (ok p), []) := eq12 p hf
theorem eqMember (p : Pi) : callI G 128 [enc p] [] = some (.b (memB p), []) := by
  obtain ⟨o, x, y, ps⟩ := p
  rw [callI_eq]
  by_cases h0 : o = 0
  · subst h0; simp [body1_eq _ _ (gp 128) g128, c128, a128, enc, memB]
  by_cases h5 : o = 5
  · subst h5; simp [body1_eq _ _ (gp 128) g128, c128, a128, enc, memB]
  by_cases h6 : o = 6
  · subst h6; simp [body1_eq _ _ (gp 128) g128, c128, a128, enc, memB]
  by_cases h7 : o = 7
  · subst h7
    by_cases hx : x = y <;> simp [body1_eq _ _ (gp 128) g128, c128, a128, enc, memB, hx]
  · simp [body1_eq _ _ (gp 128) g128, c128, a128, enc, memB, h0, h5, h6, h7]
def hiL : List Bool → Int → Int → Bool
  | [], _, _ => false
  | b :: bs, k, m => (b && decide (6 + m ≤ k)) || hiL bs (k + 1) m
theorem loop55 (m : Int) (hm : 0 ≤ m ∧ m ≤ 4) : ∀ (cr cd : List Bool), cd.length + cr.length = 30 → ∀ i : Int, i = cd.length →
    ∃ r, loopI G [1, 38, 39] [] c132l0 ⟨[(1, .i m), (38, .agg (bls (cd ++ cr))), (39, .i i)], [], []⟩ = some r ∧
      ((hiL cr i m = true ∧ r = (.ret, ⟨[(4, .b false)], [], []⟩)) ∨ (hiL cr i m = false ∧ r = (.exit 0, ⟨[(1, .i m), (38, .agg (bls (cd ++ cr))), (39, .i 30), (40, .b false)], [], []⟩)))
  | [], cd, h, i, hi => by
    rw [loopI_eq]
    have : i = 30 := by simp at h; omega
    subst this
    simp [r132l0, b132l0, hiL]
  | c :: cr, cd, h, i, hi => by
    rw [loopI_eq]
    have hlt : i < 30 := by simp at h; omega
    have hge : 0 ≤ i := by omega
    have hc1 := bls_at cd c cr i.toNat (by omega)
    have hw : IntKind.i64.wrap (i + 1) = i + 1 := wr (by omega)
    have hw2 : IntKind.i64.wrap (6 + m) = 6 + m := wr (by omega)
    obtain ⟨r, hn, hr⟩ := loop55 m hm cr (cd ++ [c]) (by simp at h ⊢; omega) (i + 1) (by simp; omega)
    simp only [List.append_assoc, List.cons_append, List.nil_append] at hn hr
    cases c with
    | false =>
      refine ⟨r, ?_, ?_⟩
      · simp [r132l0, b132l0, hlt, hge, hc1, hw, hw2]
        exact hn
      · simpa [hiL] using hr
    | true =>
      by_cases h6 : 6 + m ≤ i
      · refine ⟨_, ?_, .inl ⟨by simp [hiL, h6], rfl⟩⟩
        simp [r132l0, b132l0, hlt, hge, hc1, hw, hw2, h6]
      · refine ⟨r, ?_, ?_⟩
        · simp [r132l0, b132l0, hlt, hge, hc1, hw, hw2, h6]
          exact hn
        · simpa [hiL, h6] using hr
def mok (m : Int) (p : Pi) : Bool := ok p && memB p && !hiL (fre p) 0 m
theorem eqMemberOk (p : Pi) (hf : Fit p) (m : Int) (hm : 0 ≤ m ∧ m ≤ 4) : callI G 132 [enc p, .i m] [] = some (.b (mok m p), []) := by
  have hok := eqOkI p hf
  rw [callI_eq]
  by_cases hk : ok p = true
  · have h47 := eq47 p hf (by unfold ok at hk; simp at hk; exact hk.2)
    obtain ⟨r, hlp, hr⟩ := loop55 m hm (fre p) [] (by simp [fre_len]) 0 rfl
    simp only [List.nil_append] at hlp hr
    obtain ⟨o, x, y, ps⟩ := p
    generalize hfp : fre (.mk o x y ps) = F at *
    simp only [enc] at hok h47
    by_cases h0 : o = 0
    · subst h0; simp [body1_eq _ _ (gp 132) g132, c132, a132, enc, memB, mok, hok, hk]
    by_cases h5 : o = 5
    · subst h5; simp [body1_eq _ _ (gp 132) g132, c132, a132, enc, memB, mok, hok, hk]
    by_cases h6 : o = 6
    · subst h6; simp [body1_eq _ _ (gp 132) g132, c132, a132, enc, memB, mok, hok, hk]
    by_cases h7 : o = 7
    · subst h7
      by_cases hx : x = y
      · subst hx
        simp [body1_eq _ _ (gp 132) g132, c132, a132, enc, memB, mok, hok, hk]
      · rcases hr with ⟨h8, hr⟩ | ⟨h8, hr⟩ <;> simp [body1_eq _ _ (gp 132) g132, c132, a132, enc, memB, mok, hok, hk, hx, h47, hlp, hr, hfp, h8]
    · rcases hr with ⟨h8, hr⟩ | ⟨h8, hr⟩ <;> simp [body1_eq _ _ (gp 132) g132, c132, a132, enc, memB, mok, hok, hk, h0, h5, h6, h7, h47, hlp, hr, hfp, h8]
  · have hk : ok p = false := by simpa using hk
    obtain ⟨o, x, y, ps⟩ := p
    simp only [enc] at hok
    simp [body1_eq _ _ (gp 132) g132, c132, a132, enc, mok, hok, hk]
end Go.Am
end
section
set_option maxRecDepth 10000
set_option linter.unusedSimpArgs false
set_option linter.unusedVariables false
namespace Go.Am
open Go.Proofs
def srt (s : Int) : Bool := decide (0 ≤ s) && decide (s ≤ 2)
def frF (p : Pi) : Nat → Int → Bool
  | 0, _ => false
  | k + 1, n => fr p n || frF p k (n + 1)
/-! impl.PoolOk -/
theorem eq54 (ss : List Int) (ms : List Pi) (hs : ss.length ≤ 4) (p : Pi) (hf : Fit p) (rest : Stack) :
    callI G 131 [enc p, .ref (0, 1) 1 0 0] ([(1, .box [.sl false 1 (ints ss), .sl false 4 (encs ms)])] :: rest) = some (.b (!mok ss.length p), [(1, .box [.sl false 1 (ints ss), .sl false 4 (encs ms)])] :: rest) := by
  have h := eqMemberOk p hf ss.length (by omega)
  rw [callI_eq]
  obtain ⟨o, x, y, ps⟩ := p
  simp only [enc] at h
  simp [body1_eq _ _ (gp 131) g131, c131, a131, enc, h, ints_len]
theorem loop30 (b : PV) (hb : ∀ g n, known g n b = true) (hc : cellP b = true) (S : List Int) (rest : List Int) :
    ∀ (done : List Int), (done ++ rest).length ≤ 9223372036854775807 →
      ∃ r, loopI G [1, 10, 11, 12] [1] c76l0 ⟨[(1, .ref (0, 1) 1 0 0), (10, .sl false 1 (ints (done ++ rest))), (11, .i (done ++ rest).length), (12, .i done.length)], [(1, .box [.sl false 1 (ints S), b])], []⟩ = some r ∧
        ((rest.all srt = false ∧ r = (.ret, ⟨[(2, .b false)], [], []⟩)) ∨ (rest.all srt = true ∧ r = (.exit 0, ⟨[(1, .ref (0, 1) 1 0 0), (10, .sl false 1 (ints (done ++ rest))), (11, .i (done ++ rest).length), (12, .i (done ++ rest).length), (13, .b false)], [(1, .box [.sl false 1 (ints S), b])], []⟩))) := by
  induction rest with
  | nil =>
    intro done h
    rw [loopI_eq]
    simp [r76l0, b76l0, ints_len, hb]
  | cons u rest ih2 =>
    intro done h
    rw [loopI_eq]
    have hat := ints_at done u rest
    have hlt2 : (done.length : Int) < (done.length : Int) + ((rest.length : Int) + 1) := by omega
    have hw : IntKind.i64.wrap ((done.length : Int) + 1) = (done.length : Int) + 1 := wr (by simp at h; omega)
    have hn := ih2 (done ++ [u]) (by simpa using h)
    by_cases h1 : u < 0
    · have h2 : ¬ 0 ≤ u := by omega
      simp [r76l0, b76l0, ints_len, hat, hlt2, hw, hb, h1, srt, h2]
    · by_cases h3 : 3 ≤ u
      · have h2 : ¬ u ≤ 2 := by omega
        simp [r76l0, b76l0, ints_len, hat, hlt2, hw, hb, h1, srt, h2, h3]
      · have h2 : 0 ≤ u := by omega
        have h4 : u ≤ 2 := by omega
        simp [r76l0, b76l0, ints_len, hat, hlt2, hw, hb, h1, h3]
        simpa [srt, h2, h4, Int.add_assoc] using hn
def poolI (ss : List Int) (ms : List Pi) : Bool := decide (ss.length ≤ 4) && (ss.all srt && !(ms.any fun p => !mok ss.length p))
theorem eqPoolOkI (ss : List Int) (ms : List Pi) (hl : ss.length ≤ 9223372036854775807) (hm : ms.length ≤ 9223372036854775807) (hf : Fits ms) : callI G 76 [encPool ss ms] [] = some (.b (poolI ss ms), []) := by
  rw [callI_eq]
  unfold poolI
  by_cases h4 : ss.length ≤ 4
  · have h4' : ¬ (4 : Int) < ss.length := by omega
    have h53 := eq53c 131 [.ref (0, 1) 1 0 0] [[(1, .box [.sl false 1 (ints ss), .sl false 4 (encs ms)])]] (fun p => !mok ss.length p) rfl rfl (by intro g; simp) rfl (by intro g; simp) ms hm (fun x hx => eq54 ss ms h4 x (fits_mem hf x hx) [[], []])
    obtain ⟨r, hlp, hr⟩ := loop30 (.sl false 4 (encs ms)) (by intro g n; simp) rfl ss ss [] (by simpa using hl)
    simp only [List.nil_append, List.length_nil, show ((0 : Nat) : Int) = 0 from rfl] at hlp hr
    rcases hr with ⟨h2, hr⟩ | ⟨h2, hr⟩ <;> simp [body1_eq _ _ (gp 76) g76, c76, a76, ints_len, h4, h4', hlp, hr, h2, h53]
  · have h4' : (4 : Int) < ss.length := by omega
    simp [body1_eq _ _ (gp 76) g76, c76, a76, ints_len, h4, h4']
/-! spec.PoolOk -/
theorem loop28a (b : PV) (hb : ∀ g n, known g n b = true) (rest : List Int) :
    ∀ (done : List Int), (done ++ rest).length ≤ 9223372036854775807 →
      ∃ r, loopI G [1, 3] [1] c72l0 ⟨[(1, .ref (0, 1) 1 0 0), (3, .i done.length)], [(1, .box [.sl false 1 (ints (done ++ rest)), b])], []⟩ = some r ∧
        ((rest.all srt = false ∧ r = (.ret, ⟨[(2, .b false)], [], []⟩)) ∨ (rest.all srt = true ∧ r = (.exit 0, ⟨[(1, .ref (0, 1) 1 0 0), (3, .i (done ++ rest).length), (14, .b false)], [(1, .box [.sl false 1 (ints (done ++ rest)), b])], []⟩))) := by
  induction rest with
  | nil =>
    intro done h
    rw [loopI_eq]
    simp [r72l0, b72l0, ints_len, hb]
  | cons u rest ih2 =>
    intro done h
    rw [loopI_eq]
    have hat := ints_at done u rest
    have hlt2 : (done.length : Int) < (done.length : Int) + ((rest.length : Int) + 1) := by omega
    have hw : IntKind.i64.wrap ((done.length : Int) + 1) = (done.length : Int) + 1 := wr (by simp at h; omega)
    have hn := ih2 (done ++ [u]) (by simpa using h)
    by_cases h1 : 0 ≤ u ∧ u ≤ 2
    · simp [r72l0, b72l0, ints_len, hat, hlt2, hw, hb, l6In, h1.1, h1.2]
      simpa [srt, h1.1, h1.2, Int.add_assoc] using hn
    · have h2 : (decide (0 ≤ u) && decide (u ≤ 2)) = false := by
        simp only [Bool.and_eq_false_iff, decide_eq_false_iff_not]; omega
      simp [r72l0, b72l0, ints_len, hat, hlt2, hw, hb, l6In, h2, srt]
theorem loop28b (ss : List Int) (md mr : List Pi) (p : Pi) (hf : Fit p) (hi : md.length ≤ 9223372036854775807) : ∀ (k : Nat) (n : Int), 0 ≤ n → n + k = 30 →
    ∃ r, loopI G [1, 4, 5] [1] c72l1 ⟨[(1, .ref (0, 1) 1 0 0), (4, .i md.length), (5, .i n)], [(1, .box [.sl false 1 (ints ss), .sl false 4 (encs (md ++ p :: mr))])], []⟩ = some r ∧
      ((frF p k n = true ∧ r = (.ret, ⟨[(2, .b false)], [], []⟩)) ∨ (frF p k n = false ∧ r = (.exit 4, ⟨[(1, .ref (0, 1) 1 0 0), (4, .i md.length), (5, .i 30), (52, .b false)], [(1, .box [.sl false 1 (ints ss), .sl false 4 (encs (md ++ p :: mr))])], []⟩)))
  | 0, n, h0, h => by
    have : n = 30 := by omega
    subst this
    rw [loopI_eq]
    simp [r72l1, b72l1, frF]
  | k + 1, n, h0, h => by
    have h46 := eq46 p hf n
    have hat := encs_at md p mr
    have hlt2 : (md.length : Int) < (md.length : Int) + ((mr.length : Int) + 1) := by omega
    have hlt : n < 30 := by omega
    have hw : IntKind.i64.wrap (n + 1) = n + 1 := wr (by omega)
    obtain ⟨r, hn, hr⟩ := loop28b ss md mr p hf hi k (n + 1) (by omega) (by omega)
    rw [loopI_eq]
    by_cases hfr : fr p n = true
    · obtain ⟨o, x, y, ps⟩ := p
      simp only [enc] at hat h46
      refine ⟨_, ?_, .inl ⟨by simp [frF, hfr], rfl⟩⟩
      simp [r72l1, b72l1, hlt, hat, encs_len, hlt2, h46, hfr]
    · have hfr : fr p n = false := by simpa using hfr
      obtain ⟨o, x, y, ps⟩ := p
      simp only [enc] at hat h46
      refine ⟨r, ?_, by simpa [frF, hfr] using hr⟩
      simp [r72l1, b72l1, hlt, hat, encs_len, hlt2, h46, hfr, hw]
      exact hn
def mokS (m : Int) (p : Pi) : Bool := ok p && memB p && !frF p (24 - m).toNat (6 + m)
theorem loop28c (ss : List Int) (hs : ss.length ≤ 4) (rest : List Pi) :
    ∀ (done : List Pi), Fits rest → (done ++ rest).length ≤ 9223372036854775807 →
      ∃ r, loopI G [1, 4] [1] c72l2 ⟨[(1, .ref (0, 1) 1 0 0), (4, .i done.length)], [(1, .box [.sl false 1 (ints ss), .sl false 4 (encs (done ++ rest))])], []⟩ = some r ∧
        ((rest.all (mokS ss.length) = false ∧ r = (.ret, ⟨[(2, .b false)], [], []⟩)) ∨ (rest.all (mokS ss.length) = true ∧ r = (.exit 2, ⟨[(1, .ref (0, 1) 1 0 0), (4, .i (done ++ rest).length), (28, .b false)], [(1, .box [.sl false 1 (ints ss), .sl false 4 (encs (done ++ rest))])], []⟩))) := by
  induction rest with
  | nil =>
    intro done hf h
    rw [loopI_eq]
    simp [r72l2, b72l2, encs_len]
  | cons p rest ih2 =>
    intro done hf h
    rw [loopI_eq]
    have hat := encs_at done p rest
    have hlt2 : (done.length : Int) < (done.length : Int) + ((rest.length : Int) + 1) := by omega
    have hw : IntKind.i64.wrap ((done.length : Int) + 1) = (done.length : Int) + 1 := wr (by simp at h; omega)
    have hw2 : IntKind.i64.wrap (6 + (ss.length : Int)) = 6 + (ss.length : Int) := wr (by omega)
    have hn := ih2 (done ++ [p]) hf.2 (by simpa using h)
    obtain ⟨r, hl1, hr⟩ := loop28b ss done rest p hf.1 (by simp at h; omega) (24 - (ss.length : Int)).toNat (6 + ss.length) (by omega) (by omega)
    have hok := eqOkS p hf.1
    have hme := eqMember p
    by_cases h1 : ok p = true
    · by_cases h2 : memB p = true
      · rcases hr with ⟨h3, hr⟩ | ⟨h3, hr⟩
        · have hv : mokS ss.length p = false := by unfold mokS; rw [h1, h2, h3]; rfl
          obtain ⟨o, x, y, ps⟩ := p
          simp only [enc] at hat hok hme
          simp [r72l2, b72l2, encs_len, ints_len, hat, hlt2, hw, hw2, hok, hme, h1, h2, hl1, hr, hv]
        · have hv : mokS ss.length p = true := by unfold mokS; rw [h1, h2, h3]; rfl
          obtain ⟨o, x, y, ps⟩ := p
          simp only [enc] at hat hok hme
          simp [r72l2, b72l2, encs_len, ints_len, hat, hlt2, hw, hw2, hok, hme, h1, h2, hl1, hr]
          simpa [hv, Int.add_assoc] using hn
      · have h2 : memB p = false := by simpa using h2
        have hv : mokS ss.length p = false := by unfold mokS; rw [h1, h2]; rfl
        obtain ⟨o, x, y, ps⟩ := p
        simp only [enc] at hat hok hme
        simp [r72l2, b72l2, encs_len, ints_len, hat, hlt2, hw, hw2, hok, hme, h1, h2, hv]
    · have h1 : ok p = false := by simpa using h1
      have hv : mokS ss.length p = false := by unfold mokS; rw [h1]; rfl
      obtain ⟨o, x, y, ps⟩ := p
      simp only [enc] at hat hok hme
      simp [r72l2, b72l2, encs_len, ints_len, hat, hlt2, hw, hw2, hok, hme, h1, hv]
def poolS (ss : List Int) (ms : List Pi) : Bool := decide (ss.length ≤ 4) && (ss.all srt && ms.all (mokS ss.length))
theorem eqPoolOkS (ss : List Int) (ms : List Pi) (hl : ss.length ≤ 9223372036854775807) (hm : ms.length ≤ 9223372036854775807) (hf : Fits ms) : callI G 72 [encPool ss ms] [] = some (.b (poolS ss ms), []) := by
  rw [callI_eq]
  unfold poolS
  by_cases h4 : ss.length ≤ 4
  · have h4' : ¬ (4 : Int) < ss.length := by omega
    obtain ⟨r, hlp, hr⟩ := loop28a (.sl false 4 (encs ms)) (by intro g n; simp) ss [] (by simpa using hl)
    obtain ⟨r2, hlp2, hr2⟩ := loop28c ss h4 ms [] hf (by simpa using hm)
    simp only [List.nil_append, List.length_nil, show ((0 : Nat) : Int) = 0 from rfl] at hlp hr hlp2 hr2
    rcases hr with ⟨h2, hr⟩ | ⟨h2, hr⟩
    · simp [body1_eq _ _ (gp 72) g72, c72, a72, ints_len, h4, h4', hlp, hr, h2]
    · rcases hr2 with ⟨h3, hr2⟩ | ⟨h3, hr2⟩ <;> simp [body1_eq _ _ (gp 72) g72, c72, a72, ints_len, h4, h4', hlp, hr, h2, hlp2, hr2, h3]
  · have h4' : (4 : Int) < ss.length := by omega
    simp [body1_eq _ _ (gp 72) g72, c72, a72, ints_len, h4, h4']
/-! the plain law -/
theorem hiL_frF (p : Pi) (m : Int) : ∀ (cr : List Bool) (k : Int), 0 ≤ k → 6 + m ≤ k → (∀ j : Nat, j < cr.length → cr.getD j false = fr p (k + j)) → hiL cr k m = frF p cr.length k
  | [], k, _, _, _ => rfl
  | b :: bs, k, hk, hm, h => by
    have h0 := h 0 (by simp)
    simp only [List.getD_cons_zero, show ((0 : Nat) : Int) = 0 from rfl, Int.add_zero] at h0
    have ih := hiL_frF p m bs (k + 1) (by omega) (by omega) (fun j hj => by
      have := h (j + 1) (by simp; omega)
      simp only [List.getD_cons_succ, Int.natCast_add, show ((1 : Nat) : Int) = 1 from rfl] at this
      rw [this]; congr 1; omega)
    simp only [hiL, List.length_cons, frF, ih, h0]
    simp [hm]
theorem hiL_low (p : Pi) (m : Int) (hm : 0 ≤ m ∧ m ≤ 4) : ∀ (cr : List Bool) (k : Int), 0 ≤ k → k ≤ 6 + m → k + cr.length = 30 → (∀ j : Nat, j < cr.length → cr.getD j false = fr p (k + j)) → hiL cr k m = frF p (24 - m).toNat (6 + m)
  | [], k, hk, h1, h2, h => by simp at h2; omega
  | b :: bs, k, hk, h1, h2, h => by
    by_cases e : k = 6 + m
    · subst e
      rw [hiL_frF p m (b :: bs) (6 + m) hk (Int.le_refl _) h]
      congr 1
      omega
    · have e2 : ¬ 6 + m ≤ k := by omega
      have ih := hiL_low p m hm bs (k + 1) (by omega) (by omega) (by simp at h2; omega) (fun j hj => by
        have := h (j + 1) (by simp; omega)
        simp only [List.getD_cons_succ, Int.natCast_add, show ((1 : Nat) : Int) = 1 from rfl] at this
        rw [this]; congr 1; omega)
      simp [hiL, e2, ih]
theorem mok_same (m : Int) (hm : 0 ≤ m ∧ m ≤ 4) (p : Pi) : mokS m p = mok m p := by
  unfold mok mokS
  by_cases h : ok p = true
  · have hs : shape p = true := by unfold ok at h; simp at h; exact h.2
    rw [hiL_low p m hm (fre p) 0 (by omega) (by omega) (by rw [fre_len]; rfl) (fun j hj => by
      have := fre_fr p hs j (by omega)
      simpa [at30] using this)]
  · simp [h]
theorem any_not_mok (m : Int) (hm : 0 ≤ m ∧ m ≤ 4) : ∀ ms : List Pi, ms.all (mokS m) = !(ms.any fun p => !mok m p)
  | [] => rfl
  | p :: ms => by simp [any_not_mok m hm ms, mok_same m hm p]
theorem pool_same (ss : List Int) (ms : List Pi) : poolS ss ms = poolI ss ms := by
  unfold poolS poolI
  by_cases h : ss.length ≤ 4
  · rw [any_not_mok ss.length (by omega) ms]
  · simp [h]
end Go.Am
end
