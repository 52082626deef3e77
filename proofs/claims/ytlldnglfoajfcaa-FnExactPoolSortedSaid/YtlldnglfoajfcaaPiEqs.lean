/- What the functions on terms yield. -/
import Derived.Test.YtlldnglfoajfcaaCode
import Derived.Test.YtlldnglfoajfcaaAmC
import Derived.IntWalk
section
set_option maxRecDepth 10000
set_option linter.unusedSimpArgs false
set_option linter.unusedVariables false
namespace Go.Am
open Go.Proofs
inductive Pi | mk (op x y : Int) (ps : List Pi)
mutual
def enc : Pi → PV
  | .mk o x y ps => .agg [.i o, .i x, .i y, .sl false 4 (encs ps)]
def encs : List Pi → List PV
  | [] => []
  | p :: ps => enc p :: encs ps
end
theorem encs_len : ∀ ps : List Pi, (encs ps).length = ps.length
  | [] => rfl
  | _ :: ps => by simp [encs, encs_len ps]
theorem encs_app : ∀ a b : List Pi, encs (a ++ b) = encs a ++ encs b
  | [], _ => rfl
  | _ :: a, b => by simp [encs, encs_app a b]
theorem encs_at (a : List Pi) (x : Pi) (b : List Pi) : nth (encs (a ++ x :: b)) a.length = some (enc x) := by
  unfold nth
  rw [encs_app, List.getElem?_append_right (by simp [encs_len])]
  simp [encs_len, encs]
theorem enc_cells (p : Pi) : (enc p).cells = match p with | .mk o x y ps => [.i o, .i x, .i y, .sl false 4 (encs ps)] := by cases p; rfl
mutual
def szPi : Pi → Int → Int
  | .mk _ _ _ ps, l => if l - ps.length < 0 then -1 else szL ps (l - ps.length)
def szL : List Pi → Int → Int
  | [], l => l
  | p :: ps, l => if szPi p l < 0 then -1 else szL ps (szPi p l)
end
mutual
/-- Lists of no more elements than memory holds. -/
def Fit : Pi → Prop
  | .mk _ _ _ ps => ps.length ≤ 9223372036854775807 ∧ Fits ps
def Fits : List Pi → Prop
  | [] => True
  | p :: ps => Fit p ∧ Fits ps
end
theorem wr {n : Int} (h : -9223372036854775808 ≤ n ∧ n ≤ 9223372036854775807) : IntKind.i64.wrap n = n := by
  simp only [IntKind.wrap, IntKind.bits, IntKind.signed]
  simp
  omega
mutual
theorem szPi_le : ∀ (p : Pi) (l : Int), 0 ≤ l → szPi p l ≤ l
  | .mk _ _ _ ps, l, h => by
    simp only [szPi]
    split
    · omega
    · have := szL_le ps (l - ps.length) (by omega)
      omega
theorem szL_le : ∀ (ps : List Pi) (l : Int), 0 ≤ l → szL ps l ≤ l
  | [], l, _ => by simp [szL]
  | p :: ps, l, h => by
    simp only [szL]
    split
    · omega
    · have h1 := szPi_le p l h
      have h2 := szL_le ps (szPi p l) (by omega)
      omega
end
theorem szPi_ge (p : Pi) (l : Int) (h : 0 ≤ l) : -1 ≤ szPi p l ∧ True := ⟨by
  have key : ∀ ps : List Pi, ∀ l : Int, 0 ≤ l → -1 ≤ szL ps l := by
    intro ps
    induction ps with
    | nil => intro l h; simp only [szL]; omega
    | cons p ps ih =>
      intro l h
      simp only [szL]
      split
      · omega
      · exact ih _ (by omega)
  obtain ⟨o, x, y, ps⟩ := p
  simp only [szPi]
  split
  · omega
  · exact key _ _ (by omega), trivial⟩
theorem szL_ge : ∀ (ps : List Pi) (l : Int), 0 ≤ l → -1 ≤ szL ps l
  | [], l, h => by simp only [szL]; omega
  | p :: ps, l, h => by
    simp only [szL]
    split
    · omega
    · exact szL_ge ps _ (by omega)
theorem loop35 (rest : List Pi) (ih : ∀ x ∈ rest, ∀ l : Int, 0 ≤ l → l ≤ 1048576 → callI G 126 [enc x, .i l] [] = some (.i (szPi x l), [])) :
    ∀ (done : List Pi) (l : Int), (done ++ rest).length ≤ 9223372036854775807 → 0 ≤ l → l ≤ 1048576 →
      loopI G [0, 1, 5] [] c71l0 ⟨[(0, .sl false 4 (encs (done ++ rest))), (1, .i l), (5, .i done.length)], [], []⟩ =
        if szL rest l < 0 then some (.ret, ⟨[(4, .i (-1))], [], []⟩) else some (.exit 0, ⟨[(0, .sl false 4 (encs (done ++ rest))), (1, .i (szL rest l)), (5, .i (done ++ rest).length), (15, .b false)], [], []⟩) := by
  induction rest with
  | nil =>
    intro done l h h0 h1
    rw [loopI_eq]
    have : ¬ l < 0 := by omega
    simp [r71l0, b71l0, szL, encs_len, this]
  | cons x rest ih2 =>
    intro done l h h0 h1
    rw [loopI_eq]
    have hc := ih x List.mem_cons_self l h0 h1
    have hat := encs_at done x rest
    have hlt : (done.length : Int) < (done.length : Int) + ((rest.length : Int) + 1) := by omega
    have hw : IntKind.i64.wrap ((done.length : Int) + 1) = (done.length : Int) + 1 := wr (by simp at h; omega)
    obtain ⟨o, a, b, ps⟩ := x
    by_cases hs : szPi (.mk o a b ps) l < 0
    · simp only [enc] at hc hat
      simp [r71l0, b71l0, szL, encs_len, hat, hlt, hs, hc]
    · have hn := ih2 (fun y hy => ih y (List.mem_cons_of_mem _ hy)) (done ++ [.mk o a b ps]) (szPi (.mk o a b ps) l) (by simpa using h) (by omega) (by have := szPi_le (.mk o a b ps) l h0; omega)
      simp only [List.append_assoc, List.cons_append, List.nil_append, List.length_append, List.length_cons, List.length_nil] at hn
      simp only [enc] at hc hat
      simp [r71l0, b71l0, szL, encs_len, hat, hlt, hs, hc, hw]
      simpa [Int.add_assoc] using hn
theorem eq35 (ps : List Pi) (hl : ps.length ≤ 9223372036854775807) (ih : ∀ x ∈ ps, ∀ l : Int, 0 ≤ l → l ≤ 1048576 → callI G 126 [enc x, .i l] [] = some (.i (szPi x l), [])) (l : Int) (h0 : 0 ≤ l) (h1 : l ≤ 1048576) :
    callI G 71 [.sl false 4 (encs ps), .i l] [] = some (.i (if l - ps.length < 0 then -1 else if szL ps (l - ps.length) < 0 then -1 else szL ps (l - ps.length)), []) := by
  rw [callI_eq]
  have hw : IntKind.i64.wrap (l - ps.length) = l - ps.length := wr (by omega)
  by_cases h : l - ps.length < 0
  · simp [body1, c71, a71, hw, encs_len, h]
  · have hlp := loop35 ps ih [] (l - ps.length) (by simpa using hl) (by omega) (by omega)
    simp only [List.nil_append, List.length_nil, show ((0 : Nat) : Int) = 0 from rfl] at hlp
    by_cases h2 : szL ps (l - ps.length) < 0
    · simp only [h2, if_true] at hlp
      simp [body1, c71, a71, hw, encs_len, h, h2, hlp]
    · simp only [h2, if_false] at hlp
      simp [body1, c71, a71, hw, encs_len, h, h2, hlp]
mutual
theorem eq9 : ∀ (p : Pi), Fit p → ∀ l : Int, 0 ≤ l → l ≤ 1048576 → callI G 126 [enc p, .i l] [] = some (.i (szPi p l), [])
  | .mk o x y ps, hf, l, h0, h1 => by
    have h35 := eq35 ps hf.1 (eq9s ps hf.2) l h0 h1
    rw [callI_eq]
    by_cases h : l - ps.length < 0
    · simp only [h, if_true] at h35
      simp [body1, c126, a126, enc, szPi, h, h35]
    · simp only [h, if_false] at h35
      by_cases h2 : szL ps (l - ps.length) < 0
      · simp only [h2, if_true] at h35
        have h3 := szL_ge ps (l - ps.length) (by omega)
        have h4 : szL ps (l - ps.length) = -1 := by omega
        simp [body1, c126, a126, enc, szPi, h, h4, h35]
      · simp only [h2, if_false] at h35
        simp [body1, c126, a126, enc, szPi, h, h2, h35]
theorem eq9s : ∀ (ps : List Pi), Fits ps → ∀ x ∈ ps, ∀ l : Int, 0 ≤ l → l ≤ 1048576 → callI G 126 [enc x, .i l] [] = some (.i (szPi x l), [])
  | [], _, x, hx => by cases hx
  | p :: ps, hf, x, hx => by
    rcases List.mem_cons.1 hx with h | hx
    · rw [h]; exact eq9 p hf.1
    · exact eq9s ps hf.2 x hx
end
end Go.Am
end
section
set_option maxRecDepth 10000
set_option linter.unusedSimpArgs false
set_option linter.unusedVariables false
namespace Go.Am
open Go.Proofs
mutual
def encU : Pi → PV
  | .mk o x y ps => .agg [.i o, .i x, .i y, .sl true 4 (encUs ps)]
def encUs : List Pi → List PV
  | [] => []
  | p :: ps => encU p :: encUs ps
end
theorem encUs_len : ∀ ps : List Pi, (encUs ps).length = ps.length
  | [] => rfl
  | _ :: ps => by simp [encUs, encUs_len ps]
theorem encUs_app : ∀ a b : List Pi, encUs (a ++ b) = encUs a ++ encUs b
  | [], _ => rfl
  | _ :: a, b => by simp [encUs, encUs_app a b]
mutual
theorem fal_encU : ∀ p, fal (encU p) = enc p
  | .mk o x y ps => by simp [encU, enc, fals_encU ps]
theorem fals_encU : ∀ ps, fals (encUs ps) = encs ps
  | [] => rfl
  | p :: ps => by simp [encUs, encs, fal_encU p, fals_encU ps]
end
abbrev Z4 : PV := .agg [.i 0, .i 0, .i 0, .nils]
theorem row_at (a : List Pi) (m : Nat) : nth (encUs a ++ Z4 :: List.replicate m Z4) a.length = some Z4 := by
  unfold nth
  rw [List.getElem?_append_right (by simp [encUs_len])]
  simp [encUs_len]
theorem row_set (a : List Pi) (m : Nat) (y : PV) : (encUs a ++ Z4 :: List.replicate m Z4).set a.length y = encUs a ++ y :: List.replicate m Z4 := by
  rw [List.set_append_right _ _ (by simp [encUs_len])]
  simp [encUs_len]
theorem loop38 (rest : List Pi) (ih : ∀ x ∈ rest, callI G 130 [enc x] [] = some (encU x, [])) :
    ∀ (done : List Pi), (done ++ rest).length ≤ 9223372036854775807 →
      loopI G [0, 3, 4] [7] c75l0 ⟨[(0, .sl false 4 (encs (done ++ rest))), (3, .own (0, 7) (done ++ rest).length), (4, .i done.length)], [(7, .row 4 (encUs done ++ List.replicate rest.length Z4))], []⟩ =
        some (.exit 0, ⟨[(0, .sl false 4 (encs (done ++ rest))), (3, .own (0, 7) (done ++ rest).length), (4, .i (done ++ rest).length), (11, .b false)], [(7, .row 4 (encUs (done ++ rest)))], []⟩) := by
  induction rest with
  | nil =>
    intro done h
    rw [loopI_eq]
    simp [r75l0, b75l0, encs_len]
  | cons x rest ih2 =>
    intro done h
    rw [loopI_eq]
    have hc := ih x List.mem_cons_self
    have hat := encs_at done x rest
    have hlt : (done.length : Int) < (done.length : Int) + ((rest.length : Int) + 1) := by omega
    have hw : IntKind.i64.wrap ((done.length : Int) + 1) = (done.length : Int) + 1 := wr (by simp at h; omega)
    obtain ⟨o, a, b, ps⟩ := x
    have hn := ih2 (fun y hy => ih y (List.mem_cons_of_mem _ hy)) (done ++ [.mk o a b ps]) (by simpa using h)
    simp only [enc, encU] at hc hat
    simp [r75l0, b75l0, encs_len, hat, hlt, hc, hw, List.replicate_succ, row_at, row_set, encUs_len]
    simpa [encUs_app, encUs, encU, unAgg, Int.add_assoc] using hn
theorem eq38 (ps : List Pi) (hl : ps.length ≤ 4294967296) (ih : ∀ x ∈ ps, callI G 130 [enc x] [] = some (encU x, [])) : callI G 75 [.sl false 4 (encs ps)] [] = some (.sl true 4 (encUs ps), []) := by
  rw [callI_eq]
  have hlp := loop38 ps ih [] (by simp; omega)
  simp only [List.nil_append, List.length_nil, encUs, show ((0 : Nat) : Int) = 0 from rfl] at hlp
  have h4 : (ps.length : Int) ≤ 4294967296 := by omega
  simp [body1, c75, a75, encs_len, hl, h4, hlp, encUs_len]
mutual
/-- Lists that can be made. -/
def Small : Pi → Prop
  | .mk _ _ _ ps => ps.length ≤ 4294967296 ∧ Smalls ps
def Smalls : List Pi → Prop
  | [] => True
  | p :: ps => Small p ∧ Smalls ps
end
mutual
theorem szPi_small : ∀ (p : Pi) (l : Int), 0 ≤ l → l ≤ 1048576 → 0 ≤ szPi p l → Small p
  | .mk _ _ _ ps, l, h0, h1, h => by
    simp only [szPi] at h
    split at h
    · omega
    · exact ⟨by omega, szL_small ps (l - ps.length) (by omega) (by omega) h⟩
theorem szL_small : ∀ (ps : List Pi) (l : Int), 0 ≤ l → l ≤ 1048576 → 0 ≤ szL ps l → Smalls ps
  | [], _, _, _, _ => trivial
  | p :: ps, l, h0, h1, h => by
    simp only [szL] at h
    split at h
    · omega
    · have := szPi_le p l h0
      exact ⟨szPi_small p l h0 h1 (by omega), szL_small ps _ (by omega) (by omega) h⟩
end
mutual
theorem eq11 : ∀ (p : Pi), Small p → callI G 130 [enc p] [] = some (encU p, [])
  | .mk o x y ps, hf => by
    have h38 := eq38 ps hf.1 (eq11s ps hf.2)
    rw [callI_eq]
    simp [body1, c130, a130, enc, encU, h38]
theorem eq11s : ∀ (ps : List Pi), Smalls ps → ∀ x ∈ ps, callI G 130 [enc x] [] = some (encU x, [])
  | [], _, x, hx => by cases hx
  | p :: ps, hf, x, hx => by
    rcases List.mem_cons.1 hx with h | hx
    · rw [h]; exact eq11 p hf.1
    · exact eq11s ps hf.2 x hx
end
end Go.Am
end
section
set_option maxRecDepth 10000
set_option linter.unusedSimpArgs false
set_option linter.unusedVariables false
namespace Go.Am
open Go.Proofs
theorem piName (k : Int) : callI G 199 [.i k] [] = some (.b (decide (0 ≤ k) && decide (k < 30)), []) := by
  rw [callI_eq]
  by_cases h : 0 ≤ k <;> simp [body1, a199, c199, h]
theorem l6In (a b c : Int) : callI G 60 [.i a, .i b, .i c] [] = some (.b (decide (b ≤ a) && decide (a ≤ c)), []) := by
  rw [callI_eq]
  by_cases h : b ≤ a <;> simp [body1, a60, c60, h]
theorem l13Name (a : Int) : callI G 171 [.i a] [] = some (.b (decide (0 ≤ a) && decide (a ≤ 29)), []) := by
  rw [callI_eq]
  simp [body1, a171, c171, l6In]
/-- The names of a term are as its kind wants them; how many parts it has. -/
def nm (k : Int) : Bool := decide (0 ≤ k) && decide (k ≤ 29)
def kindOK (o x y : Int) : Option (Bool × Nat) :=
  if o = 0 then some (decide (x = 0) && decide (y = 0), 0)
  else if o = 3 then some (decide (x = 0) && decide (y = 0), 1)
  else if o = 4 ∨ o = 5 then some (decide (x = 0) && decide (y = 0), 2)
  else if o = 6 then some ((nm x && nm y) && decide (y < 3), 1)
  else if o = 1 ∨ o = 2 ∨ o = 7 then some (nm x && nm y, 1)
  else none
mutual
def nodes : Pi → Int
  | .mk o x y ps => match kindOK o x y with
    | none => 0
    | some (ok, k) => if ok = true ∧ ps.length = k then nodesL ps 1 else 0
def nodesL : List Pi → Int → Int
  | [], n => n
  | p :: ps, n => if nodes p = 0 then 0 else nodesL ps (if n + nodes p < 1000 then n + nodes p else 1000)
end
theorem loop37 (o a b : Int) (rest : List Pi) (ih : ∀ x ∈ rest, callI G 155 [enc x] [] = some (.i (nodes x), []) ∧ 0 ≤ nodes x ∧ nodes x ≤ 1000) :
    ∀ (done : List Pi) (n : Int), (done ++ rest).length ≤ 9223372036854775807 → 1 ≤ n → n ≤ 1000 → ∀ m : Int, m = (done ++ rest).length →
      loopI G [1, 3, 5, 6] [1] c155l0 ⟨[(1, .ref (0, 1) 1 0 0), (3, .i m), (5, .i n), (6, .i done.length)], [(1, .box [.i o, .i a, .i b, .sl false 4 (encs (done ++ rest))])], []⟩ =
        if nodesL rest n = 0 then some (.ret, ⟨[(2, .i 0)], [], []⟩) else some (.exit 1, ⟨[(1, .ref (0, 1) 1 0 0), (3, .i m), (5, .i (nodesL rest n)), (6, .i m), (72, .b false)], [(1, .box [.i o, .i a, .i b, .sl false 4 (encs (done ++ rest))])], []⟩) := by
  induction rest with
  | nil =>
    intro done n h h0 h1 m hm
    have hn0 : ¬ n = 0 := by omega
    subst hm
    rw [loopI_eq]
    simp [r155l0, b155l0, encs_len, nodesL, hn0]
  | cons x rest ih2 =>
    intro done n h h0 h1 m hm
    rw [loopI_eq]
    obtain ⟨hc, hx0, hx1⟩ := ih x List.mem_cons_self
    have hat := encs_at done x rest
    have hlt : (done.length : Int) < m := by rw [hm]; simp; omega
    have hlt2 : (done.length : Int) < (done.length : Int) + ((rest.length : Int) + 1) := by omega
    have hw : IntKind.i64.wrap ((done.length : Int) + 1) = (done.length : Int) + 1 := wr (by simp at h; omega)
    have hw2 : IntKind.i64.wrap (n + nodes x) = n + nodes x := wr (by omega)
    by_cases hs : nodes x = 0
    · obtain ⟨o', a', b', ps⟩ := x
      simp only [enc] at hc hat
      simp [r155l0, b155l0, encs_len, hat, hlt, hlt2, hc, hw, hs, nodesL]
    · have hn := ih2 (fun y hy => ih y (List.mem_cons_of_mem _ hy)) (done ++ [x]) (if n + nodes x < 1000 then n + nodes x else 1000) (by simpa using h) (by split <;> omega) (by split <;> omega) m (by simpa using hm)
      obtain ⟨o', a', b', ps⟩ := x
      simp only [enc] at hc hat
      simp [r155l0, b155l0, encs_len, hat, hlt, hlt2, hc, hw, hw2, hs]
      simpa [nodesL, hs, Int.add_assoc] using hn
end Go.Am
end
section
set_option maxRecDepth 10000
set_option linter.unusedSimpArgs false
set_option linter.unusedVariables false
namespace Go.Am
open Go.Proofs
theorem b37_0 (x y : Int) (ps : List Pi) (hl : ps.length ≤ 9223372036854775807) (ih : ∀ p ∈ ps, callI G 155 [enc p] [] = some (.i (nodes p), []) ∧ 0 ≤ nodes p ∧ nodes p ≤ 1000) : callI G 155 [enc (.mk 0 x y ps)] [] = some (.i (nodes (.mk 0 x y ps)), []) := by
  have hlp := fun o x y => loop37 o x y ps ih [] 1 (by simpa using hl) (by omega) (by omega)
  simp only [List.nil_append, List.length_nil, show ((0 : Nat) : Int) = 0 from rfl] at hlp
  have hnm : ∀ a, callI G 171 [.i a] [] = some (.b (nm a), []) := fun a => l13Name a
  rw [callI_eq]
  by_cases hk : (ps.length : Int) = 0
  · have hk2 : ps.length = 0 := by omega
    simp [body1_eq _ _ (gp 155) g155, c155, a155, enc, hnm, encs_len, hlp, hk, nodes, kindOK, hk2]
    repeat' split
    all_goals (try simp_all)
    all_goals (try omega)
  · have hk2 : ¬ ps.length = 0 := by omega
    simp [body1_eq _ _ (gp 155) g155, c155, a155, enc, hnm, encs_len, hk, nodes, kindOK, hk2]
theorem b37_1 (x y : Int) (ps : List Pi) (hl : ps.length ≤ 9223372036854775807) (ih : ∀ p ∈ ps, callI G 155 [enc p] [] = some (.i (nodes p), []) ∧ 0 ≤ nodes p ∧ nodes p ≤ 1000) : callI G 155 [enc (.mk 1 x y ps)] [] = some (.i (nodes (.mk 1 x y ps)), []) := by
  have hlp := fun o x y => loop37 o x y ps ih [] 1 (by simpa using hl) (by omega) (by omega)
  simp only [List.nil_append, List.length_nil, show ((0 : Nat) : Int) = 0 from rfl] at hlp
  have hnm : ∀ a, callI G 171 [.i a] [] = some (.b (nm a), []) := fun a => l13Name a
  rw [callI_eq]
  by_cases hk : (ps.length : Int) = 1
  · have hk2 : ps.length = 1 := by omega
    simp [body1_eq _ _ (gp 155) g155, c155, a155, enc, hnm, encs_len, hlp, hk, nodes, kindOK, hk2]
    repeat' split
    all_goals (try simp_all)
    all_goals (try omega)
  · have hk2 : ¬ ps.length = 1 := by omega
    simp [body1_eq _ _ (gp 155) g155, c155, a155, enc, hnm, encs_len, hk, nodes, kindOK, hk2]
theorem b37_2 (x y : Int) (ps : List Pi) (hl : ps.length ≤ 9223372036854775807) (ih : ∀ p ∈ ps, callI G 155 [enc p] [] = some (.i (nodes p), []) ∧ 0 ≤ nodes p ∧ nodes p ≤ 1000) : callI G 155 [enc (.mk 2 x y ps)] [] = some (.i (nodes (.mk 2 x y ps)), []) := by
  have hlp := fun o x y => loop37 o x y ps ih [] 1 (by simpa using hl) (by omega) (by omega)
  simp only [List.nil_append, List.length_nil, show ((0 : Nat) : Int) = 0 from rfl] at hlp
  have hnm : ∀ a, callI G 171 [.i a] [] = some (.b (nm a), []) := fun a => l13Name a
  rw [callI_eq]
  by_cases hk : (ps.length : Int) = 1
  · have hk2 : ps.length = 1 := by omega
    simp [body1_eq _ _ (gp 155) g155, c155, a155, enc, hnm, encs_len, hlp, hk, nodes, kindOK, hk2]
    repeat' split
    all_goals (try simp_all)
    all_goals (try omega)
  · have hk2 : ¬ ps.length = 1 := by omega
    simp [body1_eq _ _ (gp 155) g155, c155, a155, enc, hnm, encs_len, hk, nodes, kindOK, hk2]
theorem b37_3 (x y : Int) (ps : List Pi) (hl : ps.length ≤ 9223372036854775807) (ih : ∀ p ∈ ps, callI G 155 [enc p] [] = some (.i (nodes p), []) ∧ 0 ≤ nodes p ∧ nodes p ≤ 1000) : callI G 155 [enc (.mk 3 x y ps)] [] = some (.i (nodes (.mk 3 x y ps)), []) := by
  have hlp := fun o x y => loop37 o x y ps ih [] 1 (by simpa using hl) (by omega) (by omega)
  simp only [List.nil_append, List.length_nil, show ((0 : Nat) : Int) = 0 from rfl] at hlp
  have hnm : ∀ a, callI G 171 [.i a] [] = some (.b (nm a), []) := fun a => l13Name a
  rw [callI_eq]
  by_cases hk : (ps.length : Int) = 1
  · have hk2 : ps.length = 1 := by omega
    simp [body1_eq _ _ (gp 155) g155, c155, a155, enc, hnm, encs_len, hlp, hk, nodes, kindOK, hk2]
    repeat' split
    all_goals (try simp_all)
    all_goals (try omega)
  · have hk2 : ¬ ps.length = 1 := by omega
    simp [body1_eq _ _ (gp 155) g155, c155, a155, enc, hnm, encs_len, hk, nodes, kindOK, hk2]
theorem b37_4 (x y : Int) (ps : List Pi) (hl : ps.length ≤ 9223372036854775807) (ih : ∀ p ∈ ps, callI G 155 [enc p] [] = some (.i (nodes p), []) ∧ 0 ≤ nodes p ∧ nodes p ≤ 1000) : callI G 155 [enc (.mk 4 x y ps)] [] = some (.i (nodes (.mk 4 x y ps)), []) := by
  have hlp := fun o x y => loop37 o x y ps ih [] 1 (by simpa using hl) (by omega) (by omega)
  simp only [List.nil_append, List.length_nil, show ((0 : Nat) : Int) = 0 from rfl] at hlp
  have hnm : ∀ a, callI G 171 [.i a] [] = some (.b (nm a), []) := fun a => l13Name a
  rw [callI_eq]
  by_cases hk : (ps.length : Int) = 2
  · have hk2 : ps.length = 2 := by omega
    simp [body1_eq _ _ (gp 155) g155, c155, a155, enc, hnm, encs_len, hlp, hk, nodes, kindOK, hk2]
    repeat' split
    all_goals (try simp_all)
    all_goals (try omega)
  · have hk2 : ¬ ps.length = 2 := by omega
    simp [body1_eq _ _ (gp 155) g155, c155, a155, enc, hnm, encs_len, hk, nodes, kindOK, hk2]
theorem b37_5 (x y : Int) (ps : List Pi) (hl : ps.length ≤ 9223372036854775807) (ih : ∀ p ∈ ps, callI G 155 [enc p] [] = some (.i (nodes p), []) ∧ 0 ≤ nodes p ∧ nodes p ≤ 1000) : callI G 155 [enc (.mk 5 x y ps)] [] = some (.i (nodes (.mk 5 x y ps)), []) := by
  have hlp := fun o x y => loop37 o x y ps ih [] 1 (by simpa using hl) (by omega) (by omega)
  simp only [List.nil_append, List.length_nil, show ((0 : Nat) : Int) = 0 from rfl] at hlp
  have hnm : ∀ a, callI G 171 [.i a] [] = some (.b (nm a), []) := fun a => l13Name a
  rw [callI_eq]
  by_cases hk : (ps.length : Int) = 2
  · have hk2 : ps.length = 2 := by omega
    simp [body1_eq _ _ (gp 155) g155, c155, a155, enc, hnm, encs_len, hlp, hk, nodes, kindOK, hk2]
    repeat' split
    all_goals (try simp_all)
    all_goals (try omega)
  · have hk2 : ¬ ps.length = 2 := by omega
    simp [body1_eq _ _ (gp 155) g155, c155, a155, enc, hnm, encs_len, hk, nodes, kindOK, hk2]
theorem b37_6 (x y : Int) (ps : List Pi) (hl : ps.length ≤ 9223372036854775807) (ih : ∀ p ∈ ps, callI G 155 [enc p] [] = some (.i (nodes p), []) ∧ 0 ≤ nodes p ∧ nodes p ≤ 1000) : callI G 155 [enc (.mk 6 x y ps)] [] = some (.i (nodes (.mk 6 x y ps)), []) := by
  have hlp := fun o x y => loop37 o x y ps ih [] 1 (by simpa using hl) (by omega) (by omega)
  simp only [List.nil_append, List.length_nil, show ((0 : Nat) : Int) = 0 from rfl] at hlp
  have hnm : ∀ a, callI G 171 [.i a] [] = some (.b (nm a), []) := fun a => l13Name a
  rw [callI_eq]
  by_cases hk : (ps.length : Int) = 1
  · have hk2 : ps.length = 1 := by omega
    simp [body1_eq _ _ (gp 155) g155, c155, a155, enc, hnm, encs_len, hlp, hk, nodes, kindOK, hk2]
    repeat' split
    all_goals (try simp_all)
    all_goals (try omega)
  · have hk2 : ¬ ps.length = 1 := by omega
    simp [body1_eq _ _ (gp 155) g155, c155, a155, enc, hnm, encs_len, hk, nodes, kindOK, hk2]
theorem b37_7 (x y : Int) (ps : List Pi) (hl : ps.length ≤ 9223372036854775807) (ih : ∀ p ∈ ps, callI G 155 [enc p] [] = some (.i (nodes p), []) ∧ 0 ≤ nodes p ∧ nodes p ≤ 1000) : callI G 155 [enc (.mk 7 x y ps)] [] = some (.i (nodes (.mk 7 x y ps)), []) := by
  have hlp := fun o x y => loop37 o x y ps ih [] 1 (by simpa using hl) (by omega) (by omega)
  simp only [List.nil_append, List.length_nil, show ((0 : Nat) : Int) = 0 from rfl] at hlp
  have hnm : ∀ a, callI G 171 [.i a] [] = some (.b (nm a), []) := fun a => l13Name a
  rw [callI_eq]
  by_cases hk : (ps.length : Int) = 1
  · have hk2 : ps.length = 1 := by omega
    simp [body1_eq _ _ (gp 155) g155, c155, a155, enc, hnm, encs_len, hlp, hk, nodes, kindOK, hk2]
    repeat' split
    all_goals (try simp_all)
    all_goals (try omega)
  · have hk2 : ¬ ps.length = 1 := by omega
    simp [body1_eq _ _ (gp 155) g155, c155, a155, enc, hnm, encs_len, hk, nodes, kindOK, hk2]
theorem b37_d (o x y : Int) (ps : List Pi) (h : ¬ o = 0 ∧ ¬ o = 1 ∧ ¬ o = 2 ∧ ¬ o = 3 ∧ ¬ o = 4 ∧ ¬ o = 5 ∧ ¬ o = 6 ∧ ¬ o = 7) : callI G 155 [enc (.mk o x y ps)] [] = some (.i (nodes (.mk o x y ps)), []) := by
  obtain ⟨h0, h1, h2, h3, h4, h5, h6, h7⟩ := h
  have hnm : ∀ a, callI G 171 [.i a] [] = some (.b (nm a), []) := fun a => l13Name a
  rw [callI_eq]
  simp [body1_eq _ _ (gp 155) g155, c155, a155, enc, hnm, nodes, kindOK, h0, h1, h2, h3, h4, h5, h6, h7]
theorem nodesL_le : ∀ (ps : List Pi) (n : Int), (∀ p ∈ ps, 0 ≤ nodes p ∧ nodes p ≤ 1000) → 0 ≤ n → n ≤ 1000 → 0 ≤ nodesL ps n ∧ nodesL ps n ≤ 1000
  | [], n, _, h0, h1 => by simp [nodesL]; omega
  | p :: ps, n, h, h0, h1 => by
    have hp := h p List.mem_cons_self
    simp only [nodesL]
    split
    · omega
    · exact nodesL_le ps _ (fun q hq => h q (List.mem_cons_of_mem _ hq)) (by split <;> omega) (by split <;> omega)
mutual
theorem nodes_le : ∀ p : Pi, 0 ≤ nodes p ∧ nodes p ≤ 1000
  | .mk o x y ps => by
    simp only [nodes]
    split
    · omega
    · split
      · exact nodesL_le ps 1 (nodes_les ps) (by omega) (by omega)
      · omega
theorem nodes_les : ∀ (ps : List Pi), ∀ p ∈ ps, 0 ≤ nodes p ∧ nodes p ≤ 1000
  | [], p, h => by cases h
  | q :: ps, p, h => by
    rcases List.mem_cons.1 h with h | h
    · rw [h]; exact nodes_le q
    · exact nodes_les ps p h
end
mutual
theorem eq37 : ∀ p : Pi, Fit p → callI G 155 [enc p] [] = some (.i (nodes p), [])
  | .mk o x y ps, hf => by
    have ih := fun p hp => And.intro (eq37s ps hf.2 p hp) (nodes_le p)
    by_cases h0 : o = 0
    · rw [h0]; exact b37_0 x y ps hf.1 ih
    by_cases h1 : o = 1
    · rw [h1]; exact b37_1 x y ps hf.1 ih
    by_cases h2 : o = 2
    · rw [h2]; exact b37_2 x y ps hf.1 ih
    by_cases h3 : o = 3
    · rw [h3]; exact b37_3 x y ps hf.1 ih
    by_cases h4 : o = 4
    · rw [h4]; exact b37_4 x y ps hf.1 ih
    by_cases h5 : o = 5
    · rw [h5]; exact b37_5 x y ps hf.1 ih
    by_cases h6 : o = 6
    · rw [h6]; exact b37_6 x y ps hf.1 ih
    by_cases h7 : o = 7
    · rw [h7]; exact b37_7 x y ps hf.1 ih
    exact b37_d o x y ps ⟨h0, h1, h2, h3, h4, h5, h6, h7⟩
theorem eq37s : ∀ (ps : List Pi), Fits ps → ∀ p ∈ ps, callI G 155 [enc p] [] = some (.i (nodes p), [])
  | [], _, p, h => by cases h
  | q :: ps, hf, p, h => by
    rcases List.mem_cons.1 h with h | h
    · rw [h]; exact eq37 q hf.1
    · exact eq37s ps hf.2 p h
end
theorem eq10 (p : Pi) (hf : Fit p) : callI G 127 [enc p] [] = some (.b (decide (1 ≤ nodes p) && decide (nodes p ≤ 14)), []) := by
  have h := eq37 p hf
  rw [callI_eq]
  obtain ⟨o, x, y, ps⟩ := p
  simp only [enc] at h
  simp [body1_eq _ _ (gp 127) g127, c127, a127, enc, h, l6In]
end Go.Am
end
section
set_option maxRecDepth 10000
set_option linter.unusedSimpArgs false
set_option linter.unusedVariables false
namespace Go.Am
open Go.Proofs
mutual
def pn : Pi → Int → Int
  | .mk _ _ _ ps, m => pnL ps 1 m
def pnL : List Pi → Int → Int → Int
  | [], n, _ => n
  | p :: ps, n, m => if m < n then n else pnL ps (n + pn p (m - n)) m
end
mutual
theorem pn_le : ∀ (p : Pi) (m : Int), 0 ≤ m → 1 ≤ pn p m ∧ pn p m ≤ m + 1
  | .mk _ _ _ ps, m, h => by simp only [pn]; exact pnL_le ps 1 m h (by omega) (by omega)
theorem pnL_le : ∀ (ps : List Pi) (n m : Int), 0 ≤ m → 1 ≤ n → n ≤ m + 1 → 1 ≤ pnL ps n m ∧ pnL ps n m ≤ m + 1
  | [], n, m, h, h1, h2 => by simp only [pnL]; omega
  | p :: ps, n, m, h, h1, h2 => by
    simp only [pnL]
    split
    · omega
    · have := pn_le p (m - n) (by omega)
      exact pnL_le ps _ m h (by omega) (by omega)
end
theorem loop39 (m : Int) (hm0 : 0 ≤ m) (hm : m ≤ 1000) (rest : List Pi) (ih : ∀ x ∈ rest, ∀ m : Int, 0 ≤ m → m ≤ 1000 → callI G 172 [enc x, .i m] [] = some (.i (pn x m), [])) :
    ∀ (done : List Pi) (n : Int), (done ++ rest).length ≤ 9223372036854775807 → 1 ≤ n → n ≤ m + 1 →
      ∃ r, loopI G [1, 5, 9, 10, 11] [] c172l0 ⟨[(1, .i m), (5, .i n), (9, .sl false 4 (encs (done ++ rest))), (10, .i (done ++ rest).length), (11, .i done.length)], [], []⟩ = some r ∧
        (r = (.ret, ⟨[(4, .i (pnL rest n m))], [], []⟩) ∨ r = (.exit 0, ⟨[(1, .i m), (5, .i (pnL rest n m)), (9, .sl false 4 (encs (done ++ rest))), (10, .i (done ++ rest).length), (11, .i (done ++ rest).length), (12, .b false)], [], []⟩)) := by
  induction rest with
  | nil =>
    intro done n h h0 h1
    rw [loopI_eq]
    simp [r172l0, b172l0, encs_len, pnL]
  | cons x rest ih2 =>
    intro done n h h0 h1
    rw [loopI_eq]
    have hat := encs_at done x rest
    have hlt2 : (done.length : Int) < (done.length : Int) + ((rest.length : Int) + 1) := by omega
    have hw : IntKind.i64.wrap ((done.length : Int) + 1) = (done.length : Int) + 1 := wr (by simp at h; omega)
    by_cases hs : m < n
    · obtain ⟨o', a', b', ps⟩ := x
      simp only [enc] at hat
      simp [r172l0, b172l0, encs_len, hat, hlt2, hw, hs, pnL]
    · have hc := ih x List.mem_cons_self (m - n) (by omega) (by omega)
      have hb := pn_le x (m - n) (by omega)
      have hw2 : IntKind.i64.wrap (n + pn x (m - n)) = n + pn x (m - n) := wr (by omega)
      have hw3 : IntKind.i64.wrap (m - n) = m - n := wr (by omega)
      have hn := ih2 (fun y hy => ih y (List.mem_cons_of_mem _ hy)) (done ++ [x]) (n + pn x (m - n)) (by simpa using h) (by omega) (by omega)
      obtain ⟨o', a', b', ps⟩ := x
      simp only [enc] at hc hat
      simp [r172l0, b172l0, encs_len, hat, hlt2, hc, hw, hw2, hw3, hs]
      simpa [pnL, hs, Int.add_assoc] using hn
mutual
theorem eq39 : ∀ p : Pi, Fit p → ∀ m : Int, 0 ≤ m → m ≤ 1000 → callI G 172 [enc p, .i m] [] = some (.i (pn p m), [])
  | .mk o x y ps, hf, m, h0, h1 => by
    obtain ⟨r, hl, hr⟩ := loop39 m h0 h1 ps (eq39s ps hf.2) [] 1 (by simpa using hf.1) (by omega) (by omega)
    simp only [List.nil_append, List.length_nil, show ((0 : Nat) : Int) = 0 from rfl] at hl hr
    rw [callI_eq]
    rcases hr with hr | hr <;> simp [body1_eq _ _ (gp 172) g172, c172, a172, enc, encs_len, hl, hr, pn]
theorem eq39s : ∀ ps : List Pi, Fits ps → ∀ p ∈ ps, ∀ m : Int, 0 ≤ m → m ≤ 1000 → callI G 172 [enc p, .i m] [] = some (.i (pn p m), [])
  | [], _, p, h => by cases h
  | q :: ps, hf, p, h => by
    rcases List.mem_cons.1 h with h | h
    · rw [h]; exact eq39 q hf.1
    · exact eq39s ps hf.2 p h
end
/-- slices.IndexFunc with a closure that holds nothing. -/
theorem loop73 (cf : Nat) (F : Pi → Bool) (rest : List Pi) (ih : ∀ x ∈ rest, callI G cf [enc x] [] = some (.b (F x), [])) :
    ∀ (done : List Pi), (done ++ rest).length ≤ 9223372036854775807 →
      ∃ r, loopI G [0, 1, 7, 8] [] c135l0 ⟨[(0, .sl false 4 (encs (done ++ rest))), (1, .clo cf []), (7, .i (done ++ rest).length), (8, .i done.length)], [], []⟩ = some r ∧
        ((rest.any F = true ∧ ∃ i : Int, 0 ≤ i ∧ r = (.ret, ⟨[(4, .i i)], [], []⟩)) ∨ (rest.any F = false ∧ r = (.exit 0, ⟨[(0, .sl false 4 (encs (done ++ rest))), (1, .clo cf []), (7, .i (done ++ rest).length), (8, .i (done ++ rest).length), (9, .b false)], [], []⟩))) := by
  induction rest with
  | nil =>
    intro done h
    rw [loopI_eq]
    simp [r135l0, b135l0, encs_len]
  | cons x rest ih2 =>
    intro done h
    rw [loopI_eq]
    have hat := encs_at done x rest
    have hlt2 : (done.length : Int) < (done.length : Int) + ((rest.length : Int) + 1) := by omega
    have hw : IntKind.i64.wrap ((done.length : Int) + 1) = (done.length : Int) + 1 := wr (by simp at h; omega)
    have hc := ih x List.mem_cons_self
    by_cases hs : F x = true
    · obtain ⟨o', a', b', ps⟩ := x
      simp only [enc] at hat hc
      simp [r135l0, b135l0, encs_len, hat, hlt2, hc, hw, hs]
    · have hs2 : F x = false := by simpa using hs
      have hn := ih2 (fun y hy => ih y (List.mem_cons_of_mem _ hy)) (done ++ [x]) (by simpa using h)
      obtain ⟨o', a', b', ps⟩ := x
      simp only [enc] at hc hat
      simp [r135l0, b135l0, encs_len, hat, hlt2, hc, hw, hs2]
      simpa [hs2, Int.add_assoc] using hn
theorem eq53 (cf : Nat) (F : Pi → Bool) (ps : List Pi) (hl : ps.length ≤ 9223372036854775807) (ih : ∀ x ∈ ps, callI G cf [enc x] [] = some (.b (F x), [])) : callI G 79 [.sl false 4 (encs ps), .clo cf []] [] = some (.b (ps.any F), []) := by
  have h73 : ∃ i : Int, (decide (0 ≤ i)) = ps.any F ∧ callI G 135 [.sl false 4 (encs ps), .clo cf []] [] = some (.i i, []) := by
    obtain ⟨r, hl, hr⟩ := loop73 cf F ps ih [] (by simpa using hl)
    simp only [List.nil_append, List.length_nil, show ((0 : Nat) : Int) = 0 from rfl] at hl hr
    rcases hr with ⟨ha, i, hi, hr⟩ | ⟨ha, hr⟩
    · refine ⟨i, by simp [ha, hi], ?_⟩
      rw [callI_eq]
      simp [body1_eq _ _ (gp 135) g135, c135, a135, encs_len, hl, hr]
    · refine ⟨-1, by simp [ha], ?_⟩
      rw [callI_eq]
      simp [body1_eq _ _ (gp 135) g135, c135, a135, encs_len, hl, hr]
  obtain ⟨i, hi, hc⟩ := h73
  rw [callI_eq]
  simp [body1_eq _ _ (gp 79) g79, c79, a79, hc, hi]
end Go.Am
end
section
set_option maxRecDepth 10000
set_option linter.unusedSimpArgs false
set_option linter.unusedVariables false
namespace Go.Am
open Go.Proofs
mutual
def shape : Pi → Bool
  | .mk o x y ps => match kindOK o x y with
    | none => false
    | some (ok, k) => ok && (decide (ps.length = k) && shapes ps)
def shapes : List Pi → Bool
  | [] => true
  | p :: ps => shape p && shapes ps
end
theorem any_not_shape : ∀ ps : List Pi, ps.any (fun p => !shape p) = !shapes ps
  | [] => rfl
  | p :: ps => by simp [shapes, any_not_shape ps]
theorem eq58 (k : Int) : callI G 199 [.i k] [] = some (.b (nm k), []) := by
  rw [piName]
  have : decide (k < 30) = decide (k ≤ 29) := by
    by_cases h : k < 30
    · have : k ≤ 29 := by omega
      simp [h, this]
    · have : ¬ k ≤ 29 := by omega
      simp [h, this]
  simp [nm, this]
theorem eq61 (x : Pi) (b : Bool) (h : callI G 173 [enc x] [] = some (.b b, [])) : callI G 200 [enc x] [] = some (.b (!b), []) := by
  rw [callI_eq]
  obtain ⟨o', a', b', ps⟩ := x
  simp only [enc] at h
  simp [body1_eq _ _ (gp 200) g200, c200, a200, enc, h]
theorem b40_0 (x y : Int) (ps : List Pi) (hl : ps.length ≤ 9223372036854775807) (ih : ∀ p ∈ ps, callI G 173 [enc p] [] = some (.b (shape p), [])) : callI G 173 [enc (.mk 0 x y ps)] [] = some (.b (shape (.mk 0 x y ps)), []) := by
  have h53 := eq53 200 (fun p => !shape p) ps hl (fun x hx => eq61 x _ (ih x hx))
  simp only [any_not_shape] at h53
  rw [callI_eq]
  by_cases hk : (ps.length : Int) = 0
  · have hk2 : ps.length = 0 := by omega
    simp [body1_eq _ _ (gp 173) g173, c173, a173, enc, eq58, encs_len, h53, hk, shape, kindOK, hk2]
    repeat' split
    all_goals (try simp_all)
    all_goals (try omega)
  · have hk2 : ¬ ps.length = 0 := by omega
    simp [body1_eq _ _ (gp 173) g173, c173, a173, enc, eq58, encs_len, hk, shape, kindOK, hk2]
theorem b40_1 (x y : Int) (ps : List Pi) (hl : ps.length ≤ 9223372036854775807) (ih : ∀ p ∈ ps, callI G 173 [enc p] [] = some (.b (shape p), [])) : callI G 173 [enc (.mk 1 x y ps)] [] = some (.b (shape (.mk 1 x y ps)), []) := by
  have h53 := eq53 200 (fun p => !shape p) ps hl (fun x hx => eq61 x _ (ih x hx))
  simp only [any_not_shape] at h53
  rw [callI_eq]
  by_cases hk : (ps.length : Int) = 1
  · have hk2 : ps.length = 1 := by omega
    simp [body1_eq _ _ (gp 173) g173, c173, a173, enc, eq58, encs_len, h53, hk, shape, kindOK, hk2]
    repeat' split
    all_goals (try simp_all)
    all_goals (try omega)
  · have hk2 : ¬ ps.length = 1 := by omega
    simp [body1_eq _ _ (gp 173) g173, c173, a173, enc, eq58, encs_len, hk, shape, kindOK, hk2]
theorem b40_2 (x y : Int) (ps : List Pi) (hl : ps.length ≤ 9223372036854775807) (ih : ∀ p ∈ ps, callI G 173 [enc p] [] = some (.b (shape p), [])) : callI G 173 [enc (.mk 2 x y ps)] [] = some (.b (shape (.mk 2 x y ps)), []) := by
  have h53 := eq53 200 (fun p => !shape p) ps hl (fun x hx => eq61 x _ (ih x hx))
  simp only [any_not_shape] at h53
  rw [callI_eq]
  by_cases hk : (ps.length : Int) = 1
  · have hk2 : ps.length = 1 := by omega
    simp [body1_eq _ _ (gp 173) g173, c173, a173, enc, eq58, encs_len, h53, hk, shape, kindOK, hk2]
    repeat' split
    all_goals (try simp_all)
    all_goals (try omega)
  · have hk2 : ¬ ps.length = 1 := by omega
    simp [body1_eq _ _ (gp 173) g173, c173, a173, enc, eq58, encs_len, hk, shape, kindOK, hk2]
theorem b40_3 (x y : Int) (ps : List Pi) (hl : ps.length ≤ 9223372036854775807) (ih : ∀ p ∈ ps, callI G 173 [enc p] [] = some (.b (shape p), [])) : callI G 173 [enc (.mk 3 x y ps)] [] = some (.b (shape (.mk 3 x y ps)), []) := by
  have h53 := eq53 200 (fun p => !shape p) ps hl (fun x hx => eq61 x _ (ih x hx))
  simp only [any_not_shape] at h53
  rw [callI_eq]
  by_cases hk : (ps.length : Int) = 1
  · have hk2 : ps.length = 1 := by omega
    simp [body1_eq _ _ (gp 173) g173, c173, a173, enc, eq58, encs_len, h53, hk, shape, kindOK, hk2]
    repeat' split
    all_goals (try simp_all)
    all_goals (try omega)
  · have hk2 : ¬ ps.length = 1 := by omega
    simp [body1_eq _ _ (gp 173) g173, c173, a173, enc, eq58, encs_len, hk, shape, kindOK, hk2]
theorem b40_4 (x y : Int) (ps : List Pi) (hl : ps.length ≤ 9223372036854775807) (ih : ∀ p ∈ ps, callI G 173 [enc p] [] = some (.b (shape p), [])) : callI G 173 [enc (.mk 4 x y ps)] [] = some (.b (shape (.mk 4 x y ps)), []) := by
  have h53 := eq53 200 (fun p => !shape p) ps hl (fun x hx => eq61 x _ (ih x hx))
  simp only [any_not_shape] at h53
  rw [callI_eq]
  by_cases hk : (ps.length : Int) = 2
  · have hk2 : ps.length = 2 := by omega
    simp [body1_eq _ _ (gp 173) g173, c173, a173, enc, eq58, encs_len, h53, hk, shape, kindOK, hk2]
    repeat' split
    all_goals (try simp_all)
    all_goals (try omega)
  · have hk2 : ¬ ps.length = 2 := by omega
    simp [body1_eq _ _ (gp 173) g173, c173, a173, enc, eq58, encs_len, hk, shape, kindOK, hk2]
theorem b40_5 (x y : Int) (ps : List Pi) (hl : ps.length ≤ 9223372036854775807) (ih : ∀ p ∈ ps, callI G 173 [enc p] [] = some (.b (shape p), [])) : callI G 173 [enc (.mk 5 x y ps)] [] = some (.b (shape (.mk 5 x y ps)), []) := by
  have h53 := eq53 200 (fun p => !shape p) ps hl (fun x hx => eq61 x _ (ih x hx))
  simp only [any_not_shape] at h53
  rw [callI_eq]
  by_cases hk : (ps.length : Int) = 2
  · have hk2 : ps.length = 2 := by omega
    simp [body1_eq _ _ (gp 173) g173, c173, a173, enc, eq58, encs_len, h53, hk, shape, kindOK, hk2]
    repeat' split
    all_goals (try simp_all)
    all_goals (try omega)
  · have hk2 : ¬ ps.length = 2 := by omega
    simp [body1_eq _ _ (gp 173) g173, c173, a173, enc, eq58, encs_len, hk, shape, kindOK, hk2]
theorem b40_6 (x y : Int) (ps : List Pi) (hl : ps.length ≤ 9223372036854775807) (ih : ∀ p ∈ ps, callI G 173 [enc p] [] = some (.b (shape p), [])) : callI G 173 [enc (.mk 6 x y ps)] [] = some (.b (shape (.mk 6 x y ps)), []) := by
  have h53 := eq53 200 (fun p => !shape p) ps hl (fun x hx => eq61 x _ (ih x hx))
  simp only [any_not_shape] at h53
  rw [callI_eq]
  by_cases hk : (ps.length : Int) = 1
  · have hk2 : ps.length = 1 := by omega
    simp [body1_eq _ _ (gp 173) g173, c173, a173, enc, eq58, encs_len, h53, hk, shape, kindOK, hk2]
    have hy : (!decide (y < 0) && !decide (3 ≤ y)) = (nm y && decide (y < 3)) := by
      unfold nm
      by_cases h1 : y < 0
      · have : ¬ 0 ≤ y := by omega
        simp [h1, this]
      · by_cases h2 : y < 3
        · have a1 : 0 ≤ y := by omega
          have a2 : y ≤ 29 := by omega
          have a3 : ¬ 3 ≤ y := by omega
          simp [h1, h2, a1, a2, a3]
        · have a3 : 3 ≤ y := by omega
          simp [h2, a3]
    rw [hy]; simp only [Bool.and_assoc]
  · have hk2 : ¬ ps.length = 1 := by omega
    simp [body1_eq _ _ (gp 173) g173, c173, a173, enc, eq58, encs_len, hk, shape, kindOK, hk2]
theorem b40_7 (x y : Int) (ps : List Pi) (hl : ps.length ≤ 9223372036854775807) (ih : ∀ p ∈ ps, callI G 173 [enc p] [] = some (.b (shape p), [])) : callI G 173 [enc (.mk 7 x y ps)] [] = some (.b (shape (.mk 7 x y ps)), []) := by
  have h53 := eq53 200 (fun p => !shape p) ps hl (fun x hx => eq61 x _ (ih x hx))
  simp only [any_not_shape] at h53
  rw [callI_eq]
  by_cases hk : (ps.length : Int) = 1
  · have hk2 : ps.length = 1 := by omega
    simp [body1_eq _ _ (gp 173) g173, c173, a173, enc, eq58, encs_len, h53, hk, shape, kindOK, hk2]
    repeat' split
    all_goals (try simp_all)
    all_goals (try omega)
  · have hk2 : ¬ ps.length = 1 := by omega
    simp [body1_eq _ _ (gp 173) g173, c173, a173, enc, eq58, encs_len, hk, shape, kindOK, hk2]
theorem b40_d (o x y : Int) (ps : List Pi) (h : ¬ o = 0 ∧ ¬ o = 1 ∧ ¬ o = 2 ∧ ¬ o = 3 ∧ ¬ o = 4 ∧ ¬ o = 5 ∧ ¬ o = 6 ∧ ¬ o = 7) : callI G 173 [enc (.mk o x y ps)] [] = some (.b (shape (.mk o x y ps)), []) := by
  obtain ⟨h0, h1, h2, h3, h4, h5, h6, h7⟩ := h
  rw [callI_eq]
  simp [body1_eq _ _ (gp 173) g173, c173, a173, enc, eq58, shape, kindOK, h0, h1, h2, h3, h4, h5, h6, h7]
mutual
theorem eq40 : ∀ p : Pi, Fit p → callI G 173 [enc p] [] = some (.b (shape p), [])
  | .mk o x y ps, hf => by
    have ih := eq40s ps hf.2
    by_cases h0 : o = 0
    · rw [h0]; exact b40_0 x y ps hf.1 ih
    by_cases h1 : o = 1
    · rw [h1]; exact b40_1 x y ps hf.1 ih
    by_cases h2 : o = 2
    · rw [h2]; exact b40_2 x y ps hf.1 ih
    by_cases h3 : o = 3
    · rw [h3]; exact b40_3 x y ps hf.1 ih
    by_cases h4 : o = 4
    · rw [h4]; exact b40_4 x y ps hf.1 ih
    by_cases h5 : o = 5
    · rw [h5]; exact b40_5 x y ps hf.1 ih
    by_cases h6 : o = 6
    · rw [h6]; exact b40_6 x y ps hf.1 ih
    by_cases h7 : o = 7
    · rw [h7]; exact b40_7 x y ps hf.1 ih
    exact b40_d o x y ps ⟨h0, h1, h2, h3, h4, h5, h6, h7⟩
theorem eq40s : ∀ (ps : List Pi), Fits ps → ∀ p ∈ ps, callI G 173 [enc p] [] = some (.b (shape p), [])
  | [], _, p, h => by cases h
  | q :: ps, hf, p, h => by
    rcases List.mem_cons.1 h with h | h
    · rw [h]; exact eq40 q hf.1
    · exact eq40s ps hf.2 p h
end
theorem eq12 (p : Pi) (hf : Fit p) : callI G 158 [enc p] [] = some (.b (decide (pn p 14 ≤ 14) && shape p), []) := by
  have h := eq39 p hf 14 (by omega) (by omega)
  have h2 := eq40 p hf
  rw [callI_eq]
  obtain ⟨o, x, y, ps⟩ := p
  simp only [enc] at h h2
  simp [body1_eq _ _ (gp 158) g158, c158, a158, enc, h, h2]
end Go.Am
end
section
set_option maxRecDepth 10000
set_option linter.unusedSimpArgs false
set_option linter.unusedVariables false
namespace Go.Am
open Go.Proofs
theorem loop41 (rest : List Pi) (ih : ∀ x ∈ rest, callI G 137 [enc x, enc x] [] = some (.b true, [])) :
    ∀ (done : List Pi), (done ++ rest).length ≤ 9223372036854775807 →
      loopI G [0, 1, 5] [] c82l0 ⟨[(0, .sl false 4 (encs (done ++ rest))), (1, .sl false 4 (encs (done ++ rest))), (5, .i done.length)], [], []⟩ =
        some (.exit 0, ⟨[(0, .sl false 4 (encs (done ++ rest))), (1, .sl false 4 (encs (done ++ rest))), (5, .i (done ++ rest).length), (14, .b false)], [], []⟩) := by
  induction rest with
  | nil =>
    intro done h
    rw [loopI_eq]
    simp [r82l0, b82l0, encs_len]
  | cons x rest ih2 =>
    intro done h
    rw [loopI_eq]
    have hat := encs_at done x rest
    have hlt2 : (done.length : Int) < (done.length : Int) + ((rest.length : Int) + 1) := by omega
    have hw : IntKind.i64.wrap ((done.length : Int) + 1) = (done.length : Int) + 1 := wr (by simp at h; omega)
    have hc := ih x List.mem_cons_self
    have hn := ih2 (fun y hy => ih y (List.mem_cons_of_mem _ hy)) (done ++ [x]) (by simpa using h)
    obtain ⟨o', a', b', ps⟩ := x
    simp only [enc] at hc hat
    simp [r82l0, b82l0, encs_len, hat, hlt2, hc, hw]
    simpa [Int.add_assoc] using hn
mutual
theorem eq13 : ∀ p : Pi, Fit p → callI G 137 [enc p, enc p] [] = some (.b true, [])
  | .mk o x y ps, hf => by
    have h41 : callI G 82 [.sl false 4 (encs ps), .sl false 4 (encs ps)] [] = some (.b true, []) := by
      have hl := loop41 ps (eq13s ps hf.2) [] (by simpa using hf.1)
      simp only [List.nil_append, List.length_nil, show ((0 : Nat) : Int) = 0 from rfl] at hl
      rw [callI_eq]
      simp [body1_eq _ _ (gp 82) g82, c82, a82, hl]
    rw [callI_eq]
    simp [body1_eq _ _ (gp 137) g137, c137, a137, enc, h41]
theorem eq13s : ∀ (ps : List Pi), Fits ps → ∀ p ∈ ps, callI G 137 [enc p, enc p] [] = some (.b true, [])
  | [], _, p, h => by cases h
  | q :: ps, hf, p, h => by
    rcases List.mem_cons.1 h with h | h
    · rw [h]; exact eq13 q hf.1
    · exact eq13s ps hf.2 p h
end
/-! #### the plain law -/
/-! How many nodes there are. -/
mutual
def cnt : Pi → Int
  | .mk _ _ _ ps => 1 + cnts ps
def cnts : List Pi → Int
  | [] => 0
  | p :: ps => cnt p + cnts ps
end
mutual
theorem cnt_pos : ∀ p : Pi, 1 ≤ cnt p
  | .mk _ _ _ ps => by have := cnts_pos ps; simp only [cnt]; omega
theorem cnts_pos : ∀ ps : List Pi, 0 ≤ cnts ps
  | [] => by simp [cnts]
  | p :: ps => by have h1 := cnt_pos p; have h2 := cnts_pos ps; simp only [cnts]; omega
end
mutual
theorem pn_cnt : ∀ (p : Pi) (m : Int), 0 ≤ m → (cnt p ≤ m → pn p m = cnt p) ∧ (m < cnt p → pn p m = m + 1)
  | .mk _ _ _ ps, m, h => by
    have := pnL_cnt ps 1 m h (by omega) (by omega)
    simp only [pn, cnt]
    exact this
theorem pnL_cnt : ∀ (ps : List Pi) (n m : Int), 0 ≤ m → 1 ≤ n → n ≤ m + 1 → (n + cnts ps ≤ m → pnL ps n m = n + cnts ps) ∧ (m < n + cnts ps → pnL ps n m = m + 1)
  | [], n, m, h, h1, h2 => by simp only [pnL, cnts]; omega
  | p :: ps, n, m, h, h1, h2 => by
    have hp := cnt_pos p
    have hps := cnts_pos ps
    simp only [pnL, cnts]
    split
    · omega
    · have := pn_cnt p (m - n) (by omega)
      have hb := pn_le p (m - n) (by omega)
      have h3 := pnL_cnt ps (n + pn p (m - n)) m h (by omega) (by omega)
      by_cases hc : cnt p ≤ m - n
      · rw [this.1 hc] at h3 ⊢
        constructor
        · intro h4; rw [h3.1 (by omega)]; omega
        · intro h4; exact h3.2 (by omega)
      · rw [this.2 (by omega)] at h3 ⊢
        constructor
        · intro h4; omega
        · intro h4; exact h3.2 (by omega)
end
mutual
theorem nodes_cnt : ∀ p : Pi, nodes p = if shape p = true then (if cnt p < 1000 then cnt p else 1000) else 0
  | .mk o x y ps => by
    rcases hk : kindOK o x y with _ | ⟨ok, k⟩
    · have e1 : nodes (.mk o x y ps) = 0 := by simp [nodes, hk]
      have e2 : shape (.mk o x y ps) = false := by simp [shape, hk]
      simp [e1, e2]
    · have e1 : nodes (.mk o x y ps) = if ok = true ∧ ps.length = k then nodesL ps 1 else 0 := by simp [nodes, hk]
      have e2 : shape (.mk o x y ps) = (ok && (decide (ps.length = k) && shapes ps)) := by simp [shape, hk]
      have hL := nodesL_cnt ps 1 (by omega) (by omega)
      rw [e1, hL]
      by_cases h1 : ok = true <;> by_cases h2 : ps.length = k <;> by_cases h3 : shapes ps = true <;> simp [e2, h1, h2, h3, cnt] <;> (by_cases h4 : 1 + cnts ps < 1000 <;> simp [h4])
theorem nodesL_cnt : ∀ (ps : List Pi) (n : Int), 1 ≤ n → n ≤ 1000 → nodesL ps n = if shapes ps = true then (if n + cnts ps < 1000 then n + cnts ps else 1000) else 0
  | [], n, h, h1 => by
    simp only [nodesL, shapes, cnts]
    simp
    omega
  | p :: ps, n, h, h1 => by
    have hp := nodes_cnt p
    have hc := cnt_pos p
    have hcs := cnts_pos ps
    have hC : cnts (p :: ps) = cnt p + cnts ps := rfl
    simp only [nodesL]
    generalize cnts (p :: ps) = C at hC ⊢
    by_cases hs : shape p = true
    · rw [hs, if_pos rfl] at hp
      have hz : ¬ nodes p = 0 := by rw [hp]; split <;> omega
      rw [if_neg hz, nodesL_cnt ps _ (by rw [hp]; split <;> split <;> omega) (by split <;> omega)]
      by_cases hss : shapes ps = true
      · have e : shapes (p :: ps) = true := by simp [shapes, hs, hss]
        rw [if_pos hss, if_pos e, hp]
        by_cases a1 : cnt p < 1000
        · simp only [a1, if_true]
          by_cases a2 : n + cnt p < 1000
          · simp only [a2, if_true]; split <;> split <;> omega
          · simp only [a2, if_false]; split <;> split <;> omega
        · have a2 : ¬ n + 1000 < 1000 := by omega
          simp only [a1, if_false, a2]; split <;> split <;> omega
      · have e : ¬ shapes (p :: ps) = true := by simp [shapes, hss]
        rw [if_neg hss, if_neg e]
    · have e : ¬ shapes (p :: ps) = true := by simp [shapes, hs]
      rw [if_neg hs] at hp
      rw [if_pos hp, if_neg e]
end
theorem plain_ok (p : Pi) : (decide (1 ≤ nodes p) && decide (nodes p ≤ 14)) = (decide (pn p 14 ≤ 14) && shape p) := by
  have h1 := nodes_cnt p
  have h2 := pn_cnt p 14 (by omega)
  have h3 := cnt_pos p
  by_cases hs : shape p = true
  · rw [if_pos hs] at h1
    rw [h1, hs]
    by_cases hc : cnt p ≤ 14
    · rw [h2.1 hc]
      have a1 : cnt p < 1000 := by omega
      simp [hc, a1, h3]
    · rw [h2.2 (by omega)]
      have a1 : ¬ (if cnt p < 1000 then cnt p else 1000) ≤ 14 := by split <;> omega
      simp [a1]
  · have hs2 : shape p = false := by simpa using hs
    rw [if_neg hs] at h1
    simp [h1, hs2]
end Go.Am
end
