/- What the functions that the law reaches compute. -/
import Derived.Test.YtmpbcedglimhkaaEqA
section
set_option maxRecDepth 10000
set_option maxHeartbeats 4000000
set_option linter.unusedSimpArgs false
set_option linter.unusedVariables false
namespace Go.Am
open Go.Proofs
/-- A reader that has not come far. -/
structure RdrOK (B : List Nat) (p : Int) : Prop where
  len : B.length ≤ 2000
  by8 : ∀ b ∈ B, b < 256
  lo : 0 ≤ p
  hi : p ≤ 1000000000
theorem setS_top (o : Stack) (id : Id) (R : OB) (hid : id.1 < o.length) (r : Regs) (l : Objs) : St.get ⟨r, l, setS o id R⟩ id = some R := by
  rw [get_low (by rw [setS_len]; exact hid), getS_setS hid]
theorem setS_put (o : Stack) (id : Id) (R R' : OB) (hid : id.1 < o.length) (r : Regs) (l : Objs) : St.set ⟨r, l, setS o id R⟩ id R' = ⟨r, l, setS o id R'⟩ := by
  rw [set_low (by rw [setS_len]; exact hid), setS_setS]
theorem eqOpen (B : List Nat) (hB : B.length ≤ 9223372036854775807) : ∃ B', B'.length ≤ 2000 ∧ (∀ b ∈ B', b ∈ B) ∧ callI H 36 [.sl false 1 (byVs B)] [] = some (.bx [.sl false 1 (byVs B'), .i 0], []) := by
  by_cases h : (2000 : Int) < B.length
  · refine ⟨B.take 2000, by simp; omega, fun b hb => List.mem_of_mem_take hb, ?_⟩
    rw [callI_eq]
    have h2 : (2000 : Int) ≤ B.length := by omega
    simp [body1_eq _ _ (gpH 36) g36, c36, a36, byVs_len, h, h2]
    simp [byVs, List.map_take]
  · refine ⟨B, by omega, fun b hb => hb, ?_⟩
    rw [callI_eq]
    simp [body1_eq _ _ (gpH 36) g36, c36, a36, byVs_len, h]
theorem eqPick (o : Stack) (id : Id) (hid : id.1 < o.length) (B : List Nat) (p n : Int) (hr : RdrOK B p) (hn : 1 ≤ n) (hn2 : n ≤ 1000000000) :
    ∃ k, 0 ≤ k ∧ k < n ∧ callI H 53 [.ref id 1 0 0, .i n] (setS o id (rd B p)) = some (.i k, setS o id (rd B (p + 1))) := by
  obtain ⟨h1, h2, h3, h4⟩ := hr
  have hne : ¬ id.1 = (setS o id (rd B p)).length := by rw [setS_len]; omega
  have hne2 : ¬ id.1 = o.length := by omega
  have hg := fun (R : OB) r l => setS_top o id R hid r l
  have hs := fun (R R' : OB) r l => setS_put o id R R' hid r l
  have hw1 : IntKind.i64.wrap (p + 1) = p + 1 := wrD (by omega)
  have hw2 : IntKind.i64.wrap (p + 1 - 1) = p := by rw [wrD (by omega)]; omega
  have hw3 : IntKind.i64.wrap p = p := wrD (by omega)
  have hn0 : ¬ n < 1 := by omega
  have hn1 : ¬ n = 0 := by omega
  by_cases hB : B = []
  · subst hB
    refine ⟨0, by omega, by omega, ?_⟩
    rw [callI_eq]
    simp [-St.get, -St.set, body1_eq _ _ (gpH 53) g53, c53, a53, hne2, hg, hs, rd, byVs, hw1, hw2, hw3, hn0, setS_len]
  · have hBl : (byVs B).length = B.length := byVs_len B
    have hpos : 0 < B.length := List.length_pos_iff.2 hB
    have hl0 : ¬ (B.length : Int) = 0 := by omega
    by_cases hk : p < B.length
    · have hlt : p.toNat < B.length := by omega
      have hat := byVs_at B p.toNat hlt
      have hb := h2 _ (List.getElem_mem hlt)
      generalize B[p.toNat] = b at hat hb
      have hw4 : IntKind.i64.wrap (b : Int) = (b : Int) := wrD (by omega)
      have e1 : (b : Int).tmod n = (b : Int) % n := Int.tmod_eq_emod_of_nonneg (by omega)
      refine ⟨(b : Int) % n, Int.emod_nonneg _ (by omega), Int.emod_lt_of_pos _ (by omega), ?_⟩
      rw [callI_eq]
      simp [-St.get, -St.set, body1_eq _ _ (gpH 53) g53, c53, a53, hne2, hg, hs, rd, hBl, hl0, hw1, hw2, hw3, hw4, hn0, hn1, hk, h3, hat, byV, e1, hB, setS_len]
    · have hbyte : ∀ k : Int, 0 ≤ k → ∃ b : Nat, b < 256 ∧ nth (byVs B) (k.tmod B.length).toNat = some (byV b) ∧ 0 ≤ k.tmod B.length ∧ k.tmod B.length < B.length := by
        intro k hk0
        have e := Int.tmod_eq_emod_of_nonneg (b := (B.length : Int)) hk0
        have g1 := Int.emod_nonneg k hl0
        have g2 := Int.emod_lt_of_pos k (b := (B.length : Int)) (by omega)
        have hlt : (k.tmod B.length).toNat < B.length := by rw [e]; omega
        exact ⟨_, h2 _ (List.getElem_mem hlt), byVs_at B _ hlt, by rw [e]; exact g1, by rw [e]; exact g2⟩
      obtain ⟨b1, q1, q2, q3, q4⟩ := hbyte p h3
      obtain ⟨b2, r1, r2, r3, r4⟩ := hbyte (p * 7 + 3) (by omega)
      have d1 : p.tdiv B.length = p / B.length := Int.tdiv_eq_ediv_of_nonneg h3
      have d2 : 0 ≤ p / (B.length : Int) := Int.ediv_nonneg h3 (by omega)
      have d3 : p / (B.length : Int) ≤ p := Int.ediv_le_self _ h3
      have hw4 : IntKind.i64.wrap (b1 : Int) = b1 := wrD (by omega)
      have hw5 : IntKind.i64.wrap (b2 : Int) = b2 := wrD (by omega)
      have hw6 : IntKind.i64.wrap ((b1 : Int) * 131) = b1 * 131 := wrD (by omega)
      have hw7 : IntKind.i64.wrap ((b2 : Int) * 1117) = b2 * 1117 := wrD (by omega)
      have hw8 : IntKind.i64.wrap (p * 7) = p * 7 := wrD (by omega)
      have hw9 : IntKind.i64.wrap (p * 7 + 3) = p * 7 + 3 := wrD (by omega)
      have hw10 : IntKind.i64.wrap ((b1 : Int) * 131 + b2 * 1117) = b1 * 131 + b2 * 1117 := wrD (by omega)
      have hw11 : IntKind.i64.wrap (p * 29) = p * 29 := wrD (by omega)
      have hw12 : IntKind.i64.wrap ((b1 : Int) * 131 + b2 * 1117 + p * 29) = b1 * 131 + b2 * 1117 + p * 29 := wrD (by omega)
      have hw13 : IntKind.i64.wrap (p.tdiv B.length) = p.tdiv B.length := by rw [d1]; exact wrD (by omega)
      have hw14 : IntKind.i64.wrap (p.tdiv B.length * 53) = p.tdiv B.length * 53 := by rw [d1]; exact wrD (by omega)
      have hw15 : IntKind.i64.wrap ((b1 : Int) * 131 + b2 * 1117 + p * 29 + p.tdiv B.length * 53) = b1 * 131 + b2 * 1117 + p * 29 + p.tdiv B.length * 53 := by rw [d1]; exact wrD (by omega)
      have hX : 0 ≤ (b1 : Int) * 131 + b2 * 1117 + p * 29 + p.tdiv B.length * 53 ∧ (b1 : Int) * 131 + b2 * 1117 + p * 29 + p.tdiv B.length * 53 < 4611686018427387904 := by rw [d1]; omega
      generalize hXe : (b1 : Int) * 131 + b2 * 1117 + p * 29 + p.tdiv B.length * 53 = X at *
      have d4 : X.tdiv 64 = X / 64 := Int.tdiv_eq_ediv_of_nonneg hX.1
      have hw16 : IntKind.i64.wrap (X.tdiv 64) = X / 64 := by rw [d4]; exact wrD (by omega)
      obtain ⟨y1, y2⟩ := bxor_nn X (X / 64) hX.1 hX.2 (by omega) (by omega)
      have e1 : (bxor .i64 X (X / 64)).tmod n = bxor .i64 X (X / 64) % n := Int.tmod_eq_emod_of_nonneg y1
      refine ⟨bxor .i64 X (X / 64) % n, Int.emod_nonneg _ (by omega), Int.emod_lt_of_pos _ (by omega), ?_⟩
      rw [callI_eq]
      simp [-St.get, -St.set, body1_eq _ _ (gpH 53) g53, c53, a53, hne2, hg, hs, rd, hBl, hl0, hw1, hw2, hw3, hw4, hw5, hw6, hw7, hw8, hw9, hw10, hw11, hw12, hw13, hw14, hw15, hw16, hn0, hn1, hk, h3, q2, q3, q4, r2, r3, r4, byV, hXe, e1, hB, setS_len]
/-- A call of the reader's from a frame above. -/
theorem frC {f : Nat} {args : List PV} {o : Stack} {id : Id} {R R' : OB} {r : PV} (hid : id.1 < o.length) (h : callI H f args (setS (o ++ [[]]) id R) = some (r, setS (o ++ [[]]) id R')) : callI H f args (setS o id R ++ [[]]) = some (r, setS o id R' ++ [[]]) := by
  rw [setS_app _ _ _ _ hid, setS_app _ _ _ _ hid] at h
  exact h
theorem hidA {o : Stack} {id : Id} (hid : id.1 < o.length) : id.1 < (o ++ [([] : Objs)]).length := by simp; omega
theorem pickF (o : Stack) (id : Id) (hid : id.1 < o.length) (B : List Nat) (p n : Int) (hr : RdrOK B p) (hn : 1 ≤ n) (hn2 : n ≤ 1000000000) :
    ∃ k, 0 ≤ k ∧ k < n ∧ callI H 53 [.ref id 1 0 0, .i n] (setS o id (rd B p) ++ [[]]) = some (.i k, setS o id (rd B (p + 1)) ++ [[]]) := by
  obtain ⟨k, h1, h2, h3⟩ := eqPick (o ++ [[]]) id (hidA hid) B p n hr hn hn2
  exact ⟨k, h1, h2, frC hid h3⟩
theorem RdrOK.next {B : List Nat} {p q : Int} (h : RdrOK B p) (h1 : p ≤ q) (h2 : q ≤ 1000000000) : RdrOK B q := ⟨h.len, h.by8, by have := h.lo; omega, h2⟩
end Go.Am
end
section
set_option maxRecDepth 10000
set_option maxHeartbeats 8000000
set_option linter.unusedSimpArgs false
set_option linter.unusedVariables false
namespace Go.Am
open Go.Proofs Go.Sort Go.Shelf
theorem eqDo (o : Stack) (id : Id) (hid : id.1 < o.length) (B : List Nat) (p : Int) (hr : RdrOK B p) (hp : p + 2 ≤ 1000000000) :
    ∃ k q, p ≤ q ∧ q ≤ p + 2 ∧ -4 ≤ k ∧ k ≤ 4 ∧ callI H 88 [.ref id 1 0 0] (setS o id (rd B p)) = some (.i k, setS o id (rd B q)) := by
  have hne2 : ¬ id.1 = o.length := by omega
  obtain ⟨k1, a1, a2, c1⟩ := pickF o id hid B p 3 hr (by omega) (by omega)
  by_cases h1 : 0 < k1
  · obtain ⟨k2, b1, b2, c2⟩ := pickF o id hid B (p + 1) 5 (hr.next (by omega) (by omega)) (by omega) (by omega)
    have hw : IntKind.i64.wrap (k2 - 2) = k2 - 2 := wrD (by omega)
    refine ⟨k2 - 2, p + 1 + 1, by omega, by omega, by omega, by omega, ?_⟩
    rw [callI_eq]
    simp [body1_eq _ _ (gpH 88) g88, c88, a88, hne2, setS_len, c1, h1, c2, hw]
  · obtain ⟨k2, b1, b2, c2⟩ := pickF o id hid B (p + 1) 9 (hr.next (by omega) (by omega)) (by omega) (by omega)
    have hw : IntKind.i64.wrap (k2 - 4) = k2 - 4 := wrD (by omega)
    refine ⟨k2 - 4, p + 1 + 1, by omega, by omega, by omega, by omega, ?_⟩
    rw [callI_eq]
    simp [body1_eq _ _ (gpH 88) g88, c88, a88, hne2, setS_len, c1, h1, c2, hw]
theorem doF (o : Stack) (id : Id) (hid : id.1 < o.length) (B : List Nat) (p : Int) (hr : RdrOK B p) (hp : p + 2 ≤ 1000000000) :
    ∃ k q, p ≤ q ∧ q ≤ p + 2 ∧ -4 ≤ k ∧ k ≤ 4 ∧ callI H 88 [.ref id 1 0 0] (setS o id (rd B p) ++ [[]]) = some (.i k, setS o id (rd B q) ++ [[]]) := by
  obtain ⟨k, q, h1, h2, h3, h4, h5⟩ := eqDo (o ++ [[]]) id (hidA hid) B p hr hp
  exact ⟨k, q, h1, h2, h3, h4, frC hid h5⟩
theorem hSorted (l : List Mv) (hl : l.length ≤ 1048576) : callI H 68 [.sl false 2 (l.map mvP)] [] = some (encL true true (tidyL l), []) := by
  rw [callI_prim' (p := viaP G 68 wkG) rfl]
  have e : wkG (.sl false 2 (l.map mvP)) = encL false false l := by
    have : nil1 1 (.sl false 2 (l.map mvP)) = .sl false 2 (l.map mvP) := rfl
    simp [wkG, this, weak, weaks_mvP]
  simp only [viaP, List.map_cons, List.map_nil, e]
  exact eqSorted false l hl
/-- The row of rows that grows: its value and its block. -/
def gwP (n : Nat) (g : Gr) : PV := if g = [] then .nils else .own (n, 51) g.length
def gwL (g : Gr) : Objs := if g = [] then [] else [(51, .row 1 (encGs true true g))]
theorem gw_two (n : Nat) (g : Gr) : (g = [] ∧ gwP n g = .nils ∧ gwL g = []) ∨ (g ≠ [] ∧ gwP n g = .own (n, 51) g.length ∧ gwL g = [(51, .row 1 (encGs true true g))]) := by
  by_cases h : g = []
  · exact .inl ⟨h, by simp [gwP, h], by simp [gwL, h]⟩
  · exact .inr ⟨h, by simp [gwP, h], by simp [gwL, h]⟩
theorem loopWi0 (o : Stack) (id : Id) (hid : id.1 < o.length) (B : List Nat) (N s : Int) (few : Bool) (g : Gr) (hN : 1 ≤ N) (hN2 : N ≤ 1000) : ∀ (k : Nat) (p : Int) (l : List Mv), RdrOK B p → p + 4 * k ≤ 1000000000 → l.length + k ≤ 1000 →
    ∃ (l' : List Mv) (q : Int), p ≤ q ∧ q ≤ p + 4 * k ∧ l'.length = l.length + k ∧
      loopI H [0, 4, 5, 6, 7, 8, 9, 10] [4, 5, 25, 45, 51] c43l0 ⟨[(0, .ref id 1 0 0), (4, .ref (o.length, 4) 1 0 0), (5, .ref (o.length, 5) 1 0 0), (6, .i N), (7, .b few), (8, .i s), (9, .own (o.length, 25) l.length), (10, .i k)], (4, .box [.nils]) :: (5, .box [gwP o.length g]) :: (25, .row 2 (l.map mvP)) :: gwL g, setS o id (rd B p)⟩ =
        some (.exit 2, ⟨[(0, .ref id 1 0 0), (4, .ref (o.length, 4) 1 0 0), (5, .ref (o.length, 5) 1 0 0), (6, .i N), (7, .b few), (8, .i s), (9, .own (o.length, 25) l'.length), (10, .i 0), (29, .b false)], (4, .box [.nils]) :: (5, .box [gwP o.length g]) :: (25, .row 2 (l'.map mvP)) :: gwL g, setS o id (rd B q)⟩)
  | 0, p, l, hr, hp, hl => by
    refine ⟨l, p, by omega, by omega, rfl, ?_⟩
    rw [loopI_eq]
    have hne2 : ¬ id.1 = o.length := by omega
    rcases gw_two o.length g with ⟨h, h1, h2⟩ | ⟨h, h1, h2⟩ <;> rw [h1, h2] <;>
      simp [r43l0, b43l0, setS_len, hne2]
  | k + 1, p, l, hr, hp, hl => by
    have hne2 : ¬ id.1 = o.length := by omega
    have hw : IntKind.i64.wrap ((k : Int) + 1 - 1) = k := by rw [wrD (by omega)]; omega
    have hw2 : IntKind.i64.wrap (k : Int) = k := wrD (by omega)
    have hpos : (0 : Int) < (k : Int) + 1 := by omega
    have hl9 : l.length ≤ 4294967295 := by omega
    have hkk : ((k + 1 : Nat) : Int) = (k : Int) + 1 := by omega
    rw [hkk] at hp ⊢
    obtain ⟨a, a1, a2, ca⟩ := pickF o id hid B p 3 hr (by omega) (by omega)
    cases few with
    | true =>
      obtain ⟨t, t1, t2, ct⟩ := pickF o id hid B (p + 1) N (hr.next (by omega) (by omega)) (by omega) (by omega)
      obtain ⟨l', q, e1, e2, e3, hn⟩ := loopWi0 o id hid B N s true g hN hN2 k (p + 1 + 1) (l ++ [(a, t)]) (hr.next (by omega) (by omega)) (by omega) (by simp; omega)
      refine ⟨l', q, by omega, by omega, by rw [e3]; simp; omega, ?_⟩
      refine Eq.trans ?_ hn
      rw [loopI_eq]
      rcases gw_two o.length g with ⟨h, h1, h2⟩ | ⟨h, h1, h2⟩ <;> rw [h1, h2] <;>
        simp [r43l0, b43l0, setS_len, hne2, ca, ct, hw, hw2, hpos, hl9, mvP]
    | false =>
      obtain ⟨d, q1, d1, d2, d3, d4, cd⟩ := doF o id hid B (p + 1) (hr.next (by omega) (by omega)) (by omega)
      obtain ⟨t, t1, t2, ct⟩ := pickF o id hid B q1 N (hr.next (by omega) (by omega)) (by omega) (by omega)
      obtain ⟨l', q, e1, e2, e3, hn⟩ := loopWi0 o id hid B N s false g hN hN2 k (q1 + 1) (l ++ [(d, t)]) (hr.next (by omega) (by omega)) (by omega) (by simp; omega)
      refine ⟨l', q, by omega, by omega, by rw [e3]; simp; omega, ?_⟩
      refine Eq.trans ?_ hn
      rw [loopI_eq]
      rcases gw_two o.length g with ⟨h, h1, h2⟩ | ⟨h, h1, h2⟩ <;> rw [h1, h2] <;>
        simp [r43l0, b43l0, setS_len, hne2, ca, cd, ct, hw, hw2, hpos, hl9, mvP]
end Go.Am
end
section
set_option maxRecDepth 10000
set_option maxHeartbeats 4000000
set_option linter.unusedSimpArgs false
set_option linter.unusedVariables false
namespace Go.Am
open Go.Proofs Go.Sort Go.Shelf
/-! terms -/
inductive Tm | mk (op n : Int) (ps : List Tm)
mutual
def encT (u : Bool) : Tm → PV
  | .mk o n ps => .agg [.i o, .i n, encQ u ps]
def encQ (u : Bool) : List Tm → PV
  | [] => .nils
  | p :: ps => .sl u 3 (encT u p :: encTs u ps)
def encTs (u : Bool) : List Tm → List PV
  | [] => []
  | p :: ps => encT u p :: encTs u ps
end
theorem encTs_map (u : Bool) : ∀ ps : List Tm, encTs u ps = ps.map (encT u)
  | [] => by simp [encTs]
  | p :: ps => by simp [encTs, encTs_map u ps]
theorem encTs_len (u : Bool) (ps : List Tm) : (encTs u ps).length = ps.length := by simp [encTs_map]
theorem encQ_c (u : Bool) {ps : List Tm} (h : ps ≠ []) : encQ u ps = .sl u 3 (encTs u ps) := by
  cases ps with
  | nil => exact absurd rfl h
  | cons p ps => simp [encQ, encTs]
mutual
theorem fal_encT : ∀ p : Tm, fal (encT true p) = encT false p
  | .mk o x ps => by
    simp only [encT, fal, fals]
    rw [fal_encQ ps]
theorem fal_encQ : ∀ ps : List Tm, fal (encQ true ps) = encQ false ps
  | [] => by simp [encQ, fal]
  | p :: ps => by
    simp only [encQ, fal, fals]
    rw [fal_encT p, fals_encTs ps]
theorem fals_encTs : ∀ ps : List Tm, fals (encTs true ps) = encTs false ps
  | [] => by simp [encTs, fals]
  | p :: ps => by
    simp only [encTs, fals]
    rw [fal_encT p, fals_encTs ps]
end
def headOk (o n : Int) : Bool := if o = 0 then decide (n = 0) else if o = 1 then actOk n else if o = 2 ∨ o = 3 then decide (n = 0) else if o = 4 then decide (0 ≤ n) && decide (n ≤ 3) else if o = 5 then decide (0 ≤ n) && decide (n ≤ 2) else false
def wantN (o : Int) : Nat := if o = 1 then 1 else if o = 2 ∨ o = 3 then 2 else if o = 4 then 1 else 0
mutual
/-- How many nodes a term has: 0 if it is none. -/
def nodesT : Tm → Nat
  | .mk o n ps => if headOk o n = true ∧ ps.length = wantN o then nodesL 1 ps else 0
def nodesL (k : Nat) : List Tm → Nat
  | [] => k
  | p :: ps => if nodesT p = 0 then 0 else nodesL (min 1000 (k + nodesT p)) ps
end
mutual
theorem nodesT_le : ∀ t : Tm, nodesT t ≤ 1000
  | .mk o n ps => by
    unfold nodesT
    split
    · exact nodesL_le 1 ps (by omega)
    · omega
theorem nodesL_le : ∀ (k : Nat) (ps : List Tm), k ≤ 1000 → nodesL k ps ≤ 1000
  | k, [], h => by simpa [nodesL] using h
  | k, p :: ps, h => by
    unfold nodesL
    split
    · omega
    · exact nodesL_le _ ps (by omega)
end
theorem tm_at (done : List Tm) (x : Tm) (rest : List Tm) : nth (encTs false (done ++ x :: rest)) done.length = some (encT false x) := by
  simp [nth, encTs_map]
theorem encT_form (u : Bool) (x : Tm) : ∃ (a b : Int) (c : PV), encT u x = .agg [.i a, .i b, c] ∧ (c = .nils ∨ ∃ L, c = .sl u 3 L) := by
  obtain ⟨a, b, ps⟩ := x
  refine ⟨a, b, _, rfl, ?_⟩
  cases ps with
  | nil => exact .inl (by simp [encQ])
  | cons p ps => exact .inr ⟨_, encQ_c u (List.cons_ne_nil p ps)⟩
/-! spec.l2Nodes -/
theorem loopNo (o n : Int) (ps : List Tm) (hps : ps.length ≤ 1000) (h : ∀ p ∈ ps, callI G 124 [encT false p] [] = some (.i (nodesT p), [])) : ∀ (rest done : List Tm) (k : Nat), ps = done ++ rest → k ≤ 1000 →
    ∃ ex, loopI G [1, 3, 5, 6] [1] c124l0 ⟨[(1, .ref (0, 1) 1 0 0), (3, .i ps.length), (5, .i k), (6, .i done.length)], [(1, .box [.i o, .i n, encQ false ps])], []⟩ = some ex ∧
      ((nodesL k rest = 0 ∧ rest ≠ [] ∧ ex = (.ret, ⟨[(2, .i 0)], [], []⟩)) ∨ (ex = (.exit 1, ⟨[(1, .ref (0, 1) 1 0 0), (3, .i ps.length), (5, .i (nodesL k rest)), (6, .i ps.length), (44, .b false)], [(1, .box [.i o, .i n, encQ false ps])], []⟩)))
  | [], done, k, e, hk => by
    have e : ps = done := by simpa using e
    subst e
    refine ⟨_, ?_, .inr rfl⟩
    rw [loopI_eq]
    cases ps with
    | nil => simp [r124l0, b124l0, encQ, nodesL]
    | cons p ps =>
      rw [encQ_c false (List.cons_ne_nil p ps)]
      simp [r124l0, b124l0, nodesL]
  | x :: rest, done, k, e, hk => by
    have hpl : ps.length = done.length + (rest.length + 1) := by rw [e]; simp
    have hlt : (done.length : Int) < ps.length := by omega
    have hw : IntKind.i64.wrap ((done.length : Int) + 1) = (done.length : Int) + 1 := wr (by omega)
    have hat := tm_at done x rest
    rw [← e] at hat
    have hx := h x (by rw [e]; simp)
    have hne : ps ≠ [] := by rw [e]; simp
    have hle := nodesT_le x
    have hw2 : IntKind.i64.wrap ((k : Int) + (nodesT x : Int)) = (k : Int) + (nodesT x : Int) := wr (by omega)
    have hl3 : (encTs false ps).length = ps.length := encTs_len false ps
    have hlt2 : done.length < ps.length := by omega
    obtain ⟨x1, x2, x3, hX, hx3⟩ := encT_form false x
    rw [hX] at hat hx
    by_cases h0 : nodesT x = 0
    · refine ⟨_, ?_, .inl ⟨by simp [nodesL, h0], by simp, rfl⟩⟩
      rw [h0] at hx
      rw [loopI_eq, encQ_c false hne]
      generalize encTs false ps = F at hat hl3 ⊢
      rcases hx3 with rfl | ⟨L3, rfl⟩ <;> simp [r124l0, b124l0, hlt, hlt2, hat, hl3, hx]
    · obtain ⟨ex, hn, hr⟩ := loopNo o n ps hps h rest (done ++ [x]) (min 1000 (k + nodesT x)) (by rw [e]; simp) (by omega)
      have hmin : (if (k : Int) + (nodesT x : Int) < 1000 then (k : Int) + (nodesT x : Int) else 1000) = ((min 1000 (k + nodesT x) : Nat) : Int) := by
        split <;> omega
      refine ⟨ex, ?_, ?_⟩
      · rw [← hn, loopI_eq, encQ_c false hne]
        generalize encTs false ps = F at hat hl3 ⊢
        rcases hx3 with rfl | ⟨L3, rfl⟩ <;> simp [r124l0, b124l0, hlt, hlt2, hat, hl3, hx, h0, hw, hw2, hmin]
      · rcases hr with ⟨h1, h2, h3⟩ | h3
        · exact .inl ⟨by simp [nodesL, h0, h1], by simp, h3⟩
        · exact .inr (by rw [h3]; simp [nodesL, h0])
theorem eqHead (o n : Int) : headOk o n = true → (o = 0 ∧ n = 0) ∨ (o = 1 ∧ actOk n = true) ∨ (o = 2 ∧ n = 0) ∨ (o = 3 ∧ n = 0) ∨ (o = 4 ∧ 0 ≤ n ∧ n ≤ 3) ∨ (o = 5 ∧ 0 ≤ n ∧ n ≤ 2) := by
  intro h
  unfold headOk at h
  split at h
  · simp_all
  · split at h
    · simp_all
    · split at h
      · simp_all
        omega
      · split at h
        · simp_all
        · split at h
          · simp_all
          · cases h
theorem encQ_form (u : Bool) (ps : List Tm) : (encQ u ps = .nils ∧ ps = []) ∨ (∃ F : List PV, encQ u ps = .sl u 3 F ∧ F.length = ps.length ∧ ps ≠ []) := by
  cases ps with
  | nil => exact .inl ⟨by simp [encQ], rfl⟩
  | cons p ps => exact .inr ⟨_, encQ_c u (List.cons_ne_nil p ps), encTs_len u (p :: ps), by simp⟩
theorem eqNodes0 (o n : Int) (ps : List Tm) (hp : ∀ p ∈ ps, callI G 124 [encT false p] [] = some (.i (nodesT p), [])) (hh : headOk o n = true ∧ ps.length = wantN o) :
    callI G 124 [encT false (.mk o n ps)] [] = some (.i (nodesL 1 ps), []) := by
  obtain ⟨hh, hlen⟩ := hh
  have h2 : ps.length ≤ 2 := by rw [hlen]; unfold wantN; (repeat' split) <;> omega
  have ha := eqActS n
  have hin := l6In n 0 3
  have hin2 := l6In n 0 2
  obtain ⟨ex, hlp, hx⟩ := loopNo o n ps (by omega) hp ps [] 1 rfl (by omega)
  simp only [List.length_nil, show ((0 : Nat) : Int) = 0 from rfl, show ((1 : Nat) : Int) = 1 from rfl] at hlp hx
  have hex : ex = (.ret, ⟨[(2, .i (nodesL 1 ps))], [], []⟩) ∨ ex = (.exit 1, ⟨[(1, .ref (0, 1) 1 0 0), (3, .i ps.length), (5, .i (nodesL 1 ps)), (6, .i ps.length), (44, .b false)], [(1, .box [.i o, .i n, encQ false ps])], []⟩) := by
    rcases hx with ⟨h1, _, h3⟩ | h3
    · exact .inl (by rw [h3, h1]; rfl)
    · exact .inr h3
  clear hx
  simp only [encT]
  generalize nodesL 1 ps = R at hex ⊢
  rw [callI_eq]
  rcases eqHead o n hh with ⟨rfl, rfl⟩ | ⟨rfl, h⟩ | ⟨rfl, rfl⟩ | ⟨rfl, rfl⟩ | ⟨rfl, h⟩ | ⟨rfl, h⟩
  · have hl : ps.length = 0 := by simpa [wantN] using hlen
    obtain rfl : ps = [] := List.length_eq_zero_iff.1 hl
    simp only [encQ, List.length_nil, show ((0 : Nat) : Int) = 0 from rfl] at hlp hex ⊢
    rcases hex with rfl | rfl <;> simp [body1_eq _ _ (gp 124) g124, c124, a124, hlp]
  · have hl : ps.length = 1 := by simpa [wantN] using hlen
    rw [h] at ha
    rcases encQ_form false ps with ⟨_, e0⟩ | ⟨F, e, e1, _⟩
    · rw [e0] at hl; simp at hl
    · rw [e] at hlp hex ⊢
      rw [hl] at hlp hex e1
      simp only [show ((1 : Nat) : Int) = 1 from rfl] at hlp hex
      rcases hex with rfl | rfl <;> simp [body1_eq _ _ (gp 124) g124, c124, a124, hlp, ha, e1]
  · have hl : ps.length = 2 := by simpa [wantN] using hlen
    rcases encQ_form false ps with ⟨_, e0⟩ | ⟨F, e, e1, _⟩
    · rw [e0] at hl; simp at hl
    · rw [e] at hlp hex ⊢
      rw [hl] at hlp hex e1
      simp only [show ((2 : Nat) : Int) = 2 from rfl] at hlp hex
      rcases hex with rfl | rfl <;> simp [body1_eq _ _ (gp 124) g124, c124, a124, hlp, e1]
  · have hl : ps.length = 2 := by simpa [wantN] using hlen
    rcases encQ_form false ps with ⟨_, e0⟩ | ⟨F, e, e1, _⟩
    · rw [e0] at hl; simp at hl
    · rw [e] at hlp hex ⊢
      rw [hl] at hlp hex e1
      simp only [show ((2 : Nat) : Int) = 2 from rfl] at hlp hex
      rcases hex with rfl | rfl <;> simp [body1_eq _ _ (gp 124) g124, c124, a124, hlp, e1]
  · have hl : ps.length = 1 := by simpa [wantN] using hlen
    have d1 := h.1
    have d2 := h.2
    simp [d1, d2] at hin hin2
    rcases encQ_form false ps with ⟨_, e0⟩ | ⟨F, e, e1, _⟩
    · rw [e0] at hl; simp at hl
    · rw [e] at hlp hex ⊢
      rw [hl] at hlp hex e1
      simp only [show ((1 : Nat) : Int) = 1 from rfl] at hlp hex
      rcases hex with rfl | rfl <;> simp [body1_eq _ _ (gp 124) g124, c124, a124, hlp, hin, e1]
  · have hl : ps.length = 0 := by simpa [wantN] using hlen
    have d1 := h.1
    have d2 := h.2
    simp [d1, d2] at hin2
    obtain rfl : ps = [] := List.length_eq_zero_iff.1 hl
    simp only [encQ, List.length_nil, show ((0 : Nat) : Int) = 0 from rfl] at hlp hex ⊢
    rcases hex with rfl | rfl <;> simp [body1_eq _ _ (gp 124) g124, c124, a124, hlp, hin2]
theorem eqNodesN (o n : Int) (ps : List Tm) (hh : ¬(headOk o n = true ∧ ps.length = wantN o)) : callI G 124 [encT false (.mk o n ps)] [] = some (.i 0, []) := by
  have ha := eqActS n
  have hin := l6In n 0 3
  have hin2 := l6In n 0 2
  simp only [encT]
  rw [callI_eq]
  by_cases o0 : o = 0
  · subst o0
    by_cases hk : n = 0
    · have hl : ps.length ≠ 0 := fun e => hh ⟨by simp [headOk, hk], by simp [wantN, e]⟩
      rcases encQ_form false ps with ⟨e, e0⟩ | ⟨F, e, e1, _⟩ <;> rw [e]
      · rw [e0] at hl; simp at hl
      · have hl2 : ¬ ((ps.length : Int) = 0) := by omega
        simp [body1_eq _ _ (gp 124) g124, c124, a124, hk, e1, hl2, hl]
    · rcases encQ_form false ps with ⟨e, e0⟩ | ⟨F, e, e1, _⟩ <;> rw [e] <;>
        simp [body1_eq _ _ (gp 124) g124, c124, a124, hk]
  by_cases o1 : o = 1
  · subst o1
    by_cases hk : actOk n = true
    · have hl : ps.length ≠ 1 := fun e => hh ⟨by simp [headOk, hk], by simp [wantN, e]⟩
      rcases encQ_form false ps with ⟨e, e0⟩ | ⟨F, e, e1, _⟩ <;> rw [e]
      · simp [body1_eq _ _ (gp 124) g124, c124, a124, ha, hk]
      · have hl2 : ¬ ((ps.length : Int) = 1) := by omega
        simp [body1_eq _ _ (gp 124) g124, c124, a124, ha, hk, e1, hl2, hl]
    · rcases encQ_form false ps with ⟨e, e0⟩ | ⟨F, e, e1, _⟩ <;> rw [e] <;>
        simp [body1_eq _ _ (gp 124) g124, c124, a124, ha, hk]
  by_cases o2 : o = 2
  · subst o2
    by_cases hk : n = 0
    · have hl : ps.length ≠ 2 := fun e => hh ⟨by simp [headOk, hk], by simp [wantN, e]⟩
      rcases encQ_form false ps with ⟨e, e0⟩ | ⟨F, e, e1, _⟩ <;> rw [e]
      · simp [body1_eq _ _ (gp 124) g124, c124, a124, hk]
      · have hl2 : ¬ ((ps.length : Int) = 2) := by omega
        simp [body1_eq _ _ (gp 124) g124, c124, a124, hk, e1, hl2, hl]
    · rcases encQ_form false ps with ⟨e, e0⟩ | ⟨F, e, e1, _⟩ <;> rw [e] <;>
        simp [body1_eq _ _ (gp 124) g124, c124, a124, hk]
  by_cases o3 : o = 3
  · subst o3
    by_cases hk : n = 0
    · have hl : ps.length ≠ 2 := fun e => hh ⟨by simp [headOk, hk], by simp [wantN, e]⟩
      rcases encQ_form false ps with ⟨e, e0⟩ | ⟨F, e, e1, _⟩ <;> rw [e]
      · simp [body1_eq _ _ (gp 124) g124, c124, a124, hk]
      · have hl2 : ¬ ((ps.length : Int) = 2) := by omega
        simp [body1_eq _ _ (gp 124) g124, c124, a124, hk, e1, hl2, hl]
    · rcases encQ_form false ps with ⟨e, e0⟩ | ⟨F, e, e1, _⟩ <;> rw [e] <;>
        simp [body1_eq _ _ (gp 124) g124, c124, a124, hk]
  by_cases o4 : o = 4
  · subst o4
    generalize hb : (decide (0 ≤ n) && decide (n ≤ 3)) = b at hin
    by_cases hk : b = true
    · have hl : ps.length ≠ 1 := fun e => hh ⟨by simp [headOk, hb, hk], by simp [wantN, e]⟩
      rcases encQ_form false ps with ⟨e, e0⟩ | ⟨F, e, e1, _⟩ <;> rw [e]
      · simp [body1_eq _ _ (gp 124) g124, c124, a124, hin, hk]
      · have hl2 : ¬ ((ps.length : Int) = 1) := by omega
        simp [body1_eq _ _ (gp 124) g124, c124, a124, hin, hk, e1, hl2, hl]
    · rcases encQ_form false ps with ⟨e, e0⟩ | ⟨F, e, e1, _⟩ <;> rw [e] <;>
        simp [body1_eq _ _ (gp 124) g124, c124, a124, hin, hk]
  by_cases o5 : o = 5
  · subst o5
    generalize hb : (decide (0 ≤ n) && decide (n ≤ 2)) = b at hin2
    by_cases hk : b = true
    · have hl : ps.length ≠ 0 := fun e => hh ⟨by simp [headOk, hb, hk], by simp [wantN, e]⟩
      rcases encQ_form false ps with ⟨e, e0⟩ | ⟨F, e, e1, _⟩ <;> rw [e]
      · rw [e0] at hl; simp at hl
      · have hl2 : ¬ ((ps.length : Int) = 0) := by omega
        simp [body1_eq _ _ (gp 124) g124, c124, a124, hin2, hk, e1, hl2, hl]
    · rcases encQ_form false ps with ⟨e, e0⟩ | ⟨F, e, e1, _⟩ <;> rw [e] <;>
        simp [body1_eq _ _ (gp 124) g124, c124, a124, hin2, hk]
  rcases encQ_form false ps with ⟨e, e0⟩ | ⟨F, e, e1, _⟩ <;> rw [e] <;>
    simp [body1_eq _ _ (gp 124) g124, c124, a124, o0, o1, o2, o3, o4, o5]
theorem eqNodes : ∀ t : Tm, callI G 124 [encT false t] [] = some (.i (nodesT t), [])
  | .mk o n ps => by
    have hp : ∀ p ∈ ps, callI G 124 [encT false p] [] = some (.i (nodesT p), []) := fun p hp => eqNodes p
    unfold nodesT
    split
    · rename_i hh
      exact eqNodes0 o n ps hp hh
    · rename_i hh
      exact eqNodesN o n ps hh
  termination_by t => SizeOf.sizeOf t
  decreasing_by
    have := List.sizeOf_lt_of_mem hp
    simp
    omega
end Go.Am
end
section
set_option maxRecDepth 10000
set_option maxHeartbeats 16000000
set_option linter.unusedSimpArgs false
set_option linter.unusedVariables false
namespace Go.Am
open Go.Proofs Go.Sort Go.Shelf
/-! terms as they are drawn -/
mutual
/-- Small numbers, and at most two parts. -/
def DrT : Tm → Prop
  | .mk o n ps => (-1000 ≤ o ∧ o ≤ 1000) ∧ (-1000 ≤ n ∧ n ≤ 1000) ∧ ps.length ≤ 2 ∧ DrTs ps
def DrTs : List Tm → Prop
  | [] => True
  | p :: ps => DrT p ∧ DrTs ps
end
/-- How far a draw of a depth reads at most. -/
def dcT : Nat → Int
  | 0 => 10
  | d + 1 => 10 + 2 * dcT d
theorem dcT_nn : ∀ d, 10 ≤ dcT d
  | 0 => by simp [dcT]
  | d + 1 => by have := dcT_nn d; simp only [dcT]; omega
theorem encT_two (t : Tm) : ∃ o n ps, t = .mk o n ps ∧ ((ps = [] ∧ encT true t = .agg [.i o, .i n, .nils]) ∨ (encT true t = .agg [.i o, .i n, .sl true 3 (encTs true ps)] ∧ encQ true ps = .sl true 3 (encTs true ps))) := by
  obtain ⟨o, n, ps⟩ := t
  refine ⟨o, n, ps, rfl, ?_⟩
  cases ps with
  | nil => exact .inl ⟨rfl, rfl⟩
  | cons p ps => exact .inr ⟨by simp [encT, encQ, encTs], by simp [encQ, encTs]⟩
theorem eqGood : ∀ (d : Nat) (o : Stack) (id : Id), id.1 < o.length → ∀ (B : List Nat) (p : Int) (c : Nat) (be : Bool), RdrOK B p → d ≤ 20 → c ≤ 3 → p + dcT d ≤ 1000000000 →
    ∃ t q, p ≤ q ∧ q ≤ p + dcT d ∧ DrT t ∧ callI H 119 [.ref id 1 0 0, .i d, .i c, .b be] (setS o id (rd B p)) = some (encT true t, setS o id (rd B q))
  | 0, o, id, hid, B, p, c, be, hr, hd, hc, hp => by
    have hne2 : ¬ id.1 = o.length := by omega
    have hdc : dcT 0 = 10 := rfl
    have hw : IntKind.i64.wrap (-1) = -1 := wrD (by omega)
    obtain ⟨k, a1, a2, c1⟩ := pickF o id hid B p 9 hr (by omega) (by omega)
    obtain ⟨k2, b1, b2, c2⟩ := pickF o id hid B (p + 1) 2 (hr.next (by omega) (by omega)) (by omega) (by omega)
    by_cases hcall : 0 < c ∧ be = true
    · obtain ⟨hc0, rfl⟩ := hcall
      obtain ⟨k3, d1, d2, c3⟩ := pickF o id hid B (p + 1 + 1) c (hr.next (by omega) (by omega)) (by omega) (by omega)
      have hc0' : (0 : Int) < c := by omega
      refine ⟨.mk 5 k3 [], p + 1 + 1 + 1, by omega, by omega, ⟨by omega, by omega, by simp, trivial⟩, ?_⟩
      rw [callI_eq]
      simp [body1_eq _ _ (gpH 119) g119, c119, a119, hne2, setS_len, c1, c2, b2, hc0, hc0', c3, encT, encQ]
    · by_cases h0 : k2 = 0
      · subst h0
        refine ⟨.mk 0 0 [], p + 1 + 1, by omega, by omega, ⟨by omega, by omega, by simp, trivial⟩, ?_⟩
        rw [callI_eq]
        by_cases hc0 : 0 < c
        · have hb : be = false := by cases be with
            | false => rfl
            | true => exact absurd ⟨hc0, rfl⟩ hcall
          subst hb
          have hc0' : (0 : Int) < c := by omega
          simp [body1_eq _ _ (gpH 119) g119, c119, a119, hne2, setS_len, c1, c2, hc0, hc0', encT, encQ]
        · obtain rfl : c = 0 := by omega
          simp [body1_eq _ _ (gpH 119) g119, c119, a119, hne2, setS_len, c1, c2, encT, encQ]
      · obtain ⟨n, q, e1, e2, e3, e4, e5⟩ := doF o id hid B (p + 1 + 1) (hr.next (by omega) (by omega)) (by omega)
        have hk2 : k2 = 1 := by omega
        subst hk2
        refine ⟨.mk 1 n [.mk 0 0 []], q, by omega, by omega, ⟨by omega, by omega, by simp, ⟨by omega, by omega, by simp, trivial⟩, trivial⟩, ?_⟩
        rw [callI_eq]
        by_cases hc0 : 0 < c
        · have hb : be = false := by cases be with
            | false => rfl
            | true => exact absurd ⟨hc0, rfl⟩ hcall
          subst hb
          have hc0' : (0 : Int) < c := by omega
          simp [body1_eq _ _ (gpH 119) g119, c119, a119, hne2, setS_len, c1, c2, hc0, hc0', e5, hw, encT, encQ, encTs]
        · obtain rfl : c = 0 := by omega
          simp [body1_eq _ _ (gpH 119) g119, c119, a119, hne2, setS_len, c1, c2, e5, hw, encT, encQ, encTs]
  | d + 1, o, id, hid, B, p, c, be, hr, hd, hc, hp => by
    have hne2 : ¬ id.1 = o.length := by omega
    have hdn := dcT_nn d
    have hdc : dcT (d + 1) = 10 + 2 * dcT d := rfl
    have hd0 : ¬ (d : Int) + 1 = 0 := by omega
    have hw : IntKind.i64.wrap ((d : Int) + 1 - 1) = d := by rw [wrD (by omega)]; omega
    have hw2 : IntKind.i64.wrap (d : Int) = d := wrD (by omega)
    have hm : (if 0 < d then (d : Int) else 0) = d := by split <;> omega
    have ih : ∀ q be', RdrOK B q → q + dcT d ≤ 1000000000 → ∃ t q', q ≤ q' ∧ q' ≤ q + dcT d ∧ DrT t ∧ callI H 119 [.ref id 1 0 0, .i d, .i c, .b be'] (setS o id (rd B q) ++ [[]]) = some (encT true t, setS o id (rd B q') ++ [[]]) := fun q be' hq h => by
      obtain ⟨t, q', e1, e2, e3, e4⟩ := eqGood d (o ++ [[]]) id (hidA hid) B q c be' hq (by omega) hc h
      exact ⟨t, q', e1, e2, e3, frC hid e4⟩
    obtain ⟨k, a1, a2, c1⟩ := pickF o id hid B p 9 hr (by omega) (by omega)
    by_cases hcall : k < 2 ∧ 0 < c ∧ be = true
    · obtain ⟨hk, hc0, rfl⟩ := hcall
      obtain ⟨k3, d1, d2, c3⟩ := pickF o id hid B (p + 1) c (hr.next (by omega) (by omega)) (by omega) (by omega)
      have hc0' : (0 : Int) < c := by omega
      refine ⟨.mk 5 k3 [], p + 1 + 1, by omega, by omega, ⟨by omega, by omega, by simp, trivial⟩, ?_⟩
      rw [callI_eq]
      simp [body1_eq _ _ (gpH 119) g119, c119, a119, hne2, setS_len, hd0, c1, hk, hc0, hc0', c3, encT, encQ]
    · -- no call
      have hno : k < 2 → (c = 0 ∨ be = false) := fun h => by
        by_cases hc0 : 0 < c
        · right
          cases be with
          | false => rfl
          | true => exact absurd ⟨h, hc0, rfl⟩ hcall
        · left; omega
      have hk : k = 0 ∨ k = 1 ∨ (2 ≤ k ∧ k < 5) ∨ k = 5 ∨ k = 6 ∨ k = 7 ∨ k = 8 := by omega
      rcases hk with rfl | rfl | hk | rfl | hk | hk | rfl
      · refine ⟨.mk 0 0 [], p + 1, by omega, by omega, ⟨by omega, by omega, by simp, trivial⟩, ?_⟩
        rw [callI_eq]
        rcases hno (by omega) with rfl | rfl
        · simp [body1_eq _ _ (gpH 119) g119, c119, a119, hne2, setS_len, hd0, c1, encT, encQ]
        · by_cases hc0 : 0 < c
          · have hc0' : (0 : Int) < c := by omega
            simp [body1_eq _ _ (gpH 119) g119, c119, a119, hne2, setS_len, hd0, c1, hc0, hc0', encT, encQ]
          · obtain rfl : c = 0 := by omega
            simp [body1_eq _ _ (gpH 119) g119, c119, a119, hne2, setS_len, hd0, c1, encT, encQ]
      · obtain ⟨n, q1, e1, e2, e3, e4, e5⟩ := doF o id hid B (p + 1) (hr.next (by omega) (by omega)) (by omega)
        obtain ⟨t, q2, f1, f2, f3, f4⟩ := ih q1 true (hr.next (by omega) (by omega)) (by omega)
        refine ⟨.mk 1 n [t], q2, by omega, by omega, ⟨by omega, by omega, by simp, f3, trivial⟩, ?_⟩
        rw [callI_eq]
        obtain ⟨to, tn, tp, rfl, ⟨rfl, ht⟩ | ⟨ht, hE⟩⟩ := encT_two t <;>
          (simp only [encT, encQ]; rw [ht] at f4
           rcases hno (by omega) with rfl | rfl
           · simp only [show ((0 : Nat) : Int) = 0 from rfl] at f4
             simp [body1_eq _ _ (gpH 119) g119, c119, a119, hne2, setS_len, hd0, hw, hw2, hm, c1, e5, f4, encTs_len, encTs]
             try exact hE.symm
           · by_cases hc0 : 0 < c
             · have hc0' : (0 : Int) < c := by omega
               simp [body1_eq _ _ (gpH 119) g119, c119, a119, hne2, setS_len, hd0, hw, hw2, hm, c1, e5, f4, hc0, hc0', encTs_len, encTs]
               try exact hE.symm
             · obtain rfl : c = 0 := by omega
               simp only [show ((0 : Nat) : Int) = 0 from rfl] at f4
               simp [body1_eq _ _ (gpH 119) g119, c119, a119, hne2, setS_len, hd0, hw, hw2, hm, c1, e5, f4, encTs_len, encTs]
               try exact hE.symm)
      · obtain ⟨n, q1, e1, e2, e3, e4, e5⟩ := doF o id hid B (p + 1) (hr.next (by omega) (by omega)) (by omega)
        obtain ⟨t, q2, f1, f2, f3, f4⟩ := ih q1 true (hr.next (by omega) (by omega)) (by omega)
        refine ⟨.mk 1 n [t], q2, by omega, by omega, ⟨by omega, by omega, by simp, f3, trivial⟩, ?_⟩
        have h2 : ¬ k < 2 := by omega
        have h0 : ¬ k = 0 := by omega
        have h5 := hk.2
        rw [callI_eq]
        obtain ⟨to, tn, tp, rfl, ⟨rfl, ht⟩ | ⟨ht, hE⟩⟩ := encT_two t <;>
          (simp only [encT, encQ]; rw [ht] at f4
           simp [body1_eq _ _ (gpH 119) g119, c119, a119, hne2, setS_len, hd0, hw, hw2, hm, c1, h2, h0, h5, e5, f4, encTs_len, encTs]
           try exact hE.symm)
      · obtain ⟨n, b1, b2, c2⟩ := pickF o id hid B (p + 1) 4 (hr.next (by omega) (by omega)) (by omega) (by omega)
        obtain ⟨t, q2, f1, f2, f3, f4⟩ := ih (p + 1 + 1) be (hr.next (by omega) (by omega)) (by omega)
        refine ⟨.mk 4 n [t], q2, by omega, by omega, ⟨by omega, by omega, by simp, f3, trivial⟩, ?_⟩
        rw [callI_eq]
        obtain ⟨to, tn, tp, rfl, ⟨rfl, ht⟩ | ⟨ht, hE⟩⟩ := encT_two t <;>
          (simp only [encT, encQ]; rw [ht] at f4
           simp [body1_eq _ _ (gpH 119) g119, c119, a119, hne2, setS_len, hd0, hw, hw2, c1, c2, f4, encTs_len, encTs]
           try exact hE.symm)
      all_goals
        obtain ⟨t, q1, e1, e2, e3, e4⟩ := ih (p + 1) be (hr.next (by omega) (by omega)) (by omega)
        obtain ⟨u, q2, f1, f2, f3, f4⟩ := ih q1 be (hr.next (by omega) (by omega)) (by omega)
      · refine ⟨.mk 2 0 [t, u], q2, by omega, by omega, ⟨by omega, by omega, by simp, e3, f3, trivial⟩, ?_⟩
        subst hk
        rw [callI_eq]
        obtain ⟨to, tn, tp, rfl, ⟨rfl, ht⟩ | ⟨ht, hE⟩⟩ := encT_two t <;> obtain ⟨uo, un, up, rfl, ⟨rfl, hu⟩ | ⟨hu, hF⟩⟩ := encT_two u <;>
          (simp only [encT, encQ]; rw [ht] at e4; rw [hu] at f4
           simp [body1_eq _ _ (gpH 119) g119, c119, a119, hne2, setS_len, hd0, hw, hw2, c1, e4, f4, encTs_len, encTs]
           try simp only [encT, encQ, hE, hF, and_self]
           try simp only [encT, encQ, hE, and_self]
           try simp only [encT, encQ, hF, and_self]
           try simp only [encT, encQ])
      · refine ⟨.mk 2 0 [t, u], q2, by omega, by omega, ⟨by omega, by omega, by simp, e3, f3, trivial⟩, ?_⟩
        subst hk
        rw [callI_eq]
        obtain ⟨to, tn, tp, rfl, ⟨rfl, ht⟩ | ⟨ht, hE⟩⟩ := encT_two t <;> obtain ⟨uo, un, up, rfl, ⟨rfl, hu⟩ | ⟨hu, hF⟩⟩ := encT_two u <;>
          (simp only [encT, encQ]; rw [ht] at e4; rw [hu] at f4
           simp [body1_eq _ _ (gpH 119) g119, c119, a119, hne2, setS_len, hd0, hw, hw2, c1, e4, f4, encTs_len, encTs]
           try simp only [encT, encQ, hE, hF, and_self]
           try simp only [encT, encQ, hE, and_self]
           try simp only [encT, encQ, hF, and_self]
           try simp only [encT, encQ])
      · refine ⟨.mk 3 0 [t, u], q2, by omega, by omega, ⟨by omega, by omega, by simp, e3, f3, trivial⟩, ?_⟩
        rw [callI_eq]
        obtain ⟨to, tn, tp, rfl, ⟨rfl, ht⟩ | ⟨ht, hE⟩⟩ := encT_two t <;> obtain ⟨uo, un, up, rfl, ⟨rfl, hu⟩ | ⟨hu, hF⟩⟩ := encT_two u <;>
          (simp only [encT, encQ]; rw [ht] at e4; rw [hu] at f4
           simp [body1_eq _ _ (gpH 119) g119, c119, a119, hne2, setS_len, hd0, hw, hw2, c1, e4, f4, encTs_len, encTs]
           try simp only [encT, encQ, hE, hF, and_self]
           try simp only [encT, encQ, hE, and_self]
           try simp only [encT, encQ, hF, and_self]
           try simp only [encT, encQ])
theorem goodF (d : Nat) (o : Stack) (id : Id) (hid : id.1 < o.length) (B : List Nat) (p : Int) (c : Nat) (be : Bool) (hr : RdrOK B p) (hd : d ≤ 20) (hc : c ≤ 3) (hp : p + dcT d ≤ 1000000000) :
    ∃ t q, p ≤ q ∧ q ≤ p + dcT d ∧ DrT t ∧ callI H 119 [.ref id 1 0 0, .i d, .i c, .b be] (setS o id (rd B p) ++ [[]]) = some (encT true t, setS o id (rd B q) ++ [[]]) := by
  obtain ⟨t, q, e1, e2, e3, e4⟩ := eqGood d (o ++ [[]]) id (hidA hid) B p c be hr hd hc hp
  exact ⟨t, q, e1, e2, e3, frC hid e4⟩
end Go.Am
end
section
set_option maxRecDepth 10000
set_option maxHeartbeats 4000000
set_option linter.unusedSimpArgs false
set_option linter.unusedVariables false
namespace Go.Am
open Go.Proofs Go.Sort Go.Shelf
def okT (t : Tm) : Bool := decide (1 ≤ nodesT t) && decide (nodesT t ≤ 24)
theorem eqTermOk (t : Tm) : callI G 142 [encT false t] [] = some (.b (okT t), []) := by
  have h := eqNodes t
  have h2 := l6In (nodesT t) 1 24
  have e : (decide ((1 : Int) ≤ nodesT t) && decide ((nodesT t : Int) ≤ 24)) = okT t := by
    unfold okT
    rw [Bool.eq_iff_iff]
    simp only [Bool.and_eq_true, decide_eq_true_eq]
    omega
  rw [e] at h2
  obtain ⟨x1, x2, x3, hX, hx3⟩ := encT_form false t
  rw [hX] at h ⊢
  rw [callI_eq]
  rcases hx3 with rfl | ⟨L3, rfl⟩ <;> simp [body1_eq _ _ (gp 142) g142, c142, a142, h, h2]
/-! calls -/
mutual
def callsT (g : Bool) : Tm → Int
  | .mk o n ps => if o = 5 then n else if g = true ∧ o = 1 then -1 else callsL g (-1) ps
def callsL (g : Bool) (k : Int) : List Tm → Int
  | [] => k
  | p :: ps => callsL g (if k < callsT g p then callsT g p else k) ps
end
theorem loopCa (g : Bool) (o n : Int) (ho : ¬ (g = true ∧ o = 1)) (ps : List Tm) (hps : ps.length ≤ 9223372036854775806) (h : ∀ p ∈ ps, callI G 141 [encT false p, .b g] [] = some (.i (callsT g p), [])) : ∀ (rest done : List Tm) (k : Int), ps = done ++ rest →
    ∃ q, loopI G [1, 2, 5, 6] [2] c141l0 ⟨[(1, .b g), (2, .ref (0, 2) 1 0 0), (5, .i k), (6, .i done.length)], [(2, .box [.i o, .i n, encQ false ps])], []⟩ =
      some (.exit 0, ⟨[(1, .b g), (2, .ref (0, 2) 1 0 0), (5, .i (callsL g k rest)), (6, .i ps.length), (25, q)], [(2, .box [.i o, .i n, encQ false ps])], []⟩)
  | [], done, k, e => by
    have e : ps = done := by simpa using e
    subst e
    refine ⟨.b false, ?_⟩
    rw [loopI_eq]
    rcases encQ_form false ps with ⟨e, e0⟩ | ⟨F, e, e1, _⟩ <;> rw [e]
    · subst e0
      cases g <;> simp [r141l0, b141l0, callsL]
    · cases g <;> simp [r141l0, b141l0, callsL, e1]
  | x :: rest, done, k, e => by
    have hpl : ps.length = done.length + (rest.length + 1) := by rw [e]; simp
    have hlt : (done.length : Int) < ps.length := by omega
    have hw : IntKind.i64.wrap ((done.length : Int) + 1) = (done.length : Int) + 1 := wr (by omega)
    have hat := tm_at done x rest
    rw [← e] at hat
    have hx := h x (by rw [e]; simp)
    have hne : ps ≠ [] := by rw [e]; simp
    have hl3 : (encTs false ps).length = ps.length := encTs_len false ps
    have hlt2 : done.length < ps.length := by omega
    obtain ⟨x1, x2, x3, hX, hx3⟩ := encT_form false x
    rw [hX] at hat hx
    obtain ⟨q, hn⟩ := loopCa g o n ho ps hps h rest (done ++ [x]) (if k < callsT g x then callsT g x else k) (by rw [e]; simp)
    refine ⟨q, ?_⟩
    have hc : callsL g k (x :: rest) = callsL g (if k < callsT g x then callsT g x else k) rest := by rw [callsL]
    rw [hc]
    refine Eq.trans ?_ hn
    rw [loopI_eq, encQ_c false hne]
    generalize encTs false ps = F at hat hl3 ⊢
    generalize callsT g x = v at hx ⊢
    cases g
    · rcases hx3 with rfl | ⟨L3, rfl⟩ <;> simp [r141l0, b141l0, hlt, hlt2, hat, hl3, hx, hw]
    · have ho : ¬ o = 1 := fun e => ho ⟨rfl, e⟩
      rcases hx3 with rfl | ⟨L3, rfl⟩ <;> simp [r141l0, b141l0, hlt, hlt2, hat, hl3, hx, hw, ho]
mutual
/-- At most three parts anywhere, and numbers that fit. -/
def SmT : Tm → Prop
  | .mk o n ps => (-9223372036854775808 ≤ o ∧ o ≤ 9223372036854775807) ∧ (-9223372036854775808 ≤ n ∧ n ≤ 9223372036854775807) ∧ ps.length ≤ 3 ∧ SmTs ps
def SmTs : List Tm → Prop
  | [] => True
  | p :: ps => SmT p ∧ SmTs ps
end
theorem SmTs.mem : ∀ {ps : List Tm}, SmTs ps → ∀ p ∈ ps, SmT p
  | [], _, p, h => by cases h
  | q :: ps, hs, p, h => by
    rcases List.mem_cons.1 h with rfl | h
    · exact hs.1
    · exact SmTs.mem hs.2 p h
theorem eqCalls0 (g : Bool) (o n : Int) (ps : List Tm) (hps : ps.length ≤ 3) (hp : ∀ p ∈ ps, callI G 141 [encT false p, .b g] [] = some (.i (callsT g p), [])) :
    callI G 141 [encT false (.mk o n ps), .b g] [] = some (.i (callsT g (.mk o n ps)), []) := by
  simp only [encT]
  unfold callsT
  by_cases h5 : o = 5
  · subst h5
    rw [callI_eq]
    rcases encQ_form false ps with ⟨e, e0⟩ | ⟨F, e, e1, _⟩ <;> rw [e] <;> simp [body1_eq _ _ (gp 141) g141, c141, a141]
  · rw [if_neg h5]
    by_cases hg : g = true ∧ o = 1
    · obtain ⟨rfl, rfl⟩ := hg
      have hl : ∃ q, loopI G [1, 2, 5, 6] [2] c141l0 ⟨[(1, .b true), (2, .ref (0, 2) 1 0 0), (5, .i (-1)), (6, .i 0)], [(2, .box [.i 1, .i n, encQ false ps])], []⟩ =
          some (.exit 0, ⟨[(1, .b true), (2, .ref (0, 2) 1 0 0), (5, .i (-1)), (6, .i 0), (25, q)], [(2, .box [.i 1, .i n, encQ false ps])], []⟩) := by
        refine ⟨.b false, ?_⟩
        rw [loopI_eq]
        rcases encQ_form false ps with ⟨e, e0⟩ | ⟨F, e, e1, e2⟩ <;> rw [e]
        · simp [r141l0, b141l0]
        · have hpos : 0 < ps.length := by
            cases ps with
            | nil => exact absurd rfl e2
            | cons p ps => simp
          simp [r141l0, b141l0, e1, hpos]
      obtain ⟨q, hl⟩ := hl
      rw [callI_eq]
      rcases encQ_form false ps with ⟨e, e0⟩ | ⟨F, e, e1, _⟩ <;> rw [e] at hl ⊢ <;> simp [body1_eq _ _ (gp 141) g141, c141, a141, hl]
    · rw [if_neg hg]
      obtain ⟨q, hl⟩ := loopCa g o n hg ps (by omega) hp ps [] (-1) rfl
      simp only [List.length_nil, show ((0 : Nat) : Int) = 0 from rfl] at hl
      generalize callsL g (-1) ps = R at hl ⊢
      rw [callI_eq]
      rcases encQ_form false ps with ⟨e, e0⟩ | ⟨F, e, e1, _⟩ <;> rw [e] at hl ⊢ <;> simp [body1_eq _ _ (gp 141) g141, c141, a141, hl, h5]
theorem eqCalls (g : Bool) : ∀ t : Tm, SmT t → callI G 141 [encT false t, .b g] [] = some (.i (callsT g t), [])
  | .mk o n ps, hs => by
    unfold SmT at hs
    exact eqCalls0 g o n ps hs.2.2.1 fun p hp => eqCalls g p (SmTs.mem hs.2.2.2 p hp)
  termination_by t => SizeOf.sizeOf t
  decreasing_by
    have := List.sizeOf_lt_of_mem hp
    simp
    omega
def fitsT (t : Tm) (many : Int) : Bool := okT t && ((decide (0 ≤ many) && decide (many ≤ 3)) && decide (callsT false t < many))
theorem eqTermFits (t : Tm) (ht : SmT t) (many : Int) : callI G 121 [encT false t, .i many] [] = some (.b (fitsT t many), []) := by
  have h1 := eqTermOk t
  have h2 := l6In many 0 3
  have h3 := eqCalls false t ht
  unfold fitsT
  obtain ⟨x1, x2, x3, hX, hx3⟩ := encT_form false t
  rw [hX] at h1 h3 ⊢
  generalize (decide (0 ≤ many) && decide (many ≤ 3)) = b2 at h2 ⊢
  generalize okT t = b1 at h1 ⊢
  generalize callsT false t = v at h3 ⊢
  rw [callI_eq]
  cases b1 <;> cases b2 <;> rcases hx3 with rfl | ⟨L3, rfl⟩ <;> simp [body1_eq _ _ (gp 121) g121, c121, a121, h1, h2, h3]
end Go.Am
end
section
set_option maxRecDepth 10000
set_option maxHeartbeats 4000000
set_option linter.unusedSimpArgs false
set_option linter.unusedVariables false
namespace Go.Am
open Go.Proofs Go.Sort Go.Shelf
def goodD (m : Nat) (d : Tm) : Bool := fitsT d m && !decide (0 ≤ callsT true d)
def defsOk (ds : List Tm) : Bool := ds.all (goodD ds.length) && decide (ds.length ≤ 3)
theorem loopDk (ds : List Tm) (hs : SmTs ds) (hl : ds.length ≤ 1000) : ∀ (rest done : List Tm), ds = done ++ rest →
    ∃ ex, loopI G [0, 3] [] c120l0 ⟨[(0, encQ false ds), (3, .i done.length)], [], []⟩ = some ex ∧
      ((rest.all (goodD ds.length) = false ∧ ex = (.ret, ⟨[(2, .b false)], [], []⟩)) ∨ (rest.all (goodD ds.length) = true ∧ ex = (.exit 0, ⟨[(0, encQ false ds), (3, .i ds.length), (7, .b false)], [], []⟩)))
  | [], done, e => by
    have e : ds = done := by simpa using e
    subst e
    refine ⟨_, ?_, .inr ⟨rfl, rfl⟩⟩
    rw [loopI_eq]
    rcases encQ_form false ds with ⟨e, e0⟩ | ⟨F, e, e1, _⟩ <;> rw [e]
    · subst e0
      simp [r120l0, b120l0]
    · simp [r120l0, b120l0, e1]
  | x :: rest, done, e => by
    have hpl : ds.length = done.length + (rest.length + 1) := by rw [e]; simp
    have hlt : (done.length : Int) < ds.length := by omega
    have hw : IntKind.i64.wrap ((done.length : Int) + 1) = (done.length : Int) + 1 := wr (by omega)
    have hat := tm_at done x rest
    rw [← e] at hat
    have hsx := SmTs.mem hs x (by rw [e]; simp)
    have h1 := eqTermFits x hsx ds.length
    have h2 := eqCalls true x hsx
    have hne : ds ≠ [] := by rw [e]; simp
    have hl3 : (encTs false ds).length = ds.length := encTs_len false ds
    have hlt2 : done.length < ds.length := by omega
    obtain ⟨x1, x2, x3, hX, hx3⟩ := encT_form false x
    rw [hX] at hat h1 h2
    obtain ⟨ex, hn, hr⟩ := loopDk ds hs hl rest (done ++ [x]) (by rw [e]; simp)
    by_cases hg : goodD ds.length x = true
    · refine ⟨ex, ?_, ?_⟩
      · rw [← hn, loopI_eq, encQ_c false hne]
        unfold goodD at hg
        simp only [Bool.and_eq_true, Bool.not_eq_true', decide_eq_false_iff_not] at hg
        have g2 := hg.2
        rw [hg.1] at h1
        generalize encTs false ds = F at hat hl3 ⊢
        rcases hx3 with rfl | ⟨L3, rfl⟩ <;> simp [r120l0, b120l0, hlt, hlt2, hat, hl3, hw, h1, h2, g2]
      · rcases hr with ⟨a1, a2⟩ | ⟨a1, a2⟩
        · exact .inl ⟨by simp only [List.all_cons, hg, a1, Bool.true_and], a2⟩
        · exact .inr ⟨by simp only [List.all_cons, hg, a1, Bool.true_and], a2⟩
    · refine ⟨_, ?_, .inl ⟨by simp only [List.all_cons, Bool.eq_false_iff.2 hg, Bool.false_and], rfl⟩⟩
      rw [loopI_eq, encQ_c false hne]
      generalize encTs false ds = F at hat hl3 ⊢
      unfold goodD at hg
      cases hf : fitsT x ds.length with
      | false =>
        rw [hf] at h1
        rcases hx3 with rfl | ⟨L3, rfl⟩ <;> simp [r120l0, b120l0, hlt, hlt2, hat, hl3, hw, h1]
      | true =>
        rw [hf] at h1 hg
        have g2 : 0 ≤ callsT true x := by simpa using hg
        rcases hx3 with rfl | ⟨L3, rfl⟩ <;> simp [r120l0, b120l0, hlt, hlt2, hat, hl3, hw, h1, h2, g2]
theorem eqDefsOk (ds : List Tm) (hs : SmTs ds) (hl : ds.length ≤ 1000) : callI G 120 [encQ false ds] [] = some (.b (defsOk ds), []) := by
  obtain ⟨ex, h, hr⟩ := loopDk ds hs hl ds [] rfl
  simp only [List.length_nil, show ((0 : Nat) : Int) = 0 from rfl] at h
  unfold defsOk
  rw [callI_eq]
  rcases encQ_form false ds with ⟨e, e0⟩ | ⟨F, e, e1, _⟩ <;> rw [e] at h hr ⊢ <;> rcases hr with ⟨a1, rfl⟩ | ⟨a1, rfl⟩ <;> rw [a1]
  · simp [body1_eq _ _ (gp 120) g120, c120, a120, h]
  · subst e0
    simp [body1_eq _ _ (gp 120) g120, c120, a120, h]
  · simp [body1_eq _ _ (gp 120) g120, c120, a120, h]
  · by_cases c3 : ds.length ≤ 3
    · have c4 : (ds.length : Int) ≤ 3 := by omega
      simp [body1_eq _ _ (gp 120) g120, c120, a120, h, e1, c3, c4]
    · have c4 : ¬ (ds.length : Int) ≤ 3 := by omega
      simp [body1_eq _ _ (gp 120) g120, c120, a120, h, e1, c3, c4]
def askedT (t : Tm) (ds : List Tm) : Bool := defsOk ds && fitsT t ds.length
theorem eqAsked (t : Tm) (ht : SmT t) (ds : List Tm) (hs : SmTs ds) (hl : ds.length ≤ 1000) : callI G 109 [encT false t, encQ false ds] [] = some (.b (askedT t ds), []) := by
  have h1 := eqDefsOk ds hs hl
  have h2 := eqTermFits t ht ds.length
  unfold askedT
  obtain ⟨x1, x2, x3, hX, hx3⟩ := encT_form false t
  rw [hX] at h2 ⊢
  generalize fitsT t ds.length = b2 at h2 ⊢
  rw [callI_eq]
  rcases encQ_form false ds with ⟨e, e0⟩ | ⟨F, e, e1, _⟩ <;> rw [e] at h1 ⊢
  · subst e0
    simp only [List.length_nil, show ((0 : Nat) : Int) = 0 from rfl] at h2
    generalize defsOk [] = b1 at h1 ⊢
    cases b1 <;> rcases hx3 with rfl | ⟨L3, rfl⟩ <;> simp [body1_eq _ _ (gp 109) g109, c109, a109, h1, h2]
  · generalize defsOk ds = b1 at h1 ⊢
    cases b1 <;> rcases hx3 with rfl | ⟨L3, rfl⟩ <;> simp [body1_eq _ _ (gp 109) g109, c109, a109, h1, h2, e1]
end Go.Am
end
section
set_option maxRecDepth 10000
set_option maxHeartbeats 4000000
set_option linter.unusedSimpArgs false
set_option linter.unusedVariables false
namespace Go.Am
open Go.Proofs Go.Sort Go.Shelf
/-! texts -/
theorem eqDec (n : Int) (h : 0 ≤ n ∧ n ≤ 9) : ∃ b : ByteArray, b.size ≤ 1 ∧ callI G 143 [.i n] [] = some (.s b, []) := by
  have hw : IntKind.i64.wrap (48 + n) = 48 + n := wr (by omega)
  have h1 : ¬ n < -9223372036854775807 := by omega
  have h2 : ¬ n < 0 := by omega
  have h3 : n < 10 := by omega
  refine ⟨strU [IntKind.u8.wrap (48 + n)], by simp [strU], ?_⟩
  rw [callI_eq]
  simp [body1_eq _ _ (gp 143) g143, c143, a143, h1, h2, h3, hw, u8s]
theorem eqName1 (a : Int) (h : -1000 ≤ a ∧ a ≤ 1000) : callI G 61 [.i a] [] = some (.i ((if a < -a then -a else a) - 1), []) := by
  have hw : IntKind.i64.wrap (0 - a) = -a := by rw [wr (by omega)]; omega
  have hw1 : IntKind.i64.wrap (-a) = -a := wr (by omega)
  have hw2 : IntKind.i64.wrap ((if a < -a then -a else a) - 1) = (if a < -a then -a else a) - 1 := wr (by split <;> omega)
  rw [callI_eq]
  simp [body1_eq _ _ (gp 61) g61, c61, a61, hw, hw1, hw2]
theorem eqText1 (a : Int) (h : -4 ≤ a ∧ a ≤ 4) : ∃ b : ByteArray, b.size ≤ 5 ∧ callI G 145 [.i a] [] = some (.s b, []) := by
  have h1 := eqName1 a (by omega)
  by_cases h0 : a = 0
  · subst h0
    refine ⟨⟨#[116, 97, 117]⟩, by decide, ?_⟩
    rw [callI_eq]
    simp [body1_eq _ _ (gp 145) g145, c145, a145]
  · obtain ⟨k, hk⟩ : ∃ k, (if a < -a then -a else a) - 1 = k := ⟨_, rfl⟩
    rw [hk] at h1
    have hk2 : 0 ≤ k ∧ k + 1 ≤ 4 := by rw [← hk]; split <;> omega
    have hw : IntKind.i64.wrap (k + 1) = k + 1 := wr (by omega)
    have hs : ((⟨#[97, 98, 99, 100]⟩ : ByteArray).extract k.toNat (k + 1).toNat).size ≤ 4 := by
      rw [ByteArray.size_extract]
      have : (⟨#[97, 98, 99, 100]⟩ : ByteArray).size = 4 := rfl
      omega
    have hz : (⟨#[97, 98, 99, 100]⟩ : ByteArray).size = 4 := rfl
    have hz1 : (⟨#[33]⟩ : ByteArray).size = 1 := rfl
    have hc : k ≤ k + 1 := by omega
    by_cases hn : a < 0
    · refine ⟨⟨#[33]⟩ ++ (⟨#[97, 98, 99, 100]⟩ : ByteArray).extract k.toNat (k + 1).toNat, by rw [ByteArray.size_append]; omega, ?_⟩
      generalize hE : (⟨#[97, 98, 99, 100]⟩ : ByteArray).extract k.toNat (k + 1).toNat = E at hs
      have hadd : (⟨#[33]⟩ : ByteArray).size + E.size ≤ 9223372036854775807 := by omega
      rw [callI_eq]
      simp [body1_eq _ _ (gp 145) g145, c145, a145, h0, hn, h1, hw, hk2.1, hk2.2, hc, hE, hz, hadd]
    · refine ⟨(⟨#[97, 98, 99, 100]⟩ : ByteArray).extract k.toNat (k + 1).toNat, by omega, ?_⟩
      generalize hE : (⟨#[97, 98, 99, 100]⟩ : ByteArray).extract k.toNat (k + 1).toNat = E at hs
      rw [callI_eq]
      simp [body1_eq _ _ (gp 145) g145, c145, a145, h0, hn, h1, hw, hk2.1, hk2.2, hc, hE, hz]
end Go.Am
end
section
set_option maxRecDepth 10000
set_option maxHeartbeats 4000000
set_option linter.unusedSimpArgs false
set_option linter.unusedVariables false
namespace Go.Am
open Go.Proofs Go.Sort Go.Shelf
mutual
/-- A term that is one. -/
def VaT : Tm → Prop
  | .mk o n ps => headOk o n = true ∧ ps.length = wantN o ∧ VaTs ps
def VaTs : List Tm → Prop
  | [] => True
  | p :: ps => VaT p ∧ VaTs ps
end
mutual
def szT : Tm → Nat
  | .mk _ _ ps => szTs ps + 1
def szTs : List Tm → Nat
  | [] => 0
  | p :: ps => szT p + szTs ps
end
theorem VaTs.mem : ∀ {ps : List Tm}, VaTs ps → ∀ p ∈ ps, VaT p
  | [], _, p, h => by cases h
  | q :: ps, hs, p, h => by
    rcases List.mem_cons.1 h with rfl | h
    · exact hs.1
    · exact VaTs.mem hs.2 p h
theorem szTs_mem : ∀ {ps : List Tm} (p : Tm), p ∈ ps → szT p ≤ szTs ps
  | [], p, h => by cases h
  | q :: ps, p, h => by
    unfold szTs
    rcases List.mem_cons.1 h with rfl | h
    · omega
    · have := szTs_mem p h; omega
theorem loopTx (o n : Int) (ps : List Tm) (hps : ps.length ≤ 3) (h : ∀ p ∈ ps, ∃ b : ByteArray, b.size + 1 ≤ 15 * szT p ∧ callI G 122 [encT false p] [] = some (.s b, [])) (hz : szTs ps ≤ 1000000) : ∀ (rest done : List Tm) (t : ByteArray), ps = done ++ rest → t.size + 15 * szTs rest ≤ 1000000000 →
    ∃ t' : ByteArray, t'.size ≤ t.size + 15 * szTs rest ∧ loopI G [1, 3, 4] [1] c122l0 ⟨[(1, .ref (0, 1) 1 0 0), (3, .s t), (4, .i done.length)], [(1, .box [.i o, .i n, encQ false ps])], []⟩ =
      some (.exit 1, ⟨[(1, .ref (0, 1) 1 0 0), (3, .s t'), (4, .i ps.length), (44, .b false)], [(1, .box [.i o, .i n, encQ false ps])], []⟩)
  | [], done, t, e, ht => by
    have e : ps = done := by simpa using e
    subst e
    refine ⟨t, by omega, ?_⟩
    rw [loopI_eq]
    rcases encQ_form false ps with ⟨e, e0⟩ | ⟨F, e, e1, _⟩ <;> rw [e]
    · subst e0
      simp [r122l0, b122l0]
    · simp [r122l0, b122l0, e1]
  | x :: rest, done, t, e, ht => by
    have hpl : ps.length = done.length + (rest.length + 1) := by rw [e]; simp
    have hlt : (done.length : Int) < ps.length := by omega
    have hw : IntKind.i64.wrap ((done.length : Int) + 1) = (done.length : Int) + 1 := wr (by omega)
    have hat := tm_at done x rest
    rw [← e] at hat
    obtain ⟨b, hb, hx⟩ := h x (by rw [e]; simp)
    have hne : ps ≠ [] := by rw [e]; simp
    have hl3 : (encTs false ps).length = ps.length := encTs_len false ps
    have hlt2 : done.length < ps.length := by omega
    obtain ⟨x1, x2, x3, hX, hx3⟩ := encT_form false x
    rw [hX] at hat hx
    have hsz : szTs (x :: rest) = szT x + szTs rest := by rw [szTs]
    rw [hsz] at ht ⊢
    have h1 : 1 ≤ szT x := by cases x; simp [szT]
    have z1 : (⟨#[32]⟩ : ByteArray).size = 1 := rfl
    have z2 : (t ++ (⟨#[32]⟩ : ByteArray)).size = t.size + 1 := by rw [ByteArray.size_append, z1]
    have z3 : (t ++ (⟨#[32]⟩ : ByteArray) ++ b).size = t.size + 1 + b.size := by rw [ByteArray.size_append, z2]
    obtain ⟨t', ht', hn⟩ := loopTx o n ps hps h hz rest (done ++ [x]) (t ++ (⟨#[32]⟩ : ByteArray) ++ b) (by rw [e]; simp) (by rw [z3]; omega)
    refine ⟨t', by rw [z3] at ht'; omega, ?_⟩
    have a1 : t.size + (⟨#[32]⟩ : ByteArray).size ≤ 9223372036854775807 := by rw [z1]; omega
    have a2 : (t ++ (⟨#[32]⟩ : ByteArray)).size + b.size ≤ 9223372036854775807 := by rw [z2]; omega
    refine Eq.trans ?_ hn
    rw [loopI_eq, encQ_c false hne]
    generalize encTs false ps = F at hat hl3 ⊢
    generalize hT : t ++ (⟨#[32]⟩ : ByteArray) = T at a2 ⊢
    rcases hx3 with rfl | ⟨L3, rfl⟩ <;> simp [r122l0, b122l0, hlt, hlt2, hat, hl3, hx, hw, a1, a2, hT]
theorem eqWords : callI G 144 [] [] = some (.sl true 1 [.s ⟨#[]⟩, .s ⟨#[97, 99, 116]⟩, .s ⟨#[115, 117, 109]⟩, .s ⟨#[112, 97, 114]⟩, .s ⟨#[104, 105, 100, 101]⟩], []) := by
  rw [callI_eq]
  simp [body1_eq _ _ (gp 144) g144, c144, a144, noShares, noShare]
theorem eqText0 (o n : Int) (ps : List Tm) (hv : headOk o n = true) (hl : ps.length = wantN o) (h : ∀ p ∈ ps, ∃ b : ByteArray, b.size + 1 ≤ 15 * szT p ∧ callI G 122 [encT false p] [] = some (.s b, [])) (hz : szTs ps ≤ 1000000) :
    ∃ b : ByteArray, b.size + 1 ≤ 15 * szT (.mk o n ps) ∧ callI G 122 [encT false (.mk o n ps)] [] = some (.s b, []) := by
  have h3 : ps.length ≤ 3 := by rw [hl]; unfold wantN; (repeat' split) <;> omega
  have hs : szT (.mk o n ps) = szTs ps + 1 := by rw [szT]
  rw [hs]
  simp only [encT]
  have hW := eqWords
  have hloop := fun (t : ByteArray) (ht : t.size ≤ 13) => loopTx o n ps h3 h hz ps [] t rfl (by omega)
  simp only [List.length_nil, show ((0 : Nat) : Int) = 0 from rfl] at hloop
  have y1 : (⟨#[40]⟩ : ByteArray).size = 1 := rfl
  have y2 : (⟨#[41]⟩ : ByteArray).size = 1 := rfl
  have y3 : (⟨#[32]⟩ : ByteArray).size = 1 := rfl
  rcases eqHead o n hv with ⟨rfl, rfl⟩ | ⟨rfl, hk⟩ | ⟨rfl, rfl⟩ | ⟨rfl, rfl⟩ | ⟨rfl, hk⟩ | ⟨rfl, hk⟩
  · refine ⟨⟨#[48]⟩, by have : (⟨#[48]⟩ : ByteArray).size = 1 := rfl; omega, ?_⟩
    rw [callI_eq]
    rcases encQ_form false ps with ⟨e, e0⟩ | ⟨F, e, e1, _⟩ <;> rw [e] <;> simp [body1_eq _ _ (gp 122) g122, c122, a122]
  · have y4 : (⟨#[97, 99, 116]⟩ : ByteArray).size = 3 := rfl
    have z1 : ((⟨#[40]⟩ : ByteArray) ++ (⟨#[97, 99, 116]⟩ : ByteArray)).size = 4 := by rw [ByteArray.size_append, y1, y4]
    have hk2 : -4 ≤ n ∧ n ≤ 4 := by simpa [actOk] using hk
    obtain ⟨b, hb, hx⟩ := eqText1 n hk2
    generalize hA : (⟨#[40]⟩ : ByteArray) ++ (⟨#[97, 99, 116]⟩ : ByteArray) = A at z1
    have z2 : (A ++ (⟨#[32]⟩ : ByteArray)).size = 5 := by rw [ByteArray.size_append, z1, y3]
    have z3 : (A ++ (⟨#[32]⟩ : ByteArray) ++ b).size = 5 + b.size := by rw [ByteArray.size_append, z2]
    obtain ⟨t1, ht1, hlp⟩ := hloop (A ++ (⟨#[32]⟩ : ByteArray) ++ b) (by rw [z3]; omega)
    rw [z3] at ht1
    generalize hB : A ++ (⟨#[32]⟩ : ByteArray) = B at z2 hlp
    generalize hC : B ++ b = C at hlp
    have g2 : 5 + b.size ≤ 9223372036854775807 := by omega
    have g1 : t1.size + 1 ≤ 9223372036854775807 := by omega
    refine ⟨t1 ++ ⟨#[41]⟩, by rw [ByteArray.size_append, y2]; omega, ?_⟩
    rw [callI_eq]
    rcases encQ_form false ps with ⟨e, e0⟩ | ⟨F, e, e1, _⟩ <;> rw [e] at hlp ⊢ <;> simp [body1_eq _ _ (gp 122) g122, c122, a122, hW, hA, hB, hC, hx, y1, y2, y3, y4, z1, z2, g1, g2, hlp]
  · have y4 : (⟨#[115, 117, 109]⟩ : ByteArray).size = 3 := rfl
    have z1 : ((⟨#[40]⟩ : ByteArray) ++ (⟨#[115, 117, 109]⟩ : ByteArray)).size = 4 := by rw [ByteArray.size_append, y1, y4]
    obtain ⟨t1, ht1, hlp⟩ := hloop ((⟨#[40]⟩ : ByteArray) ++ (⟨#[115, 117, 109]⟩ : ByteArray)) (by rw [z1]; omega)
    rw [z1] at ht1
    generalize hA : (⟨#[40]⟩ : ByteArray) ++ (⟨#[115, 117, 109]⟩ : ByteArray) = A at z1 hlp
    have g1 : t1.size + 1 ≤ 9223372036854775807 := by omega
    refine ⟨t1 ++ ⟨#[41]⟩, by rw [ByteArray.size_append, y2]; omega, ?_⟩
    rw [callI_eq]
    rcases encQ_form false ps with ⟨e, e0⟩ | ⟨F, e, e1, _⟩ <;> rw [e] at hlp ⊢ <;> simp [body1_eq _ _ (gp 122) g122, c122, a122, hW, hA, y1, y2, y3, y4, z1, g1, hlp]
  · have y4 : (⟨#[112, 97, 114]⟩ : ByteArray).size = 3 := rfl
    have z1 : ((⟨#[40]⟩ : ByteArray) ++ (⟨#[112, 97, 114]⟩ : ByteArray)).size = 4 := by rw [ByteArray.size_append, y1, y4]
    obtain ⟨t1, ht1, hlp⟩ := hloop ((⟨#[40]⟩ : ByteArray) ++ (⟨#[112, 97, 114]⟩ : ByteArray)) (by rw [z1]; omega)
    rw [z1] at ht1
    generalize hA : (⟨#[40]⟩ : ByteArray) ++ (⟨#[112, 97, 114]⟩ : ByteArray) = A at z1 hlp
    have g1 : t1.size + 1 ≤ 9223372036854775807 := by omega
    refine ⟨t1 ++ ⟨#[41]⟩, by rw [ByteArray.size_append, y2]; omega, ?_⟩
    rw [callI_eq]
    rcases encQ_form false ps with ⟨e, e0⟩ | ⟨F, e, e1, _⟩ <;> rw [e] at hlp ⊢ <;> simp [body1_eq _ _ (gp 122) g122, c122, a122, hW, hA, y1, y2, y3, y4, z1, g1, hlp]
  · have y4 : (⟨#[104, 105, 100, 101]⟩ : ByteArray).size = 4 := rfl
    have z1 : ((⟨#[40]⟩ : ByteArray) ++ (⟨#[104, 105, 100, 101]⟩ : ByteArray)).size = 5 := by rw [ByteArray.size_append, y1, y4]
    have hwn : IntKind.i64.wrap (n + 1) = n + 1 := wr (by omega)
    obtain ⟨b, hb, hx⟩ := eqText1 (n + 1) (by omega)
    generalize hA : (⟨#[40]⟩ : ByteArray) ++ (⟨#[104, 105, 100, 101]⟩ : ByteArray) = A at z1
    have z2 : (A ++ (⟨#[32]⟩ : ByteArray)).size = 6 := by rw [ByteArray.size_append, z1, y3]
    have z3 : (A ++ (⟨#[32]⟩ : ByteArray) ++ b).size = 6 + b.size := by rw [ByteArray.size_append, z2]
    obtain ⟨t1, ht1, hlp⟩ := hloop (A ++ (⟨#[32]⟩ : ByteArray) ++ b) (by rw [z3]; omega)
    rw [z3] at ht1
    generalize hB : A ++ (⟨#[32]⟩ : ByteArray) = B at z2 hlp
    generalize hC : B ++ b = C at hlp
    have g2 : 6 + b.size ≤ 9223372036854775807 := by omega
    have g1 : t1.size + 1 ≤ 9223372036854775807 := by omega
    refine ⟨t1 ++ ⟨#[41]⟩, by rw [ByteArray.size_append, y2]; omega, ?_⟩
    rw [callI_eq]
    rcases encQ_form false ps with ⟨e, e0⟩ | ⟨F, e, e1, _⟩ <;> rw [e] at hlp ⊢ <;> simp [body1_eq _ _ (gp 122) g122, c122, a122, hW, hA, hB, hC, hx, y1, y2, y3, y4, z1, z2, g1, g2, hlp, hwn]
  · obtain ⟨b, hb, hd⟩ := eqDec n (by omega)
    have y5 : (⟨#[88]⟩ : ByteArray).size = 1 := rfl
    have g1 : 1 + b.size ≤ 9223372036854775807 := by omega
    refine ⟨⟨#[88]⟩ ++ b, by rw [ByteArray.size_append, y5]; omega, ?_⟩
    rw [callI_eq]
    rcases encQ_form false ps with ⟨e, e0⟩ | ⟨F, e, e1, _⟩ <;> rw [e] <;> simp [body1_eq _ _ (gp 122) g122, c122, a122, hd, y5, g1]
theorem eqText : ∀ t : Tm, VaT t → szT t ≤ 1000000 → ∃ b : ByteArray, b.size + 1 ≤ 15 * szT t ∧ callI G 122 [encT false t] [] = some (.s b, [])
  | .mk o n ps, hv, hz => by
    unfold VaT at hv
    have hs : szT (.mk o n ps) = szTs ps + 1 := by rw [szT]
    exact eqText0 o n ps hv.1 hv.2.1 (fun p hp => eqText p (VaTs.mem hv.2.2 p hp) (by have := szTs_mem p hp; omega)) (by omega)
  termination_by t => SizeOf.sizeOf t
  decreasing_by
    have := List.sizeOf_lt_of_mem hp
    simp
    omega
end Go.Am
end
section
set_option maxRecDepth 10000
set_option maxHeartbeats 4000000
set_option linter.unusedSimpArgs false
set_option linter.unusedVariables false
namespace Go.Am
open Go.Proofs Go.Sort Go.Shelf
/-! what terms do: 'k' is what a call does -/
abbrev Stp := Int × Tm
def parT (a b : Tm) : Tm := .mk 3 0 [a, b]
def hideT (n : Int) (a : Tm) : Tm := .mk 4 n [a]
def name1 (a : Int) : Int := (if a < -a then -a else a) - 1
def parS (t u : Tm) (a b : List Stp) : List Stp :=
  a.map (fun s => (s.1, parT s.2 u)) ++ (b.map (fun s => (s.1, parT t s.2)) ++ a.flatMap fun s => b.flatMap fun r => if s.1 ≠ 0 ∧ s.1 = -r.1 then [(0, parT s.2 r.2)] else [])
def hidT (n : Int) (a : List Stp) : List Stp := a.flatMap fun s => if s.1 = 0 ∨ name1 s.1 ≠ n then [(s.1, hideT n s.2)] else []
def stT (k : Int → List Stp) : Tm → List Stp
  | .mk o n [] => if o = 5 then k n else []
  | .mk o n [a] => if o = 1 then [(n, a)] else if o = 4 then hidT n (stT k a) else []
  | .mk o n [a, b] => if o = 2 then stT k a ++ stT k b else if o = 3 then parS a b (stT k a) (stT k b) else []
  | .mk _ _ (_ :: _ :: _ :: _) => []
end Go.Am
end
section
set_option maxRecDepth 10000
set_option linter.unusedSimpArgs false
set_option linter.unusedVariables false
namespace Go.Am
/-! how many steps there are -/
def visL (l : List Stp) : Nat := (l.filter fun s => decide (s.1 ≠ 0)).length
theorem visL_nil : visL [] = 0 := rfl
theorem visL_cons (s : Stp) (l : List Stp) : visL (s :: l) = (if s.1 ≠ 0 then 1 else 0) + visL l := by
  unfold visL
  by_cases h : s.1 = 0
  · simp [h]
  · simp [h]; omega
theorem visL_app (a b : List Stp) : visL (a ++ b) = visL a + visL b := by simp [visL]
theorem visL_map (f : Stp → Stp) (hf : ∀ s, (f s).1 = s.1) : ∀ l : List Stp, visL (l.map f) = visL l
  | [] => rfl
  | s :: l => by rw [List.map_cons, visL_cons, visL_cons, hf, visL_map f hf l]
def syncL (s : Stp) (b : List Stp) : List Stp := b.flatMap fun r => if s.1 ≠ 0 ∧ s.1 = -r.1 then [(0, parT s.2 r.2)] else []
theorem syncL_len (s : Stp) : ∀ b : List Stp, (syncL s b).length ≤ (if s.1 ≠ 0 then visL b else 0) ∧ visL (syncL s b) = 0
  | [] => by simp [syncL, visL]
  | r :: b => by
    have ih := syncL_len s b
    have e : syncL s (r :: b) = (if s.1 ≠ 0 ∧ s.1 = -r.1 then [((0 : Int), parT s.2 r.2)] else []) ++ syncL s b := by simp [syncL]
    rw [e, List.length_append, visL_app, visL_cons]
    by_cases h : s.1 ≠ 0 ∧ s.1 = -r.1
    · have hr : r.1 ≠ 0 := by intro e; omega
      have hz : visL [((0 : Int), parT s.2 r.2)] = 0 := rfl
      rw [if_pos h, if_pos h.1, if_pos hr, hz]
      rw [if_pos h.1] at ih
      simp only [List.length_cons, List.length_nil]
      omega
    · rw [if_neg h]
      simp only [List.length_nil, visL_nil]
      by_cases h0 : s.1 = 0
      · simp [h0] at ih ⊢; exact ih
      · simp [h0] at ih ⊢; omega
theorem syncs_len (b : List Stp) : ∀ a : List Stp, (a.flatMap fun s => syncL s b).length ≤ visL a * visL b ∧ visL (a.flatMap fun s => syncL s b) = 0
  | [] => by simp [visL]
  | s :: a => by
    have ih := syncs_len b a
    have h := syncL_len s b
    rw [List.flatMap_cons, List.length_append, visL_app, visL_cons, Nat.add_mul, h.2, ih.2]
    refine ⟨?_, rfl⟩
    have h1 := h.1
    by_cases h0 : s.1 ≠ 0
    · rw [if_pos h0] at h1 ⊢
      omega
    · rw [if_neg h0] at h1 ⊢
      omega
theorem parS_len (t u : Tm) (a b : List Stp) : (parS t u a b).length ≤ a.length + b.length + visL a * visL b ∧ visL (parS t u a b) = visL a + visL b := by
  have h := syncs_len b a
  unfold parS
  rw [visL_app, visL_app, visL_map (fun s => (s.1, parT s.2 u)) (fun s => rfl), visL_map (fun s => (s.1, parT t s.2)) (fun s => rfl), List.length_append, List.length_append, List.length_map, List.length_map]
  unfold syncL at h
  constructor
  · have := h.1; omega
  · have := h.2; omega
theorem hidT_len (n : Int) : ∀ a : List Stp, (hidT n a).length ≤ a.length ∧ visL (hidT n a) ≤ visL a
  | [] => by simp [hidT, visL]
  | s :: a => by
    have ih := hidT_len n a
    have e : hidT n (s :: a) = (if s.1 = 0 ∨ name1 s.1 ≠ n then [(s.1, hideT n s.2)] else []) ++ hidT n a := by simp [hidT]
    rw [e, List.length_append, visL_app, visL_cons, List.length_cons]
    split
    · rw [visL_cons, visL_nil, List.length_cons, List.length_nil]
      dsimp only
      omega
    · simp only [List.length_nil, visL_nil]
      omega
end Go.Am
end
section
set_option maxRecDepth 10000
set_option linter.unusedSimpArgs false
set_option linter.unusedVariables false
namespace Go.Am
open Go.Proofs Go.Sort Go.Shelf
/-! what a term does is bounded; and what it leads to is a term -/
def lvT (w : Nat) : Tm → Nat
  | .mk o n [] => if o = 5 then w else 0
  | .mk o n [a] => if o = 1 then 1 else if o = 4 then lvT w a else 0
  | .mk o n [a, b] => if o = 2 then lvT w a + lvT w b else if o = 3 then lvT w a + lvT w b else 0
  | .mk _ _ (_ :: _ :: _ :: _) => 0
theorem lvT_le (w : Nat) : ∀ t : Tm, lvT w t ≤ (w + 1) * szT t
  | .mk o n [] => by
    have h : szT (.mk o n []) = 1 := by simp [szT, szTs]
    rw [h]
    unfold lvT
    split <;> omega
  | .mk o n [a] => by
    have ih := lvT_le w a
    have h : szT (.mk o n [a]) = szT a + 1 := by simp [szT, szTs]
    rw [h, Nat.mul_add]
    unfold lvT
    split
    · omega
    · split <;> omega
  | .mk o n [a, b] => by
    have iha := lvT_le w a
    have ihb := lvT_le w b
    have h : szT (.mk o n [a, b]) = szT a + szT b + 1 := by simp [szT, szTs]
    rw [h, Nat.mul_add, Nat.mul_add]
    unfold lvT
    split
    · omega
    · split <;> omega
  | .mk _ _ (_ :: _ :: _ :: _) => by simp [lvT]
theorem sq_add (a b : Nat) : a * a + b * b + a * b ≤ (a + b) * (a + b) := by
  rw [Nat.add_mul, Nat.mul_add, Nat.mul_add, Nat.mul_comm b a]
  omega
theorem stT_len (k : Int → List Stp) (w : Nat) (hk : ∀ n, visL (k n) ≤ w ∧ (k n).length ≤ w + w * w) : ∀ t : Tm, visL (stT k t) ≤ lvT w t ∧ (stT k t).length ≤ lvT w t + lvT w t * lvT w t
  | .mk o n [] => by
    unfold stT lvT
    split
    · exact hk n
    · simp [visL]
  | .mk o n [a] => by
    have ih := stT_len k w hk a
    unfold stT lvT
    split
    · refine ⟨?_, by simp⟩
      rw [visL_cons, visL_nil]
      split <;> omega
    · split
      · have := hidT_len n (stT k a)
        omega
      · simp [visL]
  | .mk o n [a, b] => by
    have iha := stT_len k w hk a
    have ihb := stT_len k w hk b
    have hq := sq_add (lvT w a) (lvT w b)
    unfold stT lvT
    split
    · rw [visL_app, List.length_append]
      omega
    · split
      · have := parS_len a b (stT k a) (stT k b)
        have hm : visL (stT k a) * visL (stT k b) ≤ lvT w a * lvT w b := Nat.mul_le_mul iha.1 ihb.1
        omega
      · simp [visL]
  | .mk _ _ (_ :: _ :: _ :: _) => by simp [stT, visL]
mutual
/-- A term that is one, and calls below a number. -/
def WfT (m : Int) : Tm → Prop
  | .mk o n ps => headOk o n = true ∧ ps.length = wantN o ∧ (o = 5 → n < m) ∧ WfTs m ps
def WfTs (m : Int) : List Tm → Prop
  | [] => True
  | p :: ps => WfT m p ∧ WfTs m ps
end
mutual
theorem WfT.va {m : Int} : ∀ {t : Tm}, WfT m t → VaT t
  | .mk o n ps, h => by
    unfold WfT at h
    unfold VaT
    exact ⟨h.1, h.2.1, WfTs.va h.2.2.2⟩
theorem WfTs.va {m : Int} : ∀ {ps : List Tm}, WfTs m ps → VaTs ps
  | [], h => by unfold VaTs; trivial
  | p :: ps, h => by
    unfold WfTs at h
    unfold VaTs
    exact ⟨WfT.va h.1, WfTs.va h.2⟩
end
theorem headOk_n {o n : Int} (h : headOk o n = true) : (0 ≤ o ∧ o ≤ 5) ∧ (-4 ≤ n ∧ n ≤ 4) ∧ (o = 5 → 0 ≤ n) := by
  rcases eqHead o n h with ⟨rfl, rfl⟩ | ⟨rfl, hk⟩ | ⟨rfl, rfl⟩ | ⟨rfl, rfl⟩ | ⟨rfl, hk⟩ | ⟨rfl, hk⟩
  · omega
  · have hk : -4 ≤ n ∧ n ≤ 4 := by simpa [actOk] using hk
    omega
  · omega
  · omega
  · omega
  · omega
mutual
theorem VaT.sm : ∀ {t : Tm}, VaT t → SmT t
  | .mk o n ps, h => by
    unfold VaT at h
    unfold SmT
    have := headOk_n h.1
    refine ⟨by omega, by omega, ?_, VaTs.sm h.2.2⟩
    rw [h.2.1]
    unfold wantN
    (repeat' split) <;> omega
theorem VaTs.sm : ∀ {ps : List Tm}, VaTs ps → SmTs ps
  | [], h => by unfold SmTs; trivial
  | p :: ps, h => by
    unfold VaTs at h
    unfold SmTs
    exact ⟨VaT.sm h.1, VaTs.sm h.2⟩
end
/-- No call that is not behind an action. -/
def gdT : Tm → Prop
  | .mk o n [] => o ≠ 5
  | .mk o n [a] => o = 1 ∨ gdT a
  | .mk o n [a, b] => gdT a ∧ gdT b
  | .mk _ _ (_ :: _ :: _ :: _) => True
theorem stT_gd (k k' : Int → List Stp) : ∀ t : Tm, gdT t → stT k t = stT k' t
  | .mk o n [], h => by
    unfold gdT at h
    simp [stT, h]
  | .mk o n [a], h => by
    unfold gdT at h
    unfold stT
    split
    · rfl
    · rename_i ho
      rcases h with h | h
      · exact absurd h ho
      · rw [stT_gd k k' a h]
  | .mk o n [a, b], h => by
    unfold gdT at h
    unfold stT
    rw [stT_gd k k' a h.1, stT_gd k k' b h.2]
  | .mk _ _ (_ :: _ :: _ :: _), h => by simp [stT]
/-- What a step leads to: a term, no greater than this. -/
def GoodS (m : Int) (z : Nat) (s : Stp) : Prop := (-4 ≤ s.1 ∧ s.1 ≤ 4) ∧ WfT m s.2 ∧ szT s.2 ≤ z
theorem GoodS.mono {m : Int} {z z' : Nat} {s : Stp} (h : GoodS m z s) (hz : z ≤ z') : GoodS m z' s := ⟨h.1, h.2.1, Nat.le_trans h.2.2 hz⟩
theorem wf_par {m : Int} {a b : Tm} (ha : WfT m a) (hb : WfT m b) : WfT m (parT a b) := by
  unfold parT WfT
  refine ⟨by decide, rfl, fun e => absurd e (by decide), ?_⟩
  simp only [WfTs]
  exact ⟨ha, hb, trivial⟩
theorem sz_par (a b : Tm) : szT (parT a b) = szT a + szT b + 1 := by simp [parT, szT, szTs]
theorem wf_hide {m n : Int} {a : Tm} (hn : headOk 4 n = true) (ha : WfT m a) : WfT m (hideT n a) := by
  unfold hideT WfT
  refine ⟨hn, by simp [wantN], fun e => absurd e (by decide), ?_⟩
  simp only [WfTs]
  exact ⟨ha, trivial⟩
theorem sz_hide (n : Int) (a : Tm) : szT (hideT n a) = szT a + 1 := by simp [hideT, szT, szTs]
theorem szT_pos : ∀ t : Tm, 1 ≤ szT t
  | .mk _ _ _ => by unfold szT; omega
theorem par_good {m : Int} {t u : Tm} {a b : List Stp} {za zb z : Nat} (ht : WfT m t) (hu : WfT m u) (ha : ∀ s ∈ a, GoodS m za s) (hb : ∀ s ∈ b, GoodS m zb s)
    (h1 : za + szT u + 1 ≤ z) (h2 : szT t + zb + 1 ≤ z) (h3 : za + zb + 1 ≤ z) : ∀ s ∈ parS t u a b, GoodS m z s := by
  intro s hs
  unfold parS at hs
  rcases List.mem_append.1 hs with h | h
  · obtain ⟨x, hx, rfl⟩ := List.mem_map.1 h
    obtain ⟨x1, x2, x3⟩ := ha x hx
    exact ⟨x1, wf_par x2 hu, by rw [sz_par]; omega⟩
  · rcases List.mem_append.1 h with h | h
    · obtain ⟨x, hx, rfl⟩ := List.mem_map.1 h
      obtain ⟨x1, x2, x3⟩ := hb x hx
      exact ⟨x1, wf_par ht x2, by rw [sz_par]; omega⟩
    · obtain ⟨x, hx, h⟩ := List.mem_flatMap.1 h
      obtain ⟨y, hy, h⟩ := List.mem_flatMap.1 h
      split at h
      · simp only [List.mem_singleton] at h
        subst h
        obtain ⟨x1, x2, x3⟩ := ha x hx
        obtain ⟨y1, y2, y3⟩ := hb y hy
        exact ⟨by dsimp only; omega, wf_par x2 y2, by rw [sz_par]; omega⟩
      · cases h
theorem hid_good {m n : Int} {a : List Stp} {za z : Nat} (hn : headOk 4 n = true) (ha : ∀ s ∈ a, GoodS m za s) (h1 : za + 1 ≤ z) : ∀ s ∈ hidT n a, GoodS m z s := by
  intro s hs
  obtain ⟨x, hx, h⟩ := List.mem_flatMap.1 hs
  split at h
  · simp only [List.mem_singleton] at h
    subst h
    obtain ⟨x1, x2, x3⟩ := ha x hx
    exact ⟨x1, wf_hide hn x2, by rw [sz_hide]; omega⟩
  · cases h
theorem stT_good (m : Int) (k : Int → List Stp) (c : Nat) (hc : 1 ≤ c) (hk : ∀ n, 0 ≤ n → n < m → ∀ s ∈ k n, GoodS m c s) : ∀ t : Tm, WfT m t → ∀ s ∈ stT k t, GoodS m (c * szT t) s
  | .mk o n [], h, s, hs => by
    unfold WfT at h
    unfold stT at hs
    split at hs
    · rename_i ho
      have hh := headOk_n h.1
      have : szT (.mk o n []) = 1 := by simp [szT, szTs]
      rw [this, Nat.mul_one]
      exact hk n (hh.2.2 ho) (h.2.2.1 ho) s hs
    · cases hs
  | .mk o n [a], h, s, hs => by
    have hh := h
    unfold WfT at h
    have hwa : WfT m a := by have := h.2.2.2; unfold WfTs at this; exact this.1
    have ih := stT_good m k c hc hk a hwa
    have hsz : szT (.mk o n [a]) = szT a + 1 := by simp [szT, szTs]
    rw [hsz, Nat.mul_add]
    unfold stT at hs
    split at hs
    · rename_i ho
      subst ho
      simp only [List.mem_singleton] at hs
      subst hs
      refine ⟨(headOk_n h.1).2.1, hwa, ?_⟩
      have : szT a ≤ c * szT a := Nat.le_mul_of_pos_left _ hc
      dsimp only
      omega
    · split at hs
      · rename_i ho
        subst ho
        exact hid_good h.1 ih (by omega) s hs
      · cases hs
  | .mk o n [a, b], h, s, hs => by
    unfold WfT at h
    have hw := h.2.2.2
    unfold WfTs WfTs at hw
    have iha := stT_good m k c hc hk a hw.1
    have ihb := stT_good m k c hc hk b hw.2.1
    have hsz : szT (.mk o n [a, b]) = szT a + szT b + 1 := by simp [szT, szTs]
    rw [hsz, Nat.mul_add, Nat.mul_add]
    have q1 : szT a ≤ c * szT a := Nat.le_mul_of_pos_left _ hc
    have q2 : szT b ≤ c * szT b := Nat.le_mul_of_pos_left _ hc
    unfold stT at hs
    split at hs
    · rcases List.mem_append.1 hs with hs | hs
      · exact (iha s hs).mono (by omega)
      · exact (ihb s hs).mono (by omega)
    · split at hs
      · exact par_good hw.1 hw.2.1 iha ihb (by omega) (by omega) (by omega) s hs
      · cases hs
  | .mk _ _ (_ :: _ :: _ :: _), h, s, hs => by simp [stT] at hs
/-! from the tests -/
mutual
theorem nodes_va : ∀ t : Tm, nodesT t ≠ 0 → VaT t ∧ nodesT t = min 1000 (szT t)
  | .mk o n ps, h => by
    unfold nodesT at h ⊢
    split at h
    · rename_i hh
      rw [if_pos hh]
      have := nodes_vas 1 ps (by omega) (by omega) h
      unfold VaT
      refine ⟨⟨hh.1, hh.2, this.1⟩, ?_⟩
      rw [this.2]
      unfold szT
      omega
    · exact absurd rfl h
theorem nodes_vas : ∀ (k : Nat) (ps : List Tm), 1 ≤ k → k ≤ 1000 → nodesL k ps ≠ 0 → VaTs ps ∧ nodesL k ps = min 1000 (k + szTs ps)
  | k, [], h1, h2, h => by
    unfold nodesL VaTs szTs
    exact ⟨trivial, by omega⟩
  | k, p :: ps, h1, h2, h => by
    unfold nodesL at h ⊢
    split at h
    · exact absurd rfl h
    · rename_i hp
      rw [if_neg hp]
      obtain ⟨a1, a2⟩ := nodes_va p hp
      obtain ⟨b1, b2⟩ := nodes_vas (min 1000 (k + nodesT p)) ps (by omega) (by omega) h
      unfold VaTs szTs
      refine ⟨⟨a1, b1⟩, ?_⟩
      rw [b2, a2]
      omega
end
theorem okT_va {t : Tm} (h : okT t = true) : VaT t ∧ szT t ≤ 24 := by
  unfold okT at h
  simp only [Bool.and_eq_true, decide_eq_true_eq] at h
  obtain ⟨a, b⟩ := nodes_va t (by omega)
  refine ⟨a, ?_⟩
  omega
mutual
theorem calls_wf (m : Int) : ∀ t : Tm, VaT t → callsT false t < m → WfT m t
  | .mk o n ps, h, hc => by
    unfold VaT at h
    unfold callsT at hc
    unfold WfT
    by_cases ho : o = 5
    · rw [if_pos ho] at hc
      subst ho
      have hl : ps.length = 0 := by simpa [wantN] using h.2.1
      obtain rfl : ps = [] := List.length_eq_zero_iff.1 hl
      exact ⟨h.1, h.2.1, fun _ => hc, by unfold WfTs; trivial⟩
    · rw [if_neg ho] at hc
      simp only [Bool.false_eq_true, false_and, if_false] at hc
      exact ⟨h.1, h.2.1, fun e => absurd e ho, (calls_wfs m (-1) ps h.2.2 hc).2⟩
theorem calls_wfs (m : Int) : ∀ (k : Int) (ps : List Tm), VaTs ps → callsL false k ps < m → k < m ∧ WfTs m ps
  | k, [], h, hc => by
    unfold callsL at hc
    unfold WfTs
    exact ⟨hc, trivial⟩
  | k, p :: ps, h, hc => by
    unfold VaTs at h
    unfold callsL at hc
    unfold WfTs
    obtain ⟨a, b⟩ := calls_wfs m _ ps h.2 hc
    split at a
    · exact ⟨by omega, calls_wf m p h.1 (by omega), b⟩
    · exact ⟨by omega, calls_wf m p h.1 (by omega), b⟩
end
theorem callsL_ge (g : Bool) : ∀ (k : Int) (ps : List Tm), k ≤ callsL g k ps ∧ ∀ p ∈ ps, callsT g p ≤ callsL g k ps
  | k, [] => by unfold callsL; exact ⟨by omega, fun p hp => by cases hp⟩
  | k, p :: ps => by
    unfold callsL
    obtain ⟨a, b⟩ := callsL_ge g (if k < callsT g p then callsT g p else k) ps
    generalize callsL g (if k < callsT g p then callsT g p else k) ps = X at a b ⊢
    refine ⟨by split at a <;> omega, fun q hq => ?_⟩
    rcases List.mem_cons.1 hq with rfl | hq
    · split at a <;> omega
    · exact b q hq
theorem calls_gd : ∀ t : Tm, VaT t → ¬ 0 ≤ callsT true t → gdT t
  | .mk o n [], h, hc => by
    unfold VaT at h
    unfold gdT
    intro ho
    unfold callsT at hc
    rw [if_pos ho] at hc
    exact hc ((headOk_n h.1).2.2 ho)
  | .mk o n [a], h, hc => by
    have h0 := h
    unfold VaT at h
    have hv := h.2.2
    unfold VaTs at hv
    unfold gdT
    unfold callsT at hc
    by_cases ho : o = 5
    · exfalso
      subst ho
      have := h.2.1
      simp [wantN] at this
    · rw [if_neg ho] at hc
      by_cases h1 : o = 1
      · exact .inl h1
      · right
        simp only [h1, and_false, if_false] at hc
        have := (callsL_ge true (-1) [a]).2 a (by simp)
        exact calls_gd a hv.1 (by omega)
  | .mk o n [a, b], h, hc => by
    unfold VaT at h
    have hv := h.2.2
    unfold VaTs VaTs at hv
    unfold gdT
    unfold callsT at hc
    have hl := h.2.1
    by_cases ho : o = 5
    · exfalso
      subst ho
      simp [wantN] at hl
    · rw [if_neg ho] at hc
      by_cases h1 : o = 1
      · exfalso
        subst h1
        simp [wantN] at hl
      · simp only [h1, and_false, if_false] at hc
        have q := (callsL_ge true (-1) [a, b]).2
        have q1 := q a (by simp)
        have q2 := q b (by simp)
        exact ⟨calls_gd a hv.1 (by omega), calls_gd b hv.2.1 (by omega)⟩
  | .mk _ _ (_ :: _ :: _ :: _), h, hc => by unfold gdT; trivial
/-! with definitions -/
/-- What a call does. -/
def kD (ds : List Tm) (n : Int) : List Stp := match ds[n.toNat]? with
  | some d => if 0 ≤ n then stT (fun _ => []) d else []
  | none => []
/-- Definitions that are ones. -/
def DsOk (ds : List Tm) : Prop := ds.length ≤ 3 ∧ ∀ d ∈ ds, WfT ds.length d ∧ szT d ≤ 24 ∧ gdT d
theorem defsOk_ds {ds : List Tm} (h : defsOk ds = true) : DsOk ds := by
  unfold defsOk at h
  simp only [Bool.and_eq_true, decide_eq_true_eq, List.all_eq_true] at h
  refine ⟨h.2, fun d hd => ?_⟩
  have := h.1 d hd
  unfold goodD fitsT at this
  simp only [Bool.and_eq_true, Bool.not_eq_true', decide_eq_true_eq, decide_eq_false_iff_not] at this
  obtain ⟨⟨h1, h2, h3⟩, h4⟩ := this
  obtain ⟨a, b⟩ := okT_va h1
  exact ⟨calls_wf _ d a h3, b, calls_gd d a h4⟩
theorem kD_len {ds : List Tm} (h : DsOk ds) (n : Int) : visL (kD ds n) ≤ 24 ∧ (kD ds n).length ≤ 24 + 24 * 24 := by
  unfold kD
  split
  · rename_i d hd
    have hm := List.mem_of_getElem? hd
    obtain ⟨a, b, c⟩ := h.2 d hm
    split
    · have q := stT_len (fun _ => []) 0 (fun n => by simp [visL]) d
      have q2 := lvT_le 0 d
      simp only [Nat.zero_add, Nat.one_mul] at q2
      have q3 : lvT 0 d ≤ 24 := by omega
      have q4 : lvT 0 d * lvT 0 d ≤ 24 * 24 := Nat.mul_le_mul q3 q3
      omega
    · simp [visL]
  · simp [visL]
theorem kD_good {ds : List Tm} (h : DsOk ds) (n : Int) : ∀ s ∈ kD ds n, GoodS ds.length 24 s := by
  intro s hs
  unfold kD at hs
  split at hs
  · rename_i d hd
    have hm := List.mem_of_getElem? hd
    obtain ⟨a, b, c⟩ := h.2 d hm
    split at hs
    · have := stT_good ds.length (fun _ => []) 1 (by omega) (fun n _ _ s hs => by cases hs) d a s hs
      exact this.mono (by omega)
    · cases hs
  · cases hs
/-- What a term does. -/
abbrev stD (ds : List Tm) (t : Tm) : List Stp := stT (kD ds) t
theorem stD_len {ds : List Tm} (h : DsOk ds) (t : Tm) (ht : szT t ≤ 24) : (stD ds t).length ≤ 400000 := by
  have q := stT_len (kD ds) 24 (kD_len h) t
  have q2 := lvT_le 24 t
  have q3 : lvT 24 t ≤ 600 := by omega
  have q4 : lvT 24 t * lvT 24 t ≤ 600 * 600 := Nat.mul_le_mul q3 q3
  show (stT (kD ds) t).length ≤ _
  omega
theorem stD_good {ds : List Tm} (h : DsOk ds) (t : Tm) (hw : WfT ds.length t) (ht : szT t ≤ 24) : ∀ s ∈ stD ds t, GoodS ds.length 576 s := by
  intro s hs
  have := stT_good ds.length (kD ds) 24 (by omega) (fun n _ _ => kD_good h n) t hw s hs
  exact this.mono (by omega)
end Go.Am
end
section
set_option maxRecDepth 10000
set_option maxHeartbeats 16000000
set_option linter.unusedSimpArgs false
set_option linter.unusedVariables false
namespace Go.Am
open Go.Proofs Go.Sort Go.Shelf
/-! spec.l3Steps: its loops -/
def cellsT : Tm → List PV | .mk o n ps => [.i o, .i n, encQ false ps]
theorem encT_cells (t : Tm) : encT false t = .agg (cellsT t) := by cases t; simp [encT, cellsT]
mutual
theorem falF_encT : ∀ p : Tm, fal (encT false p) = encT false p
  | .mk o x ps => by
    simp only [encT, fal, fals]
    rw [falF_encQ ps]
theorem falF_encQ : ∀ ps : List Tm, fal (encQ false ps) = encQ false ps
  | [] => by simp [encQ, fal]
  | p :: ps => by
    simp only [encQ, fal, fals]
    rw [falF_encT p, falsF_encTs ps]
theorem falsF_encTs : ∀ ps : List Tm, fals (encTs false ps) = encTs false ps
  | [] => by simp [encTs, fals]
  | p :: ps => by
    simp only [encTs, fals]
    rw [falF_encT p, falsF_encTs ps]
end
theorem cellsT_form (t : Tm) : ∃ (a b : Int) (c : PV) (L : List PV), cellsT t = [.i a, .i b, c] ∧ fals L = L ∧ (c = .nils ∨ c = .sl false 3 L) := by
  obtain ⟨a, b, ps⟩ := t
  cases ps with
  | nil => exact ⟨a, b, _, [], rfl, rfl, .inl (by simp [encQ])⟩
  | cons p ps => exact ⟨a, b, _, _, rfl, falsF_encTs _, .inr (encQ_c false (List.cons_ne_nil p ps))⟩
theorem encT_formF (t : Tm) : ∃ (a b : Int) (c : PV) (L : List PV), encT false t = .agg [.i a, .i b, c] ∧ fals L = L ∧ (c = .nils ∨ c = .sl false 3 L) := by
  obtain ⟨a, b, c, L, h, hc⟩ := cellsT_form t
  exact ⟨a, b, c, L, by rw [encT_cells, h], hc⟩
/-- A step as the machine holds it. -/
def stP (s : Stp) : PV := .agg (.i s.1 :: cellsT s.2)
def stPs (l : List Stp) : List PV := l.map stP
@[simp] theorem stPs_len (l : List Stp) : (stPs l).length = l.length := by simp [stPs]
theorem stPs_app (a b : List Stp) : stPs (a ++ b) = stPs a ++ stPs b := by simp [stPs]
theorem stP_at (done : List Stp) (x : Stp) (rest : List Stp) : nth (stPs (done ++ x :: rest)) done.length = some (stP x) := by simp [nth, stPs]
theorem stP_form (s : Stp) : ∃ (a b : Int) (c : PV) (L : List PV), stP s = .agg [.i s.1, .i a, .i b, c] ∧ encT false s.2 = .agg [.i a, .i b, c] ∧ fals L = L ∧ (c = .nils ∨ c = .sl false 3 L) := by
  obtain ⟨a, b, c, L, h, hc⟩ := cellsT_form s.2
  exact ⟨a, b, c, L, by rw [stP, h], by rw [encT_cells, h], hc⟩
theorem stP_par (x : Int) (t u : Tm) : stP (x, parT t u) = .agg [.i x, .i 3, .i 0, .sl false 3 [encT false t, encT false u]] := by simp [stP, parT, cellsT, encQ, encTs]
theorem stP_hide (x n : Int) (t : Tm) : stP (x, hideT n t) = .agg [.i x, .i 4, .i n, .sl false 3 [encT false t]] := by simp [stP, hideT, cellsT, encQ, encTs]
theorem plain_stP (s : Stp) : plain (stP s) = true := by
  obtain ⟨a, b, c, L, h, _, hL, hc⟩ := stP_form s
  rw [h]
  rcases hc with rfl | rfl <;> simp [plain, plains]
theorem plains_stPs (l : List Stp) : plains (stPs l) = true := by
  induction l with
  | nil => simp [stPs, plains]
  | cons s l ih => simp only [stPs, List.map_cons, plains, plain_stP, Bool.true_and] at ih ⊢; exact ih
/-- The steps of the first part. -/
def fstS (u : Tm) (a : List Stp) : List Stp := a.map fun s => (s.1, parT s.2 u)
def sndS (t : Tm) (b : List Stp) : List Stp := b.map fun s => (s.1, parT t s.2)
theorem loopSt0 (n : Int) (t u : Tm) (a b : List Stp) : ∀ (rest done out : List Stp), a = done ++ rest → a.length ≤ 1000000 → out.length + rest.length ≤ 4000000000 →
    loopI G [2, 5, 6, 7, 8] [2, 14, 28, 36, 43, 51, 57, 83, 109, 157, 206, 215] c123l0 ⟨[(2, .ref (0, 2) 1 0 0), (5, .own (0, 14) out.length), (6, .own (0, 51) a.length), (7, .own (0, 57) b.length), (8, .i done.length)],
      [(2, .box [.i 3, .i n, .sl false 3 [encT false t, encT false u]]), (14, .row 4 (stPs out)), (51, .row 4 (stPs a)), (57, .row 4 (stPs b))], []⟩ =
      some (.exit 1, ⟨[(2, .ref (0, 2) 1 0 0), (5, .own (0, 14) (out ++ fstS u rest).length), (6, .own (0, 51) a.length), (7, .own (0, 57) b.length), (8, .i a.length), (61, .b false)],
        [(2, .box [.i 3, .i n, .sl false 3 [encT false t, encT false u]]), (14, .row 4 (stPs (out ++ fstS u rest))), (51, .row 4 (stPs a)), (57, .row 4 (stPs b))], []⟩)
  | [], done, out, e, ha, ho => by
    have e : a = done := by simpa using e
    subst e
    have hf : out ++ fstS u [] = out := by simp [fstS]
    rw [hf]
    obtain ⟨x1, x2, x3, L3, hX, hL, hx3⟩ := encT_formF t
    obtain ⟨y1, y2, y3, M3, hY, hM, hy3⟩ := encT_formF u
    rw [hX, hY, loopI_eq]
    rcases hx3 with rfl | rfl <;> rcases hy3 with rfl | rfl <;> simp [r123l0, b123l0, hL, hM, fal, fals]
  | s :: rest, done, out, e, ha, ho => by
    have hpl : a.length = done.length + (rest.length + 1) := by rw [e]; simp
    have hlt : (done.length : Int) < a.length := by omega
    have hlt2 : done.length < a.length := by omega
    have hw : IntKind.i64.wrap ((done.length : Int) + 1) = (done.length : Int) + 1 := wr (by omega)
    have hat := stP_at done s rest
    rw [← e] at hat
    have hn := loopSt0 n t u a b rest (done ++ [s]) (out ++ [(s.1, parT s.2 u)]) (by rw [e]; simp) ha (by simp at ho ⊢; omega)
    have hf : out ++ fstS u (s :: rest) = out ++ [(s.1, parT s.2 u)] ++ fstS u rest := by simp [fstS]
    rw [hf]
    refine Eq.trans ?_ hn
    have ho2 : out.length ≤ 4294967295 := by simp at ho; omega
    have hpa := plains_stPs a
    rw [stPs_app, show stPs [(s.1, parT s.2 u)] = [stP (s.1, parT s.2 u)] from rfl, stP_par]
    obtain ⟨z1, z2, z3, N3, hZ, hZ2, hN, hz3⟩ := stP_form s
    obtain ⟨x1, x2, x3, L3, hX, hL, hx3⟩ := encT_formF t
    obtain ⟨y1, y2, y3, M3, hY, hM, hy3⟩ := encT_formF u
    rw [hZ] at hat
    rw [hZ2, hX, hY, loopI_eq]
    rcases hx3 with rfl | rfl <;> rcases hy3 with rfl | rfl <;> rcases hz3 with rfl | rfl <;> simp [r123l0, b123l0, hlt, hlt2, hat, hw, ho2, hpa, hL, hM, hN, fal, fals]
theorem loopSt1 (n : Int) (t u : Tm) (a b : List Stp) : ∀ (rest done out : List Stp), b = done ++ rest → b.length ≤ 1000000 → out.length + rest.length ≤ 4000000000 →
    loopI G [2, 5, 6, 7, 9] [2, 14, 28, 36, 43, 51, 57, 83, 109, 157, 206, 215] c123l1 ⟨[(2, .ref (0, 2) 1 0 0), (5, .own (0, 14) out.length), (6, .own (0, 51) a.length), (7, .own (0, 57) b.length), (9, .i done.length)],
      [(2, .box [.i 3, .i n, .sl false 3 [encT false t, encT false u]]), (14, .row 4 (stPs out)), (51, .row 4 (stPs a)), (57, .row 4 (stPs b))], []⟩ =
      some (.exit 3, ⟨[(2, .ref (0, 2) 1 0 0), (5, .own (0, 14) (out ++ sndS t rest).length), (6, .own (0, 51) a.length), (7, .own (0, 57) b.length), (9, .i b.length), (87, .b false)],
        [(2, .box [.i 3, .i n, .sl false 3 [encT false t, encT false u]]), (14, .row 4 (stPs (out ++ sndS t rest))), (51, .row 4 (stPs a)), (57, .row 4 (stPs b))], []⟩)
  | [], done, out, e, ha, ho => by
    have e : b = done := by simpa using e
    subst e
    have hf : out ++ sndS t [] = out := by simp [sndS]
    rw [hf]
    obtain ⟨x1, x2, x3, L3, hX, hL, hx3⟩ := encT_formF t
    obtain ⟨y1, y2, y3, M3, hY, hM, hy3⟩ := encT_formF u
    rw [hX, hY, loopI_eq]
    rcases hx3 with rfl | rfl <;> rcases hy3 with rfl | rfl <;> simp [r123l1, b123l1, hL, hM, fal, fals]
  | s :: rest, done, out, e, ha, ho => by
    have hpl : b.length = done.length + (rest.length + 1) := by rw [e]; simp
    have hlt : (done.length : Int) < b.length := by omega
    have hlt2 : done.length < b.length := by omega
    have hw : IntKind.i64.wrap ((done.length : Int) + 1) = (done.length : Int) + 1 := wr (by omega)
    have hat := stP_at done s rest
    rw [← e] at hat
    have hn := loopSt1 n t u a b rest (done ++ [s]) (out ++ [(s.1, parT t s.2)]) (by rw [e]; simp) ha (by simp at ho ⊢; omega)
    have hf : out ++ sndS t (s :: rest) = out ++ [(s.1, parT t s.2)] ++ sndS t rest := by simp [sndS]
    rw [hf]
    refine Eq.trans ?_ hn
    have ho2 : out.length ≤ 4294967295 := by simp at ho; omega
    have hpa := plains_stPs b
    rw [stPs_app, show stPs [(s.1, parT t s.2)] = [stP (s.1, parT t s.2)] from rfl, stP_par]
    obtain ⟨z1, z2, z3, N3, hZ, hZ2, hN, hz3⟩ := stP_form s
    obtain ⟨x1, x2, x3, L3, hX, hL, hx3⟩ := encT_formF t
    obtain ⟨y1, y2, y3, M3, hY, hM, hy3⟩ := encT_formF u
    rw [hZ] at hat
    rw [hZ2, hX, hY, loopI_eq]
    rcases hx3 with rfl | rfl <;> rcases hy3 with rfl | rfl <;> rcases hz3 with rfl | rfl <;> simp [r123l1, b123l1, hlt, hlt2, hat, hw, ho2, hpa, hL, hM, hN, fal, fals]
theorem loopSt2 (s : Stp) (hs1 : -4 ≤ s.1 ∧ s.1 ≤ 4) (a1 a2 a b : List Stp) (ha : a = a1 ++ s :: a2) (hal : a.length ≤ 1000000) (hb : ∀ r ∈ b, -4 ≤ r.1 ∧ r.1 ≤ 4) : ∀ (rest done out : List Stp), b = done ++ rest → b.length ≤ 1000000 → out.length + rest.length ≤ 4000000000 →
    loopI G [5, 6, 7, 10, 11] [14, 28, 36, 43, 51, 57, 83, 109, 157, 206, 215] c123l2 ⟨[(5, .own (0, 14) out.length), (6, .own (0, 51) a.length), (7, .own (0, 57) b.length), (10, .i a1.length), (11, .i done.length)],
      [(14, .row 4 (stPs out)), (51, .row 4 (stPs a)), (57, .row 4 (stPs b))], []⟩ =
      some (.exit 7, ⟨[(5, .own (0, 14) (out ++ syncL s rest).length), (6, .own (0, 51) a.length), (7, .own (0, 57) b.length), (10, .i a1.length), (11, .i b.length), (119, .b false)],
        [(14, .row 4 (stPs (out ++ syncL s rest))), (51, .row 4 (stPs a)), (57, .row 4 (stPs b))], []⟩)
  | [], done, out, e, hbl, ho => by
    have e : b = done := by simpa using e
    subst e
    have hf : out ++ syncL s [] = out := by simp [syncL]
    rw [hf, loopI_eq]
    simp [r123l2, b123l2]
  | r :: rest, done, out, e, hbl, ho => by
    have hpl : b.length = done.length + (rest.length + 1) := by rw [e]; simp
    have hpa : a.length = a1.length + (a2.length + 1) := by rw [ha]; simp
    have hlt : (done.length : Int) < b.length := by omega
    have hlt2 : done.length < b.length := by omega
    have hla : a1.length < a.length := by omega
    have hw : IntKind.i64.wrap ((done.length : Int) + 1) = (done.length : Int) + 1 := wr (by omega)
    have hat := stP_at done r rest
    rw [← e] at hat
    have hat1 := stP_at a1 s a2
    rw [← ha] at hat1
    have hr1 := hb r (by rw [e]; simp)
    have hw2 : IntKind.i64.wrap (-r.1) = -r.1 := wr (by omega)
    have hw3 : IntKind.i64.wrap (0 - r.1) = -r.1 := by rw [show 0 - r.1 = -r.1 by omega]; exact hw2
    have hp1 := plains_stPs a
    have hp2 := plains_stPs b
    obtain ⟨z1, z2, z3, N3, hZ, hZ2, hN, hz3⟩ := stP_form s
    obtain ⟨x1, x2, x3, L3, hX, hX2, hL, hx3⟩ := stP_form r
    rw [hZ] at hat1
    rw [hX] at hat
    by_cases h0 : s.1 ≠ 0 ∧ s.1 = -r.1
    · have hn := loopSt2 s hs1 a1 a2 a b ha hal hb rest (done ++ [r]) (out ++ [(0, parT s.2 r.2)]) (by rw [e]; simp) hbl (by simp at ho ⊢; omega)
      have hf : out ++ syncL s (r :: rest) = out ++ [(0, parT s.2 r.2)] ++ syncL s rest := by simp only [syncL, List.flatMap_cons, if_pos h0, List.append_assoc]
      rw [hf]
      refine Eq.trans ?_ hn
      have ho2 : out.length ≤ 4294967295 := by simp at ho; omega
      rw [stPs_app, show stPs [((0 : Int), parT s.2 r.2)] = [stP (0, parT s.2 r.2)] from rfl, stP_par]
      rw [hZ2, hX2, loopI_eq]
      have h1 := h0.1
      have h2 := h0.2
      generalize s.1 = q at *
      generalize r.1 = p at *
      subst h2
      rcases hx3 with rfl | rfl <;> rcases hz3 with rfl | rfl <;> simp [r123l2, b123l2, hlt, hlt2, hla, hat, hat1, hw, hw2, hw3, ho2, hp1, hp2, h1, hL, hN, fal, fals]
    · have hn := loopSt2 s hs1 a1 a2 a b ha hal hb rest (done ++ [r]) out (by rw [e]; simp) hbl (by simp at ho; omega)
      have hf : out ++ syncL s (r :: rest) = out ++ syncL s rest := by simp only [syncL, List.flatMap_cons, if_neg h0, List.nil_append]
      rw [hf]
      refine Eq.trans ?_ hn
      rw [loopI_eq]
      by_cases h1 : s.1 = 0
      · rw [h1] at hat1
        rcases hx3 with rfl | rfl <;> rcases hz3 with rfl | rfl <;> simp [r123l2, b123l2, hlt, hlt2, hla, hat, hat1, hw, hw2, hw3, hp1, hp2, hL, hN, fal, fals]
      · have h2 : ¬ s.1 = -r.1 := fun e => h0 ⟨h1, e⟩
        rcases hx3 with rfl | rfl <;> rcases hz3 with rfl | rfl <;> simp [r123l2, b123l2, hlt, hlt2, hla, hat, hat1, hw, hw2, hw3, hp1, hp2, h1, h2, hL, hN, fal, fals]
theorem loopSt3 (a b : List Stp) (ha : ∀ r ∈ a, -4 ≤ r.1 ∧ r.1 ≤ 4) (hb : ∀ r ∈ b, -4 ≤ r.1 ∧ r.1 ≤ 4) (hal : a.length ≤ 1000000) (hbl : b.length ≤ 1000000) : ∀ (rest done out : List Stp), a = done ++ rest → out.length + (rest.flatMap fun s => syncL s b).length ≤ 3000000000 →
    loopI G [5, 6, 7, 10] [14, 28, 36, 43, 51, 57, 83, 109, 157, 206, 215] c123l3 ⟨[(5, .own (0, 14) out.length), (6, .own (0, 51) a.length), (7, .own (0, 57) b.length), (10, .i done.length)],
      [(14, .row 4 (stPs out)), (51, .row 4 (stPs a)), (57, .row 4 (stPs b))], []⟩ =
      some (.exit 5, ⟨[(5, .own (0, 14) (out ++ rest.flatMap fun s => syncL s b).length), (6, .own (0, 51) a.length), (7, .own (0, 57) b.length), (10, .i a.length), (113, .b false)],
        [(14, .row 4 (stPs (out ++ rest.flatMap fun s => syncL s b))), (51, .row 4 (stPs a)), (57, .row 4 (stPs b))], []⟩)
  | [], done, out, e, ho => by
    have e : a = done := by simpa using e
    subst e
    have hf : (out ++ List.flatMap (fun s => syncL s b) []) = out := by simp
    rw [hf, loopI_eq]
    simp [r123l3, b123l3]
  | s :: rest, done, out, e, ho => by
    have hpl : a.length = done.length + (rest.length + 1) := by rw [e]; simp
    have hlt : (done.length : Int) < a.length := by omega
    have hw : IntKind.i64.wrap ((done.length : Int) + 1) = (done.length : Int) + 1 := wr (by omega)
    have hlen : (syncL s b).length ≤ b.length := by
      have h1 := (syncL_len s b).1
      have h2 : visL b ≤ b.length := List.length_filter_le _ _
      split at h1 <;> omega
    simp only [List.flatMap_cons, List.length_append] at ho
    have hi := loopSt2 s (ha s (by rw [e]; simp)) done rest a b e hal hb b [] out rfl hbl (by omega)
    simp only [List.length_nil, show ((0 : Nat) : Int) = 0 from rfl] at hi
    have hn := loopSt3 a b ha hb hal hbl rest (done ++ [s]) (out ++ syncL s b) (by rw [e]; simp) (by simp only [List.length_append]; omega)
    have hf : (out ++ List.flatMap (fun s => syncL s b) (s :: rest)) = (out ++ syncL s b) ++ List.flatMap (fun s => syncL s b) rest := by simp
    rw [hf]
    refine Eq.trans ?_ hn
    generalize syncL s b = X at *
    rw [loopI_eq]
    generalize hO : out ++ X = O at *
    simp [r123l3, b123l3, hlt, hi, hw]
theorem loopSt4 (n : Int) (hn : 0 ≤ n ∧ n ≤ 3) (t : Tm) (a : List Stp) (ha : ∀ r ∈ a, -4 ≤ r.1 ∧ r.1 ≤ 4) (hal : a.length ≤ 1000000) : ∀ (rest done out : List Stp), a = done ++ rest → out.length + rest.length ≤ 4000000000 →
    loopI G [2, 5, 12, 13] [2, 14, 28, 36, 43, 83, 109, 157, 165, 206, 215] c123l4 ⟨[(2, .ref (0, 2) 1 0 0), (5, .own (0, 14) out.length), (12, .own (0, 165) a.length), (13, .i done.length)],
      [(2, .box [.i 4, .i n, .sl false 3 [encT false t]]), (14, .row 4 (stPs out)), (165, .row 4 (stPs a))], []⟩ =
      some (.exit 9, ⟨[(2, .ref (0, 2) 1 0 0), (5, .own (0, 14) (out ++ hidT n rest).length), (12, .own (0, 165) a.length), (13, .i a.length), (169, .b false)],
        [(2, .box [.i 4, .i n, .sl false 3 [encT false t]]), (14, .row 4 (stPs (out ++ hidT n rest))), (165, .row 4 (stPs a))], []⟩)
  | [], done, out, e, ho => by
    have e : a = done := by simpa using e
    subst e
    have hf : out ++ hidT n [] = out := by simp [hidT]
    rw [hf]
    obtain ⟨x1, x2, x3, L3, hX, hL, hx3⟩ := encT_formF t
    rw [hX, loopI_eq]
    rcases hx3 with rfl | rfl <;> simp [r123l4, b123l4, hL, fal, fals]
  | s :: rest, done, out, e, ho => by
    have hpl : a.length = done.length + (rest.length + 1) := by rw [e]; simp
    have hlt : (done.length : Int) < a.length := by omega
    have hlt2 : done.length < a.length := by omega
    have hw : IntKind.i64.wrap ((done.length : Int) + 1) = (done.length : Int) + 1 := wr (by omega)
    have hat := stP_at done s rest
    rw [← e] at hat
    have hs1 := ha s (by rw [e]; simp)
    have hnm := eqName1 s.1 (by omega)
    rw [show (if s.1 < -s.1 then -s.1 else s.1) - 1 = name1 s.1 from rfl] at hnm
    have hpa := plains_stPs a
    obtain ⟨z1, z2, z3, N3, hZ, hZ2, hN, hz3⟩ := stP_form s
    obtain ⟨x1, x2, x3, L3, hX, hL, hx3⟩ := encT_formF t
    rw [hZ] at hat
    by_cases h0 : s.1 = 0 ∨ name1 s.1 ≠ n
    · have hn := loopSt4 n hn t a ha hal rest (done ++ [s]) (out ++ [(s.1, hideT n s.2)]) (by rw [e]; simp) (by simp at ho ⊢; omega)
      have hf : out ++ hidT n (s :: rest) = out ++ [(s.1, hideT n s.2)] ++ hidT n rest := by simp only [hidT, List.flatMap_cons, if_pos h0, List.append_assoc]
      rw [hf]
      refine Eq.trans ?_ hn
      have ho2 : out.length ≤ 4294967295 := by simp at ho; omega
      rw [stPs_app, show stPs [(s.1, hideT n s.2)] = [stP (s.1, hideT n s.2)] from rfl, stP_hide]
      rw [hZ2, hX, loopI_eq]
      by_cases h1 : s.1 = 0
      · rw [h1] at hat ⊢
        rcases hx3 with rfl | rfl <;> rcases hz3 with rfl | rfl <;> simp [r123l4, b123l4, hlt, hlt2, hat, hw, ho2, hpa, hL, hN, fal, fals]
      · have h2 : ¬ name1 s.1 = n := h0.resolve_left h1
        generalize name1 s.1 = q at *
        rcases hx3 with rfl | rfl <;> rcases hz3 with rfl | rfl <;> simp [r123l4, b123l4, hlt, hlt2, hat, hw, ho2, hpa, hnm, h1, h2, hL, hN, fal, fals]
    · have hn := loopSt4 n hn t a ha hal rest (done ++ [s]) out (by rw [e]; simp) (by simp at ho; omega)
      have hf : out ++ hidT n (s :: rest) = out ++ hidT n rest := by simp only [hidT, List.flatMap_cons, if_neg h0, List.nil_append]
      rw [hf]
      refine Eq.trans ?_ hn
      simp only [not_or, ne_eq, Classical.not_not] at h0
      obtain ⟨h1, h2⟩ := h0
      rw [h2] at hnm
      rw [hX, loopI_eq]
      rcases hx3 with rfl | rfl <;> rcases hz3 with rfl | rfl <;> simp [r123l4, b123l4, hlt, hlt2, hat, hw, hpa, hnm, h1, hL, hN, fal, fals]
end Go.Am
end
section
set_option maxRecDepth 10000
set_option maxHeartbeats 16000000
set_option linter.unusedSimpArgs false
set_option linter.unusedVariables false
namespace Go.Am
open Go.Proofs Go.Sort Go.Shelf
/-! spec.l3Steps -/
abbrev StepsAt (ds : List Tm) (t : Tm) (l : List Stp) : Prop := callI G 123 [encT false t, encQ false ds] [] = some (.sl true 4 (stPs l), [])
theorem eqSteps0n (ds : List Tm) : StepsAt ds (.mk 0 0 []) [] := by
  unfold StepsAt
  rw [callI_eq]
  rcases encQ_form false ds with ⟨e, e0⟩ | ⟨F, e, e1, _⟩ <;> rw [e] <;> simp [body1_eq _ _ (gp 123) g123, c123, a123, encT, encQ, stPs]
theorem eqSteps0a (ds : List Tm) (n : Int) (p : Tm) : StepsAt ds (.mk 1 n [p]) [(n, p)] := by
  unfold StepsAt
  have h : stPs [(n, p)] = [stP (n, p)] := rfl
  obtain ⟨z1, z2, z3, N3, hZ, hZ2, hN, hz3⟩ := stP_form (n, p)
  simp only at hZ hZ2
  rw [callI_eq, h, hZ]
  simp only [encT, encQ, encTs, hZ2]
  rcases encQ_form false ds with ⟨e, e0⟩ | ⟨F, e, e1, _⟩ <;> rw [e] <;> rcases hz3 with rfl | rfl <;> simp [body1_eq _ _ (gp 123) g123, c123, a123, hN]
theorem eqSteps0s (ds : List Tm) (p q : Tm) (a b : List Stp) (ha : StepsAt ds p a) (hb : StepsAt ds q b) (hl : a.length + b.length ≤ 4000000000) : StepsAt ds (.mk 2 0 [p, q]) (a ++ b) := by
  unfold StepsAt at *
  obtain ⟨x1, x2, x3, L3, hX, hL, hx3⟩ := encT_formF p
  obtain ⟨y1, y2, y3, M3, hY, hM, hy3⟩ := encT_formF q
  rw [hX] at ha
  rw [hY] at hb
  have h1 : a.length + b.length ≤ 4294967296 := by omega
  rw [callI_eq, stPs_app]
  simp only [encT, encQ, encTs, hX, hY]
  rcases encQ_form false ds with ⟨e, e0⟩ | ⟨F, e, e1, _⟩ <;> rw [e] at ha hb ⊢ <;> rcases hx3 with rfl | rfl <;> rcases hy3 with rfl | rfl <;> simp [body1_eq _ _ (gp 123) g123, c123, a123, ha, hb, h1]
theorem eqSteps0p (ds : List Tm) (p q : Tm) (a b : List Stp) (ha : StepsAt ds p a) (hb : StepsAt ds q b) (hl : (parS p q a b).length ≤ 2000000000) (hal : a.length ≤ 1000000) (hbl : b.length ≤ 1000000)
    (ha4 : ∀ r ∈ a, -4 ≤ r.1 ∧ r.1 ≤ 4) (hb4 : ∀ r ∈ b, -4 ≤ r.1 ∧ r.1 ≤ 4) : StepsAt ds (.mk 3 0 [p, q]) (parS p q a b) := by
  unfold StepsAt at *
  have hpar : parS p q a b = (fstS q a ++ sndS p b) ++ a.flatMap fun s => syncL s b := by simp [parS, fstS, sndS, syncL]
  rw [hpar] at hl ⊢
  have hf : (fstS q a).length = a.length := by simp [fstS]
  have hs : (sndS p b).length = b.length := by simp [sndS]
  simp only [List.length_append] at hl
  have l0 := loopSt0 0 p q a b a [] [] rfl hal (by simp only [List.length_nil]; omega)
  have l1 := loopSt1 0 p q a b b [] (fstS q a) rfl hbl (by omega)
  have l3 := loopSt3 a b ha4 hb4 hal hbl a [] (fstS q a ++ sndS p b) rfl (by simp only [List.length_append]; omega)
  simp only [List.nil_append, List.length_nil, show ((0 : Nat) : Int) = 0 from rfl, show stPs [] = [] from rfl] at l0 l1 l3
  obtain ⟨x1, x2, x3, L3, hX, hL, hx3⟩ := encT_formF p
  obtain ⟨y1, y2, y3, M3, hY, hM, hy3⟩ := encT_formF q
  rw [hX] at ha l0 l1
  rw [hY] at hb l0 l1
  rw [callI_eq]
  simp only [encT, encQ, encTs, hX, hY]
  generalize hO : (fstS q a ++ sndS p b) = O at *
  generalize hQ : (O ++ a.flatMap fun s => syncL s b) = Q at *
  generalize hF : fstS q a = F1 at *
  rcases encQ_form false ds with ⟨e, e0⟩ | ⟨F, e, e1, _⟩ <;> rw [e] at ha hb ⊢ <;> rcases hx3 with rfl | rfl <;> rcases hy3 with rfl | rfl <;> simp [body1_eq _ _ (gp 123) g123, c123, a123, ha, hb, l0, l1, l3]
theorem eqSteps0h (ds : List Tm) (n : Int) (hn : 0 ≤ n ∧ n ≤ 3) (p : Tm) (a : List Stp) (ha : StepsAt ds p a) (hal : a.length ≤ 1000000)
    (ha4 : ∀ r ∈ a, -4 ≤ r.1 ∧ r.1 ≤ 4) : StepsAt ds (.mk 4 n [p]) (hidT n a) := by
  unfold StepsAt at *
  have l4 := loopSt4 n hn p a ha4 hal a [] [] rfl (by simp only [List.length_nil]; omega)
  simp only [List.nil_append, List.length_nil, show ((0 : Nat) : Int) = 0 from rfl, show stPs [] = [] from rfl] at l4
  obtain ⟨x1, x2, x3, L3, hX, hL, hx3⟩ := encT_formF p
  rw [hX] at ha l4
  rw [callI_eq]
  simp only [encT, encQ, encTs, hX]
  generalize hidT n a = Q at *
  rcases encQ_form false ds with ⟨e, e0⟩ | ⟨F, e, e1, _⟩ <;> rw [e] at ha ⊢ <;> rcases hx3 with rfl | rfl <;> simp [body1_eq _ _ (gp 123) g123, c123, a123, ha, l4]
theorem eqSteps0c (ds : List Tm) (n : Int) (hn : 0 ≤ n ∧ n ≤ 2) (d : Tm) (hd : ds[n.toNat]? = some d) (a : List Stp) (ha : StepsAt ds d a) : StepsAt ds (.mk 5 n []) a := by
  unfold StepsAt at *
  have hlt : n.toNat < ds.length := by
    rcases Nat.lt_or_ge n.toNat ds.length with h | h
    · exact h
    · rw [List.getElem?_eq_none h] at hd; cases hd
  have hlt2 : n < ds.length := by omega
  have hat : nth (encTs false ds) n.toNat = some (encT false d) := by simp [nth, encTs_map, hd]
  obtain ⟨x1, x2, x3, L3, hX, hL, hx3⟩ := encT_formF d
  have hne : ds ≠ [] := by intro e; rw [e] at hlt; simp at hlt
  rw [hX] at ha hat
  rw [encQ_c false hne] at ha ⊢
  have hl3 : (encTs false ds).length = ds.length := encTs_len false ds
  generalize encTs false ds = F at *
  rw [callI_eq]
  simp only [encT, encQ]
  rcases hx3 with rfl | rfl <;> simp [body1_eq _ _ (gp 123) g123, c123, a123, ha, hat, hl3, hlt, hlt2, hn.1]
theorem stT_acts {m : Int} {z : Nat} {l : List Stp} (h : ∀ s ∈ l, GoodS m z s) : ∀ s ∈ l, -4 ≤ s.1 ∧ s.1 ≤ 4 := fun s hs => (h s hs).1
/-- A term whose calls are known. -/
theorem eqStepsK (ds : List Tm) (hd : DsOk ds) (C : Tm → Prop) (h1 : ∀ o n a, C (.mk o n [a]) → o ≠ 1 → C a) (h2 : ∀ o n a b, C (.mk o n [a, b]) → C a ∧ C b)
    (h5 : ∀ n, C (.mk 5 n []) → 0 ≤ n → n < ds.length → ∃ d, ds[n.toNat]? = some d ∧ StepsAt ds d (kD ds n)) : ∀ t : Tm, WfT ds.length t → szT t ≤ 24 → C t → StepsAt ds t (stD ds t)
  | .mk o n [], hw, hz, hC => by
    unfold WfT at hw
    have hl := hw.2.1
    have hh := headOk_n hw.1
    rcases eqHead o n hw.1 with ⟨rfl, rfl⟩ | ⟨rfl, hk⟩ | ⟨rfl, rfl⟩ | ⟨rfl, rfl⟩ | ⟨rfl, hk⟩ | ⟨rfl, hk⟩
    · have : stD ds (.mk 0 0 []) = [] := by simp [stD, stT]
      rw [this]
      exact eqSteps0n ds
    · simp [wantN] at hl
    · simp [wantN] at hl
    · simp [wantN] at hl
    · simp [wantN] at hl
    · have e : stD ds (.mk 5 n []) = kD ds n := by simp [stD, stT]
      rw [e]
      obtain ⟨d, d1, d2⟩ := h5 n hC hk.1 (hw.2.2.1 rfl)
      exact eqSteps0c ds n hk d d1 _ d2
  | .mk o n [a], hw, hz, hC => by
    have hw0 := hw
    unfold WfT at hw
    have hl := hw.2.1
    have hwa : WfT ds.length a := by have := hw.2.2.2; unfold WfTs at this; exact this.1
    have hsz : szT (.mk o n [a]) = szT a + 1 := by simp [szT, szTs]
    rcases eqHead o n hw.1 with ⟨rfl, rfl⟩ | ⟨rfl, hk⟩ | ⟨rfl, rfl⟩ | ⟨rfl, rfl⟩ | ⟨rfl, hk⟩ | ⟨rfl, hk⟩
    · simp [wantN] at hl
    · have : stD ds (.mk 1 n [a]) = [(n, a)] := by simp [stD, stT]
      rw [this]
      exact eqSteps0a ds n a
    · simp [wantN] at hl
    · simp [wantN] at hl
    · have ih := eqStepsK ds hd C h1 h2 h5 a hwa (by omega) (h1 _ _ _ hC (by decide))
      have : stD ds (.mk 4 n [a]) = hidT n (stD ds a) := by simp [stD, stT]
      rw [this]
      have hb := stD_len hd a (by omega)
      exact eqSteps0h ds n hk a _ ih (by omega) (stT_acts (stD_good hd a hwa (by omega)))
    · simp [wantN] at hl
  | .mk o n [a, b], hw, hz, hC => by
    have hw0 := hw
    unfold WfT at hw
    have hl := hw.2.1
    have hwb := hw.2.2.2
    unfold WfTs WfTs at hwb
    have hsz : szT (.mk o n [a, b]) = szT a + szT b + 1 := by simp [szT, szTs]
    have iha := eqStepsK ds hd C h1 h2 h5 a hwb.1 (by omega) (h2 _ _ _ _ hC).1
    have ihb := eqStepsK ds hd C h1 h2 h5 b hwb.2.1 (by omega) (h2 _ _ _ _ hC).2
    have hba := stD_len hd a (by omega)
    have hbb := stD_len hd b (by omega)
    rcases eqHead o n hw.1 with ⟨rfl, rfl⟩ | ⟨rfl, hk⟩ | ⟨rfl, rfl⟩ | ⟨rfl, rfl⟩ | ⟨rfl, hk⟩ | ⟨rfl, hk⟩
    · simp [wantN] at hl
    · simp [wantN] at hl
    · have : stD ds (.mk 2 0 [a, b]) = stD ds a ++ stD ds b := by simp [stD, stT]
      rw [this]
      exact eqSteps0s ds a b _ _ iha ihb (by omega)
    · have e : stD ds (.mk 3 0 [a, b]) = parS a b (stD ds a) (stD ds b) := by simp [stD, stT]
      have hlen := stD_len hd _ hz
      rw [e] at hlen ⊢
      exact eqSteps0p ds a b _ _ iha ihb (by omega) (by omega) (by omega) (stT_acts (stD_good hd a hwb.1 (by omega))) (stT_acts (stD_good hd b hwb.2.1 (by omega)))
    · simp [wantN] at hl
    · simp [wantN] at hl
  | .mk o n (_ :: _ :: _ :: _), hw, hz, hC => by
    exfalso
    unfold WfT at hw
    have hl := hw.2.1
    unfold wantN at hl
    simp only [List.length_cons] at hl
    (repeat' split at hl) <;> omega
theorem eqSteps (ds : List Tm) (hd : DsOk ds) (t : Tm) (hw : WfT ds.length t) (hz : szT t ≤ 24) : StepsAt ds t (stD ds t) := by
  refine eqStepsK ds hd (fun _ => True) (fun _ _ _ _ _ => trivial) (fun _ _ _ _ _ => ⟨trivial, trivial⟩) (fun n _ h0 hlt => ?_) t hw hz trivial
  have hlt2 : n.toNat < ds.length := by omega
  refine ⟨ds[n.toNat], List.getElem?_eq_getElem hlt2, ?_⟩
  obtain ⟨a, b, c⟩ := hd.2 _ (List.getElem_mem hlt2)
  have e : kD ds n = stD ds ds[n.toNat] := by
    unfold kD stD
    rw [List.getElem?_eq_getElem hlt2]
    simp only [if_pos h0]
    exact stT_gd _ _ _ c
  rw [e]
  refine eqStepsK ds hd gdT (fun o n a h ho => ?_) (fun o n a b h => ?_) (fun n h _ _ => ?_) _ a b c
  · unfold gdT at h; exact h.resolve_left ho
  · unfold gdT at h; exact h
  · unfold gdT at h; exact absurd rfl h
end Go.Am
end
section
set_option maxRecDepth 10000
set_option maxHeartbeats 16000000
set_option linter.unusedSimpArgs false
set_option linter.unusedVariables false
namespace Go.Am
open Go.Proofs Go.Sort Go.Shelf
/-! spec.l3Graph: some graph of bounded size -/
def g3P (g : Gr) : PV := if g = [] then .nils else .own (0, 103) g.length
def g3L (g : Gr) : Objs := if g = [] then [] else [(103, .row 1 (encGs true true g))]
theorem g3_two (g : Gr) : (g = [] ∧ g3P g = .nils ∧ g3L g = []) ∨ (g ≠ [] ∧ g3P g = .own (0, 103) g.length ∧ g3L g = [(103, .row 1 (encGs true true g))]) := by
  by_cases h : g = []
  · exact .inl ⟨h, by simp [g3P, h], by simp [g3L, h]⟩
  · exact .inr ⟨h, by simp [g3P, h], by simp [g3L, h]⟩
theorem known_encQ (ds : List Tm) (f : Nat → Bool) (n : Nat) : known f n (encQ false ds) = true := by cases ds <;> simp [encQ, known]
theorem plains_str (T : List ByteArray) : plains (T.map PV.s) = true := by
  induction T with
  | nil => rfl
  | cons t T ih => simp only [List.map_cons, plains, plain, Bool.true_and]; exact ih
theorem str_at (T : List ByteArray) (k : Nat) (h : k < T.length) : nth (T.map PV.s) k = some (.s T[k]) := by simp [nth, h]
theorem plain_encTf : ∀ t : Tm, plain (encT false t) = true
  | .mk o n ps => by cases ps <;> simp [encT, encQ, plain, plains]
theorem plains_encTs (S : List Tm) : plains (encTs false S) = true := by
  induction S with
  | nil => rfl
  | cons t T ih => simp only [encTs, plains, plain_encTf, Bool.true_and]; exact ih
theorem encTs_snoc (S : List Tm) (x : Tm) : encTs false (S ++ [x]) = encTs false S ++ [encT false x] := by simp [encTs_map]
theorem loopGr0 (D : PV) (hKD : ∀ f n, known f n D = true) (S : List Tm) (A : List Stp) (M : List Mv) (g : Gr) (T : List ByteArray) (s i : Int) (x : ByteArray) (hT : T.length = S.length) (hS : S.length ≤ 60) : ∀ (k to : Nat), to + k = T.length →
    ∃ to' : Nat, to' ≤ T.length ∧ loopI G [1, 4, 6, 7, 8, 9, 10, 11, 12, 13, 14] [4, 8, 16, 19, 32, 33, 83, 87, 97, 103] c110l0 ⟨[(1, D), (4, .ref (0, 4) 1 0 0), (6, .own (0, 16) S.length), (7, .own (0, 19) S.length), (8, .ref (0, 8) 1 0 0), (9, .i s), (10, .own (0, 32) A.length), (11, .own (0, 33) M.length), (12, .i i), (13, .s x), (14, .i to)], (4, .box [.nils]) :: (8, .box [g3P g]) :: (16, .row 3 (encTs false S)) :: (19, .row 1 (T.map PV.s)) :: (32, .row 4 (stPs A)) :: (33, .row 2 (M.map mvP)) :: g3L g, []⟩ =
      some (.exit 4, ⟨[(1, D), (4, .ref (0, 4) 1 0 0), (6, .own (0, 16) S.length), (7, .own (0, 19) S.length), (8, .ref (0, 8) 1 0 0), (9, .i s), (10, .own (0, 32) A.length), (11, .own (0, 33) M.length), (12, .i i), (13, .s x), (14, .i to'), (57, .b false)], (4, .box [.nils]) :: (8, .box [g3P g]) :: (16, .row 3 (encTs false S)) :: (19, .row 1 (T.map PV.s)) :: (32, .row 4 (stPs A)) :: (33, .row 2 (M.map mvP)) :: g3L g, []⟩)
  | 0, to, e => by
    have hp1 := plains_str T
    have hl1 : S.length = T.length := hT.symm
    have h1 : ¬ (to : Int) < T.length := by omega
    refine ⟨to, by omega, ?_⟩
    rw [loopI_eq]
    rcases g3_two g with ⟨_, h2, h3⟩ | ⟨_, h2, h3⟩ <;> rw [h2, h3] <;> simp [hKD, r110l0, b110l0, hl1, h1, encTs_len]
  | k + 1, to, e => by
    have hp1 := plains_str T
    have hl1 : S.length = T.length := hT.symm
    have hlt : to < T.length := by omega
    have hlt2 : (to : Int) < T.length := by omega
    have hw : IntKind.i64.wrap ((to : Int) + 1) = (to : Int) + 1 := wr (by omega)
    have hat := str_at T to hlt
    generalize T[to] = y at hat
    cases hq : (y.toList == x.toList) with
    | true =>
      refine ⟨to, by omega, ?_⟩
      rw [loopI_eq]
      rcases g3_two g with ⟨_, h2, h3⟩ | ⟨_, h2, h3⟩ <;> rw [h2, h3] <;> simp [hKD, r110l0, b110l0, hl1, hlt, hlt2, hat, hp1, hq, encTs_len]
    | false =>
      obtain ⟨to', a1, hn⟩ := loopGr0 D hKD S A M g T s i x hT hS k (to + 1) (by omega)
      refine ⟨to', a1, ?_⟩
      refine Eq.trans ?_ hn
      rw [show ((to + 1 : Nat) : Int) = (to : Int) + 1 by omega, loopI_eq]
      rcases g3_two g with ⟨_, h2, h3⟩ | ⟨_, h2, h3⟩ <;> rw [h2, h3] <;> simp [hKD, r110l0, b110l0, hl1, hlt, hlt2, hat, hp1, hq, hw, encTs_len]
end Go.Am
end
section
set_option maxRecDepth 10000
set_option maxHeartbeats 16000000
set_option linter.unusedSimpArgs false
set_option linter.unusedVariables false
namespace Go.Am
open Go.Proofs Go.Sort Go.Shelf
/-- States that are found. -/
structure GrOk (ds S : List Tm) (T : List ByteArray) : Prop where
  t : T.length = S.length
  n : S.length ≤ 60
  w : ∀ x ∈ S, WfT ds.length x ∧ szT x ≤ 24
mutual
theorem va_nodes : ∀ x : Tm, VaT x → nodesT x = min 1000 (szT x)
  | .mk o n ps, h => by
    unfold VaT at h
    unfold nodesT szT
    rw [if_pos ⟨h.1, h.2.1⟩, va_nodess 1 ps (by omega) h.2.2]
    omega
theorem va_nodess : ∀ (k : Nat) (ps : List Tm), k ≤ 1000 → VaTs ps → nodesL k ps = min 1000 (k + szTs ps)
  | k, [], hk, h => by unfold nodesL szTs; omega
  | k, p :: ps, hk, h => by
    unfold VaTs at h
    have h1 := va_nodes p h.1
    have h2 := szT_pos p
    unfold nodesL szTs
    rw [if_neg (by omega), va_nodess (min 1000 (k + nodesT p)) ps (by omega) h.2]
    omega
end
theorem nodes_small {m : Int} {x : Tm} (hw : WfT m x) (h : ¬ (24 : Int) < nodesT x) : szT x ≤ 24 := by
  have := va_nodes x hw.va
  omega
theorem loopGr1 (D : PV) (hKD : ∀ f n, known f n D = true) (ds : List Tm) (A : List Stp) (hA : ∀ r ∈ A, GoodS ds.length 576 r) (hAl : A.length ≤ 400000) (g : Gr) (s : Int) : ∀ (rest done : List Stp) (S : List Tm) (T : List ByteArray) (M : List Mv), A = done ++ rest → GrOk ds S T → M.length = done.length →
    ∃ ex, loopI G [1, 4, 6, 7, 8, 9, 10, 11, 12] [4, 8, 16, 19, 32, 33, 83, 87, 97, 103] c110l1 ⟨[(1, D), (4, .ref (0, 4) 1 0 0), (6, .own (0, 16) S.length), (7, .own (0, 19) S.length), (8, .ref (0, 8) 1 0 0), (9, .i s), (10, .own (0, 32) A.length), (11, .own (0, 33) M.length), (12, .i done.length)], (4, .box [.nils]) :: (8, .box [g3P g]) :: (16, .row 3 (encTs false S)) :: (19, .row 1 (T.map PV.s)) :: (32, .row 4 (stPs A)) :: (33, .row 2 (M.map mvP)) :: g3L g, []⟩ = some ex ∧
      (ex = (.ret, ⟨[(4, .ref (0, 4) 1 0 0), (5, .b false)], (4, .box [.nils]) :: g3L g, []⟩) ∨ ∃ (S' : List Tm) (T' : List ByteArray) (M' : List Mv), GrOk ds S' T' ∧ S.length ≤ S'.length ∧ M'.length = A.length ∧ ex = (.exit 2, ⟨[(1, D), (4, .ref (0, 4) 1 0 0), (6, .own (0, 16) S'.length), (7, .own (0, 19) S'.length), (8, .ref (0, 8) 1 0 0), (9, .i s), (10, .own (0, 32) A.length), (11, .own (0, 33) M'.length), (12, .i A.length), (37, .b false)], (4, .box [.nils]) :: (8, .box [g3P g]) :: (16, .row 3 (encTs false S')) :: (19, .row 1 (T'.map PV.s)) :: (32, .row 4 (stPs A)) :: (33, .row 2 (M'.map mvP)) :: g3L g, []⟩))
  | [], done, S, T, M, e, hG, hM => by
    have e : A = done := by simpa using e
    subst e
    refine ⟨_, ?_, .inr ⟨S, T, M, hG, Nat.le_refl _, hM, rfl⟩⟩
    have hl1 : S.length = T.length := hG.t.symm
    rw [loopI_eq]
    rcases g3_two g with ⟨_, h2, h3⟩ | ⟨_, h2, h3⟩ <;> rw [h2, h3] <;> simp [hKD, r110l1, b110l1, hl1, hM, encTs_len]
  | r :: rest, done, S, T, M, e, hG, hM => by
    have hpl : A.length = done.length + (rest.length + 1) := by rw [e]; simp
    have hlt : (done.length : Int) < A.length := by omega
    have hlt2 : done.length < A.length := by omega
    have hw : IntKind.i64.wrap ((done.length : Int) + 1) = (done.length : Int) + 1 := wr (by omega)
    have hat := stP_at done r rest
    rw [← e] at hat
    obtain ⟨g1, g2, g3⟩ := hA r (by rw [e]; simp)
    obtain ⟨b, hb, ht⟩ := eqText r.2 g2.va (by omega)
    have hno := eqNodes r.2
    have hpa := plains_stPs A
    have hl1 : S.length = T.length := hG.t.symm
    have hS60 := hG.n
    have hM9 : done.length ≤ 4294967295 := by omega
    obtain ⟨to, hto, hl0⟩ := loopGr0 D hKD S A M g T s done.length b hG.t hG.n T.length 0 (by omega)
    simp only [show ((0 : Nat) : Int) = 0 from rfl] at hl0
    obtain ⟨z1, z2, z3, N3, hZ, hZ2, hN, hz3⟩ := stP_form r
    rw [hZ] at hat
    rw [hZ2] at ht hno
    rw [hl1] at hS60 hl0
    rw [hM] at hl0 ⊢
    by_cases hin : to = T.length
    · subst hin
      by_cases h60 : T.length = 60
      · refine ⟨_, ?_, .inl rfl⟩
        rw [h60] at hl0 hl1
        simp only [show ((60 : Nat) : Int) = 60 from rfl] at hl0
        rw [loopI_eq, hl1]
        rcases g3_two g with ⟨_, h2, h3⟩ | ⟨_, h2, h3⟩ <;> rw [h2, h3] at hl0 ⊢ <;> rcases hz3 with rfl | rfl <;> simp [hKD, r110l1, b110l1, hl1, h60, hlt, hlt2, hat, hpa, ht, hl0, hM, encTs_len]
      · have h60' : ¬ (T.length : Int) = 60 := by omega
        by_cases h24 : (24 : Int) < nodesT r.2
        · refine ⟨_, ?_, .inl rfl⟩
          rw [loopI_eq, hl1]
          rcases g3_two g with ⟨_, h2, h3⟩ | ⟨_, h2, h3⟩ <;> rw [h2, h3] at hl0 ⊢ <;> rcases hz3 with rfl | rfl <;> simp [hKD, r110l1, b110l1, hl1, h60, h60', hlt, hlt2, hat, hpa, ht, hl0, hno, h24, hM, encTs_len]
        · have hG' : GrOk ds (S ++ [r.2]) (T ++ [b]) := by
            refine ⟨by simp [hl1], by simp; omega, fun x hx => ?_⟩
            rcases List.mem_append.1 hx with h | h
            · exact hG.w x h
            · simp only [List.mem_singleton] at h
              subst h
              exact ⟨g2, nodes_small g2 h24⟩
          obtain ⟨ex, hn, hr⟩ := loopGr1 D hKD ds A hA hAl g s rest (done ++ [r]) (S ++ [r.2]) (T ++ [b]) (M ++ [(r.1, (T.length : Int))]) (by rw [e]; simp) hG' (by simp [hM])
          refine ⟨ex, ?_, ?_⟩
          · refine Eq.trans ?_ hn
            have hT9 : T.length ≤ 4294967295 := by omega
            rw [encTs_snoc, hZ2, loopI_eq]
            simp only [List.length_append, List.map_append, List.length_cons, List.length_nil, List.map_cons, List.map_nil, hl1]
            rcases g3_two g with ⟨_, h2, h3⟩ | ⟨_, h2, h3⟩ <;> rw [h2, h3] at hl0 ⊢ <;> rcases hz3 with rfl | rfl <;> simp [hKD, r110l1, b110l1, hl1, h60, h60', hlt, hlt2, hat, hpa, ht, hl0, hno, h24, hM, hM9, hT9, hw, mvP, encTs_len]
          · rcases hr with hr | ⟨S', T', M', q1, q2, q3, q4⟩
            · exact .inl hr
            · exact .inr ⟨S', T', M', q1, by simp at q2; omega, q3, q4⟩
    · have hin' : ¬ (to : Int) = T.length := by omega
      obtain ⟨ex, hn, hr⟩ := loopGr1 D hKD ds A hA hAl g s rest (done ++ [r]) S T (M ++ [(r.1, (to : Int))]) (by rw [e]; simp) hG (by simp [hM])
      refine ⟨ex, ?_, hr⟩
      refine Eq.trans ?_ hn
      rw [loopI_eq]
      simp only [List.length_append, List.map_append, List.length_cons, List.length_nil, List.map_cons, List.map_nil, hl1]
      rcases g3_two g with ⟨_, h2, h3⟩ | ⟨_, h2, h3⟩ <;> rw [h2, h3] at hl0 ⊢ <;> rcases hz3 with rfl | rfl <;> simp [hKD, r110l1, b110l1, hl1, hin, hin', hlt, hlt2, hat, hpa, ht, hl0, hM, hM9, hw, mvP, encTs_len]
end Go.Am
end
section
set_option maxRecDepth 10000
set_option maxHeartbeats 16000000
set_option linter.unusedSimpArgs false
set_option linter.unusedVariables false
namespace Go.Am
open Go.Proofs Go.Sort Go.Shelf
theorem loopGr2 (ds : List Tm) (hds : DsOk ds) : ∀ (k s : Nat) (S : List Tm) (T : List ByteArray) (g : Gr), s + k = 60 → s ≤ S.length → GrOk ds S T → g.length = s → (∀ l ∈ g, l.length ≤ 400000) →
    ∃ ex, loopI G [1, 4, 6, 7, 8, 9] [4, 8, 16, 19, 83, 87, 103] c110l2 ⟨[(1, encQ false ds), (4, .ref (0, 4) 1 0 0), (6, .own (0, 16) S.length), (7, .own (0, 19) S.length), (8, .ref (0, 8) 1 0 0), (9, .i s)], (4, .box [.nils]) :: (8, .box [g3P g]) :: (16, .row 3 (encTs false S)) :: (19, .row 1 (T.map PV.s)) :: g3L g, []⟩ = some ex ∧
      ((∃ L : Objs, ex = (.ret, ⟨[(4, .ref (0, 4) 1 0 0), (5, .b false)], (4, .box [.nils]) :: L, []⟩)) ∨ ∃ (S' : List Tm) (T' : List ByteArray) (g' : Gr), GrOk ds S' T' ∧ g'.length = S'.length ∧ (∀ l ∈ g', l.length ≤ 400000) ∧ ex = (.exit 0, ⟨[(1, encQ false ds), (4, .ref (0, 4) 1 0 0), (6, .own (0, 16) S'.length), (7, .own (0, 19) S'.length), (8, .ref (0, 8) 1 0 0), (9, .i S'.length), (24, .b false)], (4, .box [.nils]) :: (8, .box [g3P g']) :: (16, .row 3 (encTs false S')) :: (19, .row 1 (T'.map PV.s)) :: g3L g', []⟩))
  | k, s, S, T, g, hk, hs, hG, hg, hgl => by
    have hl1 : S.length = T.length := hG.t.symm
    have hS60 := hG.n
    by_cases hlt : s < S.length
    · obtain ⟨k, rfl⟩ : ∃ k', k = k' + 1 := ⟨k - 1, by omega⟩
      have hlt1 : (s : Int) < S.length := by omega
      obtain ⟨w1, w2⟩ := hG.w _ (List.getElem_mem hlt)
      have hst := eqSteps ds hds _ w1 w2
      have hgood := stD_good hds _ w1 w2
      have hlen := stD_len hds _ w2
      have hat : nth (encTs false S) s = some (encT false S[s]) := by simp [nth, encTs_map, hlt]
      generalize stD ds S[s] = A at hst hgood hlen
      unfold StepsAt at hst
      generalize S[s] = x at hst hat
      obtain ⟨x1, x2, x3, L3, hX, hL, hx3⟩ := encT_formF x
      rw [hX] at hst hat
      have hpS := plains_encTs S
      have hlS : (encTs false S).length = S.length := encTs_len false S
      obtain ⟨ex, h1, hr⟩ := loopGr1 (encQ false ds) (known_encQ ds) ds A hgood hlen g s A [] S T [] rfl hG rfl
      simp only [List.length_nil, List.map_nil, show ((0 : Nat) : Int) = 0 from rfl] at h1
      rcases hr with rfl | ⟨S', T', M', q1, q2, q3, rfl⟩
      · refine ⟨_, ?_, .inl ⟨g3L g, rfl⟩⟩
        generalize encTs false S = ES at *
        rw [loopI_eq]
        rcases encQ_form false ds with ⟨eD, _⟩ | ⟨FD, eD, eD1, _⟩ <;> rw [eD] at hst h1 ⊢ <;> rcases g3_two g with ⟨_, h2, h3⟩ | ⟨_, h2, h3⟩ <;> rw [h2, h3] at h1 ⊢ <;> rcases hx3 with rfl | rfl <;> simp [r110l2, b110l2, hlt, hlt1, hlS, hat, hpS, hst, h1]
      · have hS := eqSorted false M' (by omega)
        have htl := tidyL_len M'
        have hfl := fals_mvP M'
        have hw : IntKind.i64.wrap ((s : Int) + 1) = (s : Int) + 1 := wr (by omega)
        obtain ⟨ex2, hn, hr2⟩ := loopGr2 ds hds k (s + 1) S' T' (g ++ [tidyL M']) (by omega) (by omega) q1 (by simp [hg]) (fun l hl' => by
          rcases List.mem_append.1 hl' with h | h
          · exact hgl l h
          · simp only [List.mem_singleton] at h; subst h; omega)
        refine ⟨ex2, ?_, hr2⟩
        refine Eq.trans ?_ hn
        have hg9 : g.length ≤ 4294967295 := by omega
        have hgn : g3P (g ++ [tidyL M']) = .own (0, 103) (g.length + 1) := by simp [g3P]
        have hgL : g3L (g ++ [tidyL M']) = [(103, .row 1 (encGs true true g ++ [encL true true (tidyL M')]))] := by simp [g3L, encGs]
        rw [hgn, hgL, show ((s + 1 : Nat) : Int) = (s : Int) + 1 by omega]
        clear hn hr2
        generalize tidyL M' = X at *
        have hns := noShares_mv X
        simp only [encL_f] at hS
        have hl2 : S'.length = T'.length := q1.t.symm
        have hlS' : (encTs false S').length = S'.length := encTs_len false S'
        generalize encTs false S' = ES' at *
        generalize encTs false S = ES at *
        rw [loopI_eq]
        rcases encQ_form false ds with ⟨eD, _⟩ | ⟨FD, eD, eD1, _⟩ <;> rw [eD] at hst h1 ⊢ <;> rcases g3_two g with ⟨h, h2, h3⟩ | ⟨h, h2, h3⟩ <;> rw [h2, h3] at h1 ⊢ <;> rcases encL_two true true X with ⟨hT, _⟩ | hT <;> rw [hT] at hS ⊢ <;> rcases hx3 with rfl | rfl <;>
          (first | subst h | skip
           simp [r110l2, b110l2, hlt, hlt1, hlS, hlS', hat, hpS, hst, h1, hl2, hS, hfl, hg9, hw, encGs_len, hns]
           try rfl)
    · have hlS : S.length = s := by omega
      refine ⟨_, ?_, .inr ⟨S, T, g, hG, by omega, hgl, rfl⟩⟩
      have hlS2 : (encTs false S).length = S.length := encTs_len false S
      generalize encTs false S = ES at *
      rw [loopI_eq]
      subst hlS
      rw [← hl1] at *
      rcases encQ_form false ds with ⟨eD, _⟩ | ⟨FD, eD, eD1, _⟩ <;> rw [eD] <;> rcases g3_two g with ⟨_, h2, h3⟩ | ⟨_, h2, h3⟩ <;> rw [h2, h3] <;> simp [r110l2, b110l2, hlS2, hl1]
end Go.Am
end
section
set_option maxRecDepth 10000
set_option maxHeartbeats 16000000
set_option linter.unusedSimpArgs false
set_option linter.unusedVariables false
namespace Go.Am
open Go.Proofs Go.Sort Go.Shelf
theorem eqGraph3 (ds : List Tm) (hds : DsOk ds) (t : Tm) (hw : WfT ds.length t) (hz : szT t ≤ 24) : ∃ (g : Gr) (ok : Bool), g.length ≤ 60 ∧ (∀ l ∈ g, l.length ≤ 400000) ∧ callI G 110 [encT false t, encQ false ds] [] = some (.tup [encG true true g, .b ok], []) := by
  obtain ⟨b, hb, ht⟩ := eqText t hw.va (by omega)
  obtain ⟨ex, h1, hr⟩ := loopGr2 ds hds 60 0 [t] [b] [] rfl (by simp) ⟨rfl, by simp, fun x hx => by simp only [List.mem_singleton] at hx; subst hx; exact ⟨hw, hz⟩⟩ rfl (fun l hl => by cases hl)
  simp only [List.length_cons, List.length_nil, List.map_cons, List.map_nil, show ((0 : Nat) : Int) = 0 from rfl, encTs, show g3P [] = .nils from rfl, show g3L [] = [] from rfl] at h1
  obtain ⟨x1, x2, x3, L3, hX, hL, hx3⟩ := encT_formF t
  rw [hX] at ht h1 ⊢
  rcases hr with ⟨L, rfl⟩ | ⟨S', T', g', q1, q2, q3, rfl⟩
  · refine ⟨[], false, by simp, (fun l hl => by cases hl), ?_⟩
    rw [callI_eq]
    rcases encQ_form false ds with ⟨eD, _⟩ | ⟨FD, eD, eD1, _⟩ <;> rw [eD] at h1 ⊢ <;> rcases hx3 with rfl | rfl <;> simp [body1_eq _ _ (gp 110) g110, c110, a110, ht, h1]
  · refine ⟨g', true, by have := q1.n; omega, q3, ?_⟩
    rw [callI_eq]
    generalize encTs false S' = ES at *
    rcases g3_two g' with ⟨h, h2, h3⟩ | ⟨h, h2, h3⟩ <;> rw [h2, h3] at h1
    · subst h
      rcases encQ_form false ds with ⟨eD, _⟩ | ⟨FD, eD, eD1, _⟩ <;> rw [eD] at h1 ⊢ <;> rcases hx3 with rfl | rfl <;> simp [body1_eq _ _ (gp 110) g110, c110, a110, ht, h1, encGs_len]
    · have hM := encM_ne (nl := true) (u := true) h
      simp only [encG, hM]
      rcases encQ_form false ds with ⟨eD, _⟩ | ⟨FD, eD, eD1, _⟩ <;> rw [eD] at h1 ⊢ <;> rcases hx3 with rfl | rfl <;> simp [body1_eq _ _ (gp 110) g110, c110, a110, ht, h1, encGs_len]
theorem eqGraphOf (ds : List Tm) (hs : SmTs ds) (hl : ds.length ≤ 1000) (t : Tm) (ht : SmT t) : ∃ (g : Gr) (ok : Bool), g.length ≤ 60 ∧ (∀ l ∈ g, l.length ≤ 400000) ∧ callI G 94 [encT false t, encQ false ds] [] = some (.tup [encG true true g, .b ok], []) := by
  have hA := eqAsked t ht ds hs hl
  cases hq : askedT t ds with
  | false =>
    refine ⟨[], false, by simp, (fun l hl => by cases hl), ?_⟩
    rw [hq] at hA
    obtain ⟨x1, x2, x3, L3, hX, hL, hx3⟩ := encT_formF t
    rw [hX] at hA ⊢
    rw [callI_eq]
    rcases encQ_form false ds with ⟨eD, _⟩ | ⟨FD, eD, eD1, _⟩ <;> rw [eD] at hA ⊢ <;> rcases hx3 with rfl | rfl <;> simp [body1_eq _ _ (gp 94) g94, c94, a94, hA]
  | true =>
    have hq0 := hq
    unfold askedT at hq0
    simp only [Bool.and_eq_true] at hq0
    have hds := defsOk_ds hq0.1
    have hf := hq0.2
    unfold fitsT at hf
    simp only [Bool.and_eq_true, decide_eq_true_eq] at hf
    obtain ⟨v1, v2⟩ := okT_va hf.1
    obtain ⟨g, ok, g1, g2, hg⟩ := eqGraph3 ds hds t (calls_wf _ t v1 hf.2.2) v2
    refine ⟨g, ok, g1, g2, ?_⟩
    rw [hq] at hA
    obtain ⟨x1, x2, x3, L3, hX, hL, hx3⟩ := encT_formF t
    rw [hX] at hA hg ⊢
    have hns := noShares_encGs true g
    simp only [encG] at hg ⊢
    rw [callI_eq]
    rcases encQ_form false ds with ⟨eD, _⟩ | ⟨FD, eD, eD1, _⟩ <;> rw [eD] at hA hg ⊢ <;> rcases encM_two true true g with ⟨e, _⟩ | e <;> rw [e] at hg ⊢ <;> rcases hx3 with rfl | rfl <;> simp [body1_eq _ _ (gp 94) g94, c94, a94, hA, hg, encGs_len]
end Go.Am
end
section
set_option maxRecDepth 10000
set_option maxHeartbeats 16000000
set_option linter.unusedSimpArgs false
set_option linter.unusedVariables false
namespace Go.Am
open Go.Proofs Go.Sort Go.Shelf
mutual
theorem DrT.sm : ∀ t : Tm, DrT t → SmT t
  | .mk o n ps, h => by
    unfold DrT at h
    unfold SmT
    exact ⟨by omega, by omega, by omega, DrTs.sm ps h.2.2.2⟩
theorem DrTs.sm : ∀ ps : List Tm, DrTs ps → SmTs ps
  | [], _ => by unfold SmTs; trivial
  | p :: ps, h => by
    unfold DrTs at h
    unfold SmTs
    exact ⟨DrT.sm p h.1, DrTs.sm ps h.2⟩
end
theorem SmTs.app : ∀ {a b : List Tm}, SmTs a → SmTs b → SmTs (a ++ b)
  | [], b, _, h => h
  | p :: a, b, h, k => by
    unfold SmTs at h
    show SmTs (p :: (a ++ b))
    unfold SmTs
    exact ⟨h.1, SmTs.app h.2 k⟩
theorem eqTermD (o : Stack) (id : Id) (hid : id.1 < o.length) (B : List Nat) (p : Int) (c : Nat) (hr : RdrOK B p) (hc : c ≤ 3) (hp : p + 1000 ≤ 1000000000) :
    ∃ t q, p ≤ q ∧ q ≤ p + 1000 ∧ SmT t ∧ callI H 108 [.ref id 1 0 0, .i c] (setS o id (rd B p)) = some (encT true t, setS o id (rd B q)) := by
  have hne2 : ¬ id.1 = o.length := by omega
  have dcv : dcT 1 = 30 ∧ dcT 2 = 70 ∧ dcT 3 = 150 ∧ dcT 4 = 310 := by decide
  obtain ⟨k, a1, a2, c1⟩ := pickF o id hid B p 4 hr (by omega) (by omega)
  have hw : IntKind.i64.wrap (1 + k) = 1 + k := wrD (by omega)
  have good : ∃ t q', p + 1 ≤ q' ∧ q' ≤ p + 1 + 310 ∧ DrT t ∧ callI H 119 [.ref id 1 0 0, .i (1 + k), .i c, .b false] (setS o id (rd B (p + 1)) ++ [[]]) = some (encT true t, setS o id (rd B q') ++ [[]]) := by
    have hd : k = 0 ∨ k = 1 ∨ k = 2 ∨ k = 3 := by omega
    rcases hd with rfl | rfl | rfl | rfl
    · obtain ⟨t, q', e1, e2, e3, e4⟩ := goodF 1 o id hid B (p + 1) c false (hr.next (by omega) (by omega)) (by omega) hc (by omega)
      exact ⟨t, q', e1, by omega, e3, e4⟩
    · obtain ⟨t, q', e1, e2, e3, e4⟩ := goodF 2 o id hid B (p + 1) c false (hr.next (by omega) (by omega)) (by omega) hc (by omega)
      exact ⟨t, q', e1, by omega, e3, e4⟩
    · obtain ⟨t, q', e1, e2, e3, e4⟩ := goodF 3 o id hid B (p + 1) c false (hr.next (by omega) (by omega)) (by omega) hc (by omega)
      exact ⟨t, q', e1, by omega, e3, e4⟩
    · obtain ⟨t, q', e1, e2, e3, e4⟩ := goodF 4 o id hid B (p + 1) c false (hr.next (by omega) (by omega)) (by omega) hc (by omega)
      exact ⟨t, q', e1, by omega, e3, e4⟩
  obtain ⟨t, q, e1, e2, e3, e4⟩ := good
  obtain ⟨k2, b1, b2, c2⟩ := pickF o id hid B q 24 (hr.next (by omega) (by omega)) (by omega) (by omega)
  obtain ⟨to, tn, tp, rfl, ht⟩ := encT_two t
  have hsm := DrT.sm _ e3
  unfold SmT at hsm
  have h3 := e3
  unfold DrT at h3
  have hw7 : IntKind.i64.wrap (tn + 7) = tn + 7 := wrD (by omega)
  by_cases k20 : k2 = 0
  · subst k20
    refine ⟨.mk to (tn + 7) tp, q + 1, by omega, by omega, by unfold SmT; exact ⟨by omega, by omega, hsm.2.2⟩, ?_⟩
    rw [callI_eq]
    rcases ht with ⟨rfl, ht⟩ | ⟨ht, hE⟩ <;> rw [ht] at e4
    · simp [body1_eq _ _ (gpH 108) g108, c108, a108, hne2, setS_len, c1, hw, e4, c2, hw7, encT, encQ]
    · simp [body1_eq _ _ (gpH 108) g108, c108, a108, hne2, setS_len, c1, hw, e4, c2, hw7, encT, hE, encTs_len]
  by_cases k21 : k2 = 1
  · subst k21
    obtain ⟨k3, d1, d2, c3⟩ := pickF o id hid B (q + 1) 8 (hr.next (by omega) (by omega)) (by omega) (by omega)
    refine ⟨.mk k3 tn tp, q + 1 + 1, by omega, by omega, by unfold SmT; exact ⟨by omega, by omega, hsm.2.2⟩, ?_⟩
    rw [callI_eq]
    rcases ht with ⟨rfl, ht⟩ | ⟨ht, hE⟩ <;> rw [ht] at e4
    · simp [body1_eq _ _ (gpH 108) g108, c108, a108, hne2, setS_len, c1, hw, e4, c2, c3, encT, encQ]
    · simp [body1_eq _ _ (gpH 108) g108, c108, a108, hne2, setS_len, c1, hw, e4, c2, c3, encT, hE, encTs_len]
  by_cases k22 : k2 = 2
  · subst k22
    refine ⟨.mk to tn (.mk 0 0 [] :: tp), q + 1, by omega, by omega, by unfold SmT SmTs; exact ⟨by omega, by omega, by simp; omega, by unfold SmT SmTs; simp, hsm.2.2.2⟩, ?_⟩
    have hl : tp.length ≤ 2 := h3.2.2.1
    have hl9 : tp.length ≤ 4294967295 := by omega
    rw [callI_eq]
    rcases ht with ⟨rfl, ht⟩ | ⟨ht, hE⟩ <;> rw [ht] at e4
    · simp [body1_eq _ _ (gpH 108) g108, c108, a108, hne2, setS_len, c1, hw, e4, c2, encT, encQ, encTs]
    · simp [body1_eq _ _ (gpH 108) g108, c108, a108, hne2, setS_len, c1, hw, e4, c2, encT, encQ, encTs_len, hl9, Nat.add_comm]
  · refine ⟨.mk to tn tp, q + 1, by omega, by omega, by unfold SmT; exact hsm, ?_⟩
    rw [callI_eq]
    rcases ht with ⟨rfl, ht⟩ | ⟨ht, hE⟩ <;> rw [ht] at e4
    · simp [body1_eq _ _ (gpH 108) g108, c108, a108, hne2, setS_len, c1, hw, e4, c2, k20, k21, k22, encT, encQ]
    · simp [body1_eq _ _ (gpH 108) g108, c108, a108, hne2, setS_len, c1, hw, e4, c2, k20, k21, k22, encT, hE, encTs_len]
theorem termF (o : Stack) (id : Id) (hid : id.1 < o.length) (B : List Nat) (p : Int) (c : Nat) (hr : RdrOK B p) (hc : c ≤ 3) (hp : p + 1000 ≤ 1000000000) :
    ∃ t q, p ≤ q ∧ q ≤ p + 1000 ∧ SmT t ∧ callI H 108 [.ref id 1 0 0, .i c] (setS o id (rd B p) ++ [[]]) = some (encT true t, setS o id (rd B q) ++ [[]]) := by
  obtain ⟨t, q, e1, e2, e3, e4⟩ := eqTermD (o ++ [[]]) id (hidA hid) B p c hr hc hp
  exact ⟨t, q, e1, e2, e3, frC hid e4⟩
/-! definitions -/
def dfP (n : Nat) (ds : List Tm) : PV := if ds = [] then .nils else .own (n, 22) ds.length
def dfL (ds : List Tm) : Objs := if ds = [] then [] else [(22, .row 3 (encTs true ds))]
theorem df_two (n : Nat) (ds : List Tm) : (ds = [] ∧ dfP n ds = .nils ∧ dfL ds = []) ∨ (ds ≠ [] ∧ dfP n ds = .own (n, 22) ds.length ∧ dfL ds = [(22, .row 3 (encTs true ds))]) := by
  by_cases h : ds = []
  · exact .inl ⟨h, by simp [dfP, h], by simp [dfL, h]⟩
  · exact .inr ⟨h, by simp [dfP, h], by simp [dfL, h]⟩
theorem encTs_snocT (u : Bool) (S : List Tm) (x : Tm) : encTs u (S ++ [x]) = encTs u S ++ [encT u x] := by simp [encTs_map]
theorem loopDf (o : Stack) (id : Id) (hid : id.1 < o.length) (B : List Nat) (N : Nat) (hN : N ≤ 3) : ∀ (k s : Nat) (p : Int) (ds : List Tm), s + k = N → ds.length = s → SmTs ds → RdrOK B p → p + 400 * k ≤ 1000000000 →
    ∃ (ds' : List Tm) (q : Int), p ≤ q ∧ q ≤ p + 400 * k ∧ ds'.length = N ∧ SmTs ds' ∧
      loopI H [0, 3, 4, 5] [8, 22] c107l0 ⟨[(0, .ref id 1 0 0), (3, .i N), (4, dfP o.length ds), (5, .i s)], dfL ds, setS o id (rd B p)⟩ =
        some (.exit 0, ⟨[(0, .ref id 1 0 0), (3, .i N), (4, dfP o.length ds'), (5, .i N), (11, .b false)], dfL ds', setS o id (rd B q)⟩)
  | 0, s, p, ds, hs, hg, hl, hr, hp => by
    have : s = N := by omega
    subst this
    refine ⟨ds, p, by omega, by omega, hg, hl, ?_⟩
    have hne2 : ¬ id.1 = o.length := by omega
    rw [loopI_eq]
    rcases df_two o.length ds with ⟨h, h1, h2⟩ | ⟨h, h1, h2⟩ <;> rw [h1, h2] <;>
      simp [r107l0, b107l0, setS_len, hne2]
  | k + 1, s, p, ds, hs, hg, hl, hr, hp => by
    have hne2 : ¬ id.1 = o.length := by omega
    have dcv : dcT 1 = 30 ∧ dcT 2 = 70 ∧ dcT 3 = 150 ∧ dcT 4 = 310 := by decide
    have hkk : ((k + 1 : Nat) : Int) = (k : Int) + 1 := by omega
    rw [hkk] at hp ⊢
    have hlt : (s : Int) < N := by omega
    have hlt2 : s < N := by omega
    have hw : IntKind.i64.wrap ((s : Int) + 1) = (s : Int) + 1 := wrD (by omega)
    obtain ⟨a, a1, a2, ca⟩ := pickF o id hid B p 3 hr (by omega) (by omega)
    have hwa : IntKind.i64.wrap (1 + a) = 1 + a := wrD (by omega)
    have good : ∃ t q', p + 1 ≤ q' ∧ q' ≤ p + 1 + 310 ∧ DrT t ∧ callI H 119 [.ref id 1 0 0, .i (1 + a), .i N, .b false] (setS o id (rd B (p + 1)) ++ [[]]) = some (encT true t, setS o id (rd B q') ++ [[]]) := by
      have hd : a = 0 ∨ a = 1 ∨ a = 2 := by omega
      rcases hd with rfl | rfl | rfl
      · obtain ⟨t, q', e1, e2, e3, e4⟩ := goodF 1 o id hid B (p + 1) N false (hr.next (by omega) (by omega)) (by omega) hN (by omega)
        exact ⟨t, q', e1, by omega, e3, e4⟩
      · obtain ⟨t, q', e1, e2, e3, e4⟩ := goodF 2 o id hid B (p + 1) N false (hr.next (by omega) (by omega)) (by omega) hN (by omega)
        exact ⟨t, q', e1, by omega, e3, e4⟩
      · obtain ⟨t, q', e1, e2, e3, e4⟩ := goodF 3 o id hid B (p + 1) N false (hr.next (by omega) (by omega)) (by omega) hN (by omega)
        exact ⟨t, q', e1, by omega, e3, e4⟩
    obtain ⟨t, q1, e1, e2, e3, e4⟩ := good
    have hsm := DrT.sm t e3
    obtain ⟨ds', q, f1, f2, f3, f4, hn⟩ := loopDf o id hid B N hN k (s + 1) q1 (ds ++ [t]) (by omega) (by simp [hg]) (SmTs.app hl (by unfold SmTs SmTs; exact ⟨hsm, trivial⟩)) (hr.next (by omega) (by omega)) (by omega)
    refine ⟨ds', q, by omega, by omega, f3, f4, ?_⟩
    refine Eq.trans ?_ hn
    have hss : ((s + 1 : Nat) : Int) = (s : Int) + 1 := by omega
    have hd9 : ds.length ≤ 4294967295 := by omega
    have hgn : dfP o.length (ds ++ [t]) = .own (o.length, 22) (ds.length + 1) := by simp [dfP]
    have hgl : dfL (ds ++ [t]) = [(22, .row 3 (encTs true ds ++ [encT true t]))] := by simp [dfL, encTs_snocT]
    rw [hss, hgn, hgl]
    clear hn hss
    rw [loopI_eq]
    obtain ⟨to, tn, tp, rfl, ht⟩ := encT_two t
    rcases df_two o.length ds with ⟨h, h1, h2⟩ | ⟨h, h1, h2⟩ <;> rw [h1, h2] <;> rcases ht with ⟨rfl, ht⟩ | ⟨ht, hE⟩ <;> rw [ht] at e4 ⊢ <;>
      (first | subst h | skip
       simp [r107l0, b107l0, setS_len, hne2, hlt, hlt2, hw, ca, hwa, e4, hd9, encTs_len, encTs]
       try rfl)
theorem SmTs.set : ∀ {ds : List Tm} {x : Tm} (i : Nat), SmTs ds → SmT x → SmTs (ds.set i x)
  | [], x, i, h, k => by simpa using h
  | p :: ps, x, 0, h, k => by
    unfold SmTs at h
    show SmTs (x :: ps)
    unfold SmTs
    exact ⟨k, h.2⟩
  | p :: ps, x, i + 1, h, k => by
    unfold SmTs at h
    show SmTs (p :: ps.set i x)
    unfold SmTs
    exact ⟨h.1, SmTs.set i h.2 k⟩
theorem encTs_set (u : Bool) (ds : List Tm) (i : Nat) (x : Tm) : (encTs u ds).set i (encT u x) = encTs u (ds.set i x) := by simp [encTs_map, List.map_set]
theorem eqDefs (o : Stack) (id : Id) (hid : id.1 < o.length) (B : List Nat) (p : Int) (hr : RdrOK B p) (hp : p + 2000 ≤ 1000000000) :
    ∃ ds q, p ≤ q ∧ q ≤ p + 2000 ∧ SmTs ds ∧ ds.length ≤ 3 ∧ callI H 107 [.ref id 1 0 0] (setS o id (rd B p)) = some (encQ true ds, setS o id (rd B q)) := by
  have hne2 : ¬ id.1 = o.length := by omega
  obtain ⟨n, a1, a2, c1⟩ := pickF o id hid B p 4 hr (by omega) (by omega)
  obtain ⟨N, hN⟩ : ∃ N : Nat, (N : Int) = n := ⟨n.toNat, by omega⟩
  subst hN
  obtain ⟨ds, q, f1, f2, f3, f4, hl⟩ := loopDf o id hid B N (by omega) N 0 (p + 1) [] (by omega) rfl (by unfold SmTs; trivial) (hr.next (by omega) (by omega)) (by omega)
  simp only [show dfP o.length [] = .nils from rfl, show dfL [] = [] from rfl, show ((0 : Nat) : Int) = 0 from rfl] at hl
  obtain ⟨k, b1, b2, c2⟩ := pickF o id hid B q 20 (hr.next (by omega) (by omega)) (by omega) (by omega)
  by_cases hN0 : N = 0
  · subst hN0
    obtain rfl : ds = [] := List.length_eq_zero_iff.1 f3
    refine ⟨[], q, by omega, by omega, f4, by simp, ?_⟩
    simp only [show dfP o.length [] = .nils from rfl, show dfL [] = [] from rfl, show ((0 : Nat) : Int) = 0 from rfl] at hl c1
    rw [callI_eq]
    simp [body1_eq _ _ (gpH 107) g107, c107, a107, hne2, setS_len, c1, hl, encQ]
  · have hpos : (0 : Int) < N := by omega
    have hpos2 : 0 < N := by omega
    have hne : ds ≠ [] := by intro e; subst e; simp at f3; omega
    rcases df_two o.length ds with ⟨h, h1, h2⟩ | ⟨h, h1, h2⟩
    · exact absurd h hne
    rw [h1, h2] at hl
    by_cases k0 : k = 0
    · subst k0
      obtain ⟨j, d1, d2, c3⟩ := pickF o id hid B (q + 1) N (hr.next (by omega) (by omega)) (by omega) (by omega)
      have hw : IntKind.i64.wrap ((N : Int) + 1) = (N : Int) + 1 := wrD (by omega)
      obtain ⟨m, m1, m2, c4⟩ := pickF o id hid B (q + 1 + 1) (N + 1) (hr.next (by omega) (by omega)) (by omega) (by omega)
      refine ⟨ds.set j.toNat (.mk 5 m []), q + 1 + 1 + 1, by omega, by omega, SmTs.set _ f4 (by unfold SmT SmTs; exact ⟨by omega, by omega, by simp, trivial⟩), by simp; omega, ?_⟩
      have hne' : ds.set j.toNat (.mk 5 m []) ≠ [] := by simpa using hne
      rw [encQ_c true hne', ← encTs_set]
      have hlt : j.toNat < ds.length := by omega
      have hlt2 : j < ds.length := by omega
      obtain ⟨x1, x2, x3, hX, hx3⟩ := encT_form true ds[j.toNat]
      have hat : nth (encTs true ds) j.toNat = some (.agg [.i x1, .i x2, x3]) := by rw [← hX]; simp [nth, encTs_map, hlt]
      have hln := encTs_len true ds
      generalize encTs true ds = E at *
      subst f3
      rw [callI_eq]
      rcases hx3 with rfl | ⟨L, rfl⟩ <;> simp [body1_eq _ _ (gpH 107) g107, c107, a107, hne2, setS_len, c1, hl, hpos, hpos2, c2, c3, c4, hw, hln, hlt, hlt2, d1, hat, encT, encQ, unAgg]
    · refine ⟨ds, q + 1, by omega, by omega, f4, by omega, ?_⟩
      rw [encQ_c true hne]
      subst f3
      rw [callI_eq]
      simp [body1_eq _ _ (gpH 107) g107, c107, a107, hne2, setS_len, c1, hl, hpos, hpos2, c2, k0, encTs_len]
theorem defsF (o : Stack) (id : Id) (hid : id.1 < o.length) (B : List Nat) (p : Int) (hr : RdrOK B p) (hp : p + 2000 ≤ 1000000000) :
    ∃ ds q, p ≤ q ∧ q ≤ p + 2000 ∧ SmTs ds ∧ ds.length ≤ 3 ∧ callI H 107 [.ref id 1 0 0] (setS o id (rd B p) ++ [[]]) = some (encQ true ds, setS o id (rd B q) ++ [[]]) := by
  obtain ⟨t, q, e1, e2, e3, e4, e5⟩ := eqDefs (o ++ [[]]) id (hidA hid) B p hr hp
  exact ⟨t, q, e1, e2, e3, e4, frC hid e5⟩
end Go.Am
end
section
set_option maxRecDepth 10000
set_option maxHeartbeats 16000000
set_option linter.unusedSimpArgs false
set_option linter.unusedVariables false
namespace Go.Am
open Go.Proofs Go.Sort Go.Shelf
theorem tidyL_le (l : List Mv) : (tidyL l).length ≤ l.length := by
  have h : (srtM l).length = l.length := by simp [srtM]
  unfold tidyL
  cases hs : srtM l with
  | nil => simp [dd]
  | cons x r =>
    rw [hs] at h
    have := ddup_len x r
    simp only [dd, List.length_cons] at h ⊢
    omega
theorem loopWi1 (o : Stack) (id : Id) (hid : id.1 < o.length) (B : List Nat) (N : Nat) (few : Bool) (hN : 1 ≤ N) (hN2 : N ≤ 100) : ∀ (k s : Nat) (p : Int) (g : Gr), s + k = N → g.length = s → (∀ l ∈ g, l.length ≤ 3) → RdrOK B p → p + 13 * k ≤ 1000000000 →
    ∃ (g' : Gr) (q : Int), p ≤ q ∧ q ≤ p + 13 * k ∧ g'.length = N ∧ (∀ l ∈ g', l.length ≤ 3) ∧
      loopI H [0, 4, 5, 6, 7, 8] [4, 5, 51] c43l1 ⟨[(0, .ref id 1 0 0), (4, .ref (o.length, 4) 1 0 0), (5, .ref (o.length, 5) 1 0 0), (6, .i N), (7, .b few), (8, .i s)], (4, .box [.nils]) :: (5, .box [gwP o.length g]) :: gwL g, setS o id (rd B p)⟩ =
        some (.exit 0, ⟨[(0, .ref id 1 0 0), (4, .ref (o.length, 4) 1 0 0), (5, .ref (o.length, 5) 1 0 0), (6, .i N), (7, .b few), (8, .i N), (22, .b false)], (4, .box [.nils]) :: (5, .box [gwP o.length g']) :: gwL g', setS o id (rd B q)⟩)
  | 0, s, p, g, hs, hg, hl, hr, hp => by
    have : s = N := by omega
    subst this
    refine ⟨g, p, by omega, by omega, hg, hl, ?_⟩
    have hne2 : ¬ id.1 = o.length := by omega
    rw [loopI_eq]
    rcases gw_two o.length g with ⟨h, h1, h2⟩ | ⟨h, h1, h2⟩ <;> rw [h1, h2] <;>
      simp [r43l1, b43l1, setS_len, hne2]
  | k + 1, s, p, g, hs, hg, hl, hr, hp => by
    have hne2 : ¬ id.1 = o.length := by omega
    have hkk : ((k + 1 : Nat) : Int) = (k : Int) + 1 := by omega
    rw [hkk] at hp ⊢
    have hlt : (s : Int) < N := by omega
    have hw : IntKind.i64.wrap ((s : Int) + 1) = (s : Int) + 1 := wrD (by omega)
    obtain ⟨a, a1, a2, ca⟩ := pickF o id hid B p 4 hr (by omega) (by omega)
    have haN : ((a.toNat : Nat) : Int) = a := by omega
    obtain ⟨l', q1, e1, e2, e3, hi⟩ := loopWi0 o id hid B N s few g (by omega) (by omega) a.toNat (p + 1) [] (hr.next (by omega) (by omega)) (by omega) (by simp; omega)
    rw [haN] at hi e2
    simp only [List.map_nil, List.length_nil] at hi e3
    have hS := hSorted l' (by omega)
    have htl := tidyL_le l'
    have hfl := fals_mvP l'
    obtain ⟨g', q, f1, f2, f3, f4, hn⟩ := loopWi1 o id hid B N few hN hN2 k (s + 1) q1 (g ++ [tidyL l']) (by omega) (by simp [hg]) (fun l hl' => by
      rcases List.mem_append.1 hl' with h | h
      · exact hl l h
      · simp at h; subst h; omega) (hr.next (by omega) (by omega)) (by omega)
    refine ⟨g', q, by omega, by omega, f3, f4, ?_⟩
    refine Eq.trans ?_ hn
    have hss : ((s + 1 : Nat) : Int) = (s : Int) + 1 := by omega
    rw [hss]
    have hg9 : g.length ≤ 4294967295 := by omega
    have hgn : gwP o.length (g ++ [tidyL l']) = .own (o.length, 51) (g.length + 1) := by simp [gwP]
    have hgl : gwL (g ++ [tidyL l']) = [(51, .row 1 (encGs true true g ++ [encL true true (tidyL l')]))] := by simp [gwL, encGs]
    rw [hgn, hgl]
    clear hn hss
    generalize tidyL l' = T at *
    rw [loopI_eq]
    rcases gw_two o.length g with ⟨h, h1, h2⟩ | ⟨h, h1, h2⟩ <;> rw [h1, h2] at hi ⊢ <;> rcases encL_two true true T with ⟨hT, _⟩ | hT <;> rw [hT] at hS ⊢ <;>
      (first | subst h | skip
       simp [r43l1, b43l1, setS_len, hne2, hlt, hw, ca, hi, hS, hfl, hg9, encGs_len, noShares_mv]
       try rfl)
end Go.Am
end
section
set_option maxRecDepth 10000
set_option maxHeartbeats 16000000
set_option linter.unusedSimpArgs false
set_option linter.unusedVariables false
namespace Go.Am
open Go.Proofs Go.Sort Go.Shelf
/-- A small graph. -/
def TinyG (g : Gr) : Prop := g.length ≤ 100 ∧ ∀ l ∈ g, l.length ≤ 100
theorem TinyG.small {g : Gr} (h : TinyG g) : SmallG g := ⟨by have := h.1; omega, fun l hl => by have := h.2 l hl; omega⟩
theorem eqWild (o : Stack) (id : Id) (hid : id.1 < o.length) (B : List Nat) (p : Int) (most : Nat) (hm : 1 ≤ most) (hm2 : most ≤ 90) (hr : RdrOK B p) (hp : p + 2000 ≤ 1000000000) :
    ∃ g q, p ≤ q ∧ q ≤ p + 2000 ∧ TinyG g ∧ callI H 43 [.ref id 1 0 0, .i most] (setS o id (rd B p)) = some (encG true true g, setS o id (rd B q)) := by
  have hne2 : ¬ id.1 = o.length := by omega
  obtain ⟨k1, a1, a2, c1⟩ := pickF o id hid B p most hr (by omega) (by omega)
  obtain ⟨k2, b1, b2, c2⟩ := pickF o id hid B (p + 1) 2 (hr.next (by omega) (by omega)) (by omega) (by omega)
  have hw : IntKind.i64.wrap (1 + k1) = 1 + k1 := wrD (by omega)
  obtain ⟨N, hN⟩ : ∃ N : Nat, (N : Int) = 1 + k1 := ⟨(1 + k1).toNat, by omega⟩
  have hN1 : 1 ≤ N := by omega
  have hN2 : N ≤ 100 := by omega
  obtain ⟨g, q1, e1, e2, e3, e4, hl⟩ := loopWi1 o id hid B N (decide (k2 = 0)) hN1 hN2 N 0 (p + 1 + 1) [] (by omega) rfl (by simp) (hr.next (by omega) (by omega)) (by omega)
  obtain ⟨k3, d1, d2, c3⟩ := pickF o id hid B q1 30 (hr.next (by omega) (by omega)) (by omega) (by omega)
  simp only [show ((0 : Nat) : Int) = 0 from rfl, hN, show gwP o.length [] = .nils from rfl, show gwL [] = [] from rfl] at hl
  obtain ⟨r0, g, rfl⟩ : ∃ r0 r, g = r0 :: r := by
    cases g with
    | nil => simp at e3; omega
    | cons r0 r => exact ⟨r0, r, rfl⟩
  have h1 : gwP o.length (r0 :: g) = .own (o.length, 51) (g.length + 1) := by simp [gwP]
  have h2 : gwL (r0 :: g) = [(51, .row 1 (encL true true r0 :: encGs true true g))] := by simp [gwL, encGs]
  rw [h1, h2] at hl
  have e30 := e4 r0 List.mem_cons_self
  have hns := noShares_mv r0
  by_cases k30 : k3 = 0
  · subst k30
    refine ⟨(r0 ++ [(9, 0)]) :: g, q1 + 1, by omega, by omega, ⟨by simp at e3 ⊢; omega, fun l hl' => ?_⟩, ?_⟩
    · rcases List.mem_cons.1 hl' with rfl | h
      · simp; omega
      · have := e4 l (List.mem_cons_of_mem _ h); omega
    · rw [callI_eq]
      rcases encL_two true true r0 with ⟨hT, h0⟩ | hT
      · subst h0
        rw [hT] at hl
        simp [body1_eq _ _ (gpH 43) g43, c43, a43, setS_len, hne2, c1, c2, hw, hl, c3, encGs_len, unAgg, mvP]
      · have hr9 : r0.length ≤ 4294967295 := by omega
        rw [hT] at hl
        simp [body1_eq _ _ (gpH 43) g43, c43, a43, setS_len, hne2, c1, c2, hw, hl, c3, encGs_len, unAgg, hr9, encL_ne, mvP]
  by_cases k31 : k3 = 1
  · subst k31
    refine ⟨(r0 ++ [(0, 1 + k1)]) :: g, q1 + 1, by omega, by omega, ⟨by simp at e3 ⊢; omega, fun l hl' => ?_⟩, ?_⟩
    · rcases List.mem_cons.1 hl' with rfl | h
      · simp; omega
      · have := e4 l (List.mem_cons_of_mem _ h); omega
    · rw [callI_eq]
      rcases encL_two true true r0 with ⟨hT, h0⟩ | hT
      · subst h0
        rw [hT] at hl
        simp [body1_eq _ _ (gpH 43) g43, c43, a43, setS_len, hne2, c1, c2, hw, hl, c3, encGs_len, unAgg, mvP]
      · have hr9 : r0.length ≤ 4294967295 := by omega
        rw [hT] at hl
        simp [body1_eq _ _ (gpH 43) g43, c43, a43, setS_len, hne2, c1, c2, hw, hl, c3, encGs_len, unAgg, hr9, encL_ne, mvP]
  by_cases k32 : k3 = 2
  · subst k32
    refine ⟨[], q1 + 1, by omega, by omega, ⟨by simp, by simp⟩, ?_⟩
    rw [callI_eq]
    simp [body1_eq _ _ (gpH 43) g43, c43, a43, setS_len, hne2, c1, c2, hw, hl, c3]
  · refine ⟨r0 :: g, q1 + 1, by omega, by omega, ⟨by omega, fun l hl' => by have := e4 l hl'; omega⟩, ?_⟩
    rw [callI_eq]
    simp [body1_eq _ _ (gpH 43) g43, c43, a43, setS_len, hne2, c1, c2, hw, hl, c3, k30, k31, k32, encGs_len]
theorem wildF (o : Stack) (id : Id) (hid : id.1 < o.length) (B : List Nat) (p : Int) (most : Nat) (hm : 1 ≤ most) (hm2 : most ≤ 90) (hr : RdrOK B p) (hp : p + 2000 ≤ 1000000000) :
    ∃ g q, p ≤ q ∧ q ≤ p + 2000 ∧ TinyG g ∧ callI H 43 [.ref id 1 0 0, .i most] (setS o id (rd B p) ++ [[]]) = some (encG true true g, setS o id (rd B q) ++ [[]]) := by
  obtain ⟨g, q, h1, h2, h3, h4⟩ := eqWild (o ++ [[]]) id (hidA hid) B p most hm hm2 hr hp
  exact ⟨g, q, h1, h2, h3, frC hid h4⟩
end Go.Am
end
section
set_option maxRecDepth 10000
set_option maxHeartbeats 16000000
set_option linter.unusedSimpArgs false
set_option linter.unusedVariables false
namespace Go.Am
open Go.Proofs Go.Sort Go.Shelf
theorem hGraphOf (ds : List Tm) (hs : SmTs ds) (hl : ds.length ≤ 1000) (t : Tm) (ht : SmT t) : ∃ (g : Gr) (ok : Bool), SmallG g ∧ callI H 94 [encT false t, encQ false ds] [] = some (.tup [encG true true g, .b ok], []) := by
  obtain ⟨g, ok, h1, h2, h⟩ := eqGraphOf ds hs hl t ht
  refine ⟨g, ok, ⟨by omega, fun l hl => by have := h2 l hl; omega⟩, ?_⟩
  rw [callI_prim' (p := viaP G 94 id) rfl]
  simpa only [viaP, List.map_cons, List.map_nil, id] using h
theorem encQ_two (ds : List Tm) : (ds = [] ∧ encQ true ds = .nils ∧ encQ false ds = .nils) ∨ (ds ≠ [] ∧ encQ true ds = .sl true 3 (encTs true ds) ∧ encQ false ds = .sl false 3 (encTs false ds)) := by
  cases ds with
  | nil => exact .inl ⟨rfl, rfl, rfl⟩
  | cons p ps => exact .inr ⟨by simp, by simp [encQ, encTs], by simp [encQ, encTs]⟩
theorem eqCalled (o : Stack) (id : Id) (hid : id.1 < o.length) (B : List Nat) (p : Int) (hr : RdrOK B p) (hp : p + 4000 ≤ 1000000000) :
    ∃ t ds q, p ≤ q ∧ q ≤ p + 4000 ∧ SmT t ∧ SmTs ds ∧ ds.length ≤ 3 ∧ callI H 93 [.ref id 1 0 0] (setS o id (rd B p)) = some (.tup [encT true t, encQ true ds], setS o id (rd B q)) := by
  have hne2 : ¬ id.1 = o.length := by omega
  obtain ⟨ds, q1, a1, a2, a3, a4, a5⟩ := defsF o id hid B p hr (by omega)
  obtain ⟨t, q2, b1, b2, b3, b4⟩ := termF o id hid B q1 ds.length (hr.next (by omega) (by omega)) a4 (by omega)
  obtain ⟨to, tn, tp, rfl, ht⟩ := encT_two t
  rcases encQ_two ds with ⟨rfl, d1, _⟩ | ⟨hd, d1, _⟩
  · refine ⟨.mk to tn tp, [], q2, by omega, by omega, b3, a3, by simp, ?_⟩
    rw [d1] at a5 ⊢
    simp only [List.length_nil, show ((0 : Nat) : Int) = 0 from rfl] at b4
    rw [callI_eq]
    rcases ht with ⟨rfl, ht⟩ | ⟨ht, hE⟩ <;> rw [ht] at b4 ⊢ <;> simp [body1_eq _ _ (gpH 93) g93, c93, a93, hne2, setS_len, a5, b4, encTs_len]
  · have hl := encTs_len true ds
    have hpos : (0 : Int) < ds.length := by
      have : ds.length ≠ 0 := fun e => hd (List.length_eq_zero_iff.1 e)
      omega
    have hpos2 : 0 < ds.length := by omega
    obtain ⟨k, c1, c2, c3⟩ := pickF o id hid B q2 3 (hr.next (by omega) (by omega)) (by omega) (by omega)
    rw [d1] at a5
    by_cases hk : k = 0
    · subst hk
      obtain ⟨j, e1, e2, e3⟩ := pickF o id hid B (q2 + 1) ds.length (hr.next (by omega) (by omega)) (by omega) (by omega)
      refine ⟨.mk 5 j [], ds, q2 + 1 + 1, by omega, by omega, by unfold SmT SmTs; exact ⟨by omega, by omega, by simp, trivial⟩, a3, a4, ?_⟩
      rw [d1]
      generalize encTs true ds = E at *
      generalize ds.length = n at *
      subst hl
      rw [callI_eq]
      rcases ht with ⟨rfl, ht⟩ | ⟨ht, hE⟩ <;> rw [ht] at b4 <;> simp [body1_eq _ _ (gpH 93) g93, c93, a93, hne2, setS_len, a5, b4, encTs_len, hpos, hpos2, c3, e3, encT, encQ]
    · refine ⟨.mk to tn tp, ds, q2 + 1, by omega, by omega, b3, a3, a4, ?_⟩
      rw [d1]
      generalize encTs true ds = E at *
      generalize ds.length = n at *
      subst hl
      rw [callI_eq]
      rcases ht with ⟨rfl, ht⟩ | ⟨ht, hE⟩ <;> rw [ht] at b4 ⊢ <;> simp [body1_eq _ _ (gpH 93) g93, c93, a93, hne2, setS_len, a5, b4, encTs_len, hpos, hpos2, c3, hk]
theorem calledF (o : Stack) (id : Id) (hid : id.1 < o.length) (B : List Nat) (p : Int) (hr : RdrOK B p) (hp : p + 4000 ≤ 1000000000) :
    ∃ t ds q, p ≤ q ∧ q ≤ p + 4000 ∧ SmT t ∧ SmTs ds ∧ ds.length ≤ 3 ∧ callI H 93 [.ref id 1 0 0] (setS o id (rd B p) ++ [[]]) = some (.tup [encT true t, encQ true ds], setS o id (rd B q) ++ [[]]) := by
  obtain ⟨t, ds, q, h1, h2, h3, h4, h5, h6⟩ := eqCalled (o ++ [[]]) id (hidA hid) B p hr hp
  exact ⟨t, ds, q, h1, h2, h3, h4, h5, frC hid h6⟩
theorem eqDrawG (o : Stack) (id : Id) (hid : id.1 < o.length) (B : List Nat) (p : Int) (hr : RdrOK B p) (hp : p + 10000 ≤ 1000000000) :
    ∃ g q, p ≤ q ∧ q ≤ p + 10000 ∧ SmallG g ∧ callI H 52 [.ref id 1 0 0] (setS o id (rd B p)) = some (encG true true g, setS o id (rd B q)) := by
  have hne2 : ¬ id.1 = o.length := by omega
  obtain ⟨k, a1, a2, c1⟩ := pickF o id hid B p 2 hr (by omega) (by omega)
  by_cases hk : k = 0
  · subst hk
    obtain ⟨t, ds, q1, b1, b2, b3, b4, b5, b6⟩ := calledF o id hid B (p + 1) (hr.next (by omega) (by omega)) (by omega)
    obtain ⟨g, ok, sg, hG⟩ := hGraphOf ds b4 (by omega) t b3
    obtain ⟨g2, q2, w1, w2, w3, w4⟩ := wildF o id hid B q1 6 (by omega) (by omega) (hr.next (by omega) (by omega)) (by omega)
    simp only [show ((6 : Nat) : Int) = 6 from rfl] at w4
    have hns := noShares_encGs true g
    have hft := fal_encT t
    have hfq := fal_encQ ds
    obtain ⟨to, tn, tp, rfl, ht⟩ := encT_two t
    cases ok with
    | true =>
      refine ⟨g, q1, by omega, by omega, sg, ?_⟩
      simp only [encG] at hG ⊢
      rw [callI_eq]
      rcases encQ_two ds with ⟨rfl, d1, d2⟩ | ⟨hd, d1, d2⟩ <;> rw [d1] at b6 hfq <;> rw [d2] at hG hfq <;> rcases ht with ⟨rfl, ht⟩ | ⟨ht, hE⟩ <;> rw [ht] at b6 hft <;> simp only [fal, fals] at hft hfq <;> rw [← hft] at hG <;> rcases encM_two true true g with ⟨e, _⟩ | e <;> rw [e] at hG ⊢ <;>
        (try (simp only [PV.sl.injEq, true_and] at hfq; rw [← hfq] at hG)
         simp [body1_eq _ _ (gpH 52) g52, c52, a52, hne2, setS_len, c1, b6, hG, encTs_len, hns, encGs_len])
    | false =>
      refine ⟨g2, q2, by omega, by omega, w3.small, ?_⟩
      have hns2 := noShares_encGs true g2
      simp only [encG] at hG w4 ⊢
      rw [callI_eq]
      rcases encQ_two ds with ⟨rfl, d1, d2⟩ | ⟨hd, d1, d2⟩ <;> rw [d1] at b6 hfq <;> rw [d2] at hG hfq <;> rcases ht with ⟨rfl, ht⟩ | ⟨ht, hE⟩ <;> rw [ht] at b6 hft <;> simp only [fal, fals] at hft hfq <;> rw [← hft] at hG <;> rcases encM_two true true g with ⟨e, _⟩ | e <;> rw [e] at hG <;> rcases encM_two true true g2 with ⟨e', _⟩ | e' <;> rw [e'] at w4 ⊢ <;>
        (try (simp only [PV.sl.injEq, true_and] at hfq; rw [← hfq] at hG)
         simp [body1_eq _ _ (gpH 52) g52, c52, a52, hne2, setS_len, c1, b6, hG, w4, encTs_len, hns, hns2, encGs_len])
  · obtain ⟨g2, q2, w1, w2, w3, w4⟩ := wildF o id hid B (p + 1) 6 (by omega) (by omega) (hr.next (by omega) (by omega)) (by omega)
    simp only [show ((6 : Nat) : Int) = 6 from rfl] at w4
    refine ⟨g2, q2, by omega, by omega, w3.small, ?_⟩
    simp only [encG] at w4 ⊢
    rw [callI_eq]
    rcases encM_two true true g2 with ⟨e', _⟩ | e' <;> rw [e'] at w4 ⊢ <;> simp [body1_eq _ _ (gpH 52) g52, c52, a52, hne2, setS_len, c1, hk, w4, encGs_len]
end Go.Am
end
section
set_option maxRecDepth 10000
set_option maxHeartbeats 16000000
set_option linter.unusedSimpArgs false
set_option linter.unusedVariables false
namespace Go.Am
open Go.Proofs Go.Sort Go.Shelf
theorem eqDrawGraphHide (B : List Nat) (hB : B.length ≤ 9223372036854775807) (hb : ∀ b ∈ B, b < 256) : ∃ g n, SmallG g ∧ callI H 21 [.sl false 1 (byVs B)] [] = some (.tup [encG true true g, .i n], []) := by
  obtain ⟨B', h1, h2, h3⟩ := eqOpen B hB
  have hr : RdrOK B' 0 := ⟨h1, fun b hb' => hb b (h2 b hb'), by omega, by omega⟩
  obtain ⟨g, q1, e1, e2, sg, hg⟩ := eqDrawG [[(2, .box [.nils])] ++ (8, rd B' 0) :: []] (0, 8) (by simp) B' 0 hr (by omega)
  have es : ∀ (R : OB) (L : Objs), setS [[(2, .box [.nils])] ++ (8, R) :: L] (0, 8) = fun R' => [[(2, .box [.nils])] ++ (8, R') :: L] := fun _ _ => rfl
  simp only [es] at hg
  simp only [rd, List.cons_append, List.nil_append] at hg
  have hpk : ∀ (X : PV) (L : Objs), ∃ n, callI H 53 [.ref (0, 8) 1 0 0, .i 5] [(2, .box [.nils]) :: (5, .box [X]) :: (8, rd B' q1) :: L] = some (.i n, [(2, .box [.nils]) :: (5, .box [X]) :: (8, rd B' (q1 + 1)) :: L]) := by
    intro X L
    obtain ⟨n, f1, f2, hh⟩ := eqPick [[(2, .box [.nils]), (5, .box [X])] ++ (8, rd B' q1) :: L] (0, 8) (by simp) B' q1 5 (hr.next (by omega) (by omega)) (by omega) (by omega)
    have es2 : ∀ (R : OB) (L : Objs), setS [[(2, .box [.nils]), (5, .box [X])] ++ (8, R) :: L] (0, 8) = fun R' => [[(2, .box [.nils]), (5, .box [X])] ++ (8, R') :: L] := fun _ _ => rfl
    simp only [es2] at hh
    exact ⟨n, hh⟩
  rcases encM_two true true g with ⟨e, e0⟩ | e
  · obtain ⟨n, hn⟩ := hpk .nils []
    refine ⟨g, n, sg, ?_⟩
    simp only [rd] at hn
    simp only [encG] at hg ⊢
    rw [e] at hg ⊢
    rw [callI_eq]
    simp [body1_eq _ _ (gpH 21) g21, c21, a21, h3, hg, hn]
  · obtain ⟨n, hn⟩ := hpk (.own (0, 10) g.length) [(10, .row 1 (encGs true true g))]
    refine ⟨g, n, sg, ?_⟩
    simp only [rd] at hn
    simp only [encG] at hg ⊢
    rw [e] at hg ⊢
    rw [callI_eq]
    simp [body1_eq _ _ (gpH 21) g21, c21, a21, h3, hg, hn]
end Go.Am
end
section
set_option maxRecDepth 10000
set_option maxHeartbeats 4000000
set_option linter.unusedSimpArgs false
set_option linter.unusedVariables false
namespace Go.Am
open Go.Proofs Go.Sort Go.Shelf
/-! both graphs are one -/
end Go.Am
end
section
set_option maxRecDepth 10000
set_option maxHeartbeats 16000000
set_option linter.unusedSimpArgs false
set_option linter.unusedVariables false
namespace Go.Am
open Go.Proofs Go.Sort Go.Shelf
theorem lDrawHide (B : List Nat) (hB : B.length ≤ 9223372036854775807) (hb : ∀ b ∈ B, b < 256) : ∃ g n, SmallG g ∧ callI L 21 [.sl false 1 (byVs B)] [] = some (.tup [encG true false g, .i n], []) := by
  obtain ⟨g, n, sg, h⟩ := eqDrawGraphHide B hB hb
  refine ⟨g, n, sg, ?_⟩
  have e : callI L 21 [.sl false 1 (byVs B)] [] = lowTP H 21 id [.sl false 1 (byVs B)] [] := callI_prim' (p := lowTP H 21 id) rfl _ _
  rw [e]
  simp only [lowTP, viaP, List.map_cons, List.map_nil, id, h]
  exact low_gx g (.i n) rfl
theorem lHideI (g : Gr) (sg : SmallG g) (n : Int) : callI L 22 [encG true false g, .i n] [] = some (.tup [encG true false (graphHide g n).1, .b (graphHide g n).2], []) := by
  have e : callI L 22 [encG true false g, .i n] [] = lowTP G 22 wkG [encG true false g, .i n] [] := callI_prim' (p := lowTP G 22 wkG) rfl _ _
  rw [e]
  simp only [lowTP, viaP, List.map_cons, List.map_nil, wkG_enc, show wkG (.i n) = .i n from rfl]
  rw [eqGraphHideI g sg sg.fit n]
  exact low_gb _ _
theorem lHideS (g : Gr) (sg : SmallG g) (n : Int) : callI L 23 [encG true false g, .i n] [] = some (.tup [encG true false (graphHide g n).1, .b (graphHide g n).2], []) := by
  have e : callI L 23 [encG true false g, .i n] [] = lowTP G 23 wkG [encG true false g, .i n] [] := callI_prim' (p := lowTP G 23 wkG) rfl _ _
  rw [e]
  simp only [lowTP, viaP, List.map_cons, List.map_nil, wkG_enc, show wkG (.i n) = .i n from rfl]
  rw [eqGraphHideS g sg sg.fit n]
  exact low_gb _ _
theorem loopHl0 (n : Int) (E : List PV) (s : Nat) (hs : s < E.length) (l : List Mv) (hll : l.length ≤ 1048576) (hat : nth E s = some (encL true false l)) (hm : ∀ m ∈ l, hidF n m = false ∧ actOk m.1 = true) : ∀ (rest done : List Mv), l = done ++ rest →
    loopI L [4, 5, 9, 10, 11, 12] [5, 9, 20, 26, 49] c5l0 ⟨[(4, .i n), (5, .ref (0, 5) 1 0 0), (9, .ref (0, 9) 1 0 0), (10, .b true), (11, .i s), (12, .i done.length)], [(5, .box [.sl false 1 E]), (9, .box [.sl false 1 E])], []⟩ =
      some (.exit 2, ⟨[(4, .i n), (5, .ref (0, 5) 1 0 0), (9, .ref (0, 9) 1 0 0), (10, .b true), (11, .i s), (12, .i l.length), (66, .b false)], [(5, .box [.sl false 1 E]), (9, .box [.sl false 1 E])], []⟩)
  | [], done, e => by
    have e : l = done := by simpa using e
    subst e
    have hs2 : (s : Int) < E.length := by omega
    rw [loopI_eq]
    rcases encLf_two l with ⟨h, h0⟩ | ⟨h, h0⟩ <;> rw [h] at hat
    · subst h0
      simp [r5l0, b5l0, hat, hs, hs2]
    · simp [r5l0, b5l0, hat, hs, hs2]
  | m :: rest, done, e => by
    have hpl : l.length = done.length + (rest.length + 1) := by rw [e]; simp
    have hs2 : (s : Int) < E.length := by omega
    have hlt : (done.length : Int) < l.length := by omega
    have hlt2 : done.length < l.length := by omega
    have hw : IntKind.i64.wrap ((done.length : Int) + 1) = (done.length : Int) + 1 := wr (by omega)
    obtain ⟨hh, ha⟩ := hm m (by rw [e]; simp)
    have hN := lActName m.1 ha
    have hne : l ≠ [] := by rw [e]; simp
    have hat2 := mv_at done m rest
    rw [← e] at hat2
    rw [encL_ne hne] at hat
    have hn := loopHl0 n E s hs l hll (by rw [encL_ne hne]; exact hat) hm rest (done ++ [m]) (by rw [e]; simp)
    refine Eq.trans ?_ hn
    have hml : (l.map mvP).length = l.length := by simp
    generalize l.map mvP = ML at *
    rw [loopI_eq]
    by_cases h0 : m.1 = 0
    · simp only [h0, if_true, decide_true, Bool.not_true] at hN
      simp [r5l0, b5l0, hat, hat2, hs, hs2, hlt, hlt2, hml, hw, mvP, hN, h0]
    · have hnn : ¬ nameI m.1 = n := by simpa [hidF, h0] using hh
      simp only [h0, if_false, decide_false, Bool.not_false] at hN
      simp [r5l0, b5l0, hat, hat2, hs, hs2, hlt, hlt2, hml, hw, mvP, hN, hnn]
theorem loopHl1 (n : Int) (x : Gr) (sx : SmallG x) (hm : ∀ l ∈ x, ∀ m ∈ l, hidF n m = false ∧ actOk m.1 = true) : ∀ (k s : Nat), s + k = x.length →
    loopI L [4, 5, 9, 10, 11] [5, 9, 20, 26, 49] c5l1 ⟨[(4, .i n), (5, .ref (0, 5) 1 0 0), (9, .ref (0, 9) 1 0 0), (10, .b true), (11, .i s)], [(5, .box [.sl false 1 (encGs true false x)]), (9, .box [.sl false 1 (encGs true false x)])], []⟩ =
      some (.exit 0, ⟨[(4, .i n), (5, .ref (0, 5) 1 0 0), (9, .ref (0, 9) 1 0 0), (10, .b true), (11, .i x.length), (56, .b false)], [(5, .box [.sl false 1 (encGs true false x)]), (9, .box [.sl false 1 (encGs true false x)])], []⟩)
  | 0, s, e => by
    have : s = x.length := by omega
    subst this
    rw [loopI_eq]
    simp [r5l1, b5l1]
  | k + 1, s, e => by
    have hlt : s < x.length := by omega
    have hlt2 : (s : Int) < x.length := by omega
    have hw : IntKind.i64.wrap ((s : Int) + 1) = (s : Int) + 1 := wr (by have := sx.1; omega)
    have hat := gr_nth true false x s hlt
    have hmem : x.getD s [] ∈ x := gr_mem hlt
    have hi := loopHl0 n (encGs true false x) s (by simpa using hlt) (x.getD s []) (sx.2 _ hmem) hat (hm _ hmem) (x.getD s []) [] rfl
    simp only [List.length_nil, show ((0 : Nat) : Int) = 0 from rfl] at hi
    have hn := loopHl1 n x sx hm k (s + 1) (by omega)
    refine Eq.trans ?_ hn
    rw [show ((s + 1 : Nat) : Int) = (s : Int) + 1 by omega, loopI_eq]
    have hEl : (encGs true false x).length = x.length := by simp
    generalize encGs true false x = E at *
    simp [r5l1, b5l1, hEl, hlt, hlt2, hw, hi]
theorem hide_small {g : Gr} (sg : SmallG g) (n : Int) : SmallG (graphHide g n).1 := by
  unfold graphHide
  split
  · exact made_small (hideG_small sg)
  · exact ⟨by simp, fun l hl => by cases hl⟩
theorem lawFnGraphHide (B : List Nat) (hB : B.length ≤ 9223372036854775807) (hb : ∀ b ∈ B, b < 256) : callI L 5 [.sl false 1 (byVs B)] [] = some (.b true, []) := by
  have hBl := byVs_len B
  by_cases hbig : (1048576 : Int) < B.length
  · rw [callI_eq]
    simp [body1_eq _ _ (gpL 5) g5, c5, a5, hBl, hbig]
  obtain ⟨g, n, sg, hd⟩ := lDrawHide B hB hb
  have hI := lHideI g sg n
  have hS := lHideS g sg n
  have sx := hide_small sg n
  have hag := fun h : graphHide g n = ((graphHide g n).1, true) => hide_again h
  have hM := hMnGraphL _ sx
  generalize graphHide g n = X at *
  obtain ⟨x, bx⟩ := X
  simp only at *
  cases bx with
  | false =>
    rw [callI_eq]
    simp only [encG] at hd hI hS hM
    rcases encM_cases true false g with e | ⟨E, e⟩ <;> rw [e] at hd hI hS <;> rcases encM_cases true false x with e' | ⟨E', e'⟩ <;> rw [e'] at hI hS hM <;>
      simp [body1_eq _ _ (gpL 5) g5, c5, a5, hBl, hbig, hd, hI, hS, hM]
  | true =>
    obtain ⟨ha, hm⟩ := hag rfl
    have hA := lHideI x sx n
    rw [ha] at hA
    simp only at hA
    have hne : x ≠ [] := by
      intro e
      subst e
      unfold graphHide at ha
      simp [grOk] at ha
    have hl := loopHl1 n x sx hm x.length 0 (by omega)
    simp only [show ((0 : Nat) : Int) = 0 from rfl] at hl
    have hx : encM' true false x = .sl false 1 (encGs true false x) := encM_ne hne
    simp only [encG, hx] at hd hI hS hM hA
    generalize encGs true false x = E at *
    rw [callI_eq]
    rcases encM_cases true false g with e | ⟨E', e⟩ <;> rw [e] at hd hI hS <;>
      simp [body1_eq _ _ (gpL 5) g5, c5, a5, hBl, hbig, hd, hI, hS, hM, hA, hl]
end Go.Am
end
