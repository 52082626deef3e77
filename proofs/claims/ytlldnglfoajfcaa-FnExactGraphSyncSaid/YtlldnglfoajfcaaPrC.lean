/- GraphSync of both sides and what the law makes of it. -/
import Derived.Test.YtlldnglfoajfcaaPrA
import Derived.Test.YtlldnglfoajfcaaGtD
section
set_option maxRecDepth 10000
set_option maxHeartbeats 4000000
set_option linter.unusedSimpArgs false
set_option linter.unusedVariables false
namespace Go.Am
open Go.Proofs Go.Sort Go.Shelf
/-! impl.GraphSync's moves of two states -/
theorem loopIy0 (bs : List Bool) (hb : bs.length = 4) (E1 E2 : List PV) (n i j a : Nat) (hn60 : n ≤ 60) (GM : List PV) (gl : Nat) (m : Mv) (hma : actOk m.1 = true) (hm2 : 0 ≤ m.2 ∧ m.2 ≤ 60) (hnv : namd bs m.1 = true) (H : List Mv) (hHl : H.length ≤ 540) (hto : ∀ x ∈ H, 0 ≤ x.2 ∧ x.2 ≤ 60) (hac : ∀ x ∈ H, actOk x.1 = true) : ∀ (rest done : List Mv), H = done ++ rest → ∀ O : List Mv, O.length + rest.length ≤ 4000000 →
    loopI G [0, 1, 3, 4, 5, 9, 11, 21, 22, 23, 48, 49, 50] [11, 16, 43, 71, 100] c113l0 ⟨[(0, .i i), (1, .i j), (3, .ref (0, 5) 1 0 0), (4, .ref (0, 8) 1 0 0), (5, .ref (0, 4) 1 0 0), (9, .own (2, 16) O.length), (11, .ref (2, 11) 1 0 0), (21, .sl false 2 GM), (22, .i gl), (23, .i a), (48, .sl false 2 (H.map mvP)), (49, .i H.length), (50, .i done.length)], [(11, .box [.i m.1, .i m.2]), (16, .row 2 (O.map mvP))], [[(3, .box [.sl false 1 E1]), (4, .box [.sl false 1 E2]), (5, .box [.sl false 1 (bools bs)]), (6, .box [.nils]), (8, .box [.i n])], []]⟩ =
      some (.exit 2, ⟨[(0, .i i), (1, .i j), (3, .ref (0, 5) 1 0 0), (4, .ref (0, 8) 1 0 0), (5, .ref (0, 4) 1 0 0), (9, .own (2, 16) (O ++ rest.flatMap (lMN (namd bs) true n m)).length), (11, .ref (2, 11) 1 0 0), (21, .sl false 2 GM), (22, .i gl), (23, .i a), (48, .sl false 2 (H.map mvP)), (49, .i H.length), (50, .i H.length), (51, .b false)], [(11, .box [.i m.1, .i m.2]), (16, .row 2 ((O ++ rest.flatMap (lMN (namd bs) true n m)).map mvP))], [[(3, .box [.sl false 1 E1]), (4, .box [.sl false 1 E2]), (5, .box [.sl false 1 (bools bs)]), (6, .box [.nils]), (8, .box [.i n])], []]⟩)
  := by
  intro rest
  induction rest with
  | nil =>
    intro done hd O hb2
    rw [List.append_nil] at hd
    subst hd
    rw [List.flatMap_nil, List.append_nil]
    generalize H.map mvP = HM
    generalize bools bs = BS
    generalize O.map mvP = OM
    rw [loopI_eq]
    simp [r113l0, b113l0, wr1]
  | cons x rest ih =>
    intro done hd O hb2
    have hml : (H.map mvP).length = H.length := by simp
    have hrl : H.length = done.length + (rest.length + 1) := by rw [hd]; simp
    have hlt : (done.length : Int) < H.length := by omega
    have hlt2 : done.length < H.length := by omega
    have hat2 : nth (H.map mvP) done.length = some (mvP x) := by rw [hd]; exact mv_at done x rest
    have hw : IntKind.i64.wrap ((done.length : Int) + 1) = (done.length : Int) + 1 := wr (by omega)
    have hx := hto x (by rw [hd]; simp)
    have hmb := mulb hm2 (by omega : (0 : Int) ≤ n ∧ (n : Int) ≤ 60)
    have hw1 : IntKind.i64.wrap (m.2 * (n : Int)) = m.2 * n := wr (by omega)
    have hw2 : IntKind.i64.wrap (m.2 * (n : Int) + x.2) = m.2 * n + x.2 := wr (by omega)
    have hac1 : -4 ≤ m.1 ∧ m.1 ≤ 4 := by simpa [actOk] using hma
    have hxa := hac x (by rw [hd]; simp)
    have hac2 : -4 ≤ x.1 ∧ x.1 ≤ 4 := by simpa [actOk] using hxa
    have hneg : IntKind.i64.wrap (-x.1) = -x.1 := wr (by omega)
    have hneg2 : IntKind.i64.wrap m.1 = m.1 := wr (by omega)
    simp only [mvP] at hat2
    by_cases c1 : m.1 = x.1
    · have hl0 : lMN (namd bs) true n m x = [(m.1, m.2 * n + x.2)] := by simp [lMN, ← c1, hnv]
      rw [List.flatMap_cons, hl0, ← List.append_assoc]
      have hn := ih (done ++ [x]) (by simpa using hd) (O ++ [(m.1, m.2 * n + x.2)]) (by simp only [List.length_cons, List.length_append, List.length_nil] at hb2 ⊢; omega)
      generalize (O ++ [(m.1, m.2 * n + x.2)]) ++ rest.flatMap _ = FF at hn ⊢
      simp only [List.length_append, List.length_cons, List.length_nil, Int.natCast_add, show ((0 + 1 : Nat) : Int) = 1 from rfl, Nat.zero_add, List.map_append, List.map_cons, List.map_nil, mvP] at hn
      have hOl : O.length ≤ 4294967295 := by simp only [List.length_cons] at hb2; omega
      have hOm : (O.map mvP).length = O.length := by simp
      generalize H.map mvP = HM at hat2 hml hn ⊢
      generalize bools bs = BS at hn ⊢
      generalize O.map mvP = OM at hn hOm ⊢
      rw [loopI_eq]
      simp [r113l0, b113l0, hml, hlt, hlt2, hat2, unAgg, hw, hw1, hw2, hneg, hneg2, ← c1, hOl, hOm]
      exact hn
    · have c3 : ¬ x.1 = m.1 := fun e => c1 e.symm
      have hl0 : lMN (namd bs) true n m x = [] := by simp [lMN, c3]
      rw [List.flatMap_cons, hl0, List.nil_append]
      have hn := ih (done ++ [x]) (by simpa using hd) O (by simp only [List.length_cons] at hb2; omega)
      simp only [List.length_append, List.length_cons, List.length_nil, Int.natCast_add, show ((0 + 1 : Nat) : Int) = 1 from rfl] at hn
      rw [← List.length_append] at hn
      generalize O ++ rest.flatMap _ = FF at hn ⊢
      have hOm : (O.map mvP).length = O.length := by simp
      generalize H.map mvP = HM at hat2 hml hn ⊢
      generalize bools bs = BS at hn ⊢
      generalize O.map mvP = OM at hn hOm ⊢
      rw [loopI_eq]
      simp [r113l0, b113l0, hml, hlt, hlt2, hat2, unAgg, hw, hw1, hw2, hneg, hneg2, c1, hOm]
      exact hn
theorem loopIy2 (bs : List Bool) (hb : bs.length = 4) (E1 E2 : List PV) (n i : Nat) (hn60 : n ≤ 60) (hi60 : i ≤ 60) (H : List Mv) (hHl : H.length ≤ 540) (hto : ∀ x ∈ H, 0 ≤ x.2 ∧ x.2 ≤ 60) (hac : ∀ x ∈ H, actOk x.1 = true) : ∀ (rest done : List Mv), H = done ++ rest → ∀ O : List Mv, O.length + rest.length ≤ 4000000 →
    loopI G [0, 3, 4, 9, 78, 79, 80] [16, 43, 71, 100] c113l2 ⟨[(0, .i i), (3, .ref (0, 5) 1 0 0), (4, .ref (0, 8) 1 0 0), (9, .own (2, 16) O.length), (78, .sl false 2 (H.map mvP)), (79, .i H.length), (80, .i done.length)], [(16, .row 2 (O.map mvP))], [[(3, .box [.sl false 1 E1]), (4, .box [.sl false 1 E2]), (5, .box [.sl false 1 (bools bs)]), (6, .box [.nils]), (8, .box [.i n])], []]⟩ =
      some (.exit 4, ⟨[(0, .i i), (3, .ref (0, 5) 1 0 0), (4, .ref (0, 8) 1 0 0), (9, .own (2, 16) (O ++ rest.flatMap (lX (namd bs) n i)).length), (78, .sl false 2 (H.map mvP)), (79, .i H.length), (80, .i H.length), (81, .b false)], [(16, .row 2 ((O ++ rest.flatMap (lX (namd bs) n i)).map mvP))], [[(3, .box [.sl false 1 E1]), (4, .box [.sl false 1 E2]), (5, .box [.sl false 1 (bools bs)]), (6, .box [.nils]), (8, .box [.i n])], []]⟩)
  := by
  intro rest
  induction rest with
  | nil =>
    intro done hd O hb2
    rw [List.append_nil] at hd
    subst hd
    rw [List.flatMap_nil, List.append_nil]
    generalize H.map mvP = HM
    generalize bools bs = BS
    generalize O.map mvP = OM
    rw [loopI_eq]
    simp [r113l2, b113l2, wr1]
  | cons x rest ih =>
    intro done hd O hb2
    have hml : (H.map mvP).length = H.length := by simp
    have hrl : H.length = done.length + (rest.length + 1) := by rw [hd]; simp
    have hlt : (done.length : Int) < H.length := by omega
    have hlt2 : done.length < H.length := by omega
    have hat2 : nth (H.map mvP) done.length = some (mvP x) := by rw [hd]; exact mv_at done x rest
    have hw : IntKind.i64.wrap ((done.length : Int) + 1) = (done.length : Int) + 1 := wr (by omega)
    have hx := hto x (by rw [hd]; simp)
    have hmb := mulb (by omega : (0 : Int) ≤ i ∧ (i : Int) ≤ 60) (by omega : (0 : Int) ≤ n ∧ (n : Int) ≤ 60)
    have hw1 : IntKind.i64.wrap ((i : Int) * (n : Int)) = (i : Int) * n := wr (by omega)
    have hw2 : IntKind.i64.wrap ((i : Int) * (n : Int) + x.2) = (i : Int) * n + x.2 := wr (by omega)
    have hnm := eqNamedI x.1 bs (hac x (by rw [hd]; simp)) hb
    simp only [mvP] at hat2
    cases hnv : namd bs x.1 with
    | false =>
      rw [hnv] at hnm
      have hl0 : lX (namd bs) n i x = [(x.1, (i : Int) * n + x.2)] := by simp [lX, hnv]
      rw [List.flatMap_cons, hl0, ← List.append_assoc]
      have hn := ih (done ++ [x]) (by simpa using hd) (O ++ [(x.1, (i : Int) * n + x.2)]) (by simp only [List.length_cons, List.length_append, List.length_nil] at hb2 ⊢; omega)
      generalize (O ++ [(x.1, (i : Int) * n + x.2)]) ++ rest.flatMap _ = FF at hn ⊢
      simp only [List.length_append, List.length_cons, List.length_nil, Int.natCast_add, show ((0 + 1 : Nat) : Int) = 1 from rfl, Nat.zero_add, List.map_append, List.map_cons, List.map_nil, mvP] at hn
      have hOl : O.length ≤ 4294967295 := by simp only [List.length_cons] at hb2; omega
      have hOm : (O.map mvP).length = O.length := by simp
      generalize H.map mvP = HM at hat2 hml hn ⊢
      generalize bools bs = BS at hnm hn ⊢
      generalize O.map mvP = OM at hn hOm ⊢
      rw [loopI_eq]
      simp [r113l2, b113l2, hml, hlt, hlt2, hat2, unAgg, hw, hw1, hw2, hnm, hOl, hOm]
      exact hn
    | true =>
      rw [hnv] at hnm
      have hl0 : lX (namd bs) n i x = [] := by simp [lX, hnv]
      rw [List.flatMap_cons, hl0, List.nil_append]
      have hn := ih (done ++ [x]) (by simpa using hd) O (by simp only [List.length_cons] at hb2; omega)
      simp only [List.length_append, List.length_cons, List.length_nil, Int.natCast_add, show ((0 + 1 : Nat) : Int) = 1 from rfl] at hn
      rw [← List.length_append] at hn
      generalize O ++ rest.flatMap _ = FF at hn ⊢
      have hOm : (O.map mvP).length = O.length := by simp
      generalize H.map mvP = HM at hat2 hml hn ⊢
      generalize bools bs = BS at hnm hn ⊢
      generalize O.map mvP = OM at hn hOm ⊢
      rw [loopI_eq]
      simp [r113l2, b113l2, hml, hlt, hlt2, hat2, unAgg, hw, hw1, hw2, hnm, hOm]
      exact hn
theorem loopIy1 (bs : List Bool) (hb : bs.length = 4) (E1 E2 : List PV) (n i j : Nat) (hn60 : n ≤ 60) (hj60 : j ≤ 60) (hE2 : j < E2.length) (H : List Mv) (hHl : H.length ≤ 540) (hto : ∀ x ∈ H, 0 ≤ x.2 ∧ x.2 ≤ 60) (hac : ∀ x ∈ H, actOk x.1 = true) (hat : nth E2 j = some (.sl false 2 (H.map mvP))) (Gs : List Mv) (hGl : Gs.length ≤ 540) (htoG : ∀ x ∈ Gs, 0 ≤ x.2 ∧ x.2 ≤ 60) (hacG : ∀ x ∈ Gs, actOk x.1 = true) : ∀ (rest done : List Mv), Gs = done ++ rest → ∀ O : List Mv, O.length + 541 * rest.length ≤ 3000000 →
    loopI G [0, 1, 3, 4, 5, 9, 21, 22, 23] [16, 43, 71, 100] c113l1 ⟨[(0, .i i), (1, .i j), (3, .ref (0, 5) 1 0 0), (4, .ref (0, 8) 1 0 0), (5, .ref (0, 4) 1 0 0), (9, .own (2, 16) O.length), (21, .sl false 2 (Gs.map mvP)), (22, .i Gs.length), (23, .i done.length)], [(16, .row 2 (O.map mvP))], [[(3, .box [.sl false 1 E1]), (4, .box [.sl false 1 E2]), (5, .box [.sl false 1 (bools bs)]), (6, .box [.nils]), (8, .box [.i n])], []]⟩ =
      some (.exit 0, ⟨[(0, .i i), (1, .i j), (3, .ref (0, 5) 1 0 0), (4, .ref (0, 8) 1 0 0), (5, .ref (0, 4) 1 0 0), (9, .own (2, 16) (O ++ rest.flatMap (lM (namd bs) true n j H)).length), (21, .sl false 2 (Gs.map mvP)), (22, .i Gs.length), (23, .i Gs.length), (24, .b false)], [(16, .row 2 ((O ++ rest.flatMap (lM (namd bs) true n j H)).map mvP))], [[(3, .box [.sl false 1 E1]), (4, .box [.sl false 1 E2]), (5, .box [.sl false 1 (bools bs)]), (6, .box [.nils]), (8, .box [.i n])], []]⟩)
  := by
  intro rest
  induction rest with
  | nil =>
    intro done hd O hb2
    rw [List.append_nil] at hd
    subst hd
    rw [List.flatMap_nil, List.append_nil]
    generalize Gs.map mvP = GM
    generalize bools bs = BS
    generalize O.map mvP = OM
    rw [loopI_eq]
    simp [r113l1, b113l1, wr1]
  | cons x rest ih =>
    intro done hd O hb2
    have hji : (j : Int) < E2.length := by omega
    have hml : (Gs.map mvP).length = Gs.length := by simp
    have hrl : Gs.length = done.length + (rest.length + 1) := by rw [hd]; simp
    have hlt : (done.length : Int) < Gs.length := by omega
    have hlt2 : done.length < Gs.length := by omega
    have hat2 : nth (Gs.map mvP) done.length = some (mvP x) := by rw [hd]; exact mv_at done x rest
    have hw : IntKind.i64.wrap ((done.length : Int) + 1) = (done.length : Int) + 1 := wr (by omega)
    have hm2 := htoG x (by rw [hd]; simp)
    have hmlH : (H.map mvP).length = H.length := by simp
    have hma := hacG x (by rw [hd]; simp)
    have hmb := mulb hm2 (by omega : (0 : Int) ≤ n ∧ (n : Int) ≤ 60)
    have hw1 : IntKind.i64.wrap (x.2 * (n : Int)) = x.2 * n := wr (by omega)
    have hw2 : IntKind.i64.wrap (x.2 * (n : Int) + (j : Int)) = x.2 * n + j := wr (by omega)
    have hnm := eqNamedI x.1 bs hma hb
    have hfl := flatMv_len H fun y _ => lMN_len (namd bs) true n x y
    simp only [mvP] at hat2
    simp only [List.length_cons] at hb2
    cases hnv : namd bs x.1 with
    | true =>
      rw [hnv] at hnm
      have hlm : lM (namd bs) true n j H x = H.flatMap (lMN (namd bs) true n x) := by simp [lM, hnv]
      have h0 := loopIy0 bs hb E1 E2 n i j done.length hn60 (Gs.map mvP) Gs.length x hma hm2 hnv H hHl hto hac H [] rfl O (by omega)
      have hn := ih (done ++ [x]) (by simpa using hd) (O ++ H.flatMap (lMN (namd bs) true n x)) (by simp only [List.length_append, List.length_cons, List.length_nil] at hb2 ⊢; omega)
      rw [List.flatMap_cons, hlm, ← List.append_assoc]
      generalize (O ++ H.flatMap (lMN (namd bs) true n x)) ++ rest.flatMap (lM (namd bs) true n j H) = FF at hn ⊢
      generalize O ++ H.flatMap (lMN (namd bs) true n x) = F1 at h0 hn
      simp only [List.length_append, List.length_cons, List.length_nil, Int.natCast_add, show ((0 + 1 : Nat) : Int) = 1 from rfl, show ((0 : Nat) : Int) = 0 from rfl, Nat.zero_add, List.map_append, List.map_cons, List.map_nil, mvP] at h0 hn
      have hOl : O.length ≤ 4294967295 := by omega
      have hOm : (O.map mvP).length = O.length := by simp
      have hFm : (F1.map mvP).length = F1.length := by simp
      generalize Gs.map mvP = GM at hat2 hml h0 hn ⊢
      generalize H.map mvP = HM at hat hmlH h0
      generalize bools bs = BS at hnm h0 hn ⊢
      generalize O.map mvP = OM at h0 hOm ⊢
      generalize F1.map mvP = FM at h0 hn hFm
      rw [loopI_eq]
      simp [r113l1, b113l1, hml, hmlH, hlt, hlt2, hat2, unAgg, hw, hw1, hw2, hnm, hE2, hji, hat, h0, hOl, hOm, hFm]
      exact hn
    | false =>
      rw [hnv] at hnm
      have hlz : H.flatMap (lMN (namd bs) true n x) = [] := by
        rw [List.flatMap_eq_nil_iff]
        intro y _
        simp [lMN, hnv]
      have hl0 : lM (namd bs) true n j H x = [(x.1, x.2 * n + j)] := by simp [lM, hnv, hlz]
      rw [List.flatMap_cons, hl0, ← List.append_assoc]
      have hn := ih (done ++ [x]) (by simpa using hd) (O ++ [(x.1, x.2 * n + j)]) (by simp only [List.length_cons, List.length_append, List.length_nil] at hb2 ⊢; omega)
      generalize (O ++ [(x.1, x.2 * n + j)]) ++ rest.flatMap _ = FF at hn ⊢
      simp only [List.length_append, List.length_cons, List.length_nil, Int.natCast_add, show ((0 + 1 : Nat) : Int) = 1 from rfl, Nat.zero_add, List.map_append, List.map_cons, List.map_nil, mvP] at hn
      have hOl : O.length ≤ 4294967295 := by omega
      have hOm : (O.map mvP).length = O.length := by simp
      generalize Gs.map mvP = GM at hat2 hml hn ⊢
      generalize H.map mvP = HM at hat hmlH
      generalize bools bs = BS at hnm hn ⊢
      generalize O.map mvP = OM at hn hOm ⊢
      rw [loopI_eq]
      simp [r113l1, b113l1, hml, hmlH, hlt, hlt2, hat2, unAgg, hw, hw1, hw2, hnm, hE2, hji, hat, hOl, hOm]
      exact hn
theorem eqCloSync (bs : List Bool) (hb : bs.length = 4) (g h : Gr) (hg : grOk g = true) (hh : grOk h = true) (i j : Nat) (hi : i < g.length) (hj : j < h.length) :
    callI G 113 [.i i, .i j, .ref (0, 3) 1 0 0, .ref (0, 5) 1 0 0, .ref (0, 8) 1 0 0, .ref (0, 4) 1 0 0] [[(3, .box [.sl false 1 (encGs false false g)]), (4, .box [.sl false 1 (encGs false false h)]), (5, .box [.sl false 1 (bools bs)]), (6, .box [.nils]), (8, .box [.i h.length])], []] = some (.sl true 2 ((prL (namd bs) true h.length i j (g.getD i []) (h.getD j [])).map mvP), [[(3, .box [.sl false 1 (encGs false false g)]), (4, .box [.sl false 1 (encGs false false h)]), (5, .box [.sl false 1 (bools bs)]), (6, .box [.nils]), (8, .box [.i h.length])], []]) := by
  obtain ⟨p1, p2, p3⟩ := grOk_to hg
  obtain ⟨q1, q2, q3⟩ := grOk_to hh
  have hgr := grOk_row hg i
  have hhr := grOk_row hh j
  have hGl := getD_len (grOk_short hg) i
  have hHl := getD_len (grOk_short hh) j
  have hgn := gff_nth hi
  have hhn := gff_nth hj
  have hii : (i : Int) < g.length := by omega
  have hji : (j : Int) < h.length := by omega
  have hE1 : (encGs false false g).length = g.length := by simp
  have hE2 : (encGs false false h).length = h.length := by simp
  have hGm : ((g.getD i []).map mvP).length = (g.getD i []).length := by simp
  have hHm : ((h.getD j []).map mvP).length = (h.getD j []).length := by simp
  have l1 := loopIy1 bs hb (encGs false false g) (encGs false false h) h.length i j q3 (by omega) (by rw [hE2]; exact hj) (h.getD j []) hHl (fun x hx => (hhr x hx).2) (fun x hx => (hhr x hx).1) hhn (g.getD i []) hGl (fun x hx => (hgr x hx).2) (fun x hx => (hgr x hx).1) (g.getD i []) [] rfl [] (by simp only [List.length_nil]; omega)
  rw [List.nil_append] at l1
  have hO1 : ((g.getD i []).flatMap (lM (namd bs) true h.length j (h.getD j []))).length ≤ 300000 := by
    have := flatMv_len (f := lM (namd bs) true h.length j (h.getD j [])) (k := 541) (g.getD i []) fun x _ => Nat.le_trans (lM_len _ _ _ _ _ x) (by omega)
    omega
  have l2 := loopIy2 bs hb (encGs false false g) (encGs false false h) h.length i q3 (by omega) (h.getD j []) hHl (fun x hx => (hhr x hx).2) (fun x hx => (hhr x hx).1) (h.getD j []) [] rfl ((g.getD i []).flatMap (lM (namd bs) true h.length j (h.getD j []))) (by omega)
  have hpr : (g.getD i []).flatMap (lM (namd bs) true h.length j (h.getD j [])) ++ (h.getD j []).flatMap (lX (namd bs) h.length i) = prL (namd bs) true h.length i j (g.getD i []) (h.getD j []) := rfl
  rw [hpr] at l2
  simp only [List.length_nil, List.map_nil, show ((0 : Nat) : Int) = 0 from rfl] at l1 l2
  have hPm : ((prL (namd bs) true h.length i j (g.getD i []) (h.getD j [])).map mvP).length = (prL (namd bs) true h.length i j (g.getD i []) (h.getD j [])).length := by simp
  generalize prL (namd bs) true h.length i j (g.getD i []) (h.getD j []) = O2 at l2 hPm ⊢
  generalize (g.getD i []).flatMap (lM (namd bs) true h.length j (h.getD j [])) = O1 at l1 l2
  generalize O2.map mvP = PM at l2 hPm ⊢
  generalize O1.map mvP = QM at l1 l2
  generalize (g.getD i []).map mvP = GM at hgn l1 hGm
  generalize (h.getD j []).map mvP = HM at hhn l2 hHm
  generalize (g.getD i []).length = gn at hGm l1
  generalize (h.getD j []).length = hn0 at hHm l2
  generalize encGs false false g = E1 at hE1 hgn l1 l2 ⊢
  generalize encGs false false h = E2 at hE2 hhn l1 l2 ⊢
  generalize bools bs = BS at l1 l2 ⊢
  rw [callI_eq]
  simp [body1_eq _ _ (gp 113) g113, c113, a113, hE1, hii, hi, hgn, hGm, l1, hE2, hji, hj, hhn, hHm, l2, hPm]
end Go.Am
end
section
set_option maxRecDepth 10000
set_option maxHeartbeats 4000000
set_option linter.unusedSimpArgs false
set_option linter.unusedVariables false
namespace Go.Am
open Go.Proofs Go.Sort Go.Shelf
theorem loopQSync0 (bs : List Bool) (hb : bs.length = 4) (g h : Gr) (hg : grOk g = true) (hh : grOk h = true) (i : Nat) (hi : i < g.length) : ∀ (j k : Nat), k + j = h.length →
    loopI G [2, 4, 6, 8, 9, 14, 15, 20, 21] [4, 6, 11, 31, 35] c106l0 ⟨[(2, .clo 113 [.ref (0, 3) 1 0 0, .ref (0, 5) 1 0 0, .ref (0, 8) 1 0 0, .ref (0, 4) 1 0 0]), (4, .ref (1, 4) 1 0 0), (6, .ref (1, 6) 1 0 0), (8, .own (1, 11) (i * h.length + k)), (9, .i i), (14, .i g.length), (15, .i i), (20, .i h.length), (21, .i k)], [(4, .box [.sl false 1 (encGs false false h)]), (6, .box [.nils]), (11, .row 1 (encGs false true (prRows (namd bs) true g h i ++ prRow (namd bs) true g h i k)))], [[(3, .box [.sl false 1 (encGs false false g)]), (4, .box [.sl false 1 (encGs false false h)]), (5, .box [.sl false 1 (bools bs)]), (6, .box [.nils]), (8, .box [.i h.length])]]⟩ =
      some (.exit 2, ⟨[(2, .clo 113 [.ref (0, 3) 1 0 0, .ref (0, 5) 1 0 0, .ref (0, 8) 1 0 0, .ref (0, 4) 1 0 0]), (4, .ref (1, 4) 1 0 0), (6, .ref (1, 6) 1 0 0), (8, .own (1, 11) ((i + 1) * h.length)), (9, .i i), (14, .i g.length), (15, .i i), (20, .i h.length), (21, .i h.length), (22, .b false)], [(4, .box [.sl false 1 (encGs false false h)]), (6, .box [.nils]), (11, .row 1 (encGs false true (prRows (namd bs) true g h (i + 1))))], [[(3, .box [.sl false 1 (encGs false false g)]), (4, .box [.sl false 1 (encGs false false h)]), (5, .box [.sl false 1 (bools bs)]), (6, .box [.nils]), (8, .box [.i h.length])]]⟩) := by
  intro j
  induction j with
  | zero =>
    intro k hk
    have he : k = h.length := by omega
    subst he
    have hz : prRows (namd bs) true g h i ++ prRow (namd bs) true g h i h.length = prRows (namd bs) true g h (i + 1) := rfl
    rw [hz]
    have hz2 : i * h.length + h.length = (i + 1) * h.length := by rw [Nat.succ_mul]
    rw [hz2]
    generalize (i + 1) * h.length = N
    generalize encGs false true (prRows (namd bs) true g h (i + 1)) = D
    generalize encGs false false g = E1
    generalize encGs false false h = E2
    generalize bools bs = BS
    rw [loopI_eq]
    simp [r106l0, b106l0]
  | succ j ih =>
    intro k hk
    obtain ⟨p1, p2, p3⟩ := grOk_to hg
    obtain ⟨q1, q2, q3⟩ := grOk_to hh
    have hkh : k < h.length := by omega
    have hki : (k : Int) < h.length := by omega
    have hw : IntKind.i64.wrap ((k : Int) + 1) = (k : Int) + 1 := wr (by omega)
    have hGl := getD_len (grOk_short hg) i
    have hHl := getD_len (grOk_short hh) k
    have hcl := eqCloSync bs hb g h hg hh i k hi hkh
    have hpl := prL_len (nm := namd bs) (sync := true) (n := h.length) (s := i) (t := k) hGl hHl
    have hDl : (encGs false true (prRows (namd bs) true g h i ++ prRow (namd bs) true g h i k)).length = i * h.length + k := by rw [encGs_len, List.length_append, prRows_len, prRow_len]
    have hDb : i * h.length + k ≤ 4294967295 := by
      have := Nat.mul_le_mul (by omega : i ≤ 60) q3
      omega
    have hnew : encGs false true (prRows (namd bs) true g h i ++ prRow (namd bs) true g h i (k + 1)) = encGs false true (prRows (namd bs) true g h i ++ prRow (namd bs) true g h i k) ++ [.sl true 2 ((prR (namd bs) true g h i k).map mvP)] := by
      rw [prRow_succ, ← List.append_assoc, encGs_app]
      rfl
    have hn := ih (k + 1) (by omega)
    rw [hnew] at hn
    have hna : i * h.length + (k + 1) = i * h.length + k + 1 := rfl
    rw [hna] at hn
    simp only [Int.natCast_add, show ((1 : Nat) : Int) = 1 from rfl] at hn
    have hprr : prR (namd bs) true g h i k = tidyL (prL (namd bs) true h.length i k (g.getD i []) (h.getD k [])) := rfl
    have hns := noShares_mv (prR (namd bs) true g h i k)
    have hns2 := noShares_mv (prL (namd bs) true h.length i k (g.getD i []) (h.getD k []))
    have hPm : ((prL (namd bs) true h.length i k (g.getD i []) (h.getD k [])).map mvP).length = (prL (namd bs) true h.length i k (g.getD i []) (h.getD k [])).length := by simp
    have htd := eqTidy (1, 28) (prL (namd bs) true h.length i k (g.getD i []) (h.getD k [])) [[(3, .box [.sl false 1 (encGs false false g)]), (4, .box [.sl false 1 (encGs false false h)]), (5, .box [.sl false 1 (bools bs)]), (6, .box [.nils]), (8, .box [.i h.length])], [(4, .box [.sl false 1 (encGs false false h)]), (6, .box [.nils]), (11, .row 1 (encGs false true (prRows (namd bs) true g h i ++ prRow (namd bs) true g h i k))), (28, .row 2 ((prL (namd bs) true h.length i k (g.getD i []) (h.getD k [])).map mvP))]] (by simp) rfl (by omega)
    generalize encGs false true (prRows (namd bs) true g h i ++ prRow (namd bs) true g h i k) = D at htd hn hDl ⊢
    generalize i * h.length + k = dl at hn hDl hDb ⊢
    have hTl : srtM (prL (namd bs) true h.length i k (g.getD i []) (h.getD k [])) = tidyL (prL (namd bs) true h.length i k (g.getD i []) (h.getD k [])) → (prR (namd bs) true g h i k).length = (prL (namd bs) true h.length i k (g.getD i []) (h.getD k [])).length := fun e => by rw [hprr, ← e]; simp [srtM]
    have hTm : ((prR (namd bs) true g h i k).map mvP).length = (prR (namd bs) true g h i k).length := by simp
    rw [← hprr] at htd
    generalize prL (namd bs) true h.length i k (g.getD i []) (h.getD k []) = O2 at hcl htd hns2 hPm hTl hprr
    generalize prR (namd bs) true g h i k = T at htd hn hns hTm hTl hprr
    generalize O2.map mvP = PM at hcl htd hns2 hPm
    generalize T.map mvP = TM at htd hn hns hTm
    generalize encGs false false g = E1 at hcl htd hn ⊢
    generalize encGs false false h = E2 at hcl htd hn ⊢
    generalize bools bs = BS at hcl htd hn ⊢
    rcases htd with ⟨hq, ht⟩ | ht
    · have hT2 := hTl (by rw [← hq, hprr])
      simp only [setS, List.modify_cons, setO] at ht
      rw [loopI_eq]
      simp [r106l0, b106l0, hki, hcl, ht, hPm, hTm, hT2, hns, hns2, hDl, hDb, hw]
      exact hn
    · simp only [setS, List.modify_cons, setO] at ht
      rw [loopI_eq]
      simp [r106l0, b106l0, hki, hcl, ht, hPm, hTm, hns, hns2, hDl, hDb, hw]
      exact hn
theorem loopQSync1 (bs : List Bool) (hb : bs.length = 4) (g h : Gr) (hg : grOk g = true) (hh : grOk h = true) : ∀ (j i : Nat), i + j = g.length →
    loopI G [2, 4, 6, 8, 14, 15] [4, 6, 11, 31, 35] c106l1 ⟨[(2, .clo 113 [.ref (0, 3) 1 0 0, .ref (0, 5) 1 0 0, .ref (0, 8) 1 0 0, .ref (0, 4) 1 0 0]), (4, .ref (1, 4) 1 0 0), (6, .ref (1, 6) 1 0 0), (8, .own (1, 11) (i * h.length)), (14, .i g.length), (15, .i i)], [(4, .box [.sl false 1 (encGs false false h)]), (6, .box [.nils]), (11, .row 1 (encGs false true (prRows (namd bs) true g h i)))], [[(3, .box [.sl false 1 (encGs false false g)]), (4, .box [.sl false 1 (encGs false false h)]), (5, .box [.sl false 1 (bools bs)]), (6, .box [.nils]), (8, .box [.i h.length])]]⟩ =
      some (.exit 0, ⟨[(2, .clo 113 [.ref (0, 3) 1 0 0, .ref (0, 5) 1 0 0, .ref (0, 8) 1 0 0, .ref (0, 4) 1 0 0]), (4, .ref (1, 4) 1 0 0), (6, .ref (1, 6) 1 0 0), (8, .own (1, 11) (g.length * h.length)), (14, .i g.length), (15, .i g.length), (16, .b false)], [(4, .box [.sl false 1 (encGs false false h)]), (6, .box [.nils]), (11, .row 1 (encGs false true (pairG (namd bs) true g h)))], [[(3, .box [.sl false 1 (encGs false false g)]), (4, .box [.sl false 1 (encGs false false h)]), (5, .box [.sl false 1 (bools bs)]), (6, .box [.nils]), (8, .box [.i h.length])]]⟩) := by
  intro j
  induction j with
  | zero =>
    intro i hi
    have he : i = g.length := by omega
    subst he
    generalize g.length * h.length = N
    have hz : pairG (namd bs) true g h = prRows (namd bs) true g h g.length := rfl
    rw [hz]
    generalize encGs false true (prRows (namd bs) true g h g.length) = D
    generalize encGs false false g = E1
    generalize encGs false false h = E2
    generalize bools bs = BS
    rw [loopI_eq]
    simp [r106l1, b106l1]
  | succ j ih =>
    intro i hi
    obtain ⟨p1, p2, p3⟩ := grOk_to hg
    have hii : (i : Int) < g.length := by omega
    have hw : IntKind.i64.wrap ((i : Int) + 1) = (i : Int) + 1 := wr (by omega)
    have hE2 : (encGs false false h).length = h.length := by simp
    have h0 := loopQSync0 bs hb g h hg hh i (by omega) h.length 0 (by omega)
    have hz : prRows (namd bs) true g h i ++ prRow (namd bs) true g h i 0 = prRows (namd bs) true g h i := by simp [prRow]
    rw [hz, Nat.add_zero] at h0
    have hn := ih (i + 1) (by omega)
    simp only [Int.natCast_add, show ((1 : Nat) : Int) = 1 from rfl, show ((0 : Nat) : Int) = 0 from rfl] at h0 hn
    generalize encGs false true (prRows (namd bs) true g h i) = D at h0 ⊢
    generalize encGs false true (prRows (namd bs) true g h (i + 1)) = D1 at h0 hn
    generalize encGs false true (pairG (namd bs) true g h) = D2 at hn ⊢
    generalize i * h.length = N0 at h0 ⊢
    generalize (i + 1) * h.length = N1 at h0 hn
    generalize encGs false false g = E1 at h0 hn ⊢
    generalize encGs false false h = E2 at hE2 h0 hn ⊢
    generalize bools bs = BS at h0 hn ⊢
    rw [loopI_eq]
    simp [r106l1, b106l1, hii, hE2, h0, hw]
    exact hn
theorem eqPairedSync (bs : List Bool) (hb : bs.length = 4) (g h : Gr) (hg : grOk g = true) (hh : grOk h = true) :
    callI G 106 [.agg [.sl false 1 (encGs false false g)], .agg [.sl false 1 (encGs false false h)], .clo 113 [.ref (0, 3) 1 0 0, .ref (0, 5) 1 0 0, .ref (0, 8) 1 0 0, .ref (0, 4) 1 0 0]] [[(3, .box [.sl false 1 (encGs false false g)]), (4, .box [.sl false 1 (encGs false false h)]), (5, .box [.sl false 1 (bools bs)]), (6, .box [.nils]), (8, .box [.i h.length])]] = some (.tup [encG true true (made (pairG (namd bs) true g h)).1, .b (made (pairG (namd bs) true g h)).2], [[(3, .box [.sl false 1 (encGs false false g)]), (4, .box [.sl false 1 (encGs false false h)]), (5, .box [.sl false 1 (bools bs)]), (6, .box [.nils]), (8, .box [.i h.length])]]) := by
  obtain ⟨p1, p2, p3⟩ := grOk_to hg
  obtain ⟨q1, q2, q3⟩ := grOk_to hh
  have hE1 : (encGs false false g).length = g.length := by simp
  have l1 := loopQSync1 bs hb g h hg hh g.length 0 (by omega)
  have hpos : 0 < g.length * h.length := Nat.mul_pos (by omega) (by omega)
  have hp := eqPartOf _ (pairG (namd bs) true g h) (encR_G false true (pairG (namd bs) true g h)).fal (pairG_to p1 q1) (pairG_small hg hh) (by rw [pairG_len]; exact hpos)
  have hDl : (encGs false true (pairG (namd bs) true g h)).length = g.length * h.length := by rw [encGs_len, pairG_len]
  have hz : encGs false true (prRows (namd bs) true g h 0) = [] := rfl
  rw [hz, Nat.zero_mul] at l1
  simp only [show ((0 : Nat) : Int) = 0 from rfl] at l1
  generalize hm : made (pairG (namd bs) true g h) = m at hp ⊢
  obtain ⟨mg, mb⟩ := m
  simp only [encG] at hp ⊢
  have hns := noShares_encGs true mg
  generalize encGs false true (pairG (namd bs) true g h) = D at l1 hp hDl
  generalize g.length * h.length = N at l1 hDl
  generalize encGs false false g = E1 at hE1 l1 ⊢
  generalize encGs false false h = E2 at l1 ⊢
  generalize bools bs = BS at l1 ⊢
  rw [callI_eq]
  rcases encM_two true true mg with ⟨e, _⟩ | e
  · rw [e] at hp ⊢
    simp [body1_eq _ _ (gp 106) g106, c106, a106, hE1, l1, hDl, hp, hns]
  · rw [e] at hp ⊢
    simp [body1_eq _ _ (gp 106) g106, c106, a106, hE1, l1, hDl, hp, hns]
def graphSync (g h : Gr) (bs : List Bool) : Gr × Bool := if grOk g && (grOk h && decide (bs.length = 4)) then made (pairG (namd bs) true g h) else ([], false)
theorem eqGraphSyncS (g h : Gr) (hsG : SmallG g) (hsH : SmallG h) (hfG : FitG g) (hfH : FitG h) (bs : List Bool) (hbl : bs.length ≤ 9223372036854775807) :
    callI G 53 [.agg [.sl false 1 (encGs false false g)], .agg [.sl false 1 (encGs false false h)], .sl false 1 (bools bs)] [] = some (.tup [encG true true (graphSync g h bs).1, .b (graphSync g h bs).2], []) := by
  have h1 := eqOkS g hfG
  have h2 := eqOkS h hfH
  simp only [encG, encM_f] at h1 h2
  have hE2 : (encGs false false h).length = h.length := by simp
  have hB2 : (bools bs).length = bs.length := by simp
  rw [callI_eq]
  cases c1 : grOk g with
  | false =>
    rw [c1] at h1
    simp [body1_eq _ _ (gp 53) g53, c53, a53, h1, graphSync, c1]
  | true =>
    rw [c1] at h1
    cases c2 : grOk h with
    | false =>
      rw [c2] at h2
      simp [body1_eq _ _ (gp 53) g53, c53, a53, h1, h2, graphSync, c1, c2]
    | true =>
      rw [c2] at h2
      by_cases c3 : bs.length = 4
      · have hga : graphSync g h bs = made (pairG (namd bs) true g h) := by simp [graphSync, c1, c2, c3]
        rw [hga]
        obtain ⟨p1, p2, p3⟩ := grOk_to c1
        obtain ⟨q1, q2, q3⟩ := grOk_to c2
        have hp := eqPairsS bs c3 true g h c1 c2
        have hmd := eqMade _ (pairG (namd bs) true g h) (encR_G true true (pairG (namd bs) true g h)).fal (pairG_to p1 q1) (pairG_small c1 c2) (by rw [pairG_len]; exact Nat.mul_pos (by omega) (by omega))
        have hns0 := noShares_encGs true (pairG (namd bs) true g h)
        generalize hm : made (pairG (namd bs) true g h) = m at hmd ⊢
        obtain ⟨mg, mb⟩ := m
        simp only [encG] at hmd ⊢
        have hns := noShares_encGs true mg
        generalize encGs true true (pairG (namd bs) true g h) = D at hp hmd hns0
        generalize encGs false false g = E1 at h1 hp ⊢
        generalize encGs false false h = E2 at h2 hp ⊢
        generalize bools bs = BS at hp hB2 ⊢
        rcases encM_two true true mg with ⟨e, _⟩ | e
        all_goals
          rw [e] at hmd ⊢
          simp [body1_eq _ _ (gp 53) g53, c53, a53, h1, h2, hB2, c3, hp, hmd, hns, hns0]
      · have hga : graphSync g h bs = ([], false) := by simp [graphSync, c3]
        rw [hga]
        have c4 : ¬ (bs.length : Int) = 4 := by omega
        generalize bools bs = BS at hB2 ⊢
        simp [body1_eq _ _ (gp 53) g53, c53, a53, h1, h2, hB2, c4]
theorem eqGraphSyncI (g h : Gr) (hsG : SmallG g) (hsH : SmallG h) (hfG : FitG g) (hfH : FitG h) (bs : List Bool) (hbl : bs.length ≤ 9223372036854775807) :
    callI G 54 [.agg [.sl false 1 (encGs false false g)], .agg [.sl false 1 (encGs false false h)], .sl false 1 (bools bs)] [] = some (.tup [encG true true (graphSync g h bs).1, .b (graphSync g h bs).2], []) := by
  have h1 := eqOkI g hfG
  have h2 := eqOkI h hfH
  simp only [encG, encM_f] at h1 h2
  have hE2 : (encGs false false h).length = h.length := by simp
  have hB2 : (bools bs).length = bs.length := by simp
  have h3 := eqNamesOk bs
  rw [callI_eq]
  cases c1 : grOk g with
  | false =>
    rw [c1] at h1
    simp [body1_eq _ _ (gp 54) g54, c54, a54, h1, graphSync, c1]
  | true =>
    rw [c1] at h1
    cases c2 : grOk h with
    | false =>
      rw [c2] at h2
      simp [body1_eq _ _ (gp 54) g54, c54, a54, h1, h2, graphSync, c1, c2]
    | true =>
      rw [c2] at h2
      by_cases c3 : bs.length = 4
      · have hga : graphSync g h bs = made (pairG (namd bs) true g h) := by simp [graphSync, c1, c2, c3]
        rw [hga]
        have hp := eqPairedSync bs c3 g h c1 c2
        rw [c3] at h3
        simp only [decide_true] at h3
        generalize hm : made (pairG (namd bs) true g h) = m at hp ⊢
        obtain ⟨mg, mb⟩ := m
        simp only [encG] at hp ⊢
        have hns := noShares_encGs true mg
        generalize encGs false false g = E1 at h1 hp ⊢
        generalize encGs false false h = E2 at h2 hE2 hp ⊢
        generalize bools bs = BS at hp h3 ⊢
        rcases encM_two true true mg with ⟨e, _⟩ | e
        all_goals
          rw [e] at hp ⊢
          simp [body1_eq _ _ (gp 54) g54, c54, a54, h1, h2, h3, hE2, hp, hns]
      · have hga : graphSync g h bs = ([], false) := by simp [graphSync, c3]
        rw [hga]
        simp only [c3, decide_false] at h3
        generalize bools bs = BS at h3 ⊢
        simp [body1_eq _ _ (gp 54) g54, c54, a54, h1, h2, h3]
end Go.Am
end
section
set_option maxRecDepth 10000
set_option maxHeartbeats 1000000
set_option linter.unusedSimpArgs false
set_option linter.unusedVariables false
namespace Go.Am
open Go.Proofs Go.Sort Go.Shelf
/-! sizes behind others -/
theorem eqSzGL (g : Gr) (hf : FitG g) (L : Int) (h0 : 0 ≤ L) (h1 : L ≤ 1048576) : callI G 14 [encG false false g, .i L] [] = some (.i (if szG g L < 0 then -1 else szG g L), []) := by
  have hs : callI G 58 [.sl false 1 (encGs false false g), .i L] [] = some (.i (if szG g L < 0 then -1 else szG g L), []) := by
    have hw : IntKind.i64.wrap (L - g.length) = L - g.length := wr (by have := hf.1; omega)
    rw [callI_eq]
    unfold szG
    by_cases c : L - g.length < 0
    · simp [body1_eq _ _ (gp 58) g58, c58, a58, hw, c]
    · have hl := loopSzMs g [] (L - g.length) hf.2 (by simpa using hf.1) (by omega) (by omega)
      simp only [List.nil_append, List.length_nil, show ((0 : Nat) : Int) = 0 from rfl] at hl
      by_cases c2 : szMs g (L - g.length) < 0
      · rw [if_pos c2] at hl
        simp [body1_eq _ _ (gp 58) g58, c58, a58, hw, c, hl, c2]
      · rw [if_neg c2] at hl
        simp [body1_eq _ _ (gp 58) g58, c58, a58, hw, c, hl, c2]
  rw [callI_eq]
  by_cases c : szG g L < 0
  · simp only [c, if_true] at hs
    simp [body1_eq _ _ (gp 14) g14, c14, a14, hs, c]
  · simp only [c, if_false] at hs
    simp [body1_eq _ _ (gp 14) g14, c14, a14, hs, c]
theorem szG_smallL {g : Gr} {L : Int} (h1 : L ≤ 1048576) (h : ¬ szG g L < 0) : SmallG g ∧ szG g L ≤ 1048576 := by
  unfold szG at h ⊢
  split at h
  · omega
  · rename_i hh
    rw [if_neg hh]
    obtain ⟨q1, q2⟩ := szMs_le g _ (by omega) h
    exact ⟨⟨by omega, fun x hx => by have := q2 x hx; omega⟩, by omega⟩
end Go.Am
end
section
set_option maxRecDepth 10000
set_option maxHeartbeats 4000000
set_option linter.unusedSimpArgs false
set_option linter.unusedVariables false
namespace Go.Am
open Go.Proofs Go.Sort Go.Shelf
theorem graphSync_small {g h : Gr} {bs : List Bool} : SmallG (graphSync g h bs).1 := by
  unfold graphSync
  split
  · rename_i hc
    simp only [Bool.and_eq_true] at hc
    exact made_small (pairG_small hc.1 hc.2.1)
  · exact ⟨by simp, fun l hl => by cases hl⟩
theorem eqMkBs2 (id : Id) (l : List Bool) (k : Int) (o : Stack) (hid : id.1 < o.length) (hg : getS o id = some (.row 1 (bools l))) (hN : l.length ≤ 1048576) (hk0 : 0 ≤ k) (hk : k ≤ 8796093022208) :
    callI G 48 [.own id l.length, .i k] o = some (.i (k + l.length), setS o id (.row 1 (bools (mkB k l)))) := by
  have hne : ¬ id.1 = o.length := by omega
  have hn := loopMkBs id l.length (by omega) l [] k o hid (by simpa using hg) (by simp) hk0 (by omega)
  simp only [List.nil_append, List.length_nil, show ((0 : Nat) : Int) = 0 from rfl] at hn
  rw [callI_eq]
  simp [-St.get, -St.set, body1_eq _ _ (gp 48) g48, c48, a48, hne, hid, hn, setS_len]
theorem lawGraphSync (e g : Gr) (hfe : FitG e) (hfg : FitG g) (bs : List Bool) (hbl : bs.length ≤ 9223372036854775807) : callI G 12 [encG false false e, encG false false g, .sl false 1 (bools bs)] [] = some (.b true, []) := by
  rw [callI_eq]
  by_cases hb0 : (1048576 : Int) < bs.length
  · simp only [encG, encM_f]
    simp [body1_eq _ _ (gp 12) g12, c12, a12, hb0]
  have h1 := eqSzG e hfe
  by_cases hs : szG e 1048576 < 0
  · simp only [encG, encM_f, hs, if_true] at h1 ⊢
    simp [body1_eq _ _ (gp 12) g12, c12, a12, hb0, h1]
  obtain ⟨hse, hLe⟩ := szG_smallL (by omega) hs
  have h2 := eqSzGL g hfg (szG e 1048576) (by omega) hLe
  by_cases hs2 : szG g (szG e 1048576) < 0
  · simp only [encG, encM_f, hs, if_false] at h1 ⊢
    simp only [encG, encM_f, hs2, if_true] at h2 ⊢
    simp [body1_eq _ _ (gp 12) g12, c12, a12, hb0, h1, hs, h2]
  obtain ⟨hsg, _⟩ := szG_smallL hLe hs2
  have ht1 := eqToG e hse
  have ht2 := eqToG g hsg
  have hbt := eqToBs bs (by omega)
  have hbe := eqEqBs bs hbl
  have hE1 := eqEqG false false e e hfe
  have hE2 := eqEqG false false g g hfg
  have hS := eqGraphSyncS e g hse hsg hfe hfg bs hbl
  have hI := eqGraphSyncI e g hse hsg hfe hfg bs hbl
  have hr := graphSync_small (g := e) (h := g) (bs := bs)
  have hfl : fals (encGs false true e) = encGs false false e := fals_encGs _ _ _
  have hfl2 : fals (encGs false true g) = encGs false false g := fals_encGs _ _ _
  have hn1 := noShares_encGs false e
  have hn2 := noShares_encGs false g
  have hn3 := noShares_bools bs
  generalize hR : graphSync e g bs = R at hS hI hr
  obtain ⟨q, b⟩ := R
  have hrc := SmallG.cnt hr
  simp only at hrc
  have hce := SmallG.cnt hse
  have hcg := SmallG.cnt hsg
  have hpe := cntG_pos e
  have hpg := cntG_pos g
  have hpq := cntG_pos q
  have hEq := eqEqG true true q q hr.fit
  have hH := eqHlG true q 1 (by have := hr.1; simp only at this; omega) (by omega) (by omega)
  have hMe := fun (Lo : Objs) (h : getO Lo 44 = some (.row 1 (encGs false true e))) => eqMkG false e 1 [Lo] (0, 44) (by simp) h (by have := hse.1; omega) (by omega) (by omega)
  have hMg := fun (Lo : Objs) (h : getO Lo 46 = some (.row 1 (encGs false true g))) => eqMkG false g (1 + 2 * cntG e) [Lo] (0, 46) (by simp) h (by have := hsg.1; omega) (by omega) (by omega)
  have hMb := fun (Lo : Objs) (h : getO Lo 48 = some (.row 1 (bools bs))) => eqMkBs2 (0, 48) bs (1 + 2 * cntG e + 2 * cntG g) [Lo] (by simp) h (by omega) (by omega) (by omega)
  have hMq := fun (Lo : Objs) (h : getO Lo 53 = some (.row 1 (encGs true true q))) => eqMkG true q 1 [Lo] (0, 53) (by simp) h (by have := hr.1; simp only at this; omega) (by omega) (by omega)
  simp only [show ∀ (Lo : Objs) (d : Nat) (ob : OB), setS [Lo] (0, d) ob = [setO Lo d ob] from fun _ _ _ => rfl] at hMe hMg hMb hMq
  have hns := noShares_encGs true q
  have hflq : fals (encGs true true q) = encGs true false q := fals_encGs _ _ _
  have hflm : ∀ k, fals (encGs true true (mkG k q)) = encGs true false (mkG k q) := fun k => fals_encGs _ _ _
  have hk : ¬ (1 + 2 * cntG e + 2 * cntG g + bs.length < 0) := by omega
  have hk2 : ¬ (1 + 2 * cntG q < 0) := by omega
  simp only [decide_true] at hE1 hE2 hEq
  simp only [encG, encM_f, hs, hs2, if_false] at h1 h2 ht1 ht2 hE1 hE2 hS hI hEq hH ⊢
  rcases encM_two true true q with ⟨e0, e2⟩ | e0
  · subst e2
    have hM := eqMkGN 1
    simp only [encM_n, mkG, cntG, Int.mul_zero, Int.add_zero] at hS hI hEq hH
    simp [body1_eq _ _ (gp 12) g12, c12, a12, hb0, h1, hs, h2, hs2, ht1, ht2, hbt, hbe, hE1, hE2, hS, hI, hEq, hH, hM, hfl, hfl2, hn1, hn2, hn3, hMe, hMg, hMb, hk]
  · have hqn : q ≠ [] := by intro e3; rw [e3] at e0; cases e0
    have eF : encM' true false q = .sl false 1 (encGs true false q) := encM_ne hqn
    have eM : encM' true false (mkG 1 q) = .sl false 1 (encGs true false (mkG 1 q)) := encM_ne (mkG_ne hqn)
    rw [e0] at hS hI
    rw [eF] at hEq
    rw [eM] at hH
    simp [body1_eq _ _ (gp 12) g12, c12, a12, hb0, h1, hs, h2, hs2, ht1, ht2, hbt, hbe, hE1, hE2, hS, hI, hEq, hH, hfl, hfl2, hflq, hflm, hns, hn1, hn2, hn3, hk, hk2, hMe, hMg, hMb, hMq]
end Go.Am
end
