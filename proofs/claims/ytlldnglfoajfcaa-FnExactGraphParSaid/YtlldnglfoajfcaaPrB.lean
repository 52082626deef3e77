/- GraphPar of both sides and what the law makes of it. -/
import Derived.Test.YtlldnglfoajfcaaPrA
import Derived.Test.YtlldnglfoajfcaaGtD
section
set_option maxRecDepth 10000
set_option maxHeartbeats 4000000
set_option linter.unusedSimpArgs false
set_option linter.unusedVariables false
namespace Go.Am
open Go.Proofs Go.Sort Go.Shelf
/-! impl.GraphPar's moves of two states -/
theorem loopIp0 (bs : List Bool) (hb : bs.length = 4) (E1 E2 : List PV) (n i j a : Nat) (hn60 : n ≤ 60) (GM : List PV) (gl : Nat) (m : Mv) (hma : actOk m.1 = true) (hm2 : 0 ≤ m.2 ∧ m.2 ≤ 60) (H : List Mv) (hHl : H.length ≤ 540) (hto : ∀ x ∈ H, 0 ≤ x.2 ∧ x.2 ≤ 60) (hac : ∀ x ∈ H, actOk x.1 = true) : ∀ (rest done : List Mv), H = done ++ rest → ∀ O : List Mv, O.length + rest.length ≤ 4000000 →
    loopI G [0, 1, 3, 4, 8, 10, 20, 21, 22, 42, 43, 44] [10, 15, 37, 69, 93] c107l0 ⟨[(0, .i i), (1, .i j), (3, .ref (0, 6) 1 0 0), (4, .ref (0, 3) 1 0 0), (8, .own (2, 15) O.length), (10, .ref (2, 10) 1 0 0), (20, .sl false 2 GM), (21, .i gl), (22, .i a), (42, .sl false 2 (H.map mvP)), (43, .i H.length), (44, .i done.length)], [(10, .box [.i m.1, .i m.2]), (15, .row 2 (O.map mvP))], [[(2, .box [.sl false 1 E1]), (3, .box [.sl false 1 E2]), (4, .box [.nils]), (6, .box [.i n])], []]⟩ =
      some (.exit 2, ⟨[(0, .i i), (1, .i j), (3, .ref (0, 6) 1 0 0), (4, .ref (0, 3) 1 0 0), (8, .own (2, 15) (O ++ rest.flatMap (lMN (namd bs) false n m)).length), (10, .ref (2, 10) 1 0 0), (20, .sl false 2 GM), (21, .i gl), (22, .i a), (42, .sl false 2 (H.map mvP)), (43, .i H.length), (44, .i H.length), (45, .b false)], [(10, .box [.i m.1, .i m.2]), (15, .row 2 ((O ++ rest.flatMap (lMN (namd bs) false n m)).map mvP))], [[(2, .box [.sl false 1 E1]), (3, .box [.sl false 1 E2]), (4, .box [.nils]), (6, .box [.i n])], []]⟩)
  := by
  intro rest
  induction rest with
  | nil =>
    intro done hd O hb2
    rw [List.append_nil] at hd
    subst hd
    rw [List.flatMap_nil, List.append_nil]
    generalize H.map mvP = HM
    generalize bools bs = BS
    generalize O.map mvP = OM
    rw [loopI_eq]
    simp [r107l0, b107l0, wr1]
  | cons x rest ih =>
    intro done hd O hb2
    have hml : (H.map mvP).length = H.length := by simp
    have hrl : H.length = done.length + (rest.length + 1) := by rw [hd]; simp
    have hlt : (done.length : Int) < H.length := by omega
    have hlt2 : done.length < H.length := by omega
    have hat2 : nth (H.map mvP) done.length = some (mvP x) := by rw [hd]; exact mv_at done x rest
    have hw : IntKind.i64.wrap ((done.length : Int) + 1) = (done.length : Int) + 1 := wr (by omega)
    have hx := hto x (by rw [hd]; simp)
    have hmb := mulb hm2 (by omega : (0 : Int) ≤ n ∧ (n : Int) ≤ 60)
    have hw1 : IntKind.i64.wrap (m.2 * (n : Int)) = m.2 * n := wr (by omega)
    have hw2 : IntKind.i64.wrap (m.2 * (n : Int) + x.2) = m.2 * n + x.2 := wr (by omega)
    have hac1 : -4 ≤ m.1 ∧ m.1 ≤ 4 := by simpa [actOk] using hma
    have hxa := hac x (by rw [hd]; simp)
    have hac2 : -4 ≤ x.1 ∧ x.1 ≤ 4 := by simpa [actOk] using hxa
    have hneg : IntKind.i64.wrap (-x.1) = -x.1 := wr (by omega)
    have hneg2 : IntKind.i64.wrap m.1 = m.1 := wr (by omega)
    simp only [mvP] at hat2
    by_cases c1 : m.1 = 0
    · have hl0 : lMN (namd bs) false n m x = [] := by simp [lMN, c1]
      rw [List.flatMap_cons, hl0, List.nil_append]
      have hn := ih (done ++ [x]) (by simpa using hd) O (by simp only [List.length_cons] at hb2; omega)
      simp only [List.length_append, List.length_cons, List.length_nil, Int.natCast_add, show ((0 + 1 : Nat) : Int) = 1 from rfl] at hn
      rw [← List.length_append] at hn
      generalize O ++ rest.flatMap _ = FF at hn ⊢
      have hOm : (O.map mvP).length = O.length := by simp
      generalize H.map mvP = HM at hat2 hml hn ⊢
      generalize bools bs = BS at hn ⊢
      simp only [c1] at hn
      generalize O.map mvP = OM at hn hOm ⊢
      rw [loopI_eq]
      simp [r107l0, b107l0, hml, hlt, hlt2, hat2, unAgg, hw, hw1, hw2, hneg, hneg2, c1, hOm]
      exact hn
    · by_cases c2 : m.1 = -x.1
      · have c3 : x.1 = -m.1 := by omega
        have hl0 : lMN (namd bs) false n m x = [(0, m.2 * n + x.2)] := by simp [lMN, c1, c3]
        rw [List.flatMap_cons, hl0, ← List.append_assoc]
        have hn := ih (done ++ [x]) (by simpa using hd) (O ++ [((0 : Int), m.2 * n + x.2)]) (by simp only [List.length_cons, List.length_append, List.length_nil] at hb2 ⊢; omega)
        generalize (O ++ [((0 : Int), m.2 * n + x.2)]) ++ rest.flatMap _ = FF at hn ⊢
        simp only [List.length_append, List.length_cons, List.length_nil, Int.natCast_add, show ((0 + 1 : Nat) : Int) = 1 from rfl, Nat.zero_add, List.map_append, List.map_cons, List.map_nil, mvP] at hn
        have hOl : O.length ≤ 4294967295 := by simp only [List.length_cons] at hb2; omega
        have hOm : (O.map mvP).length = O.length := by simp
        generalize H.map mvP = HM at hat2 hml hn ⊢
        generalize bools bs = BS at hn ⊢
        generalize O.map mvP = OM at hn hOm ⊢
        rw [loopI_eq]
        simp [r107l0, b107l0, hml, hlt, hlt2, hat2, unAgg, hw, hw1, hw2, hneg, hneg2, c1, ← c2, hOl, hOm]
        exact hn
      · have c3 : ¬ x.1 = -m.1 := by omega
        have hl0 : lMN (namd bs) false n m x = [] := by simp [lMN, c1, c3]
        rw [List.flatMap_cons, hl0, List.nil_append]
        have hn := ih (done ++ [x]) (by simpa using hd) O (by simp only [List.length_cons] at hb2; omega)
        simp only [List.length_append, List.length_cons, List.length_nil, Int.natCast_add, show ((0 + 1 : Nat) : Int) = 1 from rfl] at hn
        rw [← List.length_append] at hn
        generalize O ++ rest.flatMap _ = FF at hn ⊢
        have hOm : (O.map mvP).length = O.length := by simp
        generalize H.map mvP = HM at hat2 hml hn ⊢
        generalize bools bs = BS at hn ⊢
        generalize O.map mvP = OM at hn hOm ⊢
        rw [loopI_eq]
        simp [r107l0, b107l0, hml, hlt, hlt2, hat2, unAgg, hw, hw1, hw2, hneg, hneg2, c1, c2, hOm]
        exact hn
theorem loopIp2 (bs : List Bool) (hb : bs.length = 4) (E1 E2 : List PV) (n i : Nat) (hn60 : n ≤ 60) (hi60 : i ≤ 60) (hnf : ∀ a, namd bs a = false) (H : List Mv) (hHl : H.length ≤ 540) (hto : ∀ x ∈ H, 0 ≤ x.2 ∧ x.2 ≤ 60) (hac : ∀ x ∈ H, actOk x.1 = true) : ∀ (rest done : List Mv), H = done ++ rest → ∀ O : List Mv, O.length + rest.length ≤ 4000000 →
    loopI G [0, 3, 8, 76, 77, 78] [15, 37, 69, 93] c107l2 ⟨[(0, .i i), (3, .ref (0, 6) 1 0 0), (8, .own (2, 15) O.length), (76, .sl false 2 (H.map mvP)), (77, .i H.length), (78, .i done.length)], [(15, .row 2 (O.map mvP))], [[(2, .box [.sl false 1 E1]), (3, .box [.sl false 1 E2]), (4, .box [.nils]), (6, .box [.i n])], []]⟩ =
      some (.exit 4, ⟨[(0, .i i), (3, .ref (0, 6) 1 0 0), (8, .own (2, 15) (O ++ rest.flatMap (lX (namd bs) n i)).length), (76, .sl false 2 (H.map mvP)), (77, .i H.length), (78, .i H.length), (79, .b false)], [(15, .row 2 ((O ++ rest.flatMap (lX (namd bs) n i)).map mvP))], [[(2, .box [.sl false 1 E1]), (3, .box [.sl false 1 E2]), (4, .box [.nils]), (6, .box [.i n])], []]⟩)
  := by
  intro rest
  induction rest with
  | nil =>
    intro done hd O hb2
    rw [List.append_nil] at hd
    subst hd
    rw [List.flatMap_nil, List.append_nil]
    generalize H.map mvP = HM
    generalize bools bs = BS
    generalize O.map mvP = OM
    rw [loopI_eq]
    simp [r107l2, b107l2, wr1]
  | cons x rest ih =>
    intro done hd O hb2
    have hml : (H.map mvP).length = H.length := by simp
    have hrl : H.length = done.length + (rest.length + 1) := by rw [hd]; simp
    have hlt : (done.length : Int) < H.length := by omega
    have hlt2 : done.length < H.length := by omega
    have hat2 : nth (H.map mvP) done.length = some (mvP x) := by rw [hd]; exact mv_at done x rest
    have hw : IntKind.i64.wrap ((done.length : Int) + 1) = (done.length : Int) + 1 := wr (by omega)
    have hx := hto x (by rw [hd]; simp)
    have hmb := mulb (by omega : (0 : Int) ≤ i ∧ (i : Int) ≤ 60) (by omega : (0 : Int) ≤ n ∧ (n : Int) ≤ 60)
    have hw1 : IntKind.i64.wrap ((i : Int) * (n : Int)) = (i : Int) * n := wr (by omega)
    have hw2 : IntKind.i64.wrap ((i : Int) * (n : Int) + x.2) = (i : Int) * n + x.2 := wr (by omega)
    have hnm := eqNamedI x.1 bs (hac x (by rw [hd]; simp)) hb
    simp only [mvP] at hat2
    have hl0 : lX (namd bs) n i x = [(x.1, (i : Int) * n + x.2)] := by simp [lX, hnf]
    rw [List.flatMap_cons, hl0, ← List.append_assoc]
    have hn := ih (done ++ [x]) (by simpa using hd) (O ++ [(x.1, (i : Int) * n + x.2)]) (by simp only [List.length_cons, List.length_append, List.length_nil] at hb2 ⊢; omega)
    generalize (O ++ [(x.1, (i : Int) * n + x.2)]) ++ rest.flatMap _ = FF at hn ⊢
    simp only [List.length_append, List.length_cons, List.length_nil, Int.natCast_add, show ((0 + 1 : Nat) : Int) = 1 from rfl, Nat.zero_add, List.map_append, List.map_cons, List.map_nil, mvP] at hn
    have hOl : O.length ≤ 4294967295 := by simp only [List.length_cons] at hb2; omega
    have hOm : (O.map mvP).length = O.length := by simp
    generalize H.map mvP = HM at hat2 hml hn ⊢
    generalize bools bs = BS at hnm hn ⊢
    generalize O.map mvP = OM at hn hOm ⊢
    rw [loopI_eq]
    simp [r107l2, b107l2, hml, hlt, hlt2, hat2, unAgg, hw, hw1, hw2, hnm, hOl, hOm]
    exact hn
theorem loopIp1 (bs : List Bool) (hb : bs.length = 4) (E1 E2 : List PV) (n i j : Nat) (hn60 : n ≤ 60) (hj60 : j ≤ 60) (hnf : ∀ a, namd bs a = false) (hE2 : j < E2.length) (H : List Mv) (hHl : H.length ≤ 540) (hto : ∀ x ∈ H, 0 ≤ x.2 ∧ x.2 ≤ 60) (hac : ∀ x ∈ H, actOk x.1 = true) (hat : nth E2 j = some (.sl false 2 (H.map mvP))) (Gs : List Mv) (hGl : Gs.length ≤ 540) (htoG : ∀ x ∈ Gs, 0 ≤ x.2 ∧ x.2 ≤ 60) (hacG : ∀ x ∈ Gs, actOk x.1 = true) : ∀ (rest done : List Mv), Gs = done ++ rest → ∀ O : List Mv, O.length + 541 * rest.length ≤ 3000000 →
    loopI G [0, 1, 3, 4, 8, 20, 21, 22] [15, 37, 69, 93] c107l1 ⟨[(0, .i i), (1, .i j), (3, .ref (0, 6) 1 0 0), (4, .ref (0, 3) 1 0 0), (8, .own (2, 15) O.length), (20, .sl false 2 (Gs.map mvP)), (21, .i Gs.length), (22, .i done.length)], [(15, .row 2 (O.map mvP))], [[(2, .box [.sl false 1 E1]), (3, .box [.sl false 1 E2]), (4, .box [.nils]), (6, .box [.i n])], []]⟩ =
      some (.exit 0, ⟨[(0, .i i), (1, .i j), (3, .ref (0, 6) 1 0 0), (4, .ref (0, 3) 1 0 0), (8, .own (2, 15) (O ++ rest.flatMap (lM (namd bs) false n j H)).length), (20, .sl false 2 (Gs.map mvP)), (21, .i Gs.length), (22, .i Gs.length), (23, .b false)], [(15, .row 2 ((O ++ rest.flatMap (lM (namd bs) false n j H)).map mvP))], [[(2, .box [.sl false 1 E1]), (3, .box [.sl false 1 E2]), (4, .box [.nils]), (6, .box [.i n])], []]⟩)
  := by
  intro rest
  induction rest with
  | nil =>
    intro done hd O hb2
    rw [List.append_nil] at hd
    subst hd
    rw [List.flatMap_nil, List.append_nil]
    generalize Gs.map mvP = GM
    generalize bools bs = BS
    generalize O.map mvP = OM
    rw [loopI_eq]
    simp [r107l1, b107l1, wr1]
  | cons x rest ih =>
    intro done hd O hb2
    have hji : (j : Int) < E2.length := by omega
    have hml : (Gs.map mvP).length = Gs.length := by simp
    have hrl : Gs.length = done.length + (rest.length + 1) := by rw [hd]; simp
    have hlt : (done.length : Int) < Gs.length := by omega
    have hlt2 : done.length < Gs.length := by omega
    have hat2 : nth (Gs.map mvP) done.length = some (mvP x) := by rw [hd]; exact mv_at done x rest
    have hw : IntKind.i64.wrap ((done.length : Int) + 1) = (done.length : Int) + 1 := wr (by omega)
    have hm2 := htoG x (by rw [hd]; simp)
    have hmlH : (H.map mvP).length = H.length := by simp
    have hma := hacG x (by rw [hd]; simp)
    have hmb := mulb hm2 (by omega : (0 : Int) ≤ n ∧ (n : Int) ≤ 60)
    have hw1 : IntKind.i64.wrap (x.2 * (n : Int)) = x.2 * n := wr (by omega)
    have hw2 : IntKind.i64.wrap (x.2 * (n : Int) + (j : Int)) = x.2 * n + j := wr (by omega)
    have hnm := eqNamedI x.1 bs hma hb
    have hfl := flatMv_len H fun y _ => lMN_len (namd bs) false n x y
    simp only [mvP] at hat2
    simp only [List.length_cons] at hb2
    have hlm : lM (namd bs) false n j H x = [(x.1, x.2 * n + j)] ++ H.flatMap (lMN (namd bs) false n x) := by simp [lM, hnf]
    have h0 := loopIp0 bs hb E1 E2 n i j done.length hn60 (Gs.map mvP) Gs.length x hma hm2 H hHl hto hac H [] rfl (O ++ [(x.1, x.2 * n + j)]) (by simp only [List.length_append, List.length_cons, List.length_nil]; omega)
    have hn := ih (done ++ [x]) (by simpa using hd) ((O ++ [(x.1, x.2 * n + j)]) ++ H.flatMap (lMN (namd bs) false n x)) (by simp only [List.length_append, List.length_cons, List.length_nil] at hb2 ⊢; omega)
    rw [List.flatMap_cons, hlm, show O ++ ([(x.1, x.2 * n + j)] ++ H.flatMap (lMN (namd bs) false n x) ++ rest.flatMap (lM (namd bs) false n j H)) = (((O ++ [(x.1, x.2 * n + j)]) ++ H.flatMap (lMN (namd bs) false n x)) ++ rest.flatMap (lM (namd bs) false n j H)) from by simp]
    generalize ((O ++ [(x.1, x.2 * n + j)]) ++ H.flatMap (lMN (namd bs) false n x)) ++ rest.flatMap (lM (namd bs) false n j H) = FF at hn ⊢
    generalize (O ++ [(x.1, x.2 * n + j)]) ++ H.flatMap (lMN (namd bs) false n x) = F1 at h0 hn
    simp only [List.length_append, List.length_cons, List.length_nil, Int.natCast_add, show ((0 + 1 : Nat) : Int) = 1 from rfl, show ((0 : Nat) : Int) = 0 from rfl, Nat.zero_add, List.map_append, List.map_cons, List.map_nil, mvP] at h0 hn
    have hOl : O.length ≤ 4294967295 := by omega
    have hOm : (O.map mvP).length = O.length := by simp
    have hFm : (F1.map mvP).length = F1.length := by simp
    generalize Gs.map mvP = GM at hat2 hml h0 hn ⊢
    generalize H.map mvP = HM at hat hmlH h0
    generalize bools bs = BS at hnm h0 hn ⊢
    generalize O.map mvP = OM at h0 hOm ⊢
    generalize F1.map mvP = FM at h0 hn hFm
    rw [loopI_eq]
    simp [r107l1, b107l1, hml, hmlH, hlt, hlt2, hat2, unAgg, hw, hw1, hw2, hnm, hE2, hji, hat, h0, hOl, hOm, hFm]
    exact hn
theorem eqCloPar (bs : List Bool) (hb : bs.length = 4) (hnf : ∀ a, namd bs a = false) (g h : Gr) (hg : grOk g = true) (hh : grOk h = true) (i j : Nat) (hi : i < g.length) (hj : j < h.length) :
    callI G 107 [.i i, .i j, .ref (0, 2) 1 0 0, .ref (0, 6) 1 0 0, .ref (0, 3) 1 0 0] [[(2, .box [.sl false 1 (encGs false false g)]), (3, .box [.sl false 1 (encGs false false h)]), (4, .box [.nils]), (6, .box [.i h.length])], []] = some (.sl true 2 ((prL (namd bs) false h.length i j (g.getD i []) (h.getD j [])).map mvP), [[(2, .box [.sl false 1 (encGs false false g)]), (3, .box [.sl false 1 (encGs false false h)]), (4, .box [.nils]), (6, .box [.i h.length])], []]) := by
  obtain ⟨p1, p2, p3⟩ := grOk_to hg
  obtain ⟨q1, q2, q3⟩ := grOk_to hh
  have hgr := grOk_row hg i
  have hhr := grOk_row hh j
  have hGl := getD_len (grOk_short hg) i
  have hHl := getD_len (grOk_short hh) j
  have hgn := gff_nth hi
  have hhn := gff_nth hj
  have hii : (i : Int) < g.length := by omega
  have hji : (j : Int) < h.length := by omega
  have hE1 : (encGs false false g).length = g.length := by simp
  have hE2 : (encGs false false h).length = h.length := by simp
  have hGm : ((g.getD i []).map mvP).length = (g.getD i []).length := by simp
  have hHm : ((h.getD j []).map mvP).length = (h.getD j []).length := by simp
  have l1 := loopIp1 bs hb (encGs false false g) (encGs false false h) h.length i j q3 (by omega) hnf (by rw [hE2]; exact hj) (h.getD j []) hHl (fun x hx => (hhr x hx).2) (fun x hx => (hhr x hx).1) hhn (g.getD i []) hGl (fun x hx => (hgr x hx).2) (fun x hx => (hgr x hx).1) (g.getD i []) [] rfl [] (by simp only [List.length_nil]; omega)
  rw [List.nil_append] at l1
  have hO1 : ((g.getD i []).flatMap (lM (namd bs) false h.length j (h.getD j []))).length ≤ 300000 := by
    have := flatMv_len (f := lM (namd bs) false h.length j (h.getD j [])) (k := 541) (g.getD i []) fun x _ => Nat.le_trans (lM_len _ _ _ _ _ x) (by omega)
    omega
  have l2 := loopIp2 bs hb (encGs false false g) (encGs false false h) h.length i q3 (by omega) hnf (h.getD j []) hHl (fun x hx => (hhr x hx).2) (fun x hx => (hhr x hx).1) (h.getD j []) [] rfl ((g.getD i []).flatMap (lM (namd bs) false h.length j (h.getD j []))) (by omega)
  have hpr : (g.getD i []).flatMap (lM (namd bs) false h.length j (h.getD j [])) ++ (h.getD j []).flatMap (lX (namd bs) h.length i) = prL (namd bs) false h.length i j (g.getD i []) (h.getD j []) := rfl
  rw [hpr] at l2
  simp only [List.length_nil, List.map_nil, show ((0 : Nat) : Int) = 0 from rfl] at l1 l2
  have hPm : ((prL (namd bs) false h.length i j (g.getD i []) (h.getD j [])).map mvP).length = (prL (namd bs) false h.length i j (g.getD i []) (h.getD j [])).length := by simp
  generalize prL (namd bs) false h.length i j (g.getD i []) (h.getD j []) = O2 at l2 hPm ⊢
  generalize (g.getD i []).flatMap (lM (namd bs) false h.length j (h.getD j [])) = O1 at l1 l2
  generalize O2.map mvP = PM at l2 hPm ⊢
  generalize O1.map mvP = QM at l1 l2
  generalize (g.getD i []).map mvP = GM at hgn l1 hGm
  generalize (h.getD j []).map mvP = HM at hhn l2 hHm
  generalize (g.getD i []).length = gn at hGm l1
  generalize (h.getD j []).length = hn0 at hHm l2
  generalize encGs false false g = E1 at hE1 hgn l1 l2 ⊢
  generalize encGs false false h = E2 at hE2 hhn l1 l2 ⊢
  generalize bools bs = BS at l1 l2 ⊢
  rw [callI_eq]
  simp [body1_eq _ _ (gp 107) g107, c107, a107, hE1, hii, hi, hgn, hGm, l1, hE2, hji, hj, hhn, hHm, l2, hPm]
end Go.Am
end
section
set_option maxRecDepth 10000
set_option maxHeartbeats 4000000
set_option linter.unusedSimpArgs false
set_option linter.unusedVariables false
namespace Go.Am
open Go.Proofs Go.Sort Go.Shelf
theorem loopQPar0 (bs : List Bool) (hb : bs.length = 4) (hnf : ∀ a, namd bs a = false) (g h : Gr) (hg : grOk g = true) (hh : grOk h = true) (i : Nat) (hi : i < g.length) : ∀ (j k : Nat), k + j = h.length →
    loopI G [2, 4, 6, 8, 9, 14, 15, 20, 21] [4, 6, 11, 31, 35] c106l0 ⟨[(2, .clo 107 [.ref (0, 2) 1 0 0, .ref (0, 6) 1 0 0, .ref (0, 3) 1 0 0]), (4, .ref (1, 4) 1 0 0), (6, .ref (1, 6) 1 0 0), (8, .own (1, 11) (i * h.length + k)), (9, .i i), (14, .i g.length), (15, .i i), (20, .i h.length), (21, .i k)], [(4, .box [.sl false 1 (encGs false false h)]), (6, .box [.nils]), (11, .row 1 (encGs false true (prRows (namd bs) false g h i ++ prRow (namd bs) false g h i k)))], [[(2, .box [.sl false 1 (encGs false false g)]), (3, .box [.sl false 1 (encGs false false h)]), (4, .box [.nils]), (6, .box [.i h.length])]]⟩ =
      some (.exit 2, ⟨[(2, .clo 107 [.ref (0, 2) 1 0 0, .ref (0, 6) 1 0 0, .ref (0, 3) 1 0 0]), (4, .ref (1, 4) 1 0 0), (6, .ref (1, 6) 1 0 0), (8, .own (1, 11) ((i + 1) * h.length)), (9, .i i), (14, .i g.length), (15, .i i), (20, .i h.length), (21, .i h.length), (22, .b false)], [(4, .box [.sl false 1 (encGs false false h)]), (6, .box [.nils]), (11, .row 1 (encGs false true (prRows (namd bs) false g h (i + 1))))], [[(2, .box [.sl false 1 (encGs false false g)]), (3, .box [.sl false 1 (encGs false false h)]), (4, .box [.nils]), (6, .box [.i h.length])]]⟩) := by
  intro j
  induction j with
  | zero =>
    intro k hk
    have he : k = h.length := by omega
    subst he
    have hz : prRows (namd bs) false g h i ++ prRow (namd bs) false g h i h.length = prRows (namd bs) false g h (i + 1) := rfl
    rw [hz]
    have hz2 : i * h.length + h.length = (i + 1) * h.length := by rw [Nat.succ_mul]
    rw [hz2]
    generalize (i + 1) * h.length = N
    generalize encGs false true (prRows (namd bs) false g h (i + 1)) = D
    generalize encGs false false g = E1
    generalize encGs false false h = E2
    generalize bools bs = BS
    rw [loopI_eq]
    simp [r106l0, b106l0]
  | succ j ih =>
    intro k hk
    obtain ⟨p1, p2, p3⟩ := grOk_to hg
    obtain ⟨q1, q2, q3⟩ := grOk_to hh
    have hkh : k < h.length := by omega
    have hki : (k : Int) < h.length := by omega
    have hw : IntKind.i64.wrap ((k : Int) + 1) = (k : Int) + 1 := wr (by omega)
    have hGl := getD_len (grOk_short hg) i
    have hHl := getD_len (grOk_short hh) k
    have hcl := eqCloPar bs hb hnf g h hg hh i k hi hkh
    have hpl := prL_len (nm := namd bs) (sync := false) (n := h.length) (s := i) (t := k) hGl hHl
    have hDl : (encGs false true (prRows (namd bs) false g h i ++ prRow (namd bs) false g h i k)).length = i * h.length + k := by rw [encGs_len, List.length_append, prRows_len, prRow_len]
    have hDb : i * h.length + k ≤ 4294967295 := by
      have := Nat.mul_le_mul (by omega : i ≤ 60) q3
      omega
    have hnew : encGs false true (prRows (namd bs) false g h i ++ prRow (namd bs) false g h i (k + 1)) = encGs false true (prRows (namd bs) false g h i ++ prRow (namd bs) false g h i k) ++ [.sl true 2 ((prR (namd bs) false g h i k).map mvP)] := by
      rw [prRow_succ, ← List.append_assoc, encGs_app]
      rfl
    have hn := ih (k + 1) (by omega)
    rw [hnew] at hn
    have hna : i * h.length + (k + 1) = i * h.length + k + 1 := rfl
    rw [hna] at hn
    simp only [Int.natCast_add, show ((1 : Nat) : Int) = 1 from rfl] at hn
    have hprr : prR (namd bs) false g h i k = tidyL (prL (namd bs) false h.length i k (g.getD i []) (h.getD k [])) := rfl
    have hns := noShares_mv (prR (namd bs) false g h i k)
    have hns2 := noShares_mv (prL (namd bs) false h.length i k (g.getD i []) (h.getD k []))
    have hPm : ((prL (namd bs) false h.length i k (g.getD i []) (h.getD k [])).map mvP).length = (prL (namd bs) false h.length i k (g.getD i []) (h.getD k [])).length := by simp
    have htd := eqTidy (1, 28) (prL (namd bs) false h.length i k (g.getD i []) (h.getD k [])) [[(2, .box [.sl false 1 (encGs false false g)]), (3, .box [.sl false 1 (encGs false false h)]), (4, .box [.nils]), (6, .box [.i h.length])], [(4, .box [.sl false 1 (encGs false false h)]), (6, .box [.nils]), (11, .row 1 (encGs false true (prRows (namd bs) false g h i ++ prRow (namd bs) false g h i k))), (28, .row 2 ((prL (namd bs) false h.length i k (g.getD i []) (h.getD k [])).map mvP))]] (by simp) rfl (by omega)
    generalize encGs false true (prRows (namd bs) false g h i ++ prRow (namd bs) false g h i k) = D at htd hn hDl ⊢
    generalize i * h.length + k = dl at hn hDl hDb ⊢
    have hTl : srtM (prL (namd bs) false h.length i k (g.getD i []) (h.getD k [])) = tidyL (prL (namd bs) false h.length i k (g.getD i []) (h.getD k [])) → (prR (namd bs) false g h i k).length = (prL (namd bs) false h.length i k (g.getD i []) (h.getD k [])).length := fun e => by rw [hprr, ← e]; simp [srtM]
    have hTm : ((prR (namd bs) false g h i k).map mvP).length = (prR (namd bs) false g h i k).length := by simp
    rw [← hprr] at htd
    generalize prL (namd bs) false h.length i k (g.getD i []) (h.getD k []) = O2 at hcl htd hns2 hPm hTl hprr
    generalize prR (namd bs) false g h i k = T at htd hn hns hTm hTl hprr
    generalize O2.map mvP = PM at hcl htd hns2 hPm
    generalize T.map mvP = TM at htd hn hns hTm
    generalize encGs false false g = E1 at hcl htd hn ⊢
    generalize encGs false false h = E2 at hcl htd hn ⊢
    generalize bools bs = BS at hcl htd hn ⊢
    rcases htd with ⟨hq, ht⟩ | ht
    · have hT2 := hTl (by rw [← hq, hprr])
      simp only [setS, List.modify_cons, setO] at ht
      rw [loopI_eq]
      simp [r106l0, b106l0, hki, hcl, ht, hPm, hTm, hT2, hns, hns2, hDl, hDb, hw]
      exact hn
    · simp only [setS, List.modify_cons, setO] at ht
      rw [loopI_eq]
      simp [r106l0, b106l0, hki, hcl, ht, hPm, hTm, hns, hns2, hDl, hDb, hw]
      exact hn
theorem loopQPar1 (bs : List Bool) (hb : bs.length = 4) (hnf : ∀ a, namd bs a = false) (g h : Gr) (hg : grOk g = true) (hh : grOk h = true) : ∀ (j i : Nat), i + j = g.length →
    loopI G [2, 4, 6, 8, 14, 15] [4, 6, 11, 31, 35] c106l1 ⟨[(2, .clo 107 [.ref (0, 2) 1 0 0, .ref (0, 6) 1 0 0, .ref (0, 3) 1 0 0]), (4, .ref (1, 4) 1 0 0), (6, .ref (1, 6) 1 0 0), (8, .own (1, 11) (i * h.length)), (14, .i g.length), (15, .i i)], [(4, .box [.sl false 1 (encGs false false h)]), (6, .box [.nils]), (11, .row 1 (encGs false true (prRows (namd bs) false g h i)))], [[(2, .box [.sl false 1 (encGs false false g)]), (3, .box [.sl false 1 (encGs false false h)]), (4, .box [.nils]), (6, .box [.i h.length])]]⟩ =
      some (.exit 0, ⟨[(2, .clo 107 [.ref (0, 2) 1 0 0, .ref (0, 6) 1 0 0, .ref (0, 3) 1 0 0]), (4, .ref (1, 4) 1 0 0), (6, .ref (1, 6) 1 0 0), (8, .own (1, 11) (g.length * h.length)), (14, .i g.length), (15, .i g.length), (16, .b false)], [(4, .box [.sl false 1 (encGs false false h)]), (6, .box [.nils]), (11, .row 1 (encGs false true (pairG (namd bs) false g h)))], [[(2, .box [.sl false 1 (encGs false false g)]), (3, .box [.sl false 1 (encGs false false h)]), (4, .box [.nils]), (6, .box [.i h.length])]]⟩) := by
  intro j
  induction j with
  | zero =>
    intro i hi
    have he : i = g.length := by omega
    subst he
    generalize g.length * h.length = N
    have hz : pairG (namd bs) false g h = prRows (namd bs) false g h g.length := rfl
    rw [hz]
    generalize encGs false true (prRows (namd bs) false g h g.length) = D
    generalize encGs false false g = E1
    generalize encGs false false h = E2
    generalize bools bs = BS
    rw [loopI_eq]
    simp [r106l1, b106l1]
  | succ j ih =>
    intro i hi
    obtain ⟨p1, p2, p3⟩ := grOk_to hg
    have hii : (i : Int) < g.length := by omega
    have hw : IntKind.i64.wrap ((i : Int) + 1) = (i : Int) + 1 := wr (by omega)
    have hE2 : (encGs false false h).length = h.length := by simp
    have h0 := loopQPar0 bs hb hnf g h hg hh i (by omega) h.length 0 (by omega)
    have hz : prRows (namd bs) false g h i ++ prRow (namd bs) false g h i 0 = prRows (namd bs) false g h i := by simp [prRow]
    rw [hz, Nat.add_zero] at h0
    have hn := ih (i + 1) (by omega)
    simp only [Int.natCast_add, show ((1 : Nat) : Int) = 1 from rfl, show ((0 : Nat) : Int) = 0 from rfl] at h0 hn
    generalize encGs false true (prRows (namd bs) false g h i) = D at h0 ⊢
    generalize encGs false true (prRows (namd bs) false g h (i + 1)) = D1 at h0 hn
    generalize encGs false true (pairG (namd bs) false g h) = D2 at hn ⊢
    generalize i * h.length = N0 at h0 ⊢
    generalize (i + 1) * h.length = N1 at h0 hn
    generalize encGs false false g = E1 at h0 hn ⊢
    generalize encGs false false h = E2 at hE2 h0 hn ⊢
    generalize bools bs = BS at h0 hn ⊢
    rw [loopI_eq]
    simp [r106l1, b106l1, hii, hE2, h0, hw]
    exact hn
theorem eqPairedPar (bs : List Bool) (hb : bs.length = 4) (hnf : ∀ a, namd bs a = false) (g h : Gr) (hg : grOk g = true) (hh : grOk h = true) :
    callI G 106 [.agg [.sl false 1 (encGs false false g)], .agg [.sl false 1 (encGs false false h)], .clo 107 [.ref (0, 2) 1 0 0, .ref (0, 6) 1 0 0, .ref (0, 3) 1 0 0]] [[(2, .box [.sl false 1 (encGs false false g)]), (3, .box [.sl false 1 (encGs false false h)]), (4, .box [.nils]), (6, .box [.i h.length])]] = some (.tup [encG true true (made (pairG (namd bs) false g h)).1, .b (made (pairG (namd bs) false g h)).2], [[(2, .box [.sl false 1 (encGs false false g)]), (3, .box [.sl false 1 (encGs false false h)]), (4, .box [.nils]), (6, .box [.i h.length])]]) := by
  obtain ⟨p1, p2, p3⟩ := grOk_to hg
  obtain ⟨q1, q2, q3⟩ := grOk_to hh
  have hE1 : (encGs false false g).length = g.length := by simp
  have l1 := loopQPar1 bs hb hnf g h hg hh g.length 0 (by omega)
  have hpos : 0 < g.length * h.length := Nat.mul_pos (by omega) (by omega)
  have hp := eqPartOf _ (pairG (namd bs) false g h) (encR_G false true (pairG (namd bs) false g h)).fal (pairG_to p1 q1) (pairG_small hg hh) (by rw [pairG_len]; exact hpos)
  have hDl : (encGs false true (pairG (namd bs) false g h)).length = g.length * h.length := by rw [encGs_len, pairG_len]
  have hz : encGs false true (prRows (namd bs) false g h 0) = [] := rfl
  rw [hz, Nat.zero_mul] at l1
  simp only [show ((0 : Nat) : Int) = 0 from rfl] at l1
  generalize hm : made (pairG (namd bs) false g h) = m at hp ⊢
  obtain ⟨mg, mb⟩ := m
  simp only [encG] at hp ⊢
  have hns := noShares_encGs true mg
  generalize encGs false true (pairG (namd bs) false g h) = D at l1 hp hDl
  generalize g.length * h.length = N at l1 hDl
  generalize encGs false false g = E1 at hE1 l1 ⊢
  generalize encGs false false h = E2 at l1 ⊢
  generalize bools bs = BS at l1 ⊢
  rw [callI_eq]
  rcases encM_two true true mg with ⟨e, _⟩ | e
  · rw [e] at hp ⊢
    simp [body1_eq _ _ (gp 106) g106, c106, a106, hE1, l1, hDl, hp, hns]
  · rw [e] at hp ⊢
    simp [body1_eq _ _ (gp 106) g106, c106, a106, hE1, l1, hDl, hp, hns]
theorem namd4 (a : Int) : namd [false, false, false, false] a = false := by
  unfold namd
  by_cases h : a = 0
  · simp [h]
  · simp only [h, decide_false, Bool.not_false, Bool.true_and]
    rcases (nameI a).toNat with _ | _ | _ | _ | k <;> rfl
def graphPar (g h : Gr) : Gr × Bool := pairs (namd [false, false, false, false]) false g h
theorem eqGraphParS (g h : Gr) (hsG : SmallG g) (hsH : SmallG h) (hfG : FitG g) (hfH : FitG h) :
    callI G 42 [.agg [.sl false 1 (encGs false false g)], .agg [.sl false 1 (encGs false false h)]] [] = some (.tup [encG true true (graphPar g h).1, .b (graphPar g h).2], []) := by
  have h1 := eqOkS g hfG
  have h2 := eqOkS h hfH
  simp only [encG, encM_f] at h1 h2
  have hE2 : (encGs false false h).length = h.length := by simp
  rw [callI_eq]
  cases c1 : grOk g with
  | false =>
    rw [c1] at h1
    simp [body1_eq _ _ (gp 42) g42, c42, a42, h1, graphPar, pairs, c1]
  | true =>
    rw [c1] at h1
    cases c2 : grOk h with
    | false =>
      rw [c2] at h2
      simp [body1_eq _ _ (gp 42) g42, c42, a42, h1, h2, graphPar, pairs, c1, c2]
    | true =>
      rw [c2] at h2
      have hga : graphPar g h = made (pairG (namd [false, false, false, false]) false g h) := by simp [graphPar, pairs, c1, c2]
      rw [hga]
      obtain ⟨p1, p2, p3⟩ := grOk_to c1
      obtain ⟨q1, q2, q3⟩ := grOk_to c2
      have hp := eqPairsS [false, false, false, false] rfl false g h c1 c2
      have hmd := eqMade _ (pairG (namd [false, false, false, false]) false g h) (encR_G true true (pairG (namd [false, false, false, false]) false g h)).fal (pairG_to p1 q1) (pairG_small c1 c2) (by rw [pairG_len]; exact Nat.mul_pos (by omega) (by omega))
      have hns0 := noShares_encGs true (pairG (namd [false, false, false, false]) false g h)
      have hbz : bools [false, false, false, false] = [.b false, .b false, .b false, .b false] := rfl
      rw [hbz] at hp
      generalize hm : made (pairG (namd [false, false, false, false]) false g h) = m at hmd ⊢
      obtain ⟨mg, mb⟩ := m
      simp only [encG] at hmd ⊢
      have hns := noShares_encGs true mg
      generalize encGs true true (pairG (namd [false, false, false, false]) false g h) = D at hp hmd hns0
      generalize encGs false false g = E1 at h1 hp ⊢
      generalize encGs false false h = E2 at h2 hp ⊢
      have hr4 : List.replicate 4 (PV.b false) = [.b false, .b false, .b false, .b false] := rfl
      rcases encM_two true true mg with ⟨e, _⟩ | e
      all_goals
        rw [e] at hmd ⊢
        simp [body1_eq _ _ (gp 42) g42, c42, a42, h1, h2, hr4, fals, fal, hp, hmd, hns, hns0]
theorem eqGraphParI (g h : Gr) (hsG : SmallG g) (hsH : SmallG h) (hfG : FitG g) (hfH : FitG h) :
    callI G 43 [.agg [.sl false 1 (encGs false false g)], .agg [.sl false 1 (encGs false false h)]] [] = some (.tup [encG true true (graphPar g h).1, .b (graphPar g h).2], []) := by
  have h1 := eqOkI g hfG
  have h2 := eqOkI h hfH
  simp only [encG, encM_f] at h1 h2
  have hE2 : (encGs false false h).length = h.length := by simp
  rw [callI_eq]
  cases c1 : grOk g with
  | false =>
    rw [c1] at h1
    simp [body1_eq _ _ (gp 43) g43, c43, a43, h1, graphPar, pairs, c1]
  | true =>
    rw [c1] at h1
    cases c2 : grOk h with
    | false =>
      rw [c2] at h2
      simp [body1_eq _ _ (gp 43) g43, c43, a43, h1, h2, graphPar, pairs, c1, c2]
    | true =>
      rw [c2] at h2
      have hga : graphPar g h = made (pairG (namd [false, false, false, false]) false g h) := by simp [graphPar, pairs, c1, c2]
      rw [hga]
      have hp := eqPairedPar [false, false, false, false] rfl namd4 g h c1 c2
      generalize hm : made (pairG (namd [false, false, false, false]) false g h) = m at hp ⊢
      obtain ⟨mg, mb⟩ := m
      simp only [encG] at hp ⊢
      have hns := noShares_encGs true mg
      generalize encGs false false g = E1 at h1 hp ⊢
      generalize encGs false false h = E2 at h2 hE2 hp ⊢
      rcases encM_two true true mg with ⟨e, _⟩ | e
      all_goals
        rw [e] at hp ⊢
        simp [body1_eq _ _ (gp 43) g43, c43, a43, h1, h2, hE2, hp, hns]
end Go.Am
end
section
set_option maxRecDepth 10000
set_option maxHeartbeats 1000000
set_option linter.unusedSimpArgs false
set_option linter.unusedVariables false
namespace Go.Am
open Go.Proofs Go.Sort Go.Shelf
/-! sizes behind others -/
theorem eqSzGL (g : Gr) (hf : FitG g) (L : Int) (h0 : 0 ≤ L) (h1 : L ≤ 1048576) : callI G 14 [encG false false g, .i L] [] = some (.i (if szG g L < 0 then -1 else szG g L), []) := by
  have hs : callI G 58 [.sl false 1 (encGs false false g), .i L] [] = some (.i (if szG g L < 0 then -1 else szG g L), []) := by
    have hw : IntKind.i64.wrap (L - g.length) = L - g.length := wr (by have := hf.1; omega)
    rw [callI_eq]
    unfold szG
    by_cases c : L - g.length < 0
    · simp [body1_eq _ _ (gp 58) g58, c58, a58, hw, c]
    · have hl := loopSzMs g [] (L - g.length) hf.2 (by simpa using hf.1) (by omega) (by omega)
      simp only [List.nil_append, List.length_nil, show ((0 : Nat) : Int) = 0 from rfl] at hl
      by_cases c2 : szMs g (L - g.length) < 0
      · rw [if_pos c2] at hl
        simp [body1_eq _ _ (gp 58) g58, c58, a58, hw, c, hl, c2]
      · rw [if_neg c2] at hl
        simp [body1_eq _ _ (gp 58) g58, c58, a58, hw, c, hl, c2]
  rw [callI_eq]
  by_cases c : szG g L < 0
  · simp only [c, if_true] at hs
    simp [body1_eq _ _ (gp 14) g14, c14, a14, hs, c]
  · simp only [c, if_false] at hs
    simp [body1_eq _ _ (gp 14) g14, c14, a14, hs, c]
theorem szG_smallL {g : Gr} {L : Int} (h1 : L ≤ 1048576) (h : ¬ szG g L < 0) : SmallG g ∧ szG g L ≤ 1048576 := by
  unfold szG at h ⊢
  split at h
  · omega
  · rename_i hh
    rw [if_neg hh]
    obtain ⟨q1, q2⟩ := szMs_le g _ (by omega) h
    exact ⟨⟨by omega, fun x hx => by have := q2 x hx; omega⟩, by omega⟩
end Go.Am
end
section
set_option maxRecDepth 10000
set_option maxHeartbeats 4000000
set_option linter.unusedSimpArgs false
set_option linter.unusedVariables false
namespace Go.Am
open Go.Proofs Go.Sort Go.Shelf
theorem graphPar_small {g h : Gr} (hg : SmallG g) (hh : SmallG h) : SmallG (graphPar g h).1 := by
  unfold graphPar pairs
  split
  · rename_i hc
    simp only [Bool.and_eq_true] at hc
    exact made_small (pairG_small hc.1 hc.2)
  · exact ⟨by simp, fun l hl => by cases hl⟩
theorem lawGraphPar (e g : Gr) (hfe : FitG e) (hfg : FitG g) : callI G 9 [encG false false e, encG false false g] [] = some (.b true, []) := by
  rw [callI_eq]
  have h1 := eqSzG e hfe
  by_cases hs : szG e 1048576 < 0
  · simp only [encG, encM_f, hs, if_true] at h1 ⊢
    simp [body1_eq _ _ (gp 9) g9, c9, a9, h1]
  obtain ⟨hse, hLe⟩ := szG_smallL (by omega) hs
  have h2 := eqSzGL g hfg (szG e 1048576) (by omega) hLe
  by_cases hs2 : szG g (szG e 1048576) < 0
  · simp only [encG, encM_f, hs, if_false] at h1 ⊢
    simp only [encG, encM_f, hs2, if_true] at h2 ⊢
    simp [body1_eq _ _ (gp 9) g9, c9, a9, h1, hs, h2]
  obtain ⟨hsg, _⟩ := szG_smallL hLe hs2
  have ht1 := eqToG e hse
  have ht2 := eqToG g hsg
  have hE1 := eqEqG false false e e hfe
  have hE2 := eqEqG false false g g hfg
  have hS := eqGraphParS e g hse hsg hfe hfg
  have hI := eqGraphParI e g hse hsg hfe hfg
  have hr := graphPar_small hse hsg
  have hfl : fals (encGs false true e) = encGs false false e := fals_encGs _ _ _
  have hfl2 : fals (encGs false true g) = encGs false false g := fals_encGs _ _ _
  have hn1 := noShares_encGs false e
  have hn2 := noShares_encGs false g
  generalize hR : graphPar e g = R at hS hI hr
  obtain ⟨q, b⟩ := R
  have hrc := SmallG.cnt hr
  simp only at hrc
  have hce := SmallG.cnt hse
  have hcg := SmallG.cnt hsg
  have hpe := cntG_pos e
  have hpg := cntG_pos g
  have hpq := cntG_pos q
  have hEq := eqEqG true true q q hr.fit
  have hH := eqHlG true q 1 (by have := hr.1; simp only at this; omega) (by omega) (by omega)
  have hMe := fun (Lo : Objs) (h : getO Lo 36 = some (.row 1 (encGs false true e))) => eqMkG false e 1 [Lo] (0, 36) (by simp) h (by have := hse.1; omega) (by omega) (by omega)
  have hMg := fun (Lo : Objs) (h : getO Lo 38 = some (.row 1 (encGs false true g))) => eqMkG false g (1 + 2 * cntG e) [Lo] (0, 38) (by simp) h (by have := hsg.1; omega) (by omega) (by omega)
  have hMq := fun (Lo : Objs) (h : getO Lo 42 = some (.row 1 (encGs true true q))) => eqMkG true q 1 [Lo] (0, 42) (by simp) h (by have := hr.1; simp only at this; omega) (by omega) (by omega)
  simp only [show ∀ (Lo : Objs) (d : Nat) (ob : OB), setS [Lo] (0, d) ob = [setO Lo d ob] from fun _ _ _ => rfl] at hMe hMg hMq
  have hns := noShares_encGs true q
  have hflq : fals (encGs true true q) = encGs true false q := fals_encGs _ _ _
  have hflm : ∀ k, fals (encGs true true (mkG k q)) = encGs true false (mkG k q) := fun k => fals_encGs _ _ _
  have hk : ¬ (1 + 2 * cntG e + 2 * cntG g < 0) := by omega
  have hk2 : ¬ (1 + 2 * cntG q < 0) := by omega
  simp only [decide_true] at hE1 hE2 hEq
  simp only [encG, encM_f, hs, hs2, if_false] at h1 h2 ht1 ht2 hE1 hE2 hS hI hEq hH ⊢
  rcases encM_two true true q with ⟨e0, e2⟩ | e0
  · subst e2
    have hM := eqMkGN 1
    simp only [encM_n, mkG, cntG, Int.mul_zero, Int.add_zero] at hS hI hEq hH
    simp [body1_eq _ _ (gp 9) g9, c9, a9, h1, hs, h2, hs2, ht1, ht2, hE1, hE2, hS, hI, hEq, hH, hM, hfl, hfl2, hn1, hn2, hMe, hMg, hk]
  · have hqn : q ≠ [] := by intro e3; rw [e3] at e0; cases e0
    have eF : encM' true false q = .sl false 1 (encGs true false q) := encM_ne hqn
    have eM : encM' true false (mkG 1 q) = .sl false 1 (encGs true false (mkG 1 q)) := encM_ne (mkG_ne hqn)
    rw [e0] at hS hI
    rw [eF] at hEq
    rw [eM] at hH
    simp [body1_eq _ _ (gp 9) g9, c9, a9, h1, hs, h2, hs2, ht1, ht2, hE1, hE2, hS, hI, hEq, hH, hfl, hfl2, hflq, hflm, hns, hn1, hn2, hk, hk2, hMe, hMg, hMq]
end Go.Am
end
