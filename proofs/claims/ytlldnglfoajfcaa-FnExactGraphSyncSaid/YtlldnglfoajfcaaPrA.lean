/- Pairs of states and what the reference makes of them. -/
import Derived.Test.YtlldnglfoajfcaaGtD
section
set_option maxRecDepth 10000
set_option maxHeartbeats 1000000
set_option linter.unusedSimpArgs false
set_option linter.unusedVariables false
namespace Go.Am
open Go.Proofs Go.Sort Go.Shelf
/-! impl.GraphSum -/
def sumR (g h : Gr) : List Mv := shL 1 (g.getD 0 []) ++ shL (1 + g.length : Nat) (h.getD 0 [])
def sumG (g h : Gr) : Gr := tidyL (sumR g h) :: (g.map (shL 1) ++ h.map (shL (1 + g.length : Nat)))
def graphSum (g h : Gr) : Gr × Bool := if grOk g && grOk h then made (sumG g h) else ([], false)
theorem sumG_len (g h : Gr) : (sumG g h).length = 1 + g.length + h.length := by simp [sumG]; omega
theorem getD_mem0 {g : Gr} (h : 1 ≤ g.length) : g.getD 0 [] ∈ g := by
  rw [List.getD_eq_getElem?_getD, List.getElem?_eq_getElem (by omega), Option.getD_some]
  exact List.getElem_mem _
theorem sumG_to {g h : Gr} (hg : OkTo g) (hh : OkTo h) (g1 : 1 ≤ g.length) (h1 : 1 ≤ h.length) : OkTo (sumG g h) := by
  intro l hl m hm
  rw [sumG_len]
  have key1 : ∀ l ∈ g, ∀ m ∈ shL 1 l, 0 ≤ m.2 ∧ m.2 < ((1 + g.length + h.length : Nat) : Int) := by
    intro l hl m hm
    simp only [shL, List.mem_map] at hm
    obtain ⟨y, hy, rfl⟩ := hm
    have := hg l hl y hy
    simp only; omega
  have key2 : ∀ l ∈ h, ∀ m ∈ shL (1 + g.length : Nat) l, 0 ≤ m.2 ∧ m.2 < ((1 + g.length + h.length : Nat) : Int) := by
    intro l hl m hm
    simp only [shL, List.mem_map] at hm
    obtain ⟨y, hy, rfl⟩ := hm
    have := hh l hl y hy
    simp only; omega
  unfold sumG at hl
  rcases List.mem_cons.1 hl with rfl | hl
  · have hm := ((tidyL_sd _).2 m).1 hm
    unfold sumR at hm
    rcases List.mem_append.1 hm with hm | hm
    · exact key1 _ (getD_mem0 g1) m hm
    · exact key2 _ (getD_mem0 h1) m hm
  · rcases List.mem_append.1 hl with hl | hl
    · obtain ⟨r, hr, rfl⟩ := List.mem_map.1 hl
      exact key1 r hr m hm
    · obtain ⟨r, hr, rfl⟩ := List.mem_map.1 hl
      exact key2 r hr m hm
/-! rows of graphs that are ones are short -/
def keyM (n : Nat) (m : Mv) : Int := (m.1 + 4) * n + m.2
theorem mvOk_in {n : Nat} {m : Mv} (h : mvOk n m = true) : -4 ≤ m.1 ∧ m.1 ≤ 4 ∧ 0 ≤ m.2 ∧ m.2 < n := by
  simp only [mvOk, actOk, Bool.and_eq_true, decide_eq_true_eq] at h
  omega
theorem keyM_lt {n : Nat} {p m : Mv} (hp : mvOk n p = true) (hm : mvOk n m = true) (h : ltM p m = true) : keyM n p < keyM n m := by
  have a := mvOk_in hp
  have b := mvOk_in hm
  unfold keyM
  rcases (ltM_iff p m).1 h with h | ⟨h1, h2⟩
  · have h3 : (p.1 + 4 + 1) * (n : Int) ≤ (m.1 + 4) * n := Int.mul_le_mul_of_nonneg_right (by omega) (by omega)
    rw [Int.add_mul, Int.one_mul] at h3
    omega
  · rw [h1]; omega
theorem keyM_le {n : Nat} {m : Mv} (hm : mvOk n m = true) : 0 ≤ keyM n m ∧ keyM n m < 9 * n := by
  have b := mvOk_in hm
  unfold keyM
  have h1 : 0 ≤ (m.1 + 4) * (n : Int) := Int.mul_nonneg (by omega) (by omega)
  have h2 : (m.1 + 4) * (n : Int) ≤ 8 * n := Int.mul_le_mul_of_nonneg_right (by omega) (by omega)
  omega
theorem rowOk_len {n : Nat} : ∀ {l : List Mv} {p : Mv}, mvOk n p = true → rowOk n (some p) l = true → (l.length : Int) + keyM n p + 1 ≤ 9 * n
  | [], p, hp, _ => by have := (keyM_le hp).2; simp only [List.length_nil]; omega
  | m :: l, p, hp, h => by
    simp only [rowOk, prevOk, Bool.and_eq_true] at h
    have h1 := rowOk_len h.1 h.2.2
    have h2 := keyM_lt hp h.1 h.2.1
    simp only [List.length_cons]
    omega
theorem grOk_short {g : Gr} (h : grOk g = true) : ∀ l ∈ g, l.length ≤ 540 := by
  intro l hl
  have h60 := (grOk_to h).2.2
  simp only [grOk, Bool.and_eq_true, decide_eq_true_eq, List.all_eq_true] at h
  have hr := h.2.2 l hl
  cases l with
  | nil => simp
  | cons m l =>
    simp only [rowOk, Bool.and_eq_true] at hr
    have h1 := rowOk_len hr.1 hr.2.2
    have h2 := (keyM_le hr.1).1
    simp only [List.length_cons]
    omega
theorem sumG_small {g h : Gr} (hg : SmallG g) (hh : SmallG h) (h60 : g.length ≤ 60) (k60 : h.length ≤ 60) (hr : (sumR g h).length ≤ 1048576) : SmallG (sumG g h) := by
  refine ⟨by rw [sumG_len]; omega, fun l hl => ?_⟩
  unfold sumG at hl
  rcases List.mem_cons.1 hl with rfl | hl
  · exact Nat.le_trans (tidyL_len _) hr
  · rcases List.mem_append.1 hl with hl | hl
    · obtain ⟨r, hr, rfl⟩ := List.mem_map.1 hl
      rw [shL_len]; exact hg.2 r hr
    · obtain ⟨r, hr, rfl⟩ := List.mem_map.1 hl
      rw [shL_len]; exact hh.2 r hr
theorem loopGu0 (B : PV) (hB : ∀ f n, known f n B = true) (n : Nat) (hn60 : n ≤ 60) (XA : List PV) (hXA : XA.length = n) (at_ : Int) (b : Gr) (hb : OkTo b) (h60 : b.length ≤ 60) (hs : SmallG b) : ∀ (rest done : Gr), b = done ++ rest →
    loopI G [3, 4, 6, 7, 40, 41, 42] [3, 4, 38, 50, 64, 67] c37l0 ⟨[(3, .ref (0, 3) 1 0 0), (4, .ref (0, 4) 1 0 0), (6, .i at_), (7, .own (0, 38) (n + done.length)), (40, .sl false 1 (encGs false false b)), (41, .i b.length), (42, .i done.length)], [(3, .box [B]), (4, .box [.nils]), (38, .row 1 (XA ++ encGs true true (done.map (shL 1))))], []⟩ =
      some (.exit 0, ⟨[(3, .ref (0, 3) 1 0 0), (4, .ref (0, 4) 1 0 0), (6, .i at_), (7, .own (0, 38) (n + b.length)), (40, .sl false 1 (encGs false false b)), (41, .i b.length), (42, .i b.length), (43, .b false)], [(3, .box [B]), (4, .box [.nils]), (38, .row 1 (XA ++ encGs true true (b.map (shL 1))))], []⟩)
  | [], done, hd => by
    rw [List.append_nil] at hd
    subst hd
    generalize XA ++ encGs true true (b.map (shL 1)) = Q
    generalize encGs false false b = E
    rw [loopI_eq]
    simp [r37l0, b37l0, hB]
  | x :: rest, done, hd => by
    have hrl : b.length = done.length + (rest.length + 1) := by rw [hd]; simp
    have hlt : (done.length : Int) < b.length := by omega
    have hlt2 : done.length < b.length := by omega
    have hw : IntKind.i64.wrap ((done.length : Int) + 1) = (done.length : Int) + 1 := wr (by omega)
    have hdl : n + done.length ≤ 4294967295 := by omega
    have hat : nth (encGs false false b) done.length = some (.sl false 2 (x.map mvP)) := by rw [hd]; simpa using gr_at false false done x rest
    have hEl : (encGs false false b).length = b.length := by simp
    have hxb : x ∈ b := by rw [hd]; simp
    have hsh := eqShift 1 (by omega) x (fun m hm => by have := hb x hxb m hm; omega) (by have := hs.2 x hxb; omega)
    have hn := loopGu0 B hB n hn60 XA hXA at_ b hb h60 hs rest (done ++ [x]) (by simpa using hd)
    have hnew : XA ++ encGs true true ((done ++ [x]).map (shL 1)) = (XA ++ encGs true true (done.map (shL 1))) ++ [encL true true (shL 1 x)] := by simp [encGs]
    have hDl : (XA ++ encGs true true (done.map (shL 1))).length = n + done.length := by simp [hXA]
    rw [hnew] at hn
    simp only [List.length_append, List.length_cons, List.length_nil, Int.natCast_add, show ((0 + 1 : Nat) : Int) = 1 from rfl] at hn
    have hna : n + (done.length + (0 + 1)) = n + done.length + 1 := by omega
    rw [hna] at hn
    have hns := noShares_mv (shL 1 x)
    generalize hF : XA ++ encGs true true (b.map (shL 1)) = F at hn ⊢
    generalize hD : XA ++ encGs true true (done.map (shL 1)) = D at hn hDl ⊢
    generalize hE : encGs false false b = E at hat hEl hn ⊢
    rw [loopI_eq]
    rcases encL_two true true (shL 1 x) with ⟨e, _⟩ | e
    · rw [e] at hsh hn
      simp [r37l0, b37l0, hB, hlt, hlt2, hat, hEl, hsh, hDl, hdl, hw]
      exact hn
    · rw [e] at hsh hn
      generalize (shL 1 x).map mvP = Q at hsh hn hns
      simp [r37l0, b37l0, hB, hlt, hlt2, hat, hEl, hsh, hDl, hdl, hw, hns]
      exact hn
theorem loopGu1 (n k : Nat) (hn60 : n ≤ 200) (hk : k ≤ 1000) (XA : List PV) (hXA : XA.length = n) (b : Gr) (hb : OkTo b) (h60 : b.length ≤ 60) (hs : SmallG b) : ∀ (rest done : Gr), b = done ++ rest →
    loopI G [4, 6, 7, 53, 54, 55] [4, 38, 50, 64, 67] c37l1 ⟨[(4, .ref (0, 4) 1 0 0), (6, .i k), (7, .own (0, 38) (n + done.length)), (53, .sl false 1 (encGs false false b)), (54, .i b.length), (55, .i done.length)], [(4, .box [.nils]), (38, .row 1 (XA ++ encGs true true (done.map (shL k))))], []⟩ =
      some (.exit 2, ⟨[(4, .ref (0, 4) 1 0 0), (6, .i k), (7, .own (0, 38) (n + b.length)), (53, .sl false 1 (encGs false false b)), (54, .i b.length), (55, .i b.length), (56, .b false)], [(4, .box [.nils]), (38, .row 1 (XA ++ encGs true true (b.map (shL k))))], []⟩)
  | [], done, hd => by
    rw [List.append_nil] at hd
    subst hd
    generalize XA ++ encGs true true (b.map (shL k)) = Q
    generalize encGs false false b = E
    rw [loopI_eq]
    simp [r37l1, b37l1]
  | x :: rest, done, hd => by
    have hrl : b.length = done.length + (rest.length + 1) := by rw [hd]; simp
    have hlt : (done.length : Int) < b.length := by omega
    have hlt2 : done.length < b.length := by omega
    have hw : IntKind.i64.wrap ((done.length : Int) + 1) = (done.length : Int) + 1 := wr (by omega)
    have hdl : n + done.length ≤ 4294967295 := by omega
    have hat : nth (encGs false false b) done.length = some (.sl false 2 (x.map mvP)) := by rw [hd]; simpa using gr_at false false done x rest
    have hEl : (encGs false false b).length = b.length := by simp
    have hxb : x ∈ b := by rw [hd]; simp
    have hsh := eqShift k (by omega) x (fun m hm => by have := hb x hxb m hm; omega) (by have := hs.2 x hxb; omega)
    have hn := loopGu1 n k hn60 hk XA hXA b hb h60 hs rest (done ++ [x]) (by simpa using hd)
    have hnew : XA ++ encGs true true ((done ++ [x]).map (shL k)) = (XA ++ encGs true true (done.map (shL k))) ++ [encL true true (shL k x)] := by simp [encGs]
    have hDl : (XA ++ encGs true true (done.map (shL k))).length = n + done.length := by simp [hXA]
    rw [hnew] at hn
    simp only [List.length_append, List.length_cons, List.length_nil, Int.natCast_add, show ((0 + 1 : Nat) : Int) = 1 from rfl] at hn
    have hna : n + (done.length + (0 + 1)) = n + done.length + 1 := by omega
    rw [hna] at hn
    have hns := noShares_mv (shL k x)
    generalize hF : XA ++ encGs true true (b.map (shL k)) = F at hn ⊢
    generalize hD : XA ++ encGs true true (done.map (shL k)) = D at hn hDl ⊢
    generalize hE : encGs false false b = E at hat hEl hn ⊢
    rw [loopI_eq]
    rcases encL_two true true (shL k x) with ⟨e, _⟩ | e
    · rw [e] at hsh hn
      simp [r37l1, b37l1, hlt, hlt2, hat, hEl, hsh, hDl, hdl, hw]
      exact hn
    · rw [e] at hsh hn
      generalize (shL k x).map mvP = Q at hsh hn hns
      simp [r37l1, b37l1, hlt, hlt2, hat, hEl, hsh, hDl, hdl, hw, hns]
      exact hn
theorem eqGraphSumI (g h : Gr) (hsG : SmallG g) (hsH : SmallG h) (hfG : FitG g) (hfH : FitG h) :
    callI G 37 [.agg [.sl false 1 (encGs false false g)], .agg [.sl false 1 (encGs false false h)]] [] = some (.tup [encG true true (graphSum g h).1, .b (graphSum g h).2], []) := by
  have h1 := eqOkI g hfG
  have h2 := eqOkI h hfH
  simp only [encG, encM_f] at h1 h2
  have hE1 : (encGs false false g).length = g.length := by simp
  have hE2 : (encGs false false h).length = h.length := by simp
  cases c1 : grOk g with
  | false =>
    rw [c1] at h1
    rw [callI_eq]
    simp [body1_eq _ _ (gp 37) g37, c37, a37, h1, graphSum, c1]
  | true =>
    rw [c1] at h1
    cases c2 : grOk h with
    | false =>
      rw [c2] at h2
      rw [callI_eq]
      simp [body1_eq _ _ (gp 37) g37, c37, a37, h1, h2, graphSum, c1, c2]
    | true =>
      rw [c2] at h2
      obtain ⟨p1, p2, p3⟩ := grOk_to c1
      obtain ⟨q1, q2, q3⟩ := grOk_to c2
      have hw : IntKind.i64.wrap (1 + (g.length : Int)) = ((1 + g.length : Nat) : Int) := by rw [wr (by omega)]; omega
      have hmg := getD_mem0 p2
      have hmh := getD_mem0 q2
      have hlg := grOk_short c1 _ hmg
      have hlh := grOk_short c2 _ hmh
      have hs1 := eqShift 1 (by omega) (g.getD 0 []) (fun m hm => by have := p1 _ hmg m hm; omega) (by omega)
      have hs2 := eqShift ((1 + g.length : Nat) : Int) (by omega) (h.getD 0 []) (fun m hm => by have := q1 _ hmh m hm; omega) (by omega)
      have hn1 : nth (encGs false false g) 0 = some (.sl false 2 ((g.getD 0 []).map mvP)) := by rw [gr_nth false false g 0 (by omega)]; simp
      have hn2 : nth (encGs false false h) 0 = some (.sl false 2 ((h.getD 0 []).map mvP)) := by rw [gr_nth false false h 0 (by omega)]; simp
      have hg0 : 0 < g.length := by omega
      have hh0 : 0 < h.length := by omega
      have hg0i : (0 : Int) < g.length := by omega
      have hh0i : (0 : Int) < h.length := by omega
      have hAB : (shL 1 (g.getD 0 [])).length + (shL (1 + g.length : Nat) (h.getD 0 [])).length ≤ 1080 := by simp only [shL_len]; omega
      have hsr : (sumR g h).length ≤ 1080 := by unfold sumR; rw [List.length_append]; exact hAB
      have hsm := sumG_small hsG hsH p3 q3 (by omega)
      have hEE : EncR true ([PV.sl true 2 ((tidyL (sumR g h)).map mvP)] ++ encGs true true (g.map (shL 1)) ++ encGs true true (h.map (shL (1 + g.length : Nat)))) (sumG g h) := by
        have := ((encR_G false true [tidyL (sumR g h)]).app (encR_G true true (g.map (shL 1)))).app (encR_G true true (h.map (shL (1 + g.length : Nat))))
        simpa [encGs, sumG] using this
      have hp := eqPartOf _ (sumG g h) hEE.fal (sumG_to p1 q1 p2 q2) hsm (by rw [sumG_len]; omega)
      have l0 := loopGu0 (.sl false 1 (encGs false false h)) (by intro f n; simp) 1 (by omega) [PV.sl true 2 ((tidyL (sumR g h)).map mvP)] rfl ((1 + g.length : Nat) : Int) g p1 p3 hsG g [] rfl
      have l1 := loopGu1 (1 + g.length) (1 + g.length) (by omega) (by omega) ([PV.sl true 2 ((tidyL (sumR g h)).map mvP)] ++ encGs true true (g.map (shL 1))) (by simp; omega) h q1 q3 hsH h [] rfl
      simp only [List.length_nil, show ((0 : Nat) : Int) = 0 from rfl, List.map_nil, show encGs true true [] = [] from rfl, List.append_nil, Nat.add_zero] at l0 l1
      have hga : graphSum g h = made (sumG g h) := by simp [graphSum, c1, c2]
      have hXl : ([PV.sl true 2 ((tidyL (sumR g h)).map mvP)] ++ encGs true true (g.map (shL 1)) ++ encGs true true (h.map (shL (1 + g.length : Nat)))).length = 1 + g.length + h.length := by rw [hEE.1, sumG_len]
      have hns0 := noShares_mv (tidyL (sumR g h))
      rw [hga]
      generalize hm : made (sumG g h) = m at hp ⊢
      obtain ⟨mg, mb⟩ := m
      simp only [encG] at hp ⊢
      have hns := noShares_encGs true mg
      have hsR : sumR g h = shL 1 (g.getD 0 []) ++ shL (1 + g.length : Nat) (h.getD 0 []) := rfl
      have hnA := noShares_mv (shL 1 (g.getD 0 []))
      have hnB := noShares_mv (shL (1 + g.length : Nat) (h.getD 0 []))
      generalize hX1 : [PV.sl true 2 ((tidyL (sumR g h)).map mvP)] ++ encGs true true (g.map (shL 1)) ++ encGs true true (h.map (shL (1 + g.length : Nat))) = X1 at hp l1 hXl
      generalize hX0 : [PV.sl true 2 ((tidyL (sumR g h)).map mvP)] ++ encGs true true (g.map (shL 1)) = X0 at l0 l1
      rw [hsR] at l0 hns0 hsr
      generalize shL 1 (g.getD 0 []) = A at hs1 hAB hnA l0 hns0 hsr
      generalize shL (1 + g.length : Nat) (h.getD 0 []) = B at hs2 hAB hnB l0 hns0 hsr
      generalize ((1 + g.length : Nat) : Int) = ati at hw hs2 l0 l1
      generalize (g.getD 0 []).map mvP = GA at hs1 hn1
      generalize (h.getD 0 []).map mvP = HB at hs2 hn2
      generalize encGs false false g = E1 at h1 hE1 hn1 l0 l1 ⊢
      generalize encGs false false h = E2 at h2 hE2 hn2 l0 l1 ⊢
      have hAl : (A.map mvP).length = A.length := by simp
      have hBl : (B.map mvP).length = B.length := by simp
      have hfA := fals_mvP A
      have hfB := fals_mvP B
      have hA4 : A.length ≤ 4294967296 := by omega
      have hB4 : B.length ≤ 4294967296 := by omega
      have hAB4 : A.length + B.length ≤ 4294967296 := by omega
      rcases encL_two true true A with ⟨eA, eA2⟩ | eA
      · rcases encL_two true true B with ⟨eB, eB2⟩ | eB
        · subst eA2 eB2
          rw [eA] at hs1
          rw [eB] at hs2
          rcases eqTidy (0, 36) [] [[(2, .box [.sl false 1 E1]), (3, .box [.sl false 1 E2]), (4, .box [.nils]), (36, .row 2 [])]] (by simp) rfl (by simp) with ⟨hq, ht⟩ | ht
          all_goals
            simp only [List.append_nil, tidyL_n, List.map_nil, List.length_nil] at ht l0
            rcases encM_two true true mg with ⟨e, _⟩ | e
            all_goals
              rw [e] at hp ⊢
              rw [callI_eq]
              simp [body1_eq _ _ (gp 37) g37, c37, a37, h1, h2, hE1, hE2, hw, hn1, hn2, hg0, hh0, hg0i, hh0i, hs1, hs2, ht, setS, setO, l0, l1, hXl, hp, hns]
        · subst eA2
          rw [eA] at hs1
          rw [eB] at hs2
          rcases eqTidy (0, 36) B [[(2, .box [.sl false 1 E1]), (3, .box [.sl false 1 E2]), (4, .box [.nils]), (35, .dead), (36, .row 2 (B.map mvP))]] (by simp) rfl (by omega) with ⟨hq, ht⟩ | ht
          all_goals
            simp only [List.nil_append] at l0 hns0
            first
              | have hTl : (tidyL B).length = B.length := by rw [hq]; simp [srtM]
              | have hTl : True := trivial
            have hTm : ((tidyL B).map mvP).length = (tidyL B).length := by simp
            generalize (tidyL B).map mvP = TB at ht l0 hns0 hTm
            generalize B.map mvP = BM at hs2 ht hBl hfB hnB
            rcases encM_two true true mg with ⟨e, _⟩ | e
            all_goals
              rw [e] at hp ⊢
              rw [callI_eq]
              simp [body1_eq _ _ (gp 37) g37, c37, a37, h1, h2, hE1, hE2, hw, hn1, hn2, hg0, hh0, hg0i, hh0i, hs1, hs2, hBl, hfB, hnB, hB4, ht, setS, setO, hTm, hTl, l0, l1, hXl, hp, hns, hns0]
      · rcases encL_two true true B with ⟨eB, eB2⟩ | eB
        · subst eB2
          rw [eA] at hs1
          rw [eB] at hs2
          rcases eqTidy (0, 29) A [[(2, .box [.sl false 1 E1]), (3, .box [.sl false 1 E2]), (4, .box [.nils]), (29, .row 2 (A.map mvP))]] (by simp) rfl (by omega) with ⟨hq, ht⟩ | ht
          all_goals
            simp only [List.append_nil] at l0 hns0
            first
              | have hTl : (tidyL A).length = A.length := by rw [hq]; simp [srtM]
              | have hTl : True := trivial
            have hTm : ((tidyL A).map mvP).length = (tidyL A).length := by simp
            generalize (tidyL A).map mvP = TB at ht l0 hns0 hTm
            generalize A.map mvP = AM at hs1 ht hAl hfA hnA
            rcases encM_two true true mg with ⟨e, _⟩ | e
            all_goals
              rw [e] at hp ⊢
              rw [callI_eq]
              simp [body1_eq _ _ (gp 37) g37, c37, a37, h1, h2, hE1, hE2, hw, hn1, hn2, hg0, hh0, hg0i, hh0i, hs1, hs2, hAl, hfA, hnA, hA4, ht, setS, setO, hTm, hTl, l0, l1, hXl, hp, hns, hns0]
        · rw [eA] at hs1
          rw [eB] at hs2
          rcases eqTidy (0, 29) (A ++ B) [[(2, .box [.sl false 1 E1]), (3, .box [.sl false 1 E2]), (4, .box [.nils]), (29, .row 2 (A.map mvP ++ B.map mvP)), (35, .dead)]] (by simp) (by simp [getS, getO]) (by simp; omega) with ⟨hq, ht⟩ | ht
          all_goals
            first
              | have hTl : (tidyL (A ++ B)).length = A.length + B.length := by rw [hq]; simp [srtM]
              | have hTl : True := trivial
            have hTm : ((tidyL (A ++ B)).map mvP).length = (tidyL (A ++ B)).length := by simp
            rw [List.length_append] at ht
            generalize (tidyL (A ++ B)).map mvP = TB at ht l0 hns0 hTm
            generalize A.map mvP = AM at hs1 ht hAl hfA hnA
            generalize B.map mvP = BM at hs2 ht hBl hfB hnB
            rcases encM_two true true mg with ⟨e, _⟩ | e
            all_goals
              rw [e] at hp ⊢
              rw [callI_eq]
              simp [body1_eq _ _ (gp 37) g37, c37, a37, h1, h2, hE1, hE2, hw, hn1, hn2, hg0, hh0, hg0i, hh0i, hs1, hs2, hAl, hfA, hnA, hA4, hBl, hfB, hnB, hB4, hAB4, ht, setS, setO, hTm, hTl, l0, l1, hXl, hp, hns, hns0]
end Go.Am
end
section
set_option maxRecDepth 10000
set_option maxHeartbeats 1000000
set_option linter.unusedSimpArgs false
set_option linter.unusedVariables false
namespace Go.Am
open Go.Proofs Go.Sort Go.Shelf
/-! slices.IndexFunc and slices.DeleteFunc at moves, with a closure over one box of an outer frame -/
def CloOK (cf : Nat) (cid : Id) (B : List PV) (F : Mv → Bool) : Prop :=
  ∀ (o : Stack) (x : Mv), cid.1 < o.length → getS o cid = some (.box B) → callI G cf [mvP x, .ref cid 1 0 0] o = some (.b (F x), o)
theorem loopIx (cf : Nat) (cid : Id) (B : List PV) (F : Mv → Bool) (hc : CloOK cf cid B F) (id : Id) (l : List Mv) (o : Stack) (hid : id.1 < o.length) (hg : getS o id = some (.row 2 (l.map mvP))) (hcid : cid.1 < o.length) (hB : getS o cid = some (.box B)) (hN : l.length ≤ 4611686018427387904) : ∀ (rest done : List Mv), l = done ++ rest →
    (∃ a x b, rest = a ++ x :: b ∧ (∀ y ∈ a, F y = false) ∧ F x = true ∧ loopI G [0, 1, 7, 8] [] c143l0 ⟨[(0, .own id l.length), (1, .clo cf [.ref cid 1 0 0]), (7, .i l.length), (8, .i done.length)], [], o⟩ = some (.ret, ⟨[(4, .i (done ++ a).length)], [], o⟩)) ∨
    ((∀ y ∈ rest, F y = false) ∧ loopI G [0, 1, 7, 8] [] c143l0 ⟨[(0, .own id l.length), (1, .clo cf [.ref cid 1 0 0]), (7, .i l.length), (8, .i done.length)], [], o⟩ = some (.exit 0, ⟨[(0, .own id l.length), (1, .clo cf [.ref cid 1 0 0]), (7, .i l.length), (8, .i l.length), (9, .b false)], [], o⟩))
  | [], done, hd => by
    rw [List.append_nil] at hd
    subst hd
    have hne : ¬ id.1 = o.length := by omega
    have hne2 : ¬ cid.1 = o.length := by omega
    refine .inr ⟨fun y hy => (by cases hy), ?_⟩
    rw [loopI_eq]
    simp [-St.get, -St.set, r143l0, b143l0, hne, hne2]
  | x :: rest, done, hd => by
    have hne : ¬ id.1 = o.length := by omega
    have hne2 : ¬ cid.1 = o.length := by omega
    have hget : ∀ r l', St.get ⟨r, l', o⟩ id = some (.row 2 (l.map mvP)) := fun r l' => by rw [get_low hid, hg]
    have hgetc : ∀ r l', St.get ⟨r, l', o⟩ cid = some (.box B) := fun r l' => by rw [get_low hcid, hB]
    have hll : l.length = done.length + (rest.length + 1) := by rw [hd]; simp
    have hlt : (done.length : Int) < l.length := by omega
    have hlt2 : done.length < l.length := by omega
    have hw : IntKind.i64.wrap ((done.length : Int) + 1) = (done.length : Int) + 1 := wr (by omega)
    have hat : nth (l.map mvP) done.length = some (mvP x) := by rw [hd]; exact mv_at done x rest
    have hml : (l.map mvP).length = l.length := by simp
    have hcx := hc (o ++ [[]]) x (by simp; omega) (by rw [getS_app _ _ _ hcid]; exact hB)
    simp only [mvP] at hat hcx
    cases hF : F x with
    | true =>
      rw [hF] at hcx
      refine .inl ⟨[], x, rest, rfl, (fun y hy => by cases hy), hF, ?_⟩
      generalize hM : l.map mvP = M at hat hml hget
      rw [loopI_eq]
      simp [-St.get, -St.set, r143l0, b143l0, hne, hne2, hget, hgetc, hlt, hlt2, hml, hat, hcx]
    | false =>
      rw [hF] at hcx
      have ih := loopIx cf cid B F hc id l o hid hg hcid hB hN rest (done ++ [x]) (by simpa using hd)
      simp only [List.length_append, List.length_cons, List.length_nil, Int.natCast_add, show ((0 + 1 : Nat) : Int) = 1 from rfl] at ih
      rcases ih with ⟨a, z, b, h1, h2, h3, h4⟩ | ⟨h1, h2⟩
      · refine .inl ⟨x :: a, z, b, by rw [h1]; rfl, fun y hy => ?_, h3, ?_⟩
        · rcases List.mem_cons.1 hy with rfl | hy
          · exact hF
          · exact h2 y hy
        · generalize hM : l.map mvP = M at hat hml hget
          rw [loopI_eq]
          simp [-St.get, -St.set, r143l0, b143l0, hne, hne2, hget, hgetc, hlt, hlt2, hml, hat, hcx, hw]
          simpa [Int.add_assoc, Int.add_comm 1] using h4
      · refine .inr ⟨fun y hy => ?_, ?_⟩
        · rcases List.mem_cons.1 hy with rfl | hy
          · exact hF
          · exact h1 y hy
        · generalize hM : l.map mvP = M at hat hml hget
          rw [loopI_eq]
          simp [-St.get, -St.set, r143l0, b143l0, hne, hne2, hget, hgetc, hlt, hlt2, hml, hat, hcx, hw]
          simpa using h2
theorem eqIx (cf : Nat) (cid : Id) (B : List PV) (F : Mv → Bool) (hc : CloOK cf cid B F) (id : Id) (l : List Mv) (o : Stack) (hid : id.1 < o.length) (hg : getS o id = some (.row 2 (l.map mvP))) (hcid : cid.1 < o.length) (hB : getS o cid = some (.box B)) (hN : l.length ≤ 4611686018427387904) :
    (∃ a x b, l = a ++ x :: b ∧ (∀ y ∈ a, F y = false) ∧ F x = true ∧ callI G 143 [.own id l.length, .clo cf [.ref cid 1 0 0]] o = some (.i a.length, o)) ∨
    ((∀ y ∈ l, F y = false) ∧ callI G 143 [.own id l.length, .clo cf [.ref cid 1 0 0]] o = some (.i (-1), o)) := by
  have hne : ¬ id.1 = o.length := by omega
  have hne2 : ¬ cid.1 = o.length := by omega
  have hget : ∀ r l', St.get ⟨r, l', o⟩ id = some (.row 2 (l.map mvP)) := fun r l' => by rw [get_low hid, hg]
  have hml : (l.map mvP).length = l.length := by simp
  rcases loopIx cf cid B F hc id l o hid hg hcid hB hN l [] rfl with ⟨a, x, b, h1, h2, h3, h4⟩ | ⟨h1, h2⟩
  · refine .inl ⟨a, x, b, h1, h2, h3, ?_⟩
    rw [List.nil_append] at h4
    simp only [List.length_nil, show ((0 : Nat) : Int) = 0 from rfl] at h4
    generalize hM : l.map mvP = M at hml hget
    rw [callI_eq]
    simp [-St.get, -St.set, body1_eq _ _ (gp 143) g143, c143, a143, hne, hne2, hget, hml, hid, hcid, h4]
  · refine .inr ⟨h1, ?_⟩
    simp only [List.length_nil, show ((0 : Nat) : Int) = 0 from rfl] at h2
    generalize hM : l.map mvP = M at hml hget
    rw [callI_eq]
    simp [-St.get, -St.set, body1_eq _ _ (gp 143) g143, c143, a143, hne, hne2, hget, hml, hid, hcid, h2]
end Go.Am
end
section
set_option maxRecDepth 10000
set_option maxHeartbeats 1000000
set_option linter.unusedSimpArgs false
set_option linter.unusedVariables false
namespace Go.Am
open Go.Proofs Go.Sort Go.Shelf
theorem getS_ne {o : Stack} {id cid : Id} {R : OB} (h : id.1 < o.length) (hn : cid ≠ id) : getS (setS o id R) cid = getS o cid := by
  rw [← gt_getS, gt_setS h, ← gt_getS]
  simp [upd, hn]
theorem loopDl (cf : Nat) (cid : Id) (B : List PV) (F : Mv → Bool) (hc : CloOK cf cid B F) (id : Id) (hci : cid ≠ id) (N : Nat) (hN : N ≤ 4611686018427387904) : ∀ (rest K M : List Mv) (o : Stack), id.1 < o.length → getS o id = some (.row 2 ((K ++ (M ++ rest)).map mvP)) → cid.1 < o.length → getS o cid = some (.box B) → M ≠ [] → N = K.length + M.length + rest.length →
    ∃ Z : List Mv, Z.length = N - (K ++ rest.filter (fun y => !F y)).length ∧ loopI G [0, 1, 5, 6] [] c94l0 ⟨[(0, .own id N), (1, .clo cf [.ref cid 1 0 0]), (5, .i K.length), (6, .i (K.length + M.length))], [], o⟩ =
      some (.exit 0, ⟨[(0, .own id N), (1, .clo cf [.ref cid 1 0 0]), (5, .i (K ++ rest.filter (fun y => !F y)).length), (6, .i N), (19, .b false)], [], setS o id (.row 2 (((K ++ rest.filter (fun y => !F y)) ++ Z).map mvP))⟩)
  | [], K, M, o, hid, hg, hcid, hB, hM, hl => by
    have hne : ¬ id.1 = o.length := by omega
    have hne2 : ¬ cid.1 = o.length := by omega
    simp only [List.append_nil, List.length_nil, Nat.add_zero] at hg hl
    refine ⟨M, by simp; omega, ?_⟩
    have e2 : setS o id (.row 2 (((K ++ ([] : List Mv).filter (fun y => !F y)) ++ M).map mvP)) = o := setS_same o id _ (by simpa using hg)
    have hget : ∀ r l', St.get ⟨r, l', o⟩ id = some (.row 2 ((K ++ M).map mvP)) := fun r l' => by rw [get_low hid, hg]
    have hml : ((K ++ M).map mvP).length = N := by simp; omega
    have hki : (K.length : Int) + M.length = N := by omega
    rw [e2, hki]
    generalize hX : (K ++ M).map mvP = X at hget hml
    rw [loopI_eq]
    simp [-St.get, -St.set, r94l0, b94l0, hne, hne2, hget, hml]
  | y :: rest, K, M, o, hid, hg, hcid, hB, hM, hl => by
    simp only [List.length_cons] at hl
    have hne : ¬ id.1 = o.length := by omega
    have hne2 : ¬ cid.1 = o.length := by omega
    have hget : ∀ r l', St.get ⟨r, l', o⟩ id = some (.row 2 ((K ++ (M ++ y :: rest)).map mvP)) := fun r l' => by rw [get_low hid, hg]
    have hgetc : ∀ r l', St.get ⟨r, l', o⟩ cid = some (.box B) := fun r l' => by rw [get_low hcid, hB]
    have hset : ∀ r l' R, St.set ⟨r, l', o⟩ id R = ⟨r, l', setS o id R⟩ := fun r l' R => set_low hid
    have hml : ((K ++ (M ++ y :: rest)).map mvP).length = N := by simp; omega
    have hM0 : 0 < M.length := List.length_pos_iff.2 hM
    have hlt : (K.length : Int) + M.length < N := by omega
    have hltK : (K.length : Int) < N := by omega
    have hge : (0 : Int) ≤ (K.length : Int) + M.length := by omega
    have htn : ((K.length : Int) + M.length).toNat = K.length + M.length := by omega
    have hw : IntKind.i64.wrap ((K.length : Int) + M.length + 1) = (K.length : Int) + M.length + 1 := wr (by omega)
    have hwK : IntKind.i64.wrap ((K.length : Int) + 1) = (K.length : Int) + 1 := wr (by omega)
    have hat : nth ((K ++ (M ++ y :: rest)).map mvP) (K.length + M.length) = some (mvP y) := by
      have := mv_at (K ++ M) y rest
      simpa using this
    have hcx := hc (o ++ [[]]) y (by simp; omega) (by rw [getS_app _ _ _ hcid]; exact hB)
    simp only [mvP] at hat hcx
    cases hF : F y with
    | true =>
      rw [hF] at hcx
      obtain ⟨Z, hZ, hn⟩ := loopDl cf cid B F hc id hci N hN rest K (M ++ [y]) o hid (by simpa using hg) hcid hB (by simp) (by simp; omega)
      have hfl : (y :: rest).filter (fun y => !F y) = rest.filter (fun y => !F y) := by simp [hF]
      rw [hfl]
      refine ⟨Z, hZ, ?_⟩
      simp only [List.length_append, List.length_cons, List.length_nil, Int.natCast_add, show ((0 + 1 : Nat) : Int) = 1 from rfl] at hn ⊢
      generalize hX : (K ++ (M ++ y :: rest)).map mvP = X at hget hml hat
      generalize hR : OB.row 2 ((K ++ rest.filter (fun y => !F y) ++ Z).map mvP) = R at hn ⊢
      rw [loopI_eq]
      simp [-St.get, -St.set, r94l0, b94l0, hne, hne2, hget, hgetc, hml, hlt, hge, htn, hat, hcx, hw, get_own, set_own]
      simpa [Int.add_assoc] using hn
    | false =>
      rw [hF] at hcx
      obtain ⟨m, M', hMc⟩ : ∃ m M', M = m :: M' := by cases M with | nil => exact absurd rfl hM | cons m M' => exact ⟨m, M', rfl⟩
      have hrow : ((K ++ (M ++ y :: rest)).map mvP).set K.length (mvP y) = ((K ++ [y]) ++ ((M' ++ [y]) ++ rest)).map mvP := by
        rw [hMc]
        simp
      have hatK : nth ((K ++ (M ++ y :: rest)).map mvP) K.length = some (mvP m) := by rw [hMc]; exact mv_at K m (M' ++ y :: rest)
      have hMl : M.length = M'.length + 1 := by rw [hMc]; simp
      obtain ⟨Z, hZ, hn⟩ := loopDl cf cid B F hc id hci N hN rest (K ++ [y]) (M' ++ [y]) (setS o id (.row 2 (((K ++ [y]) ++ ((M' ++ [y]) ++ rest)).map mvP))) (by rw [setS_len]; exact hid) (by rw [getS_setS hid]) (by rw [setS_len]; exact hcid) (by rw [getS_ne hid hci]; exact hB) (by simp) (by simp; omega)
      rw [setS_setS] at hn
      have hfl : K ++ (y :: rest).filter (fun y => !F y) = (K ++ [y]) ++ rest.filter (fun y => !F y) := by simp [hF]
      rw [hfl]
      refine ⟨Z, hZ, ?_⟩
      have hkk : ((K ++ [y]).length : Int) + ((M' ++ [y]).length : Int) = (K.length : Int) + M.length + 1 := by simp; omega
      have hk1 : ((K ++ [y]).length : Int) = (K.length : Int) + 1 := by simp
      rw [hkk, hk1] at hn
      simp only [mvP] at hrow hatK
      generalize hX : (K ++ (M ++ y :: rest)).map mvP = X at hget hml hat hrow hatK
      generalize hR : OB.row 2 ((K ++ [y] ++ rest.filter (fun y => !F y) ++ Z).map mvP) = R at hn ⊢
      generalize hX2 : (K ++ [y] ++ (M' ++ [y] ++ rest)).map mvP = X2 at hrow hn
      rw [loopI_eq]
      simp [-St.get, -St.set, r94l0, b94l0, hne, hne2, hget, hgetc, hset, hml, hlt, hltK, hge, htn, hat, hatK, hcx, hw, hwK, unAgg, hrow, setS_len, get_own, set_own]
      simpa [Int.add_assoc] using hn
end Go.Am
end
section
set_option maxRecDepth 10000
set_option maxHeartbeats 1000000
set_option linter.unusedSimpArgs false
set_option linter.unusedVariables false
namespace Go.Am
open Go.Proofs Go.Sort Go.Shelf
theorem filter_all {F : Mv → Bool} : ∀ {l : List Mv}, (∀ y ∈ l, F y = false) → l.filter (fun y => !F y) = l
  | [], _ => rfl
  | x :: l, h => by
    have h1 := h x List.mem_cons_self
    simp [h1]
    intro a b hab
    exact h (a, b) (List.mem_cons_of_mem _ hab)
theorem eqDelete (cf : Nat) (cid : Id) (B : List PV) (F : Mv → Bool) (hc : CloOK cf cid B F) (id : Id) (hci : cid ≠ id) (l : List Mv) (o : Stack) (hid : id.1 < o.length) (hg : getS o id = some (.row 2 (l.map mvP))) (hcid : cid.1 < o.length) (hB : getS o cid = some (.box B)) (hN : l.length ≤ 4611686018427387904) :
    (l.filter (fun y => !F y) = l ∧ callI G 94 [.own id l.length, .clo cf [.ref cid 1 0 0]] o = some (.own id l.length, o)) ∨
    callI G 94 [.own id l.length, .clo cf [.ref cid 1 0 0]] o = some (.sl true 2 ((l.filter (fun y => !F y)).map mvP), setS o id .dead) := by
  have hne : ¬ id.1 = o.length := by omega
  have hne2 : ¬ cid.1 = o.length := by omega
  have hix := eqIx cf cid B F hc id l (o ++ [[]]) (by simp; omega) (by rw [getS_app _ _ _ hid]; exact hg) (by simp; omega) (by rw [getS_app _ _ _ hcid]; exact hB) hN
  rw [callI_eq]
  rcases hix with ⟨a, x, b, h1, h2, h3, h4⟩ | ⟨h1, h2⟩
  · refine .inr ?_
    have hll : l.length = a.length + (b.length + 1) := by rw [h1]; simp
    obtain ⟨Z, hZ, hn⟩ := loopDl cf cid B F hc id hci l.length hN b a [x] o hid (by rw [hg, h1]; simp) hcid hB (by simp) (by simp; omega)
    have hK : a ++ b.filter (fun y => !F y) = l.filter (fun y => !F y) := by
      rw [h1, List.filter_append, filter_all h2]; simp [h3]
    rw [hK] at hZ hn
    have hKl : (l.filter (fun y => !F y)).length ≤ l.length := List.length_filter_le _ _
    generalize hKK : l.filter (fun y => !F y) = K at hZ hn hKl ⊢
    obtain ⟨o2, ho2⟩ : ∃ o2, setS o id (.row 2 ((K ++ Z).map mvP)) = o2 := ⟨_, rfl⟩
    rw [ho2] at hn
    have hl2 : o2.length = o.length := by rw [← ho2, setS_len]
    have hget3 : ∀ r l, St.get ⟨r, l, o2⟩ id = some (.row 2 ((K ++ Z).map mvP)) := fun r l => by rw [← ho2, get_low (by rw [setS_len]; exact hid), getS_setS hid]
    have hset3 : ∀ r l R, St.set ⟨r, l, o2⟩ id R = ⟨r, l, setS o id R⟩ := fun r l R => by rw [← ho2, set_low (by rw [setS_len]; exact hid), setS_setS]
    have hset4 : ∀ r l R R', St.set ⟨r, l, setS o id R'⟩ id R = ⟨r, l, setS o id R⟩ := fun r l R R' => by rw [set_low (by rw [setS_len]; exact hid), setS_setS]
    have hget4 : ∀ r l R, St.get ⟨r, l, setS o id R⟩ id = some R := fun r l R => by rw [get_low (by rw [setS_len]; exact hid), getS_setS hid]
    have hKZ : K.length + Z.length = l.length := by omega
    have hKN : l.length = K.length + (l.length - K.length) := by omega
    have hKi : (K.length : Int) ≤ l.length := by omega
    have hw : IntKind.i64.wrap ((a.length : Int) + 1) = (a.length : Int) + 1 := wr (by omega)
    have ha1 : ¬ ((a.length : Int) = -1) := by omega
    simp only [List.length_cons, List.length_nil, Nat.zero_add, show ((1 : Nat) : Int) = 1 from rfl] at hn
    generalize l.length = N at hn h4 hKl hKZ hKN hKi hll hN ⊢
    simp [-St.get, -St.set, body1_eq _ _ (gp 94) g94, c94, a94, hne, hne2, hid, hcid, h4, ha1, hw, hn, hl2, hget3, hset3, hset4, hget4, hKZ, hKi, setS_len, get_setS_top, set_setS_top, get_own, set_own]
    exact hKN
  · refine .inl ⟨filter_all h1, ?_⟩
    simp [-St.get, -St.set, body1_eq _ _ (gp 94) g94, c94, a94, hne, hne2, hid, hcid, h2]
/-! the name of an action; what is hidden -/
def nameI (a : Int) : Int := IntKind.i64.wrap ((if a < IntKind.i64.wrap (0 - a) then IntKind.i64.wrap (0 - a) else a) - 1)
theorem eqNameI (a : Int) : callI G 97 [.i a] [] = some (.i (nameI a), []) := by
  rw [callI_eq]
  simp [body1_eq _ _ (gp 97) g97, c97, a97, nameI]
theorem eqNameS (a : Int) : callI G 92 [.i a] [] = some (.i (nameI a), []) := by
  rw [callI_eq]
  simp [body1_eq _ _ (gp 92) g92, c92, a92, nameI]
def nameOk (n : Int) : Bool := decide (0 ≤ n) && decide (n < 4)
theorem eqNameOk (n : Int) : callI G 93 [.i n] [] = some (.b (nameOk n), []) := by
  rw [callI_eq]
  unfold nameOk
  by_cases h : 0 ≤ n <;> simp [body1_eq _ _ (gp 93) g93, c93, a93, h]
def hidF (n : Int) (x : Mv) : Bool := !decide (x.1 = 0) && decide (nameI x.1 = n)
theorem cloHide (cid : Id) (n : Int) : CloOK 96 cid [.i n] (hidF n) := by
  intro o x hcid hB
  have hne : ¬ cid.1 = o.length := by omega
  have hget : ∀ r l', St.get ⟨r, l', o⟩ cid = some (.box [.i n]) := fun r l' => by rw [get_low hcid, hB]
  have hnm := eqNameI x.1
  unfold hidF
  rw [callI_eq]
  by_cases h : x.1 = 0
  · simp [-St.get, -St.set, body1_eq _ _ (gp 96) g96, c96, a96, hcid, hne, hget, get_own, set_own, hnm, h, mvP]
  · simp [-St.get, -St.set, body1_eq _ _ (gp 96) g96, c96, a96, hcid, hne, hget, get_own, set_own, hnm, h, mvP]
def hideR (n : Int) (l : List Mv) : List Mv := l.filter fun y => !hidF n y
def hideG (n : Int) (g : Gr) : Gr := g.map (hideR n)
end Go.Am
end
section
set_option maxRecDepth 10000
set_option maxHeartbeats 1000000
set_option linter.unusedSimpArgs false
set_option linter.unusedVariables false
namespace Go.Am
open Go.Proofs Go.Sort Go.Shelf
/-! lists of truth values -/
def bools (l : List Bool) : List PV := l.map PV.b
@[simp] theorem bools_len (l : List Bool) : (bools l).length = l.length := by simp [bools]
theorem bools_at (a : List Bool) (x : Bool) (b : List Bool) : nth (bools (a ++ x :: b)) a.length = some (.b x) := by
  unfold nth bools; simp
@[simp] theorem fals_bools : ∀ l : List Bool, fals (bools l) = bools l
  | [] => rfl
  | x :: l => by
    have := fals_bools l
    simp only [bools, List.map_cons, fals] at this ⊢
    rw [this]; rfl
theorem noShares_bools : ∀ l : List Bool, noShares (bools l) = true
  | [] => rfl
  | x :: l => by
    have := noShares_bools l
    simp only [bools, List.map_cons, noShares] at this ⊢
    rw [this]; rfl
theorem loopToBs (rest : List Bool) : ∀ (done : List Bool), (done ++ rest).length ≤ 9223372036854775807 →
    loopI G [0, 3, 4] [7] c45l0 ⟨[(0, .sl false 1 (bools (done ++ rest))), (3, .own (0, 7) (done ++ rest).length), (4, .i done.length)], [(7, .row 1 (bools done ++ List.replicate rest.length (.b false)))], []⟩ =
      some (.exit 0, ⟨[(0, .sl false 1 (bools (done ++ rest))), (3, .own (0, 7) (done ++ rest).length), (4, .i (done ++ rest).length), (11, .b false)], [(7, .row 1 (bools (done ++ rest)))], []⟩) := by
  induction rest with
  | nil =>
    intro done h
    rw [loopI_eq]
    simp [r45l0, b45l0]
  | cons x rest ih =>
    intro done h
    rw [loopI_eq]
    have hat := bools_at done x rest
    have hlt : (done.length : Int) < (done.length : Int) + ((rest.length : Int) + 1) := by omega
    have hw : IntKind.i64.wrap ((done.length : Int) + 1) = (done.length : Int) + 1 := wr (by simp at h; omega)
    have hn := ih (done ++ [x]) (by simpa using h)
    have hra : nth (bools done ++ PV.b false :: List.replicate rest.length (.b false)) done.length = some (.b false) := at_D _ _ _ _ (by simp)
    have hrs : ∀ y, (bools done ++ PV.b false :: List.replicate rest.length (.b false)).set done.length y = bools done ++ y :: List.replicate rest.length (.b false) := fun y => set_D _ _ _ _ _ (by simp)
    simp [r45l0, b45l0, hat, hlt, hw, List.replicate_succ, hra, hrs]
    simpa [bools, unAgg, Int.add_assoc] using hn
theorem eqToBs (l : List Bool) (h : l.length ≤ 4294967296) : callI G 45 [.sl false 1 (bools l)] [] = some (.sl true 1 (bools l), []) := by
  have hl := loopToBs l [] (by simp; omega)
  simp only [List.nil_append, List.length_nil, show bools [] = [] from rfl, show ((0 : Nat) : Int) = 0 from rfl] at hl
  rw [callI_eq]
  have h4 : (l.length : Int) ≤ 4294967296 := by omega
  simp [body1_eq _ _ (gp 45) g45, c45, a45, h, h4, hl]
theorem loopEqBs (rest : List Bool) : ∀ (done : List Bool), (done ++ rest).length ≤ 9223372036854775807 →
    loopI G [0, 1, 5] [] c47l0 ⟨[(0, .sl false 1 (bools (done ++ rest))), (1, .sl false 1 (bools (done ++ rest))), (5, .i done.length)], [], []⟩ =
      some (.exit 0, ⟨[(0, .sl false 1 (bools (done ++ rest))), (1, .sl false 1 (bools (done ++ rest))), (5, .i (done ++ rest).length), (14, .b false)], [], []⟩) := by
  induction rest with
  | nil =>
    intro done h
    rw [loopI_eq]
    simp [r47l0, b47l0]
  | cons x rest ih =>
    intro done h
    rw [loopI_eq]
    have hat := bools_at done x rest
    have hlt : (done.length : Int) < (done.length : Int) + ((rest.length : Int) + 1) := by omega
    have hw : IntKind.i64.wrap ((done.length : Int) + 1) = (done.length : Int) + 1 := wr (by simp at h; omega)
    have hn := ih (done ++ [x]) (by simpa using h)
    simp [r47l0, b47l0, hat, hlt, hw]
    simpa [Int.add_assoc] using hn
theorem eqEqBs (l : List Bool) (h : l.length ≤ 9223372036854775807) : callI G 47 [.sl false 1 (bools l), .sl false 1 (bools l)] [] = some (.b true, []) := by
  have hl := loopEqBs l [] (by simpa using h)
  simp only [List.nil_append, List.length_nil, show ((0 : Nat) : Int) = 0 from rfl] at hl
  rw [callI_eq]
  simp [body1_eq _ _ (gp 47) g47, c47, a47, hl]
/-! marked truth values: the own row of an outer frame -/
def mkB : Int → List Bool → List Bool
  | _, [] => []
  | k, _ :: l => decide (k.tmod 3 = 0) :: mkB (k + 1) l
theorem loopMkBs (id : Id) (N : Nat) (hN : N ≤ 4611686018427387904) : ∀ (rest D : List Bool) (k : Int) (o : Stack), id.1 < o.length → getS o id = some (.row 1 (bools (D ++ rest))) → N = D.length + rest.length → 0 ≤ k → k + rest.length ≤ 4611686018427387904 →
    loopI G [0, 1, 5] [] c48l0 ⟨[(0, .own id N), (1, .i k), (5, .i D.length)], [], o⟩ =
      some (.exit 0, ⟨[(0, .own id N), (1, .i (k + rest.length)), (5, .i N), (9, .b false)], [], setS o id (.row 1 (bools (D ++ mkB k rest)))⟩)
  | [], D, k, o, hid, hg, hl, hk0, hk => by
    have hne : ¬ id.1 = o.length := by omega
    simp only [List.append_nil, List.length_nil, Nat.add_zero] at hg hl
    have e2 : setS o id (.row 1 (bools (D ++ mkB k []))) = o := setS_same o id _ (by simpa [mkB] using hg)
    have hget : ∀ r l', St.get ⟨r, l', o⟩ id = some (.row 1 (bools D)) := fun r l' => by rw [get_low hid, hg]
    rw [e2, loopI_eq]
    simp [-St.get, -St.set, r48l0, b48l0, hne, hget, hl]
  | x :: rest, D, k, o, hid, hg, hl, hk0, hk => by
    simp only [List.length_cons] at hl hk
    have hne : ¬ id.1 = o.length := by omega
    have hget : ∀ r l', St.get ⟨r, l', o⟩ id = some (.row 1 (bools (D ++ x :: rest))) := fun r l' => by rw [get_low hid, hg]
    have hset : ∀ r l' R, St.set ⟨r, l', o⟩ id R = ⟨r, l', setS o id R⟩ := fun r l' R => set_low hid
    have hlt : (D.length : Int) < N := by omega
    have hlt2 : D.length < N := by omega
    have hw : IntKind.i64.wrap ((D.length : Int) + 1) = (D.length : Int) + 1 := wr (by omega)
    have hwk : IntKind.i64.wrap (k + 1) = k + 1 := wr (by omega)
    have hat := bools_at D x rest
    obtain ⟨b, hb⟩ : ∃ b, b = decide (k.tmod 3 = 0) := ⟨_, rfl⟩
    have hst : (bools (D ++ x :: rest)).set D.length (.b b) = bools ((D ++ [b]) ++ rest) := by simp [bools]
    have hml : (bools (D ++ x :: rest)).length = N := by simp; omega
    have hn := loopMkBs id N hN rest (D ++ [b]) (k + 1) (setS o id (.row 1 (bools ((D ++ [b]) ++ rest)))) (by rw [setS_len]; exact hid) (by rw [getS_setS hid]) (by simp; omega) (by omega) (by omega)
    rw [setS_setS] at hn
    have e3 : D ++ mkB k (x :: rest) = (D ++ [b]) ++ mkB (k + 1) rest := by simp [mkB, hb]
    rw [e3]
    simp only [List.length_append, List.length_cons, List.length_nil, Int.natCast_add, show ((0 + 1 : Nat) : Int) = 1 from rfl, show ((1 : Nat) : Int) = 1 from rfl] at hn ⊢
    generalize bools (D ++ x :: rest) = X at hget hat hst hml
    generalize bools ((D ++ [b]) ++ rest) = X2 at hst hn
    generalize bools ((D ++ [b]) ++ mkB (k + 1) rest) = X3 at hn ⊢
    rw [loopI_eq]
    simp [-St.get, -St.set, r48l0, b48l0, hne, hget, hset, hml, hlt, hlt2, hw, hwk, hat, unAgg, ← hb, hst, setS_len]
    simpa [Int.add_assoc, Int.add_comm 1, Int.add_left_comm] using hn
theorem eqMkBs (id : Id) (l : List Bool) (k : Int) (o : Stack) (hid : id.1 < o.length) (hg : getS o id = some (.row 1 (bools l))) (hN : l.length ≤ 1048576) (hk0 : 0 ≤ k) (hk : k ≤ 4398046511104) :
    callI G 48 [.own id l.length, .i k] o = some (.i (k + l.length), setS o id (.row 1 (bools (mkB k l)))) := by
  have hne : ¬ id.1 = o.length := by omega
  have hn := loopMkBs id l.length (by omega) l [] k o hid (by simpa using hg) (by simp) hk0 (by omega)
  simp only [List.nil_append, List.length_nil, show ((0 : Nat) : Int) = 0 from rfl] at hn
  rw [callI_eq]
  simp [-St.get, -St.set, body1_eq _ _ (gp 48) g48, c48, a48, hne, hid, hn, setS_len]
/-! what is named -/
def namd (bs : List Bool) (a : Int) : Bool := !decide (a = 0) && bs.getD (nameI a).toNat false
theorem nameI_in {a : Int} (h : actOk a = true) (h0 : a ≠ 0) : 0 ≤ nameI a ∧ nameI a < 4 := by
  simp only [actOk, Bool.and_eq_true, decide_eq_true_eq] at h
  unfold nameI
  rw [wr (n := 0 - a) (by omega)]
  split
  · rw [wr (by omega)]; omega
  · rw [wr (by omega)]; omega
theorem bools_nth {bs : List Bool} {i : Nat} (h : i < bs.length) : nth (bools bs) i = some (.b (bs.getD i false)) := by
  unfold nth bools
  simp [List.getElem?_map, List.getElem?_eq_getElem h]
theorem eqNamedI (a : Int) (bs : List Bool) (h : actOk a = true) (hb : bs.length = 4) : callI G 110 [.i a, .sl false 1 (bools bs)] [] = some (.b (namd bs a), []) := by
  have hnm := eqNameI a
  rw [callI_eq]
  unfold namd
  by_cases h0 : a = 0
  · simp [body1_eq _ _ (gp 110) g110, c110, a110, h0]
  · have hn := nameI_in h h0
    have hnt := bools_nth (bs := bs) (i := (nameI a).toNat) (by omega)
    generalize nameI a = m at hnm hn hnt
    simp [body1_eq _ _ (gp 110) g110, c110, a110, h0, hnm, hn.1, hn.2, hb, hnt]
theorem eqNamedS (a : Int) (bs : List Bool) (h : actOk a = true) (hb : bs.length = 4) : callI G 108 [.i a, .sl false 1 (bools bs)] [] = some (.b (namd bs a), []) := by
  have hnm := eqNameS a
  rw [callI_eq]
  unfold namd
  by_cases h0 : a = 0
  · simp [body1_eq _ _ (gp 108) g108, c108, a108, h0]
  · have hn := nameI_in h h0
    have hnt := bools_nth (bs := bs) (i := (nameI a).toNat) (by omega)
    generalize nameI a = m at hnm hn hnt
    simp [body1_eq _ _ (gp 108) g108, c108, a108, h0, hnm, hn.1, hn.2, hb, hnt]
theorem eqNamesOk (bs : List Bool) : callI G 109 [.sl false 1 (bools bs)] [] = some (.b (decide (bs.length = 4)), []) := by
  rw [callI_eq]
  have : decide ((bs.length : Int) = 4) = decide (bs.length = 4) := by apply decide_eq_decide.2; omega
  simp [body1_eq _ _ (gp 109) g109, c109, a109, this]
end Go.Am
end
section
set_option linter.unusedSimpArgs false
set_option linter.unusedVariables false
namespace Go.Am
/-! pairs of states -/
def lMN (nm : Int → Bool) (sync : Bool) (n : Nat) (m x : Mv) : List Mv :=
  if sync = true then (if x.1 = m.1 ∧ nm m.1 = true then [(m.1, m.2 * n + x.2)] else []) else (if m.1 ≠ 0 ∧ x.1 = -m.1 then [(0, m.2 * n + x.2)] else [])
def lM (nm : Int → Bool) (sync : Bool) (n t : Nat) (H : List Mv) (m : Mv) : List Mv := (if nm m.1 = true then [] else [(m.1, m.2 * n + t)]) ++ H.flatMap (lMN nm sync n m)
def lX (nm : Int → Bool) (n s : Nat) (x : Mv) : List Mv := if nm x.1 = true then [] else [(x.1, (s : Int) * n + x.2)]
def prL (nm : Int → Bool) (sync : Bool) (n s t : Nat) (Gs H : List Mv) : List Mv := Gs.flatMap (lM nm sync n t H) ++ H.flatMap (lX nm n s)
def prR (nm : Int → Bool) (sync : Bool) (g h : Gr) (s t : Nat) : List Mv := tidyL (prL nm sync h.length s t (g.getD s []) (h.getD t []))
def prRow (nm : Int → Bool) (sync : Bool) (g h : Gr) (s : Nat) (k : Nat) : Gr := (List.range k).map (prR nm sync g h s)
def prRows (nm : Int → Bool) (sync : Bool) (g h : Gr) : Nat → Gr
  | 0 => []
  | k + 1 => prRows nm sync g h k ++ prRow nm sync g h k h.length
def pairG (nm : Int → Bool) (sync : Bool) (g h : Gr) : Gr := prRows nm sync g h g.length
theorem flatMv_len {f : Mv → List Mv} {k : Nat} : ∀ (l : List Mv), (∀ x ∈ l, (f x).length ≤ k) → (l.flatMap f).length ≤ k * l.length
  | [], _ => by simp
  | x :: l, h => by
    have h1 := h x List.mem_cons_self
    have h2 := flatMv_len l fun y hy => h y (List.mem_cons_of_mem _ hy)
    rw [List.flatMap_cons, List.length_append, List.length_cons, Nat.mul_succ]
    omega
theorem lMN_len (nm : Int → Bool) (sync : Bool) (n : Nat) (m x : Mv) : (lMN nm sync n m x).length ≤ 1 := by
  unfold lMN
  repeat' split
  all_goals simp
theorem lX_len (nm : Int → Bool) (n s : Nat) (x : Mv) : (lX nm n s x).length ≤ 1 := by
  unfold lX; split <;> simp
theorem lM_len (nm : Int → Bool) (sync : Bool) (n t : Nat) (H : List Mv) (m : Mv) : (lM nm sync n t H m).length ≤ 1 + H.length := by
  unfold lM
  have h := flatMv_len H fun x _ => lMN_len nm sync n m x
  rw [List.length_append]
  split <;> simp only [List.length_nil, List.length_cons] <;> omega
theorem prL_len {nm : Int → Bool} {sync : Bool} {n s t : Nat} {Gs H : List Mv} (hG : Gs.length ≤ 540) (hH : H.length ≤ 540) : (prL nm sync n s t Gs H).length ≤ 292680 := by
  unfold prL
  have h1 := flatMv_len (f := lM nm sync n t H) (k := 541) Gs fun x _ => Nat.le_trans (lM_len nm sync n t H x) (by omega)
  have h2 := flatMv_len (f := lX nm n s) (k := 1) H fun x _ => lX_len nm n s x
  rw [List.length_append]
  omega
theorem mulb {a n : Int} (ha : 0 ≤ a ∧ a ≤ 60) (hn : 0 ≤ n ∧ n ≤ 60) : 0 ≤ a * n ∧ a * n ≤ 3600 := by
  refine ⟨Int.mul_nonneg ha.1 hn.1, ?_⟩
  have := Int.mul_le_mul ha.2 hn.2 hn.1 (by omega : (0 : Int) ≤ 60)
  omega
theorem prRow_len (nm : Int → Bool) (sync : Bool) (g h : Gr) (s k : Nat) : (prRow nm sync g h s k).length = k := by simp [prRow]
theorem prRows_len (nm : Int → Bool) (sync : Bool) (g h : Gr) : ∀ k, (prRows nm sync g h k).length = k * h.length
  | 0 => by simp [prRows]
  | k + 1 => by simp only [prRows, List.length_append, prRow_len, prRows_len nm sync g h k, Nat.succ_mul]
theorem prRows_mem {nm : Int → Bool} {sync : Bool} {g h : Gr} : ∀ {k : Nat} {l : List Mv}, l ∈ prRows nm sync g h k → ∃ s t, s < k ∧ t < h.length ∧ l = prR nm sync g h s t
  | 0, l, hl => by cases hl
  | k + 1, l, hl => by
    simp only [prRows] at hl
    rcases List.mem_append.1 hl with hl | hl
    · obtain ⟨s, t, h1, h2, h3⟩ := prRows_mem hl
      exact ⟨s, t, by omega, h2, h3⟩
    · simp only [prRow, List.mem_map, List.mem_range] at hl
      obtain ⟨t, ht, rfl⟩ := hl
      exact ⟨k, t, by omega, ht, rfl⟩
theorem to_in {a b : Nat} {x y : Int} (hx : 0 ≤ x ∧ x < a) (hy : 0 ≤ y ∧ y < b) : 0 ≤ x * b + y ∧ x * b + y < ((a * b : Nat) : Int) := by
  have h1 : 0 ≤ x * (b : Int) := Int.mul_nonneg hx.1 (by omega)
  have h2 : (x + 1) * (b : Int) ≤ a * b := Int.mul_le_mul_of_nonneg_right (by omega) (by omega)
  rw [Int.add_mul, Int.one_mul] at h2
  rw [Int.natCast_mul]
  omega
theorem pairG_to {nm : Int → Bool} {sync : Bool} {g h : Gr} (hg : OkTo g) (hh : OkTo h) : OkTo (pairG nm sync g h) := by
  intro l hl m hm
  unfold pairG at hl ⊢
  rw [prRows_len]
  obtain ⟨s, t, hs, ht, rfl⟩ := prRows_mem hl
  unfold prR at hm
  have hm := ((tidyL_sd _).2 m).1 hm
  unfold prL at hm
  rcases List.mem_append.1 hm with hm | hm
  · obtain ⟨a, ha, hm⟩ := List.mem_flatMap.1 hm
    have ha2 := hg.row s a ha
    unfold lM at hm
    rcases List.mem_append.1 hm with hm | hm
    · split at hm
      · cases hm
      · rw [List.mem_singleton] at hm
        subst hm
        exact to_in ha2 (by omega : (0 : Int) ≤ t ∧ (t : Int) < h.length)
    · obtain ⟨x, hx, hm⟩ := List.mem_flatMap.1 hm
      have hx2 := hh.row t x hx
      unfold lMN at hm
      repeat' split at hm
      all_goals first
        | (cases hm; done)
        | (rw [List.mem_singleton] at hm; subst hm; exact to_in ha2 hx2)
  · obtain ⟨x, hx, hm⟩ := List.mem_flatMap.1 hm
    have hx2 := hh.row t x hx
    unfold lX at hm
    split at hm
    · cases hm
    · rw [List.mem_singleton] at hm
      subst hm
      exact to_in (by omega : (0 : Int) ≤ s ∧ (s : Int) < g.length) hx2
theorem pairG_len (nm : Int → Bool) (sync : Bool) (g h : Gr) : (pairG nm sync g h).length = g.length * h.length := prRows_len nm sync g h _
theorem getD_len {g : Gr} {k : Nat} (h : ∀ l ∈ g, l.length ≤ k) (i : Nat) : (g.getD i []).length ≤ k := by
  rw [List.getD_eq_getElem?_getD]
  cases hi : g[i]? with
  | none => simp
  | some l => exact h _ (List.mem_of_getElem? hi)
theorem pairG_small {nm : Int → Bool} {sync : Bool} {g h : Gr} (hg : grOk g = true) (hh : grOk h = true) : SmallG (pairG nm sync g h) := by
  obtain ⟨_, _, p3⟩ := grOk_to hg
  obtain ⟨_, _, q3⟩ := grOk_to hh
  refine ⟨?_, fun l hl => ?_⟩
  · rw [pairG_len]
    have := Nat.mul_le_mul p3 q3
    omega
  · obtain ⟨s, t, hs, ht, rfl⟩ := prRows_mem hl
    refine Nat.le_trans (tidyL_len _) (Nat.le_trans (prL_len (getD_len (grOk_short hg) s) (getD_len (grOk_short hh) t)) (by omega))
def pairs (nm : Int → Bool) (sync : Bool) (g h : Gr) : Gr × Bool := if grOk g && grOk h then made (pairG nm sync g h) else ([], false)
/-- A row of moves that grows from nothing, in one of some places. -/
def GrO (n : Nat) (ds : List Nat) (P : PV) (L : Objs) (O : List Mv) : Prop := (P = .nils ∧ L = [] ∧ O = []) ∨ ∃ d ∈ ds, P = .own (n, d) O.length ∧ L = [(d, .row 2 (O.map mvP))] ∧ O ≠ []
end Go.Am
end
section
set_option maxRecDepth 10000
set_option maxHeartbeats 4000000
set_option linter.unusedSimpArgs false
set_option linter.unusedVariables false
namespace Go.Am
open Go.Proofs Go.Sort Go.Shelf
/-! spec.l12Pairs: the moves of two states -/
theorem loopP0 (bs : List Bool) (hb : bs.length = 4) (sync : Bool) (E1 E2 : List PV) (n s t i : Nat) (hn60 : n ≤ 60) (m : Mv) (hma : actOk m.1 = true) (hm2 : 0 ≤ m.2 ∧ m.2 ≤ 60) (hE2 : t < E2.length) (H : List Mv) (hat : nth E2 t = some (.sl false 2 (H.map mvP))) (hHl : H.length ≤ 540) (hto : ∀ x ∈ H, 0 ≤ x.2 ∧ x.2 ≤ 60) (hac : ∀ x ∈ H, actOk x.1 = true) (Y : PV) (YL : Objs) (xs : List PV) (hY : OwnS 183 1 Y YL xs) : ∀ (rest done : List Mv), H = done ++ rest → ∀ O : List Mv, O.length + rest.length ≤ 4000000 →
    loopI G [2, 3, 4, 5, 8, 9, 10, 11, 12, 13, 14, 15, 16] [4, 5, 8, 10, 15, 36, 71, 116, 142, 177, 183] c105l0 ⟨[(2, .sl false 1 (bools bs)), (3, .b sync), (4, .ref (0, 4) 1 0 0), (5, .ref (0, 5) 1 0 0), (8, .ref (0, 8) 1 0 0), (9, .i n), (10, .ref (0, 10) 1 0 0), (11, .i s), (12, .i t), (13, .own (0, 36) O.length), (14, .i i), (15, .ref (0, 15) 1 0 0), (16, .i done.length)], (4, .box [.sl false 1 E1]) :: (5, .box [.sl false 1 E2]) :: (8, .box [.nils]) :: (10, .box [Y]) :: (15, .box [.i m.1, .i m.2]) :: (36, .row 2 (O.map mvP)) :: YL, []⟩ =
      some (.exit 6, ⟨[(2, .sl false 1 (bools bs)), (3, .b sync), (4, .ref (0, 4) 1 0 0), (5, .ref (0, 5) 1 0 0), (8, .ref (0, 8) 1 0 0), (9, .i n), (10, .ref (0, 10) 1 0 0), (11, .i s), (12, .i t), (13, .own (0, 36) (O ++ rest.flatMap (lMN (namd bs) sync n m)).length), (14, .i i), (15, .ref (0, 15) 1 0 0), (16, .i H.length), (79, .b false)], (4, .box [.sl false 1 E1]) :: (5, .box [.sl false 1 E2]) :: (8, .box [.nils]) :: (10, .box [Y]) :: (15, .box [.i m.1, .i m.2]) :: (36, .row 2 ((O ++ rest.flatMap (lMN (namd bs) sync n m)).map mvP)) :: YL, []⟩)
  := by
  intro rest
  induction rest with
  | nil =>
    intro done hd O hb2
    rw [List.append_nil] at hd
    subst hd
    rw [List.flatMap_nil, List.append_nil]
    have hti : (t : Int) < E2.length := by omega
    have hml : (H.map mvP).length = H.length := by simp
    generalize H.map mvP = HM at hat hml
    generalize bools bs = BS
    generalize O.map mvP = OM
    rcases hY with ⟨h1, rfl, rfl⟩ | ⟨h1, rfl, rfl⟩
    all_goals
      rw [loopI_eq]
      simp [r105l0, b105l0, hE2, hti, hat, hml]
  | cons x rest ih =>
    intro done hd O hb2
    have hti : (t : Int) < E2.length := by omega
    have hml : (H.map mvP).length = H.length := by simp
    have hrl : H.length = done.length + (rest.length + 1) := by rw [hd]; simp
    have hlt : (done.length : Int) < H.length := by omega
    have hlt2 : done.length < H.length := by omega
    have hat2 : nth (H.map mvP) done.length = some (mvP x) := by rw [hd]; exact mv_at done x rest
    have hw : IntKind.i64.wrap ((done.length : Int) + 1) = (done.length : Int) + 1 := wr (by omega)
    have hx := hto x (by rw [hd]; simp)
    have hmb := mulb hm2 (by omega : (0 : Int) ≤ n ∧ (n : Int) ≤ 60)
    have hw1 : IntKind.i64.wrap (m.2 * (n : Int)) = m.2 * n := wr (by omega)
    have hw2 : IntKind.i64.wrap (m.2 * (n : Int) + x.2) = m.2 * n + x.2 := wr (by omega)
    have hac1 : -4 ≤ m.1 ∧ m.1 ≤ 4 := by simpa [actOk] using hma
    have hneg : IntKind.i64.wrap (-m.1) = -m.1 := wr (by omega)
    have hnm := eqNamedS m.1 bs hma hb
    simp only [mvP] at hat2
    cases sync with
    | false =>
      by_cases c1 : m.1 = 0
      · have hl0 : lMN (namd bs) false n m x = [] := by simp [lMN, c1]
        rw [List.flatMap_cons, hl0, List.nil_append]
        have hn := ih (done ++ [x]) (by simpa using hd) O (by simp only [List.length_cons] at hb2; omega)
        simp only [List.length_append, List.length_cons, List.length_nil, Int.natCast_add, show ((0 + 1 : Nat) : Int) = 1 from rfl] at hn
        rw [← List.length_append] at hn
        generalize O ++ rest.flatMap _ = FF at hn ⊢
        have hOm : (O.map mvP).length = O.length := by simp
        generalize H.map mvP = HM at hat hat2 hml
        generalize bools bs = BS at hnm hn ⊢
        simp only [c1] at hn
        generalize O.map mvP = OM at hn hOm ⊢
        rcases hY with ⟨h1, rfl, rfl⟩ | ⟨h1, rfl, rfl⟩
        all_goals
          rw [loopI_eq]
          simp [r105l0, b105l0, hE2, hti, hat, hml, hlt, hlt2, hat2, unAgg, hw, hw1, hw2, hneg, c1, hOm]
          exact hn
      · by_cases c2 : x.1 = -m.1
        · have hl0 : lMN (namd bs) false n m x = [(0, m.2 * n + x.2)] := by simp [lMN, c1, c2]
          rw [List.flatMap_cons, hl0, ← List.append_assoc]
          have hn := ih (done ++ [x]) (by simpa using hd) (O ++ [((0 : Int), m.2 * n + x.2)]) (by simp only [List.length_cons, List.length_append, List.length_nil] at hb2 ⊢; omega)
          generalize (O ++ [((0 : Int), m.2 * n + x.2)]) ++ rest.flatMap _ = FF at hn ⊢
          simp only [List.length_append, List.length_cons, List.length_nil, Int.natCast_add, show ((0 + 1 : Nat) : Int) = 1 from rfl, Nat.zero_add, List.map_append, List.map_cons, List.map_nil, mvP] at hn
          have hOl : O.length ≤ 4294967295 := by simp only [List.length_cons] at hb2; omega
          have hOm : (O.map mvP).length = O.length := by simp
          generalize H.map mvP = HM at hat hat2 hml
          generalize bools bs = BS at hnm hn ⊢
          generalize O.map mvP = OM at hn hOm ⊢
          rcases hY with ⟨h1, rfl, rfl⟩ | ⟨h1, rfl, rfl⟩
          all_goals
            rw [loopI_eq]
            simp [r105l0, b105l0, hE2, hti, hat, hml, hlt, hlt2, hat2, unAgg, hw, hw1, hw2, hneg, c1, c2, hOl, hOm]
            exact hn
        · have hl0 : lMN (namd bs) false n m x = [] := by simp [lMN, c1, c2]
          rw [List.flatMap_cons, hl0, List.nil_append]
          have hn := ih (done ++ [x]) (by simpa using hd) O (by simp only [List.length_cons] at hb2; omega)
          simp only [List.length_append, List.length_cons, List.length_nil, Int.natCast_add, show ((0 + 1 : Nat) : Int) = 1 from rfl] at hn
          rw [← List.length_append] at hn
          generalize O ++ rest.flatMap _ = FF at hn ⊢
          have hOm : (O.map mvP).length = O.length := by simp
          generalize H.map mvP = HM at hat hat2 hml
          generalize bools bs = BS at hnm hn ⊢
          generalize O.map mvP = OM at hn hOm ⊢
          rcases hY with ⟨h1, rfl, rfl⟩ | ⟨h1, rfl, rfl⟩
          all_goals
            rw [loopI_eq]
            simp [r105l0, b105l0, hE2, hti, hat, hml, hlt, hlt2, hat2, unAgg, hw, hw1, hw2, hneg, c1, c2, hOm]
            exact hn
    | true =>
      by_cases c1 : x.1 = m.1
      · cases hnv : namd bs m.1 with
        | true =>
          rw [hnv] at hnm
          have hl0 : lMN (namd bs) true n m x = [(m.1, m.2 * n + x.2)] := by simp [lMN, c1, hnv]
          rw [List.flatMap_cons, hl0, ← List.append_assoc]
          have hn := ih (done ++ [x]) (by simpa using hd) (O ++ [(m.1, m.2 * n + x.2)]) (by simp only [List.length_cons, List.length_append, List.length_nil] at hb2 ⊢; omega)
          generalize (O ++ [(m.1, m.2 * n + x.2)]) ++ rest.flatMap _ = FF at hn ⊢
          simp only [List.length_append, List.length_cons, List.length_nil, Int.natCast_add, show ((0 + 1 : Nat) : Int) = 1 from rfl, Nat.zero_add, List.map_append, List.map_cons, List.map_nil, mvP] at hn
          have hOl : O.length ≤ 4294967295 := by simp only [List.length_cons] at hb2; omega
          have hOm : (O.map mvP).length = O.length := by simp
          generalize H.map mvP = HM at hat hat2 hml
          generalize bools bs = BS at hnm hn ⊢
          generalize O.map mvP = OM at hn hOm ⊢
          rcases hY with ⟨h1, rfl, rfl⟩ | ⟨h1, rfl, rfl⟩
          all_goals
            rw [loopI_eq]
            simp [r105l0, b105l0, hE2, hti, hat, hml, hlt, hlt2, hat2, unAgg, hw, hw1, hw2, hneg, c1, hnm, hOl, hOm]
            exact hn
        | false =>
          rw [hnv] at hnm
          have hl0 : lMN (namd bs) true n m x = [] := by simp [lMN, c1, hnv]
          rw [List.flatMap_cons, hl0, List.nil_append]
          have hn := ih (done ++ [x]) (by simpa using hd) O (by simp only [List.length_cons] at hb2; omega)
          simp only [List.length_append, List.length_cons, List.length_nil, Int.natCast_add, show ((0 + 1 : Nat) : Int) = 1 from rfl] at hn
          rw [← List.length_append] at hn
          generalize O ++ rest.flatMap _ = FF at hn ⊢
          have hOm : (O.map mvP).length = O.length := by simp
          generalize H.map mvP = HM at hat hat2 hml
          generalize bools bs = BS at hnm hn ⊢
          generalize O.map mvP = OM at hn hOm ⊢
          rcases hY with ⟨h1, rfl, rfl⟩ | ⟨h1, rfl, rfl⟩
          all_goals
            rw [loopI_eq]
            simp [r105l0, b105l0, hE2, hti, hat, hml, hlt, hlt2, hat2, unAgg, hw, hw1, hw2, hneg, c1, hnm, hOm]
            exact hn
      · have hl0 : lMN (namd bs) true n m x = [] := by simp [lMN, c1]
        rw [List.flatMap_cons, hl0, List.nil_append]
        have hn := ih (done ++ [x]) (by simpa using hd) O (by simp only [List.length_cons] at hb2; omega)
        simp only [List.length_append, List.length_cons, List.length_nil, Int.natCast_add, show ((0 + 1 : Nat) : Int) = 1 from rfl] at hn
        rw [← List.length_append] at hn
        generalize O ++ rest.flatMap _ = FF at hn ⊢
        have hOm : (O.map mvP).length = O.length := by simp
        generalize H.map mvP = HM at hat hat2 hml
        generalize bools bs = BS at hnm hn ⊢
        generalize O.map mvP = OM at hn hOm ⊢
        rcases hY with ⟨h1, rfl, rfl⟩ | ⟨h1, rfl, rfl⟩
        all_goals
          rw [loopI_eq]
          simp [r105l0, b105l0, hE2, hti, hat, hml, hlt, hlt2, hat2, unAgg, hw, hw1, hw2, hneg, c1, hOm]
          exact hn
theorem loopP2 (bs : List Bool) (hb : bs.length = 4) (sync : Bool) (E1 E2 : List PV) (n s t : Nat) (hn60 : n ≤ 60) (hs60 : s ≤ 60) (hE2 : t < E2.length) (H : List Mv) (hat : nth E2 t = some (.sl false 2 (H.map mvP))) (hHl : H.length ≤ 540) (hto : ∀ x ∈ H, 0 ≤ x.2 ∧ x.2 ≤ 60) (hac : ∀ x ∈ H, actOk x.1 = true) (Y : PV) (YL : Objs) (xs : List PV) (hY : OwnS 183 1 Y YL xs) : ∀ (rest done : List Mv), H = done ++ rest → ∀ O : List Mv, O.length + rest.length ≤ 4000000 →
    loopI G [2, 3, 4, 5, 8, 9, 10, 11, 12, 13, 18] [4, 5, 8, 10, 36, 71, 116, 142, 177, 183] c105l2 ⟨[(2, .sl false 1 (bools bs)), (3, .b sync), (4, .ref (0, 4) 1 0 0), (5, .ref (0, 5) 1 0 0), (8, .ref (0, 8) 1 0 0), (9, .i n), (10, .ref (0, 10) 1 0 0), (11, .i s), (12, .i t), (13, .own (0, 36) O.length), (18, .i done.length)], (4, .box [.sl false 1 E1]) :: (5, .box [.sl false 1 E2]) :: (8, .box [.nils]) :: (10, .box [Y]) :: (36, .row 2 (O.map mvP)) :: YL, []⟩ =
      some (.exit 8, ⟨[(2, .sl false 1 (bools bs)), (3, .b sync), (4, .ref (0, 4) 1 0 0), (5, .ref (0, 5) 1 0 0), (8, .ref (0, 8) 1 0 0), (9, .i n), (10, .ref (0, 10) 1 0 0), (11, .i s), (12, .i t), (13, .own (0, 36) (O ++ rest.flatMap (lX (namd bs) n s)).length), (18, .i H.length), (150, .b false)], (4, .box [.sl false 1 E1]) :: (5, .box [.sl false 1 E2]) :: (8, .box [.nils]) :: (10, .box [Y]) :: (36, .row 2 ((O ++ rest.flatMap (lX (namd bs) n s)).map mvP)) :: YL, []⟩)
  := by
  intro rest
  induction rest with
  | nil =>
    intro done hd O hb2
    rw [List.append_nil] at hd
    subst hd
    rw [List.flatMap_nil, List.append_nil]
    have hti : (t : Int) < E2.length := by omega
    have hml : (H.map mvP).length = H.length := by simp
    generalize H.map mvP = HM at hat hml
    generalize bools bs = BS
    generalize O.map mvP = OM
    rcases hY with ⟨h1, rfl, rfl⟩ | ⟨h1, rfl, rfl⟩
    all_goals
      rw [loopI_eq]
      simp [r105l2, b105l2, hE2, hti, hat, hml]
  | cons x rest ih =>
    intro done hd O hb2
    have hti : (t : Int) < E2.length := by omega
    have hml : (H.map mvP).length = H.length := by simp
    have hrl : H.length = done.length + (rest.length + 1) := by rw [hd]; simp
    have hlt : (done.length : Int) < H.length := by omega
    have hlt2 : done.length < H.length := by omega
    have hat2 : nth (H.map mvP) done.length = some (mvP x) := by rw [hd]; exact mv_at done x rest
    have hw : IntKind.i64.wrap ((done.length : Int) + 1) = (done.length : Int) + 1 := wr (by omega)
    have hx := hto x (by rw [hd]; simp)
    have hmb := mulb (by omega : (0 : Int) ≤ s ∧ (s : Int) ≤ 60) (by omega : (0 : Int) ≤ n ∧ (n : Int) ≤ 60)
    have hw1 : IntKind.i64.wrap ((s : Int) * (n : Int)) = (s : Int) * n := wr (by omega)
    have hw2 : IntKind.i64.wrap ((s : Int) * (n : Int) + x.2) = (s : Int) * n + x.2 := wr (by omega)
    have hnm := eqNamedS x.1 bs (hac x (by rw [hd]; simp)) hb
    simp only [mvP] at hat2
    cases hnv : namd bs x.1 with
    | false =>
      rw [hnv] at hnm
      have hl0 : lX (namd bs) n s x = [(x.1, (s : Int) * n + x.2)] := by simp [lX, hnv]
      rw [List.flatMap_cons, hl0, ← List.append_assoc]
      have hn := ih (done ++ [x]) (by simpa using hd) (O ++ [(x.1, (s : Int) * n + x.2)]) (by simp only [List.length_cons, List.length_append, List.length_nil] at hb2 ⊢; omega)
      generalize (O ++ [(x.1, (s : Int) * n + x.2)]) ++ rest.flatMap _ = FF at hn ⊢
      simp only [List.length_append, List.length_cons, List.length_nil, Int.natCast_add, show ((0 + 1 : Nat) : Int) = 1 from rfl, Nat.zero_add, List.map_append, List.map_cons, List.map_nil, mvP] at hn
      have hOl : O.length ≤ 4294967295 := by simp only [List.length_cons] at hb2; omega
      have hOm : (O.map mvP).length = O.length := by simp
      generalize H.map mvP = HM at hat hat2 hml
      generalize bools bs = BS at hnm hn ⊢
      generalize O.map mvP = OM at hn hOm ⊢
      rcases hY with ⟨h1, rfl, rfl⟩ | ⟨h1, rfl, rfl⟩
      all_goals
        rw [loopI_eq]
        simp [r105l2, b105l2, hE2, hti, hat, hml, hlt, hlt2, hat2, unAgg, hw, hw1, hw2, hnm, hOl, hOm]
        exact hn
    | true =>
      rw [hnv] at hnm
      have hl0 : lX (namd bs) n s x = [] := by simp [lX, hnv]
      rw [List.flatMap_cons, hl0, List.nil_append]
      have hn := ih (done ++ [x]) (by simpa using hd) O (by simp only [List.length_cons] at hb2; omega)
      simp only [List.length_append, List.length_cons, List.length_nil, Int.natCast_add, show ((0 + 1 : Nat) : Int) = 1 from rfl] at hn
      rw [← List.length_append] at hn
      generalize O ++ rest.flatMap _ = FF at hn ⊢
      have hOm : (O.map mvP).length = O.length := by simp
      generalize H.map mvP = HM at hat hat2 hml
      generalize bools bs = BS at hnm hn ⊢
      generalize O.map mvP = OM at hn hOm ⊢
      rcases hY with ⟨h1, rfl, rfl⟩ | ⟨h1, rfl, rfl⟩
      all_goals
        rw [loopI_eq]
        simp [r105l2, b105l2, hE2, hti, hat, hml, hlt, hlt2, hat2, unAgg, hw, hw1, hw2, hnm, hOm]
        exact hn
theorem loopP1 (bs : List Bool) (hb : bs.length = 4) (sync : Bool) (E1 E2 : List PV) (n s t : Nat) (hn60 : n ≤ 60) (ht60 : t ≤ 60) (hE1 : s < E1.length) (Gs : List Mv) (hatG : nth E1 s = some (.sl false 2 (Gs.map mvP))) (hGl : Gs.length ≤ 540) (htoG : ∀ x ∈ Gs, 0 ≤ x.2 ∧ x.2 ≤ 60) (hacG : ∀ x ∈ Gs, actOk x.1 = true) (hE2 : t < E2.length) (H : List Mv) (hat : nth E2 t = some (.sl false 2 (H.map mvP))) (hHl : H.length ≤ 540) (hto : ∀ x ∈ H, 0 ≤ x.2 ∧ x.2 ≤ 60) (hac : ∀ x ∈ H, actOk x.1 = true) (Y : PV) (YL : Objs) (xs : List PV) (hY : OwnS 183 1 Y YL xs) : ∀ (rest done : List Mv), Gs = done ++ rest → ∀ O : List Mv, O.length + 541 * rest.length ≤ 3000000 →
    loopI G [2, 3, 4, 5, 8, 9, 10, 11, 12, 13, 14] [4, 5, 8, 10, 36, 71, 116, 142, 177, 183] c105l1 ⟨[(2, .sl false 1 (bools bs)), (3, .b sync), (4, .ref (0, 4) 1 0 0), (5, .ref (0, 5) 1 0 0), (8, .ref (0, 8) 1 0 0), (9, .i n), (10, .ref (0, 10) 1 0 0), (11, .i s), (12, .i t), (13, .own (0, 36) O.length), (14, .i done.length)], (4, .box [.sl false 1 E1]) :: (5, .box [.sl false 1 E2]) :: (8, .box [.nils]) :: (10, .box [Y]) :: (36, .row 2 (O.map mvP)) :: YL, []⟩ =
      some (.exit 4, ⟨[(2, .sl false 1 (bools bs)), (3, .b sync), (4, .ref (0, 4) 1 0 0), (5, .ref (0, 5) 1 0 0), (8, .ref (0, 8) 1 0 0), (9, .i n), (10, .ref (0, 10) 1 0 0), (11, .i s), (12, .i t), (13, .own (0, 36) (O ++ rest.flatMap (lM (namd bs) sync n t H)).length), (14, .i Gs.length), (44, .b false)], (4, .box [.sl false 1 E1]) :: (5, .box [.sl false 1 E2]) :: (8, .box [.nils]) :: (10, .box [Y]) :: (36, .row 2 ((O ++ rest.flatMap (lM (namd bs) sync n t H)).map mvP)) :: YL, []⟩)
  := by
  intro rest
  induction rest with
  | nil =>
    intro done hd O hb2
    rw [List.append_nil] at hd
    subst hd
    rw [List.flatMap_nil, List.append_nil]
    have hti : (s : Int) < E1.length := by omega
    have hml : (Gs.map mvP).length = Gs.length := by simp
    generalize Gs.map mvP = GM at hatG hml
    generalize bools bs = BS
    generalize O.map mvP = OM
    rcases hY with ⟨h1, rfl, rfl⟩ | ⟨h1, rfl, rfl⟩
    all_goals
      rw [loopI_eq]
      simp [r105l1, b105l1, hE1, hti, hatG, hml]
  | cons x rest ih =>
    intro done hd O hb2
    have hti : (s : Int) < E1.length := by omega
    have hml : (Gs.map mvP).length = Gs.length := by simp
    have hrl : Gs.length = done.length + (rest.length + 1) := by rw [hd]; simp
    have hlt : (done.length : Int) < Gs.length := by omega
    have hlt2 : done.length < Gs.length := by omega
    have hat2 : nth (Gs.map mvP) done.length = some (mvP x) := by rw [hd]; exact mv_at done x rest
    have hw : IntKind.i64.wrap ((done.length : Int) + 1) = (done.length : Int) + 1 := wr (by omega)
    have hm2 := htoG x (by rw [hd]; simp)
    have hmlH : (H.map mvP).length = H.length := by simp
    have hma := hacG x (by rw [hd]; simp)
    have hmb := mulb hm2 (by omega : (0 : Int) ≤ n ∧ (n : Int) ≤ 60)
    have hw1 : IntKind.i64.wrap (x.2 * (n : Int)) = x.2 * n := wr (by omega)
    have hw2 : IntKind.i64.wrap (x.2 * (n : Int) + (t : Int)) = x.2 * n + t := wr (by omega)
    have hnm := eqNamedS x.1 bs hma hb
    have hfl := flatMv_len H fun y _ => lMN_len (namd bs) sync n x y
    simp only [mvP] at hat2
    simp only [List.length_cons] at hb2
    cases hnv : namd bs x.1 with
    | true =>
      rw [hnv] at hnm
      have hlm : lM (namd bs) sync n t H x = H.flatMap (lMN (namd bs) sync n x) := by simp [lM, hnv]
      have h0 := loopP0 bs hb sync E1 E2 n s t done.length hn60 x hma hm2 hE2 H hat hHl hto hac Y YL xs hY H [] rfl O (by omega)
      have hn := ih (done ++ [x]) (by simpa using hd) (O ++ H.flatMap (lMN (namd bs) sync n x)) (by simp only [List.length_append, List.length_cons, List.length_nil] at hb2 ⊢; omega)
      rw [List.flatMap_cons, hlm, ← List.append_assoc]
      generalize (O ++ H.flatMap (lMN (namd bs) sync n x)) ++ rest.flatMap (lM (namd bs) sync n t H) = FF at hn ⊢
      generalize O ++ H.flatMap (lMN (namd bs) sync n x) = F1 at h0 hn
      simp only [List.length_append, List.length_cons, List.length_nil, Int.natCast_add, show ((0 + 1 : Nat) : Int) = 1 from rfl, show ((0 : Nat) : Int) = 0 from rfl, Nat.zero_add, List.map_append, List.map_cons, List.map_nil, mvP] at h0 hn
      have hOl : O.length ≤ 4294967295 := by omega
      have hOm : (O.map mvP).length = O.length := by simp
      have hFm : (F1.map mvP).length = F1.length := by simp
      generalize Gs.map mvP = GM at hatG hat2 hml
      generalize bools bs = BS at hnm h0 hn ⊢
      generalize O.map mvP = OM at h0 hOm ⊢
      generalize F1.map mvP = FM at h0 hn hFm
      rcases hY with ⟨h1, rfl, rfl⟩ | ⟨h1, rfl, rfl⟩
      all_goals
        rw [loopI_eq]
        simp [r105l1, b105l1, hE1, hti, hatG, hml, hlt, hlt2, hat2, unAgg, hw, hw1, hw2, hnm, h0, hOl, hOm, hFm]
        exact hn
    | false =>
      rw [hnv] at hnm
      have hlm : lM (namd bs) sync n t H x = [(x.1, x.2 * n + t)] ++ H.flatMap (lMN (namd bs) sync n x) := by simp [lM, hnv]
      have h0 := loopP0 bs hb sync E1 E2 n s t done.length hn60 x hma hm2 hE2 H hat hHl hto hac Y YL xs hY H [] rfl (O ++ [(x.1, x.2 * n + t)]) (by simp only [List.length_append, List.length_cons, List.length_nil]; omega)
      have hn := ih (done ++ [x]) (by simpa using hd) ((O ++ [(x.1, x.2 * n + t)]) ++ H.flatMap (lMN (namd bs) sync n x)) (by simp only [List.length_append, List.length_cons, List.length_nil] at hb2 ⊢; omega)
      rw [List.flatMap_cons, hlm, show O ++ ([(x.1, x.2 * n + t)] ++ H.flatMap (lMN (namd bs) sync n x) ++ rest.flatMap (lM (namd bs) sync n t H)) = (((O ++ [(x.1, x.2 * n + t)]) ++ H.flatMap (lMN (namd bs) sync n x)) ++ rest.flatMap (lM (namd bs) sync n t H)) from by simp]
      generalize ((O ++ [(x.1, x.2 * n + t)]) ++ H.flatMap (lMN (namd bs) sync n x)) ++ rest.flatMap (lM (namd bs) sync n t H) = FF at hn ⊢
      generalize (O ++ [(x.1, x.2 * n + t)]) ++ H.flatMap (lMN (namd bs) sync n x) = F1 at h0 hn
      simp only [List.length_append, List.length_cons, List.length_nil, Int.natCast_add, show ((0 + 1 : Nat) : Int) = 1 from rfl, show ((0 : Nat) : Int) = 0 from rfl, Nat.zero_add, List.map_append, List.map_cons, List.map_nil, mvP] at h0 hn
      have hOl : O.length ≤ 4294967295 := by omega
      have hOm : (O.map mvP).length = O.length := by simp
      have hFm : (F1.map mvP).length = F1.length := by simp
      generalize Gs.map mvP = GM at hatG hat2 hml
      generalize bools bs = BS at hnm h0 hn ⊢
      generalize O.map mvP = OM at h0 hOm ⊢
      generalize F1.map mvP = FM at h0 hn hFm
      rcases hY with ⟨h1, rfl, rfl⟩ | ⟨h1, rfl, rfl⟩
      all_goals
        rw [loopI_eq]
        simp [r105l1, b105l1, hE1, hti, hatG, hml, hlt, hlt2, hat2, unAgg, hw, hw1, hw2, hnm, h0, hOl, hOm, hFm]
        exact hn
end Go.Am
end
section
set_option maxRecDepth 10000
set_option maxHeartbeats 4000000
set_option linter.unusedSimpArgs false
set_option linter.unusedVariables false
namespace Go.Am
open Go.Proofs Go.Sort Go.Shelf
theorem gff_nth {g : Gr} {i : Nat} (h : i < g.length) : nth (encGs false false g) i = some (.sl false 2 ((g.getD i []).map mvP)) := by
  rw [gr_nth false false g i h, encL_f]
theorem grOk_row {g : Gr} (h : grOk g = true) (i : Nat) : ∀ x ∈ g.getD i [], actOk x.1 = true ∧ 0 ≤ x.2 ∧ x.2 ≤ 60 := by
  intro x hx
  have h60 := (grOk_to h).2.2
  have h1 := (grOk_to h).1.row i x hx
  refine ⟨?_, by omega, by omega⟩
  rw [List.getD_eq_getElem?_getD] at hx
  cases hi : g[i]? with
  | none => rw [hi] at hx; cases hx
  | some l =>
    rw [hi] at hx
    have hl : l ∈ g := List.mem_of_getElem? hi
    simp only [grOk, Bool.and_eq_true, decide_eq_true_eq, List.all_eq_true] at h
    have := rowOk_mem (h.2.2 l hl) x hx
    simp only [mvOk, Bool.and_eq_true] at this
    exact this.1
theorem prRow_succ (nm : Int → Bool) (sync : Bool) (g h : Gr) (s k : Nat) : prRow nm sync g h s (k + 1) = prRow nm sync g h s k ++ [prR nm sync g h s k] := by
  unfold prRow
  rw [List.range_succ, List.map_append]
  rfl
theorem loopP3 (bs : List Bool) (hb : bs.length = 4) (sync : Bool) (g h : Gr) (hg : grOk g = true) (hh : grOk h = true) (s : Nat) (hs : s < g.length) : ∀ (j k : Nat), k + j = h.length → ∀ Y YL, OwnS 183 1 Y YL (encGs true true (prRows (namd bs) sync g h s ++ prRow (namd bs) sync g h s k)) →
    ∃ Y' YL', OwnS 183 1 Y' YL' (encGs true true (prRows (namd bs) sync g h (s + 1))) ∧
    loopI G [2, 3, 4, 5, 8, 9, 10, 11, 12] [4, 5, 8, 10, 183] c105l3 ⟨[(2, .sl false 1 (bools bs)), (3, .b sync), (4, .ref (0, 4) 1 0 0), (5, .ref (0, 5) 1 0 0), (8, .ref (0, 8) 1 0 0), (9, .i h.length), (10, .ref (0, 10) 1 0 0), (11, .i s), (12, .i k)], (4, .box [.sl false 1 (encGs false false g)]) :: (5, .box [.sl false 1 (encGs false false h)]) :: (8, .box [.nils]) :: (10, .box [Y]) :: YL, []⟩ =
      some (.exit 2, ⟨[(2, .sl false 1 (bools bs)), (3, .b sync), (4, .ref (0, 4) 1 0 0), (5, .ref (0, 5) 1 0 0), (8, .ref (0, 8) 1 0 0), (9, .i h.length), (10, .ref (0, 10) 1 0 0), (11, .i s), (12, .i h.length), (33, .b false)], (4, .box [.sl false 1 (encGs false false g)]) :: (5, .box [.sl false 1 (encGs false false h)]) :: (8, .box [.nils]) :: (10, .box [Y']) :: YL', []⟩)
  | 0, k, hk, Y, YL, hY => by
    have he : k = h.length := by omega
    subst he
    refine ⟨Y, YL, hY, ?_⟩
    generalize encGs false false g = E1
    generalize encGs false false h = E2
    generalize bools bs = BS
    rw [loopI_eq]
    rcases hY with ⟨h1, rfl, rfl⟩ | ⟨h1, rfl, rfl⟩
    · simp [r105l3, b105l3]
    · simp [r105l3, b105l3]
  | j + 1, k, hk, Y, YL, hY => by
    obtain ⟨p1, p2, p3⟩ := grOk_to hg
    obtain ⟨q1, q2, q3⟩ := grOk_to hh
    have hkh : k < h.length := by omega
    have hki : (k : Int) < h.length := by omega
    have hw : IntKind.i64.wrap ((k : Int) + 1) = (k : Int) + 1 := wr (by omega)
    have hgr := grOk_row hg s
    have hhr := grOk_row hh k
    have hGl := getD_len (grOk_short hg) s
    have hHl := getD_len (grOk_short hh) k
    have l1 := loopP1 bs hb sync (encGs false false g) (encGs false false h) h.length s k q3 (by omega) (by simpa using hs) (g.getD s []) (gff_nth hs) hGl (fun x hx => (hgr x hx).2) (fun x hx => (hgr x hx).1) (by simpa using hkh) (h.getD k []) (gff_nth hkh) hHl (fun x hx => (hhr x hx).2) (fun x hx => (hhr x hx).1) Y YL _ hY (g.getD s []) [] rfl [] (by simp only [List.length_nil]; omega)
    rw [List.nil_append] at l1
    have hO1 : ((g.getD s []).flatMap (lM (namd bs) sync h.length k (h.getD k []))).length ≤ 300000 := by
      have := flatMv_len (f := lM (namd bs) sync h.length k (h.getD k [])) (k := 541) (g.getD s []) fun x _ => Nat.le_trans (lM_len _ _ _ _ _ x) (by omega)
      omega
    have l2 := loopP2 bs hb sync (encGs false false g) (encGs false false h) h.length s k q3 (by omega) (by simpa using hkh) (h.getD k []) (gff_nth hkh) hHl (fun x hx => (hhr x hx).2) (fun x hx => (hhr x hx).1) Y YL _ hY (h.getD k []) [] rfl ((g.getD s []).flatMap (lM (namd bs) sync h.length k (h.getD k []))) (by omega)
    have hpr : (g.getD s []).flatMap (lM (namd bs) sync h.length k (h.getD k [])) ++ (h.getD k []).flatMap (lX (namd bs) h.length s) = prL (namd bs) sync h.length s k (g.getD s []) (h.getD k []) := rfl
    rw [hpr] at l2
    have hpl := prL_len (nm := namd bs) (sync := sync) (n := h.length) (s := s) (t := k) hGl hHl
    have hso : callI G 90 [.sl false 2 ((prL (namd bs) sync h.length s k (g.getD s []) (h.getD k [])).map mvP)] [] = some (encL true true (prR (namd bs) sync g h s k), []) := by
      have := eqSorted false (prL (namd bs) sync h.length s k (g.getD s []) (h.getD k [])) (by omega)
      rwa [encL_f] at this
    have hns := noShares_mv (prR (namd bs) sync g h s k)
    have hDl : (encGs true true (prRows (namd bs) sync g h s ++ prRow (namd bs) sync g h s k)).length = s * h.length + k := by rw [encGs_len, List.length_append, prRows_len, prRow_len]
    have hDb : s * h.length + k ≤ 4294967295 := by
      have := Nat.mul_le_mul (by omega : s ≤ 60) q3
      omega
    have hnew : encGs true true (prRows (namd bs) sync g h s ++ prRow (namd bs) sync g h s (k + 1)) = encGs true true (prRows (namd bs) sync g h s ++ prRow (namd bs) sync g h s k) ++ [encL true true (prR (namd bs) sync g h s k)] := by
      rw [prRow_succ, ← List.append_assoc, encGs_app]
      rfl
    have hYn : OwnS 183 1 (.own (0, 183) (s * h.length + k + 1)) [(183, .row 1 (encGs true true (prRows (namd bs) sync g h s ++ prRow (namd bs) sync g h s k) ++ [encL true true (prR (namd bs) sync g h s k)]))] (encGs true true (prRows (namd bs) sync g h s ++ prRow (namd bs) sync g h s (k + 1))) := by
      refine .inr ⟨by rw [hnew]; simp, ?_, ?_⟩
      · rw [hnew, List.length_append, hDl]; rfl
      · rw [hnew]
    obtain ⟨Y', YL', hY', hn⟩ := loopP3 bs hb sync g h hg hh s hs j (k + 1) (by omega) _ _ hYn
    refine ⟨Y', YL', hY', ?_⟩
    clear hY' hYn hnew
    simp only [List.length_nil, List.map_nil, Int.natCast_add, show ((1 : Nat) : Int) = 1 from rfl, show ((0 : Nat) : Int) = 0 from rfl, List.nil_append] at l1 l2 hn
    have hf := fals_mvP (prL (namd bs) sync h.length s k (g.getD s []) (h.getD k []))
    have hPm : ((prL (namd bs) sync h.length s k (g.getD s []) (h.getD k [])).map mvP).length = (prL (namd bs) sync h.length s k (g.getD s []) (h.getD k [])).length := by simp
    generalize hD : encGs true true (prRows (namd bs) sync g h s ++ prRow (namd bs) sync g h s k) = D at hY hn hDl
    have hd0 : D = [] → s * h.length + k = 0 := fun e => by rw [e] at hDl; exact hDl.symm
    generalize s * h.length + k = dl at hn hDl hDb hd0
    generalize prL (namd bs) sync h.length s k (g.getD s []) (h.getD k []) = O2 at l2 hso hf hPm
    generalize O2.map mvP = PM at l2 hso hf hPm
    generalize prR (namd bs) sync g h s k = T at hso hns hn
    generalize (g.getD s []).flatMap (lM (namd bs) sync h.length k (h.getD k [])) = O1 at l1 l2
    have hQm : (O1.map mvP).length = O1.length := by simp
    generalize O1.map mvP = QM at l1 l2 hQm
    generalize encGs false false g = E1 at l1 l2 hn ⊢
    generalize encGs false false h = E2 at l1 l2 hn ⊢
    generalize bools bs = BS at l1 l2 hn ⊢
    rcases encL_two true true T with ⟨e, _⟩ | e
    all_goals
      rw [e] at hso hn
      rcases hY with ⟨h1, rfl, rfl⟩ | ⟨h1, rfl, rfl⟩
      · have hz := hd0 h1
        subst h1
        subst hz
        simp only [List.nil_append] at hn
        rw [loopI_eq]
        simp [r105l3, b105l3, hki, l1, l2, hQm, hso, hf, hPm, hns, hw]
        exact hn
      · simp only [hDl] at l1 l2 ⊢
        rw [loopI_eq]
        simp [r105l3, b105l3, hki, l1, l2, hQm, hso, hf, hPm, hns, hDl, hDb, hw]
        exact hn
theorem loopP4 (bs : List Bool) (hb : bs.length = 4) (sync : Bool) (g h : Gr) (hg : grOk g = true) (hh : grOk h = true) : ∀ (j k : Nat), k + j = g.length → ∀ Y YL, OwnS 183 1 Y YL (encGs true true (prRows (namd bs) sync g h k)) →
    ∃ Y' YL', OwnS 183 1 Y' YL' (encGs true true (pairG (namd bs) sync g h)) ∧
    loopI G [2, 3, 4, 5, 8, 9, 10, 11] [4, 5, 8, 10, 183] c105l4 ⟨[(2, .sl false 1 (bools bs)), (3, .b sync), (4, .ref (0, 4) 1 0 0), (5, .ref (0, 5) 1 0 0), (8, .ref (0, 8) 1 0 0), (9, .i h.length), (10, .ref (0, 10) 1 0 0), (11, .i k)], (4, .box [.sl false 1 (encGs false false g)]) :: (5, .box [.sl false 1 (encGs false false h)]) :: (8, .box [.nils]) :: (10, .box [Y]) :: YL, []⟩ =
      some (.exit 0, ⟨[(2, .sl false 1 (bools bs)), (3, .b sync), (4, .ref (0, 4) 1 0 0), (5, .ref (0, 5) 1 0 0), (8, .ref (0, 8) 1 0 0), (9, .i h.length), (10, .ref (0, 10) 1 0 0), (11, .i g.length), (28, .b false)], (4, .box [.sl false 1 (encGs false false g)]) :: (5, .box [.sl false 1 (encGs false false h)]) :: (8, .box [.nils]) :: (10, .box [Y']) :: YL', []⟩)
  | 0, k, hk, Y, YL, hY => by
    have he : k = g.length := by omega
    subst he
    refine ⟨Y, YL, hY, ?_⟩
    have hE1 : (encGs false false g).length = g.length := by simp
    generalize encGs false false g = E1 at hE1 ⊢
    generalize encGs false false h = E2
    generalize bools bs = BS
    rw [loopI_eq]
    rcases hY with ⟨h1, rfl, rfl⟩ | ⟨h1, rfl, rfl⟩
    · simp [r105l4, b105l4, hE1]
    · simp [r105l4, b105l4, hE1]
  | j + 1, k, hk, Y, YL, hY => by
    obtain ⟨p1, p2, p3⟩ := grOk_to hg
    have hE1 : (encGs false false g).length = g.length := by simp
    have hki : (k : Int) < g.length := by omega
    have hw : IntKind.i64.wrap ((k : Int) + 1) = (k : Int) + 1 := wr (by omega)
    obtain ⟨Y1, YL1, hY1, l3⟩ := loopP3 bs hb sync g h hg hh k (by omega) h.length 0 (by omega) Y YL (by simpa [prRow] using hY)
    obtain ⟨Y', YL', hY', hn⟩ := loopP4 bs hb sync g h hg hh j (k + 1) (by omega) Y1 YL1 hY1
    refine ⟨Y', YL', hY', ?_⟩
    clear hY'
    simp only [Int.natCast_add, show ((1 : Nat) : Int) = 1 from rfl, show ((0 : Nat) : Int) = 0 from rfl] at l3 hn
    generalize encGs false false g = E1 at hE1 l3 hn ⊢
    generalize encGs false false h = E2 at l3 hn ⊢
    generalize bools bs = BS at l3 hn ⊢
    generalize encGs true true (prRows (namd bs) sync g h k) = D at hY
    generalize encGs true true (prRows (namd bs) sync g h (k + 1)) = D1 at hY1
    rw [loopI_eq]
    rcases hY with ⟨h1, rfl, rfl⟩ | ⟨h1, rfl, rfl⟩
    all_goals
      simp [r105l4, b105l4, hE1, hki]
      rw [l3]
      rcases hY1 with ⟨h2, rfl, rfl⟩ | ⟨h2, rfl, rfl⟩
      · simp [hw]
        exact hn
      · simp [hw]
        exact hn
theorem eqPairsS (bs : List Bool) (hb : bs.length = 4) (sync : Bool) (g h : Gr) (hg : grOk g = true) (hh : grOk h = true) :
    callI G 105 [.agg [.sl false 1 (encGs false false g)], .agg [.sl false 1 (encGs false false h)], .sl false 1 (bools bs), .b sync] [] = some (.agg [.sl true 1 (encGs true true (pairG (namd bs) sync g h))], []) := by
  obtain ⟨p1, p2, p3⟩ := grOk_to hg
  obtain ⟨q1, q2, q3⟩ := grOk_to hh
  obtain ⟨Y, YL, hY, l4⟩ := loopP4 bs hb sync g h hg hh g.length 0 (by omega) .nils [] (.inl ⟨rfl, rfl, rfl⟩)
  simp only [show ((0 : Nat) : Int) = 0 from rfl] at l4
  have hE2 : (encGs false false h).length = h.length := by simp
  have hDl : (encGs true true (pairG (namd bs) sync g h)).length = g.length * h.length := by rw [encGs_len, pairG_len]
  have hne : encGs true true (pairG (namd bs) sync g h) ≠ [] := by
    intro e
    rw [e] at hDl
    have h0 : 0 = g.length * h.length := hDl
    have := Nat.mul_le_mul p2 q2
    omega
  rcases hY with ⟨e, _⟩ | ⟨_, rfl, rfl⟩
  · exact absurd e hne
  · generalize encGs true true (pairG (namd bs) sync g h) = D at l4 ⊢
    generalize encGs false false g = E1 at l4 ⊢
    generalize encGs false false h = E2 at hE2 l4 ⊢
    generalize bools bs = BS at l4 ⊢
    rw [callI_eq]
    simp [body1_eq _ _ (gp 105) g105, c105, a105, hE2, l4]
end Go.Am
end
