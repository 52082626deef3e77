/- GraphSum of both sides and what the law makes of it. -/
import Derived.Test.YtlldnglfoajfcaaGtD
section
set_option maxRecDepth 10000
set_option maxHeartbeats 1000000
set_option linter.unusedSimpArgs false
set_option linter.unusedVariables false
namespace Go.Am
open Go.Proofs Go.Sort Go.Shelf
/-! sizes behind others -/
theorem eqSzGL (g : Gr) (hf : FitG g) (L : Int) (h0 : 0 ≤ L) (h1 : L ≤ 1048576) : callI G 14 [encG false false g, .i L] [] = some (.i (if szG g L < 0 then -1 else szG g L), []) := by
  have hs : callI G 58 [.sl false 1 (encGs false false g), .i L] [] = some (.i (if szG g L < 0 then -1 else szG g L), []) := by
    have hw : IntKind.i64.wrap (L - g.length) = L - g.length := wr (by have := hf.1; omega)
    rw [callI_eq]
    unfold szG
    by_cases c : L - g.length < 0
    · simp [body1_eq _ _ (gp 58) g58, c58, a58, hw, c]
    · have hl := loopSzMs g [] (L - g.length) hf.2 (by simpa using hf.1) (by omega) (by omega)
      simp only [List.nil_append, List.length_nil, show ((0 : Nat) : Int) = 0 from rfl] at hl
      by_cases c2 : szMs g (L - g.length) < 0
      · rw [if_pos c2] at hl
        simp [body1_eq _ _ (gp 58) g58, c58, a58, hw, c, hl, c2]
      · rw [if_neg c2] at hl
        simp [body1_eq _ _ (gp 58) g58, c58, a58, hw, c, hl, c2]
  rw [callI_eq]
  by_cases c : szG g L < 0
  · simp only [c, if_true] at hs
    simp [body1_eq _ _ (gp 14) g14, c14, a14, hs, c]
  · simp only [c, if_false] at hs
    simp [body1_eq _ _ (gp 14) g14, c14, a14, hs, c]
theorem szG_smallL {g : Gr} {L : Int} (h1 : L ≤ 1048576) (h : ¬ szG g L < 0) : SmallG g ∧ szG g L ≤ 1048576 := by
  unfold szG at h ⊢
  split at h
  · omega
  · rename_i hh
    rw [if_neg hh]
    obtain ⟨q1, q2⟩ := szMs_le g _ (by omega) h
    exact ⟨⟨by omega, fun x hx => by have := q2 x hx; omega⟩, by omega⟩
end Go.Am
end
section
set_option maxRecDepth 10000
set_option maxHeartbeats 1000000
set_option linter.unusedSimpArgs false
set_option linter.unusedVariables false
namespace Go.Am
open Go.Proofs Go.Sort Go.Shelf
/-! impl.GraphSum -/
def sumR (g h : Gr) : List Mv := shL 1 (g.getD 0 []) ++ shL (1 + g.length : Nat) (h.getD 0 [])
def sumG (g h : Gr) : Gr := tidyL (sumR g h) :: (g.map (shL 1) ++ h.map (shL (1 + g.length : Nat)))
def graphSum (g h : Gr) : Gr × Bool := if grOk g && grOk h then made (sumG g h) else ([], false)
theorem sumG_len (g h : Gr) : (sumG g h).length = 1 + g.length + h.length := by simp [sumG]; omega
theorem getD_mem0 {g : Gr} (h : 1 ≤ g.length) : g.getD 0 [] ∈ g := by
  rw [List.getD_eq_getElem?_getD, List.getElem?_eq_getElem (by omega), Option.getD_some]
  exact List.getElem_mem _
theorem sumG_to {g h : Gr} (hg : OkTo g) (hh : OkTo h) (g1 : 1 ≤ g.length) (h1 : 1 ≤ h.length) : OkTo (sumG g h) := by
  intro l hl m hm
  rw [sumG_len]
  have key1 : ∀ l ∈ g, ∀ m ∈ shL 1 l, 0 ≤ m.2 ∧ m.2 < ((1 + g.length + h.length : Nat) : Int) := by
    intro l hl m hm
    simp only [shL, List.mem_map] at hm
    obtain ⟨y, hy, rfl⟩ := hm
    have := hg l hl y hy
    simp only; omega
  have key2 : ∀ l ∈ h, ∀ m ∈ shL (1 + g.length : Nat) l, 0 ≤ m.2 ∧ m.2 < ((1 + g.length + h.length : Nat) : Int) := by
    intro l hl m hm
    simp only [shL, List.mem_map] at hm
    obtain ⟨y, hy, rfl⟩ := hm
    have := hh l hl y hy
    simp only; omega
  unfold sumG at hl
  rcases List.mem_cons.1 hl with rfl | hl
  · have hm := ((tidyL_sd _).2 m).1 hm
    unfold sumR at hm
    rcases List.mem_append.1 hm with hm | hm
    · exact key1 _ (getD_mem0 g1) m hm
    · exact key2 _ (getD_mem0 h1) m hm
  · rcases List.mem_append.1 hl with hl | hl
    · obtain ⟨r, hr, rfl⟩ := List.mem_map.1 hl
      exact key1 r hr m hm
    · obtain ⟨r, hr, rfl⟩ := List.mem_map.1 hl
      exact key2 r hr m hm
/-! rows of graphs that are ones are short -/
def keyM (n : Nat) (m : Mv) : Int := (m.1 + 4) * n + m.2
theorem mvOk_in {n : Nat} {m : Mv} (h : mvOk n m = true) : -4 ≤ m.1 ∧ m.1 ≤ 4 ∧ 0 ≤ m.2 ∧ m.2 < n := by
  simp only [mvOk, actOk, Bool.and_eq_true, decide_eq_true_eq] at h
  omega
theorem keyM_lt {n : Nat} {p m : Mv} (hp : mvOk n p = true) (hm : mvOk n m = true) (h : ltM p m = true) : keyM n p < keyM n m := by
  have a := mvOk_in hp
  have b := mvOk_in hm
  unfold keyM
  rcases (ltM_iff p m).1 h with h | ⟨h1, h2⟩
  · have h3 : (p.1 + 4 + 1) * (n : Int) ≤ (m.1 + 4) * n := Int.mul_le_mul_of_nonneg_right (by omega) (by omega)
    rw [Int.add_mul, Int.one_mul] at h3
    omega
  · rw [h1]; omega
theorem keyM_le {n : Nat} {m : Mv} (hm : mvOk n m = true) : 0 ≤ keyM n m ∧ keyM n m < 9 * n := by
  have b := mvOk_in hm
  unfold keyM
  have h1 : 0 ≤ (m.1 + 4) * (n : Int) := Int.mul_nonneg (by omega) (by omega)
  have h2 : (m.1 + 4) * (n : Int) ≤ 8 * n := Int.mul_le_mul_of_nonneg_right (by omega) (by omega)
  omega
theorem rowOk_len {n : Nat} : ∀ {l : List Mv} {p : Mv}, mvOk n p = true → rowOk n (some p) l = true → (l.length : Int) + keyM n p + 1 ≤ 9 * n
  | [], p, hp, _ => by have := (keyM_le hp).2; simp only [List.length_nil]; omega
  | m :: l, p, hp, h => by
    simp only [rowOk, prevOk, Bool.and_eq_true] at h
    have h1 := rowOk_len h.1 h.2.2
    have h2 := keyM_lt hp h.1 h.2.1
    simp only [List.length_cons]
    omega
theorem grOk_short {g : Gr} (h : grOk g = true) : ∀ l ∈ g, l.length ≤ 540 := by
  intro l hl
  have h60 := (grOk_to h).2.2
  simp only [grOk, Bool.and_eq_true, decide_eq_true_eq, List.all_eq_true] at h
  have hr := h.2.2 l hl
  cases l with
  | nil => simp
  | cons m l =>
    simp only [rowOk, Bool.and_eq_true] at hr
    have h1 := rowOk_len hr.1 hr.2.2
    have h2 := (keyM_le hr.1).1
    simp only [List.length_cons]
    omega
theorem sumG_small {g h : Gr} (hg : SmallG g) (hh : SmallG h) (h60 : g.length ≤ 60) (k60 : h.length ≤ 60) (hr : (sumR g h).length ≤ 1048576) : SmallG (sumG g h) := by
  refine ⟨by rw [sumG_len]; omega, fun l hl => ?_⟩
  unfold sumG at hl
  rcases List.mem_cons.1 hl with rfl | hl
  · exact Nat.le_trans (tidyL_len _) hr
  · rcases List.mem_append.1 hl with hl | hl
    · obtain ⟨r, hr, rfl⟩ := List.mem_map.1 hl
      rw [shL_len]; exact hg.2 r hr
    · obtain ⟨r, hr, rfl⟩ := List.mem_map.1 hl
      rw [shL_len]; exact hh.2 r hr
theorem loopGu0 (B : PV) (hB : ∀ f n, known f n B = true) (n : Nat) (hn60 : n ≤ 60) (XA : List PV) (hXA : XA.length = n) (at_ : Int) (b : Gr) (hb : OkTo b) (h60 : b.length ≤ 60) (hs : SmallG b) : ∀ (rest done : Gr), b = done ++ rest →
    loopI G [3, 4, 6, 7, 40, 41, 42] [3, 4, 38, 50, 64, 67] c37l0 ⟨[(3, .ref (0, 3) 1 0 0), (4, .ref (0, 4) 1 0 0), (6, .i at_), (7, .own (0, 38) (n + done.length)), (40, .sl false 1 (encGs false false b)), (41, .i b.length), (42, .i done.length)], [(3, .box [B]), (4, .box [.nils]), (38, .row 1 (XA ++ encGs true true (done.map (shL 1))))], []⟩ =
      some (.exit 0, ⟨[(3, .ref (0, 3) 1 0 0), (4, .ref (0, 4) 1 0 0), (6, .i at_), (7, .own (0, 38) (n + b.length)), (40, .sl false 1 (encGs false false b)), (41, .i b.length), (42, .i b.length), (43, .b false)], [(3, .box [B]), (4, .box [.nils]), (38, .row 1 (XA ++ encGs true true (b.map (shL 1))))], []⟩)
  | [], done, hd => by
    rw [List.append_nil] at hd
    subst hd
    generalize XA ++ encGs true true (b.map (shL 1)) = Q
    generalize encGs false false b = E
    rw [loopI_eq]
    simp [r37l0, b37l0, hB]
  | x :: rest, done, hd => by
    have hrl : b.length = done.length + (rest.length + 1) := by rw [hd]; simp
    have hlt : (done.length : Int) < b.length := by omega
    have hlt2 : done.length < b.length := by omega
    have hw : IntKind.i64.wrap ((done.length : Int) + 1) = (done.length : Int) + 1 := wr (by omega)
    have hdl : n + done.length ≤ 4294967295 := by omega
    have hat : nth (encGs false false b) done.length = some (.sl false 2 (x.map mvP)) := by rw [hd]; simpa using gr_at false false done x rest
    have hEl : (encGs false false b).length = b.length := by simp
    have hxb : x ∈ b := by rw [hd]; simp
    have hsh := eqShift 1 (by omega) x (fun m hm => by have := hb x hxb m hm; omega) (by have := hs.2 x hxb; omega)
    have hn := loopGu0 B hB n hn60 XA hXA at_ b hb h60 hs rest (done ++ [x]) (by simpa using hd)
    have hnew : XA ++ encGs true true ((done ++ [x]).map (shL 1)) = (XA ++ encGs true true (done.map (shL 1))) ++ [encL true true (shL 1 x)] := by simp [encGs]
    have hDl : (XA ++ encGs true true (done.map (shL 1))).length = n + done.length := by simp [hXA]
    rw [hnew] at hn
    simp only [List.length_append, List.length_cons, List.length_nil, Int.natCast_add, show ((0 + 1 : Nat) : Int) = 1 from rfl] at hn
    have hna : n + (done.length + (0 + 1)) = n + done.length + 1 := by omega
    rw [hna] at hn
    have hns := noShares_mv (shL 1 x)
    generalize hF : XA ++ encGs true true (b.map (shL 1)) = F at hn ⊢
    generalize hD : XA ++ encGs true true (done.map (shL 1)) = D at hn hDl ⊢
    generalize hE : encGs false false b = E at hat hEl hn ⊢
    rw [loopI_eq]
    rcases encL_two true true (shL 1 x) with ⟨e, _⟩ | e
    · rw [e] at hsh hn
      simp [r37l0, b37l0, hB, hlt, hlt2, hat, hEl, hsh, hDl, hdl, hw]
      exact hn
    · rw [e] at hsh hn
      generalize (shL 1 x).map mvP = Q at hsh hn hns
      simp [r37l0, b37l0, hB, hlt, hlt2, hat, hEl, hsh, hDl, hdl, hw, hns]
      exact hn
theorem loopGu1 (n k : Nat) (hn60 : n ≤ 200) (hk : k ≤ 1000) (XA : List PV) (hXA : XA.length = n) (b : Gr) (hb : OkTo b) (h60 : b.length ≤ 60) (hs : SmallG b) : ∀ (rest done : Gr), b = done ++ rest →
    loopI G [4, 6, 7, 53, 54, 55] [4, 38, 50, 64, 67] c37l1 ⟨[(4, .ref (0, 4) 1 0 0), (6, .i k), (7, .own (0, 38) (n + done.length)), (53, .sl false 1 (encGs false false b)), (54, .i b.length), (55, .i done.length)], [(4, .box [.nils]), (38, .row 1 (XA ++ encGs true true (done.map (shL k))))], []⟩ =
      some (.exit 2, ⟨[(4, .ref (0, 4) 1 0 0), (6, .i k), (7, .own (0, 38) (n + b.length)), (53, .sl false 1 (encGs false false b)), (54, .i b.length), (55, .i b.length), (56, .b false)], [(4, .box [.nils]), (38, .row 1 (XA ++ encGs true true (b.map (shL k))))], []⟩)
  | [], done, hd => by
    rw [List.append_nil] at hd
    subst hd
    generalize XA ++ encGs true true (b.map (shL k)) = Q
    generalize encGs false false b = E
    rw [loopI_eq]
    simp [r37l1, b37l1]
  | x :: rest, done, hd => by
    have hrl : b.length = done.length + (rest.length + 1) := by rw [hd]; simp
    have hlt : (done.length : Int) < b.length := by omega
    have hlt2 : done.length < b.length := by omega
    have hw : IntKind.i64.wrap ((done.length : Int) + 1) = (done.length : Int) + 1 := wr (by omega)
    have hdl : n + done.length ≤ 4294967295 := by omega
    have hat : nth (encGs false false b) done.length = some (.sl false 2 (x.map mvP)) := by rw [hd]; simpa using gr_at false false done x rest
    have hEl : (encGs false false b).length = b.length := by simp
    have hxb : x ∈ b := by rw [hd]; simp
    have hsh := eqShift k (by omega) x (fun m hm => by have := hb x hxb m hm; omega) (by have := hs.2 x hxb; omega)
    have hn := loopGu1 n k hn60 hk XA hXA b hb h60 hs rest (done ++ [x]) (by simpa using hd)
    have hnew : XA ++ encGs true true ((done ++ [x]).map (shL k)) = (XA ++ encGs true true (done.map (shL k))) ++ [encL true true (shL k x)] := by simp [encGs]
    have hDl : (XA ++ encGs true true (done.map (shL k))).length = n + done.length := by simp [hXA]
    rw [hnew] at hn
    simp only [List.length_append, List.length_cons, List.length_nil, Int.natCast_add, show ((0 + 1 : Nat) : Int) = 1 from rfl] at hn
    have hna : n + (done.length + (0 + 1)) = n + done.length + 1 := by omega
    rw [hna] at hn
    have hns := noShares_mv (shL k x)
    generalize hF : XA ++ encGs true true (b.map (shL k)) = F at hn ⊢
    generalize hD : XA ++ encGs true true (done.map (shL k)) = D at hn hDl ⊢
    generalize hE : encGs false false b = E at hat hEl hn ⊢
    rw [loopI_eq]
    rcases encL_two true true (shL k x) with ⟨e, _⟩ | e
    · rw [e] at hsh hn
      simp [r37l1, b37l1, hlt, hlt2, hat, hEl, hsh, hDl, hdl, hw]
      exact hn
    · rw [e] at hsh hn
      generalize (shL k x).map mvP = Q at hsh hn hns
      simp [r37l1, b37l1, hlt, hlt2, hat, hEl, hsh, hDl, hdl, hw, hns]
      exact hn
theorem eqGraphSumI (g h : Gr) (hsG : SmallG g) (hsH : SmallG h) (hfG : FitG g) (hfH : FitG h) :
    callI G 37 [.agg [.sl false 1 (encGs false false g)], .agg [.sl false 1 (encGs false false h)]] [] = some (.tup [encG true true (graphSum g h).1, .b (graphSum g h).2], []) := by
  have h1 := eqOkI g hfG
  have h2 := eqOkI h hfH
  simp only [encG, encM_f] at h1 h2
  have hE1 : (encGs false false g).length = g.length := by simp
  have hE2 : (encGs false false h).length = h.length := by simp
  cases c1 : grOk g with
  | false =>
    rw [c1] at h1
    rw [callI_eq]
    simp [body1_eq _ _ (gp 37) g37, c37, a37, h1, graphSum, c1]
  | true =>
    rw [c1] at h1
    cases c2 : grOk h with
    | false =>
      rw [c2] at h2
      rw [callI_eq]
      simp [body1_eq _ _ (gp 37) g37, c37, a37, h1, h2, graphSum, c1, c2]
    | true =>
      rw [c2] at h2
      obtain ⟨p1, p2, p3⟩ := grOk_to c1
      obtain ⟨q1, q2, q3⟩ := grOk_to c2
      have hw : IntKind.i64.wrap (1 + (g.length : Int)) = ((1 + g.length : Nat) : Int) := by rw [wr (by omega)]; omega
      have hmg := getD_mem0 p2
      have hmh := getD_mem0 q2
      have hlg := grOk_short c1 _ hmg
      have hlh := grOk_short c2 _ hmh
      have hs1 := eqShift 1 (by omega) (g.getD 0 []) (fun m hm => by have := p1 _ hmg m hm; omega) (by omega)
      have hs2 := eqShift ((1 + g.length : Nat) : Int) (by omega) (h.getD 0 []) (fun m hm => by have := q1 _ hmh m hm; omega) (by omega)
      have hn1 : nth (encGs false false g) 0 = some (.sl false 2 ((g.getD 0 []).map mvP)) := by rw [gr_nth false false g 0 (by omega)]; simp
      have hn2 : nth (encGs false false h) 0 = some (.sl false 2 ((h.getD 0 []).map mvP)) := by rw [gr_nth false false h 0 (by omega)]; simp
      have hg0 : 0 < g.length := by omega
      have hh0 : 0 < h.length := by omega
      have hg0i : (0 : Int) < g.length := by omega
      have hh0i : (0 : Int) < h.length := by omega
      have hAB : (shL 1 (g.getD 0 [])).length + (shL (1 + g.length : Nat) (h.getD 0 [])).length ≤ 1080 := by simp only [shL_len]; omega
      have hsr : (sumR g h).length ≤ 1080 := by unfold sumR; rw [List.length_append]; exact hAB
      have hsm := sumG_small hsG hsH p3 q3 (by omega)
      have hEE : EncR true ([PV.sl true 2 ((tidyL (sumR g h)).map mvP)] ++ encGs true true (g.map (shL 1)) ++ encGs true true (h.map (shL (1 + g.length : Nat)))) (sumG g h) := by
        have := ((encR_G false true [tidyL (sumR g h)]).app (encR_G true true (g.map (shL 1)))).app (encR_G true true (h.map (shL (1 + g.length : Nat))))
        simpa [encGs, sumG] using this
      have hp := eqPartOf _ (sumG g h) hEE.fal (sumG_to p1 q1 p2 q2) hsm (by rw [sumG_len]; omega)
      have l0 := loopGu0 (.sl false 1 (encGs false false h)) (by intro f n; simp) 1 (by omega) [PV.sl true 2 ((tidyL (sumR g h)).map mvP)] rfl ((1 + g.length : Nat) : Int) g p1 p3 hsG g [] rfl
      have l1 := loopGu1 (1 + g.length) (1 + g.length) (by omega) (by omega) ([PV.sl true 2 ((tidyL (sumR g h)).map mvP)] ++ encGs true true (g.map (shL 1))) (by simp; omega) h q1 q3 hsH h [] rfl
      simp only [List.length_nil, show ((0 : Nat) : Int) = 0 from rfl, List.map_nil, show encGs true true [] = [] from rfl, List.append_nil, Nat.add_zero] at l0 l1
      have hga : graphSum g h = made (sumG g h) := by simp [graphSum, c1, c2]
      have hXl : ([PV.sl true 2 ((tidyL (sumR g h)).map mvP)] ++ encGs true true (g.map (shL 1)) ++ encGs true true (h.map (shL (1 + g.length : Nat)))).length = 1 + g.length + h.length := by rw [hEE.1, sumG_len]
      have hns0 := noShares_mv (tidyL (sumR g h))
      rw [hga]
      generalize hm : made (sumG g h) = m at hp ⊢
      obtain ⟨mg, mb⟩ := m
      simp only [encG] at hp ⊢
      have hns := noShares_encGs true mg
      have hsR : sumR g h = shL 1 (g.getD 0 []) ++ shL (1 + g.length : Nat) (h.getD 0 []) := rfl
      have hnA := noShares_mv (shL 1 (g.getD 0 []))
      have hnB := noShares_mv (shL (1 + g.length : Nat) (h.getD 0 []))
      generalize hX1 : [PV.sl true 2 ((tidyL (sumR g h)).map mvP)] ++ encGs true true (g.map (shL 1)) ++ encGs true true (h.map (shL (1 + g.length : Nat))) = X1 at hp l1 hXl
      generalize hX0 : [PV.sl true 2 ((tidyL (sumR g h)).map mvP)] ++ encGs true true (g.map (shL 1)) = X0 at l0 l1
      rw [hsR] at l0 hns0 hsr
      generalize shL 1 (g.getD 0 []) = A at hs1 hAB hnA l0 hns0 hsr
      generalize shL (1 + g.length : Nat) (h.getD 0 []) = B at hs2 hAB hnB l0 hns0 hsr
      generalize ((1 + g.length : Nat) : Int) = ati at hw hs2 l0 l1
      generalize (g.getD 0 []).map mvP = GA at hs1 hn1
      generalize (h.getD 0 []).map mvP = HB at hs2 hn2
      generalize encGs false false g = E1 at h1 hE1 hn1 l0 l1 ⊢
      generalize encGs false false h = E2 at h2 hE2 hn2 l0 l1 ⊢
      have hAl : (A.map mvP).length = A.length := by simp
      have hBl : (B.map mvP).length = B.length := by simp
      have hfA := fals_mvP A
      have hfB := fals_mvP B
      have hA4 : A.length ≤ 4294967296 := by omega
      have hB4 : B.length ≤ 4294967296 := by omega
      have hAB4 : A.length + B.length ≤ 4294967296 := by omega
      rcases encL_two true true A with ⟨eA, eA2⟩ | eA
      · rcases encL_two true true B with ⟨eB, eB2⟩ | eB
        · subst eA2 eB2
          rw [eA] at hs1
          rw [eB] at hs2
          rcases eqTidy (0, 36) [] [[(2, .box [.sl false 1 E1]), (3, .box [.sl false 1 E2]), (4, .box [.nils]), (36, .row 2 [])]] (by simp) rfl (by simp) with ⟨hq, ht⟩ | ht
          all_goals
            simp only [List.append_nil, tidyL_n, List.map_nil, List.length_nil] at ht l0
            rcases encM_two true true mg with ⟨e, _⟩ | e
            all_goals
              rw [e] at hp ⊢
              rw [callI_eq]
              simp [body1_eq _ _ (gp 37) g37, c37, a37, h1, h2, hE1, hE2, hw, hn1, hn2, hg0, hh0, hg0i, hh0i, hs1, hs2, ht, setS, setO, l0, l1, hXl, hp, hns]
        · subst eA2
          rw [eA] at hs1
          rw [eB] at hs2
          rcases eqTidy (0, 36) B [[(2, .box [.sl false 1 E1]), (3, .box [.sl false 1 E2]), (4, .box [.nils]), (35, .dead), (36, .row 2 (B.map mvP))]] (by simp) rfl (by omega) with ⟨hq, ht⟩ | ht
          all_goals
            simp only [List.nil_append] at l0 hns0
            first
              | have hTl : (tidyL B).length = B.length := by rw [hq]; simp [srtM]
              | have hTl : True := trivial
            have hTm : ((tidyL B).map mvP).length = (tidyL B).length := by simp
            generalize (tidyL B).map mvP = TB at ht l0 hns0 hTm
            generalize B.map mvP = BM at hs2 ht hBl hfB hnB
            rcases encM_two true true mg with ⟨e, _⟩ | e
            all_goals
              rw [e] at hp ⊢
              rw [callI_eq]
              simp [body1_eq _ _ (gp 37) g37, c37, a37, h1, h2, hE1, hE2, hw, hn1, hn2, hg0, hh0, hg0i, hh0i, hs1, hs2, hBl, hfB, hnB, hB4, ht, setS, setO, hTm, hTl, l0, l1, hXl, hp, hns, hns0]
      · rcases encL_two true true B with ⟨eB, eB2⟩ | eB
        · subst eB2
          rw [eA] at hs1
          rw [eB] at hs2
          rcases eqTidy (0, 29) A [[(2, .box [.sl false 1 E1]), (3, .box [.sl false 1 E2]), (4, .box [.nils]), (29, .row 2 (A.map mvP))]] (by simp) rfl (by omega) with ⟨hq, ht⟩ | ht
          all_goals
            simp only [List.append_nil] at l0 hns0
            first
              | have hTl : (tidyL A).length = A.length := by rw [hq]; simp [srtM]
              | have hTl : True := trivial
            have hTm : ((tidyL A).map mvP).length = (tidyL A).length := by simp
            generalize (tidyL A).map mvP = TB at ht l0 hns0 hTm
            generalize A.map mvP = AM at hs1 ht hAl hfA hnA
            rcases encM_two true true mg with ⟨e, _⟩ | e
            all_goals
              rw [e] at hp ⊢
              rw [callI_eq]
              simp [body1_eq _ _ (gp 37) g37, c37, a37, h1, h2, hE1, hE2, hw, hn1, hn2, hg0, hh0, hg0i, hh0i, hs1, hs2, hAl, hfA, hnA, hA4, ht, setS, setO, hTm, hTl, l0, l1, hXl, hp, hns, hns0]
        · rw [eA] at hs1
          rw [eB] at hs2
          rcases eqTidy (0, 29) (A ++ B) [[(2, .box [.sl false 1 E1]), (3, .box [.sl false 1 E2]), (4, .box [.nils]), (29, .row 2 (A.map mvP ++ B.map mvP)), (35, .dead)]] (by simp) (by simp [getS, getO]) (by simp; omega) with ⟨hq, ht⟩ | ht
          all_goals
            first
              | have hTl : (tidyL (A ++ B)).length = A.length + B.length := by rw [hq]; simp [srtM]
              | have hTl : True := trivial
            have hTm : ((tidyL (A ++ B)).map mvP).length = (tidyL (A ++ B)).length := by simp
            rw [List.length_append] at ht
            generalize (tidyL (A ++ B)).map mvP = TB at ht l0 hns0 hTm
            generalize A.map mvP = AM at hs1 ht hAl hfA hnA
            generalize B.map mvP = BM at hs2 ht hBl hfB hnB
            rcases encM_two true true mg with ⟨e, _⟩ | e
            all_goals
              rw [e] at hp ⊢
              rw [callI_eq]
              simp [body1_eq _ _ (gp 37) g37, c37, a37, h1, h2, hE1, hE2, hw, hn1, hn2, hg0, hh0, hg0i, hh0i, hs1, hs2, hAl, hfA, hnA, hA4, hBl, hfB, hnB, hB4, hAB4, ht, setS, setO, hTm, hTl, l0, l1, hXl, hp, hns, hns0]
end Go.Am
end
section
set_option maxRecDepth 10000
set_option maxHeartbeats 2000000
set_option linter.unusedSimpArgs false
set_option linter.unusedVariables false
namespace Go.Am
open Go.Proofs Go.Sort Go.Shelf
/-! spec.GraphSum -/
theorem eqGraphSumS (g h : Gr) (hsG : SmallG g) (hsH : SmallG h) (hfG : FitG g) (hfH : FitG h) :
    callI G 36 [.agg [.sl false 1 (encGs false false g)], .agg [.sl false 1 (encGs false false h)]] [] = some (.tup [encG true true (graphSum g h).1, .b (graphSum g h).2], []) := by
  have h1 := eqOkS g hfG
  have h2 := eqOkS h hfH
  simp only [encG, encM_f] at h1 h2
  have hE1 : (encGs false false g).length = g.length := by simp
  cases c1 : grOk g with
  | false =>
    rw [c1] at h1
    rw [callI_eq]
    simp [body1_eq _ _ (gp 36) g36, c36, a36, h1, graphSum, c1]
  | true =>
    rw [c1] at h1
    cases c2 : grOk h with
    | false =>
      rw [c2] at h2
      rw [callI_eq]
      simp [body1_eq _ _ (gp 36) g36, c36, a36, h1, h2, graphSum, c1, c2]
    | true =>
      rw [c2] at h2
      obtain ⟨p1, p2, p3⟩ := grOk_to c1
      obtain ⟨q1, q2, q3⟩ := grOk_to c2
      have hw : IntKind.i64.wrap (1 + (g.length : Int)) = ((1 + g.length : Nat) : Int) := by rw [wr (by omega)]; omega
      have hmg := getD_mem0 p2
      have hmh := getD_mem0 q2
      have hlg := grOk_short c1 _ hmg
      have hlh := grOk_short c2 _ hmh
      have hAB : (shL 1 (g.getD 0 [])).length + (shL (1 + g.length : Nat) (h.getD 0 [])).length ≤ 1080 := by simp only [shL_len]; omega
      have hsr : (sumR g h).length ≤ 1080 := by unfold sumR; rw [List.length_append]; exact hAB
      have hsm := sumG_small hsG hsH p3 q3 (by omega)
      -- both of the empty row and g
      have b1 := eqBoth [.nils] (encGs false false g) [[]] g (encR_G true false [[]]) (encR_G _ _ _) (by simp) (by simp) (by omega) (by constructor <;> simp) hsG (fun l hl m hm => by have := p1 l hl m hm; omega)
      have e2 : ((([[]] : Gr).length : Nat) : Int) = 1 := rfl
      rw [e2] at b1
      have hR1 : EncR false (encGs false false [[]] ++ encGs true false (g.map (shL 1))) ([] :: g.map (shL 1)) := (encR_G false false [[]]).app (encR_G true false (g.map (shL 1)))
      have hl1 : ([] :: g.map (shL 1) : Gr).length = 1 + g.length := by simp; omega
      have hs1 : SmallG ([] :: g.map (shL 1)) := by
        refine ⟨by rw [hl1]; omega, fun l hl => ?_⟩
        rcases List.mem_cons.1 hl with rfl | hl
        · simp
        · obtain ⟨r, hr, rfl⟩ := List.mem_map.1 hl
          rw [shL_len]; exact hsG.2 r hr
      have b2 := eqBoth _ (encGs false false h) ([] :: g.map (shL 1)) h hR1.fal (encR_G _ _ _) (by simp) (by rw [hl1]; omega) (by omega) hs1 hsH (fun l hl m hm => by have := q1 l hl m hm; omega)
      rw [hl1] at b2
      have ex : encGs false false ([] :: g.map (shL 1)) ++ encGs true false (h.map (shL (1 + g.length : Nat))) = .sl false 2 [] :: (encGs false false (g.map (shL 1)) ++ encGs true false (h.map (shL (1 + g.length : Nat)))) := by simp [encGs]
      rw [ex] at b2
      have hR2 : EncR false (encGs false false (g.map (shL 1)) ++ encGs true false (h.map (shL (1 + g.length : Nat)))) (g.map (shL 1) ++ h.map (shL (1 + g.length : Nat))) := (encR_G false false _).app (encR_G true false _)
      have hX2l : (encGs false false (g.map (shL 1)) ++ encGs true false (h.map (shL (1 + g.length : Nat)))).length = g.length + h.length := by simp
      have hat1 : nth (.sl false 2 [] :: (encGs false false (g.map (shL 1)) ++ encGs true false (h.map (shL (1 + g.length : Nat))))) 1 = some (.sl false 2 ((shL 1 (g.getD 0 [])).map mvP)) := by
        have : nth (.sl false 2 [] :: (encGs false false (g.map (shL 1)) ++ encGs true false (h.map (shL (1 + g.length : Nat))))) 1 = nth (encGs false false (g.map (shL 1)) ++ encGs true false (h.map (shL (1 + g.length : Nat)))) 0 := by unfold nth; simp
        rw [this]
        unfold nth
        rw [List.getElem?_append_left (by simp; omega)]
        have := gr_nth false false (g.map (shL 1)) 0 (by simp; omega)
        unfold nth at this
        rw [this, encL_f]
        have e : (g.map (shL 1)).getD 0 [] = shL 1 (g.getD 0 []) := by
          rw [List.getD_eq_getElem?_getD, List.getElem?_map, List.getD_eq_getElem?_getD, List.getElem?_eq_getElem (by omega)]
          rfl
        rw [e]
      have hat2 : nth (.sl false 2 [] :: (encGs false false (g.map (shL 1)) ++ encGs true false (h.map (shL (1 + g.length : Nat))))) (1 + g.length) = some (encL true false (shL (1 + g.length : Nat) (h.getD 0 []))) := by
        have e0 : 1 + g.length = g.length + 1 := by omega
        have : nth (.sl false 2 [] :: (encGs false false (g.map (shL 1)) ++ encGs true false (h.map (shL (1 + g.length : Nat))))) (1 + g.length) = nth (encGs false false (g.map (shL 1)) ++ encGs true false (h.map (shL (1 + g.length : Nat)))) g.length := by
          unfold nth
          rw [e0, List.getElem?_cons_succ]
        rw [this]
        unfold nth
        rw [List.getElem?_append_right (by simp)]
        simp only [encGs_len, List.length_map, Nat.sub_self]
        have := gr_nth true false (h.map (shL (1 + g.length : Nat))) 0 (by simp; omega)
        unfold nth at this
        rw [this]
        have e : (h.map (shL (1 + g.length : Nat))).getD 0 [] = shL (1 + g.length : Nat) (h.getD 0 []) := by
          rw [List.getD_eq_getElem?_getD, List.getElem?_map, List.getD_eq_getElem?_getD, List.getElem?_eq_getElem (by omega)]
          rfl
        rw [e]
      have hso := eqSorted false (sumR g h) (by omega)
      rw [encL_f] at hso
      have hR3 : EncR false (fals (encL true true (tidyL (sumR g h)) :: (encGs false false (g.map (shL 1)) ++ encGs true false (h.map (shL (1 + g.length : Nat)))))) (sumG g h) := by
        have h3 := (encR_G true false [tidyL (sumR g h)]).app hR2.fal
        have e : fals (encL true true (tidyL (sumR g h)) :: (encGs false false (g.map (shL 1)) ++ encGs true false (h.map (shL (1 + g.length : Nat))))) = encGs true false [tidyL (sumR g h)] ++ fals (encGs false false (g.map (shL 1)) ++ encGs true false (h.map (shL (1 + g.length : Nat)))) := by
          simp only [fals, fal_encL]
          rfl
        rw [e]
        exact h3
      have hmd := eqMade _ (sumG g h) hR3 (sumG_to p1 q1 p2 q2) hsm (by rw [sumG_len]; omega)
      have hga : graphSum g h = made (sumG g h) := by simp [graphSum, c1, c2]
      rw [hga]
      generalize hm : made (sumG g h) = m at hmd ⊢
      obtain ⟨mg, mb⟩ := m
      simp only [encG] at hmd ⊢
      have hns := noShares_encGs true mg
      have hsR : sumR g h = shL 1 (g.getD 0 []) ++ shL (1 + g.length : Nat) (h.getD 0 []) := rfl
      have hnT := noShares_mv (tidyL (sumR g h))
      rw [hsR] at hso hmd hnT hsr
      generalize shL 1 (g.getD 0 []) = A at hat1 hAB hso hmd hnT hsr
      generalize shL (1 + g.length : Nat) (h.getD 0 []) = B at hat2 hAB hso hmd hnT hsr
      generalize encGs false false [[]] ++ encGs true false (g.map (shL 1)) = X1 at b1 b2
      generalize encGs false false (g.map (shL 1)) ++ encGs true false (h.map (shL (1 + g.length : Nat))) = X2 at b2 hat1 hat2 hX2l hmd
      have hti : ((1 + g.length : Nat) : Int).toNat = 1 + g.length := by omega
      have ht0 : (0 : Int) ≤ ((1 + g.length : Nat) : Int) := by omega
      have htl : ((1 + g.length : Nat) : Int) < (X2.length : Int) + 1 := by omega
      have htl2 : 1 + g.length < X2.length + 1 := by omega
      have h1l : (1 : Int) < (X2.length : Int) + 1 := by omega
      have h1l2 : 1 < X2.length + 1 := by omega
      have h0l : (0 : Int) < (X2.length : Int) + 1 := by omega
      generalize ((1 + g.length : Nat) : Int) = ati at hw hti ht0 htl
      generalize encGs false false g = E1 at h1 hE1 b1 ⊢
      generalize encGs false false h = E2 at h2 b2 ⊢
      have hAl : (A.map mvP).length = A.length := by simp
      have hBl : (B.map mvP).length = B.length := by simp
      have hfA := fals_mvP A
      have hfB := fals_mvP B
      have hfAB := fals_mvP (A ++ B)
      have hA4 : A.length ≤ 4294967296 := by omega
      have hAB4 : A.length + B.length ≤ 4294967296 := by omega
      rw [List.map_append] at hfAB hso
      rw [callI_eq]
      rcases encL_two true false B with ⟨eB, eB2⟩ | eB
      · subst eB2
        simp only [List.map_nil, List.append_nil] at hfAB hso hmd hnT
        rw [eB] at hat2
        rcases encL_two true true (tidyL A) with ⟨eT, _⟩ | eT
        all_goals
          rw [eT] at hso hmd
          simp only [fals, fal, fals_mvP] at hmd
          rcases encM_two true true mg with ⟨e, _⟩ | e
          all_goals
            rw [e] at hmd ⊢
            simp [body1_eq _ _ (gp 36) g36, c36, a36, h1, h2, hE1, hw, b1, b2, hat1, hat2, hti, ht0, htl, htl2, h1l, h1l2, h0l, hAl, hfA, hA4, hso, hnT, hmd, hns, unAgg, fals_mvP]
      · rw [eB] at hat2
        rcases encL_two true true (tidyL (A ++ B)) with ⟨eT, _⟩ | eT
        all_goals
          rw [eT] at hso hmd
          simp only [fals, fal, fals_mvP] at hmd
          rcases encM_two true true mg with ⟨e, _⟩ | e
          all_goals
            rw [e] at hmd ⊢
            simp [body1_eq _ _ (gp 36) g36, c36, a36, h1, h2, hE1, hw, b1, b2, hat1, hat2, hti, ht0, htl, htl2, h1l, h1l2, h0l, hAl, hBl, hfA, hfB, hfAB, hA4, hAB4, hso, hnT, hmd, hns, unAgg, fals_mvP]
end Go.Am
end
section
set_option maxRecDepth 10000
set_option maxHeartbeats 4000000
set_option linter.unusedSimpArgs false
set_option linter.unusedVariables false
namespace Go.Am
open Go.Proofs Go.Sort Go.Shelf
theorem graphSum_small {g h : Gr} (hg : SmallG g) (hh : SmallG h) : SmallG (graphSum g h).1 := by
  unfold graphSum
  split
  · rename_i hc
    simp only [Bool.and_eq_true] at hc
    obtain ⟨p1, p2, p3⟩ := grOk_to hc.1
    obtain ⟨q1, q2, q3⟩ := grOk_to hc.2
    refine made_small (sumG_small hg hh p3 q3 ?_)
    have h1 := grOk_short hc.1 _ (getD_mem0 p2)
    have h2 := grOk_short hc.2 _ (getD_mem0 q2)
    unfold sumR
    rw [List.length_append, shL_len, shL_len]
    omega
  · exact ⟨by simp, fun l hl => by cases hl⟩
theorem lawGraphSum (e g : Gr) (hfe : FitG e) (hfg : FitG g) : callI G 6 [encG false false e, encG false false g] [] = some (.b true, []) := by
  rw [callI_eq]
  have h1 := eqSzG e hfe
  by_cases hs : szG e 1048576 < 0
  · simp only [encG, encM_f, hs, if_true] at h1 ⊢
    simp [body1_eq _ _ (gp 6) g6, c6, a6, h1]
  obtain ⟨hse, hLe⟩ := szG_smallL (by omega) hs
  have h2 := eqSzGL g hfg (szG e 1048576) (by omega) hLe
  by_cases hs2 : szG g (szG e 1048576) < 0
  · simp only [encG, encM_f, hs, if_false] at h1 ⊢
    simp only [encG, encM_f, hs2, if_true] at h2 ⊢
    simp [body1_eq _ _ (gp 6) g6, c6, a6, h1, hs, h2]
  obtain ⟨hsg, _⟩ := szG_smallL hLe hs2
  have ht1 := eqToG e hse
  have ht2 := eqToG g hsg
  have hE1 := eqEqG false false e e hfe
  have hE2 := eqEqG false false g g hfg
  have hS := eqGraphSumS e g hse hsg hfe hfg
  have hI := eqGraphSumI e g hse hsg hfe hfg
  have hr := graphSum_small hse hsg
  have hfl : fals (encGs false true e) = encGs false false e := fals_encGs _ _ _
  have hfl2 : fals (encGs false true g) = encGs false false g := fals_encGs _ _ _
  have hn1 := noShares_encGs false e
  have hn2 := noShares_encGs false g
  generalize hR : graphSum e g = R at hS hI hr
  obtain ⟨q, b⟩ := R
  have hrc := SmallG.cnt hr
  simp only at hrc
  have hce := SmallG.cnt hse
  have hcg := SmallG.cnt hsg
  have hpe := cntG_pos e
  have hpg := cntG_pos g
  have hpq := cntG_pos q
  have hEq := eqEqG true true q q hr.fit
  have hH := eqHlG true q 1 (by have := hr.1; simp only at this; omega) (by omega) (by omega)
  have hMe := fun (Lo : Objs) (h : getO Lo 36 = some (.row 1 (encGs false true e))) => eqMkG false e 1 [Lo] (0, 36) (by simp) h (by have := hse.1; omega) (by omega) (by omega)
  have hMg := fun (Lo : Objs) (h : getO Lo 38 = some (.row 1 (encGs false true g))) => eqMkG false g (1 + 2 * cntG e) [Lo] (0, 38) (by simp) h (by have := hsg.1; omega) (by omega) (by omega)
  have hMq := fun (Lo : Objs) (h : getO Lo 42 = some (.row 1 (encGs true true q))) => eqMkG true q 1 [Lo] (0, 42) (by simp) h (by have := hr.1; simp only at this; omega) (by omega) (by omega)
  simp only [show ∀ (Lo : Objs) (d : Nat) (ob : OB), setS [Lo] (0, d) ob = [setO Lo d ob] from fun _ _ _ => rfl] at hMe hMg hMq
  have hns := noShares_encGs true q
  have hflq : fals (encGs true true q) = encGs true false q := fals_encGs _ _ _
  have hflm : ∀ k, fals (encGs true true (mkG k q)) = encGs true false (mkG k q) := fun k => fals_encGs _ _ _
  have hk : ¬ (1 + 2 * cntG e + 2 * cntG g < 0) := by omega
  have hk2 : ¬ (1 + 2 * cntG q < 0) := by omega
  simp only [decide_true] at hE1 hE2 hEq
  simp only [encG, encM_f, hs, hs2, if_false] at h1 h2 ht1 ht2 hE1 hE2 hS hI hEq hH ⊢
  rcases encM_two true true q with ⟨e0, e2⟩ | e0
  · subst e2
    have hM := eqMkGN 1
    simp only [encM_n, mkG, cntG, Int.mul_zero, Int.add_zero] at hS hI hEq hH
    simp [body1_eq _ _ (gp 6) g6, c6, a6, h1, hs, h2, hs2, ht1, ht2, hE1, hE2, hS, hI, hEq, hH, hM, hfl, hfl2, hn1, hn2, hMe, hMg, hk]
  · have hqn : q ≠ [] := by intro e3; rw [e3] at e0; cases e0
    have eF : encM' true false q = .sl false 1 (encGs true false q) := encM_ne hqn
    have eM : encM' true false (mkG 1 q) = .sl false 1 (encGs true false (mkG 1 q)) := encM_ne (mkG_ne hqn)
    rw [e0] at hS hI
    rw [eF] at hEq
    rw [eM] at hH
    simp [body1_eq _ _ (gp 6) g6, c6, a6, h1, hs, h2, hs2, ht1, ht2, hE1, hE2, hS, hI, hEq, hH, hfl, hfl2, hflq, hflm, hns, hn1, hn2, hk, hk2, hMe, hMg, hMq]
end Go.Am
end
