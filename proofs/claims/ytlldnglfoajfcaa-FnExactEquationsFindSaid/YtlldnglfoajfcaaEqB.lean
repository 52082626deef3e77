/- The rounds of both sides step by step. -/
import Derived.Test.YtlldnglfoajfcaaEqA
import Derived.Test.YtlldnglfoajfcaaGtD
section
set_option maxRecDepth 10000
set_option maxHeartbeats 1000000
set_option linter.unusedSimpArgs false
set_option linter.unusedVariables false
namespace Go.Am
open Go.Proofs Go.Sort Go.Shelf
/-! impl.alikeRounds's marks -/
def mrL (cl : List Int) (L : List Mv) : List Mv := L.map fun m => (m.1, clAt cl m.2)
def markOf (cl : List Int) (L : List Mv) : List Mv := tidyL (mrL cl L)
theorem mark_eq {cl : List Int} {L M : List Mv} : markOf cl L = markOf cl M ↔ ∀ a c, (∃ m ∈ L, m.1 = a ∧ clAt cl m.2 = c) ↔ (∃ m ∈ M, m.1 = a ∧ clAt cl m.2 = c) := by
  have hm : ∀ (L : List Mv) (a c : Int), (a, c) ∈ mrL cl L ↔ ∃ m ∈ L, m.1 = a ∧ clAt cl m.2 = c := by
    intro L a c
    simp only [mrL, List.mem_map, Prod.mk.injEq]
  constructor
  · intro h a c
    rw [← hm, ← hm, ← (tidyL_sd (mrL cl L)).2, ← (tidyL_sd (mrL cl M)).2]
    unfold markOf at h
    rw [h]
  · intro h
    refine Sd_uniq _ _ (tidyL_sd _).1 (tidyL_sd _).1 fun y => ?_
    show y ∈ tidyL (mrL cl L) ↔ y ∈ tidyL (mrL cl M)
    rw [(tidyL_sd (mrL cl L)).2, (tidyL_sd (mrL cl M)).2]
    obtain ⟨a, c⟩ := y
    rw [hm, hm]
    exact h a c
theorem alk_mark {cl : List Int} {g : Gr} {s t : Nat} : alk cl g s t ↔ cl.getD t 0 = cl.getD s 0 ∧ markOf cl (g.getD s []) = markOf cl (g.getD t []) := by
  rw [alk, mark_eq]
/-- A row of moves that grows from nothing, at a frame's height. -/
def owKP (n d : Nat) (l : List Mv) : PV := if l = [] then .nils else .own (n, d) l.length
theorem loopMk (E : List PV) (g : Gr) (hE : EncR false E g) (cl : List Int) (hcl : cl.length = g.length) (L1 : Objs) (L : List Mv) (nl : Bool) (hLl : L.length ≤ 1048576) (hto : ∀ m ∈ L, 0 ≤ m.2 ∧ m.2 < g.length) : ∀ (rest done : List Mv), L = done ++ rest →
    loopI G [0, 6, 14, 15, 16] [9, 30] c167l0 ⟨[(0, .sl false 1 (cl.map PV.i)), (6, owKP 4 30 (mrL cl done)), (14, encL nl false L), (15, .i L.length), (16, .i done.length)], owL 30 (mrL cl done), [[(1, .box [.sl false 1 E])], L1, [], []]⟩ =
      some (.exit 0, ⟨[(0, .sl false 1 (cl.map PV.i)), (6, owKP 4 30 (mrL cl L)), (14, encL nl false L), (15, .i L.length), (16, .i L.length), (17, .b false)], owL 30 (mrL cl L), [[(1, .box [.sl false 1 E])], L1, [], []]⟩)
  | [], done, hd => by
    rw [List.append_nil] at hd
    subst hd
    have hk : ∀ f n, known f n (encL nl false L) = true := fun f n => by simp
    generalize encL nl false L = X at hk ⊢
    rw [loopI_eq]
    rcases L with _ | ⟨y, L⟩
    · simp [r167l0, b167l0, mrL, owKP, owL, hk]
    · simp [r167l0, b167l0, mrL, owKP, owL, hk]
  | m :: rest, done, hd => by
    have hen : encL nl false L = .sl false 2 (L.map mvP) := encL_ne (by rw [hd]; simp)
    have hLl2 : L.length = done.length + (rest.length + 1) := by rw [hd]; simp
    have hlt : (done.length : Int) < L.length := by omega
    have hlt2 : done.length < L.length := by omega
    have hw : IntKind.i64.wrap ((done.length : Int) + 1) = (done.length : Int) + 1 := wr (by omega)
    have hat2 : nth (L.map mvP) done.length = some (mvP m) := by rw [hd]; exact mv_at done m rest
    have hm := hto m (by rw [hd]; simp)
    have hm1 := hm.1
    have hm2 := hm.2
    have hc : nth (cl.map PV.i) m.2.toNat = some (.i (clAt cl m.2)) := int_nth cl m.2.toNat (by omega)
    have hcl2 : (cl.map PV.i).length = g.length := by simp [hcl]
    have hn := loopMk E g hE cl hcl L1 L nl hLl hto rest (done ++ [m]) (by simpa using hd)
    have hmk : mrL cl (done ++ [m]) = mrL cl done ++ [(m.1, clAt cl m.2)] := by simp [mrL]
    have hne : mrL cl done ++ [(m.1, clAt cl m.2)] ≠ [] := by simp
    have hdl : (mrL cl done).length = done.length := by simp [mrL]
    have hdb : done.length ≤ 4294967295 := by omega
    rw [hmk, hen] at hn
    rw [hen]
    simp only [owKP, owL, hne, if_false, List.length_append, List.length_cons, List.length_nil, Int.natCast_add, show ((0 + 1 : Nat) : Int) = 1 from rfl, List.map_append, List.map_cons, List.map_nil, hdl] at hn
    have hml : (L.map mvP).length = L.length := by simp
    have hdm : ((mrL cl done).map mvP).length = done.length := by simp [mrL]
    generalize hM : L.map mvP = M at hat2 hml hn ⊢
    generalize hC : cl.map PV.i = C at hc hcl2 hn ⊢
    simp only [mvP] at hat2 hn
    rw [loopI_eq]
    by_cases hd0 : done = []
    · subst hd0
      simp [mrL] at hn
      simp only [List.length_nil, show ((0 : Nat) : Int) = 0 from rfl] at hat2 hlt hlt2
      simp [r167l0, b167l0, owKP, owL, mrL, hlt, hlt2, hat2, hml, hm1, hm2, hc, hcl2, unAgg, wr1]
      exact hn
    · have hmn : ¬ mrL cl done = [] := by simp [mrL, hd0]
      simp only [owKP, owL, hmn, if_false, hdl]
      generalize hD : (mrL cl done).map mvP = D at hdm hn ⊢
      simp [r167l0, b167l0, hlt, hlt2, hat2, hml, hm1, hm2, hc, hcl2, unAgg, hw, hdm, hdb]
      exact hn
theorem eqMark (E : List PV) (g : Gr) (hE : EncR false E g) (cl : List Int) (hcl : cl.length = g.length) (hsm : SmallG g) (hok : OkTo g) (s : Nat) (hs : s < g.length) (L1 : Objs) :
    callI G 167 [.sl false 1 (cl.map PV.i), .i s, .ref (0, 1) 1 0 0] [[(1, .box [.sl false 1 E])], L1, [], []] = some (encL true true (markOf cl (g.getD s [])), [[(1, .box [.sl false 1 E])], L1, [], []]) := by
  have hEl := hE.1
  obtain ⟨nl, hat⟩ := hE.2 s hs
  have hsi : (s : Int) < g.length := by omega
  have hLl : (g.getD s []).length ≤ 1048576 := hsm.2 _ (by rw [List.getD_eq_getElem?_getD, List.getElem?_eq_getElem hs, Option.getD_some]; exact List.getElem_mem hs)
  have hl := loopMk E g hE cl hcl L1 (g.getD s []) nl hLl (hok.row s) (g.getD s []) [] rfl
  simp only [List.length_nil, show ((0 : Nat) : Int) = 0 from rfl, show mrL cl [] = [] from rfl, show owKP 4 30 [] = .nils from rfl, owL_n] at hl
  generalize g.getD s [] = L at hat hLl hl ⊢
  have hml : (mrL cl L).length = L.length := by simp [mrL]
  rw [callI_eq]
  by_cases hL : L = []
  · subst hL
    have ht := eqTidyN []
    have hmo : markOf cl [] = [] := by simp [markOf, mrL, tidyL, srtM, dd]
    rw [hmo]
    simp only [show mrL cl [] = [] from rfl, show owKP 4 30 [] = .nils from rfl, owL_n] at hl
    rcases encL_two nl false [] with ⟨e, e2⟩ | e
    · rw [e] at hat hl
      simp at hl
      simp [body1_eq _ _ (gp 167) g167, c167, a167, hEl, hs, hsi, hat, hl, ht]
    · rw [e] at hat hl
      simp at hat hl
      simp [body1_eq _ _ (gp 167) g167, c167, a167, hEl, hs, hsi, hat, hl, ht]
  · have hd : mrL cl L ≠ [] := by simp [mrL, hL]
    have ht := eqTidy (4, 30) (mrL cl L) [[(1, .box [.sl false 1 E])], L1, [], [], [(30, .row 2 ((mrL cl L).map mvP))]] (by simp) rfl (by omega)
    have hmo : markOf cl L ≠ [] := by
      intro e
      obtain ⟨y, hy⟩ := List.exists_mem_of_ne_nil _ hd
      have := ((tidyL_sd (mrL cl L)).2 y).2 hy
      unfold markOf at e
      rw [e] at this; cases this
    have he : encL true true (markOf cl L) = .sl true 2 ((markOf cl L).map mvP) := encL_ne hmo
    have hen : encL nl false L = .sl false 2 (L.map mvP) := encL_ne hL
    have hMl : (L.map mvP).length = L.length := by simp
    rw [he]
    rw [hen] at hat hl
    simp only [owKP, owL, hd, if_false, hml] at hl
    rw [hml] at ht
    generalize L.map mvP = M at hat hl hMl
    rcases ht with ⟨hq, ht⟩ | ht
    · have hml2 : (markOf cl L).length = L.length := by unfold markOf; rw [hq]; simp [srtM, hml]
      have hml3 : ((markOf cl L).map mvP).length = L.length := by simp [hml2]
      have hqq : tidyL (mrL cl L) = markOf cl L := rfl
      rw [hqq] at ht
      generalize (markOf cl L).map mvP = Q at ht hml3 ⊢
      generalize (mrL cl L).map mvP = D at ht hl
      simp [body1_eq _ _ (gp 167) g167, c167, a167, hEl, hs, hsi, hat, hMl, hl, ht, setS, hml3]
    · have hqq : tidyL (mrL cl L) = markOf cl L := rfl
      rw [hqq] at ht
      generalize (markOf cl L).map mvP = Q at ht ⊢
      generalize (mrL cl L).map mvP = D at ht hl
      simp [body1_eq _ _ (gp 167) g167, c167, a167, hEl, hs, hsi, hat, hMl, hl, ht, setS]
/-- impl.rounds's closure. -/
theorem eqMk1 (E : List PV) (g : Gr) (hE : EncR false E g) (cl : List Int) (hcl : cl.length = g.length) (hsm : SmallG g) (hok : OkTo g) (s : Nat) (hs : s < g.length) (R : OB) :
    callI G 188 [.i s, .ref (1, 3) 1 0 0, .ref (1, 6) 1 0 0] [[(1, .box [.sl false 1 E])], [(3, .box [.clo 167 [.ref (0, 1) 1 0 0]]), (6, .box [.sl false 1 (cl.map PV.i)]), (10, R)], []] =
      some (encL true true (markOf cl (g.getD s [])), [[(1, .box [.sl false 1 E])], [(3, .box [.clo 167 [.ref (0, 1) 1 0 0]]), (6, .box [.sl false 1 (cl.map PV.i)]), (10, R)], []]) := by
  have hm := eqMark E g hE cl hcl hsm hok s hs [(3, .box [.clo 167 [.ref (0, 1) 1 0 0]]), (6, .box [.sl false 1 (cl.map PV.i)]), (10, R)]
  generalize markOf cl (g.getD s []) = Q at hm ⊢
  generalize cl.map PV.i = C at hm ⊢
  rw [callI_eq]
  rcases encL_two true true Q with ⟨e, e2⟩ | e
  · rw [e] at hm ⊢
    simp [body1_eq _ _ (gp 188) g188, c188, a188, hm]
  · rw [e] at hm ⊢
    simp [body1_eq _ _ (gp 188) g188, c188, a188, hm]
end Go.Am
end
section
set_option maxRecDepth 10000
set_option maxHeartbeats 1000000
set_option linter.unusedSimpArgs false
set_option linter.unusedVariables false
namespace Go.Am
open Go.Proofs Go.Sort Go.Shelf
/-! slices.Equal at moves and at numbers -/
theorem loopEqM (p q : List Mv) : ∀ (a b : List Mv), a.length = b.length → p.length = q.length → (p ++ a).length ≤ 4611686018427387904 →
    ∃ r, loopI G [0, 1, 12, 13] [] c206l0 ⟨[(0, .sl false 2 ((p ++ a).map mvP)), (1, .sl false 2 ((q ++ b).map mvP)), (12, .i (p ++ a).length), (13, .i p.length)], [], []⟩ = some r ∧
      ((a ≠ b ∧ r = (.ret, ⟨[(4, .b false)], [], []⟩)) ∨ (a = b ∧ r = (.exit 0, ⟨[(0, .sl false 2 ((p ++ a).map mvP)), (1, .sl false 2 ((q ++ b).map mvP)), (12, .i (p ++ a).length), (13, .i (p ++ a).length), (14, .b false)], [], []⟩))) := by
  intro a
  induction a generalizing p q with
  | nil =>
    intro b hab hpq hl
    have hb : b = [] := List.length_eq_zero_iff.1 hab.symm
    subst hb
    refine ⟨_, ?_, .inr ⟨rfl, rfl⟩⟩
    rw [loopI_eq]
    simp [r206l0, b206l0]
  | cons x a ih =>
    intro b hab hpq hl
    cases b with
    | nil => cases hab
    | cons y b =>
      have hab' : a.length = b.length := by simpa using hab
      have hA := mv_at p x a
      have hB := mv_at q y b
      rw [← hpq] at hB
      have hll : (p ++ x :: a).length = p.length + (a.length + 1) := by simp
      have hlA : ((p ++ x :: a).map mvP).length = p.length + (a.length + 1) := by simp
      have hlB : ((q ++ y :: b).map mvP).length = p.length + (a.length + 1) := by simp; omega
      have hlt : (p.length : Int) < (p.length : Int) + ((a.length : Int) + 1) := by omega
      have hlt2 : p.length < p.length + (a.length + 1) := by omega
      have hw : IntKind.i64.wrap ((p.length : Int) + 1) = (p.length : Int) + 1 := wr (by omega)
      obtain ⟨r, hn, hr⟩ := ih (p ++ [x]) (q ++ [y]) b hab' (by simp [hpq]) (by simpa using hl)
      have e1 : p ++ [x] ++ a = p ++ x :: a := by simp
      have e2 : q ++ [y] ++ b = q ++ y :: b := by simp
      rw [e1, e2, hll] at hn hr
      rw [hll]
      simp only [List.length_append, List.length_cons, List.length_nil, Int.natCast_add, show ((0 + 1 : Nat) : Int) = 1 from rfl, show ((1 : Nat) : Int) = 1 from rfl] at hn hr ⊢
      generalize hX : (p ++ x :: a).map mvP = X at hA hlA hn hr ⊢
      generalize hZ : (q ++ y :: b).map mvP = Z at hB hlB hn hr ⊢
      simp only [mvP] at hA hB
      by_cases c : x.1 = y.1 ∧ x.2 = y.2
      · have c3 : x = y := Prod.ext c.1 c.2
        subst c3
        refine ⟨r, ?_, by simpa using hr⟩
        rw [loopI_eq]
        simp [r206l0, b206l0, hlA, hlB, hlt, hlt2, hA, hB, hw, unAgg]
        exact hn
      · have c3 : x ≠ y := fun e => c (by subst e; exact ⟨rfl, rfl⟩)
        refine ⟨_, ?_, .inl ⟨by simp [c3], rfl⟩⟩
        have c4 : ¬ (x.1 = y.1 ∧ x.2 = y.2) := c
        rw [loopI_eq]
        by_cases c1 : x.1 = y.1
        · have c2 : ¬ x.2 = y.2 := fun e => c ⟨c1, e⟩
          simp [r206l0, b206l0, hlA, hlB, hlt, hlt2, hA, hB, c1, c2, unAgg]
        · simp [r206l0, b206l0, hlA, hlB, hlt, hlt2, hA, hB, c1, unAgg]
theorem eqEqM (a b : List Mv) (h : a.length ≤ 4611686018427387904) (h2 : b.length ≤ 4611686018427387904) : callI G 206 [encL true false a, encL true false b] [] = some (.b (decide (a = b)), []) := by
  have ha : ∀ n d gg, core1 n d gg .len [encL true false a] = some (.i a.length, []) := fun n d gg => by simp
  have hb : ∀ n d gg, core1 n d gg .len [encL true false b] = some (.i b.length, []) := fun n d gg => by simp
  have hka : ∀ f n, known f n (encL true false a) = true := fun f n => by simp
  have hkb : ∀ f n, known f n (encL true false b) = true := fun f n => by simp
  rw [callI_eq]
  by_cases hl : a.length = b.length
  · obtain ⟨r, hn, hr⟩ := loopEqM [] [] a b hl rfl (by simpa using h)
    simp only [List.nil_append, List.length_nil, show ((0 : Nat) : Int) = 0 from rfl] at hn hr
    have hli : (a.length : Int) = b.length := by omega
    by_cases hz : a = []
    · subst hz
      have hbz : b = [] := List.length_eq_zero_iff.1 hl.symm
      subst hbz
      have h0 : loopI G [0, 1, 12, 13] [] c206l0 ⟨[(0, .nils), (1, .nils), (12, .i 0), (13, .i 0)], [], []⟩ = some (.exit 0, ⟨[(0, .nils), (1, .nils), (12, .i 0), (13, .i 0), (14, .b false)], [], []⟩) := by
        rw [loopI_eq]
        simp [r206l0, b206l0]
      simp [body1_eq _ _ (gp 206) g206, c206, a206, h0]
    · have hbz : b ≠ [] := fun e => hz (List.length_eq_zero_iff.1 (by rw [hl, e]; rfl))
      have ea : encL true false a = .sl false 2 (a.map mvP) := encL_ne hz
      have eb : encL true false b = .sl false 2 (b.map mvP) := encL_ne hbz
      rw [ea, eb]
      rcases hr with ⟨h1, rfl⟩ | ⟨h1, rfl⟩
      · simp [body1_eq _ _ (gp 206) g206, c206, a206, hli, hn, h1] <;> simp [← hli, hn]
      · subst h1
        simp [body1_eq _ _ (gp 206) g206, c206, a206, hn]
  · have hne : a ≠ b := fun e => hl (by rw [e])
    have hli : ¬ (a.length : Int) = b.length := by omega
    generalize encL true false a = A at ha hka ⊢
    generalize encL true false b = B at hb hkb ⊢
    simp [body1_eq _ _ (gp 206) g206, c206, a206, hli, hne, ha, hb, hka, hkb]
theorem loopEqI (p q : List Int) : ∀ (a b : List Int), a.length = b.length → p.length = q.length → (p ++ a).length ≤ 4611686018427387904 →
    ∃ r, loopI G [0, 1, 12, 13] [] c189l0 ⟨[(0, .sl false 1 ((p ++ a).map PV.i)), (1, .sl false 1 ((q ++ b).map PV.i)), (12, .i (p ++ a).length), (13, .i p.length)], [], []⟩ = some r ∧
      ((a ≠ b ∧ r = (.ret, ⟨[(4, .b false)], [], []⟩)) ∨ (a = b ∧ r = (.exit 0, ⟨[(0, .sl false 1 ((p ++ a).map PV.i)), (1, .sl false 1 ((q ++ b).map PV.i)), (12, .i (p ++ a).length), (13, .i (p ++ a).length), (14, .b false)], [], []⟩))) := by
  intro a
  induction a generalizing p q with
  | nil =>
    intro b hab hpq hl
    have hb : b = [] := List.length_eq_zero_iff.1 hab.symm
    subst hb
    refine ⟨_, ?_, .inr ⟨rfl, rfl⟩⟩
    rw [loopI_eq]
    simp [r189l0, b189l0]
  | cons x a ih =>
    intro b hab hpq hl
    cases b with
    | nil => cases hab
    | cons y b =>
      have hab' : a.length = b.length := by simpa using hab
      have hA := ii_at p x a
      have hB := ii_at q y b
      rw [← hpq] at hB
      have hll : (p ++ x :: a).length = p.length + (a.length + 1) := by simp
      have hlA : ((p ++ x :: a).map PV.i).length = p.length + (a.length + 1) := by simp
      have hlB : ((q ++ y :: b).map PV.i).length = p.length + (a.length + 1) := by simp; omega
      have hlt : (p.length : Int) < (p.length : Int) + ((a.length : Int) + 1) := by omega
      have hlt2 : p.length < p.length + (a.length + 1) := by omega
      have hw : IntKind.i64.wrap ((p.length : Int) + 1) = (p.length : Int) + 1 := wr (by omega)
      obtain ⟨r, hn, hr⟩ := ih (p ++ [x]) (q ++ [y]) b hab' (by simp [hpq]) (by simpa using hl)
      have e1 : p ++ [x] ++ a = p ++ x :: a := by simp
      have e2 : q ++ [y] ++ b = q ++ y :: b := by simp
      rw [e1, e2, hll] at hn hr
      rw [hll]
      simp only [List.length_append, List.length_cons, List.length_nil, Int.natCast_add, show ((0 + 1 : Nat) : Int) = 1 from rfl, show ((1 : Nat) : Int) = 1 from rfl] at hn hr ⊢
      generalize hX : (p ++ x :: a).map PV.i = X at hA hlA hn hr ⊢
      generalize hZ : (q ++ y :: b).map PV.i = Z at hB hlB hn hr ⊢
      by_cases c : x = y
      · subst c
        refine ⟨r, ?_, by simpa using hr⟩
        rw [loopI_eq]
        simp [r189l0, b189l0, hlA, hlB, hlt, hlt2, hA, hB, hw]
        exact hn
      · refine ⟨_, ?_, .inl ⟨by simp [c], rfl⟩⟩
        rw [loopI_eq]
        simp [r189l0, b189l0, hlA, hlB, hlt, hlt2, hA, hB, c]
theorem eqEqI (a b : List Int) (hl : a.length = b.length) (h : a.length ≤ 4611686018427387904) : callI G 189 [.sl false 1 (a.map PV.i), .sl false 1 (b.map PV.i)] [] = some (.b (decide (a = b)), []) := by
  obtain ⟨r, hn, hr⟩ := loopEqI [] [] a b hl rfl (by simpa using h)
  simp only [List.nil_append, List.length_nil, show ((0 : Nat) : Int) = 0 from rfl] at hn hr
  have hli : (a.length : Int) = b.length := by omega
  have hla : (a.map PV.i).length = a.length := by simp
  have hlb : (b.map PV.i).length = a.length := by simp [hl]
  rw [callI_eq]
  generalize a.map PV.i = A at hn hr hla ⊢
  generalize b.map PV.i = B at hn hr hlb ⊢
  rcases hr with ⟨h1, rfl⟩ | ⟨h1, rfl⟩
  · simp [body1_eq _ _ (gp 189) g189, c189, a189, hla, hlb, hn, h1]
  · subst h1
    simp [body1_eq _ _ (gp 189) g189, c189, a189, hla, hlb, hn]
end Go.Am
end
section
set_option maxRecDepth 10000
set_option maxHeartbeats 1000000
set_option linter.unusedSimpArgs false
set_option linter.unusedVariables false
namespace Go.Am
open Go.Proofs Go.Sort Go.Shelf
/-! impl.refine -/
theorem encL_form (l : List Mv) : encL true false l = .nils ∨ ∃ Q, encL true false l = .sl false 2 Q := by
  rcases encL_two true false l with ⟨e, _⟩ | e
  · exact .inl e
  · exact .inr ⟨_, e⟩
abbrev cloMk : PV := .clo 188 [.ref (1, 3) 1 0 0, .ref (1, 6) 1 0 0]
abbrev stk (E : List PV) (cl : List Int) (R : OB) : Stack := [[(1, .box [.sl false 1 E])], [(3, .box [.clo 167 [.ref (0, 1) 1 0 0]]), (6, .box [.sl false 1 (cl.map PV.i)]), (10, R)]]
def mksL (cl : List Int) (g : Gr) (s : Nat) : List PV := (List.range s).map (fun r => encL true false (markOf cl (g.getD r []))) ++ List.replicate (g.length - s) .nils
theorem mksL_at {cl : List Int} {g : Gr} {s r : Nat} (h : r < s) : nth (mksL cl g s) r = some (encL true false (markOf cl (g.getD r []))) := by
  unfold nth mksL
  rw [List.getElem?_append_left (by simpa using h)]
  simp [h]
theorem mksL_len {cl : List Int} {g : Gr} {s : Nat} (h : s ≤ g.length) : (mksL cl g s).length = g.length := by simp [mksL]; omega
theorem mksL_set {cl : List Int} {g : Gr} {s : Nat} (h : s < g.length) : (mksL cl g s).set s (encL true false (markOf cl (g.getD s []))) = mksL cl g (s + 1) := by
  unfold mksL
  rw [List.set_append_right _ _ (by simp), List.range_succ]
  have e : g.length - s = (g.length - (s + 1)) + 1 := by omega
  rw [e, List.replicate_succ]
  simp
def outL (cl : List Int) (g : Gr) (s : Nat) : List Int := (List.range s).map (fun r => (nxt cl g r : Int)) ++ List.replicate (g.length - s) 0
theorem outL_len {cl : List Int} {g : Gr} {s : Nat} (h : s ≤ g.length) : (outL cl g s).length = g.length := by simp [outL]; omega
theorem outL_set {cl : List Int} {g : Gr} {s : Nat} (h : s < g.length) : ((outL cl g s).map PV.i).set s (.i (nxt cl g s)) = (outL cl g (s + 1)).map PV.i := by
  unfold outL
  rw [List.map_append, List.set_append_right _ _ (by simp), List.range_succ]
  have e : g.length - s = (g.length - (s + 1)) + 1 := by omega
  rw [e, List.replicate_succ]
  simp
theorem loopRf0 (E : List PV) (g : Gr) (cl : List Int) (hcl : cl.length = g.length) (hsm : SmallG g) (R : OB) (s : Nat) (hs : s < g.length) (O : List PV) (hO : O.length = g.length) (hOs : nth O s = some (.i s)) (M : List PV) (hM : M.length = g.length) (hMa : ∀ r, r < s + 1 → nth M r = some (encL true false (markOf cl (g.getD r [])))) (hmk : ∀ r, (markOf cl (g.getD r [])).length ≤ 4611686018427387904) : ∀ (k r : Nat), r + k = s → (∀ t, t < r → ¬ alk cl g s t) →
    ∃ st, loopI G [0, 1, 5, 6, 7, 8, 16, 17] [11, 14] c187l0 ⟨[(0, .sl false 1 (cl.map PV.i)), (1, cloMk), (5, .own (2, 11) g.length), (6, .own (2, 14) g.length), (7, .i s), (8, .i r), (16, .i g.length), (17, .i s)], [(11, .row 1 O), (14, .row 1 M)], stk E cl R⟩ = some (.exit 2, st) ∧
      ((nxt cl g s = s ∧ st = ⟨[(0, .sl false 1 (cl.map PV.i)), (1, cloMk), (5, .own (2, 11) g.length), (6, .own (2, 14) g.length), (7, .i s), (8, .i s), (16, .i g.length), (17, .i s), (32, .b false)], [(11, .row 1 O), (14, .row 1 M)], stk E cl R⟩) ∨
       (st = ⟨[(0, .sl false 1 (cl.map PV.i)), (1, cloMk), (5, .own (2, 11) g.length), (6, .own (2, 14) g.length), (16, .i g.length), (17, .i s)], [(11, .row 1 (O.set s (.i (nxt cl g s)))), (14, .row 1 M)], stk E cl R⟩))
  | 0, r, hr, hb => by
    have hr : r = s := by omega
    subst hr
    have hx := nxt_spec cl g r
    have he : nxt cl g r = r := by
      rcases Nat.lt_or_ge (nxt cl g r) r with h | h
      · exact (hb _ h hx.2.1).elim
      · omega
    refine ⟨_, ?_, .inl ⟨he, rfl⟩⟩
    rw [loopI_eq]
    simp [r187l0, b187l0]
  | k + 1, r, hr, hb => by
    have hgl := hsm.1
    have hrs : r < s := by omega
    have hrg : r < g.length := by omega
    have hri : (r : Int) < s := by omega
    have hri2 : (r : Int) < g.length := by omega
    have hsi : (s : Int) < g.length := by omega
    have hw : IntKind.i64.wrap ((r : Int) + 1) = (r : Int) + 1 := wr (by omega)
    have hcl2 : (cl.map PV.i).length = g.length := by simp [hcl]
    have hcr := int_nth cl r (by omega)
    have hcs := int_nth cl s (by omega)
    have hmr := hMa r (by omega)
    have hms := hMa s (by omega)
    have hx := nxt_spec cl g s
    have heq := eqEqM _ _ (hmk r) (hmk s)
    have hsh : alk cl g s r ↔ cl.getD r 0 = cl.getD s 0 ∧ markOf cl (g.getD r []) = markOf cl (g.getD s []) := by
      rw [alk_mark]; exact and_congr Iff.rfl eq_comm
    have fr := encL_form (markOf cl (g.getD r []))
    have fs := encL_form (markOf cl (g.getD s []))
    by_cases hA : alk cl g s r
    · have he : nxt cl g s = r := by
        rcases Nat.lt_trichotomy (nxt cl g s) r with h | h | h
        · exact (hb _ h hx.2.1).elim
        · exact h
        · exact (hx.2.2 r h hA).elim
      have hA2 := hsh.1 hA
      refine ⟨_, ?_, .inr rfl⟩
      rw [he]
      rw [hA2.1] at hcr
      simp only [hA2.2, decide_true] at heq hmr
      generalize encL true false (markOf cl (g.getD s [])) = X at hmr hms heq fs
      generalize hC : cl.map PV.i = C at hcl2 hcr hcs ⊢
      rw [loopI_eq]
      rcases fs with rfl | ⟨Q, rfl⟩
      · simp [r187l0, b187l0, hri, hri2, hsi, hrg, hs, hcl2, hcr, hcs, hO, hOs, hM, hmr, hms, heq, unAgg]
      · simp [r187l0, b187l0, hri, hri2, hsi, hrg, hs, hcl2, hcr, hcs, hO, hOs, hM, hmr, hms, heq, unAgg]
    · have hn := loopRf0 E g cl hcl hsm R s hs O hO hOs M hM hMa hmk k (r + 1) (by omega) (fun t ht => by
        by_cases e : t = r
        · subst e; exact hA
        · exact hb t (by omega))
      obtain ⟨st, hn, hst⟩ := hn
      simp only [Int.natCast_add, show ((1 : Nat) : Int) = 1 from rfl] at hn
      refine ⟨st, ?_, hst⟩
      by_cases c1 : cl.getD r 0 = cl.getD s 0
      · have c2 : ¬ markOf cl (g.getD r []) = markOf cl (g.getD s []) := fun e => hA (hsh.2 ⟨c1, e⟩)
        simp only [c2, decide_false] at heq
        rw [c1] at hcr
        generalize encL true false (markOf cl (g.getD s [])) = X at hms heq fs
        generalize encL true false (markOf cl (g.getD r [])) = Y at hmr heq fr
        generalize hC : cl.map PV.i = C at hcl2 hcr hcs hn ⊢
        rw [loopI_eq]
        rcases fs with rfl | ⟨Q, rfl⟩
        · rcases fr with rfl | ⟨Q2, rfl⟩
          · simp [r187l0, b187l0, hri, hri2, hsi, hrg, hs, hcl2, hcr, hcs, hO, hM, hmr, hms, heq, hw]
            exact hn
          · simp [r187l0, b187l0, hri, hri2, hsi, hrg, hs, hcl2, hcr, hcs, hO, hM, hmr, hms, heq, hw]
            exact hn
        · rcases fr with rfl | ⟨Q2, rfl⟩
          · simp [r187l0, b187l0, hri, hri2, hsi, hrg, hs, hcl2, hcr, hcs, hO, hM, hmr, hms, heq, hw]
            exact hn
          · simp [r187l0, b187l0, hri, hri2, hsi, hrg, hs, hcl2, hcr, hcs, hO, hM, hmr, hms, heq, hw]
            exact hn
      · generalize hC : cl.map PV.i = C at hcl2 hcr hcs hn ⊢
        generalize cl.getD r 0 = ct at hcr c1
        generalize cl.getD s 0 = cs at hcs c1
        rw [loopI_eq]
        simp [r187l0, b187l0, hri, hri2, hsi, hrg, hs, hcl2, hcr, hcs, hO, hM, c1, hw]
        exact hn
theorem loopRf1 (E : List PV) (g : Gr) (hE : EncR false E g) (cl : List Int) (hcl : cl.length = g.length) (hsm : SmallG g) (hok : OkTo g) (R : OB) (hmk : ∀ r, (markOf cl (g.getD r [])).length ≤ 4611686018427387904) : ∀ (n s : Nat), s + n = g.length →
    loopI G [0, 1, 5, 6, 16, 17] [11, 14] c187l1 ⟨[(0, .sl false 1 (cl.map PV.i)), (1, cloMk), (5, .own (2, 11) g.length), (6, .own (2, 14) g.length), (16, .i g.length), (17, .i s)], [(11, .row 1 ((outL cl g s).map PV.i)), (14, .row 1 (mksL cl g s))], stk E cl R⟩ =
      some (.exit 0, ⟨[(0, .sl false 1 (cl.map PV.i)), (1, cloMk), (5, .own (2, 11) g.length), (6, .own (2, 14) g.length), (16, .i g.length), (17, .i g.length), (18, .b false)], [(11, .row 1 ((outL cl g g.length).map PV.i)), (14, .row 1 (mksL cl g g.length))], stk E cl R⟩)
  | 0, s, hs => by
    have he : s = g.length := by omega
    subst he
    rw [loopI_eq]
    simp [r187l1, b187l1]
  | n + 1, s, hs => by
    have hgl := hsm.1
    have hsg : s < g.length := by omega
    have hsi : (s : Int) < g.length := by omega
    have hw : IntKind.i64.wrap ((s : Int) + 1) = (s : Int) + 1 := wr (by omega)
    have hm1 := eqMk1 E g hE cl hcl hsm hok s hsg R
    have hn := loopRf1 E g hE cl hcl hsm hok R hmk n (s + 1) (by omega)
    simp only [Int.natCast_add, show ((1 : Nat) : Int) = 1 from rfl] at hn
    have hol : ((outL cl g s).map PV.i).length = g.length := by rw [List.length_map, outL_len (by omega)]
    have hml := mksL_len (cl := cl) (g := g) (s := s) (by omega)
    have hml1 := mksL_len (cl := cl) (g := g) (s := s + 1) (by omega)
    have hms := mksL_set (cl := cl) hsg
    have hos := outL_set (cl := cl) hsg
    obtain ⟨st, h0, hst⟩ := loopRf0 E g cl hcl hsm R s hsg (((outL cl g s).map PV.i).set s (.i s)) (by rw [List.length_set]; exact hol) (by unfold nth; rw [List.getElem?_set_self (by omega)]) (mksL cl g (s + 1)) hml1 (fun r hr => mksL_at hr) hmk s 0 (by omega) (fun t ht => by omega)
    simp only [show ((0 : Nat) : Int) = 0 from rfl, List.set_set] at h0 hst
    rw [hos] at hst
    have hnl : nth (mksL cl g s) s = some .nils := by
      unfold nth mksL
      rw [List.getElem?_append_right (by simp)]
      have e : g.length - s = (g.length - (s + 1)) + 1 := by omega
      rw [e, List.replicate_succ]
      simp
    have hnz : nth ((outL cl g s).map PV.i) s = some (.i 0) := by
      unfold nth outL
      rw [List.getElem?_map, List.getElem?_append_right (by simp)]
      have e : g.length - s = (g.length - (s + 1)) + 1 := by omega
      rw [e, List.replicate_succ]
      simp
    have hfl : fals ((markOf cl (g.getD s [])).map mvP) = (markOf cl (g.getD s [])).map mvP := fals_mvP _
    have hns := noShares_mv (markOf cl (g.getD s []))
    simp only [stk] at hn h0 hst ⊢
    rw [loopI_eq]
    rcases encL_two true true (markOf cl (g.getD s [])) with ⟨e, e2⟩ | e
    · rw [e] at hm1
      have e3 : encL true false (markOf cl (g.getD s [])) = .nils := by rw [e2]; rfl
      rw [e3] at hms
      rcases hst with ⟨hx, rfl⟩ | rfl
      · rw [hx] at hos
        rw [hos] at h0
        generalize hC : cl.map PV.i = C at hm1 h0 hn ⊢
        generalize mksL cl g s = M0 at hml hms hnl ⊢
        generalize mksL cl g (s + 1) = M1 at hml1 hms h0 hn
        generalize (outL cl g s).map PV.i = O0 at hol hos hnz ⊢
        generalize (outL cl g (s + 1)).map PV.i = O1 at hos h0 hn
        simp [r187l1, b187l1, hsi, hsg, hm1, hml, hms, hml1, hol, hos, hnl, hnz, h0, hw, unAgg]
        exact hn
      · generalize hC : cl.map PV.i = C at hm1 h0 hn ⊢
        generalize mksL cl g s = M0 at hml hms hnl ⊢
        generalize mksL cl g (s + 1) = M1 at hml1 hms h0 hn
        generalize (outL cl g s).map PV.i = O0 at hol hos hnz h0 ⊢
        generalize (outL cl g (s + 1)).map PV.i = O1 at hos h0 hn
        simp [r187l1, b187l1, hsi, hsg, hm1, hml, hms, hml1, hol, hos, hnl, hnz, h0, hw, unAgg]
        exact hn
    · have hne : markOf cl (g.getD s []) ≠ [] := by intro e2; rw [e2] at e; cases e
      have e3 : encL true false (markOf cl (g.getD s [])) = .sl false 2 ((markOf cl (g.getD s [])).map mvP) := encL_ne hne
      rw [e] at hm1
      rw [e3] at hms
      generalize (markOf cl (g.getD s [])).map mvP = Q at hm1 hms hfl hns
      rcases hst with ⟨hx, rfl⟩ | rfl
      · rw [hx] at hos
        rw [hos] at h0
        generalize hC : cl.map PV.i = C at hm1 h0 hn ⊢
        generalize mksL cl g s = M0 at hml hms hnl ⊢
        generalize mksL cl g (s + 1) = M1 at hml1 hms h0 hn
        generalize (outL cl g s).map PV.i = O0 at hol hos hnz ⊢
        generalize (outL cl g (s + 1)).map PV.i = O1 at hos h0 hn
        simp [r187l1, b187l1, hsi, hsg, hm1, hml, hms, hml1, hol, hos, hnl, hnz, h0, hw, hfl, hns, unAgg]
        exact hn
      · generalize hC : cl.map PV.i = C at hm1 h0 hn ⊢
        generalize mksL cl g s = M0 at hml hms hnl ⊢
        generalize mksL cl g (s + 1) = M1 at hml1 hms h0 hn
        generalize (outL cl g s).map PV.i = O0 at hol hos hnz h0 ⊢
        generalize (outL cl g (s + 1)).map PV.i = O1 at hos h0 hn
        simp [r187l1, b187l1, hsi, hsg, hm1, hml, hms, hml1, hol, hos, hnl, hnz, h0, hw, hfl, hns, unAgg]
        exact hn
theorem markOf_le (cl : List Int) (g : Gr) (hsm : SmallG g) (r : Nat) : (markOf cl (g.getD r [])).length ≤ 4611686018427387904 := by
  have hl : (g.getD r []).length ≤ 1048576 := by
    rw [List.getD_eq_getElem?_getD]
    cases h : g[r]? with
    | none => simp
    | some l => exact hsm.2 _ (List.mem_of_getElem? h)
  have h2 : (markOf cl (g.getD r [])).length ≤ (mrL cl (g.getD r [])).length := tidyL_len _
  have h3 : (mrL cl (g.getD r [])).length = (g.getD r []).length := by simp [mrL]
  omega
theorem eqRefine (E : List PV) (g : Gr) (hE : EncR false E g) (cl : List Int) (hcl : cl.length = g.length) (hsm : SmallG g) (hok : OkTo g) (R : OB) :
    callI G 187 [.sl false 1 (cl.map PV.i), cloMk] (stk E cl R) = some (.sl true 1 ((nextC cl g).map PV.i), stk E cl R) := by
  have hgl := hsm.1
  have hl := loopRf1 E g hE cl hcl hsm hok R (markOf_le cl g hsm) g.length 0 (by omega)
  have e1 : (outL cl g 0).map PV.i = List.replicate g.length (.i 0) := by simp [outL]
  have e2 : mksL cl g 0 = List.replicate g.length .nils := by simp [mksL]
  have e3 : outL cl g g.length = nextC cl g := by simp [outL, nextC]
  rw [e1, e2, e3] at hl
  simp only [show ((0 : Nat) : Int) = 0 from rfl] at hl
  have hcl2 : (cl.map PV.i).length = g.length := by simp [hcl]
  have hnl : ((nextC cl g).map PV.i).length = g.length := by rw [List.length_map, nextC_len]
  have hgb : (g.length : Int) ≤ 4294967296 := by omega
  generalize (nextC cl g).map PV.i = N at hl hnl ⊢
  generalize mksL cl g g.length = M1 at hl
  rw [callI_eq]
  generalize hC : cl.map PV.i = C at hcl2 hl ⊢
  simp [body1_eq _ _ (gp 187) g187, c187, a187, hcl2, hgb, hl, hnl]
end Go.Am
end
section
set_option maxRecDepth 10000
set_option maxHeartbeats 1000000
set_option linter.unusedSimpArgs false
set_option linter.unusedVariables false
namespace Go.Am
open Go.Proofs Go.Sort Go.Shelf
/-! impl.rounds, impl.alikeRounds, impl.alikeClasses; spec.l4Rounds, spec.l4Classes -/
theorem loopRI (E : List PV) (g : Gr) (hE : EncR false E g) (hsm : SmallG g) (hok : OkTo g) (hg : 1 ≤ g.length) : ∀ (f : Nat) (R : List (List Int)) (last : List Int), Stops g f last → last.length = g.length → R.length + f ≤ 1000000 →
    loopI G [3, 5] [3, 10, 27] c166l0 ⟨[(3, .ref (1, 3) 1 0 0), (5, .own (1, 10) (R.length + 1))], [(3, .box [.clo 167 [.ref (0, 1) 1 0 0]]), (10, .row 1 ((R ++ [last]).map encI))], [[(1, .box [.sl false 1 E])]]⟩ =
      some (.ret, ⟨[(4, .own (1, 10) (rnds g f R last).length)], [(10, .row 1 ((rnds g f R last).map encI))], [[(1, .box [.sl false 1 E])]]⟩)
  | 0, R, last, hst, hl, hR => hst.elim
  | f + 1, R, last, hst, hl, hR => by
    have hgl := hsm.1
    have k1 := eqRefine E g hE last hl hsm hok (.row 1 ((R ++ [last]).map encI))
    have k2 := eqEqI (nextC last g) last (by rw [nextC_len, hl]) (by rw [nextC_len]; omega)
    have hw : IntKind.i64.wrap ((R.length : Int) + 1 - 1) = R.length := by rw [wr (by omega)]; omega
    have hw3 : IntKind.i64.wrap (R.length : Int) = R.length := wr (by omega)
    have hlt : (R.length : Int) < (R.length : Int) + 1 := by omega
    have hat : nth ((R ++ [last]).map encI) R.length = some (.sl false 1 (last.map PV.i)) := by
      rw [List.map_append]; exact at_D _ _ _ _ (by simp)
    have hml : ((R ++ [last]).map encI).length = R.length + 1 := by simp
    have hRb : R.length + 1 ≤ 4294967295 := by omega
    simp only [stk] at k1
    by_cases he : nextC last g = last
    · have hr : rnds g (f + 1) R last = R ++ [last] := by simp [rnds, he]
      have hrl : (R ++ [last]).length = R.length + 1 := by simp
      rw [hr, hrl]
      rw [he] at k1 k2
      simp only [decide_true] at k2
      generalize hM : (R ++ [last]).map encI = M at hat hml k1 ⊢
      rw [loopI_eq]
      simp [r166l0, b166l0, hw, hw3, hlt, hat, hml, k1, k2, fals_i]
    · have hr : rnds g (f + 1) R last = rnds g f (R ++ [last]) (nextC last g) := by simp [rnds, he]
      rw [hr]
      have hst2 : Stops g f (nextC last g) := hst.resolve_left he
      have hn := loopRI E g hE hsm hok hg f (R ++ [last]) (nextC last g) hst2 (nextC_len _ _) (by simp; omega)
      have e1 : (R ++ [last] ++ [nextC last g]).map encI = (R ++ [last]).map encI ++ [.sl false 1 ((nextC last g).map PV.i)] := by simp [encI]
      rw [e1] at hn
      simp only [List.length_append, List.length_cons, List.length_nil, Nat.zero_add] at hn
      simp only [he, decide_false] at k2
      generalize hM : (R ++ [last]).map encI = M at hat hml hn k1 ⊢
      generalize nextC last g = N at k1 k2 hn
      rw [loopI_eq]
      simp [r166l0, b166l0, hw, hw3, hlt, hat, hml, k1, k2, hRb, fals_i]
      exact ⟨by omega, hn⟩
theorem encI_zer (n : Nat) : [PV.sl false 1 (List.replicate n (PV.i 0))] = ([] ++ [zer n]).map encI := by simp [encI, zer]
theorem fals_zer (n : Nat) : fals (List.replicate n (PV.i 0)) = List.replicate n (PV.i 0) := by
  have := fals_i (List.replicate n 0)
  simpa using this
theorem eqRounds (E : List PV) (g : Gr) (hE : EncR false E g) (hsm : SmallG g) (hok : OkTo g) (hg : 1 ≤ g.length) (h60 : g.length ≤ 500) :
    callI G 166 [.i g.length, .clo 167 [.ref (0, 1) 1 0 0]] [[(1, .box [.sl false 1 E])]] = some (.sl true 1 ((rnds g (g.length + 1) [] (zer g.length)).map encI), [[(1, .box [.sl false 1 E])]]) := by
  have hl := loopRI E g hE hsm hok hg (g.length + 1) [] (zer g.length) (stops0 g) (zer_len _) (by simp; omega)
  rw [← encI_zer] at hl
  simp only [List.length_nil, Nat.zero_add] at hl
  have hgb : (g.length : Int) ≤ 4294967296 := by omega
  have hml : ((rnds g (g.length + 1) [] (zer g.length)).map encI).length = (rnds g (g.length + 1) [] (zer g.length)).length := by simp
  generalize hF : (rnds g (g.length + 1) [] (zer g.length)).map encI = F at hl hml ⊢
  rw [callI_eq]
  simp [body1_eq _ _ (gp 166) g166, c166, a166, hgb, hl, hml, fals_zer]
theorem eqAlikeRounds (E : List PV) (g : Gr) (hE : EncR false E g) (hsm : SmallG g) (hok : OkTo g) (hg : 1 ≤ g.length) (h60 : g.length ≤ 500) :
    callI G 146 [.agg [.sl false 1 E]] [] = some (.sl true 1 ((rnds g (g.length + 1) [] (zer g.length)).map encI), []) := by
  have hl := eqRounds E g hE hsm hok hg h60
  have hEl := hE.1
  clear hE
  generalize hF : (rnds g (g.length + 1) [] (zer g.length)).map encI = F at hl ⊢
  rw [callI_eq]
  simp [body1_eq _ _ (gp 146) g146, c146, a146, hEl, hl]
theorem eqCloneI (l : List Int) (h : l ≠ []) (hl : l.length ≤ 4294967296) : callI G 78 [.sl false 1 (l.map PV.i)] [] = some (.sl true 1 (l.map PV.i), []) := by
  rcases l with _ | ⟨x, l⟩
  · exact absurd rfl h
  · have hf := fals_i (x :: l)
    rw [callI_eq]
    simp at hl hf
    simp [body1_eq _ _ (gp 78) g78, c78, a78, hf, hl]
theorem rnds_clsG (g : Gr) : ∃ R', rnds g (g.length + 1) [] (zer g.length) = R' ++ [clsG g] ∧ R'.length ≤ g.length + 1 := by
  obtain ⟨R', h1, h2⟩ := rnds_last g (g.length + 1) [] (zer g.length)
  exact ⟨R', h1, by simpa using h2⟩
theorem clsG_ne {g : Gr} (hg : 1 ≤ g.length) : clsG g ≠ [] := by
  intro e
  have := clsG_len g
  rw [e] at this
  have h0 : (0 : Nat) = g.length := this
  omega
theorem eqAlikeClasses (E : List PV) (g : Gr) (hE : EncR false E g) (hsm : SmallG g) (hok : OkTo g) (hg : 1 ≤ g.length) (h60 : g.length ≤ 500) :
    callI G 100 [.agg [.sl false 1 E]] [] = some (.sl true 1 ((clsG g).map PV.i), []) := by
  have hl := eqAlikeRounds E g hE hsm hok hg h60
  have hc := eqCloneI (clsG g) (clsG_ne hg) (by rw [clsG_len]; omega)
  obtain ⟨R', h1, h2⟩ := rnds_clsG g
  rw [h1] at hl
  have hat : nth ((R' ++ [clsG g]).map encI) R'.length = some (.sl false 1 ((clsG g).map PV.i)) := by
    rw [List.map_append]; exact at_D _ _ _ _ (by simp)
  have hml : ((R' ++ [clsG g]).map encI).length = R'.length + 1 := by simp
  have hw : IntKind.i64.wrap ((R'.length : Int) + 1 - 1) = R'.length := by rw [wr (by omega)]; omega
  have hw3 : IntKind.i64.wrap (R'.length : Int) = R'.length := wr (by omega)
  have hlt : (R'.length : Int) < (R'.length : Int) + 1 := by omega
  generalize (R' ++ [clsG g]).map encI = F at hl hat hml
  generalize (clsG g).map PV.i = C at hc hat ⊢
  rw [callI_eq]
  simp [body1_eq _ _ (gp 100) g100, c100, a100, hl, hml, hw, hw3, hlt, hat, hc]
theorem eqL4Rounds (E : List PV) (g : Gr) (hE : EncR false E g) (hsm : SmallG g) (hok : OkTo g) (hg : 1 ≤ g.length) (h60 : g.length ≤ 500) :
    callI G 145 [.agg [.sl false 1 E]] [] = some (.sl true 1 ((rnds g (g.length + 1) [] (zer g.length)).map encI), []) := by
  have hl := loopRn E g hE hsm hok hg (g.length + 1) [] (zer g.length) (stops0 g) (zer_len _) (by simp; omega)
  rw [← encI_zer] at hl
  simp only [List.length_nil, Nat.zero_add] at hl
  have hEl := hE.1
  have hgb : (g.length : Int) ≤ 4294967296 := by omega
  have hml : ((rnds g (g.length + 1) [] (zer g.length)).map encI).length = (rnds g (g.length + 1) [] (zer g.length)).length := by simp
  clear hE
  generalize hF : (rnds g (g.length + 1) [] (zer g.length)).map encI = F at hl hml ⊢
  rw [callI_eq]
  simp [body1_eq _ _ (gp 145) g145, c145, a145, hEl, hgb, hl, hml, fals_zer]
theorem eqL4Classes (E : List PV) (g : Gr) (hE : EncR false E g) (hsm : SmallG g) (hok : OkTo g) (hg : 1 ≤ g.length) (h60 : g.length ≤ 500) :
    callI G 99 [.agg [.sl false 1 E]] [] = some (.sl false 1 ((clsG g).map PV.i), []) := by
  have hl := eqL4Rounds E g hE hsm hok hg h60
  obtain ⟨R', h1, h2⟩ := rnds_clsG g
  rw [h1] at hl
  have hat : nth ((R' ++ [clsG g]).map encI) R'.length = some (.sl false 1 ((clsG g).map PV.i)) := by
    rw [List.map_append]; exact at_D _ _ _ _ (by simp)
  have hml : ((R' ++ [clsG g]).map encI).length = R'.length + 1 := by simp
  have hw : IntKind.i64.wrap ((R'.length : Int) + 1 - 1) = R'.length := by rw [wr (by omega)]; omega
  have hw3 : IntKind.i64.wrap (R'.length : Int) = R'.length := wr (by omega)
  have hlt : (R'.length : Int) < (R'.length : Int) + 1 := by omega
  generalize (R' ++ [clsG g]).map encI = F at hl hat hml
  generalize (clsG g).map PV.i = C at hat ⊢
  rw [callI_eq]
  simp [body1_eq _ _ (gp 99) g99, c99, a99, hl, hml, hw, hw3, hlt, hat]
end Go.Am
end
section
set_option maxRecDepth 10000
set_option maxHeartbeats 1000000
set_option linter.unusedSimpArgs false
set_option linter.unusedVariables false
namespace Go.Am
open Go.Proofs Go.Sort Go.Shelf
/-! what the equations' laws share: sizes behind others; lists of numbers -/
theorem eqSzGL (g : Gr) (hf : FitG g) (L : Int) (h0 : 0 ≤ L) (h1 : L ≤ 1048576) : callI G 14 [encG false false g, .i L] [] = some (.i (if szG g L < 0 then -1 else szG g L), []) := by
  have hs : callI G 58 [.sl false 1 (encGs false false g), .i L] [] = some (.i (if szG g L < 0 then -1 else szG g L), []) := by
    have hw : IntKind.i64.wrap (L - g.length) = L - g.length := wr (by have := hf.1; omega)
    rw [callI_eq]
    unfold szG
    by_cases c : L - g.length < 0
    · simp [body1_eq _ _ (gp 58) g58, c58, a58, hw, c]
    · have hl := loopSzMs g [] (L - g.length) hf.2 (by simpa using hf.1) (by omega) (by omega)
      simp only [List.nil_append, List.length_nil, show ((0 : Nat) : Int) = 0 from rfl] at hl
      by_cases c2 : szMs g (L - g.length) < 0
      · rw [if_pos c2] at hl
        simp [body1_eq _ _ (gp 58) g58, c58, a58, hw, c, hl, c2]
      · rw [if_neg c2] at hl
        simp [body1_eq _ _ (gp 58) g58, c58, a58, hw, c, hl, c2]
  rw [callI_eq]
  by_cases c : szG g L < 0
  · simp only [c, if_true] at hs
    simp [body1_eq _ _ (gp 14) g14, c14, a14, hs, c]
  · simp only [c, if_false] at hs
    simp [body1_eq _ _ (gp 14) g14, c14, a14, hs, c]
theorem szG_smallL {g : Gr} {L : Int} (h1 : L ≤ 1048576) (h : ¬ szG g L < 0) : SmallG g ∧ szG g L ≤ 1048576 := by
  unfold szG at h ⊢
  split at h
  · omega
  · rename_i hh
    rw [if_neg hh]
    obtain ⟨q1, q2⟩ := szMs_le g _ (by omega) h
    exact ⟨⟨by omega, fun x hx => by have := q2 x hx; omega⟩, by omega⟩
def ints (l : List Int) : List PV := l.map PV.i
@[simp] theorem ints_len (l : List Int) : (ints l).length = l.length := by simp [ints]
theorem is_at (a : List Int) (x : Int) (b : List Int) : nth (ints (a ++ x :: b)) a.length = some (.i x) := by
  unfold nth ints; simp
@[simp] theorem fals_ints : ∀ l : List Int, fals (ints l) = ints l := fals_i
theorem noShares_ints : ∀ l : List Int, noShares (ints l) = true
  | [] => rfl
  | x :: l => by
    have := noShares_ints l
    simp only [ints, List.map_cons, noShares] at this ⊢
    rw [this]; rfl
theorem loopToIs (rest : List Int) : ∀ (done : List Int), (done ++ rest).length ≤ 9223372036854775807 →
    loopI G [0, 3, 4] [7] c29l0 ⟨[(0, .sl false 1 (ints (done ++ rest))), (3, .own (0, 7) (done ++ rest).length), (4, .i done.length)], [(7, .row 1 (ints done ++ List.replicate rest.length (.i 0)))], []⟩ =
      some (.exit 0, ⟨[(0, .sl false 1 (ints (done ++ rest))), (3, .own (0, 7) (done ++ rest).length), (4, .i (done ++ rest).length), (11, .b false)], [(7, .row 1 (ints (done ++ rest)))], []⟩) := by
  induction rest with
  | nil =>
    intro done h
    rw [loopI_eq]
    simp [r29l0, b29l0]
  | cons x rest ih =>
    intro done h
    rw [loopI_eq]
    have hat := is_at done x rest
    have hlt : (done.length : Int) < (done.length : Int) + ((rest.length : Int) + 1) := by omega
    have hw : IntKind.i64.wrap ((done.length : Int) + 1) = (done.length : Int) + 1 := wr (by simp at h; omega)
    have hn := ih (done ++ [x]) (by simpa using h)
    have hra : nth (ints done ++ PV.i 0 :: List.replicate rest.length (.i 0)) done.length = some (.i 0) := at_D _ _ _ _ (by simp)
    have hrs : ∀ y, (ints done ++ PV.i 0 :: List.replicate rest.length (.i 0)).set done.length y = ints done ++ y :: List.replicate rest.length (.i 0) := fun y => set_D _ _ _ _ _ (by simp)
    simp [r29l0, b29l0, hat, hlt, hw, List.replicate_succ, hra, hrs]
    simpa [ints, unAgg, Int.add_assoc] using hn
theorem eqToIs (l : List Int) (h : l.length ≤ 4294967296) : callI G 29 [.sl false 1 (ints l)] [] = some (.sl true 1 (ints l), []) := by
  have hl := loopToIs l [] (by simp; omega)
  simp only [List.nil_append, List.length_nil, show ints [] = [] from rfl, show ((0 : Nat) : Int) = 0 from rfl] at hl
  rw [callI_eq]
  have h4 : (l.length : Int) ≤ 4294967296 := by omega
  simp [body1_eq _ _ (gp 29) g29, c29, a29, h, h4, hl]
theorem loopEqIs (rest : List Int) : ∀ (done : List Int), (done ++ rest).length ≤ 9223372036854775807 →
    loopI G [0, 1, 5] [] c32l0 ⟨[(0, .sl false 1 (ints (done ++ rest))), (1, .sl false 1 (ints (done ++ rest))), (5, .i done.length)], [], []⟩ =
      some (.exit 0, ⟨[(0, .sl false 1 (ints (done ++ rest))), (1, .sl false 1 (ints (done ++ rest))), (5, .i (done ++ rest).length), (14, .b false)], [], []⟩) := by
  induction rest with
  | nil =>
    intro done h
    rw [loopI_eq]
    simp [r32l0, b32l0]
  | cons x rest ih =>
    intro done h
    rw [loopI_eq]
    have hat := is_at done x rest
    have hlt : (done.length : Int) < (done.length : Int) + ((rest.length : Int) + 1) := by omega
    have hw : IntKind.i64.wrap ((done.length : Int) + 1) = (done.length : Int) + 1 := wr (by simp at h; omega)
    have hn := ih (done ++ [x]) (by simpa using h)
    simp [r32l0, b32l0, hat, hlt, hw]
    simpa [Int.add_assoc] using hn
theorem eqEqIs (l : List Int) (h : l.length ≤ 9223372036854775807) : callI G 32 [.sl false 1 (ints l), .sl false 1 (ints l)] [] = some (.b true, []) := by
  have hl := loopEqIs l [] (by simpa using h)
  simp only [List.nil_append, List.length_nil, show ((0 : Nat) : Int) = 0 from rfl] at hl
  rw [callI_eq]
  simp [body1_eq _ _ (gp 32) g32, c32, a32, hl]
end Go.Am
end
section
set_option maxRecDepth 10000
set_option maxHeartbeats 1000000
set_option linter.unusedSimpArgs false
set_option linter.unusedVariables false
namespace Go.Am
open Go.Proofs Go.Sort Go.Shelf
/-! marked numbers: the own row of an outer frame; marks that are held -/
def mkI : Int → List Int → List Int
  | _, [] => []
  | k, _ :: l => k :: mkI (k + 1) l
theorem mkI_len : ∀ (k : Int) (l : List Int), (mkI k l).length = l.length
  | _, [] => rfl
  | k, _ :: l => by simp [mkI, mkI_len (k + 1) l]
theorem loopMkIs (id : Id) (N : Nat) (hN : N ≤ 4611686018427387904) : ∀ (rest D : List Int) (k : Int) (o : Stack), id.1 < o.length → getS o id = some (.row 1 (ints (D ++ rest))) → N = D.length + rest.length → 0 ≤ k → k + rest.length ≤ 4611686018427387904 →
    loopI G [0, 1, 5] [] c51l0 ⟨[(0, .own id N), (1, .i k), (5, .i D.length)], [], o⟩ =
      some (.exit 0, ⟨[(0, .own id N), (1, .i (k + rest.length)), (5, .i N), (9, .b false)], [], setS o id (.row 1 (ints (D ++ mkI k rest)))⟩)
  | [], D, k, o, hid, hg, hl, hk0, hk => by
    have hne : ¬ id.1 = o.length := by omega
    simp only [List.append_nil, List.length_nil, Nat.add_zero] at hg hl
    have e2 : setS o id (.row 1 (ints (D ++ mkI k []))) = o := setS_same o id _ (by simpa [mkI] using hg)
    have hget : ∀ r l', St.get ⟨r, l', o⟩ id = some (.row 1 (ints D)) := fun r l' => by rw [get_low hid, hg]
    rw [e2, loopI_eq]
    simp [-St.get, -St.set, r51l0, b51l0, hne, hget, hl]
  | x :: rest, D, k, o, hid, hg, hl, hk0, hk => by
    simp only [List.length_cons] at hl hk
    have hne : ¬ id.1 = o.length := by omega
    have hget : ∀ r l', St.get ⟨r, l', o⟩ id = some (.row 1 (ints (D ++ x :: rest))) := fun r l' => by rw [get_low hid, hg]
    have hset : ∀ r l' R, St.set ⟨r, l', o⟩ id R = ⟨r, l', setS o id R⟩ := fun r l' R => set_low hid
    have hlt : (D.length : Int) < N := by omega
    have hlt2 : D.length < N := by omega
    have hw : IntKind.i64.wrap ((D.length : Int) + 1) = (D.length : Int) + 1 := wr (by omega)
    have hwk : IntKind.i64.wrap (k + 1) = k + 1 := wr (by omega)
    have hat := is_at D x rest
    have hst : (ints (D ++ x :: rest)).set D.length (.i k) = ints ((D ++ [k]) ++ rest) := by simp [ints]
    have hml : (ints (D ++ x :: rest)).length = N := by simp; omega
    have hn := loopMkIs id N hN rest (D ++ [k]) (k + 1) (setS o id (.row 1 (ints ((D ++ [k]) ++ rest)))) (by rw [setS_len]; exact hid) (by rw [getS_setS hid]) (by simp; omega) (by omega) (by omega)
    rw [setS_setS] at hn
    have e3 : D ++ mkI k (x :: rest) = (D ++ [k]) ++ mkI (k + 1) rest := by simp [mkI]
    rw [e3]
    simp only [List.length_append, List.length_cons, List.length_nil, Int.natCast_add, show ((0 + 1 : Nat) : Int) = 1 from rfl, show ((1 : Nat) : Int) = 1 from rfl] at hn ⊢
    generalize ints (D ++ x :: rest) = X at hget hat hst hml
    generalize ints ((D ++ [k]) ++ rest) = X2 at hst hn
    generalize ints ((D ++ [k]) ++ mkI (k + 1) rest) = X3 at hn ⊢
    rw [loopI_eq]
    simp [-St.get, -St.set, r51l0, b51l0, hne, hget, hset, hml, hlt, hlt2, hw, hwk, hat, unAgg, hst, setS_len]
    simpa [Int.add_assoc, Int.add_comm 1, Int.add_left_comm] using hn
theorem eqMkIs (id : Id) (l : List Int) (k : Int) (o : Stack) (hid : id.1 < o.length) (hg : getS o id = some (.row 1 (ints l))) (hN : l.length ≤ 1048576) (hk0 : 0 ≤ k) (hk : k ≤ 4398046511104) :
    callI G 51 [.own id l.length, .i k] o = some (.i (k + l.length), setS o id (.row 1 (ints (mkI k l)))) := by
  have hne : ¬ id.1 = o.length := by omega
  have hn := loopMkIs id l.length (by omega) l [] k o hid (by simpa using hg) (by simp) hk0 (by omega)
  simp only [List.nil_append, List.length_nil, show ((0 : Nat) : Int) = 0 from rfl] at hn
  rw [callI_eq]
  simp [-St.get, -St.set, body1_eq _ _ (gp 51) g51, c51, a51, hne, hid, hn, setS_len]
theorem eqMkIsN (k : Int) : callI G 51 [.nils, .i k] [] = some (.i k, []) := by
  have hl : loopI G [0, 1, 5] [] c51l0 ⟨[(0, .nils), (1, .i k), (5, .i 0)], [], []⟩ = some (.exit 0, ⟨[(0, .nils), (1, .i k), (5, .i 0), (9, .b false)], [], []⟩) := by
    rw [loopI_eq]
    simp [r51l0, b51l0]
  rw [callI_eq]
  simp [body1_eq _ _ (gp 51) g51, c51, a51, hl]
theorem loopHlIs : ∀ (l : List Int) (D : List Int) (k0 k : Int), (D.length + l.length ≤ 4611686018427387904) → 0 ≤ k → k + l.length ≤ 4611686018427387904 →
    loopI G [0, 1, 5] [] c52l0 ⟨[(0, .sl false 1 (ints (D ++ mkI k l))), (1, .i k), (5, .i D.length)], [], []⟩ =
      some (.exit 0, ⟨[(0, .sl false 1 (ints (D ++ mkI k l))), (1, .i (k + l.length)), (5, .i (D.length + l.length)), (9, .b false)], [], []⟩)
  | [], D, k0, k, h, hk0, hk => by
    simp only [mkI, List.append_nil]
    have hdl : (ints D).length = D.length := by simp
    generalize ints D = X at hdl ⊢
    rw [loopI_eq]
    simp [r52l0, b52l0, hdl]
  | x :: l, D, k0, k, h, hk0, hk => by
    simp only [List.length_cons] at h hk
    have hw : IntKind.i64.wrap ((D.length : Int) + 1) = (D.length : Int) + 1 := wr (by omega)
    have hwk : IntKind.i64.wrap (k + 1) = k + 1 := wr (by omega)
    have hat := is_at D k (mkI (k + 1) l)
    have hml : (ints (D ++ k :: mkI (k + 1) l)).length = D.length + (l.length + 1) := by simp [mkI_len]
    have hlt : (D.length : Int) < (D.length : Int) + ((l.length : Int) + 1) := by omega
    have hlt2 : D.length < D.length + (l.length + 1) := by omega
    have hn := loopHlIs l (D ++ [k]) k0 (k + 1) (by simp; omega) (by omega) (by omega)
    have e1 : D ++ [k] ++ mkI (k + 1) l = D ++ k :: mkI (k + 1) l := by simp
    rw [e1] at hn
    simp only [mkI, List.length_append, List.length_cons, List.length_nil, Int.natCast_add, show ((0 + 1 : Nat) : Int) = 1 from rfl, show ((1 : Nat) : Int) = 1 from rfl] at hn ⊢
    generalize ints (D ++ k :: mkI (k + 1) l) = X at hat hml hn ⊢
    rw [loopI_eq]
    simp [r52l0, b52l0, hat, hml, hlt, hlt2, hw, hwk]
    simpa [Int.add_assoc, Int.add_comm 1, Int.add_left_comm] using hn
theorem eqHlIs (l : List Int) (k : Int) (hN : l.length ≤ 1048576) (hk0 : 0 ≤ k) (hk : k ≤ 4398046511104) :
    callI G 52 [.sl false 1 (ints (mkI k l)), .i k] [] = some (.i (k + l.length), []) := by
  have hn := loopHlIs l [] 0 k (by simp; omega) hk0 (by omega)
  simp only [List.nil_append, List.length_nil, show ((0 : Nat) : Int) = 0 from rfl] at hn
  rw [callI_eq]
  generalize ints (mkI k l) = X at hn ⊢
  simp [body1_eq _ _ (gp 52) g52, c52, a52, hn]
theorem eqHlIsN (k : Int) : callI G 52 [.nils, .i k] [] = some (.i k, []) := by
  have hl : loopI G [0, 1, 5] [] c52l0 ⟨[(0, .nils), (1, .i k), (5, .i 0)], [], []⟩ = some (.exit 0, ⟨[(0, .nils), (1, .i k), (5, .i 0), (9, .b false)], [], []⟩) := by
    rw [loopI_eq]
    simp [r52l0, b52l0]
  rw [callI_eq]
  simp [body1_eq _ _ (gp 52) g52, c52, a52, hl]
theorem eqEqIsN : callI G 32 [.nils, .nils] [] = some (.b true, []) := by
  have hl : loopI G [0, 1, 5] [] c32l0 ⟨[(0, .nils), (1, .nils), (5, .i 0)], [], []⟩ = some (.exit 0, ⟨[(0, .nils), (1, .nils), (5, .i 0), (14, .b false)], [], []⟩) := by
    rw [loopI_eq]
    simp [r32l0, b32l0]
  rw [callI_eq]
  simp [body1_eq _ _ (gp 32) g32, c32, a32, hl]
end Go.Am
end
