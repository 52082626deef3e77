/- What the functions that the law reaches compute. -/
import Derived.Test.YtmpbcedglimhkaaEqB
section
set_option maxRecDepth 10000
set_option maxHeartbeats 1000000
set_option linter.unusedSimpArgs false
set_option linter.unusedVariables false
namespace Go.Am
open Go.Proofs Go.Sort Go.Shelf
/-! spec.l3From: what is seen is a slice. -/
def seenS (n : Nat) (row : List Int) : List PV := (List.range n).map fun k : Nat => PV.b (decide ((k : Int) ∈ row))
@[simp] theorem seenS_len (n : Nat) (row : List Int) : (seenS n row).length = n := by simp [seenS]
theorem seenS_nth {n : Nat} {row : List Int} {x : Int} (h : 0 ≤ x ∧ x < n) : nth (seenS n row) x.toNat = some (.b (decide (x ∈ row))) := by
  unfold nth seenS
  have h1 : x.toNat < n := by omega
  have h2 : ((x.toNat : Nat) : Int) = x := by omega
  simp [h1, h2]
theorem seenS_set {n : Nat} {row : List Int} {x : Int} (h : 0 ≤ x ∧ x < n) : (seenS n row).set x.toNat (.b true) = seenS n (row ++ [x]) := by
  apply List.ext_getElem (by simp)
  intro i h1 h2
  simp only [seenS_len, List.length_set] at h1 h2
  simp only [seenS, List.getElem_set, List.getElem_map, List.getElem_range, List.mem_append, List.mem_singleton]
  by_cases c : x.toNat = i
  · have : (i : Int) = x := by omega
    simp [c, this]
  · have : ¬ (i : Int) = x := by omega
    simp [c, this]
theorem seenS_n (n : Nat) : List.replicate n (PV.b false) = seenS n [] := by
  apply List.ext_getElem (by simp)
  intro i h1 h2
  simp [seenS]
theorem loopFr0 (E : List PV) (j : Int) (n : Nat) : ∀ (rest done : List Mv) (row : List Int), (∀ m ∈ rest, 0 ≤ m.2 ∧ m.2 < n) → (done ++ rest).length ≤ 4294967296 → row.length + rest.length ≤ 4294967296 → ∀ nl,
    loopI G [2, 5, 6, 7, 8, 9] [2, 11, 15, 62] c104l0 ⟨[(2, .ref (0, 2) 1 0 0), (5, .own (0, 11) row.length), (6, .own (0, 15) n), (7, .i j), (8, encL nl false (done ++ rest)), (9, .i done.length)], [(2, .box [PV.sl false 1 E]), (11, .row 1 (row.map PV.i)), (15, .row 1 (seenS n row))], []⟩ =
      some (.exit 2, ⟨[(2, .ref (0, 2) 1 0 0), (5, .own (0, 11) (addNew row rest).length), (6, .own (0, 15) n), (7, .i j), (8, encL nl false (done ++ rest)), (9, .i (done ++ rest).length), (36, .b false)], [(2, .box [PV.sl false 1 E]), (11, .row 1 ((addNew row rest).map PV.i)), (15, .row 1 (seenS n (addNew row rest)))], []⟩)
  | [], done, row, hm, h, hr, nl => by
    rw [List.append_nil] at h ⊢
    rw [loopI_eq]
    rcases encL_two nl false done with ⟨e, e2⟩ | e
    · rw [e]; subst e2
      simp [r104l0, b104l0, addNew]
    · rw [e]
      simp [r104l0, b104l0, addNew]
  | x :: rest, done, row, hm, h, hr, nl => by
    have hx := hm x List.mem_cons_self
    have hlt : (done.length : Int) < (done.length : Int) + ((rest.length : Int) + 1) := by omega
    have hw : IntKind.i64.wrap ((done.length : Int) + 1) = (done.length : Int) + 1 := wr (by simp at h; omega)
    have hrl : row.length ≤ 4294967295 := by simp at hr; omega
    have hat := mv_at done x rest
    have hsn := seenS_nth (row := row) hx
    have hss := seenS_set (row := row) hx
    have hen : encL nl false (done ++ x :: rest) = .sl false 2 ((done ++ x :: rest).map mvP) := encL_ne (by simp)
    have hn := fun row' hr' => loopFr0 E j n rest (done ++ [x]) row' (fun y hy => hm y (List.mem_cons_of_mem _ hy)) (by simpa using h) hr' nl
    have e1 : done ++ [x] ++ rest = done ++ x :: rest := by simp
    simp only [e1] at hn
    rw [hen] at hn ⊢
    rw [loopI_eq]
    simp only [mvP, List.map_append, List.map_cons] at hat
    by_cases hmm : x.2 ∈ row
    · have hn := hn row (by simp at hr; omega)
      simp only [hmm, decide_true] at hsn
      simp [r104l0, b104l0, hlt, hat, mvP, unAgg, hw, hrl, hsn, hx.1, hx.2, hmm, addNew]
      simpa [mvP, Int.add_assoc] using hn
    · have hn := hn (row ++ [x.2]) (by simp at hr ⊢; omega)
      simp only [hmm, decide_false] at hsn
      simp [r104l0, b104l0, hlt, hat, mvP, unAgg, hw, hrl, hsn, hss, hx.1, hx.2, hmm, addNew]
      simpa [mvP, Int.add_assoc] using hn
theorem loopFr1 (E : List PV) (g : Gr) (hE : EncR false E g) (hg : OkTo g) (hs : SmallG g) : ∀ (f i : Nat) (row : List Int), InN g.length row → i ≤ row.length → g.length + 1 ≤ i + f →
    ∀ x8 x9, loopI G [2, 5, 6, 7] [2, 11, 15, 62] c104l1 ⟨(2, .ref (0, 2) 1 0 0) :: (5, .own (0, 11) row.length) :: (6, .own (0, 15) g.length) :: (7, .i i) :: (x8 ++ x9), [(2, .box [PV.sl false 1 E]), (11, .row 1 (row.map PV.i)), (15, .row 1 (seenS g.length row))], []⟩ =
      some (.exit 0, ⟨[(2, .ref (0, 2) 1 0 0), (5, .own (0, 11) (bfs g f i row).length), (6, .own (0, 15) g.length), (7, .i (bfs g f i row).length), (22, .b false)], [(2, .box [PV.sl false 1 E]), (11, .row 1 ((bfs g f i row).map PV.i)), (15, .row 1 (seenS g.length (bfs g f i row)))], []⟩)
  | 0, i, row, hr, hi, hf, x8, x9 => by have := hr.len; omega
  | f + 1, i, row, hr, hi, hf, x8, x9 => by
    have hl := hr.len
    have hgl := hs.1
    by_cases h : i < row.length
    · have hlt : (i : Int) < row.length := by omega
      have hx := hr.2 _ (getD_mem h)
      have hat := int_nth row i h
      generalize hxe : row.getD i 0 = x at hx hat
      have hxl : x < g.length := hx.2
      have hxn : x.toNat < g.length := by omega
      obtain ⟨nl, hat2⟩ := hE.2 x.toNat hxn
      have hEl := hE.1
      have hrow : ∀ m ∈ g.getD x.toNat [], 0 ≤ m.2 ∧ m.2 < g.length := hg.row _
      have hrl : (g.getD x.toNat []).length ≤ 1048576 := hs.2 _ (by rw [List.getD_eq_getElem?_getD, List.getElem?_eq_getElem hxn, Option.getD_some]; exact List.getElem_mem hxn)
      have hb : bfs g (f + 1) i row = bfs g f (i + 1) (addNew row (g.getD x.toNat [])) := by simp [bfs, h, ← hxe]
      rw [hb]
      generalize hL : g.getD x.toNat [] = L at hat2 hrow hrl
      have h0 := loopFr0 E i g.length L [] row hrow (by simp; omega) (by omega) nl
      simp only [List.nil_append, List.length_nil, show ((0 : Nat) : Int) = 0 from rfl] at h0
      have hn := loopFr1 E g hE hg hs f (i + 1) (addNew row L) (hr.add hrow) (by have := addNew_len L row; omega) (by omega) [] []
      have hw : IntKind.i64.wrap ((i : Int) + 1) = (i : Int) + 1 := wr (by omega)
      rw [loopI_eq]
      rcases encL_two nl false L with ⟨e, e2⟩ | e
      · rw [e] at hat2 h0
        subst e2
        simp only [List.length_nil, show ((0 : Nat) : Int) = 0 from rfl] at h0
        simp [r104l1, b104l1, h, hlt, hat, hat2, hx.1, hxl, h0, hw, hEl]
        simpa using hn
      · rw [e] at hat2 h0
        simp [r104l1, b104l1, h, hlt, hat, hat2, hx.1, hxl, h0, hw, hEl]
        simpa using hn
    · have he : i = row.length := by omega
      have hb : bfs g (f + 1) i row = row := by simp [bfs, h]
      rw [hb, loopI_eq]
      subst he
      simp [r104l1, b104l1]
theorem eqFrom (E : List PV) (g : Gr) (hE : EncR false E g) (hg : OkTo g) (hs : SmallG g) (s : Int) (h : 0 ≤ s ∧ s < g.length) :
    callI G 104 [.agg [.sl false 1 E], .i s] [] = some (.sl true 1 ((reach g s).map PV.i), []) := by
  have hl := loopFr1 E g hE hg hs (g.length + 1) 0 [s] (InN.one h) (by simp) (by omega) [] []
  have hgl := hs.1
  have hEl := hE.1
  simp only [show ((0 : Nat) : Int) = 0 from rfl, List.length_cons, List.length_nil, List.map_cons, List.map_nil, List.append_nil, Nat.zero_add] at hl
  have hz := seenS_n g.length
  have hst := seenS_set (row := []) h
  simp only [List.nil_append] at hst
  have hn := seenS_nth (row := []) h
  have h4 : g.length ≤ 4294967296 := by omega
  have h5 : (g.length : Int) ≤ 4294967296 := by omega
  rw [callI_eq]
  simp [body1_eq _ _ (gp 104) g104, c104, a104, hl, hEl, hz, hst, hn, h.1, h.2, reach, h4, h5, unAgg]
end Go.Am
end
section
set_option maxRecDepth 10000
set_option maxHeartbeats 1000000
set_option linter.unusedSimpArgs false
set_option linter.unusedVariables false
namespace Go.Am
open Go.Proofs Go.Sort Go.Shelf
theorem owP_ne {d : Nat} {l : List Mv} (h : l ≠ []) : owP d l = .own (0, d) l.length := by simp [owP, h]
theorem owL_ne {d : Nat} {l : List Mv} (h : l ≠ []) : owL d l = [(d, .row 2 (l.map mvP))] := by simp [owL, h]
/-! spec.l3Sorted -/
theorem loopSo0 (L : List PV) (i : Nat) (x : Mv) (hi : i < L.length) (hx : nth L i = some (mvP x)) (O : List Mv) (hO : O.length ≤ 1048576) : ∀ (n : Nat) (p q : List Mv), p.length = n → O = p ++ q → (∀ y ∈ q, ltM x y = true) →
    ∃ p' q', O = p' ++ q' ∧ (∀ y ∈ q', ltM x y = true) ∧ (∀ z, p'.getLast? = some z → ltM x z = false) ∧
    loopI G [0, 3, 4, 5] [7, 49] c68l0 ⟨[(0, .sl false 2 L), (3, owP 49 O), (4, .i i), (5, .i p.length)], owL 49 O, []⟩ =
      some (.exit 2, ⟨[(0, .sl false 2 L), (3, owP 49 O), (4, .i i), (5, .i p'.length), (29, .b false)], owL 49 O, []⟩)
  | 0, p, q, hn, hO2, hq => by
    have hp : p = [] := List.length_eq_zero_iff.1 hn
    subst hp
    rw [List.nil_append] at hO2
    subst hO2
    refine ⟨[], O, rfl, hq, (by intro z hz; cases hz), ?_⟩
    rw [loopI_eq]
    by_cases hd : O = []
    · subst hd
      simp [r68l0, b68l0]
    · rw [owP_ne hd, owL_ne hd]
      simp [r68l0, b68l0]
  | n + 1, p, q, hn, hO2, hq => by
    rcases last_cases p with ⟨h1, _⟩ | ⟨p0, z, h1, hgl⟩
    · subst h1; cases hn
    · subst h1
      have hn0 : p0.length = n := by simpa using hn
      have hne : O ≠ [] := by rw [hO2]; simp
      have hle := eqLess x z
      have hOl : O.length = p0.length + (1 + q.length) := by rw [hO2]; simp; omega
      have hat : nth (O.map mvP) p0.length = some (mvP z) := by
        rw [hO2, List.append_assoc]; exact mv_at p0 z q
      have hlt : (p0.length : Int) < O.length := by omega
      have hlt2 : p0.length < O.length := by omega
      have hw : IntKind.i64.wrap ((p0.length : Int) + 1 - 1) = p0.length := by rw [wr (by omega)]; omega
      have hw3 : IntKind.i64.wrap (p0.length : Int) = (p0.length : Int) := wr (by omega)
      have hpos : (0 : Int) < (p0.length : Int) + 1 := by omega
      have hpl : ((p0 ++ [z]).length : Int) = (p0.length : Int) + 1 := by simp
      have hi2 : (i : Int) < L.length := by omega
      rw [hpl, owP_ne hne, owL_ne hne]
      simp only [mvP] at hx hle hat
      have hml : (O.map mvP).length = O.length := by simp
      cases hv : ltM x z with
      | true =>
        rw [hv] at hle
        obtain ⟨p', q', a1, a2, a3, a4⟩ := loopSo0 L i x hi hx O hO n p0 (z :: q) hn0 (by rw [hO2]; simp) (fun y hy => by rcases List.mem_cons.1 hy with rfl | hy; exact hv; exact hq y hy)
        refine ⟨p', q', a1, a2, a3, ?_⟩
        rw [owP_ne hne, owL_ne hne] at a4
        generalize hM : O.map mvP = M at hat hml a4 ⊢
        rw [loopI_eq]
        simp [r68l0, b68l0, hpos, hi, hi2, hx, hml, hw, hw3, hlt, hlt2, hat, hle]
        simpa using a4
      | false =>
        rw [hv] at hle
        refine ⟨p0 ++ [z], q, hO2, hq, (fun y hy => by rw [hgl] at hy; cases hy; exact hv), ?_⟩
        rw [hpl]
        generalize hM : O.map mvP = M at hat hml ⊢
        rw [loopI_eq]
        simp [r68l0, b68l0, hpos, hi, hi2, hx, hml, hw, hw3, hlt, hlt2, hat, hle]
theorem loopSo1 (L : List PV) (i : Int) (p : List Mv) (N : Nat) (hN : N ≤ 1048577) : ∀ (n : Nat) (q1 : List Mv) (w : Mv) (q2 : List Mv), q1.length = n → p.length + q1.length + 1 + q2.length = N →
    ∃ w' : Mv, loopI G [0, 3, 4, 5, 6] [7, 49] c68l1 ⟨[(0, .sl false 2 L), (3, .own (0, 49) N), (4, .i i), (5, .i p.length), (6, .i (p.length + q1.length))], [(49, .row 2 ((p ++ (q1 ++ w :: q2)).map mvP))], []⟩ =
      some (.exit 4, ⟨[(0, .sl false 2 L), (3, .own (0, 49) N), (4, .i i), (5, .i p.length), (6, .i p.length), (55, .b false)], [(49, .row 2 ((p ++ w' :: (q1 ++ q2)).map mvP))], []⟩)
  | 0, q1, w, q2, hn, hl => by
    have hq : q1 = [] := List.length_eq_zero_iff.1 hn
    subst hq
    refine ⟨w, ?_⟩
    rw [loopI_eq]
    simp [r68l1, b68l1]
  | n + 1, q1, w, q2, hn, hl => by
    rcases last_cases q1 with ⟨h1, _⟩ | ⟨q0, z, h1, hgl⟩
    · subst h1; cases hn
    · subst h1
      have hn0 : q0.length = n := by simpa using hn
      have hl0 : p.length + q0.length + 1 + (z :: q2).length = N := by simp at hl ⊢; omega
      obtain ⟨w', hnx⟩ := loopSo1 L i p N hN n q0 z (z :: q2) hn0 hl0
      refine ⟨w', ?_⟩
      simp only [List.length_cons] at hl0
      have hj : (p.length : Int) + ((q0 ++ [z]).length : Int) = (p.length : Int) + q0.length + 1 := by simp; omega
      have hgt : (p.length : Int) < (p.length : Int) + q0.length + 1 := by omega
      have hw : IntKind.i64.wrap ((p.length : Int) + q0.length + 1 - 1) = (p.length : Int) + q0.length := by rw [wr (by omega)]; omega
      have hw2 : IntKind.i64.wrap ((p.length : Int) + q0.length) = (p.length : Int) + q0.length := wr (by omega)
      have hge : (0 : Int) ≤ (p.length : Int) + q0.length := by omega
      have hge1 : (0 : Int) ≤ (p.length : Int) + q0.length + 1 := by omega
      have hlt : (p.length : Int) + q0.length < N := by omega
      have hlt1 : (p.length : Int) + q0.length + 1 < N := by omega
      have htn : ((p.length : Int) + q0.length).toNat = p.length + q0.length := by omega
      have htn1 : ((p.length : Int) + q0.length + 1).toNat = p.length + q0.length + 1 := by omega
      have hml : ((p ++ (q0 ++ [z] ++ w :: q2)).map mvP).length = N := by simp; omega
      have hat : nth ((p ++ (q0 ++ [z] ++ w :: q2)).map mvP) (p.length + q0.length) = some (mvP z) := by
        have := at_D ((p ++ q0).map mvP) (mvP z) ((w :: q2).map mvP) (p.length + q0.length) (by simp)
        simpa using this
      have hat1 : nth ((p ++ (q0 ++ [z] ++ w :: q2)).map mvP) (p.length + q0.length + 1) = some (mvP w) := by
        have := at_D ((p ++ (q0 ++ [z])).map mvP) (mvP w) (q2.map mvP) (p.length + q0.length + 1) (by simp; omega)
        simpa using this
      have hst : ((p ++ (q0 ++ [z] ++ w :: q2)).map mvP).set (p.length + q0.length + 1) (mvP z) = (p ++ (q0 ++ z :: z :: q2)).map mvP := by
        have := set_D ((p ++ (q0 ++ [z])).map mvP) (mvP w) (mvP z) (q2.map mvP) (p.length + q0.length + 1) (by simp; omega)
        simpa using this
      rw [hj]
      generalize hM : (p ++ (q0 ++ [z] ++ w :: q2)).map mvP = M at hat hat1 hst hml ⊢
      have hr : (p ++ w' :: (q0 ++ [z] ++ q2)).map mvP = (p ++ w' :: (q0 ++ z :: q2)).map mvP := by simp
      rw [hr]
      simp only [mvP] at hat hat1 hst
      generalize hM2 : (p ++ (q0 ++ z :: z :: q2)).map mvP = M2 at hst hnx
      generalize hM3 : (p ++ w' :: (q0 ++ z :: q2)).map mvP = M3 at hnx ⊢
      rw [loopI_eq]
      simp [r68l1, b68l1, hgt, hw, hw2, hge, hge1, hlt, hlt1, htn, htn1, hml, hat, hat1, unAgg, hst]
      exact hnx
/-- Strictly in order. -/
def Sd (l : List Mv) : Prop := l.Pairwise fun a b => ltM a b = true
theorem ltM_tr {a b d : Mv} (h : ltM a b = true) (k : ltM b d = true) : ltM a d = true := by
  have h := (ltM_iff a b).1 h
  have k := (ltM_iff b d).1 k
  refine (ltM_iff a d).2 ?_
  omega
theorem ltM_irr (a : Mv) : ltM a a = false := (ltM_false a a).2 (by omega)
theorem ltM_as {a b : Mv} (h : ltM a b = true) : ltM b a = false := by
  have h := (ltM_iff a b).1 h
  exact (ltM_false b a).2 (by omega)
theorem ltM_eq {a b : Mv} (h : ltM a b = false) (k : ltM b a = false) : a = b := by
  have h := (ltM_false a b).1 h
  have k := (ltM_false b a).1 k
  exact Prod.ext (by omega) (by omega)
theorem Sd_split {p q : List Mv} {x : Mv} (h : Sd (p ++ q)) (hq : ∀ y ∈ q, ltM x y = true) (hp : ∀ z, p.getLast? = some z → ltM z x = true) : Sd (p ++ x :: q) := by
  have h := List.pairwise_append.1 h
  refine List.pairwise_append.2 ⟨h.1, List.pairwise_cons.2 ⟨hq, h.2.1⟩, fun a ha b hb => ?_⟩
  rcases List.mem_cons.1 hb with rfl | hb
  · rcases last_cases p with ⟨e, _⟩ | ⟨p0, z, e, hg⟩
    · subst e; cases ha
    · have hz := hp z hg
      subst e
      rcases List.mem_append.1 ha with ha | ha
      · exact ltM_tr ((List.pairwise_append.1 h.1).2.2 a ha z (by simp)) hz
      · rw [List.mem_singleton] at ha; subst ha; exact hz
  · exact h.2.2 a ha b hb
end Go.Am
end
section
set_option maxRecDepth 10000
set_option maxHeartbeats 1000000
set_option linter.unusedSimpArgs false
set_option linter.unusedVariables false
namespace Go.Am
open Go.Proofs Go.Sort Go.Shelf
theorem wr0 : IntKind.i64.wrap 0 = 0 := by rfl
theorem loopSo2 (list : List Mv) (hl : list.length ≤ 1048576) : ∀ (rest done : List Mv), list = done ++ rest → ∀ O, Sd O → (∀ y, y ∈ O ↔ y ∈ done) → O.length ≤ done.length →
    ∃ O', Sd O' ∧ (∀ y, y ∈ O' ↔ y ∈ list) ∧
    loopI G [0, 3, 4] [7, 49] c68l2 ⟨[(0, .sl false 2 (list.map mvP)), (3, owP 49 O), (4, .i done.length)], owL 49 O, []⟩ =
      some (.exit 0, ⟨[(0, .sl false 2 (list.map mvP)), (3, owP 49 O'), (4, .i list.length), (11, .b false)], owL 49 O', []⟩)
  | [], done, hd, O, hO, hm, hOl => by
    rw [List.append_nil] at hd
    subst hd
    refine ⟨O, hO, hm, ?_⟩
    rw [loopI_eq]
    by_cases hne : O = []
    · subst hne
      simp [r68l2, b68l2]
    · rw [owP_ne hne, owL_ne hne]
      simp [r68l2, b68l2]
  | x :: rest, done, hd, O, hO, hm, hOl => by
    have hll : list.length = done.length + (rest.length + 1) := by rw [hd]; simp
    have hlt : (done.length : Int) < list.length := by omega
    have hlt2 : done.length < list.length := by omega
    have hw : IntKind.i64.wrap ((done.length : Int) + 1) = (done.length : Int) + 1 := wr (by omega)
    have hx : nth (list.map mvP) done.length = some (mvP x) := by rw [hd]; exact mv_at done x rest
    have hLl : (list.map mvP).length = list.length := by simp
    obtain ⟨p, q, a1, a2, a3, a4⟩ := loopSo0 (list.map mvP) done.length x (by rw [hLl]; omega) hx O (by omega) O.length O [] rfl (by simp) (by simp)
    by_cases hz : ∃ z, p.getLast? = some z ∧ z = x
    · -- there already
      obtain ⟨z, hz1, rfl⟩ := hz
      rcases last_cases p with ⟨e, e2⟩ | ⟨p0, z', e, e2⟩
      · rw [e2] at hz1; cases hz1
      · rw [e2] at hz1
        cases hz1
        have hne : O ≠ [] := by rw [a1, e]; simp
        have hxO : z ∈ O := by rw [a1, e]; simp
        have hat : nth (O.map mvP) p0.length = some (mvP z) := by
          rw [a1, e, List.append_assoc]; exact mv_at p0 z q
        have hOl2 : O.length = p0.length + (1 + q.length) := by rw [a1, e]; simp; omega
        have hpl : (p.length : Int) = (p0.length : Int) + 1 := by rw [e]; simp
        obtain ⟨O', b1, b2, b3⟩ := loopSo2 list hl rest (done ++ [z]) (by simpa using hd) O hO (fun y => by
          rw [hm y, List.mem_append, List.mem_singleton]
          exact ⟨.inl, fun h => h.elim id fun h => by rw [h]; exact (hm z).1 hxO⟩) (by simp; omega)
        refine ⟨O', b1, b2, ?_⟩
        rw [hpl] at a4
        have hltp : (p0.length : Int) < O.length := by omega
        have hltp2 : p0.length < O.length := by omega
        have hwp : IntKind.i64.wrap ((p0.length : Int) + 1 - 1) = p0.length := by rw [wr (by omega)]; omega
        have hw3 : IntKind.i64.wrap (p0.length : Int) = (p0.length : Int) := wr (by omega)
        have hpos : (0 : Int) < (p0.length : Int) + 1 := by omega
        have hml : (O.map mvP).length = O.length := by simp
        rw [owP_ne hne, owL_ne hne] at a4 b3 ⊢
        simp only [List.length_append, List.length_cons, List.length_nil, Int.natCast_add, show ((0 + 1 : Nat) : Int) = 1 from rfl] at b3
        simp only [mvP] at hx hat
        generalize hM : O.map mvP = M at hat hml a4 b3 ⊢
        generalize hL : list.map mvP = L at hx hLl a4 b3 ⊢
        rw [loopI_eq]
        simp [r68l2, b68l2, hlt, hlt2, hw, hx, hLl, a4, hpos, hwp, hw3, hltp, hltp2, hml, hat]
        exact b3
    · -- a new one
      have hltz : ∀ z, p.getLast? = some z → ltM z x = true := fun z hz1 => by
        cases hv : ltM z x with
        | true => rfl
        | false => exact absurd ⟨z, hz1, ltM_eq hv (a3 z hz1)⟩ hz
      have hO' : Sd (p ++ x :: q) := Sd_split (a1 ▸ hO) a2 hltz
      have hm' : ∀ y, y ∈ p ++ x :: q ↔ y ∈ done ++ [x] := fun y => by
        have := hm y
        rw [a1] at this
        simp only [List.mem_append, List.mem_cons, List.not_mem_nil, or_false] at this ⊢
        rw [← this]
        constructor
        · rintro (h | h | h)
          · exact .inl (.inl h)
          · exact .inr h
          · exact .inl (.inr h)
        · rintro ((h | h) | h)
          · exact .inl h
          · exact .inr (.inr h)
          · exact .inr (.inl h)
      have hpq : O.length = p.length + q.length := by rw [a1]; simp
      obtain ⟨O', b1, b2, b3⟩ := loopSo2 list hl rest (done ++ [x]) (by simpa using hd) (p ++ x :: q) hO' hm' (by simp; omega)
      refine ⟨O', b1, b2, ?_⟩
      obtain ⟨w', c1⟩ := loopSo1 (list.map mvP) done.length p (O.length + 1) (by omega) q.length q (0, 0) [] rfl (by simp; omega)
      have hrow : (p ++ (q ++ (0, 0) :: [])).map mvP = O.map mvP ++ [.agg [.i 0, .i 0]] := by rw [a1]; simp [mvP]
      have hj : (p.length : Int) + q.length = O.length := by omega
      rw [hrow, hj, List.append_nil] at c1
      have hR2 : nth ((p ++ w' :: q).map mvP) p.length = some (mvP w') := mv_at p w' q
      have hS2 : ((p ++ w' :: q).map mvP).set p.length (mvP x) = (p ++ x :: q).map mvP := by simp
      have hml2 : ((p ++ w' :: q).map mvP).length = O.length + 1 := by simp; omega
      have hne3 : p ++ x :: q ≠ [] := by simp
      have hl3 : (p ++ x :: q).length = O.length + 1 := by simp; omega
      rw [owP_ne hne3, owL_ne hne3, hl3] at b3
      simp only [List.length_append, List.length_cons, List.length_nil, Int.natCast_add, show ((0 + 1 : Nat) : Int) = 1 from rfl] at b3
      have hpl : (p.length : Int) < (O.length : Int) + 1 := by omega
      have hpl2 : p.length < O.length + 1 := by omega
      have hwO : IntKind.i64.wrap ((O.length : Int) + 1 - 1) = O.length := by rw [wr (by omega)]; omega
      have hwO2 : IntKind.i64.wrap (O.length : Int) = O.length := wr (by omega)
      have hOlb : O.length ≤ 4294967295 := by omega
      by_cases hne : O = []
      · -- the first one
        have hp0 : p = [] := by cases p with | nil => rfl | cons u v => rw [hne] at a1; cases a1
        have hq0 : q = [] := by rw [hp0, hne] at a1; exact a1.symm
        subst hp0 hq0
        rw [hne] at a4 c1 ⊢
        rw [hne] at b3 hml2
        simp only [owP_n, owL_n, List.length_nil, List.map_nil, List.nil_append, Nat.zero_add, show ((0 : Nat) : Int) = 0 from rfl] at a4 c1 b3 hR2 hS2 hml2 ⊢
        simp only [mvP] at hx hS2 hR2
        generalize hL : list.map mvP = L at hx hLl a4 b3 c1 ⊢
        generalize hM2 : List.map mvP [w'] = M2 at hR2 hS2 hml2 c1
        rw [loopI_eq]
        simp [r68l2, b68l2, hlt, hlt2, hw, hx, hLl, a4, c1, wr0, hR2, hS2, hml2, unAgg]
        simpa using b3
      · rw [owP_ne hne, owL_ne hne] at a4 ⊢
        have hml : (O.map mvP).length = O.length := by simp
        rcases last_cases p with ⟨e, e2⟩ | ⟨p0, z, e, e2⟩
        · subst e
          simp only [List.length_nil, show ((0 : Nat) : Int) = 0 from rfl, List.nil_append] at a4 c1 hR2 hS2 hml2 b3
          simp only [mvP] at hx hS2 hR2
          generalize hL : list.map mvP = L at hx hLl a4 b3 c1 ⊢
          generalize hM2 : List.map mvP (w' :: q) = M2 at hR2 hS2 hml2 c1
          generalize hM : O.map mvP = M at hml a4 c1 ⊢
          generalize hM3 : List.map mvP (x :: q) = M3 at hS2 b3
          rw [loopI_eq]
          simp [r68l2, b68l2, hlt, hlt2, hw, hx, hLl, a4, c1, hR2, hS2, hml2, unAgg, hml, hwO, hwO2, hOlb]
          exact b3
        · have hzx : ¬ z = x := fun h => hz ⟨z, e2, h⟩
          have hdec : (decide (z.1 = x.1) && decide (z.2 = x.2)) = false := by
            rw [← Bool.decide_and]; exact decide_eq_false fun h => hzx (Prod.ext h.1 h.2)
          have hpp : (p.length : Int) = (p0.length : Int) + 1 := by rw [e]; simp
          have hat : nth (O.map mvP) p0.length = some (mvP z) := by
            rw [a1, e, List.append_assoc]; exact mv_at p0 z q
          have hppn : p.length = p0.length + 1 := by omega
          have hltp : (p0.length : Int) < O.length := by omega
          have hltp2 : p0.length < O.length := by omega
          have hwp : IntKind.i64.wrap ((p0.length : Int) + 1 - 1) = p0.length := by rw [wr (by omega)]; omega
          have hw3 : IntKind.i64.wrap (p0.length : Int) = (p0.length : Int) := wr (by omega)
          have hpos : (0 : Int) < (p0.length : Int) + 1 := by omega
          rw [hpp] at a4 c1
          rw [hppn] at hR2 hS2 hpl2
          have hge1 : (0 : Int) ≤ (p0.length : Int) + 1 := by omega
          have hltq : p0.length < O.length := by omega
          simp only [mvP] at hx hS2 hR2 hat
          generalize hL : list.map mvP = L at hx hLl a4 b3 c1 ⊢
          generalize hM2 : List.map mvP (p ++ w' :: q) = M2 at hR2 hS2 hml2 c1
          generalize hM : O.map mvP = M at hml a4 c1 hat ⊢
          generalize hM3 : List.map mvP (p ++ x :: q) = M3 at hS2 b3
          rw [loopI_eq]
          simp [r68l2, b68l2, hlt, hlt2, hw, hx, hLl, a4, c1, hR2, hS2, hml2, unAgg, hml, hwO, hwO2, hOlb, hpos, hwp, hw3, hltp, hltp2, hat, hdec, hge1]
          exact b3
end Go.Am
end
section
set_option maxRecDepth 10000
set_option maxHeartbeats 1000000
set_option linter.unusedSimpArgs false
set_option linter.unusedVariables false
namespace Go.Am
open Go.Proofs Go.Sort Go.Shelf
theorem Sd_uniq : ∀ (a b : List Mv), Sd a → Sd b → (∀ y, y ∈ a ↔ y ∈ b) → a = b
  | [], [], _, _, _ => rfl
  | [], y :: b, _, _, h => by have := (h y).2 List.mem_cons_self; cases this
  | x :: a, [], _, _, h => by have := (h x).1 List.mem_cons_self; cases this
  | x :: a, y :: b, ha, hb, h => by
    have ha' := List.pairwise_cons.1 ha
    have hb' := List.pairwise_cons.1 hb
    have hxy : x = y := by
      rcases List.mem_cons.1 ((h x).1 List.mem_cons_self) with e | e
      · exact e
      · rcases List.mem_cons.1 ((h y).2 List.mem_cons_self) with e' | e'
        · exact e'.symm
        · have h1 := hb'.1 x e
          have h2 := ha'.1 y e'
          rw [ltM_as h1] at h2; cases h2
    subst hxy
    have : a = b := Sd_uniq a b ha'.2 hb'.2 fun y => by
      constructor
      · intro hy
        rcases List.mem_cons.1 ((h y).1 (List.mem_cons_of_mem _ hy)) with e | e
        · subst e; have := ha'.1 y hy; rw [ltM_irr] at this; cases this
        · exact e
      · intro hy
        rcases List.mem_cons.1 ((h y).2 (List.mem_cons_of_mem _ hy)) with e | e
        · subst e; have := hb'.1 y hy; rw [ltM_irr] at this; cases this
        · exact e
    rw [this]
theorem ddup_sd : ∀ (l : List Mv) (p : Mv), (p :: l).Pairwise (fun a b => ltM b a = false) → Sd (p :: ddup p l) ∧ ∀ y, y ∈ p :: ddup p l ↔ y ∈ p :: l
  | [], p, h => ⟨by simp [Sd, ddup], fun y => by simp [ddup]⟩
  | x :: l, p, h => by
    have h1 := List.pairwise_cons.1 h
    have h2 := List.pairwise_cons.1 h1.2
    simp only [ddup]
    split
    · rename_i e
      subst e
      have ih := ddup_sd l x h1.2
      refine ⟨ih.1, fun y => ?_⟩
      rw [ih.2 y]
      simp
    · rename_i e
      have ih := ddup_sd l x h1.2
      refine ⟨List.pairwise_cons.2 ⟨fun y hy => ?_, ih.1⟩, fun y => ?_⟩
      · have hy' := (ih.2 y).1 hy
        have hyp := h1.1 y hy'
        cases hv : ltM p y with
        | true => rfl
        | false =>
          have : p = y := ltM_eq hv hyp
          subst this
          have hxp := h1.1 x List.mem_cons_self
          rcases List.mem_cons.1 hy' with e' | e'
          · exact absurd e'.symm e
          · exact absurd (ltM_eq hxp (h2.1 p e')) e
      · rw [List.mem_cons, ih.2 y, List.mem_cons (l := x :: l)]
theorem srtM_pw (l : List Mv) : (srtM l).Pairwise fun a b => ltM b a = false := by
  have := List.pairwise_mergeSort (le := fun x y : Mv => !ltM y x) (fun a b d h k => by
    simp only [Bool.not_eq_true'] at h k ⊢
    have h := (ltM_false b a).1 h
    have k := (ltM_false d b).1 k
    exact (ltM_false d a).2 (by omega)) (fun a b => by
    cases h : ltM b a with
    | false => simp
    | true => simp [ltM_as h]) l
  exact this.imp fun h => by simpa using h
theorem srtM_mem (l : List Mv) (y : Mv) : y ∈ srtM l ↔ y ∈ l := (List.mergeSort_perm l _).mem_iff
theorem tidyL_sd (l : List Mv) : Sd (tidyL l) ∧ ∀ y, y ∈ tidyL l ↔ y ∈ l := by
  unfold tidyL
  have hp := srtM_pw l
  have hm := srtM_mem l
  cases hs : srtM l with
  | nil =>
    rw [hs] at hm
    exact ⟨by simp [dd, Sd], fun y => by rw [← hm y]; simp [dd]⟩
  | cons x r =>
    rw [hs] at hp hm
    have := ddup_sd r x hp
    exact ⟨this.1, fun y => by rw [← hm y]; exact this.2 y⟩
theorem eqSorted (nl : Bool) (l : List Mv) (hl : l.length ≤ 1048576) : callI G 68 [encL nl false l] [] = some (encL true true (tidyL l), []) := by
  rw [callI_eq]
  by_cases he : l = []
  · subst he
    rw [tidyL_n]
    have l2 := loopSo2 [] (by simp) [] [] rfl [] (by simp [Sd]) (by simp) (by simp)
    rcases encL_two nl false [] with ⟨e, _⟩ | e
    · rw [e]
      have l0 : loopI G [0, 3, 4] [7, 49] c68l2 ⟨[(0, .nils), (3, .nils), (4, .i 0)], [], []⟩ = some (.exit 0, ⟨[(0, .nils), (3, .nils), (4, .i 0), (11, .b false)], [], []⟩) := by
        rw [loopI_eq]
        simp [r68l2, b68l2]
      simp [body1_eq _ _ (gp 68) g68, c68, a68, l0]
    · rw [e]
      have l0 : loopI G [0, 3, 4] [7, 49] c68l2 ⟨[(0, .sl false 2 []), (3, .nils), (4, .i 0)], [], []⟩ = some (.exit 0, ⟨[(0, .sl false 2 []), (3, .nils), (4, .i 0), (11, .b false)], [], []⟩) := by
        rw [loopI_eq]
        simp [r68l2, b68l2]
      simp [body1_eq _ _ (gp 68) g68, c68, a68, l0]
  · obtain ⟨O, h1, h2, h3⟩ := loopSo2 l hl l [] rfl [] (by simp [Sd]) (by simp) (by simp)
    have hO : O = tidyL l := Sd_uniq _ _ h1 (tidyL_sd l).1 fun y => by rw [h2 y, (tidyL_sd l).2 y]
    have hne : tidyL l ≠ [] := tidyL_ne he
    rw [hO, owP_ne hne, owL_ne hne] at h3
    rw [encL_ne he, encL_ne hne]
    simp only [owP_n, owL_n, List.length_nil, show ((0 : Nat) : Int) = 0 from rfl] at h3
    simp [body1_eq _ _ (gp 68) g68, c68, a68, h3]
end Go.Am
end
section
set_option maxRecDepth 10000
set_option maxHeartbeats 1000000
set_option linter.unusedSimpArgs false
set_option linter.unusedVariables false
namespace Go.Am
open Go.Proofs Go.Sort Go.Shelf
theorem atG_app (x y : Int) : ∀ (row : List Int) (i : Nat), x ∉ row → atG i (row ++ [x]) y = if y = x then ((i + row.length : Nat) : Int) else atG i row y
  | [], i, h => by
    simp only [List.nil_append, atG]
    by_cases c : x = y
    · simp [c]
    · have : ¬ y = x := fun e => c e.symm
      simp [c, this]
  | z :: row, i, h => by
    have hz : x ≠ z := fun e => h (by rw [e]; exact List.mem_cons_self)
    have ih := atG_app x y row (i + 1) (fun e => h (List.mem_cons_of_mem _ e))
    simp only [List.cons_append, atG]
    by_cases c : z = y
    · have : ¬ y = x := fun e => hz (by rw [← e, c])
      simp [c, this]
    · simp only [c, if_false, ih, List.length_cons]
      by_cases d : y = x
      · simp [d]; omega
      · simp [d]
def atS (n : Nat) (row : List Int) : List PV := (List.range n).map fun k : Nat => PV.i (atOf row k)
@[simp] theorem atS_len (n : Nat) (row : List Int) : (atS n row).length = n := by simp [atS]
theorem atS_nth {n : Nat} {row : List Int} {x : Int} (h : 0 ≤ x ∧ x < n) : nth (atS n row) x.toNat = some (.i (atOf row x)) := by
  unfold nth atS
  have h1 : x.toNat < n := by omega
  have h2 : ((x.toNat : Nat) : Int) = x := by omega
  simp [h1, h2]
theorem atS_set {n : Nat} {row : List Int} {x : Int} (h : 0 ≤ x ∧ x < n) (hx : x ∉ row) : (atS n row).set x.toNat (.i row.length) = atS n (row ++ [x]) := by
  apply List.ext_getElem (by simp)
  intro i h1 h2
  simp only [atS_len, List.length_set] at h1 h2
  simp only [atS, List.getElem_set, List.getElem_map, List.getElem_range, atOf, atG_app x _ row 0 hx, Nat.zero_add]
  by_cases c : x.toNat = i
  · have : (i : Int) = x := by omega
    simp [c, this]
  · have : ¬ (i : Int) = x := by omega
    simp [c, this]
theorem atS_n (n : Nat) : List.replicate n (PV.i 0) = atS n [] := by
  apply List.ext_getElem (by simp)
  intro i h1 h2
  simp [atS, atOf, atG]
/-! spec.l3Part -/
theorem loopSp0 (E : List PV) (n N : Nat) (hN : N ≤ 4294967296) : ∀ (rest done : List Int), InN n (done ++ rest) → (done ++ rest).length = N →
    loopI G [2, 4, 5, 6, 7] [2, 4, 15, 19, 81] c91l0 ⟨[(2, .ref (0, 2) 1 0 0), (4, .ref (0, 4) 1 0 0), (5, .own (0, 15) N), (6, .own (0, 19) n), (7, .i done.length)], [(2, .box [PV.sl false 1 E]), (4, .box [.nils]), (15, .row 1 ((done ++ rest).map PV.i)), (19, .row 1 (atS n done))], []⟩ =
      some (.exit 0, ⟨[(2, .ref (0, 2) 1 0 0), (4, .ref (0, 4) 1 0 0), (5, .own (0, 15) N), (6, .own (0, 19) n), (7, .i N), (23, .b false)], [(2, .box [PV.sl false 1 E]), (4, .box [.nils]), (15, .row 1 ((done ++ rest).map PV.i)), (19, .row 1 (atS n (done ++ rest)))], []⟩)
  | [], done, hd, h => by
    simp only [List.append_nil] at h ⊢
    rw [h, loopI_eq]
    simp [r91l0, b91l0, h]
  | x :: rest, done, hd, h => by
    have hlt : (done.length : Int) < N := by simp at h; omega
    have hlt2 : done.length < N := by omega
    have hw : IntKind.i64.wrap ((done.length : Int) + 1) = (done.length : Int) + 1 := wr (by omega)
    have hat : nth ((done ++ x :: rest).map PV.i) done.length = some (.i x) := by rw [List.map_append, List.map_cons]; exact at_D _ _ _ _ (by simp)
    have hx : x ∉ done := fun hm => (List.nodup_append.1 hd.1).2.2 x hm x List.mem_cons_self rfl
    have hxr := hd.2 x (by simp)
    have hsn := atS_nth (row := done) hxr
    have hst := atS_set hxr hx
    have hn := loopSp0 E n N hN rest (done ++ [x]) (by simpa using hd) (by simpa using h)
    have e1 : done ++ [x] ++ rest = done ++ x :: rest := by simp
    rw [e1] at hn
    have hl2 : ((done ++ x :: rest).map PV.i).length = N := by simpa using h
    generalize hR : (done ++ x :: rest).map PV.i = R at hat hn hl2 ⊢
    rw [loopI_eq]
    simp [r91l0, b91l0, hlt, hlt2, hl2, hw, hat, hsn, hst, hxr.1, hxr.2, unAgg]
    simpa using hn
theorem loopSp1 (E : List PV) (g : Gr) (hE : EncR false E g) (Y : PV) (YL : Objs) (xs : List PV) (hY : OwnS 81 1 Y YL xs) (row : List Int) (j : Nat) (hj : j < row.length) (hjb : j ≤ 1048576) (x : Int) (hxj : nth (row.map PV.i) j = some (.i x)) (hx : 0 ≤ x ∧ x < g.length) (L : List Mv) (hL : g.getD x.toNat [] = L) (hLt : ∀ m ∈ L, 0 ≤ m.2 ∧ m.2 < g.length) (hLl : L.length ≤ 1048576) : ∀ (rest done : List Mv), L = done ++ rest →
    loopI G [2, 4, 5, 6, 8, 9, 10, 11] [2, 4, 8, 15, 19, 40, 75, 81] c91l1 ⟨[(2, .ref (0, 2) 1 0 0), (4, .ref (0, 4) 1 0 0), (5, .own (0, 15) row.length), (6, .own (0, 19) g.length), (8, .ref (0, 8) 1 0 0), (9, .i j), (10, owP 75 (reT row done)), (11, .i done.length)], (2, .box [PV.sl false 1 E]) :: (4, .box [.nils]) :: (8, .box [Y]) :: (15, .row 1 (row.map PV.i)) :: (19, .row 1 (atS g.length row)) :: (owL 75 (reT row done) ++ YL), []⟩ =
      some (.exit 4, ⟨[(2, .ref (0, 2) 1 0 0), (4, .ref (0, 4) 1 0 0), (5, .own (0, 15) row.length), (6, .own (0, 19) g.length), (8, .ref (0, 8) 1 0 0), (9, .i j), (10, owP 75 (reT row L)), (11, .i L.length), (51, .b false)], (2, .box [PV.sl false 1 E]) :: (4, .box [.nils]) :: (8, .box [Y]) :: (15, .row 1 (row.map PV.i)) :: (19, .row 1 (atS g.length row)) :: (owL 75 (reT row L) ++ YL), []⟩)
  | [], done, hd => by
    rw [List.append_nil] at hd
    subst hd
    have hEl := hE.1
    have hxn : x.toNat < g.length := by omega
    obtain ⟨nl, hat⟩ := hE.2 x.toNat hxn
    rw [hL] at hat
    have hji : (j : Int) < row.length := by omega
    have hrl : (row.map PV.i).length = row.length := by simp
    have hx1 := hx.1
    have hx2 := hx.2
    clear hE
    generalize hR : row.map PV.i = R at hxj hrl ⊢
    rw [loopI_eq]
    rcases encL_two nl false L with ⟨e, e2⟩ | e
    · rw [e] at hat
      subst e2
      rcases hY with ⟨rfl, rfl, rfl⟩ | ⟨hxs, rfl, rfl⟩
      · simp [r91l1, b91l1, hEl, hj, hji, hrl, hxj, hx1, hx2, hat, reT]
      · simp [r91l1, b91l1, hEl, hj, hji, hrl, hxj, hx1, hx2, hat, reT]
    · rw [e] at hat
      by_cases hd : L = []
      · rw [hd] at hat ⊢
        simp at hat
        rcases hY with ⟨rfl, rfl, rfl⟩ | ⟨hxs, rfl, rfl⟩
        · simp [r91l1, b91l1, hEl, hj, hji, hrl, hxj, hx1, hx2, hat, reT]
        · simp [r91l1, b91l1, hEl, hj, hji, hrl, hxj, hx1, hx2, hat, reT]
      · have hne : reT row L ≠ [] := by simp [reT, hd]
        rw [owP_ne hne, owL_ne hne]
        rcases hY with ⟨rfl, rfl, rfl⟩ | ⟨hxs, rfl, rfl⟩
        · simp [r91l1, b91l1, hEl, hj, hji, hrl, hxj, hx1, hx2, hat]
        · simp [r91l1, b91l1, hEl, hj, hji, hrl, hxj, hx1, hx2, hat]
  | m :: rest, done, hd => by
    have hEl := hE.1
    have hxn : x.toNat < g.length := by omega
    obtain ⟨nl, hat⟩ := hE.2 x.toNat hxn
    rw [hL] at hat
    have hji : (j : Int) < row.length := by omega
    have hm := hLt m (by rw [hd]; simp)
    have hen : encL nl false L = .sl false 2 (L.map mvP) := encL_ne (by rw [hd]; simp)
    rw [hen] at hat
    have hLl2 : L.length = done.length + (rest.length + 1) := by rw [hd]; simp
    have hlt : (done.length : Int) < L.length := by omega
    have hlt2 : done.length < L.length := by omega
    have hw : IntKind.i64.wrap ((done.length : Int) + 1) = (done.length : Int) + 1 := wr (by omega)
    have hdl : done.length ≤ 4294967295 := by omega
    have hat2 : nth (L.map mvP) done.length = some (mvP m) := by rw [hd]; exact mv_at done m rest
    have hsn := atS_nth (row := row) hm
    have hn := loopSp1 E g hE Y YL xs hY row j hj hjb x hxj hx L hL hLt hLl rest (done ++ [m]) (by simpa using hd)
    have hrl : (row.map PV.i).length = row.length := by simp
    have hx1 := hx.1
    have hx2 := hx.2
    have hm1 := hm.1
    have hm2 := hm.2
    have hml : (L.map mvP).length = L.length := by simp
    clear hE
    generalize hM : L.map mvP = M at hat hat2 hml
    generalize hR : row.map PV.i = R at hxj hrl hn ⊢
    simp only [mvP] at hat2
    rw [loopI_eq]
    rcases hY with ⟨rfl, rfl, rfl⟩ | ⟨hxs, rfl, rfl⟩
    · by_cases hdn : done = []
      · subst hdn
        simp at hat2 hn hlt
        simp [r91l1, b91l1, hEl, hj, hji, hrl, hxj, hx1, hx2, hat, hat2, hml, hlt, hlt2, mvP, unAgg, hw, hdl, wr1, hsn, hm1, hm2, reT]
        simpa [reT, mvP, Int.add_assoc] using hn
      · have hne : reT row done ≠ [] := by simp [reT, hdn]
        rw [owP_ne hne, owL_ne hne]
        simp [r91l1, b91l1, hEl, hj, hji, hrl, hxj, hx1, hx2, hat, hat2, hml, hlt, hlt2, mvP, unAgg, hw, hdl, hsn, hm1, hm2]
        simpa [reT, mvP, Int.add_assoc] using hn
    · by_cases hdn : done = []
      · subst hdn
        simp at hat2 hn hlt
        simp [r91l1, b91l1, hEl, hj, hji, hrl, hxj, hx1, hx2, hat, hat2, hml, hlt, hlt2, mvP, unAgg, hw, hdl, wr1, hsn, hm1, hm2, reT]
        simpa [reT, mvP, Int.add_assoc] using hn
      · have hne : reT row done ≠ [] := by simp [reT, hdn]
        rw [owP_ne hne, owL_ne hne]
        simp [r91l1, b91l1, hEl, hj, hji, hrl, hxj, hx1, hx2, hat, hat2, hml, hlt, hlt2, mvP, unAgg, hw, hdl, hsn, hm1, hm2]
        simpa [reT, mvP, Int.add_assoc] using hn
end Go.Am
end
section
set_option maxRecDepth 10000
set_option maxHeartbeats 1000000
set_option linter.unusedSimpArgs false
set_option linter.unusedVariables false
namespace Go.Am
open Go.Proofs Go.Sort Go.Shelf
theorem loopSp2 (E : List PV) (g : Gr) (hE : EncR false E g) (hg : OkTo g) (hs : SmallG g) (row : List Int) (hrow : InN g.length row) : ∀ (rest done : List Int), row = done ++ rest → ∀ Y YL, OwnS 81 1 Y YL (encGs true true (done.map (ptR g row))) →
    ∃ Y' YL', OwnS 81 1 Y' YL' (encGs true true (row.map (ptR g row))) ∧
    loopI G [2, 4, 5, 6, 8, 9] [2, 4, 8, 15, 19, 81] c91l2 ⟨[(2, .ref (0, 2) 1 0 0), (4, .ref (0, 4) 1 0 0), (5, .own (0, 15) row.length), (6, .own (0, 19) g.length), (8, .ref (0, 8) 1 0 0), (9, .i done.length)], (2, .box [PV.sl false 1 E]) :: (4, .box [.nils]) :: (8, .box [Y]) :: (15, .row 1 (row.map PV.i)) :: (19, .row 1 (atS g.length row)) :: YL, []⟩ =
      some (.exit 2, ⟨[(2, .ref (0, 2) 1 0 0), (4, .ref (0, 4) 1 0 0), (5, .own (0, 15) row.length), (6, .own (0, 19) g.length), (8, .ref (0, 8) 1 0 0), (9, .i row.length), (37, .b false)], (2, .box [PV.sl false 1 E]) :: (4, .box [.nils]) :: (8, .box [Y']) :: (15, .row 1 (row.map PV.i)) :: (19, .row 1 (atS g.length row)) :: YL', []⟩)
  | [], done, hd, Y, YL, hY => by
    rw [List.append_nil] at hd
    subst hd
    refine ⟨Y, YL, hY, ?_⟩
    rw [loopI_eq]
    rcases hY with ⟨h1, rfl, rfl⟩ | ⟨h1, rfl, rfl⟩
    · simp [r91l2, b91l2]
    · simp [r91l2, b91l2]
  | x :: rest, done, hd, Y, YL, hY => by
    have hl := hrow.len
    have hgl := hs.1
    have hrl : row.length = done.length + (rest.length + 1) := by rw [hd]; simp
    have hlt : (done.length : Int) < row.length := by omega
    have hlt2 : done.length < row.length := by omega
    have hw : IntKind.i64.wrap ((done.length : Int) + 1) = (done.length : Int) + 1 := wr (by omega)
    have hx := hrow.2 x (by rw [hd]; simp)
    have hat : nth (row.map PV.i) done.length = some (.i x) := by rw [hd, List.map_append, List.map_cons]; exact at_D _ _ _ _ (by simp)
    have hxn : x.toNat < g.length := by omega
    have hLl : (g.getD x.toNat []).length ≤ 1048576 := hs.2 _ (by rw [List.getD_eq_getElem?_getD, List.getElem?_eq_getElem hxn, Option.getD_some]; exact List.getElem_mem hxn)
    have hLt := hg.row x.toNat
    have hpt : ptR g row x = tidyL (reT row (g.getD x.toNat [])) := rfl
    have hYl : (encGs true true (done.map (ptR g row))).length = done.length := by simp
    have hdl : done.length ≤ 4294967295 := by omega
    generalize hL : g.getD x.toNat [] = L at hLl hpt hLt
    have h0 := loopSp1 E g hE Y YL _ hY row done.length hlt2 (by omega) x hat hx L hL hLt hLl L [] rfl
    simp only [List.nil_append, List.length_nil, show ((0 : Nat) : Int) = 0 from rfl, show reT row [] = [] from rfl, owP_n, owL_n] at h0
    have hnew : encGs true true ((done ++ [x]).map (ptR g row)) = encGs true true (done.map (ptR g row)) ++ [encL true true (ptR g row x)] := by simp [encGs]
    have hnn : encGs true true ((done ++ [x]).map (ptR g row)) ≠ [] := by rw [hnew]; simp
    have hYn : OwnS 81 1 (.own (0, 81) (done.length + 1)) [(81, .row 1 (encGs true true (done.map (ptR g row)) ++ [encL true true (ptR g row x)]))] (encGs true true ((done ++ [x]).map (ptR g row))) := by
      refine .inr ⟨hnn, ?_, ?_⟩
      · rw [hnew]; simp
      · rw [hnew]
    obtain ⟨Y', YL', hY', hn⟩ := loopSp2 E g hE hg hs row hrow rest (done ++ [x]) (by simpa using hd) _ _ hYn
    refine ⟨Y', YL', hY', ?_⟩
    simp only [List.length_append, List.length_cons, List.length_nil, Int.natCast_add, show ((0 + 1 : Nat) : Int) = 1 from rfl] at hn
    clear hY' hE
    have hso := eqSorted true (reT row L) (by simp; omega)
    rw [← hpt] at hso
    have hRl : (row.map PV.i).length = row.length := by simp
    generalize hR : row.map PV.i = R at h0 hn hRl ⊢
    rw [loopI_eq]
    by_cases hLe : L = []
    · subst hLe
      have hr0 : reT row [] = [] := rfl
      rw [hr0, tidyL_n] at hpt
      rw [hpt] at hn hso
      simp only [hr0, encL_n] at hso
      rcases hY with ⟨h1, rfl, rfl⟩ | ⟨h1, rfl, rfl⟩
      · have hd0 : done = [] := by cases done with | nil => rfl | cons a b => simp [encGs] at h1
        subst hd0
        have hlt0 : 0 < row.length := by omega
        simp [hr0] at h0 hn hat
        simp [r91l2, b91l2, hlt, hlt2, hRl, noShares_mv, hw, h0, hso, wr1, hlt0]
        simpa [encGs] using hn
      · simp [hr0] at h0 hn
        simp [r91l2, b91l2, hlt, hlt2, hRl, noShares_mv, hw, h0, hso, hdl]
        simpa [encGs] using hn
    · have hne : reT row L ≠ [] := by simp [reT, hLe]
      have hlt3 : encL true true (ptR g row x) = .sl true 2 ((ptR g row x).map mvP) := encL_ne (by rw [hpt]; exact tidyL_ne hne)
      rw [encL_ne hne] at hso
      rw [hlt3] at hn hso
      rw [owP_ne hne, owL_ne hne] at h0
      rcases hY with ⟨h1, rfl, rfl⟩ | ⟨h1, rfl, rfl⟩
      · have hd0 : done = [] := by cases done with | nil => rfl | cons a b => simp [encGs] at h1
        subst hd0
        have hlt0 : 0 < row.length := by omega
        simp at h0 hn hat
        simp [r91l2, b91l2, hlt, hlt2, hRl, noShares_mv, hw, h0, fals_mvP, hso, wr1, hlt0]
        simpa [encGs] using hn
      · simp at h0 hn
        simp [r91l2, b91l2, hlt, hlt2, hRl, noShares_mv, hw, h0, fals_mvP, hso, hdl]
        simpa [encGs] using hn
theorem reach_ne (g : Gr) (s : Int) : 1 ≤ (reach g s).length := by
  have hbl := bfs_len g (g.length + 1) 0 [s]
  unfold reach; simpa using hbl
theorem eqPart (E : List PV) (g : Gr) (hE : EncR false E g) (hg : OkTo g) (hs : SmallG g) (h : 0 < g.length) :
    callI G 91 [.agg [.sl false 1 E], .i 0] [] = some (.agg [.sl true 1 (encGs true true (partG g 0))], []) := by
  have h1 := eqFrom E g hE hg hs 0 (by omega)
  have hr : InN g.length (reach g 0) := InN.bfs hg _ _ (InN.one (by omega))
  have hl := hr.len
  have hgl := hs.1
  have hEl := hE.1
  have hpg : partG g 0 = (reach g 0).map (ptR g (reach g 0)) := rfl
  have hrl := reach_ne g 0
  rw [hpg]
  generalize hR : reach g 0 = row at h1 hr hl hrl
  have hne : row ≠ [] := by intro e; rw [e] at hrl; cases hrl
  have l0 := loopSp0 E g.length row.length (by omega) row [] hr rfl
  obtain ⟨Y, YL, hY, l2⟩ := loopSp2 E g hE hg hs row hr row [] rfl .nils [] (.inl ⟨rfl, rfl, rfl⟩)
  simp only [List.nil_append, List.length_nil, show ((0 : Nat) : Int) = 0 from rfl] at l0 l2
  have hne2 : encGs true true (row.map (ptR g row)) ≠ [] := by simp [encGs, hne]
  have hz := atS_n g.length
  have h4 : g.length ≤ 4294967296 := by omega
  have h5 : (g.length : Int) ≤ 4294967296 := by omega
  rw [callI_eq]
  rcases hY with ⟨q, _⟩ | ⟨_, rfl, rfl⟩
  · exact absurd q hne2
  · simp [body1_eq _ _ (gp 91) g91, c91, a91, h1, hEl, hz, h4, h5, l0, l2]
end Go.Am
end
section
set_option maxRecDepth 10000
set_option maxHeartbeats 1000000
set_option linter.unusedSimpArgs false
set_option linter.unusedVariables false
namespace Go.Am
open Go.Proofs Go.Sort Go.Shelf
theorem eqMade (E : List PV) (g : Gr) (hE : EncR false E g) (hg : OkTo g) (hs : SmallG g) (h : 0 < g.length) :
    callI G 48 [.agg [.sl false 1 E]] [] = some (.tup [encG true true (made g).1, .b (made g).2], []) := by
  have h1 := eqPart E g hE hg hs h
  have hrl := reach_ne g 0
  have hpl : (partG g 0).length = (reach g 0).length := by simp [partG]
  unfold made
  rw [← hpl] at hrl ⊢
  generalize hP : partG g 0 = P at h1 hrl ⊢
  have hne : P ≠ [] := by intro e; rw [e] at hrl; cases hrl
  have he : encG true true P = .agg [.sl true 1 (encGs true true P)] := by simp [encG, encM', hne]
  rw [callI_eq]
  by_cases hc : P.length ≤ 60
  · have hc2 : ¬ (60 : Int) < P.length := by omega
    simp only [hc, if_true, he]
    simp [body1_eq _ _ (gp 48) g48, c48, a48, h1, hc, hc2]
  · have hc2 : (60 : Int) < P.length := by omega
    simp [body1_eq _ _ (gp 48) g48, c48, a48, h1, hc, hc2]
end Go.Am
end
section
set_option maxRecDepth 10000
set_option maxHeartbeats 1000000
set_option linter.unusedSimpArgs false
set_option linter.unusedVariables false
namespace Go.Am
open Go.Proofs Go.Sort Go.Shelf
/-! spec.l4Has: a move with an action into a class -/
end Go.Am
end
section
set_option maxRecDepth 10000
set_option maxHeartbeats 1000000
set_option linter.unusedSimpArgs false
set_option linter.unusedVariables false
namespace Go.Am
open Go.Proofs Go.Sort Go.Shelf
/-! spec.l4Covers: each move is one of another state, too -/
end Go.Am
end
section
set_option maxRecDepth 10000
set_option maxHeartbeats 1000000
set_option linter.unusedSimpArgs false
set_option linter.unusedVariables false
namespace Go.Am
open Go.Proofs Go.Sort Go.Shelf
/-! spec.l4Next: one more round -/
end Go.Am
end
section
set_option maxRecDepth 10000
set_option maxHeartbeats 1000000
set_option linter.unusedSimpArgs false
set_option linter.unusedVariables false
namespace Go.Am
open Go.Proofs Go.Sort Go.Shelf
/-! spec.l4Same -/
end Go.Am
end
section
set_option maxRecDepth 10000
set_option maxHeartbeats 1000000
set_option linter.unusedSimpArgs false
set_option linter.unusedVariables false
namespace Go.Am
open Go.Proofs Go.Sort Go.Shelf
/-! spec.l4Rounds -/
end Go.Am
end
section
set_option linter.unusedSimpArgs false
set_option linter.unusedVariables false
namespace Go.Am
end Go.Am
end
section
set_option linter.unusedSimpArgs false
set_option linter.unusedVariables false
namespace Go.Am
/-! The rounds stop: roots stay, and each round that changes something makes a new one. -/
end Go.Am
end
section
set_option maxRecDepth 10000
set_option maxHeartbeats 1000000
set_option linter.unusedSimpArgs false
set_option linter.unusedVariables false
namespace Go.Am
open Go.Proofs Go.Sort Go.Shelf
/-! impl.alikeRounds's marks -/
end Go.Am
end
section
set_option maxRecDepth 10000
set_option maxHeartbeats 1000000
set_option linter.unusedSimpArgs false
set_option linter.unusedVariables false
namespace Go.Am
open Go.Proofs Go.Sort Go.Shelf
/-! slices.Equal at moves and at numbers -/
end Go.Am
end
section
set_option maxRecDepth 10000
set_option maxHeartbeats 1000000
set_option linter.unusedSimpArgs false
set_option linter.unusedVariables false
namespace Go.Am
open Go.Proofs Go.Sort Go.Shelf
theorem SmallG.fit {g : Gr} (h : SmallG g) : FitG g := ⟨by have := h.1; omega, fun l hl => by have := h.2 l hl; omega⟩
theorem tidyL_len (l : List Mv) : (tidyL l).length ≤ l.length := by
  have h : (srtM l).length = l.length := by simp [srtM]
  unfold tidyL
  cases hs : srtM l with
  | nil => simp [dd]
  | cons x r =>
    rw [hs] at h
    have := ddup_len x r
    simp only [dd, List.length_cons] at h ⊢
    omega
theorem made_small {g : Gr} (h : SmallG g) : SmallG (made g).1 := by
  unfold made
  split
  · rename_i hc
    refine ⟨by show (partG g 0).length ≤ _; simp [partG]; omega, fun l hl => ?_⟩
    simp only [partG, List.mem_map] at hl
    obtain ⟨r, _, rfl⟩ := hl
    refine Nat.le_trans (tidyL_len _) ?_
    rw [reT_len]
    by_cases hi : r.toNat < g.length
    · rw [List.getD_eq_getElem?_getD, List.getElem?_eq_getElem hi, Option.getD_some]
      exact h.2 _ (List.getElem_mem hi)
    · rw [List.getD_eq_getElem?_getD, List.getElem?_eq_none (by omega)]; simp
  · exact ⟨by simp, fun l hl => by cases hl⟩
theorem encM_ne {nl u : Bool} {g : Gr} (h : g ≠ []) : encM' nl u g = .sl u 1 (encGs nl u g) := by
  unfold encM'
  split
  · rename_i k; simp only [Bool.and_eq_true, List.isEmpty_iff] at k; exact absurd k.2 h
  · rfl
end Go.Am
end
section
set_option maxRecDepth 10000
set_option maxHeartbeats 1000000
set_option linter.unusedSimpArgs false
set_option linter.unusedVariables false
namespace Go.Am
open Go.Proofs Go.Sort Go.Shelf
/-! impl.refine -/
end Go.Am
end
section
set_option maxRecDepth 10000
set_option maxHeartbeats 1000000
set_option linter.unusedSimpArgs false
set_option linter.unusedVariables false
namespace Go.Am
open Go.Proofs Go.Sort Go.Shelf
/-! impl.rounds, impl.alikeRounds, impl.alikeClasses; spec.l4Rounds, spec.l4Classes -/
end Go.Am
end
section
set_option linter.unusedSimpArgs false
set_option linter.unusedVariables false
namespace Go.Am
/-! The classes don't depend on how the states are numbered. -/
/-! The least state of g that is like an unknown. -/
end Go.Am
end
section
set_option maxRecDepth 10000
set_option maxHeartbeats 1000000
set_option linter.unusedSimpArgs false
set_option linter.unusedVariables false
namespace Go.Am
open Go.Proofs Go.Sort Go.Shelf
/-! impl.GraphSum -/
/-! rows of graphs that are ones are short -/
end Go.Am
end
section
set_option maxRecDepth 10000
set_option maxHeartbeats 1000000
set_option linter.unusedSimpArgs false
set_option linter.unusedVariables false
namespace Go.Am
open Go.Proofs Go.Sort Go.Shelf
/-! slices.IndexFunc and slices.DeleteFunc at moves, with a closure over one box of an outer frame -/
end Go.Am
end
section
set_option maxRecDepth 10000
set_option maxHeartbeats 1000000
set_option linter.unusedSimpArgs false
set_option linter.unusedVariables false
namespace Go.Am
open Go.Proofs Go.Sort Go.Shelf
end Go.Am
end
section
set_option maxRecDepth 10000
set_option maxHeartbeats 1000000
set_option linter.unusedSimpArgs false
set_option linter.unusedVariables false
namespace Go.Am
open Go.Proofs Go.Sort Go.Shelf
/-! the name of an action; what is hidden -/
def nameI (a : Int) : Int := IntKind.i64.wrap ((if a < IntKind.i64.wrap (0 - a) then IntKind.i64.wrap (0 - a) else a) - 1)
theorem eqNameI (a : Int) : callI G 58 [.i a] [] = some (.i (nameI a), []) := by
  rw [callI_eq]
  simp [body1_eq _ _ (gp 58) g58, c58, a58, nameI]
theorem eqNameS (a : Int) : callI G 61 [.i a] [] = some (.i (nameI a), []) := by
  rw [callI_eq]
  simp [body1_eq _ _ (gp 61) g61, c61, a61, nameI]
end Go.Am
end
section
set_option maxRecDepth 10000
set_option maxHeartbeats 1000000
set_option linter.unusedSimpArgs false
set_option linter.unusedVariables false
namespace Go.Am
open Go.Proofs Go.Sort Go.Shelf
/-! lists of truth values -/
def bools (l : List Bool) : List PV := l.map PV.b
@[simp] theorem bools_len (l : List Bool) : (bools l).length = l.length := by simp [bools]
@[simp] theorem fals_bools : ∀ l : List Bool, fals (bools l) = bools l
  | [] => rfl
  | x :: l => by
    have := fals_bools l
    simp only [bools, List.map_cons, fals] at this ⊢
    rw [this]; rfl
theorem noShares_bools : ∀ l : List Bool, noShares (bools l) = true
  | [] => rfl
  | x :: l => by
    have := noShares_bools l
    simp only [bools, List.map_cons, noShares] at this ⊢
    rw [this]; rfl
/-! marked truth values: the own row of an outer frame -/
/-! what is named -/
def namd (bs : List Bool) (a : Int) : Bool := !decide (a = 0) && bs.getD (nameI a).toNat false
theorem nameI_in {a : Int} (h : actOk a = true) (h0 : a ≠ 0) : 0 ≤ nameI a ∧ nameI a < 4 := by
  simp only [actOk, Bool.and_eq_true, decide_eq_true_eq] at h
  unfold nameI
  rw [wr (n := 0 - a) (by omega)]
  split
  · rw [wr (by omega)]; omega
  · rw [wr (by omega)]; omega
theorem bools_nth {bs : List Bool} {i : Nat} (h : i < bs.length) : nth (bools bs) i = some (.b (bs.getD i false)) := by
  unfold nth bools
  simp [List.getElem?_map, List.getElem?_eq_getElem h]
theorem eqNamedI (a : Int) (bs : List Bool) (h : actOk a = true) (hb : bs.length = 4) : callI G 65 [.i a, .sl false 1 (bools bs)] [] = some (.b (namd bs a), []) := by
  have hnm := eqNameI a
  rw [callI_eq]
  unfold namd
  by_cases h0 : a = 0
  · simp [body1_eq _ _ (gp 65) g65, c65, a65, h0]
  · have hn := nameI_in h h0
    have hnt := bools_nth (bs := bs) (i := (nameI a).toNat) (by omega)
    generalize nameI a = m at hnm hn hnt
    simp [body1_eq _ _ (gp 65) g65, c65, a65, h0, hnm, hn.1, hn.2, hb, hnt]
theorem eqNamedS (a : Int) (bs : List Bool) (h : actOk a = true) (hb : bs.length = 4) : callI G 67 [.i a, .sl false 1 (bools bs)] [] = some (.b (namd bs a), []) := by
  have hnm := eqNameS a
  rw [callI_eq]
  unfold namd
  by_cases h0 : a = 0
  · simp [body1_eq _ _ (gp 67) g67, c67, a67, h0]
  · have hn := nameI_in h h0
    have hnt := bools_nth (bs := bs) (i := (nameI a).toNat) (by omega)
    generalize nameI a = m at hnm hn hnt
    simp [body1_eq _ _ (gp 67) g67, c67, a67, h0, hnm, hn.1, hn.2, hb, hnt]
theorem eqNamesOk (bs : List Bool) : callI G 64 [.sl false 1 (bools bs)] [] = some (.b (decide (bs.length = 4)), []) := by
  rw [callI_eq]
  have : decide ((bs.length : Int) = 4) = decide (bs.length = 4) := by apply decide_eq_decide.2; omega
  simp [body1_eq _ _ (gp 64) g64, c64, a64, this]
end Go.Am
end
section
set_option linter.unusedSimpArgs false
set_option linter.unusedVariables false
namespace Go.Am
/-! pairs of states -/
def lMN (nm : Int → Bool) (sync : Bool) (n : Nat) (m x : Mv) : List Mv :=
  if sync = true then (if x.1 = m.1 ∧ nm m.1 = true then [(m.1, m.2 * n + x.2)] else []) else (if m.1 ≠ 0 ∧ x.1 = -m.1 then [(0, m.2 * n + x.2)] else [])
def lM (nm : Int → Bool) (sync : Bool) (n t : Nat) (H : List Mv) (m : Mv) : List Mv := (if nm m.1 = true then [] else [(m.1, m.2 * n + t)]) ++ H.flatMap (lMN nm sync n m)
def lX (nm : Int → Bool) (n s : Nat) (x : Mv) : List Mv := if nm x.1 = true then [] else [(x.1, (s : Int) * n + x.2)]
def prL (nm : Int → Bool) (sync : Bool) (n s t : Nat) (Gs H : List Mv) : List Mv := Gs.flatMap (lM nm sync n t H) ++ H.flatMap (lX nm n s)
def prR (nm : Int → Bool) (sync : Bool) (g h : Gr) (s t : Nat) : List Mv := tidyL (prL nm sync h.length s t (g.getD s []) (h.getD t []))
def prRow (nm : Int → Bool) (sync : Bool) (g h : Gr) (s : Nat) (k : Nat) : Gr := (List.range k).map (prR nm sync g h s)
def prRows (nm : Int → Bool) (sync : Bool) (g h : Gr) : Nat → Gr
  | 0 => []
  | k + 1 => prRows nm sync g h k ++ prRow nm sync g h k h.length
def pairG (nm : Int → Bool) (sync : Bool) (g h : Gr) : Gr := prRows nm sync g h g.length
def pairs (nm : Int → Bool) (sync : Bool) (g h : Gr) : Gr × Bool := if grOk g && grOk h then made (pairG nm sync g h) else ([], false)
end Go.Am
end
section
set_option linter.unusedSimpArgs false
set_option linter.unusedVariables false
namespace Go.Am
/-! likeness of states by a relation that moves keep -/
/-! the states that one comes to are closed -/
theorem addNew_mem : ∀ (l : List Mv) (row : List Int), ∀ m ∈ l, m.2 ∈ addNew row l
  | m :: l, row, x, hx => by
    simp only [addNew]
    rcases List.mem_cons.1 hx with rfl | hx
    · obtain ⟨t, ht⟩ := addNew_pre l (if x.2 ∈ row then row else row ++ [x.2])
      rw [ht]
      refine List.mem_append.2 (.inl ?_)
      split
      · assumption
      · simp
    · exact addNew_mem l _ x hx
theorem bfs_closed {g : Gr} (hg : OkTo g) : ∀ (f i : Nat) (row : List Int), InN g.length row → i ≤ row.length → g.length + 1 ≤ i + f → (∀ j, j < i → ∀ m ∈ g.getD (row.getD j 0).toNat [], m.2 ∈ row) →
    ∀ x ∈ bfs g f i row, ∀ m ∈ g.getD x.toNat [], m.2 ∈ bfs g f i row
  | 0, i, row, h, hi, hf, hc => by
    have := h.len
    omega
  | f + 1, i, row, h, hi, hf, hc => by
    simp only [bfs]
    split
    · rename_i hlt
      obtain ⟨t, ht⟩ := addNew_pre (g.getD (row.getD i 0).toNat []) row
      have hpre : ∀ j, j < row.length → (addNew row (g.getD (row.getD i 0).toNat [])).getD j 0 = row.getD j 0 := fun j hj => by
        rw [ht, List.getD_eq_getElem?_getD, List.getD_eq_getElem?_getD, List.getElem?_append_left hj]
      refine bfs_closed hg f (i + 1) _ (h.add (hg.row _)) ?_ (by omega) fun j hj m hm => ?_
      · have := addNew_len (g.getD (row.getD i 0).toNat []) row
        omega
      · rw [hpre j (by omega)] at hm
        by_cases e : j = i
        · subst e
          exact addNew_mem _ _ m hm
        · rw [ht]
          exact List.mem_append.2 (.inl (hc j (by omega) m hm))
    · rename_i hge
      intro x hx m hm
      obtain ⟨j, hj, rfl⟩ := List.getElem_of_mem hx
      refine hc j (by omega) m ?_
      have e : row.getD j 0 = row[j] := by rw [List.getD_eq_getElem?_getD, List.getElem?_eq_getElem hj]; rfl
      rw [e]
      exact hm
theorem reach_closed {g : Gr} (hg : OkTo g) (h : 0 < g.length) : ∀ x ∈ reach g 0, ∀ m ∈ g.getD x.toNat [], m.2 ∈ reach g 0 :=
  bfs_closed hg _ 0 [0] (InN.one (by omega)) (by simp) (by omega) fun j hj => by omega
theorem bfs_pre (g : Gr) : ∀ (f i : Nat) (row : List Int), ∃ t, bfs g f i row = row ++ t
  | 0, i, row => ⟨[], by simp [bfs]⟩
  | f + 1, i, row => by
    simp only [bfs]
    split
    · obtain ⟨t, ht⟩ := addNew_pre (g.getD (row.getD i 0).toNat []) row
      obtain ⟨t2, ht2⟩ := bfs_pre g f (i + 1) (addNew row (g.getD (row.getD i 0).toNat []))
      exact ⟨t ++ t2, by rw [ht2, ht, List.append_assoc]⟩
    · exact ⟨[], by simp⟩
theorem reach_first (g : Gr) : (reach g 0).getD 0 0 = 0 ∧ 0 < (reach g 0).length := by
  obtain ⟨t, ht⟩ := bfs_pre g (g.length + 1) 0 [0]
  unfold reach
  rw [ht]
  simp
theorem atG_at (x : Int) : ∀ (row : List Int) (i : Nat), x ∈ row → ∃ j : Nat, j < row.length ∧ atG i row x = ((i + j : Nat) : Int) ∧ row.getD j 0 = x
  | y :: l, i, h => by
    simp only [atG]
    by_cases e : y = x
    · exact ⟨0, by simp, by simp [e], by simp [e]⟩
    · have hx : x ∈ l := by
        rcases List.mem_cons.1 h with h | h
        · exact absurd h.symm e
        · exact h
      obtain ⟨j, h1, h2, h3⟩ := atG_at x l (i + 1) hx
      exact ⟨j + 1, by simp; omega, by rw [if_neg e, h2]; congr 1; omega, by simpa using h3⟩
theorem atOf_at {x : Int} {row : List Int} (h : x ∈ row) : (atOf row x).toNat < row.length ∧ row.getD (atOf row x).toNat 0 = x := by
  obtain ⟨j, h1, h2, h3⟩ := atG_at x row 0 h
  unfold atOf
  rw [h2]
  have : (((0 + j : Nat) : Int)).toNat = j := by omega
  rw [this]
  exact ⟨h1, h3⟩
theorem part_row (g : Gr) {i : Nat} (h : i < (reach g 0).length) : (partG g 0).getD i [] = tidyL (reT (reach g 0) (g.getD ((reach g 0).getD i 0).toNat [])) := by
  unfold partG
  rw [List.getD_eq_getElem?_getD, List.getElem?_map, List.getElem?_eq_getElem h]
  simp [h]
theorem part_mem (g : Gr) {i : Nat} (h : i < (reach g 0).length) (z : Mv) : z ∈ (partG g 0).getD i [] ↔ ∃ m ∈ g.getD ((reach g 0).getD i 0).toNat [], z = (m.1, atOf (reach g 0) m.2) := by
  rw [part_row g h, (tidyL_sd _).2]
  unfold reT
  rw [List.mem_map]
  exact ⟨fun ⟨m, h1, h2⟩ => ⟨m, h1, h2.symm⟩, fun ⟨m, h1, h2⟩ => ⟨m, h1, h2.symm⟩⟩
theorem part_len (g : Gr) : (partG g 0).length = (reach g 0).length := by simp [partG]
/-! pairs, turned -/
end Go.Am
end
