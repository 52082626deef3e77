/- What the functions that the law reaches compute. -/
import Derived.Test.YtmpbcedglimhkaaEqA
section
set_option maxRecDepth 10000
set_option linter.unusedSimpArgs false
set_option linter.unusedVariables false
namespace Go.Am
open Go.Proofs Go.Sort Go.Shelf
/-! The states that one comes to. -/
def addNew : List Int → List Mv → List Int
  | row, [] => row
  | row, m :: l => addNew (if m.2 ∈ row then row else row ++ [m.2]) l
def bfs (g : Gr) : Nat → Nat → List Int → List Int
  | 0, _, row => row
  | f + 1, i, row => if i < row.length then bfs g f (i + 1) (addNew row (g.getD (row.getD i 0).toNat [])) else row
def reach (g : Gr) (s : Int) : List Int := bfs g (g.length + 1) 0 [s]
def InN (n : Nat) (row : List Int) : Prop := row.Nodup ∧ ∀ x ∈ row, 0 ≤ x ∧ x < n
def OkTo (g : Gr) : Prop := ∀ l ∈ g, ∀ m ∈ l, 0 ≤ m.2 ∧ m.2 < g.length
theorem nodup_le : ∀ (l m : List Nat), l.Nodup → (∀ x ∈ l, x ∈ m) → l.length ≤ m.length
  | [], m, _, _ => Nat.zero_le _
  | x :: l, m, hn, hs => by
    have hx := hs x List.mem_cons_self
    have h1 := List.nodup_cons.1 hn
    have := nodup_le l (m.erase x) h1.2 (fun y hy => (List.mem_erase_of_ne (fun e => h1.1 (by rw [← e]; exact hy))).2 (hs y (List.mem_cons_of_mem _ hy)))
    rw [List.length_erase_of_mem hx] at this
    have hm := List.length_pos_of_mem hx
    simp only [List.length_cons]; omega
theorem InN.len {n : Nat} {row : List Int} (h : InN n row) : row.length ≤ n := by
  have := nodup_le (row.map Int.toNat) (List.range n) (by
    unfold List.Nodup
    rw [List.pairwise_map]
    exact List.Pairwise.imp_of_mem (fun {a b} ha hb hab e => hab (by have := h.2 a ha; have := h.2 b hb; omega)) h.1) (fun x hx => by
    obtain ⟨y, hy, rfl⟩ := List.mem_map.1 hx
    have := h.2 y hy
    rw [List.mem_range]; omega)
  simpa using this
theorem InN.add {n : Nat} : ∀ {l : List Mv} {row : List Int}, InN n row → (∀ m ∈ l, 0 ≤ m.2 ∧ m.2 < n) → InN n (addNew row l)
  | [], row, h, _ => h
  | m :: l, row, h, hl => by
    simp only [addNew]
    refine InN.add ?_ (fun y hy => hl y (List.mem_cons_of_mem _ hy))
    split
    · exact h
    · rename_i hm
      refine ⟨List.nodup_append.2 ⟨h.1, by simp, fun a ha b hb e => hm ?_⟩, fun x hx => ?_⟩
      · rw [List.mem_singleton] at hb; subst hb; subst e; exact ha
      · rcases List.mem_append.1 hx with hx | hx
        · exact h.2 x hx
        · rw [List.mem_singleton] at hx; subst hx; exact hl m List.mem_cons_self
theorem addNew_len : ∀ (l : List Mv) (row : List Int), row.length ≤ (addNew row l).length
  | [], row => Nat.le_refl _
  | m :: l, row => by
    simp only [addNew]
    refine Nat.le_trans ?_ (addNew_len l _)
    split <;> simp
theorem OkTo.row {g : Gr} (h : OkTo g) (i : Nat) : ∀ m ∈ g.getD i [], 0 ≤ m.2 ∧ m.2 < g.length := by
  intro m hm
  by_cases hi : i < g.length
  · rw [List.getD_eq_getElem?_getD, List.getElem?_eq_getElem hi, Option.getD_some] at hm
    exact h _ (List.getElem_mem hi) m hm
  · rw [List.getD_eq_getElem?_getD, List.getElem?_eq_none (by omega)] at hm; cases hm
theorem InN.bfs {g : Gr} (hg : OkTo g) : ∀ (f i : Nat) {row : List Int}, InN g.length row → InN g.length (bfs g f i row)
  | 0, _, _, h => h
  | f + 1, i, row, h => by
    simp only [Am.bfs]
    split
    · exact InN.bfs hg f (i + 1) (h.add (hg.row _))
    · exact h
theorem InN.one {n : Nat} {s : Int} (h : 0 ≤ s ∧ s < n) : InN n [s] := ⟨by simp, fun x hx => by rw [List.mem_singleton] at hx; subst hx; exact h⟩
theorem gr_nth (nl u : Bool) (g : Gr) (i : Nat) (h : i < g.length) : nth (encGs nl u g) i = some (encL nl u (g.getD i [])) := by
  unfold nth encGs
  simp [List.getElem?_map, List.getElem?_eq_getElem h]
theorem int_nth (row : List Int) (i : Nat) (h : i < row.length) : nth (row.map PV.i) i = some (.i (row.getD i 0)) := by
  unfold nth
  simp [List.getElem?_map, List.getElem?_eq_getElem h]
theorem getD_mem {row : List Int} {i : Nat} (h : i < row.length) : row.getD i 0 ∈ row := by
  rw [List.getD_eq_getElem?_getD, List.getElem?_eq_getElem h, Option.getD_some]
  exact List.getElem_mem h
theorem encL_two (nl u : Bool) (l : List Mv) : (encL nl u l = .nils ∧ l = []) ∨ encL nl u l = .sl u 2 (l.map mvP) := by
  unfold encL
  split
  · rename_i h; simp only [Bool.and_eq_true, List.isEmpty_iff] at h; exact .inl ⟨rfl, h.2⟩
  · exact .inr rfl
/-- The rows of a graph, nil or not. -/
def EncR (u : Bool) (E : List PV) (g : Gr) : Prop := E.length = g.length ∧ ∀ i, i < g.length → ∃ nl, nth E i = some (encL nl u (g.getD i []))
theorem encR_G (nl u : Bool) (g : Gr) : EncR u (encGs nl u g) g := ⟨by simp, fun i h => ⟨nl, gr_nth nl u g i h⟩⟩
theorem EncR.app {u : Bool} {E F : List PV} {g h : Gr} (hE : EncR u E g) (hF : EncR u F h) : EncR u (E ++ F) (g ++ h) := by
  refine ⟨by simp [hE.1, hF.1], fun i hi => ?_⟩
  rw [List.length_append] at hi
  by_cases c : i < g.length
  · obtain ⟨nl, e⟩ := hE.2 i c
    refine ⟨nl, ?_⟩
    unfold nth at e ⊢
    rw [List.getElem?_append_left (by rw [hE.1]; exact c), e]
    simp [List.getD_eq_getElem?_getD, List.getElem?_append_left c]
  · obtain ⟨nl, e⟩ := hF.2 (i - g.length) (by omega)
    refine ⟨nl, ?_⟩
    unfold nth at e ⊢
    rw [List.getElem?_append_right (by rw [hE.1]; omega), hE.1, e]
    simp [List.getD_eq_getElem?_getD, List.getElem?_append_right (show g.length ≤ i by omega)]
theorem fals_map : ∀ E : List PV, fals E = E.map fal
  | [] => rfl
  | x :: E => by simp [fals, fals_map E]
theorem EncR.fal {u : Bool} {E : List PV} {g : Gr} (hE : EncR u E g) : EncR false (fals E) g := by
  refine ⟨by rw [fals_map]; simp [hE.1], fun i hi => ?_⟩
  obtain ⟨nl, e⟩ := hE.2 i hi
  refine ⟨nl, ?_⟩
  unfold nth at e ⊢
  rw [fals_map, List.getElem?_map, e, Option.map_some, fal_encL]
/-! impl.reached: what is seen is a map. -/
def seenM (row : List Int) : List (Key × PV) := row.map fun n => (.i n, .b true)
theorem lkp_seen (x : Int) : ∀ row : List Int, (lkp (.i x) (seenM row)).getD (.b false) = .b (decide (x ∈ row))
  | [] => rfl
  | y :: row => by
    have ih := lkp_seen x row
    simp only [seenM, List.map_cons, lkp, Key.i.injEq]
    by_cases h : y = x
    · simp [h]
    · have h2 : ¬ x = y := fun e => h e.symm
      simp only [seenM] at ih
      simp [h, ih, h2]
theorem ins_seen (x : Int) : ∀ row : List Int, x ∉ row → ins (.i x) (.b true) (seenM row) = seenM (row ++ [x])
  | [], _ => rfl
  | y :: row, h => by
    have hy : y ≠ x := fun e => h (e ▸ List.mem_cons_self)
    have ih := ins_seen x row (fun e => h (List.mem_cons_of_mem _ e))
    simp only [seenM, List.map_cons, ins, Key.i.injEq, hy, if_false, List.cons_append] at ih ⊢
    rw [ih]
theorem loopRe0 (nl : Bool) (E : List PV) (j : Int) : ∀ (rest done : List Mv) (row : List Int), (done ++ rest).length ≤ 4294967296 → row.length + rest.length ≤ 4294967296 →
    loopI G [2, 5, 6, 7, 28, 29, 30] [2, 11, 12, 46] c69l0 ⟨[(2, .ref (0, 2) 1 0 0), (5, .own (0, 11) row.length), (6, .mp (0, 12)), (7, .i j), (28, encL nl false (done ++ rest)), (29, .i (done ++ rest).length), (30, .i done.length)], [(2, .box [PV.sl false 1 (E)]), (11, .row 1 (row.map PV.i)), (12, .map false (seenM row))], []⟩ =
      some (.exit 2, ⟨[(2, .ref (0, 2) 1 0 0), (5, .own (0, 11) (addNew row rest).length), (6, .mp (0, 12)), (7, .i j), (28, encL nl false (done ++ rest)), (29, .i (done ++ rest).length), (30, .i (done ++ rest).length), (31, .b false)], [(2, .box [PV.sl false 1 (E)]), (11, .row 1 ((addNew row rest).map PV.i)), (12, .map false (seenM (addNew row rest)))], []⟩)
  | [], done, row, h, hr => by
    rw [loopI_eq]
    simp [r69l0, b69l0, addNew]
  | x :: rest, done, row, h, hr => by
    have hlt : (done.length : Int) < (done.length : Int) + ((rest.length : Int) + 1) := by omega
    have hw : IntKind.i64.wrap ((done.length : Int) + 1) = (done.length : Int) + 1 := wr (by simp at h; omega)
    have hrl : row.length ≤ 4294967295 := by simp at hr; omega
    have hat := mv_at done x rest
    have hlk := lkp_seen x.2 row
    have hen : encL nl false (done ++ x :: rest) = .sl false 2 ((done ++ x :: rest).map mvP) := encL_ne (by simp)
    have hn := fun row' hr' => loopRe0 nl E j rest (done ++ [x]) row' (by simpa using h) hr'
    have e1 : done ++ [x] ++ rest = done ++ x :: rest := by simp
    simp only [e1] at hn
    rw [hen] at hn ⊢
    rw [loopI_eq]
    simp only [mvP, List.map_append, List.map_cons] at hat
    by_cases hm : x.2 ∈ row
    · have hn := hn row (by simp at hr; omega)
      simp [r69l0, b69l0, hlt, hat, mvP, unAgg, hw, hrl, hlk, hm, addNew]
      simpa [mvP, Int.add_assoc] using hn
    · have hn := hn (row ++ [x.2]) (by simp at hr ⊢; omega)
      have hins := ins_seen x.2 row hm
      simp [r69l0, b69l0, hlt, hat, mvP, unAgg, hw, hrl, hlk, hm, addNew, hins]
      simpa [mvP, Int.add_assoc] using hn
theorem loopRe1 (E : List PV) (g : Gr) (hE : EncR false E g) (hg : OkTo g) (hs : SmallG g) : ∀ (f i : Nat) (row : List Int), InN g.length row → i ≤ row.length → g.length + 1 ≤ i + f →
    loopI G [2, 5, 6, 7] [2, 11, 12, 46] c69l1 ⟨[(2, .ref (0, 2) 1 0 0), (5, .own (0, 11) row.length), (6, .mp (0, 12)), (7, .i i)], [(2, .box [PV.sl false 1 (E)]), (11, .row 1 (row.map PV.i)), (12, .map false (seenM row))], []⟩ =
      some (.exit 0, ⟨[(2, .ref (0, 2) 1 0 0), (5, .own (0, 11) (bfs g f i row).length), (6, .mp (0, 12)), (7, .i (bfs g f i row).length), (18, .b false)], [(2, .box [PV.sl false 1 (E)]), (11, .row 1 ((bfs g f i row).map PV.i)), (12, .map false (seenM (bfs g f i row)))], []⟩)
  | 0, i, row, hr, hi, hf => by have := hr.len; omega
  | f + 1, i, row, hr, hi, hf => by
    have hl := hr.len
    have hgl := hs.1
    by_cases h : i < row.length
    · have hlt : (i : Int) < row.length := by omega
      have hx := hr.2 _ (getD_mem h)
      have hat := int_nth row i h
      generalize hxe : row.getD i 0 = x at hx hat
      have hxl : x < g.length := hx.2
      have hxn : x.toNat < g.length := by omega
      obtain ⟨nl, hat2⟩ := hE.2 x.toNat hxn
      have hEl := hE.1
      have hrow : ∀ m ∈ g.getD x.toNat [], 0 ≤ m.2 ∧ m.2 < g.length := hg.row _
      have hrl : (g.getD x.toNat []).length ≤ 1048576 := hs.2 _ (by rw [List.getD_eq_getElem?_getD, List.getElem?_eq_getElem hxn, Option.getD_some]; exact List.getElem_mem hxn)
      have hb : bfs g (f + 1) i row = bfs g f (i + 1) (addNew row (g.getD x.toNat [])) := by simp [bfs, h, ← hxe]
      rw [hb]
      generalize hL : g.getD x.toNat [] = L at hat2 hrow hrl
      have h0 := loopRe0 nl E i L [] row (by simp; omega) (by omega)
      simp only [List.nil_append, List.length_nil, show ((0 : Nat) : Int) = 0 from rfl] at h0
      have hn := loopRe1 E g hE hg hs f (i + 1) (addNew row L) (hr.add hrow) (by have := addNew_len L row; omega) (by omega)
      have hw : IntKind.i64.wrap ((i : Int) + 1) = (i : Int) + 1 := wr (by omega)
      rw [loopI_eq]
      rcases encL_two nl false L with ⟨e, e2⟩ | e
      · rw [e] at hat2 h0
        subst e2
        simp only [List.length_nil, show ((0 : Nat) : Int) = 0 from rfl] at h0
        simp [r69l1, b69l1, h, hlt, hat, hat2, hx.1, hxl, h0, hw, hEl]
        simpa using hn
      · rw [e] at hat2 h0
        simp [r69l1, b69l1, h, hlt, hat, hat2, hx.1, hxl, h0, hw, hEl]
        simpa using hn
    · have he : i = row.length := by omega
      have hb : bfs g (f + 1) i row = row := by simp [bfs, h]
      rw [hb, loopI_eq]
      subst he
      simp [r69l1, b69l1]
theorem eqReached (E : List PV) (g : Gr) (hE : EncR false E g) (hg : OkTo g) (hs : SmallG g) (s : Int) (h : 0 ≤ s ∧ s < g.length) :
    callI G 69 [.agg [.sl false 1 (E)], .i s] [] = some (.sl true 1 ((reach g s).map PV.i), []) := by
  have hl := loopRe1 E g hE hg hs (g.length + 1) 0 [s] (InN.one h) (by simp) (by omega)
  have hsm : seenM [s] = [(.i s, .b true)] := rfl
  simp only [show ((0 : Nat) : Int) = 0 from rfl, List.length_cons, List.length_nil, List.map_cons, List.map_nil, hsm] at hl
  rw [callI_eq]
  have hi : ins (.i s) (.b true) [] = [(.i s, .b true)] := rfl
  simp [body1_eq _ _ (gp 69) g69, c69, a69, hl, hi, reach]
end Go.Am
end
section
set_option maxRecDepth 10000
set_option linter.unusedSimpArgs false
set_option linter.unusedVariables false
namespace Go.Am
open Go.Proofs Go.Sort Go.Shelf
/-! The part of a graph: states numbered in the order in which they come. -/
def atG : Nat → List Int → Int → Int
  | _, [], _ => 0
  | i, y :: l, x => if y = x then i else atG (i + 1) l x
def atOf (row : List Int) (x : Int) : Int := atG 0 row x
def atM : Nat → List Int → List (Key × PV)
  | _, [] => []
  | i, x :: l => (.i x, .i i) :: atM (i + 1) l
theorem lkp_at (x : Int) : ∀ (row : List Int) (i : Nat), (lkp (.i x) (atM i row)).getD (.i 0) = .i (atG i row x)
  | [], _ => rfl
  | y :: row, i => by
    simp only [atM, lkp, atG, Key.i.injEq]
    by_cases h : y = x
    · simp [h]
    · simp [h, lkp_at x row (i + 1)]
theorem ins_at (x : Int) : ∀ (row : List Int) (i n : Nat), n = i + row.length → x ∉ row → ins (.i x) (.i n) (atM i row) = atM i (row ++ [x])
  | [], i, n, hn, _ => by subst hn; rfl
  | y :: row, i, n, hn, h => by
    have hy : y ≠ x := fun e => h (by rw [e]; exact List.mem_cons_self)
    have ih := ins_at x row (i + 1) n (by simp at hn; omega) (fun e => h (List.mem_cons_of_mem _ e))
    simp only [atM, ins, Key.i.injEq, hy, if_false, List.cons_append, ih]
/-- Moves with the new numbers. -/
def reT (row : List Int) (l : List Mv) : List Mv := l.map fun m => (m.1, atOf row m.2)
@[simp] theorem reT_len (row : List Int) (l : List Mv) : (reT row l).length = l.length := by simp [reT]
def partG (g : Gr) (s : Int) : Gr := (reach g s).map fun r => tidyL (reT (reach g s) (g.getD r.toNat []))
def made (g : Gr) : Gr × Bool := if (reach g 0).length ≤ 60 then (partG g 0, true) else ([], false)
theorem addNew_pre : ∀ (l : List Mv) (row : List Int), ∃ t, addNew row l = row ++ t
  | [], row => ⟨[], by simp [addNew]⟩
  | m :: l, row => by
    simp only [addNew]
    split
    · exact addNew_pre l row
    · obtain ⟨t, ht⟩ := addNew_pre l (row ++ [m.2])
      exact ⟨m.2 :: t, by rw [ht]; simp⟩
/-! impl.partOf -/
theorem loopPt0 (A : PV) (hA : ∀ f n, known f n A = true) (N : Nat) (hN : N ≤ 4294967296) : ∀ (rest done : List Int), (done ++ rest).Nodup → (done ++ rest).length = N →
    loopI G [0, 4, 6, 7, 25, 26, 27] [4, 19, 24, 69] c59l0 ⟨[(0, A), (4, .ref (0, 4) 1 0 0), (6, .own (0, 19) N), (7, .mp (0, 24)), (25, .own (0, 19) N), (26, .i N), (27, .i done.length)], [(4, .box [.nils]), (19, .row 1 ((done ++ rest).map PV.i)), (24, .map false (atM 0 done))], []⟩ =
      some (.exit 0, ⟨[(0, A), (4, .ref (0, 4) 1 0 0), (6, .own (0, 19) N), (7, .mp (0, 24)), (25, .own (0, 19) N), (26, .i N), (27, .i N), (28, .b false)], [(4, .box [.nils]), (19, .row 1 ((done ++ rest).map PV.i)), (24, .map false (atM 0 (done ++ rest)))], []⟩)
  | [], done, hd, h => by
    simp only [List.append_nil] at h ⊢
    rw [h, loopI_eq]
    simp [r59l0, b59l0, hA, h]
  | x :: rest, done, hd, h => by
    have hlt : (done.length : Int) < N := by simp at h; omega
    have hlt2 : done.length < N := by omega
    have hw : IntKind.i64.wrap ((done.length : Int) + 1) = (done.length : Int) + 1 := wr (by omega)
    have hat : nth ((done ++ x :: rest).map PV.i) done.length = some (.i x) := by rw [List.map_append, List.map_cons]; exact at_D _ _ _ _ (by simp)
    have hx : x ∉ done := fun hm => (List.nodup_append.1 hd).2.2 x hm x List.mem_cons_self rfl
    have hins := ins_at x done 0 done.length (by omega) hx
    have hn := loopPt0 A hA N hN rest (done ++ [x]) (by simpa using hd) (by simpa using h)
    have e1 : done ++ [x] ++ rest = done ++ x :: rest := by simp
    rw [e1] at hn
    have hl2 : ((done ++ x :: rest).map PV.i).length = N := by simpa using h
    generalize hR : (done ++ x :: rest).map PV.i = R at hat hn hl2 ⊢
    rw [loopI_eq]
    simp [r59l0, b59l0, hA, hlt, hlt2, hl2, hw, hat, hins]
    simpa using hn
/-- A value and its block: a slice that may be there already. -/
def OwnS (d k : Nat) (Y : PV) (L : Objs) (xs : List PV) : Prop := (xs = [] ∧ Y = .nils ∧ L = []) ∨ (xs ≠ [] ∧ Y = .own (0, d) xs.length ∧ L = [(d, .row k xs)])
theorem loopPt1 (nl : Bool) (A Y R : PV) (hA : ∀ f n, known f n A = true) (YL : Objs) (xs rs : List PV) (hY : OwnS 69 1 Y YL xs) (row : List Int) (j : Int) : ∀ (rest done : List Mv), (done ++ rest).length ≤ 4294967296 →
    loopI G [0, 4, 7, 10, 13, 37, 38, 39, 47, 48, 49] [4, 10, 19, 24, 43, 62, 69] c59l1 ⟨[(0, A), (4, .ref (0, 4) 1 0 0), (7, .mp (0, 24)), (10, .ref (0, 10) 1 0 0), (13, owP 62 (reT row done)), (37, .own (0, 19) row.length), (38, .i row.length), (39, .i j), (47, encL nl false (done ++ rest)), (48, .i (done ++ rest).length), (49, .i done.length)], (4, .box [.nils]) :: (10, .box [Y]) :: (19, .row 1 (row.map PV.i)) :: (24, .map false (atM 0 row)) :: (owL 62 (reT row done) ++ YL), []⟩ =
      some (.exit 4, ⟨[(0, A), (4, .ref (0, 4) 1 0 0), (7, .mp (0, 24)), (10, .ref (0, 10) 1 0 0), (13, owP 62 (reT row (done ++ rest))), (37, .own (0, 19) row.length), (38, .i row.length), (39, .i j), (47, encL nl false (done ++ rest)), (48, .i (done ++ rest).length), (49, .i (done ++ rest).length), (50, .b false)], (4, .box [.nils]) :: (10, .box [Y]) :: (19, .row 1 (row.map PV.i)) :: (24, .map false (atM 0 row)) :: (owL 62 (reT row (done ++ rest)) ++ YL), []⟩)
  | [], done, h => by
    rw [loopI_eq]
    rcases hY with ⟨rfl, rfl, rfl⟩ | ⟨hxs, rfl, rfl⟩
    · by_cases hd : done = []
      · subst hd
        simp [r59l1, b59l1, hA, reT]
      · have hp : owP 62 (reT row done) = .own (0, 62) done.length := by simp [owP, reT, hd]
        have ho : owL 62 (reT row done) = [(62, .row 2 ((reT row done).map mvP))] := by simp [owL, reT, hd]
        simp [r59l1, b59l1, hA, hp, ho]
    · by_cases hd : done = []
      · subst hd
        simp [r59l1, b59l1, hA, reT]
      · have hp : owP 62 (reT row done) = .own (0, 62) done.length := by simp [owP, reT, hd]
        have ho : owL 62 (reT row done) = [(62, .row 2 ((reT row done).map mvP))] := by simp [owL, reT, hd]
        simp [r59l1, b59l1, hA, hp, ho]
  | x :: rest, done, h => by
    have hlt : (done.length : Int) < (done.length : Int) + ((rest.length : Int) + 1) := by omega
    have hw : IntKind.i64.wrap ((done.length : Int) + 1) = (done.length : Int) + 1 := wr (by simp at h; omega)
    have hdl : done.length ≤ 4294967295 := by simp at h; omega
    have hat := mv_at done x rest
    have hlk := lkp_at x.2 row 0
    have hn := loopPt1 nl A Y R hA YL xs rs hY row j rest (done ++ [x]) (by simpa using h)
    have hen : encL nl false (done ++ x :: rest) = .sl false 2 ((done ++ x :: rest).map mvP) := encL_ne (by simp)
    have e1 : done ++ [x] ++ rest = done ++ x :: rest := by simp
    rw [e1] at hn
    rw [hen] at hn ⊢
    rw [loopI_eq]
    simp only [mvP, List.map_append, List.map_cons] at hat
    rcases hY with ⟨rfl, rfl, rfl⟩ | ⟨hxs, rfl, rfl⟩
    · by_cases hd : done = []
      · subst hd
        simp at hat hn
        simp [r59l1, b59l1, hlt, hat, mvP, unAgg, hw, hdl, reT, wr1, hA, hlk]
        simpa [reT, mvP, Int.add_assoc, atOf] using hn
      · have hp : owP 62 (reT row done) = .own (0, 62) done.length := by simp [owP, reT, hd]
        have ho : owL 62 (reT row done) = [(62, .row 2 ((reT row done).map mvP))] := by simp [owL, reT, hd]
        rw [hp, ho]
        simp [r59l1, b59l1, hlt, hat, mvP, unAgg, hw, hdl, hA, hlk]
        simpa [reT, mvP, Int.add_assoc, atOf] using hn
    · by_cases hd : done = []
      · subst hd
        simp at hat hn
        simp [r59l1, b59l1, hlt, hat, mvP, unAgg, hw, hdl, reT, wr1, hA, hlk]
        simpa [reT, mvP, Int.add_assoc, atOf] using hn
      · have hp : owP 62 (reT row done) = .own (0, 62) done.length := by simp [owP, reT, hd]
        have ho : owL 62 (reT row done) = [(62, .row 2 ((reT row done).map mvP))] := by simp [owL, reT, hd]
        rw [hp, ho]
        simp [r59l1, b59l1, hlt, hat, mvP, unAgg, hw, hdl, hA, hlk]
        simpa [reT, mvP, Int.add_assoc, atOf] using hn
end Go.Am
end
section
set_option maxRecDepth 10000
set_option maxHeartbeats 1000000
set_option linter.unusedSimpArgs false
set_option linter.unusedVariables false
namespace Go.Am
open Go.Proofs Go.Sort Go.Shelf
theorem tidyL_n : tidyL [] = [] := by simp [tidyL, srtM, dd]
theorem tidyL_ne {l : List Mv} (h : l ≠ []) : tidyL l ≠ [] := by
  unfold tidyL
  cases hs : srtM l with
  | nil =>
    have : (srtM l).length = l.length := by simp [srtM]
    rw [hs] at this
    exact absurd (List.length_eq_zero_iff.1 this.symm) h
  | cons x m => simp [dd]
def ptR (g : Gr) (row : List Int) (r : Int) : List Mv := tidyL (reT row (g.getD r.toNat []))
theorem loopPt2 (E : List PV) (g : Gr) (hE : EncR false E g) (hs : SmallG g) (row : List Int) (hrow : InN g.length row) : ∀ (rest done : List Int), row = done ++ rest → ∀ Y YL, OwnS 69 1 Y YL (encGs true true (done.map (ptR g row))) →
    ∃ Y' YL', OwnS 69 1 Y' YL' (encGs true true (row.map (ptR g row))) ∧
    loopI G [0, 4, 7, 10, 37, 38, 39] [4, 10, 19, 24, 69] c59l2 ⟨[(0, .sl false 1 (E)), (4, .ref (0, 4) 1 0 0), (7, .mp (0, 24)), (10, .ref (0, 10) 1 0 0), (37, .own (0, 19) row.length), (38, .i row.length), (39, .i done.length)], (4, .box [.nils]) :: (10, .box [Y]) :: (19, .row 1 (row.map PV.i)) :: (24, .map false (atM 0 row)) :: YL, []⟩ =
      some (.exit 2, ⟨[(0, .sl false 1 (E)), (4, .ref (0, 4) 1 0 0), (7, .mp (0, 24)), (10, .ref (0, 10) 1 0 0), (37, .own (0, 19) row.length), (38, .i row.length), (39, .i row.length), (40, .b false)], (4, .box [.nils]) :: (10, .box [Y']) :: (19, .row 1 (row.map PV.i)) :: (24, .map false (atM 0 row)) :: YL', []⟩)
  | [], done, hd, Y, YL, hY => by
    rw [List.append_nil] at hd
    subst hd
    refine ⟨Y, YL, hY, ?_⟩
    rw [loopI_eq]
    rcases hY with ⟨h1, rfl, rfl⟩ | ⟨h1, rfl, rfl⟩
    · simp [r59l2, b59l2]
    · simp [r59l2, b59l2]
  | x :: rest, done, hd, Y, YL, hY => by
    have hl := hrow.len
    have hgl := hs.1
    have hrl : row.length = done.length + (rest.length + 1) := by rw [hd]; simp
    have hlt : (done.length : Int) < row.length := by omega
    have hlt2 : done.length < row.length := by omega
    have hw : IntKind.i64.wrap ((done.length : Int) + 1) = (done.length : Int) + 1 := wr (by omega)
    have hx := hrow.2 x (by rw [hd]; simp)
    have hat : nth (row.map PV.i) done.length = some (.i x) := by rw [hd, List.map_append, List.map_cons]; exact at_D _ _ _ _ (by simp)
    have hxl : x < g.length := hx.2
    have hxn : x.toNat < g.length := by omega
    obtain ⟨nl, hat2⟩ := hE.2 x.toNat hxn
    have hEl := hE.1
    have hLl : (g.getD x.toNat []).length ≤ 1048576 := hs.2 _ (by rw [List.getD_eq_getElem?_getD, List.getElem?_eq_getElem hxn, Option.getD_some]; exact List.getElem_mem hxn)
    have hpt : ptR g row x = tidyL (reT row (g.getD x.toNat [])) := rfl
    have hYl : (encGs true true (done.map (ptR g row))).length = done.length := by simp
    have hdl : done.length ≤ 4294967295 := by omega
    generalize hL : g.getD x.toNat [] = L at hat2 hLl hpt
    have h0 := loopPt1 nl (.sl false 1 (E)) Y .nils (by intro f n; simp) YL _ [] hY row done.length L [] (by simp; omega)
    simp only [List.nil_append, List.length_nil, show ((0 : Nat) : Int) = 0 from rfl, show reT row [] = [] from rfl, owP_n, owL_n] at h0
    have hnew : encGs true true ((done ++ [x]).map (ptR g row)) = encGs true true (done.map (ptR g row)) ++ [encL true true (ptR g row x)] := by simp [encGs]
    have hnn : encGs true true ((done ++ [x]).map (ptR g row)) ≠ [] := by rw [hnew]; simp
    have hYn : OwnS 69 1 (.own (0, 69) (done.length + 1)) [(69, .row 1 (encGs true true (done.map (ptR g row)) ++ [encL true true (ptR g row x)]))] (encGs true true ((done ++ [x]).map (ptR g row))) := by
      refine .inr ⟨hnn, ?_, ?_⟩
      · rw [hnew]; simp
      · rw [hnew]
    obtain ⟨Y', YL', hY', hn⟩ := loopPt2 E g hE hs row hrow rest (done ++ [x]) (by simpa using hd) _ _ hYn
    refine ⟨Y', YL', hY', ?_⟩
    simp only [List.length_append, List.length_cons, List.length_nil, Int.natCast_add, show ((0 + 1 : Nat) : Int) = 1 from rfl] at hn
    clear hY'
    rw [loopI_eq]
    by_cases hLe : L = []
    · subst hLe
      have hr0 : reT row [] = [] := rfl
      rw [hr0, tidyL_n] at hpt
      rw [hpt] at hn
      have htN := eqTidyN []
      have e1 : encL nl false [] = .nils ∨ encL nl false [] = .sl false 2 [] := by cases nl <;> simp [encL]
      rcases hY with ⟨h1, rfl, rfl⟩ | ⟨h1, rfl, rfl⟩
      · have hd0 : done = [] := by cases done with | nil => rfl | cons a b => simp [encGs] at h1
        subst hd0
        have hlt0 : 0 < row.length := by omega
        rcases e1 with e | e
        all_goals
          rw [e] at hat2 h0
          simp [hr0] at h0 hn hat
          simp [r59l2, b59l2, hlt, hlt2, hw, hat, hat2, hx.1, hxl, hEl, h0, htN, wr1, hlt0]
          simpa [encGs] using hn
      · rcases e1 with e | e
        all_goals
          rw [e] at hat2 h0
          simp [hr0] at h0 hn
          simp [r59l2, b59l2, hlt, hlt2, hw, hat, hat2, hx.1, hxl, hEl, h0, htN, hdl]
          simpa [encGs] using hn
    · have hen : encL nl false L = .sl false 2 (L.map mvP) := encL_ne hLe
      have hp : owP 62 (reT row L) = .own (0, 62) L.length := by simp [owP, reT, hLe]
      have ho : owL 62 (reT row L) = [(62, .row 2 ((reT row L).map mvP))] := by simp [owL, reT, hLe]
      have hlt3 : encL true true (ptR g row x) = .sl true 2 ((tidyL (reT row L)).map mvP) := by rw [hpt]; exact encL_ne (tidyL_ne (by simp [reT, hLe]))
      rw [hlt3] at hn
      rw [hen] at hat2 h0
      rw [hp, ho] at h0
      rcases hY with ⟨h1, rfl, rfl⟩ | ⟨h1, rfl, rfl⟩
      · have hd0 : done = [] := by cases done with | nil => rfl | cons a b => simp [encGs] at h1
        subst hd0
        have hlt0 : 0 < row.length := by omega
        have ht := eqTidy (0, 62) (reT row L) [[(4, .box [.nils]), (10, .box [.nils]), (19, .row 1 (row.map PV.i)), (24, .map false (atM 0 row)), (62, .row 2 ((reT row L).map mvP))]] (by simp) (by simp [getS, getO]) (by simp; omega)
        simp [setS, setO] at ht
        simp at h0 hn hat
        rcases ht with ⟨hts, ht⟩ | ht
        · have hTl : (tidyL (reT row L)).length = L.length := by rw [hts]; simp [srtM]
          simp [r59l2, b59l2, hlt, hlt2, hw, hat, hat2, hx.1, hxl, hEl, h0, ht, wr1, hlt0, hTl]
          simpa [encGs] using hn
        · simp [r59l2, b59l2, hlt, hlt2, hw, hat, hat2, hx.1, hxl, hEl, h0, ht, wr1, hlt0]
          simpa [encGs] using hn
      · have ht := eqTidy (0, 62) (reT row L) [[(4, .box [.nils]), (10, .box [.own (0, 69) (encGs true true (done.map (ptR g row))).length]), (19, .row 1 (row.map PV.i)), (24, .map false (atM 0 row)), (62, .row 2 ((reT row L).map mvP)), (69, .row 1 (encGs true true (done.map (ptR g row))))]] (by simp) (by simp [getS, getO]) (by simp; omega)
        simp [setS, setO] at ht
        simp at h0 hn
        rcases ht with ⟨hts, ht⟩ | ht
        · have hTl : (tidyL (reT row L)).length = L.length := by rw [hts]; simp [srtM]
          simp [r59l2, b59l2, hlt, hlt2, hw, hat, hat2, hx.1, hxl, hEl, h0, ht, hdl, hTl]
          simpa [encGs] using hn
        · simp [r59l2, b59l2, hlt, hlt2, hw, hat, hat2, hx.1, hxl, hEl, h0, ht, hdl]
          simpa [encGs] using hn
theorem bfs_len (g : Gr) : ∀ (f i : Nat) (row : List Int), row.length ≤ (bfs g f i row).length
  | 0, _, row => Nat.le_refl _
  | f + 1, i, row => by
    simp only [bfs]
    split
    · exact Nat.le_trans (addNew_len _ row) (bfs_len g f (i + 1) _)
    · exact Nat.le_refl _
/-- What partOf and the specification's l12Made make. -/
theorem eqPartOf (E : List PV) (g : Gr) (hE : EncR false E g) (hg : OkTo g) (hs : SmallG g) (h : 0 < g.length) :
    callI G 59 [.sl false 1 (E), .i 0] [] = some (.tup [encG true true (made g).1, .b (made g).2], []) := by
  have h1 := eqReached E g hE hg hs 0 (by omega)
  have hr : InN g.length (reach g 0) := InN.bfs hg _ _ (InN.one (by omega))
  have hl := hr.len
  have hgl := hs.1
  have hbl := bfs_len g (g.length + 1) 0 [0]
  unfold made
  have hpg : partG g 0 = (reach g 0).map (ptR g (reach g 0)) := rfl
  rw [hpg]
  have hrl : 1 ≤ (reach g 0).length := by unfold reach; simpa using hbl
  generalize hR : reach g 0 = row at h1 hr hl
  rw [hR] at hrl
  have hne : row ≠ [] := by intro e; rw [e] at hrl; cases hrl
  rw [callI_eq]
  by_cases hc : row.length ≤ 60
  · have hc2 : ¬ (60 : Int) < row.length := by omega
    have l0 := loopPt0 (.sl false 1 (E)) (by intro f n; simp) row.length (by omega) row [] hr.1 rfl
    obtain ⟨Y, YL, hY, l2⟩ := loopPt2 E g hE hs row hr row [] rfl .nils [] (.inl ⟨rfl, rfl, rfl⟩)
    simp only [List.nil_append, List.length_nil, show ((0 : Nat) : Int) = 0 from rfl, show atM 0 [] = [] from rfl] at l0 l2
    have hne2 : encGs true true (row.map (ptR g row)) ≠ [] := by simp [encGs, hne]
    rcases hY with ⟨q, _⟩ | ⟨_, rfl, rfl⟩
    · exact absurd q hne2
    · have he : encG true true (row.map (ptR g row)) = .agg [.sl true 1 (encGs true true (row.map (ptR g row)))] := by simp [encG, encM', hne]
      simp only [hc, if_true, he]
      simp [body1_eq _ _ (gp 59) g59, c59, a59, h1, hc, hc2, l0, l2]
  · have hc2 : (60 : Int) < row.length := by omega
    simp [body1_eq _ _ (gp 59) g59, c59, a59, h1, hc, hc2]
end Go.Am
end
section
set_option maxRecDepth 10000
set_option maxHeartbeats 1000000
set_option linter.unusedSimpArgs false
set_option linter.unusedVariables false
namespace Go.Am
open Go.Proofs Go.Sort Go.Shelf
theorem rowOk_mem {n : Nat} : ∀ {l : List Mv} {p : Option Mv}, rowOk n p l = true → ∀ m ∈ l, mvOk n m = true
  | [], _, _, m, hm => by cases hm
  | x :: l, p, h, m, hm => by
    simp only [rowOk, Bool.and_eq_true] at h
    rcases List.mem_cons.1 hm with rfl | hm
    · exact h.1
    · exact rowOk_mem h.2.2 m hm
theorem grOk_to {g : Gr} (h : grOk g = true) : OkTo g ∧ 1 ≤ g.length ∧ g.length ≤ 60 := by
  simp only [grOk, Bool.and_eq_true, decide_eq_true_eq, List.all_eq_true] at h
  refine ⟨fun l hl m hm => ?_, h.1, h.2.1⟩
  have := rowOk_mem (h.2.2 l hl) m hm
  simp only [mvOk, Bool.and_eq_true, decide_eq_true_eq] at this
  exact this.2
theorem noShares_mv : ∀ l : List Mv, noShares (l.map mvP) = true
  | [] => rfl
  | x :: l => by simp [noShares, noShare, mvP]; exact noShares_mv l
theorem noShare_encL (nl : Bool) (l : List Mv) : noShare (encL nl true l) = true := by
  rcases encL_two nl true l with ⟨e, _⟩ | e <;> simp [e, noShare, noShares_mv]
theorem noShares_encGs (nl : Bool) : ∀ g : Gr, noShares (encGs nl true g) = true
  | [] => rfl
  | x :: g => by
    have := noShares_encGs nl g
    simp only [encGs, List.map_cons, noShares] at this ⊢
    simp [this, noShare_encL]
theorem encM_two (nl u : Bool) (g : Gr) : (encM' nl u g = .nils ∧ g = []) ∨ encM' nl u g = .sl u 1 (encGs nl u g) := by
  unfold encM'
  split
  · rename_i h; simp only [Bool.and_eq_true, List.isEmpty_iff] at h; exact .inl ⟨rfl, h.2⟩
  · exact .inr rfl
/-- A move ahead of a graph. -/
def actG (a : Int) (g : Gr) : Gr := [(a, 1)] :: g.map (shL 1)
theorem actG_to {a : Int} {g : Gr} (h : OkTo g) (h1 : 1 ≤ g.length) : OkTo (actG a g) := by
  intro l hl m hm
  have hn : (actG a g).length = g.length + 1 := by simp [actG]
  rw [hn]
  simp only [actG, List.mem_cons, List.mem_map] at hl
  rcases hl with rfl | ⟨r, hr, rfl⟩
  · rw [List.mem_singleton] at hm; subst hm; constructor
    · simp
    · show (1 : Int) < _; omega
  · simp only [shL, List.mem_map] at hm
    obtain ⟨y, hy, rfl⟩ := hm
    have := h r hr y hy
    simp only; omega
theorem actG_small {a : Int} {g : Gr} (h : SmallG g) (h1 : g.length ≤ 60) : SmallG (actG a g) := by
  refine ⟨by simp [actG]; omega, fun l hl => ?_⟩
  simp only [actG, List.mem_cons, List.mem_map] at hl
  rcases hl with rfl | ⟨r, hr, rfl⟩
  · simp
  · simpa using h.2 r hr
def graphAct (a : Int) (g : Gr) : Gr × Bool := if actOk a && grOk g then made (actG a g) else ([], false)
/-! impl.GraphAct -/
theorem loopGa0 (a : Int) (g : Gr) (hg : OkTo g) (h60 : g.length ≤ 60) (hs : SmallG g) : ∀ (rest done : Gr), g = done ++ rest →
    loopI G [4, 6, 23, 24, 25] [4, 21, 33, 36] c34l0 ⟨[(4, .ref (0, 4) 1 0 0), (6, .own (0, 21) (done.length + 1)), (23, .sl false 1 (encGs false false g)), (24, .i g.length), (25, .i done.length)], [(4, .box [.nils]), (21, .row 1 (encGs true true (actG a done)))], []⟩ =
      some (.exit 0, ⟨[(4, .ref (0, 4) 1 0 0), (6, .own (0, 21) (g.length + 1)), (23, .sl false 1 (encGs false false g)), (24, .i g.length), (25, .i g.length), (26, .b false)], [(4, .box [.nils]), (21, .row 1 (encGs true true (actG a g)))], []⟩)
  | [], done, hd => by
    rw [List.append_nil] at hd
    subst hd
    rw [loopI_eq]
    simp [r34l0, b34l0]
  | x :: rest, done, hd => by
    have hrl : g.length = done.length + (rest.length + 1) := by rw [hd]; simp
    have hlt : (done.length : Int) < g.length := by omega
    have hlt2 : done.length < g.length := by omega
    have hw : IntKind.i64.wrap ((done.length : Int) + 1) = (done.length : Int) + 1 := wr (by omega)
    have hdl : done.length + 1 ≤ 4294967295 := by omega
    have hdl2 : done.length ≤ 4294967294 := by omega
    have hat : nth (encGs false false g) done.length = some (.sl false 2 (x.map mvP)) := by rw [hd]; simpa using gr_at false false done x rest
    have hx : x ∈ g := by rw [hd]; simp
    have hsh := eqShift 1 (by omega) x (fun m hm => by have := hg x hx m hm; omega) (by have := hs.2 x hx; omega)
    have hn := loopGa0 a g hg h60 hs rest (done ++ [x]) (by simpa using hd)
    have hal : (encGs true true (actG a done)).length = done.length + 1 := by simp [actG]
    have ha2 : encGs true true (actG a (done ++ [x])) = encGs true true (actG a done) ++ [encL true true (shL 1 x)] := by simp [actG, encGs]
    rw [ha2] at hn
    simp only [List.length_append, List.length_cons, List.length_nil, Int.natCast_add, show ((0 + 1 : Nat) : Int) = 1 from rfl] at hn
    generalize encGs true true (actG a done) = E at hal hn ⊢
    rw [loopI_eq]
    rcases encL_two true true (shL 1 x) with ⟨e, _⟩ | e
    · rw [e] at hsh hn
      simp [r34l0, b34l0, hlt, hlt2, hw, hat, hsh, hal, hdl, hdl2]
      simpa using hn
    · rw [e] at hsh hn
      simp [r34l0, b34l0, hlt, hlt2, hw, hat, hsh, hal, hdl, hdl2]
      simpa using hn
theorem eqGraphActI (a : Int) (g : Gr) (hs : SmallG g) (hf : FitG g) : callI G 34 [.i a, encG false false g] [] = some (.tup [encG true true (graphAct a g).1, .b (graphAct a g).2], []) := by
  have h1 := eqActI a
  have h2 := eqOkI g hf
  simp only [encG, encM_f] at h2 ⊢
  rw [callI_eq]
  by_cases c1 : actOk a = true
  · by_cases c2 : grOk g = true
    · obtain ⟨q1, q2, q3⟩ := grOk_to c2
      have l0 := loopGa0 a g q1 q3 hs g [] rfl
      have hal : (encGs true true (actG a g)).length = g.length + 1 := by simp [actG]
      have hp := eqPartOf _ (actG a g) (encR_G true false _) (actG_to q1 q2) (actG_small hs q3) (by simp [actG])
      have hga : graphAct a g = made (actG a g) := by simp [graphAct, c1, c2]
      rw [hga]
      generalize hm : made (actG a g) = m at hp ⊢
      obtain ⟨mg, mb⟩ := m
      simp only [encG] at hp ⊢
      have e0 : encGs true true (actG a []) = [.sl true 2 [mvP (a, 1)]] := by simp [encGs, actG]
      rw [e0] at l0
      simp only [List.length_nil, Nat.zero_add, show ((0 : Nat) : Int) = 0 from rfl, mvP] at l0
      have efl : fals (encGs true true (actG a g)) = encGs true false (actG a g) := fals_encGs _ _ _
      have hns := noShares_encGs true mg
      rcases encM_two true true mg with ⟨e, _⟩ | e
      · rw [e] at hp ⊢
        simp [body1_eq _ _ (gp 34) g34, c34, a34, h1, h2, c1, c2, l0, hal, efl, hp, hns]
      · rw [e] at hp ⊢
        simp [body1_eq _ _ (gp 34) g34, c34, a34, h1, h2, c1, c2, l0, hal, efl, hp, hns]
    · have c2 : grOk g = false := by simpa using c2
      have hga : graphAct a g = ([], false) := by simp [graphAct, c1, c2]
      rw [hga]
      simp [body1_eq _ _ (gp 34) g34, c34, a34, h1, h2, c1, c2]
  · have c1 : actOk a = false := by simpa using c1
    have hga : graphAct a g = ([], false) := by simp [graphAct, c1]
    rw [hga]
    simp [body1_eq _ _ (gp 34) g34, c34, a34, h1, c1]
end Go.Am
end
section
set_option maxRecDepth 10000
set_option maxHeartbeats 1000000
set_option linter.unusedSimpArgs false
set_option linter.unusedVariables false
namespace Go.Am
open Go.Proofs Go.Sort Go.Shelf
theorem loopBo0 (E : List PV) (B : PV) (hB : ∀ f n, known f n B = true) (a : Gr) (hE : EncR false E a) (h60 : a.length ≤ 100000) (hs : SmallG a) : ∀ (rest done : Gr), a = done ++ rest → ∀ Y YL, OwnS 29 1 Y YL (encGs false false done) →
    ∃ Y' YL', OwnS 29 1 Y' YL' (encGs false false a) ∧
    loopI G [2, 3, 4, 5, 6] [2, 3, 4, 5, 29, 80] c77l0 ⟨[(2, .ref (0, 2) 1 0 0), (3, .ref (0, 3) 1 0 0), (4, .ref (0, 4) 1 0 0), (5, .ref (0, 5) 1 0 0), (6, .i done.length)], (2, .box [.sl false 1 (E)]) :: (3, .box [B]) :: (4, .box [.nils]) :: (5, .box [Y]) :: YL, []⟩ =
      some (.exit 0, ⟨[(2, .ref (0, 2) 1 0 0), (3, .ref (0, 3) 1 0 0), (4, .ref (0, 4) 1 0 0), (5, .ref (0, 5) 1 0 0), (6, .i a.length), (16, .b false)], (2, .box [.sl false 1 (E)]) :: (3, .box [B]) :: (4, .box [.nils]) :: (5, .box [Y']) :: YL', []⟩)
  | [], done, hd, Y, YL, hY => by
    rw [List.append_nil] at hd
    subst hd
    refine ⟨Y, YL, hY, ?_⟩
    rw [loopI_eq]
    rcases hY with ⟨h1, rfl, rfl⟩ | ⟨h1, rfl, rfl⟩
    · simp [r77l0, b77l0, hB, hE.1]
    · simp [r77l0, b77l0, hB, hE.1]
  | x :: rest, done, hd, Y, YL, hY => by
    have hrl : a.length = done.length + (rest.length + 1) := by rw [hd]; simp
    have hlt : (done.length : Int) < a.length := by omega
    have hlt2 : done.length < a.length := by omega
    have hw : IntKind.i64.wrap ((done.length : Int) + 1) = (done.length : Int) + 1 := wr (by omega)
    have hdl : done.length ≤ 4294967295 := by omega
    have hEl := hE.1
    have hgd : a.getD done.length [] = x := by rw [hd]; simp
    obtain ⟨nl, hat⟩ := hE.2 done.length hlt2
    rw [hgd] at hat
    have hx : x.length ≤ 1048576 := hs.2 x (by rw [hd]; simp)
    have hx2 : x.length ≤ 4294967296 := by omega
    have hnew : encGs false false (done ++ [x]) = encGs false false done ++ [encL false false x] := by simp [encGs]
    have hYn : OwnS 29 1 (.own (0, 29) (done.length + 1)) [(29, .row 1 (encGs false false done ++ [encL false false x]))] (encGs false false (done ++ [x])) := by
      refine .inr ⟨by rw [hnew]; simp, ?_, ?_⟩
      · rw [hnew]; simp
      · rw [hnew]
    obtain ⟨Y', YL', hY', hn⟩ := loopBo0 E B hB a hE h60 hs rest (done ++ [x]) (by simpa using hd) _ _ hYn
    refine ⟨Y', YL', hY', ?_⟩
    clear hY'
    simp only [List.length_append, List.length_cons, List.length_nil, Int.natCast_add, show ((0 + 1 : Nat) : Int) = 1 from rfl] at hn
    have e1 : x = [] → encL nl false x = .nils ∨ encL nl false x = .sl false 2 [] := by rintro rfl; cases nl <;> simp [encL]
    rw [loopI_eq]
    by_cases hxe : x = []
    · have hnx : encL false false x = .sl false 2 [] := by rw [hxe]; rfl
      rw [hnx] at hn
      rcases hY with ⟨h1, rfl, rfl⟩ | ⟨h1, rfl, rfl⟩
      · have hd0 : done = [] := by cases done with | nil => rfl | cons p q => simp [encGs] at h1
        subst hd0
        have hlt0 : 0 < a.length := by omega
        rcases e1 hxe with e | e
        all_goals
          rw [e] at hat
          simp at hn hat
          simp [r77l0, b77l0, hB, hEl, hlt, hlt2, hlt0, hw, hat, wr1]
          simpa [encGs] using hn
      · rcases e1 hxe with e | e
        all_goals
          rw [e] at hat
          simp [r77l0, b77l0, hB, hEl, hlt, hlt2, hw, hat, hdl]
          simpa [encGs] using hn
    · have hnx : encL false false x = .sl false 2 (x.map mvP) := encL_ne hxe
      have hnx2 : encL nl false x = .sl false 2 (x.map mvP) := encL_ne hxe
      rw [hnx] at hn
      rw [hnx2] at hat
      rcases hY with ⟨h1, rfl, rfl⟩ | ⟨h1, rfl, rfl⟩
      · have hd0 : done = [] := by cases done with | nil => rfl | cons p q => simp [encGs] at h1
        subst hd0
        have hlt0 : 0 < a.length := by omega
        simp at hn hat
        simp [r77l0, b77l0, hB, hEl, hlt, hlt2, hlt0, hw, hat, wr1, hxe, hx2, fals_mvP]
        simpa [encGs] using hn
      · simp [r77l0, b77l0, hB, hEl, hlt, hlt2, hw, hat, hdl, hxe, hx2, fals_mvP]
        simpa [encGs] using hn
end Go.Am
end
section
set_option maxRecDepth 10000
set_option maxHeartbeats 1000000
set_option linter.unusedSimpArgs false
set_option linter.unusedVariables false
namespace Go.Am
open Go.Proofs Go.Sort Go.Shelf
theorem loopBo1 (E X : List PV) (b : Gr) (hE : EncR false E b) (k : Int) (hk : 0 ≤ k ∧ k ≤ 1000) (j : Nat) (hj : j < b.length) (hjb : j ≤ 100000) (row : List Mv) (hrow : b.getD j [] = row) (hr : ∀ x ∈ row, 0 ≤ x.2 ∧ x.2 ≤ 1000) (hrl : row.length ≤ 1048576) : ∀ (rest done : List Mv), row = done ++ rest →
    loopI G [3, 4, 5, 7, 8, 9, 10] [3, 4, 5, 29, 41, 75, 80] c77l1 ⟨[(3, .ref (0, 3) 1 0 0), (4, .ref (0, 4) 1 0 0), (5, .ref (0, 5) 1 0 0), (7, .i k), (8, .i j), (9, owP 75 (shL k done)), (10, .i done.length)], (3, .box [.sl false 1 E]) :: (4, .box [.nils]) :: (5, .box [.own (0, 29) X.length]) :: (29, .row 1 X) :: owL 75 (shL k done), []⟩ =
      some (.exit 4, ⟨[(3, .ref (0, 3) 1 0 0), (4, .ref (0, 4) 1 0 0), (5, .ref (0, 5) 1 0 0), (7, .i k), (8, .i j), (9, owP 75 (shL k row)), (10, .i row.length), (49, .b false)], (3, .box [.sl false 1 E]) :: (4, .box [.nils]) :: (5, .box [.own (0, 29) X.length]) :: (29, .row 1 X) :: owL 75 (shL k row), []⟩)
  | [], done, hd => by
    rw [List.append_nil] at hd
    subst hd
    have hEl := hE.1
    obtain ⟨nl, hat⟩ := hE.2 j hj
    rw [hrow] at hat
    have hji : (j : Int) < b.length := by omega
    rw [loopI_eq]
    rcases encL_two nl false row with ⟨e, e2⟩ | e
    · rw [e] at hat
      subst e2
      simp [r77l1, b77l1, hEl, hj, hji, hat, shL]
    · rw [e] at hat
      by_cases hd : row = []
      · rw [hd] at hat ⊢
        simp at hat
        simp [r77l1, b77l1, hEl, hj, hji, hat, shL]
      · have hp : owP 75 (shL k row) = .own (0, 75) row.length := by simp [owP, shL, hd]
        have ho : owL 75 (shL k row) = [(75, .row 2 ((shL k row).map mvP))] := by simp [owL, shL, hd]
        simp [r77l1, b77l1, hEl, hj, hji, hat, hp, ho]
  | x :: rest, done, hd => by
    have hEl := hE.1
    obtain ⟨nl, hat⟩ := hE.2 j hj
    rw [hrow] at hat
    have hji : (j : Int) < b.length := by omega
    have hx := hr x (by rw [hd]; simp)
    have hen : encL nl false row = .sl false 2 (row.map mvP) := encL_ne (by rw [hd]; simp)
    rw [hen] at hat
    have hrl2 : row.length = done.length + (rest.length + 1) := by rw [hd]; simp
    have hlt : (done.length : Int) < row.length := by omega
    have hlt2 : done.length < row.length := by omega
    have hw : IntKind.i64.wrap ((done.length : Int) + 1) = (done.length : Int) + 1 := wr (by omega)
    have hw2 : IntKind.i64.wrap (x.2 + k) = x.2 + k := wr (by omega)
    have hdl : done.length ≤ 4294967295 := by omega
    have hat2 : nth (row.map mvP) done.length = some (mvP x) := by rw [hd]; exact mv_at done x rest
    have hn := loopBo1 E X b hE k hk j hj hjb row hrow hr hrl rest (done ++ [x]) (by simpa using hd)
    have hml : (row.map mvP).length = row.length := by simp
    generalize hM : row.map mvP = M at hat hat2 hml
    rw [loopI_eq]
    simp only [mvP] at hat2
    by_cases hdn : done = []
    · subst hdn
      simp at hat2 hn hlt
      simp [r77l1, b77l1, hEl, hj, hji, hlt, hlt2, hat, hat2, hml, mvP, unAgg, hw, hw2, hdl, shL, wr1]
      simpa [shL, mvP, Int.add_assoc] using hn
    · have hp : owP 75 (shL k done) = .own (0, 75) done.length := by simp [owP, shL, hdn]
      have ho : owL 75 (shL k done) = [(75, .row 2 ((shL k done).map mvP))] := by simp [owL, shL, hdn]
      rw [hp, ho]
      simp [r77l1, b77l1, hEl, hj, hji, hlt, hlt2, hat, hat2, hml, mvP, unAgg, hw, hw2, hdl]
      simpa [shL, mvP, Int.add_assoc] using hn
theorem loopBo2 (E XA : List PV) (hXA : XA.length ≤ 100000) (b : Gr) (hE : EncR false E b) (hb : b.length ≤ 100000) (hs : SmallG b) (hto : ∀ l ∈ b, ∀ m ∈ l, 0 ≤ m.2 ∧ m.2 ≤ 1000) (k : Int) (hk : 0 ≤ k ∧ k ≤ 1000) : ∀ (rest done : Gr), b = done ++ rest →
    loopI G [3, 4, 5, 7, 8] [3, 4, 5, 29, 80] c77l2 ⟨[(3, .ref (0, 3) 1 0 0), (4, .ref (0, 4) 1 0 0), (5, .ref (0, 5) 1 0 0), (7, .i k), (8, .i done.length)], [(3, .box [.sl false 1 E]), (4, .box [.nils]), (5, .box [.own (0, 29) (XA ++ encGs true false (done.map (shL k))).length]), (29, .row 1 (XA ++ encGs true false (done.map (shL k))))], []⟩ =
      some (.exit 2, ⟨[(3, .ref (0, 3) 1 0 0), (4, .ref (0, 4) 1 0 0), (5, .ref (0, 5) 1 0 0), (7, .i k), (8, .i b.length), (38, .b false)], [(3, .box [.sl false 1 E]), (4, .box [.nils]), (5, .box [.own (0, 29) (XA ++ encGs true false (b.map (shL k))).length]), (29, .row 1 (XA ++ encGs true false (b.map (shL k))))], []⟩)
  | [], done, hd => by
    rw [List.append_nil] at hd
    subst hd
    rw [loopI_eq]
    simp [r77l2, b77l2, hE.1]
  | x :: rest, done, hd => by
    have hEl := hE.1
    have hrl : b.length = done.length + (rest.length + 1) := by rw [hd]; simp
    have hlt : (done.length : Int) < b.length := by omega
    have hlt2 : done.length < b.length := by omega
    have hw : IntKind.i64.wrap ((done.length : Int) + 1) = (done.length : Int) + 1 := wr (by omega)
    have hx : x ∈ b := by rw [hd]; simp
    have hgd : b.getD done.length [] = x := by rw [hd]; simp
    have hXl : (XA ++ encGs true false (done.map (shL k))).length ≤ 4294967295 := by simp; omega
    have hn := loopBo2 E XA hXA b hE hb hs hto k hk rest (done ++ [x]) (by simpa using hd)
    have hnew : XA ++ encGs true false ((done ++ [x]).map (shL k)) = (XA ++ encGs true false (done.map (shL k))) ++ [encL true false (shL k x)] := by simp [encGs]
    rw [hnew] at hn
    generalize hXX : XA ++ encGs true false (done.map (shL k)) = X at hn hXl ⊢
    have h1 := loopBo1 E X b hE k hk done.length hlt2 (by omega) x hgd (fun m hm => hto x hx m hm) (hs.2 x hx) x [] rfl
    simp only [List.length_nil, show ((0 : Nat) : Int) = 0 from rfl, show shL k [] = [] from rfl, owP_n, owL_n] at h1
    simp only [List.length_append, List.length_cons, List.length_nil, Int.natCast_add, show ((0 + 1 : Nat) : Int) = 1 from rfl, Nat.zero_add] at hn
    rw [loopI_eq]
    by_cases hxe : x = []
    · subst hxe
      simp [shL] at h1 hn
      simp [r77l2, b77l2, hEl, hlt, hlt2, hw, h1, hXl, fals_mvP]
      simpa using hn
    · have hp : owP 75 (shL k x) = .own (0, 75) x.length := by simp [owP, shL, hxe]
      have ho : owL 75 (shL k x) = [(75, .row 2 ((shL k x).map mvP))] := by simp [owL, shL, hxe]
      have he : encL true false (shL k x) = .sl false 2 ((shL k x).map mvP) := encL_ne (by simp [shL, hxe])
      rw [he] at hn
      rw [hp, ho] at h1
      simp [r77l2, b77l2, hEl, hlt, hlt2, hw, h1, hXl, fals_mvP]
      simpa using hn
theorem eqBoth (EA EB : List PV) (a b : Gr) (hA : EncR false EA a) (hB : EncR false EB b) (ha : a ≠ []) (ha2 : a.length ≤ 1000) (hb2 : b.length ≤ 100000) (hsA : SmallG a) (hsB : SmallG b) (hto : ∀ l ∈ b, ∀ m ∈ l, 0 ≤ m.2 ∧ m.2 ≤ 1000) :
    callI G 77 [.agg [.sl false 1 EA], .agg [.sl false 1 EB]] [] = some (.agg [.sl true 1 (encGs false false a ++ encGs true false (b.map (shL a.length)))], []) := by
  obtain ⟨Y, YL, hY, l0⟩ := loopBo0 EA (.sl false 1 EB) (by intro f n; simp) a hA (by omega) hsA a [] rfl .nils [] (.inl ⟨rfl, rfl, rfl⟩)
  have l2 := loopBo2 EB (encGs false false a) (by simp; omega) b hB hb2 hsB hto a.length (by omega) b [] rfl
  have hne : encGs false false a ≠ [] := by simp [encGs, ha]
  rcases hY with ⟨q, _⟩ | ⟨_, rfl, rfl⟩
  · exact absurd q hne
  · have e0 : encGs true false [] = [] := rfl
    simp only [List.length_nil, show ((0 : Nat) : Int) = 0 from rfl, List.map_nil, e0, List.append_nil, List.length_append, encGs_len, List.length_map] at l0 l2
    rw [callI_eq]
    simp [body1_eq _ _ (gp 77) g77, c77, a77, l0, l2, hA.1]
end Go.Am
end
section
set_option maxRecDepth 10000
set_option maxHeartbeats 1000000
set_option linter.unusedSimpArgs false
set_option linter.unusedVariables false
namespace Go.Am
open Go.Proofs Go.Sort Go.Shelf
/-! spec.l3From: what is seen is a slice. -/
def seenS (n : Nat) (row : List Int) : List PV := (List.range n).map fun k : Nat => PV.b (decide ((k : Int) ∈ row))
@[simp] theorem seenS_len (n : Nat) (row : List Int) : (seenS n row).length = n := by simp [seenS]
theorem seenS_nth {n : Nat} {row : List Int} {x : Int} (h : 0 ≤ x ∧ x < n) : nth (seenS n row) x.toNat = some (.b (decide (x ∈ row))) := by
  unfold nth seenS
  have h1 : x.toNat < n := by omega
  have h2 : ((x.toNat : Nat) : Int) = x := by omega
  simp [h1, h2]
theorem seenS_set {n : Nat} {row : List Int} {x : Int} (h : 0 ≤ x ∧ x < n) : (seenS n row).set x.toNat (.b true) = seenS n (row ++ [x]) := by
  apply List.ext_getElem (by simp)
  intro i h1 h2
  simp only [seenS_len, List.length_set] at h1 h2
  simp only [seenS, List.getElem_set, List.getElem_map, List.getElem_range, List.mem_append, List.mem_singleton]
  by_cases c : x.toNat = i
  · have : (i : Int) = x := by omega
    simp [c, this]
  · have : ¬ (i : Int) = x := by omega
    simp [c, this]
theorem seenS_n (n : Nat) : List.replicate n (PV.b false) = seenS n [] := by
  apply List.ext_getElem (by simp)
  intro i h1 h2
  simp [seenS]
theorem loopFr0 (E : List PV) (j : Int) (n : Nat) : ∀ (rest done : List Mv) (row : List Int), (∀ m ∈ rest, 0 ≤ m.2 ∧ m.2 < n) → (done ++ rest).length ≤ 4294967296 → row.length + rest.length ≤ 4294967296 → ∀ nl,
    loopI G [2, 5, 6, 7, 8, 9] [2, 11, 15, 62] c104l0 ⟨[(2, .ref (0, 2) 1 0 0), (5, .own (0, 11) row.length), (6, .own (0, 15) n), (7, .i j), (8, encL nl false (done ++ rest)), (9, .i done.length)], [(2, .box [PV.sl false 1 E]), (11, .row 1 (row.map PV.i)), (15, .row 1 (seenS n row))], []⟩ =
      some (.exit 2, ⟨[(2, .ref (0, 2) 1 0 0), (5, .own (0, 11) (addNew row rest).length), (6, .own (0, 15) n), (7, .i j), (8, encL nl false (done ++ rest)), (9, .i (done ++ rest).length), (36, .b false)], [(2, .box [PV.sl false 1 E]), (11, .row 1 ((addNew row rest).map PV.i)), (15, .row 1 (seenS n (addNew row rest)))], []⟩)
  | [], done, row, hm, h, hr, nl => by
    rw [List.append_nil] at h ⊢
    rw [loopI_eq]
    rcases encL_two nl false done with ⟨e, e2⟩ | e
    · rw [e]; subst e2
      simp [r104l0, b104l0, addNew]
    · rw [e]
      simp [r104l0, b104l0, addNew]
  | x :: rest, done, row, hm, h, hr, nl => by
    have hx := hm x List.mem_cons_self
    have hlt : (done.length : Int) < (done.length : Int) + ((rest.length : Int) + 1) := by omega
    have hw : IntKind.i64.wrap ((done.length : Int) + 1) = (done.length : Int) + 1 := wr (by simp at h; omega)
    have hrl : row.length ≤ 4294967295 := by simp at hr; omega
    have hat := mv_at done x rest
    have hsn := seenS_nth (row := row) hx
    have hss := seenS_set (row := row) hx
    have hen : encL nl false (done ++ x :: rest) = .sl false 2 ((done ++ x :: rest).map mvP) := encL_ne (by simp)
    have hn := fun row' hr' => loopFr0 E j n rest (done ++ [x]) row' (fun y hy => hm y (List.mem_cons_of_mem _ hy)) (by simpa using h) hr' nl
    have e1 : done ++ [x] ++ rest = done ++ x :: rest := by simp
    simp only [e1] at hn
    rw [hen] at hn ⊢
    rw [loopI_eq]
    simp only [mvP, List.map_append, List.map_cons] at hat
    by_cases hmm : x.2 ∈ row
    · have hn := hn row (by simp at hr; omega)
      simp only [hmm, decide_true] at hsn
      simp [r104l0, b104l0, hlt, hat, mvP, unAgg, hw, hrl, hsn, hx.1, hx.2, hmm, addNew]
      simpa [mvP, Int.add_assoc] using hn
    · have hn := hn (row ++ [x.2]) (by simp at hr ⊢; omega)
      simp only [hmm, decide_false] at hsn
      simp [r104l0, b104l0, hlt, hat, mvP, unAgg, hw, hrl, hsn, hss, hx.1, hx.2, hmm, addNew]
      simpa [mvP, Int.add_assoc] using hn
theorem loopFr1 (E : List PV) (g : Gr) (hE : EncR false E g) (hg : OkTo g) (hs : SmallG g) : ∀ (f i : Nat) (row : List Int), InN g.length row → i ≤ row.length → g.length + 1 ≤ i + f →
    ∀ x8 x9, loopI G [2, 5, 6, 7] [2, 11, 15, 62] c104l1 ⟨(2, .ref (0, 2) 1 0 0) :: (5, .own (0, 11) row.length) :: (6, .own (0, 15) g.length) :: (7, .i i) :: (x8 ++ x9), [(2, .box [PV.sl false 1 E]), (11, .row 1 (row.map PV.i)), (15, .row 1 (seenS g.length row))], []⟩ =
      some (.exit 0, ⟨[(2, .ref (0, 2) 1 0 0), (5, .own (0, 11) (bfs g f i row).length), (6, .own (0, 15) g.length), (7, .i (bfs g f i row).length), (22, .b false)], [(2, .box [PV.sl false 1 E]), (11, .row 1 ((bfs g f i row).map PV.i)), (15, .row 1 (seenS g.length (bfs g f i row)))], []⟩)
  | 0, i, row, hr, hi, hf, x8, x9 => by have := hr.len; omega
  | f + 1, i, row, hr, hi, hf, x8, x9 => by
    have hl := hr.len
    have hgl := hs.1
    by_cases h : i < row.length
    · have hlt : (i : Int) < row.length := by omega
      have hx := hr.2 _ (getD_mem h)
      have hat := int_nth row i h
      generalize hxe : row.getD i 0 = x at hx hat
      have hxl : x < g.length := hx.2
      have hxn : x.toNat < g.length := by omega
      obtain ⟨nl, hat2⟩ := hE.2 x.toNat hxn
      have hEl := hE.1
      have hrow : ∀ m ∈ g.getD x.toNat [], 0 ≤ m.2 ∧ m.2 < g.length := hg.row _
      have hrl : (g.getD x.toNat []).length ≤ 1048576 := hs.2 _ (by rw [List.getD_eq_getElem?_getD, List.getElem?_eq_getElem hxn, Option.getD_some]; exact List.getElem_mem hxn)
      have hb : bfs g (f + 1) i row = bfs g f (i + 1) (addNew row (g.getD x.toNat [])) := by simp [bfs, h, ← hxe]
      rw [hb]
      generalize hL : g.getD x.toNat [] = L at hat2 hrow hrl
      have h0 := loopFr0 E i g.length L [] row hrow (by simp; omega) (by omega) nl
      simp only [List.nil_append, List.length_nil, show ((0 : Nat) : Int) = 0 from rfl] at h0
      have hn := loopFr1 E g hE hg hs f (i + 1) (addNew row L) (hr.add hrow) (by have := addNew_len L row; omega) (by omega) [] []
      have hw : IntKind.i64.wrap ((i : Int) + 1) = (i : Int) + 1 := wr (by omega)
      rw [loopI_eq]
      rcases encL_two nl false L with ⟨e, e2⟩ | e
      · rw [e] at hat2 h0
        subst e2
        simp only [List.length_nil, show ((0 : Nat) : Int) = 0 from rfl] at h0
        simp [r104l1, b104l1, h, hlt, hat, hat2, hx.1, hxl, h0, hw, hEl]
        simpa using hn
      · rw [e] at hat2 h0
        simp [r104l1, b104l1, h, hlt, hat, hat2, hx.1, hxl, h0, hw, hEl]
        simpa using hn
    · have he : i = row.length := by omega
      have hb : bfs g (f + 1) i row = row := by simp [bfs, h]
      rw [hb, loopI_eq]
      subst he
      simp [r104l1, b104l1]
theorem eqFrom (E : List PV) (g : Gr) (hE : EncR false E g) (hg : OkTo g) (hs : SmallG g) (s : Int) (h : 0 ≤ s ∧ s < g.length) :
    callI G 104 [.agg [.sl false 1 E], .i s] [] = some (.sl true 1 ((reach g s).map PV.i), []) := by
  have hl := loopFr1 E g hE hg hs (g.length + 1) 0 [s] (InN.one h) (by simp) (by omega) [] []
  have hgl := hs.1
  have hEl := hE.1
  simp only [show ((0 : Nat) : Int) = 0 from rfl, List.length_cons, List.length_nil, List.map_cons, List.map_nil, List.append_nil, Nat.zero_add] at hl
  have hz := seenS_n g.length
  have hst := seenS_set (row := []) h
  simp only [List.nil_append] at hst
  have hn := seenS_nth (row := []) h
  have h4 : g.length ≤ 4294967296 := by omega
  have h5 : (g.length : Int) ≤ 4294967296 := by omega
  rw [callI_eq]
  simp [body1_eq _ _ (gp 104) g104, c104, a104, hl, hEl, hz, hst, hn, h.1, h.2, reach, h4, h5, unAgg]
end Go.Am
end
section
set_option maxRecDepth 10000
set_option maxHeartbeats 1000000
set_option linter.unusedSimpArgs false
set_option linter.unusedVariables false
namespace Go.Am
open Go.Proofs Go.Sort Go.Shelf
theorem owP_ne {d : Nat} {l : List Mv} (h : l ≠ []) : owP d l = .own (0, d) l.length := by simp [owP, h]
theorem owL_ne {d : Nat} {l : List Mv} (h : l ≠ []) : owL d l = [(d, .row 2 (l.map mvP))] := by simp [owL, h]
/-! spec.l3Sorted -/
theorem loopSo0 (L : List PV) (i : Nat) (x : Mv) (hi : i < L.length) (hx : nth L i = some (mvP x)) (O : List Mv) (hO : O.length ≤ 1048576) : ∀ (n : Nat) (p q : List Mv), p.length = n → O = p ++ q → (∀ y ∈ q, ltM x y = true) →
    ∃ p' q', O = p' ++ q' ∧ (∀ y ∈ q', ltM x y = true) ∧ (∀ z, p'.getLast? = some z → ltM x z = false) ∧
    loopI G [0, 3, 4, 5] [7, 49] c68l0 ⟨[(0, .sl false 2 L), (3, owP 49 O), (4, .i i), (5, .i p.length)], owL 49 O, []⟩ =
      some (.exit 2, ⟨[(0, .sl false 2 L), (3, owP 49 O), (4, .i i), (5, .i p'.length), (29, .b false)], owL 49 O, []⟩)
  | 0, p, q, hn, hO2, hq => by
    have hp : p = [] := List.length_eq_zero_iff.1 hn
    subst hp
    rw [List.nil_append] at hO2
    subst hO2
    refine ⟨[], O, rfl, hq, (by intro z hz; cases hz), ?_⟩
    rw [loopI_eq]
    by_cases hd : O = []
    · subst hd
      simp [r68l0, b68l0]
    · rw [owP_ne hd, owL_ne hd]
      simp [r68l0, b68l0]
  | n + 1, p, q, hn, hO2, hq => by
    rcases last_cases p with ⟨h1, _⟩ | ⟨p0, z, h1, hgl⟩
    · subst h1; cases hn
    · subst h1
      have hn0 : p0.length = n := by simpa using hn
      have hne : O ≠ [] := by rw [hO2]; simp
      have hle := eqLess x z
      have hOl : O.length = p0.length + (1 + q.length) := by rw [hO2]; simp; omega
      have hat : nth (O.map mvP) p0.length = some (mvP z) := by
        rw [hO2, List.append_assoc]; exact mv_at p0 z q
      have hlt : (p0.length : Int) < O.length := by omega
      have hlt2 : p0.length < O.length := by omega
      have hw : IntKind.i64.wrap ((p0.length : Int) + 1 - 1) = p0.length := by rw [wr (by omega)]; omega
      have hw3 : IntKind.i64.wrap (p0.length : Int) = (p0.length : Int) := wr (by omega)
      have hpos : (0 : Int) < (p0.length : Int) + 1 := by omega
      have hpl : ((p0 ++ [z]).length : Int) = (p0.length : Int) + 1 := by simp
      have hi2 : (i : Int) < L.length := by omega
      rw [hpl, owP_ne hne, owL_ne hne]
      simp only [mvP] at hx hle hat
      have hml : (O.map mvP).length = O.length := by simp
      cases hv : ltM x z with
      | true =>
        rw [hv] at hle
        obtain ⟨p', q', a1, a2, a3, a4⟩ := loopSo0 L i x hi hx O hO n p0 (z :: q) hn0 (by rw [hO2]; simp) (fun y hy => by rcases List.mem_cons.1 hy with rfl | hy; exact hv; exact hq y hy)
        refine ⟨p', q', a1, a2, a3, ?_⟩
        rw [owP_ne hne, owL_ne hne] at a4
        generalize hM : O.map mvP = M at hat hml a4 ⊢
        rw [loopI_eq]
        simp [r68l0, b68l0, hpos, hi, hi2, hx, hml, hw, hw3, hlt, hlt2, hat, hle]
        simpa using a4
      | false =>
        rw [hv] at hle
        refine ⟨p0 ++ [z], q, hO2, hq, (fun y hy => by rw [hgl] at hy; cases hy; exact hv), ?_⟩
        rw [hpl]
        generalize hM : O.map mvP = M at hat hml ⊢
        rw [loopI_eq]
        simp [r68l0, b68l0, hpos, hi, hi2, hx, hml, hw, hw3, hlt, hlt2, hat, hle]
theorem loopSo1 (L : List PV) (i : Int) (p : List Mv) (N : Nat) (hN : N ≤ 1048577) : ∀ (n : Nat) (q1 : List Mv) (w : Mv) (q2 : List Mv), q1.length = n → p.length + q1.length + 1 + q2.length = N →
    ∃ w' : Mv, loopI G [0, 3, 4, 5, 6] [7, 49] c68l1 ⟨[(0, .sl false 2 L), (3, .own (0, 49) N), (4, .i i), (5, .i p.length), (6, .i (p.length + q1.length))], [(49, .row 2 ((p ++ (q1 ++ w :: q2)).map mvP))], []⟩ =
      some (.exit 4, ⟨[(0, .sl false 2 L), (3, .own (0, 49) N), (4, .i i), (5, .i p.length), (6, .i p.length), (55, .b false)], [(49, .row 2 ((p ++ w' :: (q1 ++ q2)).map mvP))], []⟩)
  | 0, q1, w, q2, hn, hl => by
    have hq : q1 = [] := List.length_eq_zero_iff.1 hn
    subst hq
    refine ⟨w, ?_⟩
    rw [loopI_eq]
    simp [r68l1, b68l1]
  | n + 1, q1, w, q2, hn, hl => by
    rcases last_cases q1 with ⟨h1, _⟩ | ⟨q0, z, h1, hgl⟩
    · subst h1; cases hn
    · subst h1
      have hn0 : q0.length = n := by simpa using hn
      have hl0 : p.length + q0.length + 1 + (z :: q2).length = N := by simp at hl ⊢; omega
      obtain ⟨w', hnx⟩ := loopSo1 L i p N hN n q0 z (z :: q2) hn0 hl0
      refine ⟨w', ?_⟩
      simp only [List.length_cons] at hl0
      have hj : (p.length : Int) + ((q0 ++ [z]).length : Int) = (p.length : Int) + q0.length + 1 := by simp; omega
      have hgt : (p.length : Int) < (p.length : Int) + q0.length + 1 := by omega
      have hw : IntKind.i64.wrap ((p.length : Int) + q0.length + 1 - 1) = (p.length : Int) + q0.length := by rw [wr (by omega)]; omega
      have hw2 : IntKind.i64.wrap ((p.length : Int) + q0.length) = (p.length : Int) + q0.length := wr (by omega)
      have hge : (0 : Int) ≤ (p.length : Int) + q0.length := by omega
      have hge1 : (0 : Int) ≤ (p.length : Int) + q0.length + 1 := by omega
      have hlt : (p.length : Int) + q0.length < N := by omega
      have hlt1 : (p.length : Int) + q0.length + 1 < N := by omega
      have htn : ((p.length : Int) + q0.length).toNat = p.length + q0.length := by omega
      have htn1 : ((p.length : Int) + q0.length + 1).toNat = p.length + q0.length + 1 := by omega
      have hml : ((p ++ (q0 ++ [z] ++ w :: q2)).map mvP).length = N := by simp; omega
      have hat : nth ((p ++ (q0 ++ [z] ++ w :: q2)).map mvP) (p.length + q0.length) = some (mvP z) := by
        have := at_D ((p ++ q0).map mvP) (mvP z) ((w :: q2).map mvP) (p.length + q0.length) (by simp)
        simpa using this
      have hat1 : nth ((p ++ (q0 ++ [z] ++ w :: q2)).map mvP) (p.length + q0.length + 1) = some (mvP w) := by
        have := at_D ((p ++ (q0 ++ [z])).map mvP) (mvP w) (q2.map mvP) (p.length + q0.length + 1) (by simp; omega)
        simpa using this
      have hst : ((p ++ (q0 ++ [z] ++ w :: q2)).map mvP).set (p.length + q0.length + 1) (mvP z) = (p ++ (q0 ++ z :: z :: q2)).map mvP := by
        have := set_D ((p ++ (q0 ++ [z])).map mvP) (mvP w) (mvP z) (q2.map mvP) (p.length + q0.length + 1) (by simp; omega)
        simpa using this
      rw [hj]
      generalize hM : (p ++ (q0 ++ [z] ++ w :: q2)).map mvP = M at hat hat1 hst hml ⊢
      have hr : (p ++ w' :: (q0 ++ [z] ++ q2)).map mvP = (p ++ w' :: (q0 ++ z :: q2)).map mvP := by simp
      rw [hr]
      simp only [mvP] at hat hat1 hst
      generalize hM2 : (p ++ (q0 ++ z :: z :: q2)).map mvP = M2 at hst hnx
      generalize hM3 : (p ++ w' :: (q0 ++ z :: q2)).map mvP = M3 at hnx ⊢
      rw [loopI_eq]
      simp [r68l1, b68l1, hgt, hw, hw2, hge, hge1, hlt, hlt1, htn, htn1, hml, hat, hat1, unAgg, hst]
      exact hnx
/-- Strictly in order. -/
def Sd (l : List Mv) : Prop := l.Pairwise fun a b => ltM a b = true
theorem ltM_tr {a b d : Mv} (h : ltM a b = true) (k : ltM b d = true) : ltM a d = true := by
  have h := (ltM_iff a b).1 h
  have k := (ltM_iff b d).1 k
  refine (ltM_iff a d).2 ?_
  omega
theorem ltM_irr (a : Mv) : ltM a a = false := (ltM_false a a).2 (by omega)
theorem ltM_as {a b : Mv} (h : ltM a b = true) : ltM b a = false := by
  have h := (ltM_iff a b).1 h
  exact (ltM_false b a).2 (by omega)
theorem ltM_eq {a b : Mv} (h : ltM a b = false) (k : ltM b a = false) : a = b := by
  have h := (ltM_false a b).1 h
  have k := (ltM_false b a).1 k
  exact Prod.ext (by omega) (by omega)
theorem Sd_split {p q : List Mv} {x : Mv} (h : Sd (p ++ q)) (hq : ∀ y ∈ q, ltM x y = true) (hp : ∀ z, p.getLast? = some z → ltM z x = true) : Sd (p ++ x :: q) := by
  have h := List.pairwise_append.1 h
  refine List.pairwise_append.2 ⟨h.1, List.pairwise_cons.2 ⟨hq, h.2.1⟩, fun a ha b hb => ?_⟩
  rcases List.mem_cons.1 hb with rfl | hb
  · rcases last_cases p with ⟨e, _⟩ | ⟨p0, z, e, hg⟩
    · subst e; cases ha
    · have hz := hp z hg
      subst e
      rcases List.mem_append.1 ha with ha | ha
      · exact ltM_tr ((List.pairwise_append.1 h.1).2.2 a ha z (by simp)) hz
      · rw [List.mem_singleton] at ha; subst ha; exact hz
  · exact h.2.2 a ha b hb
end Go.Am
end
section
set_option maxRecDepth 10000
set_option maxHeartbeats 1000000
set_option linter.unusedSimpArgs false
set_option linter.unusedVariables false
namespace Go.Am
open Go.Proofs Go.Sort Go.Shelf
theorem wr0 : IntKind.i64.wrap 0 = 0 := by rfl
theorem loopSo2 (list : List Mv) (hl : list.length ≤ 1048576) : ∀ (rest done : List Mv), list = done ++ rest → ∀ O, Sd O → (∀ y, y ∈ O ↔ y ∈ done) → O.length ≤ done.length →
    ∃ O', Sd O' ∧ (∀ y, y ∈ O' ↔ y ∈ list) ∧
    loopI G [0, 3, 4] [7, 49] c68l2 ⟨[(0, .sl false 2 (list.map mvP)), (3, owP 49 O), (4, .i done.length)], owL 49 O, []⟩ =
      some (.exit 0, ⟨[(0, .sl false 2 (list.map mvP)), (3, owP 49 O'), (4, .i list.length), (11, .b false)], owL 49 O', []⟩)
  | [], done, hd, O, hO, hm, hOl => by
    rw [List.append_nil] at hd
    subst hd
    refine ⟨O, hO, hm, ?_⟩
    rw [loopI_eq]
    by_cases hne : O = []
    · subst hne
      simp [r68l2, b68l2]
    · rw [owP_ne hne, owL_ne hne]
      simp [r68l2, b68l2]
  | x :: rest, done, hd, O, hO, hm, hOl => by
    have hll : list.length = done.length + (rest.length + 1) := by rw [hd]; simp
    have hlt : (done.length : Int) < list.length := by omega
    have hlt2 : done.length < list.length := by omega
    have hw : IntKind.i64.wrap ((done.length : Int) + 1) = (done.length : Int) + 1 := wr (by omega)
    have hx : nth (list.map mvP) done.length = some (mvP x) := by rw [hd]; exact mv_at done x rest
    have hLl : (list.map mvP).length = list.length := by simp
    obtain ⟨p, q, a1, a2, a3, a4⟩ := loopSo0 (list.map mvP) done.length x (by rw [hLl]; omega) hx O (by omega) O.length O [] rfl (by simp) (by simp)
    by_cases hz : ∃ z, p.getLast? = some z ∧ z = x
    · -- there already
      obtain ⟨z, hz1, rfl⟩ := hz
      rcases last_cases p with ⟨e, e2⟩ | ⟨p0, z', e, e2⟩
      · rw [e2] at hz1; cases hz1
      · rw [e2] at hz1
        cases hz1
        have hne : O ≠ [] := by rw [a1, e]; simp
        have hxO : z ∈ O := by rw [a1, e]; simp
        have hat : nth (O.map mvP) p0.length = some (mvP z) := by
          rw [a1, e, List.append_assoc]; exact mv_at p0 z q
        have hOl2 : O.length = p0.length + (1 + q.length) := by rw [a1, e]; simp; omega
        have hpl : (p.length : Int) = (p0.length : Int) + 1 := by rw [e]; simp
        obtain ⟨O', b1, b2, b3⟩ := loopSo2 list hl rest (done ++ [z]) (by simpa using hd) O hO (fun y => by
          rw [hm y, List.mem_append, List.mem_singleton]
          exact ⟨.inl, fun h => h.elim id fun h => by rw [h]; exact (hm z).1 hxO⟩) (by simp; omega)
        refine ⟨O', b1, b2, ?_⟩
        rw [hpl] at a4
        have hltp : (p0.length : Int) < O.length := by omega
        have hltp2 : p0.length < O.length := by omega
        have hwp : IntKind.i64.wrap ((p0.length : Int) + 1 - 1) = p0.length := by rw [wr (by omega)]; omega
        have hw3 : IntKind.i64.wrap (p0.length : Int) = (p0.length : Int) := wr (by omega)
        have hpos : (0 : Int) < (p0.length : Int) + 1 := by omega
        have hml : (O.map mvP).length = O.length := by simp
        rw [owP_ne hne, owL_ne hne] at a4 b3 ⊢
        simp only [List.length_append, List.length_cons, List.length_nil, Int.natCast_add, show ((0 + 1 : Nat) : Int) = 1 from rfl] at b3
        simp only [mvP] at hx hat
        generalize hM : O.map mvP = M at hat hml a4 b3 ⊢
        generalize hL : list.map mvP = L at hx hLl a4 b3 ⊢
        rw [loopI_eq]
        simp [r68l2, b68l2, hlt, hlt2, hw, hx, hLl, a4, hpos, hwp, hw3, hltp, hltp2, hml, hat]
        exact b3
    · -- a new one
      have hltz : ∀ z, p.getLast? = some z → ltM z x = true := fun z hz1 => by
        cases hv : ltM z x with
        | true => rfl
        | false => exact absurd ⟨z, hz1, ltM_eq hv (a3 z hz1)⟩ hz
      have hO' : Sd (p ++ x :: q) := Sd_split (a1 ▸ hO) a2 hltz
      have hm' : ∀ y, y ∈ p ++ x :: q ↔ y ∈ done ++ [x] := fun y => by
        have := hm y
        rw [a1] at this
        simp only [List.mem_append, List.mem_cons, List.not_mem_nil, or_false] at this ⊢
        rw [← this]
        constructor
        · rintro (h | h | h)
          · exact .inl (.inl h)
          · exact .inr h
          · exact .inl (.inr h)
        · rintro ((h | h) | h)
          · exact .inl h
          · exact .inr (.inr h)
          · exact .inr (.inl h)
      have hpq : O.length = p.length + q.length := by rw [a1]; simp
      obtain ⟨O', b1, b2, b3⟩ := loopSo2 list hl rest (done ++ [x]) (by simpa using hd) (p ++ x :: q) hO' hm' (by simp; omega)
      refine ⟨O', b1, b2, ?_⟩
      obtain ⟨w', c1⟩ := loopSo1 (list.map mvP) done.length p (O.length + 1) (by omega) q.length q (0, 0) [] rfl (by simp; omega)
      have hrow : (p ++ (q ++ (0, 0) :: [])).map mvP = O.map mvP ++ [.agg [.i 0, .i 0]] := by rw [a1]; simp [mvP]
      have hj : (p.length : Int) + q.length = O.length := by omega
      rw [hrow, hj, List.append_nil] at c1
      have hR2 : nth ((p ++ w' :: q).map mvP) p.length = some (mvP w') := mv_at p w' q
      have hS2 : ((p ++ w' :: q).map mvP).set p.length (mvP x) = (p ++ x :: q).map mvP := by simp
      have hml2 : ((p ++ w' :: q).map mvP).length = O.length + 1 := by simp; omega
      have hne3 : p ++ x :: q ≠ [] := by simp
      have hl3 : (p ++ x :: q).length = O.length + 1 := by simp; omega
      rw [owP_ne hne3, owL_ne hne3, hl3] at b3
      simp only [List.length_append, List.length_cons, List.length_nil, Int.natCast_add, show ((0 + 1 : Nat) : Int) = 1 from rfl] at b3
      have hpl : (p.length : Int) < (O.length : Int) + 1 := by omega
      have hpl2 : p.length < O.length + 1 := by omega
      have hwO : IntKind.i64.wrap ((O.length : Int) + 1 - 1) = O.length := by rw [wr (by omega)]; omega
      have hwO2 : IntKind.i64.wrap (O.length : Int) = O.length := wr (by omega)
      have hOlb : O.length ≤ 4294967295 := by omega
      by_cases hne : O = []
      · -- the first one
        have hp0 : p = [] := by cases p with | nil => rfl | cons u v => rw [hne] at a1; cases a1
        have hq0 : q = [] := by rw [hp0, hne] at a1; exact a1.symm
        subst hp0 hq0
        rw [hne] at a4 c1 ⊢
        rw [hne] at b3 hml2
        simp only [owP_n, owL_n, List.length_nil, List.map_nil, List.nil_append, Nat.zero_add, show ((0 : Nat) : Int) = 0 from rfl] at a4 c1 b3 hR2 hS2 hml2 ⊢
        simp only [mvP] at hx hS2 hR2
        generalize hL : list.map mvP = L at hx hLl a4 b3 c1 ⊢
        generalize hM2 : List.map mvP [w'] = M2 at hR2 hS2 hml2 c1
        rw [loopI_eq]
        simp [r68l2, b68l2, hlt, hlt2, hw, hx, hLl, a4, c1, wr0, hR2, hS2, hml2, unAgg]
        simpa using b3
      · rw [owP_ne hne, owL_ne hne] at a4 ⊢
        have hml : (O.map mvP).length = O.length := by simp
        rcases last_cases p with ⟨e, e2⟩ | ⟨p0, z, e, e2⟩
        · subst e
          simp only [List.length_nil, show ((0 : Nat) : Int) = 0 from rfl, List.nil_append] at a4 c1 hR2 hS2 hml2 b3
          simp only [mvP] at hx hS2 hR2
          generalize hL : list.map mvP = L at hx hLl a4 b3 c1 ⊢
          generalize hM2 : List.map mvP (w' :: q) = M2 at hR2 hS2 hml2 c1
          generalize hM : O.map mvP = M at hml a4 c1 ⊢
          generalize hM3 : List.map mvP (x :: q) = M3 at hS2 b3
          rw [loopI_eq]
          simp [r68l2, b68l2, hlt, hlt2, hw, hx, hLl, a4, c1, hR2, hS2, hml2, unAgg, hml, hwO, hwO2, hOlb]
          exact b3
        · have hzx : ¬ z = x := fun h => hz ⟨z, e2, h⟩
          have hdec : (decide (z.1 = x.1) && decide (z.2 = x.2)) = false := by
            rw [← Bool.decide_and]; exact decide_eq_false fun h => hzx (Prod.ext h.1 h.2)
          have hpp : (p.length : Int) = (p0.length : Int) + 1 := by rw [e]; simp
          have hat : nth (O.map mvP) p0.length = some (mvP z) := by
            rw [a1, e, List.append_assoc]; exact mv_at p0 z q
          have hppn : p.length = p0.length + 1 := by omega
          have hltp : (p0.length : Int) < O.length := by omega
          have hltp2 : p0.length < O.length := by omega
          have hwp : IntKind.i64.wrap ((p0.length : Int) + 1 - 1) = p0.length := by rw [wr (by omega)]; omega
          have hw3 : IntKind.i64.wrap (p0.length : Int) = (p0.length : Int) := wr (by omega)
          have hpos : (0 : Int) < (p0.length : Int) + 1 := by omega
          rw [hpp] at a4 c1
          rw [hppn] at hR2 hS2 hpl2
          have hge1 : (0 : Int) ≤ (p0.length : Int) + 1 := by omega
          have hltq : p0.length < O.length := by omega
          simp only [mvP] at hx hS2 hR2 hat
          generalize hL : list.map mvP = L at hx hLl a4 b3 c1 ⊢
          generalize hM2 : List.map mvP (p ++ w' :: q) = M2 at hR2 hS2 hml2 c1
          generalize hM : O.map mvP = M at hml a4 c1 hat ⊢
          generalize hM3 : List.map mvP (p ++ x :: q) = M3 at hS2 b3
          rw [loopI_eq]
          simp [r68l2, b68l2, hlt, hlt2, hw, hx, hLl, a4, c1, hR2, hS2, hml2, unAgg, hml, hwO, hwO2, hOlb, hpos, hwp, hw3, hltp, hltp2, hat, hdec, hge1]
          exact b3
end Go.Am
end
section
set_option maxRecDepth 10000
set_option maxHeartbeats 1000000
set_option linter.unusedSimpArgs false
set_option linter.unusedVariables false
namespace Go.Am
open Go.Proofs Go.Sort Go.Shelf
theorem Sd_uniq : ∀ (a b : List Mv), Sd a → Sd b → (∀ y, y ∈ a ↔ y ∈ b) → a = b
  | [], [], _, _, _ => rfl
  | [], y :: b, _, _, h => by have := (h y).2 List.mem_cons_self; cases this
  | x :: a, [], _, _, h => by have := (h x).1 List.mem_cons_self; cases this
  | x :: a, y :: b, ha, hb, h => by
    have ha' := List.pairwise_cons.1 ha
    have hb' := List.pairwise_cons.1 hb
    have hxy : x = y := by
      rcases List.mem_cons.1 ((h x).1 List.mem_cons_self) with e | e
      · exact e
      · rcases List.mem_cons.1 ((h y).2 List.mem_cons_self) with e' | e'
        · exact e'.symm
        · have h1 := hb'.1 x e
          have h2 := ha'.1 y e'
          rw [ltM_as h1] at h2; cases h2
    subst hxy
    have : a = b := Sd_uniq a b ha'.2 hb'.2 fun y => by
      constructor
      · intro hy
        rcases List.mem_cons.1 ((h y).1 (List.mem_cons_of_mem _ hy)) with e | e
        · subst e; have := ha'.1 y hy; rw [ltM_irr] at this; cases this
        · exact e
      · intro hy
        rcases List.mem_cons.1 ((h y).2 (List.mem_cons_of_mem _ hy)) with e | e
        · subst e; have := hb'.1 y hy; rw [ltM_irr] at this; cases this
        · exact e
    rw [this]
theorem ddup_sd : ∀ (l : List Mv) (p : Mv), (p :: l).Pairwise (fun a b => ltM b a = false) → Sd (p :: ddup p l) ∧ ∀ y, y ∈ p :: ddup p l ↔ y ∈ p :: l
  | [], p, h => ⟨by simp [Sd, ddup], fun y => by simp [ddup]⟩
  | x :: l, p, h => by
    have h1 := List.pairwise_cons.1 h
    have h2 := List.pairwise_cons.1 h1.2
    simp only [ddup]
    split
    · rename_i e
      subst e
      have ih := ddup_sd l x h1.2
      refine ⟨ih.1, fun y => ?_⟩
      rw [ih.2 y]
      simp
    · rename_i e
      have ih := ddup_sd l x h1.2
      refine ⟨List.pairwise_cons.2 ⟨fun y hy => ?_, ih.1⟩, fun y => ?_⟩
      · have hy' := (ih.2 y).1 hy
        have hyp := h1.1 y hy'
        cases hv : ltM p y with
        | true => rfl
        | false =>
          have : p = y := ltM_eq hv hyp
          subst this
          have hxp := h1.1 x List.mem_cons_self
          rcases List.mem_cons.1 hy' with e' | e'
          · exact absurd e'.symm e
          · exact absurd (ltM_eq hxp (h2.1 p e')) e
      · rw [List.mem_cons, ih.2 y, List.mem_cons (l := x :: l)]
theorem srtM_pw (l : List Mv) : (srtM l).Pairwise fun a b => ltM b a = false := by
  have := List.pairwise_mergeSort (le := fun x y : Mv => !ltM y x) (fun a b d h k => by
    simp only [Bool.not_eq_true'] at h k ⊢
    have h := (ltM_false b a).1 h
    have k := (ltM_false d b).1 k
    exact (ltM_false d a).2 (by omega)) (fun a b => by
    cases h : ltM b a with
    | false => simp
    | true => simp [ltM_as h]) l
  exact this.imp fun h => by simpa using h
theorem srtM_mem (l : List Mv) (y : Mv) : y ∈ srtM l ↔ y ∈ l := (List.mergeSort_perm l _).mem_iff
theorem tidyL_sd (l : List Mv) : Sd (tidyL l) ∧ ∀ y, y ∈ tidyL l ↔ y ∈ l := by
  unfold tidyL
  have hp := srtM_pw l
  have hm := srtM_mem l
  cases hs : srtM l with
  | nil =>
    rw [hs] at hm
    exact ⟨by simp [dd, Sd], fun y => by rw [← hm y]; simp [dd]⟩
  | cons x r =>
    rw [hs] at hp hm
    have := ddup_sd r x hp
    exact ⟨this.1, fun y => by rw [← hm y]; exact this.2 y⟩
theorem eqSorted (nl : Bool) (l : List Mv) (hl : l.length ≤ 1048576) : callI G 68 [encL nl false l] [] = some (encL true true (tidyL l), []) := by
  rw [callI_eq]
  by_cases he : l = []
  · subst he
    rw [tidyL_n]
    have l2 := loopSo2 [] (by simp) [] [] rfl [] (by simp [Sd]) (by simp) (by simp)
    rcases encL_two nl false [] with ⟨e, _⟩ | e
    · rw [e]
      have l0 : loopI G [0, 3, 4] [7, 49] c68l2 ⟨[(0, .nils), (3, .nils), (4, .i 0)], [], []⟩ = some (.exit 0, ⟨[(0, .nils), (3, .nils), (4, .i 0), (11, .b false)], [], []⟩) := by
        rw [loopI_eq]
        simp [r68l2, b68l2]
      simp [body1_eq _ _ (gp 68) g68, c68, a68, l0]
    · rw [e]
      have l0 : loopI G [0, 3, 4] [7, 49] c68l2 ⟨[(0, .sl false 2 []), (3, .nils), (4, .i 0)], [], []⟩ = some (.exit 0, ⟨[(0, .sl false 2 []), (3, .nils), (4, .i 0), (11, .b false)], [], []⟩) := by
        rw [loopI_eq]
        simp [r68l2, b68l2]
      simp [body1_eq _ _ (gp 68) g68, c68, a68, l0]
  · obtain ⟨O, h1, h2, h3⟩ := loopSo2 l hl l [] rfl [] (by simp [Sd]) (by simp) (by simp)
    have hO : O = tidyL l := Sd_uniq _ _ h1 (tidyL_sd l).1 fun y => by rw [h2 y, (tidyL_sd l).2 y]
    have hne : tidyL l ≠ [] := tidyL_ne he
    rw [hO, owP_ne hne, owL_ne hne] at h3
    rw [encL_ne he, encL_ne hne]
    simp only [owP_n, owL_n, List.length_nil, show ((0 : Nat) : Int) = 0 from rfl] at h3
    simp [body1_eq _ _ (gp 68) g68, c68, a68, h3]
end Go.Am
end
section
set_option maxRecDepth 10000
set_option maxHeartbeats 1000000
set_option linter.unusedSimpArgs false
set_option linter.unusedVariables false
namespace Go.Am
open Go.Proofs Go.Sort Go.Shelf
theorem atG_app (x y : Int) : ∀ (row : List Int) (i : Nat), x ∉ row → atG i (row ++ [x]) y = if y = x then ((i + row.length : Nat) : Int) else atG i row y
  | [], i, h => by
    simp only [List.nil_append, atG]
    by_cases c : x = y
    · simp [c]
    · have : ¬ y = x := fun e => c e.symm
      simp [c, this]
  | z :: row, i, h => by
    have hz : x ≠ z := fun e => h (by rw [e]; exact List.mem_cons_self)
    have ih := atG_app x y row (i + 1) (fun e => h (List.mem_cons_of_mem _ e))
    simp only [List.cons_append, atG]
    by_cases c : z = y
    · have : ¬ y = x := fun e => hz (by rw [← e, c])
      simp [c, this]
    · simp only [c, if_false, ih, List.length_cons]
      by_cases d : y = x
      · simp [d]; omega
      · simp [d]
def atS (n : Nat) (row : List Int) : List PV := (List.range n).map fun k : Nat => PV.i (atOf row k)
@[simp] theorem atS_len (n : Nat) (row : List Int) : (atS n row).length = n := by simp [atS]
theorem atS_nth {n : Nat} {row : List Int} {x : Int} (h : 0 ≤ x ∧ x < n) : nth (atS n row) x.toNat = some (.i (atOf row x)) := by
  unfold nth atS
  have h1 : x.toNat < n := by omega
  have h2 : ((x.toNat : Nat) : Int) = x := by omega
  simp [h1, h2]
theorem atS_set {n : Nat} {row : List Int} {x : Int} (h : 0 ≤ x ∧ x < n) (hx : x ∉ row) : (atS n row).set x.toNat (.i row.length) = atS n (row ++ [x]) := by
  apply List.ext_getElem (by simp)
  intro i h1 h2
  simp only [atS_len, List.length_set] at h1 h2
  simp only [atS, List.getElem_set, List.getElem_map, List.getElem_range, atOf, atG_app x _ row 0 hx, Nat.zero_add]
  by_cases c : x.toNat = i
  · have : (i : Int) = x := by omega
    simp [c, this]
  · have : ¬ (i : Int) = x := by omega
    simp [c, this]
theorem atS_n (n : Nat) : List.replicate n (PV.i 0) = atS n [] := by
  apply List.ext_getElem (by simp)
  intro i h1 h2
  simp [atS, atOf, atG]
/-! spec.l3Part -/
theorem loopSp0 (E : List PV) (n N : Nat) (hN : N ≤ 4294967296) : ∀ (rest done : List Int), InN n (done ++ rest) → (done ++ rest).length = N →
    loopI G [2, 4, 5, 6, 7] [2, 4, 15, 19, 81] c91l0 ⟨[(2, .ref (0, 2) 1 0 0), (4, .ref (0, 4) 1 0 0), (5, .own (0, 15) N), (6, .own (0, 19) n), (7, .i done.length)], [(2, .box [PV.sl false 1 E]), (4, .box [.nils]), (15, .row 1 ((done ++ rest).map PV.i)), (19, .row 1 (atS n done))], []⟩ =
      some (.exit 0, ⟨[(2, .ref (0, 2) 1 0 0), (4, .ref (0, 4) 1 0 0), (5, .own (0, 15) N), (6, .own (0, 19) n), (7, .i N), (23, .b false)], [(2, .box [PV.sl false 1 E]), (4, .box [.nils]), (15, .row 1 ((done ++ rest).map PV.i)), (19, .row 1 (atS n (done ++ rest)))], []⟩)
  | [], done, hd, h => by
    simp only [List.append_nil] at h ⊢
    rw [h, loopI_eq]
    simp [r91l0, b91l0, h]
  | x :: rest, done, hd, h => by
    have hlt : (done.length : Int) < N := by simp at h; omega
    have hlt2 : done.length < N := by omega
    have hw : IntKind.i64.wrap ((done.length : Int) + 1) = (done.length : Int) + 1 := wr (by omega)
    have hat : nth ((done ++ x :: rest).map PV.i) done.length = some (.i x) := by rw [List.map_append, List.map_cons]; exact at_D _ _ _ _ (by simp)
    have hx : x ∉ done := fun hm => (List.nodup_append.1 hd.1).2.2 x hm x List.mem_cons_self rfl
    have hxr := hd.2 x (by simp)
    have hsn := atS_nth (row := done) hxr
    have hst := atS_set hxr hx
    have hn := loopSp0 E n N hN rest (done ++ [x]) (by simpa using hd) (by simpa using h)
    have e1 : done ++ [x] ++ rest = done ++ x :: rest := by simp
    rw [e1] at hn
    have hl2 : ((done ++ x :: rest).map PV.i).length = N := by simpa using h
    generalize hR : (done ++ x :: rest).map PV.i = R at hat hn hl2 ⊢
    rw [loopI_eq]
    simp [r91l0, b91l0, hlt, hlt2, hl2, hw, hat, hsn, hst, hxr.1, hxr.2, unAgg]
    simpa using hn
theorem loopSp1 (E : List PV) (g : Gr) (hE : EncR false E g) (Y : PV) (YL : Objs) (xs : List PV) (hY : OwnS 81 1 Y YL xs) (row : List Int) (j : Nat) (hj : j < row.length) (hjb : j ≤ 1048576) (x : Int) (hxj : nth (row.map PV.i) j = some (.i x)) (hx : 0 ≤ x ∧ x < g.length) (L : List Mv) (hL : g.getD x.toNat [] = L) (hLt : ∀ m ∈ L, 0 ≤ m.2 ∧ m.2 < g.length) (hLl : L.length ≤ 1048576) : ∀ (rest done : List Mv), L = done ++ rest →
    loopI G [2, 4, 5, 6, 8, 9, 10, 11] [2, 4, 8, 15, 19, 40, 75, 81] c91l1 ⟨[(2, .ref (0, 2) 1 0 0), (4, .ref (0, 4) 1 0 0), (5, .own (0, 15) row.length), (6, .own (0, 19) g.length), (8, .ref (0, 8) 1 0 0), (9, .i j), (10, owP 75 (reT row done)), (11, .i done.length)], (2, .box [PV.sl false 1 E]) :: (4, .box [.nils]) :: (8, .box [Y]) :: (15, .row 1 (row.map PV.i)) :: (19, .row 1 (atS g.length row)) :: (owL 75 (reT row done) ++ YL), []⟩ =
      some (.exit 4, ⟨[(2, .ref (0, 2) 1 0 0), (4, .ref (0, 4) 1 0 0), (5, .own (0, 15) row.length), (6, .own (0, 19) g.length), (8, .ref (0, 8) 1 0 0), (9, .i j), (10, owP 75 (reT row L)), (11, .i L.length), (51, .b false)], (2, .box [PV.sl false 1 E]) :: (4, .box [.nils]) :: (8, .box [Y]) :: (15, .row 1 (row.map PV.i)) :: (19, .row 1 (atS g.length row)) :: (owL 75 (reT row L) ++ YL), []⟩)
  | [], done, hd => by
    rw [List.append_nil] at hd
    subst hd
    have hEl := hE.1
    have hxn : x.toNat < g.length := by omega
    obtain ⟨nl, hat⟩ := hE.2 x.toNat hxn
    rw [hL] at hat
    have hji : (j : Int) < row.length := by omega
    have hrl : (row.map PV.i).length = row.length := by simp
    have hx1 := hx.1
    have hx2 := hx.2
    clear hE
    generalize hR : row.map PV.i = R at hxj hrl ⊢
    rw [loopI_eq]
    rcases encL_two nl false L with ⟨e, e2⟩ | e
    · rw [e] at hat
      subst e2
      rcases hY with ⟨rfl, rfl, rfl⟩ | ⟨hxs, rfl, rfl⟩
      · simp [r91l1, b91l1, hEl, hj, hji, hrl, hxj, hx1, hx2, hat, reT]
      · simp [r91l1, b91l1, hEl, hj, hji, hrl, hxj, hx1, hx2, hat, reT]
    · rw [e] at hat
      by_cases hd : L = []
      · rw [hd] at hat ⊢
        simp at hat
        rcases hY with ⟨rfl, rfl, rfl⟩ | ⟨hxs, rfl, rfl⟩
        · simp [r91l1, b91l1, hEl, hj, hji, hrl, hxj, hx1, hx2, hat, reT]
        · simp [r91l1, b91l1, hEl, hj, hji, hrl, hxj, hx1, hx2, hat, reT]
      · have hne : reT row L ≠ [] := by simp [reT, hd]
        rw [owP_ne hne, owL_ne hne]
        rcases hY with ⟨rfl, rfl, rfl⟩ | ⟨hxs, rfl, rfl⟩
        · simp [r91l1, b91l1, hEl, hj, hji, hrl, hxj, hx1, hx2, hat]
        · simp [r91l1, b91l1, hEl, hj, hji, hrl, hxj, hx1, hx2, hat]
  | m :: rest, done, hd => by
    have hEl := hE.1
    have hxn : x.toNat < g.length := by omega
    obtain ⟨nl, hat⟩ := hE.2 x.toNat hxn
    rw [hL] at hat
    have hji : (j : Int) < row.length := by omega
    have hm := hLt m (by rw [hd]; simp)
    have hen : encL nl false L = .sl false 2 (L.map mvP) := encL_ne (by rw [hd]; simp)
    rw [hen] at hat
    have hLl2 : L.length = done.length + (rest.length + 1) := by rw [hd]; simp
    have hlt : (done.length : Int) < L.length := by omega
    have hlt2 : done.length < L.length := by omega
    have hw : IntKind.i64.wrap ((done.length : Int) + 1) = (done.length : Int) + 1 := wr (by omega)
    have hdl : done.length ≤ 4294967295 := by omega
    have hat2 : nth (L.map mvP) done.length = some (mvP m) := by rw [hd]; exact mv_at done m rest
    have hsn := atS_nth (row := row) hm
    have hn := loopSp1 E g hE Y YL xs hY row j hj hjb x hxj hx L hL hLt hLl rest (done ++ [m]) (by simpa using hd)
    have hrl : (row.map PV.i).length = row.length := by simp
    have hx1 := hx.1
    have hx2 := hx.2
    have hm1 := hm.1
    have hm2 := hm.2
    have hml : (L.map mvP).length = L.length := by simp
    clear hE
    generalize hM : L.map mvP = M at hat hat2 hml
    generalize hR : row.map PV.i = R at hxj hrl hn ⊢
    simp only [mvP] at hat2
    rw [loopI_eq]
    rcases hY with ⟨rfl, rfl, rfl⟩ | ⟨hxs, rfl, rfl⟩
    · by_cases hdn : done = []
      · subst hdn
        simp at hat2 hn hlt
        simp [r91l1, b91l1, hEl, hj, hji, hrl, hxj, hx1, hx2, hat, hat2, hml, hlt, hlt2, mvP, unAgg, hw, hdl, wr1, hsn, hm1, hm2, reT]
        simpa [reT, mvP, Int.add_assoc] using hn
      · have hne : reT row done ≠ [] := by simp [reT, hdn]
        rw [owP_ne hne, owL_ne hne]
        simp [r91l1, b91l1, hEl, hj, hji, hrl, hxj, hx1, hx2, hat, hat2, hml, hlt, hlt2, mvP, unAgg, hw, hdl, hsn, hm1, hm2]
        simpa [reT, mvP, Int.add_assoc] using hn
    · by_cases hdn : done = []
      · subst hdn
        simp at hat2 hn hlt
        simp [r91l1, b91l1, hEl, hj, hji, hrl, hxj, hx1, hx2, hat, hat2, hml, hlt, hlt2, mvP, unAgg, hw, hdl, wr1, hsn, hm1, hm2, reT]
        simpa [reT, mvP, Int.add_assoc] using hn
      · have hne : reT row done ≠ [] := by simp [reT, hdn]
        rw [owP_ne hne, owL_ne hne]
        simp [r91l1, b91l1, hEl, hj, hji, hrl, hxj, hx1, hx2, hat, hat2, hml, hlt, hlt2, mvP, unAgg, hw, hdl, hsn, hm1, hm2]
        simpa [reT, mvP, Int.add_assoc] using hn
end Go.Am
end
section
set_option maxRecDepth 10000
set_option maxHeartbeats 1000000
set_option linter.unusedSimpArgs false
set_option linter.unusedVariables false
namespace Go.Am
open Go.Proofs Go.Sort Go.Shelf
theorem loopSp2 (E : List PV) (g : Gr) (hE : EncR false E g) (hg : OkTo g) (hs : SmallG g) (row : List Int) (hrow : InN g.length row) : ∀ (rest done : List Int), row = done ++ rest → ∀ Y YL, OwnS 81 1 Y YL (encGs true true (done.map (ptR g row))) →
    ∃ Y' YL', OwnS 81 1 Y' YL' (encGs true true (row.map (ptR g row))) ∧
    loopI G [2, 4, 5, 6, 8, 9] [2, 4, 8, 15, 19, 81] c91l2 ⟨[(2, .ref (0, 2) 1 0 0), (4, .ref (0, 4) 1 0 0), (5, .own (0, 15) row.length), (6, .own (0, 19) g.length), (8, .ref (0, 8) 1 0 0), (9, .i done.length)], (2, .box [PV.sl false 1 E]) :: (4, .box [.nils]) :: (8, .box [Y]) :: (15, .row 1 (row.map PV.i)) :: (19, .row 1 (atS g.length row)) :: YL, []⟩ =
      some (.exit 2, ⟨[(2, .ref (0, 2) 1 0 0), (4, .ref (0, 4) 1 0 0), (5, .own (0, 15) row.length), (6, .own (0, 19) g.length), (8, .ref (0, 8) 1 0 0), (9, .i row.length), (37, .b false)], (2, .box [PV.sl false 1 E]) :: (4, .box [.nils]) :: (8, .box [Y']) :: (15, .row 1 (row.map PV.i)) :: (19, .row 1 (atS g.length row)) :: YL', []⟩)
  | [], done, hd, Y, YL, hY => by
    rw [List.append_nil] at hd
    subst hd
    refine ⟨Y, YL, hY, ?_⟩
    rw [loopI_eq]
    rcases hY with ⟨h1, rfl, rfl⟩ | ⟨h1, rfl, rfl⟩
    · simp [r91l2, b91l2]
    · simp [r91l2, b91l2]
  | x :: rest, done, hd, Y, YL, hY => by
    have hl := hrow.len
    have hgl := hs.1
    have hrl : row.length = done.length + (rest.length + 1) := by rw [hd]; simp
    have hlt : (done.length : Int) < row.length := by omega
    have hlt2 : done.length < row.length := by omega
    have hw : IntKind.i64.wrap ((done.length : Int) + 1) = (done.length : Int) + 1 := wr (by omega)
    have hx := hrow.2 x (by rw [hd]; simp)
    have hat : nth (row.map PV.i) done.length = some (.i x) := by rw [hd, List.map_append, List.map_cons]; exact at_D _ _ _ _ (by simp)
    have hxn : x.toNat < g.length := by omega
    have hLl : (g.getD x.toNat []).length ≤ 1048576 := hs.2 _ (by rw [List.getD_eq_getElem?_getD, List.getElem?_eq_getElem hxn, Option.getD_some]; exact List.getElem_mem hxn)
    have hLt := hg.row x.toNat
    have hpt : ptR g row x = tidyL (reT row (g.getD x.toNat [])) := rfl
    have hYl : (encGs true true (done.map (ptR g row))).length = done.length := by simp
    have hdl : done.length ≤ 4294967295 := by omega
    generalize hL : g.getD x.toNat [] = L at hLl hpt hLt
    have h0 := loopSp1 E g hE Y YL _ hY row done.length hlt2 (by omega) x hat hx L hL hLt hLl L [] rfl
    simp only [List.nil_append, List.length_nil, show ((0 : Nat) : Int) = 0 from rfl, show reT row [] = [] from rfl, owP_n, owL_n] at h0
    have hnew : encGs true true ((done ++ [x]).map (ptR g row)) = encGs true true (done.map (ptR g row)) ++ [encL true true (ptR g row x)] := by simp [encGs]
    have hnn : encGs true true ((done ++ [x]).map (ptR g row)) ≠ [] := by rw [hnew]; simp
    have hYn : OwnS 81 1 (.own (0, 81) (done.length + 1)) [(81, .row 1 (encGs true true (done.map (ptR g row)) ++ [encL true true (ptR g row x)]))] (encGs true true ((done ++ [x]).map (ptR g row))) := by
      refine .inr ⟨hnn, ?_, ?_⟩
      · rw [hnew]; simp
      · rw [hnew]
    obtain ⟨Y', YL', hY', hn⟩ := loopSp2 E g hE hg hs row hrow rest (done ++ [x]) (by simpa using hd) _ _ hYn
    refine ⟨Y', YL', hY', ?_⟩
    simp only [List.length_append, List.length_cons, List.length_nil, Int.natCast_add, show ((0 + 1 : Nat) : Int) = 1 from rfl] at hn
    clear hY' hE
    have hso := eqSorted true (reT row L) (by simp; omega)
    rw [← hpt] at hso
    have hRl : (row.map PV.i).length = row.length := by simp
    generalize hR : row.map PV.i = R at h0 hn hRl ⊢
    rw [loopI_eq]
    by_cases hLe : L = []
    · subst hLe
      have hr0 : reT row [] = [] := rfl
      rw [hr0, tidyL_n] at hpt
      rw [hpt] at hn hso
      simp only [hr0, encL_n] at hso
      rcases hY with ⟨h1, rfl, rfl⟩ | ⟨h1, rfl, rfl⟩
      · have hd0 : done = [] := by cases done with | nil => rfl | cons a b => simp [encGs] at h1
        subst hd0
        have hlt0 : 0 < row.length := by omega
        simp [hr0] at h0 hn hat
        simp [r91l2, b91l2, hlt, hlt2, hRl, noShares_mv, hw, h0, hso, wr1, hlt0]
        simpa [encGs] using hn
      · simp [hr0] at h0 hn
        simp [r91l2, b91l2, hlt, hlt2, hRl, noShares_mv, hw, h0, hso, hdl]
        simpa [encGs] using hn
    · have hne : reT row L ≠ [] := by simp [reT, hLe]
      have hlt3 : encL true true (ptR g row x) = .sl true 2 ((ptR g row x).map mvP) := encL_ne (by rw [hpt]; exact tidyL_ne hne)
      rw [encL_ne hne] at hso
      rw [hlt3] at hn hso
      rw [owP_ne hne, owL_ne hne] at h0
      rcases hY with ⟨h1, rfl, rfl⟩ | ⟨h1, rfl, rfl⟩
      · have hd0 : done = [] := by cases done with | nil => rfl | cons a b => simp [encGs] at h1
        subst hd0
        have hlt0 : 0 < row.length := by omega
        simp at h0 hn hat
        simp [r91l2, b91l2, hlt, hlt2, hRl, noShares_mv, hw, h0, fals_mvP, hso, wr1, hlt0]
        simpa [encGs] using hn
      · simp at h0 hn
        simp [r91l2, b91l2, hlt, hlt2, hRl, noShares_mv, hw, h0, fals_mvP, hso, hdl]
        simpa [encGs] using hn
theorem reach_ne (g : Gr) (s : Int) : 1 ≤ (reach g s).length := by
  have hbl := bfs_len g (g.length + 1) 0 [s]
  unfold reach; simpa using hbl
theorem eqPart (E : List PV) (g : Gr) (hE : EncR false E g) (hg : OkTo g) (hs : SmallG g) (h : 0 < g.length) :
    callI G 91 [.agg [.sl false 1 E], .i 0] [] = some (.agg [.sl true 1 (encGs true true (partG g 0))], []) := by
  have h1 := eqFrom E g hE hg hs 0 (by omega)
  have hr : InN g.length (reach g 0) := InN.bfs hg _ _ (InN.one (by omega))
  have hl := hr.len
  have hgl := hs.1
  have hEl := hE.1
  have hpg : partG g 0 = (reach g 0).map (ptR g (reach g 0)) := rfl
  have hrl := reach_ne g 0
  rw [hpg]
  generalize hR : reach g 0 = row at h1 hr hl hrl
  have hne : row ≠ [] := by intro e; rw [e] at hrl; cases hrl
  have l0 := loopSp0 E g.length row.length (by omega) row [] hr rfl
  obtain ⟨Y, YL, hY, l2⟩ := loopSp2 E g hE hg hs row hr row [] rfl .nils [] (.inl ⟨rfl, rfl, rfl⟩)
  simp only [List.nil_append, List.length_nil, show ((0 : Nat) : Int) = 0 from rfl] at l0 l2
  have hne2 : encGs true true (row.map (ptR g row)) ≠ [] := by simp [encGs, hne]
  have hz := atS_n g.length
  have h4 : g.length ≤ 4294967296 := by omega
  have h5 : (g.length : Int) ≤ 4294967296 := by omega
  rw [callI_eq]
  rcases hY with ⟨q, _⟩ | ⟨_, rfl, rfl⟩
  · exact absurd q hne2
  · simp [body1_eq _ _ (gp 91) g91, c91, a91, h1, hEl, hz, h4, h5, l0, l2]
end Go.Am
end
section
set_option maxRecDepth 10000
set_option maxHeartbeats 1000000
set_option linter.unusedSimpArgs false
set_option linter.unusedVariables false
namespace Go.Am
open Go.Proofs Go.Sort Go.Shelf
theorem eqMade (E : List PV) (g : Gr) (hE : EncR false E g) (hg : OkTo g) (hs : SmallG g) (h : 0 < g.length) :
    callI G 48 [.agg [.sl false 1 E]] [] = some (.tup [encG true true (made g).1, .b (made g).2], []) := by
  have h1 := eqPart E g hE hg hs h
  have hrl := reach_ne g 0
  have hpl : (partG g 0).length = (reach g 0).length := by simp [partG]
  unfold made
  rw [← hpl] at hrl ⊢
  generalize hP : partG g 0 = P at h1 hrl ⊢
  have hne : P ≠ [] := by intro e; rw [e] at hrl; cases hrl
  have he : encG true true P = .agg [.sl true 1 (encGs true true P)] := by simp [encG, encM', hne]
  rw [callI_eq]
  by_cases hc : P.length ≤ 60
  · have hc2 : ¬ (60 : Int) < P.length := by omega
    simp only [hc, if_true, he]
    simp [body1_eq _ _ (gp 48) g48, c48, a48, h1, hc, hc2]
  · have hc2 : (60 : Int) < P.length := by omega
    simp [body1_eq _ _ (gp 48) g48, c48, a48, h1, hc, hc2]
theorem eqGraphActS (a : Int) (g : Gr) (hs : SmallG g) (hf : FitG g) : callI G 35 [.i a, encG false false g] [] = some (.tup [encG true true (graphAct a g).1, .b (graphAct a g).2], []) := by
  have h1 := eqActS a
  have h2 := eqOkS g hf
  simp only [encG, encM_f] at h2 ⊢
  rw [callI_eq]
  by_cases c1 : actOk a = true
  · by_cases c2 : grOk g = true
    · obtain ⟨q1, q2, q3⟩ := grOk_to c2
      have hb := eqBoth (encGs false false [[(a, 1)]]) (encGs false false g) [[(a, 1)]] g (encR_G _ _ _) (encR_G _ _ _) (by simp) (by simp) (by omega) (by constructor <;> simp) hs (fun l hl m hm => by have := q1 l hl m hm; omega)
      have hEE : EncR false (encGs false false [[(a, 1)]] ++ encGs true false (g.map (shL 1))) (actG a g) := (encR_G false false [[(a, 1)]]).app (encR_G true false (g.map (shL 1)))
      have hm := eqMade _ (actG a g) hEE.fal (actG_to q1 q2) (actG_small hs q3) (by simp [actG])
      have hga : graphAct a g = made (actG a g) := by simp [graphAct, c1, c2]
      rw [hga]
      generalize hmm : made (actG a g) = m at hm ⊢
      obtain ⟨mg, mb⟩ := m
      have e1 : encGs false false [[(a, 1)]] = [.sl false 2 [.agg [.i a, .i 1]]] := rfl
      have e2 : ((([[(a, 1)]] : Gr).length : Nat) : Int) = 1 := rfl
      rw [e2] at hb
      generalize hX : encGs false false [[(a, 1)]] ++ encGs true false (g.map (shL 1)) = X at hb hm
      rw [e1] at hb
      simp only [encG] at hm ⊢
      have hns2 := noShares_encGs true mg
      rcases encM_two true true mg with ⟨e, _⟩ | e
      · rw [e] at hm ⊢
        simp [body1_eq _ _ (gp 35) g35, c35, a35, h1, h2, c1, c2, hb, hm, hns2]
      · rw [e] at hm ⊢
        simp [body1_eq _ _ (gp 35) g35, c35, a35, h1, h2, c1, c2, hb, hm, hns2]
    · have c2 : grOk g = false := by simpa using c2
      have hga : graphAct a g = ([], false) := by simp [graphAct, c1, c2]
      rw [hga]
      simp [body1_eq _ _ (gp 35) g35, c35, a35, h1, h2, c1, c2]
  · have c1 : actOk a = false := by simpa using c1
    have hga : graphAct a g = ([], false) := by simp [graphAct, c1]
    rw [hga]
    simp [body1_eq _ _ (gp 35) g35, c35, a35, h1, c1]
end Go.Am
end
section
set_option maxRecDepth 10000
set_option maxHeartbeats 1000000
set_option linter.unusedSimpArgs false
set_option linter.unusedVariables false
namespace Go.Am
open Go.Proofs Go.Sort Go.Shelf
/-! spec.l4Has: a move with an action into a class -/
end Go.Am
end
section
set_option maxRecDepth 10000
set_option maxHeartbeats 1000000
set_option linter.unusedSimpArgs false
set_option linter.unusedVariables false
namespace Go.Am
open Go.Proofs Go.Sort Go.Shelf
/-! spec.l4Covers: each move is one of another state, too -/
end Go.Am
end
section
set_option maxRecDepth 10000
set_option maxHeartbeats 1000000
set_option linter.unusedSimpArgs false
set_option linter.unusedVariables false
namespace Go.Am
open Go.Proofs Go.Sort Go.Shelf
/-! spec.l4Next: one more round -/
end Go.Am
end
section
set_option maxRecDepth 10000
set_option maxHeartbeats 1000000
set_option linter.unusedSimpArgs false
set_option linter.unusedVariables false
namespace Go.Am
open Go.Proofs Go.Sort Go.Shelf
/-! spec.l4Same -/
end Go.Am
end
section
set_option maxRecDepth 10000
set_option maxHeartbeats 1000000
set_option linter.unusedSimpArgs false
set_option linter.unusedVariables false
namespace Go.Am
open Go.Proofs Go.Sort Go.Shelf
/-! spec.l4Rounds -/
theorem fals_i : ∀ l : List Int, fals (l.map PV.i) = l.map PV.i
  | [] => rfl
  | x :: l => by simp only [List.map_cons, fals, fals_i l]; rfl
end Go.Am
end
section
set_option linter.unusedSimpArgs false
set_option linter.unusedVariables false
namespace Go.Am
end Go.Am
end
section
set_option linter.unusedSimpArgs false
set_option linter.unusedVariables false
namespace Go.Am
/-! The rounds stop: roots stay, and each round that changes something makes a new one. -/
end Go.Am
end
section
set_option maxRecDepth 10000
set_option maxHeartbeats 1000000
set_option linter.unusedSimpArgs false
set_option linter.unusedVariables false
namespace Go.Am
open Go.Proofs Go.Sort Go.Shelf
/-! impl.alikeRounds's marks -/
end Go.Am
end
section
set_option maxRecDepth 10000
set_option maxHeartbeats 1000000
set_option linter.unusedSimpArgs false
set_option linter.unusedVariables false
namespace Go.Am
open Go.Proofs Go.Sort Go.Shelf
/-! slices.Equal at moves and at numbers -/
end Go.Am
end
section
set_option maxRecDepth 10000
set_option maxHeartbeats 1000000
set_option linter.unusedSimpArgs false
set_option linter.unusedVariables false
namespace Go.Am
open Go.Proofs Go.Sort Go.Shelf
theorem SmallG.fit {g : Gr} (h : SmallG g) : FitG g := ⟨by have := h.1; omega, fun l hl => by have := h.2 l hl; omega⟩
theorem tidyL_len (l : List Mv) : (tidyL l).length ≤ l.length := by
  have h : (srtM l).length = l.length := by simp [srtM]
  unfold tidyL
  cases hs : srtM l with
  | nil => simp [dd]
  | cons x r =>
    rw [hs] at h
    have := ddup_len x r
    simp only [dd, List.length_cons] at h ⊢
    omega
theorem made_small {g : Gr} (h : SmallG g) : SmallG (made g).1 := by
  unfold made
  split
  · rename_i hc
    refine ⟨by show (partG g 0).length ≤ _; simp [partG]; omega, fun l hl => ?_⟩
    simp only [partG, List.mem_map] at hl
    obtain ⟨r, _, rfl⟩ := hl
    refine Nat.le_trans (tidyL_len _) ?_
    rw [reT_len]
    by_cases hi : r.toNat < g.length
    · rw [List.getD_eq_getElem?_getD, List.getElem?_eq_getElem hi, Option.getD_some]
      exact h.2 _ (List.getElem_mem hi)
    · rw [List.getD_eq_getElem?_getD, List.getElem?_eq_none (by omega)]; simp
  · exact ⟨by simp, fun l hl => by cases hl⟩
theorem encM_ne {nl u : Bool} {g : Gr} (h : g ≠ []) : encM' nl u g = .sl u 1 (encGs nl u g) := by
  unfold encM'
  split
  · rename_i k; simp only [Bool.and_eq_true, List.isEmpty_iff] at k; exact absurd k.2 h
  · rfl
end Go.Am
end
section
set_option maxRecDepth 10000
set_option maxHeartbeats 1000000
set_option linter.unusedSimpArgs false
set_option linter.unusedVariables false
namespace Go.Am
open Go.Proofs Go.Sort Go.Shelf
/-! impl.refine -/
end Go.Am
end
section
set_option maxRecDepth 10000
set_option maxHeartbeats 1000000
set_option linter.unusedSimpArgs false
set_option linter.unusedVariables false
namespace Go.Am
open Go.Proofs Go.Sort Go.Shelf
/-! impl.rounds, impl.alikeRounds, impl.alikeClasses; spec.l4Rounds, spec.l4Classes -/
end Go.Am
end
section
set_option linter.unusedSimpArgs false
set_option linter.unusedVariables false
namespace Go.Am
/-! The classes don't depend on how the states are numbered. -/
/-! The least state of g that is like an unknown. -/
end Go.Am
end
section
set_option maxRecDepth 10000
set_option maxHeartbeats 1000000
set_option linter.unusedSimpArgs false
set_option linter.unusedVariables false
namespace Go.Am
open Go.Proofs Go.Sort Go.Shelf
/-! impl.GraphSum -/
/-! rows of graphs that are ones are short -/
end Go.Am
end
section
set_option maxRecDepth 10000
set_option maxHeartbeats 1000000
set_option linter.unusedSimpArgs false
set_option linter.unusedVariables false
namespace Go.Am
open Go.Proofs Go.Sort Go.Shelf
/-! slices.IndexFunc and slices.DeleteFunc at moves, with a closure over one box of an outer frame -/
end Go.Am
end
section
set_option maxRecDepth 10000
set_option maxHeartbeats 1000000
set_option linter.unusedSimpArgs false
set_option linter.unusedVariables false
namespace Go.Am
open Go.Proofs Go.Sort Go.Shelf
end Go.Am
end
section
set_option maxRecDepth 10000
set_option maxHeartbeats 1000000
set_option linter.unusedSimpArgs false
set_option linter.unusedVariables false
namespace Go.Am
open Go.Proofs Go.Sort Go.Shelf
/-! the name of an action; what is hidden -/
end Go.Am
end
section
set_option maxRecDepth 10000
set_option maxHeartbeats 1000000
set_option linter.unusedSimpArgs false
set_option linter.unusedVariables false
namespace Go.Am
open Go.Proofs Go.Sort Go.Shelf
/-! lists of truth values -/
def bools (l : List Bool) : List PV := l.map PV.b
@[simp] theorem bools_len (l : List Bool) : (bools l).length = l.length := by simp [bools]
@[simp] theorem fals_bools : ∀ l : List Bool, fals (bools l) = bools l
  | [] => rfl
  | x :: l => by
    have := fals_bools l
    simp only [bools, List.map_cons, fals] at this ⊢
    rw [this]; rfl
/-! marked truth values: the own row of an outer frame -/
/-! what is named -/
end Go.Am
end
section
set_option linter.unusedSimpArgs false
set_option linter.unusedVariables false
namespace Go.Am
/-! pairs of states -/
def lMN (nm : Int → Bool) (sync : Bool) (n : Nat) (m x : Mv) : List Mv :=
  if sync = true then (if x.1 = m.1 ∧ nm m.1 = true then [(m.1, m.2 * n + x.2)] else []) else (if m.1 ≠ 0 ∧ x.1 = -m.1 then [(0, m.2 * n + x.2)] else [])
def lM (nm : Int → Bool) (sync : Bool) (n t : Nat) (H : List Mv) (m : Mv) : List Mv := (if nm m.1 = true then [] else [(m.1, m.2 * n + t)]) ++ H.flatMap (lMN nm sync n m)
def lX (nm : Int → Bool) (n s : Nat) (x : Mv) : List Mv := if nm x.1 = true then [] else [(x.1, (s : Int) * n + x.2)]
def prL (nm : Int → Bool) (sync : Bool) (n s t : Nat) (Gs H : List Mv) : List Mv := Gs.flatMap (lM nm sync n t H) ++ H.flatMap (lX nm n s)
def prR (nm : Int → Bool) (sync : Bool) (g h : Gr) (s t : Nat) : List Mv := tidyL (prL nm sync h.length s t (g.getD s []) (h.getD t []))
def prRow (nm : Int → Bool) (sync : Bool) (g h : Gr) (s : Nat) (k : Nat) : Gr := (List.range k).map (prR nm sync g h s)
def prRows (nm : Int → Bool) (sync : Bool) (g h : Gr) : Nat → Gr
  | 0 => []
  | k + 1 => prRows nm sync g h k ++ prRow nm sync g h k h.length
def pairG (nm : Int → Bool) (sync : Bool) (g h : Gr) : Gr := prRows nm sync g h g.length
def pairs (nm : Int → Bool) (sync : Bool) (g h : Gr) : Gr × Bool := if grOk g && grOk h then made (pairG nm sync g h) else ([], false)
end Go.Am
end
section
set_option linter.unusedSimpArgs false
set_option linter.unusedVariables false
namespace Go.Am
/-! likeness of states by a relation that moves keep -/
/-! the states that one comes to are closed -/
theorem addNew_mem : ∀ (l : List Mv) (row : List Int), ∀ m ∈ l, m.2 ∈ addNew row l
  | m :: l, row, x, hx => by
    simp only [addNew]
    rcases List.mem_cons.1 hx with rfl | hx
    · obtain ⟨t, ht⟩ := addNew_pre l (if x.2 ∈ row then row else row ++ [x.2])
      rw [ht]
      refine List.mem_append.2 (.inl ?_)
      split
      · assumption
      · simp
    · exact addNew_mem l _ x hx
theorem bfs_closed {g : Gr} (hg : OkTo g) : ∀ (f i : Nat) (row : List Int), InN g.length row → i ≤ row.length → g.length + 1 ≤ i + f → (∀ j, j < i → ∀ m ∈ g.getD (row.getD j 0).toNat [], m.2 ∈ row) →
    ∀ x ∈ bfs g f i row, ∀ m ∈ g.getD x.toNat [], m.2 ∈ bfs g f i row
  | 0, i, row, h, hi, hf, hc => by
    have := h.len
    omega
  | f + 1, i, row, h, hi, hf, hc => by
    simp only [bfs]
    split
    · rename_i hlt
      obtain ⟨t, ht⟩ := addNew_pre (g.getD (row.getD i 0).toNat []) row
      have hpre : ∀ j, j < row.length → (addNew row (g.getD (row.getD i 0).toNat [])).getD j 0 = row.getD j 0 := fun j hj => by
        rw [ht, List.getD_eq_getElem?_getD, List.getD_eq_getElem?_getD, List.getElem?_append_left hj]
      refine bfs_closed hg f (i + 1) _ (h.add (hg.row _)) ?_ (by omega) fun j hj m hm => ?_
      · have := addNew_len (g.getD (row.getD i 0).toNat []) row
        omega
      · rw [hpre j (by omega)] at hm
        by_cases e : j = i
        · subst e
          exact addNew_mem _ _ m hm
        · rw [ht]
          exact List.mem_append.2 (.inl (hc j (by omega) m hm))
    · rename_i hge
      intro x hx m hm
      obtain ⟨j, hj, rfl⟩ := List.getElem_of_mem hx
      refine hc j (by omega) m ?_
      have e : row.getD j 0 = row[j] := by rw [List.getD_eq_getElem?_getD, List.getElem?_eq_getElem hj]; rfl
      rw [e]
      exact hm
theorem reach_closed {g : Gr} (hg : OkTo g) (h : 0 < g.length) : ∀ x ∈ reach g 0, ∀ m ∈ g.getD x.toNat [], m.2 ∈ reach g 0 :=
  bfs_closed hg _ 0 [0] (InN.one (by omega)) (by simp) (by omega) fun j hj => by omega
theorem bfs_pre (g : Gr) : ∀ (f i : Nat) (row : List Int), ∃ t, bfs g f i row = row ++ t
  | 0, i, row => ⟨[], by simp [bfs]⟩
  | f + 1, i, row => by
    simp only [bfs]
    split
    · obtain ⟨t, ht⟩ := addNew_pre (g.getD (row.getD i 0).toNat []) row
      obtain ⟨t2, ht2⟩ := bfs_pre g f (i + 1) (addNew row (g.getD (row.getD i 0).toNat []))
      exact ⟨t ++ t2, by rw [ht2, ht, List.append_assoc]⟩
    · exact ⟨[], by simp⟩
theorem reach_first (g : Gr) : (reach g 0).getD 0 0 = 0 ∧ 0 < (reach g 0).length := by
  obtain ⟨t, ht⟩ := bfs_pre g (g.length + 1) 0 [0]
  unfold reach
  rw [ht]
  simp
theorem atG_at (x : Int) : ∀ (row : List Int) (i : Nat), x ∈ row → ∃ j : Nat, j < row.length ∧ atG i row x = ((i + j : Nat) : Int) ∧ row.getD j 0 = x
  | y :: l, i, h => by
    simp only [atG]
    by_cases e : y = x
    · exact ⟨0, by simp, by simp [e], by simp [e]⟩
    · have hx : x ∈ l := by
        rcases List.mem_cons.1 h with h | h
        · exact absurd h.symm e
        · exact h
      obtain ⟨j, h1, h2, h3⟩ := atG_at x l (i + 1) hx
      exact ⟨j + 1, by simp; omega, by rw [if_neg e, h2]; congr 1; omega, by simpa using h3⟩
theorem atOf_at {x : Int} {row : List Int} (h : x ∈ row) : (atOf row x).toNat < row.length ∧ row.getD (atOf row x).toNat 0 = x := by
  obtain ⟨j, h1, h2, h3⟩ := atG_at x row 0 h
  unfold atOf
  rw [h2]
  have : (((0 + j : Nat) : Int)).toNat = j := by omega
  rw [this]
  exact ⟨h1, h3⟩
theorem part_row (g : Gr) {i : Nat} (h : i < (reach g 0).length) : (partG g 0).getD i [] = tidyL (reT (reach g 0) (g.getD ((reach g 0).getD i 0).toNat [])) := by
  unfold partG
  rw [List.getD_eq_getElem?_getD, List.getElem?_map, List.getElem?_eq_getElem h]
  simp [h]
theorem part_mem (g : Gr) {i : Nat} (h : i < (reach g 0).length) (z : Mv) : z ∈ (partG g 0).getD i [] ↔ ∃ m ∈ g.getD ((reach g 0).getD i 0).toNat [], z = (m.1, atOf (reach g 0) m.2) := by
  rw [part_row g h, (tidyL_sd _).2]
  unfold reT
  rw [List.mem_map]
  exact ⟨fun ⟨m, h1, h2⟩ => ⟨m, h1, h2.symm⟩, fun ⟨m, h1, h2⟩ => ⟨m, h1, h2.symm⟩⟩
theorem part_len (g : Gr) : (partG g 0).length = (reach g 0).length := by simp [partG]
/-! pairs, turned -/
end Go.Am
end
