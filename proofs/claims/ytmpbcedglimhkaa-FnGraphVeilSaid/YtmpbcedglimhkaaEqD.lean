/- What the functions that the law reaches compute. -/
import Derived.Test.YtmpbcedglimhkaaEqC
import Derived.Test.YtmpbcedglimhkaaEqA
section
set_option maxHeartbeats 2000000
set_option linter.unusedSimpArgs false
set_option linter.unusedVariables false
namespace Go.Am
open Go.Proofs Go.Sort Go.Shelf
/-! a graph that is numbered anew is numbered anew as it stands -/
def iota (k : Nat) : List Int := (List.range k).map fun i : Nat => (i : Int)
@[simp] theorem iota_len (k : Nat) : (iota k).length = k := by simp [iota]
theorem iota_succ (k : Nat) : iota (k + 1) = iota k ++ [(k : Int)] := by simp [iota, List.range_succ]
theorem iota_mem {k : Nat} {x : Int} : x ∈ iota k ↔ 0 ≤ x ∧ x < k := by
  unfold iota
  rw [List.mem_map]
  constructor
  · rintro ⟨i, hi, rfl⟩
    rw [List.mem_range] at hi
    omega
  · rintro ⟨h1, h2⟩
    exact ⟨x.toNat, by rw [List.mem_range]; omega, by omega⟩
theorem iota_at {k i : Nat} (h : i < k) : (iota k).getD i 0 = (i : Int) := by
  simp [iota, List.getD_eq_getElem?_getD, h]
theorem addNew_iota : ∀ (L : List Mv) (k k' : Nat), k ≤ k' → (∀ m ∈ L, 0 ≤ m.2 ∧ m.2 < k') → (∀ v : Nat, k ≤ v → v < k' → ∃ m ∈ L, m.2 = (v : Int)) →
    (∀ (A B : List Mv) (y : Mv), L = A ++ y :: B → ∀ u : Nat, k ≤ u → (u : Int) < y.2 → ∃ a ∈ A, a.2 = (u : Int)) → addNew (iota k) L = iota k'
  | [], k, k', hk, hm, ha, hb => by
    have : k = k' := by
      rcases Nat.lt_or_eq_of_le hk with h | h
      · obtain ⟨m, hm, _⟩ := ha k (Nat.le_refl _) h
        cases hm
      · exact h
    rw [this]; rfl
  | m :: L, k, k', hk, hm, ha, hb => by
    have hm0 := hm m List.mem_cons_self
    simp only [addNew]
    by_cases hlt : m.2 < k
    · rw [if_pos (iota_mem.2 ⟨hm0.1, hlt⟩)]
      refine addNew_iota L k k' hk (fun y hy => hm y (List.mem_cons_of_mem _ hy)) (fun v h1 h2 => ?_) (fun A B y e u h1 h2 => ?_)
      · obtain ⟨y, hy, e⟩ := ha v h1 h2
        rcases List.mem_cons.1 hy with rfl | hy
        · omega
        · exact ⟨y, hy, e⟩
      · obtain ⟨a, haA, e2⟩ := hb (m :: A) B y (by rw [e]; rfl) u h1 h2
        rcases List.mem_cons.1 haA with rfl | haA
        · omega
        · exact ⟨a, haA, e2⟩
    · have e : m.2 = (k : Int) := by
        rcases Int.lt_or_eq_of_le (show (k : Int) ≤ m.2 by omega) with h | h
        · obtain ⟨a, ha, _⟩ := hb [] L m rfl k (Nat.le_refl _) h
          cases ha
        · exact h.symm
      rw [if_neg (fun h => by have := (iota_mem.1 h).2; omega), e, ← iota_succ]
      refine addNew_iota L (k + 1) k' (by omega) (fun y hy => hm y (List.mem_cons_of_mem _ hy)) (fun v h1 h2 => ?_) (fun A B y e3 u h1 h2 => ?_)
      · obtain ⟨y, hy, e2⟩ := ha v (by omega) h2
        rcases List.mem_cons.1 hy with rfl | hy
        · omega
        · exact ⟨y, hy, e2⟩
      · obtain ⟨a, haA, e2⟩ := hb (m :: A) B y (by rw [e3]; rfl) u (by omega) h2
        rcases List.mem_cons.1 haA with rfl | haA
        · omega
        · exact ⟨a, haA, e2⟩
theorem getD_app {a b : List Int} {j : Nat} (h : j < a.length) : (a ++ b).getD j 0 = a.getD j 0 := by
  rw [List.getD_eq_getElem?_getD, List.getD_eq_getElem?_getD, List.getElem?_append_left h]
/-- A list without doubles: places are told apart by what stands there. -/
theorem nodup_at {l : List Int} (h : l.Nodup) {i j : Nat} (hi : i < l.length) (hj : j < l.length) (e : l.getD i 0 = l.getD j 0) : i = j := by
  rw [List.getD_eq_getElem?_getD, List.getElem?_eq_getElem hi, List.getD_eq_getElem?_getD, List.getElem?_eq_getElem hj] at e
  simp only [Option.getD_some] at e
  have hp := List.pairwise_iff_getElem.1 h
  rcases Nat.lt_trichotomy i j with c | c | c
  · exact absurd e (hp i j hi hj c)
  · exact c
  · exact absurd e.symm (hp j i hj hi c)
/-- What is added stands in the order of the moves' acts. -/
theorem addNew_ord {n : Nat} : ∀ (l : List Mv) (R : List Int), InN n R → (∀ m ∈ l, 0 ≤ m.2 ∧ m.2 < n) → Sd l → ∀ v : Nat, R.length ≤ v → v < (addNew R l).length →
    (∃ m ∈ l, m.2 = (addNew R l).getD v 0) ∧ ∀ u : Nat, R.length ≤ u → u < v → ∀ m ∈ l, m.2 = (addNew R l).getD v 0 → ∃ m' ∈ l, m'.2 = (addNew R l).getD u 0 ∧ m'.1 ≤ m.1
  | [], R, hR, hl, hs, v, h1, h2 => by simp only [addNew] at h2; omega
  | x :: l, R, hR, hl, hs, v, h1, h2 => by
    have hs' : Sd l := (List.pairwise_cons.1 hs).2
    have hx : ∀ m ∈ l, x.1 ≤ m.1 := fun m hm => by
      have := (ltM_iff x m).1 ((List.pairwise_cons.1 hs).1 m hm)
      omega
    have hl' : ∀ m ∈ l, 0 ≤ m.2 ∧ m.2 < n := fun m hm => hl m (List.mem_cons_of_mem _ hm)
    simp only [addNew] at h2 ⊢
    by_cases hin : x.2 ∈ R
    · rw [if_pos hin] at h2 ⊢
      obtain ⟨a, b⟩ := addNew_ord l R hR hl' hs' v h1 h2
      have hN := (hR.add hl').1
      obtain ⟨t, ht⟩ := addNew_pre l R
      -- x leads to a state that was there
      have hxv : x.2 ≠ (addNew R l).getD v 0 := by
        intro e
        obtain ⟨j, hj, e2⟩ := List.getElem_of_mem hin
        have hj2 : (addNew R l).getD j 0 = x.2 := by
          rw [ht, getD_app hj, List.getD_eq_getElem?_getD, List.getElem?_eq_getElem hj]
          exact e2
        have hlen : (addNew R l).length = R.length + t.length := by rw [ht]; simp
        have := nodup_at hN (i := j) (j := v) (by omega) h2 (by rw [hj2, e])
        omega
      refine ⟨?_, fun u hu1 hu2 m hm e => ?_⟩
      · obtain ⟨m, hm, e⟩ := a
        exact ⟨m, List.mem_cons_of_mem _ hm, e⟩
      · rcases List.mem_cons.1 hm with rfl | hm
        · exact absurd e hxv
        · obtain ⟨m', h3, h4⟩ := b u hu1 hu2 m hm e
          exact ⟨m', List.mem_cons_of_mem _ h3, h4⟩
    · rw [if_neg hin] at h2 ⊢
      have hR' : InN n (R ++ [x.2]) := by
        have := hR.add (l := [x]) (fun m hm => by rw [List.mem_singleton] at hm; subst hm; exact hl m List.mem_cons_self)
        simpa [addNew, hin] using this
      have hN := (hR'.add hl').1
      obtain ⟨t, ht⟩ := addNew_pre l (R ++ [x.2])
      have hlen : (addNew (R ++ [x.2]) l).length = R.length + 1 + t.length := by rw [ht]; simp; omega
      have hk : (addNew (R ++ [x.2]) l).getD R.length 0 = x.2 := by
        rw [ht, getD_app (by simp)]
        simp [List.getD_eq_getElem?_getD]
      by_cases hv : v = R.length
      · subst hv
        refine ⟨⟨x, List.mem_cons_self, hk.symm⟩, fun u hu1 hu2 => by omega⟩
      · obtain ⟨a, b⟩ := addNew_ord l (R ++ [x.2]) hR' hl' hs' v (by simp; omega) h2
        have hxv : x.2 ≠ (addNew (R ++ [x.2]) l).getD v 0 := by
          intro e
          have := nodup_at hN (i := R.length) (j := v) (by omega) h2 (hk.trans e)
          omega
        refine ⟨?_, fun u hu1 hu2 m hm e => ?_⟩
        · obtain ⟨m, hm, e⟩ := a
          exact ⟨m, List.mem_cons_of_mem _ hm, e⟩
        · have hm : m ∈ l := by
            rcases List.mem_cons.1 hm with rfl | hm
            · exact absurd e hxv
            · exact hm
          by_cases hu : u = R.length
          · subst hu
            exact ⟨x, List.mem_cons_self, hk.symm, hx m hm⟩
          · obtain ⟨m', h3, h4⟩ := b u (by simp; omega) hu2 m hm e
            exact ⟨m', List.mem_cons_of_mem _ h3, h4⟩
/-- One row's states, in the new numbers. -/
theorem addNew_anew {n : Nat} {l : List Mv} {R row : List Int} (hR : InN n R) (hl : ∀ m ∈ l, 0 ≤ m.2 ∧ m.2 < n) (hs : Sd l) (hrow : row.Nodup) (t : List Int) (ht : row = addNew R l ++ t) :
    addNew (iota R.length) (tidyL (reT row l)) = iota (addNew R l).length := by
  obtain ⟨hSd, hmem⟩ := tidyL_sd (reT row l)
  have hat : ∀ m ∈ l, ∃ j : Nat, j < (addNew R l).length ∧ atOf row m.2 = (j : Int) ∧ (addNew R l).getD j 0 = m.2 := by
    intro m hm
    have hin : m.2 ∈ addNew R l := addNew_mem l R m hm
    obtain ⟨j, hj, e⟩ := List.getElem_of_mem hin
    have hgj : (addNew R l).getD j 0 = m.2 := by rw [List.getD_eq_getElem?_getD, List.getElem?_eq_getElem hj]; exact e
    obtain ⟨j2, h1, h2, h3⟩ := atG_at m.2 row 0 (by rw [ht]; exact List.mem_append_left _ hin)
    have : j2 = j := by
      have hlen : row.length = (addNew R l).length + t.length := by rw [ht]; simp
      refine nodup_at hrow h1 (by omega) ?_
      rw [h3, ht, getD_app hj, hgj]
    subst this
    exact ⟨j2, hj, by unfold atOf; rw [h2]; congr 1; omega, hgj⟩
  have hz : ∀ z ∈ tidyL (reT row l), ∃ m ∈ l, z = (m.1, atOf row m.2) := fun z hz => by
    have := (hmem z).1 hz
    unfold reT at this
    obtain ⟨m, hm, e⟩ := List.mem_map.1 this
    exact ⟨m, hm, e.symm⟩
  have hz' : ∀ m ∈ l, (m.1, atOf row m.2) ∈ tidyL (reT row l) := fun m hm => (hmem _).2 (by unfold reT; exact List.mem_map.2 ⟨m, hm, rfl⟩)
  refine addNew_iota _ _ _ (addNew_len l R) (fun z hzm => ?_) (fun v h1 h2 => ?_) (fun A B y e u h1 h2 => ?_)
  · obtain ⟨m, hm, rfl⟩ := hz z hzm
    obtain ⟨j, h1, h2, _⟩ := hat m hm
    dsimp only
    omega
  · obtain ⟨m, hm, e⟩ := (addNew_ord l R hR hl hs v h1 h2).1
    obtain ⟨j, j1, j2, j3⟩ := hat m hm
    have : j = v := nodup_at (hR.add hl).1 j1 h2 (by rw [j3, e])
    subst this
    exact ⟨_, hz' m hm, j2⟩
  · obtain ⟨m, hm, rfl⟩ := hz y (by rw [e]; simp)
    obtain ⟨j, j1, j2, j3⟩ := hat m hm
    dsimp only at h2
    rw [j2] at h2
    have huj : u < j := by omega
    obtain ⟨m', q1, q2, q3⟩ := (addNew_ord l R hR hl hs j (by omega) j1).2 u h1 huj m hm j3.symm
    obtain ⟨i, i1, i2, i3⟩ := hat m' q1
    have : i = u := nodup_at (hR.add hl).1 i1 (by omega) (by rw [i3, q2])
    subst this
    refine ⟨(m'.1, atOf row m'.2), ?_, i2⟩
    have hin := hz' m' q1
    have hlt : ltM (m'.1, atOf row m'.2) (m.1, atOf row m.2) = true := by
      rw [ltM_iff]
      dsimp only
      omega
    rw [e] at hin hSd
    rcases List.mem_append.1 hin with h | h
    · exact h
    · exfalso
      rcases List.mem_cons.1 h with h | h
      · rw [h] at hlt
        have := (ltM_iff _ _).1 hlt
        omega
      · have h3 := (List.pairwise_cons.1 (List.pairwise_append.1 hSd).2.1).1 _ h
        have := (ltM_iff _ _).1 h3
        have := (ltM_iff _ _).1 hlt
        omega
/-- Rows in order, whose moves lead to states. -/
def SdG (g : Gr) : Prop := ∀ l ∈ g, Sd l
theorem SdG.row {g : Gr} (h : SdG g) (i : Nat) : Sd (g.getD i []) := by
  by_cases hi : i < g.length
  · rw [List.getD_eq_getElem?_getD, List.getElem?_eq_getElem hi, Option.getD_some]
    exact h _ (List.getElem_mem hi)
  · rw [List.getD_eq_getElem?_getD, List.getElem?_eq_none (by omega)]
    exact List.Pairwise.nil
theorem bfs_iota {g : Gr} (hg : OkTo g) (hs : SdG g) (row : List Int) (hrow : row.Nodup) (h : Gr) (hh : h.length = row.length) (hr : ∀ i, i < row.length → h.getD i [] = tidyL (reT row (g.getD (row.getD i 0).toNat []))) :
    ∀ (f f2 i : Nat) (R : List Int), InN g.length R → bfs g f i R = row → g.length + 1 ≤ i + f → h.length + 1 ≤ i + f2 → bfs h f2 i (iota R.length) = iota row.length
  | 0, f2, i, R, hR, e, hf, hf2 => by
    have := hR.len
    simp only [bfs] at e
    subst e
    cases f2 with
    | zero => simp [bfs]
    | succ f2 => simp only [bfs, iota_len]; rw [if_neg (by omega)]
  | f + 1, f2, i, R, hR, e, hf, hf2 => by
    simp only [bfs] at e
    by_cases hi : i < R.length
    · rw [if_pos hi] at e
      obtain ⟨t, ht⟩ := bfs_pre g f (i + 1) (addNew R (g.getD (R.getD i 0).toNat []))
      rw [e] at ht
      obtain ⟨t0, ht0⟩ := addNew_pre (g.getD (R.getD i 0).toNat []) R
      have hlen : R.length ≤ row.length := by rw [ht, ht0]; simp
      cases f2 with
      | zero => omega
      | succ f2 =>
        simp only [bfs, iota_len]
        rw [if_pos hi, iota_at hi]
        have hri : row.getD i 0 = R.getD i 0 := by rw [ht, ht0, List.append_assoc, getD_app hi]
        have hrw : h.getD (((i : Nat) : Int)).toNat [] = tidyL (reT row (g.getD (R.getD i 0).toNat [])) := by
          rw [show (((i : Nat) : Int)).toNat = i by omega, hr i (by omega), hri]
        rw [hrw, addNew_anew hR (hg.row _) (hs.row _) hrow t ht]
        exact bfs_iota hg hs row hrow h hh hr f f2 (i + 1) _ (hR.add (hg.row _)) e (by omega) (by omega)
    · rw [if_neg hi] at e
      subst e
      cases f2 with
      | zero => simp [bfs]
      | succ f2 => simp only [bfs, iota_len]; rw [if_neg hi]
theorem atOf_iota {n : Nat} {x : Int} (h : 0 ≤ x ∧ x < n) : atOf (iota n) x = x := by
  obtain ⟨j, h1, h2, h3⟩ := atG_at x (iota n) 0 (iota_mem.2 h)
  rw [iota_len] at h1
  rw [iota_at h1] at h3
  unfold atOf
  rw [h2]
  omega
theorem tidy_sd {l : List Mv} (h : Sd l) : tidyL l = l := Sd_uniq _ _ (tidyL_sd l).1 h (tidyL_sd l).2
theorem part_okTo {g : Gr} (hg : OkTo g) (h0 : 0 < g.length) : OkTo (partG g 0) := by
  intro l hl m hm
  unfold partG at hl
  obtain ⟨r, hr, rfl⟩ := List.mem_map.1 hl
  have hm2 := (tidyL_sd _).2 m |>.1 hm
  unfold reT at hm2
  obtain ⟨m0, hm0, rfl⟩ := List.mem_map.1 hm2
  have hc := reach_closed hg h0 r hr m0 hm0
  obtain ⟨j, h1, h2, _⟩ := atG_at m0.2 (reach g 0) 0 hc
  rw [part_len]
  unfold atOf
  rw [h2]
  dsimp only
  omega
theorem part_sd (g : Gr) : SdG (partG g 0) := by
  intro l hl
  unfold partG at hl
  obtain ⟨r, hr, rfl⟩ := List.mem_map.1 hl
  exact (tidyL_sd _).1
theorem part_reach {g : Gr} (hg : OkTo g) (hs : SdG g) (h0 : 0 < g.length) : reach (partG g 0) 0 = iota (reach g 0).length := by
  have hN : (reach g 0).Nodup := (InN.bfs hg (g.length + 1) 0 (InN.one (s := 0) (by omega))).1
  exact bfs_iota hg hs (reach g 0) hN (partG g 0) (part_len g) (fun i hi => part_row g hi) (g.length + 1) ((partG g 0).length + 1) 0 [0] (InN.one (by omega)) rfl (by omega) (by omega)
theorem part_part {g : Gr} (hg : OkTo g) (hs : SdG g) (h0 : 0 < g.length) : partG (partG g 0) 0 = partG g 0 := by
  have hr := part_reach hg hs h0
  have hk := part_okTo hg h0
  have hS := part_sd g
  have hl := part_len g
  generalize partG g 0 = h at *
  unfold partG
  rw [hr, ← hl]
  refine List.ext_getElem (by simp [iota]) fun i h1 h2 => ?_
  simp only [iota, List.getElem_map, List.getElem_range]
  have e : h.getD (((i : Nat) : Int)).toNat [] = h[i] := by
    rw [show (((i : Nat) : Int)).toNat = i by omega, List.getD_eq_getElem?_getD, List.getElem?_eq_getElem h2]
    rfl
  rw [e]
  have hri : reT (List.map (fun i : Nat => (i : Int)) (List.range h.length)) h[i] = h[i] := by
    unfold reT
    refine (List.map_congr_left fun m hm => ?_).trans (List.map_id _)
    have := atOf_iota (n := h.length) (hk _ (List.getElem_mem h2) m hm)
    unfold iota at this
    rw [this]
    rfl
  rw [hri]
  exact tidy_sd (hS _ (List.getElem_mem h2))
end Go.Am
end
section
set_option maxRecDepth 10000
set_option maxHeartbeats 2000000
set_option linter.unusedSimpArgs false
set_option linter.unusedVariables false
namespace Go.Am
open Go.Proofs Go.Sort Go.Shelf
/-! impl.slipFrom -/
def tauL (l : List Mv) : List Mv := l.filter fun m => decide (m.1 = 0)
def tauG (g : Gr) : Gr := g.map tauL
def zs (l : List Int) : List Mv := l.map fun x => (0, x)
def slip (g : Gr) (L : List Int) : List Int := sortL (bfs (tauG g) (g.length + 1) 0 (addNew [] (zs L)))
end Go.Am
end
section
set_option linter.unusedSimpArgs false
set_option linter.unusedVariables false
namespace Go.Am
open Go.Proofs Go.Sort Go.Shelf
/-! what a graph does without being seen, and words -/
def rowZ (g : Gr) (x : Int) : List Mv := g.getD x.toNat []
inductive Tau (g : Gr) : Int → Int → Prop
  | refl (x : Int) : Tau g x x
  | step (x y : Int) (m : Mv) : m ∈ rowZ g x → m.1 = 0 → Tau g m.2 y → Tau g x y
inductive Wk (g : Gr) : Int → List Int → Int → Prop
  | nil (x y : Int) : Tau g x y → Wk g x [] y
  | cons (x u y : Int) (m : Mv) (w : List Int) : Tau g x u → m ∈ rowZ g u → Wk g m.2 w y → Wk g x (m.1 :: w) y
theorem Tau.trans {g : Gr} {x y z : Int} (h : Tau g x y) (k : Tau g y z) : Tau g x z := by
  induction h with
  | refl x => exact k
  | step x y m h1 h2 _ ih => exact .step x z m h1 h2 (ih k)
theorem Wk.pre {g : Gr} {x y z : Int} {w : List Int} (h : Tau g x y) (k : Wk g y w z) : Wk g x w z := by
  cases k with
  | nil _ _ t => exact .nil _ _ (h.trans t)
  | cons _ u _ m w t h1 h2 => exact .cons _ u _ m w (h.trans t) h1 h2
def hops (a : Int) (l : List Mv) : List Int := (l.filter fun m => decide (m.1 = a)).map Prod.snd
def aft (g : Gr) (S : List Int) (a : Int) : List Int := slip g (S.flatMap fun s => hops a (rowZ g s))
def behind (g : Gr) : List Int → List Int → List Int
  | S, [] => S
  | S, a :: w => behind g (aft g S a) w
end Go.Am
end
section
set_option maxRecDepth 10000
set_option maxHeartbeats 4000000
set_option linter.unusedSimpArgs false
set_option linter.unusedVariables false
namespace Go.Am
open Go.Proofs Go.Sort Go.Shelf
/-! spec.l12Pairs: the moves of two states -/
end Go.Am
end
section
set_option maxRecDepth 10000
set_option maxHeartbeats 4000000
set_option linter.unusedSimpArgs false
set_option linter.unusedVariables false
namespace Go.Am
open Go.Proofs Go.Sort Go.Shelf
end Go.Am
end
section
set_option maxRecDepth 10000
set_option maxHeartbeats 4000000
set_option linter.unusedSimpArgs false
set_option linter.unusedVariables false
namespace Go.Am
open Go.Proofs Go.Sort Go.Shelf
/-! impl.GraphSync's moves of two states -/
end Go.Am
end
section
set_option maxRecDepth 10000
set_option maxHeartbeats 4000000
set_option linter.unusedSimpArgs false
set_option linter.unusedVariables false
namespace Go.Am
open Go.Proofs Go.Sort Go.Shelf
end Go.Am
end
section
set_option maxHeartbeats 2000000
set_option linter.unusedSimpArgs false
set_option linter.unusedVariables false
namespace Go.Am
open Go.Proofs Go.Sort Go.Shelf
/-! what pairs of graphs do -/
theorem rowOk_sd {n : Nat} : ∀ {l : List Mv} {p : Option Mv}, Sd (p.toList ++ l) → (∀ m ∈ l, mvOk n m = true) → rowOk n p l = true
  | [], _, _, _ => rfl
  | x :: l, p, hs, hm => by
    simp only [rowOk, Bool.and_eq_true]
    refine ⟨hm x List.mem_cons_self, ?_, rowOk_sd (p := some x) ?_ fun m hml => hm m (List.mem_cons_of_mem _ hml)⟩
    · cases p with
      | none => rfl
      | some q => exact (List.pairwise_cons.1 hs).1 x List.mem_cons_self
    · cases p with
      | none => exact hs
      | some q => exact (List.pairwise_cons.1 hs).2
theorem atOf_nat {x : Int} {row : List Int} (h : x ∈ row) : ∃ j : Nat, j < row.length ∧ atOf row x = (j : Int) ∧ row.getD j 0 = x := by
  obtain ⟨h1, h2⟩ := atOf_at h
  obtain ⟨j, h3, h4, h5⟩ := atG_at x row 0 h
  exact ⟨j, h3, by rw [show atOf row x = atG 0 row x from rfl, h4]; simp, h5⟩
theorem gr_mem {g : Gr} {k : Nat} (h : k < g.length) : g.getD k [] ∈ g := by
  rw [List.getD_eq_getElem?_getD, List.getElem?_eq_getElem h, Option.getD_some]; exact List.getElem_mem h
/-- The part that one comes to is a graph. -/
theorem part_ok {g : Gr} (hg : OkTo g) (h0 : 0 < g.length) (ha : ∀ l ∈ g, ∀ m ∈ l, actOk m.1 = true) (h60 : (reach g 0).length ≤ 60) : grOk (partG g 0) = true := by
  have hr : InN g.length (reach g 0) := InN.bfs hg _ _ (InN.one (by omega))
  have hf := reach_first g
  simp only [grOk, Bool.and_eq_true, decide_eq_true_eq, List.all_eq_true, part_len]
  refine ⟨by omega, h60, fun l hl => ?_⟩
  obtain ⟨i, hi, rfl⟩ := List.getElem_of_mem hl
  have e : (partG g 0)[i] = (partG g 0).getD i [] := by rw [List.getD_eq_getElem?_getD, List.getElem?_eq_getElem hi]; rfl
  rw [part_len] at hi
  rw [e]
  refine rowOk_sd (p := none) ?_ fun z hz => ?_
  · rw [part_row g hi]; exact (tidyL_sd _).1
  · obtain ⟨m, hm, rfl⟩ := (part_mem g hi z).1 hz
    have hx : (reach g 0).getD i 0 ∈ reach g 0 := getD_mem hi
    have hin := hr.2 _ hx
    obtain ⟨j, hj, ej, _⟩ := atOf_nat (reach_closed hg h0 _ hx m hm)
    simp only [mvOk, Bool.and_eq_true, decide_eq_true_eq]
    exact ⟨ha _ (gr_mem (by omega)) m hm, by omega, by omega⟩
section
variable {nm : Int → Bool} {g h : Gr}
end
theorem made_two {q : Gr} (h : (made q).2 = true) : made q = (partG q 0, true) ∧ (reach q 0).length ≤ 60 := by
  unfold made at h ⊢
  split at h
  · rename_i h60; exact ⟨by rw [if_pos h60], h60⟩
  · cases h
end Go.Am
end
section
set_option maxRecDepth 10000
set_option maxHeartbeats 1000000
set_option linter.unusedSimpArgs false
set_option linter.unusedVariables false
namespace Go.Am
open Go.Proofs Go.Sort Go.Shelf
end Go.Am
end
section
set_option maxRecDepth 10000
set_option maxHeartbeats 1000000
set_option linter.unusedSimpArgs false
set_option linter.unusedVariables false
namespace Go.Am
open Go.Proofs Go.Sort Go.Shelf
end Go.Am
end
section
set_option maxRecDepth 10000
set_option maxHeartbeats 1000000
set_option linter.unusedSimpArgs false
set_option linter.unusedVariables false
namespace Go.Am
open Go.Proofs Go.Sort Go.Shelf
end Go.Am
end
section
set_option maxRecDepth 10000
set_option maxHeartbeats 1000000
set_option linter.unusedSimpArgs false
set_option linter.unusedVariables false
namespace Go.Am
open Go.Proofs Go.Sort Go.Shelf
def vei (bs : List Bool) (x : Mv) : Mv := if namd bs x.1 = true then (0, x.2) else x
def veiR (bs : List Bool) (l : List Mv) : List Mv := tidyL (l.map (vei bs))
def veilG (bs : List Bool) (g : Gr) : Gr := g.map (veiR bs)
theorem loopVe0 (bs : List Bool) (hb : bs.length = 4) (Y A : PV) (YL : Objs) (xs : List PV) (hY : OwnS 51 1 Y YL xs) (hA : ∀ f n, known f n A = true) (gl j N : Nat) (hN : N ≤ 1048576) : ∀ (rest done : List Mv), (∀ m ∈ rest, actOk m.1 = true) → N = done.length + rest.length →
    loopI G [1, 4, 6, 9, 23, 24, 25, 31, 32, 33] [4, 21, 30, 51, 54] c26l0 ⟨[(1, .sl false 1 (bools bs)), (4, .ref (0, 4) 1 0 0), (6, Y), (9, .own (0, 30) N), (23, A), (24, .i gl), (25, .i j), (31, .own (0, 30) N), (32, .i N), (33, .i done.length)], (4, .box [.nils]) :: (30, .row 2 ((done.map (vei bs) ++ rest).map mvP)) :: YL, []⟩ =
      some (.exit 2, ⟨[(1, .sl false 1 (bools bs)), (4, .ref (0, 4) 1 0 0), (6, Y), (9, .own (0, 30) N), (23, A), (24, .i gl), (25, .i j), (31, .own (0, 30) N), (32, .i N), (33, .i N), (34, .b false)], (4, .box [.nils]) :: (30, .row 2 (((done ++ rest).map (vei bs)).map mvP)) :: YL, []⟩)
  | [], done, hr, hl => by
    have hl2 : done.length = N := by simpa using hl.symm
    simp only [List.append_nil]
    rw [hl2]
    generalize hX : (done.map (vei bs)).map mvP = X
    rw [loopI_eq]
    rcases hY with ⟨rfl, rfl, rfl⟩ | ⟨hxs, rfl, rfl⟩
    · simp [r26l0, b26l0, hA]
    · simp [r26l0, b26l0, hA]
  | x :: rest, done, hr, hl => by
    simp only [List.length_cons] at hl
    have hlt : (done.length : Int) < N := by omega
    have hlt2 : done.length < N := by omega
    have hw : IntKind.i64.wrap ((done.length : Int) + 1) = (done.length : Int) + 1 := wr (by omega)
    have hat : nth ((done.map (vei bs) ++ x :: rest).map mvP) done.length = some (mvP x) := by
      have := mv_at (done.map (vei bs)) x rest
      simpa using this
    have hml : ((done.map (vei bs) ++ x :: rest).map mvP).length = N := by simp; omega
    have hst : ((done.map (vei bs) ++ x :: rest).map mvP).set done.length (.agg [.i 0, .i x.2]) = (done.map (vei bs) ++ (0, x.2) :: rest).map mvP := by simp [mvP]
    have hnm := eqNamedI x.1 bs (hr x List.mem_cons_self) hb
    have hn := loopVe0 bs hb Y A YL xs hY hA gl j N hN rest (done ++ [x]) (fun m hm => hr m (List.mem_cons_of_mem _ hm)) (by simp; omega)
    have e1 : (done ++ [x]).map (vei bs) ++ rest = done.map (vei bs) ++ vei bs x :: rest := by simp
    have e2 : done ++ [x] ++ rest = done ++ x :: rest := by simp
    rw [e1, e2] at hn
    simp only [List.length_append, List.length_cons, List.length_nil, Int.natCast_add, show ((0 + 1 : Nat) : Int) = 1 from rfl] at hn
    simp only [mvP] at hat
    generalize hF : ((done ++ x :: rest).map (vei bs)).map mvP = X3 at hn ⊢
    cases hv : namd bs x.1 with
    | true =>
      rw [hv] at hnm
      have hvx : vei bs x = (0, x.2) := by simp [vei, hv]
      rw [hvx] at hn
      generalize hX : (done.map (vei bs) ++ x :: rest).map mvP = X at hat hml hst ⊢
      generalize hX2 : (done.map (vei bs) ++ (0, x.2) :: rest).map mvP = X2 at hst hn
      rw [loopI_eq]
      rcases hY with ⟨rfl, rfl, rfl⟩ | ⟨hxs, rfl, rfl⟩
      · simp [r26l0, b26l0, hA, hlt, hlt2, hw, hat, hml, hst, hnm, unAgg]
        exact hn
      · simp [r26l0, b26l0, hA, hlt, hlt2, hw, hat, hml, hst, hnm, unAgg]
        exact hn
    | false =>
      rw [hv] at hnm
      have hvx : vei bs x = x := by simp [vei, hv]
      rw [hvx] at hn
      generalize hX : (done.map (vei bs) ++ x :: rest).map mvP = X at hat hml hn ⊢
      rw [loopI_eq]
      rcases hY with ⟨rfl, rfl, rfl⟩ | ⟨hxs, rfl, rfl⟩
      · simp [r26l0, b26l0, hA, hlt, hlt2, hw, hat, hml, hnm, unAgg]
        exact hn
      · simp [r26l0, b26l0, hA, hlt, hlt2, hw, hat, hml, hnm, unAgg]
        exact hn
theorem loopVe1 (bs : List Bool) (hb : bs.length = 4) (g : Gr) (h60 : g.length ≤ 60) (hs : SmallG g) (hac : ∀ l ∈ g, ∀ m ∈ l, actOk m.1 = true) : ∀ (rest done : Gr), g = done ++ rest → ∀ Y YL, OwnS 51 1 Y YL (encGs false true (veilG bs done)) →
    ∃ Y' YL', OwnS 51 1 Y' YL' (encGs false true (veilG bs g)) ∧
    loopI G [1, 4, 6, 23, 24, 25] [4, 21, 51, 54] c26l1 ⟨[(1, .sl false 1 (bools bs)), (4, .ref (0, 4) 1 0 0), (6, Y), (23, .sl false 1 (encGs false false g)), (24, .i g.length), (25, .i done.length)], (4, .box [.nils]) :: YL, []⟩ =
      some (.exit 0, ⟨[(1, .sl false 1 (bools bs)), (4, .ref (0, 4) 1 0 0), (6, Y'), (23, .sl false 1 (encGs false false g)), (24, .i g.length), (25, .i g.length), (26, .b false)], (4, .box [.nils]) :: YL', []⟩)
  | [], done, hd, Y, YL, hY => by
    rw [List.append_nil] at hd
    subst hd
    refine ⟨Y, YL, hY, ?_⟩
    rw [loopI_eq]
    rcases hY with ⟨h1, rfl, rfl⟩ | ⟨h1, rfl, rfl⟩
    · simp [r26l1, b26l1]
    · simp [r26l1, b26l1]
  | x :: rest, done, hd, Y, YL, hY => by
    have hrl : g.length = done.length + (rest.length + 1) := by rw [hd]; simp
    have hlt : (done.length : Int) < g.length := by omega
    have hlt2 : done.length < g.length := by omega
    have hw : IntKind.i64.wrap ((done.length : Int) + 1) = (done.length : Int) + 1 := wr (by omega)
    have hdl : done.length ≤ 4294967295 := by omega
    have hat : nth (encGs false false g) done.length = some (.sl false 2 (x.map mvP)) := by rw [hd]; simpa using gr_at false false done x rest
    have hxg : x ∈ g := by rw [hd]; simp
    have hx : x.length ≤ 1048576 := hs.2 x hxg
    have hcl : cloneMv [.sl false 2 (x.map mvP)] [] = some (.sl true 2 (x.map mvP), []) := by
      have : x.length ≤ 4294967296 := by omega
      simp [cloneMv, this]
    have hhl : (veilG bs done).length = done.length := by simp [veilG]
    have hnew : encGs false true (veilG bs (done ++ [x])) = encGs false true (veilG bs done) ++ [.sl true 2 ((veiR bs x).map mvP)] := by simp [encGs, veilG]
    have hYn : OwnS 51 1 (.own (0, 51) (done.length + 1)) [(51, .row 1 (encGs false true (veilG bs done) ++ [.sl true 2 ((veiR bs x).map mvP)]))] (encGs false true (veilG bs (done ++ [x]))) := by
      refine .inr ⟨by rw [hnew]; simp, ?_, ?_⟩
      · rw [hnew]; simp [hhl]
      · rw [hnew]
    obtain ⟨Y', YL', hY', hn⟩ := loopVe1 bs hb g h60 hs hac rest (done ++ [x]) (by simpa using hd) _ _ hYn
    refine ⟨Y', YL', hY', ?_⟩
    clear hY'
    simp only [List.length_append, List.length_cons, List.length_nil, Int.natCast_add, show ((0 + 1 : Nat) : Int) = 1 from rfl] at hn
    have hEl : (encGs false false g).length = g.length := by simp
    have hns := noShares_mv (veiR bs x)
    have hns2 := noShares_mv x
    have h0 := loopVe0 bs hb Y (.sl false 1 (encGs false false g)) YL _ hY (by intro f n; simp) g.length done.length x.length hx x [] (hac x hxg) (by simp)
    simp only [List.map_nil, List.nil_append, List.length_nil, show ((0 : Nat) : Int) = 0 from rfl] at h0
    have hDl : (encGs false true (veilG bs done)).length = done.length := by simp [hhl]
    have hd0 : encGs false true (veilG bs done) = [] → done = [] := fun e => by
      have := congrArg List.length e
      rw [hDl] at this
      exact List.length_eq_zero_iff.1 this
    have hvl : ((x.map (vei bs)).map mvP).length = x.length := by simp
    have hvl2 : (x.map (vei bs)).length = x.length := by simp
    have hvr : veiR bs x = tidyL (x.map (vei bs)) := rfl
    rw [hvr] at hn hns
    generalize hD : encGs false true (veilG bs done) = D at hY hn hDl hd0 h0
    generalize hE : encGs false false g = E at hat hEl hn h0 ⊢
    generalize hV : x.map (vei bs) = V at h0 hvl hvl2 hn hns
    rw [loopI_eq]
    rcases hY with ⟨h1, rfl, rfl⟩ | ⟨h1, rfl, rfl⟩
    · have hd1 := hd0 h1
      subst hd1
      subst h1
      have hlt0 : 0 < g.length := by omega
      have ht := eqTidy (0, 30) V [[(4, .box [.nils]), (30, .row 2 (V.map mvP))]] (by simp) (by simp [getS, getO]) (by rw [hvl2]; omega)
      rw [hvl2] at ht
      simp [setS, setO] at ht
      simp at h0 hn hat
      rcases ht with ⟨hts, ht⟩ | ht
      · have hTl : (tidyL V).length = x.length := by rw [hts]; simp [srtM, hvl2]
        simp [r26l1, b26l1, hlt, hlt2, hlt0, hw, hat, hEl, wr1, eqCloneM, hcl, hns, hns2, h0, hvl2, ht, hTl]
        exact hn
      · simp [r26l1, b26l1, hlt, hlt2, hlt0, hw, hat, hEl, wr1, eqCloneM, hcl, hns, hns2, h0, hvl2, ht]
        exact hn
    · have ht := eqTidy (0, 30) V [[(4, .box [.nils]), (30, .row 2 (V.map mvP)), (51, .row 1 D)]] (by simp) (by simp [getS, getO]) (by rw [hvl2]; omega)
      rw [hvl2] at ht
      simp [setS, setO] at ht
      rw [hDl] at h0 ⊢
      rcases ht with ⟨hts, ht⟩ | ht
      · have hTl : (tidyL V).length = x.length := by rw [hts]; simp [srtM, hvl2]
        simp [r26l1, b26l1, hlt, hlt2, hw, hat, hEl, eqCloneM, hcl, hns, hns2, h0, hvl2, ht, hTl, hDl, hdl]
        exact hn
      · simp [r26l1, b26l1, hlt, hlt2, hw, hat, hEl, eqCloneM, hcl, hns, hns2, h0, hvl2, ht, hDl, hdl]
        exact hn
end Go.Am
end
section
set_option maxRecDepth 10000
set_option maxHeartbeats 1000000
set_option linter.unusedSimpArgs false
set_option linter.unusedVariables false
namespace Go.Am
open Go.Proofs Go.Sort Go.Shelf
theorem grOk_act {g : Gr} (h : grOk g = true) : ∀ l ∈ g, ∀ m ∈ l, actOk m.1 = true := by
  simp only [grOk, Bool.and_eq_true, decide_eq_true_eq, List.all_eq_true] at h
  intro l hl m hm
  have := rowOk_mem (h.2.2 l hl) m hm
  simp only [mvOk, Bool.and_eq_true] at this
  exact this.1
theorem veilG_to {bs : List Bool} {g : Gr} (h : OkTo g) : OkTo (veilG bs g) := by
  intro l hl m hm
  have hn : (veilG bs g).length = g.length := by simp [veilG]
  rw [hn]
  simp only [veilG, List.mem_map] at hl
  obtain ⟨r, hr, rfl⟩ := hl
  have hm := ((tidyL_sd _).2 m).1 hm
  obtain ⟨y, hy, rfl⟩ := List.mem_map.1 hm
  have hy2 := h r hr y hy
  unfold vei
  split
  · exact hy2
  · exact hy2
theorem veilG_small {bs : List Bool} {g : Gr} (h : SmallG g) : SmallG (veilG bs g) := by
  refine ⟨by simpa [veilG] using h.1, fun l hl => ?_⟩
  simp only [veilG, List.mem_map] at hl
  obtain ⟨r, hr, rfl⟩ := hl
  have := tidyL_len (r.map (vei bs))
  have := h.2 r hr
  simp only [List.length_map] at *
  unfold veiR
  omega
def graphVeil (g : Gr) (bs : List Bool) : Gr × Bool := if grOk g && decide (bs.length = 4) then made (veilG bs g) else ([], false)
theorem eqGraphVeilI (g : Gr) (hs : SmallG g) (hf : FitG g) (bs : List Bool) : callI G 26 [encG false false g, .sl false 1 (bools bs)] [] = some (.tup [encG true true (graphVeil g bs).1, .b (graphVeil g bs).2], []) := by
  have h1 := eqNamesOk bs
  have h2 := eqOkI g hf
  simp only [encG, encM_f] at h2 ⊢
  rw [callI_eq]
  by_cases c2 : grOk g = true
  · by_cases c1 : bs.length = 4
    · obtain ⟨q1, q2, q3⟩ := grOk_to c2
      obtain ⟨Y, YL, hY, l0⟩ := loopVe1 bs c1 g q3 hs (grOk_act c2) g [] rfl .nils [] (.inl ⟨rfl, rfl, rfl⟩)
      have hal : (veilG bs g).length = g.length := by simp [veilG]
      have hp := eqPartOf _ (veilG bs g) (encR_G false false _) (veilG_to q1) (veilG_small hs) (by omega)
      have hga : graphVeil g bs = made (veilG bs g) := by simp [graphVeil, c1, c2]
      rw [hga]
      generalize hm : made (veilG bs g) = m at hp ⊢
      obtain ⟨mg, mb⟩ := m
      simp only [encG] at hp ⊢
      simp only [List.length_nil, show ((0 : Nat) : Int) = 0 from rfl] at l0
      have efl : fals (encGs false true (veilG bs g)) = encGs false false (veilG bs g) := fals_encGs _ _ _
      have hns := noShares_encGs true mg
      have hne : encGs false true (veilG bs g) ≠ [] := by
        intro e
        have := congrArg List.length e
        rw [encGs_len, hal] at this
        simp at this
        rw [this] at q2; simp at q2
      rcases hY with ⟨e, _⟩ | ⟨_, rfl, rfl⟩
      · exact absurd e hne
      rcases encM_two true true mg with ⟨e, _⟩ | e
      · rw [e] at hp ⊢
        simp [body1_eq _ _ (gp 26) g26, c26, a26, h1, h2, c1, c2, l0, hal, efl, hp, hns]
      · rw [e] at hp ⊢
        simp [body1_eq _ _ (gp 26) g26, c26, a26, h1, h2, c1, c2, l0, hal, efl, hp, hns]
    · have hga : graphVeil g bs = ([], false) := by simp [graphVeil, c1]
      rw [hga]
      simp [body1_eq _ _ (gp 26) g26, c26, a26, h1, h2, c1, c2]
  · have c2 : grOk g = false := by simpa using c2
    have hga : graphVeil g bs = ([], false) := by simp [graphVeil, c2]
    rw [hga]
    simp [body1_eq _ _ (gp 26) g26, c26, a26, h2, c2]
end Go.Am
end
section
set_option maxRecDepth 10000
set_option maxHeartbeats 1000000
set_option linter.unusedSimpArgs false
set_option linter.unusedVariables false
namespace Go.Am
open Go.Proofs Go.Sort Go.Shelf
theorem loopVs0 (bs : List Bool) (hb : bs.length = 4) (E : List PV) (g : Gr) (hE : EncR false E g) (Y : PV) (YL : Objs) (xs : List PV) (hY : OwnS 61 1 Y YL xs) (j : Nat) (hj : j < g.length) (hjb : j ≤ 1048576) (L : List Mv) (hL : g.getD j [] = L) (hLl : L.length ≤ 1048576) (hac : ∀ m ∈ L, actOk m.1 = true) : ∀ (rest done : List Mv), L = done ++ rest →
    loopI G [1, 2, 4, 6, 7, 8, 9] [2, 4, 6, 28, 55, 61, 64] c27l0 ⟨[(1, .sl false 1 (bools bs)), (2, .ref (0, 2) 1 0 0), (4, .ref (0, 4) 1 0 0), (6, .ref (0, 6) 1 0 0), (7, .i j), (8, owP 55 (done.map (vei bs))), (9, .i done.length)], (2, .box [PV.sl false 1 E]) :: (4, .box [.nils]) :: (6, .box [Y]) :: (owL 55 (done.map (vei bs)) ++ YL), []⟩ =
      some (.exit 2, ⟨[(1, .sl false 1 (bools bs)), (2, .ref (0, 2) 1 0 0), (4, .ref (0, 4) 1 0 0), (6, .ref (0, 6) 1 0 0), (7, .i j), (8, owP 55 (L.map (vei bs))), (9, .i L.length), (36, .b false)], (2, .box [PV.sl false 1 E]) :: (4, .box [.nils]) :: (6, .box [Y]) :: (owL 55 (L.map (vei bs)) ++ YL), []⟩)
  | [], done, hd => by
    rw [List.append_nil] at hd
    subst hd
    have hEl := hE.1
    obtain ⟨nl, hat⟩ := hE.2 j hj
    rw [hL] at hat
    have hji : (j : Int) < g.length := by omega
    clear hE
    rw [loopI_eq]
    rcases encL_two nl false L with ⟨e, e2⟩ | e
    · rw [e] at hat
      subst e2
      rcases hY with ⟨rfl, rfl, rfl⟩ | ⟨hxs, rfl, rfl⟩
      · simp [r27l0, b27l0, hEl, hj, hji, hat]
      · simp [r27l0, b27l0, hEl, hj, hji, hat]
    · rw [e] at hat
      by_cases hd : L = []
      · subst hd
        simp at hat
        rcases hY with ⟨rfl, rfl, rfl⟩ | ⟨hxs, rfl, rfl⟩
        · simp [r27l0, b27l0, hEl, hj, hji, hat]
        · simp [r27l0, b27l0, hEl, hj, hji, hat]
      · have hd2 : L.map (vei bs) ≠ [] := by simp [hd]
        rw [owP_ne hd2, owL_ne hd2]
        rcases hY with ⟨rfl, rfl, rfl⟩ | ⟨hxs, rfl, rfl⟩
        · simp [r27l0, b27l0, hEl, hj, hji, hat]
        · simp [r27l0, b27l0, hEl, hj, hji, hat]
  | m :: rest, done, hd => by
    have hEl := hE.1
    obtain ⟨nl, hat⟩ := hE.2 j hj
    rw [hL] at hat
    have hji : (j : Int) < g.length := by omega
    have hen : encL nl false L = .sl false 2 (L.map mvP) := encL_ne (by rw [hd]; simp)
    rw [hen] at hat
    have hLl2 : L.length = done.length + (rest.length + 1) := by rw [hd]; simp
    have hlt : (done.length : Int) < L.length := by omega
    have hlt2 : done.length < L.length := by omega
    have hw : IntKind.i64.wrap ((done.length : Int) + 1) = (done.length : Int) + 1 := wr (by omega)
    have hhl : (done.map (vei bs)).length = done.length := by simp
    have hdl : done.length ≤ 4294967295 := by omega
    have hat2 : nth (L.map mvP) done.length = some (mvP m) := by rw [hd]; exact mv_at done m rest
    have hnm := eqNamedS m.1 bs (hac m (by rw [hd]; simp)) hb
    have hn := loopVs0 bs hb E g hE Y YL xs hY j hj hjb L hL hLl hac rest (done ++ [m]) (by simpa using hd)
    have hml : (L.map mvP).length = L.length := by simp
    have hh : (done ++ [m]).map (vei bs) = done.map (vei bs) ++ [vei bs m] := by simp
    rw [hh] at hn
    simp only [List.length_append, List.length_cons, List.length_nil, Int.natCast_add, show ((0 + 1 : Nat) : Int) = 1 from rfl] at hn
    clear hE hh
    generalize hM : L.map mvP = M at hat hat2 hml
    have hHd : done.map (vei bs) = [] → done = [] := fun e => by simpa using e
    generalize hH : done.map (vei bs) = H at hn hhl hHd ⊢
    generalize hH2 : L.map (vei bs) = H2 at hn ⊢
    simp only [mvP] at hat2
    rw [loopI_eq]
    cases hv : namd bs m.1 with
    | true =>
      rw [hv] at hnm
      have hvx : vei bs m = (0, m.2) := by simp [vei, hv]
      rw [hvx] at hn
      by_cases hdn : H = []
      · have hd1 := hHd hdn
        subst hd1
        subst hdn
        simp [mvP] at hn hat2
        have hlt0 : 0 < L.length := by omega
        rcases hY with ⟨rfl, rfl, rfl⟩ | ⟨hxs, rfl, rfl⟩
        · simp [r27l0, b27l0, hEl, hj, hji, hat, hat2, hml, hlt, hlt2, hlt0, unAgg, hw, wr1, hnm]
          simpa using hn
        · simp [r27l0, b27l0, hEl, hj, hji, hat, hat2, hml, hlt, hlt2, hlt0, unAgg, hw, wr1, hnm]
          exact hn
      · rw [owP_ne hdn, owL_ne hdn]
        simp [mvP] at hn
        rcases hY with ⟨rfl, rfl, rfl⟩ | ⟨hxs, rfl, rfl⟩
        · simp [r27l0, b27l0, hEl, hj, hji, hat, hat2, hml, hlt, hlt2, unAgg, hw, hhl, hdl, hnm]
          simpa [hhl] using hn
        · simp [r27l0, b27l0, hEl, hj, hji, hat, hat2, hml, hlt, hlt2, unAgg, hw, hhl, hdl, hnm]
          simpa [hhl] using hn
    | false =>
      rw [hv] at hnm
      have hvx : vei bs m = m := by simp [vei, hv]
      rw [hvx] at hn
      by_cases hdn : H = []
      · have hd1 := hHd hdn
        subst hd1
        subst hdn
        simp [mvP] at hn hat2
        have hlt0 : 0 < L.length := by omega
        rcases hY with ⟨rfl, rfl, rfl⟩ | ⟨hxs, rfl, rfl⟩
        · simp [r27l0, b27l0, hEl, hj, hji, hat, hat2, hml, hlt, hlt2, hlt0, unAgg, hw, wr1, hnm]
          simpa using hn
        · simp [r27l0, b27l0, hEl, hj, hji, hat, hat2, hml, hlt, hlt2, hlt0, unAgg, hw, wr1, hnm]
          exact hn
      · rw [owP_ne hdn, owL_ne hdn]
        simp [mvP] at hn
        rcases hY with ⟨rfl, rfl, rfl⟩ | ⟨hxs, rfl, rfl⟩
        · simp [r27l0, b27l0, hEl, hj, hji, hat, hat2, hml, hlt, hlt2, unAgg, hw, hhl, hdl, hnm]
          simpa [hhl] using hn
        · simp [r27l0, b27l0, hEl, hj, hji, hat, hat2, hml, hlt, hlt2, unAgg, hw, hhl, hdl, hnm]
          simpa [hhl] using hn
end Go.Am
end
section
set_option maxRecDepth 10000
set_option maxHeartbeats 1000000
set_option linter.unusedSimpArgs false
set_option linter.unusedVariables false
namespace Go.Am
open Go.Proofs Go.Sort Go.Shelf
theorem loopVs1 (bs : List Bool) (hb : bs.length = 4) (E : List PV) (g : Gr) (hE : EncR false E g) (h60 : g.length ≤ 60) (hs : SmallG g) (hac : ∀ l ∈ g, ∀ m ∈ l, actOk m.1 = true) : ∀ (rest done : Gr), g = done ++ rest → ∀ Y YL, OwnS 61 1 Y YL (encGs true true (veilG bs done)) →
    ∃ Y' YL', OwnS 61 1 Y' YL' (encGs true true (veilG bs g)) ∧
    loopI G [1, 2, 4, 6, 7] [2, 4, 6, 61, 64] c27l1 ⟨[(1, .sl false 1 (bools bs)), (2, .ref (0, 2) 1 0 0), (4, .ref (0, 4) 1 0 0), (6, .ref (0, 6) 1 0 0), (7, .i done.length)], (2, .box [PV.sl false 1 E]) :: (4, .box [.nils]) :: (6, .box [Y]) :: YL, []⟩ =
      some (.exit 0, ⟨[(1, .sl false 1 (bools bs)), (2, .ref (0, 2) 1 0 0), (4, .ref (0, 4) 1 0 0), (6, .ref (0, 6) 1 0 0), (7, .i g.length), (25, .b false)], (2, .box [PV.sl false 1 E]) :: (4, .box [.nils]) :: (6, .box [Y']) :: YL', []⟩)
  | [], done, hd, Y, YL, hY => by
    rw [List.append_nil] at hd
    subst hd
    refine ⟨Y, YL, hY, ?_⟩
    rw [loopI_eq]
    rcases hY with ⟨h1, rfl, rfl⟩ | ⟨h1, rfl, rfl⟩
    · simp [r27l1, b27l1, hE.1]
    · simp [r27l1, b27l1, hE.1]
  | x :: rest, done, hd, Y, YL, hY => by
    have hEl := hE.1
    have hrl : g.length = done.length + (rest.length + 1) := by rw [hd]; simp
    have hlt : (done.length : Int) < g.length := by omega
    have hlt2 : done.length < g.length := by omega
    have hw : IntKind.i64.wrap ((done.length : Int) + 1) = (done.length : Int) + 1 := wr (by omega)
    have hdl : done.length ≤ 4294967295 := by omega
    have hxg : x ∈ g := by rw [hd]; simp
    have hx : x.length ≤ 1048576 := hs.2 x hxg
    have hgd : g.getD done.length [] = x := by rw [hd]; simp
    have h0 := loopVs0 bs hb E g hE Y YL _ hY done.length hlt2 (by omega) x hgd hx (hac x hxg) x [] rfl
    simp only [List.length_nil, show ((0 : Nat) : Int) = 0 from rfl, List.map_nil, owP_n, owL_n, List.nil_append] at h0
    have hnew : encGs true true (veilG bs (done ++ [x])) = encGs true true (veilG bs done) ++ [encL true true (veiR bs x)] := by simp [encGs, veilG]
    have hhl : (veilG bs done).length = done.length := by simp [veilG]
    have hYn : OwnS 61 1 (.own (0, 61) (done.length + 1)) [(61, .row 1 (encGs true true (veilG bs done) ++ [encL true true (veiR bs x)]))] (encGs true true (veilG bs (done ++ [x]))) := by
      refine .inr ⟨by rw [hnew]; simp, ?_, ?_⟩
      · rw [hnew]; simp [hhl]
      · rw [hnew]
    obtain ⟨Y', YL', hY', hn⟩ := loopVs1 bs hb E g hE h60 hs hac rest (done ++ [x]) (by simpa using hd) _ _ hYn
    refine ⟨Y', YL', hY', ?_⟩
    clear hY' hE
    simp only [List.length_append, List.length_cons, List.length_nil, Int.natCast_add, show ((0 + 1 : Nat) : Int) = 1 from rfl] at hn
    have hso := eqSorted true (x.map (vei bs)) (by simp; omega)
    have hvr : tidyL (x.map (vei bs)) = veiR bs x := rfl
    rw [hvr] at hso
    have hns := noShares_mv (veiR bs x)
    have hDl : (encGs true true (veilG bs done)).length = done.length := by simp [hhl]
    have hd0 : encGs true true (veilG bs done) = [] → done = [] := fun e => by
      have := congrArg List.length e
      rw [hDl] at this
      exact List.length_eq_zero_iff.1 this
    generalize hD : encGs true true (veilG bs done) = D at hY hn hDl hd0 h0
    rw [loopI_eq]
    by_cases hxe : x = []
    · subst hxe
      have hv0 : veiR bs [] = [] := tidyL_n
      rw [hv0] at hn hso
      simp only [List.map_nil, owP_n, owL_n, List.nil_append, encL_n] at h0 hn hso
      rcases hY with ⟨h1, rfl, rfl⟩ | ⟨h1, rfl, rfl⟩
      · have hd1 := hd0 h1
        subst hd1
        subst h1
        have hlt0 : 0 < g.length := by omega
        simp at h0 hn
        simp [r27l1, b27l1, hlt, hlt2, hlt0, hw, hEl, h0, hso, wr1]
        exact hn
      · rw [hDl] at h0 ⊢
        simp at h0
        simp [r27l1, b27l1, hlt, hlt2, hw, hEl, h0, hso, hDl, hdl]
        exact hn
    · have hne : x.map (vei bs) ≠ [] := by simp [hxe]
      have hne2 : veiR bs x ≠ [] := tidyL_ne hne
      have he : encL true true (veiR bs x) = .sl true 2 ((veiR bs x).map mvP) := encL_ne hne2
      rw [encL_ne hne] at hso
      rw [he] at hn hso
      rw [owP_ne hne, owL_ne hne] at h0
      have hf := fals_mvP (x.map (vei bs))
      generalize hV : x.map (vei bs) = V at h0 hso hf
      generalize hW : veiR bs x = W at hn hso hns
      rcases hY with ⟨h1, rfl, rfl⟩ | ⟨h1, rfl, rfl⟩
      · have hd1 := hd0 h1
        subst hd1
        subst h1
        have hlt0 : 0 < g.length := by omega
        simp at h0 hn
        simp [r27l1, b27l1, hlt, hlt2, hlt0, hw, hEl, h0, hf, hso, hns, wr1]
        exact hn
      · rw [hDl] at h0 ⊢
        simp at h0
        simp [r27l1, b27l1, hlt, hlt2, hw, hEl, h0, hf, hso, hns, hDl, hdl]
        exact hn
theorem eqGraphVeilS (g : Gr) (hs : SmallG g) (hf : FitG g) (bs : List Bool) : callI G 27 [encG false false g, .sl false 1 (bools bs)] [] = some (.tup [encG true true (graphVeil g bs).1, .b (graphVeil g bs).2], []) := by
  have h2 := eqOkS g hf
  simp only [encG, encM_f] at h2 ⊢
  rw [callI_eq]
  by_cases c2 : grOk g = true
  · by_cases c1 : bs.length = 4
    · obtain ⟨q1, q2, q3⟩ := grOk_to c2
      obtain ⟨Y, YL, hY, l0⟩ := loopVs1 bs c1 _ g (encR_G false false g) q3 hs (grOk_act c2) g [] rfl .nils [] (.inl ⟨rfl, rfl, rfl⟩)
      have hal : (veilG bs g).length = g.length := by simp [veilG]
      have hm := eqMade _ (veilG bs g) (encR_G true false _) (veilG_to q1) (veilG_small hs) (by omega)
      have hga : graphVeil g bs = made (veilG bs g) := by simp [graphVeil, c1, c2]
      rw [hga]
      generalize hmm : made (veilG bs g) = m at hm ⊢
      obtain ⟨mg, mb⟩ := m
      simp only [encG] at hm ⊢
      simp only [List.length_nil, show ((0 : Nat) : Int) = 0 from rfl] at l0
      have efl : fals (encGs true true (veilG bs g)) = encGs true false (veilG bs g) := fals_encGs _ _ _
      have hns := noShares_encGs true mg
      have hns2 := noShares_encGs true (veilG bs g)
      have hne : encGs true true (veilG bs g) ≠ [] := by
        intro e
        have := congrArg List.length e
        rw [encGs_len, hal] at this
        simp at this
        rw [this] at q2; simp at q2
      have c3 : ¬ ¬ ((bs.length : Int) = 4) := by omega
      rcases hY with ⟨e, _⟩ | ⟨_, rfl, rfl⟩
      · exact absurd e hne
      rcases encM_two true true mg with ⟨e, _⟩ | e
      · rw [e] at hm ⊢
        simp [body1_eq _ _ (gp 27) g27, c27, a27, h2, c1, c2, l0, hal, efl, hm, hns, hns2]
      · rw [e] at hm ⊢
        simp [body1_eq _ _ (gp 27) g27, c27, a27, h2, c1, c2, l0, hal, efl, hm, hns, hns2]
    · have hga : graphVeil g bs = ([], false) := by simp [graphVeil, c1]
      have c3 : ¬ ((bs.length : Int) = 4) := by omega
      rw [hga]
      simp [body1_eq _ _ (gp 27) g27, c27, a27, h2, c1, c2, c3]
  · have c2 : grOk g = false := by simpa using c2
    have hga : graphVeil g bs = ([], false) := by simp [graphVeil, c2]
    rw [hga]
    simp [body1_eq _ _ (gp 27) g27, c27, a27, h2, c2]
end Go.Am
end
section
set_option maxRecDepth 10000
set_option maxHeartbeats 2000000
set_option linter.unusedSimpArgs false
set_option linter.unusedVariables false
namespace Go.Am
open Go.Proofs Go.Sort Go.Shelf
/-! what is hidden or veiled twice -/
theorem rowOk_pw {n : Nat} : ∀ (l : List Mv) (p : Option Mv), rowOk n p l = true → Sd l ∧ ∀ x ∈ l, prevOk p x = true
  | [], p, _ => ⟨List.Pairwise.nil, fun x hx => by cases hx⟩
  | m :: l, p, h => by
    simp only [rowOk, Bool.and_eq_true] at h
    obtain ⟨h1, h2, h3⟩ := h
    obtain ⟨a, b⟩ := rowOk_pw l (some m) h3
    refine ⟨List.pairwise_cons.2 ⟨fun x hx => b x hx, a⟩, fun x hx => ?_⟩
    rcases List.mem_cons.1 hx with rfl | hx
    · exact h2
    · have hb := b x hx
      cases p with
      | none => rfl
      | some q =>
        simp only [prevOk] at h2 hb ⊢
        rw [ltM_iff] at h2 hb ⊢
        omega
theorem grOk_sd {g : Gr} (h : grOk g = true) : SdG g := by
  intro l hl
  simp only [grOk, Bool.and_eq_true, List.all_eq_true] at h
  exact (rowOk_pw l none (h.2.2 l hl)).1
/-- What holds of the acts of a graph holds of those of its part. -/
theorem part_all {g : Gr} {C : Int → Prop} (h0 : 0 < g.length) (hg : OkTo g) (h : ∀ l ∈ g, ∀ m ∈ l, C m.1) : ∀ l ∈ partG g 0, ∀ m ∈ l, C m.1 := by
  intro l hl m hm
  unfold partG at hl
  obtain ⟨r, hr, rfl⟩ := List.mem_map.1 hl
  have hm2 := (tidyL_sd _).2 m |>.1 hm
  unfold reT at hm2
  obtain ⟨m0, hm0, rfl⟩ := List.mem_map.1 hm2
  have hN := (InN.bfs hg (g.length + 1) 0 (InN.one (s := 0) (by omega))).2 r hr
  exact h _ (gr_mem (by omega)) m0 hm0
/-- A part of a graph, made again. -/
theorem made_part {q : Gr} (hg : OkTo q) (hs : SdG q) (h0 : 0 < q.length) (h60 : (reach q 0).length ≤ 60) : made (partG q 0) = (partG q 0, true) := by
  unfold made
  rw [part_reach hg hs h0, iota_len, if_pos h60, part_part hg hs h0]
theorem veilG_act {bs : List Bool} {g : Gr} (h : ∀ l ∈ g, ∀ m ∈ l, actOk m.1 = true) : ∀ l ∈ veilG bs g, ∀ m ∈ l, actOk m.1 = true ∧ namd bs m.1 = false := by
  intro l hl m hm
  simp only [veilG, List.mem_map] at hl
  obtain ⟨r, hr, rfl⟩ := hl
  have hm := (tidyL_sd _).2 m |>.1 hm
  obtain ⟨m0, hm0, rfl⟩ := List.mem_map.1 hm
  unfold vei
  split
  · exact ⟨by show actOk 0 = true; decide, by simp [namd]⟩
  · rename_i hn
    exact ⟨h r hr m0 hm0, by simpa using hn⟩
theorem veilG_sd (bs : List Bool) (g : Gr) : SdG (veilG bs g) := by
  intro l hl
  simp only [veilG, List.mem_map] at hl
  obtain ⟨r, hr, rfl⟩ := hl
  exact (tidyL_sd _).1
theorem veilG_toL {bs : List Bool} {g : Gr} (h : OkTo g) : OkTo (veilG bs g) := by
  intro l hl m hm
  have hn : (veilG bs g).length = g.length := by simp [veilG]
  rw [hn]
  simp only [veilG, List.mem_map] at hl
  obtain ⟨r, hr, rfl⟩ := hl
  have hm := (tidyL_sd _).2 m |>.1 hm
  obtain ⟨m0, hm0, rfl⟩ := List.mem_map.1 hm
  have := h r hr m0 hm0
  unfold vei
  split <;> exact this
/-- A graph in which nothing is veiled. -/
theorem veilG_id {bs : List Bool} {g : Gr} (hs : SdG g) (h : ∀ l ∈ g, ∀ m ∈ l, namd bs m.1 = false) : veilG bs g = g := by
  unfold veilG
  refine (List.map_congr_left fun l hl => ?_).trans (List.map_id _)
  show veiR bs l = l
  unfold veiR
  have : l.map (vei bs) = l := by
    refine (List.map_congr_left fun m hm => ?_).trans (List.map_id _)
    unfold vei
    rw [h l hl m hm]
    simp
  rw [this]
  exact tidy_sd (hs l hl)
theorem veil_again {g x : Gr} {bs : List Bool} (h : graphVeil g bs = (x, true)) : graphVeil x bs = (x, true) ∧ grOk g = true ∧ bs.length = 4 ∧ ∀ l ∈ x, ∀ m ∈ l, namd bs m.1 = false ∧ actOk m.1 = true := by
  unfold graphVeil at h
  split at h
  · rename_i hc
    simp only [Bool.and_eq_true, decide_eq_true_eq] at hc
    obtain ⟨q1, q2, q3⟩ := grOk_to hc.1
    have hto := veilG_toL (bs := bs) q1
    have hsd := veilG_sd bs g
    have hac := veilG_act (bs := bs) (grOk_act hc.1)
    have hlen : (veilG bs g).length = g.length := by simp [veilG]
    generalize veilG bs g = q at *
    obtain ⟨e1, e2⟩ := made_two (q := q) (by rw [h])
    rw [e1] at h
    simp only [Prod.mk.injEq, and_true] at h
    subst h
    have a1 := part_all (C := fun a => actOk a = true ∧ namd bs a = false) (by omega) hto hac
    have hok := part_ok hto (by omega) (fun l hl m hm => (hac l hl m hm).1) e2
    refine ⟨?_, hc.1, hc.2, fun l hl m hm => ⟨(a1 l hl m hm).2, (a1 l hl m hm).1⟩⟩
    unfold graphVeil
    rw [hok, hc.2, veilG_id (part_sd q) (fun l hl m hm => (a1 l hl m hm).2)]
    simp only [decide_true, Bool.true_and, if_true]
    exact made_part hto hsd (by omega) e2
  · simp at h
/-- Nothing is veiled. -/
theorem veil_none {g : Gr} (h : grOk g = true) : graphVeil g [false, false, false, false] = made g := by
  unfold graphVeil
  rw [h]
  simp only [List.length_cons, List.length_nil, decide_true, Bool.true_and, if_true]
  rw [veilG_id (grOk_sd h)]
  intro l hl m hm
  unfold namd
  have : ∀ k : Nat, [false, false, false, false].getD k false = false := by
    intro k
    rcases k with _ | _ | _ | _ | k <;> rfl
  rw [this, Bool.and_false]
end Go.Am
end
section
set_option maxRecDepth 10000
set_option maxHeartbeats 1000000
set_option linter.unusedSimpArgs false
set_option linter.unusedVariables false
namespace Go.Am
open Go.Proofs Go.Sort Go.Shelf
/-! impl.GraphBoth -/
end Go.Am
end
section
set_option maxRecDepth 10000
set_option maxHeartbeats 4000000
set_option linter.unusedSimpArgs false
set_option linter.unusedVariables false
namespace Go.Am
open Go.Proofs Go.Sort Go.Shelf
theorem gr_row (q : Gr) (s : Nat) (h : s < q.length) : ∃ x : List Mv, x ∈ q ∧ nth (encGs false false q) s = some (.sl false 2 (x.map mvP)) :=
  ⟨q[s], List.getElem_mem h, by simp [nth, encGs, h]⟩
theorem mv_nth (l : List Mv) (i : Nat) (h : i < l.length) : ∃ m : Mv, nth (l.map mvP) i = some (mvP m) := ⟨l[i], by simp [nth, h]⟩
theorem loopMnG0 (q : Gr) (s : Nat) (hs : s < q.length) (x : List Mv) (hat : nth (encGs false false q) s = some (.sl false 2 (x.map mvP))) (hl : x.length ≤ 4611686018427387904) (hq : q.length ≤ 4611686018427387904) : ∀ (n i : Nat), i + n = x.length →
    loopI G [2, 3, 5, 6] [2, 3] c19l0 ⟨[(2, .ref (0, 2) 1 0 0), (3, .ref (0, 3) 1 0 0), (5, .i s), (6, .i i)], [(2, .box [.sl false 1 (encGs false false q)]), (3, .box [.sl false 1 (encGs false false q)])], []⟩ =
      some (.exit 2, ⟨[(2, .ref (0, 2) 1 0 0), (3, .ref (0, 3) 1 0 0), (5, .i s), (6, .i x.length), (41, .b false)], [(2, .box [.sl false 1 (encGs false false q)]), (3, .box [.sl false 1 (encGs false false q)])], []⟩)
  | 0, i, h => by
    have : i = x.length := by omega
    subst this
    have hlt : (s : Int) < q.length := by omega
    rw [loopI_eq]
    simp [r19l0, b19l0, hlt, hat]
  | n + 1, i, h => by
    have hn := loopMnG0 q s hs x hat hl hq n (i + 1) (by omega)
    have hil : i < x.length := by omega
    obtain ⟨m, hat2⟩ := mv_nth x i hil
    have hlt : (s : Int) < q.length := by omega
    have hlt2 : (i : Int) < x.length := by omega
    have hw : IntKind.i64.wrap ((i : Int) + 1) = (i : Int) + 1 := wr (by omega)
    simp only [Int.natCast_add, show ((1 : Nat) : Int) = 1 from rfl] at hn
    simp only [mvP] at hat2
    rw [loopI_eq]
    simp [r19l0, b19l0, hlt, hat, hlt2, hat2, hw]
    exact hn
theorem loopMnG1 (q : Gr) (hl : ∀ l ∈ q, l.length ≤ 4611686018427387904) (hq : q.length ≤ 4611686018427387904) : ∀ (n s : Nat), s + n = q.length →
    loopI G [2, 3, 5] [2, 3] c19l1 ⟨[(2, .ref (0, 2) 1 0 0), (3, .ref (0, 3) 1 0 0), (5, .i s)], [(2, .box [.sl false 1 (encGs false false q)]), (3, .box [.sl false 1 (encGs false false q)])], []⟩ =
      some (.exit 0, ⟨[(2, .ref (0, 2) 1 0 0), (3, .ref (0, 3) 1 0 0), (5, .i q.length), (18, .b false)], [(2, .box [.sl false 1 (encGs false false q)]), (3, .box [.sl false 1 (encGs false false q)])], []⟩)
  | 0, s, h => by
    have : s = q.length := by omega
    subst this
    rw [loopI_eq]
    simp [r19l1, b19l1]
  | n + 1, s, h => by
    have hn := loopMnG1 q hl hq n (s + 1) (by omega)
    have hs : s < q.length := by omega
    obtain ⟨x, hx, hat⟩ := gr_row q s hs
    have hlt : (s : Int) < q.length := by omega
    have hw : IntKind.i64.wrap ((s : Int) + 1) = (s : Int) + 1 := wr (by omega)
    have h0 := loopMnG0 q s hs x hat (hl x hx) hq x.length 0 (by omega)
    simp only [Int.natCast_add, show ((1 : Nat) : Int) = 1 from rfl, show ((0 : Nat) : Int) = 0 from rfl] at hn h0
    rw [loopI_eq]
    simp [r19l1, b19l1, hlt, hat, hw, h0]
    exact hn
theorem eqMnGraph (q : Gr) (hl : ∀ l ∈ q, l.length ≤ 4611686018427387904) (hq : q.length ≤ 4611686018427387904) : callI G 19 [encG false false q, encG false false q] [] = some (.b true, []) := by
  have h1 := loopMnG1 q hl hq q.length 0 (by omega)
  simp only [show ((0 : Nat) : Int) = 0 from rfl] at h1
  rw [callI_eq]
  simp [body1_eq _ _ (gp 19) g19, c19, a19, h1]
end Go.Am
end
section
set_option maxRecDepth 10000
set_option maxHeartbeats 4000000
set_option linter.unusedSimpArgs false
set_option linter.unusedVariables false
namespace Go.Am
open Go.Proofs Go.Sort Go.Shelf
/-! names of acts, in the machine of the laws -/
theorem lActOk (a : Int) : callI L 74 [.i a] [] = some (.b (actOk a), []) := by
  rw [callI_eq]
  unfold actOk
  by_cases h : -4 ≤ a <;> simp [body1_eq _ _ (gpL 74) g74, c74, a74, h]
theorem lSeen (a : Int) (ha : actOk a = true) : callI L 62 [.i a] [] = some (.b (!decide (a = 0)), []) := by
  have h := lActOk a
  rw [callI_eq]
  simp [body1_eq _ _ (gpL 62) g62, c62, a62, h, ha]
theorem lNameOf (a : Int) : callI L 58 [.i a] [] = some (.i (nameI a), []) := by
  rw [callI_eq]
  simp [body1_eq _ _ (gpL 58) g58, c58, a58, nameI]
theorem lActName (a : Int) (ha : actOk a = true) : callI L 24 [.i a] [] = some (.tup [.i (if a = 0 then 0 else nameI a), .b (!decide (a = 0))], []) := by
  have h1 := lSeen a ha
  have h2 := lNameOf a
  rw [callI_eq]
  by_cases h : a = 0
  · subst h
    simp [body1_eq _ _ (gpL 24) g24, c24, a24, h1, h2]
  · simp [body1_eq _ _ (gpL 24) g24, c24, a24, h1, h2, h]
theorem encLf_two (l : List Mv) : (encL true false l = .nils ∧ l = []) ∨ (encL true false l = .sl false 2 (l.map mvP) ∧ l ≠ []) := by
  cases l with
  | nil => exact .inl ⟨rfl, rfl⟩
  | cons m l => exact .inr ⟨by simp, by simp⟩
theorem hMnGraphL (q : Gr) (hs : SmallG q) : callI L 19 [encG true false q, encG true false q] [] = some (.b true, []) := by
  have h : callI L 19 [encG true false q, encG true false q] [] = viaP G 19 wkG [encG true false q, encG true false q] [] := callI_prim' (p := viaP G 19 wkG) rfl _ _
  rw [h]
  simp only [viaP, List.map_cons, List.map_nil, wkG_enc]
  exact eqMnGraph q (fun l hl => by have := hs.2 l hl; omega) (by have := hs.1; omega)
theorem trees_encGs : ∀ g : Gr, trees (encGs true true g) = true
  | [] => rfl
  | l :: g => by
    have ih := trees_encGs g
    simp only [encGs, List.map_cons, trees, Bool.and_eq_true] at ih ⊢
    refine ⟨?_, ih⟩
    have h2 : ∀ l : List Mv, trees (l.map mvP) = true := by
      intro l
      induction l with
      | nil => rfl
      | cons m l ih => simp only [List.map_cons, trees, ih, Bool.and_true]; rfl
    unfold encL
    split
    · rfl
    · simp only [tree]; exact h2 l
theorem tree_encG (g : Gr) : tree (encG true true g) = true := by
  simp only [encG, encM', tree, trees, Bool.and_true]
  split
  · rfl
  · simp only [tree, trees_encGs g]
theorem fal_encG (g : Gr) : fal (encG true true g) = encG true false g := by simp only [encG, fal, fals, fal_encM]
/-- A graph and something else, handed on. -/
theorem low_gx (g : Gr) (y : PV) (hy : tree y = true) : lowTR (some (.tup [encG true true g, y], [])) = some (.tup [encG true false g, fal y], []) := by
  have ht : trees [encG true true g, y] = true := by simp only [trees, tree_encG, hy, Bool.and_true]
  simp only [lowTR, ht, if_true, fals, fal_encG]
theorem low_gb (g : Gr) (b : Bool) : lowTR (some (.tup [encG true true g, .b b], [])) = some (.tup [encG true false g, .b b], []) := low_gx g (.b b) rfl
end Go.Am
end
section
set_option maxRecDepth 10000
set_option maxHeartbeats 4000000
set_option linter.unusedSimpArgs false
set_option linter.unusedVariables false
namespace Go.Am
open Go.Proofs
/-- A reader that has not come far. -/
structure RdrOK (B : List Nat) (p : Int) : Prop where
  len : B.length ≤ 2000
  by8 : ∀ b ∈ B, b < 256
  lo : 0 ≤ p
  hi : p ≤ 1000000000
theorem setS_top (o : Stack) (id : Id) (R : OB) (hid : id.1 < o.length) (r : Regs) (l : Objs) : St.get ⟨r, l, setS o id R⟩ id = some R := by
  rw [get_low (by rw [setS_len]; exact hid), getS_setS hid]
theorem setS_put (o : Stack) (id : Id) (R R' : OB) (hid : id.1 < o.length) (r : Regs) (l : Objs) : St.set ⟨r, l, setS o id R⟩ id R' = ⟨r, l, setS o id R'⟩ := by
  rw [set_low (by rw [setS_len]; exact hid), setS_setS]
theorem eqOpen (B : List Nat) (hB : B.length ≤ 9223372036854775807) : ∃ B', B'.length ≤ 2000 ∧ (∀ b ∈ B', b ∈ B) ∧ callI H 36 [.sl false 1 (byVs B)] [] = some (.bx [.sl false 1 (byVs B'), .i 0], []) := by
  by_cases h : (2000 : Int) < B.length
  · refine ⟨B.take 2000, by simp; omega, fun b hb => List.mem_of_mem_take hb, ?_⟩
    rw [callI_eq]
    have h2 : (2000 : Int) ≤ B.length := by omega
    simp [body1_eq _ _ (gpH 36) g36, c36, a36, byVs_len, h, h2]
    simp [byVs, List.map_take]
  · refine ⟨B, by omega, fun b hb => hb, ?_⟩
    rw [callI_eq]
    simp [body1_eq _ _ (gpH 36) g36, c36, a36, byVs_len, h]
theorem eqPick (o : Stack) (id : Id) (hid : id.1 < o.length) (B : List Nat) (p n : Int) (hr : RdrOK B p) (hn : 1 ≤ n) (hn2 : n ≤ 1000000000) :
    ∃ k, 0 ≤ k ∧ k < n ∧ callI H 53 [.ref id 1 0 0, .i n] (setS o id (rd B p)) = some (.i k, setS o id (rd B (p + 1))) := by
  obtain ⟨h1, h2, h3, h4⟩ := hr
  have hne : ¬ id.1 = (setS o id (rd B p)).length := by rw [setS_len]; omega
  have hne2 : ¬ id.1 = o.length := by omega
  have hg := fun (R : OB) r l => setS_top o id R hid r l
  have hs := fun (R R' : OB) r l => setS_put o id R R' hid r l
  have hw1 : IntKind.i64.wrap (p + 1) = p + 1 := wrD (by omega)
  have hw2 : IntKind.i64.wrap (p + 1 - 1) = p := by rw [wrD (by omega)]; omega
  have hw3 : IntKind.i64.wrap p = p := wrD (by omega)
  have hn0 : ¬ n < 1 := by omega
  have hn1 : ¬ n = 0 := by omega
  by_cases hB : B = []
  · subst hB
    refine ⟨0, by omega, by omega, ?_⟩
    rw [callI_eq]
    simp [-St.get, -St.set, body1_eq _ _ (gpH 53) g53, c53, a53, hne2, hg, hs, rd, byVs, hw1, hw2, hw3, hn0, setS_len]
  · have hBl : (byVs B).length = B.length := byVs_len B
    have hpos : 0 < B.length := List.length_pos_iff.2 hB
    have hl0 : ¬ (B.length : Int) = 0 := by omega
    by_cases hk : p < B.length
    · have hlt : p.toNat < B.length := by omega
      have hat := byVs_at B p.toNat hlt
      have hb := h2 _ (List.getElem_mem hlt)
      generalize B[p.toNat] = b at hat hb
      have hw4 : IntKind.i64.wrap (b : Int) = (b : Int) := wrD (by omega)
      have e1 : (b : Int).tmod n = (b : Int) % n := Int.tmod_eq_emod_of_nonneg (by omega)
      refine ⟨(b : Int) % n, Int.emod_nonneg _ (by omega), Int.emod_lt_of_pos _ (by omega), ?_⟩
      rw [callI_eq]
      simp [-St.get, -St.set, body1_eq _ _ (gpH 53) g53, c53, a53, hne2, hg, hs, rd, hBl, hl0, hw1, hw2, hw3, hw4, hn0, hn1, hk, h3, hat, byV, e1, hB, setS_len]
    · have hbyte : ∀ k : Int, 0 ≤ k → ∃ b : Nat, b < 256 ∧ nth (byVs B) (k.tmod B.length).toNat = some (byV b) ∧ 0 ≤ k.tmod B.length ∧ k.tmod B.length < B.length := by
        intro k hk0
        have e := Int.tmod_eq_emod_of_nonneg (b := (B.length : Int)) hk0
        have g1 := Int.emod_nonneg k hl0
        have g2 := Int.emod_lt_of_pos k (b := (B.length : Int)) (by omega)
        have hlt : (k.tmod B.length).toNat < B.length := by rw [e]; omega
        exact ⟨_, h2 _ (List.getElem_mem hlt), byVs_at B _ hlt, by rw [e]; exact g1, by rw [e]; exact g2⟩
      obtain ⟨b1, q1, q2, q3, q4⟩ := hbyte p h3
      obtain ⟨b2, r1, r2, r3, r4⟩ := hbyte (p * 7 + 3) (by omega)
      have d1 : p.tdiv B.length = p / B.length := Int.tdiv_eq_ediv_of_nonneg h3
      have d2 : 0 ≤ p / (B.length : Int) := Int.ediv_nonneg h3 (by omega)
      have d3 : p / (B.length : Int) ≤ p := Int.ediv_le_self _ h3
      have hw4 : IntKind.i64.wrap (b1 : Int) = b1 := wrD (by omega)
      have hw5 : IntKind.i64.wrap (b2 : Int) = b2 := wrD (by omega)
      have hw6 : IntKind.i64.wrap ((b1 : Int) * 131) = b1 * 131 := wrD (by omega)
      have hw7 : IntKind.i64.wrap ((b2 : Int) * 1117) = b2 * 1117 := wrD (by omega)
      have hw8 : IntKind.i64.wrap (p * 7) = p * 7 := wrD (by omega)
      have hw9 : IntKind.i64.wrap (p * 7 + 3) = p * 7 + 3 := wrD (by omega)
      have hw10 : IntKind.i64.wrap ((b1 : Int) * 131 + b2 * 1117) = b1 * 131 + b2 * 1117 := wrD (by omega)
      have hw11 : IntKind.i64.wrap (p * 29) = p * 29 := wrD (by omega)
      have hw12 : IntKind.i64.wrap ((b1 : Int) * 131 + b2 * 1117 + p * 29) = b1 * 131 + b2 * 1117 + p * 29 := wrD (by omega)
      have hw13 : IntKind.i64.wrap (p.tdiv B.length) = p.tdiv B.length := by rw [d1]; exact wrD (by omega)
      have hw14 : IntKind.i64.wrap (p.tdiv B.length * 53) = p.tdiv B.length * 53 := by rw [d1]; exact wrD (by omega)
      have hw15 : IntKind.i64.wrap ((b1 : Int) * 131 + b2 * 1117 + p * 29 + p.tdiv B.length * 53) = b1 * 131 + b2 * 1117 + p * 29 + p.tdiv B.length * 53 := by rw [d1]; exact wrD (by omega)
      have hX : 0 ≤ (b1 : Int) * 131 + b2 * 1117 + p * 29 + p.tdiv B.length * 53 ∧ (b1 : Int) * 131 + b2 * 1117 + p * 29 + p.tdiv B.length * 53 < 4611686018427387904 := by rw [d1]; omega
      generalize hXe : (b1 : Int) * 131 + b2 * 1117 + p * 29 + p.tdiv B.length * 53 = X at *
      have d4 : X.tdiv 64 = X / 64 := Int.tdiv_eq_ediv_of_nonneg hX.1
      have hw16 : IntKind.i64.wrap (X.tdiv 64) = X / 64 := by rw [d4]; exact wrD (by omega)
      obtain ⟨y1, y2⟩ := bxor_nn X (X / 64) hX.1 hX.2 (by omega) (by omega)
      have e1 : (bxor .i64 X (X / 64)).tmod n = bxor .i64 X (X / 64) % n := Int.tmod_eq_emod_of_nonneg y1
      refine ⟨bxor .i64 X (X / 64) % n, Int.emod_nonneg _ (by omega), Int.emod_lt_of_pos _ (by omega), ?_⟩
      rw [callI_eq]
      simp [-St.get, -St.set, body1_eq _ _ (gpH 53) g53, c53, a53, hne2, hg, hs, rd, hBl, hl0, hw1, hw2, hw3, hw4, hw5, hw6, hw7, hw8, hw9, hw10, hw11, hw12, hw13, hw14, hw15, hw16, hn0, hn1, hk, h3, q2, q3, q4, r2, r3, r4, byV, hXe, e1, hB, setS_len]
/-- A call of the reader's from a frame above. -/
theorem frC {f : Nat} {args : List PV} {o : Stack} {id : Id} {R R' : OB} {r : PV} (hid : id.1 < o.length) (h : callI H f args (setS (o ++ [[]]) id R) = some (r, setS (o ++ [[]]) id R')) : callI H f args (setS o id R ++ [[]]) = some (r, setS o id R' ++ [[]]) := by
  rw [setS_app _ _ _ _ hid, setS_app _ _ _ _ hid] at h
  exact h
theorem hidA {o : Stack} {id : Id} (hid : id.1 < o.length) : id.1 < (o ++ [([] : Objs)]).length := by simp; omega
theorem pickF (o : Stack) (id : Id) (hid : id.1 < o.length) (B : List Nat) (p n : Int) (hr : RdrOK B p) (hn : 1 ≤ n) (hn2 : n ≤ 1000000000) :
    ∃ k, 0 ≤ k ∧ k < n ∧ callI H 53 [.ref id 1 0 0, .i n] (setS o id (rd B p) ++ [[]]) = some (.i k, setS o id (rd B (p + 1)) ++ [[]]) := by
  obtain ⟨k, h1, h2, h3⟩ := eqPick (o ++ [[]]) id (hidA hid) B p n hr hn hn2
  exact ⟨k, h1, h2, frC hid h3⟩
theorem RdrOK.next {B : List Nat} {p q : Int} (h : RdrOK B p) (h1 : p ≤ q) (h2 : q ≤ 1000000000) : RdrOK B q := ⟨h.len, h.by8, by have := h.lo; omega, h2⟩
end Go.Am
end
