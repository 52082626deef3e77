/- What the functions that the law reaches compute. -/
import Derived.Test.YtmpbcedglimhkaaEqE
import Derived.Test.YtmpbcedglimhkaaEqF
import Derived.Test.YtmpbcedglimhkaaEqC
import Derived.Test.YtmpbcedglimhkaaEqD
section
set_option maxRecDepth 10000
set_option maxHeartbeats 16000000
set_option linter.unusedSimpArgs false
set_option linter.unusedVariables false
namespace Go.Am
open Go.Proofs Go.Sort Go.Shelf
mutual
theorem DrT.sm : ∀ t : Tm, DrT t → SmT t
  | .mk o n ps, h => by
    unfold DrT at h
    unfold SmT
    exact ⟨by omega, by omega, by omega, DrTs.sm ps h.2.2.2⟩
theorem DrTs.sm : ∀ ps : List Tm, DrTs ps → SmTs ps
  | [], _ => by unfold SmTs; trivial
  | p :: ps, h => by
    unfold DrTs at h
    unfold SmTs
    exact ⟨DrT.sm p h.1, DrTs.sm ps h.2⟩
end
theorem SmTs.app : ∀ {a b : List Tm}, SmTs a → SmTs b → SmTs (a ++ b)
  | [], b, _, h => h
  | p :: a, b, h, k => by
    unfold SmTs at h
    show SmTs (p :: (a ++ b))
    unfold SmTs
    exact ⟨h.1, SmTs.app h.2 k⟩
theorem eqTermD (o : Stack) (id : Id) (hid : id.1 < o.length) (B : List Nat) (p : Int) (c : Nat) (hr : RdrOK B p) (hc : c ≤ 3) (hp : p + 1000 ≤ 1000000000) :
    ∃ t q, p ≤ q ∧ q ≤ p + 1000 ∧ SmT t ∧ callI H 108 [.ref id 1 0 0, .i c] (setS o id (rd B p)) = some (encT true t, setS o id (rd B q)) := by
  have hne2 : ¬ id.1 = o.length := by omega
  have dcv : dcT 1 = 30 ∧ dcT 2 = 70 ∧ dcT 3 = 150 ∧ dcT 4 = 310 := by decide
  obtain ⟨k, a1, a2, c1⟩ := pickF o id hid B p 4 hr (by omega) (by omega)
  have hw : IntKind.i64.wrap (1 + k) = 1 + k := wrD (by omega)
  have good : ∃ t q', p + 1 ≤ q' ∧ q' ≤ p + 1 + 310 ∧ DrT t ∧ callI H 119 [.ref id 1 0 0, .i (1 + k), .i c, .b false] (setS o id (rd B (p + 1)) ++ [[]]) = some (encT true t, setS o id (rd B q') ++ [[]]) := by
    have hd : k = 0 ∨ k = 1 ∨ k = 2 ∨ k = 3 := by omega
    rcases hd with rfl | rfl | rfl | rfl
    · obtain ⟨t, q', e1, e2, e3, e4⟩ := goodF 1 o id hid B (p + 1) c false (hr.next (by omega) (by omega)) (by omega) hc (by omega)
      exact ⟨t, q', e1, by omega, e3, e4⟩
    · obtain ⟨t, q', e1, e2, e3, e4⟩ := goodF 2 o id hid B (p + 1) c false (hr.next (by omega) (by omega)) (by omega) hc (by omega)
      exact ⟨t, q', e1, by omega, e3, e4⟩
    · obtain ⟨t, q', e1, e2, e3, e4⟩ := goodF 3 o id hid B (p + 1) c false (hr.next (by omega) (by omega)) (by omega) hc (by omega)
      exact ⟨t, q', e1, by omega, e3, e4⟩
    · obtain ⟨t, q', e1, e2, e3, e4⟩ := goodF 4 o id hid B (p + 1) c false (hr.next (by omega) (by omega)) (by omega) hc (by omega)
      exact ⟨t, q', e1, by omega, e3, e4⟩
  obtain ⟨t, q, e1, e2, e3, e4⟩ := good
  obtain ⟨k2, b1, b2, c2⟩ := pickF o id hid B q 24 (hr.next (by omega) (by omega)) (by omega) (by omega)
  obtain ⟨to, tn, tp, rfl, ht⟩ := encT_two t
  have hsm := DrT.sm _ e3
  unfold SmT at hsm
  have h3 := e3
  unfold DrT at h3
  have hw7 : IntKind.i64.wrap (tn + 7) = tn + 7 := wrD (by omega)
  by_cases k20 : k2 = 0
  · subst k20
    refine ⟨.mk to (tn + 7) tp, q + 1, by omega, by omega, by unfold SmT; exact ⟨by omega, by omega, hsm.2.2⟩, ?_⟩
    rw [callI_eq]
    rcases ht with ⟨rfl, ht⟩ | ⟨ht, hE⟩ <;> rw [ht] at e4
    · simp [body1_eq _ _ (gpH 108) g108, c108, a108, hne2, setS_len, c1, hw, e4, c2, hw7, encT, encQ]
    · simp [body1_eq _ _ (gpH 108) g108, c108, a108, hne2, setS_len, c1, hw, e4, c2, hw7, encT, hE, encTs_len]
  by_cases k21 : k2 = 1
  · subst k21
    obtain ⟨k3, d1, d2, c3⟩ := pickF o id hid B (q + 1) 8 (hr.next (by omega) (by omega)) (by omega) (by omega)
    refine ⟨.mk k3 tn tp, q + 1 + 1, by omega, by omega, by unfold SmT; exact ⟨by omega, by omega, hsm.2.2⟩, ?_⟩
    rw [callI_eq]
    rcases ht with ⟨rfl, ht⟩ | ⟨ht, hE⟩ <;> rw [ht] at e4
    · simp [body1_eq _ _ (gpH 108) g108, c108, a108, hne2, setS_len, c1, hw, e4, c2, c3, encT, encQ]
    · simp [body1_eq _ _ (gpH 108) g108, c108, a108, hne2, setS_len, c1, hw, e4, c2, c3, encT, hE, encTs_len]
  by_cases k22 : k2 = 2
  · subst k22
    refine ⟨.mk to tn (.mk 0 0 [] :: tp), q + 1, by omega, by omega, by unfold SmT SmTs; exact ⟨by omega, by omega, by simp; omega, by unfold SmT SmTs; simp, hsm.2.2.2⟩, ?_⟩
    have hl : tp.length ≤ 2 := h3.2.2.1
    have hl9 : tp.length ≤ 4294967295 := by omega
    rw [callI_eq]
    rcases ht with ⟨rfl, ht⟩ | ⟨ht, hE⟩ <;> rw [ht] at e4
    · simp [body1_eq _ _ (gpH 108) g108, c108, a108, hne2, setS_len, c1, hw, e4, c2, encT, encQ, encTs]
    · simp [body1_eq _ _ (gpH 108) g108, c108, a108, hne2, setS_len, c1, hw, e4, c2, encT, encQ, encTs_len, hl9, Nat.add_comm]
  · refine ⟨.mk to tn tp, q + 1, by omega, by omega, by unfold SmT; exact hsm, ?_⟩
    rw [callI_eq]
    rcases ht with ⟨rfl, ht⟩ | ⟨ht, hE⟩ <;> rw [ht] at e4
    · simp [body1_eq _ _ (gpH 108) g108, c108, a108, hne2, setS_len, c1, hw, e4, c2, k20, k21, k22, encT, encQ]
    · simp [body1_eq _ _ (gpH 108) g108, c108, a108, hne2, setS_len, c1, hw, e4, c2, k20, k21, k22, encT, hE, encTs_len]
theorem termF (o : Stack) (id : Id) (hid : id.1 < o.length) (B : List Nat) (p : Int) (c : Nat) (hr : RdrOK B p) (hc : c ≤ 3) (hp : p + 1000 ≤ 1000000000) :
    ∃ t q, p ≤ q ∧ q ≤ p + 1000 ∧ SmT t ∧ callI H 108 [.ref id 1 0 0, .i c] (setS o id (rd B p) ++ [[]]) = some (encT true t, setS o id (rd B q) ++ [[]]) := by
  obtain ⟨t, q, e1, e2, e3, e4⟩ := eqTermD (o ++ [[]]) id (hidA hid) B p c hr hc hp
  exact ⟨t, q, e1, e2, e3, frC hid e4⟩
/-! definitions -/
def dfP (n : Nat) (ds : List Tm) : PV := if ds = [] then .nils else .own (n, 22) ds.length
def dfL (ds : List Tm) : Objs := if ds = [] then [] else [(22, .row 3 (encTs true ds))]
theorem df_two (n : Nat) (ds : List Tm) : (ds = [] ∧ dfP n ds = .nils ∧ dfL ds = []) ∨ (ds ≠ [] ∧ dfP n ds = .own (n, 22) ds.length ∧ dfL ds = [(22, .row 3 (encTs true ds))]) := by
  by_cases h : ds = []
  · exact .inl ⟨h, by simp [dfP, h], by simp [dfL, h]⟩
  · exact .inr ⟨h, by simp [dfP, h], by simp [dfL, h]⟩
theorem encTs_snocT (u : Bool) (S : List Tm) (x : Tm) : encTs u (S ++ [x]) = encTs u S ++ [encT u x] := by simp [encTs_map]
theorem loopDf (o : Stack) (id : Id) (hid : id.1 < o.length) (B : List Nat) (N : Nat) (hN : N ≤ 3) : ∀ (k s : Nat) (p : Int) (ds : List Tm), s + k = N → ds.length = s → SmTs ds → RdrOK B p → p + 400 * k ≤ 1000000000 →
    ∃ (ds' : List Tm) (q : Int), p ≤ q ∧ q ≤ p + 400 * k ∧ ds'.length = N ∧ SmTs ds' ∧
      loopI H [0, 3, 4, 5] [8, 22] c107l0 ⟨[(0, .ref id 1 0 0), (3, .i N), (4, dfP o.length ds), (5, .i s)], dfL ds, setS o id (rd B p)⟩ =
        some (.exit 0, ⟨[(0, .ref id 1 0 0), (3, .i N), (4, dfP o.length ds'), (5, .i N), (11, .b false)], dfL ds', setS o id (rd B q)⟩)
  | 0, s, p, ds, hs, hg, hl, hr, hp => by
    have : s = N := by omega
    subst this
    refine ⟨ds, p, by omega, by omega, hg, hl, ?_⟩
    have hne2 : ¬ id.1 = o.length := by omega
    rw [loopI_eq]
    rcases df_two o.length ds with ⟨h, h1, h2⟩ | ⟨h, h1, h2⟩ <;> rw [h1, h2] <;>
      simp [r107l0, b107l0, setS_len, hne2]
  | k + 1, s, p, ds, hs, hg, hl, hr, hp => by
    have hne2 : ¬ id.1 = o.length := by omega
    have dcv : dcT 1 = 30 ∧ dcT 2 = 70 ∧ dcT 3 = 150 ∧ dcT 4 = 310 := by decide
    have hkk : ((k + 1 : Nat) : Int) = (k : Int) + 1 := by omega
    rw [hkk] at hp ⊢
    have hlt : (s : Int) < N := by omega
    have hlt2 : s < N := by omega
    have hw : IntKind.i64.wrap ((s : Int) + 1) = (s : Int) + 1 := wrD (by omega)
    obtain ⟨a, a1, a2, ca⟩ := pickF o id hid B p 3 hr (by omega) (by omega)
    have hwa : IntKind.i64.wrap (1 + a) = 1 + a := wrD (by omega)
    have good : ∃ t q', p + 1 ≤ q' ∧ q' ≤ p + 1 + 310 ∧ DrT t ∧ callI H 119 [.ref id 1 0 0, .i (1 + a), .i N, .b false] (setS o id (rd B (p + 1)) ++ [[]]) = some (encT true t, setS o id (rd B q') ++ [[]]) := by
      have hd : a = 0 ∨ a = 1 ∨ a = 2 := by omega
      rcases hd with rfl | rfl | rfl
      · obtain ⟨t, q', e1, e2, e3, e4⟩ := goodF 1 o id hid B (p + 1) N false (hr.next (by omega) (by omega)) (by omega) hN (by omega)
        exact ⟨t, q', e1, by omega, e3, e4⟩
      · obtain ⟨t, q', e1, e2, e3, e4⟩ := goodF 2 o id hid B (p + 1) N false (hr.next (by omega) (by omega)) (by omega) hN (by omega)
        exact ⟨t, q', e1, by omega, e3, e4⟩
      · obtain ⟨t, q', e1, e2, e3, e4⟩ := goodF 3 o id hid B (p + 1) N false (hr.next (by omega) (by omega)) (by omega) hN (by omega)
        exact ⟨t, q', e1, by omega, e3, e4⟩
    obtain ⟨t, q1, e1, e2, e3, e4⟩ := good
    have hsm := DrT.sm t e3
    obtain ⟨ds', q, f1, f2, f3, f4, hn⟩ := loopDf o id hid B N hN k (s + 1) q1 (ds ++ [t]) (by omega) (by simp [hg]) (SmTs.app hl (by unfold SmTs SmTs; exact ⟨hsm, trivial⟩)) (hr.next (by omega) (by omega)) (by omega)
    refine ⟨ds', q, by omega, by omega, f3, f4, ?_⟩
    refine Eq.trans ?_ hn
    have hss : ((s + 1 : Nat) : Int) = (s : Int) + 1 := by omega
    have hd9 : ds.length ≤ 4294967295 := by omega
    have hgn : dfP o.length (ds ++ [t]) = .own (o.length, 22) (ds.length + 1) := by simp [dfP]
    have hgl : dfL (ds ++ [t]) = [(22, .row 3 (encTs true ds ++ [encT true t]))] := by simp [dfL, encTs_snocT]
    rw [hss, hgn, hgl]
    clear hn hss
    rw [loopI_eq]
    obtain ⟨to, tn, tp, rfl, ht⟩ := encT_two t
    rcases df_two o.length ds with ⟨h, h1, h2⟩ | ⟨h, h1, h2⟩ <;> rw [h1, h2] <;> rcases ht with ⟨rfl, ht⟩ | ⟨ht, hE⟩ <;> rw [ht] at e4 ⊢ <;>
      (first | subst h | skip
       simp [r107l0, b107l0, setS_len, hne2, hlt, hlt2, hw, ca, hwa, e4, hd9, encTs_len, encTs]
       try rfl)
theorem SmTs.set : ∀ {ds : List Tm} {x : Tm} (i : Nat), SmTs ds → SmT x → SmTs (ds.set i x)
  | [], x, i, h, k => by simpa using h
  | p :: ps, x, 0, h, k => by
    unfold SmTs at h
    show SmTs (x :: ps)
    unfold SmTs
    exact ⟨k, h.2⟩
  | p :: ps, x, i + 1, h, k => by
    unfold SmTs at h
    show SmTs (p :: ps.set i x)
    unfold SmTs
    exact ⟨h.1, SmTs.set i h.2 k⟩
theorem encTs_set (u : Bool) (ds : List Tm) (i : Nat) (x : Tm) : (encTs u ds).set i (encT u x) = encTs u (ds.set i x) := by simp [encTs_map, List.map_set]
theorem eqDefs (o : Stack) (id : Id) (hid : id.1 < o.length) (B : List Nat) (p : Int) (hr : RdrOK B p) (hp : p + 2000 ≤ 1000000000) :
    ∃ ds q, p ≤ q ∧ q ≤ p + 2000 ∧ SmTs ds ∧ ds.length ≤ 3 ∧ callI H 107 [.ref id 1 0 0] (setS o id (rd B p)) = some (encQ true ds, setS o id (rd B q)) := by
  have hne2 : ¬ id.1 = o.length := by omega
  obtain ⟨n, a1, a2, c1⟩ := pickF o id hid B p 4 hr (by omega) (by omega)
  obtain ⟨N, hN⟩ : ∃ N : Nat, (N : Int) = n := ⟨n.toNat, by omega⟩
  subst hN
  obtain ⟨ds, q, f1, f2, f3, f4, hl⟩ := loopDf o id hid B N (by omega) N 0 (p + 1) [] (by omega) rfl (by unfold SmTs; trivial) (hr.next (by omega) (by omega)) (by omega)
  simp only [show dfP o.length [] = .nils from rfl, show dfL [] = [] from rfl, show ((0 : Nat) : Int) = 0 from rfl] at hl
  obtain ⟨k, b1, b2, c2⟩ := pickF o id hid B q 20 (hr.next (by omega) (by omega)) (by omega) (by omega)
  by_cases hN0 : N = 0
  · subst hN0
    obtain rfl : ds = [] := List.length_eq_zero_iff.1 f3
    refine ⟨[], q, by omega, by omega, f4, by simp, ?_⟩
    simp only [show dfP o.length [] = .nils from rfl, show dfL [] = [] from rfl, show ((0 : Nat) : Int) = 0 from rfl] at hl c1
    rw [callI_eq]
    simp [body1_eq _ _ (gpH 107) g107, c107, a107, hne2, setS_len, c1, hl, encQ]
  · have hpos : (0 : Int) < N := by omega
    have hpos2 : 0 < N := by omega
    have hne : ds ≠ [] := by intro e; subst e; simp at f3; omega
    rcases df_two o.length ds with ⟨h, h1, h2⟩ | ⟨h, h1, h2⟩
    · exact absurd h hne
    rw [h1, h2] at hl
    by_cases k0 : k = 0
    · subst k0
      obtain ⟨j, d1, d2, c3⟩ := pickF o id hid B (q + 1) N (hr.next (by omega) (by omega)) (by omega) (by omega)
      have hw : IntKind.i64.wrap ((N : Int) + 1) = (N : Int) + 1 := wrD (by omega)
      obtain ⟨m, m1, m2, c4⟩ := pickF o id hid B (q + 1 + 1) (N + 1) (hr.next (by omega) (by omega)) (by omega) (by omega)
      refine ⟨ds.set j.toNat (.mk 5 m []), q + 1 + 1 + 1, by omega, by omega, SmTs.set _ f4 (by unfold SmT SmTs; exact ⟨by omega, by omega, by simp, trivial⟩), by simp; omega, ?_⟩
      have hne' : ds.set j.toNat (.mk 5 m []) ≠ [] := by simpa using hne
      rw [encQ_c true hne', ← encTs_set]
      have hlt : j.toNat < ds.length := by omega
      have hlt2 : j < ds.length := by omega
      obtain ⟨x1, x2, x3, hX, hx3⟩ := encT_form true ds[j.toNat]
      have hat : nth (encTs true ds) j.toNat = some (.agg [.i x1, .i x2, x3]) := by rw [← hX]; simp [nth, encTs_map, hlt]
      have hln := encTs_len true ds
      generalize encTs true ds = E at *
      subst f3
      rw [callI_eq]
      rcases hx3 with rfl | ⟨L, rfl⟩ <;> simp [body1_eq _ _ (gpH 107) g107, c107, a107, hne2, setS_len, c1, hl, hpos, hpos2, c2, c3, c4, hw, hln, hlt, hlt2, d1, hat, encT, encQ, unAgg]
    · refine ⟨ds, q + 1, by omega, by omega, f4, by omega, ?_⟩
      rw [encQ_c true hne]
      subst f3
      rw [callI_eq]
      simp [body1_eq _ _ (gpH 107) g107, c107, a107, hne2, setS_len, c1, hl, hpos, hpos2, c2, k0, encTs_len]
theorem defsF (o : Stack) (id : Id) (hid : id.1 < o.length) (B : List Nat) (p : Int) (hr : RdrOK B p) (hp : p + 2000 ≤ 1000000000) :
    ∃ ds q, p ≤ q ∧ q ≤ p + 2000 ∧ SmTs ds ∧ ds.length ≤ 3 ∧ callI H 107 [.ref id 1 0 0] (setS o id (rd B p) ++ [[]]) = some (encQ true ds, setS o id (rd B q) ++ [[]]) := by
  obtain ⟨t, q, e1, e2, e3, e4, e5⟩ := eqDefs (o ++ [[]]) id (hidA hid) B p hr hp
  exact ⟨t, q, e1, e2, e3, e4, frC hid e5⟩
end Go.Am
end
section
set_option maxRecDepth 10000
set_option maxHeartbeats 16000000
set_option linter.unusedSimpArgs false
set_option linter.unusedVariables false
namespace Go.Am
open Go.Proofs Go.Sort Go.Shelf
theorem tidyL_le (l : List Mv) : (tidyL l).length ≤ l.length := by
  have h : (srtM l).length = l.length := by simp [srtM]
  unfold tidyL
  cases hs : srtM l with
  | nil => simp [dd]
  | cons x r =>
    rw [hs] at h
    have := ddup_len x r
    simp only [dd, List.length_cons] at h ⊢
    omega
theorem loopWi1 (o : Stack) (id : Id) (hid : id.1 < o.length) (B : List Nat) (N : Nat) (few : Bool) (hN : 1 ≤ N) (hN2 : N ≤ 100) : ∀ (k s : Nat) (p : Int) (g : Gr), s + k = N → g.length = s → (∀ l ∈ g, l.length ≤ 3) → RdrOK B p → p + 13 * k ≤ 1000000000 →
    ∃ (g' : Gr) (q : Int), p ≤ q ∧ q ≤ p + 13 * k ∧ g'.length = N ∧ (∀ l ∈ g', l.length ≤ 3) ∧
      loopI H [0, 4, 5, 6, 7, 8] [4, 5, 51] c43l1 ⟨[(0, .ref id 1 0 0), (4, .ref (o.length, 4) 1 0 0), (5, .ref (o.length, 5) 1 0 0), (6, .i N), (7, .b few), (8, .i s)], (4, .box [.nils]) :: (5, .box [gwP o.length g]) :: gwL g, setS o id (rd B p)⟩ =
        some (.exit 0, ⟨[(0, .ref id 1 0 0), (4, .ref (o.length, 4) 1 0 0), (5, .ref (o.length, 5) 1 0 0), (6, .i N), (7, .b few), (8, .i N), (22, .b false)], (4, .box [.nils]) :: (5, .box [gwP o.length g']) :: gwL g', setS o id (rd B q)⟩)
  | 0, s, p, g, hs, hg, hl, hr, hp => by
    have : s = N := by omega
    subst this
    refine ⟨g, p, by omega, by omega, hg, hl, ?_⟩
    have hne2 : ¬ id.1 = o.length := by omega
    rw [loopI_eq]
    rcases gw_two o.length g with ⟨h, h1, h2⟩ | ⟨h, h1, h2⟩ <;> rw [h1, h2] <;>
      simp [r43l1, b43l1, setS_len, hne2]
  | k + 1, s, p, g, hs, hg, hl, hr, hp => by
    have hne2 : ¬ id.1 = o.length := by omega
    have hkk : ((k + 1 : Nat) : Int) = (k : Int) + 1 := by omega
    rw [hkk] at hp ⊢
    have hlt : (s : Int) < N := by omega
    have hw : IntKind.i64.wrap ((s : Int) + 1) = (s : Int) + 1 := wrD (by omega)
    obtain ⟨a, a1, a2, ca⟩ := pickF o id hid B p 4 hr (by omega) (by omega)
    have haN : ((a.toNat : Nat) : Int) = a := by omega
    obtain ⟨l', q1, e1, e2, e3, hi⟩ := loopWi0 o id hid B N s few g (by omega) (by omega) a.toNat (p + 1) [] (hr.next (by omega) (by omega)) (by omega) (by simp; omega)
    rw [haN] at hi e2
    simp only [List.map_nil, List.length_nil] at hi e3
    have hS := hSorted l' (by omega)
    have htl := tidyL_le l'
    have hfl := fals_mvP l'
    obtain ⟨g', q, f1, f2, f3, f4, hn⟩ := loopWi1 o id hid B N few hN hN2 k (s + 1) q1 (g ++ [tidyL l']) (by omega) (by simp [hg]) (fun l hl' => by
      rcases List.mem_append.1 hl' with h | h
      · exact hl l h
      · simp at h; subst h; omega) (hr.next (by omega) (by omega)) (by omega)
    refine ⟨g', q, by omega, by omega, f3, f4, ?_⟩
    refine Eq.trans ?_ hn
    have hss : ((s + 1 : Nat) : Int) = (s : Int) + 1 := by omega
    rw [hss]
    have hg9 : g.length ≤ 4294967295 := by omega
    have hgn : gwP o.length (g ++ [tidyL l']) = .own (o.length, 51) (g.length + 1) := by simp [gwP]
    have hgl : gwL (g ++ [tidyL l']) = [(51, .row 1 (encGs true true g ++ [encL true true (tidyL l')]))] := by simp [gwL, encGs]
    rw [hgn, hgl]
    clear hn hss
    generalize tidyL l' = T at *
    rw [loopI_eq]
    rcases gw_two o.length g with ⟨h, h1, h2⟩ | ⟨h, h1, h2⟩ <;> rw [h1, h2] at hi ⊢ <;> rcases encL_two true true T with ⟨hT, _⟩ | hT <;> rw [hT] at hS ⊢ <;>
      (first | subst h | skip
       simp [r43l1, b43l1, setS_len, hne2, hlt, hw, ca, hi, hS, hfl, hg9, encGs_len, noShares_mv]
       try rfl)
end Go.Am
end
section
set_option maxRecDepth 10000
set_option maxHeartbeats 16000000
set_option linter.unusedSimpArgs false
set_option linter.unusedVariables false
namespace Go.Am
open Go.Proofs Go.Sort Go.Shelf
/-- A small graph. -/
def TinyG (g : Gr) : Prop := g.length ≤ 100 ∧ ∀ l ∈ g, l.length ≤ 100
theorem TinyG.small {g : Gr} (h : TinyG g) : SmallG g := ⟨by have := h.1; omega, fun l hl => by have := h.2 l hl; omega⟩
theorem eqWild (o : Stack) (id : Id) (hid : id.1 < o.length) (B : List Nat) (p : Int) (most : Nat) (hm : 1 ≤ most) (hm2 : most ≤ 90) (hr : RdrOK B p) (hp : p + 2000 ≤ 1000000000) :
    ∃ g q, p ≤ q ∧ q ≤ p + 2000 ∧ TinyG g ∧ callI H 43 [.ref id 1 0 0, .i most] (setS o id (rd B p)) = some (encG true true g, setS o id (rd B q)) := by
  have hne2 : ¬ id.1 = o.length := by omega
  obtain ⟨k1, a1, a2, c1⟩ := pickF o id hid B p most hr (by omega) (by omega)
  obtain ⟨k2, b1, b2, c2⟩ := pickF o id hid B (p + 1) 2 (hr.next (by omega) (by omega)) (by omega) (by omega)
  have hw : IntKind.i64.wrap (1 + k1) = 1 + k1 := wrD (by omega)
  obtain ⟨N, hN⟩ : ∃ N : Nat, (N : Int) = 1 + k1 := ⟨(1 + k1).toNat, by omega⟩
  have hN1 : 1 ≤ N := by omega
  have hN2 : N ≤ 100 := by omega
  obtain ⟨g, q1, e1, e2, e3, e4, hl⟩ := loopWi1 o id hid B N (decide (k2 = 0)) hN1 hN2 N 0 (p + 1 + 1) [] (by omega) rfl (by simp) (hr.next (by omega) (by omega)) (by omega)
  obtain ⟨k3, d1, d2, c3⟩ := pickF o id hid B q1 30 (hr.next (by omega) (by omega)) (by omega) (by omega)
  simp only [show ((0 : Nat) : Int) = 0 from rfl, hN, show gwP o.length [] = .nils from rfl, show gwL [] = [] from rfl] at hl
  obtain ⟨r0, g, rfl⟩ : ∃ r0 r, g = r0 :: r := by
    cases g with
    | nil => simp at e3; omega
    | cons r0 r => exact ⟨r0, r, rfl⟩
  have h1 : gwP o.length (r0 :: g) = .own (o.length, 51) (g.length + 1) := by simp [gwP]
  have h2 : gwL (r0 :: g) = [(51, .row 1 (encL true true r0 :: encGs true true g))] := by simp [gwL, encGs]
  rw [h1, h2] at hl
  have e30 := e4 r0 List.mem_cons_self
  have hns := noShares_mv r0
  by_cases k30 : k3 = 0
  · subst k30
    refine ⟨(r0 ++ [(9, 0)]) :: g, q1 + 1, by omega, by omega, ⟨by simp at e3 ⊢; omega, fun l hl' => ?_⟩, ?_⟩
    · rcases List.mem_cons.1 hl' with rfl | h
      · simp; omega
      · have := e4 l (List.mem_cons_of_mem _ h); omega
    · rw [callI_eq]
      rcases encL_two true true r0 with ⟨hT, h0⟩ | hT
      · subst h0
        rw [hT] at hl
        simp [body1_eq _ _ (gpH 43) g43, c43, a43, setS_len, hne2, c1, c2, hw, hl, c3, encGs_len, unAgg, mvP]
      · have hr9 : r0.length ≤ 4294967295 := by omega
        rw [hT] at hl
        simp [body1_eq _ _ (gpH 43) g43, c43, a43, setS_len, hne2, c1, c2, hw, hl, c3, encGs_len, unAgg, hr9, encL_ne, mvP]
  by_cases k31 : k3 = 1
  · subst k31
    refine ⟨(r0 ++ [(0, 1 + k1)]) :: g, q1 + 1, by omega, by omega, ⟨by simp at e3 ⊢; omega, fun l hl' => ?_⟩, ?_⟩
    · rcases List.mem_cons.1 hl' with rfl | h
      · simp; omega
      · have := e4 l (List.mem_cons_of_mem _ h); omega
    · rw [callI_eq]
      rcases encL_two true true r0 with ⟨hT, h0⟩ | hT
      · subst h0
        rw [hT] at hl
        simp [body1_eq _ _ (gpH 43) g43, c43, a43, setS_len, hne2, c1, c2, hw, hl, c3, encGs_len, unAgg, mvP]
      · have hr9 : r0.length ≤ 4294967295 := by omega
        rw [hT] at hl
        simp [body1_eq _ _ (gpH 43) g43, c43, a43, setS_len, hne2, c1, c2, hw, hl, c3, encGs_len, unAgg, hr9, encL_ne, mvP]
  by_cases k32 : k3 = 2
  · subst k32
    refine ⟨[], q1 + 1, by omega, by omega, ⟨by simp, by simp⟩, ?_⟩
    rw [callI_eq]
    simp [body1_eq _ _ (gpH 43) g43, c43, a43, setS_len, hne2, c1, c2, hw, hl, c3]
  · refine ⟨r0 :: g, q1 + 1, by omega, by omega, ⟨by omega, fun l hl' => by have := e4 l hl'; omega⟩, ?_⟩
    rw [callI_eq]
    simp [body1_eq _ _ (gpH 43) g43, c43, a43, setS_len, hne2, c1, c2, hw, hl, c3, k30, k31, k32, encGs_len]
theorem wildF (o : Stack) (id : Id) (hid : id.1 < o.length) (B : List Nat) (p : Int) (most : Nat) (hm : 1 ≤ most) (hm2 : most ≤ 90) (hr : RdrOK B p) (hp : p + 2000 ≤ 1000000000) :
    ∃ g q, p ≤ q ∧ q ≤ p + 2000 ∧ TinyG g ∧ callI H 43 [.ref id 1 0 0, .i most] (setS o id (rd B p) ++ [[]]) = some (encG true true g, setS o id (rd B q) ++ [[]]) := by
  obtain ⟨g, q, h1, h2, h3, h4⟩ := eqWild (o ++ [[]]) id (hidA hid) B p most hm hm2 hr hp
  exact ⟨g, q, h1, h2, h3, frC hid h4⟩
end Go.Am
end
section
set_option maxRecDepth 10000
set_option maxHeartbeats 16000000
set_option linter.unusedSimpArgs false
set_option linter.unusedVariables false
namespace Go.Am
open Go.Proofs Go.Sort Go.Shelf
theorem hGraphOf (ds : List Tm) (hs : SmTs ds) (hl : ds.length ≤ 1000) (t : Tm) (ht : SmT t) : ∃ (g : Gr) (ok : Bool), SmallG g ∧ callI H 94 [encT false t, encQ false ds] [] = some (.tup [encG true true g, .b ok], []) := by
  obtain ⟨g, ok, h1, h2, h⟩ := eqGraphOf ds hs hl t ht
  refine ⟨g, ok, ⟨by omega, fun l hl => by have := h2 l hl; omega⟩, ?_⟩
  rw [callI_prim' (p := viaP G 94 id) rfl]
  simpa only [viaP, List.map_cons, List.map_nil, id] using h
theorem encQ_two (ds : List Tm) : (ds = [] ∧ encQ true ds = .nils ∧ encQ false ds = .nils) ∨ (ds ≠ [] ∧ encQ true ds = .sl true 3 (encTs true ds) ∧ encQ false ds = .sl false 3 (encTs false ds)) := by
  cases ds with
  | nil => exact .inl ⟨rfl, rfl, rfl⟩
  | cons p ps => exact .inr ⟨by simp, by simp [encQ, encTs], by simp [encQ, encTs]⟩
theorem eqCalled (o : Stack) (id : Id) (hid : id.1 < o.length) (B : List Nat) (p : Int) (hr : RdrOK B p) (hp : p + 4000 ≤ 1000000000) :
    ∃ t ds q, p ≤ q ∧ q ≤ p + 4000 ∧ SmT t ∧ SmTs ds ∧ ds.length ≤ 3 ∧ callI H 93 [.ref id 1 0 0] (setS o id (rd B p)) = some (.tup [encT true t, encQ true ds], setS o id (rd B q)) := by
  have hne2 : ¬ id.1 = o.length := by omega
  obtain ⟨ds, q1, a1, a2, a3, a4, a5⟩ := defsF o id hid B p hr (by omega)
  obtain ⟨t, q2, b1, b2, b3, b4⟩ := termF o id hid B q1 ds.length (hr.next (by omega) (by omega)) a4 (by omega)
  obtain ⟨to, tn, tp, rfl, ht⟩ := encT_two t
  rcases encQ_two ds with ⟨rfl, d1, _⟩ | ⟨hd, d1, _⟩
  · refine ⟨.mk to tn tp, [], q2, by omega, by omega, b3, a3, by simp, ?_⟩
    rw [d1] at a5 ⊢
    simp only [List.length_nil, show ((0 : Nat) : Int) = 0 from rfl] at b4
    rw [callI_eq]
    rcases ht with ⟨rfl, ht⟩ | ⟨ht, hE⟩ <;> rw [ht] at b4 ⊢ <;> simp [body1_eq _ _ (gpH 93) g93, c93, a93, hne2, setS_len, a5, b4, encTs_len]
  · have hl := encTs_len true ds
    have hpos : (0 : Int) < ds.length := by
      have : ds.length ≠ 0 := fun e => hd (List.length_eq_zero_iff.1 e)
      omega
    have hpos2 : 0 < ds.length := by omega
    obtain ⟨k, c1, c2, c3⟩ := pickF o id hid B q2 3 (hr.next (by omega) (by omega)) (by omega) (by omega)
    rw [d1] at a5
    by_cases hk : k = 0
    · subst hk
      obtain ⟨j, e1, e2, e3⟩ := pickF o id hid B (q2 + 1) ds.length (hr.next (by omega) (by omega)) (by omega) (by omega)
      refine ⟨.mk 5 j [], ds, q2 + 1 + 1, by omega, by omega, by unfold SmT SmTs; exact ⟨by omega, by omega, by simp, trivial⟩, a3, a4, ?_⟩
      rw [d1]
      generalize encTs true ds = E at *
      generalize ds.length = n at *
      subst hl
      rw [callI_eq]
      rcases ht with ⟨rfl, ht⟩ | ⟨ht, hE⟩ <;> rw [ht] at b4 <;> simp [body1_eq _ _ (gpH 93) g93, c93, a93, hne2, setS_len, a5, b4, encTs_len, hpos, hpos2, c3, e3, encT, encQ]
    · refine ⟨.mk to tn tp, ds, q2 + 1, by omega, by omega, b3, a3, a4, ?_⟩
      rw [d1]
      generalize encTs true ds = E at *
      generalize ds.length = n at *
      subst hl
      rw [callI_eq]
      rcases ht with ⟨rfl, ht⟩ | ⟨ht, hE⟩ <;> rw [ht] at b4 ⊢ <;> simp [body1_eq _ _ (gpH 93) g93, c93, a93, hne2, setS_len, a5, b4, encTs_len, hpos, hpos2, c3, hk]
theorem calledF (o : Stack) (id : Id) (hid : id.1 < o.length) (B : List Nat) (p : Int) (hr : RdrOK B p) (hp : p + 4000 ≤ 1000000000) :
    ∃ t ds q, p ≤ q ∧ q ≤ p + 4000 ∧ SmT t ∧ SmTs ds ∧ ds.length ≤ 3 ∧ callI H 93 [.ref id 1 0 0] (setS o id (rd B p) ++ [[]]) = some (.tup [encT true t, encQ true ds], setS o id (rd B q) ++ [[]]) := by
  obtain ⟨t, ds, q, h1, h2, h3, h4, h5, h6⟩ := eqCalled (o ++ [[]]) id (hidA hid) B p hr hp
  exact ⟨t, ds, q, h1, h2, h3, h4, h5, frC hid h6⟩
theorem eqDrawG (o : Stack) (id : Id) (hid : id.1 < o.length) (B : List Nat) (p : Int) (hr : RdrOK B p) (hp : p + 10000 ≤ 1000000000) :
    ∃ g q, p ≤ q ∧ q ≤ p + 10000 ∧ SmallG g ∧ callI H 52 [.ref id 1 0 0] (setS o id (rd B p)) = some (encG true true g, setS o id (rd B q)) := by
  have hne2 : ¬ id.1 = o.length := by omega
  obtain ⟨k, a1, a2, c1⟩ := pickF o id hid B p 2 hr (by omega) (by omega)
  by_cases hk : k = 0
  · subst hk
    obtain ⟨t, ds, q1, b1, b2, b3, b4, b5, b6⟩ := calledF o id hid B (p + 1) (hr.next (by omega) (by omega)) (by omega)
    obtain ⟨g, ok, sg, hG⟩ := hGraphOf ds b4 (by omega) t b3
    obtain ⟨g2, q2, w1, w2, w3, w4⟩ := wildF o id hid B q1 6 (by omega) (by omega) (hr.next (by omega) (by omega)) (by omega)
    simp only [show ((6 : Nat) : Int) = 6 from rfl] at w4
    have hns := noShares_encGs true g
    have hft := fal_encT t
    have hfq := fal_encQ ds
    obtain ⟨to, tn, tp, rfl, ht⟩ := encT_two t
    cases ok with
    | true =>
      refine ⟨g, q1, by omega, by omega, sg, ?_⟩
      simp only [encG] at hG ⊢
      rw [callI_eq]
      rcases encQ_two ds with ⟨rfl, d1, d2⟩ | ⟨hd, d1, d2⟩ <;> rw [d1] at b6 hfq <;> rw [d2] at hG hfq <;> rcases ht with ⟨rfl, ht⟩ | ⟨ht, hE⟩ <;> rw [ht] at b6 hft <;> simp only [fal, fals] at hft hfq <;> rw [← hft] at hG <;> rcases encM_two true true g with ⟨e, _⟩ | e <;> rw [e] at hG ⊢ <;>
        (try (simp only [PV.sl.injEq, true_and] at hfq; rw [← hfq] at hG)
         simp [body1_eq _ _ (gpH 52) g52, c52, a52, hne2, setS_len, c1, b6, hG, encTs_len, hns, encGs_len])
    | false =>
      refine ⟨g2, q2, by omega, by omega, w3.small, ?_⟩
      have hns2 := noShares_encGs true g2
      simp only [encG] at hG w4 ⊢
      rw [callI_eq]
      rcases encQ_two ds with ⟨rfl, d1, d2⟩ | ⟨hd, d1, d2⟩ <;> rw [d1] at b6 hfq <;> rw [d2] at hG hfq <;> rcases ht with ⟨rfl, ht⟩ | ⟨ht, hE⟩ <;> rw [ht] at b6 hft <;> simp only [fal, fals] at hft hfq <;> rw [← hft] at hG <;> rcases encM_two true true g with ⟨e, _⟩ | e <;> rw [e] at hG <;> rcases encM_two true true g2 with ⟨e', _⟩ | e' <;> rw [e'] at w4 ⊢ <;>
        (try (simp only [PV.sl.injEq, true_and] at hfq; rw [← hfq] at hG)
         simp [body1_eq _ _ (gpH 52) g52, c52, a52, hne2, setS_len, c1, b6, hG, w4, encTs_len, hns, hns2, encGs_len])
  · obtain ⟨g2, q2, w1, w2, w3, w4⟩ := wildF o id hid B (p + 1) 6 (by omega) (by omega) (hr.next (by omega) (by omega)) (by omega)
    simp only [show ((6 : Nat) : Int) = 6 from rfl] at w4
    refine ⟨g2, q2, by omega, by omega, w3.small, ?_⟩
    simp only [encG] at w4 ⊢
    rw [callI_eq]
    rcases encM_two true true g2 with ⟨e', _⟩ | e' <;> rw [e'] at w4 ⊢ <;> simp [body1_eq _ _ (gpH 52) g52, c52, a52, hne2, setS_len, c1, hk, w4, encGs_len]
end Go.Am
end
section
set_option maxRecDepth 10000
set_option maxHeartbeats 8000000
set_option linter.unusedSimpArgs false
set_option linter.unusedVariables false
namespace Go.Am
open Go.Proofs Go.Sort Go.Shelf
/-! spec.l91Menu -/
def meP (n : Nat) (bs : List Bool) : PV := if bs = [] then .nils else .own (n, 18) bs.length
def meL (bs : List Bool) : Objs := if bs = [] then [] else [(18, .row 1 (bools bs))]
theorem me_two (n : Nat) (bs : List Bool) : (bs = [] ∧ meP n bs = .nils ∧ meL bs = []) ∨ (bs ≠ [] ∧ meP n bs = .own (n, 18) bs.length ∧ meL bs = [(18, .row 1 (bools bs))]) := by
  by_cases h : bs = []
  · exact .inl ⟨h, by simp [meP, h], by simp [meL, h]⟩
  · exact .inr ⟨h, by simp [meP, h], by simp [meL, h]⟩
theorem loopMe (o : Stack) (id : Id) (hid : id.1 < o.length) (B : List Nat) (N : Nat) (hN : N ≤ 1000) : ∀ (j : Nat) (p : Int) (bs : List Bool), RdrOK B p → p + j ≤ 1000000000 → bs.length + j = N →
    ∃ bs' : List Bool, bs'.length = N ∧
      loopI H [0, 1, 5, 6] [7, 18] c63l0 ⟨[(0, .ref id 1 0 0), (1, .i N), (5, meP o.length bs), (6, .i bs.length)], meL bs, setS o id (rd B p)⟩ =
        some (.exit 0, ⟨[(0, .ref id 1 0 0), (1, .i N), (5, meP o.length bs'), (6, .i N), (10, .b false)], meL bs', setS o id (rd B (p + j))⟩)
  | 0, p, bs, hr, hp, hl => by
    refine ⟨bs, by omega, ?_⟩
    have hne2 : ¬ id.1 = o.length := by omega
    have hl : bs.length = N := by omega
    rw [loopI_eq]
    rcases me_two o.length bs with ⟨h, h1, h2⟩ | ⟨h, h1, h2⟩ <;> rw [h1, h2] <;>
      simp [r63l0, b63l0, setS_len, hne2, hl]
  | j + 1, p, bs, hr, hp, hl => by
    have hne2 : ¬ id.1 = o.length := by omega
    have hlt : (bs.length : Int) < N := by omega
    have hw : IntKind.i64.wrap ((bs.length : Int) + 1) = (bs.length : Int) + 1 := wrD (by omega)
    have hbl : bs.length ≤ 4294967295 := by omega
    have hkk : ((j + 1 : Nat) : Int) = (j : Int) + 1 := by omega
    rw [hkk] at hp ⊢
    obtain ⟨k, a1, a2, ck⟩ := pickF o id hid B p 3 hr (by omega) (by omega)
    obtain ⟨bs', e1, hn⟩ := loopMe o id hid B N hN j (p + 1) (bs ++ [decide (k = 0)]) (hr.next (by omega) (by omega)) (by omega) (by simp; omega)
    refine ⟨bs', e1, ?_⟩
    have e2 : p + ((j : Int) + 1) = p + 1 + j := by omega
    have hb : bools (bs ++ [decide (k = 0)]) = bools bs ++ [.b (decide (k = 0))] := by simp [bools]
    have hP : meP o.length (bs ++ [decide (k = 0)]) = .own (o.length, 18) (bs.length + 1) := by simp [meP]
    have hL : meL (bs ++ [decide (k = 0)]) = [(18, .row 1 (bools bs ++ [.b (decide (k = 0))]))] := by simp [meL, hb]
    rw [hP, hL] at hn
    rw [e2]
    refine Eq.trans ?_ hn
    rw [loopI_eq]
    rcases me_two o.length bs with ⟨h, h1, h2⟩ | ⟨h, h1, h2⟩ <;> rw [h1, h2]
    · subst h
      have hN1 : 0 < N := by simp at hlt; omega
      have hw1 : IntKind.i64.wrap 1 = 1 := wrD (by omega)
      by_cases h0 : k = 0 <;>
        simp [r63l0, b63l0, setS_len, hne2, ck, hN1, hw1, h0, bools]
    · by_cases h0 : k = 0 <;>
        simp [r63l0, b63l0, setS_len, hne2, ck, hw, hlt, hbl, h0]
theorem eqMenu (o : Stack) (id : Id) (hid : id.1 < o.length) (B : List Nat) (N : Nat) (h1N : 1 ≤ N) (hN : N ≤ 1000) (p : Int) (hr : RdrOK B p) (hp : p + N + 1 ≤ 1000000000) :
    ∃ bs u, bs.length ≤ N ∧ callI H 63 [.ref id 1 0 0, .i N] (setS o id (rd B p)) = some (.sl u 1 (bools bs), setS o id (rd B (p + N + 1))) := by
  have hne2 : ¬ id.1 = o.length := by omega
  obtain ⟨bs, hl, hm⟩ := loopMe o id hid B N hN N p [] hr (by omega) (by simp)
  have hr2 : RdrOK B (p + N) := hr.next (by omega) (by omega)
  obtain ⟨k, a1, a2, ck⟩ := pickF o id hid B (p + N) 20 hr2 (by omega) (by omega)
  have hbb : (bools bs).length = N := by simp [hl]
  have hns : noShares (bools bs) = true := noShares_bools bs
  have hfb : fals (bools bs) = bools bs := fals_bools bs
  have hne : bs ≠ [] := by intro h; rw [h] at hl; simp at hl; omega
  have hP : meP o.length bs = .own (o.length, 18) N := by simp [meP, hne, hl]
  have hL : meL bs = [(18, .row 1 (bools bs))] := by simp [meL, hne]
  have hP0 : meP o.length [] = .nils := rfl
  have hL0 : meL [] = [] := rfl
  rw [hP, hL, hP0, hL0] at hm
  simp only [List.length_nil, show ((0 : Nat) : Int) = 0 from rfl] at hm
  have hpos : (0 : Int) < N := by omega
  by_cases hc : k = 0
  · refine ⟨bs.drop 1, false, by simp; omega, ?_⟩
    have hd : bools (bs.drop 1) = (bools bs).drop 1 := by simp [bools]
    rw [hd]
    generalize bools bs = BB at hm hbb hns hfb ⊢
    have h1 : (1 : Int) ≤ N := by omega
    have ht : BB.tail.take (N - 1) = BB.tail := List.take_of_length_le (by simp; omega)
    have hN1 : 0 < N := by omega
    rw [callI_eq]
    simp [body1_eq _ _ (gpH 63) g63, c63, a63, setS_len, hne2, hm, ck, hc, hpos, hN1, hbb, h1, hns, hfb, ht]
  · refine ⟨bs, true, by omega, ?_⟩
    generalize bools bs = BB at hm hbb hns hfb ⊢
    rw [callI_eq]
    simp [body1_eq _ _ (gpH 63) g63, c63, a63, setS_len, hne2, hm, ck, hc, hbb, hns, hfb]
end Go.Am
end
section
set_option maxRecDepth 10000
set_option maxHeartbeats 16000000
set_option linter.unusedSimpArgs false
set_option linter.unusedVariables false
namespace Go.Am
open Go.Proofs Go.Sort Go.Shelf
theorem eqDrawGraphVeil (B : List Nat) (hB : B.length ≤ 9223372036854775807) (hb : ∀ b ∈ B, b < 256) : ∃ g bs u, SmallG g ∧ bs.length ≤ 4 ∧ callI H 25 [.sl false 1 (byVs B)] [] = some (.tup [encG true true g, .sl u 1 (bools bs)], []) := by
  obtain ⟨B', h1, h2, h3⟩ := eqOpen B hB
  have hr : RdrOK B' 0 := ⟨h1, fun b hb' => hb b (h2 b hb'), by omega, by omega⟩
  obtain ⟨g, q1, e1, e2, sg, hg⟩ := eqDrawG [[(2, .box [.nils])] ++ (8, rd B' 0) :: []] (0, 8) (by simp) B' 0 hr (by omega)
  have es : ∀ (R : OB) (L : Objs), setS [[(2, .box [.nils])] ++ (8, R) :: L] (0, 8) = fun R' => [[(2, .box [.nils])] ++ (8, R') :: L] := fun _ _ => rfl
  simp only [es] at hg
  simp only [rd, List.cons_append, List.nil_append] at hg
  have hmn : ∀ (X : PV) (L : Objs), ∃ bs u q3, bs.length ≤ 4 ∧ callI H 63 [.ref (0, 8) 1 0 0, .i 4] [(2, .box [.nils]) :: (5, .box [X]) :: (8, rd B' q1) :: L] = some (.sl u 1 (bools bs), [(2, .box [.nils]) :: (5, .box [X]) :: (8, rd B' q3) :: L]) := by
    intro X L
    obtain ⟨bs, u, f1, hh⟩ := eqMenu [[(2, .box [.nils]), (5, .box [X])] ++ (8, rd B' q1) :: L] (0, 8) (by simp) B' 4 (by omega) (by omega) q1 (hr.next (by omega) (by omega)) (by omega)
    have es2 : ∀ (R : OB) (L : Objs), setS [[(2, .box [.nils]), (5, .box [X])] ++ (8, R) :: L] (0, 8) = fun R' => [[(2, .box [.nils]), (5, .box [X])] ++ (8, R') :: L] := fun _ _ => rfl
    simp only [es2, show ((4 : Nat) : Int) = 4 from rfl] at hh
    exact ⟨bs, u, _, f1, hh⟩
  rcases encM_two true true g with ⟨e, e0⟩ | e
  · obtain ⟨bs, u, q3, hbl, hm⟩ := hmn .nils []
    refine ⟨g, bs, u, sg, hbl, ?_⟩
    simp only [rd] at hm
    simp only [encG] at hg ⊢
    rw [e] at hg ⊢
    rw [callI_eq]
    cases u <;> simp [body1_eq _ _ (gpH 25) g25, c25, a25, h3, hg, hm]
  · obtain ⟨bs, u, q3, hbl, hm⟩ := hmn (.own (0, 10) g.length) [(10, .row 1 (encGs true true g))]
    refine ⟨g, bs, u, sg, hbl, ?_⟩
    simp only [rd] at hm
    simp only [encG] at hg ⊢
    rw [e] at hg ⊢
    rw [callI_eq]
    cases u <;> simp [body1_eq _ _ (gpH 25) g25, c25, a25, h3, hg, hm]
end Go.Am
end
section
set_option maxRecDepth 10000
set_option maxHeartbeats 4000000
set_option linter.unusedSimpArgs false
set_option linter.unusedVariables false
namespace Go.Am
open Go.Proofs Go.Sort Go.Shelf
/-! both graphs are one -/
end Go.Am
end
section
set_option maxRecDepth 10000
set_option maxHeartbeats 4000000
set_option linter.unusedSimpArgs false
set_option linter.unusedVariables false
namespace Go.Am
open Go.Proofs Go.Sort Go.Shelf
/-! impl.GraphPart -/
theorem atG_skip (y x : Int) (row : List Int) (i : Nat) (h : ¬ y = x) : atG i (y :: row) x = atG (i + 1) row x := by simp [atG, h]
theorem loopPi0 (x : Int) : ∀ (rest done : List Int) (N : Nat), (done ++ rest).length = N → N ≤ 4294967296 → x ∈ rest →
    loopI G [0, 1, 7, 8] [] c70l0 ⟨[(0, .sl false 1 ((done ++ rest).map PV.i)), (1, .i x), (7, .i N), (8, .i done.length)], [], []⟩ = some (.ret, ⟨[(4, .i (atG done.length rest x))], [], []⟩)
  | [], done, N, h, hN, hx => by cases hx
  | y :: rest, done, N, h, hN, hx => by
    have hl : (done ++ y :: rest).length = done.length + (rest.length + 1) := by simp
    have hlt : (done.length : Int) < N := by omega
    have hlt2 : done.length < N := by omega
    have hw : IntKind.i64.wrap ((done.length : Int) + 1) = (done.length : Int) + 1 := wr (by omega)
    have hat : nth ((done ++ y :: rest).map PV.i) done.length = some (.i y) := by simp [nth]
    have hml : ((done ++ y :: rest).map PV.i).length = N := by simpa using h
    have e1 : done ++ [y] ++ rest = done ++ y :: rest := by simp
    by_cases hxy : y = x
    · subst hxy
      generalize (done ++ y :: rest).map PV.i = F at *
      rw [loopI_eq]
      simp [r70l0, b70l0, hlt, hlt2, hat, hml, atG]
    · have hx2 : x ∈ rest := by
        rcases List.mem_cons.1 hx with h | h
        · exact absurd h.symm hxy
        · exact h
      have hn := loopPi0 x rest (done ++ [y]) N (by simpa using h) hN hx2
      rw [e1] at hn
      rw [atG_skip y x rest _ hxy]
      simp only [List.length_append, List.length_cons, List.length_nil] at hn
      refine Eq.trans ?_ hn
      have hxy2 : ¬ x = y := fun e => hxy e.symm
      generalize (done ++ y :: rest).map PV.i = F at *
      rw [loopI_eq]
      simp [r70l0, b70l0, hlt, hlt2, hat, hml, hxy, hxy2, hw]
theorem eqIndexI (x : Int) (row : List Int) (hl : row.length ≤ 4294967296) (hx : x ∈ row) : callI G 70 [.sl false 1 (row.map PV.i), .i x] [] = some (.i (atOf row x), []) := by
  have h := loopPi0 x row [] row.length (by simp) hl hx
  simp only [List.nil_append, List.length_nil, show ((0 : Nat) : Int) = 0 from rfl] at h
  have hml : (row.map PV.i).length = row.length := by simp
  unfold atOf
  generalize row.map PV.i = F at *
  rw [callI_eq]
  simp [body1_eq _ _ (gp 70) g70, c70, a70, hml, h]
theorem fals_ints (row : List Int) : fals (row.map PV.i) = row.map PV.i := by
  induction row with
  | nil => rfl
  | cons x row ih => simp only [List.map_cons, fals, ih, fal]
theorem loopGp0 (nl : Bool) (E : List PV) (Y : PV) (YL : Objs) (xs : List PV) (hY : OwnS 65 1 Y YL xs) (row : List Int) (hrl : row.length ≤ 4294967296) (j : Int) : ∀ (rest done : List Mv), (∀ m ∈ rest, m.2 ∈ row) → (done ++ rest).length ≤ 4294967296 →
    loopI G [2, 4, 6, 7, 10, 32, 33, 34, 43, 44, 45] [2, 4, 7, 30, 38, 58, 65] c28l0 ⟨[(2, .ref (0, 2) 1 0 0), (4, .ref (0, 4) 1 0 0), (6, .own (0, 30) row.length), (7, .ref (0, 7) 1 0 0), (10, owP 58 (reT row done)), (32, .own (0, 30) row.length), (33, .i row.length), (34, .i j), (43, encL nl false (done ++ rest)), (44, .i (done ++ rest).length), (45, .i done.length)],
      (2, .box [.sl false 1 E]) :: (4, .box [.nils]) :: (7, .box [Y]) :: (30, .row 1 (row.map PV.i)) :: (owL 58 (reT row done) ++ YL), []⟩ =
      some (.exit 2, ⟨[(2, .ref (0, 2) 1 0 0), (4, .ref (0, 4) 1 0 0), (6, .own (0, 30) row.length), (7, .ref (0, 7) 1 0 0), (10, owP 58 (reT row (done ++ rest))), (32, .own (0, 30) row.length), (33, .i row.length), (34, .i j), (43, encL nl false (done ++ rest)), (44, .i (done ++ rest).length), (45, .i (done ++ rest).length), (46, .b false)],
        (2, .box [.sl false 1 E]) :: (4, .box [.nils]) :: (7, .box [Y]) :: (30, .row 1 (row.map PV.i)) :: (owL 58 (reT row (done ++ rest)) ++ YL), []⟩)
  | [], done, hm, h => by
    rw [loopI_eq]
    by_cases hd : done = []
    · subst hd
      rcases hY with ⟨rfl, rfl, rfl⟩ | ⟨hxs, rfl, rfl⟩ <;> simp [r28l0, b28l0, reT]
    · have hp : owP 58 (reT row done) = .own (0, 58) done.length := by simp [owP, reT, hd]
      have ho : owL 58 (reT row done) = [(58, .row 2 ((reT row done).map mvP))] := by simp [owL, reT, hd]
      rcases hY with ⟨rfl, rfl, rfl⟩ | ⟨hxs, rfl, rfl⟩ <;> simp [r28l0, b28l0, hp, ho]
  | x :: rest, done, hm, h => by
    have hlt : (done.length : Int) < (done.length : Int) + ((rest.length : Int) + 1) := by omega
    have hw : IntKind.i64.wrap ((done.length : Int) + 1) = (done.length : Int) + 1 := wr (by simp at h; omega)
    have hdl : done.length ≤ 4294967295 := by simp at h; omega
    have hat := mv_at done x rest
    have hix := eqIndexI x.2 row hrl (hm x List.mem_cons_self)
    have hfi := fals_ints row
    have hn := loopGp0 nl E Y YL xs hY row hrl j rest (done ++ [x]) (fun m hm' => hm m (List.mem_cons_of_mem _ hm')) (by simpa using h)
    have hen : encL nl false (done ++ x :: rest) = .sl false 2 ((done ++ x :: rest).map mvP) := encL_ne (by simp)
    have e1 : done ++ [x] ++ rest = done ++ x :: rest := by simp
    rw [e1] at hn
    rw [hen] at hn ⊢
    rw [loopI_eq]
    simp only [mvP, List.map_append, List.map_cons] at hat
    by_cases hd : done = []
    · subst hd
      simp at hat hn
      rcases hY with ⟨rfl, rfl, rfl⟩ | ⟨hxs, rfl, rfl⟩ <;>
        (simp [r28l0, b28l0, hlt, hat, mvP, unAgg, hw, hdl, reT, wr1, hix, hfi]
         simpa [reT, mvP, Int.add_assoc] using hn)
    · have hp : owP 58 (reT row done) = .own (0, 58) done.length := by simp [owP, reT, hd]
      have ho : owL 58 (reT row done) = [(58, .row 2 ((reT row done).map mvP))] := by simp [owL, reT, hd]
      rw [hp, ho]
      rcases hY with ⟨rfl, rfl, rfl⟩ | ⟨hxs, rfl, rfl⟩ <;>
        (simp [r28l0, b28l0, hlt, hat, mvP, unAgg, hw, hdl, hix, hfi]
         simpa [reT, mvP, Int.add_assoc] using hn)
theorem loopGp1 (E : List PV) (g : Gr) (hE : EncR false E g) (hs : SmallG g) (row : List Int) (hrow : InN g.length row) (hcl : ∀ x ∈ row, ∀ m ∈ g.getD x.toNat [], m.2 ∈ row) : ∀ (rest done : List Int), row = done ++ rest → ∀ Y YL, OwnS 65 1 Y YL (encGs true true (done.map (ptR g row))) →
    ∃ Y' YL', OwnS 65 1 Y' YL' (encGs true true (row.map (ptR g row))) ∧
    loopI G [2, 4, 6, 7, 32, 33, 34] [2, 4, 7, 30, 65] c28l1 ⟨[(2, .ref (0, 2) 1 0 0), (4, .ref (0, 4) 1 0 0), (6, .own (0, 30) row.length), (7, .ref (0, 7) 1 0 0), (32, .own (0, 30) row.length), (33, .i row.length), (34, .i done.length)], (2, .box [.sl false 1 E]) :: (4, .box [.nils]) :: (7, .box [Y]) :: (30, .row 1 (row.map PV.i)) :: YL, []⟩ =
      some (.exit 0, ⟨[(2, .ref (0, 2) 1 0 0), (4, .ref (0, 4) 1 0 0), (6, .own (0, 30) row.length), (7, .ref (0, 7) 1 0 0), (32, .own (0, 30) row.length), (33, .i row.length), (34, .i row.length), (35, .b false)], (2, .box [.sl false 1 E]) :: (4, .box [.nils]) :: (7, .box [Y']) :: (30, .row 1 (row.map PV.i)) :: YL', []⟩)
  | [], done, hd, Y, YL, hY => by
    rw [List.append_nil] at hd
    subst hd
    refine ⟨Y, YL, hY, ?_⟩
    rw [loopI_eq]
    rcases hY with ⟨h1, rfl, rfl⟩ | ⟨h1, rfl, rfl⟩
    · simp [r28l1, b28l1]
    · simp [r28l1, b28l1]
  | x :: rest, done, hd, Y, YL, hY => by
    have hl := hrow.len
    have hgl := hs.1
    have hrl : row.length = done.length + (rest.length + 1) := by rw [hd]; simp
    have hlt : (done.length : Int) < row.length := by omega
    have hlt2 : done.length < row.length := by omega
    have hw : IntKind.i64.wrap ((done.length : Int) + 1) = (done.length : Int) + 1 := wr (by omega)
    have hxr : x ∈ row := by rw [hd]; simp
    have hx := hrow.2 x hxr
    have hat : nth (row.map PV.i) done.length = some (.i x) := by rw [hd, List.map_append, List.map_cons]; exact at_D _ _ _ _ (by simp)
    have hxl : x < g.length := hx.2
    have hxn : x.toNat < g.length := by omega
    obtain ⟨nl, hat2⟩ := hE.2 x.toNat hxn
    have hEl := hE.1
    have hLl : (g.getD x.toNat []).length ≤ 1048576 := hs.2 _ (by rw [List.getD_eq_getElem?_getD, List.getElem?_eq_getElem hxn, Option.getD_some]; exact List.getElem_mem hxn)
    have hpt : ptR g row x = tidyL (reT row (g.getD x.toNat [])) := rfl
    have hYl : (encGs true true (done.map (ptR g row))).length = done.length := by simp
    have hdl : done.length ≤ 4294967295 := by omega
    have hcx := hcl x hxr
    generalize hL : g.getD x.toNat [] = L at hat2 hLl hpt hcx
    have h0 := loopGp0 nl E Y YL _ hY row (by omega) done.length L [] hcx (by simp; omega)
    simp only [List.nil_append, List.length_nil, show ((0 : Nat) : Int) = 0 from rfl, show reT row [] = [] from rfl, owP_n, owL_n] at h0
    have hnew : encGs true true ((done ++ [x]).map (ptR g row)) = encGs true true (done.map (ptR g row)) ++ [encL true true (ptR g row x)] := by simp [encGs]
    have hnn : encGs true true ((done ++ [x]).map (ptR g row)) ≠ [] := by rw [hnew]; simp
    have hYn : OwnS 65 1 (.own (0, 65) (done.length + 1)) [(65, .row 1 (encGs true true (done.map (ptR g row)) ++ [encL true true (ptR g row x)]))] (encGs true true ((done ++ [x]).map (ptR g row))) := by
      refine .inr ⟨hnn, ?_, ?_⟩
      · rw [hnew]; simp
      · rw [hnew]
    obtain ⟨Y', YL', hY', hn⟩ := loopGp1 E g hE hs row hrow hcl rest (done ++ [x]) (by simpa using hd) _ _ hYn
    refine ⟨Y', YL', hY', ?_⟩
    simp only [List.length_append, List.length_cons, List.length_nil, Int.natCast_add, show ((0 + 1 : Nat) : Int) = 1 from rfl] at hn
    clear hY'
    rw [loopI_eq]
    by_cases hLe : L = []
    · subst hLe
      have hr0 : reT row [] = [] := rfl
      rw [hr0, tidyL_n] at hpt
      rw [hpt] at hn
      have htN := eqTidyN []
      have e1 : encL nl false [] = .nils ∨ encL nl false [] = .sl false 2 [] := by cases nl <;> simp [encL]
      rcases hY with ⟨h1, rfl, rfl⟩ | ⟨h1, rfl, rfl⟩
      · have hd0 : done = [] := by cases done with | nil => rfl | cons a b => simp [encGs] at h1
        subst hd0
        have hlt0 : 0 < row.length := by omega
        rcases e1 with e | e
        all_goals
          rw [e] at hat2 h0
          simp [hr0] at h0 hn hat
          simp [r28l1, b28l1, hlt, hlt2, hw, hat, hat2, hx.1, hxl, hEl, h0, htN, wr1, hlt0]
          simpa [encGs] using hn
      · rcases e1 with e | e
        all_goals
          rw [e] at hat2 h0
          simp [hr0] at h0 hn
          simp [r28l1, b28l1, hlt, hlt2, hw, hat, hat2, hx.1, hxl, hEl, h0, htN, hdl]
          simpa [encGs] using hn
    · have hen : encL nl false L = .sl false 2 (L.map mvP) := encL_ne hLe
      have hp : owP 58 (reT row L) = .own (0, 58) L.length := by simp [owP, reT, hLe]
      have ho : owL 58 (reT row L) = [(58, .row 2 ((reT row L).map mvP))] := by simp [owL, reT, hLe]
      have hlt3 : encL true true (ptR g row x) = .sl true 2 ((tidyL (reT row L)).map mvP) := by rw [hpt]; exact encL_ne (tidyL_ne (by simp [reT, hLe]))
      rw [hlt3] at hn
      rw [hen] at hat2 h0
      rw [hp, ho] at h0
      rcases hY with ⟨h1, rfl, rfl⟩ | ⟨h1, rfl, rfl⟩
      · have hd0 : done = [] := by cases done with | nil => rfl | cons a b => simp [encGs] at h1
        subst hd0
        have hlt0 : 0 < row.length := by omega
        have ht := eqTidy (0, 58) (reT row L) [[(2, .box [.sl false 1 E]), (4, .box [.nils]), (7, .box [.nils]), (30, .row 1 (row.map PV.i)), (58, .row 2 ((reT row L).map mvP))]] (by simp) (by simp [getS, getO]) (by simp; omega)
        simp [setS, setO] at ht
        simp at h0 hn hat
        rcases ht with ⟨hts, ht⟩ | ht
        · have hTl : (tidyL (reT row L)).length = L.length := by rw [hts]; simp [srtM]
          simp [r28l1, b28l1, hlt, hlt2, hw, hat, hat2, hx.1, hxl, hEl, h0, ht, wr1, hlt0, hTl]
          simpa [encGs] using hn
        · simp [r28l1, b28l1, hlt, hlt2, hw, hat, hat2, hx.1, hxl, hEl, h0, ht, wr1, hlt0]
          simpa [encGs] using hn
      · have ht := eqTidy (0, 58) (reT row L) [[(2, .box [.sl false 1 E]), (4, .box [.nils]), (7, .box [.own (0, 65) (encGs true true (done.map (ptR g row))).length]), (30, .row 1 (row.map PV.i)), (58, .row 2 ((reT row L).map mvP)), (65, .row 1 (encGs true true (done.map (ptR g row))))]] (by simp) (by simp [getS, getO]) (by simp; omega)
        simp [setS, setO] at ht
        simp at h0 hn
        rcases ht with ⟨hts, ht⟩ | ht
        · have hTl : (tidyL (reT row L)).length = L.length := by rw [hts]; simp [srtM]
          simp [r28l1, b28l1, hlt, hlt2, hw, hat, hat2, hx.1, hxl, hEl, h0, ht, hdl, hTl]
          simpa [encGs] using hn
        · simp [r28l1, b28l1, hlt, hlt2, hw, hat, hat2, hx.1, hxl, hEl, h0, ht, hdl]
          simpa [encGs] using hn
/-- The part of a graph at its first state. -/
theorem eqGraphPart0 (g : Gr) (hk : grOk g = true) (hs : SmallG g) (hf : FitG g) (hcl : ∀ x ∈ reach g 0, ∀ m ∈ g.getD x.toNat [], m.2 ∈ reach g 0) :
    callI G 28 [encG false false g, .i 0] [] = some (.tup [encG true true (partG g 0), .b true], []) := by
  obtain ⟨q1, q2, q3⟩ := grOk_to hk
  have h2 := eqOkI g hf
  rw [hk] at h2
  have h1 := eqReached (encGs false false g) g (encR_G false false g) q1 hs 0 (by omega)
  have hr : InN g.length (reach g 0) := InN.bfs q1 _ _ (InN.one (by omega))
  have hbl := bfs_len g (g.length + 1) 0 [0]
  have hpg : partG g 0 = (reach g 0).map (ptR g (reach g 0)) := rfl
  have hrl : 1 ≤ (reach g 0).length := by unfold reach; simpa using hbl
  obtain ⟨Y, YL, hY, l1⟩ := loopGp1 (encGs false false g) g (encR_G false false g) hs (reach g 0) hr hcl (reach g 0) [] rfl .nils [] (.inl ⟨rfl, rfl, rfl⟩)
  simp only [List.length_nil, show ((0 : Nat) : Int) = 0 from rfl] at l1
  rw [hpg]
  generalize reach g 0 = row at *
  have hne : row ≠ [] := by intro e; rw [e] at hrl; cases hrl
  have hne2 : encGs true true (row.map (ptR g row)) ≠ [] := by simp [encGs, hne]
  have he : encG true true (row.map (ptR g row)) = .agg [.sl true 1 (encGs true true (row.map (ptR g row)))] := by simp [encG, encM', hne]
  have hEl : (encGs false false g).length = g.length := by simp
  have hpos : (0 : Int) < g.length := by omega
  have hpos2 : 0 < g.length := by omega
  rcases hY with ⟨q, _⟩ | ⟨_, rfl, rfl⟩
  · exact absurd q hne2
  · rw [he]
    simp only [encG, encM_f] at h2 ⊢
    generalize encGs false false g = E at *
    have hng : ¬ (g.length : Int) ≤ 0 := by omega
    have hng2 : ¬ g.length = 0 := by omega
    rw [callI_eq]
    simp [body1_eq _ _ (gp 28) g28, c28, a28, h1, h2, l1, hEl, hpos, hpos2, hng, hng2]
end Go.Am
end
section
set_option maxRecDepth 10000
set_option maxHeartbeats 16000000
set_option linter.unusedSimpArgs false
set_option linter.unusedVariables false
namespace Go.Am
open Go.Proofs Go.Sort Go.Shelf
theorem trees_bools (bs : List Bool) : trees (bools bs) = true := by
  induction bs with
  | nil => rfl
  | cons b bs ih => simp only [bools, List.map_cons, trees, tree, Bool.true_and] at ih ⊢; exact ih
theorem weaks_bools (bs : List Bool) : weaks 2 (bools bs) = bools bs := by
  induction bs with
  | nil => rfl
  | cons b bs ih => simp only [bools, List.map_cons, weaks] at ih ⊢; rw [ih]; rfl
theorem wkG_bools (bs : List Bool) : wkG (.sl false 1 (bools bs)) = .sl false 1 (bools bs) := by
  show weak 2 (.sl false 1 (bools bs)) = _
  simp only [weak, weaks_bools]
theorem lDrawVeil (B : List Nat) (hB : B.length ≤ 9223372036854775807) (hb : ∀ b ∈ B, b < 256) : ∃ g bs, SmallG g ∧ bs.length ≤ 4 ∧ callI L 25 [.sl false 1 (byVs B)] [] = some (.tup [encG true false g, .sl false 1 (bools bs)], []) := by
  obtain ⟨g, bs, u, sg, hl, h⟩ := eqDrawGraphVeil B hB hb
  refine ⟨g, bs, sg, hl, ?_⟩
  have e : callI L 25 [.sl false 1 (byVs B)] [] = lowTP H 25 id [.sl false 1 (byVs B)] [] := callI_prim' (p := lowTP H 25 id) rfl _ _
  rw [e]
  simp only [lowTP, viaP, List.map_cons, List.map_nil, id, h]
  rw [low_gx g (.sl u 1 (bools bs)) (by simp only [tree, trees_bools])]
  simp only [fal, fals_bools]
theorem lVeilI (g : Gr) (sg : SmallG g) (bs : List Bool) : callI L 26 [encG true false g, .sl false 1 (bools bs)] [] = some (.tup [encG true false (graphVeil g bs).1, .b (graphVeil g bs).2], []) := by
  have e : callI L 26 [encG true false g, .sl false 1 (bools bs)] [] = lowTP G 26 wkG [encG true false g, .sl false 1 (bools bs)] [] := callI_prim' (p := lowTP G 26 wkG) rfl _ _
  rw [e]
  simp only [lowTP, viaP, List.map_cons, List.map_nil, wkG_enc, wkG_bools]
  rw [eqGraphVeilI g sg sg.fit bs]
  exact low_gb _ _
theorem lVeilS (g : Gr) (sg : SmallG g) (bs : List Bool) : callI L 27 [encG true false g, .sl false 1 (bools bs)] [] = some (.tup [encG true false (graphVeil g bs).1, .b (graphVeil g bs).2], []) := by
  have e : callI L 27 [encG true false g, .sl false 1 (bools bs)] [] = lowTP G 27 wkG [encG true false g, .sl false 1 (bools bs)] [] := callI_prim' (p := lowTP G 27 wkG) rfl _ _
  rw [e]
  simp only [lowTP, viaP, List.map_cons, List.map_nil, wkG_enc, wkG_bools]
  rw [eqGraphVeilS g sg sg.fit bs]
  exact low_gb _ _
theorem lPart (g : Gr) (sg : SmallG g) (hk : grOk g = true) : callI L 28 [encG true false g, .i 0] [] = some (.tup [encG true false (partG g 0), .b true], []) := by
  have e : callI L 28 [encG true false g, .i 0] [] = lowTP G 28 wkG [encG true false g, .i 0] [] := callI_prim' (p := lowTP G 28 wkG) rfl _ _
  obtain ⟨q1, q2, q3⟩ := grOk_to hk
  rw [e]
  simp only [lowTP, viaP, List.map_cons, List.map_nil, wkG_enc, show wkG (.i 0) = .i 0 from rfl]
  rw [eqGraphPart0 g hk sg sg.fit (reach_closed q1 (by omega))]
  exact low_gb _ _
theorem nameI_inL {a : Int} (ha : actOk a = true) (h0 : a ≠ 0) : 0 ≤ nameI a ∧ nameI a < 4 := by
  have ha : -4 ≤ a ∧ a ≤ 4 := by simpa [actOk] using ha
  have : a = -4 ∨ a = -3 ∨ a = -2 ∨ a = -1 ∨ a = 1 ∨ a = 2 ∨ a = 3 ∨ a = 4 := by omega
  rcases this with rfl | rfl | rfl | rfl | rfl | rfl | rfl | rfl <;> decide
theorem bools_atL (bs : List Bool) (k : Nat) (h : k < bs.length) : nth (bools bs) k = some (.b (bs.getD k false)) := by
  simp [nth, bools, List.getD_eq_getElem?_getD, h]
theorem loopVl0 (bs : List Bool) (hbs : bs.length = 4) (X : PV) (hX : ∀ f n, known f n X = true) (E : List PV) (s : Nat) (hs : s < E.length) (l : List Mv) (hll : l.length ≤ 1048576) (hat : nth E s = some (encL true false l)) (hm : ∀ m ∈ l, namd bs m.1 = false ∧ actOk m.1 = true) : ∀ (rest done : List Mv), l = done ++ rest →
    loopI L [3, 4, 5, 9, 10, 11, 12] [3, 5, 9, 24, 30, 53, 1024] c6l0 ⟨[(3, .ref (0, 3) 1 0 0), (4, .sl false 1 (bools bs)), (5, .ref (0, 5) 1 0 0), (9, .ref (0, 9) 1 0 0), (10, .b true), (11, .i s), (12, .i done.length)], [(3, .box [X]), (5, .box [.sl false 1 E]), (9, .box [.sl false 1 E])], []⟩ =
      some (.exit 2, ⟨[(3, .ref (0, 3) 1 0 0), (4, .sl false 1 (bools bs)), (5, .ref (0, 5) 1 0 0), (9, .ref (0, 9) 1 0 0), (10, .b true), (11, .i s), (12, .i l.length), (70, .b false)], [(3, .box [X]), (5, .box [.sl false 1 E]), (9, .box [.sl false 1 E])], []⟩)
  | [], done, e => by
    have e : l = done := by simpa using e
    subst e
    have hs2 : (s : Int) < E.length := by omega
    rw [loopI_eq]
    rcases encLf_two l with ⟨h, h0⟩ | ⟨h, h0⟩ <;> rw [h] at hat
    · subst h0
      simp [hX, r6l0, b6l0, hat, hs, hs2]
    · simp [hX, r6l0, b6l0, hat, hs, hs2]
  | m :: rest, done, e => by
    have hpl : l.length = done.length + (rest.length + 1) := by rw [e]; simp
    have hs2 : (s : Int) < E.length := by omega
    have hlt : (done.length : Int) < l.length := by omega
    have hlt2 : done.length < l.length := by omega
    have hw : IntKind.i64.wrap ((done.length : Int) + 1) = (done.length : Int) + 1 := wr (by omega)
    obtain ⟨hh, ha⟩ := hm m (by rw [e]; simp)
    have hN := lActName m.1 ha
    have hne : l ≠ [] := by rw [e]; simp
    have hat2 := mv_at done m rest
    rw [← e] at hat2
    rw [encL_ne hne] at hat
    have hn := loopVl0 bs hbs X hX E s hs l hll (by rw [encL_ne hne]; exact hat) hm rest (done ++ [m]) (by rw [e]; simp)
    refine Eq.trans ?_ hn
    have hml : (l.map mvP).length = l.length := by simp
    generalize l.map mvP = ML at *
    rw [loopI_eq]
    by_cases h0 : m.1 = 0
    · simp only [h0, if_true, decide_true, Bool.not_true] at hN
      simp [hX, r6l0, b6l0, hat, hat2, hs, hs2, hlt, hlt2, hml, hw, mvP, hN, h0]
    · have hnn : bs.getD (nameI m.1).toNat false = false := by simpa [namd, h0] using hh
      obtain ⟨n1, n2⟩ := nameI_inL ha h0
      have hbat := bools_atL bs (nameI m.1).toNat (by omega)
      rw [hnn] at hbat
      have hbl : (bools bs).length = 4 := by simpa [bools] using hbs
      simp only [h0, if_false, decide_false, Bool.not_false] at hN
      generalize nameI m.1 = nm at *
      generalize bools bs = BS at *
      simp [hX, hbat, hbl, n1, n2, r6l0, b6l0, hat, hat2, hs, hs2, hlt, hlt2, hml, hw, mvP, hN]
theorem loopVl1 (bs : List Bool) (hbs : bs.length = 4) (X : PV) (hX : ∀ f n, known f n X = true) (x : Gr) (sx : SmallG x) (hm : ∀ l ∈ x, ∀ m ∈ l, namd bs m.1 = false ∧ actOk m.1 = true) : ∀ (k s : Nat), s + k = x.length →
    loopI L [3, 4, 5, 9, 10, 11] [3, 5, 9, 24, 30, 53, 1024] c6l1 ⟨[(3, .ref (0, 3) 1 0 0), (4, .sl false 1 (bools bs)), (5, .ref (0, 5) 1 0 0), (9, .ref (0, 9) 1 0 0), (10, .b true), (11, .i s)], [(3, .box [X]), (5, .box [.sl false 1 (encGs true false x)]), (9, .box [.sl false 1 (encGs true false x)])], []⟩ =
      some (.exit 0, ⟨[(3, .ref (0, 3) 1 0 0), (4, .sl false 1 (bools bs)), (5, .ref (0, 5) 1 0 0), (9, .ref (0, 9) 1 0 0), (10, .b true), (11, .i x.length), (60, .b false)], [(3, .box [X]), (5, .box [.sl false 1 (encGs true false x)]), (9, .box [.sl false 1 (encGs true false x)])], []⟩)
  | 0, s, e => by
    have : s = x.length := by omega
    subst this
    rw [loopI_eq]
    simp [hX, r6l1, b6l1]
  | k + 1, s, e => by
    have hlt : s < x.length := by omega
    have hlt2 : (s : Int) < x.length := by omega
    have hw : IntKind.i64.wrap ((s : Int) + 1) = (s : Int) + 1 := wr (by have := sx.1; omega)
    have hat := gr_nth true false x s hlt
    have hmem : x.getD s [] ∈ x := gr_mem hlt
    have hi := loopVl0 bs hbs X hX (encGs true false x) s (by simpa using hlt) (x.getD s []) (sx.2 _ hmem) hat (hm _ hmem) (x.getD s []) [] rfl
    simp only [List.length_nil, show ((0 : Nat) : Int) = 0 from rfl] at hi
    have hn := loopVl1 bs hbs X hX x sx hm k (s + 1) (by omega)
    refine Eq.trans ?_ hn
    rw [show ((s + 1 : Nat) : Int) = (s : Int) + 1 by omega, loopI_eq]
    have hEl : (encGs true false x).length = x.length := by simp
    generalize encGs true false x = E at *
    simp [hX, r6l1, b6l1, hEl, hlt, hlt2, hw, hi]
theorem veil_small {g : Gr} (sg : SmallG g) (bs : List Bool) : SmallG (graphVeil g bs).1 := by
  unfold graphVeil
  split
  · exact made_small (veilG_small sg)
  · exact ⟨by simp, fun l hl => by cases hl⟩
theorem lawFnGraphVeil (B : List Nat) (hB : B.length ≤ 9223372036854775807) (hb : ∀ b ∈ B, b < 256) : callI L 6 [.sl false 1 (byVs B)] [] = some (.b true, []) := by
  have hBl := byVs_len B
  by_cases hbig : (1048576 : Int) < B.length
  · rw [callI_eq]
    simp [body1_eq _ _ (gpL 6) g6, c6, a6, hBl, hbig]
  obtain ⟨g, bs, sg, hbl, hd⟩ := lDrawVeil B hB hb
  have hI := lVeilI g sg bs
  have hS := lVeilS g sg bs
  have sx := veil_small sg bs
  have hag := fun h : graphVeil g bs = ((graphVeil g bs).1, true) => veil_again h
  have hM := hMnGraphL _ sx
  have h4 := lVeilI g sg [false, false, false, false]
  generalize graphVeil g bs = X at *
  obtain ⟨x, bx⟩ := X
  simp only at *
  cases bx with
  | false =>
    generalize bools bs = BS at *
    rw [callI_eq]
    simp only [encG] at hd hI hS hM
    rcases encM_cases true false g with e | ⟨E, e⟩ <;> rw [e] at hd hI hS <;> rcases encM_cases true false x with e' | ⟨E', e'⟩ <;> rw [e'] at hI hS hM <;>
      simp [body1_eq _ _ (gpL 6) g6, c6, a6, hBl, hbig, hd, hI, hS, hM]
  | true =>
    obtain ⟨ha, hk, hb4, hm⟩ := hag rfl
    have hA := lVeilI x sx bs
    rw [ha] at hA
    simp only at hA
    obtain ⟨q1, q2, q3⟩ := grOk_to hk
    have hr60 : (reach g 0).length ≤ 60 := by
      have := (InN.bfs q1 (g.length + 1) 0 (InN.one (s := 0) (by omega))).len
      unfold reach
      omega
    have hmd : made g = (partG g 0, true) := by unfold made; rw [if_pos hr60]
    rw [veil_none hk, hmd] at h4
    have hP := lPart g sg hk
    have sP : SmallG (partG g 0) := by have := made_small sg; rw [hmd] at this; exact this
    have hM2 := hMnGraphL _ sP
    have hne : x ≠ [] := by
      intro e
      subst e
      unfold graphVeil at ha
      simp [grOk] at ha
    have hneg : g ≠ [] := by intro e; subst e; simp at q2
    have hx : encM' true false x = .sl false 1 (encGs true false x) := encM_ne hne
    have hg : encM' true false g = .sl false 1 (encGs true false g) := encM_ne hneg
    have hl := loopVl1 bs hb4 (.sl false 1 (encGs true false g)) (fun f n => rfl) x sx hm x.length 0 (by omega)
    simp only [show ((0 : Nat) : Int) = 0 from rfl] at hl
    have hbf : bools [false, false, false, false] = [.b false, .b false, .b false, .b false] := rfl
    rw [hbf] at h4
    generalize partG g 0 = q at *
    simp only [encG, hx, hg] at hd hI hS hM hA hP hM2 h4
    generalize encGs true false x = E at *
    generalize encGs true false g = E2 at *
    generalize bools bs = BS at *
    rw [callI_eq]
    rcases encM_cases true false q with e | ⟨E', e⟩ <;> rw [e] at hP hM2 h4 <;>
      simp [body1_eq _ _ (gpL 6) g6, c6, a6, hBl, hbig, hd, hI, hS, hM, hA, hl, hP, hM2, h4, List.replicate]
end Go.Am
end
