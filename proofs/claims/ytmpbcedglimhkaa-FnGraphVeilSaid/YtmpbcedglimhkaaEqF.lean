/- What the functions that the law reaches compute. -/
import Derived.Test.YtmpbcedglimhkaaEqE
import Derived.Test.YtmpbcedglimhkaaEqC
section
set_option maxRecDepth 10000
set_option linter.unusedSimpArgs false
set_option linter.unusedVariables false
namespace Go.Am
open Go.Proofs Go.Sort Go.Shelf
/-! what a term does is bounded; and what it leads to is a term -/
def lvT (w : Nat) : Tm → Nat
  | .mk o n [] => if o = 5 then w else 0
  | .mk o n [a] => if o = 1 then 1 else if o = 4 then lvT w a else 0
  | .mk o n [a, b] => if o = 2 then lvT w a + lvT w b else if o = 3 then lvT w a + lvT w b else 0
  | .mk _ _ (_ :: _ :: _ :: _) => 0
theorem lvT_le (w : Nat) : ∀ t : Tm, lvT w t ≤ (w + 1) * szT t
  | .mk o n [] => by
    have h : szT (.mk o n []) = 1 := by simp [szT, szTs]
    rw [h]
    unfold lvT
    split <;> omega
  | .mk o n [a] => by
    have ih := lvT_le w a
    have h : szT (.mk o n [a]) = szT a + 1 := by simp [szT, szTs]
    rw [h, Nat.mul_add]
    unfold lvT
    split
    · omega
    · split <;> omega
  | .mk o n [a, b] => by
    have iha := lvT_le w a
    have ihb := lvT_le w b
    have h : szT (.mk o n [a, b]) = szT a + szT b + 1 := by simp [szT, szTs]
    rw [h, Nat.mul_add, Nat.mul_add]
    unfold lvT
    split
    · omega
    · split <;> omega
  | .mk _ _ (_ :: _ :: _ :: _) => by simp [lvT]
theorem sq_add (a b : Nat) : a * a + b * b + a * b ≤ (a + b) * (a + b) := by
  rw [Nat.add_mul, Nat.mul_add, Nat.mul_add, Nat.mul_comm b a]
  omega
theorem stT_len (k : Int → List Stp) (w : Nat) (hk : ∀ n, visL (k n) ≤ w ∧ (k n).length ≤ w + w * w) : ∀ t : Tm, visL (stT k t) ≤ lvT w t ∧ (stT k t).length ≤ lvT w t + lvT w t * lvT w t
  | .mk o n [] => by
    unfold stT lvT
    split
    · exact hk n
    · simp [visL]
  | .mk o n [a] => by
    have ih := stT_len k w hk a
    unfold stT lvT
    split
    · refine ⟨?_, by simp⟩
      rw [visL_cons, visL_nil]
      split <;> omega
    · split
      · have := hidT_len n (stT k a)
        omega
      · simp [visL]
  | .mk o n [a, b] => by
    have iha := stT_len k w hk a
    have ihb := stT_len k w hk b
    have hq := sq_add (lvT w a) (lvT w b)
    unfold stT lvT
    split
    · rw [visL_app, List.length_append]
      omega
    · split
      · have := parS_len a b (stT k a) (stT k b)
        have hm : visL (stT k a) * visL (stT k b) ≤ lvT w a * lvT w b := Nat.mul_le_mul iha.1 ihb.1
        omega
      · simp [visL]
  | .mk _ _ (_ :: _ :: _ :: _) => by simp [stT, visL]
mutual
/-- A term that is one, and calls below a number. -/
def WfT (m : Int) : Tm → Prop
  | .mk o n ps => headOk o n = true ∧ ps.length = wantN o ∧ (o = 5 → n < m) ∧ WfTs m ps
def WfTs (m : Int) : List Tm → Prop
  | [] => True
  | p :: ps => WfT m p ∧ WfTs m ps
end
mutual
theorem WfT.va {m : Int} : ∀ {t : Tm}, WfT m t → VaT t
  | .mk o n ps, h => by
    unfold WfT at h
    unfold VaT
    exact ⟨h.1, h.2.1, WfTs.va h.2.2.2⟩
theorem WfTs.va {m : Int} : ∀ {ps : List Tm}, WfTs m ps → VaTs ps
  | [], h => by unfold VaTs; trivial
  | p :: ps, h => by
    unfold WfTs at h
    unfold VaTs
    exact ⟨WfT.va h.1, WfTs.va h.2⟩
end
theorem headOk_n {o n : Int} (h : headOk o n = true) : (0 ≤ o ∧ o ≤ 5) ∧ (-4 ≤ n ∧ n ≤ 4) ∧ (o = 5 → 0 ≤ n) := by
  rcases eqHead o n h with ⟨rfl, rfl⟩ | ⟨rfl, hk⟩ | ⟨rfl, rfl⟩ | ⟨rfl, rfl⟩ | ⟨rfl, hk⟩ | ⟨rfl, hk⟩
  · omega
  · have hk : -4 ≤ n ∧ n ≤ 4 := by simpa [actOk] using hk
    omega
  · omega
  · omega
  · omega
  · omega
mutual
theorem VaT.sm : ∀ {t : Tm}, VaT t → SmT t
  | .mk o n ps, h => by
    unfold VaT at h
    unfold SmT
    have := headOk_n h.1
    refine ⟨by omega, by omega, ?_, VaTs.sm h.2.2⟩
    rw [h.2.1]
    unfold wantN
    (repeat' split) <;> omega
theorem VaTs.sm : ∀ {ps : List Tm}, VaTs ps → SmTs ps
  | [], h => by unfold SmTs; trivial
  | p :: ps, h => by
    unfold VaTs at h
    unfold SmTs
    exact ⟨VaT.sm h.1, VaTs.sm h.2⟩
end
/-- No call that is not behind an action. -/
def gdT : Tm → Prop
  | .mk o n [] => o ≠ 5
  | .mk o n [a] => o = 1 ∨ gdT a
  | .mk o n [a, b] => gdT a ∧ gdT b
  | .mk _ _ (_ :: _ :: _ :: _) => True
theorem stT_gd (k k' : Int → List Stp) : ∀ t : Tm, gdT t → stT k t = stT k' t
  | .mk o n [], h => by
    unfold gdT at h
    simp [stT, h]
  | .mk o n [a], h => by
    unfold gdT at h
    unfold stT
    split
    · rfl
    · rename_i ho
      rcases h with h | h
      · exact absurd h ho
      · rw [stT_gd k k' a h]
  | .mk o n [a, b], h => by
    unfold gdT at h
    unfold stT
    rw [stT_gd k k' a h.1, stT_gd k k' b h.2]
  | .mk _ _ (_ :: _ :: _ :: _), h => by simp [stT]
/-- What a step leads to: a term, no greater than this. -/
def GoodS (m : Int) (z : Nat) (s : Stp) : Prop := (-4 ≤ s.1 ∧ s.1 ≤ 4) ∧ WfT m s.2 ∧ szT s.2 ≤ z
theorem GoodS.mono {m : Int} {z z' : Nat} {s : Stp} (h : GoodS m z s) (hz : z ≤ z') : GoodS m z' s := ⟨h.1, h.2.1, Nat.le_trans h.2.2 hz⟩
theorem wf_par {m : Int} {a b : Tm} (ha : WfT m a) (hb : WfT m b) : WfT m (parT a b) := by
  unfold parT WfT
  refine ⟨by decide, rfl, fun e => absurd e (by decide), ?_⟩
  simp only [WfTs]
  exact ⟨ha, hb, trivial⟩
theorem sz_par (a b : Tm) : szT (parT a b) = szT a + szT b + 1 := by simp [parT, szT, szTs]
theorem wf_hide {m n : Int} {a : Tm} (hn : headOk 4 n = true) (ha : WfT m a) : WfT m (hideT n a) := by
  unfold hideT WfT
  refine ⟨hn, by simp [wantN], fun e => absurd e (by decide), ?_⟩
  simp only [WfTs]
  exact ⟨ha, trivial⟩
theorem sz_hide (n : Int) (a : Tm) : szT (hideT n a) = szT a + 1 := by simp [hideT, szT, szTs]
theorem szT_pos : ∀ t : Tm, 1 ≤ szT t
  | .mk _ _ _ => by unfold szT; omega
theorem par_good {m : Int} {t u : Tm} {a b : List Stp} {za zb z : Nat} (ht : WfT m t) (hu : WfT m u) (ha : ∀ s ∈ a, GoodS m za s) (hb : ∀ s ∈ b, GoodS m zb s)
    (h1 : za + szT u + 1 ≤ z) (h2 : szT t + zb + 1 ≤ z) (h3 : za + zb + 1 ≤ z) : ∀ s ∈ parS t u a b, GoodS m z s := by
  intro s hs
  unfold parS at hs
  rcases List.mem_append.1 hs with h | h
  · obtain ⟨x, hx, rfl⟩ := List.mem_map.1 h
    obtain ⟨x1, x2, x3⟩ := ha x hx
    exact ⟨x1, wf_par x2 hu, by rw [sz_par]; omega⟩
  · rcases List.mem_append.1 h with h | h
    · obtain ⟨x, hx, rfl⟩ := List.mem_map.1 h
      obtain ⟨x1, x2, x3⟩ := hb x hx
      exact ⟨x1, wf_par ht x2, by rw [sz_par]; omega⟩
    · obtain ⟨x, hx, h⟩ := List.mem_flatMap.1 h
      obtain ⟨y, hy, h⟩ := List.mem_flatMap.1 h
      split at h
      · simp only [List.mem_singleton] at h
        subst h
        obtain ⟨x1, x2, x3⟩ := ha x hx
        obtain ⟨y1, y2, y3⟩ := hb y hy
        exact ⟨by dsimp only; omega, wf_par x2 y2, by rw [sz_par]; omega⟩
      · cases h
theorem hid_good {m n : Int} {a : List Stp} {za z : Nat} (hn : headOk 4 n = true) (ha : ∀ s ∈ a, GoodS m za s) (h1 : za + 1 ≤ z) : ∀ s ∈ hidT n a, GoodS m z s := by
  intro s hs
  obtain ⟨x, hx, h⟩ := List.mem_flatMap.1 hs
  split at h
  · simp only [List.mem_singleton] at h
    subst h
    obtain ⟨x1, x2, x3⟩ := ha x hx
    exact ⟨x1, wf_hide hn x2, by rw [sz_hide]; omega⟩
  · cases h
theorem stT_good (m : Int) (k : Int → List Stp) (c : Nat) (hc : 1 ≤ c) (hk : ∀ n, 0 ≤ n → n < m → ∀ s ∈ k n, GoodS m c s) : ∀ t : Tm, WfT m t → ∀ s ∈ stT k t, GoodS m (c * szT t) s
  | .mk o n [], h, s, hs => by
    unfold WfT at h
    unfold stT at hs
    split at hs
    · rename_i ho
      have hh := headOk_n h.1
      have : szT (.mk o n []) = 1 := by simp [szT, szTs]
      rw [this, Nat.mul_one]
      exact hk n (hh.2.2 ho) (h.2.2.1 ho) s hs
    · cases hs
  | .mk o n [a], h, s, hs => by
    have hh := h
    unfold WfT at h
    have hwa : WfT m a := by have := h.2.2.2; unfold WfTs at this; exact this.1
    have ih := stT_good m k c hc hk a hwa
    have hsz : szT (.mk o n [a]) = szT a + 1 := by simp [szT, szTs]
    rw [hsz, Nat.mul_add]
    unfold stT at hs
    split at hs
    · rename_i ho
      subst ho
      simp only [List.mem_singleton] at hs
      subst hs
      refine ⟨(headOk_n h.1).2.1, hwa, ?_⟩
      have : szT a ≤ c * szT a := Nat.le_mul_of_pos_left _ hc
      dsimp only
      omega
    · split at hs
      · rename_i ho
        subst ho
        exact hid_good h.1 ih (by omega) s hs
      · cases hs
  | .mk o n [a, b], h, s, hs => by
    unfold WfT at h
    have hw := h.2.2.2
    unfold WfTs WfTs at hw
    have iha := stT_good m k c hc hk a hw.1
    have ihb := stT_good m k c hc hk b hw.2.1
    have hsz : szT (.mk o n [a, b]) = szT a + szT b + 1 := by simp [szT, szTs]
    rw [hsz, Nat.mul_add, Nat.mul_add]
    have q1 : szT a ≤ c * szT a := Nat.le_mul_of_pos_left _ hc
    have q2 : szT b ≤ c * szT b := Nat.le_mul_of_pos_left _ hc
    unfold stT at hs
    split at hs
    · rcases List.mem_append.1 hs with hs | hs
      · exact (iha s hs).mono (by omega)
      · exact (ihb s hs).mono (by omega)
    · split at hs
      · exact par_good hw.1 hw.2.1 iha ihb (by omega) (by omega) (by omega) s hs
      · cases hs
  | .mk _ _ (_ :: _ :: _ :: _), h, s, hs => by simp [stT] at hs
/-! from the tests -/
mutual
theorem nodes_va : ∀ t : Tm, nodesT t ≠ 0 → VaT t ∧ nodesT t = min 1000 (szT t)
  | .mk o n ps, h => by
    unfold nodesT at h ⊢
    split at h
    · rename_i hh
      rw [if_pos hh]
      have := nodes_vas 1 ps (by omega) (by omega) h
      unfold VaT
      refine ⟨⟨hh.1, hh.2, this.1⟩, ?_⟩
      rw [this.2]
      unfold szT
      omega
    · exact absurd rfl h
theorem nodes_vas : ∀ (k : Nat) (ps : List Tm), 1 ≤ k → k ≤ 1000 → nodesL k ps ≠ 0 → VaTs ps ∧ nodesL k ps = min 1000 (k + szTs ps)
  | k, [], h1, h2, h => by
    unfold nodesL VaTs szTs
    exact ⟨trivial, by omega⟩
  | k, p :: ps, h1, h2, h => by
    unfold nodesL at h ⊢
    split at h
    · exact absurd rfl h
    · rename_i hp
      rw [if_neg hp]
      obtain ⟨a1, a2⟩ := nodes_va p hp
      obtain ⟨b1, b2⟩ := nodes_vas (min 1000 (k + nodesT p)) ps (by omega) (by omega) h
      unfold VaTs szTs
      refine ⟨⟨a1, b1⟩, ?_⟩
      rw [b2, a2]
      omega
end
theorem okT_va {t : Tm} (h : okT t = true) : VaT t ∧ szT t ≤ 24 := by
  unfold okT at h
  simp only [Bool.and_eq_true, decide_eq_true_eq] at h
  obtain ⟨a, b⟩ := nodes_va t (by omega)
  refine ⟨a, ?_⟩
  omega
mutual
theorem calls_wf (m : Int) : ∀ t : Tm, VaT t → callsT false t < m → WfT m t
  | .mk o n ps, h, hc => by
    unfold VaT at h
    unfold callsT at hc
    unfold WfT
    by_cases ho : o = 5
    · rw [if_pos ho] at hc
      subst ho
      have hl : ps.length = 0 := by simpa [wantN] using h.2.1
      obtain rfl : ps = [] := List.length_eq_zero_iff.1 hl
      exact ⟨h.1, h.2.1, fun _ => hc, by unfold WfTs; trivial⟩
    · rw [if_neg ho] at hc
      simp only [Bool.false_eq_true, false_and, if_false] at hc
      exact ⟨h.1, h.2.1, fun e => absurd e ho, (calls_wfs m (-1) ps h.2.2 hc).2⟩
theorem calls_wfs (m : Int) : ∀ (k : Int) (ps : List Tm), VaTs ps → callsL false k ps < m → k < m ∧ WfTs m ps
  | k, [], h, hc => by
    unfold callsL at hc
    unfold WfTs
    exact ⟨hc, trivial⟩
  | k, p :: ps, h, hc => by
    unfold VaTs at h
    unfold callsL at hc
    unfold WfTs
    obtain ⟨a, b⟩ := calls_wfs m _ ps h.2 hc
    split at a
    · exact ⟨by omega, calls_wf m p h.1 (by omega), b⟩
    · exact ⟨by omega, calls_wf m p h.1 (by omega), b⟩
end
theorem callsL_ge (g : Bool) : ∀ (k : Int) (ps : List Tm), k ≤ callsL g k ps ∧ ∀ p ∈ ps, callsT g p ≤ callsL g k ps
  | k, [] => by unfold callsL; exact ⟨by omega, fun p hp => by cases hp⟩
  | k, p :: ps => by
    unfold callsL
    obtain ⟨a, b⟩ := callsL_ge g (if k < callsT g p then callsT g p else k) ps
    generalize callsL g (if k < callsT g p then callsT g p else k) ps = X at a b ⊢
    refine ⟨by split at a <;> omega, fun q hq => ?_⟩
    rcases List.mem_cons.1 hq with rfl | hq
    · split at a <;> omega
    · exact b q hq
theorem calls_gd : ∀ t : Tm, VaT t → ¬ 0 ≤ callsT true t → gdT t
  | .mk o n [], h, hc => by
    unfold VaT at h
    unfold gdT
    intro ho
    unfold callsT at hc
    rw [if_pos ho] at hc
    exact hc ((headOk_n h.1).2.2 ho)
  | .mk o n [a], h, hc => by
    have h0 := h
    unfold VaT at h
    have hv := h.2.2
    unfold VaTs at hv
    unfold gdT
    unfold callsT at hc
    by_cases ho : o = 5
    · exfalso
      subst ho
      have := h.2.1
      simp [wantN] at this
    · rw [if_neg ho] at hc
      by_cases h1 : o = 1
      · exact .inl h1
      · right
        simp only [h1, and_false, if_false] at hc
        have := (callsL_ge true (-1) [a]).2 a (by simp)
        exact calls_gd a hv.1 (by omega)
  | .mk o n [a, b], h, hc => by
    unfold VaT at h
    have hv := h.2.2
    unfold VaTs VaTs at hv
    unfold gdT
    unfold callsT at hc
    have hl := h.2.1
    by_cases ho : o = 5
    · exfalso
      subst ho
      simp [wantN] at hl
    · rw [if_neg ho] at hc
      by_cases h1 : o = 1
      · exfalso
        subst h1
        simp [wantN] at hl
      · simp only [h1, and_false, if_false] at hc
        have q := (callsL_ge true (-1) [a, b]).2
        have q1 := q a (by simp)
        have q2 := q b (by simp)
        exact ⟨calls_gd a hv.1 (by omega), calls_gd b hv.2.1 (by omega)⟩
  | .mk _ _ (_ :: _ :: _ :: _), h, hc => by unfold gdT; trivial
/-! with definitions -/
/-- What a call does. -/
def kD (ds : List Tm) (n : Int) : List Stp := match ds[n.toNat]? with
  | some d => if 0 ≤ n then stT (fun _ => []) d else []
  | none => []
/-- Definitions that are ones. -/
def DsOk (ds : List Tm) : Prop := ds.length ≤ 3 ∧ ∀ d ∈ ds, WfT ds.length d ∧ szT d ≤ 24 ∧ gdT d
theorem defsOk_ds {ds : List Tm} (h : defsOk ds = true) : DsOk ds := by
  unfold defsOk at h
  simp only [Bool.and_eq_true, decide_eq_true_eq, List.all_eq_true] at h
  refine ⟨h.2, fun d hd => ?_⟩
  have := h.1 d hd
  unfold goodD fitsT at this
  simp only [Bool.and_eq_true, Bool.not_eq_true', decide_eq_true_eq, decide_eq_false_iff_not] at this
  obtain ⟨⟨h1, h2, h3⟩, h4⟩ := this
  obtain ⟨a, b⟩ := okT_va h1
  exact ⟨calls_wf _ d a h3, b, calls_gd d a h4⟩
theorem kD_len {ds : List Tm} (h : DsOk ds) (n : Int) : visL (kD ds n) ≤ 24 ∧ (kD ds n).length ≤ 24 + 24 * 24 := by
  unfold kD
  split
  · rename_i d hd
    have hm := List.mem_of_getElem? hd
    obtain ⟨a, b, c⟩ := h.2 d hm
    split
    · have q := stT_len (fun _ => []) 0 (fun n => by simp [visL]) d
      have q2 := lvT_le 0 d
      simp only [Nat.zero_add, Nat.one_mul] at q2
      have q3 : lvT 0 d ≤ 24 := by omega
      have q4 : lvT 0 d * lvT 0 d ≤ 24 * 24 := Nat.mul_le_mul q3 q3
      omega
    · simp [visL]
  · simp [visL]
theorem kD_good {ds : List Tm} (h : DsOk ds) (n : Int) : ∀ s ∈ kD ds n, GoodS ds.length 24 s := by
  intro s hs
  unfold kD at hs
  split at hs
  · rename_i d hd
    have hm := List.mem_of_getElem? hd
    obtain ⟨a, b, c⟩ := h.2 d hm
    split at hs
    · have := stT_good ds.length (fun _ => []) 1 (by omega) (fun n _ _ s hs => by cases hs) d a s hs
      exact this.mono (by omega)
    · cases hs
  · cases hs
/-- What a term does. -/
abbrev stD (ds : List Tm) (t : Tm) : List Stp := stT (kD ds) t
theorem stD_len {ds : List Tm} (h : DsOk ds) (t : Tm) (ht : szT t ≤ 24) : (stD ds t).length ≤ 400000 := by
  have q := stT_len (kD ds) 24 (kD_len h) t
  have q2 := lvT_le 24 t
  have q3 : lvT 24 t ≤ 600 := by omega
  have q4 : lvT 24 t * lvT 24 t ≤ 600 * 600 := Nat.mul_le_mul q3 q3
  show (stT (kD ds) t).length ≤ _
  omega
theorem stD_good {ds : List Tm} (h : DsOk ds) (t : Tm) (hw : WfT ds.length t) (ht : szT t ≤ 24) : ∀ s ∈ stD ds t, GoodS ds.length 576 s := by
  intro s hs
  have := stT_good ds.length (kD ds) 24 (by omega) (fun n _ _ => kD_good h n) t hw s hs
  exact this.mono (by omega)
end Go.Am
end
section
set_option maxRecDepth 10000
set_option maxHeartbeats 16000000
set_option linter.unusedSimpArgs false
set_option linter.unusedVariables false
namespace Go.Am
open Go.Proofs Go.Sort Go.Shelf
/-! spec.l3Steps: its loops -/
def cellsT : Tm → List PV | .mk o n ps => [.i o, .i n, encQ false ps]
theorem encT_cells (t : Tm) : encT false t = .agg (cellsT t) := by cases t; simp [encT, cellsT]
mutual
theorem falF_encT : ∀ p : Tm, fal (encT false p) = encT false p
  | .mk o x ps => by
    simp only [encT, fal, fals]
    rw [falF_encQ ps]
theorem falF_encQ : ∀ ps : List Tm, fal (encQ false ps) = encQ false ps
  | [] => by simp [encQ, fal]
  | p :: ps => by
    simp only [encQ, fal, fals]
    rw [falF_encT p, falsF_encTs ps]
theorem falsF_encTs : ∀ ps : List Tm, fals (encTs false ps) = encTs false ps
  | [] => by simp [encTs, fals]
  | p :: ps => by
    simp only [encTs, fals]
    rw [falF_encT p, falsF_encTs ps]
end
theorem cellsT_form (t : Tm) : ∃ (a b : Int) (c : PV) (L : List PV), cellsT t = [.i a, .i b, c] ∧ fals L = L ∧ (c = .nils ∨ c = .sl false 3 L) := by
  obtain ⟨a, b, ps⟩ := t
  cases ps with
  | nil => exact ⟨a, b, _, [], rfl, rfl, .inl (by simp [encQ])⟩
  | cons p ps => exact ⟨a, b, _, _, rfl, falsF_encTs _, .inr (encQ_c false (List.cons_ne_nil p ps))⟩
theorem encT_formF (t : Tm) : ∃ (a b : Int) (c : PV) (L : List PV), encT false t = .agg [.i a, .i b, c] ∧ fals L = L ∧ (c = .nils ∨ c = .sl false 3 L) := by
  obtain ⟨a, b, c, L, h, hc⟩ := cellsT_form t
  exact ⟨a, b, c, L, by rw [encT_cells, h], hc⟩
/-- A step as the machine holds it. -/
def stP (s : Stp) : PV := .agg (.i s.1 :: cellsT s.2)
def stPs (l : List Stp) : List PV := l.map stP
@[simp] theorem stPs_len (l : List Stp) : (stPs l).length = l.length := by simp [stPs]
theorem stPs_app (a b : List Stp) : stPs (a ++ b) = stPs a ++ stPs b := by simp [stPs]
theorem stP_at (done : List Stp) (x : Stp) (rest : List Stp) : nth (stPs (done ++ x :: rest)) done.length = some (stP x) := by simp [nth, stPs]
theorem stP_form (s : Stp) : ∃ (a b : Int) (c : PV) (L : List PV), stP s = .agg [.i s.1, .i a, .i b, c] ∧ encT false s.2 = .agg [.i a, .i b, c] ∧ fals L = L ∧ (c = .nils ∨ c = .sl false 3 L) := by
  obtain ⟨a, b, c, L, h, hc⟩ := cellsT_form s.2
  exact ⟨a, b, c, L, by rw [stP, h], by rw [encT_cells, h], hc⟩
theorem stP_par (x : Int) (t u : Tm) : stP (x, parT t u) = .agg [.i x, .i 3, .i 0, .sl false 3 [encT false t, encT false u]] := by simp [stP, parT, cellsT, encQ, encTs]
theorem stP_hide (x n : Int) (t : Tm) : stP (x, hideT n t) = .agg [.i x, .i 4, .i n, .sl false 3 [encT false t]] := by simp [stP, hideT, cellsT, encQ, encTs]
theorem plain_stP (s : Stp) : plain (stP s) = true := by
  obtain ⟨a, b, c, L, h, _, hL, hc⟩ := stP_form s
  rw [h]
  rcases hc with rfl | rfl <;> simp [plain, plains]
theorem plains_stPs (l : List Stp) : plains (stPs l) = true := by
  induction l with
  | nil => simp [stPs, plains]
  | cons s l ih => simp only [stPs, List.map_cons, plains, plain_stP, Bool.true_and] at ih ⊢; exact ih
/-- The steps of the first part. -/
def fstS (u : Tm) (a : List Stp) : List Stp := a.map fun s => (s.1, parT s.2 u)
def sndS (t : Tm) (b : List Stp) : List Stp := b.map fun s => (s.1, parT t s.2)
theorem loopSt0 (n : Int) (t u : Tm) (a b : List Stp) : ∀ (rest done out : List Stp), a = done ++ rest → a.length ≤ 1000000 → out.length + rest.length ≤ 4000000000 →
    loopI G [2, 5, 6, 7, 8] [2, 14, 28, 36, 43, 51, 57, 83, 109, 157, 206, 215] c123l0 ⟨[(2, .ref (0, 2) 1 0 0), (5, .own (0, 14) out.length), (6, .own (0, 51) a.length), (7, .own (0, 57) b.length), (8, .i done.length)],
      [(2, .box [.i 3, .i n, .sl false 3 [encT false t, encT false u]]), (14, .row 4 (stPs out)), (51, .row 4 (stPs a)), (57, .row 4 (stPs b))], []⟩ =
      some (.exit 1, ⟨[(2, .ref (0, 2) 1 0 0), (5, .own (0, 14) (out ++ fstS u rest).length), (6, .own (0, 51) a.length), (7, .own (0, 57) b.length), (8, .i a.length), (61, .b false)],
        [(2, .box [.i 3, .i n, .sl false 3 [encT false t, encT false u]]), (14, .row 4 (stPs (out ++ fstS u rest))), (51, .row 4 (stPs a)), (57, .row 4 (stPs b))], []⟩)
  | [], done, out, e, ha, ho => by
    have e : a = done := by simpa using e
    subst e
    have hf : out ++ fstS u [] = out := by simp [fstS]
    rw [hf]
    obtain ⟨x1, x2, x3, L3, hX, hL, hx3⟩ := encT_formF t
    obtain ⟨y1, y2, y3, M3, hY, hM, hy3⟩ := encT_formF u
    rw [hX, hY, loopI_eq]
    rcases hx3 with rfl | rfl <;> rcases hy3 with rfl | rfl <;> simp [r123l0, b123l0, hL, hM, fal, fals]
  | s :: rest, done, out, e, ha, ho => by
    have hpl : a.length = done.length + (rest.length + 1) := by rw [e]; simp
    have hlt : (done.length : Int) < a.length := by omega
    have hlt2 : done.length < a.length := by omega
    have hw : IntKind.i64.wrap ((done.length : Int) + 1) = (done.length : Int) + 1 := wr (by omega)
    have hat := stP_at done s rest
    rw [← e] at hat
    have hn := loopSt0 n t u a b rest (done ++ [s]) (out ++ [(s.1, parT s.2 u)]) (by rw [e]; simp) ha (by simp at ho ⊢; omega)
    have hf : out ++ fstS u (s :: rest) = out ++ [(s.1, parT s.2 u)] ++ fstS u rest := by simp [fstS]
    rw [hf]
    refine Eq.trans ?_ hn
    have ho2 : out.length ≤ 4294967295 := by simp at ho; omega
    have hpa := plains_stPs a
    rw [stPs_app, show stPs [(s.1, parT s.2 u)] = [stP (s.1, parT s.2 u)] from rfl, stP_par]
    obtain ⟨z1, z2, z3, N3, hZ, hZ2, hN, hz3⟩ := stP_form s
    obtain ⟨x1, x2, x3, L3, hX, hL, hx3⟩ := encT_formF t
    obtain ⟨y1, y2, y3, M3, hY, hM, hy3⟩ := encT_formF u
    rw [hZ] at hat
    rw [hZ2, hX, hY, loopI_eq]
    rcases hx3 with rfl | rfl <;> rcases hy3 with rfl | rfl <;> rcases hz3 with rfl | rfl <;> simp [r123l0, b123l0, hlt, hlt2, hat, hw, ho2, hpa, hL, hM, hN, fal, fals]
theorem loopSt1 (n : Int) (t u : Tm) (a b : List Stp) : ∀ (rest done out : List Stp), b = done ++ rest → b.length ≤ 1000000 → out.length + rest.length ≤ 4000000000 →
    loopI G [2, 5, 6, 7, 9] [2, 14, 28, 36, 43, 51, 57, 83, 109, 157, 206, 215] c123l1 ⟨[(2, .ref (0, 2) 1 0 0), (5, .own (0, 14) out.length), (6, .own (0, 51) a.length), (7, .own (0, 57) b.length), (9, .i done.length)],
      [(2, .box [.i 3, .i n, .sl false 3 [encT false t, encT false u]]), (14, .row 4 (stPs out)), (51, .row 4 (stPs a)), (57, .row 4 (stPs b))], []⟩ =
      some (.exit 3, ⟨[(2, .ref (0, 2) 1 0 0), (5, .own (0, 14) (out ++ sndS t rest).length), (6, .own (0, 51) a.length), (7, .own (0, 57) b.length), (9, .i b.length), (87, .b false)],
        [(2, .box [.i 3, .i n, .sl false 3 [encT false t, encT false u]]), (14, .row 4 (stPs (out ++ sndS t rest))), (51, .row 4 (stPs a)), (57, .row 4 (stPs b))], []⟩)
  | [], done, out, e, ha, ho => by
    have e : b = done := by simpa using e
    subst e
    have hf : out ++ sndS t [] = out := by simp [sndS]
    rw [hf]
    obtain ⟨x1, x2, x3, L3, hX, hL, hx3⟩ := encT_formF t
    obtain ⟨y1, y2, y3, M3, hY, hM, hy3⟩ := encT_formF u
    rw [hX, hY, loopI_eq]
    rcases hx3 with rfl | rfl <;> rcases hy3 with rfl | rfl <;> simp [r123l1, b123l1, hL, hM, fal, fals]
  | s :: rest, done, out, e, ha, ho => by
    have hpl : b.length = done.length + (rest.length + 1) := by rw [e]; simp
    have hlt : (done.length : Int) < b.length := by omega
    have hlt2 : done.length < b.length := by omega
    have hw : IntKind.i64.wrap ((done.length : Int) + 1) = (done.length : Int) + 1 := wr (by omega)
    have hat := stP_at done s rest
    rw [← e] at hat
    have hn := loopSt1 n t u a b rest (done ++ [s]) (out ++ [(s.1, parT t s.2)]) (by rw [e]; simp) ha (by simp at ho ⊢; omega)
    have hf : out ++ sndS t (s :: rest) = out ++ [(s.1, parT t s.2)] ++ sndS t rest := by simp [sndS]
    rw [hf]
    refine Eq.trans ?_ hn
    have ho2 : out.length ≤ 4294967295 := by simp at ho; omega
    have hpa := plains_stPs b
    rw [stPs_app, show stPs [(s.1, parT t s.2)] = [stP (s.1, parT t s.2)] from rfl, stP_par]
    obtain ⟨z1, z2, z3, N3, hZ, hZ2, hN, hz3⟩ := stP_form s
    obtain ⟨x1, x2, x3, L3, hX, hL, hx3⟩ := encT_formF t
    obtain ⟨y1, y2, y3, M3, hY, hM, hy3⟩ := encT_formF u
    rw [hZ] at hat
    rw [hZ2, hX, hY, loopI_eq]
    rcases hx3 with rfl | rfl <;> rcases hy3 with rfl | rfl <;> rcases hz3 with rfl | rfl <;> simp [r123l1, b123l1, hlt, hlt2, hat, hw, ho2, hpa, hL, hM, hN, fal, fals]
theorem loopSt2 (s : Stp) (hs1 : -4 ≤ s.1 ∧ s.1 ≤ 4) (a1 a2 a b : List Stp) (ha : a = a1 ++ s :: a2) (hal : a.length ≤ 1000000) (hb : ∀ r ∈ b, -4 ≤ r.1 ∧ r.1 ≤ 4) : ∀ (rest done out : List Stp), b = done ++ rest → b.length ≤ 1000000 → out.length + rest.length ≤ 4000000000 →
    loopI G [5, 6, 7, 10, 11] [14, 28, 36, 43, 51, 57, 83, 109, 157, 206, 215] c123l2 ⟨[(5, .own (0, 14) out.length), (6, .own (0, 51) a.length), (7, .own (0, 57) b.length), (10, .i a1.length), (11, .i done.length)],
      [(14, .row 4 (stPs out)), (51, .row 4 (stPs a)), (57, .row 4 (stPs b))], []⟩ =
      some (.exit 7, ⟨[(5, .own (0, 14) (out ++ syncL s rest).length), (6, .own (0, 51) a.length), (7, .own (0, 57) b.length), (10, .i a1.length), (11, .i b.length), (119, .b false)],
        [(14, .row 4 (stPs (out ++ syncL s rest))), (51, .row 4 (stPs a)), (57, .row 4 (stPs b))], []⟩)
  | [], done, out, e, hbl, ho => by
    have e : b = done := by simpa using e
    subst e
    have hf : out ++ syncL s [] = out := by simp [syncL]
    rw [hf, loopI_eq]
    simp [r123l2, b123l2]
  | r :: rest, done, out, e, hbl, ho => by
    have hpl : b.length = done.length + (rest.length + 1) := by rw [e]; simp
    have hpa : a.length = a1.length + (a2.length + 1) := by rw [ha]; simp
    have hlt : (done.length : Int) < b.length := by omega
    have hlt2 : done.length < b.length := by omega
    have hla : a1.length < a.length := by omega
    have hw : IntKind.i64.wrap ((done.length : Int) + 1) = (done.length : Int) + 1 := wr (by omega)
    have hat := stP_at done r rest
    rw [← e] at hat
    have hat1 := stP_at a1 s a2
    rw [← ha] at hat1
    have hr1 := hb r (by rw [e]; simp)
    have hw2 : IntKind.i64.wrap (-r.1) = -r.1 := wr (by omega)
    have hw3 : IntKind.i64.wrap (0 - r.1) = -r.1 := by rw [show 0 - r.1 = -r.1 by omega]; exact hw2
    have hp1 := plains_stPs a
    have hp2 := plains_stPs b
    obtain ⟨z1, z2, z3, N3, hZ, hZ2, hN, hz3⟩ := stP_form s
    obtain ⟨x1, x2, x3, L3, hX, hX2, hL, hx3⟩ := stP_form r
    rw [hZ] at hat1
    rw [hX] at hat
    by_cases h0 : s.1 ≠ 0 ∧ s.1 = -r.1
    · have hn := loopSt2 s hs1 a1 a2 a b ha hal hb rest (done ++ [r]) (out ++ [(0, parT s.2 r.2)]) (by rw [e]; simp) hbl (by simp at ho ⊢; omega)
      have hf : out ++ syncL s (r :: rest) = out ++ [(0, parT s.2 r.2)] ++ syncL s rest := by simp only [syncL, List.flatMap_cons, if_pos h0, List.append_assoc]
      rw [hf]
      refine Eq.trans ?_ hn
      have ho2 : out.length ≤ 4294967295 := by simp at ho; omega
      rw [stPs_app, show stPs [((0 : Int), parT s.2 r.2)] = [stP (0, parT s.2 r.2)] from rfl, stP_par]
      rw [hZ2, hX2, loopI_eq]
      have h1 := h0.1
      have h2 := h0.2
      generalize s.1 = q at *
      generalize r.1 = p at *
      subst h2
      rcases hx3 with rfl | rfl <;> rcases hz3 with rfl | rfl <;> simp [r123l2, b123l2, hlt, hlt2, hla, hat, hat1, hw, hw2, hw3, ho2, hp1, hp2, h1, hL, hN, fal, fals]
    · have hn := loopSt2 s hs1 a1 a2 a b ha hal hb rest (done ++ [r]) out (by rw [e]; simp) hbl (by simp at ho; omega)
      have hf : out ++ syncL s (r :: rest) = out ++ syncL s rest := by simp only [syncL, List.flatMap_cons, if_neg h0, List.nil_append]
      rw [hf]
      refine Eq.trans ?_ hn
      rw [loopI_eq]
      by_cases h1 : s.1 = 0
      · rw [h1] at hat1
        rcases hx3 with rfl | rfl <;> rcases hz3 with rfl | rfl <;> simp [r123l2, b123l2, hlt, hlt2, hla, hat, hat1, hw, hw2, hw3, hp1, hp2, hL, hN, fal, fals]
      · have h2 : ¬ s.1 = -r.1 := fun e => h0 ⟨h1, e⟩
        rcases hx3 with rfl | rfl <;> rcases hz3 with rfl | rfl <;> simp [r123l2, b123l2, hlt, hlt2, hla, hat, hat1, hw, hw2, hw3, hp1, hp2, h1, h2, hL, hN, fal, fals]
theorem loopSt3 (a b : List Stp) (ha : ∀ r ∈ a, -4 ≤ r.1 ∧ r.1 ≤ 4) (hb : ∀ r ∈ b, -4 ≤ r.1 ∧ r.1 ≤ 4) (hal : a.length ≤ 1000000) (hbl : b.length ≤ 1000000) : ∀ (rest done out : List Stp), a = done ++ rest → out.length + (rest.flatMap fun s => syncL s b).length ≤ 3000000000 →
    loopI G [5, 6, 7, 10] [14, 28, 36, 43, 51, 57, 83, 109, 157, 206, 215] c123l3 ⟨[(5, .own (0, 14) out.length), (6, .own (0, 51) a.length), (7, .own (0, 57) b.length), (10, .i done.length)],
      [(14, .row 4 (stPs out)), (51, .row 4 (stPs a)), (57, .row 4 (stPs b))], []⟩ =
      some (.exit 5, ⟨[(5, .own (0, 14) (out ++ rest.flatMap fun s => syncL s b).length), (6, .own (0, 51) a.length), (7, .own (0, 57) b.length), (10, .i a.length), (113, .b false)],
        [(14, .row 4 (stPs (out ++ rest.flatMap fun s => syncL s b))), (51, .row 4 (stPs a)), (57, .row 4 (stPs b))], []⟩)
  | [], done, out, e, ho => by
    have e : a = done := by simpa using e
    subst e
    have hf : (out ++ List.flatMap (fun s => syncL s b) []) = out := by simp
    rw [hf, loopI_eq]
    simp [r123l3, b123l3]
  | s :: rest, done, out, e, ho => by
    have hpl : a.length = done.length + (rest.length + 1) := by rw [e]; simp
    have hlt : (done.length : Int) < a.length := by omega
    have hw : IntKind.i64.wrap ((done.length : Int) + 1) = (done.length : Int) + 1 := wr (by omega)
    have hlen : (syncL s b).length ≤ b.length := by
      have h1 := (syncL_len s b).1
      have h2 : visL b ≤ b.length := List.length_filter_le _ _
      split at h1 <;> omega
    simp only [List.flatMap_cons, List.length_append] at ho
    have hi := loopSt2 s (ha s (by rw [e]; simp)) done rest a b e hal hb b [] out rfl hbl (by omega)
    simp only [List.length_nil, show ((0 : Nat) : Int) = 0 from rfl] at hi
    have hn := loopSt3 a b ha hb hal hbl rest (done ++ [s]) (out ++ syncL s b) (by rw [e]; simp) (by simp only [List.length_append]; omega)
    have hf : (out ++ List.flatMap (fun s => syncL s b) (s :: rest)) = (out ++ syncL s b) ++ List.flatMap (fun s => syncL s b) rest := by simp
    rw [hf]
    refine Eq.trans ?_ hn
    generalize syncL s b = X at *
    rw [loopI_eq]
    generalize hO : out ++ X = O at *
    simp [r123l3, b123l3, hlt, hi, hw]
theorem loopSt4 (n : Int) (hn : 0 ≤ n ∧ n ≤ 3) (t : Tm) (a : List Stp) (ha : ∀ r ∈ a, -4 ≤ r.1 ∧ r.1 ≤ 4) (hal : a.length ≤ 1000000) : ∀ (rest done out : List Stp), a = done ++ rest → out.length + rest.length ≤ 4000000000 →
    loopI G [2, 5, 12, 13] [2, 14, 28, 36, 43, 83, 109, 157, 165, 206, 215] c123l4 ⟨[(2, .ref (0, 2) 1 0 0), (5, .own (0, 14) out.length), (12, .own (0, 165) a.length), (13, .i done.length)],
      [(2, .box [.i 4, .i n, .sl false 3 [encT false t]]), (14, .row 4 (stPs out)), (165, .row 4 (stPs a))], []⟩ =
      some (.exit 9, ⟨[(2, .ref (0, 2) 1 0 0), (5, .own (0, 14) (out ++ hidT n rest).length), (12, .own (0, 165) a.length), (13, .i a.length), (169, .b false)],
        [(2, .box [.i 4, .i n, .sl false 3 [encT false t]]), (14, .row 4 (stPs (out ++ hidT n rest))), (165, .row 4 (stPs a))], []⟩)
  | [], done, out, e, ho => by
    have e : a = done := by simpa using e
    subst e
    have hf : out ++ hidT n [] = out := by simp [hidT]
    rw [hf]
    obtain ⟨x1, x2, x3, L3, hX, hL, hx3⟩ := encT_formF t
    rw [hX, loopI_eq]
    rcases hx3 with rfl | rfl <;> simp [r123l4, b123l4, hL, fal, fals]
  | s :: rest, done, out, e, ho => by
    have hpl : a.length = done.length + (rest.length + 1) := by rw [e]; simp
    have hlt : (done.length : Int) < a.length := by omega
    have hlt2 : done.length < a.length := by omega
    have hw : IntKind.i64.wrap ((done.length : Int) + 1) = (done.length : Int) + 1 := wr (by omega)
    have hat := stP_at done s rest
    rw [← e] at hat
    have hs1 := ha s (by rw [e]; simp)
    have hnm := eqName1 s.1 (by omega)
    rw [show (if s.1 < -s.1 then -s.1 else s.1) - 1 = name1 s.1 from rfl] at hnm
    have hpa := plains_stPs a
    obtain ⟨z1, z2, z3, N3, hZ, hZ2, hN, hz3⟩ := stP_form s
    obtain ⟨x1, x2, x3, L3, hX, hL, hx3⟩ := encT_formF t
    rw [hZ] at hat
    by_cases h0 : s.1 = 0 ∨ name1 s.1 ≠ n
    · have hn := loopSt4 n hn t a ha hal rest (done ++ [s]) (out ++ [(s.1, hideT n s.2)]) (by rw [e]; simp) (by simp at ho ⊢; omega)
      have hf : out ++ hidT n (s :: rest) = out ++ [(s.1, hideT n s.2)] ++ hidT n rest := by simp only [hidT, List.flatMap_cons, if_pos h0, List.append_assoc]
      rw [hf]
      refine Eq.trans ?_ hn
      have ho2 : out.length ≤ 4294967295 := by simp at ho; omega
      rw [stPs_app, show stPs [(s.1, hideT n s.2)] = [stP (s.1, hideT n s.2)] from rfl, stP_hide]
      rw [hZ2, hX, loopI_eq]
      by_cases h1 : s.1 = 0
      · rw [h1] at hat ⊢
        rcases hx3 with rfl | rfl <;> rcases hz3 with rfl | rfl <;> simp [r123l4, b123l4, hlt, hlt2, hat, hw, ho2, hpa, hL, hN, fal, fals]
      · have h2 : ¬ name1 s.1 = n := h0.resolve_left h1
        generalize name1 s.1 = q at *
        rcases hx3 with rfl | rfl <;> rcases hz3 with rfl | rfl <;> simp [r123l4, b123l4, hlt, hlt2, hat, hw, ho2, hpa, hnm, h1, h2, hL, hN, fal, fals]
    · have hn := loopSt4 n hn t a ha hal rest (done ++ [s]) out (by rw [e]; simp) (by simp at ho; omega)
      have hf : out ++ hidT n (s :: rest) = out ++ hidT n rest := by simp only [hidT, List.flatMap_cons, if_neg h0, List.nil_append]
      rw [hf]
      refine Eq.trans ?_ hn
      simp only [not_or, ne_eq, Classical.not_not] at h0
      obtain ⟨h1, h2⟩ := h0
      rw [h2] at hnm
      rw [hX, loopI_eq]
      rcases hx3 with rfl | rfl <;> rcases hz3 with rfl | rfl <;> simp [r123l4, b123l4, hlt, hlt2, hat, hw, hpa, hnm, h1, hL, hN, fal, fals]
end Go.Am
end
section
set_option maxRecDepth 10000
set_option maxHeartbeats 16000000
set_option linter.unusedSimpArgs false
set_option linter.unusedVariables false
namespace Go.Am
open Go.Proofs Go.Sort Go.Shelf
/-! spec.l3Steps -/
abbrev StepsAt (ds : List Tm) (t : Tm) (l : List Stp) : Prop := callI G 123 [encT false t, encQ false ds] [] = some (.sl true 4 (stPs l), [])
theorem eqSteps0n (ds : List Tm) : StepsAt ds (.mk 0 0 []) [] := by
  unfold StepsAt
  rw [callI_eq]
  rcases encQ_form false ds with ⟨e, e0⟩ | ⟨F, e, e1, _⟩ <;> rw [e] <;> simp [body1_eq _ _ (gp 123) g123, c123, a123, encT, encQ, stPs]
theorem eqSteps0a (ds : List Tm) (n : Int) (p : Tm) : StepsAt ds (.mk 1 n [p]) [(n, p)] := by
  unfold StepsAt
  have h : stPs [(n, p)] = [stP (n, p)] := rfl
  obtain ⟨z1, z2, z3, N3, hZ, hZ2, hN, hz3⟩ := stP_form (n, p)
  simp only at hZ hZ2
  rw [callI_eq, h, hZ]
  simp only [encT, encQ, encTs, hZ2]
  rcases encQ_form false ds with ⟨e, e0⟩ | ⟨F, e, e1, _⟩ <;> rw [e] <;> rcases hz3 with rfl | rfl <;> simp [body1_eq _ _ (gp 123) g123, c123, a123, hN]
theorem eqSteps0s (ds : List Tm) (p q : Tm) (a b : List Stp) (ha : StepsAt ds p a) (hb : StepsAt ds q b) (hl : a.length + b.length ≤ 4000000000) : StepsAt ds (.mk 2 0 [p, q]) (a ++ b) := by
  unfold StepsAt at *
  obtain ⟨x1, x2, x3, L3, hX, hL, hx3⟩ := encT_formF p
  obtain ⟨y1, y2, y3, M3, hY, hM, hy3⟩ := encT_formF q
  rw [hX] at ha
  rw [hY] at hb
  have h1 : a.length + b.length ≤ 4294967296 := by omega
  rw [callI_eq, stPs_app]
  simp only [encT, encQ, encTs, hX, hY]
  rcases encQ_form false ds with ⟨e, e0⟩ | ⟨F, e, e1, _⟩ <;> rw [e] at ha hb ⊢ <;> rcases hx3 with rfl | rfl <;> rcases hy3 with rfl | rfl <;> simp [body1_eq _ _ (gp 123) g123, c123, a123, ha, hb, h1]
theorem eqSteps0p (ds : List Tm) (p q : Tm) (a b : List Stp) (ha : StepsAt ds p a) (hb : StepsAt ds q b) (hl : (parS p q a b).length ≤ 2000000000) (hal : a.length ≤ 1000000) (hbl : b.length ≤ 1000000)
    (ha4 : ∀ r ∈ a, -4 ≤ r.1 ∧ r.1 ≤ 4) (hb4 : ∀ r ∈ b, -4 ≤ r.1 ∧ r.1 ≤ 4) : StepsAt ds (.mk 3 0 [p, q]) (parS p q a b) := by
  unfold StepsAt at *
  have hpar : parS p q a b = (fstS q a ++ sndS p b) ++ a.flatMap fun s => syncL s b := by simp [parS, fstS, sndS, syncL]
  rw [hpar] at hl ⊢
  have hf : (fstS q a).length = a.length := by simp [fstS]
  have hs : (sndS p b).length = b.length := by simp [sndS]
  simp only [List.length_append] at hl
  have l0 := loopSt0 0 p q a b a [] [] rfl hal (by simp only [List.length_nil]; omega)
  have l1 := loopSt1 0 p q a b b [] (fstS q a) rfl hbl (by omega)
  have l3 := loopSt3 a b ha4 hb4 hal hbl a [] (fstS q a ++ sndS p b) rfl (by simp only [List.length_append]; omega)
  simp only [List.nil_append, List.length_nil, show ((0 : Nat) : Int) = 0 from rfl, show stPs [] = [] from rfl] at l0 l1 l3
  obtain ⟨x1, x2, x3, L3, hX, hL, hx3⟩ := encT_formF p
  obtain ⟨y1, y2, y3, M3, hY, hM, hy3⟩ := encT_formF q
  rw [hX] at ha l0 l1
  rw [hY] at hb l0 l1
  rw [callI_eq]
  simp only [encT, encQ, encTs, hX, hY]
  generalize hO : (fstS q a ++ sndS p b) = O at *
  generalize hQ : (O ++ a.flatMap fun s => syncL s b) = Q at *
  generalize hF : fstS q a = F1 at *
  rcases encQ_form false ds with ⟨e, e0⟩ | ⟨F, e, e1, _⟩ <;> rw [e] at ha hb ⊢ <;> rcases hx3 with rfl | rfl <;> rcases hy3 with rfl | rfl <;> simp [body1_eq _ _ (gp 123) g123, c123, a123, ha, hb, l0, l1, l3]
theorem eqSteps0h (ds : List Tm) (n : Int) (hn : 0 ≤ n ∧ n ≤ 3) (p : Tm) (a : List Stp) (ha : StepsAt ds p a) (hal : a.length ≤ 1000000)
    (ha4 : ∀ r ∈ a, -4 ≤ r.1 ∧ r.1 ≤ 4) : StepsAt ds (.mk 4 n [p]) (hidT n a) := by
  unfold StepsAt at *
  have l4 := loopSt4 n hn p a ha4 hal a [] [] rfl (by simp only [List.length_nil]; omega)
  simp only [List.nil_append, List.length_nil, show ((0 : Nat) : Int) = 0 from rfl, show stPs [] = [] from rfl] at l4
  obtain ⟨x1, x2, x3, L3, hX, hL, hx3⟩ := encT_formF p
  rw [hX] at ha l4
  rw [callI_eq]
  simp only [encT, encQ, encTs, hX]
  generalize hidT n a = Q at *
  rcases encQ_form false ds with ⟨e, e0⟩ | ⟨F, e, e1, _⟩ <;> rw [e] at ha ⊢ <;> rcases hx3 with rfl | rfl <;> simp [body1_eq _ _ (gp 123) g123, c123, a123, ha, l4]
theorem eqSteps0c (ds : List Tm) (n : Int) (hn : 0 ≤ n ∧ n ≤ 2) (d : Tm) (hd : ds[n.toNat]? = some d) (a : List Stp) (ha : StepsAt ds d a) : StepsAt ds (.mk 5 n []) a := by
  unfold StepsAt at *
  have hlt : n.toNat < ds.length := by
    rcases Nat.lt_or_ge n.toNat ds.length with h | h
    · exact h
    · rw [List.getElem?_eq_none h] at hd; cases hd
  have hlt2 : n < ds.length := by omega
  have hat : nth (encTs false ds) n.toNat = some (encT false d) := by simp [nth, encTs_map, hd]
  obtain ⟨x1, x2, x3, L3, hX, hL, hx3⟩ := encT_formF d
  have hne : ds ≠ [] := by intro e; rw [e] at hlt; simp at hlt
  rw [hX] at ha hat
  rw [encQ_c false hne] at ha ⊢
  have hl3 : (encTs false ds).length = ds.length := encTs_len false ds
  generalize encTs false ds = F at *
  rw [callI_eq]
  simp only [encT, encQ]
  rcases hx3 with rfl | rfl <;> simp [body1_eq _ _ (gp 123) g123, c123, a123, ha, hat, hl3, hlt, hlt2, hn.1]
theorem stT_acts {m : Int} {z : Nat} {l : List Stp} (h : ∀ s ∈ l, GoodS m z s) : ∀ s ∈ l, -4 ≤ s.1 ∧ s.1 ≤ 4 := fun s hs => (h s hs).1
/-- A term whose calls are known. -/
theorem eqStepsK (ds : List Tm) (hd : DsOk ds) (C : Tm → Prop) (h1 : ∀ o n a, C (.mk o n [a]) → o ≠ 1 → C a) (h2 : ∀ o n a b, C (.mk o n [a, b]) → C a ∧ C b)
    (h5 : ∀ n, C (.mk 5 n []) → 0 ≤ n → n < ds.length → ∃ d, ds[n.toNat]? = some d ∧ StepsAt ds d (kD ds n)) : ∀ t : Tm, WfT ds.length t → szT t ≤ 24 → C t → StepsAt ds t (stD ds t)
  | .mk o n [], hw, hz, hC => by
    unfold WfT at hw
    have hl := hw.2.1
    have hh := headOk_n hw.1
    rcases eqHead o n hw.1 with ⟨rfl, rfl⟩ | ⟨rfl, hk⟩ | ⟨rfl, rfl⟩ | ⟨rfl, rfl⟩ | ⟨rfl, hk⟩ | ⟨rfl, hk⟩
    · have : stD ds (.mk 0 0 []) = [] := by simp [stD, stT]
      rw [this]
      exact eqSteps0n ds
    · simp [wantN] at hl
    · simp [wantN] at hl
    · simp [wantN] at hl
    · simp [wantN] at hl
    · have e : stD ds (.mk 5 n []) = kD ds n := by simp [stD, stT]
      rw [e]
      obtain ⟨d, d1, d2⟩ := h5 n hC hk.1 (hw.2.2.1 rfl)
      exact eqSteps0c ds n hk d d1 _ d2
  | .mk o n [a], hw, hz, hC => by
    have hw0 := hw
    unfold WfT at hw
    have hl := hw.2.1
    have hwa : WfT ds.length a := by have := hw.2.2.2; unfold WfTs at this; exact this.1
    have hsz : szT (.mk o n [a]) = szT a + 1 := by simp [szT, szTs]
    rcases eqHead o n hw.1 with ⟨rfl, rfl⟩ | ⟨rfl, hk⟩ | ⟨rfl, rfl⟩ | ⟨rfl, rfl⟩ | ⟨rfl, hk⟩ | ⟨rfl, hk⟩
    · simp [wantN] at hl
    · have : stD ds (.mk 1 n [a]) = [(n, a)] := by simp [stD, stT]
      rw [this]
      exact eqSteps0a ds n a
    · simp [wantN] at hl
    · simp [wantN] at hl
    · have ih := eqStepsK ds hd C h1 h2 h5 a hwa (by omega) (h1 _ _ _ hC (by decide))
      have : stD ds (.mk 4 n [a]) = hidT n (stD ds a) := by simp [stD, stT]
      rw [this]
      have hb := stD_len hd a (by omega)
      exact eqSteps0h ds n hk a _ ih (by omega) (stT_acts (stD_good hd a hwa (by omega)))
    · simp [wantN] at hl
  | .mk o n [a, b], hw, hz, hC => by
    have hw0 := hw
    unfold WfT at hw
    have hl := hw.2.1
    have hwb := hw.2.2.2
    unfold WfTs WfTs at hwb
    have hsz : szT (.mk o n [a, b]) = szT a + szT b + 1 := by simp [szT, szTs]
    have iha := eqStepsK ds hd C h1 h2 h5 a hwb.1 (by omega) (h2 _ _ _ _ hC).1
    have ihb := eqStepsK ds hd C h1 h2 h5 b hwb.2.1 (by omega) (h2 _ _ _ _ hC).2
    have hba := stD_len hd a (by omega)
    have hbb := stD_len hd b (by omega)
    rcases eqHead o n hw.1 with ⟨rfl, rfl⟩ | ⟨rfl, hk⟩ | ⟨rfl, rfl⟩ | ⟨rfl, rfl⟩ | ⟨rfl, hk⟩ | ⟨rfl, hk⟩
    · simp [wantN] at hl
    · simp [wantN] at hl
    · have : stD ds (.mk 2 0 [a, b]) = stD ds a ++ stD ds b := by simp [stD, stT]
      rw [this]
      exact eqSteps0s ds a b _ _ iha ihb (by omega)
    · have e : stD ds (.mk 3 0 [a, b]) = parS a b (stD ds a) (stD ds b) := by simp [stD, stT]
      have hlen := stD_len hd _ hz
      rw [e] at hlen ⊢
      exact eqSteps0p ds a b _ _ iha ihb (by omega) (by omega) (by omega) (stT_acts (stD_good hd a hwb.1 (by omega))) (stT_acts (stD_good hd b hwb.2.1 (by omega)))
    · simp [wantN] at hl
    · simp [wantN] at hl
  | .mk o n (_ :: _ :: _ :: _), hw, hz, hC => by
    exfalso
    unfold WfT at hw
    have hl := hw.2.1
    unfold wantN at hl
    simp only [List.length_cons] at hl
    (repeat' split at hl) <;> omega
theorem eqSteps (ds : List Tm) (hd : DsOk ds) (t : Tm) (hw : WfT ds.length t) (hz : szT t ≤ 24) : StepsAt ds t (stD ds t) := by
  refine eqStepsK ds hd (fun _ => True) (fun _ _ _ _ _ => trivial) (fun _ _ _ _ _ => ⟨trivial, trivial⟩) (fun n _ h0 hlt => ?_) t hw hz trivial
  have hlt2 : n.toNat < ds.length := by omega
  refine ⟨ds[n.toNat], List.getElem?_eq_getElem hlt2, ?_⟩
  obtain ⟨a, b, c⟩ := hd.2 _ (List.getElem_mem hlt2)
  have e : kD ds n = stD ds ds[n.toNat] := by
    unfold kD stD
    rw [List.getElem?_eq_getElem hlt2]
    simp only [if_pos h0]
    exact stT_gd _ _ _ c
  rw [e]
  refine eqStepsK ds hd gdT (fun o n a h ho => ?_) (fun o n a b h => ?_) (fun n h _ _ => ?_) _ a b c
  · unfold gdT at h; exact h.resolve_left ho
  · unfold gdT at h; exact h
  · unfold gdT at h; exact absurd rfl h
end Go.Am
end
section
set_option maxRecDepth 10000
set_option maxHeartbeats 16000000
set_option linter.unusedSimpArgs false
set_option linter.unusedVariables false
namespace Go.Am
open Go.Proofs Go.Sort Go.Shelf
/-! spec.l3Graph: some graph of bounded size -/
def g3P (g : Gr) : PV := if g = [] then .nils else .own (0, 103) g.length
def g3L (g : Gr) : Objs := if g = [] then [] else [(103, .row 1 (encGs true true g))]
theorem g3_two (g : Gr) : (g = [] ∧ g3P g = .nils ∧ g3L g = []) ∨ (g ≠ [] ∧ g3P g = .own (0, 103) g.length ∧ g3L g = [(103, .row 1 (encGs true true g))]) := by
  by_cases h : g = []
  · exact .inl ⟨h, by simp [g3P, h], by simp [g3L, h]⟩
  · exact .inr ⟨h, by simp [g3P, h], by simp [g3L, h]⟩
theorem known_encQ (ds : List Tm) (f : Nat → Bool) (n : Nat) : known f n (encQ false ds) = true := by cases ds <;> simp [encQ, known]
theorem plains_str (T : List ByteArray) : plains (T.map PV.s) = true := by
  induction T with
  | nil => rfl
  | cons t T ih => simp only [List.map_cons, plains, plain, Bool.true_and]; exact ih
theorem str_at (T : List ByteArray) (k : Nat) (h : k < T.length) : nth (T.map PV.s) k = some (.s T[k]) := by simp [nth, h]
theorem plain_encTf : ∀ t : Tm, plain (encT false t) = true
  | .mk o n ps => by cases ps <;> simp [encT, encQ, plain, plains]
theorem plains_encTs (S : List Tm) : plains (encTs false S) = true := by
  induction S with
  | nil => rfl
  | cons t T ih => simp only [encTs, plains, plain_encTf, Bool.true_and]; exact ih
theorem encTs_snoc (S : List Tm) (x : Tm) : encTs false (S ++ [x]) = encTs false S ++ [encT false x] := by simp [encTs_map]
theorem loopGr0 (D : PV) (hKD : ∀ f n, known f n D = true) (S : List Tm) (A : List Stp) (M : List Mv) (g : Gr) (T : List ByteArray) (s i : Int) (x : ByteArray) (hT : T.length = S.length) (hS : S.length ≤ 60) : ∀ (k to : Nat), to + k = T.length →
    ∃ to' : Nat, to' ≤ T.length ∧ loopI G [1, 4, 6, 7, 8, 9, 10, 11, 12, 13, 14] [4, 8, 16, 19, 32, 33, 83, 87, 97, 103] c110l0 ⟨[(1, D), (4, .ref (0, 4) 1 0 0), (6, .own (0, 16) S.length), (7, .own (0, 19) S.length), (8, .ref (0, 8) 1 0 0), (9, .i s), (10, .own (0, 32) A.length), (11, .own (0, 33) M.length), (12, .i i), (13, .s x), (14, .i to)], (4, .box [.nils]) :: (8, .box [g3P g]) :: (16, .row 3 (encTs false S)) :: (19, .row 1 (T.map PV.s)) :: (32, .row 4 (stPs A)) :: (33, .row 2 (M.map mvP)) :: g3L g, []⟩ =
      some (.exit 4, ⟨[(1, D), (4, .ref (0, 4) 1 0 0), (6, .own (0, 16) S.length), (7, .own (0, 19) S.length), (8, .ref (0, 8) 1 0 0), (9, .i s), (10, .own (0, 32) A.length), (11, .own (0, 33) M.length), (12, .i i), (13, .s x), (14, .i to'), (57, .b false)], (4, .box [.nils]) :: (8, .box [g3P g]) :: (16, .row 3 (encTs false S)) :: (19, .row 1 (T.map PV.s)) :: (32, .row 4 (stPs A)) :: (33, .row 2 (M.map mvP)) :: g3L g, []⟩)
  | 0, to, e => by
    have hp1 := plains_str T
    have hl1 : S.length = T.length := hT.symm
    have h1 : ¬ (to : Int) < T.length := by omega
    refine ⟨to, by omega, ?_⟩
    rw [loopI_eq]
    rcases g3_two g with ⟨_, h2, h3⟩ | ⟨_, h2, h3⟩ <;> rw [h2, h3] <;> simp [hKD, r110l0, b110l0, hl1, h1, encTs_len]
  | k + 1, to, e => by
    have hp1 := plains_str T
    have hl1 : S.length = T.length := hT.symm
    have hlt : to < T.length := by omega
    have hlt2 : (to : Int) < T.length := by omega
    have hw : IntKind.i64.wrap ((to : Int) + 1) = (to : Int) + 1 := wr (by omega)
    have hat := str_at T to hlt
    generalize T[to] = y at hat
    cases hq : (y.toList == x.toList) with
    | true =>
      refine ⟨to, by omega, ?_⟩
      rw [loopI_eq]
      rcases g3_two g with ⟨_, h2, h3⟩ | ⟨_, h2, h3⟩ <;> rw [h2, h3] <;> simp [hKD, r110l0, b110l0, hl1, hlt, hlt2, hat, hp1, hq, encTs_len]
    | false =>
      obtain ⟨to', a1, hn⟩ := loopGr0 D hKD S A M g T s i x hT hS k (to + 1) (by omega)
      refine ⟨to', a1, ?_⟩
      refine Eq.trans ?_ hn
      rw [show ((to + 1 : Nat) : Int) = (to : Int) + 1 by omega, loopI_eq]
      rcases g3_two g with ⟨_, h2, h3⟩ | ⟨_, h2, h3⟩ <;> rw [h2, h3] <;> simp [hKD, r110l0, b110l0, hl1, hlt, hlt2, hat, hp1, hq, hw, encTs_len]
end Go.Am
end
section
set_option maxRecDepth 10000
set_option maxHeartbeats 16000000
set_option linter.unusedSimpArgs false
set_option linter.unusedVariables false
namespace Go.Am
open Go.Proofs Go.Sort Go.Shelf
/-- States that are found. -/
structure GrOk (ds S : List Tm) (T : List ByteArray) : Prop where
  t : T.length = S.length
  n : S.length ≤ 60
  w : ∀ x ∈ S, WfT ds.length x ∧ szT x ≤ 24
mutual
theorem va_nodes : ∀ x : Tm, VaT x → nodesT x = min 1000 (szT x)
  | .mk o n ps, h => by
    unfold VaT at h
    unfold nodesT szT
    rw [if_pos ⟨h.1, h.2.1⟩, va_nodess 1 ps (by omega) h.2.2]
    omega
theorem va_nodess : ∀ (k : Nat) (ps : List Tm), k ≤ 1000 → VaTs ps → nodesL k ps = min 1000 (k + szTs ps)
  | k, [], hk, h => by unfold nodesL szTs; omega
  | k, p :: ps, hk, h => by
    unfold VaTs at h
    have h1 := va_nodes p h.1
    have h2 := szT_pos p
    unfold nodesL szTs
    rw [if_neg (by omega), va_nodess (min 1000 (k + nodesT p)) ps (by omega) h.2]
    omega
end
theorem nodes_small {m : Int} {x : Tm} (hw : WfT m x) (h : ¬ (24 : Int) < nodesT x) : szT x ≤ 24 := by
  have := va_nodes x hw.va
  omega
theorem loopGr1 (D : PV) (hKD : ∀ f n, known f n D = true) (ds : List Tm) (A : List Stp) (hA : ∀ r ∈ A, GoodS ds.length 576 r) (hAl : A.length ≤ 400000) (g : Gr) (s : Int) : ∀ (rest done : List Stp) (S : List Tm) (T : List ByteArray) (M : List Mv), A = done ++ rest → GrOk ds S T → M.length = done.length →
    ∃ ex, loopI G [1, 4, 6, 7, 8, 9, 10, 11, 12] [4, 8, 16, 19, 32, 33, 83, 87, 97, 103] c110l1 ⟨[(1, D), (4, .ref (0, 4) 1 0 0), (6, .own (0, 16) S.length), (7, .own (0, 19) S.length), (8, .ref (0, 8) 1 0 0), (9, .i s), (10, .own (0, 32) A.length), (11, .own (0, 33) M.length), (12, .i done.length)], (4, .box [.nils]) :: (8, .box [g3P g]) :: (16, .row 3 (encTs false S)) :: (19, .row 1 (T.map PV.s)) :: (32, .row 4 (stPs A)) :: (33, .row 2 (M.map mvP)) :: g3L g, []⟩ = some ex ∧
      (ex = (.ret, ⟨[(4, .ref (0, 4) 1 0 0), (5, .b false)], (4, .box [.nils]) :: g3L g, []⟩) ∨ ∃ (S' : List Tm) (T' : List ByteArray) (M' : List Mv), GrOk ds S' T' ∧ S.length ≤ S'.length ∧ M'.length = A.length ∧ ex = (.exit 2, ⟨[(1, D), (4, .ref (0, 4) 1 0 0), (6, .own (0, 16) S'.length), (7, .own (0, 19) S'.length), (8, .ref (0, 8) 1 0 0), (9, .i s), (10, .own (0, 32) A.length), (11, .own (0, 33) M'.length), (12, .i A.length), (37, .b false)], (4, .box [.nils]) :: (8, .box [g3P g]) :: (16, .row 3 (encTs false S')) :: (19, .row 1 (T'.map PV.s)) :: (32, .row 4 (stPs A)) :: (33, .row 2 (M'.map mvP)) :: g3L g, []⟩))
  | [], done, S, T, M, e, hG, hM => by
    have e : A = done := by simpa using e
    subst e
    refine ⟨_, ?_, .inr ⟨S, T, M, hG, Nat.le_refl _, hM, rfl⟩⟩
    have hl1 : S.length = T.length := hG.t.symm
    rw [loopI_eq]
    rcases g3_two g with ⟨_, h2, h3⟩ | ⟨_, h2, h3⟩ <;> rw [h2, h3] <;> simp [hKD, r110l1, b110l1, hl1, hM, encTs_len]
  | r :: rest, done, S, T, M, e, hG, hM => by
    have hpl : A.length = done.length + (rest.length + 1) := by rw [e]; simp
    have hlt : (done.length : Int) < A.length := by omega
    have hlt2 : done.length < A.length := by omega
    have hw : IntKind.i64.wrap ((done.length : Int) + 1) = (done.length : Int) + 1 := wr (by omega)
    have hat := stP_at done r rest
    rw [← e] at hat
    obtain ⟨g1, g2, g3⟩ := hA r (by rw [e]; simp)
    obtain ⟨b, hb, ht⟩ := eqText r.2 g2.va (by omega)
    have hno := eqNodes r.2
    have hpa := plains_stPs A
    have hl1 : S.length = T.length := hG.t.symm
    have hS60 := hG.n
    have hM9 : done.length ≤ 4294967295 := by omega
    obtain ⟨to, hto, hl0⟩ := loopGr0 D hKD S A M g T s done.length b hG.t hG.n T.length 0 (by omega)
    simp only [show ((0 : Nat) : Int) = 0 from rfl] at hl0
    obtain ⟨z1, z2, z3, N3, hZ, hZ2, hN, hz3⟩ := stP_form r
    rw [hZ] at hat
    rw [hZ2] at ht hno
    rw [hl1] at hS60 hl0
    rw [hM] at hl0 ⊢
    by_cases hin : to = T.length
    · subst hin
      by_cases h60 : T.length = 60
      · refine ⟨_, ?_, .inl rfl⟩
        rw [h60] at hl0 hl1
        simp only [show ((60 : Nat) : Int) = 60 from rfl] at hl0
        rw [loopI_eq, hl1]
        rcases g3_two g with ⟨_, h2, h3⟩ | ⟨_, h2, h3⟩ <;> rw [h2, h3] at hl0 ⊢ <;> rcases hz3 with rfl | rfl <;> simp [hKD, r110l1, b110l1, hl1, h60, hlt, hlt2, hat, hpa, ht, hl0, hM, encTs_len]
      · have h60' : ¬ (T.length : Int) = 60 := by omega
        by_cases h24 : (24 : Int) < nodesT r.2
        · refine ⟨_, ?_, .inl rfl⟩
          rw [loopI_eq, hl1]
          rcases g3_two g with ⟨_, h2, h3⟩ | ⟨_, h2, h3⟩ <;> rw [h2, h3] at hl0 ⊢ <;> rcases hz3 with rfl | rfl <;> simp [hKD, r110l1, b110l1, hl1, h60, h60', hlt, hlt2, hat, hpa, ht, hl0, hno, h24, hM, encTs_len]
        · have hG' : GrOk ds (S ++ [r.2]) (T ++ [b]) := by
            refine ⟨by simp [hl1], by simp; omega, fun x hx => ?_⟩
            rcases List.mem_append.1 hx with h | h
            · exact hG.w x h
            · simp only [List.mem_singleton] at h
              subst h
              exact ⟨g2, nodes_small g2 h24⟩
          obtain ⟨ex, hn, hr⟩ := loopGr1 D hKD ds A hA hAl g s rest (done ++ [r]) (S ++ [r.2]) (T ++ [b]) (M ++ [(r.1, (T.length : Int))]) (by rw [e]; simp) hG' (by simp [hM])
          refine ⟨ex, ?_, ?_⟩
          · refine Eq.trans ?_ hn
            have hT9 : T.length ≤ 4294967295 := by omega
            rw [encTs_snoc, hZ2, loopI_eq]
            simp only [List.length_append, List.map_append, List.length_cons, List.length_nil, List.map_cons, List.map_nil, hl1]
            rcases g3_two g with ⟨_, h2, h3⟩ | ⟨_, h2, h3⟩ <;> rw [h2, h3] at hl0 ⊢ <;> rcases hz3 with rfl | rfl <;> simp [hKD, r110l1, b110l1, hl1, h60, h60', hlt, hlt2, hat, hpa, ht, hl0, hno, h24, hM, hM9, hT9, hw, mvP, encTs_len]
          · rcases hr with hr | ⟨S', T', M', q1, q2, q3, q4⟩
            · exact .inl hr
            · exact .inr ⟨S', T', M', q1, by simp at q2; omega, q3, q4⟩
    · have hin' : ¬ (to : Int) = T.length := by omega
      obtain ⟨ex, hn, hr⟩ := loopGr1 D hKD ds A hA hAl g s rest (done ++ [r]) S T (M ++ [(r.1, (to : Int))]) (by rw [e]; simp) hG (by simp [hM])
      refine ⟨ex, ?_, hr⟩
      refine Eq.trans ?_ hn
      rw [loopI_eq]
      simp only [List.length_append, List.map_append, List.length_cons, List.length_nil, List.map_cons, List.map_nil, hl1]
      rcases g3_two g with ⟨_, h2, h3⟩ | ⟨_, h2, h3⟩ <;> rw [h2, h3] at hl0 ⊢ <;> rcases hz3 with rfl | rfl <;> simp [hKD, r110l1, b110l1, hl1, hin, hin', hlt, hlt2, hat, hpa, ht, hl0, hM, hM9, hw, mvP, encTs_len]
end Go.Am
end
section
set_option maxRecDepth 10000
set_option maxHeartbeats 16000000
set_option linter.unusedSimpArgs false
set_option linter.unusedVariables false
namespace Go.Am
open Go.Proofs Go.Sort Go.Shelf
theorem loopGr2 (ds : List Tm) (hds : DsOk ds) : ∀ (k s : Nat) (S : List Tm) (T : List ByteArray) (g : Gr), s + k = 60 → s ≤ S.length → GrOk ds S T → g.length = s → (∀ l ∈ g, l.length ≤ 400000) →
    ∃ ex, loopI G [1, 4, 6, 7, 8, 9] [4, 8, 16, 19, 83, 87, 103] c110l2 ⟨[(1, encQ false ds), (4, .ref (0, 4) 1 0 0), (6, .own (0, 16) S.length), (7, .own (0, 19) S.length), (8, .ref (0, 8) 1 0 0), (9, .i s)], (4, .box [.nils]) :: (8, .box [g3P g]) :: (16, .row 3 (encTs false S)) :: (19, .row 1 (T.map PV.s)) :: g3L g, []⟩ = some ex ∧
      ((∃ L : Objs, ex = (.ret, ⟨[(4, .ref (0, 4) 1 0 0), (5, .b false)], (4, .box [.nils]) :: L, []⟩)) ∨ ∃ (S' : List Tm) (T' : List ByteArray) (g' : Gr), GrOk ds S' T' ∧ g'.length = S'.length ∧ (∀ l ∈ g', l.length ≤ 400000) ∧ ex = (.exit 0, ⟨[(1, encQ false ds), (4, .ref (0, 4) 1 0 0), (6, .own (0, 16) S'.length), (7, .own (0, 19) S'.length), (8, .ref (0, 8) 1 0 0), (9, .i S'.length), (24, .b false)], (4, .box [.nils]) :: (8, .box [g3P g']) :: (16, .row 3 (encTs false S')) :: (19, .row 1 (T'.map PV.s)) :: g3L g', []⟩))
  | k, s, S, T, g, hk, hs, hG, hg, hgl => by
    have hl1 : S.length = T.length := hG.t.symm
    have hS60 := hG.n
    by_cases hlt : s < S.length
    · obtain ⟨k, rfl⟩ : ∃ k', k = k' + 1 := ⟨k - 1, by omega⟩
      have hlt1 : (s : Int) < S.length := by omega
      obtain ⟨w1, w2⟩ := hG.w _ (List.getElem_mem hlt)
      have hst := eqSteps ds hds _ w1 w2
      have hgood := stD_good hds _ w1 w2
      have hlen := stD_len hds _ w2
      have hat : nth (encTs false S) s = some (encT false S[s]) := by simp [nth, encTs_map, hlt]
      generalize stD ds S[s] = A at hst hgood hlen
      unfold StepsAt at hst
      generalize S[s] = x at hst hat
      obtain ⟨x1, x2, x3, L3, hX, hL, hx3⟩ := encT_formF x
      rw [hX] at hst hat
      have hpS := plains_encTs S
      have hlS : (encTs false S).length = S.length := encTs_len false S
      obtain ⟨ex, h1, hr⟩ := loopGr1 (encQ false ds) (known_encQ ds) ds A hgood hlen g s A [] S T [] rfl hG rfl
      simp only [List.length_nil, List.map_nil, show ((0 : Nat) : Int) = 0 from rfl] at h1
      rcases hr with rfl | ⟨S', T', M', q1, q2, q3, rfl⟩
      · refine ⟨_, ?_, .inl ⟨g3L g, rfl⟩⟩
        generalize encTs false S = ES at *
        rw [loopI_eq]
        rcases encQ_form false ds with ⟨eD, _⟩ | ⟨FD, eD, eD1, _⟩ <;> rw [eD] at hst h1 ⊢ <;> rcases g3_two g with ⟨_, h2, h3⟩ | ⟨_, h2, h3⟩ <;> rw [h2, h3] at h1 ⊢ <;> rcases hx3 with rfl | rfl <;> simp [r110l2, b110l2, hlt, hlt1, hlS, hat, hpS, hst, h1]
      · have hS := eqSorted false M' (by omega)
        have htl := tidyL_len M'
        have hfl := fals_mvP M'
        have hw : IntKind.i64.wrap ((s : Int) + 1) = (s : Int) + 1 := wr (by omega)
        obtain ⟨ex2, hn, hr2⟩ := loopGr2 ds hds k (s + 1) S' T' (g ++ [tidyL M']) (by omega) (by omega) q1 (by simp [hg]) (fun l hl' => by
          rcases List.mem_append.1 hl' with h | h
          · exact hgl l h
          · simp only [List.mem_singleton] at h; subst h; omega)
        refine ⟨ex2, ?_, hr2⟩
        refine Eq.trans ?_ hn
        have hg9 : g.length ≤ 4294967295 := by omega
        have hgn : g3P (g ++ [tidyL M']) = .own (0, 103) (g.length + 1) := by simp [g3P]
        have hgL : g3L (g ++ [tidyL M']) = [(103, .row 1 (encGs true true g ++ [encL true true (tidyL M')]))] := by simp [g3L, encGs]
        rw [hgn, hgL, show ((s + 1 : Nat) : Int) = (s : Int) + 1 by omega]
        clear hn hr2
        generalize tidyL M' = X at *
        have hns := noShares_mv X
        simp only [encL_f] at hS
        have hl2 : S'.length = T'.length := q1.t.symm
        have hlS' : (encTs false S').length = S'.length := encTs_len false S'
        generalize encTs false S' = ES' at *
        generalize encTs false S = ES at *
        rw [loopI_eq]
        rcases encQ_form false ds with ⟨eD, _⟩ | ⟨FD, eD, eD1, _⟩ <;> rw [eD] at hst h1 ⊢ <;> rcases g3_two g with ⟨h, h2, h3⟩ | ⟨h, h2, h3⟩ <;> rw [h2, h3] at h1 ⊢ <;> rcases encL_two true true X with ⟨hT, _⟩ | hT <;> rw [hT] at hS ⊢ <;> rcases hx3 with rfl | rfl <;>
          (first | subst h | skip
           simp [r110l2, b110l2, hlt, hlt1, hlS, hlS', hat, hpS, hst, h1, hl2, hS, hfl, hg9, hw, encGs_len, hns]
           try rfl)
    · have hlS : S.length = s := by omega
      refine ⟨_, ?_, .inr ⟨S, T, g, hG, by omega, hgl, rfl⟩⟩
      have hlS2 : (encTs false S).length = S.length := encTs_len false S
      generalize encTs false S = ES at *
      rw [loopI_eq]
      subst hlS
      rw [← hl1] at *
      rcases encQ_form false ds with ⟨eD, _⟩ | ⟨FD, eD, eD1, _⟩ <;> rw [eD] <;> rcases g3_two g with ⟨_, h2, h3⟩ | ⟨_, h2, h3⟩ <;> rw [h2, h3] <;> simp [r110l2, b110l2, hlS2, hl1]
end Go.Am
end
section
set_option maxRecDepth 10000
set_option maxHeartbeats 16000000
set_option linter.unusedSimpArgs false
set_option linter.unusedVariables false
namespace Go.Am
open Go.Proofs Go.Sort Go.Shelf
theorem eqGraph3 (ds : List Tm) (hds : DsOk ds) (t : Tm) (hw : WfT ds.length t) (hz : szT t ≤ 24) : ∃ (g : Gr) (ok : Bool), g.length ≤ 60 ∧ (∀ l ∈ g, l.length ≤ 400000) ∧ callI G 110 [encT false t, encQ false ds] [] = some (.tup [encG true true g, .b ok], []) := by
  obtain ⟨b, hb, ht⟩ := eqText t hw.va (by omega)
  obtain ⟨ex, h1, hr⟩ := loopGr2 ds hds 60 0 [t] [b] [] rfl (by simp) ⟨rfl, by simp, fun x hx => by simp only [List.mem_singleton] at hx; subst hx; exact ⟨hw, hz⟩⟩ rfl (fun l hl => by cases hl)
  simp only [List.length_cons, List.length_nil, List.map_cons, List.map_nil, show ((0 : Nat) : Int) = 0 from rfl, encTs, show g3P [] = .nils from rfl, show g3L [] = [] from rfl] at h1
  obtain ⟨x1, x2, x3, L3, hX, hL, hx3⟩ := encT_formF t
  rw [hX] at ht h1 ⊢
  rcases hr with ⟨L, rfl⟩ | ⟨S', T', g', q1, q2, q3, rfl⟩
  · refine ⟨[], false, by simp, (fun l hl => by cases hl), ?_⟩
    rw [callI_eq]
    rcases encQ_form false ds with ⟨eD, _⟩ | ⟨FD, eD, eD1, _⟩ <;> rw [eD] at h1 ⊢ <;> rcases hx3 with rfl | rfl <;> simp [body1_eq _ _ (gp 110) g110, c110, a110, ht, h1]
  · refine ⟨g', true, by have := q1.n; omega, q3, ?_⟩
    rw [callI_eq]
    generalize encTs false S' = ES at *
    rcases g3_two g' with ⟨h, h2, h3⟩ | ⟨h, h2, h3⟩ <;> rw [h2, h3] at h1
    · subst h
      rcases encQ_form false ds with ⟨eD, _⟩ | ⟨FD, eD, eD1, _⟩ <;> rw [eD] at h1 ⊢ <;> rcases hx3 with rfl | rfl <;> simp [body1_eq _ _ (gp 110) g110, c110, a110, ht, h1, encGs_len]
    · have hM := encM_ne (nl := true) (u := true) h
      simp only [encG, hM]
      rcases encQ_form false ds with ⟨eD, _⟩ | ⟨FD, eD, eD1, _⟩ <;> rw [eD] at h1 ⊢ <;> rcases hx3 with rfl | rfl <;> simp [body1_eq _ _ (gp 110) g110, c110, a110, ht, h1, encGs_len]
theorem eqGraphOf (ds : List Tm) (hs : SmTs ds) (hl : ds.length ≤ 1000) (t : Tm) (ht : SmT t) : ∃ (g : Gr) (ok : Bool), g.length ≤ 60 ∧ (∀ l ∈ g, l.length ≤ 400000) ∧ callI G 94 [encT false t, encQ false ds] [] = some (.tup [encG true true g, .b ok], []) := by
  have hA := eqAsked t ht ds hs hl
  cases hq : askedT t ds with
  | false =>
    refine ⟨[], false, by simp, (fun l hl => by cases hl), ?_⟩
    rw [hq] at hA
    obtain ⟨x1, x2, x3, L3, hX, hL, hx3⟩ := encT_formF t
    rw [hX] at hA ⊢
    rw [callI_eq]
    rcases encQ_form false ds with ⟨eD, _⟩ | ⟨FD, eD, eD1, _⟩ <;> rw [eD] at hA ⊢ <;> rcases hx3 with rfl | rfl <;> simp [body1_eq _ _ (gp 94) g94, c94, a94, hA]
  | true =>
    have hq0 := hq
    unfold askedT at hq0
    simp only [Bool.and_eq_true] at hq0
    have hds := defsOk_ds hq0.1
    have hf := hq0.2
    unfold fitsT at hf
    simp only [Bool.and_eq_true, decide_eq_true_eq] at hf
    obtain ⟨v1, v2⟩ := okT_va hf.1
    obtain ⟨g, ok, g1, g2, hg⟩ := eqGraph3 ds hds t (calls_wf _ t v1 hf.2.2) v2
    refine ⟨g, ok, g1, g2, ?_⟩
    rw [hq] at hA
    obtain ⟨x1, x2, x3, L3, hX, hL, hx3⟩ := encT_formF t
    rw [hX] at hA hg ⊢
    have hns := noShares_encGs true g
    simp only [encG] at hg ⊢
    rw [callI_eq]
    rcases encQ_form false ds with ⟨eD, _⟩ | ⟨FD, eD, eD1, _⟩ <;> rw [eD] at hA hg ⊢ <;> rcases encM_two true true g with ⟨e, _⟩ | e <;> rw [e] at hg ⊢ <;> rcases hx3 with rfl | rfl <;> simp [body1_eq _ _ (gp 94) g94, c94, a94, hA, hg, encGs_len]
end Go.Am
end
