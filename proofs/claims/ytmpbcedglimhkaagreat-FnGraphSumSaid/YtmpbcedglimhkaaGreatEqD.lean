/- What the functions that the law reaches compute. -/
import Derived.Test.YtmpbcedglimhkaaGreatEqC
section
set_option maxRecDepth 10000
set_option linter.unusedSimpArgs false
set_option linter.unusedVariables false
namespace Go.Am
def visL (l : List Stp) : Nat := (l.filter fun s => decide (s.1 ≠ 0)).length
theorem visL_nil : visL [] = 0 := rfl
theorem visL_cons (s : Stp) (l : List Stp) : visL (s :: l) = (if s.1 ≠ 0 then 1 else 0) + visL l := by
  unfold visL
  by_cases h : s.1 = 0
  · simp [h]
  · simp [h]; omega
theorem visL_app (a b : List Stp) : visL (a ++ b) = visL a + visL b := by simp [visL]
theorem visL_map (f : Stp → Stp) (hf : ∀ s,(f s).1 = s.1) : ∀ l : List Stp,visL (l.map f) = visL l
  | [] => rfl
  | s :: l => by rw [List.map_cons,visL_cons,visL_cons,hf,visL_map f hf l]
def syncL (s : Stp) (b : List Stp) : List Stp := b.flatMap fun r => if s.1 ≠ 0 ∧ s.1 = -r.1 then [(0,parT s.2 r.2)] else []
theorem syncL_len (s : Stp) : ∀ b : List Stp,(syncL s b).length ≤ (if s.1 ≠ 0 then visL b else 0) ∧ visL (syncL s b) = 0
  | [] => by simp [syncL,visL]
  | r :: b => by
    have ih := syncL_len s b
    have e : syncL s (r :: b) = (if s.1 ≠ 0 ∧ s.1 = -r.1 then [((0 : Int),parT s.2 r.2)] else []) ++ syncL s b := by simp [syncL]
    rw [e,List.length_append,visL_app,visL_cons]
    by_cases h : s.1 ≠ 0 ∧ s.1 = -r.1
    · have hr : r.1 ≠ 0 := by intro e; omega
      have hz : visL [((0 : Int),parT s.2 r.2)] = 0 := rfl
      rw [if_pos h,if_pos h.1,if_pos hr,hz]
      rw [if_pos h.1] at ih
      simp only [List.length_cons,List.length_nil]
      omega
    · rw [if_neg h]
      simp only [List.length_nil,visL_nil]
      by_cases h0 : s.1 = 0
      · simp [h0] at ih ⊢; exact ih
      · simp [h0] at ih ⊢; omega
theorem syncs_len (b : List Stp) : ∀ a : List Stp,(a.flatMap fun s => syncL s b).length ≤ visL a * visL b ∧ visL (a.flatMap fun s => syncL s b) = 0
  | [] => by simp [visL]
  | s :: a => by
    have ih := syncs_len b a
    have h := syncL_len s b
    rw [List.flatMap_cons,List.length_append,visL_app,visL_cons,Nat.add_mul,h.2,ih.2]
    refine ⟨?_,rfl⟩
    have h1 := h.1
    by_cases h0 : s.1 ≠ 0
    · rw [if_pos h0] at h1 ⊢
      omega
    · rw [if_neg h0] at h1 ⊢
      omega
theorem parS_len (t u : Tm) (a b : List Stp) : (parS t u a b).length ≤ a.length + b.length + visL a * visL b ∧ visL (parS t u a b) = visL a + visL b := by
  have h := syncs_len b a
  unfold parS
  rw [visL_app,visL_app,visL_map (fun s => (s.1,parT s.2 u)) (fun s => rfl),visL_map (fun s => (s.1,parT t s.2)) (fun s => rfl),List.length_append,List.length_append,List.length_map,List.length_map]
  unfold syncL at h
  constructor
  · have := h.1; omega
  · have := h.2; omega
theorem hidT_len (n : Int) : ∀ a : List Stp,(hidT n a).length ≤ a.length ∧ visL (hidT n a) ≤ visL a
  | [] => by simp [hidT,visL]
  | s :: a => by
    have ih := hidT_len n a
    have e : hidT n (s :: a) = (if s.1 = 0 ∨ name1 s.1 ≠ n then [(s.1,hideT n s.2)] else []) ++ hidT n a := by simp [hidT]
    rw [e,List.length_append,visL_app,visL_cons,List.length_cons]
    split
    · rw [visL_cons,visL_nil,List.length_cons,List.length_nil]
      dsimp only
      omega
    · simp only [List.length_nil,visL_nil]
      omega
end Go.Am
end
section
set_option maxRecDepth 10000
set_option linter.unusedSimpArgs false
set_option linter.unusedVariables false
namespace Go.Am
open Go.Proofs Go.Sort Go.Shelf
def lvT (w : Nat) : Tm → Nat
  | .mk o n [] => if o = 5 then w else 0
  | .mk o n [a] => if o = 1 then 1 else if o = 4 then lvT w a else 0
  | .mk o n [a,b] => if o = 2 then lvT w a + lvT w b else if o = 3 then lvT w a + lvT w b else 0
  | .mk _ _ (_ :: _ :: _ :: _) => 0
theorem lvT_le (w : Nat) : ∀ t : Tm,lvT w t ≤ (w + 1) * szT t
  | .mk o n [] => by
    have h : szT (.mk o n []) = 1 := by simp [szT,szTs]
    rw [h]
    unfold lvT
    split <;> omega
  | .mk o n [a] => by
    have ih := lvT_le w a
    have h : szT (.mk o n [a]) = szT a + 1 := by simp [szT,szTs]
    rw [h,Nat.mul_add]
    unfold lvT
    split
    · omega
    · split <;> omega
  | .mk o n [a,b] => by
    have iha := lvT_le w a
    have ihb := lvT_le w b
    have h : szT (.mk o n [a,b]) = szT a + szT b + 1 := by simp [szT,szTs]
    rw [h,Nat.mul_add,Nat.mul_add]
    unfold lvT
    split
    · omega
    · split <;> omega
  | .mk _ _ (_ :: _ :: _ :: _) => by simp [lvT]
theorem sq_add (a b : Nat) : a * a + b * b + a * b ≤ (a + b) * (a + b) := by
  rw [Nat.add_mul,Nat.mul_add,Nat.mul_add,Nat.mul_comm b a]
  omega
theorem stT_len (k : Int → List Stp) (w : Nat) (hk : ∀ n,visL (k n) ≤ w ∧ (k n).length ≤ w + w * w) : ∀ t : Tm,visL (stT k t) ≤ lvT w t ∧ (stT k t).length ≤ lvT w t + lvT w t * lvT w t
  | .mk o n [] => by
    unfold stT lvT
    split
    · exact hk n
    · simp [visL]
  | .mk o n [a] => by
    have ih := stT_len k w hk a
    unfold stT lvT
    split
    · refine ⟨?_,by simp⟩
      rw [visL_cons,visL_nil]
      split <;> omega
    · split
      · have := hidT_len n (stT k a)
        omega
      · simp [visL]
  | .mk o n [a,b] => by
    have iha := stT_len k w hk a
    have ihb := stT_len k w hk b
    have hq := sq_add (lvT w a) (lvT w b)
    unfold stT lvT
    split
    · rw [visL_app,List.length_append]
      omega
    · split
      · have := parS_len a b (stT k a) (stT k b)
        have hm : visL (stT k a) * visL (stT k b) ≤ lvT w a * lvT w b := Nat.mul_le_mul iha.1 ihb.1
        omega
      · simp [visL]
  | .mk _ _ (_ :: _ :: _ :: _) => by simp [stT,visL]
mutual
def WfT (m : Int) : Tm → Prop
  | .mk o n ps => headOk o n = true ∧ ps.length = wantN o ∧ (o = 5 → n < m) ∧ WfTs m ps
def WfTs (m : Int) : List Tm → Prop
  | [] => True
  | p :: ps => WfT m p ∧ WfTs m ps
end
mutual
theorem WfT.va {m : Int} : ∀ {t : Tm},WfT m t → VaT t
  | .mk o n ps,h => by
    unfold WfT at h
    unfold VaT
    exact ⟨h.1,h.2.1,WfTs.va h.2.2.2⟩
theorem WfTs.va {m : Int} : ∀ {ps : List Tm},WfTs m ps → VaTs ps
  | [],h => by unfold VaTs; trivial
  | p :: ps,h => by
    unfold WfTs at h
    unfold VaTs
    exact ⟨WfT.va h.1,WfTs.va h.2⟩
end
theorem headOk_n {o n : Int} (h : headOk o n = true) : (0 ≤ o ∧ o ≤ 5) ∧ (-4 ≤ n ∧ n ≤ 4) ∧ (o = 5 → 0 ≤ n) := by
  rcases eqHead o n h with ⟨rfl,rfl⟩ | ⟨rfl,hk⟩ | ⟨rfl,rfl⟩ | ⟨rfl,rfl⟩ | ⟨rfl,hk⟩ | ⟨rfl,hk⟩
  · omega
  · have hk : -4 ≤ n ∧ n ≤ 4 := by simpa [actOk] using hk
    omega
  · omega
  · omega
  · omega
  · omega
mutual
theorem VaT.sm : ∀ {t : Tm},VaT t → SmT t
  | .mk o n ps,h => by
    unfold VaT at h
    unfold SmT
    have := headOk_n h.1
    refine ⟨by omega,by omega, ?_,VaTs.sm h.2.2⟩
    rw [h.2.1]
    unfold wantN
    (repeat' split) <;> omega
theorem VaTs.sm : ∀ {ps : List Tm},VaTs ps → SmTs ps
  | [],h => by unfold SmTs; trivial
  | p :: ps,h => by
    unfold VaTs at h
    unfold SmTs
    exact ⟨VaT.sm h.1,VaTs.sm h.2⟩
end
def gdT : Tm → Prop
  | .mk o n [] => o ≠ 5
  | .mk o n [a] => o = 1 ∨ gdT a
  | .mk o n [a,b] => gdT a ∧ gdT b
  | .mk _ _ (_ :: _ :: _ :: _) => True
theorem stT_gd (k k' : Int → List Stp) : ∀ t : Tm,gdT t → stT k t = stT k' t
  | .mk o n [],h => by
    unfold gdT at h
    simp [stT,h]
  | .mk o n [a],h => by
    unfold gdT at h
    unfold stT
    split
    · rfl
    · rename_i ho
      rcases h with h | h
      · exact absurd h ho
      · rw [stT_gd k k' a h]
  | .mk o n [a,b],h => by
    unfold gdT at h
    unfold stT
    rw [stT_gd k k' a h.1,stT_gd k k' b h.2]
  | .mk _ _ (_ :: _ :: _ :: _),h => by simp [stT]
def GoodS (m : Int) (z : Nat) (s : Stp) : Prop := (-4 ≤ s.1 ∧ s.1 ≤ 4) ∧ WfT m s.2 ∧ szT s.2 ≤ z
theorem GoodS.mono {m : Int} {z z' : Nat} {s : Stp} (h : GoodS m z s) (hz : z ≤ z') : GoodS m z' s := ⟨h.1,h.2.1,Nat.le_trans h.2.2 hz⟩
theorem wf_par {m : Int} {a b : Tm} (ha : WfT m a) (hb : WfT m b) : WfT m (parT a b) := by
  unfold parT WfT
  refine ⟨by decide,rfl,fun e => absurd e (by decide), ?_⟩
  simp only [WfTs]
  exact ⟨ha,hb,trivial⟩
theorem sz_par (a b : Tm) : szT (parT a b) = szT a + szT b + 1 := by simp [parT,szT,szTs]
theorem wf_hide {m n : Int} {a : Tm} (hn : headOk 4 n = true) (ha : WfT m a) : WfT m (hideT n a) := by
  unfold hideT WfT
  refine ⟨hn,by simp [wantN],fun e => absurd e (by decide), ?_⟩
  simp only [WfTs]
  exact ⟨ha,trivial⟩
theorem sz_hide (n : Int) (a : Tm) : szT (hideT n a) = szT a + 1 := by simp [hideT,szT,szTs]
theorem szT_pos : ∀ t : Tm,1 ≤ szT t
  | .mk _ _ _ => by unfold szT; omega
theorem par_good {m : Int} {t u : Tm} {a b : List Stp} {za zb z : Nat} (ht : WfT m t) (hu : WfT m u) (ha : ∀ s ∈ a,GoodS m za s) (hb : ∀ s ∈ b,GoodS m zb s)
    (h1 : za + szT u + 1 ≤ z) (h2 : szT t + zb + 1 ≤ z) (h3 : za + zb + 1 ≤ z) : ∀ s ∈ parS t u a b,GoodS m z s := by
  intro s hs
  unfold parS at hs
  rcases List.mem_append.1 hs with h | h
  · obtain ⟨x,hx,rfl⟩ := List.mem_map.1 h
    obtain ⟨x1,x2,x3⟩ := ha x hx
    exact ⟨x1,wf_par x2 hu,by rw [sz_par]; omega⟩
  · rcases List.mem_append.1 h with h | h
    · obtain ⟨x,hx,rfl⟩ := List.mem_map.1 h
      obtain ⟨x1,x2,x3⟩ := hb x hx
      exact ⟨x1,wf_par ht x2,by rw [sz_par]; omega⟩
    · obtain ⟨x,hx,h⟩ := List.mem_flatMap.1 h
      obtain ⟨y,hy,h⟩ := List.mem_flatMap.1 h
      split at h
      · simp only [List.mem_singleton] at h
        subst h
        obtain ⟨x1,x2,x3⟩ := ha x hx
        obtain ⟨y1,y2,y3⟩ := hb y hy
        exact ⟨by dsimp only; omega,wf_par x2 y2,by rw [sz_par]; omega⟩
      · cases h
theorem hid_good {m n : Int} {a : List Stp} {za z : Nat} (hn : headOk 4 n = true) (ha : ∀ s ∈ a,GoodS m za s) (h1 : za + 1 ≤ z) : ∀ s ∈ hidT n a,GoodS m z s := by
  intro s hs
  obtain ⟨x,hx,h⟩ := List.mem_flatMap.1 hs
  split at h
  · simp only [List.mem_singleton] at h
    subst h
    obtain ⟨x1,x2,x3⟩ := ha x hx
    exact ⟨x1,wf_hide hn x2,by rw [sz_hide]; omega⟩
  · cases h
theorem stT_good (m : Int) (k : Int → List Stp) (c : Nat) (hc : 1 ≤ c) (hk : ∀ n,0 ≤ n → n < m → ∀ s ∈ k n,GoodS m c s) : ∀ t : Tm,WfT m t → ∀ s ∈ stT k t,GoodS m (c * szT t) s
  | .mk o n [],h,s,hs => by
    unfold WfT at h
    unfold stT at hs
    split at hs
    · rename_i ho
      have hh := headOk_n h.1
      have : szT (.mk o n []) = 1 := by simp [szT,szTs]
      rw [this,Nat.mul_one]
      exact hk n (hh.2.2 ho) (h.2.2.1 ho) s hs
    · cases hs
  | .mk o n [a],h,s,hs => by
    have hh := h
    unfold WfT at h
    have hwa : WfT m a := by have := h.2.2.2; unfold WfTs at this; exact this.1
    have ih := stT_good m k c hc hk a hwa
    have hsz : szT (.mk o n [a]) = szT a + 1 := by simp [szT,szTs]
    rw [hsz,Nat.mul_add]
    unfold stT at hs
    split at hs
    · rename_i ho
      subst ho
      simp only [List.mem_singleton] at hs
      subst hs
      refine ⟨(headOk_n h.1).2.1,hwa, ?_⟩
      have : szT a ≤ c * szT a := Nat.le_mul_of_pos_left _ hc
      dsimp only
      omega
    · split at hs
      · rename_i ho
        subst ho
        exact hid_good h.1 ih (by omega) s hs
      · cases hs
  | .mk o n [a,b],h,s,hs => by
    unfold WfT at h
    have hw := h.2.2.2
    unfold WfTs WfTs at hw
    have iha := stT_good m k c hc hk a hw.1
    have ihb := stT_good m k c hc hk b hw.2.1
    have hsz : szT (.mk o n [a,b]) = szT a + szT b + 1 := by simp [szT,szTs]
    rw [hsz,Nat.mul_add,Nat.mul_add]
    have q1 : szT a ≤ c * szT a := Nat.le_mul_of_pos_left _ hc
    have q2 : szT b ≤ c * szT b := Nat.le_mul_of_pos_left _ hc
    unfold stT at hs
    split at hs
    · rcases List.mem_append.1 hs with hs | hs
      · exact (iha s hs).mono (by omega)
      · exact (ihb s hs).mono (by omega)
    · split at hs
      · exact par_good hw.1 hw.2.1 iha ihb (by omega) (by omega) (by omega) s hs
      · cases hs
  | .mk _ _ (_ :: _ :: _ :: _),h,s,hs => by simp [stT] at hs
mutual
theorem nodes_va : ∀ t : Tm,nodesT t ≠ 0 → VaT t ∧ nodesT t = min 1000 (szT t)
  | .mk o n ps,h => by
    unfold nodesT at h ⊢
    split at h
    · rename_i hh
      rw [if_pos hh]
      have := nodes_vas 1 ps (by omega) (by omega) h
      unfold VaT
      refine ⟨⟨hh.1,hh.2,this.1⟩, ?_⟩
      rw [this.2]
      unfold szT
      omega
    · exact absurd rfl h
theorem nodes_vas : ∀ (k : Nat) (ps : List Tm),1 ≤ k → k ≤ 1000 → nodesL k ps ≠ 0 → VaTs ps ∧ nodesL k ps = min 1000 (k + szTs ps)
  | k,[],h1,h2,h => by
    unfold nodesL VaTs szTs
    exact ⟨trivial,by omega⟩
  | k,p :: ps,h1,h2,h => by
    unfold nodesL at h ⊢
    split at h
    · exact absurd rfl h
    · rename_i hp
      rw [if_neg hp]
      obtain ⟨a1,a2⟩ := nodes_va p hp
      obtain ⟨b1,b2⟩ := nodes_vas (min 1000 (k + nodesT p)) ps (by omega) (by omega) h
      unfold VaTs szTs
      refine ⟨⟨a1,b1⟩, ?_⟩
      rw [b2,a2]
      omega
end
theorem okT_va {t : Tm} (h : okT t = true) : VaT t ∧ szT t ≤ 24 := by
  unfold okT at h
  simp only [Bool.and_eq_true,decide_eq_true_eq] at h
  obtain ⟨a,b⟩ := nodes_va t (by omega)
  refine ⟨a, ?_⟩
  omega
mutual
theorem calls_wf (m : Int) : ∀ t : Tm,VaT t → callsT false t < m → WfT m t
  | .mk o n ps,h,hc => by
    unfold VaT at h
    unfold callsT at hc
    unfold WfT
    by_cases ho : o = 5
    · rw [if_pos ho] at hc
      subst ho
      have hl : ps.length = 0 := by simpa [wantN] using h.2.1
      obtain rfl : ps = [] := List.length_eq_zero_iff.1 hl
      exact ⟨h.1,h.2.1,fun _ => hc,by unfold WfTs; trivial⟩
    · rw [if_neg ho] at hc
      simp only [Bool.false_eq_true,false_and,if_false] at hc
      exact ⟨h.1,h.2.1,fun e => absurd e ho,(calls_wfs m (-1) ps h.2.2 hc).2⟩
theorem calls_wfs (m : Int) : ∀ (k : Int) (ps : List Tm),VaTs ps → callsL false k ps < m → k < m ∧ WfTs m ps
  | k,[],h,hc => by
    unfold callsL at hc
    unfold WfTs
    exact ⟨hc,trivial⟩
  | k,p :: ps,h,hc => by
    unfold VaTs at h
    unfold callsL at hc
    unfold WfTs
    obtain ⟨a,b⟩ := calls_wfs m _ ps h.2 hc
    split at a
    · exact ⟨by omega,calls_wf m p h.1 (by omega),b⟩
    · exact ⟨by omega,calls_wf m p h.1 (by omega),b⟩
end
theorem callsL_ge (g : Bool) : ∀ (k : Int) (ps : List Tm),k ≤ callsL g k ps ∧ ∀ p ∈ ps,callsT g p ≤ callsL g k ps
  | k,[] => by unfold callsL; exact ⟨by omega,fun p hp => by cases hp⟩
  | k,p :: ps => by
    unfold callsL
    obtain ⟨a,b⟩ := callsL_ge g (if k < callsT g p then callsT g p else k) ps
    generalize callsL g (if k < callsT g p then callsT g p else k) ps = X at a b ⊢
    refine ⟨by split at a <;> omega,fun q hq => ?_⟩
    rcases List.mem_cons.1 hq with rfl | hq
    · split at a <;> omega
    · exact b q hq
theorem calls_gd : ∀ t : Tm,VaT t → ¬ 0 ≤ callsT true t → gdT t
  | .mk o n [],h,hc => by
    unfold VaT at h
    unfold gdT
    intro ho
    unfold callsT at hc
    rw [if_pos ho] at hc
    exact hc ((headOk_n h.1).2.2 ho)
  | .mk o n [a],h,hc => by
    have h0 := h
    unfold VaT at h
    have hv := h.2.2
    unfold VaTs at hv
    unfold gdT
    unfold callsT at hc
    by_cases ho : o = 5
    · exfalso
      subst ho
      have := h.2.1
      simp [wantN] at this
    · rw [if_neg ho] at hc
      by_cases h1 : o = 1
      · exact .inl h1
      · right
        simp only [h1,and_false,if_false] at hc
        have := (callsL_ge true (-1) [a]).2 a (by simp)
        exact calls_gd a hv.1 (by omega)
  | .mk o n [a,b],h,hc => by
    unfold VaT at h
    have hv := h.2.2
    unfold VaTs VaTs at hv
    unfold gdT
    unfold callsT at hc
    have hl := h.2.1
    by_cases ho : o = 5
    · exfalso
      subst ho
      simp [wantN] at hl
    · rw [if_neg ho] at hc
      by_cases h1 : o = 1
      · exfalso
        subst h1
        simp [wantN] at hl
      · simp only [h1,and_false,if_false] at hc
        have q := (callsL_ge true (-1) [a,b]).2
        have q1 := q a (by simp)
        have q2 := q b (by simp)
        exact ⟨calls_gd a hv.1 (by omega),calls_gd b hv.2.1 (by omega)⟩
  | .mk _ _ (_ :: _ :: _ :: _),h,hc => by unfold gdT; trivial
def kD (ds : List Tm) (n : Int) : List Stp := match ds[n.toNat]? with
  | some d => if 0 ≤ n then stT (fun _ => []) d else []
  | none => []
def DsOk (ds : List Tm) : Prop := ds.length ≤ 3 ∧ ∀ d ∈ ds,WfT ds.length d ∧ szT d ≤ 24 ∧ gdT d
theorem defsOk_ds {ds : List Tm} (h : defsOk ds = true) : DsOk ds := by
  unfold defsOk at h
  simp only [Bool.and_eq_true,decide_eq_true_eq,List.all_eq_true] at h
  refine ⟨h.2,fun d hd => ?_⟩
  have := h.1 d hd
  unfold goodD fitsT at this
  simp only [Bool.and_eq_true,Bool.not_eq_true',decide_eq_true_eq,decide_eq_false_iff_not] at this
  obtain ⟨⟨h1,h2,h3⟩,h4⟩ := this
  obtain ⟨a,b⟩ := okT_va h1
  exact ⟨calls_wf _ d a h3,b,calls_gd d a h4⟩
theorem kD_len {ds : List Tm} (h : DsOk ds) (n : Int) : visL (kD ds n) ≤ 24 ∧ (kD ds n).length ≤ 24 + 24 * 24 := by
  unfold kD
  split
  · rename_i d hd
    have hm := List.mem_of_getElem? hd
    obtain ⟨a,b,c⟩ := h.2 d hm
    split
    · have q := stT_len (fun _ => []) 0 (fun n => by simp [visL]) d
      have q2 := lvT_le 0 d
      simp only [Nat.zero_add,Nat.one_mul] at q2
      have q3 : lvT 0 d ≤ 24 := by omega
      have q4 : lvT 0 d * lvT 0 d ≤ 24 * 24 := Nat.mul_le_mul q3 q3
      omega
    · simp [visL]
  · simp [visL]
theorem kD_good {ds : List Tm} (h : DsOk ds) (n : Int) : ∀ s ∈ kD ds n,GoodS ds.length 24 s := by
  intro s hs
  unfold kD at hs
  split at hs
  · rename_i d hd
    have hm := List.mem_of_getElem? hd
    obtain ⟨a,b,c⟩ := h.2 d hm
    split at hs
    · have := stT_good ds.length (fun _ => []) 1 (by omega) (fun n _ _ s hs => by cases hs) d a s hs
      exact this.mono (by omega)
    · cases hs
  · cases hs
abbrev stD (ds : List Tm) (t : Tm) : List Stp := stT (kD ds) t
theorem stD_len {ds : List Tm} (h : DsOk ds) (t : Tm) (ht : szT t ≤ 24) : (stD ds t).length ≤ 400000 := by
  have q := stT_len (kD ds) 24 (kD_len h) t
  have q2 := lvT_le 24 t
  have q3 : lvT 24 t ≤ 600 := by omega
  have q4 : lvT 24 t * lvT 24 t ≤ 600 * 600 := Nat.mul_le_mul q3 q3
  show (stT (kD ds) t).length ≤ _
  omega
theorem stD_good {ds : List Tm} (h : DsOk ds) (t : Tm) (hw : WfT ds.length t) (ht : szT t ≤ 24) : ∀ s ∈ stD ds t,GoodS ds.length 576 s := by
  intro s hs
  have := stT_good ds.length (kD ds) 24 (by omega) (fun n _ _ => kD_good h n) t hw s hs
  exact this.mono (by omega)
end Go.Am
end
section
set_option maxRecDepth 10000
set_option maxHeartbeats 16000000
set_option linter.unusedSimpArgs false
set_option linter.unusedVariables false
namespace Go.Am
open Go.Proofs Go.Sort Go.Shelf
def cellsT : Tm → List PV | .mk o n ps => [.i o,.i n,encQ false ps]
theorem encT_cells (t : Tm) : encT false t = .agg (cellsT t) := by cases t; simp [encT,cellsT]
mutual
theorem falF_encT : ∀ p : Tm,fal (encT false p) = encT false p
  | .mk o x ps => by
    simp only [encT,fal,fals]
    rw [falF_encQ ps]
theorem falF_encQ : ∀ ps : List Tm,fal (encQ false ps) = encQ false ps
  | [] => by simp [encQ,fal]
  | p :: ps => by
    simp only [encQ,fal,fals]
    rw [falF_encT p,falsF_encTs ps]
theorem falsF_encTs : ∀ ps : List Tm,fals (encTs false ps) = encTs false ps
  | [] => by simp [encTs,fals]
  | p :: ps => by
    simp only [encTs,fals]
    rw [falF_encT p,falsF_encTs ps]
end
theorem cellsT_form (t : Tm) : ∃ (a b : Int) (c : PV) (L : List PV),cellsT t = [.i a,.i b,c] ∧ fals L = L ∧ (c = .nils ∨ c = .sl false 3 L) := by
  obtain ⟨a,b,ps⟩ := t
  cases ps with
  | nil => exact ⟨a,b,_,[],rfl,rfl,.inl (by simp [encQ])⟩
  | cons p ps => exact ⟨a,b,_,_,rfl,falsF_encTs _,.inr (encQ_c false (List.cons_ne_nil p ps))⟩
theorem encT_formF (t : Tm) : ∃ (a b : Int) (c : PV) (L : List PV),encT false t = .agg [.i a,.i b,c] ∧ fals L = L ∧ (c = .nils ∨ c = .sl false 3 L) := by
  obtain ⟨a,b,c,L,h,hc⟩ := cellsT_form t
  exact ⟨a,b,c,L,by rw [encT_cells,h],hc⟩
def stP (s : Stp) : PV := .agg (.i s.1 :: cellsT s.2)
def stPs (l : List Stp) : List PV := l.map stP
@[simp] theorem stPs_len (l : List Stp) : (stPs l).length = l.length := by simp [stPs]
theorem stPs_app (a b : List Stp) : stPs (a ++ b) = stPs a ++ stPs b := by simp [stPs]
theorem stP_at (done : List Stp) (x : Stp) (rest : List Stp) : nth (stPs (done ++ x :: rest)) done.length = some (stP x) := by simp [nth,stPs]
theorem stP_form (s : Stp) : ∃ (a b : Int) (c : PV) (L : List PV),stP s = .agg [.i s.1,.i a,.i b,c] ∧ encT false s.2 = .agg [.i a,.i b,c] ∧ fals L = L ∧ (c = .nils ∨ c = .sl false 3 L) := by
  obtain ⟨a,b,c,L,h,hc⟩ := cellsT_form s.2
  exact ⟨a,b,c,L,by rw [stP,h],by rw [encT_cells,h],hc⟩
theorem stP_par (x : Int) (t u : Tm) : stP (x,parT t u) = .agg [.i x,.i 3,.i 0,.sl false 3 [encT false t,encT false u]] := by simp [stP,parT,cellsT,encQ,encTs]
theorem stP_hide (x n : Int) (t : Tm) : stP (x,hideT n t) = .agg [.i x,.i 4,.i n,.sl false 3 [encT false t]] := by simp [stP,hideT,cellsT,encQ,encTs]
theorem plain_stP (s : Stp) : plain (stP s) = true := by
  obtain ⟨a,b,c,L,h,_,hL,hc⟩ := stP_form s
  rw [h]
  rcases hc with rfl | rfl <;> simp [plain,plains]
theorem plains_stPs (l : List Stp) : plains (stPs l) = true := by
  induction l with
  | nil => simp [stPs,plains]
  | cons s l ih => simp only [stPs,List.map_cons,plains,plain_stP,Bool.true_and] at ih ⊢; exact ih
def fstS (u : Tm) (a : List Stp) : List Stp := a.map fun s => (s.1,parT s.2 u)
def sndS (t : Tm) (b : List Stp) : List Stp := b.map fun s => (s.1,parT t s.2)
theorem loopSt0 (n : Int) (t u : Tm) (a b : List Stp) : ∀ (rest done out : List Stp),a = done ++ rest → a.length ≤ 1000000 → out.length + rest.length ≤ 4000000000 →
    loopI G [2,5,6,7,8] [2,14,28,36,43,51,57,83,109,157,206,215] c62l0 ⟨[(2,.ref (0,2) 1 0 0),(5,.own (0,14) out.length),(6,.own (0,51) a.length),(7,.own (0,57) b.length),(8,.i done.length)],
      [(2,.box [.i 3,.i n,.sl false 3 [encT false t,encT false u]]),(14,.row 4 (stPs out)),(51,.row 4 (stPs a)),(57,.row 4 (stPs b))],[]⟩ =
      some (.exit 1,⟨[(2,.ref (0,2) 1 0 0),(5,.own (0,14) (out ++ fstS u rest).length),(6,.own (0,51) a.length),(7,.own (0,57) b.length),(8,.i a.length),(61,.b false)],
        [(2,.box [.i 3,.i n,.sl false 3 [encT false t,encT false u]]),(14,.row 4 (stPs (out ++ fstS u rest))),(51,.row 4 (stPs a)),(57,.row 4 (stPs b))],[]⟩)
  | [],done,out,e,ha,ho => by
    have e : a = done := by simpa using e
    subst e
    have hf : out ++ fstS u [] = out := by simp [fstS]
    rw [hf]
    obtain ⟨x1,x2,x3,L3,hX,hL,hx3⟩ := encT_formF t
    obtain ⟨y1,y2,y3,M3,hY,hM,hy3⟩ := encT_formF u
    rw [hX,hY,loopI_eq]
    rcases hx3 with rfl | rfl <;> rcases hy3 with rfl | rfl <;> simp [r62l0,b62l0,hL,hM,fal,fals]
  | s :: rest,done,out,e,ha,ho => by
    have hpl : a.length = done.length + (rest.length + 1) := by rw [e]; simp
    have hlt : (done.length : Int) < a.length := by omega
    have hlt2 : done.length < a.length := by omega
    have hw : IntKind.i64.wrap ((done.length : Int) + 1) = (done.length : Int) + 1 := wr (by omega)
    have hat := stP_at done s rest
    rw [← e] at hat
    have hn := loopSt0 n t u a b rest (done ++ [s]) (out ++ [(s.1,parT s.2 u)]) (by rw [e]; simp) ha (by simp at ho ⊢; omega)
    have hf : out ++ fstS u (s :: rest) = out ++ [(s.1,parT s.2 u)] ++ fstS u rest := by simp [fstS]
    rw [hf]
    refine Eq.trans ?_ hn
    have ho2 : out.length ≤ 4294967295 := by simp at ho; omega
    have hpa := plains_stPs a
    rw [stPs_app,show stPs [(s.1,parT s.2 u)] = [stP (s.1,parT s.2 u)] from rfl,stP_par]
    obtain ⟨z1,z2,z3,N3,hZ,hZ2,hN,hz3⟩ := stP_form s
    obtain ⟨x1,x2,x3,L3,hX,hL,hx3⟩ := encT_formF t
    obtain ⟨y1,y2,y3,M3,hY,hM,hy3⟩ := encT_formF u
    rw [hZ] at hat
    rw [hZ2,hX,hY,loopI_eq]
    rcases hx3 with rfl | rfl <;> rcases hy3 with rfl | rfl <;> rcases hz3 with rfl | rfl <;> simp [r62l0,b62l0,hlt,hlt2,hat,hw,ho2,hpa,hL,hM,hN,fal,fals]
theorem loopSt1 (n : Int) (t u : Tm) (a b : List Stp) : ∀ (rest done out : List Stp),b = done ++ rest → b.length ≤ 1000000 → out.length + rest.length ≤ 4000000000 →
    loopI G [2,5,6,7,9] [2,14,28,36,43,51,57,83,109,157,206,215] c62l1 ⟨[(2,.ref (0,2) 1 0 0),(5,.own (0,14) out.length),(6,.own (0,51) a.length),(7,.own (0,57) b.length),(9,.i done.length)],
      [(2,.box [.i 3,.i n,.sl false 3 [encT false t,encT false u]]),(14,.row 4 (stPs out)),(51,.row 4 (stPs a)),(57,.row 4 (stPs b))],[]⟩ =
      some (.exit 3,⟨[(2,.ref (0,2) 1 0 0),(5,.own (0,14) (out ++ sndS t rest).length),(6,.own (0,51) a.length),(7,.own (0,57) b.length),(9,.i b.length),(87,.b false)],
        [(2,.box [.i 3,.i n,.sl false 3 [encT false t,encT false u]]),(14,.row 4 (stPs (out ++ sndS t rest))),(51,.row 4 (stPs a)),(57,.row 4 (stPs b))],[]⟩)
  | [],done,out,e,ha,ho => by
    have e : b = done := by simpa using e
    subst e
    have hf : out ++ sndS t [] = out := by simp [sndS]
    rw [hf]
    obtain ⟨x1,x2,x3,L3,hX,hL,hx3⟩ := encT_formF t
    obtain ⟨y1,y2,y3,M3,hY,hM,hy3⟩ := encT_formF u
    rw [hX,hY,loopI_eq]
    rcases hx3 with rfl | rfl <;> rcases hy3 with rfl | rfl <;> simp [r62l1,b62l1,hL,hM,fal,fals]
  | s :: rest,done,out,e,ha,ho => by
    have hpl : b.length = done.length + (rest.length + 1) := by rw [e]; simp
    have hlt : (done.length : Int) < b.length := by omega
    have hlt2 : done.length < b.length := by omega
    have hw : IntKind.i64.wrap ((done.length : Int) + 1) = (done.length : Int) + 1 := wr (by omega)
    have hat := stP_at done s rest
    rw [← e] at hat
    have hn := loopSt1 n t u a b rest (done ++ [s]) (out ++ [(s.1,parT t s.2)]) (by rw [e]; simp) ha (by simp at ho ⊢; omega)
    have hf : out ++ sndS t (s :: rest) = out ++ [(s.1,parT t s.2)] ++ sndS t rest := by simp [sndS]
    rw [hf]
    refine Eq.trans ?_ hn
    have ho2 : out.length ≤ 4294967295 := by simp at ho; omega
    have hpa := plains_stPs b
    rw [stPs_app,show stPs [(s.1,parT t s.2)] = [stP (s.1,parT t s.2)] from rfl,stP_par]
    obtain ⟨z1,z2,z3,N3,hZ,hZ2,hN,hz3⟩ := stP_form s
    obtain ⟨x1,x2,x3,L3,hX,hL,hx3⟩ := encT_formF t
    obtain ⟨y1,y2,y3,M3,hY,hM,hy3⟩ := encT_formF u
    rw [hZ] at hat
    rw [hZ2,hX,hY,loopI_eq]
    rcases hx3 with rfl | rfl <;> rcases hy3 with rfl | rfl <;> rcases hz3 with rfl | rfl <;> simp [r62l1,b62l1,hlt,hlt2,hat,hw,ho2,hpa,hL,hM,hN,fal,fals]
theorem loopSt2 (s : Stp) (hs1 : -4 ≤ s.1 ∧ s.1 ≤ 4) (a1 a2 a b : List Stp) (ha : a = a1 ++ s :: a2) (hal : a.length ≤ 1000000) (hb : ∀ r ∈ b,-4 ≤ r.1 ∧ r.1 ≤ 4) : ∀ (rest done out : List Stp),b = done ++ rest → b.length ≤ 1000000 → out.length + rest.length ≤ 4000000000 →
    loopI G [5,6,7,10,11] [14,28,36,43,51,57,83,109,157,206,215] c62l2 ⟨[(5,.own (0,14) out.length),(6,.own (0,51) a.length),(7,.own (0,57) b.length),(10,.i a1.length),(11,.i done.length)],
      [(14,.row 4 (stPs out)),(51,.row 4 (stPs a)),(57,.row 4 (stPs b))],[]⟩ =
      some (.exit 7,⟨[(5,.own (0,14) (out ++ syncL s rest).length),(6,.own (0,51) a.length),(7,.own (0,57) b.length),(10,.i a1.length),(11,.i b.length),(119,.b false)],
        [(14,.row 4 (stPs (out ++ syncL s rest))),(51,.row 4 (stPs a)),(57,.row 4 (stPs b))],[]⟩)
  | [],done,out,e,hbl,ho => by
    have e : b = done := by simpa using e
    subst e
    have hf : out ++ syncL s [] = out := by simp [syncL]
    rw [hf,loopI_eq]
    simp [r62l2,b62l2]
  | r :: rest,done,out,e,hbl,ho => by
    have hpl : b.length = done.length + (rest.length + 1) := by rw [e]; simp
    have hpa : a.length = a1.length + (a2.length + 1) := by rw [ha]; simp
    have hlt : (done.length : Int) < b.length := by omega
    have hlt2 : done.length < b.length := by omega
    have hla : a1.length < a.length := by omega
    have hw : IntKind.i64.wrap ((done.length : Int) + 1) = (done.length : Int) + 1 := wr (by omega)
    have hat := stP_at done r rest
    rw [← e] at hat
    have hat1 := stP_at a1 s a2
    rw [← ha] at hat1
    have hr1 := hb r (by rw [e]; simp)
    have hw2 : IntKind.i64.wrap (-r.1) = -r.1 := wr (by omega)
    have hw3 : IntKind.i64.wrap (0 - r.1) = -r.1 := by rw [show 0 - r.1 = -r.1 by omega]; exact hw2
    have hp1 := plains_stPs a
    have hp2 := plains_stPs b
    obtain ⟨z1,z2,z3,N3,hZ,hZ2,hN,hz3⟩ := stP_form s
    obtain ⟨x1,x2,x3,L3,hX,hX2,hL,hx3⟩ := stP_form r
    rw [hZ] at hat1
    rw [hX] at hat
    by_cases h0 : s.1 ≠ 0 ∧ s.1 = -r.1
    · have hn := loopSt2 s hs1 a1 a2 a b ha hal hb rest (done ++ [r]) (out ++ [(0,parT s.2 r.2)]) (by rw [e]; simp) hbl (by simp at ho ⊢; omega)
      have hf : out ++ syncL s (r :: rest) = out ++ [(0,parT s.2 r.2)] ++ syncL s rest := by simp only [syncL,List.flatMap_cons,if_pos h0,List.append_assoc]
      rw [hf]
      refine Eq.trans ?_ hn
      have ho2 : out.length ≤ 4294967295 := by simp at ho; omega
      rw [stPs_app,show stPs [((0 : Int),parT s.2 r.2)] = [stP (0,parT s.2 r.2)] from rfl,stP_par]
      rw [hZ2,hX2,loopI_eq]
      have h1 := h0.1
      have h2 := h0.2
      generalize s.1 = q at *
      generalize r.1 = p at *
      subst h2
      rcases hx3 with rfl | rfl <;> rcases hz3 with rfl | rfl <;> simp [r62l2,b62l2,hlt,hlt2,hla,hat,hat1,hw,hw2,hw3,ho2,hp1,hp2,h1,hL,hN,fal,fals]
    · have hn := loopSt2 s hs1 a1 a2 a b ha hal hb rest (done ++ [r]) out (by rw [e]; simp) hbl (by simp at ho; omega)
      have hf : out ++ syncL s (r :: rest) = out ++ syncL s rest := by simp only [syncL,List.flatMap_cons,if_neg h0,List.nil_append]
      rw [hf]
      refine Eq.trans ?_ hn
      rw [loopI_eq]
      by_cases h1 : s.1 = 0
      · rw [h1] at hat1
        rcases hx3 with rfl | rfl <;> rcases hz3 with rfl | rfl <;> simp [r62l2,b62l2,hlt,hlt2,hla,hat,hat1,hw,hw2,hw3,hp1,hp2,hL,hN,fal,fals]
      · have h2 : ¬ s.1 = -r.1 := fun e => h0 ⟨h1,e⟩
        rcases hx3 with rfl | rfl <;> rcases hz3 with rfl | rfl <;> simp [r62l2,b62l2,hlt,hlt2,hla,hat,hat1,hw,hw2,hw3,hp1,hp2,h1,h2,hL,hN,fal,fals]
theorem loopSt3 (a b : List Stp) (ha : ∀ r ∈ a,-4 ≤ r.1 ∧ r.1 ≤ 4) (hb : ∀ r ∈ b,-4 ≤ r.1 ∧ r.1 ≤ 4) (hal : a.length ≤ 1000000) (hbl : b.length ≤ 1000000) : ∀ (rest done out : List Stp),a = done ++ rest → out.length + (rest.flatMap fun s => syncL s b).length ≤ 3000000000 →
    loopI G [5,6,7,10] [14,28,36,43,51,57,83,109,157,206,215] c62l3 ⟨[(5,.own (0,14) out.length),(6,.own (0,51) a.length),(7,.own (0,57) b.length),(10,.i done.length)],
      [(14,.row 4 (stPs out)),(51,.row 4 (stPs a)),(57,.row 4 (stPs b))],[]⟩ =
      some (.exit 5,⟨[(5,.own (0,14) (out ++ rest.flatMap fun s => syncL s b).length),(6,.own (0,51) a.length),(7,.own (0,57) b.length),(10,.i a.length),(113,.b false)],
        [(14,.row 4 (stPs (out ++ rest.flatMap fun s => syncL s b))),(51,.row 4 (stPs a)),(57,.row 4 (stPs b))],[]⟩)
  | [],done,out,e,ho => by
    have e : a = done := by simpa using e
    subst e
    have hf : (out ++ List.flatMap (fun s => syncL s b) []) = out := by simp
    rw [hf,loopI_eq]
    simp [r62l3,b62l3]
  | s :: rest,done,out,e,ho => by
    have hpl : a.length = done.length + (rest.length + 1) := by rw [e]; simp
    have hlt : (done.length : Int) < a.length := by omega
    have hw : IntKind.i64.wrap ((done.length : Int) + 1) = (done.length : Int) + 1 := wr (by omega)
    have hlen : (syncL s b).length ≤ b.length := by
      have h1 := (syncL_len s b).1
      have h2 : visL b ≤ b.length := List.length_filter_le _ _
      split at h1 <;> omega
    simp only [List.flatMap_cons,List.length_append] at ho
    have hi := loopSt2 s (ha s (by rw [e]; simp)) done rest a b e hal hb b [] out rfl hbl (by omega)
    simp only [List.length_nil,show ((0 : Nat) : Int) = 0 from rfl] at hi
    have hn := loopSt3 a b ha hb hal hbl rest (done ++ [s]) (out ++ syncL s b) (by rw [e]; simp) (by simp only [List.length_append]; omega)
    have hf : (out ++ List.flatMap (fun s => syncL s b) (s :: rest)) = (out ++ syncL s b) ++ List.flatMap (fun s => syncL s b) rest := by simp
    rw [hf]
    refine Eq.trans ?_ hn
    generalize syncL s b = X at *
    rw [loopI_eq]
    generalize hO : out ++ X = O at *
    simp [r62l3,b62l3,hlt,hi,hw]
theorem loopSt4 (n : Int) (hn : 0 ≤ n ∧ n ≤ 3) (t : Tm) (a : List Stp) (ha : ∀ r ∈ a,-4 ≤ r.1 ∧ r.1 ≤ 4) (hal : a.length ≤ 1000000) : ∀ (rest done out : List Stp),a = done ++ rest → out.length + rest.length ≤ 4000000000 →
    loopI G [2,5,12,13] [2,14,28,36,43,83,109,157,165,206,215] c62l4 ⟨[(2,.ref (0,2) 1 0 0),(5,.own (0,14) out.length),(12,.own (0,165) a.length),(13,.i done.length)],
      [(2,.box [.i 4,.i n,.sl false 3 [encT false t]]),(14,.row 4 (stPs out)),(165,.row 4 (stPs a))],[]⟩ =
      some (.exit 9,⟨[(2,.ref (0,2) 1 0 0),(5,.own (0,14) (out ++ hidT n rest).length),(12,.own (0,165) a.length),(13,.i a.length),(169,.b false)],
        [(2,.box [.i 4,.i n,.sl false 3 [encT false t]]),(14,.row 4 (stPs (out ++ hidT n rest))),(165,.row 4 (stPs a))],[]⟩)
  | [],done,out,e,ho => by
    have e : a = done := by simpa using e
    subst e
    have hf : out ++ hidT n [] = out := by simp [hidT]
    rw [hf]
    obtain ⟨x1,x2,x3,L3,hX,hL,hx3⟩ := encT_formF t
    rw [hX,loopI_eq]
    rcases hx3 with rfl | rfl <;> simp [r62l4,b62l4,hL,fal,fals]
  | s :: rest,done,out,e,ho => by
    have hpl : a.length = done.length + (rest.length + 1) := by rw [e]; simp
    have hlt : (done.length : Int) < a.length := by omega
    have hlt2 : done.length < a.length := by omega
    have hw : IntKind.i64.wrap ((done.length : Int) + 1) = (done.length : Int) + 1 := wr (by omega)
    have hat := stP_at done s rest
    rw [← e] at hat
    have hs1 := ha s (by rw [e]; simp)
    have hnm := eqName1 s.1 (by omega)
    rw [show (if s.1 < -s.1 then -s.1 else s.1) - 1 = name1 s.1 from rfl] at hnm
    have hpa := plains_stPs a
    obtain ⟨z1,z2,z3,N3,hZ,hZ2,hN,hz3⟩ := stP_form s
    obtain ⟨x1,x2,x3,L3,hX,hL,hx3⟩ := encT_formF t
    rw [hZ] at hat
    by_cases h0 : s.1 = 0 ∨ name1 s.1 ≠ n
    · have hn := loopSt4 n hn t a ha hal rest (done ++ [s]) (out ++ [(s.1,hideT n s.2)]) (by rw [e]; simp) (by simp at ho ⊢; omega)
      have hf : out ++ hidT n (s :: rest) = out ++ [(s.1,hideT n s.2)] ++ hidT n rest := by simp only [hidT,List.flatMap_cons,if_pos h0,List.append_assoc]
      rw [hf]
      refine Eq.trans ?_ hn
      have ho2 : out.length ≤ 4294967295 := by simp at ho; omega
      rw [stPs_app,show stPs [(s.1,hideT n s.2)] = [stP (s.1,hideT n s.2)] from rfl,stP_hide]
      rw [hZ2,hX,loopI_eq]
      by_cases h1 : s.1 = 0
      · rw [h1] at hat ⊢
        rcases hx3 with rfl | rfl <;> rcases hz3 with rfl | rfl <;> simp [r62l4,b62l4,hlt,hlt2,hat,hw,ho2,hpa,hL,hN,fal,fals]
      · have h2 : ¬ name1 s.1 = n := h0.resolve_left h1
        generalize name1 s.1 = q at *
        rcases hx3 with rfl | rfl <;> rcases hz3 with rfl | rfl <;> simp [r62l4,b62l4,hlt,hlt2,hat,hw,ho2,hpa,hnm,h1,h2,hL,hN,fal,fals]
    · have hn := loopSt4 n hn t a ha hal rest (done ++ [s]) out (by rw [e]; simp) (by simp at ho; omega)
      have hf : out ++ hidT n (s :: rest) = out ++ hidT n rest := by simp only [hidT,List.flatMap_cons,if_neg h0,List.nil_append]
      rw [hf]
      refine Eq.trans ?_ hn
      simp only [not_or,ne_eq,Classical.not_not] at h0
      obtain ⟨h1,h2⟩ := h0
      rw [h2] at hnm
      rw [hX,loopI_eq]
      rcases hx3 with rfl | rfl <;> rcases hz3 with rfl | rfl <;> simp [r62l4,b62l4,hlt,hlt2,hat,hw,hpa,hnm,h1,hL,hN,fal,fals]
end Go.Am
end
section
set_option maxRecDepth 10000
set_option maxHeartbeats 16000000
set_option linter.unusedSimpArgs false
set_option linter.unusedVariables false
namespace Go.Am
open Go.Proofs Go.Sort Go.Shelf
abbrev StepsAt (ds : List Tm) (t : Tm) (l : List Stp) : Prop := callI G 62 [encT false t,encQ false ds] [] = some (.sl true 4 (stPs l),[])
theorem eqSteps0n (ds : List Tm) : StepsAt ds (.mk 0 0 []) [] := by
  unfold StepsAt
  rw [callI_eq]
  rcases encQ_form false ds with ⟨e,e0⟩ | ⟨F,e,e1,_⟩ <;> rw [e] <;> simp [body1_eq _ _ (gp 62) g62,c62,a62,encT,encQ,stPs]
theorem eqSteps0a (ds : List Tm) (n : Int) (p : Tm) : StepsAt ds (.mk 1 n [p]) [(n,p)] := by
  unfold StepsAt
  have h : stPs [(n,p)] = [stP (n,p)] := rfl
  obtain ⟨z1,z2,z3,N3,hZ,hZ2,hN,hz3⟩ := stP_form (n,p)
  simp only at hZ hZ2
  rw [callI_eq,h,hZ]
  simp only [encT,encQ,encTs,hZ2]
  rcases encQ_form false ds with ⟨e,e0⟩ | ⟨F,e,e1,_⟩ <;> rw [e] <;> rcases hz3 with rfl | rfl <;> simp [body1_eq _ _ (gp 62) g62,c62,a62,hN]
theorem eqSteps0s (ds : List Tm) (p q : Tm) (a b : List Stp) (ha : StepsAt ds p a) (hb : StepsAt ds q b) (hl : a.length + b.length ≤ 4000000000) : StepsAt ds (.mk 2 0 [p,q]) (a ++ b) := by
  unfold StepsAt at *
  obtain ⟨x1,x2,x3,L3,hX,hL,hx3⟩ := encT_formF p
  obtain ⟨y1,y2,y3,M3,hY,hM,hy3⟩ := encT_formF q
  rw [hX] at ha
  rw [hY] at hb
  have h1 : a.length + b.length ≤ 4294967296 := by omega
  rw [callI_eq,stPs_app]
  simp only [encT,encQ,encTs,hX,hY]
  rcases encQ_form false ds with ⟨e,e0⟩ | ⟨F,e,e1,_⟩ <;> rw [e] at ha hb ⊢ <;> rcases hx3 with rfl | rfl <;> rcases hy3 with rfl | rfl <;> simp [body1_eq _ _ (gp 62) g62,c62,a62,ha,hb,h1]
theorem eqSteps0p (ds : List Tm) (p q : Tm) (a b : List Stp) (ha : StepsAt ds p a) (hb : StepsAt ds q b) (hl : (parS p q a b).length ≤ 2000000000) (hal : a.length ≤ 1000000) (hbl : b.length ≤ 1000000)
    (ha4 : ∀ r ∈ a,-4 ≤ r.1 ∧ r.1 ≤ 4) (hb4 : ∀ r ∈ b,-4 ≤ r.1 ∧ r.1 ≤ 4) : StepsAt ds (.mk 3 0 [p,q]) (parS p q a b) := by
  unfold StepsAt at *
  have hpar : parS p q a b = (fstS q a ++ sndS p b) ++ a.flatMap fun s => syncL s b := by simp [parS,fstS,sndS,syncL]
  rw [hpar] at hl ⊢
  have hf : (fstS q a).length = a.length := by simp [fstS]
  have hs : (sndS p b).length = b.length := by simp [sndS]
  simp only [List.length_append] at hl
  have l0 := loopSt0 0 p q a b a [] [] rfl hal (by simp only [List.length_nil]; omega)
  have l1 := loopSt1 0 p q a b b [] (fstS q a) rfl hbl (by omega)
  have l3 := loopSt3 a b ha4 hb4 hal hbl a [] (fstS q a ++ sndS p b) rfl (by simp only [List.length_append]; omega)
  simp only [List.nil_append,List.length_nil,show ((0 : Nat) : Int) = 0 from rfl,show stPs [] = [] from rfl] at l0 l1 l3
  obtain ⟨x1,x2,x3,L3,hX,hL,hx3⟩ := encT_formF p
  obtain ⟨y1,y2,y3,M3,hY,hM,hy3⟩ := encT_formF q
  rw [hX] at ha l0 l1
  rw [hY] at hb l0 l1
  rw [callI_eq]
  simp only [encT,encQ,encTs,hX,hY]
  generalize hO : (fstS q a ++ sndS p b) = O at *
  generalize hQ : (O ++ a.flatMap fun s => syncL s b) = Q at *
  generalize hF : fstS q a = F1 at *
  rcases encQ_form false ds with ⟨e,e0⟩ | ⟨F,e,e1,_⟩ <;> rw [e] at ha hb ⊢ <;> rcases hx3 with rfl | rfl <;> rcases hy3 with rfl | rfl <;> simp [body1_eq _ _ (gp 62) g62,c62,a62,ha,hb,l0,l1,l3]
theorem eqSteps0h (ds : List Tm) (n : Int) (hn : 0 ≤ n ∧ n ≤ 3) (p : Tm) (a : List Stp) (ha : StepsAt ds p a) (hal : a.length ≤ 1000000)
    (ha4 : ∀ r ∈ a,-4 ≤ r.1 ∧ r.1 ≤ 4) : StepsAt ds (.mk 4 n [p]) (hidT n a) := by
  unfold StepsAt at *
  have l4 := loopSt4 n hn p a ha4 hal a [] [] rfl (by simp only [List.length_nil]; omega)
  simp only [List.nil_append,List.length_nil,show ((0 : Nat) : Int) = 0 from rfl,show stPs [] = [] from rfl] at l4
  obtain ⟨x1,x2,x3,L3,hX,hL,hx3⟩ := encT_formF p
  rw [hX] at ha l4
  rw [callI_eq]
  simp only [encT,encQ,encTs,hX]
  generalize hidT n a = Q at *
  rcases encQ_form false ds with ⟨e,e0⟩ | ⟨F,e,e1,_⟩ <;> rw [e] at ha ⊢ <;> rcases hx3 with rfl | rfl <;> simp [body1_eq _ _ (gp 62) g62,c62,a62,ha,l4]
theorem eqSteps0c (ds : List Tm) (n : Int) (hn : 0 ≤ n ∧ n ≤ 2) (d : Tm) (hd : ds[n.toNat]? = some d) (a : List Stp) (ha : StepsAt ds d a) : StepsAt ds (.mk 5 n []) a := by
  unfold StepsAt at *
  have hlt : n.toNat < ds.length := by
    rcases Nat.lt_or_ge n.toNat ds.length with h | h
    · exact h
    · rw [List.getElem?_eq_none h] at hd; cases hd
  have hlt2 : n < ds.length := by omega
  have hat : nth (encTs false ds) n.toNat = some (encT false d) := by simp [nth,encTs_map,hd]
  obtain ⟨x1,x2,x3,L3,hX,hL,hx3⟩ := encT_formF d
  have hne : ds ≠ [] := by intro e; rw [e] at hlt; simp at hlt
  rw [hX] at ha hat
  rw [encQ_c false hne] at ha ⊢
  have hl3 : (encTs false ds).length = ds.length := encTs_len false ds
  generalize encTs false ds = F at *
  rw [callI_eq]
  simp only [encT,encQ]
  rcases hx3 with rfl | rfl <;> simp [body1_eq _ _ (gp 62) g62,c62,a62,ha,hat,hl3,hlt,hlt2,hn.1]
theorem stT_acts {m : Int} {z : Nat} {l : List Stp} (h : ∀ s ∈ l,GoodS m z s) : ∀ s ∈ l,-4 ≤ s.1 ∧ s.1 ≤ 4 := fun s hs => (h s hs).1
theorem eqStepsK (ds : List Tm) (hd : DsOk ds) (C : Tm → Prop) (h1 : ∀ o n a,C (.mk o n [a]) → o ≠ 1 → C a) (h2 : ∀ o n a b,C (.mk o n [a,b]) → C a ∧ C b)
    (h5 : ∀ n,C (.mk 5 n []) → 0 ≤ n → n < ds.length → ∃ d,ds[n.toNat]? = some d ∧ StepsAt ds d (kD ds n)) : ∀ t : Tm,WfT ds.length t → szT t ≤ 24 → C t → StepsAt ds t (stD ds t)
  | .mk o n [],hw,hz,hC => by
    unfold WfT at hw
    have hl := hw.2.1
    have hh := headOk_n hw.1
    rcases eqHead o n hw.1 with ⟨rfl,rfl⟩ | ⟨rfl,hk⟩ | ⟨rfl,rfl⟩ | ⟨rfl,rfl⟩ | ⟨rfl,hk⟩ | ⟨rfl,hk⟩
    · have : stD ds (.mk 0 0 []) = [] := by simp [stD,stT]
      rw [this]
      exact eqSteps0n ds
    · simp [wantN] at hl
    · simp [wantN] at hl
    · simp [wantN] at hl
    · simp [wantN] at hl
    · have e : stD ds (.mk 5 n []) = kD ds n := by simp [stD,stT]
      rw [e]
      obtain ⟨d,d1,d2⟩ := h5 n hC hk.1 (hw.2.2.1 rfl)
      exact eqSteps0c ds n hk d d1 _ d2
  | .mk o n [a],hw,hz,hC => by
    have hw0 := hw
    unfold WfT at hw
    have hl := hw.2.1
    have hwa : WfT ds.length a := by have := hw.2.2.2; unfold WfTs at this; exact this.1
    have hsz : szT (.mk o n [a]) = szT a + 1 := by simp [szT,szTs]
    rcases eqHead o n hw.1 with ⟨rfl,rfl⟩ | ⟨rfl,hk⟩ | ⟨rfl,rfl⟩ | ⟨rfl,rfl⟩ | ⟨rfl,hk⟩ | ⟨rfl,hk⟩
    · simp [wantN] at hl
    · have : stD ds (.mk 1 n [a]) = [(n,a)] := by simp [stD,stT]
      rw [this]
      exact eqSteps0a ds n a
    · simp [wantN] at hl
    · simp [wantN] at hl
    · have ih := eqStepsK ds hd C h1 h2 h5 a hwa (by omega) (h1 _ _ _ hC (by decide))
      have : stD ds (.mk 4 n [a]) = hidT n (stD ds a) := by simp [stD,stT]
      rw [this]
      have hb := stD_len hd a (by omega)
      exact eqSteps0h ds n hk a _ ih (by omega) (stT_acts (stD_good hd a hwa (by omega)))
    · simp [wantN] at hl
  | .mk o n [a,b],hw,hz,hC => by
    have hw0 := hw
    unfold WfT at hw
    have hl := hw.2.1
    have hwb := hw.2.2.2
    unfold WfTs WfTs at hwb
    have hsz : szT (.mk o n [a,b]) = szT a + szT b + 1 := by simp [szT,szTs]
    have iha := eqStepsK ds hd C h1 h2 h5 a hwb.1 (by omega) (h2 _ _ _ _ hC).1
    have ihb := eqStepsK ds hd C h1 h2 h5 b hwb.2.1 (by omega) (h2 _ _ _ _ hC).2
    have hba := stD_len hd a (by omega)
    have hbb := stD_len hd b (by omega)
    rcases eqHead o n hw.1 with ⟨rfl,rfl⟩ | ⟨rfl,hk⟩ | ⟨rfl,rfl⟩ | ⟨rfl,rfl⟩ | ⟨rfl,hk⟩ | ⟨rfl,hk⟩
    · simp [wantN] at hl
    · simp [wantN] at hl
    · have : stD ds (.mk 2 0 [a,b]) = stD ds a ++ stD ds b := by simp [stD,stT]
      rw [this]
      exact eqSteps0s ds a b _ _ iha ihb (by omega)
    · have e : stD ds (.mk 3 0 [a,b]) = parS a b (stD ds a) (stD ds b) := by simp [stD,stT]
      have hlen := stD_len hd _ hz
      rw [e] at hlen ⊢
      exact eqSteps0p ds a b _ _ iha ihb (by omega) (by omega) (by omega) (stT_acts (stD_good hd a hwb.1 (by omega))) (stT_acts (stD_good hd b hwb.2.1 (by omega)))
    · simp [wantN] at hl
    · simp [wantN] at hl
  | .mk o n (_ :: _ :: _ :: _),hw,hz,hC => by
    exfalso
    unfold WfT at hw
    have hl := hw.2.1
    unfold wantN at hl
    simp only [List.length_cons] at hl
    (repeat' split at hl) <;> omega
theorem eqSteps (ds : List Tm) (hd : DsOk ds) (t : Tm) (hw : WfT ds.length t) (hz : szT t ≤ 24) : StepsAt ds t (stD ds t) := by
  refine eqStepsK ds hd (fun _ => True) (fun _ _ _ _ _ => trivial) (fun _ _ _ _ _ => ⟨trivial,trivial⟩) (fun n _ h0 hlt => ?_) t hw hz trivial
  have hlt2 : n.toNat < ds.length := by omega
  refine ⟨ds[n.toNat],List.getElem?_eq_getElem hlt2, ?_⟩
  obtain ⟨a,b,c⟩ := hd.2 _ (List.getElem_mem hlt2)
  have e : kD ds n = stD ds ds[n.toNat] := by
    unfold kD stD
    rw [List.getElem?_eq_getElem hlt2]
    simp only [if_pos h0]
    exact stT_gd _ _ _ c
  rw [e]
  refine eqStepsK ds hd gdT (fun o n a h ho => ?_) (fun o n a b h => ?_) (fun n h _ _ => ?_) _ a b c
  · unfold gdT at h; exact h.resolve_left ho
  · unfold gdT at h; exact h
  · unfold gdT at h; exact absurd rfl h
end Go.Am
end
section
set_option maxRecDepth 10000
set_option maxHeartbeats 1000000
set_option linter.unusedSimpArgs false
set_option linter.unusedVariables false
namespace Go.Am
open Go.Proofs Go.Sort Go.Shelf
theorem atG_app (x y : Int) : ∀ (row : List Int) (i : Nat),x ∉ row → atG i (row ++ [x]) y = if y = x then ((i + row.length : Nat) : Int) else atG i row y
  | [],i,h => by
    simp only [List.nil_append,atG]
    by_cases c : x = y
    · simp [c]
    · have : ¬ y = x := fun e => c e.symm
      simp [c,this]
  | z :: row,i,h => by
    have hz : x ≠ z := fun e => h (by rw [e]; exact List.mem_cons_self)
    have ih := atG_app x y row (i + 1) (fun e => h (List.mem_cons_of_mem _ e))
    simp only [List.cons_append,atG]
    by_cases c : z = y
    · have : ¬ y = x := fun e => hz (by rw [← e,c])
      simp [c,this]
    · simp only [c,if_false,ih,List.length_cons]
      by_cases d : y = x
      · simp [d]; omega
      · simp [d]
def atS (n : Nat) (row : List Int) : List PV := (List.range n).map fun k : Nat => PV.i (atOf row k)
@[simp] theorem atS_len (n : Nat) (row : List Int) : (atS n row).length = n := by simp [atS]
theorem atS_nth {n : Nat} {row : List Int} {x : Int} (h : 0 ≤ x ∧ x < n) : nth (atS n row) x.toNat = some (.i (atOf row x)) := by
  unfold nth atS
  have h1 : x.toNat < n := by omega
  have h2 : ((x.toNat : Nat) : Int) = x := by omega
  simp [h1,h2]
theorem atS_set {n : Nat} {row : List Int} {x : Int} (h : 0 ≤ x ∧ x < n) (hx : x ∉ row) : (atS n row).set x.toNat (.i row.length) = atS n (row ++ [x]) := by
  apply List.ext_getElem (by simp)
  intro i h1 h2
  simp only [atS_len,List.length_set] at h1 h2
  simp only [atS,List.getElem_set,List.getElem_map,List.getElem_range,atOf,atG_app x _ row 0 hx,Nat.zero_add]
  by_cases c : x.toNat = i
  · have : (i : Int) = x := by omega
    simp [c,this]
  · have : ¬ (i : Int) = x := by omega
    simp [c,this]
theorem atS_n (n : Nat) : List.replicate n (PV.i 0) = atS n [] := by
  apply List.ext_getElem (by simp)
  intro i h1 h2
  simp [atS,atOf,atG]
theorem loopSp0 (E : List PV) (n N : Nat) (hN : N ≤ 4294967296) : ∀ (rest done : List Int),InN n (done ++ rest) → (done ++ rest).length = N →
    loopI G [2,4,5,6,7] [2,4,15,19,81] c36l0 ⟨[(2,.ref (0,2) 1 0 0),(4,.ref (0,4) 1 0 0),(5,.own (0,15) N),(6,.own (0,19) n),(7,.i done.length)],[(2,.box [PV.sl false 1 E]),(4,.box [.nils]),(15,.row 1 ((done ++ rest).map PV.i)),(19,.row 1 (atS n done))],[]⟩ =
      some (.exit 0,⟨[(2,.ref (0,2) 1 0 0),(4,.ref (0,4) 1 0 0),(5,.own (0,15) N),(6,.own (0,19) n),(7,.i N),(23,.b false)],[(2,.box [PV.sl false 1 E]),(4,.box [.nils]),(15,.row 1 ((done ++ rest).map PV.i)),(19,.row 1 (atS n (done ++ rest)))],[]⟩)
  | [],done,hd,h => by
    simp only [List.append_nil] at h ⊢
    rw [h,loopI_eq]
    simp [r36l0,b36l0,h]
  | x :: rest,done,hd,h => by
    have hlt : (done.length : Int) < N := by simp at h; omega
    have hlt2 : done.length < N := by omega
    have hw : IntKind.i64.wrap ((done.length : Int) + 1) = (done.length : Int) + 1 := wr (by omega)
    have hat : nth ((done ++ x :: rest).map PV.i) done.length = some (.i x) := by rw [List.map_append,List.map_cons]; exact at_D _ _ _ _ (by simp)
    have hx : x ∉ done := fun hm => (List.nodup_append.1 hd.1).2.2 x hm x List.mem_cons_self rfl
    have hxr := hd.2 x (by simp)
    have hsn := atS_nth (row := done) hxr
    have hst := atS_set hxr hx
    have hn := loopSp0 E n N hN rest (done ++ [x]) (by simpa using hd) (by simpa using h)
    have e1 : done ++ [x] ++ rest = done ++ x :: rest := by simp
    rw [e1] at hn
    have hl2 : ((done ++ x :: rest).map PV.i).length = N := by simpa using h
    generalize hR : (done ++ x :: rest).map PV.i = R at hat hn hl2 ⊢
    rw [loopI_eq]
    simp [r36l0,b36l0,hlt,hlt2,hl2,hw,hat,hsn,hst,hxr.1,hxr.2,unAgg]
    simpa using hn
theorem loopSp1 (E : List PV) (g : Gr) (hE : EncR false E g) (Y : PV) (YL : Objs) (xs : List PV) (hY : OwnS 81 1 Y YL xs) (row : List Int) (j : Nat) (hj : j < row.length) (hjb : j ≤ 1048576) (x : Int) (hxj : nth (row.map PV.i) j = some (.i x)) (hx : 0 ≤ x ∧ x < g.length) (L : List Mv) (hL : g.getD x.toNat [] = L) (hLt : ∀ m ∈ L,0 ≤ m.2 ∧ m.2 < g.length) (hLl : L.length ≤ 1048576) : ∀ (rest done : List Mv),L = done ++ rest →
    loopI G [2,4,5,6,8,9,10,11] [2,4,8,15,19,40,75,81] c36l1 ⟨[(2,.ref (0,2) 1 0 0),(4,.ref (0,4) 1 0 0),(5,.own (0,15) row.length),(6,.own (0,19) g.length),(8,.ref (0,8) 1 0 0),(9,.i j),(10,owP 75 (reT row done)),(11,.i done.length)],(2,.box [PV.sl false 1 E]) :: (4,.box [.nils]) :: (8,.box [Y]) :: (15,.row 1 (row.map PV.i)) :: (19,.row 1 (atS g.length row)) :: (owL 75 (reT row done) ++ YL),[]⟩ =
      some (.exit 4,⟨[(2,.ref (0,2) 1 0 0),(4,.ref (0,4) 1 0 0),(5,.own (0,15) row.length),(6,.own (0,19) g.length),(8,.ref (0,8) 1 0 0),(9,.i j),(10,owP 75 (reT row L)),(11,.i L.length),(51,.b false)],(2,.box [PV.sl false 1 E]) :: (4,.box [.nils]) :: (8,.box [Y]) :: (15,.row 1 (row.map PV.i)) :: (19,.row 1 (atS g.length row)) :: (owL 75 (reT row L) ++ YL),[]⟩)
  | [],done,hd => by
    rw [List.append_nil] at hd
    subst hd
    have hEl := hE.1
    have hxn : x.toNat < g.length := by omega
    obtain ⟨nl,hat⟩ := hE.2 x.toNat hxn
    rw [hL] at hat
    have hji : (j : Int) < row.length := by omega
    have hrl : (row.map PV.i).length = row.length := by simp
    have hx1 := hx.1
    have hx2 := hx.2
    clear hE
    generalize hR : row.map PV.i = R at hxj hrl ⊢
    rw [loopI_eq]
    rcases encL_two nl false L with ⟨e,e2⟩ | e
    · rw [e] at hat
      subst e2
      rcases hY with ⟨rfl,rfl,rfl⟩ | ⟨hxs,rfl,rfl⟩
      · simp [r36l1,b36l1,hEl,hj,hji,hrl,hxj,hx1,hx2,hat,reT]
      · simp [r36l1,b36l1,hEl,hj,hji,hrl,hxj,hx1,hx2,hat,reT]
    · rw [e] at hat
      by_cases hd : L = []
      · rw [hd] at hat ⊢
        simp at hat
        rcases hY with ⟨rfl,rfl,rfl⟩ | ⟨hxs,rfl,rfl⟩
        · simp [r36l1,b36l1,hEl,hj,hji,hrl,hxj,hx1,hx2,hat,reT]
        · simp [r36l1,b36l1,hEl,hj,hji,hrl,hxj,hx1,hx2,hat,reT]
      · have hne : reT row L ≠ [] := by simp [reT,hd]
        rw [owP_ne hne,owL_ne hne]
        rcases hY with ⟨rfl,rfl,rfl⟩ | ⟨hxs,rfl,rfl⟩
        · simp [r36l1,b36l1,hEl,hj,hji,hrl,hxj,hx1,hx2,hat]
        · simp [r36l1,b36l1,hEl,hj,hji,hrl,hxj,hx1,hx2,hat]
  | m :: rest,done,hd => by
    have hEl := hE.1
    have hxn : x.toNat < g.length := by omega
    obtain ⟨nl,hat⟩ := hE.2 x.toNat hxn
    rw [hL] at hat
    have hji : (j : Int) < row.length := by omega
    have hm := hLt m (by rw [hd]; simp)
    have hen : encL nl false L = .sl false 2 (L.map mvP) := encL_ne (by rw [hd]; simp)
    rw [hen] at hat
    have hLl2 : L.length = done.length + (rest.length + 1) := by rw [hd]; simp
    have hlt : (done.length : Int) < L.length := by omega
    have hlt2 : done.length < L.length := by omega
    have hw : IntKind.i64.wrap ((done.length : Int) + 1) = (done.length : Int) + 1 := wr (by omega)
    have hdl : done.length ≤ 4294967295 := by omega
    have hat2 : nth (L.map mvP) done.length = some (mvP m) := by rw [hd]; exact mv_at done m rest
    have hsn := atS_nth (row := row) hm
    have hn := loopSp1 E g hE Y YL xs hY row j hj hjb x hxj hx L hL hLt hLl rest (done ++ [m]) (by simpa using hd)
    have hrl : (row.map PV.i).length = row.length := by simp
    have hx1 := hx.1
    have hx2 := hx.2
    have hm1 := hm.1
    have hm2 := hm.2
    have hml : (L.map mvP).length = L.length := by simp
    clear hE
    generalize hM : L.map mvP = M at hat hat2 hml
    generalize hR : row.map PV.i = R at hxj hrl hn ⊢
    simp only [mvP] at hat2
    rw [loopI_eq]
    rcases hY with ⟨rfl,rfl,rfl⟩ | ⟨hxs,rfl,rfl⟩
    · by_cases hdn : done = []
      · subst hdn
        simp at hat2 hn hlt
        simp [r36l1,b36l1,hEl,hj,hji,hrl,hxj,hx1,hx2,hat,hat2,hml,hlt,hlt2,mvP,unAgg,hw,hdl,wr1,hsn,hm1,hm2,reT]
        simpa [reT,mvP,Int.add_assoc] using hn
      · have hne : reT row done ≠ [] := by simp [reT,hdn]
        rw [owP_ne hne,owL_ne hne]
        simp [r36l1,b36l1,hEl,hj,hji,hrl,hxj,hx1,hx2,hat,hat2,hml,hlt,hlt2,mvP,unAgg,hw,hdl,hsn,hm1,hm2]
        simpa [reT,mvP,Int.add_assoc] using hn
    · by_cases hdn : done = []
      · subst hdn
        simp at hat2 hn hlt
        simp [r36l1,b36l1,hEl,hj,hji,hrl,hxj,hx1,hx2,hat,hat2,hml,hlt,hlt2,mvP,unAgg,hw,hdl,wr1,hsn,hm1,hm2,reT]
        simpa [reT,mvP,Int.add_assoc] using hn
      · have hne : reT row done ≠ [] := by simp [reT,hdn]
        rw [owP_ne hne,owL_ne hne]
        simp [r36l1,b36l1,hEl,hj,hji,hrl,hxj,hx1,hx2,hat,hat2,hml,hlt,hlt2,mvP,unAgg,hw,hdl,hsn,hm1,hm2]
        simpa [reT,mvP,Int.add_assoc] using hn
end Go.Am
end
section
set_option maxRecDepth 10000
set_option maxHeartbeats 1000000
set_option linter.unusedSimpArgs false
set_option linter.unusedVariables false
namespace Go.Am
open Go.Proofs Go.Sort Go.Shelf
theorem loopSp2 (E : List PV) (g : Gr) (hE : EncR false E g) (hg : OkTo g) (hs : SmallG g) (row : List Int) (hrow : InN g.length row) : ∀ (rest done : List Int),row = done ++ rest → ∀ Y YL,OwnS 81 1 Y YL (encGs true true (done.map (ptR g row))) →
    ∃ Y' YL',OwnS 81 1 Y' YL' (encGs true true (row.map (ptR g row))) ∧
    loopI G [2,4,5,6,8,9] [2,4,8,15,19,81] c36l2 ⟨[(2,.ref (0,2) 1 0 0),(4,.ref (0,4) 1 0 0),(5,.own (0,15) row.length),(6,.own (0,19) g.length),(8,.ref (0,8) 1 0 0),(9,.i done.length)],(2,.box [PV.sl false 1 E]) :: (4,.box [.nils]) :: (8,.box [Y]) :: (15,.row 1 (row.map PV.i)) :: (19,.row 1 (atS g.length row)) :: YL,[]⟩ =
      some (.exit 2,⟨[(2,.ref (0,2) 1 0 0),(4,.ref (0,4) 1 0 0),(5,.own (0,15) row.length),(6,.own (0,19) g.length),(8,.ref (0,8) 1 0 0),(9,.i row.length),(37,.b false)],(2,.box [PV.sl false 1 E]) :: (4,.box [.nils]) :: (8,.box [Y']) :: (15,.row 1 (row.map PV.i)) :: (19,.row 1 (atS g.length row)) :: YL',[]⟩)
  | [],done,hd,Y,YL,hY => by
    rw [List.append_nil] at hd
    subst hd
    refine ⟨Y,YL,hY, ?_⟩
    rw [loopI_eq]
    rcases hY with ⟨h1,rfl,rfl⟩ | ⟨h1,rfl,rfl⟩
    · simp [r36l2,b36l2]
    · simp [r36l2,b36l2]
  | x :: rest,done,hd,Y,YL,hY => by
    have hl := hrow.len
    have hgl := hs.1
    have hrl : row.length = done.length + (rest.length + 1) := by rw [hd]; simp
    have hlt : (done.length : Int) < row.length := by omega
    have hlt2 : done.length < row.length := by omega
    have hw : IntKind.i64.wrap ((done.length : Int) + 1) = (done.length : Int) + 1 := wr (by omega)
    have hx := hrow.2 x (by rw [hd]; simp)
    have hat : nth (row.map PV.i) done.length = some (.i x) := by rw [hd,List.map_append,List.map_cons]; exact at_D _ _ _ _ (by simp)
    have hxn : x.toNat < g.length := by omega
    have hLl : (g.getD x.toNat []).length ≤ 1048576 := hs.2 _ (by rw [List.getD_eq_getElem?_getD,List.getElem?_eq_getElem hxn,Option.getD_some]; exact List.getElem_mem hxn)
    have hLt := hg.row x.toNat
    have hpt : ptR g row x = tidyL (reT row (g.getD x.toNat [])) := rfl
    have hYl : (encGs true true (done.map (ptR g row))).length = done.length := by simp
    have hdl : done.length ≤ 4294967295 := by omega
    generalize hL : g.getD x.toNat [] = L at hLl hpt hLt
    have h0 := loopSp1 E g hE Y YL _ hY row done.length hlt2 (by omega) x hat hx L hL hLt hLl L [] rfl
    simp only [List.nil_append,List.length_nil,show ((0 : Nat) : Int) = 0 from rfl,show reT row [] = [] from rfl,owP_n,owL_n] at h0
    have hnew : encGs true true ((done ++ [x]).map (ptR g row)) = encGs true true (done.map (ptR g row)) ++ [encL true true (ptR g row x)] := by simp [encGs]
    have hnn : encGs true true ((done ++ [x]).map (ptR g row)) ≠ [] := by rw [hnew]; simp
    have hYn : OwnS 81 1 (.own (0,81) (done.length + 1)) [(81,.row 1 (encGs true true (done.map (ptR g row)) ++ [encL true true (ptR g row x)]))] (encGs true true ((done ++ [x]).map (ptR g row))) := by
      refine .inr ⟨hnn, ?_, ?_⟩
      · rw [hnew]; simp
      · rw [hnew]
    obtain ⟨Y',YL',hY',hn⟩ := loopSp2 E g hE hg hs row hrow rest (done ++ [x]) (by simpa using hd) _ _ hYn
    refine ⟨Y',YL',hY', ?_⟩
    simp only [List.length_append,List.length_cons,List.length_nil,Int.natCast_add,show ((0 + 1 : Nat) : Int) = 1 from rfl] at hn
    clear hY' hE
    have hso := eqSorted true (reT row L) (by simp; omega)
    rw [← hpt] at hso
    have hRl : (row.map PV.i).length = row.length := by simp
    generalize hR : row.map PV.i = R at h0 hn hRl ⊢
    rw [loopI_eq]
    by_cases hLe : L = []
    · subst hLe
      have hr0 : reT row [] = [] := rfl
      rw [hr0,tidyL_n] at hpt
      rw [hpt] at hn hso
      simp only [hr0,encL_n] at hso
      rcases hY with ⟨h1,rfl,rfl⟩ | ⟨h1,rfl,rfl⟩
      · have hd0 : done = [] := by cases done with | nil => rfl | cons a b => simp [encGs] at h1
        subst hd0
        have hlt0 : 0 < row.length := by omega
        simp [hr0] at h0 hn hat
        simp [r36l2,b36l2,hlt,hlt2,hRl,noShares_mv,hw,h0,hso,wr1,hlt0]
        simpa [encGs] using hn
      · simp [hr0] at h0 hn
        simp [r36l2,b36l2,hlt,hlt2,hRl,noShares_mv,hw,h0,hso,hdl]
        simpa [encGs] using hn
    · have hne : reT row L ≠ [] := by simp [reT,hLe]
      have hlt3 : encL true true (ptR g row x) = .sl true 2 ((ptR g row x).map mvP) := encL_ne (by rw [hpt]; exact tidyL_ne hne)
      rw [encL_ne hne] at hso
      rw [hlt3] at hn hso
      rw [owP_ne hne,owL_ne hne] at h0
      rcases hY with ⟨h1,rfl,rfl⟩ | ⟨h1,rfl,rfl⟩
      · have hd0 : done = [] := by cases done with | nil => rfl | cons a b => simp [encGs] at h1
        subst hd0
        have hlt0 : 0 < row.length := by omega
        simp at h0 hn hat
        simp [r36l2,b36l2,hlt,hlt2,hRl,noShares_mv,hw,h0,fals_mvP,hso,wr1,hlt0]
        simpa [encGs] using hn
      · simp at h0 hn
        simp [r36l2,b36l2,hlt,hlt2,hRl,noShares_mv,hw,h0,fals_mvP,hso,hdl]
        simpa [encGs] using hn
theorem reach_ne (g : Gr) (s : Int) : 1 ≤ (reach g s).length := by
  have hbl := bfs_len g (g.length + 1) 0 [s]
  unfold reach; simpa using hbl
theorem eqPart (E : List PV) (g : Gr) (hE : EncR false E g) (hg : OkTo g) (hs : SmallG g) (h : 0 < g.length) :
    callI G 36 [.agg [.sl false 1 E],.i 0] [] = some (.agg [.sl true 1 (encGs true true (partG g 0))],[]) := by
  have h1 := eqFrom E g hE hg hs 0 (by omega)
  have hr : InN g.length (reach g 0) := InN.bfs hg _ _ (InN.one (by omega))
  have hl := hr.len
  have hgl := hs.1
  have hEl := hE.1
  have hpg : partG g 0 = (reach g 0).map (ptR g (reach g 0)) := rfl
  have hrl := reach_ne g 0
  rw [hpg]
  generalize hR : reach g 0 = row at h1 hr hl hrl
  have hne : row ≠ [] := by intro e; rw [e] at hrl; cases hrl
  have l0 := loopSp0 E g.length row.length (by omega) row [] hr rfl
  obtain ⟨Y,YL,hY,l2⟩ := loopSp2 E g hE hg hs row hr row [] rfl .nils [] (.inl ⟨rfl,rfl,rfl⟩)
  simp only [List.nil_append,List.length_nil,show ((0 : Nat) : Int) = 0 from rfl] at l0 l2
  have hne2 : encGs true true (row.map (ptR g row)) ≠ [] := by simp [encGs,hne]
  have hz := atS_n g.length
  have h4 : g.length ≤ 4294967296 := by omega
  have h5 : (g.length : Int) ≤ 4294967296 := by omega
  rw [callI_eq]
  rcases hY with ⟨q,_⟩ | ⟨_,rfl,rfl⟩
  · exact absurd q hne2
  · simp [body1_eq _ _ (gp 36) g36,c36,a36,h1,hEl,hz,h4,h5,l0,l2]
end Go.Am
end
section
set_option maxRecDepth 10000
set_option maxHeartbeats 1000000
set_option linter.unusedSimpArgs false
set_option linter.unusedVariables false
namespace Go.Am
open Go.Proofs Go.Sort Go.Shelf
theorem eqMade (E : List PV) (g : Gr) (hE : EncR false E g) (hg : OkTo g) (hs : SmallG g) (h : 0 < g.length) :
    callI G 19 [.agg [.sl false 1 E]] [] = some (.tup [encG true true (made g).1,.b (made g).2],[]) := by
  have h1 := eqPart E g hE hg hs h
  have hrl := reach_ne g 0
  have hpl : (partG g 0).length = (reach g 0).length := by simp [partG]
  unfold made
  rw [← hpl] at hrl ⊢
  generalize hP : partG g 0 = P at h1 hrl ⊢
  have hne : P ≠ [] := by intro e; rw [e] at hrl; cases hrl
  have he : encG true true P = .agg [.sl true 1 (encGs true true P)] := by simp [encG,encM',hne]
  rw [callI_eq]
  by_cases hc : P.length ≤ 60
  · have hc2 : ¬ (60 : Int) < P.length := by omega
    simp only [hc,if_true,he]
    simp [body1_eq _ _ (gp 19) g19,c19,a19,h1,hc,hc2]
  · have hc2 : (60 : Int) < P.length := by omega
    simp [body1_eq _ _ (gp 19) g19,c19,a19,h1,hc,hc2]
end Go.Am
end
section
set_option maxRecDepth 10000
set_option maxHeartbeats 1000000
set_option linter.unusedSimpArgs false
set_option linter.unusedVariables false
namespace Go.Am
open Go.Proofs Go.Sort Go.Shelf
theorem SmallG.fit {g : Gr} (h : SmallG g) : FitG g := ⟨by have := h.1; omega,fun l hl => by have := h.2 l hl; omega⟩
theorem tidyL_len (l : List Mv) : (tidyL l).length ≤ l.length := by
  have h : (srtM l).length = l.length := by simp [srtM]
  unfold tidyL
  cases hs : srtM l with
  | nil => simp [dd]
  | cons x r =>
    rw [hs] at h
    have := ddup_len x r
    simp only [dd,List.length_cons] at h ⊢
    omega
theorem made_small {g : Gr} (h : SmallG g) : SmallG (made g).1 := by
  unfold made
  split
  · rename_i hc
    refine ⟨by show (partG g 0).length ≤ _; simp [partG]; omega,fun l hl => ?_⟩
    simp only [partG,List.mem_map] at hl
    obtain ⟨r,_,rfl⟩ := hl
    refine Nat.le_trans (tidyL_len _) ?_
    rw [reT_len]
    by_cases hi : r.toNat < g.length
    · rw [List.getD_eq_getElem?_getD,List.getElem?_eq_getElem hi,Option.getD_some]
      exact h.2 _ (List.getElem_mem hi)
    · rw [List.getD_eq_getElem?_getD,List.getElem?_eq_none (by omega)]; simp
  · exact ⟨by simp,fun l hl => by cases hl⟩
theorem encM_ne {nl u : Bool} {g : Gr} (h : g ≠ []) : encM' nl u g = .sl u 1 (encGs nl u g) := by
  unfold encM'
  split
  · rename_i k; simp only [Bool.and_eq_true,List.isEmpty_iff] at k; exact absurd k.2 h
  · rfl
end Go.Am
end
section
set_option maxRecDepth 10000
set_option maxHeartbeats 16000000
set_option linter.unusedSimpArgs false
set_option linter.unusedVariables false
namespace Go.Am
open Go.Proofs Go.Sort Go.Shelf
def g3P (g : Gr) : PV := if g = [] then .nils else .own (0,103) g.length
def g3L (g : Gr) : Objs := if g = [] then [] else [(103,.row 1 (encGs true true g))]
theorem g3_two (g : Gr) : (g = [] ∧ g3P g = .nils ∧ g3L g = []) ∨ (g ≠ [] ∧ g3P g = .own (0,103) g.length ∧ g3L g = [(103,.row 1 (encGs true true g))]) := by
  by_cases h : g = []
  · exact .inl ⟨h,by simp [g3P,h],by simp [g3L,h]⟩
  · exact .inr ⟨h,by simp [g3P,h],by simp [g3L,h]⟩
theorem known_encQ (ds : List Tm) (f : Nat → Bool) (n : Nat) : known f n (encQ false ds) = true := by cases ds <;> simp [encQ,known]
theorem plains_str (T : List ByteArray) : plains (T.map PV.s) = true := by
  induction T with
  | nil => rfl
  | cons t T ih => simp only [List.map_cons,plains,plain,Bool.true_and]; exact ih
theorem str_at (T : List ByteArray) (k : Nat) (h : k < T.length) : nth (T.map PV.s) k = some (.s T[k]) := by simp [nth,h]
theorem plain_encTf : ∀ t : Tm,plain (encT false t) = true
  | .mk o n ps => by cases ps <;> simp [encT,encQ,plain,plains]
theorem plains_encTs (S : List Tm) : plains (encTs false S) = true := by
  induction S with
  | nil => rfl
  | cons t T ih => simp only [encTs,plains,plain_encTf,Bool.true_and]; exact ih
theorem encTs_snoc (S : List Tm) (x : Tm) : encTs false (S ++ [x]) = encTs false S ++ [encT false x] := by simp [encTs_map]
theorem loopGr0 (D : PV) (hKD : ∀ f n,known f n D = true) (S : List Tm) (A : List Stp) (M : List Mv) (g : Gr) (T : List ByteArray) (s i : Int) (x : ByteArray) (hT : T.length = S.length) (hS : S.length ≤ 60) : ∀ (k to : Nat),to + k = T.length →
    ∃ to' : Nat,to' ≤ T.length ∧ loopI G [1,4,6,7,8,9,10,11,12,13,14] [4,8,16,19,32,33,83,87,97,103] c45l0 ⟨[(1,D),(4,.ref (0,4) 1 0 0),(6,.own (0,16) S.length),(7,.own (0,19) S.length),(8,.ref (0,8) 1 0 0),(9,.i s),(10,.own (0,32) A.length),(11,.own (0,33) M.length),(12,.i i),(13,.s x),(14,.i to)],(4,.box [.nils]) :: (8,.box [g3P g]) :: (16,.row 3 (encTs false S)) :: (19,.row 1 (T.map PV.s)) :: (32,.row 4 (stPs A)) :: (33,.row 2 (M.map mvP)) :: g3L g,[]⟩ =
      some (.exit 4,⟨[(1,D),(4,.ref (0,4) 1 0 0),(6,.own (0,16) S.length),(7,.own (0,19) S.length),(8,.ref (0,8) 1 0 0),(9,.i s),(10,.own (0,32) A.length),(11,.own (0,33) M.length),(12,.i i),(13,.s x),(14,.i to'),(57,.b false)],(4,.box [.nils]) :: (8,.box [g3P g]) :: (16,.row 3 (encTs false S)) :: (19,.row 1 (T.map PV.s)) :: (32,.row 4 (stPs A)) :: (33,.row 2 (M.map mvP)) :: g3L g,[]⟩)
  | 0,to,e => by
    have hp1 := plains_str T
    have hl1 : S.length = T.length := hT.symm
    have h1 : ¬ (to : Int) < T.length := by omega
    refine ⟨to,by omega, ?_⟩
    rw [loopI_eq]
    rcases g3_two g with ⟨_,h2,h3⟩ | ⟨_,h2,h3⟩ <;> rw [h2,h3] <;> simp [hKD,r45l0,b45l0,hl1,h1,encTs_len]
  | k + 1,to,e => by
    have hp1 := plains_str T
    have hl1 : S.length = T.length := hT.symm
    have hlt : to < T.length := by omega
    have hlt2 : (to : Int) < T.length := by omega
    have hw : IntKind.i64.wrap ((to : Int) + 1) = (to : Int) + 1 := wr (by omega)
    have hat := str_at T to hlt
    generalize T[to] = y at hat
    cases hq : (y.toList == x.toList) with
    | true =>
      refine ⟨to,by omega, ?_⟩
      rw [loopI_eq]
      rcases g3_two g with ⟨_,h2,h3⟩ | ⟨_,h2,h3⟩ <;> rw [h2,h3] <;> simp [hKD,r45l0,b45l0,hl1,hlt,hlt2,hat,hp1,hq,encTs_len]
    | false =>
      obtain ⟨to',a1,hn⟩ := loopGr0 D hKD S A M g T s i x hT hS k (to + 1) (by omega)
      refine ⟨to',a1, ?_⟩
      refine Eq.trans ?_ hn
      rw [show ((to + 1 : Nat) : Int) = (to : Int) + 1 by omega,loopI_eq]
      rcases g3_two g with ⟨_,h2,h3⟩ | ⟨_,h2,h3⟩ <;> rw [h2,h3] <;> simp [hKD,r45l0,b45l0,hl1,hlt,hlt2,hat,hp1,hq,hw,encTs_len]
end Go.Am
end
