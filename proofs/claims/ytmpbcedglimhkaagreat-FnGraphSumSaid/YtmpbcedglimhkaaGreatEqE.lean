/- What the functions that the law reaches compute. -/
import Derived.Test.YtmpbcedglimhkaaGreatEqD
import Derived.Test.YtmpbcedglimhkaaGreatEqC
import Derived.Test.YtmpbcedglimhkaaGreatEqA
section
set_option maxRecDepth 10000
set_option maxHeartbeats 16000000
set_option linter.unusedSimpArgs false
set_option linter.unusedVariables false
namespace Go.Am
open Go.Proofs Go.Sort Go.Shelf
structure GrOk (ds S : List Tm) (T : List ByteArray) : Prop where
  t : T.length = S.length
  n : S.length ≤ 60
  w : ∀ x ∈ S,WfT ds.length x ∧ szT x ≤ 24
mutual
theorem va_nodes : ∀ x : Tm,VaT x → nodesT x = min 1000 (szT x)
  | .mk o n ps,h => by
    unfold VaT at h
    unfold nodesT szT
    rw [if_pos ⟨h.1,h.2.1⟩,va_nodess 1 ps (by omega) h.2.2]
    omega
theorem va_nodess : ∀ (k : Nat) (ps : List Tm),k ≤ 1000 → VaTs ps → nodesL k ps = min 1000 (k + szTs ps)
  | k,[],hk,h => by unfold nodesL szTs; omega
  | k,p :: ps,hk,h => by
    unfold VaTs at h
    have h1 := va_nodes p h.1
    have h2 := szT_pos p
    unfold nodesL szTs
    rw [if_neg (by omega),va_nodess (min 1000 (k + nodesT p)) ps (by omega) h.2]
    omega
end
theorem nodes_small {m : Int} {x : Tm} (hw : WfT m x) (h : ¬ (24 : Int) < nodesT x) : szT x ≤ 24 := by
  have := va_nodes x hw.va
  omega
theorem loopGr1 (D : PV) (hKD : ∀ f n,known f n D = true) (ds : List Tm) (A : List Stp) (hA : ∀ r ∈ A,GoodS ds.length 576 r) (hAl : A.length ≤ 400000) (g : Gr) (s : Int) : ∀ (rest done : List Stp) (S : List Tm) (T : List ByteArray) (M : List Mv),A = done ++ rest → GrOk ds S T → M.length = done.length →
    ∃ ex,loopI G [1,4,6,7,8,9,10,11,12] [4,8,16,19,32,33,83,87,97,103] c45l1 ⟨[(1,D),(4,.ref (0,4) 1 0 0),(6,.own (0,16) S.length),(7,.own (0,19) S.length),(8,.ref (0,8) 1 0 0),(9,.i s),(10,.own (0,32) A.length),(11,.own (0,33) M.length),(12,.i done.length)],(4,.box [.nils]) :: (8,.box [g3P g]) :: (16,.row 3 (encTs false S)) :: (19,.row 1 (T.map PV.s)) :: (32,.row 4 (stPs A)) :: (33,.row 2 (M.map mvP)) :: g3L g,[]⟩ = some ex ∧
      (ex = (.ret,⟨[(4,.ref (0,4) 1 0 0),(5,.b false)],(4,.box [.nils]) :: g3L g,[]⟩) ∨ ∃ (S' : List Tm) (T' : List ByteArray) (M' : List Mv),GrOk ds S' T' ∧ S.length ≤ S'.length ∧ M'.length = A.length ∧ ex = (.exit 2,⟨[(1,D),(4,.ref (0,4) 1 0 0),(6,.own (0,16) S'.length),(7,.own (0,19) S'.length),(8,.ref (0,8) 1 0 0),(9,.i s),(10,.own (0,32) A.length),(11,.own (0,33) M'.length),(12,.i A.length),(37,.b false)],(4,.box [.nils]) :: (8,.box [g3P g]) :: (16,.row 3 (encTs false S')) :: (19,.row 1 (T'.map PV.s)) :: (32,.row 4 (stPs A)) :: (33,.row 2 (M'.map mvP)) :: g3L g,[]⟩))
  | [],done,S,T,M,e,hG,hM => by
    have e : A = done := by simpa using e
    subst e
    refine ⟨_, ?_,.inr ⟨S,T,M,hG,Nat.le_refl _,hM,rfl⟩⟩
    have hl1 : S.length = T.length := hG.t.symm
    rw [loopI_eq]
    rcases g3_two g with ⟨_,h2,h3⟩ | ⟨_,h2,h3⟩ <;> rw [h2,h3] <;> simp [hKD,r45l1,b45l1,hl1,hM,encTs_len]
  | r :: rest,done,S,T,M,e,hG,hM => by
    have hpl : A.length = done.length + (rest.length + 1) := by rw [e]; simp
    have hlt : (done.length : Int) < A.length := by omega
    have hlt2 : done.length < A.length := by omega
    have hw : IntKind.i64.wrap ((done.length : Int) + 1) = (done.length : Int) + 1 := wr (by omega)
    have hat := stP_at done r rest
    rw [← e] at hat
    obtain ⟨g1,g2,g3⟩ := hA r (by rw [e]; simp)
    obtain ⟨b,hb,ht⟩ := eqText r.2 g2.va (by omega)
    have hno := eqNodes r.2
    have hpa := plains_stPs A
    have hl1 : S.length = T.length := hG.t.symm
    have hS60 := hG.n
    have hM9 : done.length ≤ 4294967295 := by omega
    obtain ⟨to,hto,hl0⟩ := loopGr0 D hKD S A M g T s done.length b hG.t hG.n T.length 0 (by omega)
    simp only [show ((0 : Nat) : Int) = 0 from rfl] at hl0
    obtain ⟨z1,z2,z3,N3,hZ,hZ2,hN,hz3⟩ := stP_form r
    rw [hZ] at hat
    rw [hZ2] at ht hno
    rw [hl1] at hS60 hl0
    rw [hM] at hl0 ⊢
    by_cases hin : to = T.length
    · subst hin
      by_cases h60 : T.length = 60
      · refine ⟨_, ?_,.inl rfl⟩
        rw [h60] at hl0 hl1
        simp only [show ((60 : Nat) : Int) = 60 from rfl] at hl0
        rw [loopI_eq,hl1]
        rcases g3_two g with ⟨_,h2,h3⟩ | ⟨_,h2,h3⟩ <;> rw [h2,h3] at hl0 ⊢ <;> rcases hz3 with rfl | rfl <;> simp [hKD,r45l1,b45l1,hl1,h60,hlt,hlt2,hat,hpa,ht,hl0,hM,encTs_len]
      · have h60' : ¬ (T.length : Int) = 60 := by omega
        by_cases h24 : (24 : Int) < nodesT r.2
        · refine ⟨_, ?_,.inl rfl⟩
          rw [loopI_eq,hl1]
          rcases g3_two g with ⟨_,h2,h3⟩ | ⟨_,h2,h3⟩ <;> rw [h2,h3] at hl0 ⊢ <;> rcases hz3 with rfl | rfl <;> simp [hKD,r45l1,b45l1,hl1,h60,h60',hlt,hlt2,hat,hpa,ht,hl0,hno,h24,hM,encTs_len]
        · have hG' : GrOk ds (S ++ [r.2]) (T ++ [b]) := by
            refine ⟨by simp [hl1],by simp; omega,fun x hx => ?_⟩
            rcases List.mem_append.1 hx with h | h
            · exact hG.w x h
            · simp only [List.mem_singleton] at h
              subst h
              exact ⟨g2,nodes_small g2 h24⟩
          obtain ⟨ex,hn,hr⟩ := loopGr1 D hKD ds A hA hAl g s rest (done ++ [r]) (S ++ [r.2]) (T ++ [b]) (M ++ [(r.1,(T.length : Int))]) (by rw [e]; simp) hG' (by simp [hM])
          refine ⟨ex, ?_, ?_⟩
          · refine Eq.trans ?_ hn
            have hT9 : T.length ≤ 4294967295 := by omega
            rw [encTs_snoc,hZ2,loopI_eq]
            simp only [List.length_append,List.map_append,List.length_cons,List.length_nil,List.map_cons,List.map_nil,hl1]
            rcases g3_two g with ⟨_,h2,h3⟩ | ⟨_,h2,h3⟩ <;> rw [h2,h3] at hl0 ⊢ <;> rcases hz3 with rfl | rfl <;> simp [hKD,r45l1,b45l1,hl1,h60,h60',hlt,hlt2,hat,hpa,ht,hl0,hno,h24,hM,hM9,hT9,hw,mvP,encTs_len]
          · rcases hr with hr | ⟨S',T',M',q1,q2,q3,q4⟩
            · exact .inl hr
            · exact .inr ⟨S',T',M',q1,by simp at q2; omega,q3,q4⟩
    · have hin' : ¬ (to : Int) = T.length := by omega
      obtain ⟨ex,hn,hr⟩ := loopGr1 D hKD ds A hA hAl g s rest (done ++ [r]) S T (M ++ [(r.1,(to : Int))]) (by rw [e]; simp) hG (by simp [hM])
      refine ⟨ex, ?_,hr⟩
      refine Eq.trans ?_ hn
      rw [loopI_eq]
      simp only [List.length_append,List.map_append,List.length_cons,List.length_nil,List.map_cons,List.map_nil,hl1]
      rcases g3_two g with ⟨_,h2,h3⟩ | ⟨_,h2,h3⟩ <;> rw [h2,h3] at hl0 ⊢ <;> rcases hz3 with rfl | rfl <;> simp [hKD,r45l1,b45l1,hl1,hin,hin',hlt,hlt2,hat,hpa,ht,hl0,hM,hM9,hw,mvP,encTs_len]
end Go.Am
end
section
set_option maxRecDepth 10000
set_option maxHeartbeats 16000000
set_option linter.unusedSimpArgs false
set_option linter.unusedVariables false
namespace Go.Am
open Go.Proofs Go.Sort Go.Shelf
theorem loopGr2 (ds : List Tm) (hds : DsOk ds) : ∀ (k s : Nat) (S : List Tm) (T : List ByteArray) (g : Gr),s + k = 60 → s ≤ S.length → GrOk ds S T → g.length = s → (∀ l ∈ g,l.length ≤ 400000) →
    ∃ ex,loopI G [1,4,6,7,8,9] [4,8,16,19,83,87,103] c45l2 ⟨[(1,encQ false ds),(4,.ref (0,4) 1 0 0),(6,.own (0,16) S.length),(7,.own (0,19) S.length),(8,.ref (0,8) 1 0 0),(9,.i s)],(4,.box [.nils]) :: (8,.box [g3P g]) :: (16,.row 3 (encTs false S)) :: (19,.row 1 (T.map PV.s)) :: g3L g,[]⟩ = some ex ∧
      ((∃ L : Objs,ex = (.ret,⟨[(4,.ref (0,4) 1 0 0),(5,.b false)],(4,.box [.nils]) :: L,[]⟩)) ∨ ∃ (S' : List Tm) (T' : List ByteArray) (g' : Gr),GrOk ds S' T' ∧ g'.length = S'.length ∧ (∀ l ∈ g',l.length ≤ 400000) ∧ ex = (.exit 0,⟨[(1,encQ false ds),(4,.ref (0,4) 1 0 0),(6,.own (0,16) S'.length),(7,.own (0,19) S'.length),(8,.ref (0,8) 1 0 0),(9,.i S'.length),(24,.b false)],(4,.box [.nils]) :: (8,.box [g3P g']) :: (16,.row 3 (encTs false S')) :: (19,.row 1 (T'.map PV.s)) :: g3L g',[]⟩))
  | k,s,S,T,g,hk,hs,hG,hg,hgl => by
    have hl1 : S.length = T.length := hG.t.symm
    have hS60 := hG.n
    by_cases hlt : s < S.length
    · obtain ⟨k,rfl⟩ : ∃ k',k = k' + 1 := ⟨k - 1,by omega⟩
      have hlt1 : (s : Int) < S.length := by omega
      obtain ⟨w1,w2⟩ := hG.w _ (List.getElem_mem hlt)
      have hst := eqSteps ds hds _ w1 w2
      have hgood := stD_good hds _ w1 w2
      have hlen := stD_len hds _ w2
      have hat : nth (encTs false S) s = some (encT false S[s]) := by simp [nth,encTs_map,hlt]
      generalize stD ds S[s] = A at hst hgood hlen
      unfold StepsAt at hst
      generalize S[s] = x at hst hat
      obtain ⟨x1,x2,x3,L3,hX,hL,hx3⟩ := encT_formF x
      rw [hX] at hst hat
      have hpS := plains_encTs S
      have hlS : (encTs false S).length = S.length := encTs_len false S
      obtain ⟨ex,h1,hr⟩ := loopGr1 (encQ false ds) (known_encQ ds) ds A hgood hlen g s A [] S T [] rfl hG rfl
      simp only [List.length_nil,List.map_nil,show ((0 : Nat) : Int) = 0 from rfl] at h1
      rcases hr with rfl | ⟨S',T',M',q1,q2,q3,rfl⟩
      · refine ⟨_, ?_,.inl ⟨g3L g,rfl⟩⟩
        generalize encTs false S = ES at *
        rw [loopI_eq]
        rcases encQ_form false ds with ⟨eD,_⟩ | ⟨FD,eD,eD1,_⟩ <;> rw [eD] at hst h1 ⊢ <;> rcases g3_two g with ⟨_,h2,h3⟩ | ⟨_,h2,h3⟩ <;> rw [h2,h3] at h1 ⊢ <;> rcases hx3 with rfl | rfl <;> simp [r45l2,b45l2,hlt,hlt1,hlS,hat,hpS,hst,h1]
      · have hS := eqSorted false M' (by omega)
        have htl := tidyL_len M'
        have hfl := fals_mvP M'
        have hw : IntKind.i64.wrap ((s : Int) + 1) = (s : Int) + 1 := wr (by omega)
        obtain ⟨ex2,hn,hr2⟩ := loopGr2 ds hds k (s + 1) S' T' (g ++ [tidyL M']) (by omega) (by omega) q1 (by simp [hg]) (fun l hl' => by
          rcases List.mem_append.1 hl' with h | h
          · exact hgl l h
          · simp only [List.mem_singleton] at h; subst h; omega)
        refine ⟨ex2, ?_,hr2⟩
        refine Eq.trans ?_ hn
        have hg9 : g.length ≤ 4294967295 := by omega
        have hgn : g3P (g ++ [tidyL M']) = .own (0,103) (g.length + 1) := by simp [g3P]
        have hgL : g3L (g ++ [tidyL M']) = [(103,.row 1 (encGs true true g ++ [encL true true (tidyL M')]))] := by simp [g3L,encGs]
        rw [hgn,hgL,show ((s + 1 : Nat) : Int) = (s : Int) + 1 by omega]
        clear hn hr2
        generalize tidyL M' = X at *
        have hns := noShares_mv X
        simp only [encL_f] at hS
        have hl2 : S'.length = T'.length := q1.t.symm
        have hlS' : (encTs false S').length = S'.length := encTs_len false S'
        generalize encTs false S' = ES' at *
        generalize encTs false S = ES at *
        rw [loopI_eq]
        rcases encQ_form false ds with ⟨eD,_⟩ | ⟨FD,eD,eD1,_⟩ <;> rw [eD] at hst h1 ⊢ <;> rcases g3_two g with ⟨h,h2,h3⟩ | ⟨h,h2,h3⟩ <;> rw [h2,h3] at h1 ⊢ <;> rcases encL_two true true X with ⟨hT,_⟩ | hT <;> rw [hT] at hS ⊢ <;> rcases hx3 with rfl | rfl <;>
          (first | subst h | skip
           simp [r45l2,b45l2,hlt,hlt1,hlS,hlS',hat,hpS,hst,h1,hl2,hS,hfl,hg9,hw,encGs_len,hns]
           try rfl)
    · have hlS : S.length = s := by omega
      refine ⟨_, ?_,.inr ⟨S,T,g,hG,by omega,hgl,rfl⟩⟩
      have hlS2 : (encTs false S).length = S.length := encTs_len false S
      generalize encTs false S = ES at *
      rw [loopI_eq]
      subst hlS
      rw [← hl1] at *
      rcases encQ_form false ds with ⟨eD,_⟩ | ⟨FD,eD,eD1,_⟩ <;> rw [eD] <;> rcases g3_two g with ⟨_,h2,h3⟩ | ⟨_,h2,h3⟩ <;> rw [h2,h3] <;> simp [r45l2,b45l2,hlS2,hl1]
end Go.Am
end
section
set_option maxRecDepth 10000
set_option maxHeartbeats 16000000
set_option linter.unusedSimpArgs false
set_option linter.unusedVariables false
namespace Go.Am
open Go.Proofs Go.Sort Go.Shelf
theorem eqGraph3 (ds : List Tm) (hds : DsOk ds) (t : Tm) (hw : WfT ds.length t) (hz : szT t ≤ 24) : ∃ (g : Gr) (ok : Bool),g.length ≤ 60 ∧ (∀ l ∈ g,l.length ≤ 400000) ∧ callI G 45 [encT false t,encQ false ds] [] = some (.tup [encG true true g,.b ok],[]) := by
  obtain ⟨b,hb,ht⟩ := eqText t hw.va (by omega)
  obtain ⟨ex,h1,hr⟩ := loopGr2 ds hds 60 0 [t] [b] [] rfl (by simp) ⟨rfl,by simp,fun x hx => by simp only [List.mem_singleton] at hx; subst hx; exact ⟨hw,hz⟩⟩ rfl (fun l hl => by cases hl)
  simp only [List.length_cons,List.length_nil,List.map_cons,List.map_nil,show ((0 : Nat) : Int) = 0 from rfl,encTs,show g3P [] = .nils from rfl,show g3L [] = [] from rfl] at h1
  obtain ⟨x1,x2,x3,L3,hX,hL,hx3⟩ := encT_formF t
  rw [hX] at ht h1 ⊢
  rcases hr with ⟨L,rfl⟩ | ⟨S',T',g',q1,q2,q3,rfl⟩
  · refine ⟨[],false,by simp,(fun l hl => by cases hl), ?_⟩
    rw [callI_eq]
    rcases encQ_form false ds with ⟨eD,_⟩ | ⟨FD,eD,eD1,_⟩ <;> rw [eD] at h1 ⊢ <;> rcases hx3 with rfl | rfl <;> simp [body1_eq _ _ (gp 45) g45,c45,a45,ht,h1]
  · refine ⟨g',true,by have := q1.n; omega,q3, ?_⟩
    rw [callI_eq]
    generalize encTs false S' = ES at *
    rcases g3_two g' with ⟨h,h2,h3⟩ | ⟨h,h2,h3⟩ <;> rw [h2,h3] at h1
    · subst h
      rcases encQ_form false ds with ⟨eD,_⟩ | ⟨FD,eD,eD1,_⟩ <;> rw [eD] at h1 ⊢ <;> rcases hx3 with rfl | rfl <;> simp [body1_eq _ _ (gp 45) g45,c45,a45,ht,h1,encGs_len]
    · have hM := encM_ne (nl := true) (u := true) h
      simp only [encG,hM]
      rcases encQ_form false ds with ⟨eD,_⟩ | ⟨FD,eD,eD1,_⟩ <;> rw [eD] at h1 ⊢ <;> rcases hx3 with rfl | rfl <;> simp [body1_eq _ _ (gp 45) g45,c45,a45,ht,h1,encGs_len]
theorem eqGraphOf (ds : List Tm) (hs : SmTs ds) (hl : ds.length ≤ 1000) (t : Tm) (ht : SmT t) : ∃ (g : Gr) (ok : Bool),g.length ≤ 60 ∧ (∀ l ∈ g,l.length ≤ 400000) ∧ callI G 26 [encT false t,encQ false ds] [] = some (.tup [encG true true g,.b ok],[]) := by
  have hA := eqAsked t ht ds hs hl
  cases hq : askedT t ds with
  | false =>
    refine ⟨[],false,by simp,(fun l hl => by cases hl), ?_⟩
    rw [hq] at hA
    obtain ⟨x1,x2,x3,L3,hX,hL,hx3⟩ := encT_formF t
    rw [hX] at hA ⊢
    rw [callI_eq]
    rcases encQ_form false ds with ⟨eD,_⟩ | ⟨FD,eD,eD1,_⟩ <;> rw [eD] at hA ⊢ <;> rcases hx3 with rfl | rfl <;> simp [body1_eq _ _ (gp 26) g26,c26,a26,hA]
  | true =>
    have hq0 := hq
    unfold askedT at hq0
    simp only [Bool.and_eq_true] at hq0
    have hds := defsOk_ds hq0.1
    have hf := hq0.2
    unfold fitsT at hf
    simp only [Bool.and_eq_true,decide_eq_true_eq] at hf
    obtain ⟨v1,v2⟩ := okT_va hf.1
    obtain ⟨g,ok,g1,g2,hg⟩ := eqGraph3 ds hds t (calls_wf _ t v1 hf.2.2) v2
    refine ⟨g,ok,g1,g2, ?_⟩
    rw [hq] at hA
    obtain ⟨x1,x2,x3,L3,hX,hL,hx3⟩ := encT_formF t
    rw [hX] at hA hg ⊢
    have hns := noShares_encGs true g
    simp only [encG] at hg ⊢
    rw [callI_eq]
    rcases encQ_form false ds with ⟨eD,_⟩ | ⟨FD,eD,eD1,_⟩ <;> rw [eD] at hA hg ⊢ <;> rcases encM_two true true g with ⟨e,_⟩ | e <;> rw [e] at hg ⊢ <;> rcases hx3 with rfl | rfl <;> simp [body1_eq _ _ (gp 26) g26,c26,a26,hA,hg,encGs_len]
end Go.Am
end
section
set_option maxRecDepth 10000
set_option maxHeartbeats 16000000
set_option linter.unusedSimpArgs false
set_option linter.unusedVariables false
namespace Go.Am
open Go.Proofs Go.Sort Go.Shelf
mutual
theorem DrT.sm : ∀ t : Tm,DrT t → SmT t
  | .mk o n ps,h => by
    unfold DrT at h
    unfold SmT
    exact ⟨by omega,by omega,by omega,DrTs.sm ps h.2.2.2⟩
theorem DrTs.sm : ∀ ps : List Tm,DrTs ps → SmTs ps
  | [],_ => by unfold SmTs; trivial
  | p :: ps,h => by
    unfold DrTs at h
    unfold SmTs
    exact ⟨DrT.sm p h.1,DrTs.sm ps h.2⟩
end
theorem SmTs.app : ∀ {a b : List Tm},SmTs a → SmTs b → SmTs (a ++ b)
  | [],b,_,h => h
  | p :: a,b,h,k => by
    unfold SmTs at h
    show SmTs (p :: (a ++ b))
    unfold SmTs
    exact ⟨h.1,SmTs.app h.2 k⟩
theorem eqTermD (o : Stack) (id : Id) (hid : id.1 < o.length) (B : List Nat) (p : Int) (c : Nat) (hr : RdrOK B p) (hc : c ≤ 3) (hp : p + 1000 ≤ 1000000000) :
    ∃ t q,p ≤ q ∧ q ≤ p + 1000 ∧ SmT t ∧ callI H 42 [.ref id 1 0 0,.i c] (setS o id (rd B p)) = some (encT true t,setS o id (rd B q)) := by
  have hne2 : ¬ id.1 = o.length := by omega
  have dcv : dcT 1 = 30 ∧ dcT 2 = 70 ∧ dcT 3 = 150 ∧ dcT 4 = 310 := by decide
  obtain ⟨k,a1,a2,c1⟩ := pickF o id hid B p 4 hr (by omega) (by omega)
  have hw : IntKind.i64.wrap (1 + k) = 1 + k := wrD (by omega)
  have good : ∃ t q',p + 1 ≤ q' ∧ q' ≤ p + 1 + 310 ∧ DrT t ∧ callI H 58 [.ref id 1 0 0,.i (1 + k),.i c,.b false] (setS o id (rd B (p + 1)) ++ [[]]) = some (encT true t,setS o id (rd B q') ++ [[]]) := by
    have hd : k = 0 ∨ k = 1 ∨ k = 2 ∨ k = 3 := by omega
    rcases hd with rfl | rfl | rfl | rfl
    · obtain ⟨t,q',e1,e2,e3,e4⟩ := goodF 1 o id hid B (p + 1) c false (hr.next (by omega) (by omega)) (by omega) hc (by omega)
      exact ⟨t,q',e1,by omega,e3,e4⟩
    · obtain ⟨t,q',e1,e2,e3,e4⟩ := goodF 2 o id hid B (p + 1) c false (hr.next (by omega) (by omega)) (by omega) hc (by omega)
      exact ⟨t,q',e1,by omega,e3,e4⟩
    · obtain ⟨t,q',e1,e2,e3,e4⟩ := goodF 3 o id hid B (p + 1) c false (hr.next (by omega) (by omega)) (by omega) hc (by omega)
      exact ⟨t,q',e1,by omega,e3,e4⟩
    · obtain ⟨t,q',e1,e2,e3,e4⟩ := goodF 4 o id hid B (p + 1) c false (hr.next (by omega) (by omega)) (by omega) hc (by omega)
      exact ⟨t,q',e1,by omega,e3,e4⟩
  obtain ⟨t,q,e1,e2,e3,e4⟩ := good
  obtain ⟨k2,b1,b2,c2⟩ := pickF o id hid B q 24 (hr.next (by omega) (by omega)) (by omega) (by omega)
  obtain ⟨to,tn,tp,rfl,ht⟩ := encT_two t
  have hsm := DrT.sm _ e3
  unfold SmT at hsm
  have h3 := e3
  unfold DrT at h3
  have hw7 : IntKind.i64.wrap (tn + 7) = tn + 7 := wrD (by omega)
  by_cases k20 : k2 = 0
  · subst k20
    refine ⟨.mk to (tn + 7) tp,q + 1,by omega,by omega,by unfold SmT; exact ⟨by omega,by omega,hsm.2.2⟩, ?_⟩
    rw [callI_eq]
    rcases ht with ⟨rfl,ht⟩ | ⟨ht,hE⟩ <;> rw [ht] at e4
    · simp [body1_eq _ _ (gpH 42) g42,c42,a42,hne2,setS_len,c1,hw,e4,c2,hw7,encT,encQ]
    · simp [body1_eq _ _ (gpH 42) g42,c42,a42,hne2,setS_len,c1,hw,e4,c2,hw7,encT,hE,encTs_len]
  by_cases k21 : k2 = 1
  · subst k21
    obtain ⟨k3,d1,d2,c3⟩ := pickF o id hid B (q + 1) 8 (hr.next (by omega) (by omega)) (by omega) (by omega)
    refine ⟨.mk k3 tn tp,q + 1 + 1,by omega,by omega,by unfold SmT; exact ⟨by omega,by omega,hsm.2.2⟩, ?_⟩
    rw [callI_eq]
    rcases ht with ⟨rfl,ht⟩ | ⟨ht,hE⟩ <;> rw [ht] at e4
    · simp [body1_eq _ _ (gpH 42) g42,c42,a42,hne2,setS_len,c1,hw,e4,c2,c3,encT,encQ]
    · simp [body1_eq _ _ (gpH 42) g42,c42,a42,hne2,setS_len,c1,hw,e4,c2,c3,encT,hE,encTs_len]
  by_cases k22 : k2 = 2
  · subst k22
    refine ⟨.mk to tn (.mk 0 0 [] :: tp),q + 1,by omega,by omega,by unfold SmT SmTs; exact ⟨by omega,by omega,by simp; omega,by unfold SmT SmTs; simp,hsm.2.2.2⟩, ?_⟩
    have hl : tp.length ≤ 2 := h3.2.2.1
    have hl9 : tp.length ≤ 4294967295 := by omega
    rw [callI_eq]
    rcases ht with ⟨rfl,ht⟩ | ⟨ht,hE⟩ <;> rw [ht] at e4
    · simp [body1_eq _ _ (gpH 42) g42,c42,a42,hne2,setS_len,c1,hw,e4,c2,encT,encQ,encTs]
    · simp [body1_eq _ _ (gpH 42) g42,c42,a42,hne2,setS_len,c1,hw,e4,c2,encT,encQ,encTs_len,hl9,Nat.add_comm]
  · refine ⟨.mk to tn tp,q + 1,by omega,by omega,by unfold SmT; exact hsm, ?_⟩
    rw [callI_eq]
    rcases ht with ⟨rfl,ht⟩ | ⟨ht,hE⟩ <;> rw [ht] at e4
    · simp [body1_eq _ _ (gpH 42) g42,c42,a42,hne2,setS_len,c1,hw,e4,c2,k20,k21,k22,encT,encQ]
    · simp [body1_eq _ _ (gpH 42) g42,c42,a42,hne2,setS_len,c1,hw,e4,c2,k20,k21,k22,encT,hE,encTs_len]
theorem termF (o : Stack) (id : Id) (hid : id.1 < o.length) (B : List Nat) (p : Int) (c : Nat) (hr : RdrOK B p) (hc : c ≤ 3) (hp : p + 1000 ≤ 1000000000) :
    ∃ t q,p ≤ q ∧ q ≤ p + 1000 ∧ SmT t ∧ callI H 42 [.ref id 1 0 0,.i c] (setS o id (rd B p) ++ [[]]) = some (encT true t,setS o id (rd B q) ++ [[]]) := by
  obtain ⟨t,q,e1,e2,e3,e4⟩ := eqTermD (o ++ [[]]) id (hidA hid) B p c hr hc hp
  exact ⟨t,q,e1,e2,e3,frC hid e4⟩
def dfP (n : Nat) (ds : List Tm) : PV := if ds = [] then .nils else .own (n,22) ds.length
def dfL (ds : List Tm) : Objs := if ds = [] then [] else [(22,.row 3 (encTs true ds))]
theorem df_two (n : Nat) (ds : List Tm) : (ds = [] ∧ dfP n ds = .nils ∧ dfL ds = []) ∨ (ds ≠ [] ∧ dfP n ds = .own (n,22) ds.length ∧ dfL ds = [(22,.row 3 (encTs true ds))]) := by
  by_cases h : ds = []
  · exact .inl ⟨h,by simp [dfP,h],by simp [dfL,h]⟩
  · exact .inr ⟨h,by simp [dfP,h],by simp [dfL,h]⟩
theorem encTs_snocT (u : Bool) (S : List Tm) (x : Tm) : encTs u (S ++ [x]) = encTs u S ++ [encT u x] := by simp [encTs_map]
theorem loopDf (o : Stack) (id : Id) (hid : id.1 < o.length) (B : List Nat) (N : Nat) (hN : N ≤ 3) : ∀ (k s : Nat) (p : Int) (ds : List Tm),s + k = N → ds.length = s → SmTs ds → RdrOK B p → p + 400 * k ≤ 1000000000 →
    ∃ (ds' : List Tm) (q : Int),p ≤ q ∧ q ≤ p + 400 * k ∧ ds'.length = N ∧ SmTs ds' ∧
      loopI H [0,3,4,5] [8,22] c57l0 ⟨[(0,.ref id 1 0 0),(3,.i N),(4,dfP o.length ds),(5,.i s)],dfL ds,setS o id (rd B p)⟩ =
        some (.exit 0,⟨[(0,.ref id 1 0 0),(3,.i N),(4,dfP o.length ds'),(5,.i N),(11,.b false)],dfL ds',setS o id (rd B q)⟩)
  | 0,s,p,ds,hs,hg,hl,hr,hp => by
    have : s = N := by omega
    subst this
    refine ⟨ds,p,by omega,by omega,hg,hl, ?_⟩
    have hne2 : ¬ id.1 = o.length := by omega
    rw [loopI_eq]
    rcases df_two o.length ds with ⟨h,h1,h2⟩ | ⟨h,h1,h2⟩ <;> rw [h1,h2] <;>
      simp [r57l0,b57l0,setS_len,hne2]
  | k + 1,s,p,ds,hs,hg,hl,hr,hp => by
    have hne2 : ¬ id.1 = o.length := by omega
    have dcv : dcT 1 = 30 ∧ dcT 2 = 70 ∧ dcT 3 = 150 ∧ dcT 4 = 310 := by decide
    have hkk : ((k + 1 : Nat) : Int) = (k : Int) + 1 := by omega
    rw [hkk] at hp ⊢
    have hlt : (s : Int) < N := by omega
    have hlt2 : s < N := by omega
    have hw : IntKind.i64.wrap ((s : Int) + 1) = (s : Int) + 1 := wrD (by omega)
    obtain ⟨a,a1,a2,ca⟩ := pickF o id hid B p 3 hr (by omega) (by omega)
    have hwa : IntKind.i64.wrap (1 + a) = 1 + a := wrD (by omega)
    have good : ∃ t q',p + 1 ≤ q' ∧ q' ≤ p + 1 + 310 ∧ DrT t ∧ callI H 58 [.ref id 1 0 0,.i (1 + a),.i N,.b false] (setS o id (rd B (p + 1)) ++ [[]]) = some (encT true t,setS o id (rd B q') ++ [[]]) := by
      have hd : a = 0 ∨ a = 1 ∨ a = 2 := by omega
      rcases hd with rfl | rfl | rfl
      · obtain ⟨t,q',e1,e2,e3,e4⟩ := goodF 1 o id hid B (p + 1) N false (hr.next (by omega) (by omega)) (by omega) hN (by omega)
        exact ⟨t,q',e1,by omega,e3,e4⟩
      · obtain ⟨t,q',e1,e2,e3,e4⟩ := goodF 2 o id hid B (p + 1) N false (hr.next (by omega) (by omega)) (by omega) hN (by omega)
        exact ⟨t,q',e1,by omega,e3,e4⟩
      · obtain ⟨t,q',e1,e2,e3,e4⟩ := goodF 3 o id hid B (p + 1) N false (hr.next (by omega) (by omega)) (by omega) hN (by omega)
        exact ⟨t,q',e1,by omega,e3,e4⟩
    obtain ⟨t,q1,e1,e2,e3,e4⟩ := good
    have hsm := DrT.sm t e3
    obtain ⟨ds',q,f1,f2,f3,f4,hn⟩ := loopDf o id hid B N hN k (s + 1) q1 (ds ++ [t]) (by omega) (by simp [hg]) (SmTs.app hl (by unfold SmTs SmTs; exact ⟨hsm,trivial⟩)) (hr.next (by omega) (by omega)) (by omega)
    refine ⟨ds',q,by omega,by omega,f3,f4, ?_⟩
    refine Eq.trans ?_ hn
    have hss : ((s + 1 : Nat) : Int) = (s : Int) + 1 := by omega
    have hd9 : ds.length ≤ 4294967295 := by omega
    have hgn : dfP o.length (ds ++ [t]) = .own (o.length,22) (ds.length + 1) := by simp [dfP]
    have hgl : dfL (ds ++ [t]) = [(22,.row 3 (encTs true ds ++ [encT true t]))] := by simp [dfL,encTs_snocT]
    rw [hss,hgn,hgl]
    clear hn hss
    rw [loopI_eq]
    obtain ⟨to,tn,tp,rfl,ht⟩ := encT_two t
    rcases df_two o.length ds with ⟨h,h1,h2⟩ | ⟨h,h1,h2⟩ <;> rw [h1,h2] <;> rcases ht with ⟨rfl,ht⟩ | ⟨ht,hE⟩ <;> rw [ht] at e4 ⊢ <;>
      (first | subst h | skip
       simp [r57l0,b57l0,setS_len,hne2,hlt,hlt2,hw,ca,hwa,e4,hd9,encTs_len,encTs]
       try rfl)
theorem SmTs.set : ∀ {ds : List Tm} {x : Tm} (i : Nat),SmTs ds → SmT x → SmTs (ds.set i x)
  | [],x,i,h,k => by simpa using h
  | p :: ps,x,0,h,k => by
    unfold SmTs at h
    show SmTs (x :: ps)
    unfold SmTs
    exact ⟨k,h.2⟩
  | p :: ps,x,i + 1,h,k => by
    unfold SmTs at h
    show SmTs (p :: ps.set i x)
    unfold SmTs
    exact ⟨h.1,SmTs.set i h.2 k⟩
theorem encTs_set (u : Bool) (ds : List Tm) (i : Nat) (x : Tm) : (encTs u ds).set i (encT u x) = encTs u (ds.set i x) := by simp [encTs_map,List.map_set]
theorem eqDefs (o : Stack) (id : Id) (hid : id.1 < o.length) (B : List Nat) (p : Int) (hr : RdrOK B p) (hp : p + 2000 ≤ 1000000000) :
    ∃ ds q,p ≤ q ∧ q ≤ p + 2000 ∧ SmTs ds ∧ ds.length ≤ 3 ∧ callI H 57 [.ref id 1 0 0] (setS o id (rd B p)) = some (encQ true ds,setS o id (rd B q)) := by
  have hne2 : ¬ id.1 = o.length := by omega
  obtain ⟨n,a1,a2,c1⟩ := pickF o id hid B p 4 hr (by omega) (by omega)
  obtain ⟨N,hN⟩ : ∃ N : Nat,(N : Int) = n := ⟨n.toNat,by omega⟩
  subst hN
  obtain ⟨ds,q,f1,f2,f3,f4,hl⟩ := loopDf o id hid B N (by omega) N 0 (p + 1) [] (by omega) rfl (by unfold SmTs; trivial) (hr.next (by omega) (by omega)) (by omega)
  simp only [show dfP o.length [] = .nils from rfl,show dfL [] = [] from rfl,show ((0 : Nat) : Int) = 0 from rfl] at hl
  obtain ⟨k,b1,b2,c2⟩ := pickF o id hid B q 20 (hr.next (by omega) (by omega)) (by omega) (by omega)
  by_cases hN0 : N = 0
  · subst hN0
    obtain rfl : ds = [] := List.length_eq_zero_iff.1 f3
    refine ⟨[],q,by omega,by omega,f4,by simp, ?_⟩
    simp only [show dfP o.length [] = .nils from rfl,show dfL [] = [] from rfl,show ((0 : Nat) : Int) = 0 from rfl] at hl c1
    rw [callI_eq]
    simp [body1_eq _ _ (gpH 57) g57,c57,a57,hne2,setS_len,c1,hl,encQ]
  · have hpos : (0 : Int) < N := by omega
    have hpos2 : 0 < N := by omega
    have hne : ds ≠ [] := by intro e; subst e; simp at f3; omega
    rcases df_two o.length ds with ⟨h,h1,h2⟩ | ⟨h,h1,h2⟩
    · exact absurd h hne
    rw [h1,h2] at hl
    by_cases k0 : k = 0
    · subst k0
      obtain ⟨j,d1,d2,c3⟩ := pickF o id hid B (q + 1) N (hr.next (by omega) (by omega)) (by omega) (by omega)
      have hw : IntKind.i64.wrap ((N : Int) + 1) = (N : Int) + 1 := wrD (by omega)
      obtain ⟨m,m1,m2,c4⟩ := pickF o id hid B (q + 1 + 1) (N + 1) (hr.next (by omega) (by omega)) (by omega) (by omega)
      refine ⟨ds.set j.toNat (.mk 5 m []),q + 1 + 1 + 1,by omega,by omega,SmTs.set _ f4 (by unfold SmT SmTs; exact ⟨by omega,by omega,by simp,trivial⟩),by simp; omega, ?_⟩
      have hne' : ds.set j.toNat (.mk 5 m []) ≠ [] := by simpa using hne
      rw [encQ_c true hne',← encTs_set]
      have hlt : j.toNat < ds.length := by omega
      have hlt2 : j < ds.length := by omega
      obtain ⟨x1,x2,x3,hX,hx3⟩ := encT_form true ds[j.toNat]
      have hat : nth (encTs true ds) j.toNat = some (.agg [.i x1,.i x2,x3]) := by rw [← hX]; simp [nth,encTs_map,hlt]
      have hln := encTs_len true ds
      generalize encTs true ds = E at *
      subst f3
      rw [callI_eq]
      rcases hx3 with rfl | ⟨L,rfl⟩ <;> simp [body1_eq _ _ (gpH 57) g57,c57,a57,hne2,setS_len,c1,hl,hpos,hpos2,c2,c3,c4,hw,hln,hlt,hlt2,d1,hat,encT,encQ,unAgg]
    · refine ⟨ds,q + 1,by omega,by omega,f4,by omega, ?_⟩
      rw [encQ_c true hne]
      subst f3
      rw [callI_eq]
      simp [body1_eq _ _ (gpH 57) g57,c57,a57,hne2,setS_len,c1,hl,hpos,hpos2,c2,k0,encTs_len]
theorem defsF (o : Stack) (id : Id) (hid : id.1 < o.length) (B : List Nat) (p : Int) (hr : RdrOK B p) (hp : p + 2000 ≤ 1000000000) :
    ∃ ds q,p ≤ q ∧ q ≤ p + 2000 ∧ SmTs ds ∧ ds.length ≤ 3 ∧ callI H 57 [.ref id 1 0 0] (setS o id (rd B p) ++ [[]]) = some (encQ true ds,setS o id (rd B q) ++ [[]]) := by
  obtain ⟨t,q,e1,e2,e3,e4,e5⟩ := eqDefs (o ++ [[]]) id (hidA hid) B p hr hp
  exact ⟨t,q,e1,e2,e3,e4,frC hid e5⟩
end Go.Am
end
section
set_option maxRecDepth 10000
set_option maxHeartbeats 16000000
set_option linter.unusedSimpArgs false
set_option linter.unusedVariables false
namespace Go.Am
open Go.Proofs Go.Sort Go.Shelf
theorem tidyL_le (l : List Mv) : (tidyL l).length ≤ l.length := by
  have h : (srtM l).length = l.length := by simp [srtM]
  unfold tidyL
  cases hs : srtM l with
  | nil => simp [dd]
  | cons x r =>
    rw [hs] at h
    have := ddup_len x r
    simp only [dd,List.length_cons] at h ⊢
    omega
theorem loopWi1 (o : Stack) (id : Id) (hid : id.1 < o.length) (B : List Nat) (N : Nat) (few : Bool) (hN : 1 ≤ N) (hN2 : N ≤ 100) : ∀ (k s : Nat) (p : Int) (g : Gr),s + k = N → g.length = s → (∀ l ∈ g,l.length ≤ 3) → RdrOK B p → p + 13 * k ≤ 1000000000 →
    ∃ (g' : Gr) (q : Int),p ≤ q ∧ q ≤ p + 13 * k ∧ g'.length = N ∧ (∀ l ∈ g',l.length ≤ 3) ∧
      loopI H [0,4,5,6,7,8] [4,5,51] c41l1 ⟨[(0,.ref id 1 0 0),(4,.ref (o.length,4) 1 0 0),(5,.ref (o.length,5) 1 0 0),(6,.i N),(7,.b few),(8,.i s)],(4,.box [.nils]) :: (5,.box [gwP o.length g]) :: gwL g,setS o id (rd B p)⟩ =
        some (.exit 0,⟨[(0,.ref id 1 0 0),(4,.ref (o.length,4) 1 0 0),(5,.ref (o.length,5) 1 0 0),(6,.i N),(7,.b few),(8,.i N),(22,.b false)],(4,.box [.nils]) :: (5,.box [gwP o.length g']) :: gwL g',setS o id (rd B q)⟩)
  | 0,s,p,g,hs,hg,hl,hr,hp => by
    have : s = N := by omega
    subst this
    refine ⟨g,p,by omega,by omega,hg,hl, ?_⟩
    have hne2 : ¬ id.1 = o.length := by omega
    rw [loopI_eq]
    rcases gw_two o.length g with ⟨h,h1,h2⟩ | ⟨h,h1,h2⟩ <;> rw [h1,h2] <;>
      simp [r41l1,b41l1,setS_len,hne2]
  | k + 1,s,p,g,hs,hg,hl,hr,hp => by
    have hne2 : ¬ id.1 = o.length := by omega
    have hkk : ((k + 1 : Nat) : Int) = (k : Int) + 1 := by omega
    rw [hkk] at hp ⊢
    have hlt : (s : Int) < N := by omega
    have hw : IntKind.i64.wrap ((s : Int) + 1) = (s : Int) + 1 := wrD (by omega)
    obtain ⟨a,a1,a2,ca⟩ := pickF o id hid B p 4 hr (by omega) (by omega)
    have haN : ((a.toNat : Nat) : Int) = a := by omega
    obtain ⟨l',q1,e1,e2,e3,hi⟩ := loopWi0 o id hid B N s few g (by omega) (by omega) a.toNat (p + 1) [] (hr.next (by omega) (by omega)) (by omega) (by simp; omega)
    rw [haN] at hi e2
    simp only [List.map_nil,List.length_nil] at hi e3
    have hS := hSorted l' (by omega)
    have htl := tidyL_le l'
    have hfl := fals_mvP l'
    obtain ⟨g',q,f1,f2,f3,f4,hn⟩ := loopWi1 o id hid B N few hN hN2 k (s + 1) q1 (g ++ [tidyL l']) (by omega) (by simp [hg]) (fun l hl' => by
      rcases List.mem_append.1 hl' with h | h
      · exact hl l h
      · simp at h; subst h; omega) (hr.next (by omega) (by omega)) (by omega)
    refine ⟨g',q,by omega,by omega,f3,f4, ?_⟩
    refine Eq.trans ?_ hn
    have hss : ((s + 1 : Nat) : Int) = (s : Int) + 1 := by omega
    rw [hss]
    have hg9 : g.length ≤ 4294967295 := by omega
    have hgn : gwP o.length (g ++ [tidyL l']) = .own (o.length,51) (g.length + 1) := by simp [gwP]
    have hgl : gwL (g ++ [tidyL l']) = [(51,.row 1 (encGs true true g ++ [encL true true (tidyL l')]))] := by simp [gwL,encGs]
    rw [hgn,hgl]
    clear hn hss
    generalize tidyL l' = T at *
    rw [loopI_eq]
    rcases gw_two o.length g with ⟨h,h1,h2⟩ | ⟨h,h1,h2⟩ <;> rw [h1,h2] at hi ⊢ <;> rcases encL_two true true T with ⟨hT,_⟩ | hT <;> rw [hT] at hS ⊢ <;>
      (first | subst h | skip
       simp [r41l1,b41l1,setS_len,hne2,hlt,hw,ca,hi,hS,hfl,hg9,encGs_len,noShares_mv]
       try rfl)
end Go.Am
end
section
set_option maxRecDepth 10000
set_option maxHeartbeats 16000000
set_option linter.unusedSimpArgs false
set_option linter.unusedVariables false
namespace Go.Am
open Go.Proofs Go.Sort Go.Shelf
def TinyG (g : Gr) : Prop := g.length ≤ 100 ∧ ∀ l ∈ g,l.length ≤ 100
theorem TinyG.small {g : Gr} (h : TinyG g) : SmallG g := ⟨by have := h.1; omega,fun l hl => by have := h.2 l hl; omega⟩
theorem eqWild (o : Stack) (id : Id) (hid : id.1 < o.length) (B : List Nat) (p : Int) (most : Nat) (hm : 1 ≤ most) (hm2 : most ≤ 90) (hr : RdrOK B p) (hp : p + 2000 ≤ 1000000000) :
    ∃ g q,p ≤ q ∧ q ≤ p + 2000 ∧ TinyG g ∧ callI H 41 [.ref id 1 0 0,.i most] (setS o id (rd B p)) = some (encG true true g,setS o id (rd B q)) := by
  have hne2 : ¬ id.1 = o.length := by omega
  obtain ⟨k1,a1,a2,c1⟩ := pickF o id hid B p most hr (by omega) (by omega)
  obtain ⟨k2,b1,b2,c2⟩ := pickF o id hid B (p + 1) 2 (hr.next (by omega) (by omega)) (by omega) (by omega)
  have hw : IntKind.i64.wrap (1 + k1) = 1 + k1 := wrD (by omega)
  obtain ⟨N,hN⟩ : ∃ N : Nat,(N : Int) = 1 + k1 := ⟨(1 + k1).toNat,by omega⟩
  have hN1 : 1 ≤ N := by omega
  have hN2 : N ≤ 100 := by omega
  obtain ⟨g,q1,e1,e2,e3,e4,hl⟩ := loopWi1 o id hid B N (decide (k2 = 0)) hN1 hN2 N 0 (p + 1 + 1) [] (by omega) rfl (by simp) (hr.next (by omega) (by omega)) (by omega)
  obtain ⟨k3,d1,d2,c3⟩ := pickF o id hid B q1 30 (hr.next (by omega) (by omega)) (by omega) (by omega)
  simp only [show ((0 : Nat) : Int) = 0 from rfl,hN,show gwP o.length [] = .nils from rfl,show gwL [] = [] from rfl] at hl
  obtain ⟨r0,g,rfl⟩ : ∃ r0 r,g = r0 :: r := by
    cases g with
    | nil => simp at e3; omega
    | cons r0 r => exact ⟨r0,r,rfl⟩
  have h1 : gwP o.length (r0 :: g) = .own (o.length,51) (g.length + 1) := by simp [gwP]
  have h2 : gwL (r0 :: g) = [(51,.row 1 (encL true true r0 :: encGs true true g))] := by simp [gwL,encGs]
  rw [h1,h2] at hl
  have e30 := e4 r0 List.mem_cons_self
  have hns := noShares_mv r0
  by_cases k30 : k3 = 0
  · subst k30
    refine ⟨(r0 ++ [(9,0)]) :: g,q1 + 1,by omega,by omega,⟨by simp at e3 ⊢; omega,fun l hl' => ?_⟩, ?_⟩
    · rcases List.mem_cons.1 hl' with rfl | h
      · simp; omega
      · have := e4 l (List.mem_cons_of_mem _ h); omega
    · rw [callI_eq]
      rcases encL_two true true r0 with ⟨hT,h0⟩ | hT
      · subst h0
        rw [hT] at hl
        simp [body1_eq _ _ (gpH 41) g41,c41,a41,setS_len,hne2,c1,c2,hw,hl,c3,encGs_len,unAgg,mvP]
      · have hr9 : r0.length ≤ 4294967295 := by omega
        rw [hT] at hl
        simp [body1_eq _ _ (gpH 41) g41,c41,a41,setS_len,hne2,c1,c2,hw,hl,c3,encGs_len,unAgg,hr9,encL_ne,mvP]
  by_cases k31 : k3 = 1
  · subst k31
    refine ⟨(r0 ++ [(0,1 + k1)]) :: g,q1 + 1,by omega,by omega,⟨by simp at e3 ⊢; omega,fun l hl' => ?_⟩, ?_⟩
    · rcases List.mem_cons.1 hl' with rfl | h
      · simp; omega
      · have := e4 l (List.mem_cons_of_mem _ h); omega
    · rw [callI_eq]
      rcases encL_two true true r0 with ⟨hT,h0⟩ | hT
      · subst h0
        rw [hT] at hl
        simp [body1_eq _ _ (gpH 41) g41,c41,a41,setS_len,hne2,c1,c2,hw,hl,c3,encGs_len,unAgg,mvP]
      · have hr9 : r0.length ≤ 4294967295 := by omega
        rw [hT] at hl
        simp [body1_eq _ _ (gpH 41) g41,c41,a41,setS_len,hne2,c1,c2,hw,hl,c3,encGs_len,unAgg,hr9,encL_ne,mvP]
  by_cases k32 : k3 = 2
  · subst k32
    refine ⟨[],q1 + 1,by omega,by omega,⟨by simp,by simp⟩, ?_⟩
    rw [callI_eq]
    simp [body1_eq _ _ (gpH 41) g41,c41,a41,setS_len,hne2,c1,c2,hw,hl,c3]
  · refine ⟨r0 :: g,q1 + 1,by omega,by omega,⟨by omega,fun l hl' => by have := e4 l hl'; omega⟩, ?_⟩
    rw [callI_eq]
    simp [body1_eq _ _ (gpH 41) g41,c41,a41,setS_len,hne2,c1,c2,hw,hl,c3,k30,k31,k32,encGs_len]
theorem wildF (o : Stack) (id : Id) (hid : id.1 < o.length) (B : List Nat) (p : Int) (most : Nat) (hm : 1 ≤ most) (hm2 : most ≤ 90) (hr : RdrOK B p) (hp : p + 2000 ≤ 1000000000) :
    ∃ g q,p ≤ q ∧ q ≤ p + 2000 ∧ TinyG g ∧ callI H 41 [.ref id 1 0 0,.i most] (setS o id (rd B p) ++ [[]]) = some (encG true true g,setS o id (rd B q) ++ [[]]) := by
  obtain ⟨g,q,h1,h2,h3,h4⟩ := eqWild (o ++ [[]]) id (hidA hid) B p most hm hm2 hr hp
  exact ⟨g,q,h1,h2,h3,frC hid h4⟩
end Go.Am
end
section
set_option maxRecDepth 10000
set_option maxHeartbeats 16000000
set_option linter.unusedSimpArgs false
set_option linter.unusedVariables false
namespace Go.Am
open Go.Proofs Go.Sort Go.Shelf
theorem hGraphOf (ds : List Tm) (hs : SmTs ds) (hl : ds.length ≤ 1000) (t : Tm) (ht : SmT t) : ∃ (g : Gr) (ok : Bool),SmallG g ∧ callI H 26 [encT false t,encQ false ds] [] = some (.tup [encG true true g,.b ok],[]) := by
  obtain ⟨g,ok,h1,h2,h⟩ := eqGraphOf ds hs hl t ht
  refine ⟨g,ok,⟨by omega,fun l hl => by have := h2 l hl; omega⟩, ?_⟩
  rw [callI_prim' (p := viaP G 26 id) rfl]
  simpa only [viaP,List.map_cons,List.map_nil,id] using h
theorem encQ_two (ds : List Tm) : (ds = [] ∧ encQ true ds = .nils ∧ encQ false ds = .nils) ∨ (ds ≠ [] ∧ encQ true ds = .sl true 3 (encTs true ds) ∧ encQ false ds = .sl false 3 (encTs false ds)) := by
  cases ds with
  | nil => exact .inl ⟨rfl,rfl,rfl⟩
  | cons p ps => exact .inr ⟨by simp,by simp [encQ,encTs],by simp [encQ,encTs]⟩
theorem eqCalled (o : Stack) (id : Id) (hid : id.1 < o.length) (B : List Nat) (p : Int) (hr : RdrOK B p) (hp : p + 4000 ≤ 1000000000) :
    ∃ t ds q,p ≤ q ∧ q ≤ p + 4000 ∧ SmT t ∧ SmTs ds ∧ ds.length ≤ 3 ∧ callI H 40 [.ref id 1 0 0] (setS o id (rd B p)) = some (.tup [encT true t,encQ true ds],setS o id (rd B q)) := by
  have hne2 : ¬ id.1 = o.length := by omega
  obtain ⟨ds,q1,a1,a2,a3,a4,a5⟩ := defsF o id hid B p hr (by omega)
  obtain ⟨t,q2,b1,b2,b3,b4⟩ := termF o id hid B q1 ds.length (hr.next (by omega) (by omega)) a4 (by omega)
  obtain ⟨to,tn,tp,rfl,ht⟩ := encT_two t
  rcases encQ_two ds with ⟨rfl,d1,_⟩ | ⟨hd,d1,_⟩
  · refine ⟨.mk to tn tp,[],q2,by omega,by omega,b3,a3,by simp, ?_⟩
    rw [d1] at a5 ⊢
    simp only [List.length_nil,show ((0 : Nat) : Int) = 0 from rfl] at b4
    rw [callI_eq]
    rcases ht with ⟨rfl,ht⟩ | ⟨ht,hE⟩ <;> rw [ht] at b4 ⊢ <;> simp [body1_eq _ _ (gpH 40) g40,c40,a40,hne2,setS_len,a5,b4,encTs_len]
  · have hl := encTs_len true ds
    have hpos : (0 : Int) < ds.length := by
      have : ds.length ≠ 0 := fun e => hd (List.length_eq_zero_iff.1 e)
      omega
    have hpos2 : 0 < ds.length := by omega
    obtain ⟨k,c1,c2,c3⟩ := pickF o id hid B q2 3 (hr.next (by omega) (by omega)) (by omega) (by omega)
    rw [d1] at a5
    by_cases hk : k = 0
    · subst hk
      obtain ⟨j,e1,e2,e3⟩ := pickF o id hid B (q2 + 1) ds.length (hr.next (by omega) (by omega)) (by omega) (by omega)
      refine ⟨.mk 5 j [],ds,q2 + 1 + 1,by omega,by omega,by unfold SmT SmTs; exact ⟨by omega,by omega,by simp,trivial⟩,a3,a4, ?_⟩
      rw [d1]
      generalize encTs true ds = E at *
      generalize ds.length = n at *
      subst hl
      rw [callI_eq]
      rcases ht with ⟨rfl,ht⟩ | ⟨ht,hE⟩ <;> rw [ht] at b4 <;> simp [body1_eq _ _ (gpH 40) g40,c40,a40,hne2,setS_len,a5,b4,encTs_len,hpos,hpos2,c3,e3,encT,encQ]
    · refine ⟨.mk to tn tp,ds,q2 + 1,by omega,by omega,b3,a3,a4, ?_⟩
      rw [d1]
      generalize encTs true ds = E at *
      generalize ds.length = n at *
      subst hl
      rw [callI_eq]
      rcases ht with ⟨rfl,ht⟩ | ⟨ht,hE⟩ <;> rw [ht] at b4 ⊢ <;> simp [body1_eq _ _ (gpH 40) g40,c40,a40,hne2,setS_len,a5,b4,encTs_len,hpos,hpos2,c3,hk]
theorem calledF (o : Stack) (id : Id) (hid : id.1 < o.length) (B : List Nat) (p : Int) (hr : RdrOK B p) (hp : p + 4000 ≤ 1000000000) :
    ∃ t ds q,p ≤ q ∧ q ≤ p + 4000 ∧ SmT t ∧ SmTs ds ∧ ds.length ≤ 3 ∧ callI H 40 [.ref id 1 0 0] (setS o id (rd B p) ++ [[]]) = some (.tup [encT true t,encQ true ds],setS o id (rd B q) ++ [[]]) := by
  obtain ⟨t,ds,q,h1,h2,h3,h4,h5,h6⟩ := eqCalled (o ++ [[]]) id (hidA hid) B p hr hp
  exact ⟨t,ds,q,h1,h2,h3,h4,h5,frC hid h6⟩
theorem eqDrawG (o : Stack) (id : Id) (hid : id.1 < o.length) (B : List Nat) (p : Int) (hr : RdrOK B p) (hp : p + 10000 ≤ 1000000000) :
    ∃ g q,p ≤ q ∧ q ≤ p + 10000 ∧ SmallG g ∧ callI H 23 [.ref id 1 0 0] (setS o id (rd B p)) = some (encG true true g,setS o id (rd B q)) := by
  have hne2 : ¬ id.1 = o.length := by omega
  obtain ⟨k,a1,a2,c1⟩ := pickF o id hid B p 2 hr (by omega) (by omega)
  by_cases hk : k = 0
  · subst hk
    obtain ⟨t,ds,q1,b1,b2,b3,b4,b5,b6⟩ := calledF o id hid B (p + 1) (hr.next (by omega) (by omega)) (by omega)
    obtain ⟨g,ok,sg,hG⟩ := hGraphOf ds b4 (by omega) t b3
    obtain ⟨g2,q2,w1,w2,w3,w4⟩ := wildF o id hid B q1 6 (by omega) (by omega) (hr.next (by omega) (by omega)) (by omega)
    simp only [show ((6 : Nat) : Int) = 6 from rfl] at w4
    have hns := noShares_encGs true g
    have hft := fal_encT t
    have hfq := fal_encQ ds
    obtain ⟨to,tn,tp,rfl,ht⟩ := encT_two t
    cases ok with
    | true =>
      refine ⟨g,q1,by omega,by omega,sg, ?_⟩
      simp only [encG] at hG ⊢
      rw [callI_eq]
      rcases encQ_two ds with ⟨rfl,d1,d2⟩ | ⟨hd,d1,d2⟩ <;> rw [d1] at b6 hfq <;> rw [d2] at hG hfq <;> rcases ht with ⟨rfl,ht⟩ | ⟨ht,hE⟩ <;> rw [ht] at b6 hft <;> simp only [fal,fals] at hft hfq <;> rw [← hft] at hG <;> rcases encM_two true true g with ⟨e,_⟩ | e <;> rw [e] at hG ⊢ <;>
        (try (simp only [PV.sl.injEq,true_and] at hfq; rw [← hfq] at hG)
         simp [body1_eq _ _ (gpH 23) g23,c23,a23,hne2,setS_len,c1,b6,hG,encTs_len,hns,encGs_len])
    | false =>
      refine ⟨g2,q2,by omega,by omega,w3.small, ?_⟩
      have hns2 := noShares_encGs true g2
      simp only [encG] at hG w4 ⊢
      rw [callI_eq]
      rcases encQ_two ds with ⟨rfl,d1,d2⟩ | ⟨hd,d1,d2⟩ <;> rw [d1] at b6 hfq <;> rw [d2] at hG hfq <;> rcases ht with ⟨rfl,ht⟩ | ⟨ht,hE⟩ <;> rw [ht] at b6 hft <;> simp only [fal,fals] at hft hfq <;> rw [← hft] at hG <;> rcases encM_two true true g with ⟨e,_⟩ | e <;> rw [e] at hG <;> rcases encM_two true true g2 with ⟨e',_⟩ | e' <;> rw [e'] at w4 ⊢ <;>
        (try (simp only [PV.sl.injEq,true_and] at hfq; rw [← hfq] at hG)
         simp [body1_eq _ _ (gpH 23) g23,c23,a23,hne2,setS_len,c1,b6,hG,w4,encTs_len,hns,hns2,encGs_len])
  · obtain ⟨g2,q2,w1,w2,w3,w4⟩ := wildF o id hid B (p + 1) 6 (by omega) (by omega) (hr.next (by omega) (by omega)) (by omega)
    simp only [show ((6 : Nat) : Int) = 6 from rfl] at w4
    refine ⟨g2,q2,by omega,by omega,w3.small, ?_⟩
    simp only [encG] at w4 ⊢
    rw [callI_eq]
    rcases encM_two true true g2 with ⟨e',_⟩ | e' <;> rw [e'] at w4 ⊢ <;> simp [body1_eq _ _ (gpH 23) g23,c23,a23,hne2,setS_len,c1,hk,w4,encGs_len]
theorem drawGF (o : Stack) (id : Id) (hid : id.1 < o.length) (B : List Nat) (p : Int) (hr : RdrOK B p) (hp : p + 10000 ≤ 1000000000) :
    ∃ g q,p ≤ q ∧ q ≤ p + 10000 ∧ SmallG g ∧ callI H 23 [.ref id 1 0 0] (setS o id (rd B p) ++ [[]]) = some (encG true true g,setS o id (rd B q) ++ [[]]) := by
  obtain ⟨g,q,h1,h2,h3,h4⟩ := eqDrawG (o ++ [[]]) id (hidA hid) B p hr hp
  exact ⟨g,q,h1,h2,h3,frC hid h4⟩
end Go.Am
end
section
set_option maxRecDepth 10000
set_option maxHeartbeats 4000000
set_option linter.unusedSimpArgs false
set_option linter.unusedVariables false
namespace Go.Am
open Go.Proofs Go.Sort Go.Shelf
mutual
theorem tree_encT (u : Bool) : ∀ t : Tm,tree (encT u t) = true
  | .mk o n ps => by simp only [encT,tree,trees,Bool.true_and,Bool.and_true]; exact tree_encQ u ps
theorem tree_encQ (u : Bool) : ∀ ps : List Tm,tree (encQ u ps) = true
  | [] => rfl
  | p :: ps => by simp only [encQ,tree,trees]; rw [tree_encT u p,trees_encTs u ps]; rfl
theorem trees_encTs (u : Bool) : ∀ ps : List Tm,trees (encTs u ps) = true
  | [] => rfl
  | p :: ps => by simp only [encTs,trees]; rw [tree_encT u p,trees_encTs u ps]; rfl
end
mutual
theorem fal_encTF : ∀ t : Tm,fal (encT false t) = encT false t
  | .mk o n ps => by simp only [encT,fal,fals]; rw [fal_encQF ps]
theorem fal_encQF : ∀ ps : List Tm,fal (encQ false ps) = encQ false ps
  | [] => rfl
  | p :: ps => by simp only [encQ,fal,fals]; rw [fal_encTF p,fals_encTsF ps]
theorem fals_encTsF : ∀ ps : List Tm,fals (encTs false ps) = encTs false ps
  | [] => rfl
  | p :: ps => by simp only [encTs,fals]; rw [fal_encTF p,fals_encTsF ps]
end
theorem encQ_twoF (ds : List Tm) : (ds = [] ∧ encQ false ds = .nils) ∨ encQ false ds = .sl false 3 (encTs false ds) := by
  cases ds with
  | nil => exact .inl ⟨rfl,rfl⟩
  | cons p ps => exact .inr (by simp [encQ,encTs])
theorem encM_twoF (q : Gr) : encM' true false q = .nils ∨ encM' true false q = .sl false 1 (encGs true false q) := by
  rcases encM_two true false q with ⟨h,_⟩ | h
  · exact .inl h
  · exact .inr h
theorem encQ_twoG (ps : List Tm) : encQ false ps = .nils ∨ encQ false ps = .sl false 3 (encTs false ps) := by
  rcases encQ_twoF ps with ⟨_,h⟩ | h
  · exact .inl h
  · exact .inr h
section
variable (gg : Gr)
@[simp ↓ high] theorem cellP_M : cellP (encM' true false gg) = true := by rcases encM_twoF gg with h | h <;> rw [h] <;> rfl
@[simp ↓ high] theorem cells_M : (encM' true false gg).cells = [encM' true false gg] := by rcases encM_twoF gg with h | h <;> rw [h] <;> rfl
@[simp ↓ high] theorem sure_M : sure (encM' true false gg) = true := by rcases encM_twoF gg with h | h <;> rw [h] <;> rfl
@[simp ↓ high] theorem plain_M : plain (encM' true false gg) = true := by rcases encM_twoF gg with h | h <;> rw [h] <;> rfl
@[simp ↓ high] theorem atLvl_M (n) : atLvl n (encM' true false gg) = false := by rcases encM_twoF gg with h | h <;> rw [h] <;> rfl
@[simp ↓ high] theorem noRef_M : noRef (encM' true false gg) = true := by rcases encM_twoF gg with h | h <;> rw [h] <;> rfl
@[simp ↓ high] theorem upTo_M (n) : upTo n (encM' true false gg) = true := by rcases encM_twoF gg with h | h <;> rw [h] <;> rfl
@[simp ↓ high] theorem known_M (g n) : known g n (encM' true false gg) = true := by rcases encM_twoF gg with h | h <;> rw [h] <;> rfl
@[simp ↓ high] theorem snap_M (g) : snap g (encM' true false gg) = some (encM' true false gg) := by rcases encM_twoF gg with h | h <;> rw [h] <;> rfl
@[simp ↓ high] theorem snapE_M (g) : snapE g (encM' true false gg) = some (encM' true false gg) := by rcases encM_twoF gg with h | h <;> rw [h] <;> rfl
@[simp ↓ high] theorem rowId_M (g) : rowId g (encM' true false gg) = [] := by rcases encM_twoF gg with h | h <;> rw [h] <;> rfl
@[simp ↓ high] theorem rowIdE_M (g) : rowIdE g (encM' true false gg) = [] := by rcases encM_twoF gg with h | h <;> rw [h] <;> rfl
@[simp ↓ high] theorem expo1_M (n g) : expo1 n g (encM' true false gg) = some (encM' true false gg,[]) := by rcases encM_twoF gg with h | h <;> rw [h] <;> rfl
@[simp ↓ high] theorem expoC_M (n g) : expoC n g (encM' true false gg) = some (encM' true false gg,[]) := by rcases encM_twoF gg with h | h <;> rw [h] <;> rfl
@[simp ↓ high] theorem impo1_M (n d q) : impo1 n d (encM' true false gg) q = (encM' true false gg,q,[]) := by rcases encM_twoF gg with h | h <;> rw [h] <;> rfl
@[simp ↓ high] theorem pack1_M (mv g) : pack1 mv g (encM' true false gg) = some (encM' true false gg,[]) := by rcases encM_twoF gg with h | h <;> rw [h] <;> rfl
@[simp ↓ high] theorem expoE_M (n g) : expoE n g (encM' true false gg) = some (encM' true false gg,[]) := by rcases encM_twoF gg with h | h <;> rw [h] <;> rfl
@[simp ↓ high] theorem expo_M (n g) : expo n g (encM' true false gg) = some (encM' true false gg,[]) := by rcases encM_twoF gg with h | h <;> rw [h] <;> rfl
@[simp ↓ high] theorem impoE_M (n d q) : impoE n d (encM' true false gg) q = (encM' true false gg,q,[]) := by rcases encM_twoF gg with h | h <;> rw [h] <;> rfl
@[simp ↓ high] theorem impo_M (n d q) : impo n d (encM' true false gg) q = (encM' true false gg,q,[]) := by rcases encM_twoF gg with h | h <;> rw [h] <;> rfl
@[simp ↓ high] theorem packE_M (mv g) : packE mv g (encM' true false gg) = some (encM' true false gg,[]) := by rcases encM_twoF gg with h | h <;> rw [h] <;> rfl
end
section
variable (ps : List Tm)
@[simp ↓ high] theorem cellP_Q : cellP (encQ false ps) = true := by rcases encQ_twoG ps with h | h <;> rw [h] <;> rfl
@[simp ↓ high] theorem cells_Q : (encQ false ps).cells = [encQ false ps] := by rcases encQ_twoG ps with h | h <;> rw [h] <;> rfl
@[simp ↓ high] theorem sure_Q : sure (encQ false ps) = true := by rcases encQ_twoG ps with h | h <;> rw [h] <;> rfl
@[simp ↓ high] theorem plain_Q : plain (encQ false ps) = true := by rcases encQ_twoG ps with h | h <;> rw [h] <;> rfl
@[simp ↓ high] theorem atLvl_Q (n) : atLvl n (encQ false ps) = false := by rcases encQ_twoG ps with h | h <;> rw [h] <;> rfl
@[simp ↓ high] theorem noRef_Q : noRef (encQ false ps) = true := by rcases encQ_twoG ps with h | h <;> rw [h] <;> rfl
@[simp ↓ high] theorem upTo_Q (n) : upTo n (encQ false ps) = true := by rcases encQ_twoG ps with h | h <;> rw [h] <;> rfl
@[simp ↓ high] theorem known_Q (g n) : known g n (encQ false ps) = true := by rcases encQ_twoG ps with h | h <;> rw [h] <;> rfl
@[simp ↓ high] theorem snap_Q (g) : snap g (encQ false ps) = some (encQ false ps) := by rcases encQ_twoG ps with h | h <;> rw [h] <;> rfl
@[simp ↓ high] theorem snapE_Q (g) : snapE g (encQ false ps) = some (encQ false ps) := by rcases encQ_twoG ps with h | h <;> rw [h] <;> rfl
@[simp ↓ high] theorem rowId_Q (g) : rowId g (encQ false ps) = [] := by rcases encQ_twoG ps with h | h <;> rw [h] <;> rfl
@[simp ↓ high] theorem rowIdE_Q (g) : rowIdE g (encQ false ps) = [] := by rcases encQ_twoG ps with h | h <;> rw [h] <;> rfl
@[simp ↓ high] theorem expo1_Q (n g) : expo1 n g (encQ false ps) = some (encQ false ps,[]) := by rcases encQ_twoG ps with h | h <;> rw [h] <;> rfl
@[simp ↓ high] theorem expoC_Q (n g) : expoC n g (encQ false ps) = some (encQ false ps,[]) := by rcases encQ_twoG ps with h | h <;> rw [h] <;> rfl
@[simp ↓ high] theorem impo1_Q (n d q) : impo1 n d (encQ false ps) q = (encQ false ps,q,[]) := by rcases encQ_twoG ps with h | h <;> rw [h] <;> rfl
@[simp ↓ high] theorem pack1_Q (mv g) : pack1 mv g (encQ false ps) = some (encQ false ps,[]) := by rcases encQ_twoG ps with h | h <;> rw [h] <;> rfl
@[simp ↓ high] theorem expoE_Q (n g) : expoE n g (encQ false ps) = some (encQ false ps,[]) := by rcases encQ_twoG ps with h | h <;> rw [h] <;> rfl
@[simp ↓ high] theorem expo_Q (n g) : expo n g (encQ false ps) = some (encQ false ps,[]) := by rcases encQ_twoG ps with h | h <;> rw [h] <;> rfl
@[simp ↓ high] theorem impoE_Q (n d q) : impoE n d (encQ false ps) q = (encQ false ps,q,[]) := by rcases encQ_twoG ps with h | h <;> rw [h] <;> rfl
@[simp ↓ high] theorem impo_Q (n d q) : impo n d (encQ false ps) q = (encQ false ps,q,[]) := by rcases encQ_twoG ps with h | h <;> rw [h] <;> rfl
@[simp ↓ high] theorem packE_Q (mv g) : packE mv g (encQ false ps) = some (encQ false ps,[]) := by rcases encQ_twoG ps with h | h <;> rw [h] <;> rfl
end
theorem encT_open (o n : Int) (ps : List Tm) : encT false (.mk o n ps) = .agg [.i o,.i n,encQ false ps] := by simp only [encT]
@[simp ↓ high] theorem exK_Q (ps : List Tm) : exK (some (encQ false ps)) = some (encQ false ps,[]) := by rcases encQ_twoG ps with h | h <;> rw [h] <;> rfl
@[simp ↓ high] theorem exK_M (gg : Gr) : exK (some (encM' true false gg)) = some (encM' true false gg,[]) := by rcases encM_twoF gg with h | h <;> rw [h] <;> rfl
@[simp ↓ high] theorem fal_Q (ps : List Tm) : fal (encQ false ps) = encQ false ps := fal_encQF ps
@[simp high] theorem c_lenQ (n d : Nat) (g : Id → Option OB) (ps : List Tm) : core1 n d g .len [encQ false ps] = some (.i ps.length,[]) := by
  rcases encQ_twoF ps with ⟨rfl,h⟩ | h <;> rw [h]
  · simp
  · simp [encTs_len]
end Go.Am
end
section
set_option maxRecDepth 10000
set_option maxHeartbeats 16000000
set_option linter.unusedSimpArgs false
set_option linter.unusedVariables false
namespace Go.Am
open Go.Proofs Go.Sort Go.Shelf
theorem mPick {args : List PV} {o : Stack} {x : Option (PV × Stack)} (h : callI H 24 args o = x) : callI M 24 args o = x := by
  rw [callI_prim' (p := viaP H 24 id) rfl]
  simpa only [viaP,List.map_id_fun,id] using h
theorem mDo {args : List PV} {o : Stack} {x : Option (PV × Stack)} (h : callI H 43 args o = x) : callI M 43 args o = x := by
  rw [callI_prim' (p := viaP H 43 id) rfl]
  simpa only [viaP,List.map_id_fun,id] using h
theorem mCalled {args : List PV} {o o' : Stack} {t : Tm} {ds : List Tm} (h : callI H 40 args o = some (.tup [encT true t,encQ true ds],o')) : callI M 40 args o = some (.tup [encT false t,encQ false ds],o') := by
  rw [callI_prim' (p := lowTP H 40 id) rfl]
  simp only [lowTP,viaP,List.map_id_fun,id,h,lowTR,trees,tree_encT,tree_encQ,Bool.and_self,if_true,fals,fal_encT,fal_encQ]
theorem mTerm {args : List PV} {o o' : Stack} {t : Tm} (h : callI H 42 args o = some (encT true t,o')) : callI M 42 args o = some (encT false t,o') := by
  rw [callI_prim' (p := lowXP H 42 id) rfl]
  simp only [lowXP,viaP,List.map_id_fun,id,h,lowXR,tree_encT,if_true,fal_encT]
def TrT (T : PV) (t : Tm) : Prop := tree T = true ∧ fal T = encT false t
theorem TrT.enc (t : Tm) : TrT (encT false t) t := ⟨tree_encT false t,fal_encTF t⟩
theorem TrT.mk {o n : Int} {xs : List PV} {p : Tm} {ps : List Tm} (h1 : trees xs = true) (h2 : fals xs = encTs false (p :: ps)) : TrT (.agg [.i o,.i n,.sl true 3 xs]) (.mk o n (p :: ps)) := by
  refine ⟨by simp [tree,trees,h1], ?_⟩
  simp only [fal,fals,h2,encT,encQ,encTs]
theorem SmT.of {o n : Int} {ps : List Tm} (h1 : -9223372036854775808 ≤ o ∧ o ≤ 9223372036854775807) (h2 : -9223372036854775808 ≤ n ∧ n ≤ 9223372036854775807) (h3 : ps.length ≤ 3) (h4 : SmTs ps) : SmT (.mk o n ps) := by
  unfold SmT; exact ⟨h1,h2,h3,h4⟩
theorem SmTs.cons {p : Tm} {ps : List Tm} (h1 : SmT p) (h2 : SmTs ps) : SmTs (p :: ps) := by
  unfold SmTs; exact ⟨h1,h2⟩
theorem SmTs.nil : SmTs [] := by unfold SmTs; trivial
theorem SmT.zero : SmT (.mk 0 0 []) := SmT.of (by omega) (by omega) (by simp) SmTs.nil
theorem eqPair (o : Stack) (id : Id) (hid : id.1 < o.length) (B : List Nat) (p : Int) (hr : RdrOK B p) (hp : p + 6000 ≤ 1000000000) :
    ∃ t u ds q T U,p ≤ q ∧ q ≤ p + 6000 ∧ SmT t ∧ SmT u ∧ SmTs ds ∧ ds.length ≤ 3 ∧ TrT T t ∧ TrT U u ∧ callI M 25 [.ref id 1 0 0] (setS o id (rd B p)) = some (.tup [T,U,encQ false ds],setS o id (rd B q)) := by
  have hne2 : ¬ id.1 = o.length := by omega
  obtain ⟨t,ds,q1,a1,a2,st,sds,ld,a3⟩ := calledF o id hid B p hr (by omega)
  have a3 := mCalled a3
  obtain ⟨u,q2,b1,b2,su,b3⟩ := termF o id hid B q1 ds.length (hr.next (by omega) (by omega)) ld (by omega)
  have b3 := mTerm b3
  obtain ⟨k,c1,c2,c3⟩ := pickF o id hid B q2 5 (hr.next (by omega) (by omega)) (by omega) (by omega)
  have c3 := mPick c3
  have hk : k = 0 ∨ k = 1 ∨ k = 2 ∨ k = 3 ∨ k = 4 := by omega
  have ft := fal_encTF t
  have tt := tree_encT false t
  have hD : (ds = [] ∧ callI M 42 [.ref id 1 0 0,.i 0] (setS o id (rd B q1) ++ [[]]) = some (encT false u,setS o id (rd B q2) ++ [[]])) ∨ encQ false ds = .sl false 3 (encTs false ds) := by
    rcases encQ_twoF ds with ⟨rfl,_⟩ | e
    · exact .inl ⟨rfl,b3⟩
    · exact .inr e
  have hlen := encTs_len false ds
  have et : ∃ to tn tp,t = .mk to tn tp := by cases t; exact ⟨_,_,_,rfl⟩
  have eu : ∃ uo un up,u = .mk uo un up := by cases u; exact ⟨_,_,_,rfl⟩
  obtain ⟨uo,un,up,rfl⟩ := eu
  rcases hk with rfl | rfl | rfl | rfl | rfl
  · refine ⟨t,.mk 2 0 [t,t],ds,q2 + 1,encT false t,.agg [.i 2,.i 0,.sl true 3 [encT false t,encT false t]],by omega,by omega,st,SmT.of (by omega) (by omega) (by simp) (SmTs.cons st (SmTs.cons st SmTs.nil)),sds,ld,TrT.enc t,TrT.mk (by simp [trees,tt]) (by simp [fals,ft,encTs]), ?_⟩
    obtain ⟨to,tn,tp,rfl⟩ := et
    rw [encT_open] at a3 b3 hD ⊢
    rcases hD with ⟨rfl,hb⟩ | hd
    · simp only [encQ] at a3 ⊢
      rw [callI_eq]
      simp [body1_eq _ _ (gpM 25) g25,c25,a25,hne2,setS_len,a3,hb,c3]
    · rw [hd] at a3 ⊢
      rw [callI_eq]
      simp [body1_eq _ _ (gpM 25) g25,c25,a25,hne2,setS_len,a3,b3,c3,hlen]
  · refine ⟨t,.mk 3 0 [t,.mk 0 0 []],ds,q2 + 1,encT false t,.agg [.i 3,.i 0,.sl true 3 [encT false t,.agg [.i 0,.i 0,.nils]]],by omega,by omega,st,SmT.of (by omega) (by omega) (by simp) (SmTs.cons st (SmTs.cons SmT.zero SmTs.nil)),sds,ld,TrT.enc t,TrT.mk (by simp [trees,tree,tt]) (by simp [fals,fal,ft,encTs,encT,encQ]), ?_⟩
    obtain ⟨to,tn,tp,rfl⟩ := et
    rw [encT_open] at a3 b3 hD ⊢
    rcases hD with ⟨rfl,hb⟩ | hd
    · simp only [encQ] at a3 ⊢
      rw [callI_eq]
      simp [body1_eq _ _ (gpM 25) g25,c25,a25,hne2,setS_len,a3,hb,c3]
    · rw [hd] at a3 ⊢
      rw [callI_eq]
      simp [body1_eq _ _ (gpM 25) g25,c25,a25,hne2,setS_len,a3,b3,c3,hlen]
  · obtain ⟨to,tn,tp,rfl⟩ := et
    by_cases h2 : (to = 2 ∨ to = 3) ∧ ∃ x y,tp = [x,y]
    · obtain ⟨hto,x,y,rfl⟩ := h2
      have sx : SmT x ∧ SmT y := by
        unfold SmT at st
        have h := st.2.2.2
        unfold SmTs at h
        have h2 := h.2
        unfold SmTs at h2
        exact ⟨h.1,h2.1⟩
      refine ⟨.mk to tn [x,y],.mk to 0 [y,x],ds,q2 + 1,encT false (.mk to tn [x,y]),.agg [.i to,.i 0,.sl true 3 [encT false y,encT false x]],by omega,by omega,st,SmT.of (by omega) (by omega) (by simp) (SmTs.cons sx.2 (SmTs.cons sx.1 SmTs.nil)),sds,ld,TrT.enc _,TrT.mk (by simp [trees,tree_encT]) (by simp [fals,fal_encTF,encTs]), ?_⟩
      have e : encT false (.mk to tn [x,y]) = .agg [.i to,.i tn,.sl false 3 [encT false x,encT false y]] := by simp [encT,encQ,encTs]
      rw [e] at a3 ⊢
      rw [encT_open] at b3 hD
      obtain ⟨xo,xn,xp⟩ := x
      obtain ⟨yo,yn,yp⟩ := y
      rw [encT_open,encT_open] at a3 ⊢
      rcases hto with rfl | rfl
      · rcases hD with ⟨rfl,hb⟩ | hd
        · simp only [encQ] at a3 ⊢
          rw [callI_eq]
          simp [body1_eq _ _ (gpM 25) g25,c25,a25,hne2,setS_len,a3,hb,c3]
        · rw [hd] at a3 ⊢
          rw [callI_eq]
          simp [body1_eq _ _ (gpM 25) g25,c25,a25,hne2,setS_len,a3,b3,c3,hlen]
      · rcases hD with ⟨rfl,hb⟩ | hd
        · simp only [encQ] at a3 ⊢
          rw [callI_eq]
          simp [body1_eq _ _ (gpM 25) g25,c25,a25,hne2,setS_len,a3,hb,c3]
        · rw [hd] at a3 ⊢
          rw [callI_eq]
          simp [body1_eq _ _ (gpM 25) g25,c25,a25,hne2,setS_len,a3,b3,c3,hlen]
    · refine ⟨.mk to tn tp,.mk uo un up,ds,q2 + 1,encT false (.mk to tn tp),encT false (.mk uo un up),by omega,by omega,st,su,sds,ld,TrT.enc _,TrT.enc _, ?_⟩
      have hlt : to = 2 ∨ to = 3 → ¬ tp.length = 2 := by
        intro h3 h4
        match tp,h4 with
        | [x,y],_ => exact h2 ⟨h3,x,y,rfl⟩
      clear h2
      rw [encT_open] at a3 b3 hD ⊢
      rw [encT_open]
      by_cases h22 : to = 2
      · have hq := hlt (.inl h22)
        have hq2 : ¬ (tp.length : Int) = 2 := by omega
        subst h22
        rcases hD with ⟨rfl,hb⟩ | hd
        · simp only [encQ] at a3 ⊢
          rw [callI_eq]
          simp [body1_eq _ _ (gpM 25) g25,c25,a25,hne2,setS_len,a3,hb,c3,hq,hq2]
        · rw [hd] at a3 ⊢
          rw [callI_eq]
          simp [body1_eq _ _ (gpM 25) g25,c25,a25,hne2,setS_len,a3,b3,c3,hlen,hq,hq2]
      · by_cases h33 : to = 3
        · have hq := hlt (.inr h33)
          have hq2 : ¬ (tp.length : Int) = 2 := by omega
          subst h33
          rcases hD with ⟨rfl,hb⟩ | hd
          · simp only [encQ] at a3 ⊢
            rw [callI_eq]
            simp [body1_eq _ _ (gpM 25) g25,c25,a25,hne2,setS_len,a3,hb,c3,hq,hq2]
          · rw [hd] at a3 ⊢
            rw [callI_eq]
            simp [body1_eq _ _ (gpM 25) g25,c25,a25,hne2,setS_len,a3,b3,c3,hlen,hq,hq2]
        · rcases hD with ⟨rfl,hb⟩ | hd
          · simp only [encQ] at a3 ⊢
            rw [callI_eq]
            simp [body1_eq _ _ (gpM 25) g25,c25,a25,hne2,setS_len,a3,hb,c3,h22,h33]
          · rw [hd] at a3 ⊢
            rw [callI_eq]
            simp [body1_eq _ _ (gpM 25) g25,c25,a25,hne2,setS_len,a3,b3,c3,hlen,h22,h33]
  · obtain ⟨a,q3,d1,d2,d3,d4,d5⟩ := doF o id hid B (q2 + 1) (hr.next (by omega) (by omega)) (by omega)
    have d5 := mDo d5
    have s1 : SmT (.mk 1 a [t]) := SmT.of (by omega) (by omega) (by simp) (SmTs.cons st SmTs.nil)
    have s2 : SmT (.mk 1 0 [t]) := SmT.of (by omega) (by omega) (by simp) (SmTs.cons st SmTs.nil)
    refine ⟨.mk 1 a [t],.mk 1 a [.mk 1 0 [t]],ds,q3,.agg [.i 1,.i a,.sl true 3 [encT false t]],.agg [.i 1,.i a,.sl true 3 [.agg [.i 1,.i 0,.sl true 3 [encT false t]]]],by omega,by omega,s1,SmT.of (by omega) (by omega) (by simp) (SmTs.cons s2 SmTs.nil),sds,ld,TrT.mk (by simp [trees,tt]) (by simp [fals,ft,encTs]),TrT.mk (by simp [trees,tree,tt]) (by simp [fals,fal,ft,encTs,encT,encQ]), ?_⟩
    obtain ⟨to,tn,tp,rfl⟩ := et
    rw [encT_open] at a3 b3 hD ⊢
    rcases hD with ⟨rfl,hb⟩ | hd
    · simp only [encQ] at a3 ⊢
      rw [callI_eq]
      simp [body1_eq _ _ (gpM 25) g25,c25,a25,hne2,setS_len,a3,hb,c3,d5]
    · rw [hd] at a3 ⊢
      rw [callI_eq]
      simp [body1_eq _ _ (gpM 25) g25,c25,a25,hne2,setS_len,a3,b3,c3,hlen,d5]
  · refine ⟨t,.mk uo un up,ds,q2 + 1,encT false t,encT false (.mk uo un up),by omega,by omega,st,su,sds,ld,TrT.enc t,TrT.enc _, ?_⟩
    obtain ⟨to,tn,tp,rfl⟩ := et
    rw [encT_open] at a3 b3 hD ⊢
    rw [encT_open]
    rcases hD with ⟨rfl,hb⟩ | hd
    · simp only [encQ] at a3 ⊢
      rw [callI_eq]
      simp [body1_eq _ _ (gpM 25) g25,c25,a25,hne2,setS_len,a3,hb,c3]
    · rw [hd] at a3 ⊢
      rw [callI_eq]
      simp [body1_eq _ _ (gpM 25) g25,c25,a25,hne2,setS_len,a3,b3,c3,hlen]
theorem pairF (o : Stack) (id : Id) (hid : id.1 < o.length) (B : List Nat) (p : Int) (hr : RdrOK B p) (hp : p + 6000 ≤ 1000000000) :
    ∃ t u ds q,p ≤ q ∧ q ≤ p + 6000 ∧ SmT t ∧ SmT u ∧ SmTs ds ∧ ds.length ≤ 3 ∧ callI N 25 [.ref id 1 0 0] (setS o id (rd B p) ++ [[]]) = some (.tup [encT false t,encT false u,encQ false ds],setS o id (rd B q) ++ [[]]) := by
  obtain ⟨t,u,ds,q,T,U,h1,h2,h3,h4,h5,h6,h7,h8,h9⟩ := eqPair (o ++ [[]]) id (hidA hid) B p hr hp
  refine ⟨t,u,ds,q,h1,h2,h3,h4,h5,h6, ?_⟩
  rw [setS_app _ _ _ _ hid,setS_app _ _ _ _ hid] at h9
  rw [callI_prim' (p := lowTP M 25 _root_.id) rfl]
  simp only [lowTP,viaP,List.map_id_fun,_root_.id,h9,lowTR,trees,h7.1,h8.1,tree_encQ,Bool.and_self,if_true,fals,h7.2,h8.2,fal_encQF]
end Go.Am
end
section
set_option maxRecDepth 10000
set_option maxHeartbeats 1000000
set_option linter.unusedSimpArgs false
set_option linter.unusedVariables false
namespace Go.Am
open Go.Proofs Go.Sort Go.Shelf
def clAt (cl : List Int) (x : Int) : Int := cl.getD x.toNat 0
def hasM (cl : List Int) (act to : Int) (m : Mv) : Bool := decide (m.1 = act) && decide (clAt cl m.2 = to)
def hasL (cl : List Int) (l : List Mv) (act to : Int) : Bool := l.any (hasM cl act to)
theorem loopHas (E : List PV) (g : Gr) (hE : EncR false E g) (cl : List Int) (hcl : cl.length = g.length) (s : Int) (hs : 0 ≤ s ∧ s < g.length) (L : List Mv) (hL : g.getD s.toNat [] = L) (hLl : L.length ≤ 1048576) (hto : ∀ m ∈ L,0 ≤ m.2 ∧ m.2 < g.length) (act to : Int) : ∀ (rest done : List Mv),L = done ++ rest →
    ∃ r,loopI G [1,2,3,4,5,11] [5] c112l0 ⟨[(1,.i s),(2,.i act),(3,.sl false 1 (cl.map PV.i)),(4,.i to),(5,.ref (0,5) 1 0 0),(11,.i done.length)],[(5,.box [PV.sl false 1 E])],[]⟩ = some r ∧
      ((hasL cl rest act to = true ∧ r = (.ret,⟨[(10,.b true)],[],[]⟩)) ∨ (hasL cl rest act to = false ∧ r = (.exit 0,⟨[(1,.i s),(2,.i act),(3,.sl false 1 (cl.map PV.i)),(4,.i to),(5,.ref (0,5) 1 0 0),(11,.i L.length),(20,.b false)],[(5,.box [PV.sl false 1 E])],[]⟩)))
  | [],done,hd => by
    rw [List.append_nil] at hd
    subst hd
    have hEl := hE.1
    have hsn : s.toNat < g.length := by omega
    obtain ⟨nl,hat⟩ := hE.2 s.toNat hsn
    rw [hL] at hat
    have hs1 := hs.1
    have hs2 := hs.2
    refine ⟨_, ?_,.inr ⟨rfl,rfl⟩⟩
    clear hE
    rw [loopI_eq]
    rcases encL_two nl false L with ⟨e,e2⟩ | e
    · rw [e] at hat
      subst e2
      simp [r112l0,b112l0,hEl,hs1,hs2,hat]
    · rw [e] at hat
      simp [r112l0,b112l0,hEl,hs1,hs2,hat]
  | m :: rest,done,hd => by
    have hEl := hE.1
    have hsn : s.toNat < g.length := by omega
    obtain ⟨nl,hat⟩ := hE.2 s.toNat hsn
    rw [hL] at hat
    have hs1 := hs.1
    have hs2 := hs.2
    have hen : encL nl false L = .sl false 2 (L.map mvP) := encL_ne (by rw [hd]; simp)
    rw [hen] at hat
    have hLl2 : L.length = done.length + (rest.length + 1) := by rw [hd]; simp
    have hlt : (done.length : Int) < L.length := by omega
    have hlt2 : done.length < L.length := by omega
    have hw : IntKind.i64.wrap ((done.length : Int) + 1) = (done.length : Int) + 1 := wr (by omega)
    have hat2 : nth (L.map mvP) done.length = some (mvP m) := by rw [hd]; exact mv_at done m rest
    have hm := hto m (by rw [hd]; simp)
    have hm1 := hm.1
    have hm2 := hm.2
    have hc : nth (cl.map PV.i) m.2.toNat = some (.i (clAt cl m.2)) := int_nth cl m.2.toNat (by omega)
    have hcl2 : (cl.map PV.i).length = g.length := by simp [hcl]
    obtain ⟨r,hn,hr⟩ := loopHas E g hE cl hcl s hs L hL hLl hto act to rest (done ++ [m]) (by simpa using hd)
    simp only [List.length_append,List.length_cons,List.length_nil,Int.natCast_add,show ((0 + 1 : Nat) : Int) = 1 from rfl] at hn
    have hml : (L.map mvP).length = L.length := by simp
    clear hE
    generalize hM : L.map mvP = M at hat hat2 hml
    generalize hC : cl.map PV.i = C at hc hcl2 hn hr ⊢
    simp only [mvP] at hat2
    by_cases c1 : m.1 = act
    · by_cases c2 : clAt cl m.2 = to
      · refine ⟨_, ?_,.inl ⟨by simp [hasL,hasM,c1,c2],rfl⟩⟩
        rw [loopI_eq]
        simp [r112l0,b112l0,hEl,hs1,hs2,hat,hat2,hml,hlt,hlt2,hm1,hm2,hc,hcl2,c1,c2,unAgg]
      · refine ⟨r, ?_,by simpa [hasL,hasM,c1,c2] using hr⟩
        rw [loopI_eq]
        simp [r112l0,b112l0,hEl,hs1,hs2,hat,hat2,hml,hlt,hlt2,hm1,hm2,hc,hcl2,c1,c2,unAgg,hw]
        exact hn
    · refine ⟨r, ?_,by simpa [hasL,hasM,c1] using hr⟩
      rw [loopI_eq]
      simp [r112l0,b112l0,hEl,hs1,hs2,hat,hat2,hml,hlt,hlt2,hm1,hm2,hc,hcl2,c1,unAgg,hw]
      exact hn
theorem eqHas (E : List PV) (g : Gr) (hE : EncR false E g) (cl : List Int) (hcl : cl.length = g.length) (s : Int) (hs : 0 ≤ s ∧ s < g.length) (hsm : SmallG g) (hto : OkTo g) (act to : Int) :
    callI G 112 [.agg [.sl false 1 E],.i s,.i act,.sl false 1 (cl.map PV.i),.i to] [] = some (.b (hasL cl (g.getD s.toNat []) act to),[]) := by
  have hsn : s.toNat < g.length := by omega
  have hLl : (g.getD s.toNat []).length ≤ 1048576 := hsm.2 _ (by rw [List.getD_eq_getElem?_getD,List.getElem?_eq_getElem hsn,Option.getD_some]; exact List.getElem_mem hsn)
  obtain ⟨r,hn,hr⟩ := loopHas E g hE cl hcl s hs _ rfl hLl (hto.row _) act to (g.getD s.toNat []) [] rfl
  simp only [List.length_nil,show ((0 : Nat) : Int) = 0 from rfl] at hn
  rw [callI_eq]
  rcases hr with ⟨h1,rfl⟩ | ⟨h1,rfl⟩
  · rw [h1]
    simp [body1_eq _ _ (gp 112) g112,c112,a112,hn]
  · rw [h1]
    simp [body1_eq _ _ (gp 112) g112,c112,a112,hn]
end Go.Am
end
