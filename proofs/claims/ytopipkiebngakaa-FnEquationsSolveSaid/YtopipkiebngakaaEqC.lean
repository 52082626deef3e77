/- What the functions that the law reaches compute. -/
import Derived.Test.YtopipkiebngakaaEqB
section
set_option maxRecDepth 10000
set_option maxHeartbeats 16000000
set_option linter.unusedSimpArgs false
set_option linter.unusedVariables false
namespace Go.Am
open Go.Proofs Go.Sort Go.Shelf
mutual
def DrT : Tm → Prop
  | .mk o n ps => (-1000 ≤ o ∧ o ≤ 1000) ∧ (-1000 ≤ n ∧ n ≤ 1000) ∧ ps.length ≤ 2 ∧ DrTs ps
def DrTs : List Tm → Prop
  | [] => True
  | p :: ps => DrT p ∧ DrTs ps
end
def dcT : Nat → Int
  | 0 => 10
  | d + 1 => 10 + 2 * dcT d
theorem dcT_nn : ∀ d,10 ≤ dcT d
  | 0 => by simp [dcT]
  | d + 1 => by have := dcT_nn d; simp only [dcT]; omega
theorem encT_two (t : Tm) : ∃ o n ps,t = .mk o n ps ∧ ((ps = [] ∧ encT true t = .agg [.i o,.i n,.nils]) ∨ (encT true t = .agg [.i o,.i n,.sl true 3 (encTs true ps)] ∧ encQ true ps = .sl true 3 (encTs true ps))) := by
  obtain ⟨o,n,ps⟩ := t
  refine ⟨o,n,ps,rfl, ?_⟩
  cases ps with
  | nil => exact .inl ⟨rfl,rfl⟩
  | cons p ps => exact .inr ⟨by simp [encT,encQ,encTs],by simp [encQ,encTs]⟩
theorem eqGood : ∀ (d : Nat) (o : Stack) (id : Id),id.1 < o.length → ∀ (B : List Nat) (p : Int) (c : Nat) (be : Bool),RdrOK B p → d ≤ 20 → c ≤ 3 → p + dcT d ≤ 1000000000 →
    ∃ t q,p ≤ q ∧ q ≤ p + dcT d ∧ DrT t ∧ callI H 59 [.ref id 1 0 0,.i d,.i c,.b be] (setS o id (rd B p)) = some (encT true t,setS o id (rd B q))
  | 0,o,id,hid,B,p,c,be,hr,hd,hc,hp => by
    have hne2 : ¬ id.1 = o.length := by omega
    have hdc : dcT 0 = 10 := rfl
    have hw : IntKind.i64.wrap (-1) = -1 := wrD (by omega)
    obtain ⟨k,a1,a2,c1⟩ := pickF o id hid B p 9 hr (by omega) (by omega)
    obtain ⟨k2,b1,b2,c2⟩ := pickF o id hid B (p + 1) 2 (hr.next (by omega) (by omega)) (by omega) (by omega)
    by_cases hcall : 0 < c ∧ be = true
    · obtain ⟨hc0,rfl⟩ := hcall
      obtain ⟨k3,d1,d2,c3⟩ := pickF o id hid B (p + 1 + 1) c (hr.next (by omega) (by omega)) (by omega) (by omega)
      have hc0' : (0 : Int) < c := by omega
      refine ⟨.mk 5 k3 [],p + 1 + 1 + 1,by omega,by omega,⟨by omega,by omega,by simp,trivial⟩, ?_⟩
      rw [callI_eq]
      simp [body1_eq _ _ (gpH 59) g59,c59,a59,hne2,setS_len,c1,c2,b2,hc0,hc0',c3,encT,encQ]
    · by_cases h0 : k2 = 0
      · subst h0
        refine ⟨.mk 0 0 [],p + 1 + 1,by omega,by omega,⟨by omega,by omega,by simp,trivial⟩, ?_⟩
        rw [callI_eq]
        by_cases hc0 : 0 < c
        · have hb : be = false := by cases be with
            | false => rfl
            | true => exact absurd ⟨hc0,rfl⟩ hcall
          subst hb
          have hc0' : (0 : Int) < c := by omega
          simp [body1_eq _ _ (gpH 59) g59,c59,a59,hne2,setS_len,c1,c2,hc0,hc0',encT,encQ]
        · obtain rfl : c = 0 := by omega
          simp [body1_eq _ _ (gpH 59) g59,c59,a59,hne2,setS_len,c1,c2,encT,encQ]
      · obtain ⟨n,q,e1,e2,e3,e4,e5⟩ := doF o id hid B (p + 1 + 1) (hr.next (by omega) (by omega)) (by omega)
        have hk2 : k2 = 1 := by omega
        subst hk2
        refine ⟨.mk 1 n [.mk 0 0 []],q,by omega,by omega,⟨by omega,by omega,by simp,⟨by omega,by omega,by simp,trivial⟩,trivial⟩, ?_⟩
        rw [callI_eq]
        by_cases hc0 : 0 < c
        · have hb : be = false := by cases be with
            | false => rfl
            | true => exact absurd ⟨hc0,rfl⟩ hcall
          subst hb
          have hc0' : (0 : Int) < c := by omega
          simp [body1_eq _ _ (gpH 59) g59,c59,a59,hne2,setS_len,c1,c2,hc0,hc0',e5,hw,encT,encQ,encTs]
        · obtain rfl : c = 0 := by omega
          simp [body1_eq _ _ (gpH 59) g59,c59,a59,hne2,setS_len,c1,c2,e5,hw,encT,encQ,encTs]
  | d + 1,o,id,hid,B,p,c,be,hr,hd,hc,hp => by
    have hne2 : ¬ id.1 = o.length := by omega
    have hdn := dcT_nn d
    have hdc : dcT (d + 1) = 10 + 2 * dcT d := rfl
    have hd0 : ¬ (d : Int) + 1 = 0 := by omega
    have hw : IntKind.i64.wrap ((d : Int) + 1 - 1) = d := by rw [wrD (by omega)]; omega
    have hw2 : IntKind.i64.wrap (d : Int) = d := wrD (by omega)
    have hm : (if 0 < d then (d : Int) else 0) = d := by split <;> omega
    have ih : ∀ q be',RdrOK B q → q + dcT d ≤ 1000000000 → ∃ t q',q ≤ q' ∧ q' ≤ q + dcT d ∧ DrT t ∧ callI H 59 [.ref id 1 0 0,.i d,.i c,.b be'] (setS o id (rd B q) ++ [[]]) = some (encT true t,setS o id (rd B q') ++ [[]]) := fun q be' hq h => by
      obtain ⟨t,q',e1,e2,e3,e4⟩ := eqGood d (o ++ [[]]) id (hidA hid) B q c be' hq (by omega) hc h
      exact ⟨t,q',e1,e2,e3,frC hid e4⟩
    obtain ⟨k,a1,a2,c1⟩ := pickF o id hid B p 9 hr (by omega) (by omega)
    by_cases hcall : k < 2 ∧ 0 < c ∧ be = true
    · obtain ⟨hk,hc0,rfl⟩ := hcall
      obtain ⟨k3,d1,d2,c3⟩ := pickF o id hid B (p + 1) c (hr.next (by omega) (by omega)) (by omega) (by omega)
      have hc0' : (0 : Int) < c := by omega
      refine ⟨.mk 5 k3 [],p + 1 + 1,by omega,by omega,⟨by omega,by omega,by simp,trivial⟩, ?_⟩
      rw [callI_eq]
      simp [body1_eq _ _ (gpH 59) g59,c59,a59,hne2,setS_len,hd0,c1,hk,hc0,hc0',c3,encT,encQ]
    · -- no call
      have hno : k < 2 → (c = 0 ∨ be = false) := fun h => by
        by_cases hc0 : 0 < c
        · right
          cases be with
          | false => rfl
          | true => exact absurd ⟨h,hc0,rfl⟩ hcall
        · left; omega
      have hk : k = 0 ∨ k = 1 ∨ (2 ≤ k ∧ k < 5) ∨ k = 5 ∨ k = 6 ∨ k = 7 ∨ k = 8 := by omega
      rcases hk with rfl | rfl | hk | rfl | hk | hk | rfl
      · refine ⟨.mk 0 0 [],p + 1,by omega,by omega,⟨by omega,by omega,by simp,trivial⟩, ?_⟩
        rw [callI_eq]
        rcases hno (by omega) with rfl | rfl
        · simp [body1_eq _ _ (gpH 59) g59,c59,a59,hne2,setS_len,hd0,c1,encT,encQ]
        · by_cases hc0 : 0 < c
          · have hc0' : (0 : Int) < c := by omega
            simp [body1_eq _ _ (gpH 59) g59,c59,a59,hne2,setS_len,hd0,c1,hc0,hc0',encT,encQ]
          · obtain rfl : c = 0 := by omega
            simp [body1_eq _ _ (gpH 59) g59,c59,a59,hne2,setS_len,hd0,c1,encT,encQ]
      · obtain ⟨n,q1,e1,e2,e3,e4,e5⟩ := doF o id hid B (p + 1) (hr.next (by omega) (by omega)) (by omega)
        obtain ⟨t,q2,f1,f2,f3,f4⟩ := ih q1 true (hr.next (by omega) (by omega)) (by omega)
        refine ⟨.mk 1 n [t],q2,by omega,by omega,⟨by omega,by omega,by simp,f3,trivial⟩, ?_⟩
        rw [callI_eq]
        obtain ⟨to,tn,tp,rfl,⟨rfl,ht⟩ | ⟨ht,hE⟩⟩ := encT_two t <;>
          (simp only [encT,encQ]; rw [ht] at f4
           rcases hno (by omega) with rfl | rfl
           · simp only [show ((0 : Nat) : Int) = 0 from rfl] at f4
             simp [body1_eq _ _ (gpH 59) g59,c59,a59,hne2,setS_len,hd0,hw,hw2,hm,c1,e5,f4,encTs_len,encTs]
             try exact hE.symm
           · by_cases hc0 : 0 < c
             · have hc0' : (0 : Int) < c := by omega
               simp [body1_eq _ _ (gpH 59) g59,c59,a59,hne2,setS_len,hd0,hw,hw2,hm,c1,e5,f4,hc0,hc0',encTs_len,encTs]
               try exact hE.symm
             · obtain rfl : c = 0 := by omega
               simp only [show ((0 : Nat) : Int) = 0 from rfl] at f4
               simp [body1_eq _ _ (gpH 59) g59,c59,a59,hne2,setS_len,hd0,hw,hw2,hm,c1,e5,f4,encTs_len,encTs]
               try exact hE.symm)
      · obtain ⟨n,q1,e1,e2,e3,e4,e5⟩ := doF o id hid B (p + 1) (hr.next (by omega) (by omega)) (by omega)
        obtain ⟨t,q2,f1,f2,f3,f4⟩ := ih q1 true (hr.next (by omega) (by omega)) (by omega)
        refine ⟨.mk 1 n [t],q2,by omega,by omega,⟨by omega,by omega,by simp,f3,trivial⟩, ?_⟩
        have h2 : ¬ k < 2 := by omega
        have h0 : ¬ k = 0 := by omega
        have h5 := hk.2
        rw [callI_eq]
        obtain ⟨to,tn,tp,rfl,⟨rfl,ht⟩ | ⟨ht,hE⟩⟩ := encT_two t <;>
          (simp only [encT,encQ]; rw [ht] at f4
           simp [body1_eq _ _ (gpH 59) g59,c59,a59,hne2,setS_len,hd0,hw,hw2,hm,c1,h2,h0,h5,e5,f4,encTs_len,encTs]
           try exact hE.symm)
      · obtain ⟨n,b1,b2,c2⟩ := pickF o id hid B (p + 1) 4 (hr.next (by omega) (by omega)) (by omega) (by omega)
        obtain ⟨t,q2,f1,f2,f3,f4⟩ := ih (p + 1 + 1) be (hr.next (by omega) (by omega)) (by omega)
        refine ⟨.mk 4 n [t],q2,by omega,by omega,⟨by omega,by omega,by simp,f3,trivial⟩, ?_⟩
        rw [callI_eq]
        obtain ⟨to,tn,tp,rfl,⟨rfl,ht⟩ | ⟨ht,hE⟩⟩ := encT_two t <;>
          (simp only [encT,encQ]; rw [ht] at f4
           simp [body1_eq _ _ (gpH 59) g59,c59,a59,hne2,setS_len,hd0,hw,hw2,c1,c2,f4,encTs_len,encTs]
           try exact hE.symm)
      all_goals
        obtain ⟨t,q1,e1,e2,e3,e4⟩ := ih (p + 1) be (hr.next (by omega) (by omega)) (by omega)
        obtain ⟨u,q2,f1,f2,f3,f4⟩ := ih q1 be (hr.next (by omega) (by omega)) (by omega)
      · refine ⟨.mk 2 0 [t,u],q2,by omega,by omega,⟨by omega,by omega,by simp,e3,f3,trivial⟩, ?_⟩
        subst hk
        rw [callI_eq]
        obtain ⟨to,tn,tp,rfl,⟨rfl,ht⟩ | ⟨ht,hE⟩⟩ := encT_two t <;> obtain ⟨uo,un,up,rfl,⟨rfl,hu⟩ | ⟨hu,hF⟩⟩ := encT_two u <;>
          (simp only [encT,encQ]; rw [ht] at e4; rw [hu] at f4
           simp [body1_eq _ _ (gpH 59) g59,c59,a59,hne2,setS_len,hd0,hw,hw2,c1,e4,f4,encTs_len,encTs]
           try simp only [encT,encQ,hE,hF,and_self]
           try simp only [encT,encQ,hE,and_self]
           try simp only [encT,encQ,hF,and_self]
           try simp only [encT,encQ])
      · refine ⟨.mk 2 0 [t,u],q2,by omega,by omega,⟨by omega,by omega,by simp,e3,f3,trivial⟩, ?_⟩
        subst hk
        rw [callI_eq]
        obtain ⟨to,tn,tp,rfl,⟨rfl,ht⟩ | ⟨ht,hE⟩⟩ := encT_two t <;> obtain ⟨uo,un,up,rfl,⟨rfl,hu⟩ | ⟨hu,hF⟩⟩ := encT_two u <;>
          (simp only [encT,encQ]; rw [ht] at e4; rw [hu] at f4
           simp [body1_eq _ _ (gpH 59) g59,c59,a59,hne2,setS_len,hd0,hw,hw2,c1,e4,f4,encTs_len,encTs]
           try simp only [encT,encQ,hE,hF,and_self]
           try simp only [encT,encQ,hE,and_self]
           try simp only [encT,encQ,hF,and_self]
           try simp only [encT,encQ])
      · refine ⟨.mk 3 0 [t,u],q2,by omega,by omega,⟨by omega,by omega,by simp,e3,f3,trivial⟩, ?_⟩
        rw [callI_eq]
        obtain ⟨to,tn,tp,rfl,⟨rfl,ht⟩ | ⟨ht,hE⟩⟩ := encT_two t <;> obtain ⟨uo,un,up,rfl,⟨rfl,hu⟩ | ⟨hu,hF⟩⟩ := encT_two u <;>
          (simp only [encT,encQ]; rw [ht] at e4; rw [hu] at f4
           simp [body1_eq _ _ (gpH 59) g59,c59,a59,hne2,setS_len,hd0,hw,hw2,c1,e4,f4,encTs_len,encTs]
           try simp only [encT,encQ,hE,hF,and_self]
           try simp only [encT,encQ,hE,and_self]
           try simp only [encT,encQ,hF,and_self]
           try simp only [encT,encQ])
theorem goodF (d : Nat) (o : Stack) (id : Id) (hid : id.1 < o.length) (B : List Nat) (p : Int) (c : Nat) (be : Bool) (hr : RdrOK B p) (hd : d ≤ 20) (hc : c ≤ 3) (hp : p + dcT d ≤ 1000000000) :
    ∃ t q,p ≤ q ∧ q ≤ p + dcT d ∧ DrT t ∧ callI H 59 [.ref id 1 0 0,.i d,.i c,.b be] (setS o id (rd B p) ++ [[]]) = some (encT true t,setS o id (rd B q) ++ [[]]) := by
  obtain ⟨t,q,e1,e2,e3,e4⟩ := eqGood d (o ++ [[]]) id (hidA hid) B p c be hr hd hc hp
  exact ⟨t,q,e1,e2,e3,frC hid e4⟩
end Go.Am
end
section
set_option maxRecDepth 10000
set_option maxHeartbeats 4000000
set_option linter.unusedSimpArgs false
set_option linter.unusedVariables false
namespace Go.Am
open Go.Proofs Go.Sort Go.Shelf
def okT (t : Tm) : Bool := decide (1 ≤ nodesT t) && decide (nodesT t ≤ 24)
theorem eqTermOk (t : Tm) : callI G 73 [encT false t] [] = some (.b (okT t),[]) := by
  have h := eqNodes t
  have h2 := l6In (nodesT t) 1 24
  have e : (decide ((1 : Int) ≤ nodesT t) && decide ((nodesT t : Int) ≤ 24)) = okT t := by
    unfold okT
    rw [Bool.eq_iff_iff]
    simp only [Bool.and_eq_true,decide_eq_true_eq]
    omega
  rw [e] at h2
  obtain ⟨x1,x2,x3,hX,hx3⟩ := encT_form false t
  rw [hX] at h ⊢
  rw [callI_eq]
  rcases hx3 with rfl | ⟨L3,rfl⟩ <;> simp [body1_eq _ _ (gp 73) g73,c73,a73,h,h2]
mutual
def callsT (g : Bool) : Tm → Int
  | .mk o n ps => if o = 5 then n else if g = true ∧ o = 1 then -1 else callsL g (-1) ps
def callsL (g : Bool) (k : Int) : List Tm → Int
  | [] => k
  | p :: ps => callsL g (if k < callsT g p then callsT g p else k) ps
end
theorem loopCa (g : Bool) (o n : Int) (ho : ¬ (g = true ∧ o = 1)) (ps : List Tm) (hps : ps.length ≤ 9223372036854775806) (h : ∀ p ∈ ps,callI G 72 [encT false p,.b g] [] = some (.i (callsT g p),[])) : ∀ (rest done : List Tm) (k : Int),ps = done ++ rest →
    ∃ q,loopI G [1,2,5,6] [2] c72l0 ⟨[(1,.b g),(2,.ref (0,2) 1 0 0),(5,.i k),(6,.i done.length)],[(2,.box [.i o,.i n,encQ false ps])],[]⟩ =
      some (.exit 0,⟨[(1,.b g),(2,.ref (0,2) 1 0 0),(5,.i (callsL g k rest)),(6,.i ps.length),(25,q)],[(2,.box [.i o,.i n,encQ false ps])],[]⟩)
  | [],done,k,e => by
    have e : ps = done := by simpa using e
    subst e
    refine ⟨.b false, ?_⟩
    rw [loopI_eq]
    rcases encQ_form false ps with ⟨e,e0⟩ | ⟨F,e,e1,_⟩ <;> rw [e]
    · subst e0
      cases g <;> simp [r72l0,b72l0,callsL]
    · cases g <;> simp [r72l0,b72l0,callsL,e1]
  | x :: rest,done,k,e => by
    have hpl : ps.length = done.length + (rest.length + 1) := by rw [e]; simp
    have hlt : (done.length : Int) < ps.length := by omega
    have hw : IntKind.i64.wrap ((done.length : Int) + 1) = (done.length : Int) + 1 := wr (by omega)
    have hat := tm_at done x rest
    rw [← e] at hat
    have hx := h x (by rw [e]; simp)
    have hne : ps ≠ [] := by rw [e]; simp
    have hl3 : (encTs false ps).length = ps.length := encTs_len false ps
    have hlt2 : done.length < ps.length := by omega
    obtain ⟨x1,x2,x3,hX,hx3⟩ := encT_form false x
    rw [hX] at hat hx
    obtain ⟨q,hn⟩ := loopCa g o n ho ps hps h rest (done ++ [x]) (if k < callsT g x then callsT g x else k) (by rw [e]; simp)
    refine ⟨q, ?_⟩
    have hc : callsL g k (x :: rest) = callsL g (if k < callsT g x then callsT g x else k) rest := by rw [callsL]
    rw [hc]
    refine Eq.trans ?_ hn
    rw [loopI_eq,encQ_c false hne]
    generalize encTs false ps = F at hat hl3 ⊢
    generalize callsT g x = v at hx ⊢
    cases g
    · rcases hx3 with rfl | ⟨L3,rfl⟩ <;> simp [r72l0,b72l0,hlt,hlt2,hat,hl3,hx,hw]
    · have ho : ¬ o = 1 := fun e => ho ⟨rfl,e⟩
      rcases hx3 with rfl | ⟨L3,rfl⟩ <;> simp [r72l0,b72l0,hlt,hlt2,hat,hl3,hx,hw,ho]
mutual
def SmT : Tm → Prop
  | .mk o n ps => (-9223372036854775808 ≤ o ∧ o ≤ 9223372036854775807) ∧ (-9223372036854775808 ≤ n ∧ n ≤ 9223372036854775807) ∧ ps.length ≤ 3 ∧ SmTs ps
def SmTs : List Tm → Prop
  | [] => True
  | p :: ps => SmT p ∧ SmTs ps
end
theorem SmTs.mem : ∀ {ps : List Tm},SmTs ps → ∀ p ∈ ps,SmT p
  | [],_,p,h => by cases h
  | q :: ps,hs,p,h => by
    rcases List.mem_cons.1 h with rfl | h
    · exact hs.1
    · exact SmTs.mem hs.2 p h
theorem eqCalls0 (g : Bool) (o n : Int) (ps : List Tm) (hps : ps.length ≤ 3) (hp : ∀ p ∈ ps,callI G 72 [encT false p,.b g] [] = some (.i (callsT g p),[])) :
    callI G 72 [encT false (.mk o n ps),.b g] [] = some (.i (callsT g (.mk o n ps)),[]) := by
  simp only [encT]
  unfold callsT
  by_cases h5 : o = 5
  · subst h5
    rw [callI_eq]
    rcases encQ_form false ps with ⟨e,e0⟩ | ⟨F,e,e1,_⟩ <;> rw [e] <;> simp [body1_eq _ _ (gp 72) g72,c72,a72]
  · rw [if_neg h5]
    by_cases hg : g = true ∧ o = 1
    · obtain ⟨rfl,rfl⟩ := hg
      have hl : ∃ q,loopI G [1,2,5,6] [2] c72l0 ⟨[(1,.b true),(2,.ref (0,2) 1 0 0),(5,.i (-1)),(6,.i 0)],[(2,.box [.i 1,.i n,encQ false ps])],[]⟩ =
          some (.exit 0,⟨[(1,.b true),(2,.ref (0,2) 1 0 0),(5,.i (-1)),(6,.i 0),(25,q)],[(2,.box [.i 1,.i n,encQ false ps])],[]⟩) := by
        refine ⟨.b false, ?_⟩
        rw [loopI_eq]
        rcases encQ_form false ps with ⟨e,e0⟩ | ⟨F,e,e1,e2⟩ <;> rw [e]
        · simp [r72l0,b72l0]
        · have hpos : 0 < ps.length := by
            cases ps with
            | nil => exact absurd rfl e2
            | cons p ps => simp
          simp [r72l0,b72l0,e1,hpos]
      obtain ⟨q,hl⟩ := hl
      rw [callI_eq]
      rcases encQ_form false ps with ⟨e,e0⟩ | ⟨F,e,e1,_⟩ <;> rw [e] at hl ⊢ <;> simp [body1_eq _ _ (gp 72) g72,c72,a72,hl]
    · rw [if_neg hg]
      obtain ⟨q,hl⟩ := loopCa g o n hg ps (by omega) hp ps [] (-1) rfl
      simp only [List.length_nil,show ((0 : Nat) : Int) = 0 from rfl] at hl
      generalize callsL g (-1) ps = R at hl ⊢
      rw [callI_eq]
      rcases encQ_form false ps with ⟨e,e0⟩ | ⟨F,e,e1,_⟩ <;> rw [e] at hl ⊢ <;> simp [body1_eq _ _ (gp 72) g72,c72,a72,hl,h5]
theorem eqCalls (g : Bool) : ∀ t : Tm,SmT t → callI G 72 [encT false t,.b g] [] = some (.i (callsT g t),[])
  | .mk o n ps,hs => by
    unfold SmT at hs
    exact eqCalls0 g o n ps hs.2.2.1 fun p hp => eqCalls g p (SmTs.mem hs.2.2.2 p hp)
  termination_by t => SizeOf.sizeOf t
  decreasing_by
    have := List.sizeOf_lt_of_mem hp
    simp
    omega
def fitsT (t : Tm) (many : Int) : Bool := okT t && ((decide (0 ≤ many) && decide (many ≤ 3)) && decide (callsT false t < many))
theorem eqTermFits (t : Tm) (ht : SmT t) (many : Int) : callI G 61 [encT false t,.i many] [] = some (.b (fitsT t many),[]) := by
  have h1 := eqTermOk t
  have h2 := l6In many 0 3
  have h3 := eqCalls false t ht
  unfold fitsT
  obtain ⟨x1,x2,x3,hX,hx3⟩ := encT_form false t
  rw [hX] at h1 h3 ⊢
  generalize (decide (0 ≤ many) && decide (many ≤ 3)) = b2 at h2 ⊢
  generalize okT t = b1 at h1 ⊢
  generalize callsT false t = v at h3 ⊢
  rw [callI_eq]
  cases b1 <;> cases b2 <;> rcases hx3 with rfl | ⟨L3,rfl⟩ <;> simp [body1_eq _ _ (gp 61) g61,c61,a61,h1,h2,h3]
end Go.Am
end
section
set_option maxRecDepth 10000
set_option maxHeartbeats 4000000
set_option linter.unusedSimpArgs false
set_option linter.unusedVariables false
namespace Go.Am
open Go.Proofs Go.Sort Go.Shelf
def goodD (m : Nat) (d : Tm) : Bool := fitsT d m && !decide (0 ≤ callsT true d)
def defsOk (ds : List Tm) : Bool := ds.all (goodD ds.length) && decide (ds.length ≤ 3)
theorem loopDk (ds : List Tm) (hs : SmTs ds) (hl : ds.length ≤ 1000) : ∀ (rest done : List Tm),ds = done ++ rest →
    ∃ ex,loopI G [0,3] [] c60l0 ⟨[(0,encQ false ds),(3,.i done.length)],[],[]⟩ = some ex ∧
      ((rest.all (goodD ds.length) = false ∧ ex = (.ret,⟨[(2,.b false)],[],[]⟩)) ∨ (rest.all (goodD ds.length) = true ∧ ex = (.exit 0,⟨[(0,encQ false ds),(3,.i ds.length),(7,.b false)],[],[]⟩)))
  | [],done,e => by
    have e : ds = done := by simpa using e
    subst e
    refine ⟨_, ?_,.inr ⟨rfl,rfl⟩⟩
    rw [loopI_eq]
    rcases encQ_form false ds with ⟨e,e0⟩ | ⟨F,e,e1,_⟩ <;> rw [e]
    · subst e0
      simp [r60l0,b60l0]
    · simp [r60l0,b60l0,e1]
  | x :: rest,done,e => by
    have hpl : ds.length = done.length + (rest.length + 1) := by rw [e]; simp
    have hlt : (done.length : Int) < ds.length := by omega
    have hw : IntKind.i64.wrap ((done.length : Int) + 1) = (done.length : Int) + 1 := wr (by omega)
    have hat := tm_at done x rest
    rw [← e] at hat
    have hsx := SmTs.mem hs x (by rw [e]; simp)
    have h1 := eqTermFits x hsx ds.length
    have h2 := eqCalls true x hsx
    have hne : ds ≠ [] := by rw [e]; simp
    have hl3 : (encTs false ds).length = ds.length := encTs_len false ds
    have hlt2 : done.length < ds.length := by omega
    obtain ⟨x1,x2,x3,hX,hx3⟩ := encT_form false x
    rw [hX] at hat h1 h2
    obtain ⟨ex,hn,hr⟩ := loopDk ds hs hl rest (done ++ [x]) (by rw [e]; simp)
    by_cases hg : goodD ds.length x = true
    · refine ⟨ex, ?_, ?_⟩
      · rw [← hn,loopI_eq,encQ_c false hne]
        unfold goodD at hg
        simp only [Bool.and_eq_true,Bool.not_eq_true',decide_eq_false_iff_not] at hg
        have g2 := hg.2
        rw [hg.1] at h1
        generalize encTs false ds = F at hat hl3 ⊢
        rcases hx3 with rfl | ⟨L3,rfl⟩ <;> simp [r60l0,b60l0,hlt,hlt2,hat,hl3,hw,h1,h2,g2]
      · rcases hr with ⟨a1,a2⟩ | ⟨a1,a2⟩
        · exact .inl ⟨by simp only [List.all_cons,hg,a1,Bool.true_and],a2⟩
        · exact .inr ⟨by simp only [List.all_cons,hg,a1,Bool.true_and],a2⟩
    · refine ⟨_, ?_,.inl ⟨by simp only [List.all_cons,Bool.eq_false_iff.2 hg,Bool.false_and],rfl⟩⟩
      rw [loopI_eq,encQ_c false hne]
      generalize encTs false ds = F at hat hl3 ⊢
      unfold goodD at hg
      cases hf : fitsT x ds.length with
      | false =>
        rw [hf] at h1
        rcases hx3 with rfl | ⟨L3,rfl⟩ <;> simp [r60l0,b60l0,hlt,hlt2,hat,hl3,hw,h1]
      | true =>
        rw [hf] at h1 hg
        have g2 : 0 ≤ callsT true x := by simpa using hg
        rcases hx3 with rfl | ⟨L3,rfl⟩ <;> simp [r60l0,b60l0,hlt,hlt2,hat,hl3,hw,h1,h2,g2]
theorem eqDefsOk (ds : List Tm) (hs : SmTs ds) (hl : ds.length ≤ 1000) : callI G 60 [encQ false ds] [] = some (.b (defsOk ds),[]) := by
  obtain ⟨ex,h,hr⟩ := loopDk ds hs hl ds [] rfl
  simp only [List.length_nil,show ((0 : Nat) : Int) = 0 from rfl] at h
  unfold defsOk
  rw [callI_eq]
  rcases encQ_form false ds with ⟨e,e0⟩ | ⟨F,e,e1,_⟩ <;> rw [e] at h hr ⊢ <;> rcases hr with ⟨a1,rfl⟩ | ⟨a1,rfl⟩ <;> rw [a1]
  · simp [body1_eq _ _ (gp 60) g60,c60,a60,h]
  · subst e0
    simp [body1_eq _ _ (gp 60) g60,c60,a60,h]
  · simp [body1_eq _ _ (gp 60) g60,c60,a60,h]
  · by_cases c3 : ds.length ≤ 3
    · have c4 : (ds.length : Int) ≤ 3 := by omega
      simp [body1_eq _ _ (gp 60) g60,c60,a60,h,e1,c3,c4]
    · have c4 : ¬ (ds.length : Int) ≤ 3 := by omega
      simp [body1_eq _ _ (gp 60) g60,c60,a60,h,e1,c3,c4]
def askedT (t : Tm) (ds : List Tm) : Bool := defsOk ds && fitsT t ds.length
theorem eqAsked (t : Tm) (ht : SmT t) (ds : List Tm) (hs : SmTs ds) (hl : ds.length ≤ 1000) : callI G 48 [encT false t,encQ false ds] [] = some (.b (askedT t ds),[]) := by
  have h1 := eqDefsOk ds hs hl
  have h2 := eqTermFits t ht ds.length
  unfold askedT
  obtain ⟨x1,x2,x3,hX,hx3⟩ := encT_form false t
  rw [hX] at h2 ⊢
  generalize fitsT t ds.length = b2 at h2 ⊢
  rw [callI_eq]
  rcases encQ_form false ds with ⟨e,e0⟩ | ⟨F,e,e1,_⟩ <;> rw [e] at h1 ⊢
  · subst e0
    simp only [List.length_nil,show ((0 : Nat) : Int) = 0 from rfl] at h2
    generalize defsOk [] = b1 at h1 ⊢
    cases b1 <;> rcases hx3 with rfl | ⟨L3,rfl⟩ <;> simp [body1_eq _ _ (gp 48) g48,c48,a48,h1,h2]
  · generalize defsOk ds = b1 at h1 ⊢
    cases b1 <;> rcases hx3 with rfl | ⟨L3,rfl⟩ <;> simp [body1_eq _ _ (gp 48) g48,c48,a48,h1,h2,e1]
end Go.Am
end
section
set_option maxRecDepth 10000
set_option maxHeartbeats 4000000
set_option linter.unusedSimpArgs false
set_option linter.unusedVariables false
namespace Go.Am
open Go.Proofs Go.Sort Go.Shelf
theorem eqDec (n : Int) (h : 0 ≤ n ∧ n ≤ 9) : ∃ b : ByteArray,b.size ≤ 1 ∧ callI G 74 [.i n] [] = some (.s b,[]) := by
  have hw : IntKind.i64.wrap (48 + n) = 48 + n := wr (by omega)
  have h1 : ¬ n < -9223372036854775807 := by omega
  have h2 : ¬ n < 0 := by omega
  have h3 : n < 10 := by omega
  refine ⟨strU [IntKind.u8.wrap (48 + n)],by simp [strU], ?_⟩
  rw [callI_eq]
  simp [body1_eq _ _ (gp 74) g74,c74,a74,h1,h2,h3,hw,u8s]
theorem eqName1 (a : Int) (h : -1000 ≤ a ∧ a ≤ 1000) : callI G 77 [.i a] [] = some (.i ((if a < -a then -a else a) - 1),[]) := by
  have hw : IntKind.i64.wrap (0 - a) = -a := by rw [wr (by omega)]; omega
  have hw1 : IntKind.i64.wrap (-a) = -a := wr (by omega)
  have hw2 : IntKind.i64.wrap ((if a < -a then -a else a) - 1) = (if a < -a then -a else a) - 1 := wr (by split <;> omega)
  rw [callI_eq]
  simp [body1_eq _ _ (gp 77) g77,c77,a77,hw,hw1,hw2]
theorem eqText1 (a : Int) (h : -4 ≤ a ∧ a ≤ 4) : ∃ b : ByteArray,b.size ≤ 5 ∧ callI G 76 [.i a] [] = some (.s b,[]) := by
  have h1 := eqName1 a (by omega)
  by_cases h0 : a = 0
  · subst h0
    refine ⟨⟨#[116,97,117]⟩,by decide, ?_⟩
    rw [callI_eq]
    simp [body1_eq _ _ (gp 76) g76,c76,a76]
  · obtain ⟨k,hk⟩ : ∃ k,(if a < -a then -a else a) - 1 = k := ⟨_,rfl⟩
    rw [hk] at h1
    have hk2 : 0 ≤ k ∧ k + 1 ≤ 4 := by rw [← hk]; split <;> omega
    have hw : IntKind.i64.wrap (k + 1) = k + 1 := wr (by omega)
    have hs : ((⟨#[97,98,99,100]⟩ : ByteArray).extract k.toNat (k + 1).toNat).size ≤ 4 := by
      rw [ByteArray.size_extract]
      have : (⟨#[97,98,99,100]⟩ : ByteArray).size = 4 := rfl
      omega
    have hz : (⟨#[97,98,99,100]⟩ : ByteArray).size = 4 := rfl
    have hz1 : (⟨#[33]⟩ : ByteArray).size = 1 := rfl
    have hc : k ≤ k + 1 := by omega
    by_cases hn : a < 0
    · refine ⟨⟨#[33]⟩ ++ (⟨#[97,98,99,100]⟩ : ByteArray).extract k.toNat (k + 1).toNat,by rw [ByteArray.size_append]; omega, ?_⟩
      generalize hE : (⟨#[97,98,99,100]⟩ : ByteArray).extract k.toNat (k + 1).toNat = E at hs
      have hadd : (⟨#[33]⟩ : ByteArray).size + E.size ≤ 9223372036854775807 := by omega
      rw [callI_eq]
      simp [body1_eq _ _ (gp 76) g76,c76,a76,h0,hn,h1,hw,hk2.1,hk2.2,hc,hE,hz,hadd]
    · refine ⟨(⟨#[97,98,99,100]⟩ : ByteArray).extract k.toNat (k + 1).toNat,by omega, ?_⟩
      generalize hE : (⟨#[97,98,99,100]⟩ : ByteArray).extract k.toNat (k + 1).toNat = E at hs
      rw [callI_eq]
      simp [body1_eq _ _ (gp 76) g76,c76,a76,h0,hn,h1,hw,hk2.1,hk2.2,hc,hE,hz]
end Go.Am
end
section
set_option maxRecDepth 10000
set_option maxHeartbeats 4000000
set_option linter.unusedSimpArgs false
set_option linter.unusedVariables false
namespace Go.Am
open Go.Proofs Go.Sort Go.Shelf
mutual
def VaT : Tm → Prop
  | .mk o n ps => headOk o n = true ∧ ps.length = wantN o ∧ VaTs ps
def VaTs : List Tm → Prop
  | [] => True
  | p :: ps => VaT p ∧ VaTs ps
end
mutual
def szT : Tm → Nat
  | .mk _ _ ps => szTs ps + 1
def szTs : List Tm → Nat
  | [] => 0
  | p :: ps => szT p + szTs ps
end
theorem VaTs.mem : ∀ {ps : List Tm},VaTs ps → ∀ p ∈ ps,VaT p
  | [],_,p,h => by cases h
  | q :: ps,hs,p,h => by
    rcases List.mem_cons.1 h with rfl | h
    · exact hs.1
    · exact VaTs.mem hs.2 p h
theorem szTs_mem : ∀ {ps : List Tm} (p : Tm),p ∈ ps → szT p ≤ szTs ps
  | [],p,h => by cases h
  | q :: ps,p,h => by
    unfold szTs
    rcases List.mem_cons.1 h with rfl | h
    · omega
    · have := szTs_mem p h; omega
theorem loopTx (o n : Int) (ps : List Tm) (hps : ps.length ≤ 3) (h : ∀ p ∈ ps,∃ b : ByteArray,b.size + 1 ≤ 15 * szT p ∧ callI G 62 [encT false p] [] = some (.s b,[])) (hz : szTs ps ≤ 1000000) : ∀ (rest done : List Tm) (t : ByteArray),ps = done ++ rest → t.size + 15 * szTs rest ≤ 1000000000 →
    ∃ t' : ByteArray,t'.size ≤ t.size + 15 * szTs rest ∧ loopI G [1,3,4] [1] c62l0 ⟨[(1,.ref (0,1) 1 0 0),(3,.s t),(4,.i done.length)],[(1,.box [.i o,.i n,encQ false ps])],[]⟩ =
      some (.exit 1,⟨[(1,.ref (0,1) 1 0 0),(3,.s t'),(4,.i ps.length),(44,.b false)],[(1,.box [.i o,.i n,encQ false ps])],[]⟩)
  | [],done,t,e,ht => by
    have e : ps = done := by simpa using e
    subst e
    refine ⟨t,by omega, ?_⟩
    rw [loopI_eq]
    rcases encQ_form false ps with ⟨e,e0⟩ | ⟨F,e,e1,_⟩ <;> rw [e]
    · subst e0
      simp [r62l0,b62l0]
    · simp [r62l0,b62l0,e1]
  | x :: rest,done,t,e,ht => by
    have hpl : ps.length = done.length + (rest.length + 1) := by rw [e]; simp
    have hlt : (done.length : Int) < ps.length := by omega
    have hw : IntKind.i64.wrap ((done.length : Int) + 1) = (done.length : Int) + 1 := wr (by omega)
    have hat := tm_at done x rest
    rw [← e] at hat
    obtain ⟨b,hb,hx⟩ := h x (by rw [e]; simp)
    have hne : ps ≠ [] := by rw [e]; simp
    have hl3 : (encTs false ps).length = ps.length := encTs_len false ps
    have hlt2 : done.length < ps.length := by omega
    obtain ⟨x1,x2,x3,hX,hx3⟩ := encT_form false x
    rw [hX] at hat hx
    have hsz : szTs (x :: rest) = szT x + szTs rest := by rw [szTs]
    rw [hsz] at ht ⊢
    have h1 : 1 ≤ szT x := by cases x; simp [szT]
    have z1 : (⟨#[32]⟩ : ByteArray).size = 1 := rfl
    have z2 : (t ++ (⟨#[32]⟩ : ByteArray)).size = t.size + 1 := by rw [ByteArray.size_append,z1]
    have z3 : (t ++ (⟨#[32]⟩ : ByteArray) ++ b).size = t.size + 1 + b.size := by rw [ByteArray.size_append,z2]
    obtain ⟨t',ht',hn⟩ := loopTx o n ps hps h hz rest (done ++ [x]) (t ++ (⟨#[32]⟩ : ByteArray) ++ b) (by rw [e]; simp) (by rw [z3]; omega)
    refine ⟨t',by rw [z3] at ht'; omega, ?_⟩
    have a1 : t.size + (⟨#[32]⟩ : ByteArray).size ≤ 9223372036854775807 := by rw [z1]; omega
    have a2 : (t ++ (⟨#[32]⟩ : ByteArray)).size + b.size ≤ 9223372036854775807 := by rw [z2]; omega
    refine Eq.trans ?_ hn
    rw [loopI_eq,encQ_c false hne]
    generalize encTs false ps = F at hat hl3 ⊢
    generalize hT : t ++ (⟨#[32]⟩ : ByteArray) = T at a2 ⊢
    rcases hx3 with rfl | ⟨L3,rfl⟩ <;> simp [r62l0,b62l0,hlt,hlt2,hat,hl3,hx,hw,a1,a2,hT]
theorem eqWords : callI G 75 [] [] = some (.sl true 1 [.s ⟨#[]⟩,.s ⟨#[97,99,116]⟩,.s ⟨#[115,117,109]⟩,.s ⟨#[112,97,114]⟩,.s ⟨#[104,105,100,101]⟩],[]) := by
  rw [callI_eq]
  simp [body1_eq _ _ (gp 75) g75,c75,a75,noShares,noShare]
theorem eqText0 (o n : Int) (ps : List Tm) (hv : headOk o n = true) (hl : ps.length = wantN o) (h : ∀ p ∈ ps,∃ b : ByteArray,b.size + 1 ≤ 15 * szT p ∧ callI G 62 [encT false p] [] = some (.s b,[])) (hz : szTs ps ≤ 1000000) :
    ∃ b : ByteArray,b.size + 1 ≤ 15 * szT (.mk o n ps) ∧ callI G 62 [encT false (.mk o n ps)] [] = some (.s b,[]) := by
  have h3 : ps.length ≤ 3 := by rw [hl]; unfold wantN; (repeat' split) <;> omega
  have hs : szT (.mk o n ps) = szTs ps + 1 := by rw [szT]
  rw [hs]
  simp only [encT]
  have hW := eqWords
  have hloop := fun (t : ByteArray) (ht : t.size ≤ 13) => loopTx o n ps h3 h hz ps [] t rfl (by omega)
  simp only [List.length_nil,show ((0 : Nat) : Int) = 0 from rfl] at hloop
  have y1 : (⟨#[40]⟩ : ByteArray).size = 1 := rfl
  have y2 : (⟨#[41]⟩ : ByteArray).size = 1 := rfl
  have y3 : (⟨#[32]⟩ : ByteArray).size = 1 := rfl
  rcases eqHead o n hv with ⟨rfl,rfl⟩ | ⟨rfl,hk⟩ | ⟨rfl,rfl⟩ | ⟨rfl,rfl⟩ | ⟨rfl,hk⟩ | ⟨rfl,hk⟩
  · refine ⟨⟨#[48]⟩,by have : (⟨#[48]⟩ : ByteArray).size = 1 := rfl; omega, ?_⟩
    rw [callI_eq]
    rcases encQ_form false ps with ⟨e,e0⟩ | ⟨F,e,e1,_⟩ <;> rw [e] <;> simp [body1_eq _ _ (gp 62) g62,c62,a62]
  · have y4 : (⟨#[97,99,116]⟩ : ByteArray).size = 3 := rfl
    have z1 : ((⟨#[40]⟩ : ByteArray) ++ (⟨#[97,99,116]⟩ : ByteArray)).size = 4 := by rw [ByteArray.size_append,y1,y4]
    have hk2 : -4 ≤ n ∧ n ≤ 4 := by simpa [actOk] using hk
    obtain ⟨b,hb,hx⟩ := eqText1 n hk2
    generalize hA : (⟨#[40]⟩ : ByteArray) ++ (⟨#[97,99,116]⟩ : ByteArray) = A at z1
    have z2 : (A ++ (⟨#[32]⟩ : ByteArray)).size = 5 := by rw [ByteArray.size_append,z1,y3]
    have z3 : (A ++ (⟨#[32]⟩ : ByteArray) ++ b).size = 5 + b.size := by rw [ByteArray.size_append,z2]
    obtain ⟨t1,ht1,hlp⟩ := hloop (A ++ (⟨#[32]⟩ : ByteArray) ++ b) (by rw [z3]; omega)
    rw [z3] at ht1
    generalize hB : A ++ (⟨#[32]⟩ : ByteArray) = B at z2 hlp
    generalize hC : B ++ b = C at hlp
    have g2 : 5 + b.size ≤ 9223372036854775807 := by omega
    have g1 : t1.size + 1 ≤ 9223372036854775807 := by omega
    refine ⟨t1 ++ ⟨#[41]⟩,by rw [ByteArray.size_append,y2]; omega, ?_⟩
    rw [callI_eq]
    rcases encQ_form false ps with ⟨e,e0⟩ | ⟨F,e,e1,_⟩ <;> rw [e] at hlp ⊢ <;> simp [body1_eq _ _ (gp 62) g62,c62,a62,hW,hA,hB,hC,hx,y1,y2,y3,y4,z1,z2,g1,g2,hlp]
  · have y4 : (⟨#[115,117,109]⟩ : ByteArray).size = 3 := rfl
    have z1 : ((⟨#[40]⟩ : ByteArray) ++ (⟨#[115,117,109]⟩ : ByteArray)).size = 4 := by rw [ByteArray.size_append,y1,y4]
    obtain ⟨t1,ht1,hlp⟩ := hloop ((⟨#[40]⟩ : ByteArray) ++ (⟨#[115,117,109]⟩ : ByteArray)) (by rw [z1]; omega)
    rw [z1] at ht1
    generalize hA : (⟨#[40]⟩ : ByteArray) ++ (⟨#[115,117,109]⟩ : ByteArray) = A at z1 hlp
    have g1 : t1.size + 1 ≤ 9223372036854775807 := by omega
    refine ⟨t1 ++ ⟨#[41]⟩,by rw [ByteArray.size_append,y2]; omega, ?_⟩
    rw [callI_eq]
    rcases encQ_form false ps with ⟨e,e0⟩ | ⟨F,e,e1,_⟩ <;> rw [e] at hlp ⊢ <;> simp [body1_eq _ _ (gp 62) g62,c62,a62,hW,hA,y1,y2,y3,y4,z1,g1,hlp]
  · have y4 : (⟨#[112,97,114]⟩ : ByteArray).size = 3 := rfl
    have z1 : ((⟨#[40]⟩ : ByteArray) ++ (⟨#[112,97,114]⟩ : ByteArray)).size = 4 := by rw [ByteArray.size_append,y1,y4]
    obtain ⟨t1,ht1,hlp⟩ := hloop ((⟨#[40]⟩ : ByteArray) ++ (⟨#[112,97,114]⟩ : ByteArray)) (by rw [z1]; omega)
    rw [z1] at ht1
    generalize hA : (⟨#[40]⟩ : ByteArray) ++ (⟨#[112,97,114]⟩ : ByteArray) = A at z1 hlp
    have g1 : t1.size + 1 ≤ 9223372036854775807 := by omega
    refine ⟨t1 ++ ⟨#[41]⟩,by rw [ByteArray.size_append,y2]; omega, ?_⟩
    rw [callI_eq]
    rcases encQ_form false ps with ⟨e,e0⟩ | ⟨F,e,e1,_⟩ <;> rw [e] at hlp ⊢ <;> simp [body1_eq _ _ (gp 62) g62,c62,a62,hW,hA,y1,y2,y3,y4,z1,g1,hlp]
  · have y4 : (⟨#[104,105,100,101]⟩ : ByteArray).size = 4 := rfl
    have z1 : ((⟨#[40]⟩ : ByteArray) ++ (⟨#[104,105,100,101]⟩ : ByteArray)).size = 5 := by rw [ByteArray.size_append,y1,y4]
    have hwn : IntKind.i64.wrap (n + 1) = n + 1 := wr (by omega)
    obtain ⟨b,hb,hx⟩ := eqText1 (n + 1) (by omega)
    generalize hA : (⟨#[40]⟩ : ByteArray) ++ (⟨#[104,105,100,101]⟩ : ByteArray) = A at z1
    have z2 : (A ++ (⟨#[32]⟩ : ByteArray)).size = 6 := by rw [ByteArray.size_append,z1,y3]
    have z3 : (A ++ (⟨#[32]⟩ : ByteArray) ++ b).size = 6 + b.size := by rw [ByteArray.size_append,z2]
    obtain ⟨t1,ht1,hlp⟩ := hloop (A ++ (⟨#[32]⟩ : ByteArray) ++ b) (by rw [z3]; omega)
    rw [z3] at ht1
    generalize hB : A ++ (⟨#[32]⟩ : ByteArray) = B at z2 hlp
    generalize hC : B ++ b = C at hlp
    have g2 : 6 + b.size ≤ 9223372036854775807 := by omega
    have g1 : t1.size + 1 ≤ 9223372036854775807 := by omega
    refine ⟨t1 ++ ⟨#[41]⟩,by rw [ByteArray.size_append,y2]; omega, ?_⟩
    rw [callI_eq]
    rcases encQ_form false ps with ⟨e,e0⟩ | ⟨F,e,e1,_⟩ <;> rw [e] at hlp ⊢ <;> simp [body1_eq _ _ (gp 62) g62,c62,a62,hW,hA,hB,hC,hx,y1,y2,y3,y4,z1,z2,g1,g2,hlp,hwn]
  · obtain ⟨b,hb,hd⟩ := eqDec n (by omega)
    have y5 : (⟨#[88]⟩ : ByteArray).size = 1 := rfl
    have g1 : 1 + b.size ≤ 9223372036854775807 := by omega
    refine ⟨⟨#[88]⟩ ++ b,by rw [ByteArray.size_append,y5]; omega, ?_⟩
    rw [callI_eq]
    rcases encQ_form false ps with ⟨e,e0⟩ | ⟨F,e,e1,_⟩ <;> rw [e] <;> simp [body1_eq _ _ (gp 62) g62,c62,a62,hd,y5,g1]
theorem eqText : ∀ t : Tm,VaT t → szT t ≤ 1000000 → ∃ b : ByteArray,b.size + 1 ≤ 15 * szT t ∧ callI G 62 [encT false t] [] = some (.s b,[])
  | .mk o n ps,hv,hz => by
    unfold VaT at hv
    have hs : szT (.mk o n ps) = szTs ps + 1 := by rw [szT]
    exact eqText0 o n ps hv.1 hv.2.1 (fun p hp => eqText p (VaTs.mem hv.2.2 p hp) (by have := szTs_mem p hp; omega)) (by omega)
  termination_by t => SizeOf.sizeOf t
  decreasing_by
    have := List.sizeOf_lt_of_mem hp
    simp
    omega
end Go.Am
end
section
set_option maxRecDepth 10000
set_option maxHeartbeats 4000000
set_option linter.unusedSimpArgs false
set_option linter.unusedVariables false
namespace Go.Am
open Go.Proofs Go.Sort Go.Shelf
abbrev Stp := Int × Tm
def parT (a b : Tm) : Tm := .mk 3 0 [a,b]
def hideT (n : Int) (a : Tm) : Tm := .mk 4 n [a]
def name1 (a : Int) : Int := (if a < -a then -a else a) - 1
def parS (t u : Tm) (a b : List Stp) : List Stp :=
  a.map (fun s => (s.1,parT s.2 u)) ++ (b.map (fun s => (s.1,parT t s.2)) ++ a.flatMap fun s => b.flatMap fun r => if s.1 ≠ 0 ∧ s.1 = -r.1 then [(0,parT s.2 r.2)] else [])
def hidT (n : Int) (a : List Stp) : List Stp := a.flatMap fun s => if s.1 = 0 ∨ name1 s.1 ≠ n then [(s.1,hideT n s.2)] else []
def stT (k : Int → List Stp) : Tm → List Stp
  | .mk o n [] => if o = 5 then k n else []
  | .mk o n [a] => if o = 1 then [(n,a)] else if o = 4 then hidT n (stT k a) else []
  | .mk o n [a,b] => if o = 2 then stT k a ++ stT k b else if o = 3 then parS a b (stT k a) (stT k b) else []
  | .mk _ _ (_ :: _ :: _ :: _) => []
end Go.Am
end
section
set_option maxRecDepth 10000
set_option linter.unusedSimpArgs false
set_option linter.unusedVariables false
namespace Go.Am
def visL (l : List Stp) : Nat := (l.filter fun s => decide (s.1 ≠ 0)).length
theorem visL_nil : visL [] = 0 := rfl
theorem visL_cons (s : Stp) (l : List Stp) : visL (s :: l) = (if s.1 ≠ 0 then 1 else 0) + visL l := by
  unfold visL
  by_cases h : s.1 = 0
  · simp [h]
  · simp [h]; omega
theorem visL_app (a b : List Stp) : visL (a ++ b) = visL a + visL b := by simp [visL]
theorem visL_map (f : Stp → Stp) (hf : ∀ s,(f s).1 = s.1) : ∀ l : List Stp,visL (l.map f) = visL l
  | [] => rfl
  | s :: l => by rw [List.map_cons,visL_cons,visL_cons,hf,visL_map f hf l]
def syncL (s : Stp) (b : List Stp) : List Stp := b.flatMap fun r => if s.1 ≠ 0 ∧ s.1 = -r.1 then [(0,parT s.2 r.2)] else []
theorem syncL_len (s : Stp) : ∀ b : List Stp,(syncL s b).length ≤ (if s.1 ≠ 0 then visL b else 0) ∧ visL (syncL s b) = 0
  | [] => by simp [syncL,visL]
  | r :: b => by
    have ih := syncL_len s b
    have e : syncL s (r :: b) = (if s.1 ≠ 0 ∧ s.1 = -r.1 then [((0 : Int),parT s.2 r.2)] else []) ++ syncL s b := by simp [syncL]
    rw [e,List.length_append,visL_app,visL_cons]
    by_cases h : s.1 ≠ 0 ∧ s.1 = -r.1
    · have hr : r.1 ≠ 0 := by intro e; omega
      have hz : visL [((0 : Int),parT s.2 r.2)] = 0 := rfl
      rw [if_pos h,if_pos h.1,if_pos hr,hz]
      rw [if_pos h.1] at ih
      simp only [List.length_cons,List.length_nil]
      omega
    · rw [if_neg h]
      simp only [List.length_nil,visL_nil]
      by_cases h0 : s.1 = 0
      · simp [h0] at ih ⊢; exact ih
      · simp [h0] at ih ⊢; omega
theorem syncs_len (b : List Stp) : ∀ a : List Stp,(a.flatMap fun s => syncL s b).length ≤ visL a * visL b ∧ visL (a.flatMap fun s => syncL s b) = 0
  | [] => by simp [visL]
  | s :: a => by
    have ih := syncs_len b a
    have h := syncL_len s b
    rw [List.flatMap_cons,List.length_append,visL_app,visL_cons,Nat.add_mul,h.2,ih.2]
    refine ⟨?_,rfl⟩
    have h1 := h.1
    by_cases h0 : s.1 ≠ 0
    · rw [if_pos h0] at h1 ⊢
      omega
    · rw [if_neg h0] at h1 ⊢
      omega
theorem parS_len (t u : Tm) (a b : List Stp) : (parS t u a b).length ≤ a.length + b.length + visL a * visL b ∧ visL (parS t u a b) = visL a + visL b := by
  have h := syncs_len b a
  unfold parS
  rw [visL_app,visL_app,visL_map (fun s => (s.1,parT s.2 u)) (fun s => rfl),visL_map (fun s => (s.1,parT t s.2)) (fun s => rfl),List.length_append,List.length_append,List.length_map,List.length_map]
  unfold syncL at h
  constructor
  · have := h.1; omega
  · have := h.2; omega
theorem hidT_len (n : Int) : ∀ a : List Stp,(hidT n a).length ≤ a.length ∧ visL (hidT n a) ≤ visL a
  | [] => by simp [hidT,visL]
  | s :: a => by
    have ih := hidT_len n a
    have e : hidT n (s :: a) = (if s.1 = 0 ∨ name1 s.1 ≠ n then [(s.1,hideT n s.2)] else []) ++ hidT n a := by simp [hidT]
    rw [e,List.length_append,visL_app,visL_cons,List.length_cons]
    split
    · rw [visL_cons,visL_nil,List.length_cons,List.length_nil]
      dsimp only
      omega
    · simp only [List.length_nil,visL_nil]
      omega
end Go.Am
end
section
set_option maxRecDepth 10000
set_option linter.unusedSimpArgs false
set_option linter.unusedVariables false
namespace Go.Am
open Go.Proofs Go.Sort Go.Shelf
def lvT (w : Nat) : Tm → Nat
  | .mk o n [] => if o = 5 then w else 0
  | .mk o n [a] => if o = 1 then 1 else if o = 4 then lvT w a else 0
  | .mk o n [a,b] => if o = 2 then lvT w a + lvT w b else if o = 3 then lvT w a + lvT w b else 0
  | .mk _ _ (_ :: _ :: _ :: _) => 0
theorem lvT_le (w : Nat) : ∀ t : Tm,lvT w t ≤ (w + 1) * szT t
  | .mk o n [] => by
    have h : szT (.mk o n []) = 1 := by simp [szT,szTs]
    rw [h]
    unfold lvT
    split <;> omega
  | .mk o n [a] => by
    have ih := lvT_le w a
    have h : szT (.mk o n [a]) = szT a + 1 := by simp [szT,szTs]
    rw [h,Nat.mul_add]
    unfold lvT
    split
    · omega
    · split <;> omega
  | .mk o n [a,b] => by
    have iha := lvT_le w a
    have ihb := lvT_le w b
    have h : szT (.mk o n [a,b]) = szT a + szT b + 1 := by simp [szT,szTs]
    rw [h,Nat.mul_add,Nat.mul_add]
    unfold lvT
    split
    · omega
    · split <;> omega
  | .mk _ _ (_ :: _ :: _ :: _) => by simp [lvT]
theorem sq_add (a b : Nat) : a * a + b * b + a * b ≤ (a + b) * (a + b) := by
  rw [Nat.add_mul,Nat.mul_add,Nat.mul_add,Nat.mul_comm b a]
  omega
theorem stT_len (k : Int → List Stp) (w : Nat) (hk : ∀ n,visL (k n) ≤ w ∧ (k n).length ≤ w + w * w) : ∀ t : Tm,visL (stT k t) ≤ lvT w t ∧ (stT k t).length ≤ lvT w t + lvT w t * lvT w t
  | .mk o n [] => by
    unfold stT lvT
    split
    · exact hk n
    · simp [visL]
  | .mk o n [a] => by
    have ih := stT_len k w hk a
    unfold stT lvT
    split
    · refine ⟨?_,by simp⟩
      rw [visL_cons,visL_nil]
      split <;> omega
    · split
      · have := hidT_len n (stT k a)
        omega
      · simp [visL]
  | .mk o n [a,b] => by
    have iha := stT_len k w hk a
    have ihb := stT_len k w hk b
    have hq := sq_add (lvT w a) (lvT w b)
    unfold stT lvT
    split
    · rw [visL_app,List.length_append]
      omega
    · split
      · have := parS_len a b (stT k a) (stT k b)
        have hm : visL (stT k a) * visL (stT k b) ≤ lvT w a * lvT w b := Nat.mul_le_mul iha.1 ihb.1
        omega
      · simp [visL]
  | .mk _ _ (_ :: _ :: _ :: _) => by simp [stT,visL]
mutual
def WfT (m : Int) : Tm → Prop
  | .mk o n ps => headOk o n = true ∧ ps.length = wantN o ∧ (o = 5 → n < m) ∧ WfTs m ps
def WfTs (m : Int) : List Tm → Prop
  | [] => True
  | p :: ps => WfT m p ∧ WfTs m ps
end
mutual
theorem WfT.va {m : Int} : ∀ {t : Tm},WfT m t → VaT t
  | .mk o n ps,h => by
    unfold WfT at h
    unfold VaT
    exact ⟨h.1,h.2.1,WfTs.va h.2.2.2⟩
theorem WfTs.va {m : Int} : ∀ {ps : List Tm},WfTs m ps → VaTs ps
  | [],h => by unfold VaTs; trivial
  | p :: ps,h => by
    unfold WfTs at h
    unfold VaTs
    exact ⟨WfT.va h.1,WfTs.va h.2⟩
end
theorem headOk_n {o n : Int} (h : headOk o n = true) : (0 ≤ o ∧ o ≤ 5) ∧ (-4 ≤ n ∧ n ≤ 4) ∧ (o = 5 → 0 ≤ n) := by
  rcases eqHead o n h with ⟨rfl,rfl⟩ | ⟨rfl,hk⟩ | ⟨rfl,rfl⟩ | ⟨rfl,rfl⟩ | ⟨rfl,hk⟩ | ⟨rfl,hk⟩
  · omega
  · have hk : -4 ≤ n ∧ n ≤ 4 := by simpa [actOk] using hk
    omega
  · omega
  · omega
  · omega
  · omega
mutual
theorem VaT.sm : ∀ {t : Tm},VaT t → SmT t
  | .mk o n ps,h => by
    unfold VaT at h
    unfold SmT
    have := headOk_n h.1
    refine ⟨by omega,by omega, ?_,VaTs.sm h.2.2⟩
    rw [h.2.1]
    unfold wantN
    (repeat' split) <;> omega
theorem VaTs.sm : ∀ {ps : List Tm},VaTs ps → SmTs ps
  | [],h => by unfold SmTs; trivial
  | p :: ps,h => by
    unfold VaTs at h
    unfold SmTs
    exact ⟨VaT.sm h.1,VaTs.sm h.2⟩
end
def gdT : Tm → Prop
  | .mk o n [] => o ≠ 5
  | .mk o n [a] => o = 1 ∨ gdT a
  | .mk o n [a,b] => gdT a ∧ gdT b
  | .mk _ _ (_ :: _ :: _ :: _) => True
theorem stT_gd (k k' : Int → List Stp) : ∀ t : Tm,gdT t → stT k t = stT k' t
  | .mk o n [],h => by
    unfold gdT at h
    simp [stT,h]
  | .mk o n [a],h => by
    unfold gdT at h
    unfold stT
    split
    · rfl
    · rename_i ho
      rcases h with h | h
      · exact absurd h ho
      · rw [stT_gd k k' a h]
  | .mk o n [a,b],h => by
    unfold gdT at h
    unfold stT
    rw [stT_gd k k' a h.1,stT_gd k k' b h.2]
  | .mk _ _ (_ :: _ :: _ :: _),h => by simp [stT]
def GoodS (m : Int) (z : Nat) (s : Stp) : Prop := (-4 ≤ s.1 ∧ s.1 ≤ 4) ∧ WfT m s.2 ∧ szT s.2 ≤ z
theorem GoodS.mono {m : Int} {z z' : Nat} {s : Stp} (h : GoodS m z s) (hz : z ≤ z') : GoodS m z' s := ⟨h.1,h.2.1,Nat.le_trans h.2.2 hz⟩
theorem wf_par {m : Int} {a b : Tm} (ha : WfT m a) (hb : WfT m b) : WfT m (parT a b) := by
  unfold parT WfT
  refine ⟨by decide,rfl,fun e => absurd e (by decide), ?_⟩
  simp only [WfTs]
  exact ⟨ha,hb,trivial⟩
theorem sz_par (a b : Tm) : szT (parT a b) = szT a + szT b + 1 := by simp [parT,szT,szTs]
theorem wf_hide {m n : Int} {a : Tm} (hn : headOk 4 n = true) (ha : WfT m a) : WfT m (hideT n a) := by
  unfold hideT WfT
  refine ⟨hn,by simp [wantN],fun e => absurd e (by decide), ?_⟩
  simp only [WfTs]
  exact ⟨ha,trivial⟩
theorem sz_hide (n : Int) (a : Tm) : szT (hideT n a) = szT a + 1 := by simp [hideT,szT,szTs]
theorem szT_pos : ∀ t : Tm,1 ≤ szT t
  | .mk _ _ _ => by unfold szT; omega
theorem par_good {m : Int} {t u : Tm} {a b : List Stp} {za zb z : Nat} (ht : WfT m t) (hu : WfT m u) (ha : ∀ s ∈ a,GoodS m za s) (hb : ∀ s ∈ b,GoodS m zb s)
    (h1 : za + szT u + 1 ≤ z) (h2 : szT t + zb + 1 ≤ z) (h3 : za + zb + 1 ≤ z) : ∀ s ∈ parS t u a b,GoodS m z s := by
  intro s hs
  unfold parS at hs
  rcases List.mem_append.1 hs with h | h
  · obtain ⟨x,hx,rfl⟩ := List.mem_map.1 h
    obtain ⟨x1,x2,x3⟩ := ha x hx
    exact ⟨x1,wf_par x2 hu,by rw [sz_par]; omega⟩
  · rcases List.mem_append.1 h with h | h
    · obtain ⟨x,hx,rfl⟩ := List.mem_map.1 h
      obtain ⟨x1,x2,x3⟩ := hb x hx
      exact ⟨x1,wf_par ht x2,by rw [sz_par]; omega⟩
    · obtain ⟨x,hx,h⟩ := List.mem_flatMap.1 h
      obtain ⟨y,hy,h⟩ := List.mem_flatMap.1 h
      split at h
      · simp only [List.mem_singleton] at h
        subst h
        obtain ⟨x1,x2,x3⟩ := ha x hx
        obtain ⟨y1,y2,y3⟩ := hb y hy
        exact ⟨by dsimp only; omega,wf_par x2 y2,by rw [sz_par]; omega⟩
      · cases h
theorem hid_good {m n : Int} {a : List Stp} {za z : Nat} (hn : headOk 4 n = true) (ha : ∀ s ∈ a,GoodS m za s) (h1 : za + 1 ≤ z) : ∀ s ∈ hidT n a,GoodS m z s := by
  intro s hs
  obtain ⟨x,hx,h⟩ := List.mem_flatMap.1 hs
  split at h
  · simp only [List.mem_singleton] at h
    subst h
    obtain ⟨x1,x2,x3⟩ := ha x hx
    exact ⟨x1,wf_hide hn x2,by rw [sz_hide]; omega⟩
  · cases h
theorem stT_good (m : Int) (k : Int → List Stp) (c : Nat) (hc : 1 ≤ c) (hk : ∀ n,0 ≤ n → n < m → ∀ s ∈ k n,GoodS m c s) : ∀ t : Tm,WfT m t → ∀ s ∈ stT k t,GoodS m (c * szT t) s
  | .mk o n [],h,s,hs => by
    unfold WfT at h
    unfold stT at hs
    split at hs
    · rename_i ho
      have hh := headOk_n h.1
      have : szT (.mk o n []) = 1 := by simp [szT,szTs]
      rw [this,Nat.mul_one]
      exact hk n (hh.2.2 ho) (h.2.2.1 ho) s hs
    · cases hs
  | .mk o n [a],h,s,hs => by
    have hh := h
    unfold WfT at h
    have hwa : WfT m a := by have := h.2.2.2; unfold WfTs at this; exact this.1
    have ih := stT_good m k c hc hk a hwa
    have hsz : szT (.mk o n [a]) = szT a + 1 := by simp [szT,szTs]
    rw [hsz,Nat.mul_add]
    unfold stT at hs
    split at hs
    · rename_i ho
      subst ho
      simp only [List.mem_singleton] at hs
      subst hs
      refine ⟨(headOk_n h.1).2.1,hwa, ?_⟩
      have : szT a ≤ c * szT a := Nat.le_mul_of_pos_left _ hc
      dsimp only
      omega
    · split at hs
      · rename_i ho
        subst ho
        exact hid_good h.1 ih (by omega) s hs
      · cases hs
  | .mk o n [a,b],h,s,hs => by
    unfold WfT at h
    have hw := h.2.2.2
    unfold WfTs WfTs at hw
    have iha := stT_good m k c hc hk a hw.1
    have ihb := stT_good m k c hc hk b hw.2.1
    have hsz : szT (.mk o n [a,b]) = szT a + szT b + 1 := by simp [szT,szTs]
    rw [hsz,Nat.mul_add,Nat.mul_add]
    have q1 : szT a ≤ c * szT a := Nat.le_mul_of_pos_left _ hc
    have q2 : szT b ≤ c * szT b := Nat.le_mul_of_pos_left _ hc
    unfold stT at hs
    split at hs
    · rcases List.mem_append.1 hs with hs | hs
      · exact (iha s hs).mono (by omega)
      · exact (ihb s hs).mono (by omega)
    · split at hs
      · exact par_good hw.1 hw.2.1 iha ihb (by omega) (by omega) (by omega) s hs
      · cases hs
  | .mk _ _ (_ :: _ :: _ :: _),h,s,hs => by simp [stT] at hs
mutual
theorem nodes_va : ∀ t : Tm,nodesT t ≠ 0 → VaT t ∧ nodesT t = min 1000 (szT t)
  | .mk o n ps,h => by
    unfold nodesT at h ⊢
    split at h
    · rename_i hh
      rw [if_pos hh]
      have := nodes_vas 1 ps (by omega) (by omega) h
      unfold VaT
      refine ⟨⟨hh.1,hh.2,this.1⟩, ?_⟩
      rw [this.2]
      unfold szT
      omega
    · exact absurd rfl h
theorem nodes_vas : ∀ (k : Nat) (ps : List Tm),1 ≤ k → k ≤ 1000 → nodesL k ps ≠ 0 → VaTs ps ∧ nodesL k ps = min 1000 (k + szTs ps)
  | k,[],h1,h2,h => by
    unfold nodesL VaTs szTs
    exact ⟨trivial,by omega⟩
  | k,p :: ps,h1,h2,h => by
    unfold nodesL at h ⊢
    split at h
    · exact absurd rfl h
    · rename_i hp
      rw [if_neg hp]
      obtain ⟨a1,a2⟩ := nodes_va p hp
      obtain ⟨b1,b2⟩ := nodes_vas (min 1000 (k + nodesT p)) ps (by omega) (by omega) h
      unfold VaTs szTs
      refine ⟨⟨a1,b1⟩, ?_⟩
      rw [b2,a2]
      omega
end
theorem okT_va {t : Tm} (h : okT t = true) : VaT t ∧ szT t ≤ 24 := by
  unfold okT at h
  simp only [Bool.and_eq_true,decide_eq_true_eq] at h
  obtain ⟨a,b⟩ := nodes_va t (by omega)
  refine ⟨a, ?_⟩
  omega
mutual
theorem calls_wf (m : Int) : ∀ t : Tm,VaT t → callsT false t < m → WfT m t
  | .mk o n ps,h,hc => by
    unfold VaT at h
    unfold callsT at hc
    unfold WfT
    by_cases ho : o = 5
    · rw [if_pos ho] at hc
      subst ho
      have hl : ps.length = 0 := by simpa [wantN] using h.2.1
      obtain rfl : ps = [] := List.length_eq_zero_iff.1 hl
      exact ⟨h.1,h.2.1,fun _ => hc,by unfold WfTs; trivial⟩
    · rw [if_neg ho] at hc
      simp only [Bool.false_eq_true,false_and,if_false] at hc
      exact ⟨h.1,h.2.1,fun e => absurd e ho,(calls_wfs m (-1) ps h.2.2 hc).2⟩
theorem calls_wfs (m : Int) : ∀ (k : Int) (ps : List Tm),VaTs ps → callsL false k ps < m → k < m ∧ WfTs m ps
  | k,[],h,hc => by
    unfold callsL at hc
    unfold WfTs
    exact ⟨hc,trivial⟩
  | k,p :: ps,h,hc => by
    unfold VaTs at h
    unfold callsL at hc
    unfold WfTs
    obtain ⟨a,b⟩ := calls_wfs m _ ps h.2 hc
    split at a
    · exact ⟨by omega,calls_wf m p h.1 (by omega),b⟩
    · exact ⟨by omega,calls_wf m p h.1 (by omega),b⟩
end
theorem callsL_ge (g : Bool) : ∀ (k : Int) (ps : List Tm),k ≤ callsL g k ps ∧ ∀ p ∈ ps,callsT g p ≤ callsL g k ps
  | k,[] => by unfold callsL; exact ⟨by omega,fun p hp => by cases hp⟩
  | k,p :: ps => by
    unfold callsL
    obtain ⟨a,b⟩ := callsL_ge g (if k < callsT g p then callsT g p else k) ps
    generalize callsL g (if k < callsT g p then callsT g p else k) ps = X at a b ⊢
    refine ⟨by split at a <;> omega,fun q hq => ?_⟩
    rcases List.mem_cons.1 hq with rfl | hq
    · split at a <;> omega
    · exact b q hq
theorem calls_gd : ∀ t : Tm,VaT t → ¬ 0 ≤ callsT true t → gdT t
  | .mk o n [],h,hc => by
    unfold VaT at h
    unfold gdT
    intro ho
    unfold callsT at hc
    rw [if_pos ho] at hc
    exact hc ((headOk_n h.1).2.2 ho)
  | .mk o n [a],h,hc => by
    have h0 := h
    unfold VaT at h
    have hv := h.2.2
    unfold VaTs at hv
    unfold gdT
    unfold callsT at hc
    by_cases ho : o = 5
    · exfalso
      subst ho
      have := h.2.1
      simp [wantN] at this
    · rw [if_neg ho] at hc
      by_cases h1 : o = 1
      · exact .inl h1
      · right
        simp only [h1,and_false,if_false] at hc
        have := (callsL_ge true (-1) [a]).2 a (by simp)
        exact calls_gd a hv.1 (by omega)
  | .mk o n [a,b],h,hc => by
    unfold VaT at h
    have hv := h.2.2
    unfold VaTs VaTs at hv
    unfold gdT
    unfold callsT at hc
    have hl := h.2.1
    by_cases ho : o = 5
    · exfalso
      subst ho
      simp [wantN] at hl
    · rw [if_neg ho] at hc
      by_cases h1 : o = 1
      · exfalso
        subst h1
        simp [wantN] at hl
      · simp only [h1,and_false,if_false] at hc
        have q := (callsL_ge true (-1) [a,b]).2
        have q1 := q a (by simp)
        have q2 := q b (by simp)
        exact ⟨calls_gd a hv.1 (by omega),calls_gd b hv.2.1 (by omega)⟩
  | .mk _ _ (_ :: _ :: _ :: _),h,hc => by unfold gdT; trivial
def kD (ds : List Tm) (n : Int) : List Stp := match ds[n.toNat]? with
  | some d => if 0 ≤ n then stT (fun _ => []) d else []
  | none => []
def DsOk (ds : List Tm) : Prop := ds.length ≤ 3 ∧ ∀ d ∈ ds,WfT ds.length d ∧ szT d ≤ 24 ∧ gdT d
theorem defsOk_ds {ds : List Tm} (h : defsOk ds = true) : DsOk ds := by
  unfold defsOk at h
  simp only [Bool.and_eq_true,decide_eq_true_eq,List.all_eq_true] at h
  refine ⟨h.2,fun d hd => ?_⟩
  have := h.1 d hd
  unfold goodD fitsT at this
  simp only [Bool.and_eq_true,Bool.not_eq_true',decide_eq_true_eq,decide_eq_false_iff_not] at this
  obtain ⟨⟨h1,h2,h3⟩,h4⟩ := this
  obtain ⟨a,b⟩ := okT_va h1
  exact ⟨calls_wf _ d a h3,b,calls_gd d a h4⟩
theorem kD_len {ds : List Tm} (h : DsOk ds) (n : Int) : visL (kD ds n) ≤ 24 ∧ (kD ds n).length ≤ 24 + 24 * 24 := by
  unfold kD
  split
  · rename_i d hd
    have hm := List.mem_of_getElem? hd
    obtain ⟨a,b,c⟩ := h.2 d hm
    split
    · have q := stT_len (fun _ => []) 0 (fun n => by simp [visL]) d
      have q2 := lvT_le 0 d
      simp only [Nat.zero_add,Nat.one_mul] at q2
      have q3 : lvT 0 d ≤ 24 := by omega
      have q4 : lvT 0 d * lvT 0 d ≤ 24 * 24 := Nat.mul_le_mul q3 q3
      omega
    · simp [visL]
  · simp [visL]
theorem kD_good {ds : List Tm} (h : DsOk ds) (n : Int) : ∀ s ∈ kD ds n,GoodS ds.length 24 s := by
  intro s hs
  unfold kD at hs
  split at hs
  · rename_i d hd
    have hm := List.mem_of_getElem? hd
    obtain ⟨a,b,c⟩ := h.2 d hm
    split at hs
    · have := stT_good ds.length (fun _ => []) 1 (by omega) (fun n _ _ s hs => by cases hs) d a s hs
      exact this.mono (by omega)
    · cases hs
  · cases hs
abbrev stD (ds : List Tm) (t : Tm) : List Stp := stT (kD ds) t
theorem stD_len {ds : List Tm} (h : DsOk ds) (t : Tm) (ht : szT t ≤ 24) : (stD ds t).length ≤ 400000 := by
  have q := stT_len (kD ds) 24 (kD_len h) t
  have q2 := lvT_le 24 t
  have q3 : lvT 24 t ≤ 600 := by omega
  have q4 : lvT 24 t * lvT 24 t ≤ 600 * 600 := Nat.mul_le_mul q3 q3
  show (stT (kD ds) t).length ≤ _
  omega
theorem stD_good {ds : List Tm} (h : DsOk ds) (t : Tm) (hw : WfT ds.length t) (ht : szT t ≤ 24) : ∀ s ∈ stD ds t,GoodS ds.length 576 s := by
  intro s hs
  have := stT_good ds.length (kD ds) 24 (by omega) (fun n _ _ => kD_good h n) t hw s hs
  exact this.mono (by omega)
end Go.Am
end
