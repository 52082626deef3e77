/- What the functions that the law reaches compute. -/
import Derived.Test.YtopipkiebngakaaEqF
import Derived.Test.YtopipkiebngakaaEqA
import Derived.Test.YtopipkiebngakaaEqE
section
set_option maxRecDepth 10000
set_option maxHeartbeats 1000000
set_option linter.unusedSimpArgs false
set_option linter.unusedVariables false
namespace Go.Am
open Go.Proofs Go.Sort Go.Shelf
def sh0 (a : Gr) : Gr := a.map (shL 0)
theorem sh0_len (a : Gr) : (sh0 a).length = a.length := by simp [sh0]
theorem sh0_eq (a : Gr) : sh0 a = a := by
  unfold sh0
  refine (List.map_congr_left fun x _ => ?_).trans (List.map_id _)
  unfold shL
  exact (List.map_congr_left fun m _ => by simp).trans (List.map_id _)
theorem loopGb0 (B : PV) (hB : ∀ f n,known f n B = true) (a : Gr) (ha : OkTo a) (h60 : a.length ≤ 60) (hs : SmallG a) : ∀ (rest done : Gr),a = done ++ rest → ∀ Y YL,OwnS 43 1 Y YL (encGs true true (sh0 done)) →
    ∃ Y' YL',OwnS 43 1 Y' YL' (encGs true true (sh0 a)) ∧
    loopI G [2,3,4,6,32,33,34] [2,3,4,6,43,61] c9l0 ⟨[(2,.ref (0,2) 1 0 0),(3,.ref (0,3) 1 0 0),(4,.ref (0,4) 1 0 0),(6,.ref (0,6) 1 0 0),(32,.sl false 1 (encGs false false a)),(33,.i a.length),(34,.i done.length)],(2,.box [.sl false 1 (encGs false false a)]) :: (3,.box [B]) :: (4,.box [.nils]) :: (6,.box [Y]) :: YL,[]⟩ =
      some (.exit 0,⟨[(2,.ref (0,2) 1 0 0),(3,.ref (0,3) 1 0 0),(4,.ref (0,4) 1 0 0),(6,.ref (0,6) 1 0 0),(32,.sl false 1 (encGs false false a)),(33,.i a.length),(34,.i a.length),(35,.b false)],(2,.box [.sl false 1 (encGs false false a)]) :: (3,.box [B]) :: (4,.box [.nils]) :: (6,.box [Y']) :: YL',[]⟩)
  | [],done,hd,Y,YL,hY => by
    rw [List.append_nil] at hd
    subst hd
    refine ⟨Y,YL,hY, ?_⟩
    generalize encGs false false a = E
    rw [loopI_eq]
    rcases hY with ⟨h1,rfl,rfl⟩ | ⟨h1,rfl,rfl⟩
    · simp [r9l0,b9l0,hB]
    · simp [r9l0,b9l0,hB]
  | x :: rest,done,hd,Y,YL,hY => by
    have hrl : a.length = done.length + (rest.length + 1) := by rw [hd]; simp
    have hlt : (done.length : Int) < a.length := by omega
    have hlt2 : done.length < a.length := by omega
    have hw : IntKind.i64.wrap ((done.length : Int) + 1) = (done.length : Int) + 1 := wr (by omega)
    have hdl : done.length ≤ 4294967295 := by omega
    have hat : nth (encGs false false a) done.length = some (.sl false 2 (x.map mvP)) := by rw [hd]; simpa using gr_at false false done x rest
    have hEl : (encGs false false a).length = a.length := by simp
    have hxa : x ∈ a := by rw [hd]; simp
    have hsh := eqShift 0 (by omega) x (fun m hm => by have := ha x hxa m hm; omega) (by have := hs.2 x hxa; omega)
    have hnew : encGs true true (sh0 (done ++ [x])) = encGs true true (sh0 done) ++ [encL true true (shL 0 x)] := by simp [encGs,sh0]
    have hDl : (encGs true true (sh0 done)).length = done.length := by simp [sh0]
    have hYn : OwnS 43 1 (.own (0,43) (done.length + 1)) [(43,.row 1 (encGs true true (sh0 done) ++ [encL true true (shL 0 x)]))] (encGs true true (sh0 (done ++ [x]))) := by
      refine .inr ⟨by rw [hnew]; simp, ?_, ?_⟩
      · rw [hnew]; simp [sh0]
      · rw [hnew]
    obtain ⟨Y',YL',hY',hn⟩ := loopGb0 B hB a ha h60 hs rest (done ++ [x]) (by simpa using hd) _ _ hYn
    refine ⟨Y',YL',hY', ?_⟩
    clear hY'
    simp only [List.length_append,List.length_cons,List.length_nil,Int.natCast_add,show ((0 + 1 : Nat) : Int) = 1 from rfl] at hn
    have hd0 : encGs true true (sh0 done) = [] → done = [] := fun e => by
      have := congrArg List.length e
      rw [hDl] at this
      exact List.length_eq_zero_iff.1 this
    have hns := noShares_mv (shL 0 x)
    generalize hD : encGs true true (sh0 done) = D at hY hn hDl hd0
    generalize hE : encGs false false a = E at hat hEl hn ⊢
    rw [loopI_eq]
    rcases hY with ⟨h1,rfl,rfl⟩ | ⟨h1,rfl,rfl⟩
    · have hd1 := hd0 h1
      subst hd1
      subst h1
      simp only [List.length_nil,show ((0 : Nat) : Int) = 0 from rfl] at hat hlt hlt2
      rcases encL_two true true (shL 0 x) with ⟨e,_⟩ | e
      · rw [e] at hsh hn
        simp at hn
        simp [r9l0,b9l0,hB,hlt,hlt2,hat,hEl,hsh,wr1]
        exact hn
      · rw [e] at hsh hn
        generalize (shL 0 x).map mvP = Q at hsh hn hns
        simp at hn
        simp [r9l0,b9l0,hB,hlt,hlt2,hat,hEl,hsh,wr1,hns]
        exact hn
    · rcases encL_two true true (shL 0 x) with ⟨e,_⟩ | e
      · rw [e] at hsh hn
        simp [r9l0,b9l0,hB,hlt,hlt2,hat,hEl,hsh,hDl,hdl,hw]
        exact hn
      · rw [e] at hsh hn
        generalize (shL 0 x).map mvP = Q at hsh hn hns
        simp [r9l0,b9l0,hB,hlt,hlt2,hat,hEl,hsh,hDl,hdl,hw,hns]
        exact hn
theorem loopGb1 (EA : List PV) (n : Nat) (hEA : EA.length = n) (hn60 : n ≤ 60) (XA : List PV) (hXA : XA.length = n) (b : Gr) (hb : OkTo b) (h60 : b.length ≤ 60) (hs : SmallG b) : ∀ (rest done : Gr),b = done ++ rest →
    loopI G [2,4,6,47,48,49] [2,4,6,43,61] c9l1 ⟨[(2,.ref (0,2) 1 0 0),(4,.ref (0,4) 1 0 0),(6,.ref (0,6) 1 0 0),(47,.sl false 1 (encGs false false b)),(48,.i b.length),(49,.i done.length)],[(2,.box [.sl false 1 EA]),(4,.box [.nils]),(6,.box [.own (0,43) (n + done.length)]),(43,.row 1 (XA ++ encGs true true (done.map (shL n))))],[]⟩ =
      some (.exit 2,⟨[(2,.ref (0,2) 1 0 0),(4,.ref (0,4) 1 0 0),(6,.ref (0,6) 1 0 0),(47,.sl false 1 (encGs false false b)),(48,.i b.length),(49,.i b.length),(50,.b false)],[(2,.box [.sl false 1 EA]),(4,.box [.nils]),(6,.box [.own (0,43) (n + b.length)]),(43,.row 1 (XA ++ encGs true true (b.map (shL n))))],[]⟩)
  | [],done,hd => by
    rw [List.append_nil] at hd
    subst hd
    generalize XA ++ encGs true true (b.map (shL n)) = Q
    generalize encGs false false b = E
    rw [loopI_eq]
    simp [r9l1,b9l1]
  | x :: rest,done,hd => by
    have hrl : b.length = done.length + (rest.length + 1) := by rw [hd]; simp
    have hlt : (done.length : Int) < b.length := by omega
    have hlt2 : done.length < b.length := by omega
    have hw : IntKind.i64.wrap ((done.length : Int) + 1) = (done.length : Int) + 1 := wr (by omega)
    have hdl : n + done.length ≤ 4294967295 := by omega
    have hat : nth (encGs false false b) done.length = some (.sl false 2 (x.map mvP)) := by rw [hd]; simpa using gr_at false false done x rest
    have hEl : (encGs false false b).length = b.length := by simp
    have hxb : x ∈ b := by rw [hd]; simp
    have hsh := eqShift n (by omega) x (fun m hm => by have := hb x hxb m hm; omega) (by have := hs.2 x hxb; omega)
    have hn := loopGb1 EA n hEA hn60 XA hXA b hb h60 hs rest (done ++ [x]) (by simpa using hd)
    have hnew : XA ++ encGs true true ((done ++ [x]).map (shL n)) = (XA ++ encGs true true (done.map (shL n))) ++ [encL true true (shL n x)] := by simp [encGs]
    have hDl : (XA ++ encGs true true (done.map (shL n))).length = n + done.length := by simp [hXA]
    rw [hnew] at hn
    simp only [List.length_append,List.length_cons,List.length_nil,Int.natCast_add,show ((0 + 1 : Nat) : Int) = 1 from rfl] at hn
    have hna : n + (done.length + (0 + 1)) = n + done.length + 1 := by omega
    rw [hna] at hn
    have hns := noShares_mv (shL n x)
    generalize hF : XA ++ encGs true true (b.map (shL n)) = F at hn ⊢
    generalize hD : XA ++ encGs true true (done.map (shL n)) = D at hn hDl ⊢
    generalize hE : encGs false false b = E at hat hEl hn ⊢
    rw [loopI_eq]
    rcases encL_two true true (shL n x) with ⟨e,_⟩ | e
    · rw [e] at hsh hn
      simp [r9l1,b9l1,hlt,hlt2,hat,hEl,hEA,hsh,hDl,hdl,hw]
      exact hn
    · rw [e] at hsh hn
      generalize (shL n x).map mvP = Q at hsh hn hns
      simp [r9l1,b9l1,hlt,hlt2,hat,hEl,hEA,hsh,hDl,hdl,hw,hns]
      exact hn
def gbOk (a b : Gr) : Bool := grOk a && (grOk b && decide (a.length + b.length ≤ 60))
theorem eqGBothI (a b : Gr) (hsA : SmallG a) (hsB : SmallG b) (hfA : FitG a) (hfB : FitG b) :
    callI G 9 [.agg [.sl false 1 (encGs false false a)],.agg [.sl false 1 (encGs false false b)]] [] = some (.tup [.agg [if gbOk a b = true then .sl true 1 (encGs true true (bothG a b)) else .nils],.b (gbOk a b)],[]) := by
  have h1 := eqOkI a hfA
  have h2 := eqOkI b hfB
  simp only [encG,encM_f] at h1 h2
  have hE1 : (encGs false false a).length = a.length := by simp
  have hE2 : (encGs false false b).length = b.length := by simp
  have hsA1 := hsA.1
  have hsB1 := hsB.1
  have hw : IntKind.i64.wrap ((a.length : Int) + b.length) = (a.length : Int) + b.length := wr (by omega)
  rw [callI_eq]
  cases c1 : grOk a with
  | false =>
    rw [c1] at h1
    simp [body1_eq _ _ (gp 9) g9,c9,a9,h1,gbOk,c1]
  | true =>
    rw [c1] at h1
    cases c2 : grOk b with
    | false =>
      rw [c2] at h2
      simp [body1_eq _ _ (gp 9) g9,c9,a9,h1,h2,gbOk,c1,c2]
    | true =>
      rw [c2] at h2
      by_cases c3 : a.length + b.length ≤ 60
      · have c4 : ¬ (60 : Int) < (a.length : Int) + b.length := by omega
        obtain ⟨p1,p2,p3⟩ := grOk_to c1
        obtain ⟨q1,q2,q3⟩ := grOk_to c2
        obtain ⟨Y,YL,hY,l0⟩ := loopGb0 (.sl false 1 (encGs false false b)) (by intro f n; simp) a p1 p3 hsA a [] rfl .nils [] (.inl ⟨rfl,rfl,rfl⟩)
        have l1 := loopGb1 (encGs false false a) a.length (by simp) p3 (encGs true true (sh0 a)) (by simp [sh0]) b q1 q3 hsB b [] rfl
        have hne : encGs true true (sh0 a) ≠ [] := by
          intro e
          have := congrArg List.length e
          rw [encGs_len,sh0_len] at this
          have h0 : a.length = 0 := this
          omega
        have hg : gbOk a b = true := by simp [gbOk,c1,c2,c3]
        have hbo : encGs true true (sh0 a) ++ encGs true true (b.map (shL a.length)) = encGs true true (bothG a b) := by rw [sh0_eq,bothG,encGs_app]
        rw [hg]
        rcases hY with ⟨q,_⟩ | ⟨_,rfl,rfl⟩
        · exact absurd q hne
        · simp only [List.length_nil,show ((0 : Nat) : Int) = 0 from rfl,List.map_nil,show encGs true true [] = [] from rfl,List.append_nil,Nat.add_zero,encGs_len,sh0_len] at l0 l1
          rw [hbo] at l1
          have hBl : (encGs true true (bothG a b)).length = a.length + b.length := by rw [encGs_len,both_len]
          generalize encGs true true (bothG a b) = Z at l1 hBl ⊢
          generalize encGs true true (sh0 a) = Z0 at l0 l1
          generalize encGs false false a = E1 at h1 hE1 l0 l1 ⊢
          generalize encGs false false b = E2 at h2 hE2 l0 l1 ⊢
          simp [body1_eq _ _ (gp 9) g9,c9,a9,h1,h2,hE1,hE2,hw,c4,l0,l1,hBl]
      · have c4 : (60 : Int) < (a.length : Int) + b.length := by omega
        have hg : gbOk a b = false := by simp [gbOk,c3]
        rw [hg]
        simp [body1_eq _ _ (gp 9) g9,c9,a9,h1,h2,hE1,hE2,hw,c4]
end Go.Am
end
section
set_option maxRecDepth 10000
set_option maxHeartbeats 4000000
set_option linter.unusedSimpArgs false
set_option linter.unusedVariables false
namespace Go.Am
open Go.Proofs Go.Sort Go.Shelf
end Go.Am
end
section
set_option maxRecDepth 10000
set_option maxHeartbeats 4000000
set_option linter.unusedSimpArgs false
set_option linter.unusedVariables false
namespace Go.Am
open Go.Proofs Go.Sort Go.Shelf
theorem trees_encGs : ∀ g : Gr,trees (encGs true true g) = true
  | [] => rfl
  | l :: g => by
    have ih := trees_encGs g
    simp only [encGs,List.map_cons,trees,Bool.and_eq_true] at ih ⊢
    refine ⟨?_,ih⟩
    have h2 : ∀ l : List Mv,trees (l.map mvP) = true := by
      intro l
      induction l with
      | nil => rfl
      | cons m l ih => simp only [List.map_cons,trees,ih,Bool.and_true]; rfl
    unfold encL
    split
    · rfl
    · simp only [tree]; exact h2 l
theorem tree_encG (g : Gr) : tree (encG true true g) = true := by
  simp only [encG,encM',tree,trees,Bool.and_true]
  split
  · rfl
  · simp only [tree,trees_encGs g]
theorem fal_encG (g : Gr) : fal (encG true true g) = encG true false g := by simp only [encG,fal,fals,fal_encM]
theorem low_gx (g : Gr) (y : PV) (hy : tree y = true) : lowTR (some (.tup [encG true true g,y],[])) = some (.tup [encG true false g,fal y],[]) := by
  have ht : trees [encG true true g,y] = true := by simp only [trees,tree_encG,hy,Bool.and_true]
  simp only [lowTR,ht,if_true,fals,fal_encG]
theorem low_gb (g : Gr) (b : Bool) : lowTR (some (.tup [encG true true g,.b b],[])) = some (.tup [encG true false g,.b b],[]) := low_gx g (.b b) rfl
end Go.Am
end
section
set_option maxRecDepth 10000
set_option maxHeartbeats 4000000
set_option linter.unusedSimpArgs false
set_option linter.unusedVariables false
namespace Go.Am
open Go.Proofs Go.Sort Go.Shelf
theorem nPick {args : List PV} {o : Stack} {x : Option (PV × Stack)} (h : callI H 25 args o = x) : callI N 25 args o = x := by
  rw [callI_prim' (p := viaP H 25 id) rfl]
  simpa only [viaP,List.map_id_fun,id] using h
theorem nGraph {args : List PV} {o o' : Stack} {g : Gr} (h : callI H 30 args o = some (encG true true g,o')) : callI N 30 args o = some (encG true false g,o') := by
  rw [callI_prim' (p := lowXP H 30 id) rfl]
  simp only [lowXP,viaP,List.map_id_fun,id,h,lowXR,tree_encG,if_true,fal_encG]
theorem nOf (ds : List Tm) (hs : SmTs ds) (hl : ds.length ≤ 1000) (t : Tm) (ht : SmT t) : ∃ (g : Gr) (ok : Bool),SmallG g ∧ callI N 32 [encT false t,encQ false ds] [] = some (.tup [encG true false g,.b ok],[]) := by
  obtain ⟨g,ok,h1,h2,h⟩ := eqGraphOf ds hs hl t ht
  refine ⟨g,ok,⟨by omega,fun l hl => by have := h2 l hl; omega⟩, ?_⟩
  rw [callI_prim' (p := lowTP G 32 id) rfl]
  simp only [lowTP,viaP,List.map_id_fun,id,h]
  exact low_gb g ok
theorem nFold (g : Gr) (sg : SmallG g) : ∃ (F : Gr) (ok : Bool),SmallG F ∧ callI N 33 [encG true false g] [] = some (.tup [encG true false F,.b ok],[]) := by
  obtain ⟨F,ok,sF,h⟩ := eqGraphFold g sg
  refine ⟨F,ok,sF, ?_⟩
  rw [callI_prim' (p := lowTP G 33 wkG) rfl]
  simp only [lowTP,viaP,List.map_cons,List.map_nil,wkG_enc,h]
  exact low_gb F ok
theorem eqTwins (o : Stack) (id : Id) (hid : id.1 < o.length) (B : List Nat) (p : Int) (hr : RdrOK B p) (hp : p + 40000 ≤ 1000000000) :
    ∃ g h q,p ≤ q ∧ q ≤ p + 40000 ∧ SmallG g ∧ SmallG h ∧ callI N 15 [.ref id 1 0 0] (setS o id (rd B p)) = some (.tup [encG true false g,encG true false h],setS o id (rd B q)) := by
  have hne2 : ¬ id.1 = o.length := by omega
  obtain ⟨g,q1,a1,a2,sg,hg⟩ := drawGF o id hid B p hr (by omega)
  have hg := nGraph hg
  obtain ⟨h,q2,b1,b2,sh,hh⟩ := drawGF o id hid B q1 (hr.next (by omega) (by omega)) (by omega)
  have hh := nGraph hh
  obtain ⟨k,c1,c2,c3⟩ := pickF o id hid B q2 4 (hr.next (by omega) (by omega)) (by omega) (by omega)
  have c3 := nPick c3
  simp only [encG] at hg hh
  by_cases h0 : k = 0
  · subst h0
    obtain ⟨t,u,ds,q3,d1,d2,st,su,sds,ld,hpr⟩ := pairF o id hid B (q2 + 1) (hr.next (by omega) (by omega)) (by omega)
    obtain ⟨a,ok,sa,ha⟩ := nOf ds sds (by omega) t st
    obtain ⟨b,fine,sb,hb⟩ := nOf ds sds (by omega) u su
    obtain ⟨to,tn,tp⟩ := t
    obtain ⟨uo,un,up⟩ := u
    simp only [encG,encT_open] at ha hb hpr
    cases ok with
    | false =>
      refine ⟨g,h,q3,by omega,by omega,sg,sh, ?_⟩
      rw [callI_eq]
      simp [body1_eq _ _ (gpN 15) g15,c15,a15,hne2,setS_len,hg,hh,c3,hpr,ha,hb]
    | true =>
      cases fine with
      | false =>
        refine ⟨g,h,q3,by omega,by omega,sg,sh, ?_⟩
        rw [callI_eq]
        simp [body1_eq _ _ (gpN 15) g15,c15,a15,hne2,setS_len,hg,hh,c3,hpr,ha,hb]
      | true =>
        refine ⟨a,b,q3,by omega,by omega,sa,sb, ?_⟩
        rw [callI_eq]
        simp [body1_eq _ _ (gpN 15) g15,c15,a15,hne2,setS_len,hg,hh,c3,hpr,ha,hb]
  · by_cases h1 : k = 1
    · subst h1
      obtain ⟨F,ok,sF,hF⟩ := nFold g sg
      simp only [encG] at hF
      cases ok with
      | false =>
        refine ⟨g,h,q2 + 1,by omega,by omega,sg,sh, ?_⟩
        rw [callI_eq]
        simp [body1_eq _ _ (gpN 15) g15,c15,a15,hne2,setS_len,hg,hh,c3,hF]
      | true =>
        refine ⟨g,F,q2 + 1,by omega,by omega,sg,sF, ?_⟩
        rw [callI_eq]
        simp [body1_eq _ _ (gpN 15) g15,c15,a15,hne2,setS_len,hg,hh,c3,hF]
    · refine ⟨g,h,q2 + 1,by omega,by omega,sg,sh, ?_⟩
      rw [callI_eq]
      simp [body1_eq _ _ (gpN 15) g15,c15,a15,hne2,setS_len,hg,hh,c3,h0,h1]
theorem nOpen (B : List Nat) (hB : B.length ≤ 9223372036854775807) : ∃ B',B'.length ≤ 2000 ∧ (∀ b ∈ B',b ∈ B) ∧ callI N 14 [.sl false 1 (byVs B)] [] = some (.bx [.sl false 1 (byVs B'),.i 0],[]) := by
  obtain ⟨B',h1,h2,h3⟩ := eqOpen B hB
  refine ⟨B',h1,h2, ?_⟩
  rw [callI_prim' (p := viaP H 14 id) rfl]
  simpa only [viaP,List.map_id_fun,id] using h3
end Go.Am
end
section
set_option maxRecDepth 10000
set_option maxHeartbeats 1000000
set_option linter.unusedSimpArgs false
set_option linter.unusedVariables false
namespace Go.Am
open Go.Proofs Go.Sort Go.Shelf
def meet (cl st : List Int) (m n : Mv) : Bool := decide (m.1 = n.1) && decide (clAt cl (clAt st m.2) = clAt cl n.2)
theorem eqMeet (cl st : List Int) (N : Nat) (hcl : cl.length = N) (hst : ∀ x ∈ st,0 ≤ x ∧ x < N) (L0 : Objs) (h9 : getO L0 9 = some (.box [.own (0,50) N])) (h5 : getO L0 5 = some (.box [.sl false 1 (st.map PV.i)])) (h50 : getO L0 50 = some (.row 1 (cl.map PV.i))) (m n : Mv) (hm : 0 ≤ m.2 ∧ m.2 < st.length) (hn : 0 ≤ n.2 ∧ n.2 < N) :
    callI G 21 [mvP m,mvP n,.ref (0,9) 1 0 0,.ref (0,5) 1 0 0] [L0,[],[],[]] = some (.b (meet cl st m n),[L0,[],[],[]]) := by
  have hm1 := hm.1
  have hm2 := hm.2
  have hn1 := hn.1
  have hn2 := hn.2
  have hs : nth (st.map PV.i) m.2.toNat = some (.i (clAt st m.2)) := int_nth st m.2.toNat (by omega)
  have hsm : clAt st m.2 ∈ st := by
    unfold clAt
    rw [List.getD_eq_getElem?_getD,List.getElem?_eq_getElem (by omega),Option.getD_some]
    exact List.getElem_mem _
  have hs1 := (hst _ hsm).1
  have hs2 := (hst _ hsm).2
  have hc1 : nth (cl.map PV.i) (clAt st m.2).toNat = some (.i (clAt cl (clAt st m.2))) := int_nth cl _ (by omega)
  have hc2 : nth (cl.map PV.i) n.2.toNat = some (.i (clAt cl n.2)) := int_nth cl _ (by omega)
  have hcl2 : (cl.map PV.i).length = N := by simp [hcl]
  have hst2 : (st.map PV.i).length = st.length := by simp
  generalize cl.map PV.i = C at hc1 hc2 hcl2 h50
  generalize st.map PV.i = S at hs hst2 h5
  simp only [mvP,meet]
  by_cases c1 : m.1 = n.1
  · rw [callI_eq]
    simp [body1_eq _ _ (gp 21) g21,c21,a21,c1,h9,h5,h50,hm1,hm2,hn1,hn2,hs,hs1,hs2,hc1,hc2,hcl2,hst2]
  · rw [callI_eq]
    simp [body1_eq _ _ (gp 21) g21,c21,a21,c1,h9,h5]
abbrev cloMt : PV := .clo 21 [.ref (0,9) 1 0 0,.ref (0,5) 1 0 0]
theorem eqMt2 (L0 : Objs) (m n : Mv) (b : Bool) (h12 : getO L0 12 = some (.box [cloMt])) (h14 : getO L0 14 = some (.box [.i m.1,.i m.2]))
    (h : callI G 21 [mvP m,mvP n,.ref (0,9) 1 0 0,.ref (0,5) 1 0 0] [L0,[],[],[]] = some (.b b,[L0,[],[],[]])) :
    callI G 23 [mvP n,.ref (0,12) 1 0 0,.ref (0,14) 1 0 0] [L0,[],[]] = some (.b b,[L0,[],[]]) := by
  simp only [mvP] at h ⊢
  rw [callI_eq]
  simp [body1_eq _ _ (gp 23) g23,c23,a23,h12,h14,h,unAgg]
theorem eqMt3 (L0 : Objs) (m n : Mv) (b : Bool) (h12 : getO L0 12 = some (.box [cloMt])) (h16 : getO L0 16 = some (.box [.i n.1,.i n.2]))
    (h : callI G 21 [mvP m,mvP n,.ref (0,9) 1 0 0,.ref (0,5) 1 0 0] [L0,[],[],[]] = some (.b b,[L0,[],[],[]])) :
    callI G 24 [mvP m,.ref (0,12) 1 0 0,.ref (0,16) 1 0 0] [L0,[],[]] = some (.b b,[L0,[],[]]) := by
  simp only [mvP] at h ⊢
  rw [callI_eq]
  simp [body1_eq _ _ (gp 24) g24,c24,a24,h12,h16,h,unAgg]
theorem loopIxR (cf k : Nat) (F : Mv → Bool) (l : List Mv) (nl : Bool) (L0 : Objs) (B1 B2 : List PV) (h12 : getO L0 12 = some (.box B1)) (hk : getO L0 k = some (.box B2)) (hc : ∀ x ∈ l,callI G cf [mvP x,.ref (0,12) 1 0 0,.ref (0,k) 1 0 0] [L0,[],[]] = some (.b (F x),[L0,[],[]])) (hN : l.length ≤ 1048576) : ∀ (rest done : List Mv),l = done ++ rest →
    (∃ i : Nat,rest.any F = true ∧ loopI G [0,1,7,8] [] c40l0 ⟨[(0,encL nl false l),(1,.clo cf [.ref (0,12) 1 0 0,.ref (0,k) 1 0 0]),(7,.i l.length),(8,.i done.length)],[],[L0,[]]⟩ = some (.ret,⟨[(4,.i i)],[],[L0,[]]⟩)) ∨
    (rest.any F = false ∧ loopI G [0,1,7,8] [] c40l0 ⟨[(0,encL nl false l),(1,.clo cf [.ref (0,12) 1 0 0,.ref (0,k) 1 0 0]),(7,.i l.length),(8,.i done.length)],[],[L0,[]]⟩ = some (.exit 0,⟨[(0,encL nl false l),(1,.clo cf [.ref (0,12) 1 0 0,.ref (0,k) 1 0 0]),(7,.i l.length),(8,.i l.length),(9,.b false)],[],[L0,[]]⟩))
  | [],done,hd => by
    rw [List.append_nil] at hd
    subst hd
    have hkn : ∀ f n,known f n (encL nl false l) = true := fun f n => by simp
    generalize encL nl false l = X at hkn ⊢
    refine .inr ⟨rfl, ?_⟩
    rw [loopI_eq]
    simp [r40l0,b40l0,hkn]
  | x :: rest,done,hd => by
    have hen : encL nl false l = .sl false 2 (l.map mvP) := encL_ne (by rw [hd]; simp)
    have hll : l.length = done.length + (rest.length + 1) := by rw [hd]; simp
    have hlt : (done.length : Int) < l.length := by omega
    have hlt2 : done.length < l.length := by omega
    have hw : IntKind.i64.wrap ((done.length : Int) + 1) = (done.length : Int) + 1 := wr (by omega)
    have hat : nth (l.map mvP) done.length = some (mvP x) := by rw [hd]; exact mv_at done x rest
    have hml : (l.map mvP).length = l.length := by simp
    have hcx := hc x (by rw [hd]; simp)
    simp only [mvP] at hat hcx
    cases hF : F x with
    | true =>
      rw [hF] at hcx
      refine .inl ⟨done.length,by simp [hF], ?_⟩
      rw [hen]
      generalize hM : l.map mvP = M at hat hml
      rw [loopI_eq]
      simp [r40l0,b40l0,hlt,hlt2,hml,hat,hcx,h12,hk,unAgg]
    | false =>
      rw [hF] at hcx
      have ih := loopIxR cf k F l nl L0 B1 B2 h12 hk hc hN rest (done ++ [x]) (by simpa using hd)
      simp only [List.length_append,List.length_cons,List.length_nil,Int.natCast_add,show ((0 + 1 : Nat) : Int) = 1 from rfl] at ih
      rw [hen] at ih ⊢
      rcases ih with ⟨i,h1,h4⟩ | ⟨h1,h2⟩
      · refine .inl ⟨i,by simp only [List.any_cons,hF,h1,Bool.false_or], ?_⟩
        generalize hM : l.map mvP = M at hat hml h4 ⊢
        rw [loopI_eq]
        simp [r40l0,b40l0,hlt,hlt2,hml,hat,hcx,hw,h12,hk,unAgg]
        exact h4
      · refine .inr ⟨by simp only [List.any_cons,hF,h1,Bool.false_or], ?_⟩
        generalize hM : l.map mvP = M at hat hml h2 ⊢
        rw [loopI_eq]
        simp [r40l0,b40l0,hlt,hlt2,hml,hat,hcx,hw,h12,hk,unAgg]
        exact h2
theorem eqCtR (cf k : Nat) (F : Mv → Bool) (l : List Mv) (nl : Bool) (L0 : Objs) (B1 B2 : List PV) (h12 : getO L0 12 = some (.box B1)) (hk : getO L0 k = some (.box B2)) (hc : ∀ x ∈ l,callI G cf [mvP x,.ref (0,12) 1 0 0,.ref (0,k) 1 0 0] [L0,[],[]] = some (.b (F x),[L0,[],[]])) (hN : l.length ≤ 1048576) :
    callI G 22 [encL nl false l,.clo cf [.ref (0,12) 1 0 0,.ref (0,k) 1 0 0]] [L0] = some (.b (l.any F),[L0]) := by
  have hlen : ∀ n d gg,core1 n d gg .len [encL nl false l] = some (.i l.length,[]) := fun n d gg => by simp
  have hkn : ∀ f n,known f n (encL nl false l) = true := fun f n => by simp
  have hf : encL nl false l = .nils ∨ ∃ Q,encL nl false l = .sl false 2 Q := by
    rcases encL_two nl false l with ⟨e,_⟩ | e
    · exact .inl e
    · exact .inr ⟨_,e⟩
  have hIx : ∃ i : Int,callI G 40 [encL nl false l,.clo cf [.ref (0,12) 1 0 0,.ref (0,k) 1 0 0]] [L0,[]] = some (.i i,[L0,[]]) ∧ decide (0 ≤ i) = l.any F := by
    rcases loopIxR cf k F l nl L0 B1 B2 h12 hk hc hN l [] rfl with ⟨i,h1,h4⟩ | ⟨h1,h2⟩
    · refine ⟨i, ?_,by rw [h1]; simp⟩
      simp only [List.length_nil,show ((0 : Nat) : Int) = 0 from rfl] at h4
      generalize encL nl false l = X at hlen hkn h4 ⊢
      rw [callI_eq]
      simp [body1_eq _ _ (gp 40) g40,c40,a40,hlen,hkn,h12,hk,h4]
    · refine ⟨-1, ?_,by rw [h1]; simp⟩
      simp only [List.length_nil,show ((0 : Nat) : Int) = 0 from rfl] at h2
      generalize encL nl false l = X at hlen hkn h2 ⊢
      rw [callI_eq]
      simp [body1_eq _ _ (gp 40) g40,c40,a40,hlen,hkn,h12,hk,h2]
  obtain ⟨i,h1,h2⟩ := hIx
  rw [← h2]
  generalize encL nl false l = X at h1 hf ⊢
  rw [callI_eq]
  rcases hf with rfl | ⟨Q,rfl⟩
  · simp [body1_eq _ _ (gp 22) g22,c22,a22,h12,hk,h1]
  · simp [body1_eq _ _ (gp 22) g22,c22,a22,h12,hk,h1]
end Go.Am
end
section
set_option maxRecDepth 10000
set_option maxHeartbeats 1000000
set_option linter.unusedSimpArgs false
set_option linter.unusedVariables false
namespace Go.Am
open Go.Proofs Go.Sort Go.Shelf
def stOk (N : Nat) (st : List Int) : Bool := st.all fun x => decide (0 ≤ x) && decide (x < N)
theorem stOk_iff {N : Nat} {st : List Int} : stOk N st = true ↔ ∀ x ∈ st,0 ≤ x ∧ x < N := by
  simp [stOk,List.all_eq_true]
def solA (cl st : List Int) (GK : List Mv) (L : List Mv) : Bool := L.all fun m => GK.any fun n => meet cl st m n
def solB (cl st : List Int) (L : List Mv) (GK : List Mv) : Bool := GK.all fun n => L.any fun m => meet cl st m n
def solK (cl st : List Int) (eqs g : Gr) (k : Nat) : Bool := solA cl st (g.getD (clAt st k).toNat []) (eqs.getD k []) && solB cl st (eqs.getD k []) (g.getD (clAt st k).toNat [])
def solN (cl st : List Int) (eqs g : Gr) : Nat → Nat → Bool
  | 0,_ => true
  | n + 1,k => solK cl st eqs g k && solN cl st eqs g n (k + 1)
theorem encGs_nth {g : Gr} {i : Nat} (h : i < g.length) : nth (encGs false false g) i = some (.sl false 2 ((g.getD i []).map mvP)) := by
  unfold nth encGs
  rw [List.getElem?_map,List.getElem?_eq_getElem h,List.getD_eq_getElem?_getD,List.getElem?_eq_getElem h]
  simp
theorem loopSt (E1 E2 : List PV) (g : Gr) (hE2 : E2.length = g.length) (st : List Int) (hl : st.length ≤ 1048576) : ∀ (rest done : List Int),st = done ++ rest →
    ∃ r,loopI G [3,4,5,33,34,35] [3,4,5] c10l0 ⟨[(3,.ref (0,3) 1 0 0),(4,.ref (0,4) 1 0 0),(5,.ref (0,5) 1 0 0),(33,.sl false 1 (st.map PV.i)),(34,.i st.length),(35,.i done.length)],[(3,.box [.sl false 1 E1]),(4,.box [.sl false 1 E2]),(5,.box [.sl false 1 (st.map PV.i)])],[]⟩ = some r ∧
      ((stOk g.length rest = false ∧ r = (.ret,⟨[(6,.b false)],[],[]⟩)) ∨ (stOk g.length rest = true ∧ r = (.exit 0,⟨[(3,.ref (0,3) 1 0 0),(4,.ref (0,4) 1 0 0),(5,.ref (0,5) 1 0 0),(33,.sl false 1 (st.map PV.i)),(34,.i st.length),(35,.i st.length),(36,.b false)],[(3,.box [.sl false 1 E1]),(4,.box [.sl false 1 E2]),(5,.box [.sl false 1 (st.map PV.i)])],[]⟩)))
  | [],done,hd => by
    rw [List.append_nil] at hd
    subst hd
    refine ⟨_, ?_,.inr ⟨rfl,rfl⟩⟩
    generalize st.map PV.i = S
    rw [loopI_eq]
    simp [r10l0,b10l0]
  | x :: rest,done,hd => by
    have hll : st.length = done.length + (rest.length + 1) := by rw [hd]; simp
    have hlt : (done.length : Int) < st.length := by omega
    have hlt2 : done.length < st.length := by omega
    have hw : IntKind.i64.wrap ((done.length : Int) + 1) = (done.length : Int) + 1 := wr (by omega)
    have hat : nth (st.map PV.i) done.length = some (.i x) := by rw [hd]; exact ii_at done x rest
    have hml : (st.map PV.i).length = st.length := by simp
    obtain ⟨r,hn,hr⟩ := loopSt E1 E2 g hE2 st hl rest (done ++ [x]) (by simpa using hd)
    simp only [List.length_append,List.length_cons,List.length_nil,Int.natCast_add,show ((0 + 1 : Nat) : Int) = 1 from rfl] at hn
    generalize hS : st.map PV.i = S at hat hml hn hr ⊢
    by_cases c1 : x < 0
    · refine ⟨_, ?_,.inl ⟨by simp only [stOk,List.all_cons,show decide (0 ≤ x) = false from decide_eq_false (by omega),Bool.false_and],rfl⟩⟩
      rw [loopI_eq]
      simp [r10l0,b10l0,hlt,hlt2,hat,hml,c1]
    · by_cases c2 : (g.length : Int) ≤ x
      · refine ⟨_, ?_,.inl ⟨by simp only [stOk,List.all_cons,show decide (x < g.length) = false from decide_eq_false (by omega),Bool.and_false,Bool.false_and],rfl⟩⟩
        rw [loopI_eq]
        simp [r10l0,b10l0,hlt,hlt2,hat,hml,c1,hE2,c2]
      · refine ⟨r, ?_,by simpa only [stOk,List.all_cons,show decide (x < g.length) = true from decide_eq_true (by omega),show decide (0 ≤ x) = true from decide_eq_true (by omega),Bool.true_and] using hr⟩
        rw [loopI_eq]
        simp [r10l0,b10l0,hlt,hlt2,hat,hml,c1,hE2,c2,hw]
        exact hn
section
variable (cl st : List Int) (E1 : List PV) (g : Gr) (hcl : cl.length = g.length) (hst : ∀ x ∈ st,0 ≤ x ∧ x < g.length)
theorem loopS1 (k : Nat) (hk : k < st.length) (LE GK : List Mv) (hGK : g.getD (clAt st k).toNat [] = GK) (hto : ∀ m ∈ LE,0 ≤ m.2 ∧ m.2 < st.length) (hto2 : ∀ m ∈ GK,0 ≤ m.2 ∧ m.2 < g.length) (hLl : LE.length ≤ 1048576) (hGl : GK.length ≤ 1048576) (n1 : Int) (j : Int)
    (hcl : cl.length = g.length) (hst : ∀ x ∈ st,0 ≤ x ∧ x < g.length) : ∀ (rest done : List Mv),LE = done ++ rest →
    ∃ r,loopI G [4,5,9,10,11,12,52,53,54,60,61,62] [4,5,9,12,50] c10l1
        ⟨[(4,.ref (0,4) 1 0 0),(5,.ref (0,5) 1 0 0),(9,.ref (0,9) 1 0 0),(10,.i k),(11,.sl false 2 (LE.map mvP)),(12,.ref (0,12) 1 0 0),(52,.sl false 1 E1),(53,.i n1),(54,.i j),(60,.sl false 2 (LE.map mvP)),(61,.i LE.length),(62,.i done.length)],[(4,.box [.sl false 1 (encGs false false g)]),(5,.box [.sl false 1 (st.map PV.i)]),(9,.box [.own (0,50) g.length]),(12,.box [cloMt]),(50,.row 1 (cl.map PV.i))],[]⟩ = some r ∧
      ((solA cl st GK rest = false ∧ r = (.ret,⟨[(6,.b false)],[],[]⟩)) ∨ (solA cl st GK rest = true ∧ r = (.exit 4,
        ⟨[(4,.ref (0,4) 1 0 0),(5,.ref (0,5) 1 0 0),(9,.ref (0,9) 1 0 0),(10,.i k),(11,.sl false 2 (LE.map mvP)),(12,.ref (0,12) 1 0 0),(52,.sl false 1 E1),(53,.i n1),(54,.i j),(60,.sl false 2 (LE.map mvP)),(61,.i LE.length),(62,.i LE.length),(63,.b false)],[(4,.box [.sl false 1 (encGs false false g)]),(5,.box [.sl false 1 (st.map PV.i)]),(9,.box [.own (0,50) g.length]),(12,.box [cloMt]),(50,.row 1 (cl.map PV.i))],[]⟩)))
  | [],done,hd => by
    rw [List.append_nil] at hd
    subst hd
    refine ⟨_, ?_,.inr ⟨rfl,rfl⟩⟩
    have hml : (LE.map mvP).length = LE.length := by simp
    generalize st.map PV.i = S
    generalize cl.map PV.i = C
    generalize encGs false false g = E2
    rw [loopI_eq]
    simp [r10l1,b10l1]
  | m :: rest,done,hd => by
    have hll : LE.length = done.length + (rest.length + 1) := by rw [hd]; simp
    have hlt : (done.length : Int) < LE.length := by omega
    have hlt2 : done.length < LE.length := by omega
    have hw : IntKind.i64.wrap ((done.length : Int) + 1) = (done.length : Int) + 1 := wr (by omega)
    have hat : nth (LE.map mvP) done.length = some (mvP m) := by rw [hd]; exact mv_at done m rest
    have hml : (LE.map mvP).length = LE.length := by simp
    have hki : (k : Int) < st.length := by omega
    have hsk := int_nth st k hk
    have hskm : clAt st k ∈ st := by
      unfold clAt
      rw [List.getD_eq_getElem?_getD,Int.toNat_natCast,List.getElem?_eq_getElem hk,Option.getD_some]
      exact List.getElem_mem _
    have hs := hst _ hskm
    have hs1 := hs.1
    have hs2 := hs.2
    have hgk := encGs_nth (g := g) (i := (clAt st k).toNat) (by omega)
    rw [hGK] at hgk
    have hsk2 : nth (st.map PV.i) k = some (.i (clAt st k)) := by rw [hsk]; simp [clAt]
    have hE2 : (encGs false false g).length = g.length := by simp
    have hS2 : (st.map PV.i).length = st.length := by simp
    obtain ⟨r,hn,hr⟩ := loopS1 k hk LE GK hGK hto hto2 hLl hGl n1 j hcl hst rest (done ++ [m]) (by simpa using hd)
    simp only [List.length_append,List.length_cons,List.length_nil,Int.natCast_add,show ((0 + 1 : Nat) : Int) = 1 from rfl] at hn
    have hct := eqCtR 23 14 (fun n => meet cl st m n) GK false [(4,.box [.sl false 1 (encGs false false g)]),(5,.box [.sl false 1 (st.map PV.i)]),(9,.box [.own (0,50) g.length]),(12,.box [cloMt]),(14,.box [.i m.1,.i m.2]),(50,.row 1 (cl.map PV.i))] _ _ rfl rfl (fun n hn => eqMt2 _ m n _ rfl rfl (eqMeet cl st g.length hcl hst _ rfl rfl rfl m n (hto m (by rw [hd]; simp)) (hto2 n hn))) hGl
    rw [encL_f] at hct
    simp only [mvP] at hat
    generalize hS : st.map PV.i = S at hsk2 hS2 hn hr hct ⊢
    generalize hC : cl.map PV.i = C at hn hr hct ⊢
    generalize hEE : encGs false false g = E2 at hgk hE2 hn hr hct ⊢
    generalize hLM : LE.map mvP = LM at hat hml hn hr ⊢
    generalize clAt st k = sk at hsk2 hs1 hs2 hgk
    have hsn : sk.toNat < g.length := by omega
    cases hv : GK.any (fun n => meet cl st m n) with
    | false =>
      rw [hv] at hct
      generalize hGM : GK.map mvP = GM at hgk hct
      refine ⟨_, ?_,.inl ⟨by simp only [solA,List.all_cons,hv,Bool.false_and],rfl⟩⟩
      rw [loopI_eq]
      simp [r10l1,b10l1,hlt,hlt2,hat,hml,unAgg,hk,hki,hS2,hsk2,hs1,hs2,hsn,hE2,hgk,hct]
    | true =>
      rw [hv] at hct
      generalize hGM : GK.map mvP = GM at hgk hct
      refine ⟨r, ?_,by simpa only [solA,List.all_cons,hv,Bool.true_and] using hr⟩
      rw [loopI_eq]
      simp [r10l1,b10l1,hlt,hlt2,hat,hml,unAgg,hk,hki,hS2,hsk2,hs1,hs2,hsn,hE2,hgk,hct,hw]
      exact hn
theorem loopS2 (LE GK : List Mv) (hto : ∀ m ∈ LE,0 ≤ m.2 ∧ m.2 < st.length) (hto2 : ∀ m ∈ GK,0 ≤ m.2 ∧ m.2 < g.length) (hLl : LE.length ≤ 1048576) (hGl : GK.length ≤ 1048576) (n1 : Int) (j : Int)
    (hcl : cl.length = g.length) (hst : ∀ x ∈ st,0 ≤ x ∧ x < g.length) : ∀ (rest done : List Mv),GK = done ++ rest →
    ∃ r,loopI G [4,5,9,11,12,52,53,54,85,86,87] [4,5,9,12,50] c10l2
        ⟨[(4,.ref (0,4) 1 0 0),(5,.ref (0,5) 1 0 0),(9,.ref (0,9) 1 0 0),(11,.sl false 2 (LE.map mvP)),(12,.ref (0,12) 1 0 0),(52,.sl false 1 E1),(53,.i n1),(54,.i j),(85,.sl false 2 (GK.map mvP)),(86,.i GK.length),(87,.i done.length)],[(4,.box [.sl false 1 (encGs false false g)]),(5,.box [.sl false 1 (st.map PV.i)]),(9,.box [.own (0,50) g.length]),(12,.box [cloMt]),(50,.row 1 (cl.map PV.i))],[]⟩ = some r ∧
      ((solB cl st LE rest = false ∧ r = (.ret,⟨[(6,.b false)],[],[]⟩)) ∨ (solB cl st LE rest = true ∧ r = (.exit 6,
        ⟨[(4,.ref (0,4) 1 0 0),(5,.ref (0,5) 1 0 0),(9,.ref (0,9) 1 0 0),(11,.sl false 2 (LE.map mvP)),(12,.ref (0,12) 1 0 0),(52,.sl false 1 E1),(53,.i n1),(54,.i j),(85,.sl false 2 (GK.map mvP)),(86,.i GK.length),(87,.i GK.length),(88,.b false)],[(4,.box [.sl false 1 (encGs false false g)]),(5,.box [.sl false 1 (st.map PV.i)]),(9,.box [.own (0,50) g.length]),(12,.box [cloMt]),(50,.row 1 (cl.map PV.i))],[]⟩)))
  | [],done,hd => by
    rw [List.append_nil] at hd
    subst hd
    refine ⟨_, ?_,.inr ⟨rfl,rfl⟩⟩
    generalize st.map PV.i = S
    generalize cl.map PV.i = C
    generalize encGs false false g = E2
    rw [loopI_eq]
    simp [r10l2,b10l2]
  | n :: rest,done,hd => by
    have hll : GK.length = done.length + (rest.length + 1) := by rw [hd]; simp
    have hlt : (done.length : Int) < GK.length := by omega
    have hlt2 : done.length < GK.length := by omega
    have hw : IntKind.i64.wrap ((done.length : Int) + 1) = (done.length : Int) + 1 := wr (by omega)
    have hat : nth (GK.map mvP) done.length = some (mvP n) := by rw [hd]; exact mv_at done n rest
    have hml : (GK.map mvP).length = GK.length := by simp
    obtain ⟨r,hn,hr⟩ := loopS2 LE GK hto hto2 hLl hGl n1 j hcl hst rest (done ++ [n]) (by simpa using hd)
    simp only [List.length_append,List.length_cons,List.length_nil,Int.natCast_add,show ((0 + 1 : Nat) : Int) = 1 from rfl] at hn
    have hct := eqCtR 24 16 (fun m => meet cl st m n) LE false [(4,.box [.sl false 1 (encGs false false g)]),(5,.box [.sl false 1 (st.map PV.i)]),(9,.box [.own (0,50) g.length]),(12,.box [cloMt]),(16,.box [.i n.1,.i n.2]),(50,.row 1 (cl.map PV.i))] _ _ rfl rfl (fun m hm => eqMt3 _ m n _ rfl rfl (eqMeet cl st g.length hcl hst _ rfl rfl rfl m n (hto m hm) (hto2 n (by rw [hd]; simp)))) hLl
    rw [encL_f] at hct
    simp only [mvP] at hat
    generalize hS : st.map PV.i = S at hn hr hct ⊢
    generalize hC : cl.map PV.i = C at hn hr hct ⊢
    generalize hEE : encGs false false g = E2 at hn hr hct ⊢
    generalize hGM : GK.map mvP = GM at hat hml hn hr ⊢
    cases hv : LE.any (fun m => meet cl st m n) with
    | false =>
      rw [hv] at hct
      generalize hLM : LE.map mvP = LM at hct ⊢
      refine ⟨_, ?_,.inl ⟨by simp only [solB,List.all_cons,hv,Bool.false_and],rfl⟩⟩
      rw [loopI_eq]
      simp [r10l2,b10l2,hlt,hlt2,hat,hml,unAgg,hct]
    | true =>
      rw [hv] at hct
      generalize hLM : LE.map mvP = LM at hct hn hr ⊢
      refine ⟨r, ?_,by simpa only [solB,List.all_cons,hv,Bool.true_and] using hr⟩
      rw [loopI_eq]
      simp [r10l2,b10l2,hlt,hlt2,hat,hml,unAgg,hct,hw]
      exact hn
end
end Go.Am
end
section
set_option maxRecDepth 10000
set_option maxHeartbeats 1000000
set_option linter.unusedSimpArgs false
set_option linter.unusedVariables false
namespace Go.Am
open Go.Proofs Go.Sort Go.Shelf
theorem loopS3 (cl st : List Int) (eqs g : Gr) (hcl : cl.length = g.length) (hst : ∀ x ∈ st,0 ≤ x ∧ x < g.length) (hk : st.length = eqs.length) (h60 : eqs.length ≤ 60) (hse : SmallG eqs) (hsg : SmallG g) (hoe : OkTo eqs) (hog : OkTo g) : ∀ (n k : Nat),k + n = eqs.length →
    ∃ r,loopI G [4,5,9,52,53,54] [4,5,9,50] c10l3
        ⟨[(4,.ref (0,4) 1 0 0),(5,.ref (0,5) 1 0 0),(9,.ref (0,9) 1 0 0),(52,.sl false 1 (encGs false false eqs)),(53,.i eqs.length),(54,.i k)],[(4,.box [.sl false 1 (encGs false false g)]),(5,.box [.sl false 1 (st.map PV.i)]),(9,.box [.own (0,50) g.length]),(50,.row 1 (cl.map PV.i))],[]⟩ = some r ∧
      ((solN cl st eqs g n k = false ∧ r = (.ret,⟨[(6,.b false)],[],[]⟩)) ∨ (solN cl st eqs g n k = true ∧ r = (.exit 2,
        ⟨[(4,.ref (0,4) 1 0 0),(5,.ref (0,5) 1 0 0),(9,.ref (0,9) 1 0 0),(52,.sl false 1 (encGs false false eqs)),(53,.i eqs.length),(54,.i eqs.length),(55,.b false)],[(4,.box [.sl false 1 (encGs false false g)]),(5,.box [.sl false 1 (st.map PV.i)]),(9,.box [.own (0,50) g.length]),(50,.row 1 (cl.map PV.i))],[]⟩)))
  | 0,k,hkn => by
    have he : k = eqs.length := by omega
    subst he
    refine ⟨_, ?_,.inr ⟨rfl,rfl⟩⟩
    generalize st.map PV.i = S
    generalize cl.map PV.i = C
    generalize encGs false false g = E2
    generalize encGs false false eqs = E1
    rw [loopI_eq]
    simp [r10l3,b10l3]
  | n + 1,k,hkn => by
    have hke : k < eqs.length := by omega
    have hks : k < st.length := by omega
    have hki : (k : Int) < eqs.length := by omega
    have hkis : (k : Int) < st.length := by omega
    have hw : IntKind.i64.wrap ((k : Int) + 1) = (k : Int) + 1 := wr (by omega)
    have hat := encGs_nth (g := eqs) (i := k) hke
    have hE1 : (encGs false false eqs).length = eqs.length := by simp
    have hE2 : (encGs false false g).length = g.length := by simp
    have hS2 : (st.map PV.i).length = st.length := by simp
    have hskm : clAt st k ∈ st := by
      unfold clAt
      rw [List.getD_eq_getElem?_getD,Int.toNat_natCast,List.getElem?_eq_getElem hks,Option.getD_some]
      exact List.getElem_mem _
    have hs := hst _ hskm
    have hs1 := hs.1
    have hs2 := hs.2
    have hgk := encGs_nth (g := g) (i := (clAt st k).toNat) (by omega)
    have hsk2 : nth (st.map PV.i) k = some (.i (clAt st k)) := by rw [int_nth st k hks]; simp [clAt]
    have hLl : (eqs.getD k []).length ≤ 1048576 := hse.2 _ (by rw [List.getD_eq_getElem?_getD,List.getElem?_eq_getElem hke,Option.getD_some]; exact List.getElem_mem hke)
    have hGl : (g.getD (clAt st k).toNat []).length ≤ 1048576 := hsg.2 _ (by rw [List.getD_eq_getElem?_getD,List.getElem?_eq_getElem (by omega),Option.getD_some]; exact List.getElem_mem _)
    have ho1 : ∀ m ∈ eqs.getD k [],0 ≤ m.2 ∧ m.2 < st.length := by rw [hk]; exact hoe.row k
    have ho2 := hog.row (clAt st k).toNat
    obtain ⟨r1,l1,hr1⟩ := loopS1 cl st (encGs false false eqs) g k hks (eqs.getD k []) _ rfl ho1 ho2 hLl hGl eqs.length k hcl hst (eqs.getD k []) [] rfl
    obtain ⟨r2,l2,hr2⟩ := loopS2 cl st (encGs false false eqs) g (eqs.getD k []) _ ho1 ho2 hLl hGl eqs.length k hcl hst (g.getD (clAt st k).toNat []) [] rfl
    obtain ⟨r,hn,hr⟩ := loopS3 cl st eqs g hcl hst hk h60 hse hsg hoe hog n (k + 1) (by omega)
    simp only [List.length_nil,Int.natCast_add,show ((1 : Nat) : Int) = 1 from rfl,show ((0 : Nat) : Int) = 0 from rfl] at l1 l2 hn
    have hLm : ((eqs.getD k []).map mvP).length = (eqs.getD k []).length := by simp
    have hGm : ((g.getD (clAt st k).toNat []).map mvP).length = (g.getD (clAt st k).toNat []).length := by simp
    have hso : solN cl st eqs g (n + 1) k = (solA cl st (g.getD (clAt st k).toNat []) (eqs.getD k []) && (solB cl st (eqs.getD k []) (g.getD (clAt st k).toNat []) && solN cl st eqs g n (k + 1))) := by
      simp only [solN,solK,Bool.and_assoc]
    rw [hso]
    generalize solN cl st eqs g n (k + 1) = b3 at hr ⊢
    generalize solA cl st (g.getD (clAt st k).toNat []) (eqs.getD k []) = b1 at hr1 ⊢
    generalize solB cl st (eqs.getD k []) (g.getD (clAt st k).toNat []) = b2 at hr2 ⊢
    generalize (eqs.getD k []).map mvP = LM at hat l1 hr1 l2 hr2 hLm
    generalize (g.getD (clAt st k).toNat []).map mvP = GM at hgk l2 hr2 hGm
    generalize (eqs.getD k []).length = nL at hLm l1 hr1 l2 hr2
    generalize (g.getD (clAt st k).toNat []).length = nG at hGm l2 hr2
    generalize st.map PV.i = S at hsk2 hS2 hn hr l1 hr1 l2 hr2 ⊢
    generalize cl.map PV.i = C at hn hr l1 hr1 l2 hr2 ⊢
    generalize encGs false false g = E2 at hgk hE2 hn hr l1 hr1 l2 hr2 ⊢
    generalize encGs false false eqs = E1 at hat hE1 hn hr l1 hr1 l2 hr2 ⊢
    generalize clAt st k = sk at hsk2 hs1 hs2 hgk
    have hsn : sk.toNat < g.length := by omega
    rcases hr1 with ⟨rfl,rfl⟩ | ⟨rfl,rfl⟩
    · refine ⟨_, ?_,.inl ⟨rfl,rfl⟩⟩
      rw [loopI_eq]
      simp [r10l3,b10l3,hke,hki,hat,hE1,hLm,l1]
    · rcases hr2 with ⟨rfl,rfl⟩ | ⟨rfl,rfl⟩
      · refine ⟨_, ?_,.inl ⟨rfl,rfl⟩⟩
        rw [loopI_eq]
        simp [r10l3,b10l3,hke,hki,hat,hE1,hLm,l1,hE2,hS2,hks,hkis,hsk2,hs1,hs2,hsn,hgk,hGm,l2]
      · refine ⟨r, ?_,by simpa using hr⟩
        rw [loopI_eq]
        simp [r10l3,b10l3,hke,hki,hat,hE1,hLm,l1,hE2,hS2,hks,hkis,hsk2,hs1,hs2,hsn,hgk,hGm,l2,hw]
        exact hn
def solve (eqs g : Gr) (st : List Int) : Bool := grOk eqs && (grOk g && (decide (st.length = eqs.length) && (stOk g.length st && solN (clsG g) st eqs g eqs.length 0)))
theorem eqSolveI (eqs g : Gr) (hfe : FitG eqs) (hfg : FitG g) (hse : SmallG eqs) (hsg : SmallG g) (st : List Int) (hst : st.length ≤ 1048576) :
    callI G 10 [.agg [.sl false 1 (encGs false false eqs)],.agg [.sl false 1 (encGs false false g)],.sl false 1 (st.map PV.i)] [] = some (.b (solve eqs g st),[]) := by
  have h1 := eqOkI eqs hfe
  have h2 := eqOkI g hfg
  simp only [encG,encM_f] at h1 h2
  have hE1 : (encGs false false eqs).length = eqs.length := by simp
  have hS2 : (st.map PV.i).length = st.length := by simp
  rw [callI_eq]
  cases c1 : grOk eqs with
  | false =>
    rw [c1] at h1
    have hv : solve eqs g st = false := by simp [solve,c1]
    rw [hv]
    generalize st.map PV.i = S
    simp [body1_eq _ _ (gp 10) g10,c10,a10,h1]
  | true =>
    rw [c1] at h1
    cases c2 : grOk g with
    | false =>
      rw [c2] at h2
      have hv : solve eqs g st = false := by simp [solve,c2]
      rw [hv]
      generalize st.map PV.i = S
      simp [body1_eq _ _ (gp 10) g10,c10,a10,h1,h2]
    | true =>
      rw [c2] at h2
      by_cases c3 : st.length = eqs.length
      · obtain ⟨e1,e2,e3⟩ := grOk_to c1
        obtain ⟨q1,q2,q3⟩ := grOk_to c2
        obtain ⟨r,l0,hr⟩ := loopSt (encGs false false eqs) (encGs false false g) g (by simp) st hst st [] rfl
        simp only [List.length_nil,show ((0 : Nat) : Int) = 0 from rfl] at l0
        have hc := eqAlikeClasses _ g (encR_G false false g) hsg q1 q2 (by omega)
        have hcl3 : ((clsG g).map PV.i).length = g.length := by rw [List.length_map,clsG_len]
        rcases hr with ⟨h3,rfl⟩ | ⟨h3,rfl⟩
        · have hv : solve eqs g st = false := by simp only [solve,h3,Bool.false_and,Bool.and_false]
          rw [hv]
          generalize st.map PV.i = S at hS2 l0 ⊢
          simp [body1_eq _ _ (gp 10) g10,c10,a10,h1,h2,hS2,hE1,c3,l0] <;> simp [← c3,l0]
        · obtain ⟨r,l3,hr3⟩ := loopS3 (clsG g) st eqs g (clsG_len g) (stOk_iff.1 h3) c3 e3 hse hsg e1 q1 eqs.length 0 (by omega)
          simp only [show ((0 : Nat) : Int) = 0 from rfl] at l3
          have hv : solve eqs g st = solN (clsG g) st eqs g eqs.length 0 := by simp only [solve,c1,c2,c3,h3,decide_true,Bool.true_and]
          rw [hv]
          generalize st.map PV.i = S at hS2 l0 l3 hr3 ⊢
          generalize (clsG g).map PV.i = C at hc hcl3 l3 hr3
          rw [c3] at l0
          rcases hr3 with ⟨h4,rfl⟩ | ⟨h4,rfl⟩
          · rw [h4]
            simp [body1_eq _ _ (gp 10) g10,c10,a10,h1,h2,hS2,hE1,c3,l0,hc,hcl3,l3]
          · rw [h4]
            simp [body1_eq _ _ (gp 10) g10,c10,a10,h1,h2,hS2,hE1,c3,l0,hc,hcl3,l3]
      · have hv : solve eqs g st = false := by simp [solve,c3]
        have c4 : ¬ (st.length : Int) = eqs.length := by omega
        rw [hv]
        generalize st.map PV.i = S at hS2 ⊢
        simp [body1_eq _ _ (gp 10) g10,c10,a10,h1,h2,hS2,hE1,c4]
end Go.Am
end
section
set_option maxRecDepth 10000
set_option maxHeartbeats 1000000
set_option linter.unusedSimpArgs false
set_option linter.unusedVariables false
namespace Go.Am
open Go.Proofs Go.Sort Go.Shelf
section
variable (cl st : List Int) (eqs g : Gr)
end
end Go.Am
end
section
set_option maxRecDepth 10000
set_option maxHeartbeats 1000000
set_option linter.unusedSimpArgs false
set_option linter.unusedVariables false
namespace Go.Am
open Go.Proofs Go.Sort Go.Shelf
end Go.Am
end
section
set_option maxRecDepth 10000
set_option maxHeartbeats 1000000
set_option linter.unusedSimpArgs false
set_option linter.unusedVariables false
namespace Go.Am
open Go.Proofs Go.Sort Go.Shelf
def bothS (a b : Gr) : List PV := encGs false false a ++ encGs true false (b.map (shL a.length))
theorem bothS_R (a b : Gr) : EncR false (bothS a b) (bothG a b) := (encR_G false false a).app (encR_G true false (b.map (shL a.length)))
theorem fals_app' : ∀ (a b : List PV),fals (a ++ b) = fals a ++ fals b
  | [],b => by simp [fals]
  | x :: a,b => by simp only [List.cons_append,fals,fals_app' a b]
theorem bothS_ns (a b : Gr) : fals (bothS a b) = bothS a b := by
  unfold bothS
  rw [fals_app',fals_encGs,fals_encGs]
theorem both_small {a b : Gr} (ha : SmallG a) (hb : SmallG b) (h : a.length + b.length ≤ 1048576) : SmallG (bothG a b) := by
  refine ⟨by rw [both_len]; exact h,fun l hl => ?_⟩
  unfold bothG at hl
  rcases List.mem_append.1 hl with h | h
  · exact ha.2 l h
  · obtain ⟨r,hr,rfl⟩ := List.mem_map.1 h
    rw [shL_len]
    exact hb.2 r hr
theorem eqGBothS (a b : Gr) (hsA : SmallG a) (hsB : SmallG b) (hfA : FitG a) (hfB : FitG b) :
    callI G 17 [.agg [.sl false 1 (encGs false false a)],.agg [.sl false 1 (encGs false false b)]] [] = some (.tup [.agg [if gbOk a b = true then .sl true 1 (bothS a b) else .nils],.b (gbOk a b)],[]) := by
  have h1 := eqOkS a hfA
  have h2 := eqOkS b hfB
  simp only [encG,encM_f] at h1 h2
  have hE1 : (encGs false false a).length = a.length := by simp
  have hE2 : (encGs false false b).length = b.length := by simp
  have hsA1 := hsA.1
  have hsB1 := hsB.1
  have hw : IntKind.i64.wrap ((a.length : Int) + b.length) = (a.length : Int) + b.length := wr (by omega)
  rw [callI_eq]
  cases c1 : grOk a with
  | false =>
    rw [c1] at h1
    simp [body1_eq _ _ (gp 17) g17,c17,a17,h1,gbOk,c1]
  | true =>
    rw [c1] at h1
    cases c2 : grOk b with
    | false =>
      rw [c2] at h2
      simp [body1_eq _ _ (gp 17) g17,c17,a17,h1,h2,gbOk,c1,c2]
    | true =>
      rw [c2] at h2
      by_cases c3 : a.length + b.length ≤ 60
      · have c4 : ¬ (60 : Int) < (a.length : Int) + b.length := by omega
        obtain ⟨p1,p2,p3⟩ := grOk_to c1
        obtain ⟨q1,q2,q3⟩ := grOk_to c2
        have hb := eqBoth (encGs false false a) (encGs false false b) a b (encR_G _ _ _) (encR_G _ _ _) (by intro e; rw [e] at p2; simp at p2) (by omega) (by omega) hsA hsB (fun l hl m hm => by have := q1 l hl m hm; omega)
        have hg : gbOk a b = true := by simp [gbOk,c1,c2,c3]
        have hX : encGs false false a ++ encGs true false (b.map (shL a.length)) = bothS a b := rfl
        rw [hX] at hb
        have hns := bothS_ns a b
        rw [hg]
        generalize bothS a b = X at hb hns ⊢
        simp [body1_eq _ _ (gp 17) g17,c17,a17,h1,h2,hE1,hE2,hw,c4,hb,hns]
      · have c4 : (60 : Int) < (a.length : Int) + b.length := by omega
        have hg : gbOk a b = false := by simp [gbOk,c3]
        rw [hg]
        simp [body1_eq _ _ (gp 17) g17,c17,a17,h1,h2,hE1,hE2,hw,c4]
theorem loopFs0 (E2 : List PV) (X : List PV) (cl : List Int) (n m : Nat) (hcl : cl.length = n + m) (hnm : n + m ≤ 60) (Y : PV) (YL : Objs) (xs : List PV) (hY : OwnS 58 1 Y YL xs) (k : Nat) (hk : k < n) : ∀ (t : Nat) (b : Int),t ≤ m →
    loopI G [3,8,9,10,11,12,13] [3,17,23,27,58] c7l0 ⟨[(3,.ref (0,3) 1 0 0),(8,.sl false 1 (cl.map PV.i)),(9,.i n),(10,Y),(11,.i k),(12,.i b),(13,.i ((t : Int) - 1))],(3,.box [.sl false 1 E2]) :: (17,.frz 1 X) :: YL,[]⟩ =
      some (.exit 2,⟨[(3,.ref (0,3) 1 0 0),(8,.sl false 1 (cl.map PV.i)),(9,.i n),(10,Y),(11,.i k),(12,.i (lsI (atP cl n k) t b)),(13,.i (-1)),(38,.b false)],(3,.box [.sl false 1 E2]) :: (17,.frz 1 X) :: YL,[]⟩)
  | 0,b,ht => by
    have hz : ((0 : Nat) : Int) - 1 = -1 := by omega
    rw [hz]
    generalize cl.map PV.i = C
    rw [loopI_eq]
    rcases hY with ⟨h1,rfl,rfl⟩ | ⟨h1,rfl,rfl⟩
    · simp [r7l0,b7l0,lsI]
    · simp [r7l0,b7l0,lsI]
  | t + 1,b,ht => by
    have hz : ((t + 1 : Nat) : Int) - 1 = t := by omega
    have hw : IntKind.i64.wrap ((t : Int) - 1) = (t : Int) - 1 := wr (by omega)
    have hw2 : IntKind.i64.wrap ((n : Int) + t) = ((n + t : Nat) : Int) := by rw [wr (by omega)]; omega
    have h0 : (0 : Int) ≤ t := by omega
    have hlt : n + t < n + m := by omega
    have hkl : k < n + m := by omega
    have hlti : ((n + t : Nat) : Int) < (n : Int) + m := by omega
    have hkli : (k : Int) < (n : Int) + m := by omega
    have hc1 := int_nth cl (n + t) (by omega)
    have hc2 := int_nth cl k (by omega)
    have hcl2 : (cl.map PV.i).length = n + m := by simp [hcl]
    have h00 : (0 : Int) ≤ ((n + t : Nat) : Int) := by omega
    have hnt : ((n + t : Nat) : Int).toNat = n + t := by omega
    have hn := loopFs0 E2 X cl n m hcl hnm Y YL xs hY k hk t (if atP cl n k t = true then (t : Int) else b) (by omega)
    rw [hz]
    have hls : lsI (atP cl n k) (t + 1) b = lsI (atP cl n k) t (if atP cl n k t = true then (t : Int) else b) := rfl
    rw [hls]
    generalize hR : lsI (atP cl n k) t = Rf at hn ⊢
    generalize ((n + t : Nat) : Int) = z at hw2 hlti h00 hnt
    by_cases c : cl.getD (n + t) 0 = cl.getD k 0
    · have hp : atP cl n k t = true := by simp only [atP,c,decide_true]
      rw [hp] at hn ⊢
      rw [c] at hc1
      simp only [if_true] at hn ⊢
      generalize cl.map PV.i = C at hc1 hc2 hcl2 hn ⊢
      rw [loopI_eq]
      rcases hY with ⟨h1,rfl,rfl⟩ | ⟨h1,rfl,rfl⟩
      · simp [r7l0,b7l0,h0,hw2,hcl2,h00,hnt,hlt,hkl,hlti,hkli,hc1,hc2,hw]
        exact hn
      · simp [r7l0,b7l0,h0,hw2,hcl2,h00,hnt,hlt,hkl,hlti,hkli,hc1,hc2,hw]
        exact hn
    · have hp : atP cl n k t = false := by simp only [atP,decide_eq_false_iff_not]; exact c
      rw [hp] at hn ⊢
      simp only [Bool.false_eq_true,if_false] at hn ⊢
      generalize cl.map PV.i = C at hc1 hc2 hcl2 hn ⊢
      generalize cl.getD (n + t) 0 = v1 at hc1 c
      generalize cl.getD k 0 = v2 at hc2 c
      rw [loopI_eq]
      rcases hY with ⟨h1,rfl,rfl⟩ | ⟨h1,rfl,rfl⟩
      · simp [r7l0,b7l0,h0,hw2,hcl2,h00,hnt,hlt,hkl,hlti,hkli,hc1,hc2,hw,c]
        exact hn
      · simp [r7l0,b7l0,h0,hw2,hcl2,h00,hnt,hlt,hkl,hlti,hkli,hc1,hc2,hw,c]
        exact hn
theorem loopFs1 (E2 : List PV) (X : List PV) (cl : List Int) (n m : Nat) (hE2 : E2.length = m) (hcl : cl.length = n + m) (hnm : n + m ≤ 60) : ∀ (j k : Nat),k + j = n → ∀ O : List Int,O.length = k →
    ∃ r,loopI G [3,8,9,10,11] [3,17,23,27,58] c7l1 ⟨[(3,.ref (0,3) 1 0 0),(8,.sl false 1 (cl.map PV.i)),(9,.i n),(10,owIP 58 O),(11,.i k)],(3,.box [.sl false 1 E2]) :: (17,.frz 1 X) :: owIL 58 O,[]⟩ = some r ∧
      ((coll (fS cl n m) j k = none ∧ ∃ L,r = (.ret,⟨[(4,.nils),(5,.b false)],L,[]⟩)) ∨
       ∃ l,coll (fS cl n m) j k = some l ∧ r = (.exit 0,⟨[(3,.ref (0,3) 1 0 0),(8,.sl false 1 (cl.map PV.i)),(9,.i n),(10,owIP 58 (O ++ l)),(11,.i n),(30,.b false)],(3,.box [.sl false 1 E2]) :: (17,.frz 1 X) :: owIL 58 (O ++ l),[]⟩))
  | 0,k,hk,O,hO => by
    have he : k = n := by omega
    subst he
    refine ⟨_, ?_,.inr ⟨[],rfl,rfl⟩⟩
    rw [List.append_nil]
    generalize cl.map PV.i = C
    rw [loopI_eq]
    by_cases hd : O = []
    · subst hd
      simp [r7l1,b7l1,owIP,owIL]
    · simp [r7l1,b7l1,owIP,owIL,hd]
  | j + 1,k,hk,O,hO => by
    have hkn : k < n := by omega
    have hki : (k : Int) < n := by omega
    have hw : IntKind.i64.wrap ((k : Int) + 1) = (k : Int) + 1 := wr (by omega)
    have hw1 : IntKind.i64.wrap ((m : Int) - 1) = (m : Int) - 1 := wr (by omega)
    have h0 := loopFs0 E2 X cl n m hcl hnm _ _ _ (owI_S 58 O) k hkn m (-1) (Nat.le_refl _)
    have hol : O.length ≤ 4294967295 := by omega
    by_cases c : lsI (atP cl n k) m (-1) < 0
    · have hf : fS cl n m k = none := by simp only [fS,c,if_true]
      generalize lsI (atP cl n k) m (-1) = v at h0 c
      by_cases hd : O = []
      · subst hd
        refine ⟨(.ret,⟨[(4,.nils),(5,.b false)],owIL 58 [],[]⟩), ?_,.inl ⟨by simp only [coll,hf],_,rfl⟩⟩
        simp only [owIP,owIL,if_true] at h0
        generalize cl.map PV.i = C at h0 ⊢
        rw [loopI_eq]
        simp [r7l1,b7l1,owIP,owIL,hki,hE2,hw1,h0,c]
      · refine ⟨(.ret,⟨[(4,.nils),(5,.b false)],owIL 58 O,[]⟩), ?_,.inl ⟨by simp only [coll,hf],_,rfl⟩⟩
        simp only [owIP,owIL,hd,if_false] at h0
        generalize cl.map PV.i = C at h0 ⊢
        rw [loopI_eq]
        simp [r7l1,b7l1,owIP,owIL,hd,hki,hE2,hw1,h0,c]
    · have hf : fS cl n m k = some (lsI (atP cl n k) m (-1)) := by simp only [fS,c,if_false]
      generalize lsI (atP cl n k) m (-1) = v at h0 c hf
      obtain ⟨r,hn,hr⟩ := loopFs1 E2 X cl n m hE2 hcl hnm j (k + 1) (by omega) (O ++ [v]) (by simp [hO])
      have hne : O ++ [v] ≠ [] := by simp
      simp only [owIP,owIL,hne,if_false,List.length_append,List.length_cons,List.length_nil,Nat.zero_add,Int.natCast_add,show ((1 : Nat) : Int) = 1 from rfl] at hn
      refine ⟨r, ?_, ?_⟩
      · clear hr
        generalize cl.map PV.i = C at h0 hn ⊢
        rw [loopI_eq]
        by_cases hd : O = []
        · subst hd
          simp [owIP,owIL] at h0 hn
          simp [r7l1,b7l1,owIP,owIL,hki,hE2,hw1,h0,c,hw]
          exact hn
        · simp only [owIP,owIL,hd,if_false] at h0
          simp at hn
          simp [r7l1,b7l1,owIP,owIL,hd,hki,hE2,hw1,h0,c,hw,hol]
          exact hn
      · rcases hr with ⟨h1,h2⟩ | ⟨l,h1,h2⟩
        · exact .inl ⟨by simp only [coll,hf,h1],h2⟩
        · refine .inr ⟨v :: l,by simp only [coll,hf,h1], ?_⟩
          rw [h2]
          simp
def findE (e g : Gr) : Option (List Int) := if gbOk e g = true then coll (fS (clsG (bothG e g)) e.length g.length) e.length 0 else none
def fndP (r : Option (List Int)) : PV := match r with | none => .nils | some l => .sl true 1 (l.map PV.i)
theorem eqFindS (e g : Gr) (hse : SmallG e) (hsg : SmallG g) (hfe : FitG e) (hfg : FitG g) :
    callI G 7 [.agg [.sl false 1 (encGs false false e)],.agg [.sl false 1 (encGs false false g)]] [] = some (.tup [fndP (findE e g),.b (findE e g).isSome],[]) := by
  have hb := eqGBothS e g hse hsg hfe hfg
  have hE1 : (encGs false false e).length = e.length := by simp
  have hE2 : (encGs false false g).length = g.length := by simp
  rw [callI_eq]
  by_cases c : gbOk e g = true
  · rw [c] at hb
    simp only [if_true] at hb
    have c' := c
    simp only [gbOk,Bool.and_eq_true,decide_eq_true_eq] at c'
    obtain ⟨p1,p2,p3⟩ := grOk_to c'.1
    obtain ⟨q1,q2,q3⟩ := grOk_to c'.2.1
    have hlen := both_len e g
    have hc := eqL4Classes _ (bothG e g) (bothS_R e g) (both_small hse hsg (by omega)) (both_to p1 q1) (by omega) (by omega)
    have hns := bothS_ns e g
    have hXl : (bothS e g).length = e.length + g.length := by rw [(bothS_R e g).1,both_len]
    obtain ⟨r,hl,hr⟩ := loopFs1 (encGs false false g) (bothS e g) (clsG (bothG e g)) e.length g.length (by simp) (by rw [clsG_len,both_len]) (by omega) e.length 0 (by omega) [] rfl
    simp only [owIP,owIL,if_true,List.nil_append,show ((0 : Nat) : Int) = 0 from rfl] at hl hr
    have hfe2 : findE e g = coll (fS (clsG (bothG e g)) e.length g.length) e.length 0 := by simp only [findE,c,if_true]
    rw [hfe2]
    generalize bothS e g = X at hb hc hns hXl hl hr
    generalize (clsG (bothG e g)).map PV.i = C at hc hl hr
    generalize encGs false false g = E2 at hb hE2 hl hr ⊢
    generalize encGs false false e = E1 at hb hE1 ⊢
    rcases hr with ⟨h1,L,rfl⟩ | ⟨l,h1,rfl⟩
    · rw [h1]
      simp [body1_eq _ _ (gp 7) g7,c7,a7,hb,hc,hns,hXl,hE1,hE2,hl,fndP]
    · have hll := coll_len _ _ h1
      have hln : l ≠ [] := by intro e0; rw [e0] at hll; simp at hll; omega
      have hml : (l.map PV.i).length = l.length := by simp
      rw [h1]
      simp only [hln,if_false] at hl
      simp only [fndP]
      generalize l.map PV.i = LM at hl hml ⊢
      simp [body1_eq _ _ (gp 7) g7,c7,a7,hb,hc,hns,hXl,hE1,hE2,hl,fndP,hml]
  · have c : gbOk e g = false := by simpa using c
    rw [c] at hb
    simp only [Bool.false_eq_true,if_false] at hb
    have hfe2 : findE e g = none := by simp only [findE,c,Bool.false_eq_true,if_false]
    rw [hfe2]
    simp [body1_eq _ _ (gp 7) g7,c7,a7,hb,fndP]
end Go.Am
end
section
set_option maxRecDepth 10000
set_option maxHeartbeats 1000000
set_option linter.unusedSimpArgs false
set_option linter.unusedVariables false
namespace Go.Am
open Go.Proofs Go.Sort Go.Shelf
theorem loopFi (E2 X : List PV) (cl : List Int) (n m : Nat) (hE2 : E2.length = m) (hcl : cl.length = m + n) (hnm : m + n ≤ 60) : ∀ (j k : Nat),k + j = n → ∀ O : List Int,O.length = k →
    ∃ r,loopI G [3,8,9,25,26] [3,15,21,22,45] c6l0 ⟨[(3,.ref (0,3) 1 0 0),(8,.own (0,21) (m + n)),(9,owIP 45 O),(25,.i n),(26,.i k)],(3,.box [.sl false 1 E2]) :: (15,.row 1 X) :: (21,.row 1 (cl.map PV.i)) :: owIL 45 O,[]⟩ = some r ∧
      ((coll (fI cl m) j k = none ∧ ∃ L,r = (.ret,⟨[(4,.nils),(5,.b false)],L,[]⟩)) ∨
       ∃ l,coll (fI cl m) j k = some l ∧ r = (.exit 0,⟨[(3,.ref (0,3) 1 0 0),(8,.own (0,21) (m + n)),(9,owIP 45 (O ++ l)),(25,.i n),(26,.i n),(27,.b false)],(3,.box [.sl false 1 E2]) :: (15,.row 1 X) :: (21,.row 1 (cl.map PV.i)) :: owIL 45 (O ++ l),[]⟩))
  | 0,k,hk,O,hO => by
    have he : k = n := by omega
    subst he
    refine ⟨_, ?_,.inr ⟨[],rfl,rfl⟩⟩
    rw [List.append_nil]
    generalize cl.map PV.i = C
    rw [loopI_eq]
    by_cases hd : O = []
    · subst hd
      simp [r6l0,b6l0,owIP,owIL]
    · simp [r6l0,b6l0,owIP,owIL,hd]
  | j + 1,k,hk,O,hO => by
    have hkn : k < n := by omega
    have hki : (k : Int) < n := by omega
    have hw : IntKind.i64.wrap ((k : Int) + 1) = (k : Int) + 1 := wr (by omega)
    have hw2 : IntKind.i64.wrap ((m : Int) + k) = ((m + k : Nat) : Int) := by rw [wr (by omega)]; omega
    have hlt : m + k < m + n := by omega
    have hc1 := int_nth cl (m + k) (by omega)
    have hcl2 : (cl.map PV.i).length = m + n := by simp [hcl]
    have h00 : (0 : Int) ≤ ((m + k : Nat) : Int) := by omega
    have hnt : ((m + k : Nat) : Int).toNat = m + k := by omega
    have hzl : ((m + k : Nat) : Int) < ((m + n : Nat) : Int) := by omega
    have hol : O.length ≤ 4294967295 := by omega
    have hzl2 : ((m + k : Nat) : Int) < (m : Int) + n := by omega
    generalize ((m + k : Nat) : Int) = z at hw2 h00 hnt hzl hzl2
    by_cases c : (m : Int) ≤ cl.getD (m + k) 0
    · have hf : fI cl m k = none := by simp only [fI,c,if_true]
      generalize cl.getD (m + k) 0 = v at hc1 c
      by_cases hd : O = []
      · subst hd
        refine ⟨(.ret,⟨[(4,.nils),(5,.b false)],owIL 45 [],[]⟩), ?_,.inl ⟨by simp only [coll,hf],_,rfl⟩⟩
        generalize cl.map PV.i = C at hc1 hcl2 ⊢
        rw [loopI_eq]
        simp [r6l0,b6l0,owIP,owIL,hki,hE2,hw2,h00,hnt,hzl,hzl2,hlt,hkn,hc1,hcl2,c]
      · refine ⟨(.ret,⟨[(4,.nils),(5,.b false)],owIL 45 O,[]⟩), ?_,.inl ⟨by simp only [coll,hf],_,rfl⟩⟩
        generalize cl.map PV.i = C at hc1 hcl2 ⊢
        rw [loopI_eq]
        simp [r6l0,b6l0,owIP,owIL,hd,hki,hE2,hw2,h00,hnt,hzl,hzl2,hlt,hkn,hc1,hcl2,c]
    · have hf : fI cl m k = some (cl.getD (m + k) 0) := by simp only [fI,c,if_false]
      generalize cl.getD (m + k) 0 = v at hc1 c hf
      obtain ⟨r,hn,hr⟩ := loopFi E2 X cl n m hE2 hcl hnm j (k + 1) (by omega) (O ++ [v]) (by simp [hO])
      have hne : O ++ [v] ≠ [] := by simp
      simp only [owIP,owIL,hne,if_false,List.length_append,List.length_cons,List.length_nil,Nat.zero_add,Int.natCast_add,show ((1 : Nat) : Int) = 1 from rfl] at hn
      refine ⟨r, ?_, ?_⟩
      · clear hr
        simp only [List.map_append,List.map_cons,List.map_nil] at hn
        generalize cl.map PV.i = C at hc1 hcl2 hn ⊢
        rw [loopI_eq]
        by_cases hd : O = []
        · subst hd
          simp at hn
          simp [r6l0,b6l0,owIP,owIL,hki,hE2,hw2,h00,hnt,hzl,hzl2,hlt,hkn,hc1,hcl2,c,hw]
          exact hn
        · simp [r6l0,b6l0,owIP,owIL,hd,hki,hE2,hw2,h00,hnt,hzl,hzl2,hlt,hkn,hc1,hcl2,c,hw,hol]
          exact hn
      · rcases hr with ⟨h1,h2⟩ | ⟨l,h1,h2⟩
        · exact .inl ⟨by simp only [coll,hf,h1],h2⟩
        · refine .inr ⟨v :: l,by simp only [coll,hf,h1], ?_⟩
          rw [h2]
          simp
theorem noShares_pi : ∀ l : List Int,noShares (l.map PV.i) = true
  | [] => rfl
  | x :: l => by
    have := noShares_pi l
    simp only [List.map_cons,noShares,this,Bool.and_true]
    rfl
theorem gbOk_comm (a b : Gr) : gbOk a b = gbOk b a := by
  unfold gbOk
  rw [Bool.and_left_comm,Nat.add_comm a.length]
theorem eqFindI (e g : Gr) (hse : SmallG e) (hsg : SmallG g) (hfe : FitG e) (hfg : FitG g) :
    callI G 6 [.agg [.sl false 1 (encGs false false e)],.agg [.sl false 1 (encGs false false g)]] [] = some (.tup [fndP (findE e g),.b (findE e g).isSome],[]) := by
  have hb := eqGBothI g e hsg hse hfg hfe
  rw [gbOk_comm g e] at hb
  have hE1 : (encGs false false e).length = e.length := by simp
  have hE2 : (encGs false false g).length = g.length := by simp
  rw [callI_eq]
  by_cases c : gbOk e g = true
  · rw [c] at hb
    simp only [if_true] at hb
    have c' := c
    simp only [gbOk,Bool.and_eq_true,decide_eq_true_eq] at c'
    obtain ⟨p1,p2,p3⟩ := grOk_to c'.1
    obtain ⟨q1,q2,q3⟩ := grOk_to c'.2.1
    have hlen := both_len g e
    have hc := eqAlikeClasses _ (bothG g e) (encR_G true true (bothG g e)).fal (both_small hsg hse (by omega)) (both_to q1 p1) (by omega) (by omega)
    have hns := noShares_encGs true (bothG g e)
    have hXl : (encGs true true (bothG g e)).length = g.length + e.length := by rw [encGs_len,both_len]
    obtain ⟨r,hl,hr⟩ := loopFi (encGs false false g) (encGs true true (bothG g e)) (clsG (bothG g e)) e.length g.length (by simp) (by rw [clsG_len,both_len]) (by omega) e.length 0 (by omega) [] rfl
    simp only [owIP,owIL,if_true,List.nil_append,show ((0 : Nat) : Int) = 0 from rfl] at hl hr
    have hfe2 : findE e g = coll (fI (clsG (bothG g e)) g.length) e.length 0 := by
      simp only [findE,c,if_true]
      exact coll_congr _ _ fun i _ h2 => fS_fI p1 q1 (by omega)
    have hnC := noShares_pi (clsG (bothG g e))
    have hCl : ((clsG (bothG g e)).map PV.i).length = g.length + e.length := by rw [List.length_map,clsG_len,both_len]
    rw [hfe2]
    generalize encGs true true (bothG g e) = X at hb hc hns hXl hl hr
    generalize (clsG (bothG g e)).map PV.i = C at hc hl hr hCl hnC
    generalize encGs false false g = E2 at hb hE2 hl hr ⊢
    generalize encGs false false e = E1 at hb hE1 ⊢
    rcases hr with ⟨h1,L,rfl⟩ | ⟨l,h1,rfl⟩
    · rw [h1]
      simp [body1_eq _ _ (gp 6) g6,c6,a6,hb,hc,hns,hXl,hE1,hE2,hl,fndP,hCl,hnC]
    · have hll := coll_len _ _ h1
      have hln : l ≠ [] := by intro e0; rw [e0] at hll; simp at hll; omega
      have hml : (l.map PV.i).length = l.length := by simp
      rw [h1]
      simp only [hln,if_false] at hl
      simp only [fndP]
      generalize l.map PV.i = LM at hl hml ⊢
      simp [body1_eq _ _ (gp 6) g6,c6,a6,hb,hc,hns,hXl,hE1,hE2,hl,fndP,hml,hCl,hnC]
  · have c : gbOk e g = false := by simpa using c
    rw [c] at hb
    simp only [Bool.false_eq_true,if_false] at hb
    have hfe2 : findE e g = none := by simp only [findE,c,Bool.false_eq_true,if_false]
    rw [hfe2]
    simp [body1_eq _ _ (gp 6) g6,c6,a6,hb,fndP]
end Go.Am
end
