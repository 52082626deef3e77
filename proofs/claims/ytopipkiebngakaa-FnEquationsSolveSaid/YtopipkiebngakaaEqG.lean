/- What the functions that the law reaches compute. -/
import Derived.Test.YtopipkiebngakaaEqF
import Derived.Test.YtopipkiebngakaaEqA
import Derived.Test.YtopipkiebngakaaEqE
section
set_option maxRecDepth 10000
set_option maxHeartbeats 4000000
set_option linter.unusedSimpArgs false
set_option linter.unusedVariables false
namespace Go.Am
open Go.Proofs Go.Sort Go.Shelf
def clsV (g : Gr) : PV := if grOk g = true then .sl true 1 ((clsG g).map PV.i) else .nils
theorem eqAlikeC (g : Gr) (hsm : SmallG g) (hf : FitG g) : callI G 13 [encG false false g] [] = some (clsV g,[]) := by
  have h1 := eqOkI g hf
  simp only [encG,encM_f] at h1
  rw [callI_eq]
  unfold clsV
  cases c1 : grOk g with
  | false =>
    rw [c1] at h1
    simp [body1_eq _ _ (gp 13) g13,c13,a13,h1]
  | true =>
    rw [c1] at h1
    obtain ⟨p1,p2,p3⟩ := grOk_to c1
    have h2 := eqAlikeClasses _ g (encR_G false false g) hsm p1 p2 (by omega)
    simp [body1_eq _ _ (gp 13) g13,c13,a13,h1,h2]
end Go.Am
end
section
set_option maxRecDepth 10000
set_option maxHeartbeats 4000000
set_option linter.unusedSimpArgs false
set_option linter.unusedVariables false
namespace Go.Am
open Go.Proofs Go.Sort Go.Shelf
theorem trees_encGs : ∀ g : Gr,trees (encGs true true g) = true
  | [] => rfl
  | l :: g => by
    have ih := trees_encGs g
    simp only [encGs,List.map_cons,trees,Bool.and_eq_true] at ih ⊢
    refine ⟨?_,ih⟩
    have h2 : ∀ l : List Mv,trees (l.map mvP) = true := by
      intro l
      induction l with
      | nil => rfl
      | cons m l ih => simp only [List.map_cons,trees,ih,Bool.and_true]; rfl
    unfold encL
    split
    · rfl
    · simp only [tree]; exact h2 l
theorem tree_encG (g : Gr) : tree (encG true true g) = true := by
  simp only [encG,encM',tree,trees,Bool.and_true]
  split
  · rfl
  · simp only [tree,trees_encGs g]
theorem fal_encG (g : Gr) : fal (encG true true g) = encG true false g := by simp only [encG,fal,fals,fal_encM]
theorem low_gx (g : Gr) (y : PV) (hy : tree y = true) : lowTR (some (.tup [encG true true g,y],[])) = some (.tup [encG true false g,fal y],[]) := by
  have ht : trees [encG true true g,y] = true := by simp only [trees,tree_encG,hy,Bool.and_true]
  simp only [lowTR,ht,if_true,fals,fal_encG]
theorem low_gb (g : Gr) (b : Bool) : lowTR (some (.tup [encG true true g,.b b],[])) = some (.tup [encG true false g,.b b],[]) := low_gx g (.b b) rfl
end Go.Am
end
section
set_option maxRecDepth 10000
set_option maxHeartbeats 4000000
set_option linter.unusedSimpArgs false
set_option linter.unusedVariables false
namespace Go.Am
open Go.Proofs Go.Sort Go.Shelf
theorem nPick {args : List PV} {o : Stack} {x : Option (PV × Stack)} (h : callI H 25 args o = x) : callI N 25 args o = x := by
  rw [callI_prim' (p := viaP H 25 id) rfl]
  simpa only [viaP,List.map_id_fun,id] using h
theorem nGraph {args : List PV} {o o' : Stack} {g : Gr} (h : callI H 30 args o = some (encG true true g,o')) : callI N 30 args o = some (encG true false g,o') := by
  rw [callI_prim' (p := lowXP H 30 id) rfl]
  simp only [lowXP,viaP,List.map_id_fun,id,h,lowXR,tree_encG,if_true,fal_encG]
theorem nOf (ds : List Tm) (hs : SmTs ds) (hl : ds.length ≤ 1000) (t : Tm) (ht : SmT t) : ∃ (g : Gr) (ok : Bool),SmallG g ∧ callI N 32 [encT false t,encQ false ds] [] = some (.tup [encG true false g,.b ok],[]) := by
  obtain ⟨g,ok,h1,h2,h⟩ := eqGraphOf ds hs hl t ht
  refine ⟨g,ok,⟨by omega,fun l hl => by have := h2 l hl; omega⟩, ?_⟩
  rw [callI_prim' (p := lowTP G 32 id) rfl]
  simp only [lowTP,viaP,List.map_id_fun,id,h]
  exact low_gb g ok
theorem nFold (g : Gr) (sg : SmallG g) : ∃ (F : Gr) (ok : Bool),SmallG F ∧ callI N 33 [encG true false g] [] = some (.tup [encG true false F,.b ok],[]) := by
  obtain ⟨F,ok,sF,h⟩ := eqGraphFold g sg
  refine ⟨F,ok,sF, ?_⟩
  rw [callI_prim' (p := lowTP G 33 wkG) rfl]
  simp only [lowTP,viaP,List.map_cons,List.map_nil,wkG_enc,h]
  exact low_gb F ok
theorem eqTwins (o : Stack) (id : Id) (hid : id.1 < o.length) (B : List Nat) (p : Int) (hr : RdrOK B p) (hp : p + 40000 ≤ 1000000000) :
    ∃ g h q,p ≤ q ∧ q ≤ p + 40000 ∧ SmallG g ∧ SmallG h ∧ callI N 15 [.ref id 1 0 0] (setS o id (rd B p)) = some (.tup [encG true false g,encG true false h],setS o id (rd B q)) := by
  have hne2 : ¬ id.1 = o.length := by omega
  obtain ⟨g,q1,a1,a2,sg,hg⟩ := drawGF o id hid B p hr (by omega)
  have hg := nGraph hg
  obtain ⟨h,q2,b1,b2,sh,hh⟩ := drawGF o id hid B q1 (hr.next (by omega) (by omega)) (by omega)
  have hh := nGraph hh
  obtain ⟨k,c1,c2,c3⟩ := pickF o id hid B q2 4 (hr.next (by omega) (by omega)) (by omega) (by omega)
  have c3 := nPick c3
  simp only [encG] at hg hh
  by_cases h0 : k = 0
  · subst h0
    obtain ⟨t,u,ds,q3,d1,d2,st,su,sds,ld,hpr⟩ := pairF o id hid B (q2 + 1) (hr.next (by omega) (by omega)) (by omega)
    obtain ⟨a,ok,sa,ha⟩ := nOf ds sds (by omega) t st
    obtain ⟨b,fine,sb,hb⟩ := nOf ds sds (by omega) u su
    obtain ⟨to,tn,tp⟩ := t
    obtain ⟨uo,un,up⟩ := u
    simp only [encG,encT_open] at ha hb hpr
    cases ok with
    | false =>
      refine ⟨g,h,q3,by omega,by omega,sg,sh, ?_⟩
      rw [callI_eq]
      simp [body1_eq _ _ (gpN 15) g15,c15,a15,hne2,setS_len,hg,hh,c3,hpr,ha,hb]
    | true =>
      cases fine with
      | false =>
        refine ⟨g,h,q3,by omega,by omega,sg,sh, ?_⟩
        rw [callI_eq]
        simp [body1_eq _ _ (gpN 15) g15,c15,a15,hne2,setS_len,hg,hh,c3,hpr,ha,hb]
      | true =>
        refine ⟨a,b,q3,by omega,by omega,sa,sb, ?_⟩
        rw [callI_eq]
        simp [body1_eq _ _ (gpN 15) g15,c15,a15,hne2,setS_len,hg,hh,c3,hpr,ha,hb]
  · by_cases h1 : k = 1
    · subst h1
      obtain ⟨F,ok,sF,hF⟩ := nFold g sg
      simp only [encG] at hF
      cases ok with
      | false =>
        refine ⟨g,h,q2 + 1,by omega,by omega,sg,sh, ?_⟩
        rw [callI_eq]
        simp [body1_eq _ _ (gpN 15) g15,c15,a15,hne2,setS_len,hg,hh,c3,hF]
      | true =>
        refine ⟨g,F,q2 + 1,by omega,by omega,sg,sF, ?_⟩
        rw [callI_eq]
        simp [body1_eq _ _ (gpN 15) g15,c15,a15,hne2,setS_len,hg,hh,c3,hF]
    · refine ⟨g,h,q2 + 1,by omega,by omega,sg,sh, ?_⟩
      rw [callI_eq]
      simp [body1_eq _ _ (gpN 15) g15,c15,a15,hne2,setS_len,hg,hh,c3,h0,h1]
theorem nOpen (B : List Nat) (hB : B.length ≤ 9223372036854775807) : ∃ B',B'.length ≤ 2000 ∧ (∀ b ∈ B',b ∈ B) ∧ callI N 14 [.sl false 1 (byVs B)] [] = some (.bx [.sl false 1 (byVs B'),.i 0],[]) := by
  obtain ⟨B',h1,h2,h3⟩ := eqOpen B hB
  refine ⟨B',h1,h2, ?_⟩
  rw [callI_prim' (p := viaP H 14 id) rfl]
  simpa only [viaP,List.map_id_fun,id] using h3
end Go.Am
end
section
set_option maxRecDepth 10000
set_option maxHeartbeats 1000000
set_option linter.unusedSimpArgs false
set_option linter.unusedVariables false
namespace Go.Am
open Go.Proofs Go.Sort Go.Shelf
def meet (cl st : List Int) (m n : Mv) : Bool := decide (m.1 = n.1) && decide (clAt cl (clAt st m.2) = clAt cl n.2)
theorem eqMeet (cl st : List Int) (N : Nat) (hcl : cl.length = N) (hst : ∀ x ∈ st,0 ≤ x ∧ x < N) (L0 : Objs) (h9 : getO L0 9 = some (.box [.own (0,50) N])) (h5 : getO L0 5 = some (.box [.sl false 1 (st.map PV.i)])) (h50 : getO L0 50 = some (.row 1 (cl.map PV.i))) (m n : Mv) (hm : 0 ≤ m.2 ∧ m.2 < st.length) (hn : 0 ≤ n.2 ∧ n.2 < N) :
    callI G 21 [mvP m,mvP n,.ref (0,9) 1 0 0,.ref (0,5) 1 0 0] [L0,[],[],[]] = some (.b (meet cl st m n),[L0,[],[],[]]) := by
  have hm1 := hm.1
  have hm2 := hm.2
  have hn1 := hn.1
  have hn2 := hn.2
  have hs : nth (st.map PV.i) m.2.toNat = some (.i (clAt st m.2)) := int_nth st m.2.toNat (by omega)
  have hsm : clAt st m.2 ∈ st := by
    unfold clAt
    rw [List.getD_eq_getElem?_getD,List.getElem?_eq_getElem (by omega),Option.getD_some]
    exact List.getElem_mem _
  have hs1 := (hst _ hsm).1
  have hs2 := (hst _ hsm).2
  have hc1 : nth (cl.map PV.i) (clAt st m.2).toNat = some (.i (clAt cl (clAt st m.2))) := int_nth cl _ (by omega)
  have hc2 : nth (cl.map PV.i) n.2.toNat = some (.i (clAt cl n.2)) := int_nth cl _ (by omega)
  have hcl2 : (cl.map PV.i).length = N := by simp [hcl]
  have hst2 : (st.map PV.i).length = st.length := by simp
  generalize cl.map PV.i = C at hc1 hc2 hcl2 h50
  generalize st.map PV.i = S at hs hst2 h5
  simp only [mvP,meet]
  by_cases c1 : m.1 = n.1
  · rw [callI_eq]
    simp [body1_eq _ _ (gp 21) g21,c21,a21,c1,h9,h5,h50,hm1,hm2,hn1,hn2,hs,hs1,hs2,hc1,hc2,hcl2,hst2]
  · rw [callI_eq]
    simp [body1_eq _ _ (gp 21) g21,c21,a21,c1,h9,h5]
abbrev cloMt : PV := .clo 21 [.ref (0,9) 1 0 0,.ref (0,5) 1 0 0]
theorem eqMt2 (L0 : Objs) (m n : Mv) (b : Bool) (h12 : getO L0 12 = some (.box [cloMt])) (h14 : getO L0 14 = some (.box [.i m.1,.i m.2]))
    (h : callI G 21 [mvP m,mvP n,.ref (0,9) 1 0 0,.ref (0,5) 1 0 0] [L0,[],[],[]] = some (.b b,[L0,[],[],[]])) :
    callI G 23 [mvP n,.ref (0,12) 1 0 0,.ref (0,14) 1 0 0] [L0,[],[]] = some (.b b,[L0,[],[]]) := by
  simp only [mvP] at h ⊢
  rw [callI_eq]
  simp [body1_eq _ _ (gp 23) g23,c23,a23,h12,h14,h,unAgg]
theorem eqMt3 (L0 : Objs) (m n : Mv) (b : Bool) (h12 : getO L0 12 = some (.box [cloMt])) (h16 : getO L0 16 = some (.box [.i n.1,.i n.2]))
    (h : callI G 21 [mvP m,mvP n,.ref (0,9) 1 0 0,.ref (0,5) 1 0 0] [L0,[],[],[]] = some (.b b,[L0,[],[],[]])) :
    callI G 24 [mvP m,.ref (0,12) 1 0 0,.ref (0,16) 1 0 0] [L0,[],[]] = some (.b b,[L0,[],[]]) := by
  simp only [mvP] at h ⊢
  rw [callI_eq]
  simp [body1_eq _ _ (gp 24) g24,c24,a24,h12,h16,h,unAgg]
theorem loopIxR (cf k : Nat) (F : Mv → Bool) (l : List Mv) (nl : Bool) (L0 : Objs) (B1 B2 : List PV) (h12 : getO L0 12 = some (.box B1)) (hk : getO L0 k = some (.box B2)) (hc : ∀ x ∈ l,callI G cf [mvP x,.ref (0,12) 1 0 0,.ref (0,k) 1 0 0] [L0,[],[]] = some (.b (F x),[L0,[],[]])) (hN : l.length ≤ 1048576) : ∀ (rest done : List Mv),l = done ++ rest →
    (∃ i : Nat,rest.any F = true ∧ loopI G [0,1,7,8] [] c40l0 ⟨[(0,encL nl false l),(1,.clo cf [.ref (0,12) 1 0 0,.ref (0,k) 1 0 0]),(7,.i l.length),(8,.i done.length)],[],[L0,[]]⟩ = some (.ret,⟨[(4,.i i)],[],[L0,[]]⟩)) ∨
    (rest.any F = false ∧ loopI G [0,1,7,8] [] c40l0 ⟨[(0,encL nl false l),(1,.clo cf [.ref (0,12) 1 0 0,.ref (0,k) 1 0 0]),(7,.i l.length),(8,.i done.length)],[],[L0,[]]⟩ = some (.exit 0,⟨[(0,encL nl false l),(1,.clo cf [.ref (0,12) 1 0 0,.ref (0,k) 1 0 0]),(7,.i l.length),(8,.i l.length),(9,.b false)],[],[L0,[]]⟩))
  | [],done,hd => by
    rw [List.append_nil] at hd
    subst hd
    have hkn : ∀ f n,known f n (encL nl false l) = true := fun f n => by simp
    generalize encL nl false l = X at hkn ⊢
    refine .inr ⟨rfl, ?_⟩
    rw [loopI_eq]
    simp [r40l0,b40l0,hkn]
  | x :: rest,done,hd => by
    have hen : encL nl false l = .sl false 2 (l.map mvP) := encL_ne (by rw [hd]; simp)
    have hll : l.length = done.length + (rest.length + 1) := by rw [hd]; simp
    have hlt : (done.length : Int) < l.length := by omega
    have hlt2 : done.length < l.length := by omega
    have hw : IntKind.i64.wrap ((done.length : Int) + 1) = (done.length : Int) + 1 := wr (by omega)
    have hat : nth (l.map mvP) done.length = some (mvP x) := by rw [hd]; exact mv_at done x rest
    have hml : (l.map mvP).length = l.length := by simp
    have hcx := hc x (by rw [hd]; simp)
    simp only [mvP] at hat hcx
    cases hF : F x with
    | true =>
      rw [hF] at hcx
      refine .inl ⟨done.length,by simp [hF], ?_⟩
      rw [hen]
      generalize hM : l.map mvP = M at hat hml
      rw [loopI_eq]
      simp [r40l0,b40l0,hlt,hlt2,hml,hat,hcx,h12,hk,unAgg]
    | false =>
      rw [hF] at hcx
      have ih := loopIxR cf k F l nl L0 B1 B2 h12 hk hc hN rest (done ++ [x]) (by simpa using hd)
      simp only [List.length_append,List.length_cons,List.length_nil,Int.natCast_add,show ((0 + 1 : Nat) : Int) = 1 from rfl] at ih
      rw [hen] at ih ⊢
      rcases ih with ⟨i,h1,h4⟩ | ⟨h1,h2⟩
      · refine .inl ⟨i,by simp only [List.any_cons,hF,h1,Bool.false_or], ?_⟩
        generalize hM : l.map mvP = M at hat hml h4 ⊢
        rw [loopI_eq]
        simp [r40l0,b40l0,hlt,hlt2,hml,hat,hcx,hw,h12,hk,unAgg]
        exact h4
      · refine .inr ⟨by simp only [List.any_cons,hF,h1,Bool.false_or], ?_⟩
        generalize hM : l.map mvP = M at hat hml h2 ⊢
        rw [loopI_eq]
        simp [r40l0,b40l0,hlt,hlt2,hml,hat,hcx,hw,h12,hk,unAgg]
        exact h2
theorem eqCtR (cf k : Nat) (F : Mv → Bool) (l : List Mv) (nl : Bool) (L0 : Objs) (B1 B2 : List PV) (h12 : getO L0 12 = some (.box B1)) (hk : getO L0 k = some (.box B2)) (hc : ∀ x ∈ l,callI G cf [mvP x,.ref (0,12) 1 0 0,.ref (0,k) 1 0 0] [L0,[],[]] = some (.b (F x),[L0,[],[]])) (hN : l.length ≤ 1048576) :
    callI G 22 [encL nl false l,.clo cf [.ref (0,12) 1 0 0,.ref (0,k) 1 0 0]] [L0] = some (.b (l.any F),[L0]) := by
  have hlen : ∀ n d gg,core1 n d gg .len [encL nl false l] = some (.i l.length,[]) := fun n d gg => by simp
  have hkn : ∀ f n,known f n (encL nl false l) = true := fun f n => by simp
  have hf : encL nl false l = .nils ∨ ∃ Q,encL nl false l = .sl false 2 Q := by
    rcases encL_two nl false l with ⟨e,_⟩ | e
    · exact .inl e
    · exact .inr ⟨_,e⟩
  have hIx : ∃ i : Int,callI G 40 [encL nl false l,.clo cf [.ref (0,12) 1 0 0,.ref (0,k) 1 0 0]] [L0,[]] = some (.i i,[L0,[]]) ∧ decide (0 ≤ i) = l.any F := by
    rcases loopIxR cf k F l nl L0 B1 B2 h12 hk hc hN l [] rfl with ⟨i,h1,h4⟩ | ⟨h1,h2⟩
    · refine ⟨i, ?_,by rw [h1]; simp⟩
      simp only [List.length_nil,show ((0 : Nat) : Int) = 0 from rfl] at h4
      generalize encL nl false l = X at hlen hkn h4 ⊢
      rw [callI_eq]
      simp [body1_eq _ _ (gp 40) g40,c40,a40,hlen,hkn,h12,hk,h4]
    · refine ⟨-1, ?_,by rw [h1]; simp⟩
      simp only [List.length_nil,show ((0 : Nat) : Int) = 0 from rfl] at h2
      generalize encL nl false l = X at hlen hkn h2 ⊢
      rw [callI_eq]
      simp [body1_eq _ _ (gp 40) g40,c40,a40,hlen,hkn,h12,hk,h2]
  obtain ⟨i,h1,h2⟩ := hIx
  rw [← h2]
  generalize encL nl false l = X at h1 hf ⊢
  rw [callI_eq]
  rcases hf with rfl | ⟨Q,rfl⟩
  · simp [body1_eq _ _ (gp 22) g22,c22,a22,h12,hk,h1]
  · simp [body1_eq _ _ (gp 22) g22,c22,a22,h12,hk,h1]
end Go.Am
end
section
set_option maxRecDepth 10000
set_option maxHeartbeats 1000000
set_option linter.unusedSimpArgs false
set_option linter.unusedVariables false
namespace Go.Am
open Go.Proofs Go.Sort Go.Shelf
def stOk (N : Nat) (st : List Int) : Bool := st.all fun x => decide (0 ≤ x) && decide (x < N)
theorem stOk_iff {N : Nat} {st : List Int} : stOk N st = true ↔ ∀ x ∈ st,0 ≤ x ∧ x < N := by
  simp [stOk,List.all_eq_true]
def solA (cl st : List Int) (GK : List Mv) (L : List Mv) : Bool := L.all fun m => GK.any fun n => meet cl st m n
def solB (cl st : List Int) (L : List Mv) (GK : List Mv) : Bool := GK.all fun n => L.any fun m => meet cl st m n
def solK (cl st : List Int) (eqs g : Gr) (k : Nat) : Bool := solA cl st (g.getD (clAt st k).toNat []) (eqs.getD k []) && solB cl st (eqs.getD k []) (g.getD (clAt st k).toNat [])
def solN (cl st : List Int) (eqs g : Gr) : Nat → Nat → Bool
  | 0,_ => true
  | n + 1,k => solK cl st eqs g k && solN cl st eqs g n (k + 1)
theorem encGs_nth {g : Gr} {i : Nat} (h : i < g.length) : nth (encGs false false g) i = some (.sl false 2 ((g.getD i []).map mvP)) := by
  unfold nth encGs
  rw [List.getElem?_map,List.getElem?_eq_getElem h,List.getD_eq_getElem?_getD,List.getElem?_eq_getElem h]
  simp
theorem loopSt (E1 E2 : List PV) (g : Gr) (hE2 : E2.length = g.length) (st : List Int) (hl : st.length ≤ 1048576) : ∀ (rest done : List Int),st = done ++ rest →
    ∃ r,loopI G [3,4,5,33,34,35] [3,4,5] c10l0 ⟨[(3,.ref (0,3) 1 0 0),(4,.ref (0,4) 1 0 0),(5,.ref (0,5) 1 0 0),(33,.sl false 1 (st.map PV.i)),(34,.i st.length),(35,.i done.length)],[(3,.box [.sl false 1 E1]),(4,.box [.sl false 1 E2]),(5,.box [.sl false 1 (st.map PV.i)])],[]⟩ = some r ∧
      ((stOk g.length rest = false ∧ r = (.ret,⟨[(6,.b false)],[],[]⟩)) ∨ (stOk g.length rest = true ∧ r = (.exit 0,⟨[(3,.ref (0,3) 1 0 0),(4,.ref (0,4) 1 0 0),(5,.ref (0,5) 1 0 0),(33,.sl false 1 (st.map PV.i)),(34,.i st.length),(35,.i st.length),(36,.b false)],[(3,.box [.sl false 1 E1]),(4,.box [.sl false 1 E2]),(5,.box [.sl false 1 (st.map PV.i)])],[]⟩)))
  | [],done,hd => by
    rw [List.append_nil] at hd
    subst hd
    refine ⟨_, ?_,.inr ⟨rfl,rfl⟩⟩
    generalize st.map PV.i = S
    rw [loopI_eq]
    simp [r10l0,b10l0]
  | x :: rest,done,hd => by
    have hll : st.length = done.length + (rest.length + 1) := by rw [hd]; simp
    have hlt : (done.length : Int) < st.length := by omega
    have hlt2 : done.length < st.length := by omega
    have hw : IntKind.i64.wrap ((done.length : Int) + 1) = (done.length : Int) + 1 := wr (by omega)
    have hat : nth (st.map PV.i) done.length = some (.i x) := by rw [hd]; exact ii_at done x rest
    have hml : (st.map PV.i).length = st.length := by simp
    obtain ⟨r,hn,hr⟩ := loopSt E1 E2 g hE2 st hl rest (done ++ [x]) (by simpa using hd)
    simp only [List.length_append,List.length_cons,List.length_nil,Int.natCast_add,show ((0 + 1 : Nat) : Int) = 1 from rfl] at hn
    generalize hS : st.map PV.i = S at hat hml hn hr ⊢
    by_cases c1 : x < 0
    · refine ⟨_, ?_,.inl ⟨by simp only [stOk,List.all_cons,show decide (0 ≤ x) = false from decide_eq_false (by omega),Bool.false_and],rfl⟩⟩
      rw [loopI_eq]
      simp [r10l0,b10l0,hlt,hlt2,hat,hml,c1]
    · by_cases c2 : (g.length : Int) ≤ x
      · refine ⟨_, ?_,.inl ⟨by simp only [stOk,List.all_cons,show decide (x < g.length) = false from decide_eq_false (by omega),Bool.and_false,Bool.false_and],rfl⟩⟩
        rw [loopI_eq]
        simp [r10l0,b10l0,hlt,hlt2,hat,hml,c1,hE2,c2]
      · refine ⟨r, ?_,by simpa only [stOk,List.all_cons,show decide (x < g.length) = true from decide_eq_true (by omega),show decide (0 ≤ x) = true from decide_eq_true (by omega),Bool.true_and] using hr⟩
        rw [loopI_eq]
        simp [r10l0,b10l0,hlt,hlt2,hat,hml,c1,hE2,c2,hw]
        exact hn
section
variable (cl st : List Int) (E1 : List PV) (g : Gr) (hcl : cl.length = g.length) (hst : ∀ x ∈ st,0 ≤ x ∧ x < g.length)
theorem loopS1 (k : Nat) (hk : k < st.length) (LE GK : List Mv) (hGK : g.getD (clAt st k).toNat [] = GK) (hto : ∀ m ∈ LE,0 ≤ m.2 ∧ m.2 < st.length) (hto2 : ∀ m ∈ GK,0 ≤ m.2 ∧ m.2 < g.length) (hLl : LE.length ≤ 1048576) (hGl : GK.length ≤ 1048576) (n1 : Int) (j : Int)
    (hcl : cl.length = g.length) (hst : ∀ x ∈ st,0 ≤ x ∧ x < g.length) : ∀ (rest done : List Mv),LE = done ++ rest →
    ∃ r,loopI G [4,5,9,10,11,12,52,53,54,60,61,62] [4,5,9,12,50] c10l1
        ⟨[(4,.ref (0,4) 1 0 0),(5,.ref (0,5) 1 0 0),(9,.ref (0,9) 1 0 0),(10,.i k),(11,.sl false 2 (LE.map mvP)),(12,.ref (0,12) 1 0 0),(52,.sl false 1 E1),(53,.i n1),(54,.i j),(60,.sl false 2 (LE.map mvP)),(61,.i LE.length),(62,.i done.length)],[(4,.box [.sl false 1 (encGs false false g)]),(5,.box [.sl false 1 (st.map PV.i)]),(9,.box [.own (0,50) g.length]),(12,.box [cloMt]),(50,.row 1 (cl.map PV.i))],[]⟩ = some r ∧
      ((solA cl st GK rest = false ∧ r = (.ret,⟨[(6,.b false)],[],[]⟩)) ∨ (solA cl st GK rest = true ∧ r = (.exit 4,
        ⟨[(4,.ref (0,4) 1 0 0),(5,.ref (0,5) 1 0 0),(9,.ref (0,9) 1 0 0),(10,.i k),(11,.sl false 2 (LE.map mvP)),(12,.ref (0,12) 1 0 0),(52,.sl false 1 E1),(53,.i n1),(54,.i j),(60,.sl false 2 (LE.map mvP)),(61,.i LE.length),(62,.i LE.length),(63,.b false)],[(4,.box [.sl false 1 (encGs false false g)]),(5,.box [.sl false 1 (st.map PV.i)]),(9,.box [.own (0,50) g.length]),(12,.box [cloMt]),(50,.row 1 (cl.map PV.i))],[]⟩)))
  | [],done,hd => by
    rw [List.append_nil] at hd
    subst hd
    refine ⟨_, ?_,.inr ⟨rfl,rfl⟩⟩
    have hml : (LE.map mvP).length = LE.length := by simp
    generalize st.map PV.i = S
    generalize cl.map PV.i = C
    generalize encGs false false g = E2
    rw [loopI_eq]
    simp [r10l1,b10l1]
  | m :: rest,done,hd => by
    have hll : LE.length = done.length + (rest.length + 1) := by rw [hd]; simp
    have hlt : (done.length : Int) < LE.length := by omega
    have hlt2 : done.length < LE.length := by omega
    have hw : IntKind.i64.wrap ((done.length : Int) + 1) = (done.length : Int) + 1 := wr (by omega)
    have hat : nth (LE.map mvP) done.length = some (mvP m) := by rw [hd]; exact mv_at done m rest
    have hml : (LE.map mvP).length = LE.length := by simp
    have hki : (k : Int) < st.length := by omega
    have hsk := int_nth st k hk
    have hskm : clAt st k ∈ st := by
      unfold clAt
      rw [List.getD_eq_getElem?_getD,Int.toNat_natCast,List.getElem?_eq_getElem hk,Option.getD_some]
      exact List.getElem_mem _
    have hs := hst _ hskm
    have hs1 := hs.1
    have hs2 := hs.2
    have hgk := encGs_nth (g := g) (i := (clAt st k).toNat) (by omega)
    rw [hGK] at hgk
    have hsk2 : nth (st.map PV.i) k = some (.i (clAt st k)) := by rw [hsk]; simp [clAt]
    have hE2 : (encGs false false g).length = g.length := by simp
    have hS2 : (st.map PV.i).length = st.length := by simp
    obtain ⟨r,hn,hr⟩ := loopS1 k hk LE GK hGK hto hto2 hLl hGl n1 j hcl hst rest (done ++ [m]) (by simpa using hd)
    simp only [List.length_append,List.length_cons,List.length_nil,Int.natCast_add,show ((0 + 1 : Nat) : Int) = 1 from rfl] at hn
    have hct := eqCtR 23 14 (fun n => meet cl st m n) GK false [(4,.box [.sl false 1 (encGs false false g)]),(5,.box [.sl false 1 (st.map PV.i)]),(9,.box [.own (0,50) g.length]),(12,.box [cloMt]),(14,.box [.i m.1,.i m.2]),(50,.row 1 (cl.map PV.i))] _ _ rfl rfl (fun n hn => eqMt2 _ m n _ rfl rfl (eqMeet cl st g.length hcl hst _ rfl rfl rfl m n (hto m (by rw [hd]; simp)) (hto2 n hn))) hGl
    rw [encL_f] at hct
    simp only [mvP] at hat
    generalize hS : st.map PV.i = S at hsk2 hS2 hn hr hct ⊢
    generalize hC : cl.map PV.i = C at hn hr hct ⊢
    generalize hEE : encGs false false g = E2 at hgk hE2 hn hr hct ⊢
    generalize hLM : LE.map mvP = LM at hat hml hn hr ⊢
    generalize clAt st k = sk at hsk2 hs1 hs2 hgk
    have hsn : sk.toNat < g.length := by omega
    cases hv : GK.any (fun n => meet cl st m n) with
    | false =>
      rw [hv] at hct
      generalize hGM : GK.map mvP = GM at hgk hct
      refine ⟨_, ?_,.inl ⟨by simp only [solA,List.all_cons,hv,Bool.false_and],rfl⟩⟩
      rw [loopI_eq]
      simp [r10l1,b10l1,hlt,hlt2,hat,hml,unAgg,hk,hki,hS2,hsk2,hs1,hs2,hsn,hE2,hgk,hct]
    | true =>
      rw [hv] at hct
      generalize hGM : GK.map mvP = GM at hgk hct
      refine ⟨r, ?_,by simpa only [solA,List.all_cons,hv,Bool.true_and] using hr⟩
      rw [loopI_eq]
      simp [r10l1,b10l1,hlt,hlt2,hat,hml,unAgg,hk,hki,hS2,hsk2,hs1,hs2,hsn,hE2,hgk,hct,hw]
      exact hn
theorem loopS2 (LE GK : List Mv) (hto : ∀ m ∈ LE,0 ≤ m.2 ∧ m.2 < st.length) (hto2 : ∀ m ∈ GK,0 ≤ m.2 ∧ m.2 < g.length) (hLl : LE.length ≤ 1048576) (hGl : GK.length ≤ 1048576) (n1 : Int) (j : Int)
    (hcl : cl.length = g.length) (hst : ∀ x ∈ st,0 ≤ x ∧ x < g.length) : ∀ (rest done : List Mv),GK = done ++ rest →
    ∃ r,loopI G [4,5,9,11,12,52,53,54,85,86,87] [4,5,9,12,50] c10l2
        ⟨[(4,.ref (0,4) 1 0 0),(5,.ref (0,5) 1 0 0),(9,.ref (0,9) 1 0 0),(11,.sl false 2 (LE.map mvP)),(12,.ref (0,12) 1 0 0),(52,.sl false 1 E1),(53,.i n1),(54,.i j),(85,.sl false 2 (GK.map mvP)),(86,.i GK.length),(87,.i done.length)],[(4,.box [.sl false 1 (encGs false false g)]),(5,.box [.sl false 1 (st.map PV.i)]),(9,.box [.own (0,50) g.length]),(12,.box [cloMt]),(50,.row 1 (cl.map PV.i))],[]⟩ = some r ∧
      ((solB cl st LE rest = false ∧ r = (.ret,⟨[(6,.b false)],[],[]⟩)) ∨ (solB cl st LE rest = true ∧ r = (.exit 6,
        ⟨[(4,.ref (0,4) 1 0 0),(5,.ref (0,5) 1 0 0),(9,.ref (0,9) 1 0 0),(11,.sl false 2 (LE.map mvP)),(12,.ref (0,12) 1 0 0),(52,.sl false 1 E1),(53,.i n1),(54,.i j),(85,.sl false 2 (GK.map mvP)),(86,.i GK.length),(87,.i GK.length),(88,.b false)],[(4,.box [.sl false 1 (encGs false false g)]),(5,.box [.sl false 1 (st.map PV.i)]),(9,.box [.own (0,50) g.length]),(12,.box [cloMt]),(50,.row 1 (cl.map PV.i))],[]⟩)))
  | [],done,hd => by
    rw [List.append_nil] at hd
    subst hd
    refine ⟨_, ?_,.inr ⟨rfl,rfl⟩⟩
    generalize st.map PV.i = S
    generalize cl.map PV.i = C
    generalize encGs false false g = E2
    rw [loopI_eq]
    simp [r10l2,b10l2]
  | n :: rest,done,hd => by
    have hll : GK.length = done.length + (rest.length + 1) := by rw [hd]; simp
    have hlt : (done.length : Int) < GK.length := by omega
    have hlt2 : done.length < GK.length := by omega
    have hw : IntKind.i64.wrap ((done.length : Int) + 1) = (done.length : Int) + 1 := wr (by omega)
    have hat : nth (GK.map mvP) done.length = some (mvP n) := by rw [hd]; exact mv_at done n rest
    have hml : (GK.map mvP).length = GK.length := by simp
    obtain ⟨r,hn,hr⟩ := loopS2 LE GK hto hto2 hLl hGl n1 j hcl hst rest (done ++ [n]) (by simpa using hd)
    simp only [List.length_append,List.length_cons,List.length_nil,Int.natCast_add,show ((0 + 1 : Nat) : Int) = 1 from rfl] at hn
    have hct := eqCtR 24 16 (fun m => meet cl st m n) LE false [(4,.box [.sl false 1 (encGs false false g)]),(5,.box [.sl false 1 (st.map PV.i)]),(9,.box [.own (0,50) g.length]),(12,.box [cloMt]),(16,.box [.i n.1,.i n.2]),(50,.row 1 (cl.map PV.i))] _ _ rfl rfl (fun m hm => eqMt3 _ m n _ rfl rfl (eqMeet cl st g.length hcl hst _ rfl rfl rfl m n (hto m hm) (hto2 n (by rw [hd]; simp)))) hLl
    rw [encL_f] at hct
    simp only [mvP] at hat
    generalize hS : st.map PV.i = S at hn hr hct ⊢
    generalize hC : cl.map PV.i = C at hn hr hct ⊢
    generalize hEE : encGs false false g = E2 at hn hr hct ⊢
    generalize hGM : GK.map mvP = GM at hat hml hn hr ⊢
    cases hv : LE.any (fun m => meet cl st m n) with
    | false =>
      rw [hv] at hct
      generalize hLM : LE.map mvP = LM at hct ⊢
      refine ⟨_, ?_,.inl ⟨by simp only [solB,List.all_cons,hv,Bool.false_and],rfl⟩⟩
      rw [loopI_eq]
      simp [r10l2,b10l2,hlt,hlt2,hat,hml,unAgg,hct]
    | true =>
      rw [hv] at hct
      generalize hLM : LE.map mvP = LM at hct hn hr ⊢
      refine ⟨r, ?_,by simpa only [solB,List.all_cons,hv,Bool.true_and] using hr⟩
      rw [loopI_eq]
      simp [r10l2,b10l2,hlt,hlt2,hat,hml,unAgg,hct,hw]
      exact hn
end
end Go.Am
end
section
set_option maxRecDepth 10000
set_option maxHeartbeats 1000000
set_option linter.unusedSimpArgs false
set_option linter.unusedVariables false
namespace Go.Am
open Go.Proofs Go.Sort Go.Shelf
theorem loopS3 (cl st : List Int) (eqs g : Gr) (hcl : cl.length = g.length) (hst : ∀ x ∈ st,0 ≤ x ∧ x < g.length) (hk : st.length = eqs.length) (h60 : eqs.length ≤ 60) (hse : SmallG eqs) (hsg : SmallG g) (hoe : OkTo eqs) (hog : OkTo g) : ∀ (n k : Nat),k + n = eqs.length →
    ∃ r,loopI G [4,5,9,52,53,54] [4,5,9,50] c10l3
        ⟨[(4,.ref (0,4) 1 0 0),(5,.ref (0,5) 1 0 0),(9,.ref (0,9) 1 0 0),(52,.sl false 1 (encGs false false eqs)),(53,.i eqs.length),(54,.i k)],[(4,.box [.sl false 1 (encGs false false g)]),(5,.box [.sl false 1 (st.map PV.i)]),(9,.box [.own (0,50) g.length]),(50,.row 1 (cl.map PV.i))],[]⟩ = some r ∧
      ((solN cl st eqs g n k = false ∧ r = (.ret,⟨[(6,.b false)],[],[]⟩)) ∨ (solN cl st eqs g n k = true ∧ r = (.exit 2,
        ⟨[(4,.ref (0,4) 1 0 0),(5,.ref (0,5) 1 0 0),(9,.ref (0,9) 1 0 0),(52,.sl false 1 (encGs false false eqs)),(53,.i eqs.length),(54,.i eqs.length),(55,.b false)],[(4,.box [.sl false 1 (encGs false false g)]),(5,.box [.sl false 1 (st.map PV.i)]),(9,.box [.own (0,50) g.length]),(50,.row 1 (cl.map PV.i))],[]⟩)))
  | 0,k,hkn => by
    have he : k = eqs.length := by omega
    subst he
    refine ⟨_, ?_,.inr ⟨rfl,rfl⟩⟩
    generalize st.map PV.i = S
    generalize cl.map PV.i = C
    generalize encGs false false g = E2
    generalize encGs false false eqs = E1
    rw [loopI_eq]
    simp [r10l3,b10l3]
  | n + 1,k,hkn => by
    have hke : k < eqs.length := by omega
    have hks : k < st.length := by omega
    have hki : (k : Int) < eqs.length := by omega
    have hkis : (k : Int) < st.length := by omega
    have hw : IntKind.i64.wrap ((k : Int) + 1) = (k : Int) + 1 := wr (by omega)
    have hat := encGs_nth (g := eqs) (i := k) hke
    have hE1 : (encGs false false eqs).length = eqs.length := by simp
    have hE2 : (encGs false false g).length = g.length := by simp
    have hS2 : (st.map PV.i).length = st.length := by simp
    have hskm : clAt st k ∈ st := by
      unfold clAt
      rw [List.getD_eq_getElem?_getD,Int.toNat_natCast,List.getElem?_eq_getElem hks,Option.getD_some]
      exact List.getElem_mem _
    have hs := hst _ hskm
    have hs1 := hs.1
    have hs2 := hs.2
    have hgk := encGs_nth (g := g) (i := (clAt st k).toNat) (by omega)
    have hsk2 : nth (st.map PV.i) k = some (.i (clAt st k)) := by rw [int_nth st k hks]; simp [clAt]
    have hLl : (eqs.getD k []).length ≤ 1048576 := hse.2 _ (by rw [List.getD_eq_getElem?_getD,List.getElem?_eq_getElem hke,Option.getD_some]; exact List.getElem_mem hke)
    have hGl : (g.getD (clAt st k).toNat []).length ≤ 1048576 := hsg.2 _ (by rw [List.getD_eq_getElem?_getD,List.getElem?_eq_getElem (by omega),Option.getD_some]; exact List.getElem_mem _)
    have ho1 : ∀ m ∈ eqs.getD k [],0 ≤ m.2 ∧ m.2 < st.length := by rw [hk]; exact hoe.row k
    have ho2 := hog.row (clAt st k).toNat
    obtain ⟨r1,l1,hr1⟩ := loopS1 cl st (encGs false false eqs) g k hks (eqs.getD k []) _ rfl ho1 ho2 hLl hGl eqs.length k hcl hst (eqs.getD k []) [] rfl
    obtain ⟨r2,l2,hr2⟩ := loopS2 cl st (encGs false false eqs) g (eqs.getD k []) _ ho1 ho2 hLl hGl eqs.length k hcl hst (g.getD (clAt st k).toNat []) [] rfl
    obtain ⟨r,hn,hr⟩ := loopS3 cl st eqs g hcl hst hk h60 hse hsg hoe hog n (k + 1) (by omega)
    simp only [List.length_nil,Int.natCast_add,show ((1 : Nat) : Int) = 1 from rfl,show ((0 : Nat) : Int) = 0 from rfl] at l1 l2 hn
    have hLm : ((eqs.getD k []).map mvP).length = (eqs.getD k []).length := by simp
    have hGm : ((g.getD (clAt st k).toNat []).map mvP).length = (g.getD (clAt st k).toNat []).length := by simp
    have hso : solN cl st eqs g (n + 1) k = (solA cl st (g.getD (clAt st k).toNat []) (eqs.getD k []) && (solB cl st (eqs.getD k []) (g.getD (clAt st k).toNat []) && solN cl st eqs g n (k + 1))) := by
      simp only [solN,solK,Bool.and_assoc]
    rw [hso]
    generalize solN cl st eqs g n (k + 1) = b3 at hr ⊢
    generalize solA cl st (g.getD (clAt st k).toNat []) (eqs.getD k []) = b1 at hr1 ⊢
    generalize solB cl st (eqs.getD k []) (g.getD (clAt st k).toNat []) = b2 at hr2 ⊢
    generalize (eqs.getD k []).map mvP = LM at hat l1 hr1 l2 hr2 hLm
    generalize (g.getD (clAt st k).toNat []).map mvP = GM at hgk l2 hr2 hGm
    generalize (eqs.getD k []).length = nL at hLm l1 hr1 l2 hr2
    generalize (g.getD (clAt st k).toNat []).length = nG at hGm l2 hr2
    generalize st.map PV.i = S at hsk2 hS2 hn hr l1 hr1 l2 hr2 ⊢
    generalize cl.map PV.i = C at hn hr l1 hr1 l2 hr2 ⊢
    generalize encGs false false g = E2 at hgk hE2 hn hr l1 hr1 l2 hr2 ⊢
    generalize encGs false false eqs = E1 at hat hE1 hn hr l1 hr1 l2 hr2 ⊢
    generalize clAt st k = sk at hsk2 hs1 hs2 hgk
    have hsn : sk.toNat < g.length := by omega
    rcases hr1 with ⟨rfl,rfl⟩ | ⟨rfl,rfl⟩
    · refine ⟨_, ?_,.inl ⟨rfl,rfl⟩⟩
      rw [loopI_eq]
      simp [r10l3,b10l3,hke,hki,hat,hE1,hLm,l1]
    · rcases hr2 with ⟨rfl,rfl⟩ | ⟨rfl,rfl⟩
      · refine ⟨_, ?_,.inl ⟨rfl,rfl⟩⟩
        rw [loopI_eq]
        simp [r10l3,b10l3,hke,hki,hat,hE1,hLm,l1,hE2,hS2,hks,hkis,hsk2,hs1,hs2,hsn,hgk,hGm,l2]
      · refine ⟨r, ?_,by simpa using hr⟩
        rw [loopI_eq]
        simp [r10l3,b10l3,hke,hki,hat,hE1,hLm,l1,hE2,hS2,hks,hkis,hsk2,hs1,hs2,hsn,hgk,hGm,l2,hw]
        exact hn
def solve (eqs g : Gr) (st : List Int) : Bool := grOk eqs && (grOk g && (decide (st.length = eqs.length) && (stOk g.length st && solN (clsG g) st eqs g eqs.length 0)))
theorem eqSolveI (eqs g : Gr) (hfe : FitG eqs) (hfg : FitG g) (hse : SmallG eqs) (hsg : SmallG g) (st : List Int) (hst : st.length ≤ 1048576) :
    callI G 10 [.agg [.sl false 1 (encGs false false eqs)],.agg [.sl false 1 (encGs false false g)],.sl false 1 (st.map PV.i)] [] = some (.b (solve eqs g st),[]) := by
  have h1 := eqOkI eqs hfe
  have h2 := eqOkI g hfg
  simp only [encG,encM_f] at h1 h2
  have hE1 : (encGs false false eqs).length = eqs.length := by simp
  have hS2 : (st.map PV.i).length = st.length := by simp
  rw [callI_eq]
  cases c1 : grOk eqs with
  | false =>
    rw [c1] at h1
    have hv : solve eqs g st = false := by simp [solve,c1]
    rw [hv]
    generalize st.map PV.i = S
    simp [body1_eq _ _ (gp 10) g10,c10,a10,h1]
  | true =>
    rw [c1] at h1
    cases c2 : grOk g with
    | false =>
      rw [c2] at h2
      have hv : solve eqs g st = false := by simp [solve,c2]
      rw [hv]
      generalize st.map PV.i = S
      simp [body1_eq _ _ (gp 10) g10,c10,a10,h1,h2]
    | true =>
      rw [c2] at h2
      by_cases c3 : st.length = eqs.length
      · obtain ⟨e1,e2,e3⟩ := grOk_to c1
        obtain ⟨q1,q2,q3⟩ := grOk_to c2
        obtain ⟨r,l0,hr⟩ := loopSt (encGs false false eqs) (encGs false false g) g (by simp) st hst st [] rfl
        simp only [List.length_nil,show ((0 : Nat) : Int) = 0 from rfl] at l0
        have hc := eqAlikeClasses _ g (encR_G false false g) hsg q1 q2 (by omega)
        have hcl3 : ((clsG g).map PV.i).length = g.length := by rw [List.length_map,clsG_len]
        rcases hr with ⟨h3,rfl⟩ | ⟨h3,rfl⟩
        · have hv : solve eqs g st = false := by simp only [solve,h3,Bool.false_and,Bool.and_false]
          rw [hv]
          generalize st.map PV.i = S at hS2 l0 ⊢
          simp [body1_eq _ _ (gp 10) g10,c10,a10,h1,h2,hS2,hE1,c3,l0] <;> simp [← c3,l0]
        · obtain ⟨r,l3,hr3⟩ := loopS3 (clsG g) st eqs g (clsG_len g) (stOk_iff.1 h3) c3 e3 hse hsg e1 q1 eqs.length 0 (by omega)
          simp only [show ((0 : Nat) : Int) = 0 from rfl] at l3
          have hv : solve eqs g st = solN (clsG g) st eqs g eqs.length 0 := by simp only [solve,c1,c2,c3,h3,decide_true,Bool.true_and]
          rw [hv]
          generalize st.map PV.i = S at hS2 l0 l3 hr3 ⊢
          generalize (clsG g).map PV.i = C at hc hcl3 l3 hr3
          rw [c3] at l0
          rcases hr3 with ⟨h4,rfl⟩ | ⟨h4,rfl⟩
          · rw [h4]
            simp [body1_eq _ _ (gp 10) g10,c10,a10,h1,h2,hS2,hE1,c3,l0,hc,hcl3,l3]
          · rw [h4]
            simp [body1_eq _ _ (gp 10) g10,c10,a10,h1,h2,hS2,hE1,c3,l0,hc,hcl3,l3]
      · have hv : solve eqs g st = false := by simp [solve,c3]
        have c4 : ¬ (st.length : Int) = eqs.length := by omega
        rw [hv]
        generalize st.map PV.i = S at hS2 ⊢
        simp [body1_eq _ _ (gp 10) g10,c10,a10,h1,h2,hS2,hE1,c4]
end Go.Am
end
section
set_option maxRecDepth 10000
set_option maxHeartbeats 1000000
set_option linter.unusedSimpArgs false
set_option linter.unusedVariables false
namespace Go.Am
open Go.Proofs Go.Sort Go.Shelf
theorem hasL_meet (cl st : List Int) (GK : List Mv) (m : Mv) : hasL cl GK m.1 (clAt cl (clAt st m.2)) = GK.any fun n => meet cl st m n := by
  unfold hasL
  congr 1
  funext n
  simp only [hasM,meet]
  congr 1
  · exact decide_eq_decide.2 eq_comm
  · exact decide_eq_decide.2 eq_comm
section
variable (cl st : List Int) (eqs g : Gr)
theorem loopL0 (hcl : cl.length = g.length) (hst : ∀ x ∈ st,0 ≤ x ∧ x < g.length) (hk : st.length = eqs.length) (hse : SmallG eqs) (hsg : SmallG g) (hog : OkTo g) (k : Nat) (hke : k < eqs.length) (s : Int) (hs : 0 ≤ s ∧ s < g.length) (LE : List Mv) (hLE : eqs.getD k [] = LE) (hto : ∀ m ∈ LE,0 ≤ m.2 ∧ m.2 < st.length) : ∀ (rest done : List Mv),LE = done ++ rest →
    ∃ r,loopI G [2,3,4,5,9,10,11] [4,5] c29l0
        ⟨[(2,.sl false 1 (st.map PV.i)),(3,.sl false 1 (cl.map PV.i)),(4,.ref (0,4) 1 0 0),(5,.ref (0,5) 1 0 0),(9,.i k),(10,.i s),(11,.i done.length)],[(4,.box [.sl false 1 (encGs false false eqs)]),(5,.box [.sl false 1 (encGs false false g)])],[]⟩ = some r ∧
      ((solA cl st (g.getD s.toNat []) rest = false ∧ r = (.ret,⟨[(8,.b false)],[],[]⟩)) ∨ (solA cl st (g.getD s.toNat []) rest = true ∧ r = (.exit 2,
        ⟨[(2,.sl false 1 (st.map PV.i)),(3,.sl false 1 (cl.map PV.i)),(4,.ref (0,4) 1 0 0),(5,.ref (0,5) 1 0 0),(9,.i k),(10,.i s),(11,.i LE.length),(35,.b false)],[(4,.box [.sl false 1 (encGs false false eqs)]),(5,.box [.sl false 1 (encGs false false g)])],[]⟩)))
  | [],done,hd => by
    rw [List.append_nil] at hd
    subst hd
    have hat := encGs_nth (g := eqs) (i := k) hke
    rw [hLE] at hat
    have hki : (k : Int) < eqs.length := by omega
    have hE1 : (encGs false false eqs).length = eqs.length := by simp
    have hml : (LE.map mvP).length = LE.length := by simp
    refine ⟨_, ?_,.inr ⟨rfl,rfl⟩⟩
    generalize st.map PV.i = S
    generalize cl.map PV.i = C
    generalize encGs false false g = E2
    generalize encGs false false eqs = E1 at hat hE1 ⊢
    generalize LE.map mvP = LM at hat hml
    rw [loopI_eq]
    simp [r29l0,b29l0,hke,hki,hE1,hat,hml]
  | m :: rest,done,hd => by
    have hll : LE.length = done.length + (rest.length + 1) := by rw [hd]; simp
    have hLl : LE.length ≤ 1048576 := by rw [← hLE]; exact hse.2 _ (by rw [List.getD_eq_getElem?_getD,List.getElem?_eq_getElem hke,Option.getD_some]; exact List.getElem_mem hke)
    have hat := encGs_nth (g := eqs) (i := k) hke
    rw [hLE] at hat
    have hki : (k : Int) < eqs.length := by omega
    have hE1 : (encGs false false eqs).length = eqs.length := by simp
    have hml : (LE.map mvP).length = LE.length := by simp
    have hlt : (done.length : Int) < LE.length := by omega
    have hlt2 : done.length < LE.length := by omega
    have hw : IntKind.i64.wrap ((done.length : Int) + 1) = (done.length : Int) + 1 := wr (by omega)
    have hat2 : nth (LE.map mvP) done.length = some (mvP m) := by rw [hd]; exact mv_at done m rest
    have hm := hto m (by rw [hd]; simp)
    have hm1 := hm.1
    have hm2 := hm.2
    have hsm : clAt st m.2 ∈ st := by
      unfold clAt
      rw [List.getD_eq_getElem?_getD,List.getElem?_eq_getElem (by omega),Option.getD_some]
      exact List.getElem_mem _
    have hs1 := (hst _ hsm).1
    have hs2 := (hst _ hsm).2
    have hs3 : nth (st.map PV.i) m.2.toNat = some (.i (clAt st m.2)) := int_nth st m.2.toNat (by omega)
    have hc1 : nth (cl.map PV.i) (clAt st m.2).toNat = some (.i (clAt cl (clAt st m.2))) := int_nth cl _ (by omega)
    have hcl2 : (cl.map PV.i).length = g.length := by simp [hcl]
    have hst2 : (st.map PV.i).length = st.length := by simp
    have hh := eqHas _ g (encR_G false false g) cl hcl s hs hsg hog m.1 (clAt cl (clAt st m.2))
    rw [hasL_meet] at hh
    obtain ⟨r,hn,hr⟩ := loopL0 hcl hst hk hse hsg hog k hke s hs LE hLE hto rest (done ++ [m]) (by simpa using hd)
    simp only [List.length_append,List.length_cons,List.length_nil,Int.natCast_add,show ((0 + 1 : Nat) : Int) = 1 from rfl] at hn
    have hso : solA cl st (g.getD s.toNat []) (m :: rest) = ((g.getD s.toNat []).any (fun n => meet cl st m n) && solA cl st (g.getD s.toNat []) rest) := by simp only [solA,List.all_cons]
    rw [hso]
    generalize solA cl st (g.getD s.toNat []) rest = b2 at hr ⊢
    generalize st.map PV.i = S at hs3 hst2 hn hr ⊢
    generalize cl.map PV.i = C at hc1 hcl2 hh hn hr ⊢
    generalize encGs false false g = E2 at hh hn hr ⊢
    generalize encGs false false eqs = E1 at hat hE1 hn hr ⊢
    generalize LE.map mvP = LM at hat hml hat2
    generalize clAt cl (clAt st m.2) = cc at hc1 hh
    generalize clAt st m.2 = sm at hs3 hs1 hs2 hc1
    simp only [mvP] at hat2
    cases hv : (g.getD s.toNat []).any (fun n => meet cl st m n) with
    | false =>
      rw [hv] at hh
      refine ⟨_, ?_,.inl ⟨rfl,rfl⟩⟩
      rw [loopI_eq]
      simp [r29l0,b29l0,hke,hki,hE1,hat,hml,hlt,hlt2,hat2,unAgg,hm1,hm2,hs3,hst2,hs1,hs2,hc1,hcl2,hh]
    | true =>
      rw [hv] at hh
      refine ⟨r, ?_,by simpa using hr⟩
      rw [loopI_eq]
      simp [r29l0,b29l0,hke,hki,hE1,hat,hml,hlt,hlt2,hat2,unAgg,hm1,hm2,hs3,hst2,hs1,hs2,hc1,hcl2,hh,hw]
      exact hn
theorem loopL1 (hcl : cl.length = g.length) (hst : ∀ x ∈ st,0 ≤ x ∧ x < g.length) (hse : SmallG eqs) (k : Nat) (hke : k < eqs.length) (s i : Int) (n : Mv) (hn0 : 0 ≤ n.2 ∧ n.2 < g.length) (LE : List Mv) (hLE : eqs.getD k [] = LE) (hto : ∀ m ∈ LE,0 ≤ m.2 ∧ m.2 < st.length) : ∀ (rest done : List Mv) (acc : Bool),LE = done ++ rest →
    loopI G [2,3,4,5,9,10,13,14,15,16] [4,5,14] c29l1
        ⟨[(2,.sl false 1 (st.map PV.i)),(3,.sl false 1 (cl.map PV.i)),(4,.ref (0,4) 1 0 0),(5,.ref (0,5) 1 0 0),(9,.i k),(10,.i s),(13,.i i),(14,.ref (0,14) 1 0 0),(15,.b acc),(16,.i done.length)],[(4,.box [.sl false 1 (encGs false false eqs)]),(5,.box [.sl false 1 (encGs false false g)]),(14,.box [.i n.1,.i n.2])],[]⟩ =
      some (.exit 6,⟨[(2,.sl false 1 (st.map PV.i)),(3,.sl false 1 (cl.map PV.i)),(4,.ref (0,4) 1 0 0),(5,.ref (0,5) 1 0 0),(9,.i k),(10,.i s),(13,.i i),(14,.ref (0,14) 1 0 0),(15,.b (acc || rest.any fun m => meet cl st m n)),(16,.i LE.length),(86,.b false)],[(4,.box [.sl false 1 (encGs false false eqs)]),(5,.box [.sl false 1 (encGs false false g)]),(14,.box [.i n.1,.i n.2])],[]⟩)
  | [],done,acc,hd => by
    rw [List.append_nil] at hd
    subst hd
    have hat := encGs_nth (g := eqs) (i := k) hke
    rw [hLE] at hat
    have hki : (k : Int) < eqs.length := by omega
    have hE1 : (encGs false false eqs).length = eqs.length := by simp
    have hml : (LE.map mvP).length = LE.length := by simp
    generalize st.map PV.i = S
    generalize cl.map PV.i = C
    generalize encGs false false g = E2
    generalize encGs false false eqs = E1 at hat hE1 ⊢
    generalize LE.map mvP = LM at hat hml
    rw [loopI_eq]
    simp [r29l1,b29l1,hke,hki,hE1,hat,hml]
  | m :: rest,done,acc,hd => by
    have hll : LE.length = done.length + (rest.length + 1) := by rw [hd]; simp
    have hLl : LE.length ≤ 1048576 := by rw [← hLE]; exact hse.2 _ (by rw [List.getD_eq_getElem?_getD,List.getElem?_eq_getElem hke,Option.getD_some]; exact List.getElem_mem hke)
    have hat := encGs_nth (g := eqs) (i := k) hke
    rw [hLE] at hat
    have hki : (k : Int) < eqs.length := by omega
    have hE1 : (encGs false false eqs).length = eqs.length := by simp
    have hml : (LE.map mvP).length = LE.length := by simp
    have hlt : (done.length : Int) < LE.length := by omega
    have hlt2 : done.length < LE.length := by omega
    have hw : IntKind.i64.wrap ((done.length : Int) + 1) = (done.length : Int) + 1 := wr (by omega)
    have hat2 : nth (LE.map mvP) done.length = some (mvP m) := by rw [hd]; exact mv_at done m rest
    have hm := hto m (by rw [hd]; simp)
    have hm1 := hm.1
    have hm2 := hm.2
    have hsm : clAt st m.2 ∈ st := by
      unfold clAt
      rw [List.getD_eq_getElem?_getD,List.getElem?_eq_getElem (by omega),Option.getD_some]
      exact List.getElem_mem _
    have hs1 := (hst _ hsm).1
    have hs2 := (hst _ hsm).2
    have hs3 : nth (st.map PV.i) m.2.toNat = some (.i (clAt st m.2)) := int_nth st m.2.toNat (by omega)
    have hc1 : nth (cl.map PV.i) (clAt st m.2).toNat = some (.i (clAt cl (clAt st m.2))) := int_nth cl _ (by omega)
    have hn1 := hn0.1
    have hn2 := hn0.2
    have hc2 : nth (cl.map PV.i) n.2.toNat = some (.i (clAt cl n.2)) := int_nth cl _ (by omega)
    have hcl2 : (cl.map PV.i).length = g.length := by simp [hcl]
    have hst2 : (st.map PV.i).length = st.length := by simp
    have hn := loopL1 hcl hst hse k hke s i n hn0 LE hLE hto rest (done ++ [m]) (acc || meet cl st m n) (by simpa using hd)
    simp only [List.length_append,List.length_cons,List.length_nil,Int.natCast_add,show ((0 + 1 : Nat) : Int) = 1 from rfl] at hn
    have hso : (acc || (m :: rest).any fun m => meet cl st m n) = ((acc || meet cl st m n) || rest.any fun m => meet cl st m n) := by rw [List.any_cons,Bool.or_assoc]
    rw [hso]
    generalize hR : (rest.any fun m => meet cl st m n) = b2 at hn ⊢
    generalize st.map PV.i = S at hs3 hst2 hn ⊢
    generalize cl.map PV.i = C at hc1 hc2 hcl2 hn ⊢
    generalize encGs false false g = E2 at hn ⊢
    generalize encGs false false eqs = E1 at hat hE1 hn ⊢
    generalize LE.map mvP = LM at hat hml hat2
    simp only [mvP] at hat2
    unfold meet at hn ⊢
    generalize clAt cl (clAt st m.2) = cc at hc1 hn ⊢
    generalize clAt st m.2 = sm at hs3 hs1 hs2 hc1
    generalize clAt cl n.2 = cn at hc2 hn ⊢
    rw [loopI_eq]
    cases acc with
    | true =>
      simp at hn
      simp [r29l1,b29l1,hke,hki,hE1,hat,hml,hlt,hlt2,hat2,unAgg,hw]
      exact hn
    | false =>
      by_cases c1 : m.1 = n.1
      · simp [c1] at hn
        simp [r29l1,b29l1,hke,hki,hE1,hat,hml,hlt,hlt2,hat2,unAgg,hw,c1,hm1,hm2,hs3,hst2,hs1,hs2,hc1,hc2,hcl2,hn1,hn2]
        exact hn
      · simp [c1] at hn
        simp [r29l1,b29l1,hke,hki,hE1,hat,hml,hlt,hlt2,hat2,unAgg,hw,c1]
        exact hn
theorem loopL2 (hcl : cl.length = g.length) (hst : ∀ x ∈ st,0 ≤ x ∧ x < g.length) (hse : SmallG eqs) (hsg : SmallG g) (k : Nat) (hke : k < eqs.length) (s : Int) (hs : 0 ≤ s ∧ s < g.length) (LE GK : List Mv) (hLE : eqs.getD k [] = LE) (hGK : g.getD s.toNat [] = GK) (hto : ∀ m ∈ LE,0 ≤ m.2 ∧ m.2 < st.length) (hto2 : ∀ m ∈ GK,0 ≤ m.2 ∧ m.2 < g.length) : ∀ (rest done : List Mv),GK = done ++ rest →
    ∃ r,loopI G [2,3,4,5,9,10,13] [4,5] c29l2
        ⟨[(2,.sl false 1 (st.map PV.i)),(3,.sl false 1 (cl.map PV.i)),(4,.ref (0,4) 1 0 0),(5,.ref (0,5) 1 0 0),(9,.i k),(10,.i s),(13,.i done.length)],[(4,.box [.sl false 1 (encGs false false eqs)]),(5,.box [.sl false 1 (encGs false false g)])],[]⟩ = some r ∧
      ((solB cl st LE rest = false ∧ r = (.ret,⟨[(8,.b false)],[],[]⟩)) ∨ (solB cl st LE rest = true ∧ r = (.exit 4,
        ⟨[(2,.sl false 1 (st.map PV.i)),(3,.sl false 1 (cl.map PV.i)),(4,.ref (0,4) 1 0 0),(5,.ref (0,5) 1 0 0),(9,.i k),(10,.i s),(13,.i GK.length),(68,.b false)],[(4,.box [.sl false 1 (encGs false false eqs)]),(5,.box [.sl false 1 (encGs false false g)])],[]⟩)))
  | [],done,hd => by
    rw [List.append_nil] at hd
    subst hd
    have hs1 := hs.1
    have hs2 := hs.2
    have hsn : s.toNat < g.length := by omega
    have hat := encGs_nth (g := g) (i := s.toNat) hsn
    rw [hGK] at hat
    have hE2 : (encGs false false g).length = g.length := by simp
    have hml : (GK.map mvP).length = GK.length := by simp
    refine ⟨_, ?_,.inr ⟨rfl,rfl⟩⟩
    generalize st.map PV.i = S
    generalize cl.map PV.i = C
    generalize encGs false false g = E2 at hat hE2 ⊢
    generalize encGs false false eqs = E1
    generalize GK.map mvP = GM at hat hml
    rw [loopI_eq]
    simp [r29l2,b29l2,hs1,hs2,hsn,hE2,hat,hml]
  | n :: rest,done,hd => by
    have hs1 := hs.1
    have hs2 := hs.2
    have hsn : s.toNat < g.length := by omega
    have hat := encGs_nth (g := g) (i := s.toNat) hsn
    rw [hGK] at hat
    have hE2 : (encGs false false g).length = g.length := by simp
    have hml : (GK.map mvP).length = GK.length := by simp
    have hll : GK.length = done.length + (rest.length + 1) := by rw [hd]; simp
    have hGl : GK.length ≤ 1048576 := by rw [← hGK]; exact hsg.2 _ (by rw [List.getD_eq_getElem?_getD,List.getElem?_eq_getElem hsn,Option.getD_some]; exact List.getElem_mem hsn)
    have hlt : (done.length : Int) < GK.length := by omega
    have hlt2 : done.length < GK.length := by omega
    have hw : IntKind.i64.wrap ((done.length : Int) + 1) = (done.length : Int) + 1 := wr (by omega)
    have hat2 : nth (GK.map mvP) done.length = some (mvP n) := by rw [hd]; exact mv_at done n rest
    have hl1 := loopL1 cl st eqs g hcl hst hse k hke s done.length n (hto2 n (by rw [hd]; simp)) LE hLE hto LE [] false rfl
    simp only [List.length_nil,show ((0 : Nat) : Int) = 0 from rfl,Bool.false_or] at hl1
    obtain ⟨r,hn,hr⟩ := loopL2 hcl hst hse hsg k hke s hs LE GK hLE hGK hto hto2 rest (done ++ [n]) (by simpa using hd)
    simp only [List.length_append,List.length_cons,List.length_nil,Int.natCast_add,show ((0 + 1 : Nat) : Int) = 1 from rfl] at hn
    have hso : solB cl st LE (n :: rest) = ((LE.any fun m => meet cl st m n) && solB cl st LE rest) := by simp only [solB,List.all_cons]
    rw [hso]
    generalize hB : (LE.any fun m => meet cl st m n) = b1 at hl1 ⊢
    generalize solB cl st LE rest = b2 at hr ⊢
    generalize st.map PV.i = S at hl1 hn hr ⊢
    generalize cl.map PV.i = C at hl1 hn hr ⊢
    generalize encGs false false g = E2 at hat hE2 hl1 hn hr ⊢
    generalize encGs false false eqs = E1 at hl1 hn hr ⊢
    generalize GK.map mvP = GM at hat hml hat2
    simp only [mvP] at hat2
    cases b1 with
    | false =>
      refine ⟨_, ?_,.inl ⟨rfl,rfl⟩⟩
      rw [loopI_eq]
      simp [r29l2,b29l2,hs1,hs2,hsn,hE2,hat,hml,hlt,hlt2,hat2,unAgg,hl1]
    | true =>
      refine ⟨r, ?_,by simpa using hr⟩
      rw [loopI_eq]
      simp [r29l2,b29l2,hs1,hs2,hsn,hE2,hat,hml,hlt,hlt2,hat2,unAgg,hl1,hw]
      exact hn
theorem loopL3 (hcl : cl.length = g.length) (hst : ∀ x ∈ st,0 ≤ x ∧ x < g.length) (hk : st.length = eqs.length) (h60 : eqs.length ≤ 60) (hse : SmallG eqs) (hsg : SmallG g) (hoe : OkTo eqs) (hog : OkTo g) : ∀ (n k : Nat),k + n = eqs.length →
    ∃ r,loopI G [2,3,4,5,9] [4,5] c29l3
        ⟨[(2,.sl false 1 (st.map PV.i)),(3,.sl false 1 (cl.map PV.i)),(4,.ref (0,4) 1 0 0),(5,.ref (0,5) 1 0 0),(9,.i k)],[(4,.box [.sl false 1 (encGs false false eqs)]),(5,.box [.sl false 1 (encGs false false g)])],[]⟩ = some r ∧
      ((solN cl st eqs g n k = false ∧ r = (.ret,⟨[(8,.b false)],[],[]⟩)) ∨ (solN cl st eqs g n k = true ∧ r = (.exit 0,
        ⟨[(2,.sl false 1 (st.map PV.i)),(3,.sl false 1 (cl.map PV.i)),(4,.ref (0,4) 1 0 0),(5,.ref (0,5) 1 0 0),(9,.i eqs.length),(21,.b false)],[(4,.box [.sl false 1 (encGs false false eqs)]),(5,.box [.sl false 1 (encGs false false g)])],[]⟩)))
  | 0,k,hkn => by
    have he : k = eqs.length := by omega
    subst he
    have hS2 : (st.map PV.i).length = eqs.length := by simp [hk]
    refine ⟨_, ?_,.inr ⟨rfl,rfl⟩⟩
    generalize st.map PV.i = S at hS2 ⊢
    generalize cl.map PV.i = C
    generalize encGs false false g = E2
    generalize encGs false false eqs = E1
    rw [loopI_eq]
    simp [r29l3,b29l3,hS2]
  | n + 1,k,hkn => by
    have hke : k < eqs.length := by omega
    have hks : k < st.length := by omega
    have hki : (k : Int) < eqs.length := by omega
    have hw : IntKind.i64.wrap ((k : Int) + 1) = (k : Int) + 1 := wr (by omega)
    have hS2 : (st.map PV.i).length = eqs.length := by simp [hk]
    have hskm : clAt st k ∈ st := by
      unfold clAt
      rw [List.getD_eq_getElem?_getD,Int.toNat_natCast,List.getElem?_eq_getElem hks,Option.getD_some]
      exact List.getElem_mem _
    have hs := hst _ hskm
    have hsk2 : nth (st.map PV.i) k = some (.i (clAt st k)) := by rw [int_nth st k hks]; simp [clAt]
    have ho1 : ∀ m ∈ eqs.getD k [],0 ≤ m.2 ∧ m.2 < st.length := by rw [hk]; exact hoe.row k
    have ho2 := hog.row (clAt st k).toNat
    obtain ⟨r1,l1,hr1⟩ := loopL0 cl st eqs g hcl hst hk hse hsg hog k hke (clAt st k) hs (eqs.getD k []) rfl ho1 (eqs.getD k []) [] rfl
    obtain ⟨r2,l2,hr2⟩ := loopL2 cl st eqs g hcl hst hse hsg k hke (clAt st k) hs (eqs.getD k []) _ rfl rfl ho1 ho2 (g.getD (clAt st k).toNat []) [] rfl
    obtain ⟨r,hn,hr⟩ := loopL3 hcl hst hk h60 hse hsg hoe hog n (k + 1) (by omega)
    simp only [List.length_nil,Int.natCast_add,show ((1 : Nat) : Int) = 1 from rfl,show ((0 : Nat) : Int) = 0 from rfl] at l1 l2 hn
    have hso : solN cl st eqs g (n + 1) k = (solA cl st (g.getD (clAt st k).toNat []) (eqs.getD k []) && (solB cl st (eqs.getD k []) (g.getD (clAt st k).toNat []) && solN cl st eqs g n (k + 1))) := by
      simp only [solN,solK,Bool.and_assoc]
    rw [hso]
    generalize solN cl st eqs g n (k + 1) = b3 at hr ⊢
    generalize solA cl st (g.getD (clAt st k).toNat []) (eqs.getD k []) = b1 at hr1 ⊢
    generalize solB cl st (eqs.getD k []) (g.getD (clAt st k).toNat []) = b2 at hr2 ⊢
    generalize st.map PV.i = S at hsk2 hS2 hn hr l1 hr1 l2 hr2 ⊢
    generalize cl.map PV.i = C at hn hr l1 hr1 l2 hr2 ⊢
    generalize encGs false false g = E2 at hn hr l1 hr1 l2 hr2 ⊢
    generalize encGs false false eqs = E1 at hn hr l1 hr1 l2 hr2 ⊢
    rcases hr1 with ⟨rfl,rfl⟩ | ⟨rfl,rfl⟩
    · refine ⟨_, ?_,.inl ⟨rfl,rfl⟩⟩
      rw [loopI_eq]
      simp [r29l3,b29l3,hke,hki,hS2,hsk2,l1]
    · rcases hr2 with ⟨rfl,rfl⟩ | ⟨rfl,rfl⟩
      · refine ⟨_, ?_,.inl ⟨rfl,rfl⟩⟩
        rw [loopI_eq]
        simp [r29l3,b29l3,hke,hki,hS2,hsk2,l1,l2]
      · refine ⟨r, ?_,by simpa using hr⟩
        rw [loopI_eq]
        simp [r29l3,b29l3,hke,hki,hS2,hsk2,l1,l2,hw]
        exact hn
theorem eqL11 (hcl : cl.length = g.length) (hst : ∀ x ∈ st,0 ≤ x ∧ x < g.length) (hk : st.length = eqs.length) (h60 : eqs.length ≤ 60) (hse : SmallG eqs) (hsg : SmallG g) (hoe : OkTo eqs) (hog : OkTo g) :
    callI G 29 [.agg [.sl false 1 (encGs false false eqs)],.agg [.sl false 1 (encGs false false g)],.sl false 1 (st.map PV.i),.sl false 1 (cl.map PV.i)] [] = some (.b (solN cl st eqs g eqs.length 0),[]) := by
  obtain ⟨r,hn,hr⟩ := loopL3 cl st eqs g hcl hst hk h60 hse hsg hoe hog eqs.length 0 (by omega)
  simp only [show ((0 : Nat) : Int) = 0 from rfl] at hn
  generalize st.map PV.i = S at hn hr ⊢
  generalize cl.map PV.i = C at hn hr ⊢
  generalize encGs false false g = E2 at hn hr ⊢
  generalize encGs false false eqs = E1 at hn hr ⊢
  rw [callI_eq]
  rcases hr with ⟨h1,rfl⟩ | ⟨h1,rfl⟩
  · rw [h1]
    simp [body1_eq _ _ (gp 29) g29,c29,a29,hn]
  · rw [h1]
    simp [body1_eq _ _ (gp 29) g29,c29,a29,hn]
end
end Go.Am
end
section
set_option maxRecDepth 10000
set_option maxHeartbeats 1000000
set_option linter.unusedSimpArgs false
set_option linter.unusedVariables false
namespace Go.Am
open Go.Proofs Go.Sort Go.Shelf
theorem loopTs (E1 E2 : List PV) (g : Gr) (hE2 : E2.length = g.length) (hgl : g.length ≤ 1048576) (st : List Int) (hl : st.length ≤ 1048576) : ∀ (rest done : List Int),st = done ++ rest →
    ∃ r,loopI G [2,3,4,7] [3,4] c12l0 ⟨[(2,.sl false 1 (st.map PV.i)),(3,.ref (0,3) 1 0 0),(4,.ref (0,4) 1 0 0),(7,.i done.length)],[(3,.box [.sl false 1 E1]),(4,.box [.sl false 1 E2])],[]⟩ = some r ∧
      ((stOk g.length rest = false ∧ r = (.ret,⟨[(6,.b false)],[],[]⟩)) ∨ (stOk g.length rest = true ∧ r = (.exit 0,⟨[(2,.sl false 1 (st.map PV.i)),(3,.ref (0,3) 1 0 0),(4,.ref (0,4) 1 0 0),(7,.i st.length),(27,.b false)],[(3,.box [.sl false 1 E1]),(4,.box [.sl false 1 E2])],[]⟩)))
  | [],done,hd => by
    rw [List.append_nil] at hd
    subst hd
    have hml : (st.map PV.i).length = st.length := by simp
    refine ⟨_, ?_,.inr ⟨rfl,rfl⟩⟩
    generalize st.map PV.i = S at hml ⊢
    rw [loopI_eq]
    simp [r12l0,b12l0,hml]
  | x :: rest,done,hd => by
    have hll : st.length = done.length + (rest.length + 1) := by rw [hd]; simp
    have hlt : (done.length : Int) < st.length := by omega
    have hlt2 : done.length < st.length := by omega
    have hw : IntKind.i64.wrap ((done.length : Int) + 1) = (done.length : Int) + 1 := wr (by omega)
    have hw2 : IntKind.i64.wrap ((g.length : Int) - 1) = (g.length : Int) - 1 := wr (by omega)
    have hat : nth (st.map PV.i) done.length = some (.i x) := by rw [hd]; exact ii_at done x rest
    have hml : (st.map PV.i).length = st.length := by simp
    have hin := l6In x 0 ((g.length : Int) - 1)
    obtain ⟨r,hn,hr⟩ := loopTs E1 E2 g hE2 hgl st hl rest (done ++ [x]) (by simpa using hd)
    simp only [List.length_append,List.length_cons,List.length_nil,Int.natCast_add,show ((0 + 1 : Nat) : Int) = 1 from rfl] at hn
    have hso : stOk g.length (x :: rest) = ((decide (0 ≤ x) && decide (x ≤ (g.length : Int) - 1)) && stOk g.length rest) := by
      simp only [stOk,List.all_cons]
      congr 2
      exact decide_eq_decide.2 (by omega)
    rw [hso]
    generalize (decide (0 ≤ x) && decide (x ≤ (g.length : Int) - 1)) = b at hin ⊢
    generalize stOk g.length rest = b2 at hr ⊢
    generalize hS : st.map PV.i = S at hat hml hn hr ⊢
    cases b with
    | false =>
      refine ⟨_, ?_,.inl ⟨rfl,rfl⟩⟩
      rw [loopI_eq]
      simp [r12l0,b12l0,hlt,hlt2,hat,hml,hE2,hw2,hin]
    | true =>
      refine ⟨r, ?_,by simpa using hr⟩
      rw [loopI_eq]
      simp [r12l0,b12l0,hlt,hlt2,hat,hml,hE2,hw2,hin,hw]
      exact hn
theorem eqSolveS (eqs g : Gr) (hfe : FitG eqs) (hfg : FitG g) (hse : SmallG eqs) (hsg : SmallG g) (st : List Int) (hst : st.length ≤ 1048576) :
    callI G 12 [.agg [.sl false 1 (encGs false false eqs)],.agg [.sl false 1 (encGs false false g)],.sl false 1 (st.map PV.i)] [] = some (.b (solve eqs g st),[]) := by
  have h1 := eqOkS eqs hfe
  have h2 := eqOkS g hfg
  simp only [encG,encM_f] at h1 h2
  have hE1 : (encGs false false eqs).length = eqs.length := by simp
  have hS2 : (st.map PV.i).length = st.length := by simp
  rw [callI_eq]
  cases c1 : grOk eqs with
  | false =>
    rw [c1] at h1
    have hv : solve eqs g st = false := by simp [solve,c1]
    rw [hv]
    generalize st.map PV.i = S
    simp [body1_eq _ _ (gp 12) g12,c12,a12,h1]
  | true =>
    rw [c1] at h1
    cases c2 : grOk g with
    | false =>
      rw [c2] at h2
      have hv : solve eqs g st = false := by simp [solve,c2]
      rw [hv]
      generalize st.map PV.i = S
      simp [body1_eq _ _ (gp 12) g12,c12,a12,h1,h2]
    | true =>
      rw [c2] at h2
      by_cases c3 : st.length = eqs.length
      · obtain ⟨e1,e2,e3⟩ := grOk_to c1
        obtain ⟨q1,q2,q3⟩ := grOk_to c2
        obtain ⟨r,l0,hr⟩ := loopTs (encGs false false eqs) (encGs false false g) g (by simp) hsg.1 st hst st [] rfl
        simp only [List.length_nil,show ((0 : Nat) : Int) = 0 from rfl] at l0
        have hc := eqL4Classes _ g (encR_G false false g) hsg q1 q2 (by omega)
        rcases hr with ⟨h3,rfl⟩ | ⟨h3,rfl⟩
        · have hv : solve eqs g st = false := by simp only [solve,h3,Bool.false_and,Bool.and_false]
          rw [hv]
          generalize st.map PV.i = S at hS2 l0 ⊢
          simp [body1_eq _ _ (gp 12) g12,c12,a12,h1,h2,hS2,hE1,c3,l0]
        · have hl := eqL11 (clsG g) st eqs g (clsG_len g) (stOk_iff.1 h3) c3 e3 hse hsg e1 q1
          have hv : solve eqs g st = solN (clsG g) st eqs g eqs.length 0 := by simp only [solve,c1,c2,c3,h3,decide_true,Bool.true_and]
          rw [hv]
          generalize st.map PV.i = S at hS2 l0 hl ⊢
          generalize (clsG g).map PV.i = C at hc hl
          rw [c3] at l0
          simp [body1_eq _ _ (gp 12) g12,c12,a12,h1,h2,hS2,hE1,c3,l0,hc,hl]
      · have hv : solve eqs g st = false := by simp [solve,c3]
        have c4 : ¬ (st.length : Int) = eqs.length := by omega
        rw [hv]
        generalize st.map PV.i = S at hS2 ⊢
        simp [body1_eq _ _ (gp 12) g12,c12,a12,h1,h2,hS2,hE1,c4]
end Go.Am
end
