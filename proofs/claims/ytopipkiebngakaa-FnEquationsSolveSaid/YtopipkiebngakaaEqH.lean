/- What the functions that the law reaches compute. -/
import Derived.Test.YtopipkiebngakaaEqF
import Derived.Test.YtopipkiebngakaaEqG
import Derived.Test.YtopipkiebngakaaEqD
section
set_option maxRecDepth 10000
set_option maxHeartbeats 1000000
set_option linter.unusedSimpArgs false
set_option linter.unusedVariables false
namespace Go.Am
open Go.Proofs Go.Sort Go.Shelf
def bothS (a b : Gr) : List PV := encGs false false a ++ encGs true false (b.map (shL a.length))
theorem bothS_R (a b : Gr) : EncR false (bothS a b) (bothG a b) := (encR_G false false a).app (encR_G true false (b.map (shL a.length)))
theorem fals_app' : ∀ (a b : List PV),fals (a ++ b) = fals a ++ fals b
  | [],b => by simp [fals]
  | x :: a,b => by simp only [List.cons_append,fals,fals_app' a b]
theorem bothS_ns (a b : Gr) : fals (bothS a b) = bothS a b := by
  unfold bothS
  rw [fals_app',fals_encGs,fals_encGs]
theorem both_small {a b : Gr} (ha : SmallG a) (hb : SmallG b) (h : a.length + b.length ≤ 1048576) : SmallG (bothG a b) := by
  refine ⟨by rw [both_len]; exact h,fun l hl => ?_⟩
  unfold bothG at hl
  rcases List.mem_append.1 hl with h | h
  · exact ha.2 l h
  · obtain ⟨r,hr,rfl⟩ := List.mem_map.1 h
    rw [shL_len]
    exact hb.2 r hr
theorem eqGBothS (a b : Gr) (hsA : SmallG a) (hsB : SmallG b) (hfA : FitG a) (hfB : FitG b) :
    callI G 17 [.agg [.sl false 1 (encGs false false a)],.agg [.sl false 1 (encGs false false b)]] [] = some (.tup [.agg [if gbOk a b = true then .sl true 1 (bothS a b) else .nils],.b (gbOk a b)],[]) := by
  have h1 := eqOkS a hfA
  have h2 := eqOkS b hfB
  simp only [encG,encM_f] at h1 h2
  have hE1 : (encGs false false a).length = a.length := by simp
  have hE2 : (encGs false false b).length = b.length := by simp
  have hsA1 := hsA.1
  have hsB1 := hsB.1
  have hw : IntKind.i64.wrap ((a.length : Int) + b.length) = (a.length : Int) + b.length := wr (by omega)
  rw [callI_eq]
  cases c1 : grOk a with
  | false =>
    rw [c1] at h1
    simp [body1_eq _ _ (gp 17) g17,c17,a17,h1,gbOk,c1]
  | true =>
    rw [c1] at h1
    cases c2 : grOk b with
    | false =>
      rw [c2] at h2
      simp [body1_eq _ _ (gp 17) g17,c17,a17,h1,h2,gbOk,c1,c2]
    | true =>
      rw [c2] at h2
      by_cases c3 : a.length + b.length ≤ 60
      · have c4 : ¬ (60 : Int) < (a.length : Int) + b.length := by omega
        obtain ⟨p1,p2,p3⟩ := grOk_to c1
        obtain ⟨q1,q2,q3⟩ := grOk_to c2
        have hb := eqBoth (encGs false false a) (encGs false false b) a b (encR_G _ _ _) (encR_G _ _ _) (by intro e; rw [e] at p2; simp at p2) (by omega) (by omega) hsA hsB (fun l hl m hm => by have := q1 l hl m hm; omega)
        have hg : gbOk a b = true := by simp [gbOk,c1,c2,c3]
        have hX : encGs false false a ++ encGs true false (b.map (shL a.length)) = bothS a b := rfl
        rw [hX] at hb
        have hns := bothS_ns a b
        rw [hg]
        generalize bothS a b = X at hb hns ⊢
        simp [body1_eq _ _ (gp 17) g17,c17,a17,h1,h2,hE1,hE2,hw,c4,hb,hns]
      · have c4 : (60 : Int) < (a.length : Int) + b.length := by omega
        have hg : gbOk a b = false := by simp [gbOk,c3]
        rw [hg]
        simp [body1_eq _ _ (gp 17) g17,c17,a17,h1,h2,hE1,hE2,hw,c4]
theorem loopFs0 (E2 : List PV) (X : List PV) (cl : List Int) (n m : Nat) (hcl : cl.length = n + m) (hnm : n + m ≤ 60) (Y : PV) (YL : Objs) (xs : List PV) (hY : OwnS 58 1 Y YL xs) (k : Nat) (hk : k < n) : ∀ (t : Nat) (b : Int),t ≤ m →
    loopI G [3,8,9,10,11,12,13] [3,17,23,27,58] c7l0 ⟨[(3,.ref (0,3) 1 0 0),(8,.sl false 1 (cl.map PV.i)),(9,.i n),(10,Y),(11,.i k),(12,.i b),(13,.i ((t : Int) - 1))],(3,.box [.sl false 1 E2]) :: (17,.frz 1 X) :: YL,[]⟩ =
      some (.exit 2,⟨[(3,.ref (0,3) 1 0 0),(8,.sl false 1 (cl.map PV.i)),(9,.i n),(10,Y),(11,.i k),(12,.i (lsI (atP cl n k) t b)),(13,.i (-1)),(38,.b false)],(3,.box [.sl false 1 E2]) :: (17,.frz 1 X) :: YL,[]⟩)
  | 0,b,ht => by
    have hz : ((0 : Nat) : Int) - 1 = -1 := by omega
    rw [hz]
    generalize cl.map PV.i = C
    rw [loopI_eq]
    rcases hY with ⟨h1,rfl,rfl⟩ | ⟨h1,rfl,rfl⟩
    · simp [r7l0,b7l0,lsI]
    · simp [r7l0,b7l0,lsI]
  | t + 1,b,ht => by
    have hz : ((t + 1 : Nat) : Int) - 1 = t := by omega
    have hw : IntKind.i64.wrap ((t : Int) - 1) = (t : Int) - 1 := wr (by omega)
    have hw2 : IntKind.i64.wrap ((n : Int) + t) = ((n + t : Nat) : Int) := by rw [wr (by omega)]; omega
    have h0 : (0 : Int) ≤ t := by omega
    have hlt : n + t < n + m := by omega
    have hkl : k < n + m := by omega
    have hlti : ((n + t : Nat) : Int) < (n : Int) + m := by omega
    have hkli : (k : Int) < (n : Int) + m := by omega
    have hc1 := int_nth cl (n + t) (by omega)
    have hc2 := int_nth cl k (by omega)
    have hcl2 : (cl.map PV.i).length = n + m := by simp [hcl]
    have h00 : (0 : Int) ≤ ((n + t : Nat) : Int) := by omega
    have hnt : ((n + t : Nat) : Int).toNat = n + t := by omega
    have hn := loopFs0 E2 X cl n m hcl hnm Y YL xs hY k hk t (if atP cl n k t = true then (t : Int) else b) (by omega)
    rw [hz]
    have hls : lsI (atP cl n k) (t + 1) b = lsI (atP cl n k) t (if atP cl n k t = true then (t : Int) else b) := rfl
    rw [hls]
    generalize hR : lsI (atP cl n k) t = Rf at hn ⊢
    generalize ((n + t : Nat) : Int) = z at hw2 hlti h00 hnt
    by_cases c : cl.getD (n + t) 0 = cl.getD k 0
    · have hp : atP cl n k t = true := by simp only [atP,c,decide_true]
      rw [hp] at hn ⊢
      rw [c] at hc1
      simp only [if_true] at hn ⊢
      generalize cl.map PV.i = C at hc1 hc2 hcl2 hn ⊢
      rw [loopI_eq]
      rcases hY with ⟨h1,rfl,rfl⟩ | ⟨h1,rfl,rfl⟩
      · simp [r7l0,b7l0,h0,hw2,hcl2,h00,hnt,hlt,hkl,hlti,hkli,hc1,hc2,hw]
        exact hn
      · simp [r7l0,b7l0,h0,hw2,hcl2,h00,hnt,hlt,hkl,hlti,hkli,hc1,hc2,hw]
        exact hn
    · have hp : atP cl n k t = false := by simp only [atP,decide_eq_false_iff_not]; exact c
      rw [hp] at hn ⊢
      simp only [Bool.false_eq_true,if_false] at hn ⊢
      generalize cl.map PV.i = C at hc1 hc2 hcl2 hn ⊢
      generalize cl.getD (n + t) 0 = v1 at hc1 c
      generalize cl.getD k 0 = v2 at hc2 c
      rw [loopI_eq]
      rcases hY with ⟨h1,rfl,rfl⟩ | ⟨h1,rfl,rfl⟩
      · simp [r7l0,b7l0,h0,hw2,hcl2,h00,hnt,hlt,hkl,hlti,hkli,hc1,hc2,hw,c]
        exact hn
      · simp [r7l0,b7l0,h0,hw2,hcl2,h00,hnt,hlt,hkl,hlti,hkli,hc1,hc2,hw,c]
        exact hn
theorem loopFs1 (E2 : List PV) (X : List PV) (cl : List Int) (n m : Nat) (hE2 : E2.length = m) (hcl : cl.length = n + m) (hnm : n + m ≤ 60) : ∀ (j k : Nat),k + j = n → ∀ O : List Int,O.length = k →
    ∃ r,loopI G [3,8,9,10,11] [3,17,23,27,58] c7l1 ⟨[(3,.ref (0,3) 1 0 0),(8,.sl false 1 (cl.map PV.i)),(9,.i n),(10,owIP 58 O),(11,.i k)],(3,.box [.sl false 1 E2]) :: (17,.frz 1 X) :: owIL 58 O,[]⟩ = some r ∧
      ((coll (fS cl n m) j k = none ∧ ∃ L,r = (.ret,⟨[(4,.nils),(5,.b false)],L,[]⟩)) ∨
       ∃ l,coll (fS cl n m) j k = some l ∧ r = (.exit 0,⟨[(3,.ref (0,3) 1 0 0),(8,.sl false 1 (cl.map PV.i)),(9,.i n),(10,owIP 58 (O ++ l)),(11,.i n),(30,.b false)],(3,.box [.sl false 1 E2]) :: (17,.frz 1 X) :: owIL 58 (O ++ l),[]⟩))
  | 0,k,hk,O,hO => by
    have he : k = n := by omega
    subst he
    refine ⟨_, ?_,.inr ⟨[],rfl,rfl⟩⟩
    rw [List.append_nil]
    generalize cl.map PV.i = C
    rw [loopI_eq]
    by_cases hd : O = []
    · subst hd
      simp [r7l1,b7l1,owIP,owIL]
    · simp [r7l1,b7l1,owIP,owIL,hd]
  | j + 1,k,hk,O,hO => by
    have hkn : k < n := by omega
    have hki : (k : Int) < n := by omega
    have hw : IntKind.i64.wrap ((k : Int) + 1) = (k : Int) + 1 := wr (by omega)
    have hw1 : IntKind.i64.wrap ((m : Int) - 1) = (m : Int) - 1 := wr (by omega)
    have h0 := loopFs0 E2 X cl n m hcl hnm _ _ _ (owI_S 58 O) k hkn m (-1) (Nat.le_refl _)
    have hol : O.length ≤ 4294967295 := by omega
    by_cases c : lsI (atP cl n k) m (-1) < 0
    · have hf : fS cl n m k = none := by simp only [fS,c,if_true]
      generalize lsI (atP cl n k) m (-1) = v at h0 c
      by_cases hd : O = []
      · subst hd
        refine ⟨(.ret,⟨[(4,.nils),(5,.b false)],owIL 58 [],[]⟩), ?_,.inl ⟨by simp only [coll,hf],_,rfl⟩⟩
        simp only [owIP,owIL,if_true] at h0
        generalize cl.map PV.i = C at h0 ⊢
        rw [loopI_eq]
        simp [r7l1,b7l1,owIP,owIL,hki,hE2,hw1,h0,c]
      · refine ⟨(.ret,⟨[(4,.nils),(5,.b false)],owIL 58 O,[]⟩), ?_,.inl ⟨by simp only [coll,hf],_,rfl⟩⟩
        simp only [owIP,owIL,hd,if_false] at h0
        generalize cl.map PV.i = C at h0 ⊢
        rw [loopI_eq]
        simp [r7l1,b7l1,owIP,owIL,hd,hki,hE2,hw1,h0,c]
    · have hf : fS cl n m k = some (lsI (atP cl n k) m (-1)) := by simp only [fS,c,if_false]
      generalize lsI (atP cl n k) m (-1) = v at h0 c hf
      obtain ⟨r,hn,hr⟩ := loopFs1 E2 X cl n m hE2 hcl hnm j (k + 1) (by omega) (O ++ [v]) (by simp [hO])
      have hne : O ++ [v] ≠ [] := by simp
      simp only [owIP,owIL,hne,if_false,List.length_append,List.length_cons,List.length_nil,Nat.zero_add,Int.natCast_add,show ((1 : Nat) : Int) = 1 from rfl] at hn
      refine ⟨r, ?_, ?_⟩
      · clear hr
        generalize cl.map PV.i = C at h0 hn ⊢
        rw [loopI_eq]
        by_cases hd : O = []
        · subst hd
          simp [owIP,owIL] at h0 hn
          simp [r7l1,b7l1,owIP,owIL,hki,hE2,hw1,h0,c,hw]
          exact hn
        · simp only [owIP,owIL,hd,if_false] at h0
          simp at hn
          simp [r7l1,b7l1,owIP,owIL,hd,hki,hE2,hw1,h0,c,hw,hol]
          exact hn
      · rcases hr with ⟨h1,h2⟩ | ⟨l,h1,h2⟩
        · exact .inl ⟨by simp only [coll,hf,h1],h2⟩
        · refine .inr ⟨v :: l,by simp only [coll,hf,h1], ?_⟩
          rw [h2]
          simp
def findE (e g : Gr) : Option (List Int) := if gbOk e g = true then coll (fS (clsG (bothG e g)) e.length g.length) e.length 0 else none
def fndP (r : Option (List Int)) : PV := match r with | none => .nils | some l => .sl true 1 (l.map PV.i)
theorem eqFindS (e g : Gr) (hse : SmallG e) (hsg : SmallG g) (hfe : FitG e) (hfg : FitG g) :
    callI G 7 [.agg [.sl false 1 (encGs false false e)],.agg [.sl false 1 (encGs false false g)]] [] = some (.tup [fndP (findE e g),.b (findE e g).isSome],[]) := by
  have hb := eqGBothS e g hse hsg hfe hfg
  have hE1 : (encGs false false e).length = e.length := by simp
  have hE2 : (encGs false false g).length = g.length := by simp
  rw [callI_eq]
  by_cases c : gbOk e g = true
  · rw [c] at hb
    simp only [if_true] at hb
    have c' := c
    simp only [gbOk,Bool.and_eq_true,decide_eq_true_eq] at c'
    obtain ⟨p1,p2,p3⟩ := grOk_to c'.1
    obtain ⟨q1,q2,q3⟩ := grOk_to c'.2.1
    have hlen := both_len e g
    have hc := eqL4Classes _ (bothG e g) (bothS_R e g) (both_small hse hsg (by omega)) (both_to p1 q1) (by omega) (by omega)
    have hns := bothS_ns e g
    have hXl : (bothS e g).length = e.length + g.length := by rw [(bothS_R e g).1,both_len]
    obtain ⟨r,hl,hr⟩ := loopFs1 (encGs false false g) (bothS e g) (clsG (bothG e g)) e.length g.length (by simp) (by rw [clsG_len,both_len]) (by omega) e.length 0 (by omega) [] rfl
    simp only [owIP,owIL,if_true,List.nil_append,show ((0 : Nat) : Int) = 0 from rfl] at hl hr
    have hfe2 : findE e g = coll (fS (clsG (bothG e g)) e.length g.length) e.length 0 := by simp only [findE,c,if_true]
    rw [hfe2]
    generalize bothS e g = X at hb hc hns hXl hl hr
    generalize (clsG (bothG e g)).map PV.i = C at hc hl hr
    generalize encGs false false g = E2 at hb hE2 hl hr ⊢
    generalize encGs false false e = E1 at hb hE1 ⊢
    rcases hr with ⟨h1,L,rfl⟩ | ⟨l,h1,rfl⟩
    · rw [h1]
      simp [body1_eq _ _ (gp 7) g7,c7,a7,hb,hc,hns,hXl,hE1,hE2,hl,fndP]
    · have hll := coll_len _ _ h1
      have hln : l ≠ [] := by intro e0; rw [e0] at hll; simp at hll; omega
      have hml : (l.map PV.i).length = l.length := by simp
      rw [h1]
      simp only [hln,if_false] at hl
      simp only [fndP]
      generalize l.map PV.i = LM at hl hml ⊢
      simp [body1_eq _ _ (gp 7) g7,c7,a7,hb,hc,hns,hXl,hE1,hE2,hl,fndP,hml]
  · have c : gbOk e g = false := by simpa using c
    rw [c] at hb
    simp only [Bool.false_eq_true,if_false] at hb
    have hfe2 : findE e g = none := by simp only [findE,c,Bool.false_eq_true,if_false]
    rw [hfe2]
    simp [body1_eq _ _ (gp 7) g7,c7,a7,hb,fndP]
end Go.Am
end
section
set_option maxRecDepth 10000
set_option maxHeartbeats 1000000
set_option linter.unusedSimpArgs false
set_option linter.unusedVariables false
namespace Go.Am
open Go.Proofs Go.Sort Go.Shelf
end Go.Am
end
section
set_option maxRecDepth 10000
set_option maxHeartbeats 1000000
set_option linter.unusedSimpArgs false
set_option linter.unusedVariables false
namespace Go.Am
open Go.Proofs Go.Sort Go.Shelf
theorem stops_fix (g : Gr) : ∀ (f : Nat) (cl : List Int),Stops g f cl → nextC (itC g f cl) g = itC g f cl
  | 0,_,h => h.elim
  | f + 1,cl,h => by
    by_cases e : nextC cl g = cl
    · rw [itC_fix g e]; exact e
    · have h2 : Stops g f (nextC cl g) := h.resolve_left e
      exact stops_fix g f (nextC cl g) h2
theorem clsG_fix (g : Gr) : nextC (clsG g) g = clsG g := stops_fix g _ _ (stops0 g)
theorem cls_alk (g : Gr) {s t : Nat} (hs : s < g.length) (ht : t < g.length) (h : (clsG g).getD s 0 = (clsG g).getD t 0) : ∀ m ∈ g.getD s [],∃ k ∈ g.getD t [],k.1 = m.1 ∧ clAt (clsG g) k.2 = clAt (clsG g) m.2 := by
  have e := clsG_fix g
  have h1 : (nextC (clsG g) g).getD s 0 = (nextC (clsG g) g).getD t 0 := by rw [e]; exact h
  rw [nextC_at hs,nextC_at ht] at h1
  have h2 : nxt (clsG g) g s = nxt (clsG g) g t := by omega
  exact (alk_cov.1 (nxt_eq.1 h2)).2.1
theorem shL_mem {k : Int} {l : List Mv} {z : Mv} : z ∈ shL k l ↔ ∃ m ∈ l,z = (m.1,m.2 + k) := by
  unfold shL
  rw [List.mem_map]
  constructor
  · rintro ⟨m,hm,rfl⟩; exact ⟨m,hm,rfl⟩
  · rintro ⟨m,hm,rfl⟩; exact ⟨m,hm,rfl⟩
theorem solN_iff (cl st : List Int) (eqs g : Gr) : ∀ (n k : Nat),solN cl st eqs g n k = true ↔ ∀ i,k ≤ i → i < k + n → solK cl st eqs g i = true
  | 0,k => by
    simp only [solN,true_iff]
    intro i h1 h2; omega
  | n + 1,k => by
    simp only [solN,Bool.and_eq_true,solN_iff cl st eqs g n (k + 1)]
    constructor
    · rintro ⟨h1,h2⟩ i h3 h4
      by_cases e : i = k
      · rw [e]; exact h1
      · exact h2 i (by omega) (by omega)
    · intro h
      exact ⟨h k (by omega) (by omega),fun i h1 h2 => h i (by omega) (by omega)⟩
theorem solA_iff {cl st : List Int} {GK L : List Mv} : solA cl st GK L = true ↔ ∀ m ∈ L,∃ n ∈ GK,m.1 = n.1 ∧ clAt cl (clAt st m.2) = clAt cl n.2 := by
  simp [solA,meet,List.all_eq_true,List.any_eq_true]
theorem solB_iff {cl st : List Int} {GK L : List Mv} : solB cl st L GK = true ↔ ∀ n ∈ GK,∃ m ∈ L,m.1 = n.1 ∧ clAt cl (clAt st m.2) = clAt cl n.2 := by
  simp [solB,meet,List.all_eq_true,List.any_eq_true]
theorem getD_in {st : List Int} {k : Nat} (h : k < st.length) : st.getD k 0 ∈ st := getD_mem h
theorem solve_alike {eqs g : Gr} {st : List Int} (h : solve eqs g st = true) : st.length = eqs.length ∧ (∀ k,k < eqs.length → 0 ≤ st.getD k 0 ∧ st.getD k 0 < g.length ∧ (clsG (bothG eqs g)).getD (eqs.length + (st.getD k 0).toNat) 0 = (clsG (bothG eqs g)).getD k 0) := by
  unfold solve at h
  simp only [Bool.and_eq_true,decide_eq_true_eq] at h
  obtain ⟨he,hg,hl,hst,hs⟩ := h
  obtain ⟨a1,a2,a3⟩ := grOk_to he
  obtain ⟨b1,b2,b3⟩ := grOk_to hg
  rw [stOk_iff] at hst
  rw [solN_iff] at hs
  refine ⟨hl,fun k hk => ?_⟩
  have hb := hst _ (getD_in (st := st) (k := k) (by omega))
  refine ⟨hb.1,hb.2, ?_⟩
  have hB : Bis (bothG eqs g) (fun p q => ∃ k s : Nat,k < eqs.length ∧ s < g.length ∧ p = k ∧ q = eqs.length + s ∧ (clsG g).getD s 0 = (clsG g).getD (st.getD k 0).toNat 0) := by
    rintro p q ⟨k,s,hk,hs1,rfl,rfl,hc⟩
    have hbk := hst _ (getD_in (st := st) (k := p) (by omega))
    have hk2 := hs p (by omega) (by omega)
    unfold solK at hk2
    rw [Bool.and_eq_true,solA_iff,solB_iff] at hk2
    obtain ⟨hA,hBk⟩ := hk2
    have hcl : clAt st p = st.getD p 0 := by unfold clAt; simp
    rw [hcl] at hA hBk
    refine ⟨by rw [both_len]; omega,by rw [both_len]; omega,fun m hm => ?_,fun z hz => ?_⟩
    · rw [both_row eqs g hk] at hm
      have hmb := a1.row p m hm
      obtain ⟨n,hn,e1,e2⟩ := hA m hm
      have hnb := b1.row _ n hn
      obtain ⟨n2,hn2,e3,e4⟩ := cls_alk g (s := (st.getD p 0).toNat) (t := s) (by omega) hs1 hc.symm n hn
      have hn2b := b1.row s n2 hn2
      refine ⟨(n2.1,n2.2 + eqs.length),by rw [both_row2]; exact shL_mem.2 ⟨n2,hn2,rfl⟩,by rw [e1]; exact e3,m.2.toNat,n2.2.toNat,by omega,by omega,rfl, ?_, ?_⟩
      · show (n2.2 + (eqs.length : Int)).toNat = _
        omega
      · unfold clAt at e2 e4
        rw [e4,← e2]
    · rw [both_row2] at hz
      obtain ⟨n2,hn2,rfl⟩ := shL_mem.1 hz
      have hn2b := b1.row s n2 hn2
      obtain ⟨n,hn,e3,e4⟩ := cls_alk g (s := s) (t := (st.getD p 0).toNat) hs1 (by omega) hc n2 hn2
      obtain ⟨m,hm,e1,e2⟩ := hBk n hn
      have hmb := a1.row p m hm
      refine ⟨m,by rw [both_row eqs g hk]; exact hm,by rw [e1]; exact e3,m.2.toNat,n2.2.toNat,by omega,by omega,rfl, ?_, ?_⟩
      · show (n2.2 + (eqs.length : Int)).toNat = _
        omega
      · unfold clAt at e2 e4
        rw [← e4,← e2]
  exact (bis_cls hB ⟨k,(st.getD k 0).toNat,hk,by omega,rfl,rfl,rfl⟩).symm
end Go.Am
end
section
set_option maxRecDepth 10000
set_option maxHeartbeats 4000000
set_option linter.unusedSimpArgs false
set_option linter.unusedVariables false
namespace Go.Am
open Go.Proofs Go.Sort Go.Shelf
theorem mvOk_mono {n m : Nat} (h : n ≤ m) {x : Mv} (hx : mvOk n x = true) : mvOk m x = true := by
  simp only [mvOk,Bool.and_eq_true,decide_eq_true_eq] at hx ⊢
  exact ⟨hx.1,hx.2.1,by omega⟩
theorem rowOk_mono {n m : Nat} (h : n ≤ m) : ∀ {l : List Mv} {p : Option Mv},rowOk n p l = true → rowOk m p l = true
  | [],_,_ => rfl
  | x :: l,p,hl => by
    simp only [rowOk,Bool.and_eq_true] at hl ⊢
    exact ⟨mvOk_mono h hl.1,hl.2.1,rowOk_mono h hl.2.2⟩
theorem ltM_shift (k : Int) (x y : Mv) : ltM (x.1,x.2 + k) (y.1,y.2 + k) = ltM x y := by
  have h1 := ltM_iff (x.1,x.2 + k) (y.1,y.2 + k)
  have h2 := ltM_iff x y
  simp only at h1
  cases a : ltM x y with
  | true => exact h1.2 (by have := h2.1 a; omega)
  | false =>
    cases b : ltM (x.1,x.2 + k) (y.1,y.2 + k) with
    | false => rfl
    | true =>
      have := h2.2 (by have := h1.1 b; omega)
      rw [a] at this; cases this
theorem rowOk_shift {n k : Nat} : ∀ {l : List Mv} {p : Option Mv},rowOk n p l = true → rowOk (k + n) (p.map fun x => (x.1,x.2 + k)) (shL k l) = true
  | [],_,_ => rfl
  | x :: l,p,hl => by
    simp only [rowOk,Bool.and_eq_true] at hl
    have ih := rowOk_shift (k := k) hl.2.2
    simp only [shL,List.map_cons,rowOk,Bool.and_eq_true]
    refine ⟨?_, ?_,ih⟩
    · have := hl.1
      simp only [mvOk,Bool.and_eq_true,decide_eq_true_eq] at this ⊢
      exact ⟨this.1,by omega,by omega⟩
    · cases p with
      | none => rfl
      | some q => exact (ltM_shift k q x).trans hl.2.1
theorem both_ok {a b : Gr} (h : gbOk a b = true) : grOk (bothG a b) = true := by
  simp only [gbOk,Bool.and_eq_true,decide_eq_true_eq] at h
  obtain ⟨ha,hb,hn⟩ := h
  simp only [grOk,Bool.and_eq_true,decide_eq_true_eq,List.all_eq_true] at ha hb ⊢
  have hl : (bothG a b).length = a.length + b.length := by simp [bothG]
  rw [hl]
  refine ⟨by omega,hn,fun r hr => ?_⟩
  rcases List.mem_append.1 hr with h | h
  · exact rowOk_mono (by omega) (ha.2.2 r h)
  · obtain ⟨x,hx,rfl⟩ := List.mem_map.1 h
    exact rowOk_shift (p := none) (hb.2.2 x hx)
end Go.Am
end
section
set_option maxRecDepth 10000
set_option maxHeartbeats 16000000
set_option linter.unusedSimpArgs false
set_option linter.unusedVariables false
namespace Go.Am
open Go.Proofs Go.Sort Go.Shelf
theorem frz_encG (q : Gr) : tree (encG true false q) = true ∧ fal (encG true false q) = encG true false q := by
  have h := fal_encG q
  refine ⟨?_,by simp only [encG,fal,fals,fal_encM]⟩
  rw [← h,tree_fal]
  exact tree_encG q
theorem trees_mapI : ∀ l : List Int,trees (l.map PV.i) = true
  | [] => rfl
  | x :: l => by simp only [List.map_cons,trees,tree,Bool.true_and]; exact trees_mapI l
theorem fals_mapI : ∀ l : List Int,fals (l.map PV.i) = l.map PV.i
  | [] => rfl
  | x :: l => by simp only [List.map_cons,fals,fal]; rw [fals_mapI l]
theorem weaks_mapI : ∀ l : List Int,weaks 1 (l.map PV.i) = l.map PV.i
  | [] => rfl
  | x :: l => by simp only [List.map_cons,weaks]; rw [weaks_mapI l]; rfl
theorem wkE_ints (l : List Int) : wkE (.sl false 1 (l.map PV.i)) = .sl false 1 (l.map PV.i) := by
  simp only [wkE,weak,weaks_mapI]
theorem wkE_enc (g : Gr) : wkE (encG true false g) = encG false false g := wkG_enc true g
def fndF (r : Option (List Int)) : PV := match r with | none => .nils | some l => .sl false 1 (l.map PV.i)
theorem fndP_tree (r : Option (List Int)) : tree (fndP r) = true ∧ fal (fndP r) = fndF r := by
  cases r with
  | none => exact ⟨rfl,rfl⟩
  | some l => exact ⟨by simp only [fndP,tree]; exact trees_mapI l,by simp only [fndP,fndF,fal,fals_mapI]⟩
theorem wBoth (a b : Gr) (sa : SmallG a) (sb : SmallG b) : callI W 9 [encG true false a,encG true false b] [] = some (.tup [.agg [if gbOk a b = true then .sl false 1 (encGs true false (bothG a b)) else .nils],.b (gbOk a b)],[]) := by
  rw [callI_prim' (p := lowTP G 9 wkG) rfl]
  simp only [lowTP,viaP,List.map_cons,List.map_nil,wkG_enc]
  have h := eqGBothI a b sa sb sa.fit sb.fit
  simp only [encG,encM_f] at h ⊢
  rw [h]
  cases gbOk a b with
  | false => rfl
  | true =>
    simp only [if_true,lowTR,trees,tree,trees_encGs,Bool.and_self,fals,fal,fals_encGs]
end Go.Am
end
section
set_option maxRecDepth 10000
set_option maxHeartbeats 16000000
set_option linter.unusedSimpArgs false
set_option linter.unusedVariables false
namespace Go.Am
open Go.Proofs Go.Sort Go.Shelf
theorem eqState (o : Stack) (id : Id) (hid : id.1 < o.length) (B : List Nat) (p : Int) (g : Gr) (sg : SmallG g) (hr : RdrOK B p) (hp : p + 4 ≤ 1000000000) :
    ∃ v q,p ≤ q ∧ q ≤ p + 2 ∧ callI N 26 [.ref id 1 0 0,encG true false g] (setS o id (rd B p)) = some (.i v,setS o id (rd B q)) := by
  have hne2 : ¬ id.1 = o.length := by omega
  obtain ⟨k,a1,a2,c1⟩ := pickF o id hid B p 20 hr (by omega) (by omega)
  have c1 := nPick c1
  obtain ⟨k2,b1,b2,c2⟩ := pickF o id hid B (p + 1) 8 (hr.next (by omega) (by omega)) (by omega) (by omega)
  have c2 := nPick c2
  have hw : IntKind.i64.wrap (k2 - 2) = k2 - 2 := wrD (by omega)
  by_cases h0 : k = 0
  · subst h0
    refine ⟨k2 - 2,p + 1 + 1,by omega,by omega, ?_⟩
    rw [callI_eq]
    simp [body1_eq _ _ (gpN 26) g26,c26,a26,hne2,setS_len,c1,c2,hw]
  · by_cases hg : g = []
    · refine ⟨k2 - 2,p + 1 + 1,by omega,by omega, ?_⟩
      subst hg
      rw [callI_eq]
      simp [body1_eq _ _ (gpN 26) g26,c26,a26,hne2,setS_len,c1,c2,hw,h0]
    · have hgl : g.length ≠ 0 := fun e => hg (List.length_eq_zero_iff.1 e)
      have hgs := sg.1
      obtain ⟨k3,d1,d2,c3⟩ := pickF o id hid B (p + 1) g.length (hr.next (by omega) (by omega)) (by omega) (by omega)
      have c3 := nPick c3
      refine ⟨k3,p + 1 + 1,by omega,by omega, ?_⟩
      have hgl2 : ¬ (g.length : Int) = 0 := by omega
      rw [callI_eq]
      simp [body1_eq _ _ (gpN 26) g26,c26,a26,hne2,setS_len,c1,c3,h0,hg,hgl,hgl2]
def sqP (st : List Int) : PV := if st = [] then .nils else .own (0,41) st.length
def sqL (st : List Int) : Objs := if st = [] then [] else [(41,.row 1 (st.map PV.i))]
def sqF (st : List Int) : PV := if st = [] then .nils else .sl false 1 (st.map PV.i)
theorem sq_two (st : List Int) : (st = [] ∧ sqP st = .nils ∧ sqL st = [] ∧ sqF st = .nils) ∨ (st ≠ [] ∧ sqP st = .own (0,41) st.length ∧ sqL st = [(41,.row 1 (st.map PV.i))] ∧ sqF st = .sl false 1 (st.map PV.i)) := by
  by_cases h : st = []
  · exact .inl ⟨h,by simp [sqP,h],by simp [sqL,h],by simp [sqF,h]⟩
  · exact .inr ⟨h,by simp [sqP,h],by simp [sqL,h],by simp [sqF,h]⟩
theorem loopDS (B : List Nat) (e g : Gr) (sg : SmallG g) (M : Nat) (hM : M ≤ 1048576) : ∀ (k s : Nat) (p : Int) (st : List Int),s + k = M → st.length = s → RdrOK B p → p + 4 * k ≤ 100000000 →
    ∃ (st' : List Int) (q : Int),st'.length = M ∧
      loopI N [2,3,5,6,7,8,33,34] [2,3,6,7,11,14,20,30,41,1014] c11l0 ⟨[(2,.ref (0,2) 1 0 0),(3,.ref (0,3) 1 0 0),(5,.ref (0,11) 1 0 0),(6,.ref (0,6) 1 0 0),(7,.ref (0,7) 1 0 0),(8,sqP st),(33,.i M),(34,.i s)],(2,.box [.nils]) :: (3,.box [.nils]) :: (6,.box [encM' true false e]) :: (7,.box [encM' true false g]) :: (11,rd B p) :: sqL st,[]⟩ =
        some (.exit 0,⟨[(2,.ref (0,2) 1 0 0),(3,.ref (0,3) 1 0 0),(5,.ref (0,11) 1 0 0),(6,.ref (0,6) 1 0 0),(7,.ref (0,7) 1 0 0),(8,sqP st'),(33,.i M),(34,.i M),(35,.b false)],(2,.box [.nils]) :: (3,.box [.nils]) :: (6,.box [encM' true false e]) :: (7,.box [encM' true false g]) :: (11,rd B q) :: sqL st',[]⟩)
  | 0,s,p,st,hs,hl,hr,hp => by
    obtain rfl : s = M := by omega
    refine ⟨st,p,hl, ?_⟩
    rw [loopI_eq]
    rcases sq_two st with ⟨h,e1,e2,_⟩ | ⟨h,e1,e2,_⟩ <;> rw [e1,e2] <;> simp [r11l0,b11l0,rd]
  | k + 1,s,p,st,hs,hl,hr,hp => by
    obtain ⟨v,q,a1,a2,c1⟩ := eqState [(2,.box [.nils]) :: (3,.box [.nils]) :: (6,.box [encM' true false e]) :: (7,.box [encM' true false g]) :: (11,rd B p) :: sqL st] (0,11) (by simp) B p g sg hr (by omega)
    have es : ∀ q,setS [(2,.box [.nils]) :: (3,.box [.nils]) :: (6,.box [encM' true false e]) :: (7,.box [encM' true false g]) :: (11,rd B p) :: sqL st] (0,11) (rd B q) = [(2,.box [.nils]) :: (3,.box [.nils]) :: (6,.box [encM' true false e]) :: (7,.box [encM' true false g]) :: (11,rd B q) :: sqL st] := fun _ => rfl
    rw [es,es] at c1
    obtain ⟨st',q',h1,hn⟩ := loopDS B e g sg M hM k (s + 1) q (st ++ [v]) (by omega) (by simp [hl]) (hr.next (by omega) (by omega)) (by omega)
    refine ⟨st',q',h1, ?_⟩
    have hlt : (s : Int) < M := by omega
    have hw : IntKind.i64.wrap ((s : Int) + 1) = (s : Int) + 1 := wrD (by omega)
    have hb : st.length ≤ 4294967295 := by omega
    have hne : st ++ [v] ≠ [] := by simp
    simp only [sqP,sqL,hne,if_false,List.map_append,List.map_cons,List.map_nil,List.length_append,List.length_cons,List.length_nil,Nat.zero_add] at hn
    simp only [Int.natCast_add,show ((1 : Nat) : Int) = 1 from rfl] at hn
    have hml : (st.map PV.i).length = st.length := by simp
    rw [loopI_eq]
    simp only [encG,rd] at c1 hn ⊢
    rcases sq_two st with ⟨h,e1,e2,_⟩ | ⟨h,e1,e2,_⟩
    · rw [e2] at c1
      rw [e1,e2]
      subst h
      simp only [List.map_nil,List.nil_append,List.length_nil,Nat.zero_add] at hn
      simp [r11l0,b11l0,hlt,hw,c1]
      simpa [sqP,sqL] using hn
    · rw [e2] at c1
      rw [e1,e2]
      generalize st.map PV.i = SP at *
      simp [r11l0,b11l0,hlt,hw,c1,hml,hb]
      simpa [sqP,sqL] using hn
theorem nFind (e g : Gr) (se : SmallG e) (sg : SmallG g) : callI N 7 [encG true false e,encG true false g] [] = some (.tup [fndF (findE e g),.b (findE e g).isSome],[]) := by
  rw [callI_prim' (p := lowTP G 7 wkG) rfl]
  simp only [lowTP,viaP,List.map_cons,List.map_nil,wkG_enc]
  have h := eqFindS e g se sg se.fit sg.fit
  simp only [encG,encM_f] at h ⊢
  rw [h]
  simp only [lowTR,trees,tree,(fndP_tree _).1,Bool.and_self,if_true,fals,(fndP_tree _).2,fal]
theorem findE_len' {e g : Gr} {l : List Int} (h : findE e g = some l) : l.length = e.length ∧ l ≠ [] := by
  unfold findE at h
  split at h
  · rename_i c
    simp only [gbOk,Bool.and_eq_true,decide_eq_true_eq] at c
    have := grOk_to c.1
    have h2 := coll_len _ _ h
    exact ⟨h2,fun e => by rw [e] at h2; simp at h2; omega⟩
  · cases h
theorem nDrawSolve (B : List Nat) (hB : B.length ≤ 9223372036854775807) (hb : ∀ b ∈ B,b < 256) : ∃ e g st,SmallG e ∧ SmallG g ∧ st.length = e.length ∧ callI W 11 [.sl false 1 (byVs B)] [] = some (.tup [encG true false e,encG true false g,sqF st],[]) := by
  obtain ⟨B',h1,h2,h3⟩ := nOpen B hB
  have hr : RdrOK B' 0 := ⟨h1,fun b hb' => hb b (h2 b hb'),by omega,by omega⟩
  obtain ⟨e,g,q,e1,e2,se,sg,e3⟩ := eqTwins [[(2,.box [.nils]),(3,.box [.nils]),(11,rd B' 0)]] (0,11) (by simp) B' 0 hr (by omega)
  have es : ∀ q,setS [[(2,.box [.nils]),(3,.box [.nils]),(11,rd B' 0)]] (0,11) (rd B' q) = [[(2,.box [.nils]),(3,.box [.nils]),(11,rd B' q)]] := fun _ => rfl
  rw [es,es] at e3
  have hF := nFind e g se sg
  have hq : RdrOK B' q := hr.next (by omega) (by omega)
  have pk : ∃ k,0 ≤ k ∧ k < 4 ∧ callI N 25 [.ref (0,11) 1 0 0,.i 4] [[(2,.box [.nils]),(3,.box [.nils]),(6,.box [encM' true false e]),(7,.box [encM' true false g]),(11,rd B' q)]] = some (.i k,[[(2,.box [.nils]),(3,.box [.nils]),(6,.box [encM' true false e]),(7,.box [encM' true false g]),(11,rd B' (q + 1))]]) := by
    obtain ⟨k,a1,a2,c1⟩ := eqPick [[(2,.box [.nils]),(3,.box [.nils]),(6,.box [encM' true false e]),(7,.box [encM' true false g]),(11,rd B' q)]] (0,11) (by simp) B' q 4 hq (by omega) (by omega)
    have es2 : ∀ q2,setS [[(2,.box [.nils]),(3,.box [.nils]),(6,.box [encM' true false e]),(7,.box [encM' true false g]),(11,rd B' q)]] (0,11) (rd B' q2) = [[(2,.box [.nils]),(3,.box [.nils]),(6,.box [encM' true false e]),(7,.box [encM' true false g]),(11,rd B' q2)]] := fun _ => rfl
    rw [es2,es2] at c1
    exact ⟨k,a1,a2,nPick c1⟩
  obtain ⟨k,k1,k2,c1⟩ := pk
  have hse := se.1
  have fin : ∀ st : List Int,∀ T,tree T = true → fal T = sqF st → callI N 11 [.sl false 1 (byVs B)] [] = some (.tup [encG true false e,encG true false g,T],[]) → callI W 11 [.sl false 1 (byVs B)] [] = some (.tup [encG true false e,encG true false g,sqF st],[]) := by
    intro st T t1 t2 hN
    rw [callI_prim' (p := lowTP N 11 id) rfl]
    simp only [lowTP,viaP,List.map_id_fun,id,hN]
    simp only [lowTR,trees,(frz_encG e).1,(frz_encG g).1,t1,Bool.and_self,if_true,fals,(frz_encG e).2,(frz_encG g).2,t2]
  have drawn : ∀ p,q ≤ p → p ≤ q + 1 → ∃ (st : List Int) (q' : Int),st.length = e.length ∧ loopI N [2,3,5,6,7,8,33,34] [2,3,6,7,11,14,20,30,41,1014] c11l0 ⟨[(2,.ref (0,2) 1 0 0),(3,.ref (0,3) 1 0 0),(5,.ref (0,11) 1 0 0),(6,.ref (0,6) 1 0 0),(7,.ref (0,7) 1 0 0),(8,.nils),(33,.i e.length),(34,.i 0)],[(2,.box [.nils]),(3,.box [.nils]),(6,.box [encM' true false e]),(7,.box [encM' true false g]),(11,rd B' p)],[]⟩ =
        some (.exit 0,⟨[(2,.ref (0,2) 1 0 0),(3,.ref (0,3) 1 0 0),(5,.ref (0,11) 1 0 0),(6,.ref (0,6) 1 0 0),(7,.ref (0,7) 1 0 0),(8,sqP st),(33,.i e.length),(34,.i e.length),(35,.b false)],(2,.box [.nils]) :: (3,.box [.nils]) :: (6,.box [encM' true false e]) :: (7,.box [encM' true false g]) :: (11,rd B' q') :: sqL st,[]⟩) := by
    intro p p1 p2
    obtain ⟨st,q',a1,a2⟩ := loopDS B' e g sg e.length hse e.length 0 p [] (by omega) rfl (hr.next (by omega) (by omega)) (by omega)
    exact ⟨st,q',a1,by simpa [sqP,sqL] using a2⟩
  simp only [rd,encG] at e3 hF c1 drawn
  cases hfd : findE e g with
  | none =>
    rw [hfd] at hF
    obtain ⟨st,q',l1,l2⟩ := drawn q (by omega) (by omega)
    refine ⟨e,g,st,se,sg,l1, ?_⟩
    simp only [fndF,Option.isSome_none] at hF
    rcases sq_two st with ⟨h,s1,s2,s3⟩ | ⟨h,s1,s2,s3⟩ <;> rw [s1,s2] at l2
    · refine fin st .nils rfl s3.symm ?_
      simp only [encG]
      rw [callI_eq]
      simp [body1_eq _ _ (gpN 11) g11,c11,a11,h3,e3,hF,l2]
    · refine fin st (.sl true 1 (st.map PV.i)) (by simp only [tree]; exact trees_mapI st) (by rw [s3]; simp only [fal,fals_mapI]) ?_
      have hml : (st.map PV.i).length = st.length := by simp
      simp only [encG]
      generalize st.map PV.i = SP at *
      rw [callI_eq]
      simp [body1_eq _ _ (gpN 11) g11,c11,a11,h3,e3,hF,l2,hml]
  | some l =>
    rw [hfd] at hF
    obtain ⟨n1,n2⟩ := findE_len' hfd
    simp only [fndF,Option.isSome_some] at hF
    by_cases hk : k = 0
    · subst hk
      obtain ⟨st,q',l1,l2⟩ := drawn (q + 1) (by omega) (by omega)
      refine ⟨e,g,st,se,sg,l1, ?_⟩
      generalize l.map PV.i = LP at *
      rcases sq_two st with ⟨h,s1,s2,s3⟩ | ⟨h,s1,s2,s3⟩ <;> rw [s1,s2] at l2
      · refine fin st .nils rfl s3.symm ?_
        simp only [encG]
        rw [callI_eq]
        simp [body1_eq _ _ (gpN 11) g11,c11,a11,h3,e3,hF,c1,l2]
      · refine fin st (.sl true 1 (st.map PV.i)) (by simp only [tree]; exact trees_mapI st) (by rw [s3]; simp only [fal,fals_mapI]) ?_
        have hml : (st.map PV.i).length = st.length := by simp
        simp only [encG]
        generalize st.map PV.i = SP at *
        rw [callI_eq]
        simp [body1_eq _ _ (gpN 11) g11,c11,a11,h3,e3,hF,c1,l2,hml]
    · refine ⟨e,g,l,se,sg,n1, ?_⟩
      have s3 : sqF l = .sl false 1 (l.map PV.i) := by simp [sqF,n2]
      refine fin l (.sl false 1 (l.map PV.i)) (by simp only [tree]; exact trees_mapI l) (by rw [s3]; simp only [fal,fals_mapI]) ?_
      simp only [encG]
      generalize l.map PV.i = LP at *
      rw [callI_eq]
      simp [body1_eq _ _ (gpN 11) g11,c11,a11,h3,e3,hF,c1,hk]
theorem wkE_sq (st : List Int) : wkE (sqF st) = .sl false 1 (st.map PV.i) := by
  rcases sq_two st with ⟨rfl,_,_,e⟩ | ⟨_,_,_,e⟩ <;> rw [e]
  · rfl
  · exact wkE_ints st
theorem wSolveI' (e g : Gr) (se : SmallG e) (sg : SmallG g) (l : List Int) (hl : l.length ≤ 1048576) : callI W 10 [encG true false e,encG true false g,sqF l] [] = some (.b (solve e g l),[]) := by
  rw [callI_prim' (p := viaP G 10 wkE) rfl]
  simp only [viaP,List.map_cons,List.map_nil,wkE_enc,wkE_sq]
  have h := eqSolveI e g se.fit sg.fit se sg l hl
  simp only [encG,encM_f] at h ⊢
  exact h
theorem wSolveS' (e g : Gr) (se : SmallG e) (sg : SmallG g) (l : List Int) (hl : l.length ≤ 1048576) : callI W 12 [encG true false e,encG true false g,sqF l] [] = some (.b (solve e g l),[]) := by
  rw [callI_prim' (p := viaP G 12 wkE) rfl]
  simp only [viaP,List.map_cons,List.map_nil,wkE_enc,wkE_sq]
  have h := eqSolveS e g se.fit sg.fit se sg l hl
  simp only [encG,encM_f] at h ⊢
  exact h
theorem wAlike (q : Gr) (sq : SmallG q) (hk : grOk q = true) : callI W 13 [encG true false q] [] = some (.sl false 1 ((clsG q).map PV.i),[]) := by
  rw [callI_prim' (p := lowXP G 13 wkG) rfl]
  simp only [lowXP,viaP,List.map_cons,List.map_nil,wkG_enc]
  rw [eqAlikeC q sq sq.fit]
  have e : clsV q = .sl true 1 ((clsG q).map PV.i) := by simp [clsV,hk]
  rw [e]
  simp only [lowXR,tree,trees_mapI,if_true,fal,fals_mapI]
theorem both_sm {a b : Gr} (sa : SmallG a) (sb : SmallG b) (h : gbOk a b = true) : SmallG (bothG a b) ∧ bothG a b ≠ [] := by
  simp only [gbOk,Bool.and_eq_true,decide_eq_true_eq] at h
  have h1 := grOk_to h.1
  refine ⟨⟨by rw [both_len]; omega,fun l hl => ?_⟩,fun e => ?_⟩
  · unfold bothG at hl
    rcases List.mem_append.1 hl with hl | hl
    · exact sa.2 l hl
    · obtain ⟨r,hr,rfl⟩ := List.mem_map.1 hl
      have := sb.2 r hr
      simpa [shL] using this
  · have := both_len a b
    rw [e] at this
    simp at this
    omega
theorem loopES (e : Gr) (st cl : List Int) (hcl : cl.length ≤ 1048576) (hst : st ≠ []) (hl : st.length ≤ 1048576) (he : e.length ≤ 1048576)
    (h : ∀ k,k < st.length → 0 ≤ st.getD k 0 ∧ e.length + (st.getD k 0).toNat < cl.length ∧ k < cl.length ∧ cl.getD (e.length + (st.getD k 0).toNat) 0 = cl.getD k 0) : ∀ (n k : Nat),k + n = st.length →
    loopI W [3,5,10,11] [3,17,35,45,1017,2017] c4l0 ⟨[(3,.ref (0,3) 1 0 0),(5,.sl false 1 (st.map PV.i)),(10,.sl false 1 (cl.map PV.i)),(11,.i k)],[(3,.box [encM' true false e])],[]⟩ =
      some (.exit 0,⟨[(3,.ref (0,3) 1 0 0),(5,.sl false 1 (st.map PV.i)),(10,.sl false 1 (cl.map PV.i)),(11,.i st.length),(49,.b false)],[(3,.box [encM' true false e])],[]⟩)
  | 0,k,hk => by
    obtain rfl : k = st.length := by omega
    have hml : (st.map PV.i).length = st.length := by simp
    generalize st.map PV.i = SP at *
    rw [loopI_eq]
    simp [r4l0,b4l0,hml]
  | n + 1,k,hk => by
    have hn := loopES e st cl hcl hst hl he h n (k + 1) (by omega)
    refine Eq.trans ?_ hn
    obtain ⟨a1,a2,a3,a4⟩ := h k (by omega)
    have hlt : (k : Int) < st.length := by omega
    have hlt2 : k < st.length := by omega
    have hw : IntKind.i64.wrap ((k : Int) + 1) = (k : Int) + 1 := wrD (by omega)
    have hs := i_nth st (k := k) hlt2
    have hc1 := i_nth cl (k := k) a3
    have hc2 := i_nth cl a2
    rw [a4] at hc2
    have hml : (st.map PV.i).length = st.length := by simp
    have hcm : (cl.map PV.i).length = cl.length := by simp
    clear hn h a4
    generalize st.map PV.i = SP at *
    generalize cl.map PV.i = CP at *
    generalize st.getD k 0 = v at *
    generalize cl.getD k 0 = c at *
    have hwa : IntKind.i64.wrap ((e.length : Int) + v) = (e.length : Int) + v := wrD (by omega)
    have ht : ((e.length : Int) + v).toNat = e.length + v.toNat := by omega
    have g1 : (0 : Int) ≤ (e.length : Int) + v := by omega
    have g2 : (e.length : Int) + v < cl.length := by omega
    have g3 : (k : Int) < cl.length := by omega
    rw [loopI_eq]
    simp [r4l0,b4l0,hml,hcm,hlt,hlt2,hs,hc1,hc2,hw,hwa,ht,g1,g2,g3,a2,a3]
theorem lawFnEquationsSolve (B : List Nat) (hB : B.length ≤ 9223372036854775807) (hb : ∀ b ∈ B,b < 256) : callI W 4 [.sl false 1 (byVs B)] [] = some (.b true,[]) := by
  have hBl := byVs_len B
  by_cases hbig : (1048576 : Int) < B.length
  · rw [callI_eq]
    simp [body1_eq _ _ (gpW 4) g4,c4,a4,hBl,hbig]
  obtain ⟨e,g,st,se,sg,hlen,hd⟩ := nDrawSolve B hB hb
  have hse := se.1
  have hI := wSolveI' e g se sg st (by omega)
  have hS := wSolveS' e g se sg st (by omega)
  have hG := wBoth e g se sg
  simp only [encG] at hd hI hS hG
  by_cases hsol : solve e g st = true
  · have hal := solve_alike hsol
    by_cases hgb : gbOk e g = true
    · obtain ⟨sb,nb⟩ := both_sm se sg hgb
      have hA := wAlike _ sb (both_ok hgb)
      have hbe : encM' true false (bothG e g) = .sl false 1 (encGs true false (bothG e g)) := by
        rcases encM_two true false (bothG e g) with ⟨_,h⟩ | h
        · exact absurd h nb
        · exact h
      simp only [encG,hbe] at hA
      have hst : st ≠ [] := by
        intro h0
        simp only [gbOk,Bool.and_eq_true,decide_eq_true_eq] at hgb
        have := grOk_to hgb.1
        rw [h0] at hlen
        simp at hlen
        omega
      have hcl := clsG_len (bothG e g)
      rw [both_len] at hcl
      have hsg := sg.1
      have h60 : e.length + g.length ≤ 60 := by
        simp only [gbOk,Bool.and_eq_true,decide_eq_true_eq] at hgb
        exact hgb.2.2
      have hlp := loopES e st (clsG (bothG e g)) (by omega) hst (by omega) (by omega) (fun k hk => by
        obtain ⟨b1,b2,b3⟩ := hal.2 k (by omega)
        exact ⟨b1,by omega,by omega,b3⟩) st.length 0 (by omega)
      simp only [show ((0 : Nat) : Int) = 0 from rfl] at hlp
      have hsf : sqF st = .sl false 1 (st.map PV.i) := by simp [sqF,hst]
      rw [hsol] at hI hS
      rw [hgb] at hG
      simp only [if_true] at hG
      rw [hsf] at hd hI hS
      generalize st.map PV.i = SP at *
      generalize (clsG (bothG e g)).map PV.i = CP at *
      generalize encGs true false (bothG e g) = BP at *
      rw [callI_eq]
      simp [body1_eq _ _ (gpW 4) g4,c4,a4,hBl,hbig,hd,hI,hS,hG,hA,hlp]
    · have hgb : gbOk e g = false := by simpa using hgb
      rw [hsol] at hI hS
      rw [hgb] at hG
      simp only [Bool.false_eq_true,if_false] at hG
      rw [callI_eq]
      rcases sq_two st with ⟨_,_,_,h⟩ | ⟨_,_,_,h⟩ <;> rw [h] at hd hI hS <;>
        simp [body1_eq _ _ (gpW 4) g4,c4,a4,hBl,hbig,hd,hI,hS,hG]
  · have hsol : solve e g st = false := by simpa using hsol
    rw [hsol] at hI hS
    rw [callI_eq]
    cases hgb : gbOk e g with
    | false =>
      rw [hgb] at hG
      simp only [Bool.false_eq_true,if_false] at hG
      rcases sq_two st with ⟨_,_,_,h⟩ | ⟨_,_,_,h⟩ <;> rw [h] at hd hI hS <;>
        simp [body1_eq _ _ (gpW 4) g4,c4,a4,hBl,hbig,hd,hI,hS,hG]
    | true =>
      rw [hgb] at hG
      simp only [if_true] at hG
      rcases sq_two st with ⟨_,_,_,h⟩ | ⟨_,_,_,h⟩ <;> rw [h] at hd hI hS <;>
        simp [body1_eq _ _ (gpW 4) g4,c4,a4,hBl,hbig,hd,hI,hS,hG]
end Go.Am
end
