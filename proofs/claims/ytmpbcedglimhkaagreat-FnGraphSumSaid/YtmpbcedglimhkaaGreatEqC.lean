/- What the functions that the law reaches compute. -/
import Derived.Test.YtmpbcedglimhkaaGreatEqB
import Derived.Test.YtmpbcedglimhkaaGreatEqA
section
set_option maxRecDepth 10000
set_option maxHeartbeats 1000000
set_option linter.unusedSimpArgs false
set_option linter.unusedVariables false
namespace Go.Am
open Go.Proofs Go.Sort Go.Shelf
theorem wr0 : IntKind.i64.wrap 0 = 0 := by rfl
theorem loopSo2 (list : List Mv) (hl : list.length ≤ 1048576) : ∀ (rest done : List Mv),list = done ++ rest → ∀ O,Sd O → (∀ y,y ∈ O ↔ y ∈ done) → O.length ≤ done.length →
    ∃ O',Sd O' ∧ (∀ y,y ∈ O' ↔ y ∈ list) ∧
    loopI G [0,3,4] [7,49] c18l2 ⟨[(0,.sl false 2 (list.map mvP)),(3,owP 49 O),(4,.i done.length)],owL 49 O,[]⟩ =
      some (.exit 0,⟨[(0,.sl false 2 (list.map mvP)),(3,owP 49 O'),(4,.i list.length),(11,.b false)],owL 49 O',[]⟩)
  | [],done,hd,O,hO,hm,hOl => by
    rw [List.append_nil] at hd
    subst hd
    refine ⟨O,hO,hm, ?_⟩
    rw [loopI_eq]
    by_cases hne : O = []
    · subst hne
      simp [r18l2,b18l2]
    · rw [owP_ne hne,owL_ne hne]
      simp [r18l2,b18l2]
  | x :: rest,done,hd,O,hO,hm,hOl => by
    have hll : list.length = done.length + (rest.length + 1) := by rw [hd]; simp
    have hlt : (done.length : Int) < list.length := by omega
    have hlt2 : done.length < list.length := by omega
    have hw : IntKind.i64.wrap ((done.length : Int) + 1) = (done.length : Int) + 1 := wr (by omega)
    have hx : nth (list.map mvP) done.length = some (mvP x) := by rw [hd]; exact mv_at done x rest
    have hLl : (list.map mvP).length = list.length := by simp
    obtain ⟨p,q,a1,a2,a3,a4⟩ := loopSo0 (list.map mvP) done.length x (by rw [hLl]; omega) hx O (by omega) O.length O [] rfl (by simp) (by simp)
    by_cases hz : ∃ z,p.getLast? = some z ∧ z = x
    · -- there already
      obtain ⟨z,hz1,rfl⟩ := hz
      rcases last_cases p with ⟨e,e2⟩ | ⟨p0,z',e,e2⟩
      · rw [e2] at hz1; cases hz1
      · rw [e2] at hz1
        cases hz1
        have hne : O ≠ [] := by rw [a1,e]; simp
        have hxO : z ∈ O := by rw [a1,e]; simp
        have hat : nth (O.map mvP) p0.length = some (mvP z) := by
          rw [a1,e,List.append_assoc]; exact mv_at p0 z q
        have hOl2 : O.length = p0.length + (1 + q.length) := by rw [a1,e]; simp; omega
        have hpl : (p.length : Int) = (p0.length : Int) + 1 := by rw [e]; simp
        obtain ⟨O',b1,b2,b3⟩ := loopSo2 list hl rest (done ++ [z]) (by simpa using hd) O hO (fun y => by
          rw [hm y,List.mem_append,List.mem_singleton]
          exact ⟨.inl,fun h => h.elim id fun h => by rw [h]; exact (hm z).1 hxO⟩) (by simp; omega)
        refine ⟨O',b1,b2, ?_⟩
        rw [hpl] at a4
        have hltp : (p0.length : Int) < O.length := by omega
        have hltp2 : p0.length < O.length := by omega
        have hwp : IntKind.i64.wrap ((p0.length : Int) + 1 - 1) = p0.length := by rw [wr (by omega)]; omega
        have hw3 : IntKind.i64.wrap (p0.length : Int) = (p0.length : Int) := wr (by omega)
        have hpos : (0 : Int) < (p0.length : Int) + 1 := by omega
        have hml : (O.map mvP).length = O.length := by simp
        rw [owP_ne hne,owL_ne hne] at a4 b3 ⊢
        simp only [List.length_append,List.length_cons,List.length_nil,Int.natCast_add,show ((0 + 1 : Nat) : Int) = 1 from rfl] at b3
        simp only [mvP] at hx hat
        generalize hM : O.map mvP = M at hat hml a4 b3 ⊢
        generalize hL : list.map mvP = L at hx hLl a4 b3 ⊢
        rw [loopI_eq]
        simp [r18l2,b18l2,hlt,hlt2,hw,hx,hLl,a4,hpos,hwp,hw3,hltp,hltp2,hml,hat]
        exact b3
    · -- a new one
      have hltz : ∀ z,p.getLast? = some z → ltM z x = true := fun z hz1 => by
        cases hv : ltM z x with
        | true => rfl
        | false => exact absurd ⟨z,hz1,ltM_eq hv (a3 z hz1)⟩ hz
      have hO' : Sd (p ++ x :: q) := Sd_split (a1 ▸ hO) a2 hltz
      have hm' : ∀ y,y ∈ p ++ x :: q ↔ y ∈ done ++ [x] := fun y => by
        have := hm y
        rw [a1] at this
        simp only [List.mem_append,List.mem_cons,List.not_mem_nil,or_false] at this ⊢
        rw [← this]
        constructor
        · rintro (h | h | h)
          · exact .inl (.inl h)
          · exact .inr h
          · exact .inl (.inr h)
        · rintro ((h | h) | h)
          · exact .inl h
          · exact .inr (.inr h)
          · exact .inr (.inl h)
      have hpq : O.length = p.length + q.length := by rw [a1]; simp
      obtain ⟨O',b1,b2,b3⟩ := loopSo2 list hl rest (done ++ [x]) (by simpa using hd) (p ++ x :: q) hO' hm' (by simp; omega)
      refine ⟨O',b1,b2, ?_⟩
      obtain ⟨w',c1⟩ := loopSo1 (list.map mvP) done.length p (O.length + 1) (by omega) q.length q (0,0) [] rfl (by simp; omega)
      have hrow : (p ++ (q ++ (0,0) :: [])).map mvP = O.map mvP ++ [.agg [.i 0,.i 0]] := by rw [a1]; simp [mvP]
      have hj : (p.length : Int) + q.length = O.length := by omega
      rw [hrow,hj,List.append_nil] at c1
      have hR2 : nth ((p ++ w' :: q).map mvP) p.length = some (mvP w') := mv_at p w' q
      have hS2 : ((p ++ w' :: q).map mvP).set p.length (mvP x) = (p ++ x :: q).map mvP := by simp
      have hml2 : ((p ++ w' :: q).map mvP).length = O.length + 1 := by simp; omega
      have hne3 : p ++ x :: q ≠ [] := by simp
      have hl3 : (p ++ x :: q).length = O.length + 1 := by simp; omega
      rw [owP_ne hne3,owL_ne hne3,hl3] at b3
      simp only [List.length_append,List.length_cons,List.length_nil,Int.natCast_add,show ((0 + 1 : Nat) : Int) = 1 from rfl] at b3
      have hpl : (p.length : Int) < (O.length : Int) + 1 := by omega
      have hpl2 : p.length < O.length + 1 := by omega
      have hwO : IntKind.i64.wrap ((O.length : Int) + 1 - 1) = O.length := by rw [wr (by omega)]; omega
      have hwO2 : IntKind.i64.wrap (O.length : Int) = O.length := wr (by omega)
      have hOlb : O.length ≤ 4294967295 := by omega
      by_cases hne : O = []
      · -- the first one
        have hp0 : p = [] := by cases p with | nil => rfl | cons u v => rw [hne] at a1; cases a1
        have hq0 : q = [] := by rw [hp0,hne] at a1; exact a1.symm
        subst hp0 hq0
        rw [hne] at a4 c1 ⊢
        rw [hne] at b3 hml2
        simp only [owP_n,owL_n,List.length_nil,List.map_nil,List.nil_append,Nat.zero_add,show ((0 : Nat) : Int) = 0 from rfl] at a4 c1 b3 hR2 hS2 hml2 ⊢
        simp only [mvP] at hx hS2 hR2
        generalize hL : list.map mvP = L at hx hLl a4 b3 c1 ⊢
        generalize hM2 : List.map mvP [w'] = M2 at hR2 hS2 hml2 c1
        rw [loopI_eq]
        simp [r18l2,b18l2,hlt,hlt2,hw,hx,hLl,a4,c1,wr0,hR2,hS2,hml2,unAgg]
        simpa using b3
      · rw [owP_ne hne,owL_ne hne] at a4 ⊢
        have hml : (O.map mvP).length = O.length := by simp
        rcases last_cases p with ⟨e,e2⟩ | ⟨p0,z,e,e2⟩
        · subst e
          simp only [List.length_nil,show ((0 : Nat) : Int) = 0 from rfl,List.nil_append] at a4 c1 hR2 hS2 hml2 b3
          simp only [mvP] at hx hS2 hR2
          generalize hL : list.map mvP = L at hx hLl a4 b3 c1 ⊢
          generalize hM2 : List.map mvP (w' :: q) = M2 at hR2 hS2 hml2 c1
          generalize hM : O.map mvP = M at hml a4 c1 ⊢
          generalize hM3 : List.map mvP (x :: q) = M3 at hS2 b3
          rw [loopI_eq]
          simp [r18l2,b18l2,hlt,hlt2,hw,hx,hLl,a4,c1,hR2,hS2,hml2,unAgg,hml,hwO,hwO2,hOlb]
          exact b3
        · have hzx : ¬ z = x := fun h => hz ⟨z,e2,h⟩
          have hdec : (decide (z.1 = x.1) && decide (z.2 = x.2)) = false := by
            rw [← Bool.decide_and]; exact decide_eq_false fun h => hzx (Prod.ext h.1 h.2)
          have hpp : (p.length : Int) = (p0.length : Int) + 1 := by rw [e]; simp
          have hat : nth (O.map mvP) p0.length = some (mvP z) := by
            rw [a1,e,List.append_assoc]; exact mv_at p0 z q
          have hppn : p.length = p0.length + 1 := by omega
          have hltp : (p0.length : Int) < O.length := by omega
          have hltp2 : p0.length < O.length := by omega
          have hwp : IntKind.i64.wrap ((p0.length : Int) + 1 - 1) = p0.length := by rw [wr (by omega)]; omega
          have hw3 : IntKind.i64.wrap (p0.length : Int) = (p0.length : Int) := wr (by omega)
          have hpos : (0 : Int) < (p0.length : Int) + 1 := by omega
          rw [hpp] at a4 c1
          rw [hppn] at hR2 hS2 hpl2
          have hge1 : (0 : Int) ≤ (p0.length : Int) + 1 := by omega
          have hltq : p0.length < O.length := by omega
          simp only [mvP] at hx hS2 hR2 hat
          generalize hL : list.map mvP = L at hx hLl a4 b3 c1 ⊢
          generalize hM2 : List.map mvP (p ++ w' :: q) = M2 at hR2 hS2 hml2 c1
          generalize hM : O.map mvP = M at hml a4 c1 hat ⊢
          generalize hM3 : List.map mvP (p ++ x :: q) = M3 at hS2 b3
          rw [loopI_eq]
          simp [r18l2,b18l2,hlt,hlt2,hw,hx,hLl,a4,c1,hR2,hS2,hml2,unAgg,hml,hwO,hwO2,hOlb,hpos,hwp,hw3,hltp,hltp2,hat,hdec,hge1]
          exact b3
end Go.Am
end
section
set_option maxRecDepth 10000
set_option maxHeartbeats 1000000
set_option linter.unusedSimpArgs false
set_option linter.unusedVariables false
namespace Go.Am
open Go.Proofs Go.Sort Go.Shelf
theorem Sd_uniq : ∀ (a b : List Mv),Sd a → Sd b → (∀ y,y ∈ a ↔ y ∈ b) → a = b
  | [],[],_,_,_ => rfl
  | [],y :: b,_,_,h => by have := (h y).2 List.mem_cons_self; cases this
  | x :: a,[],_,_,h => by have := (h x).1 List.mem_cons_self; cases this
  | x :: a,y :: b,ha,hb,h => by
    have ha' := List.pairwise_cons.1 ha
    have hb' := List.pairwise_cons.1 hb
    have hxy : x = y := by
      rcases List.mem_cons.1 ((h x).1 List.mem_cons_self) with e | e
      · exact e
      · rcases List.mem_cons.1 ((h y).2 List.mem_cons_self) with e' | e'
        · exact e'.symm
        · have h1 := hb'.1 x e
          have h2 := ha'.1 y e'
          rw [ltM_as h1] at h2; cases h2
    subst hxy
    have : a = b := Sd_uniq a b ha'.2 hb'.2 fun y => by
      constructor
      · intro hy
        rcases List.mem_cons.1 ((h y).1 (List.mem_cons_of_mem _ hy)) with e | e
        · subst e; have := ha'.1 y hy; rw [ltM_irr] at this; cases this
        · exact e
      · intro hy
        rcases List.mem_cons.1 ((h y).2 (List.mem_cons_of_mem _ hy)) with e | e
        · subst e; have := hb'.1 y hy; rw [ltM_irr] at this; cases this
        · exact e
    rw [this]
theorem ddup_sd : ∀ (l : List Mv) (p : Mv),(p :: l).Pairwise (fun a b => ltM b a = false) → Sd (p :: ddup p l) ∧ ∀ y,y ∈ p :: ddup p l ↔ y ∈ p :: l
  | [],p,h => ⟨by simp [Sd,ddup],fun y => by simp [ddup]⟩
  | x :: l,p,h => by
    have h1 := List.pairwise_cons.1 h
    have h2 := List.pairwise_cons.1 h1.2
    simp only [ddup]
    split
    · rename_i e
      subst e
      have ih := ddup_sd l x h1.2
      refine ⟨ih.1,fun y => ?_⟩
      rw [ih.2 y]
      simp
    · rename_i e
      have ih := ddup_sd l x h1.2
      refine ⟨List.pairwise_cons.2 ⟨fun y hy => ?_,ih.1⟩,fun y => ?_⟩
      · have hy' := (ih.2 y).1 hy
        have hyp := h1.1 y hy'
        cases hv : ltM p y with
        | true => rfl
        | false =>
          have : p = y := ltM_eq hv hyp
          subst this
          have hxp := h1.1 x List.mem_cons_self
          rcases List.mem_cons.1 hy' with e' | e'
          · exact absurd e'.symm e
          · exact absurd (ltM_eq hxp (h2.1 p e')) e
      · rw [List.mem_cons,ih.2 y,List.mem_cons (l := x :: l)]
theorem srtM_pw (l : List Mv) : (srtM l).Pairwise fun a b => ltM b a = false := by
  have := List.pairwise_mergeSort (le := fun x y : Mv => !ltM y x) (fun a b d h k => by
    simp only [Bool.not_eq_true'] at h k ⊢
    have h := (ltM_false b a).1 h
    have k := (ltM_false d b).1 k
    exact (ltM_false d a).2 (by omega)) (fun a b => by
    cases h : ltM b a with
    | false => simp
    | true => simp [ltM_as h]) l
  exact this.imp fun h => by simpa using h
theorem srtM_mem (l : List Mv) (y : Mv) : y ∈ srtM l ↔ y ∈ l := (List.mergeSort_perm l _).mem_iff
theorem tidyL_sd (l : List Mv) : Sd (tidyL l) ∧ ∀ y,y ∈ tidyL l ↔ y ∈ l := by
  unfold tidyL
  have hp := srtM_pw l
  have hm := srtM_mem l
  cases hs : srtM l with
  | nil =>
    rw [hs] at hm
    exact ⟨by simp [dd,Sd],fun y => by rw [← hm y]; simp [dd]⟩
  | cons x r =>
    rw [hs] at hp hm
    have := ddup_sd r x hp
    exact ⟨this.1,fun y => by rw [← hm y]; exact this.2 y⟩
theorem eqSorted (nl : Bool) (l : List Mv) (hl : l.length ≤ 1048576) : callI G 18 [encL nl false l] [] = some (encL true true (tidyL l),[]) := by
  rw [callI_eq]
  by_cases he : l = []
  · subst he
    rw [tidyL_n]
    have l2 := loopSo2 [] (by simp) [] [] rfl [] (by simp [Sd]) (by simp) (by simp)
    rcases encL_two nl false [] with ⟨e,_⟩ | e
    · rw [e]
      have l0 : loopI G [0,3,4] [7,49] c18l2 ⟨[(0,.nils),(3,.nils),(4,.i 0)],[],[]⟩ = some (.exit 0,⟨[(0,.nils),(3,.nils),(4,.i 0),(11,.b false)],[],[]⟩) := by
        rw [loopI_eq]
        simp [r18l2,b18l2]
      simp [body1_eq _ _ (gp 18) g18,c18,a18,l0]
    · rw [e]
      have l0 : loopI G [0,3,4] [7,49] c18l2 ⟨[(0,.sl false 2 []),(3,.nils),(4,.i 0)],[],[]⟩ = some (.exit 0,⟨[(0,.sl false 2 []),(3,.nils),(4,.i 0),(11,.b false)],[],[]⟩) := by
        rw [loopI_eq]
        simp [r18l2,b18l2]
      simp [body1_eq _ _ (gp 18) g18,c18,a18,l0]
  · obtain ⟨O,h1,h2,h3⟩ := loopSo2 l hl l [] rfl [] (by simp [Sd]) (by simp) (by simp)
    have hO : O = tidyL l := Sd_uniq _ _ h1 (tidyL_sd l).1 fun y => by rw [h2 y,(tidyL_sd l).2 y]
    have hne : tidyL l ≠ [] := tidyL_ne he
    rw [hO,owP_ne hne,owL_ne hne] at h3
    rw [encL_ne he,encL_ne hne]
    simp only [owP_n,owL_n,List.length_nil,show ((0 : Nat) : Int) = 0 from rfl] at h3
    simp [body1_eq _ _ (gp 18) g18,c18,a18,h3]
end Go.Am
end
section
set_option maxRecDepth 10000
set_option maxHeartbeats 8000000
set_option linter.unusedSimpArgs false
set_option linter.unusedVariables false
namespace Go.Am
open Go.Proofs Go.Sort Go.Shelf
theorem eqDo (o : Stack) (id : Id) (hid : id.1 < o.length) (B : List Nat) (p : Int) (hr : RdrOK B p) (hp : p + 2 ≤ 1000000000) :
    ∃ k q,p ≤ q ∧ q ≤ p + 2 ∧ -4 ≤ k ∧ k ≤ 4 ∧ callI H 43 [.ref id 1 0 0] (setS o id (rd B p)) = some (.i k,setS o id (rd B q)) := by
  have hne2 : ¬ id.1 = o.length := by omega
  obtain ⟨k1,a1,a2,c1⟩ := pickF o id hid B p 3 hr (by omega) (by omega)
  by_cases h1 : 0 < k1
  · obtain ⟨k2,b1,b2,c2⟩ := pickF o id hid B (p + 1) 5 (hr.next (by omega) (by omega)) (by omega) (by omega)
    have hw : IntKind.i64.wrap (k2 - 2) = k2 - 2 := wrD (by omega)
    refine ⟨k2 - 2,p + 1 + 1,by omega,by omega,by omega,by omega, ?_⟩
    rw [callI_eq]
    simp [body1_eq _ _ (gpH 43) g43,c43,a43,hne2,setS_len,c1,h1,c2,hw]
  · obtain ⟨k2,b1,b2,c2⟩ := pickF o id hid B (p + 1) 9 (hr.next (by omega) (by omega)) (by omega) (by omega)
    have hw : IntKind.i64.wrap (k2 - 4) = k2 - 4 := wrD (by omega)
    refine ⟨k2 - 4,p + 1 + 1,by omega,by omega,by omega,by omega, ?_⟩
    rw [callI_eq]
    simp [body1_eq _ _ (gpH 43) g43,c43,a43,hne2,setS_len,c1,h1,c2,hw]
theorem doF (o : Stack) (id : Id) (hid : id.1 < o.length) (B : List Nat) (p : Int) (hr : RdrOK B p) (hp : p + 2 ≤ 1000000000) :
    ∃ k q,p ≤ q ∧ q ≤ p + 2 ∧ -4 ≤ k ∧ k ≤ 4 ∧ callI H 43 [.ref id 1 0 0] (setS o id (rd B p) ++ [[]]) = some (.i k,setS o id (rd B q) ++ [[]]) := by
  obtain ⟨k,q,h1,h2,h3,h4,h5⟩ := eqDo (o ++ [[]]) id (hidA hid) B p hr hp
  exact ⟨k,q,h1,h2,h3,h4,frC hid h5⟩
theorem hSorted (l : List Mv) (hl : l.length ≤ 1048576) : callI H 18 [.sl false 2 (l.map mvP)] [] = some (encL true true (tidyL l),[]) := by
  rw [callI_prim' (p := viaP G 18 wkG) rfl]
  have e : wkG (.sl false 2 (l.map mvP)) = encL false false l := by
    have : nil1 1 (.sl false 2 (l.map mvP)) = .sl false 2 (l.map mvP) := rfl
    simp [wkG,this,weak,weaks_mvP]
  simp only [viaP,List.map_cons,List.map_nil,e]
  exact eqSorted false l hl
def gwP (n : Nat) (g : Gr) : PV := if g = [] then .nils else .own (n,51) g.length
def gwL (g : Gr) : Objs := if g = [] then [] else [(51,.row 1 (encGs true true g))]
theorem gw_two (n : Nat) (g : Gr) : (g = [] ∧ gwP n g = .nils ∧ gwL g = []) ∨ (g ≠ [] ∧ gwP n g = .own (n,51) g.length ∧ gwL g = [(51,.row 1 (encGs true true g))]) := by
  by_cases h : g = []
  · exact .inl ⟨h,by simp [gwP,h],by simp [gwL,h]⟩
  · exact .inr ⟨h,by simp [gwP,h],by simp [gwL,h]⟩
theorem loopWi0 (o : Stack) (id : Id) (hid : id.1 < o.length) (B : List Nat) (N s : Int) (few : Bool) (g : Gr) (hN : 1 ≤ N) (hN2 : N ≤ 1000) : ∀ (k : Nat) (p : Int) (l : List Mv),RdrOK B p → p + 4 * k ≤ 1000000000 → l.length + k ≤ 1000 →
    ∃ (l' : List Mv) (q : Int),p ≤ q ∧ q ≤ p + 4 * k ∧ l'.length = l.length + k ∧
      loopI H [0,4,5,6,7,8,9,10] [4,5,25,45,51] c41l0 ⟨[(0,.ref id 1 0 0),(4,.ref (o.length,4) 1 0 0),(5,.ref (o.length,5) 1 0 0),(6,.i N),(7,.b few),(8,.i s),(9,.own (o.length,25) l.length),(10,.i k)],(4,.box [.nils]) :: (5,.box [gwP o.length g]) :: (25,.row 2 (l.map mvP)) :: gwL g,setS o id (rd B p)⟩ =
        some (.exit 2,⟨[(0,.ref id 1 0 0),(4,.ref (o.length,4) 1 0 0),(5,.ref (o.length,5) 1 0 0),(6,.i N),(7,.b few),(8,.i s),(9,.own (o.length,25) l'.length),(10,.i 0),(29,.b false)],(4,.box [.nils]) :: (5,.box [gwP o.length g]) :: (25,.row 2 (l'.map mvP)) :: gwL g,setS o id (rd B q)⟩)
  | 0,p,l,hr,hp,hl => by
    refine ⟨l,p,by omega,by omega,rfl, ?_⟩
    rw [loopI_eq]
    have hne2 : ¬ id.1 = o.length := by omega
    rcases gw_two o.length g with ⟨h,h1,h2⟩ | ⟨h,h1,h2⟩ <;> rw [h1,h2] <;>
      simp [r41l0,b41l0,setS_len,hne2]
  | k + 1,p,l,hr,hp,hl => by
    have hne2 : ¬ id.1 = o.length := by omega
    have hw : IntKind.i64.wrap ((k : Int) + 1 - 1) = k := by rw [wrD (by omega)]; omega
    have hw2 : IntKind.i64.wrap (k : Int) = k := wrD (by omega)
    have hpos : (0 : Int) < (k : Int) + 1 := by omega
    have hl9 : l.length ≤ 4294967295 := by omega
    have hkk : ((k + 1 : Nat) : Int) = (k : Int) + 1 := by omega
    rw [hkk] at hp ⊢
    obtain ⟨a,a1,a2,ca⟩ := pickF o id hid B p 3 hr (by omega) (by omega)
    cases few with
    | true =>
      obtain ⟨t,t1,t2,ct⟩ := pickF o id hid B (p + 1) N (hr.next (by omega) (by omega)) (by omega) (by omega)
      obtain ⟨l',q,e1,e2,e3,hn⟩ := loopWi0 o id hid B N s true g hN hN2 k (p + 1 + 1) (l ++ [(a,t)]) (hr.next (by omega) (by omega)) (by omega) (by simp; omega)
      refine ⟨l',q,by omega,by omega,by rw [e3]; simp; omega, ?_⟩
      refine Eq.trans ?_ hn
      rw [loopI_eq]
      rcases gw_two o.length g with ⟨h,h1,h2⟩ | ⟨h,h1,h2⟩ <;> rw [h1,h2] <;>
        simp [r41l0,b41l0,setS_len,hne2,ca,ct,hw,hw2,hpos,hl9,mvP]
    | false =>
      obtain ⟨d,q1,d1,d2,d3,d4,cd⟩ := doF o id hid B (p + 1) (hr.next (by omega) (by omega)) (by omega)
      obtain ⟨t,t1,t2,ct⟩ := pickF o id hid B q1 N (hr.next (by omega) (by omega)) (by omega) (by omega)
      obtain ⟨l',q,e1,e2,e3,hn⟩ := loopWi0 o id hid B N s false g hN hN2 k (q1 + 1) (l ++ [(d,t)]) (hr.next (by omega) (by omega)) (by omega) (by simp; omega)
      refine ⟨l',q,by omega,by omega,by rw [e3]; simp; omega, ?_⟩
      refine Eq.trans ?_ hn
      rw [loopI_eq]
      rcases gw_two o.length g with ⟨h,h1,h2⟩ | ⟨h,h1,h2⟩ <;> rw [h1,h2] <;>
        simp [r41l0,b41l0,setS_len,hne2,ca,cd,ct,hw,hw2,hpos,hl9,mvP]
end Go.Am
end
section
set_option maxRecDepth 10000
set_option maxHeartbeats 4000000
set_option linter.unusedSimpArgs false
set_option linter.unusedVariables false
namespace Go.Am
open Go.Proofs Go.Sort Go.Shelf
inductive Tm | mk (op n : Int) (ps : List Tm)
mutual
def encT (u : Bool) : Tm → PV
  | .mk o n ps => .agg [.i o,.i n,encQ u ps]
def encQ (u : Bool) : List Tm → PV
  | [] => .nils
  | p :: ps => .sl u 3 (encT u p :: encTs u ps)
def encTs (u : Bool) : List Tm → List PV
  | [] => []
  | p :: ps => encT u p :: encTs u ps
end
theorem encTs_map (u : Bool) : ∀ ps : List Tm,encTs u ps = ps.map (encT u)
  | [] => by simp [encTs]
  | p :: ps => by simp [encTs,encTs_map u ps]
theorem encTs_len (u : Bool) (ps : List Tm) : (encTs u ps).length = ps.length := by simp [encTs_map]
theorem encQ_c (u : Bool) {ps : List Tm} (h : ps ≠ []) : encQ u ps = .sl u 3 (encTs u ps) := by
  cases ps with
  | nil => exact absurd rfl h
  | cons p ps => simp [encQ,encTs]
mutual
theorem fal_encT : ∀ p : Tm,fal (encT true p) = encT false p
  | .mk o x ps => by
    simp only [encT,fal,fals]
    rw [fal_encQ ps]
theorem fal_encQ : ∀ ps : List Tm,fal (encQ true ps) = encQ false ps
  | [] => by simp [encQ,fal]
  | p :: ps => by
    simp only [encQ,fal,fals]
    rw [fal_encT p,fals_encTs ps]
theorem fals_encTs : ∀ ps : List Tm,fals (encTs true ps) = encTs false ps
  | [] => by simp [encTs,fals]
  | p :: ps => by
    simp only [encTs,fals]
    rw [fal_encT p,fals_encTs ps]
end
def headOk (o n : Int) : Bool := if o = 0 then decide (n = 0) else if o = 1 then actOk n else if o = 2 ∨ o = 3 then decide (n = 0) else if o = 4 then decide (0 ≤ n) && decide (n ≤ 3) else if o = 5 then decide (0 ≤ n) && decide (n ≤ 2) else false
def wantN (o : Int) : Nat := if o = 1 then 1 else if o = 2 ∨ o = 3 then 2 else if o = 4 then 1 else 0
mutual
def nodesT : Tm → Nat
  | .mk o n ps => if headOk o n = true ∧ ps.length = wantN o then nodesL 1 ps else 0
def nodesL (k : Nat) : List Tm → Nat
  | [] => k
  | p :: ps => if nodesT p = 0 then 0 else nodesL (min 1000 (k + nodesT p)) ps
end
mutual
theorem nodesT_le : ∀ t : Tm,nodesT t ≤ 1000
  | .mk o n ps => by
    unfold nodesT
    split
    · exact nodesL_le 1 ps (by omega)
    · omega
theorem nodesL_le : ∀ (k : Nat) (ps : List Tm),k ≤ 1000 → nodesL k ps ≤ 1000
  | k,[],h => by simpa [nodesL] using h
  | k,p :: ps,h => by
    unfold nodesL
    split
    · omega
    · exact nodesL_le _ ps (by omega)
end
theorem tm_at (done : List Tm) (x : Tm) (rest : List Tm) : nth (encTs false (done ++ x :: rest)) done.length = some (encT false x) := by
  simp [nth,encTs_map]
theorem encT_form (u : Bool) (x : Tm) : ∃ (a b : Int) (c : PV),encT u x = .agg [.i a,.i b,c] ∧ (c = .nils ∨ ∃ L,c = .sl u 3 L) := by
  obtain ⟨a,b,ps⟩ := x
  refine ⟨a,b,_,rfl, ?_⟩
  cases ps with
  | nil => exact .inl (by simp [encQ])
  | cons p ps => exact .inr ⟨_,encQ_c u (List.cons_ne_nil p ps)⟩
theorem loopNo (o n : Int) (ps : List Tm) (hps : ps.length ≤ 1000) (h : ∀ p ∈ ps,callI G 63 [encT false p] [] = some (.i (nodesT p),[])) : ∀ (rest done : List Tm) (k : Nat),ps = done ++ rest → k ≤ 1000 →
    ∃ ex,loopI G [1,3,5,6] [1] c63l0 ⟨[(1,.ref (0,1) 1 0 0),(3,.i ps.length),(5,.i k),(6,.i done.length)],[(1,.box [.i o,.i n,encQ false ps])],[]⟩ = some ex ∧
      ((nodesL k rest = 0 ∧ rest ≠ [] ∧ ex = (.ret,⟨[(2,.i 0)],[],[]⟩)) ∨ (ex = (.exit 1,⟨[(1,.ref (0,1) 1 0 0),(3,.i ps.length),(5,.i (nodesL k rest)),(6,.i ps.length),(44,.b false)],[(1,.box [.i o,.i n,encQ false ps])],[]⟩)))
  | [],done,k,e,hk => by
    have e : ps = done := by simpa using e
    subst e
    refine ⟨_, ?_,.inr rfl⟩
    rw [loopI_eq]
    cases ps with
    | nil => simp [r63l0,b63l0,encQ,nodesL]
    | cons p ps =>
      rw [encQ_c false (List.cons_ne_nil p ps)]
      simp [r63l0,b63l0,nodesL]
  | x :: rest,done,k,e,hk => by
    have hpl : ps.length = done.length + (rest.length + 1) := by rw [e]; simp
    have hlt : (done.length : Int) < ps.length := by omega
    have hw : IntKind.i64.wrap ((done.length : Int) + 1) = (done.length : Int) + 1 := wr (by omega)
    have hat := tm_at done x rest
    rw [← e] at hat
    have hx := h x (by rw [e]; simp)
    have hne : ps ≠ [] := by rw [e]; simp
    have hle := nodesT_le x
    have hw2 : IntKind.i64.wrap ((k : Int) + (nodesT x : Int)) = (k : Int) + (nodesT x : Int) := wr (by omega)
    have hl3 : (encTs false ps).length = ps.length := encTs_len false ps
    have hlt2 : done.length < ps.length := by omega
    obtain ⟨x1,x2,x3,hX,hx3⟩ := encT_form false x
    rw [hX] at hat hx
    by_cases h0 : nodesT x = 0
    · refine ⟨_, ?_,.inl ⟨by simp [nodesL,h0],by simp,rfl⟩⟩
      rw [h0] at hx
      rw [loopI_eq,encQ_c false hne]
      generalize encTs false ps = F at hat hl3 ⊢
      rcases hx3 with rfl | ⟨L3,rfl⟩ <;> simp [r63l0,b63l0,hlt,hlt2,hat,hl3,hx]
    · obtain ⟨ex,hn,hr⟩ := loopNo o n ps hps h rest (done ++ [x]) (min 1000 (k + nodesT x)) (by rw [e]; simp) (by omega)
      have hmin : (if (k : Int) + (nodesT x : Int) < 1000 then (k : Int) + (nodesT x : Int) else 1000) = ((min 1000 (k + nodesT x) : Nat) : Int) := by
        split <;> omega
      refine ⟨ex, ?_, ?_⟩
      · rw [← hn,loopI_eq,encQ_c false hne]
        generalize encTs false ps = F at hat hl3 ⊢
        rcases hx3 with rfl | ⟨L3,rfl⟩ <;> simp [r63l0,b63l0,hlt,hlt2,hat,hl3,hx,h0,hw,hw2,hmin]
      · rcases hr with ⟨h1,h2,h3⟩ | h3
        · exact .inl ⟨by simp [nodesL,h0,h1],by simp,h3⟩
        · exact .inr (by rw [h3]; simp [nodesL,h0])
theorem eqHead (o n : Int) : headOk o n = true → (o = 0 ∧ n = 0) ∨ (o = 1 ∧ actOk n = true) ∨ (o = 2 ∧ n = 0) ∨ (o = 3 ∧ n = 0) ∨ (o = 4 ∧ 0 ≤ n ∧ n ≤ 3) ∨ (o = 5 ∧ 0 ≤ n ∧ n ≤ 2) := by
  intro h
  unfold headOk at h
  split at h
  · simp_all
  · split at h
    · simp_all
    · split at h
      · simp_all
        omega
      · split at h
        · simp_all
        · split at h
          · simp_all
          · cases h
theorem encQ_form (u : Bool) (ps : List Tm) : (encQ u ps = .nils ∧ ps = []) ∨ (∃ F : List PV,encQ u ps = .sl u 3 F ∧ F.length = ps.length ∧ ps ≠ []) := by
  cases ps with
  | nil => exact .inl ⟨by simp [encQ],rfl⟩
  | cons p ps => exact .inr ⟨_,encQ_c u (List.cons_ne_nil p ps),encTs_len u (p :: ps),by simp⟩
theorem eqNodes0 (o n : Int) (ps : List Tm) (hp : ∀ p ∈ ps,callI G 63 [encT false p] [] = some (.i (nodesT p),[])) (hh : headOk o n = true ∧ ps.length = wantN o) :
    callI G 63 [encT false (.mk o n ps)] [] = some (.i (nodesL 1 ps),[]) := by
  obtain ⟨hh,hlen⟩ := hh
  have h2 : ps.length ≤ 2 := by rw [hlen]; unfold wantN; (repeat' split) <;> omega
  have ha := eqActS n
  have hin := l6In n 0 3
  have hin2 := l6In n 0 2
  obtain ⟨ex,hlp,hx⟩ := loopNo o n ps (by omega) hp ps [] 1 rfl (by omega)
  simp only [List.length_nil,show ((0 : Nat) : Int) = 0 from rfl,show ((1 : Nat) : Int) = 1 from rfl] at hlp hx
  have hex : ex = (.ret,⟨[(2,.i (nodesL 1 ps))],[],[]⟩) ∨ ex = (.exit 1,⟨[(1,.ref (0,1) 1 0 0),(3,.i ps.length),(5,.i (nodesL 1 ps)),(6,.i ps.length),(44,.b false)],[(1,.box [.i o,.i n,encQ false ps])],[]⟩) := by
    rcases hx with ⟨h1,_,h3⟩ | h3
    · exact .inl (by rw [h3,h1]; rfl)
    · exact .inr h3
  clear hx
  simp only [encT]
  generalize nodesL 1 ps = R at hex ⊢
  rw [callI_eq]
  rcases eqHead o n hh with ⟨rfl,rfl⟩ | ⟨rfl,h⟩ | ⟨rfl,rfl⟩ | ⟨rfl,rfl⟩ | ⟨rfl,h⟩ | ⟨rfl,h⟩
  · have hl : ps.length = 0 := by simpa [wantN] using hlen
    obtain rfl : ps = [] := List.length_eq_zero_iff.1 hl
    simp only [encQ,List.length_nil,show ((0 : Nat) : Int) = 0 from rfl] at hlp hex ⊢
    rcases hex with rfl | rfl <;> simp [body1_eq _ _ (gp 63) g63,c63,a63,hlp]
  · have hl : ps.length = 1 := by simpa [wantN] using hlen
    rw [h] at ha
    rcases encQ_form false ps with ⟨_,e0⟩ | ⟨F,e,e1,_⟩
    · rw [e0] at hl; simp at hl
    · rw [e] at hlp hex ⊢
      rw [hl] at hlp hex e1
      simp only [show ((1 : Nat) : Int) = 1 from rfl] at hlp hex
      rcases hex with rfl | rfl <;> simp [body1_eq _ _ (gp 63) g63,c63,a63,hlp,ha,e1]
  · have hl : ps.length = 2 := by simpa [wantN] using hlen
    rcases encQ_form false ps with ⟨_,e0⟩ | ⟨F,e,e1,_⟩
    · rw [e0] at hl; simp at hl
    · rw [e] at hlp hex ⊢
      rw [hl] at hlp hex e1
      simp only [show ((2 : Nat) : Int) = 2 from rfl] at hlp hex
      rcases hex with rfl | rfl <;> simp [body1_eq _ _ (gp 63) g63,c63,a63,hlp,e1]
  · have hl : ps.length = 2 := by simpa [wantN] using hlen
    rcases encQ_form false ps with ⟨_,e0⟩ | ⟨F,e,e1,_⟩
    · rw [e0] at hl; simp at hl
    · rw [e] at hlp hex ⊢
      rw [hl] at hlp hex e1
      simp only [show ((2 : Nat) : Int) = 2 from rfl] at hlp hex
      rcases hex with rfl | rfl <;> simp [body1_eq _ _ (gp 63) g63,c63,a63,hlp,e1]
  · have hl : ps.length = 1 := by simpa [wantN] using hlen
    have d1 := h.1
    have d2 := h.2
    simp [d1,d2] at hin hin2
    rcases encQ_form false ps with ⟨_,e0⟩ | ⟨F,e,e1,_⟩
    · rw [e0] at hl; simp at hl
    · rw [e] at hlp hex ⊢
      rw [hl] at hlp hex e1
      simp only [show ((1 : Nat) : Int) = 1 from rfl] at hlp hex
      rcases hex with rfl | rfl <;> simp [body1_eq _ _ (gp 63) g63,c63,a63,hlp,hin,e1]
  · have hl : ps.length = 0 := by simpa [wantN] using hlen
    have d1 := h.1
    have d2 := h.2
    simp [d1,d2] at hin2
    obtain rfl : ps = [] := List.length_eq_zero_iff.1 hl
    simp only [encQ,List.length_nil,show ((0 : Nat) : Int) = 0 from rfl] at hlp hex ⊢
    rcases hex with rfl | rfl <;> simp [body1_eq _ _ (gp 63) g63,c63,a63,hlp,hin2]
theorem eqNodesN (o n : Int) (ps : List Tm) (hh : ¬(headOk o n = true ∧ ps.length = wantN o)) : callI G 63 [encT false (.mk o n ps)] [] = some (.i 0,[]) := by
  have ha := eqActS n
  have hin := l6In n 0 3
  have hin2 := l6In n 0 2
  simp only [encT]
  rw [callI_eq]
  by_cases o0 : o = 0
  · subst o0
    by_cases hk : n = 0
    · have hl : ps.length ≠ 0 := fun e => hh ⟨by simp [headOk,hk],by simp [wantN,e]⟩
      rcases encQ_form false ps with ⟨e,e0⟩ | ⟨F,e,e1,_⟩ <;> rw [e]
      · rw [e0] at hl; simp at hl
      · have hl2 : ¬ ((ps.length : Int) = 0) := by omega
        simp [body1_eq _ _ (gp 63) g63,c63,a63,hk,e1,hl2,hl]
    · rcases encQ_form false ps with ⟨e,e0⟩ | ⟨F,e,e1,_⟩ <;> rw [e] <;>
        simp [body1_eq _ _ (gp 63) g63,c63,a63,hk]
  by_cases o1 : o = 1
  · subst o1
    by_cases hk : actOk n = true
    · have hl : ps.length ≠ 1 := fun e => hh ⟨by simp [headOk,hk],by simp [wantN,e]⟩
      rcases encQ_form false ps with ⟨e,e0⟩ | ⟨F,e,e1,_⟩ <;> rw [e]
      · simp [body1_eq _ _ (gp 63) g63,c63,a63,ha,hk]
      · have hl2 : ¬ ((ps.length : Int) = 1) := by omega
        simp [body1_eq _ _ (gp 63) g63,c63,a63,ha,hk,e1,hl2,hl]
    · rcases encQ_form false ps with ⟨e,e0⟩ | ⟨F,e,e1,_⟩ <;> rw [e] <;>
        simp [body1_eq _ _ (gp 63) g63,c63,a63,ha,hk]
  by_cases o2 : o = 2
  · subst o2
    by_cases hk : n = 0
    · have hl : ps.length ≠ 2 := fun e => hh ⟨by simp [headOk,hk],by simp [wantN,e]⟩
      rcases encQ_form false ps with ⟨e,e0⟩ | ⟨F,e,e1,_⟩ <;> rw [e]
      · simp [body1_eq _ _ (gp 63) g63,c63,a63,hk]
      · have hl2 : ¬ ((ps.length : Int) = 2) := by omega
        simp [body1_eq _ _ (gp 63) g63,c63,a63,hk,e1,hl2,hl]
    · rcases encQ_form false ps with ⟨e,e0⟩ | ⟨F,e,e1,_⟩ <;> rw [e] <;>
        simp [body1_eq _ _ (gp 63) g63,c63,a63,hk]
  by_cases o3 : o = 3
  · subst o3
    by_cases hk : n = 0
    · have hl : ps.length ≠ 2 := fun e => hh ⟨by simp [headOk,hk],by simp [wantN,e]⟩
      rcases encQ_form false ps with ⟨e,e0⟩ | ⟨F,e,e1,_⟩ <;> rw [e]
      · simp [body1_eq _ _ (gp 63) g63,c63,a63,hk]
      · have hl2 : ¬ ((ps.length : Int) = 2) := by omega
        simp [body1_eq _ _ (gp 63) g63,c63,a63,hk,e1,hl2,hl]
    · rcases encQ_form false ps with ⟨e,e0⟩ | ⟨F,e,e1,_⟩ <;> rw [e] <;>
        simp [body1_eq _ _ (gp 63) g63,c63,a63,hk]
  by_cases o4 : o = 4
  · subst o4
    generalize hb : (decide (0 ≤ n) && decide (n ≤ 3)) = b at hin
    by_cases hk : b = true
    · have hl : ps.length ≠ 1 := fun e => hh ⟨by simp [headOk,hb,hk],by simp [wantN,e]⟩
      rcases encQ_form false ps with ⟨e,e0⟩ | ⟨F,e,e1,_⟩ <;> rw [e]
      · simp [body1_eq _ _ (gp 63) g63,c63,a63,hin,hk]
      · have hl2 : ¬ ((ps.length : Int) = 1) := by omega
        simp [body1_eq _ _ (gp 63) g63,c63,a63,hin,hk,e1,hl2,hl]
    · rcases encQ_form false ps with ⟨e,e0⟩ | ⟨F,e,e1,_⟩ <;> rw [e] <;>
        simp [body1_eq _ _ (gp 63) g63,c63,a63,hin,hk]
  by_cases o5 : o = 5
  · subst o5
    generalize hb : (decide (0 ≤ n) && decide (n ≤ 2)) = b at hin2
    by_cases hk : b = true
    · have hl : ps.length ≠ 0 := fun e => hh ⟨by simp [headOk,hb,hk],by simp [wantN,e]⟩
      rcases encQ_form false ps with ⟨e,e0⟩ | ⟨F,e,e1,_⟩ <;> rw [e]
      · rw [e0] at hl; simp at hl
      · have hl2 : ¬ ((ps.length : Int) = 0) := by omega
        simp [body1_eq _ _ (gp 63) g63,c63,a63,hin2,hk,e1,hl2,hl]
    · rcases encQ_form false ps with ⟨e,e0⟩ | ⟨F,e,e1,_⟩ <;> rw [e] <;>
        simp [body1_eq _ _ (gp 63) g63,c63,a63,hin2,hk]
  rcases encQ_form false ps with ⟨e,e0⟩ | ⟨F,e,e1,_⟩ <;> rw [e] <;>
    simp [body1_eq _ _ (gp 63) g63,c63,a63,o0,o1,o2,o3,o4,o5]
theorem eqNodes : ∀ t : Tm,callI G 63 [encT false t] [] = some (.i (nodesT t),[])
  | .mk o n ps => by
    have hp : ∀ p ∈ ps,callI G 63 [encT false p] [] = some (.i (nodesT p),[]) := fun p hp => eqNodes p
    unfold nodesT
    split
    · rename_i hh
      exact eqNodes0 o n ps hp hh
    · rename_i hh
      exact eqNodesN o n ps hh
  termination_by t => SizeOf.sizeOf t
  decreasing_by
    have := List.sizeOf_lt_of_mem hp
    simp
    omega
end Go.Am
end
section
set_option maxRecDepth 10000
set_option maxHeartbeats 16000000
set_option linter.unusedSimpArgs false
set_option linter.unusedVariables false
namespace Go.Am
open Go.Proofs Go.Sort Go.Shelf
mutual
def DrT : Tm → Prop
  | .mk o n ps => (-1000 ≤ o ∧ o ≤ 1000) ∧ (-1000 ≤ n ∧ n ≤ 1000) ∧ ps.length ≤ 2 ∧ DrTs ps
def DrTs : List Tm → Prop
  | [] => True
  | p :: ps => DrT p ∧ DrTs ps
end
def dcT : Nat → Int
  | 0 => 10
  | d + 1 => 10 + 2 * dcT d
theorem dcT_nn : ∀ d,10 ≤ dcT d
  | 0 => by simp [dcT]
  | d + 1 => by have := dcT_nn d; simp only [dcT]; omega
theorem encT_two (t : Tm) : ∃ o n ps,t = .mk o n ps ∧ ((ps = [] ∧ encT true t = .agg [.i o,.i n,.nils]) ∨ (encT true t = .agg [.i o,.i n,.sl true 3 (encTs true ps)] ∧ encQ true ps = .sl true 3 (encTs true ps))) := by
  obtain ⟨o,n,ps⟩ := t
  refine ⟨o,n,ps,rfl, ?_⟩
  cases ps with
  | nil => exact .inl ⟨rfl,rfl⟩
  | cons p ps => exact .inr ⟨by simp [encT,encQ,encTs],by simp [encQ,encTs]⟩
theorem eqGood : ∀ (d : Nat) (o : Stack) (id : Id),id.1 < o.length → ∀ (B : List Nat) (p : Int) (c : Nat) (be : Bool),RdrOK B p → d ≤ 20 → c ≤ 3 → p + dcT d ≤ 1000000000 →
    ∃ t q,p ≤ q ∧ q ≤ p + dcT d ∧ DrT t ∧ callI H 58 [.ref id 1 0 0,.i d,.i c,.b be] (setS o id (rd B p)) = some (encT true t,setS o id (rd B q))
  | 0,o,id,hid,B,p,c,be,hr,hd,hc,hp => by
    have hne2 : ¬ id.1 = o.length := by omega
    have hdc : dcT 0 = 10 := rfl
    have hw : IntKind.i64.wrap (-1) = -1 := wrD (by omega)
    obtain ⟨k,a1,a2,c1⟩ := pickF o id hid B p 9 hr (by omega) (by omega)
    obtain ⟨k2,b1,b2,c2⟩ := pickF o id hid B (p + 1) 2 (hr.next (by omega) (by omega)) (by omega) (by omega)
    by_cases hcall : 0 < c ∧ be = true
    · obtain ⟨hc0,rfl⟩ := hcall
      obtain ⟨k3,d1,d2,c3⟩ := pickF o id hid B (p + 1 + 1) c (hr.next (by omega) (by omega)) (by omega) (by omega)
      have hc0' : (0 : Int) < c := by omega
      refine ⟨.mk 5 k3 [],p + 1 + 1 + 1,by omega,by omega,⟨by omega,by omega,by simp,trivial⟩, ?_⟩
      rw [callI_eq]
      simp [body1_eq _ _ (gpH 58) g58,c58,a58,hne2,setS_len,c1,c2,b2,hc0,hc0',c3,encT,encQ]
    · by_cases h0 : k2 = 0
      · subst h0
        refine ⟨.mk 0 0 [],p + 1 + 1,by omega,by omega,⟨by omega,by omega,by simp,trivial⟩, ?_⟩
        rw [callI_eq]
        by_cases hc0 : 0 < c
        · have hb : be = false := by cases be with
            | false => rfl
            | true => exact absurd ⟨hc0,rfl⟩ hcall
          subst hb
          have hc0' : (0 : Int) < c := by omega
          simp [body1_eq _ _ (gpH 58) g58,c58,a58,hne2,setS_len,c1,c2,hc0,hc0',encT,encQ]
        · obtain rfl : c = 0 := by omega
          simp [body1_eq _ _ (gpH 58) g58,c58,a58,hne2,setS_len,c1,c2,encT,encQ]
      · obtain ⟨n,q,e1,e2,e3,e4,e5⟩ := doF o id hid B (p + 1 + 1) (hr.next (by omega) (by omega)) (by omega)
        have hk2 : k2 = 1 := by omega
        subst hk2
        refine ⟨.mk 1 n [.mk 0 0 []],q,by omega,by omega,⟨by omega,by omega,by simp,⟨by omega,by omega,by simp,trivial⟩,trivial⟩, ?_⟩
        rw [callI_eq]
        by_cases hc0 : 0 < c
        · have hb : be = false := by cases be with
            | false => rfl
            | true => exact absurd ⟨hc0,rfl⟩ hcall
          subst hb
          have hc0' : (0 : Int) < c := by omega
          simp [body1_eq _ _ (gpH 58) g58,c58,a58,hne2,setS_len,c1,c2,hc0,hc0',e5,hw,encT,encQ,encTs]
        · obtain rfl : c = 0 := by omega
          simp [body1_eq _ _ (gpH 58) g58,c58,a58,hne2,setS_len,c1,c2,e5,hw,encT,encQ,encTs]
  | d + 1,o,id,hid,B,p,c,be,hr,hd,hc,hp => by
    have hne2 : ¬ id.1 = o.length := by omega
    have hdn := dcT_nn d
    have hdc : dcT (d + 1) = 10 + 2 * dcT d := rfl
    have hd0 : ¬ (d : Int) + 1 = 0 := by omega
    have hw : IntKind.i64.wrap ((d : Int) + 1 - 1) = d := by rw [wrD (by omega)]; omega
    have hw2 : IntKind.i64.wrap (d : Int) = d := wrD (by omega)
    have hm : (if 0 < d then (d : Int) else 0) = d := by split <;> omega
    have ih : ∀ q be',RdrOK B q → q + dcT d ≤ 1000000000 → ∃ t q',q ≤ q' ∧ q' ≤ q + dcT d ∧ DrT t ∧ callI H 58 [.ref id 1 0 0,.i d,.i c,.b be'] (setS o id (rd B q) ++ [[]]) = some (encT true t,setS o id (rd B q') ++ [[]]) := fun q be' hq h => by
      obtain ⟨t,q',e1,e2,e3,e4⟩ := eqGood d (o ++ [[]]) id (hidA hid) B q c be' hq (by omega) hc h
      exact ⟨t,q',e1,e2,e3,frC hid e4⟩
    obtain ⟨k,a1,a2,c1⟩ := pickF o id hid B p 9 hr (by omega) (by omega)
    by_cases hcall : k < 2 ∧ 0 < c ∧ be = true
    · obtain ⟨hk,hc0,rfl⟩ := hcall
      obtain ⟨k3,d1,d2,c3⟩ := pickF o id hid B (p + 1) c (hr.next (by omega) (by omega)) (by omega) (by omega)
      have hc0' : (0 : Int) < c := by omega
      refine ⟨.mk 5 k3 [],p + 1 + 1,by omega,by omega,⟨by omega,by omega,by simp,trivial⟩, ?_⟩
      rw [callI_eq]
      simp [body1_eq _ _ (gpH 58) g58,c58,a58,hne2,setS_len,hd0,c1,hk,hc0,hc0',c3,encT,encQ]
    · -- no call
      have hno : k < 2 → (c = 0 ∨ be = false) := fun h => by
        by_cases hc0 : 0 < c
        · right
          cases be with
          | false => rfl
          | true => exact absurd ⟨h,hc0,rfl⟩ hcall
        · left; omega
      have hk : k = 0 ∨ k = 1 ∨ (2 ≤ k ∧ k < 5) ∨ k = 5 ∨ k = 6 ∨ k = 7 ∨ k = 8 := by omega
      rcases hk with rfl | rfl | hk | rfl | hk | hk | rfl
      · refine ⟨.mk 0 0 [],p + 1,by omega,by omega,⟨by omega,by omega,by simp,trivial⟩, ?_⟩
        rw [callI_eq]
        rcases hno (by omega) with rfl | rfl
        · simp [body1_eq _ _ (gpH 58) g58,c58,a58,hne2,setS_len,hd0,c1,encT,encQ]
        · by_cases hc0 : 0 < c
          · have hc0' : (0 : Int) < c := by omega
            simp [body1_eq _ _ (gpH 58) g58,c58,a58,hne2,setS_len,hd0,c1,hc0,hc0',encT,encQ]
          · obtain rfl : c = 0 := by omega
            simp [body1_eq _ _ (gpH 58) g58,c58,a58,hne2,setS_len,hd0,c1,encT,encQ]
      · obtain ⟨n,q1,e1,e2,e3,e4,e5⟩ := doF o id hid B (p + 1) (hr.next (by omega) (by omega)) (by omega)
        obtain ⟨t,q2,f1,f2,f3,f4⟩ := ih q1 true (hr.next (by omega) (by omega)) (by omega)
        refine ⟨.mk 1 n [t],q2,by omega,by omega,⟨by omega,by omega,by simp,f3,trivial⟩, ?_⟩
        rw [callI_eq]
        obtain ⟨to,tn,tp,rfl,⟨rfl,ht⟩ | ⟨ht,hE⟩⟩ := encT_two t <;>
          (simp only [encT,encQ]; rw [ht] at f4
           rcases hno (by omega) with rfl | rfl
           · simp only [show ((0 : Nat) : Int) = 0 from rfl] at f4
             simp [body1_eq _ _ (gpH 58) g58,c58,a58,hne2,setS_len,hd0,hw,hw2,hm,c1,e5,f4,encTs_len,encTs]
             try exact hE.symm
           · by_cases hc0 : 0 < c
             · have hc0' : (0 : Int) < c := by omega
               simp [body1_eq _ _ (gpH 58) g58,c58,a58,hne2,setS_len,hd0,hw,hw2,hm,c1,e5,f4,hc0,hc0',encTs_len,encTs]
               try exact hE.symm
             · obtain rfl : c = 0 := by omega
               simp only [show ((0 : Nat) : Int) = 0 from rfl] at f4
               simp [body1_eq _ _ (gpH 58) g58,c58,a58,hne2,setS_len,hd0,hw,hw2,hm,c1,e5,f4,encTs_len,encTs]
               try exact hE.symm)
      · obtain ⟨n,q1,e1,e2,e3,e4,e5⟩ := doF o id hid B (p + 1) (hr.next (by omega) (by omega)) (by omega)
        obtain ⟨t,q2,f1,f2,f3,f4⟩ := ih q1 true (hr.next (by omega) (by omega)) (by omega)
        refine ⟨.mk 1 n [t],q2,by omega,by omega,⟨by omega,by omega,by simp,f3,trivial⟩, ?_⟩
        have h2 : ¬ k < 2 := by omega
        have h0 : ¬ k = 0 := by omega
        have h5 := hk.2
        rw [callI_eq]
        obtain ⟨to,tn,tp,rfl,⟨rfl,ht⟩ | ⟨ht,hE⟩⟩ := encT_two t <;>
          (simp only [encT,encQ]; rw [ht] at f4
           simp [body1_eq _ _ (gpH 58) g58,c58,a58,hne2,setS_len,hd0,hw,hw2,hm,c1,h2,h0,h5,e5,f4,encTs_len,encTs]
           try exact hE.symm)
      · obtain ⟨n,b1,b2,c2⟩ := pickF o id hid B (p + 1) 4 (hr.next (by omega) (by omega)) (by omega) (by omega)
        obtain ⟨t,q2,f1,f2,f3,f4⟩ := ih (p + 1 + 1) be (hr.next (by omega) (by omega)) (by omega)
        refine ⟨.mk 4 n [t],q2,by omega,by omega,⟨by omega,by omega,by simp,f3,trivial⟩, ?_⟩
        rw [callI_eq]
        obtain ⟨to,tn,tp,rfl,⟨rfl,ht⟩ | ⟨ht,hE⟩⟩ := encT_two t <;>
          (simp only [encT,encQ]; rw [ht] at f4
           simp [body1_eq _ _ (gpH 58) g58,c58,a58,hne2,setS_len,hd0,hw,hw2,c1,c2,f4,encTs_len,encTs]
           try exact hE.symm)
      all_goals
        obtain ⟨t,q1,e1,e2,e3,e4⟩ := ih (p + 1) be (hr.next (by omega) (by omega)) (by omega)
        obtain ⟨u,q2,f1,f2,f3,f4⟩ := ih q1 be (hr.next (by omega) (by omega)) (by omega)
      · refine ⟨.mk 2 0 [t,u],q2,by omega,by omega,⟨by omega,by omega,by simp,e3,f3,trivial⟩, ?_⟩
        subst hk
        rw [callI_eq]
        obtain ⟨to,tn,tp,rfl,⟨rfl,ht⟩ | ⟨ht,hE⟩⟩ := encT_two t <;> obtain ⟨uo,un,up,rfl,⟨rfl,hu⟩ | ⟨hu,hF⟩⟩ := encT_two u <;>
          (simp only [encT,encQ]; rw [ht] at e4; rw [hu] at f4
           simp [body1_eq _ _ (gpH 58) g58,c58,a58,hne2,setS_len,hd0,hw,hw2,c1,e4,f4,encTs_len,encTs]
           try simp only [encT,encQ,hE,hF,and_self]
           try simp only [encT,encQ,hE,and_self]
           try simp only [encT,encQ,hF,and_self]
           try simp only [encT,encQ])
      · refine ⟨.mk 2 0 [t,u],q2,by omega,by omega,⟨by omega,by omega,by simp,e3,f3,trivial⟩, ?_⟩
        subst hk
        rw [callI_eq]
        obtain ⟨to,tn,tp,rfl,⟨rfl,ht⟩ | ⟨ht,hE⟩⟩ := encT_two t <;> obtain ⟨uo,un,up,rfl,⟨rfl,hu⟩ | ⟨hu,hF⟩⟩ := encT_two u <;>
          (simp only [encT,encQ]; rw [ht] at e4; rw [hu] at f4
           simp [body1_eq _ _ (gpH 58) g58,c58,a58,hne2,setS_len,hd0,hw,hw2,c1,e4,f4,encTs_len,encTs]
           try simp only [encT,encQ,hE,hF,and_self]
           try simp only [encT,encQ,hE,and_self]
           try simp only [encT,encQ,hF,and_self]
           try simp only [encT,encQ])
      · refine ⟨.mk 3 0 [t,u],q2,by omega,by omega,⟨by omega,by omega,by simp,e3,f3,trivial⟩, ?_⟩
        rw [callI_eq]
        obtain ⟨to,tn,tp,rfl,⟨rfl,ht⟩ | ⟨ht,hE⟩⟩ := encT_two t <;> obtain ⟨uo,un,up,rfl,⟨rfl,hu⟩ | ⟨hu,hF⟩⟩ := encT_two u <;>
          (simp only [encT,encQ]; rw [ht] at e4; rw [hu] at f4
           simp [body1_eq _ _ (gpH 58) g58,c58,a58,hne2,setS_len,hd0,hw,hw2,c1,e4,f4,encTs_len,encTs]
           try simp only [encT,encQ,hE,hF,and_self]
           try simp only [encT,encQ,hE,and_self]
           try simp only [encT,encQ,hF,and_self]
           try simp only [encT,encQ])
theorem goodF (d : Nat) (o : Stack) (id : Id) (hid : id.1 < o.length) (B : List Nat) (p : Int) (c : Nat) (be : Bool) (hr : RdrOK B p) (hd : d ≤ 20) (hc : c ≤ 3) (hp : p + dcT d ≤ 1000000000) :
    ∃ t q,p ≤ q ∧ q ≤ p + dcT d ∧ DrT t ∧ callI H 58 [.ref id 1 0 0,.i d,.i c,.b be] (setS o id (rd B p) ++ [[]]) = some (encT true t,setS o id (rd B q) ++ [[]]) := by
  obtain ⟨t,q,e1,e2,e3,e4⟩ := eqGood d (o ++ [[]]) id (hidA hid) B p c be hr hd hc hp
  exact ⟨t,q,e1,e2,e3,frC hid e4⟩
end Go.Am
end
section
set_option maxRecDepth 10000
set_option maxHeartbeats 4000000
set_option linter.unusedSimpArgs false
set_option linter.unusedVariables false
namespace Go.Am
open Go.Proofs Go.Sort Go.Shelf
def okT (t : Tm) : Bool := decide (1 ≤ nodesT t) && decide (nodesT t ≤ 24)
theorem eqTermOk (t : Tm) : callI G 83 [encT false t] [] = some (.b (okT t),[]) := by
  have h := eqNodes t
  have h2 := l6In (nodesT t) 1 24
  have e : (decide ((1 : Int) ≤ nodesT t) && decide ((nodesT t : Int) ≤ 24)) = okT t := by
    unfold okT
    rw [Bool.eq_iff_iff]
    simp only [Bool.and_eq_true,decide_eq_true_eq]
    omega
  rw [e] at h2
  obtain ⟨x1,x2,x3,hX,hx3⟩ := encT_form false t
  rw [hX] at h ⊢
  rw [callI_eq]
  rcases hx3 with rfl | ⟨L3,rfl⟩ <;> simp [body1_eq _ _ (gp 83) g83,c83,a83,h,h2]
mutual
def callsT (g : Bool) : Tm → Int
  | .mk o n ps => if o = 5 then n else if g = true ∧ o = 1 then -1 else callsL g (-1) ps
def callsL (g : Bool) (k : Int) : List Tm → Int
  | [] => k
  | p :: ps => callsL g (if k < callsT g p then callsT g p else k) ps
end
theorem loopCa (g : Bool) (o n : Int) (ho : ¬ (g = true ∧ o = 1)) (ps : List Tm) (hps : ps.length ≤ 9223372036854775806) (h : ∀ p ∈ ps,callI G 82 [encT false p,.b g] [] = some (.i (callsT g p),[])) : ∀ (rest done : List Tm) (k : Int),ps = done ++ rest →
    ∃ q,loopI G [1,2,5,6] [2] c82l0 ⟨[(1,.b g),(2,.ref (0,2) 1 0 0),(5,.i k),(6,.i done.length)],[(2,.box [.i o,.i n,encQ false ps])],[]⟩ =
      some (.exit 0,⟨[(1,.b g),(2,.ref (0,2) 1 0 0),(5,.i (callsL g k rest)),(6,.i ps.length),(25,q)],[(2,.box [.i o,.i n,encQ false ps])],[]⟩)
  | [],done,k,e => by
    have e : ps = done := by simpa using e
    subst e
    refine ⟨.b false, ?_⟩
    rw [loopI_eq]
    rcases encQ_form false ps with ⟨e,e0⟩ | ⟨F,e,e1,_⟩ <;> rw [e]
    · subst e0
      cases g <;> simp [r82l0,b82l0,callsL]
    · cases g <;> simp [r82l0,b82l0,callsL,e1]
  | x :: rest,done,k,e => by
    have hpl : ps.length = done.length + (rest.length + 1) := by rw [e]; simp
    have hlt : (done.length : Int) < ps.length := by omega
    have hw : IntKind.i64.wrap ((done.length : Int) + 1) = (done.length : Int) + 1 := wr (by omega)
    have hat := tm_at done x rest
    rw [← e] at hat
    have hx := h x (by rw [e]; simp)
    have hne : ps ≠ [] := by rw [e]; simp
    have hl3 : (encTs false ps).length = ps.length := encTs_len false ps
    have hlt2 : done.length < ps.length := by omega
    obtain ⟨x1,x2,x3,hX,hx3⟩ := encT_form false x
    rw [hX] at hat hx
    obtain ⟨q,hn⟩ := loopCa g o n ho ps hps h rest (done ++ [x]) (if k < callsT g x then callsT g x else k) (by rw [e]; simp)
    refine ⟨q, ?_⟩
    have hc : callsL g k (x :: rest) = callsL g (if k < callsT g x then callsT g x else k) rest := by rw [callsL]
    rw [hc]
    refine Eq.trans ?_ hn
    rw [loopI_eq,encQ_c false hne]
    generalize encTs false ps = F at hat hl3 ⊢
    generalize callsT g x = v at hx ⊢
    cases g
    · rcases hx3 with rfl | ⟨L3,rfl⟩ <;> simp [r82l0,b82l0,hlt,hlt2,hat,hl3,hx,hw]
    · have ho : ¬ o = 1 := fun e => ho ⟨rfl,e⟩
      rcases hx3 with rfl | ⟨L3,rfl⟩ <;> simp [r82l0,b82l0,hlt,hlt2,hat,hl3,hx,hw,ho]
mutual
def SmT : Tm → Prop
  | .mk o n ps => (-9223372036854775808 ≤ o ∧ o ≤ 9223372036854775807) ∧ (-9223372036854775808 ≤ n ∧ n ≤ 9223372036854775807) ∧ ps.length ≤ 3 ∧ SmTs ps
def SmTs : List Tm → Prop
  | [] => True
  | p :: ps => SmT p ∧ SmTs ps
end
theorem SmTs.mem : ∀ {ps : List Tm},SmTs ps → ∀ p ∈ ps,SmT p
  | [],_,p,h => by cases h
  | q :: ps,hs,p,h => by
    rcases List.mem_cons.1 h with rfl | h
    · exact hs.1
    · exact SmTs.mem hs.2 p h
theorem eqCalls0 (g : Bool) (o n : Int) (ps : List Tm) (hps : ps.length ≤ 3) (hp : ∀ p ∈ ps,callI G 82 [encT false p,.b g] [] = some (.i (callsT g p),[])) :
    callI G 82 [encT false (.mk o n ps),.b g] [] = some (.i (callsT g (.mk o n ps)),[]) := by
  simp only [encT]
  unfold callsT
  by_cases h5 : o = 5
  · subst h5
    rw [callI_eq]
    rcases encQ_form false ps with ⟨e,e0⟩ | ⟨F,e,e1,_⟩ <;> rw [e] <;> simp [body1_eq _ _ (gp 82) g82,c82,a82]
  · rw [if_neg h5]
    by_cases hg : g = true ∧ o = 1
    · obtain ⟨rfl,rfl⟩ := hg
      have hl : ∃ q,loopI G [1,2,5,6] [2] c82l0 ⟨[(1,.b true),(2,.ref (0,2) 1 0 0),(5,.i (-1)),(6,.i 0)],[(2,.box [.i 1,.i n,encQ false ps])],[]⟩ =
          some (.exit 0,⟨[(1,.b true),(2,.ref (0,2) 1 0 0),(5,.i (-1)),(6,.i 0),(25,q)],[(2,.box [.i 1,.i n,encQ false ps])],[]⟩) := by
        refine ⟨.b false, ?_⟩
        rw [loopI_eq]
        rcases encQ_form false ps with ⟨e,e0⟩ | ⟨F,e,e1,e2⟩ <;> rw [e]
        · simp [r82l0,b82l0]
        · have hpos : 0 < ps.length := by
            cases ps with
            | nil => exact absurd rfl e2
            | cons p ps => simp
          simp [r82l0,b82l0,e1,hpos]
      obtain ⟨q,hl⟩ := hl
      rw [callI_eq]
      rcases encQ_form false ps with ⟨e,e0⟩ | ⟨F,e,e1,_⟩ <;> rw [e] at hl ⊢ <;> simp [body1_eq _ _ (gp 82) g82,c82,a82,hl]
    · rw [if_neg hg]
      obtain ⟨q,hl⟩ := loopCa g o n hg ps (by omega) hp ps [] (-1) rfl
      simp only [List.length_nil,show ((0 : Nat) : Int) = 0 from rfl] at hl
      generalize callsL g (-1) ps = R at hl ⊢
      rw [callI_eq]
      rcases encQ_form false ps with ⟨e,e0⟩ | ⟨F,e,e1,_⟩ <;> rw [e] at hl ⊢ <;> simp [body1_eq _ _ (gp 82) g82,c82,a82,hl,h5]
theorem eqCalls (g : Bool) : ∀ t : Tm,SmT t → callI G 82 [encT false t,.b g] [] = some (.i (callsT g t),[])
  | .mk o n ps,hs => by
    unfold SmT at hs
    exact eqCalls0 g o n ps hs.2.2.1 fun p hp => eqCalls g p (SmTs.mem hs.2.2.2 p hp)
  termination_by t => SizeOf.sizeOf t
  decreasing_by
    have := List.sizeOf_lt_of_mem hp
    simp
    omega
def fitsT (t : Tm) (many : Int) : Bool := okT t && ((decide (0 ≤ many) && decide (many ≤ 3)) && decide (callsT false t < many))
theorem eqTermFits (t : Tm) (ht : SmT t) (many : Int) : callI G 60 [encT false t,.i many] [] = some (.b (fitsT t many),[]) := by
  have h1 := eqTermOk t
  have h2 := l6In many 0 3
  have h3 := eqCalls false t ht
  unfold fitsT
  obtain ⟨x1,x2,x3,hX,hx3⟩ := encT_form false t
  rw [hX] at h1 h3 ⊢
  generalize (decide (0 ≤ many) && decide (many ≤ 3)) = b2 at h2 ⊢
  generalize okT t = b1 at h1 ⊢
  generalize callsT false t = v at h3 ⊢
  rw [callI_eq]
  cases b1 <;> cases b2 <;> rcases hx3 with rfl | ⟨L3,rfl⟩ <;> simp [body1_eq _ _ (gp 60) g60,c60,a60,h1,h2,h3]
end Go.Am
end
section
set_option maxRecDepth 10000
set_option maxHeartbeats 4000000
set_option linter.unusedSimpArgs false
set_option linter.unusedVariables false
namespace Go.Am
open Go.Proofs Go.Sort Go.Shelf
def goodD (m : Nat) (d : Tm) : Bool := fitsT d m && !decide (0 ≤ callsT true d)
def defsOk (ds : List Tm) : Bool := ds.all (goodD ds.length) && decide (ds.length ≤ 3)
theorem loopDk (ds : List Tm) (hs : SmTs ds) (hl : ds.length ≤ 1000) : ∀ (rest done : List Tm),ds = done ++ rest →
    ∃ ex,loopI G [0,3] [] c59l0 ⟨[(0,encQ false ds),(3,.i done.length)],[],[]⟩ = some ex ∧
      ((rest.all (goodD ds.length) = false ∧ ex = (.ret,⟨[(2,.b false)],[],[]⟩)) ∨ (rest.all (goodD ds.length) = true ∧ ex = (.exit 0,⟨[(0,encQ false ds),(3,.i ds.length),(7,.b false)],[],[]⟩)))
  | [],done,e => by
    have e : ds = done := by simpa using e
    subst e
    refine ⟨_, ?_,.inr ⟨rfl,rfl⟩⟩
    rw [loopI_eq]
    rcases encQ_form false ds with ⟨e,e0⟩ | ⟨F,e,e1,_⟩ <;> rw [e]
    · subst e0
      simp [r59l0,b59l0]
    · simp [r59l0,b59l0,e1]
  | x :: rest,done,e => by
    have hpl : ds.length = done.length + (rest.length + 1) := by rw [e]; simp
    have hlt : (done.length : Int) < ds.length := by omega
    have hw : IntKind.i64.wrap ((done.length : Int) + 1) = (done.length : Int) + 1 := wr (by omega)
    have hat := tm_at done x rest
    rw [← e] at hat
    have hsx := SmTs.mem hs x (by rw [e]; simp)
    have h1 := eqTermFits x hsx ds.length
    have h2 := eqCalls true x hsx
    have hne : ds ≠ [] := by rw [e]; simp
    have hl3 : (encTs false ds).length = ds.length := encTs_len false ds
    have hlt2 : done.length < ds.length := by omega
    obtain ⟨x1,x2,x3,hX,hx3⟩ := encT_form false x
    rw [hX] at hat h1 h2
    obtain ⟨ex,hn,hr⟩ := loopDk ds hs hl rest (done ++ [x]) (by rw [e]; simp)
    by_cases hg : goodD ds.length x = true
    · refine ⟨ex, ?_, ?_⟩
      · rw [← hn,loopI_eq,encQ_c false hne]
        unfold goodD at hg
        simp only [Bool.and_eq_true,Bool.not_eq_true',decide_eq_false_iff_not] at hg
        have g2 := hg.2
        rw [hg.1] at h1
        generalize encTs false ds = F at hat hl3 ⊢
        rcases hx3 with rfl | ⟨L3,rfl⟩ <;> simp [r59l0,b59l0,hlt,hlt2,hat,hl3,hw,h1,h2,g2]
      · rcases hr with ⟨a1,a2⟩ | ⟨a1,a2⟩
        · exact .inl ⟨by simp only [List.all_cons,hg,a1,Bool.true_and],a2⟩
        · exact .inr ⟨by simp only [List.all_cons,hg,a1,Bool.true_and],a2⟩
    · refine ⟨_, ?_,.inl ⟨by simp only [List.all_cons,Bool.eq_false_iff.2 hg,Bool.false_and],rfl⟩⟩
      rw [loopI_eq,encQ_c false hne]
      generalize encTs false ds = F at hat hl3 ⊢
      unfold goodD at hg
      cases hf : fitsT x ds.length with
      | false =>
        rw [hf] at h1
        rcases hx3 with rfl | ⟨L3,rfl⟩ <;> simp [r59l0,b59l0,hlt,hlt2,hat,hl3,hw,h1]
      | true =>
        rw [hf] at h1 hg
        have g2 : 0 ≤ callsT true x := by simpa using hg
        rcases hx3 with rfl | ⟨L3,rfl⟩ <;> simp [r59l0,b59l0,hlt,hlt2,hat,hl3,hw,h1,h2,g2]
theorem eqDefsOk (ds : List Tm) (hs : SmTs ds) (hl : ds.length ≤ 1000) : callI G 59 [encQ false ds] [] = some (.b (defsOk ds),[]) := by
  obtain ⟨ex,h,hr⟩ := loopDk ds hs hl ds [] rfl
  simp only [List.length_nil,show ((0 : Nat) : Int) = 0 from rfl] at h
  unfold defsOk
  rw [callI_eq]
  rcases encQ_form false ds with ⟨e,e0⟩ | ⟨F,e,e1,_⟩ <;> rw [e] at h hr ⊢ <;> rcases hr with ⟨a1,rfl⟩ | ⟨a1,rfl⟩ <;> rw [a1]
  · simp [body1_eq _ _ (gp 59) g59,c59,a59,h]
  · subst e0
    simp [body1_eq _ _ (gp 59) g59,c59,a59,h]
  · simp [body1_eq _ _ (gp 59) g59,c59,a59,h]
  · by_cases c3 : ds.length ≤ 3
    · have c4 : (ds.length : Int) ≤ 3 := by omega
      simp [body1_eq _ _ (gp 59) g59,c59,a59,h,e1,c3,c4]
    · have c4 : ¬ (ds.length : Int) ≤ 3 := by omega
      simp [body1_eq _ _ (gp 59) g59,c59,a59,h,e1,c3,c4]
def askedT (t : Tm) (ds : List Tm) : Bool := defsOk ds && fitsT t ds.length
theorem eqAsked (t : Tm) (ht : SmT t) (ds : List Tm) (hs : SmTs ds) (hl : ds.length ≤ 1000) : callI G 44 [encT false t,encQ false ds] [] = some (.b (askedT t ds),[]) := by
  have h1 := eqDefsOk ds hs hl
  have h2 := eqTermFits t ht ds.length
  unfold askedT
  obtain ⟨x1,x2,x3,hX,hx3⟩ := encT_form false t
  rw [hX] at h2 ⊢
  generalize fitsT t ds.length = b2 at h2 ⊢
  rw [callI_eq]
  rcases encQ_form false ds with ⟨e,e0⟩ | ⟨F,e,e1,_⟩ <;> rw [e] at h1 ⊢
  · subst e0
    simp only [List.length_nil,show ((0 : Nat) : Int) = 0 from rfl] at h2
    generalize defsOk [] = b1 at h1 ⊢
    cases b1 <;> rcases hx3 with rfl | ⟨L3,rfl⟩ <;> simp [body1_eq _ _ (gp 44) g44,c44,a44,h1,h2]
  · generalize defsOk ds = b1 at h1 ⊢
    cases b1 <;> rcases hx3 with rfl | ⟨L3,rfl⟩ <;> simp [body1_eq _ _ (gp 44) g44,c44,a44,h1,h2,e1]
end Go.Am
end
section
set_option maxRecDepth 10000
set_option maxHeartbeats 4000000
set_option linter.unusedSimpArgs false
set_option linter.unusedVariables false
namespace Go.Am
open Go.Proofs Go.Sort Go.Shelf
theorem eqDec (n : Int) (h : 0 ≤ n ∧ n ≤ 9) : ∃ b : ByteArray,b.size ≤ 1 ∧ callI G 84 [.i n] [] = some (.s b,[]) := by
  have hw : IntKind.i64.wrap (48 + n) = 48 + n := wr (by omega)
  have h1 : ¬ n < -9223372036854775807 := by omega
  have h2 : ¬ n < 0 := by omega
  have h3 : n < 10 := by omega
  refine ⟨strU [IntKind.u8.wrap (48 + n)],by simp [strU], ?_⟩
  rw [callI_eq]
  simp [body1_eq _ _ (gp 84) g84,c84,a84,h1,h2,h3,hw,u8s]
theorem eqName1 (a : Int) (h : -1000 ≤ a ∧ a ≤ 1000) : callI G 87 [.i a] [] = some (.i ((if a < -a then -a else a) - 1),[]) := by
  have hw : IntKind.i64.wrap (0 - a) = -a := by rw [wr (by omega)]; omega
  have hw1 : IntKind.i64.wrap (-a) = -a := wr (by omega)
  have hw2 : IntKind.i64.wrap ((if a < -a then -a else a) - 1) = (if a < -a then -a else a) - 1 := wr (by split <;> omega)
  rw [callI_eq]
  simp [body1_eq _ _ (gp 87) g87,c87,a87,hw,hw1,hw2]
theorem eqText1 (a : Int) (h : -4 ≤ a ∧ a ≤ 4) : ∃ b : ByteArray,b.size ≤ 5 ∧ callI G 86 [.i a] [] = some (.s b,[]) := by
  have h1 := eqName1 a (by omega)
  by_cases h0 : a = 0
  · subst h0
    refine ⟨⟨#[116,97,117]⟩,by decide, ?_⟩
    rw [callI_eq]
    simp [body1_eq _ _ (gp 86) g86,c86,a86]
  · obtain ⟨k,hk⟩ : ∃ k,(if a < -a then -a else a) - 1 = k := ⟨_,rfl⟩
    rw [hk] at h1
    have hk2 : 0 ≤ k ∧ k + 1 ≤ 4 := by rw [← hk]; split <;> omega
    have hw : IntKind.i64.wrap (k + 1) = k + 1 := wr (by omega)
    have hs : ((⟨#[97,98,99,100]⟩ : ByteArray).extract k.toNat (k + 1).toNat).size ≤ 4 := by
      rw [ByteArray.size_extract]
      have : (⟨#[97,98,99,100]⟩ : ByteArray).size = 4 := rfl
      omega
    have hz : (⟨#[97,98,99,100]⟩ : ByteArray).size = 4 := rfl
    have hz1 : (⟨#[33]⟩ : ByteArray).size = 1 := rfl
    have hc : k ≤ k + 1 := by omega
    by_cases hn : a < 0
    · refine ⟨⟨#[33]⟩ ++ (⟨#[97,98,99,100]⟩ : ByteArray).extract k.toNat (k + 1).toNat,by rw [ByteArray.size_append]; omega, ?_⟩
      generalize hE : (⟨#[97,98,99,100]⟩ : ByteArray).extract k.toNat (k + 1).toNat = E at hs
      have hadd : (⟨#[33]⟩ : ByteArray).size + E.size ≤ 9223372036854775807 := by omega
      rw [callI_eq]
      simp [body1_eq _ _ (gp 86) g86,c86,a86,h0,hn,h1,hw,hk2.1,hk2.2,hc,hE,hz,hadd]
    · refine ⟨(⟨#[97,98,99,100]⟩ : ByteArray).extract k.toNat (k + 1).toNat,by omega, ?_⟩
      generalize hE : (⟨#[97,98,99,100]⟩ : ByteArray).extract k.toNat (k + 1).toNat = E at hs
      rw [callI_eq]
      simp [body1_eq _ _ (gp 86) g86,c86,a86,h0,hn,h1,hw,hk2.1,hk2.2,hc,hE,hz]
end Go.Am
end
section
set_option maxRecDepth 10000
set_option maxHeartbeats 4000000
set_option linter.unusedSimpArgs false
set_option linter.unusedVariables false
namespace Go.Am
open Go.Proofs Go.Sort Go.Shelf
mutual
def VaT : Tm → Prop
  | .mk o n ps => headOk o n = true ∧ ps.length = wantN o ∧ VaTs ps
def VaTs : List Tm → Prop
  | [] => True
  | p :: ps => VaT p ∧ VaTs ps
end
mutual
def szT : Tm → Nat
  | .mk _ _ ps => szTs ps + 1
def szTs : List Tm → Nat
  | [] => 0
  | p :: ps => szT p + szTs ps
end
theorem VaTs.mem : ∀ {ps : List Tm},VaTs ps → ∀ p ∈ ps,VaT p
  | [],_,p,h => by cases h
  | q :: ps,hs,p,h => by
    rcases List.mem_cons.1 h with rfl | h
    · exact hs.1
    · exact VaTs.mem hs.2 p h
theorem szTs_mem : ∀ {ps : List Tm} (p : Tm),p ∈ ps → szT p ≤ szTs ps
  | [],p,h => by cases h
  | q :: ps,p,h => by
    unfold szTs
    rcases List.mem_cons.1 h with rfl | h
    · omega
    · have := szTs_mem p h; omega
theorem loopTx (o n : Int) (ps : List Tm) (hps : ps.length ≤ 3) (h : ∀ p ∈ ps,∃ b : ByteArray,b.size + 1 ≤ 15 * szT p ∧ callI G 61 [encT false p] [] = some (.s b,[])) (hz : szTs ps ≤ 1000000) : ∀ (rest done : List Tm) (t : ByteArray),ps = done ++ rest → t.size + 15 * szTs rest ≤ 1000000000 →
    ∃ t' : ByteArray,t'.size ≤ t.size + 15 * szTs rest ∧ loopI G [1,3,4] [1] c61l0 ⟨[(1,.ref (0,1) 1 0 0),(3,.s t),(4,.i done.length)],[(1,.box [.i o,.i n,encQ false ps])],[]⟩ =
      some (.exit 1,⟨[(1,.ref (0,1) 1 0 0),(3,.s t'),(4,.i ps.length),(44,.b false)],[(1,.box [.i o,.i n,encQ false ps])],[]⟩)
  | [],done,t,e,ht => by
    have e : ps = done := by simpa using e
    subst e
    refine ⟨t,by omega, ?_⟩
    rw [loopI_eq]
    rcases encQ_form false ps with ⟨e,e0⟩ | ⟨F,e,e1,_⟩ <;> rw [e]
    · subst e0
      simp [r61l0,b61l0]
    · simp [r61l0,b61l0,e1]
  | x :: rest,done,t,e,ht => by
    have hpl : ps.length = done.length + (rest.length + 1) := by rw [e]; simp
    have hlt : (done.length : Int) < ps.length := by omega
    have hw : IntKind.i64.wrap ((done.length : Int) + 1) = (done.length : Int) + 1 := wr (by omega)
    have hat := tm_at done x rest
    rw [← e] at hat
    obtain ⟨b,hb,hx⟩ := h x (by rw [e]; simp)
    have hne : ps ≠ [] := by rw [e]; simp
    have hl3 : (encTs false ps).length = ps.length := encTs_len false ps
    have hlt2 : done.length < ps.length := by omega
    obtain ⟨x1,x2,x3,hX,hx3⟩ := encT_form false x
    rw [hX] at hat hx
    have hsz : szTs (x :: rest) = szT x + szTs rest := by rw [szTs]
    rw [hsz] at ht ⊢
    have h1 : 1 ≤ szT x := by cases x; simp [szT]
    have z1 : (⟨#[32]⟩ : ByteArray).size = 1 := rfl
    have z2 : (t ++ (⟨#[32]⟩ : ByteArray)).size = t.size + 1 := by rw [ByteArray.size_append,z1]
    have z3 : (t ++ (⟨#[32]⟩ : ByteArray) ++ b).size = t.size + 1 + b.size := by rw [ByteArray.size_append,z2]
    obtain ⟨t',ht',hn⟩ := loopTx o n ps hps h hz rest (done ++ [x]) (t ++ (⟨#[32]⟩ : ByteArray) ++ b) (by rw [e]; simp) (by rw [z3]; omega)
    refine ⟨t',by rw [z3] at ht'; omega, ?_⟩
    have a1 : t.size + (⟨#[32]⟩ : ByteArray).size ≤ 9223372036854775807 := by rw [z1]; omega
    have a2 : (t ++ (⟨#[32]⟩ : ByteArray)).size + b.size ≤ 9223372036854775807 := by rw [z2]; omega
    refine Eq.trans ?_ hn
    rw [loopI_eq,encQ_c false hne]
    generalize encTs false ps = F at hat hl3 ⊢
    generalize hT : t ++ (⟨#[32]⟩ : ByteArray) = T at a2 ⊢
    rcases hx3 with rfl | ⟨L3,rfl⟩ <;> simp [r61l0,b61l0,hlt,hlt2,hat,hl3,hx,hw,a1,a2,hT]
theorem eqWords : callI G 85 [] [] = some (.sl true 1 [.s ⟨#[]⟩,.s ⟨#[97,99,116]⟩,.s ⟨#[115,117,109]⟩,.s ⟨#[112,97,114]⟩,.s ⟨#[104,105,100,101]⟩],[]) := by
  rw [callI_eq]
  simp [body1_eq _ _ (gp 85) g85,c85,a85,noShares,noShare]
theorem eqText0 (o n : Int) (ps : List Tm) (hv : headOk o n = true) (hl : ps.length = wantN o) (h : ∀ p ∈ ps,∃ b : ByteArray,b.size + 1 ≤ 15 * szT p ∧ callI G 61 [encT false p] [] = some (.s b,[])) (hz : szTs ps ≤ 1000000) :
    ∃ b : ByteArray,b.size + 1 ≤ 15 * szT (.mk o n ps) ∧ callI G 61 [encT false (.mk o n ps)] [] = some (.s b,[]) := by
  have h3 : ps.length ≤ 3 := by rw [hl]; unfold wantN; (repeat' split) <;> omega
  have hs : szT (.mk o n ps) = szTs ps + 1 := by rw [szT]
  rw [hs]
  simp only [encT]
  have hW := eqWords
  have hloop := fun (t : ByteArray) (ht : t.size ≤ 13) => loopTx o n ps h3 h hz ps [] t rfl (by omega)
  simp only [List.length_nil,show ((0 : Nat) : Int) = 0 from rfl] at hloop
  have y1 : (⟨#[40]⟩ : ByteArray).size = 1 := rfl
  have y2 : (⟨#[41]⟩ : ByteArray).size = 1 := rfl
  have y3 : (⟨#[32]⟩ : ByteArray).size = 1 := rfl
  rcases eqHead o n hv with ⟨rfl,rfl⟩ | ⟨rfl,hk⟩ | ⟨rfl,rfl⟩ | ⟨rfl,rfl⟩ | ⟨rfl,hk⟩ | ⟨rfl,hk⟩
  · refine ⟨⟨#[48]⟩,by have : (⟨#[48]⟩ : ByteArray).size = 1 := rfl; omega, ?_⟩
    rw [callI_eq]
    rcases encQ_form false ps with ⟨e,e0⟩ | ⟨F,e,e1,_⟩ <;> rw [e] <;> simp [body1_eq _ _ (gp 61) g61,c61,a61]
  · have y4 : (⟨#[97,99,116]⟩ : ByteArray).size = 3 := rfl
    have z1 : ((⟨#[40]⟩ : ByteArray) ++ (⟨#[97,99,116]⟩ : ByteArray)).size = 4 := by rw [ByteArray.size_append,y1,y4]
    have hk2 : -4 ≤ n ∧ n ≤ 4 := by simpa [actOk] using hk
    obtain ⟨b,hb,hx⟩ := eqText1 n hk2
    generalize hA : (⟨#[40]⟩ : ByteArray) ++ (⟨#[97,99,116]⟩ : ByteArray) = A at z1
    have z2 : (A ++ (⟨#[32]⟩ : ByteArray)).size = 5 := by rw [ByteArray.size_append,z1,y3]
    have z3 : (A ++ (⟨#[32]⟩ : ByteArray) ++ b).size = 5 + b.size := by rw [ByteArray.size_append,z2]
    obtain ⟨t1,ht1,hlp⟩ := hloop (A ++ (⟨#[32]⟩ : ByteArray) ++ b) (by rw [z3]; omega)
    rw [z3] at ht1
    generalize hB : A ++ (⟨#[32]⟩ : ByteArray) = B at z2 hlp
    generalize hC : B ++ b = C at hlp
    have g2 : 5 + b.size ≤ 9223372036854775807 := by omega
    have g1 : t1.size + 1 ≤ 9223372036854775807 := by omega
    refine ⟨t1 ++ ⟨#[41]⟩,by rw [ByteArray.size_append,y2]; omega, ?_⟩
    rw [callI_eq]
    rcases encQ_form false ps with ⟨e,e0⟩ | ⟨F,e,e1,_⟩ <;> rw [e] at hlp ⊢ <;> simp [body1_eq _ _ (gp 61) g61,c61,a61,hW,hA,hB,hC,hx,y1,y2,y3,y4,z1,z2,g1,g2,hlp]
  · have y4 : (⟨#[115,117,109]⟩ : ByteArray).size = 3 := rfl
    have z1 : ((⟨#[40]⟩ : ByteArray) ++ (⟨#[115,117,109]⟩ : ByteArray)).size = 4 := by rw [ByteArray.size_append,y1,y4]
    obtain ⟨t1,ht1,hlp⟩ := hloop ((⟨#[40]⟩ : ByteArray) ++ (⟨#[115,117,109]⟩ : ByteArray)) (by rw [z1]; omega)
    rw [z1] at ht1
    generalize hA : (⟨#[40]⟩ : ByteArray) ++ (⟨#[115,117,109]⟩ : ByteArray) = A at z1 hlp
    have g1 : t1.size + 1 ≤ 9223372036854775807 := by omega
    refine ⟨t1 ++ ⟨#[41]⟩,by rw [ByteArray.size_append,y2]; omega, ?_⟩
    rw [callI_eq]
    rcases encQ_form false ps with ⟨e,e0⟩ | ⟨F,e,e1,_⟩ <;> rw [e] at hlp ⊢ <;> simp [body1_eq _ _ (gp 61) g61,c61,a61,hW,hA,y1,y2,y3,y4,z1,g1,hlp]
  · have y4 : (⟨#[112,97,114]⟩ : ByteArray).size = 3 := rfl
    have z1 : ((⟨#[40]⟩ : ByteArray) ++ (⟨#[112,97,114]⟩ : ByteArray)).size = 4 := by rw [ByteArray.size_append,y1,y4]
    obtain ⟨t1,ht1,hlp⟩ := hloop ((⟨#[40]⟩ : ByteArray) ++ (⟨#[112,97,114]⟩ : ByteArray)) (by rw [z1]; omega)
    rw [z1] at ht1
    generalize hA : (⟨#[40]⟩ : ByteArray) ++ (⟨#[112,97,114]⟩ : ByteArray) = A at z1 hlp
    have g1 : t1.size + 1 ≤ 9223372036854775807 := by omega
    refine ⟨t1 ++ ⟨#[41]⟩,by rw [ByteArray.size_append,y2]; omega, ?_⟩
    rw [callI_eq]
    rcases encQ_form false ps with ⟨e,e0⟩ | ⟨F,e,e1,_⟩ <;> rw [e] at hlp ⊢ <;> simp [body1_eq _ _ (gp 61) g61,c61,a61,hW,hA,y1,y2,y3,y4,z1,g1,hlp]
  · have y4 : (⟨#[104,105,100,101]⟩ : ByteArray).size = 4 := rfl
    have z1 : ((⟨#[40]⟩ : ByteArray) ++ (⟨#[104,105,100,101]⟩ : ByteArray)).size = 5 := by rw [ByteArray.size_append,y1,y4]
    have hwn : IntKind.i64.wrap (n + 1) = n + 1 := wr (by omega)
    obtain ⟨b,hb,hx⟩ := eqText1 (n + 1) (by omega)
    generalize hA : (⟨#[40]⟩ : ByteArray) ++ (⟨#[104,105,100,101]⟩ : ByteArray) = A at z1
    have z2 : (A ++ (⟨#[32]⟩ : ByteArray)).size = 6 := by rw [ByteArray.size_append,z1,y3]
    have z3 : (A ++ (⟨#[32]⟩ : ByteArray) ++ b).size = 6 + b.size := by rw [ByteArray.size_append,z2]
    obtain ⟨t1,ht1,hlp⟩ := hloop (A ++ (⟨#[32]⟩ : ByteArray) ++ b) (by rw [z3]; omega)
    rw [z3] at ht1
    generalize hB : A ++ (⟨#[32]⟩ : ByteArray) = B at z2 hlp
    generalize hC : B ++ b = C at hlp
    have g2 : 6 + b.size ≤ 9223372036854775807 := by omega
    have g1 : t1.size + 1 ≤ 9223372036854775807 := by omega
    refine ⟨t1 ++ ⟨#[41]⟩,by rw [ByteArray.size_append,y2]; omega, ?_⟩
    rw [callI_eq]
    rcases encQ_form false ps with ⟨e,e0⟩ | ⟨F,e,e1,_⟩ <;> rw [e] at hlp ⊢ <;> simp [body1_eq _ _ (gp 61) g61,c61,a61,hW,hA,hB,hC,hx,y1,y2,y3,y4,z1,z2,g1,g2,hlp,hwn]
  · obtain ⟨b,hb,hd⟩ := eqDec n (by omega)
    have y5 : (⟨#[88]⟩ : ByteArray).size = 1 := rfl
    have g1 : 1 + b.size ≤ 9223372036854775807 := by omega
    refine ⟨⟨#[88]⟩ ++ b,by rw [ByteArray.size_append,y5]; omega, ?_⟩
    rw [callI_eq]
    rcases encQ_form false ps with ⟨e,e0⟩ | ⟨F,e,e1,_⟩ <;> rw [e] <;> simp [body1_eq _ _ (gp 61) g61,c61,a61,hd,y5,g1]
theorem eqText : ∀ t : Tm,VaT t → szT t ≤ 1000000 → ∃ b : ByteArray,b.size + 1 ≤ 15 * szT t ∧ callI G 61 [encT false t] [] = some (.s b,[])
  | .mk o n ps,hv,hz => by
    unfold VaT at hv
    have hs : szT (.mk o n ps) = szTs ps + 1 := by rw [szT]
    exact eqText0 o n ps hv.1 hv.2.1 (fun p hp => eqText p (VaTs.mem hv.2.2 p hp) (by have := szTs_mem p hp; omega)) (by omega)
  termination_by t => SizeOf.sizeOf t
  decreasing_by
    have := List.sizeOf_lt_of_mem hp
    simp
    omega
end Go.Am
end
section
set_option maxRecDepth 10000
set_option maxHeartbeats 4000000
set_option linter.unusedSimpArgs false
set_option linter.unusedVariables false
namespace Go.Am
open Go.Proofs Go.Sort Go.Shelf
abbrev Stp := Int × Tm
def parT (a b : Tm) : Tm := .mk 3 0 [a,b]
def hideT (n : Int) (a : Tm) : Tm := .mk 4 n [a]
def name1 (a : Int) : Int := (if a < -a then -a else a) - 1
def parS (t u : Tm) (a b : List Stp) : List Stp :=
  a.map (fun s => (s.1,parT s.2 u)) ++ (b.map (fun s => (s.1,parT t s.2)) ++ a.flatMap fun s => b.flatMap fun r => if s.1 ≠ 0 ∧ s.1 = -r.1 then [(0,parT s.2 r.2)] else [])
def hidT (n : Int) (a : List Stp) : List Stp := a.flatMap fun s => if s.1 = 0 ∨ name1 s.1 ≠ n then [(s.1,hideT n s.2)] else []
def stT (k : Int → List Stp) : Tm → List Stp
  | .mk o n [] => if o = 5 then k n else []
  | .mk o n [a] => if o = 1 then [(n,a)] else if o = 4 then hidT n (stT k a) else []
  | .mk o n [a,b] => if o = 2 then stT k a ++ stT k b else if o = 3 then parS a b (stT k a) (stT k b) else []
  | .mk _ _ (_ :: _ :: _ :: _) => []
end Go.Am
end
