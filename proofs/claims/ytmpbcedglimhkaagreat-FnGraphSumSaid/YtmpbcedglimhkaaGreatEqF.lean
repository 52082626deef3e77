/- What the functions that the law reaches compute. -/
import Derived.Test.YtmpbcedglimhkaaGreatEqE
import Derived.Test.YtmpbcedglimhkaaGreatEqD
section
set_option maxRecDepth 10000
set_option maxHeartbeats 1000000
set_option linter.unusedSimpArgs false
set_option linter.unusedVariables false
namespace Go.Am
open Go.Proofs Go.Sort Go.Shelf
def covL (cl : List Int) (L M : List Mv) : Bool := L.all fun m => hasL cl M m.1 (clAt cl m.2)
theorem loopCov (E : List PV) (g : Gr) (hE : EncR false E g) (cl : List Int) (hcl : cl.length = g.length) (s t : Int) (hs : 0 ≤ s ∧ s < g.length) (ht : 0 ≤ t ∧ t < g.length) (hsm : SmallG g) (hok : OkTo g) (L : List Mv) (hL : g.getD s.toNat [] = L) (hLl : L.length ≤ 1048576) (hto : ∀ m ∈ L,0 ≤ m.2 ∧ m.2 < g.length) : ∀ (rest done : List Mv),L = done ++ rest →
    ∃ r,loopI G [1,2,3,4,9] [4] c100l0 ⟨[(1,.i s),(2,.i t),(3,.sl false 1 (cl.map PV.i)),(4,.ref (0,4) 1 0 0),(9,.i done.length)],[(4,.box [PV.sl false 1 E])],[]⟩ = some r ∧
      ((covL cl rest (g.getD t.toNat []) = false ∧ r = (.ret,⟨[(8,.b false)],[],[]⟩)) ∨ (covL cl rest (g.getD t.toNat []) = true ∧ r = (.exit 0,⟨[(1,.i s),(2,.i t),(3,.sl false 1 (cl.map PV.i)),(4,.ref (0,4) 1 0 0),(9,.i L.length),(18,.b false)],[(4,.box [PV.sl false 1 E])],[]⟩)))
  | [],done,hd => by
    rw [List.append_nil] at hd
    subst hd
    have hEl := hE.1
    have hsn : s.toNat < g.length := by omega
    obtain ⟨nl,hat⟩ := hE.2 s.toNat hsn
    rw [hL] at hat
    have hs1 := hs.1
    have hs2 := hs.2
    refine ⟨_, ?_,.inr ⟨rfl,rfl⟩⟩
    clear hE
    rw [loopI_eq]
    rcases encL_two nl false L with ⟨e,e2⟩ | e
    · rw [e] at hat
      subst e2
      simp [r100l0,b100l0,hEl,hs1,hs2,hat]
    · rw [e] at hat
      simp [r100l0,b100l0,hEl,hs1,hs2,hat]
  | m :: rest,done,hd => by
    have hEl := hE.1
    have hsn : s.toNat < g.length := by omega
    obtain ⟨nl,hat⟩ := hE.2 s.toNat hsn
    rw [hL] at hat
    have hs1 := hs.1
    have hs2 := hs.2
    have hen : encL nl false L = .sl false 2 (L.map mvP) := encL_ne (by rw [hd]; simp)
    rw [hen] at hat
    have hLl2 : L.length = done.length + (rest.length + 1) := by rw [hd]; simp
    have hlt : (done.length : Int) < L.length := by omega
    have hlt2 : done.length < L.length := by omega
    have hw : IntKind.i64.wrap ((done.length : Int) + 1) = (done.length : Int) + 1 := wr (by omega)
    have hat2 : nth (L.map mvP) done.length = some (mvP m) := by rw [hd]; exact mv_at done m rest
    have hm := hto m (by rw [hd]; simp)
    have hm1 := hm.1
    have hm2 := hm.2
    have hc : nth (cl.map PV.i) m.2.toNat = some (.i (clAt cl m.2)) := int_nth cl m.2.toNat (by omega)
    have hcl2 : (cl.map PV.i).length = g.length := by simp [hcl]
    have hh := eqHas E g hE cl hcl t ht hsm hok m.1 (clAt cl m.2)
    obtain ⟨r,hn,hr⟩ := loopCov E g hE cl hcl s t hs ht hsm hok L hL hLl hto rest (done ++ [m]) (by simpa using hd)
    simp only [List.length_append,List.length_cons,List.length_nil,Int.natCast_add,show ((0 + 1 : Nat) : Int) = 1 from rfl] at hn
    have hml : (L.map mvP).length = L.length := by simp
    clear hE
    generalize hM : L.map mvP = M at hat hat2 hml
    generalize hC : cl.map PV.i = C at hc hcl2 hn hr hh ⊢
    simp only [mvP] at hat2
    cases hv : hasL cl (g.getD t.toNat []) m.1 (clAt cl m.2) with
    | false =>
      rw [hv] at hh
      refine ⟨_, ?_,.inl ⟨by simp only [covL,List.all_cons,hv,Bool.false_and],rfl⟩⟩
      rw [loopI_eq]
      simp [r100l0,b100l0,hEl,hs1,hs2,hat,hat2,hml,hlt,hlt2,hm1,hm2,hc,hcl2,unAgg,hh]
    | true =>
      rw [hv] at hh
      refine ⟨r, ?_,by simpa only [covL,List.all_cons,hv,Bool.true_and] using hr⟩
      rw [loopI_eq]
      simp [r100l0,b100l0,hEl,hs1,hs2,hat,hat2,hml,hlt,hlt2,hm1,hm2,hc,hcl2,unAgg,hh,hw]
      exact hn
theorem eqCov (E : List PV) (g : Gr) (hE : EncR false E g) (cl : List Int) (hcl : cl.length = g.length) (s t : Int) (hs : 0 ≤ s ∧ s < g.length) (ht : 0 ≤ t ∧ t < g.length) (hsm : SmallG g) (hok : OkTo g) :
    callI G 100 [.agg [.sl false 1 E],.i s,.i t,.sl false 1 (cl.map PV.i)] [] = some (.b (covL cl (g.getD s.toNat []) (g.getD t.toNat [])),[]) := by
  have hsn : s.toNat < g.length := by omega
  have hLl : (g.getD s.toNat []).length ≤ 1048576 := hsm.2 _ (by rw [List.getD_eq_getElem?_getD,List.getElem?_eq_getElem hsn,Option.getD_some]; exact List.getElem_mem hsn)
  obtain ⟨r,hn,hr⟩ := loopCov E g hE cl hcl s t hs ht hsm hok _ rfl hLl (hok.row _) (g.getD s.toNat []) [] rfl
  simp only [List.length_nil,show ((0 : Nat) : Int) = 0 from rfl] at hn
  rw [callI_eq]
  rcases hr with ⟨h1,rfl⟩ | ⟨h1,rfl⟩
  · rw [h1]
    simp [body1_eq _ _ (gp 100) g100,c100,a100,hn]
  · rw [h1]
    simp [body1_eq _ _ (gp 100) g100,c100,a100,hn]
end Go.Am
end
section
set_option maxRecDepth 10000
set_option maxHeartbeats 1000000
set_option linter.unusedSimpArgs false
set_option linter.unusedVariables false
namespace Go.Am
open Go.Proofs Go.Sort Go.Shelf
def smS (cl : List Int) (g : Gr) (s t : Nat) : Bool := decide (cl.getD t 0 = cl.getD s 0) && (covL cl (g.getD s []) (g.getD t []) && covL cl (g.getD t []) (g.getD s []))
def lst (P : Nat → Bool) : Nat → Nat → Nat
  | 0,b => b
  | t + 1,b => lst P t (if P t = true then t else b)
def nxt (cl : List Int) (g : Gr) (s : Nat) : Nat := lst (smS cl g s) s s
theorem loopNx0 (E : List PV) (g : Gr) (hE : EncR false E g) (cl : List Int) (hcl : cl.length = g.length) (hsm : SmallG g) (hok : OkTo g) (Y : PV) (YL : Objs) (xs : List PV) (hY : OwnS 50 1 Y YL xs) (s : Nat) (hs : s < g.length) : ∀ (t b : Nat),t ≤ s →
    loopI G [1,2,5,6,7,8] [2,9,50] c88l0 ⟨[(1,.sl false 1 (cl.map PV.i)),(2,.ref (0,2) 1 0 0),(5,Y),(6,.i s),(7,.i b),(8,.i ((t : Int) - 1))],(2,.box [PV.sl false 1 E]) :: YL,[]⟩ =
      some (.exit 2,⟨[(1,.sl false 1 (cl.map PV.i)),(2,.ref (0,2) 1 0 0),(5,Y),(6,.i s),(7,.i (lst (smS cl g s) t b)),(8,.i (-1)),(20,.b false)],(2,.box [PV.sl false 1 E]) :: YL,[]⟩)
  | 0,b,ht => by
    rw [loopI_eq]
    rcases hY with ⟨rfl,rfl,rfl⟩ | ⟨hxs,rfl,rfl⟩
    · simp [r88l0,b88l0,lst]
    · simp [r88l0,b88l0,lst]
  | t + 1,b,ht => by
    have hgl := hsm.1
    have htg : t < g.length := by omega
    have hti : (t : Int) < g.length := by omega
    have hsi : (s : Int) < g.length := by omega
    have h8 : ((t + 1 : Nat) : Int) - 1 = t := by omega
    have hw : IntKind.i64.wrap ((t : Int) - 1) = (t : Int) - 1 := wr (by omega)
    have hcl2 : (cl.map PV.i).length = g.length := by simp [hcl]
    have hct := int_nth cl t (by omega)
    have hcs := int_nth cl s (by omega)
    have k1 := eqCov E g hE cl hcl s t (by omega) (by omega) hsm hok
    have k2 := eqCov E g hE cl hcl t s (by omega) (by omega) hsm hok
    simp only [Int.toNat_natCast] at k1 k2
    have hn := loopNx0 E g hE cl hcl hsm hok Y YL xs hY s hs t (if smS cl g s t = true then t else b) (by omega)
    rw [h8]
    have hl : lst (smS cl g s) (t + 1) b = lst (smS cl g s) t (if smS cl g s t = true then t else b) := rfl
    rw [hl]
    clear hE hl
    generalize hC : cl.map PV.i = C at hcl2 hct hcs k1 k2 hn ⊢
    have ht0 : (0 : Int) ≤ t := by omega
    by_cases c1 : cl.getD t 0 = cl.getD s 0
    · cases c2 : covL cl (g.getD s []) (g.getD t []) with
      | false =>
        have hS : smS cl g s t = false := by simp only [smS,c1,c2,decide_true,Bool.false_and,Bool.and_false]
        rw [hS] at hn
        rw [c2] at k1
        rw [← c1] at hcs
        simp only [Bool.false_eq_true,if_false] at hn
        rw [hS]
        generalize lst (smS cl g s) t = LL at hn ⊢
        simp only [Bool.false_eq_true,if_false]
        rw [loopI_eq]
        rcases hY with ⟨rfl,rfl,rfl⟩ | ⟨hxs,rfl,rfl⟩
        · simp [r88l0,b88l0,hcl2,hs,htg,hti,hsi,hct,hcs,k1,hw]
          exact hn
        · simp [r88l0,b88l0,hcl2,hs,htg,hti,hsi,hct,hcs,k1,hw]
          exact hn
      | true =>
        rw [c2] at k1
        rw [← c1] at hcs
        cases c3 : covL cl (g.getD t []) (g.getD s []) with
        | false =>
          have hS : smS cl g s t = false := by simp only [smS,c1,c2,c3,decide_true,Bool.true_and]
          rw [hS] at hn
          rw [c3] at k2
          simp only [Bool.false_eq_true,if_false] at hn
          rw [hS]
          generalize lst (smS cl g s) t = LL at hn ⊢
          simp only [Bool.false_eq_true,if_false]
          rw [loopI_eq]
          rcases hY with ⟨rfl,rfl,rfl⟩ | ⟨hxs,rfl,rfl⟩
          · simp [r88l0,b88l0,hcl2,hs,htg,hti,hsi,hct,hcs,k1,k2,hw]
            exact hn
          · simp [r88l0,b88l0,hcl2,hs,htg,hti,hsi,hct,hcs,k1,k2,hw]
            exact hn
        | true =>
          have hS : smS cl g s t = true := by simp only [smS,c1,c2,c3,decide_true,Bool.true_and]
          rw [hS] at hn
          rw [c3] at k2
          simp only [if_true] at hn
          rw [hS]
          generalize lst (smS cl g s) t = LL at hn ⊢
          simp only [if_true]
          rw [loopI_eq]
          rcases hY with ⟨rfl,rfl,rfl⟩ | ⟨hxs,rfl,rfl⟩
          · simp [r88l0,b88l0,hcl2,hs,htg,hti,hsi,hct,hcs,k1,k2,hw]
            exact hn
          · simp [r88l0,b88l0,hcl2,hs,htg,hti,hsi,hct,hcs,k1,k2,hw]
            exact hn
    · have hS : smS cl g s t = false := by simp only [smS,c1,decide_false,Bool.false_and]
      rw [hS] at hn
      simp only [Bool.false_eq_true,if_false] at hn
      rw [hS]
      generalize lst (smS cl g s) t = LL at hn ⊢
      generalize cl.getD t 0 = ct at hct c1
      generalize cl.getD s 0 = cs at hcs c1
      simp only [Bool.false_eq_true,if_false]
      rw [loopI_eq]
      rcases hY with ⟨rfl,rfl,rfl⟩ | ⟨hxs,rfl,rfl⟩
      · simp [r88l0,b88l0,hcl2,hs,htg,hti,hsi,hct,hcs,c1,hw]
        exact hn
      · simp [r88l0,b88l0,hcl2,hs,htg,hti,hsi,hct,hcs,c1,hw]
        exact hn
def owIP (d : Nat) (l : List Int) : PV := if l = [] then .nils else .own (0,d) l.length
def owIL (d : Nat) (l : List Int) : Objs := if l = [] then [] else [(d,.row 1 (l.map PV.i))]
theorem owI_S (d : Nat) (l : List Int) : OwnS d 1 (owIP d l) (owIL d l) (l.map PV.i) := by
  unfold owIP owIL
  by_cases h : l = []
  · exact .inl ⟨by simp [h],by simp [h],by simp [h]⟩
  · exact .inr ⟨by simp [h],by simp [h],by simp [h]⟩
def nextC (cl : List Int) (g : Gr) : List Int := (List.range g.length).map fun s => (nxt cl g s : Int)
theorem nextC_len (cl : List Int) (g : Gr) : (nextC cl g).length = g.length := by simp [nextC]
theorem loopNx1 (E : List PV) (g : Gr) (hE : EncR false E g) (cl : List Int) (hcl : cl.length = g.length) (hsm : SmallG g) (hok : OkTo g) : ∀ (n s : Nat),s + n = g.length → ∀ O : List Int,O = (List.range s).map (fun s => (nxt cl g s : Int)) →
    loopI G [1,2,5,6] [2,9,50] c88l1 ⟨[(1,.sl false 1 (cl.map PV.i)),(2,.ref (0,2) 1 0 0),(5,owIP 50 O),(6,.i s)],(2,.box [PV.sl false 1 E]) :: owIL 50 O,[]⟩ =
      some (.exit 0,⟨[(1,.sl false 1 (cl.map PV.i)),(2,.ref (0,2) 1 0 0),(5,owIP 50 (nextC cl g)),(6,.i g.length),(13,.b false)],(2,.box [PV.sl false 1 E]) :: owIL 50 (nextC cl g),[]⟩)
  | 0,s,hs,O,hO => by
    have he : s = g.length := by omega
    subst he
    have hOn : O = nextC cl g := hO
    rw [← hOn]
    have hcl2 : (cl.map PV.i).length = g.length := by simp [hcl]
    generalize hC : cl.map PV.i = C at hcl2 ⊢
    rw [loopI_eq]
    by_cases hd : O = []
    · subst hd
      simp [r88l1,b88l1,owIP,owIL,hcl2]
    · simp [r88l1,b88l1,owIP,owIL,hd,hcl2]
  | n + 1,s,hs,O,hO => by
    have hgl := hsm.1
    have hOl : O.length = s := by rw [hO]; simp
    have hsg : s < g.length := by omega
    have hsi : (s : Int) < g.length := by omega
    have hw : IntKind.i64.wrap ((s : Int) + 1) = (s : Int) + 1 := wr (by omega)
    have hw1 : IntKind.i64.wrap ((s : Int) - 1) = (s : Int) - 1 := wr (by omega)
    have hcl2 : (cl.map PV.i).length = g.length := by simp [hcl]
    have h0 := loopNx0 E g hE cl hcl hsm hok _ _ _ (owI_S 50 O) s hsg s s (Nat.le_refl _)
    have hnx : lst (smS cl g s) s s = nxt cl g s := rfl
    rw [hnx] at h0
    have hn := loopNx1 E g hE cl hcl hsm hok n (s + 1) (by omega) (O ++ [(nxt cl g s : Int)]) (by rw [hO,List.range_succ]; simp)
    have hne : O ++ [(nxt cl g s : Int)] ≠ [] := by simp
    have hol : O.length ≤ 4294967295 := by omega
    simp only [owIP,owIL,hne,if_false,List.length_append,List.length_cons,List.length_nil,Nat.zero_add,Int.natCast_add,show ((1 : Nat) : Int) = 1 from rfl] at hn
    clear hE
    generalize hC : cl.map PV.i = C at hcl2 h0 hn ⊢
    generalize nxt cl g s = v at h0 hn
    rw [loopI_eq]
    by_cases hd : O = []
    · subst hd
      simp [owIP,owIL] at h0 hn
      simp [r88l1,b88l1,owIP,owIL,hcl2,hsi,hsg,hw,hw1,h0]
      exact hn
    · simp only [owIP,owIL,hd,if_false] at h0
      simp at hn
      simp [r88l1,b88l1,owIP,owIL,hd,hcl2,hsi,hsg,hw,hw1,h0,hol]
      exact hn
theorem eqNext (E : List PV) (g : Gr) (hE : EncR false E g) (cl : List Int) (hcl : cl.length = g.length) (hsm : SmallG g) (hok : OkTo g) (hg : 1 ≤ g.length) :
    callI G 88 [.agg [.sl false 1 E],.sl false 1 (cl.map PV.i)] [] = some (.sl true 1 ((nextC cl g).map PV.i),[]) := by
  have l1 := loopNx1 E g hE cl hcl hsm hok g.length 0 (by omega) [] rfl
  have hne : nextC cl g ≠ [] := by
    intro e
    have := congrArg List.length e
    rw [nextC_len] at this
    simp at this
    rw [this] at hg; simp at hg
  simp only [owIP,owIL,hne,if_false,if_true,show ((0 : Nat) : Int) = 0 from rfl] at l1
  rw [callI_eq]
  simp [body1_eq _ _ (gp 88) g88,c88,a88,l1]
end Go.Am
end
section
set_option maxRecDepth 10000
set_option maxHeartbeats 1000000
set_option linter.unusedSimpArgs false
set_option linter.unusedVariables false
namespace Go.Am
open Go.Proofs Go.Sort Go.Shelf
theorem ii_at (a : List Int) (x : Int) (b : List Int) : nth ((a ++ x :: b).map PV.i) a.length = some (.i x) := by
  unfold nth; simp
theorem loopSame (p q : List Int) : ∀ (a b : List Int),a.length = b.length → p.length = q.length → (p ++ a).length ≤ 4611686018427387904 →
    ∃ r,loopI G [0,1,5] [] c89l0 ⟨[(0,.sl false 1 ((p ++ a).map PV.i)),(1,.sl false 1 ((q ++ b).map PV.i)),(5,.i p.length)],[],[]⟩ = some r ∧
      ((a ≠ b ∧ r = (.ret,⟨[(4,.b false)],[],[]⟩)) ∨ (a = b ∧ r = (.exit 0,⟨[(0,.sl false 1 ((p ++ a).map PV.i)),(1,.sl false 1 ((q ++ b).map PV.i)),(5,.i (p ++ a).length),(14,.b false)],[],[]⟩))) := by
  intro a
  induction a generalizing p q with
  | nil =>
    intro b hab hpq hl
    have hb : b = [] := List.length_eq_zero_iff.1 hab.symm
    subst hb
    refine ⟨_, ?_,.inr ⟨rfl,rfl⟩⟩
    rw [loopI_eq]
    simp [r89l0,b89l0]
  | cons x a ih =>
    intro b hab hpq hl
    cases b with
    | nil => cases hab
    | cons y b =>
      have hab' : a.length = b.length := by simpa using hab
      have hA := ii_at p x a
      have hB := ii_at q y b
      rw [← hpq] at hB
      have hll : (p ++ x :: a).length = p.length + (a.length + 1) := by simp
      have hlq : (q ++ y :: b).length = p.length + (a.length + 1) := by simp; omega
      have hlA : ((p ++ x :: a).map PV.i).length = p.length + (a.length + 1) := by simp
      have hlB : ((q ++ y :: b).map PV.i).length = p.length + (a.length + 1) := by simp; omega
      have hlt : (p.length : Int) < (p.length : Int) + ((a.length : Int) + 1) := by omega
      have hlt2 : p.length < p.length + (a.length + 1) := by omega
      have hw : IntKind.i64.wrap ((p.length : Int) + 1) = (p.length : Int) + 1 := wr (by omega)
      obtain ⟨r,hn,hr⟩ := ih (p ++ [x]) (q ++ [y]) b hab' (by simp [hpq]) (by simpa using hl)
      have e1 : p ++ [x] ++ a = p ++ x :: a := by simp
      have e2 : q ++ [y] ++ b = q ++ y :: b := by simp
      rw [e1,e2] at hn hr
      simp only [List.length_append,List.length_cons,List.length_nil,Int.natCast_add,show ((0 + 1 : Nat) : Int) = 1 from rfl] at hn
      generalize hX : (p ++ x :: a).map PV.i = X at hA hlA hn hr ⊢
      generalize hZ : (q ++ y :: b).map PV.i = Z at hB hlB hn hr ⊢
      by_cases c : x = y
      · subst c
        refine ⟨r, ?_,by simpa using hr⟩
        rw [loopI_eq]
        simp [r89l0,b89l0,hlA,hlB,hlt,hlt2,hA,hB,hw]
        exact hn
      · refine ⟨_, ?_,.inl ⟨by simp [c],rfl⟩⟩
        rw [loopI_eq]
        simp [r89l0,b89l0,hlA,hlB,hlt,hlt2,hA,hB,c]
theorem eqSame (a b : List Int) (h : a.length ≤ 4611686018427387904) : callI G 89 [.sl false 1 (a.map PV.i),.sl false 1 (b.map PV.i)] [] = some (.b (decide (a = b)),[]) := by
  rw [callI_eq]
  by_cases hl : a.length = b.length
  · obtain ⟨r,hn,hr⟩ := loopSame [] [] a b hl rfl (by simpa using h)
    simp only [List.nil_append,List.length_nil,show ((0 : Nat) : Int) = 0 from rfl] at hn hr
    have hli : (a.length : Int) = b.length := by omega
    rcases hr with ⟨h1,rfl⟩ | ⟨h1,rfl⟩
    · simp [body1_eq _ _ (gp 89) g89,c89,a89,hli,hn,h1]
    · subst h1
      simp [body1_eq _ _ (gp 89) g89,c89,a89,hn]
  · have hne : a ≠ b := fun e => hl (by rw [e])
    have hli : ¬ (a.length : Int) = b.length := by omega
    simp [body1_eq _ _ (gp 89) g89,c89,a89,hli,hne]
end Go.Am
end
section
set_option maxRecDepth 10000
set_option maxHeartbeats 1000000
set_option linter.unusedSimpArgs false
set_option linter.unusedVariables false
namespace Go.Am
open Go.Proofs Go.Sort Go.Shelf
def encI (l : List Int) : PV := .sl false 1 (l.map PV.i)
theorem fals_i : ∀ l : List Int,fals (l.map PV.i) = l.map PV.i
  | [] => rfl
  | x :: l => by simp only [List.map_cons,fals,fals_i l]; rfl
def Stops (g : Gr) : Nat → List Int → Prop
  | 0,_ => False
  | f + 1,last => nextC last g = last ∨ Stops g f (nextC last g)
def rnds (g : Gr) : Nat → List (List Int) → List Int → List (List Int)
  | 0,R,last => R ++ [last]
  | f + 1,R,last => if nextC last g = last then R ++ [last] else rnds g f (R ++ [last]) (nextC last g)
theorem loopRn (E : List PV) (g : Gr) (hE : EncR false E g) (hsm : SmallG g) (hok : OkTo g) (hg : 1 ≤ g.length) : ∀ (f : Nat) (R : List (List Int)) (last : List Int),Stops g f last → last.length = g.length → R.length + f ≤ 1000000 →
    loopI G [1,3] [1,9,30] c64l0 ⟨[(1,.ref (0,1) 1 0 0),(3,.own (0,9) (R.length + 1))],[(1,.box [.sl false 1 E]),(9,.row 1 ((R ++ [last]).map encI))],[]⟩ =
      some (.ret,⟨[(2,.own (0,9) (rnds g f R last).length)],[(9,.row 1 ((rnds g f R last).map encI))],[]⟩)
  | 0,R,last,hst,hl,hR => hst.elim
  | f + 1,R,last,hst,hl,hR => by
    have hgl := hsm.1
    have k1 := eqNext E g hE last hl hsm hok hg
    have k2 := eqSame (nextC last g) last (by rw [nextC_len]; omega)
    have hw : IntKind.i64.wrap ((R.length : Int) + 1 - 1) = R.length := by rw [wr (by omega)]; omega
    have hw3 : IntKind.i64.wrap (R.length : Int) = R.length := wr (by omega)
    have hlt : (R.length : Int) < (R.length : Int) + 1 := by omega
    have hat : nth ((R ++ [last]).map encI) R.length = some (.sl false 1 (last.map PV.i)) := by
      rw [List.map_append]; exact at_D _ _ _ _ (by simp)
    have hml : ((R ++ [last]).map encI).length = R.length + 1 := by simp
    have hRb : R.length + 1 ≤ 4294967295 := by omega
    by_cases he : nextC last g = last
    · have hr : rnds g (f + 1) R last = R ++ [last] := by simp [rnds,he]
      have hrl : (R ++ [last]).length = R.length + 1 := by simp
      rw [hr,hrl]
      rw [he] at k1 k2
      simp only [decide_true] at k2
      generalize hM : (R ++ [last]).map encI = M at hat hml ⊢
      rw [loopI_eq]
      simp [r64l0,b64l0,hw,hw3,hlt,hat,hml,k1,k2,fals_i]
    · have hr : rnds g (f + 1) R last = rnds g f (R ++ [last]) (nextC last g) := by simp [rnds,he]
      rw [hr]
      have hst2 : Stops g f (nextC last g) := hst.resolve_left he
      have hn := loopRn E g hE hsm hok hg f (R ++ [last]) (nextC last g) hst2 (nextC_len _ _) (by simp; omega)
      have e1 : (R ++ [last] ++ [nextC last g]).map encI = (R ++ [last]).map encI ++ [.sl false 1 ((nextC last g).map PV.i)] := by simp [encI]
      rw [e1] at hn
      simp only [List.length_append,List.length_cons,List.length_nil,Nat.zero_add] at hn
      simp only [he,decide_false] at k2
      generalize hM : (R ++ [last]).map encI = M at hat hml hn ⊢
      generalize nextC last g = N at k1 k2 hn
      rw [loopI_eq]
      simp [r64l0,b64l0,hw,hw3,hlt,hat,hml,k1,k2,hRb,fals_i]
      exact ⟨by omega,hn⟩
end Go.Am
end
section
set_option linter.unusedSimpArgs false
set_option linter.unusedVariables false
namespace Go.Am
theorem lst_spec (P : Nat → Bool) : ∀ (t b : Nat),(∃ u,u < t ∧ P u = true ∧ lst P t b = u ∧ ∀ v,v < u → P v = false) ∨ ((∀ u,u < t → P u = false) ∧ lst P t b = b)
  | 0,b => .inr ⟨fun u hu => absurd hu (Nat.not_lt_zero u),rfl⟩
  | t + 1,b => by
    simp only [lst]
    rcases lst_spec P t (if P t = true then t else b) with ⟨u,h1,h2,h3,h4⟩ | ⟨h1,h2⟩
    · exact .inl ⟨u,by omega,h2,h3,h4⟩
    · rw [h2]
      cases hv : P t with
      | true => exact .inl ⟨t,by omega,hv,by simp,h1⟩
      | false =>
        refine .inr ⟨fun u hu => ?_,by simp⟩
        by_cases e : u = t
        · rw [e]; exact hv
        · exact h1 u (by omega)
end Go.Am
end
section
set_option linter.unusedSimpArgs false
set_option linter.unusedVariables false
namespace Go.Am
theorem hasL_iff {cl : List Int} {l : List Mv} {act to : Int} : hasL cl l act to = true ↔ ∃ m ∈ l,m.1 = act ∧ clAt cl m.2 = to := by
  simp [hasL,hasM,List.any_eq_true]
theorem covL_iff {cl : List Int} {L M : List Mv} : covL cl L M = true ↔ ∀ m ∈ L,∃ k ∈ M,k.1 = m.1 ∧ clAt cl k.2 = clAt cl m.2 := by
  simp only [covL,List.all_eq_true,hasL_iff]
def alk (cl : List Int) (g : Gr) (s t : Nat) : Prop := cl.getD t 0 = cl.getD s 0 ∧ ∀ a c,(∃ m ∈ g.getD s [],m.1 = a ∧ clAt cl m.2 = c) ↔ (∃ m ∈ g.getD t [],m.1 = a ∧ clAt cl m.2 = c)
theorem smS_iff {cl : List Int} {g : Gr} {s t : Nat} : smS cl g s t = true ↔ alk cl g s t := by
  simp only [smS,Bool.and_eq_true,decide_eq_true_eq,covL_iff,alk]
  refine and_congr Iff.rfl ⟨fun h a c => ⟨?_, ?_⟩,fun h => ⟨fun m hm => ?_,fun m hm => ?_⟩⟩
  · rintro ⟨m,hm,rfl,rfl⟩
    obtain ⟨k,h1,h2,h3⟩ := h.1 m hm
    exact ⟨k,h1,h2,h3⟩
  · rintro ⟨m,hm,rfl,rfl⟩
    obtain ⟨k,h1,h2,h3⟩ := h.2 m hm
    exact ⟨k,h1,h2,h3⟩
  · exact (h m.1 (clAt cl m.2)).1 ⟨m,hm,rfl,rfl⟩
  · exact (h m.1 (clAt cl m.2)).2 ⟨m,hm,rfl,rfl⟩
theorem alk_refl (cl : List Int) (g : Gr) (s : Nat) : alk cl g s s := ⟨rfl,fun _ _ => Iff.rfl⟩
theorem alk_symm {cl : List Int} {g : Gr} {s t : Nat} (h : alk cl g s t) : alk cl g t s := ⟨h.1.symm,fun a c => (h.2 a c).symm⟩
theorem alk_trans {cl : List Int} {g : Gr} {s t u : Nat} (h : alk cl g s t) (h2 : alk cl g t u) : alk cl g s u := ⟨h2.1.trans h.1,fun a c => (h.2 a c).trans (h2.2 a c)⟩
theorem nxt_spec (cl : List Int) (g : Gr) (s : Nat) : nxt cl g s ≤ s ∧ alk cl g s (nxt cl g s) ∧ ∀ t,t < nxt cl g s → ¬ alk cl g s t := by
  unfold nxt
  rcases lst_spec (smS cl g s) s s with ⟨u,h1,h2,h3,h4⟩ | ⟨h1,h2⟩
  · rw [h3]
    exact ⟨by omega,smS_iff.1 h2,fun t ht h => by have := h4 t ht; rw [smS_iff.2 h] at this; cases this⟩
  · rw [h2]
    exact ⟨Nat.le_refl _,alk_refl _ _ _,fun t ht h => by have := h1 t ht; rw [smS_iff.2 h] at this; cases this⟩
theorem nxt_eq {cl : List Int} {g : Gr} {s t : Nat} : nxt cl g s = nxt cl g t ↔ alk cl g s t := by
  obtain ⟨a1,a2,a3⟩ := nxt_spec cl g s
  obtain ⟨b1,b2,b3⟩ := nxt_spec cl g t
  constructor
  · intro h
    rw [← h] at b2
    exact alk_trans a2 (alk_symm b2)
  · intro h
    rcases Nat.lt_trichotomy (nxt cl g s) (nxt cl g t) with h1 | h1 | h1
    · exact (b3 _ h1 (alk_trans (alk_symm h) a2)).elim
    · exact h1
    · exact (a3 _ h1 (alk_trans h b2)).elim
theorem nxt_nxt (cl : List Int) (g : Gr) (s : Nat) : nxt cl g (nxt cl g s) = nxt cl g s :=
  nxt_eq.2 (alk_symm (nxt_spec cl g s).2.1)
def NrmC (cl : List Int) : Prop := ∀ s,s < cl.length → ∃ u : Nat,cl.getD s 0 = u ∧ u ≤ s ∧ cl.getD u 0 = u
theorem nextC_at {cl : List Int} {g : Gr} {s : Nat} (hs : s < g.length) : (nextC cl g).getD s 0 = nxt cl g s := by
  rw [List.getD_eq_getElem?_getD,nextC,List.getElem?_map,List.getElem?_range hs]; rfl
theorem nextC_nrm (cl : List Int) (g : Gr) : NrmC (nextC cl g) := by
  intro s hs
  rw [nextC_len] at hs
  have h := nxt_spec cl g s
  refine ⟨nxt cl g s,nextC_at hs,h.1, ?_⟩
  rw [nextC_at (by omega),nxt_nxt]
def rts (cl : List Int) : Nat := (List.range cl.length).countP fun s => decide (cl.getD s 0 = (s : Int))
theorem countP_le (p q : Nat → Bool) : ∀ l : List Nat,(∀ x ∈ l,p x = true → q x = true) → l.countP p ≤ l.countP q ∧ (l.countP p = l.countP q → ∀ x ∈ l,q x = true → p x = true)
  | [],_ => ⟨Nat.le_refl _,fun _ x hx => by cases hx⟩
  | y :: l,h => by
    obtain ⟨h1,h2⟩ := countP_le p q l fun x hx => h x (List.mem_cons_of_mem _ hx)
    have hy := h y List.mem_cons_self
    simp only [List.countP_cons]
    cases ep : p y with
    | true =>
      have eq := hy ep
      simp only [eq,if_true]
      refine ⟨by omega,fun e x hx hq => ?_⟩
      rcases List.mem_cons.1 hx with rfl | hx
      · exact ep
      · exact h2 (by omega) x hx hq
    | false =>
      cases eq : q y with
      | true =>
        simp only [if_true,Bool.false_eq_true,if_false]
        exact ⟨by omega,fun e => by omega⟩
      | false =>
        simp only [Bool.false_eq_true,if_false]
        refine ⟨by omega,fun e x hx hq => ?_⟩
        rcases List.mem_cons.1 hx with rfl | hx
        · rw [eq] at hq; cases hq
        · exact h2 (by omega) x hx hq
theorem nxt_root {cl : List Int} {g : Gr} (hn : NrmC cl) (hl : cl.length = g.length) {s : Nat} (hs : s < g.length) (h : cl.getD s 0 = s) : nxt cl g s = s := by
  obtain ⟨a1,a2,_⟩ := nxt_spec cl g s
  obtain ⟨u,b1,b2,_⟩ := hn (nxt cl g s) (by omega)
  have := a2.1
  rw [b1,h] at this
  omega
theorem rts_grow {cl : List Int} {g : Gr} (hn : NrmC cl) (hl : cl.length = g.length) : rts cl ≤ rts (nextC cl g) ∧ (rts cl = rts (nextC cl g) → nextC cl g = cl) := by
  have hlen := nextC_len cl g
  have key := countP_le (fun s => decide (cl.getD s 0 = (s : Int))) (fun s => decide ((nextC cl g).getD s 0 = (s : Int))) (List.range g.length) (by
    intro s hs h
    have hs := List.mem_range.1 hs
    have h := of_decide_eq_true h
    rw [nextC_at hs,nxt_root hn hl hs h]; simp)
  unfold rts
  rw [hlen,hl]
  refine ⟨key.1,fun e => ?_⟩
  have k2 := key.2 e
  apply List.ext_getElem (by rw [hlen,hl])
  intro s h1 h2
  have hs : s < g.length := by omega
  have hsp := nxt_spec cl g s
  have e1 : (nextC cl g)[s] = nxt cl g s := by
    have := nextC_at (cl := cl) hs
    rwa [List.getD_eq_getElem?_getD,List.getElem?_eq_getElem h1,Option.getD_some] at this
  have e2 : cl[s] = cl.getD s 0 := by rw [List.getD_eq_getElem?_getD,List.getElem?_eq_getElem h2,Option.getD_some]
  have k3 := k2 (nxt cl g s) (List.mem_range.2 (by omega)) (by rw [nextC_at (by omega),nxt_nxt]; simp)
  have k3 := of_decide_eq_true k3
  rw [e1,e2,← hsp.2.1.1,k3]
theorem rts_le (cl : List Int) : rts cl ≤ cl.length := by
  unfold rts
  exact Nat.le_trans List.countP_le_length (by simp)
theorem stops (g : Gr) : ∀ (f : Nat) (cl : List Int),NrmC cl → cl.length = g.length → g.length < f + rts cl → Stops g f cl
  | 0,cl,hn,hl,hf => by have := rts_le cl; omega
  | f + 1,cl,hn,hl,hf => by
    by_cases h : nextC cl g = cl
    · exact .inl h
    · have hg := rts_grow hn hl
      have hne : rts cl ≠ rts (nextC cl g) := fun e => h (hg.2 e)
      exact .inr (stops g f _ (nextC_nrm _ _) (nextC_len _ _) (by omega))
def zer (n : Nat) : List Int := List.replicate n 0
theorem zer_at (n s : Nat) : (zer n).getD s 0 = 0 := by
  unfold zer
  rw [List.getD_eq_getElem?_getD,List.getElem?_replicate]
  by_cases h : s < n <;> simp [h]
theorem zer_nrm (n : Nat) : NrmC (zer n) := fun s _ => ⟨0,by rw [zer_at]; rfl,Nat.zero_le _,by rw [zer_at]; rfl⟩
theorem zer_len (n : Nat) : (zer n).length = n := by simp [zer]
theorem stops0 (g : Gr) : Stops g (g.length + 1) (zer g.length) := stops g _ _ (zer_nrm _) (zer_len _) (by omega)
def itC (g : Gr) : Nat → List Int → List Int
  | 0,cl => cl
  | f + 1,cl => itC g f (nextC cl g)
theorem itC_fix (g : Gr) {cl : List Int} (h : nextC cl g = cl) : ∀ f,itC g f cl = cl
  | 0 => rfl
  | f + 1 => by show itC g f (nextC cl g) = cl; rw [h]; exact itC_fix g h f
theorem rnds_last (g : Gr) : ∀ (f : Nat) (R : List (List Int)) (cl : List Int),∃ R',rnds g f R cl = R' ++ [itC g f cl] ∧ R'.length ≤ R.length + f
  | 0,R,cl => ⟨R,rfl,by omega⟩
  | f + 1,R,cl => by
    by_cases h : nextC cl g = cl
    · exact ⟨R,by rw [itC_fix g h]; simp [rnds,h],by omega⟩
    · obtain ⟨R',h1,h2⟩ := rnds_last g f (R ++ [cl]) (nextC cl g)
      exact ⟨R',by rw [rnds,if_neg h,h1]; rfl,by simp at h2; omega⟩
theorem itC_len (g : Gr) : ∀ (f : Nat) (cl : List Int),cl.length = g.length → (itC g f cl).length = g.length
  | 0,_,h => h
  | f + 1,cl,_ => itC_len g f _ (nextC_len _ _)
def clsG (g : Gr) : List Int := itC g (g.length + 1) (zer g.length)
theorem clsG_len (g : Gr) : (clsG g).length = g.length := itC_len g _ _ (zer_len _)
end Go.Am
end
section
set_option maxRecDepth 10000
set_option maxHeartbeats 1000000
set_option linter.unusedSimpArgs false
set_option linter.unusedVariables false
namespace Go.Am
open Go.Proofs Go.Sort Go.Shelf
def mrL (cl : List Int) (L : List Mv) : List Mv := L.map fun m => (m.1,clAt cl m.2)
def markOf (cl : List Int) (L : List Mv) : List Mv := tidyL (mrL cl L)
theorem mark_eq {cl : List Int} {L M : List Mv} : markOf cl L = markOf cl M ↔ ∀ a c,(∃ m ∈ L,m.1 = a ∧ clAt cl m.2 = c) ↔ (∃ m ∈ M,m.1 = a ∧ clAt cl m.2 = c) := by
  have hm : ∀ (L : List Mv) (a c : Int),(a,c) ∈ mrL cl L ↔ ∃ m ∈ L,m.1 = a ∧ clAt cl m.2 = c := by
    intro L a c
    simp only [mrL,List.mem_map,Prod.mk.injEq]
  constructor
  · intro h a c
    rw [← hm,← hm,← (tidyL_sd (mrL cl L)).2,← (tidyL_sd (mrL cl M)).2]
    unfold markOf at h
    rw [h]
  · intro h
    refine Sd_uniq _ _ (tidyL_sd _).1 (tidyL_sd _).1 fun y => ?_
    show y ∈ tidyL (mrL cl L) ↔ y ∈ tidyL (mrL cl M)
    rw [(tidyL_sd (mrL cl L)).2,(tidyL_sd (mrL cl M)).2]
    obtain ⟨a,c⟩ := y
    rw [hm,hm]
    exact h a c
theorem alk_mark {cl : List Int} {g : Gr} {s t : Nat} : alk cl g s t ↔ cl.getD t 0 = cl.getD s 0 ∧ markOf cl (g.getD s []) = markOf cl (g.getD t []) := by
  rw [alk,mark_eq]
def owKP (n d : Nat) (l : List Mv) : PV := if l = [] then .nils else .own (n,d) l.length
theorem loopMk (E : List PV) (g : Gr) (hE : EncR false E g) (cl : List Int) (hcl : cl.length = g.length) (L1 : Objs) (L : List Mv) (nl : Bool) (hLl : L.length ≤ 1048576) (hto : ∀ m ∈ L,0 ≤ m.2 ∧ m.2 < g.length) : ∀ (rest done : List Mv),L = done ++ rest →
    loopI G [0,6,14,15,16] [9,30] c81l0 ⟨[(0,.sl false 1 (cl.map PV.i)),(6,owKP 4 30 (mrL cl done)),(14,encL nl false L),(15,.i L.length),(16,.i done.length)],owL 30 (mrL cl done),[[(1,.box [.sl false 1 E])],L1,[],[]]⟩ =
      some (.exit 0,⟨[(0,.sl false 1 (cl.map PV.i)),(6,owKP 4 30 (mrL cl L)),(14,encL nl false L),(15,.i L.length),(16,.i L.length),(17,.b false)],owL 30 (mrL cl L),[[(1,.box [.sl false 1 E])],L1,[],[]]⟩)
  | [],done,hd => by
    rw [List.append_nil] at hd
    subst hd
    have hk : ∀ f n,known f n (encL nl false L) = true := fun f n => by simp
    generalize encL nl false L = X at hk ⊢
    rw [loopI_eq]
    rcases L with _ | ⟨y,L⟩
    · simp [r81l0,b81l0,mrL,owKP,owL,hk]
    · simp [r81l0,b81l0,mrL,owKP,owL,hk]
  | m :: rest,done,hd => by
    have hen : encL nl false L = .sl false 2 (L.map mvP) := encL_ne (by rw [hd]; simp)
    have hLl2 : L.length = done.length + (rest.length + 1) := by rw [hd]; simp
    have hlt : (done.length : Int) < L.length := by omega
    have hlt2 : done.length < L.length := by omega
    have hw : IntKind.i64.wrap ((done.length : Int) + 1) = (done.length : Int) + 1 := wr (by omega)
    have hat2 : nth (L.map mvP) done.length = some (mvP m) := by rw [hd]; exact mv_at done m rest
    have hm := hto m (by rw [hd]; simp)
    have hm1 := hm.1
    have hm2 := hm.2
    have hc : nth (cl.map PV.i) m.2.toNat = some (.i (clAt cl m.2)) := int_nth cl m.2.toNat (by omega)
    have hcl2 : (cl.map PV.i).length = g.length := by simp [hcl]
    have hn := loopMk E g hE cl hcl L1 L nl hLl hto rest (done ++ [m]) (by simpa using hd)
    have hmk : mrL cl (done ++ [m]) = mrL cl done ++ [(m.1,clAt cl m.2)] := by simp [mrL]
    have hne : mrL cl done ++ [(m.1,clAt cl m.2)] ≠ [] := by simp
    have hdl : (mrL cl done).length = done.length := by simp [mrL]
    have hdb : done.length ≤ 4294967295 := by omega
    rw [hmk,hen] at hn
    rw [hen]
    simp only [owKP,owL,hne,if_false,List.length_append,List.length_cons,List.length_nil,Int.natCast_add,show ((0 + 1 : Nat) : Int) = 1 from rfl,List.map_append,List.map_cons,List.map_nil,hdl] at hn
    have hml : (L.map mvP).length = L.length := by simp
    have hdm : ((mrL cl done).map mvP).length = done.length := by simp [mrL]
    generalize hM : L.map mvP = M at hat2 hml hn ⊢
    generalize hC : cl.map PV.i = C at hc hcl2 hn ⊢
    simp only [mvP] at hat2 hn
    rw [loopI_eq]
    by_cases hd0 : done = []
    · subst hd0
      simp [mrL] at hn
      simp only [List.length_nil,show ((0 : Nat) : Int) = 0 from rfl] at hat2 hlt hlt2
      simp [r81l0,b81l0,owKP,owL,mrL,hlt,hlt2,hat2,hml,hm1,hm2,hc,hcl2,unAgg,wr1]
      exact hn
    · have hmn : ¬ mrL cl done = [] := by simp [mrL,hd0]
      simp only [owKP,owL,hmn,if_false,hdl]
      generalize hD : (mrL cl done).map mvP = D at hdm hn ⊢
      simp [r81l0,b81l0,hlt,hlt2,hat2,hml,hm1,hm2,hc,hcl2,unAgg,hw,hdm,hdb]
      exact hn
theorem eqMark (E : List PV) (g : Gr) (hE : EncR false E g) (cl : List Int) (hcl : cl.length = g.length) (hsm : SmallG g) (hok : OkTo g) (s : Nat) (hs : s < g.length) (L1 : Objs) :
    callI G 81 [.sl false 1 (cl.map PV.i),.i s,.ref (0,1) 1 0 0] [[(1,.box [.sl false 1 E])],L1,[],[]] = some (encL true true (markOf cl (g.getD s [])),[[(1,.box [.sl false 1 E])],L1,[],[]]) := by
  have hEl := hE.1
  obtain ⟨nl,hat⟩ := hE.2 s hs
  have hsi : (s : Int) < g.length := by omega
  have hLl : (g.getD s []).length ≤ 1048576 := hsm.2 _ (by rw [List.getD_eq_getElem?_getD,List.getElem?_eq_getElem hs,Option.getD_some]; exact List.getElem_mem hs)
  have hl := loopMk E g hE cl hcl L1 (g.getD s []) nl hLl (hok.row s) (g.getD s []) [] rfl
  simp only [List.length_nil,show ((0 : Nat) : Int) = 0 from rfl,show mrL cl [] = [] from rfl,show owKP 4 30 [] = .nils from rfl,owL_n] at hl
  generalize g.getD s [] = L at hat hLl hl ⊢
  have hml : (mrL cl L).length = L.length := by simp [mrL]
  rw [callI_eq]
  by_cases hL : L = []
  · subst hL
    have ht := eqTidyN []
    have hmo : markOf cl [] = [] := by simp [markOf,mrL,tidyL,srtM,dd]
    rw [hmo]
    simp only [show mrL cl [] = [] from rfl,show owKP 4 30 [] = .nils from rfl,owL_n] at hl
    rcases encL_two nl false [] with ⟨e,e2⟩ | e
    · rw [e] at hat hl
      simp at hl
      simp [body1_eq _ _ (gp 81) g81,c81,a81,hEl,hs,hsi,hat,hl,ht]
    · rw [e] at hat hl
      simp at hat hl
      simp [body1_eq _ _ (gp 81) g81,c81,a81,hEl,hs,hsi,hat,hl,ht]
  · have hd : mrL cl L ≠ [] := by simp [mrL,hL]
    have ht := eqTidy (4,30) (mrL cl L) [[(1,.box [.sl false 1 E])],L1,[],[],[(30,.row 2 ((mrL cl L).map mvP))]] (by simp) rfl (by omega)
    have hmo : markOf cl L ≠ [] := by
      intro e
      obtain ⟨y,hy⟩ := List.exists_mem_of_ne_nil _ hd
      have := ((tidyL_sd (mrL cl L)).2 y).2 hy
      unfold markOf at e
      rw [e] at this; cases this
    have he : encL true true (markOf cl L) = .sl true 2 ((markOf cl L).map mvP) := encL_ne hmo
    have hen : encL nl false L = .sl false 2 (L.map mvP) := encL_ne hL
    have hMl : (L.map mvP).length = L.length := by simp
    rw [he]
    rw [hen] at hat hl
    simp only [owKP,owL,hd,if_false,hml] at hl
    rw [hml] at ht
    generalize L.map mvP = M at hat hl hMl
    rcases ht with ⟨hq,ht⟩ | ht
    · have hml2 : (markOf cl L).length = L.length := by unfold markOf; rw [hq]; simp [srtM,hml]
      have hml3 : ((markOf cl L).map mvP).length = L.length := by simp [hml2]
      have hqq : tidyL (mrL cl L) = markOf cl L := rfl
      rw [hqq] at ht
      generalize (markOf cl L).map mvP = Q at ht hml3 ⊢
      generalize (mrL cl L).map mvP = D at ht hl
      simp [body1_eq _ _ (gp 81) g81,c81,a81,hEl,hs,hsi,hat,hMl,hl,ht,setS,hml3]
    · have hqq : tidyL (mrL cl L) = markOf cl L := rfl
      rw [hqq] at ht
      generalize (markOf cl L).map mvP = Q at ht ⊢
      generalize (mrL cl L).map mvP = D at ht hl
      simp [body1_eq _ _ (gp 81) g81,c81,a81,hEl,hs,hsi,hat,hMl,hl,ht,setS]
theorem eqMk1 (E : List PV) (g : Gr) (hE : EncR false E g) (cl : List Int) (hcl : cl.length = g.length) (hsm : SmallG g) (hok : OkTo g) (s : Nat) (hs : s < g.length) (R : OB) :
    callI G 98 [.i s,.ref (1,3) 1 0 0,.ref (1,6) 1 0 0] [[(1,.box [.sl false 1 E])],[(3,.box [.clo 81 [.ref (0,1) 1 0 0]]),(6,.box [.sl false 1 (cl.map PV.i)]),(10,R)],[]] =
      some (encL true true (markOf cl (g.getD s [])),[[(1,.box [.sl false 1 E])],[(3,.box [.clo 81 [.ref (0,1) 1 0 0]]),(6,.box [.sl false 1 (cl.map PV.i)]),(10,R)],[]]) := by
  have hm := eqMark E g hE cl hcl hsm hok s hs [(3,.box [.clo 81 [.ref (0,1) 1 0 0]]),(6,.box [.sl false 1 (cl.map PV.i)]),(10,R)]
  generalize markOf cl (g.getD s []) = Q at hm ⊢
  generalize cl.map PV.i = C at hm ⊢
  rw [callI_eq]
  rcases encL_two true true Q with ⟨e,e2⟩ | e
  · rw [e] at hm ⊢
    simp [body1_eq _ _ (gp 98) g98,c98,a98,hm]
  · rw [e] at hm ⊢
    simp [body1_eq _ _ (gp 98) g98,c98,a98,hm]
end Go.Am
end
section
set_option maxRecDepth 10000
set_option maxHeartbeats 1000000
set_option linter.unusedSimpArgs false
set_option linter.unusedVariables false
namespace Go.Am
open Go.Proofs Go.Sort Go.Shelf
theorem loopEqM (p q : List Mv) : ∀ (a b : List Mv),a.length = b.length → p.length = q.length → (p ++ a).length ≤ 4611686018427387904 →
    ∃ r,loopI G [0,1,12,13] [] c111l0 ⟨[(0,.sl false 2 ((p ++ a).map mvP)),(1,.sl false 2 ((q ++ b).map mvP)),(12,.i (p ++ a).length),(13,.i p.length)],[],[]⟩ = some r ∧
      ((a ≠ b ∧ r = (.ret,⟨[(4,.b false)],[],[]⟩)) ∨ (a = b ∧ r = (.exit 0,⟨[(0,.sl false 2 ((p ++ a).map mvP)),(1,.sl false 2 ((q ++ b).map mvP)),(12,.i (p ++ a).length),(13,.i (p ++ a).length),(14,.b false)],[],[]⟩))) := by
  intro a
  induction a generalizing p q with
  | nil =>
    intro b hab hpq hl
    have hb : b = [] := List.length_eq_zero_iff.1 hab.symm
    subst hb
    refine ⟨_, ?_,.inr ⟨rfl,rfl⟩⟩
    rw [loopI_eq]
    simp [r111l0,b111l0]
  | cons x a ih =>
    intro b hab hpq hl
    cases b with
    | nil => cases hab
    | cons y b =>
      have hab' : a.length = b.length := by simpa using hab
      have hA := mv_at p x a
      have hB := mv_at q y b
      rw [← hpq] at hB
      have hll : (p ++ x :: a).length = p.length + (a.length + 1) := by simp
      have hlA : ((p ++ x :: a).map mvP).length = p.length + (a.length + 1) := by simp
      have hlB : ((q ++ y :: b).map mvP).length = p.length + (a.length + 1) := by simp; omega
      have hlt : (p.length : Int) < (p.length : Int) + ((a.length : Int) + 1) := by omega
      have hlt2 : p.length < p.length + (a.length + 1) := by omega
      have hw : IntKind.i64.wrap ((p.length : Int) + 1) = (p.length : Int) + 1 := wr (by omega)
      obtain ⟨r,hn,hr⟩ := ih (p ++ [x]) (q ++ [y]) b hab' (by simp [hpq]) (by simpa using hl)
      have e1 : p ++ [x] ++ a = p ++ x :: a := by simp
      have e2 : q ++ [y] ++ b = q ++ y :: b := by simp
      rw [e1,e2,hll] at hn hr
      rw [hll]
      simp only [List.length_append,List.length_cons,List.length_nil,Int.natCast_add,show ((0 + 1 : Nat) : Int) = 1 from rfl,show ((1 : Nat) : Int) = 1 from rfl] at hn hr ⊢
      generalize hX : (p ++ x :: a).map mvP = X at hA hlA hn hr ⊢
      generalize hZ : (q ++ y :: b).map mvP = Z at hB hlB hn hr ⊢
      simp only [mvP] at hA hB
      by_cases c : x.1 = y.1 ∧ x.2 = y.2
      · have c3 : x = y := Prod.ext c.1 c.2
        subst c3
        refine ⟨r, ?_,by simpa using hr⟩
        rw [loopI_eq]
        simp [r111l0,b111l0,hlA,hlB,hlt,hlt2,hA,hB,hw,unAgg]
        exact hn
      · have c3 : x ≠ y := fun e => c (by subst e; exact ⟨rfl,rfl⟩)
        refine ⟨_, ?_,.inl ⟨by simp [c3],rfl⟩⟩
        have c4 : ¬ (x.1 = y.1 ∧ x.2 = y.2) := c
        rw [loopI_eq]
        by_cases c1 : x.1 = y.1
        · have c2 : ¬ x.2 = y.2 := fun e => c ⟨c1,e⟩
          simp [r111l0,b111l0,hlA,hlB,hlt,hlt2,hA,hB,c1,c2,unAgg]
        · simp [r111l0,b111l0,hlA,hlB,hlt,hlt2,hA,hB,c1,unAgg]
theorem eqEqM (a b : List Mv) (h : a.length ≤ 4611686018427387904) (h2 : b.length ≤ 4611686018427387904) : callI G 111 [encL true false a,encL true false b] [] = some (.b (decide (a = b)),[]) := by
  have ha : ∀ n d gg,core1 n d gg .len [encL true false a] = some (.i a.length,[]) := fun n d gg => by simp
  have hb : ∀ n d gg,core1 n d gg .len [encL true false b] = some (.i b.length,[]) := fun n d gg => by simp
  have hka : ∀ f n,known f n (encL true false a) = true := fun f n => by simp
  have hkb : ∀ f n,known f n (encL true false b) = true := fun f n => by simp
  rw [callI_eq]
  by_cases hl : a.length = b.length
  · obtain ⟨r,hn,hr⟩ := loopEqM [] [] a b hl rfl (by simpa using h)
    simp only [List.nil_append,List.length_nil,show ((0 : Nat) : Int) = 0 from rfl] at hn hr
    have hli : (a.length : Int) = b.length := by omega
    by_cases hz : a = []
    · subst hz
      have hbz : b = [] := List.length_eq_zero_iff.1 hl.symm
      subst hbz
      have h0 : loopI G [0,1,12,13] [] c111l0 ⟨[(0,.nils),(1,.nils),(12,.i 0),(13,.i 0)],[],[]⟩ = some (.exit 0,⟨[(0,.nils),(1,.nils),(12,.i 0),(13,.i 0),(14,.b false)],[],[]⟩) := by
        rw [loopI_eq]
        simp [r111l0,b111l0]
      simp [body1_eq _ _ (gp 111) g111,c111,a111,h0]
    · have hbz : b ≠ [] := fun e => hz (List.length_eq_zero_iff.1 (by rw [hl,e]; rfl))
      have ea : encL true false a = .sl false 2 (a.map mvP) := encL_ne hz
      have eb : encL true false b = .sl false 2 (b.map mvP) := encL_ne hbz
      rw [ea,eb]
      rcases hr with ⟨h1,rfl⟩ | ⟨h1,rfl⟩
      · simp [body1_eq _ _ (gp 111) g111,c111,a111,hli,hn,h1] <;> simp [← hli,hn]
      · subst h1
        simp [body1_eq _ _ (gp 111) g111,c111,a111,hn]
  · have hne : a ≠ b := fun e => hl (by rw [e])
    have hli : ¬ (a.length : Int) = b.length := by omega
    generalize encL true false a = A at ha hka ⊢
    generalize encL true false b = B at hb hkb ⊢
    simp [body1_eq _ _ (gp 111) g111,c111,a111,hli,hne,ha,hb,hka,hkb]
theorem loopEqI (p q : List Int) : ∀ (a b : List Int),a.length = b.length → p.length = q.length → (p ++ a).length ≤ 4611686018427387904 →
    ∃ r,loopI G [0,1,12,13] [] c99l0 ⟨[(0,.sl false 1 ((p ++ a).map PV.i)),(1,.sl false 1 ((q ++ b).map PV.i)),(12,.i (p ++ a).length),(13,.i p.length)],[],[]⟩ = some r ∧
      ((a ≠ b ∧ r = (.ret,⟨[(4,.b false)],[],[]⟩)) ∨ (a = b ∧ r = (.exit 0,⟨[(0,.sl false 1 ((p ++ a).map PV.i)),(1,.sl false 1 ((q ++ b).map PV.i)),(12,.i (p ++ a).length),(13,.i (p ++ a).length),(14,.b false)],[],[]⟩))) := by
  intro a
  induction a generalizing p q with
  | nil =>
    intro b hab hpq hl
    have hb : b = [] := List.length_eq_zero_iff.1 hab.symm
    subst hb
    refine ⟨_, ?_,.inr ⟨rfl,rfl⟩⟩
    rw [loopI_eq]
    simp [r99l0,b99l0]
  | cons x a ih =>
    intro b hab hpq hl
    cases b with
    | nil => cases hab
    | cons y b =>
      have hab' : a.length = b.length := by simpa using hab
      have hA := ii_at p x a
      have hB := ii_at q y b
      rw [← hpq] at hB
      have hll : (p ++ x :: a).length = p.length + (a.length + 1) := by simp
      have hlA : ((p ++ x :: a).map PV.i).length = p.length + (a.length + 1) := by simp
      have hlB : ((q ++ y :: b).map PV.i).length = p.length + (a.length + 1) := by simp; omega
      have hlt : (p.length : Int) < (p.length : Int) + ((a.length : Int) + 1) := by omega
      have hlt2 : p.length < p.length + (a.length + 1) := by omega
      have hw : IntKind.i64.wrap ((p.length : Int) + 1) = (p.length : Int) + 1 := wr (by omega)
      obtain ⟨r,hn,hr⟩ := ih (p ++ [x]) (q ++ [y]) b hab' (by simp [hpq]) (by simpa using hl)
      have e1 : p ++ [x] ++ a = p ++ x :: a := by simp
      have e2 : q ++ [y] ++ b = q ++ y :: b := by simp
      rw [e1,e2,hll] at hn hr
      rw [hll]
      simp only [List.length_append,List.length_cons,List.length_nil,Int.natCast_add,show ((0 + 1 : Nat) : Int) = 1 from rfl,show ((1 : Nat) : Int) = 1 from rfl] at hn hr ⊢
      generalize hX : (p ++ x :: a).map PV.i = X at hA hlA hn hr ⊢
      generalize hZ : (q ++ y :: b).map PV.i = Z at hB hlB hn hr ⊢
      by_cases c : x = y
      · subst c
        refine ⟨r, ?_,by simpa using hr⟩
        rw [loopI_eq]
        simp [r99l0,b99l0,hlA,hlB,hlt,hlt2,hA,hB,hw]
        exact hn
      · refine ⟨_, ?_,.inl ⟨by simp [c],rfl⟩⟩
        rw [loopI_eq]
        simp [r99l0,b99l0,hlA,hlB,hlt,hlt2,hA,hB,c]
theorem eqEqI (a b : List Int) (hl : a.length = b.length) (h : a.length ≤ 4611686018427387904) : callI G 99 [.sl false 1 (a.map PV.i),.sl false 1 (b.map PV.i)] [] = some (.b (decide (a = b)),[]) := by
  obtain ⟨r,hn,hr⟩ := loopEqI [] [] a b hl rfl (by simpa using h)
  simp only [List.nil_append,List.length_nil,show ((0 : Nat) : Int) = 0 from rfl] at hn hr
  have hli : (a.length : Int) = b.length := by omega
  have hla : (a.map PV.i).length = a.length := by simp
  have hlb : (b.map PV.i).length = a.length := by simp [hl]
  rw [callI_eq]
  generalize a.map PV.i = A at hn hr hla ⊢
  generalize b.map PV.i = B at hn hr hlb ⊢
  rcases hr with ⟨h1,rfl⟩ | ⟨h1,rfl⟩
  · simp [body1_eq _ _ (gp 99) g99,c99,a99,hla,hlb,hn,h1]
  · subst h1
    simp [body1_eq _ _ (gp 99) g99,c99,a99,hla,hlb,hn]
end Go.Am
end
section
set_option maxRecDepth 10000
set_option maxHeartbeats 1000000
set_option linter.unusedSimpArgs false
set_option linter.unusedVariables false
namespace Go.Am
open Go.Proofs Go.Sort Go.Shelf
theorem encL_form (l : List Mv) : encL true false l = .nils ∨ ∃ Q,encL true false l = .sl false 2 Q := by
  rcases encL_two true false l with ⟨e,_⟩ | e
  · exact .inl e
  · exact .inr ⟨_,e⟩
abbrev cloMk : PV := .clo 98 [.ref (1,3) 1 0 0,.ref (1,6) 1 0 0]
abbrev stk (E : List PV) (cl : List Int) (R : OB) : Stack := [[(1,.box [.sl false 1 E])],[(3,.box [.clo 81 [.ref (0,1) 1 0 0]]),(6,.box [.sl false 1 (cl.map PV.i)]),(10,R)]]
def mksL (cl : List Int) (g : Gr) (s : Nat) : List PV := (List.range s).map (fun r => encL true false (markOf cl (g.getD r []))) ++ List.replicate (g.length - s) .nils
theorem mksL_at {cl : List Int} {g : Gr} {s r : Nat} (h : r < s) : nth (mksL cl g s) r = some (encL true false (markOf cl (g.getD r []))) := by
  unfold nth mksL
  rw [List.getElem?_append_left (by simpa using h)]
  simp [h]
theorem mksL_len {cl : List Int} {g : Gr} {s : Nat} (h : s ≤ g.length) : (mksL cl g s).length = g.length := by simp [mksL]; omega
theorem mksL_set {cl : List Int} {g : Gr} {s : Nat} (h : s < g.length) : (mksL cl g s).set s (encL true false (markOf cl (g.getD s []))) = mksL cl g (s + 1) := by
  unfold mksL
  rw [List.set_append_right _ _ (by simp),List.range_succ]
  have e : g.length - s = (g.length - (s + 1)) + 1 := by omega
  rw [e,List.replicate_succ]
  simp
def outL (cl : List Int) (g : Gr) (s : Nat) : List Int := (List.range s).map (fun r => (nxt cl g r : Int)) ++ List.replicate (g.length - s) 0
theorem outL_len {cl : List Int} {g : Gr} {s : Nat} (h : s ≤ g.length) : (outL cl g s).length = g.length := by simp [outL]; omega
theorem outL_set {cl : List Int} {g : Gr} {s : Nat} (h : s < g.length) : ((outL cl g s).map PV.i).set s (.i (nxt cl g s)) = (outL cl g (s + 1)).map PV.i := by
  unfold outL
  rw [List.map_append,List.set_append_right _ _ (by simp),List.range_succ]
  have e : g.length - s = (g.length - (s + 1)) + 1 := by omega
  rw [e,List.replicate_succ]
  simp
theorem loopRf0 (E : List PV) (g : Gr) (cl : List Int) (hcl : cl.length = g.length) (hsm : SmallG g) (R : OB) (s : Nat) (hs : s < g.length) (O : List PV) (hO : O.length = g.length) (hOs : nth O s = some (.i s)) (M : List PV) (hM : M.length = g.length) (hMa : ∀ r,r < s + 1 → nth M r = some (encL true false (markOf cl (g.getD r [])))) (hmk : ∀ r,(markOf cl (g.getD r [])).length ≤ 4611686018427387904) : ∀ (k r : Nat),r + k = s → (∀ t,t < r → ¬ alk cl g s t) →
    ∃ st,loopI G [0,1,5,6,7,8,16,17] [11,14] c97l0 ⟨[(0,.sl false 1 (cl.map PV.i)),(1,cloMk),(5,.own (2,11) g.length),(6,.own (2,14) g.length),(7,.i s),(8,.i r),(16,.i g.length),(17,.i s)],[(11,.row 1 O),(14,.row 1 M)],stk E cl R⟩ = some (.exit 2,st) ∧
      ((nxt cl g s = s ∧ st = ⟨[(0,.sl false 1 (cl.map PV.i)),(1,cloMk),(5,.own (2,11) g.length),(6,.own (2,14) g.length),(7,.i s),(8,.i s),(16,.i g.length),(17,.i s),(32,.b false)],[(11,.row 1 O),(14,.row 1 M)],stk E cl R⟩) ∨
       (st = ⟨[(0,.sl false 1 (cl.map PV.i)),(1,cloMk),(5,.own (2,11) g.length),(6,.own (2,14) g.length),(16,.i g.length),(17,.i s)],[(11,.row 1 (O.set s (.i (nxt cl g s)))),(14,.row 1 M)],stk E cl R⟩))
  | 0,r,hr,hb => by
    have hr : r = s := by omega
    subst hr
    have hx := nxt_spec cl g r
    have he : nxt cl g r = r := by
      rcases Nat.lt_or_ge (nxt cl g r) r with h | h
      · exact (hb _ h hx.2.1).elim
      · omega
    refine ⟨_, ?_,.inl ⟨he,rfl⟩⟩
    rw [loopI_eq]
    simp [r97l0,b97l0]
  | k + 1,r,hr,hb => by
    have hgl := hsm.1
    have hrs : r < s := by omega
    have hrg : r < g.length := by omega
    have hri : (r : Int) < s := by omega
    have hri2 : (r : Int) < g.length := by omega
    have hsi : (s : Int) < g.length := by omega
    have hw : IntKind.i64.wrap ((r : Int) + 1) = (r : Int) + 1 := wr (by omega)
    have hcl2 : (cl.map PV.i).length = g.length := by simp [hcl]
    have hcr := int_nth cl r (by omega)
    have hcs := int_nth cl s (by omega)
    have hmr := hMa r (by omega)
    have hms := hMa s (by omega)
    have hx := nxt_spec cl g s
    have heq := eqEqM _ _ (hmk r) (hmk s)
    have hsh : alk cl g s r ↔ cl.getD r 0 = cl.getD s 0 ∧ markOf cl (g.getD r []) = markOf cl (g.getD s []) := by
      rw [alk_mark]; exact and_congr Iff.rfl eq_comm
    have fr := encL_form (markOf cl (g.getD r []))
    have fs := encL_form (markOf cl (g.getD s []))
    by_cases hA : alk cl g s r
    · have he : nxt cl g s = r := by
        rcases Nat.lt_trichotomy (nxt cl g s) r with h | h | h
        · exact (hb _ h hx.2.1).elim
        · exact h
        · exact (hx.2.2 r h hA).elim
      have hA2 := hsh.1 hA
      refine ⟨_, ?_,.inr rfl⟩
      rw [he]
      rw [hA2.1] at hcr
      simp only [hA2.2,decide_true] at heq hmr
      generalize encL true false (markOf cl (g.getD s [])) = X at hmr hms heq fs
      generalize hC : cl.map PV.i = C at hcl2 hcr hcs ⊢
      rw [loopI_eq]
      rcases fs with rfl | ⟨Q,rfl⟩
      · simp [r97l0,b97l0,hri,hri2,hsi,hrg,hs,hcl2,hcr,hcs,hO,hOs,hM,hmr,hms,heq,unAgg]
      · simp [r97l0,b97l0,hri,hri2,hsi,hrg,hs,hcl2,hcr,hcs,hO,hOs,hM,hmr,hms,heq,unAgg]
    · have hn := loopRf0 E g cl hcl hsm R s hs O hO hOs M hM hMa hmk k (r + 1) (by omega) (fun t ht => by
        by_cases e : t = r
        · subst e; exact hA
        · exact hb t (by omega))
      obtain ⟨st,hn,hst⟩ := hn
      simp only [Int.natCast_add,show ((1 : Nat) : Int) = 1 from rfl] at hn
      refine ⟨st, ?_,hst⟩
      by_cases c1 : cl.getD r 0 = cl.getD s 0
      · have c2 : ¬ markOf cl (g.getD r []) = markOf cl (g.getD s []) := fun e => hA (hsh.2 ⟨c1,e⟩)
        simp only [c2,decide_false] at heq
        rw [c1] at hcr
        generalize encL true false (markOf cl (g.getD s [])) = X at hms heq fs
        generalize encL true false (markOf cl (g.getD r [])) = Y at hmr heq fr
        generalize hC : cl.map PV.i = C at hcl2 hcr hcs hn ⊢
        rw [loopI_eq]
        rcases fs with rfl | ⟨Q,rfl⟩
        · rcases fr with rfl | ⟨Q2,rfl⟩
          · simp [r97l0,b97l0,hri,hri2,hsi,hrg,hs,hcl2,hcr,hcs,hO,hM,hmr,hms,heq,hw]
            exact hn
          · simp [r97l0,b97l0,hri,hri2,hsi,hrg,hs,hcl2,hcr,hcs,hO,hM,hmr,hms,heq,hw]
            exact hn
        · rcases fr with rfl | ⟨Q2,rfl⟩
          · simp [r97l0,b97l0,hri,hri2,hsi,hrg,hs,hcl2,hcr,hcs,hO,hM,hmr,hms,heq,hw]
            exact hn
          · simp [r97l0,b97l0,hri,hri2,hsi,hrg,hs,hcl2,hcr,hcs,hO,hM,hmr,hms,heq,hw]
            exact hn
      · generalize hC : cl.map PV.i = C at hcl2 hcr hcs hn ⊢
        generalize cl.getD r 0 = ct at hcr c1
        generalize cl.getD s 0 = cs at hcs c1
        rw [loopI_eq]
        simp [r97l0,b97l0,hri,hri2,hsi,hrg,hs,hcl2,hcr,hcs,hO,hM,c1,hw]
        exact hn
theorem loopRf1 (E : List PV) (g : Gr) (hE : EncR false E g) (cl : List Int) (hcl : cl.length = g.length) (hsm : SmallG g) (hok : OkTo g) (R : OB) (hmk : ∀ r,(markOf cl (g.getD r [])).length ≤ 4611686018427387904) : ∀ (n s : Nat),s + n = g.length →
    loopI G [0,1,5,6,16,17] [11,14] c97l1 ⟨[(0,.sl false 1 (cl.map PV.i)),(1,cloMk),(5,.own (2,11) g.length),(6,.own (2,14) g.length),(16,.i g.length),(17,.i s)],[(11,.row 1 ((outL cl g s).map PV.i)),(14,.row 1 (mksL cl g s))],stk E cl R⟩ =
      some (.exit 0,⟨[(0,.sl false 1 (cl.map PV.i)),(1,cloMk),(5,.own (2,11) g.length),(6,.own (2,14) g.length),(16,.i g.length),(17,.i g.length),(18,.b false)],[(11,.row 1 ((outL cl g g.length).map PV.i)),(14,.row 1 (mksL cl g g.length))],stk E cl R⟩)
  | 0,s,hs => by
    have he : s = g.length := by omega
    subst he
    rw [loopI_eq]
    simp [r97l1,b97l1]
  | n + 1,s,hs => by
    have hgl := hsm.1
    have hsg : s < g.length := by omega
    have hsi : (s : Int) < g.length := by omega
    have hw : IntKind.i64.wrap ((s : Int) + 1) = (s : Int) + 1 := wr (by omega)
    have hm1 := eqMk1 E g hE cl hcl hsm hok s hsg R
    have hn := loopRf1 E g hE cl hcl hsm hok R hmk n (s + 1) (by omega)
    simp only [Int.natCast_add,show ((1 : Nat) : Int) = 1 from rfl] at hn
    have hol : ((outL cl g s).map PV.i).length = g.length := by rw [List.length_map,outL_len (by omega)]
    have hml := mksL_len (cl := cl) (g := g) (s := s) (by omega)
    have hml1 := mksL_len (cl := cl) (g := g) (s := s + 1) (by omega)
    have hms := mksL_set (cl := cl) hsg
    have hos := outL_set (cl := cl) hsg
    obtain ⟨st,h0,hst⟩ := loopRf0 E g cl hcl hsm R s hsg (((outL cl g s).map PV.i).set s (.i s)) (by rw [List.length_set]; exact hol) (by unfold nth; rw [List.getElem?_set_self (by omega)]) (mksL cl g (s + 1)) hml1 (fun r hr => mksL_at hr) hmk s 0 (by omega) (fun t ht => by omega)
    simp only [show ((0 : Nat) : Int) = 0 from rfl,List.set_set] at h0 hst
    rw [hos] at hst
    have hnl : nth (mksL cl g s) s = some .nils := by
      unfold nth mksL
      rw [List.getElem?_append_right (by simp)]
      have e : g.length - s = (g.length - (s + 1)) + 1 := by omega
      rw [e,List.replicate_succ]
      simp
    have hnz : nth ((outL cl g s).map PV.i) s = some (.i 0) := by
      unfold nth outL
      rw [List.getElem?_map,List.getElem?_append_right (by simp)]
      have e : g.length - s = (g.length - (s + 1)) + 1 := by omega
      rw [e,List.replicate_succ]
      simp
    have hfl : fals ((markOf cl (g.getD s [])).map mvP) = (markOf cl (g.getD s [])).map mvP := fals_mvP _
    have hns := noShares_mv (markOf cl (g.getD s []))
    simp only [stk] at hn h0 hst ⊢
    rw [loopI_eq]
    rcases encL_two true true (markOf cl (g.getD s [])) with ⟨e,e2⟩ | e
    · rw [e] at hm1
      have e3 : encL true false (markOf cl (g.getD s [])) = .nils := by rw [e2]; rfl
      rw [e3] at hms
      rcases hst with ⟨hx,rfl⟩ | rfl
      · rw [hx] at hos
        rw [hos] at h0
        generalize hC : cl.map PV.i = C at hm1 h0 hn ⊢
        generalize mksL cl g s = M0 at hml hms hnl ⊢
        generalize mksL cl g (s + 1) = M1 at hml1 hms h0 hn
        generalize (outL cl g s).map PV.i = O0 at hol hos hnz ⊢
        generalize (outL cl g (s + 1)).map PV.i = O1 at hos h0 hn
        simp [r97l1,b97l1,hsi,hsg,hm1,hml,hms,hml1,hol,hos,hnl,hnz,h0,hw,unAgg]
        exact hn
      · generalize hC : cl.map PV.i = C at hm1 h0 hn ⊢
        generalize mksL cl g s = M0 at hml hms hnl ⊢
        generalize mksL cl g (s + 1) = M1 at hml1 hms h0 hn
        generalize (outL cl g s).map PV.i = O0 at hol hos hnz h0 ⊢
        generalize (outL cl g (s + 1)).map PV.i = O1 at hos h0 hn
        simp [r97l1,b97l1,hsi,hsg,hm1,hml,hms,hml1,hol,hos,hnl,hnz,h0,hw,unAgg]
        exact hn
    · have hne : markOf cl (g.getD s []) ≠ [] := by intro e2; rw [e2] at e; cases e
      have e3 : encL true false (markOf cl (g.getD s [])) = .sl false 2 ((markOf cl (g.getD s [])).map mvP) := encL_ne hne
      rw [e] at hm1
      rw [e3] at hms
      generalize (markOf cl (g.getD s [])).map mvP = Q at hm1 hms hfl hns
      rcases hst with ⟨hx,rfl⟩ | rfl
      · rw [hx] at hos
        rw [hos] at h0
        generalize hC : cl.map PV.i = C at hm1 h0 hn ⊢
        generalize mksL cl g s = M0 at hml hms hnl ⊢
        generalize mksL cl g (s + 1) = M1 at hml1 hms h0 hn
        generalize (outL cl g s).map PV.i = O0 at hol hos hnz ⊢
        generalize (outL cl g (s + 1)).map PV.i = O1 at hos h0 hn
        simp [r97l1,b97l1,hsi,hsg,hm1,hml,hms,hml1,hol,hos,hnl,hnz,h0,hw,hfl,hns,unAgg]
        exact hn
      · generalize hC : cl.map PV.i = C at hm1 h0 hn ⊢
        generalize mksL cl g s = M0 at hml hms hnl ⊢
        generalize mksL cl g (s + 1) = M1 at hml1 hms h0 hn
        generalize (outL cl g s).map PV.i = O0 at hol hos hnz h0 ⊢
        generalize (outL cl g (s + 1)).map PV.i = O1 at hos h0 hn
        simp [r97l1,b97l1,hsi,hsg,hm1,hml,hms,hml1,hol,hos,hnl,hnz,h0,hw,hfl,hns,unAgg]
        exact hn
theorem markOf_le (cl : List Int) (g : Gr) (hsm : SmallG g) (r : Nat) : (markOf cl (g.getD r [])).length ≤ 4611686018427387904 := by
  have hl : (g.getD r []).length ≤ 1048576 := by
    rw [List.getD_eq_getElem?_getD]
    cases h : g[r]? with
    | none => simp
    | some l => exact hsm.2 _ (List.mem_of_getElem? h)
  have h2 : (markOf cl (g.getD r [])).length ≤ (mrL cl (g.getD r [])).length := tidyL_len _
  have h3 : (mrL cl (g.getD r [])).length = (g.getD r []).length := by simp [mrL]
  omega
theorem eqRefine (E : List PV) (g : Gr) (hE : EncR false E g) (cl : List Int) (hcl : cl.length = g.length) (hsm : SmallG g) (hok : OkTo g) (R : OB) :
    callI G 97 [.sl false 1 (cl.map PV.i),cloMk] (stk E cl R) = some (.sl true 1 ((nextC cl g).map PV.i),stk E cl R) := by
  have hgl := hsm.1
  have hl := loopRf1 E g hE cl hcl hsm hok R (markOf_le cl g hsm) g.length 0 (by omega)
  have e1 : (outL cl g 0).map PV.i = List.replicate g.length (.i 0) := by simp [outL]
  have e2 : mksL cl g 0 = List.replicate g.length .nils := by simp [mksL]
  have e3 : outL cl g g.length = nextC cl g := by simp [outL,nextC]
  rw [e1,e2,e3] at hl
  simp only [show ((0 : Nat) : Int) = 0 from rfl] at hl
  have hcl2 : (cl.map PV.i).length = g.length := by simp [hcl]
  have hnl : ((nextC cl g).map PV.i).length = g.length := by rw [List.length_map,nextC_len]
  have hgb : (g.length : Int) ≤ 4294967296 := by omega
  generalize (nextC cl g).map PV.i = N at hl hnl ⊢
  generalize mksL cl g g.length = M1 at hl
  rw [callI_eq]
  generalize hC : cl.map PV.i = C at hcl2 hl ⊢
  simp [body1_eq _ _ (gp 97) g97,c97,a97,hcl2,hgb,hl,hnl]
end Go.Am
end
section
set_option maxRecDepth 10000
set_option maxHeartbeats 1000000
set_option linter.unusedSimpArgs false
set_option linter.unusedVariables false
namespace Go.Am
open Go.Proofs Go.Sort Go.Shelf
theorem loopRI (E : List PV) (g : Gr) (hE : EncR false E g) (hsm : SmallG g) (hok : OkTo g) (hg : 1 ≤ g.length) : ∀ (f : Nat) (R : List (List Int)) (last : List Int),Stops g f last → last.length = g.length → R.length + f ≤ 1000000 →
    loopI G [3,5] [3,10,27] c80l0 ⟨[(3,.ref (1,3) 1 0 0),(5,.own (1,10) (R.length + 1))],[(3,.box [.clo 81 [.ref (0,1) 1 0 0]]),(10,.row 1 ((R ++ [last]).map encI))],[[(1,.box [.sl false 1 E])]]⟩ =
      some (.ret,⟨[(4,.own (1,10) (rnds g f R last).length)],[(10,.row 1 ((rnds g f R last).map encI))],[[(1,.box [.sl false 1 E])]]⟩)
  | 0,R,last,hst,hl,hR => hst.elim
  | f + 1,R,last,hst,hl,hR => by
    have hgl := hsm.1
    have k1 := eqRefine E g hE last hl hsm hok (.row 1 ((R ++ [last]).map encI))
    have k2 := eqEqI (nextC last g) last (by rw [nextC_len,hl]) (by rw [nextC_len]; omega)
    have hw : IntKind.i64.wrap ((R.length : Int) + 1 - 1) = R.length := by rw [wr (by omega)]; omega
    have hw3 : IntKind.i64.wrap (R.length : Int) = R.length := wr (by omega)
    have hlt : (R.length : Int) < (R.length : Int) + 1 := by omega
    have hat : nth ((R ++ [last]).map encI) R.length = some (.sl false 1 (last.map PV.i)) := by
      rw [List.map_append]; exact at_D _ _ _ _ (by simp)
    have hml : ((R ++ [last]).map encI).length = R.length + 1 := by simp
    have hRb : R.length + 1 ≤ 4294967295 := by omega
    simp only [stk] at k1
    by_cases he : nextC last g = last
    · have hr : rnds g (f + 1) R last = R ++ [last] := by simp [rnds,he]
      have hrl : (R ++ [last]).length = R.length + 1 := by simp
      rw [hr,hrl]
      rw [he] at k1 k2
      simp only [decide_true] at k2
      generalize hM : (R ++ [last]).map encI = M at hat hml k1 ⊢
      rw [loopI_eq]
      simp [r80l0,b80l0,hw,hw3,hlt,hat,hml,k1,k2,fals_i]
    · have hr : rnds g (f + 1) R last = rnds g f (R ++ [last]) (nextC last g) := by simp [rnds,he]
      rw [hr]
      have hst2 : Stops g f (nextC last g) := hst.resolve_left he
      have hn := loopRI E g hE hsm hok hg f (R ++ [last]) (nextC last g) hst2 (nextC_len _ _) (by simp; omega)
      have e1 : (R ++ [last] ++ [nextC last g]).map encI = (R ++ [last]).map encI ++ [.sl false 1 ((nextC last g).map PV.i)] := by simp [encI]
      rw [e1] at hn
      simp only [List.length_append,List.length_cons,List.length_nil,Nat.zero_add] at hn
      simp only [he,decide_false] at k2
      generalize hM : (R ++ [last]).map encI = M at hat hml hn k1 ⊢
      generalize nextC last g = N at k1 k2 hn
      rw [loopI_eq]
      simp [r80l0,b80l0,hw,hw3,hlt,hat,hml,k1,k2,hRb,fals_i]
      exact ⟨by omega,hn⟩
theorem encI_zer (n : Nat) : [PV.sl false 1 (List.replicate n (PV.i 0))] = ([] ++ [zer n]).map encI := by simp [encI,zer]
theorem fals_zer (n : Nat) : fals (List.replicate n (PV.i 0)) = List.replicate n (PV.i 0) := by
  have := fals_i (List.replicate n 0)
  simpa using this
theorem eqRounds (E : List PV) (g : Gr) (hE : EncR false E g) (hsm : SmallG g) (hok : OkTo g) (hg : 1 ≤ g.length) (h60 : g.length ≤ 500) :
    callI G 80 [.i g.length,.clo 81 [.ref (0,1) 1 0 0]] [[(1,.box [.sl false 1 E])]] = some (.sl true 1 ((rnds g (g.length + 1) [] (zer g.length)).map encI),[[(1,.box [.sl false 1 E])]]) := by
  have hl := loopRI E g hE hsm hok hg (g.length + 1) [] (zer g.length) (stops0 g) (zer_len _) (by simp; omega)
  rw [← encI_zer] at hl
  simp only [List.length_nil,Nat.zero_add] at hl
  have hgb : (g.length : Int) ≤ 4294967296 := by omega
  have hml : ((rnds g (g.length + 1) [] (zer g.length)).map encI).length = (rnds g (g.length + 1) [] (zer g.length)).length := by simp
  generalize hF : (rnds g (g.length + 1) [] (zer g.length)).map encI = F at hl hml ⊢
  rw [callI_eq]
  simp [body1_eq _ _ (gp 80) g80,c80,a80,hgb,hl,hml,fals_zer]
theorem eqAlikeRounds (E : List PV) (g : Gr) (hE : EncR false E g) (hsm : SmallG g) (hok : OkTo g) (hg : 1 ≤ g.length) (h60 : g.length ≤ 500) :
    callI G 55 [.agg [.sl false 1 E]] [] = some (.sl true 1 ((rnds g (g.length + 1) [] (zer g.length)).map encI),[]) := by
  have hl := eqRounds E g hE hsm hok hg h60
  have hEl := hE.1
  clear hE
  generalize hF : (rnds g (g.length + 1) [] (zer g.length)).map encI = F at hl ⊢
  rw [callI_eq]
  simp [body1_eq _ _ (gp 55) g55,c55,a55,hEl,hl]
theorem eqCloneI (l : List Int) (h : l ≠ []) (hl : l.length ≤ 4294967296) : callI G 56 [.sl false 1 (l.map PV.i)] [] = some (.sl true 1 (l.map PV.i),[]) := by
  rcases l with _ | ⟨x,l⟩
  · exact absurd rfl h
  · have hf := fals_i (x :: l)
    rw [callI_eq]
    simp at hl hf
    simp [body1_eq _ _ (gp 56) g56,c56,a56,hf,hl]
theorem rnds_clsG (g : Gr) : ∃ R',rnds g (g.length + 1) [] (zer g.length) = R' ++ [clsG g] ∧ R'.length ≤ g.length + 1 := by
  obtain ⟨R',h1,h2⟩ := rnds_last g (g.length + 1) [] (zer g.length)
  exact ⟨R',h1,by simpa using h2⟩
theorem clsG_ne {g : Gr} (hg : 1 ≤ g.length) : clsG g ≠ [] := by
  intro e
  have := clsG_len g
  rw [e] at this
  have h0 : (0 : Nat) = g.length := this
  omega
theorem eqAlikeClasses (E : List PV) (g : Gr) (hE : EncR false E g) (hsm : SmallG g) (hok : OkTo g) (hg : 1 ≤ g.length) (h60 : g.length ≤ 500) :
    callI G 39 [.agg [.sl false 1 E]] [] = some (.sl true 1 ((clsG g).map PV.i),[]) := by
  have hl := eqAlikeRounds E g hE hsm hok hg h60
  have hc := eqCloneI (clsG g) (clsG_ne hg) (by rw [clsG_len]; omega)
  obtain ⟨R',h1,h2⟩ := rnds_clsG g
  rw [h1] at hl
  have hat : nth ((R' ++ [clsG g]).map encI) R'.length = some (.sl false 1 ((clsG g).map PV.i)) := by
    rw [List.map_append]; exact at_D _ _ _ _ (by simp)
  have hml : ((R' ++ [clsG g]).map encI).length = R'.length + 1 := by simp
  have hw : IntKind.i64.wrap ((R'.length : Int) + 1 - 1) = R'.length := by rw [wr (by omega)]; omega
  have hw3 : IntKind.i64.wrap (R'.length : Int) = R'.length := wr (by omega)
  have hlt : (R'.length : Int) < (R'.length : Int) + 1 := by omega
  generalize (R' ++ [clsG g]).map encI = F at hl hat hml
  generalize (clsG g).map PV.i = C at hc hat ⊢
  rw [callI_eq]
  simp [body1_eq _ _ (gp 39) g39,c39,a39,hl,hml,hw,hw3,hlt,hat,hc]
theorem eqL4Rounds (E : List PV) (g : Gr) (hE : EncR false E g) (hsm : SmallG g) (hok : OkTo g) (hg : 1 ≤ g.length) (h60 : g.length ≤ 500) :
    callI G 64 [.agg [.sl false 1 E]] [] = some (.sl true 1 ((rnds g (g.length + 1) [] (zer g.length)).map encI),[]) := by
  have hl := loopRn E g hE hsm hok hg (g.length + 1) [] (zer g.length) (stops0 g) (zer_len _) (by simp; omega)
  rw [← encI_zer] at hl
  simp only [List.length_nil,Nat.zero_add] at hl
  have hEl := hE.1
  have hgb : (g.length : Int) ≤ 4294967296 := by omega
  have hml : ((rnds g (g.length + 1) [] (zer g.length)).map encI).length = (rnds g (g.length + 1) [] (zer g.length)).length := by simp
  clear hE
  generalize hF : (rnds g (g.length + 1) [] (zer g.length)).map encI = F at hl hml ⊢
  rw [callI_eq]
  simp [body1_eq _ _ (gp 64) g64,c64,a64,hEl,hgb,hl,hml,fals_zer]
theorem eqL4Classes (E : List PV) (g : Gr) (hE : EncR false E g) (hsm : SmallG g) (hok : OkTo g) (hg : 1 ≤ g.length) (h60 : g.length ≤ 500) :
    callI G 47 [.agg [.sl false 1 E]] [] = some (.sl false 1 ((clsG g).map PV.i),[]) := by
  have hl := eqL4Rounds E g hE hsm hok hg h60
  obtain ⟨R',h1,h2⟩ := rnds_clsG g
  rw [h1] at hl
  have hat : nth ((R' ++ [clsG g]).map encI) R'.length = some (.sl false 1 ((clsG g).map PV.i)) := by
    rw [List.map_append]; exact at_D _ _ _ _ (by simp)
  have hml : ((R' ++ [clsG g]).map encI).length = R'.length + 1 := by simp
  have hw : IntKind.i64.wrap ((R'.length : Int) + 1 - 1) = R'.length := by rw [wr (by omega)]; omega
  have hw3 : IntKind.i64.wrap (R'.length : Int) = R'.length := wr (by omega)
  have hlt : (R'.length : Int) < (R'.length : Int) + 1 := by omega
  generalize (R' ++ [clsG g]).map encI = F at hl hat hml
  generalize (clsG g).map PV.i = C at hat ⊢
  rw [callI_eq]
  simp [body1_eq _ _ (gp 47) g47,c47,a47,hl,hml,hw,hw3,hlt,hat]
end Go.Am
end
