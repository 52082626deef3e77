/- What the functions that the law reaches compute. -/
import Derived.Test.YtmpbcedglimhkaaGreatEqF
import Derived.Test.YtmpbcedglimhkaaGreatEqD
import Derived.Test.YtmpbcedglimhkaaGreatEqB
section
set_option maxRecDepth 10000
set_option maxHeartbeats 4000000
set_option linter.unusedSimpArgs false
set_option linter.unusedVariables false
namespace Go.Am
open Go.Proofs Go.Sort Go.Shelf
theorem clsG_le (g : Gr) {s : Nat} (hs : s < g.length) : ∃ u : Nat,(clsG g).getD s 0 = u ∧ u ≤ s := by
  have key : ∀ (f : Nat) (cl : List Int),NrmC cl → NrmC (itC g f cl) := by
    intro f
    induction f with
    | zero => intro cl h; exact h
    | succ f ih => intro cl h; exact ih _ (nextC_nrm cl g)
  obtain ⟨u,h1,h2,_⟩ := key (g.length + 1) _ (zer_nrm g.length) s (by rw [itC_len g _ _ (zer_len _)]; exact hs)
  exact ⟨u,h1,h2⟩
theorem i_nth (A : List Int) {k : Nat} (h : k < A.length) : nth (A.map PV.i) k = some (.i (A.getD k 0)) := int_nth A k h
theorem i_set (A : List Int) (k : Nat) (v : Int) : (A.map PV.i).set k (.i v) = (A.set k v).map PV.i := by
  rw [List.map_set]
theorem loopFo0 (E : List PV) (cls : List Int) (N : Nat) (hN : N ≤ 1000) (hl : cls.length = N) (hc : ∀ s,s < N → ∃ u : Nat,cls.getD s 0 = u ∧ u ≤ s) : ∀ (k s : Nat) (A : List Int) (n : Int),s + k = N → A.length = N → 0 ≤ n → n ≤ s →
    ∃ (A' : List Int) (n' : Int),A'.length = N ∧ loopI G [1,2,4,5,6,7] [2,4,14,97] c46l0 ⟨[(1,.sl false 1 (cls.map PV.i)),(2,.ref (0,2) 1 0 0),(4,.ref (0,4) 1 0 0),(5,.own (0,14) N),(6,.i n),(7,.i s)],[(2,.box [PV.sl false 1 E]),(4,.box [.nils]),(14,.row 1 (A.map PV.i))],[]⟩ =
      some (.exit 0,⟨[(1,.sl false 1 (cls.map PV.i)),(2,.ref (0,2) 1 0 0),(4,.ref (0,4) 1 0 0),(5,.own (0,14) N),(6,.i n'),(7,.i N),(18,.b false)],[(2,.box [PV.sl false 1 E]),(4,.box [.nils]),(14,.row 1 (A'.map PV.i))],[]⟩)
  | 0,s,A,n,hs,hA,h0,h1 => by
    obtain rfl : s = N := by omega
    refine ⟨A,n,hA, ?_⟩
    rw [loopI_eq]
    simp [r46l0,b46l0,hl]
  | k + 1,s,A,n,hs,hA,h0,h1 => by
    have hsN : s < N := by omega
    have hlt : (s : Int) < N := by omega
    have hw : IntKind.i64.wrap ((s : Int) + 1) = (s : Int) + 1 := wr (by omega)
    have hwn : IntKind.i64.wrap (n + 1) = n + 1 := wr (by omega)
    obtain ⟨u,hu,hus⟩ := hc s hsN
    have hcs := i_nth cls (k := s) (by omega)
    rw [hu] at hcs
    have huN : u < N := by omega
    have huN2 : (u : Int) < N := by omega
    have hAu := i_nth A (k := u) (by omega)
    have hCl : (cls.map PV.i).length = N := by simp [hl]
    have hAl : (A.map PV.i).length = N := by simp [hA]
    have hst := i_set A s
    have hst2 := fun v w => i_set (A.set s v) s w
    have hSl : ∀ v,((A.set s v).map PV.i).length = N := by intro v; simp [hA]
    have hAs := i_nth A (k := s) (by omega)
    generalize hv : A.getD u 0 = v at *
    generalize A.getD s 0 = vs at hAs
    have hAs1 := i_nth (A.set s v) (k := s) (by simp; omega)
    generalize (A.set s v).getD s 0 = vs1 at hAs1
    have hAl2 : (A.set s v).length = N := by simp [hA]
    have hAl3 : ∀ w,((A.set s v).set s w).length = N := by intro w; simp [hA]
    by_cases e : u = s
    · subst e
      obtain ⟨A',n',hA',hn⟩ := loopFo0 E cls N hN hl hc k (u + 1) ((A.set u v).set u n) (n + 1) (by omega) (hAl3 n) (by omega) (by omega)
      refine ⟨A',n',hA', ?_⟩
      have hg2 := hst2 v n
      have hg1 := hst v
      clear hst hst2
      generalize hC : cls.map PV.i = C at *
      generalize (A.set u v).set u n = A2 at *
      have hSv := hSl v
      generalize A.set u v = A1 at *
      generalize A.map PV.i = AP at *
      generalize A1.map PV.i = AP1 at *
      rw [loopI_eq]
      simp [r46l0,b46l0,hlt,hsN,hCl,hAl,hcs,huN,hAu,hAs,hAs1,hg1,hg2,hw,hwn,unAgg,hSv,hl]
      simpa using hn
    · obtain ⟨A',n',hA',hn⟩ := loopFo0 E cls N hN hl hc k (s + 1) (A.set s v) n (by omega) hAl2 (by omega) (by omega)
      refine ⟨A',n',hA', ?_⟩
      have hg1 := hst v
      have e' : ¬ (u : Int) = s := by omega
      clear hst hst2
      generalize hC : cls.map PV.i = C at *
      have hSv := hSl v
      generalize A.set s v = A1 at *
      generalize A.map PV.i = AP at *
      generalize A1.map PV.i = AP1 at *
      rw [loopI_eq]
      simp [r46l0,b46l0,hlt,hsN,hCl,hAl,hcs,huN,huN2,hAu,hAs,hg1,hw,e,e',unAgg,hSv,hl]
      simpa using hn
def atA (A : List Int) (x : Int) : Int := A.getD x.toNat 0
def foR (A : List Int) (l : List Mv) : List Mv := l.map fun m => (m.1,atA A m.2)
@[simp] theorem foR_len (A : List Int) (l : List Mv) : (foR A l).length = l.length := by simp [foR]
theorem loopFo1 (E C : List PV) (A : List Int) (g : Gr) (hE : EncR false E g) (hA : A.length = g.length) (Y : PV) (YL : Objs) (xs : List PV) (hY : OwnS 97 1 Y YL xs) (j : Nat) (hj : j < g.length) (hjb : j ≤ 1048576) (L : List Mv) (hL : g.getD j [] = L) (hLt : ∀ m ∈ L,0 ≤ m.2 ∧ m.2 < g.length) (hLl : L.length ≤ 1048576) : ∀ (rest done : List Mv),L = done ++ rest →
    loopI G [1,2,4,5,8,9,10,11] [2,4,8,14,56,91,97] c46l1 ⟨[(1,.sl false 1 C),(2,.ref (0,2) 1 0 0),(4,.ref (0,4) 1 0 0),(5,.own (0,14) g.length),(8,.ref (0,8) 1 0 0),(9,.i j),(10,owP 91 (foR A done)),(11,.i done.length)],(2,.box [PV.sl false 1 E]) :: (4,.box [.nils]) :: (8,.box [Y]) :: (14,.row 1 (A.map PV.i)) :: (owL 91 (foR A done) ++ YL),[]⟩ =
      some (.exit 4,⟨[(1,.sl false 1 C),(2,.ref (0,2) 1 0 0),(4,.ref (0,4) 1 0 0),(5,.own (0,14) g.length),(8,.ref (0,8) 1 0 0),(9,.i j),(10,owP 91 (foR A L)),(11,.i L.length),(64,.b false)],(2,.box [PV.sl false 1 E]) :: (4,.box [.nils]) :: (8,.box [Y]) :: (14,.row 1 (A.map PV.i)) :: (owL 91 (foR A L) ++ YL),[]⟩)
  | [],done,hd => by
    rw [List.append_nil] at hd
    subst hd
    have hEl := hE.1
    obtain ⟨nl,hat⟩ := hE.2 j hj
    rw [hL] at hat
    have hji : (j : Int) < g.length := by omega
    clear hE
    generalize hR : A.map PV.i = R
    rw [loopI_eq]
    rcases encL_two nl false L with ⟨e,e2⟩ | e
    · rw [e] at hat
      subst e2
      rcases hY with ⟨rfl,rfl,rfl⟩ | ⟨hxs,rfl,rfl⟩
      · simp [r46l1,b46l1,hEl,hj,hji,hat,foR]
      · simp [r46l1,b46l1,hEl,hj,hji,hat,foR]
    · rw [e] at hat
      by_cases hd : L = []
      · rw [hd] at hat ⊢
        simp at hat
        rcases hY with ⟨rfl,rfl,rfl⟩ | ⟨hxs,rfl,rfl⟩
        · simp [r46l1,b46l1,hEl,hj,hji,hat,foR]
        · simp [r46l1,b46l1,hEl,hj,hji,hat,foR]
      · have hne : foR A L ≠ [] := by simp [foR,hd]
        rw [owP_ne hne,owL_ne hne]
        rcases hY with ⟨rfl,rfl,rfl⟩ | ⟨hxs,rfl,rfl⟩
        · simp [r46l1,b46l1,hEl,hj,hji,hat]
        · simp [r46l1,b46l1,hEl,hj,hji,hat]
  | m :: rest,done,hd => by
    have hEl := hE.1
    obtain ⟨nl,hat⟩ := hE.2 j hj
    rw [hL] at hat
    have hji : (j : Int) < g.length := by omega
    have hm := hLt m (by rw [hd]; simp)
    have hen : encL nl false L = .sl false 2 (L.map mvP) := encL_ne (by rw [hd]; simp)
    rw [hen] at hat
    have hLl2 : L.length = done.length + (rest.length + 1) := by rw [hd]; simp
    have hlt : (done.length : Int) < L.length := by omega
    have hlt2 : done.length < L.length := by omega
    have hw : IntKind.i64.wrap ((done.length : Int) + 1) = (done.length : Int) + 1 := wr (by omega)
    have hdl : done.length ≤ 4294967295 := by omega
    have hat2 : nth (L.map mvP) done.length = some (mvP m) := by rw [hd]; exact mv_at done m rest
    have hsn : nth (A.map PV.i) m.2.toNat = some (.i (atA A m.2)) := i_nth A (k := m.2.toNat) (by omega)
    have hn := loopFo1 E C A g hE hA Y YL xs hY j hj hjb L hL hLt hLl rest (done ++ [m]) (by simpa using hd)
    have hrl : (A.map PV.i).length = g.length := by simpa using hA
    have hm1 := hm.1
    have hm2 := hm.2
    have hml : (L.map mvP).length = L.length := by simp
    clear hE
    generalize hM : L.map mvP = M at hat hat2 hml
    generalize hR : A.map PV.i = R at hsn hrl hn ⊢
    simp only [mvP] at hat2
    rw [loopI_eq]
    rcases hY with ⟨rfl,rfl,rfl⟩ | ⟨hxs,rfl,rfl⟩
    · by_cases hdn : done = []
      · subst hdn
        simp at hat2 hn hlt
        simp [r46l1,b46l1,hEl,hj,hji,hrl,hat,hat2,hml,hlt,hlt2,mvP,unAgg,hw,hdl,wr1,hsn,hm1,hm2,foR]
        simpa [foR,mvP,Int.add_assoc] using hn
      · have hne : foR A done ≠ [] := by simp [foR,hdn]
        rw [owP_ne hne,owL_ne hne]
        simp [r46l1,b46l1,hEl,hj,hji,hrl,hat,hat2,hml,hlt,hlt2,mvP,unAgg,hw,hdl,hsn,hm1,hm2]
        simpa [foR,mvP,Int.add_assoc] using hn
    · by_cases hdn : done = []
      · subst hdn
        simp at hat2 hn hlt
        simp [r46l1,b46l1,hEl,hj,hji,hrl,hat,hat2,hml,hlt,hlt2,mvP,unAgg,hw,hdl,wr1,hsn,hm1,hm2,foR]
        simpa [foR,mvP,Int.add_assoc] using hn
      · have hne : foR A done ≠ [] := by simp [foR,hdn]
        rw [owP_ne hne,owL_ne hne]
        simp [r46l1,b46l1,hEl,hj,hji,hrl,hat,hat2,hml,hlt,hlt2,mvP,unAgg,hw,hdl,hsn,hm1,hm2]
        simpa [foR,mvP,Int.add_assoc] using hn
theorem loopFo2 (E : List PV) (cls A : List Int) (g : Gr) (hE : EncR false E g) (hg : OkTo g) (hs : SmallG g) (h1k : g.length ≤ 1000) (hA : A.length = g.length) (hl : cls.length = g.length) : ∀ (k s : Nat) (F : Gr),s + k = g.length → F.length ≤ s → SmallG F → ∀ Y YL,OwnS 97 1 Y YL (encGs true true F) →
    ∃ F' Y' YL',SmallG F' ∧ OwnS 97 1 Y' YL' (encGs true true F') ∧
    loopI G [1,2,4,5,8,9] [2,4,8,14,97] c46l2 ⟨[(1,.sl false 1 (cls.map PV.i)),(2,.ref (0,2) 1 0 0),(4,.ref (0,4) 1 0 0),(5,.own (0,14) g.length),(8,.ref (0,8) 1 0 0),(9,.i s)],(2,.box [PV.sl false 1 E]) :: (4,.box [.nils]) :: (8,.box [Y]) :: (14,.row 1 (A.map PV.i)) :: YL,[]⟩ =
      some (.exit 2,⟨[(1,.sl false 1 (cls.map PV.i)),(2,.ref (0,2) 1 0 0),(4,.ref (0,4) 1 0 0),(5,.own (0,14) g.length),(8,.ref (0,8) 1 0 0),(9,.i g.length),(47,.b false)],(2,.box [PV.sl false 1 E]) :: (4,.box [.nils]) :: (8,.box [Y']) :: (14,.row 1 (A.map PV.i)) :: YL',[]⟩)
  | 0,s,F,hk,hF,hsF,Y,YL,hY => by
    obtain rfl : s = g.length := by omega
    refine ⟨F,Y,YL,hsF,hY, ?_⟩
    rw [loopI_eq]
    rcases hY with ⟨h1,rfl,rfl⟩ | ⟨h1,rfl,rfl⟩
    · simp [r46l2,b46l2,hl]
    · simp [r46l2,b46l2,hl]
  | k + 1,s,F,hk,hF,hsF,Y,YL,hY => by
    have hsg : s < g.length := by omega
    have hlt : (s : Int) < g.length := by omega
    have hw : IntKind.i64.wrap ((s : Int) + 1) = (s : Int) + 1 := wr (by omega)
    have hcs := i_nth cls (k := s) (by omega)
    have hCl : (cls.map PV.i).length = g.length := by simp [hl]
    by_cases hcl : cls.getD s 0 = (s : Int)
    · rw [hcl] at hcs
      have hLl : (g.getD s []).length ≤ 1048576 := hs.2 _ (by rw [List.getD_eq_getElem?_getD,List.getElem?_eq_getElem hsg,Option.getD_some]; exact List.getElem_mem hsg)
      have hLt := hg.row s
      generalize hL : g.getD s [] = L at hLl hLt
      have h0 := loopFo1 E (cls.map PV.i) A g hE hA Y YL _ hY s hsg (by omega) L hL hLt hLl L [] rfl
      simp only [List.nil_append,List.length_nil,show ((0 : Nat) : Int) = 0 from rfl,show foR A [] = [] from rfl,owP_n,owL_n] at h0
      have hnew : encGs true true (F ++ [tidyL (foR A L)]) = encGs true true F ++ [encL true true (tidyL (foR A L))] := by simp [encGs]
      have hnn : encGs true true (F ++ [tidyL (foR A L)]) ≠ [] := by rw [hnew]; simp
      have hFl : (encGs true true F).length = F.length := by simp
      have hYn : OwnS 97 1 (.own (0,97) (F.length + 1)) [(97,.row 1 (encGs true true F ++ [encL true true (tidyL (foR A L))]))] (encGs true true (F ++ [tidyL (foR A L)])) := by
        refine .inr ⟨hnn, ?_, ?_⟩
        · rw [hnew]; simp
        · rw [hnew]
      have hsF2 : SmallG (F ++ [tidyL (foR A L)]) := by
        refine ⟨by simp; omega,fun l hl => ?_⟩
        rcases List.mem_append.1 hl with hl | hl
        · exact hsF.2 l hl
        · rw [List.mem_singleton] at hl
          subst hl
          refine Nat.le_trans (tidyL_len _) ?_
          simp [foR]; omega
      obtain ⟨F',Y',YL',hsF',hY',hn⟩ := loopFo2 E cls A g hE hg hs h1k hA hl k (s + 1) (F ++ [tidyL (foR A L)]) (by omega) (by simp; omega) hsF2 _ _ hYn
      refine ⟨F',Y',YL',hsF',hY', ?_⟩
      simp only [Int.natCast_add,show ((1 : Nat) : Int) = 1 from rfl] at hn
      clear hY' hE hYn hsF2 hsF'
      have hso := eqSorted true (foR A L) (by simp [foR]; omega)
      generalize hpt : tidyL (foR A L) = T at *
      have hdl : F.length ≤ 4294967295 := by omega
      generalize hR : A.map PV.i = R at h0 hn ⊢
      generalize hC : cls.map PV.i = C at h0 hn hcs hCl ⊢
      rw [loopI_eq]
      by_cases hLe : L = []
      · subst hLe
        have hr0 : foR A [] = [] := rfl
        rw [hr0,tidyL_n] at hpt
        subst hpt
        simp only [hr0,encL_n] at hso
        rcases hY with ⟨h1,rfl,rfl⟩ | ⟨h1,rfl,rfl⟩
        · have hd0 : F = [] := by cases F with | nil => rfl | cons a b => simp [encGs] at h1
          subst hd0
          simp [hr0] at h0 hn
          simp [r46l2,b46l2,hlt,hsg,hCl,hcs,noShares_mv,hw,h0,hso,wr1]
          simpa [encGs] using hn
        · simp [hr0] at h0 hn
          simp [r46l2,b46l2,hlt,hsg,hCl,hcs,noShares_mv,hw,h0,hso,hdl]
          simpa [encGs] using hn
      · have hne : foR A L ≠ [] := by simp [foR,hLe]
        have hlt3 : encL true true T = .sl true 2 (T.map mvP) := encL_ne (by rw [← hpt]; exact tidyL_ne hne)
        rw [encL_ne hne] at hso
        rw [hlt3] at hn hso
        rw [owP_ne hne,owL_ne hne] at h0
        rcases hY with ⟨h1,rfl,rfl⟩ | ⟨h1,rfl,rfl⟩
        · have hd0 : F = [] := by cases F with | nil => rfl | cons a b => simp [encGs] at h1
          subst hd0
          simp at h0 hn
          simp [r46l2,b46l2,hlt,hsg,hCl,hcs,noShares_mv,hw,h0,fals_mvP,hso,wr1]
          simpa [encGs] using hn
        · simp at h0 hn
          simp [r46l2,b46l2,hlt,hsg,hCl,hcs,noShares_mv,hw,h0,fals_mvP,hso,hdl]
          simpa [encGs] using hn
    · obtain ⟨F',Y',YL',hsF',hY',hn⟩ := loopFo2 E cls A g hE hg hs h1k hA hl k (s + 1) F (by omega) (by omega) hsF Y YL hY
      refine ⟨F',Y',YL',hsF',hY', ?_⟩
      simp only [Int.natCast_add,show ((1 : Nat) : Int) = 1 from rfl] at hn
      generalize hR : A.map PV.i = R at hn ⊢
      generalize hC : cls.map PV.i = C at hn hcs hCl ⊢
      generalize cls.getD s 0 = v at *
      rw [loopI_eq]
      rcases hY with ⟨h1,rfl,rfl⟩ | ⟨h1,rfl,rfl⟩
      · simp [r46l2,b46l2,hlt,hsg,hCl,hcs,hw,hcl]
        simpa using hn
      · simp [r46l2,b46l2,hlt,hsg,hCl,hcs,hw,hcl]
        simpa using hn
theorem eqL4Fold (E : List PV) (cls : List Int) (g : Gr) (hE : EncR false E g) (hg : OkTo g) (hs : SmallG g) (h0 : 1 ≤ g.length) (h1k : g.length ≤ 1000) (hl : cls.length = g.length) (hc : ∀ s,s < g.length → ∃ u : Nat,cls.getD s 0 = u ∧ u ≤ s) :
    ∃ F,SmallG F ∧ callI G 46 [.agg [.sl false 1 E],.sl false 1 (cls.map PV.i)] [] = some (.agg [encM' true true F],[]) := by
  obtain ⟨A,n,hA,l0⟩ := loopFo0 E cls g.length h1k hl hc g.length 0 (List.replicate g.length 0) 0 (by omega) (by simp) (by omega) (by omega)
  obtain ⟨F,Y,YL,sF,hY,l2⟩ := loopFo2 E cls A g hE hg hs h1k hA hl g.length 0 [] (by omega) (by simp) ⟨by simp,fun l hl => by cases hl⟩ .nils [] (.inl ⟨rfl,rfl,rfl⟩)
  refine ⟨F,sF, ?_⟩
  have hz : (List.replicate g.length (0 : Int)).map PV.i = List.replicate g.length (PV.i 0) := by simp
  rw [hz] at l0
  have hCl : (cls.map PV.i).length = g.length := by simp [hl]
  have hgb : (g.length : Int) ≤ 4294967296 := by omega
  simp only [show ((0 : Nat) : Int) = 0 from rfl] at l0 l2
  have hns := noShares_encGs true F
  generalize hR : A.map PV.i = R at l0 l2
  generalize hC : cls.map PV.i = C at l0 l2 hCl ⊢
  rw [callI_eq]
  rcases hY with ⟨h1,rfl,rfl⟩ | ⟨h1,rfl,rfl⟩
  · have hd0 : F = [] := by cases F with | nil => rfl | cons a b => simp [encGs] at h1
    subst hd0
    simp [body1_eq _ _ (gp 46) g46,c46,a46,hCl,hgb,l0,l2,encM']
  · have hne : encM' true true F = .sl true 1 (encGs true true F) := by
      cases F with
      | nil => simp [encGs] at h1
      | cons a b => simp [encGs]
    rw [hne]
    simp [body1_eq _ _ (gp 46) g46,c46,a46,hCl,hgb,l0,l2]
theorem eqGraphFold (g : Gr) (hs : SmallG g) : ∃ F ok,SmallG F ∧ callI G 27 [encG false false g] [] = some (.tup [encG true true F,.b ok],[]) := by
  have hok := eqOkS g hs.fit
  cases hk : grOk g with
  | false =>
    rw [hk] at hok
    refine ⟨[],false,⟨by simp,fun l hl => by cases hl⟩, ?_⟩
    simp only [encG,encM_f] at hok ⊢
    rw [callI_eq]
    simp [body1_eq _ _ (gp 27) g27,c27,a27,hok,encM']
  | true =>
    rw [hk] at hok
    obtain ⟨h1,h2,h3⟩ := grOk_to hk
    have hc := eqL4Classes (encGs false false g) g (encR_G false false g) hs h1 h2 (by omega)
    obtain ⟨F,sF,hF⟩ := eqL4Fold (encGs false false g) (clsG g) g (encR_G false false g) h1 hs h2 (by omega) (clsG_len g) (fun s hs => clsG_le g hs)
    refine ⟨F,true,sF, ?_⟩
    have hns := noShares_encGs true F
    simp only [encG,encM_f] at hok ⊢
    generalize encGs false false g = E at *
    generalize (clsG g).map PV.i = C at hc hF
    rw [callI_eq]
    rcases encM_two true true F with ⟨e,_⟩ | e <;> rw [e] at hF ⊢ <;>
      simp [body1_eq _ _ (gp 27) g27,c27,a27,hok,hc,hF,hns]
end Go.Am
end
section
set_option linter.unusedSimpArgs false
set_option linter.unusedVariables false
namespace Go.Am
theorem alk_cov {cl : List Int} {g : Gr} {s t : Nat} : alk cl g s t ↔ cl.getD t 0 = cl.getD s 0 ∧ (∀ m ∈ g.getD s [],∃ k ∈ g.getD t [],k.1 = m.1 ∧ clAt cl k.2 = clAt cl m.2) ∧ (∀ m ∈ g.getD t [],∃ k ∈ g.getD s [],k.1 = m.1 ∧ clAt cl k.2 = clAt cl m.2) := by
  rw [← smS_iff]
  simp only [smS,Bool.and_eq_true,decide_eq_true_eq,covL_iff]
theorem both_row (a b : Gr) {s : Nat} (h : s < a.length) : (bothG a b).getD s [] = a.getD s [] := by
  unfold bothG
  rw [List.getD_eq_getElem?_getD,List.getElem?_append_left h,← List.getD_eq_getElem?_getD]
theorem both_row2 (a b : Gr) (s : Nat) : (bothG a b).getD (a.length + s) [] = shL a.length (b.getD s []) := by
  unfold bothG
  rw [List.getD_eq_getElem?_getD,List.getElem?_append_right (by omega),Nat.add_sub_cancel_left,List.getElem?_map,List.getD_eq_getElem?_getD]
  cases b[s]? with
  | none => rfl
  | some r => rfl
theorem both_len (a b : Gr) : (bothG a b).length = a.length + b.length := by simp [bothG]
theorem itC_nrm (g : Gr) : ∀ (f : Nat) {cl : List Int},NrmC cl → NrmC (itC g f cl)
  | 0,_,h => h
  | f + 1,cl,_ => itC_nrm g f (nextC_nrm cl g)
theorem clsG_nrm (g : Gr) : NrmC (clsG g) := itC_nrm g _ (zer_nrm _)
end Go.Am
end
section
set_option maxRecDepth 10000
set_option maxHeartbeats 1000000
set_option linter.unusedSimpArgs false
set_option linter.unusedVariables false
namespace Go.Am
open Go.Proofs Go.Sort Go.Shelf
def sumR (g h : Gr) : List Mv := shL 1 (g.getD 0 []) ++ shL (1 + g.length : Nat) (h.getD 0 [])
def sumG (g h : Gr) : Gr := tidyL (sumR g h) :: (g.map (shL 1) ++ h.map (shL (1 + g.length : Nat)))
def graphSum (g h : Gr) : Gr × Bool := if grOk g && grOk h then made (sumG g h) else ([],false)
theorem sumG_len (g h : Gr) : (sumG g h).length = 1 + g.length + h.length := by simp [sumG]; omega
theorem getD_mem0 {g : Gr} (h : 1 ≤ g.length) : g.getD 0 [] ∈ g := by
  rw [List.getD_eq_getElem?_getD,List.getElem?_eq_getElem (by omega),Option.getD_some]
  exact List.getElem_mem _
theorem sumG_to {g h : Gr} (hg : OkTo g) (hh : OkTo h) (g1 : 1 ≤ g.length) (h1 : 1 ≤ h.length) : OkTo (sumG g h) := by
  intro l hl m hm
  rw [sumG_len]
  have key1 : ∀ l ∈ g,∀ m ∈ shL 1 l,0 ≤ m.2 ∧ m.2 < ((1 + g.length + h.length : Nat) : Int) := by
    intro l hl m hm
    simp only [shL,List.mem_map] at hm
    obtain ⟨y,hy,rfl⟩ := hm
    have := hg l hl y hy
    simp only; omega
  have key2 : ∀ l ∈ h,∀ m ∈ shL (1 + g.length : Nat) l,0 ≤ m.2 ∧ m.2 < ((1 + g.length + h.length : Nat) : Int) := by
    intro l hl m hm
    simp only [shL,List.mem_map] at hm
    obtain ⟨y,hy,rfl⟩ := hm
    have := hh l hl y hy
    simp only; omega
  unfold sumG at hl
  rcases List.mem_cons.1 hl with rfl | hl
  · have hm := ((tidyL_sd _).2 m).1 hm
    unfold sumR at hm
    rcases List.mem_append.1 hm with hm | hm
    · exact key1 _ (getD_mem0 g1) m hm
    · exact key2 _ (getD_mem0 h1) m hm
  · rcases List.mem_append.1 hl with hl | hl
    · obtain ⟨r,hr,rfl⟩ := List.mem_map.1 hl
      exact key1 r hr m hm
    · obtain ⟨r,hr,rfl⟩ := List.mem_map.1 hl
      exact key2 r hr m hm
def keyM (n : Nat) (m : Mv) : Int := (m.1 + 4) * n + m.2
theorem mvOk_in {n : Nat} {m : Mv} (h : mvOk n m = true) : -4 ≤ m.1 ∧ m.1 ≤ 4 ∧ 0 ≤ m.2 ∧ m.2 < n := by
  simp only [mvOk,actOk,Bool.and_eq_true,decide_eq_true_eq] at h
  omega
theorem keyM_lt {n : Nat} {p m : Mv} (hp : mvOk n p = true) (hm : mvOk n m = true) (h : ltM p m = true) : keyM n p < keyM n m := by
  have a := mvOk_in hp
  have b := mvOk_in hm
  unfold keyM
  rcases (ltM_iff p m).1 h with h | ⟨h1,h2⟩
  · have h3 : (p.1 + 4 + 1) * (n : Int) ≤ (m.1 + 4) * n := Int.mul_le_mul_of_nonneg_right (by omega) (by omega)
    rw [Int.add_mul,Int.one_mul] at h3
    omega
  · rw [h1]; omega
theorem keyM_le {n : Nat} {m : Mv} (hm : mvOk n m = true) : 0 ≤ keyM n m ∧ keyM n m < 9 * n := by
  have b := mvOk_in hm
  unfold keyM
  have h1 : 0 ≤ (m.1 + 4) * (n : Int) := Int.mul_nonneg (by omega) (by omega)
  have h2 : (m.1 + 4) * (n : Int) ≤ 8 * n := Int.mul_le_mul_of_nonneg_right (by omega) (by omega)
  omega
theorem rowOk_len {n : Nat} : ∀ {l : List Mv} {p : Mv},mvOk n p = true → rowOk n (some p) l = true → (l.length : Int) + keyM n p + 1 ≤ 9 * n
  | [],p,hp,_ => by have := (keyM_le hp).2; simp only [List.length_nil]; omega
  | m :: l,p,hp,h => by
    simp only [rowOk,prevOk,Bool.and_eq_true] at h
    have h1 := rowOk_len h.1 h.2.2
    have h2 := keyM_lt hp h.1 h.2.1
    simp only [List.length_cons]
    omega
theorem grOk_short {g : Gr} (h : grOk g = true) : ∀ l ∈ g,l.length ≤ 540 := by
  intro l hl
  have h60 := (grOk_to h).2.2
  simp only [grOk,Bool.and_eq_true,decide_eq_true_eq,List.all_eq_true] at h
  have hr := h.2.2 l hl
  cases l with
  | nil => simp
  | cons m l =>
    simp only [rowOk,Bool.and_eq_true] at hr
    have h1 := rowOk_len hr.1 hr.2.2
    have h2 := (keyM_le hr.1).1
    simp only [List.length_cons]
    omega
theorem sumG_small {g h : Gr} (hg : SmallG g) (hh : SmallG h) (h60 : g.length ≤ 60) (k60 : h.length ≤ 60) (hr : (sumR g h).length ≤ 1048576) : SmallG (sumG g h) := by
  refine ⟨by rw [sumG_len]; omega,fun l hl => ?_⟩
  unfold sumG at hl
  rcases List.mem_cons.1 hl with rfl | hl
  · exact Nat.le_trans (tidyL_len _) hr
  · rcases List.mem_append.1 hl with hl | hl
    · obtain ⟨r,hr,rfl⟩ := List.mem_map.1 hl
      rw [shL_len]; exact hg.2 r hr
    · obtain ⟨r,hr,rfl⟩ := List.mem_map.1 hl
      rw [shL_len]; exact hh.2 r hr
theorem loopGu0 (B : PV) (hB : ∀ f n,known f n B = true) (n : Nat) (hn60 : n ≤ 60) (XA : List PV) (hXA : XA.length = n) (at_ : Int) (b : Gr) (hb : OkTo b) (h60 : b.length ≤ 60) (hs : SmallG b) : ∀ (rest done : Gr),b = done ++ rest →
    loopI G [3,4,6,7,40,41,42] [3,4,38,50,64,67] c5l0 ⟨[(3,.ref (0,3) 1 0 0),(4,.ref (0,4) 1 0 0),(6,.i at_),(7,.own (0,38) (n + done.length)),(40,.sl false 1 (encGs false false b)),(41,.i b.length),(42,.i done.length)],[(3,.box [B]),(4,.box [.nils]),(38,.row 1 (XA ++ encGs true true (done.map (shL 1))))],[]⟩ =
      some (.exit 0,⟨[(3,.ref (0,3) 1 0 0),(4,.ref (0,4) 1 0 0),(6,.i at_),(7,.own (0,38) (n + b.length)),(40,.sl false 1 (encGs false false b)),(41,.i b.length),(42,.i b.length),(43,.b false)],[(3,.box [B]),(4,.box [.nils]),(38,.row 1 (XA ++ encGs true true (b.map (shL 1))))],[]⟩)
  | [],done,hd => by
    rw [List.append_nil] at hd
    subst hd
    generalize XA ++ encGs true true (b.map (shL 1)) = Q
    generalize encGs false false b = E
    rw [loopI_eq]
    simp [r5l0,b5l0,hB]
  | x :: rest,done,hd => by
    have hrl : b.length = done.length + (rest.length + 1) := by rw [hd]; simp
    have hlt : (done.length : Int) < b.length := by omega
    have hlt2 : done.length < b.length := by omega
    have hw : IntKind.i64.wrap ((done.length : Int) + 1) = (done.length : Int) + 1 := wr (by omega)
    have hdl : n + done.length ≤ 4294967295 := by omega
    have hat : nth (encGs false false b) done.length = some (.sl false 2 (x.map mvP)) := by rw [hd]; simpa using gr_at false false done x rest
    have hEl : (encGs false false b).length = b.length := by simp
    have hxb : x ∈ b := by rw [hd]; simp
    have hsh := eqShift 1 (by omega) x (fun m hm => by have := hb x hxb m hm; omega) (by have := hs.2 x hxb; omega)
    have hn := loopGu0 B hB n hn60 XA hXA at_ b hb h60 hs rest (done ++ [x]) (by simpa using hd)
    have hnew : XA ++ encGs true true ((done ++ [x]).map (shL 1)) = (XA ++ encGs true true (done.map (shL 1))) ++ [encL true true (shL 1 x)] := by simp [encGs]
    have hDl : (XA ++ encGs true true (done.map (shL 1))).length = n + done.length := by simp [hXA]
    rw [hnew] at hn
    simp only [List.length_append,List.length_cons,List.length_nil,Int.natCast_add,show ((0 + 1 : Nat) : Int) = 1 from rfl] at hn
    have hna : n + (done.length + (0 + 1)) = n + done.length + 1 := by omega
    rw [hna] at hn
    have hns := noShares_mv (shL 1 x)
    generalize hF : XA ++ encGs true true (b.map (shL 1)) = F at hn ⊢
    generalize hD : XA ++ encGs true true (done.map (shL 1)) = D at hn hDl ⊢
    generalize hE : encGs false false b = E at hat hEl hn ⊢
    rw [loopI_eq]
    rcases encL_two true true (shL 1 x) with ⟨e,_⟩ | e
    · rw [e] at hsh hn
      simp [r5l0,b5l0,hB,hlt,hlt2,hat,hEl,hsh,hDl,hdl,hw]
      exact hn
    · rw [e] at hsh hn
      generalize (shL 1 x).map mvP = Q at hsh hn hns
      simp [r5l0,b5l0,hB,hlt,hlt2,hat,hEl,hsh,hDl,hdl,hw,hns]
      exact hn
theorem loopGu1 (n k : Nat) (hn60 : n ≤ 200) (hk : k ≤ 1000) (XA : List PV) (hXA : XA.length = n) (b : Gr) (hb : OkTo b) (h60 : b.length ≤ 60) (hs : SmallG b) : ∀ (rest done : Gr),b = done ++ rest →
    loopI G [4,6,7,53,54,55] [4,38,50,64,67] c5l1 ⟨[(4,.ref (0,4) 1 0 0),(6,.i k),(7,.own (0,38) (n + done.length)),(53,.sl false 1 (encGs false false b)),(54,.i b.length),(55,.i done.length)],[(4,.box [.nils]),(38,.row 1 (XA ++ encGs true true (done.map (shL k))))],[]⟩ =
      some (.exit 2,⟨[(4,.ref (0,4) 1 0 0),(6,.i k),(7,.own (0,38) (n + b.length)),(53,.sl false 1 (encGs false false b)),(54,.i b.length),(55,.i b.length),(56,.b false)],[(4,.box [.nils]),(38,.row 1 (XA ++ encGs true true (b.map (shL k))))],[]⟩)
  | [],done,hd => by
    rw [List.append_nil] at hd
    subst hd
    generalize XA ++ encGs true true (b.map (shL k)) = Q
    generalize encGs false false b = E
    rw [loopI_eq]
    simp [r5l1,b5l1]
  | x :: rest,done,hd => by
    have hrl : b.length = done.length + (rest.length + 1) := by rw [hd]; simp
    have hlt : (done.length : Int) < b.length := by omega
    have hlt2 : done.length < b.length := by omega
    have hw : IntKind.i64.wrap ((done.length : Int) + 1) = (done.length : Int) + 1 := wr (by omega)
    have hdl : n + done.length ≤ 4294967295 := by omega
    have hat : nth (encGs false false b) done.length = some (.sl false 2 (x.map mvP)) := by rw [hd]; simpa using gr_at false false done x rest
    have hEl : (encGs false false b).length = b.length := by simp
    have hxb : x ∈ b := by rw [hd]; simp
    have hsh := eqShift k (by omega) x (fun m hm => by have := hb x hxb m hm; omega) (by have := hs.2 x hxb; omega)
    have hn := loopGu1 n k hn60 hk XA hXA b hb h60 hs rest (done ++ [x]) (by simpa using hd)
    have hnew : XA ++ encGs true true ((done ++ [x]).map (shL k)) = (XA ++ encGs true true (done.map (shL k))) ++ [encL true true (shL k x)] := by simp [encGs]
    have hDl : (XA ++ encGs true true (done.map (shL k))).length = n + done.length := by simp [hXA]
    rw [hnew] at hn
    simp only [List.length_append,List.length_cons,List.length_nil,Int.natCast_add,show ((0 + 1 : Nat) : Int) = 1 from rfl] at hn
    have hna : n + (done.length + (0 + 1)) = n + done.length + 1 := by omega
    rw [hna] at hn
    have hns := noShares_mv (shL k x)
    generalize hF : XA ++ encGs true true (b.map (shL k)) = F at hn ⊢
    generalize hD : XA ++ encGs true true (done.map (shL k)) = D at hn hDl ⊢
    generalize hE : encGs false false b = E at hat hEl hn ⊢
    rw [loopI_eq]
    rcases encL_two true true (shL k x) with ⟨e,_⟩ | e
    · rw [e] at hsh hn
      simp [r5l1,b5l1,hlt,hlt2,hat,hEl,hsh,hDl,hdl,hw]
      exact hn
    · rw [e] at hsh hn
      generalize (shL k x).map mvP = Q at hsh hn hns
      simp [r5l1,b5l1,hlt,hlt2,hat,hEl,hsh,hDl,hdl,hw,hns]
      exact hn
theorem eqGraphSumI (g h : Gr) (hsG : SmallG g) (hsH : SmallG h) (hfG : FitG g) (hfH : FitG h) :
    callI G 5 [.agg [.sl false 1 (encGs false false g)],.agg [.sl false 1 (encGs false false h)]] [] = some (.tup [encG true true (graphSum g h).1,.b (graphSum g h).2],[]) := by
  have h1 := eqOkI g hfG
  have h2 := eqOkI h hfH
  simp only [encG,encM_f] at h1 h2
  have hE1 : (encGs false false g).length = g.length := by simp
  have hE2 : (encGs false false h).length = h.length := by simp
  cases c1 : grOk g with
  | false =>
    rw [c1] at h1
    rw [callI_eq]
    simp [body1_eq _ _ (gp 5) g5,c5,a5,h1,graphSum,c1]
  | true =>
    rw [c1] at h1
    cases c2 : grOk h with
    | false =>
      rw [c2] at h2
      rw [callI_eq]
      simp [body1_eq _ _ (gp 5) g5,c5,a5,h1,h2,graphSum,c1,c2]
    | true =>
      rw [c2] at h2
      obtain ⟨p1,p2,p3⟩ := grOk_to c1
      obtain ⟨q1,q2,q3⟩ := grOk_to c2
      have hw : IntKind.i64.wrap (1 + (g.length : Int)) = ((1 + g.length : Nat) : Int) := by rw [wr (by omega)]; omega
      have hmg := getD_mem0 p2
      have hmh := getD_mem0 q2
      have hlg := grOk_short c1 _ hmg
      have hlh := grOk_short c2 _ hmh
      have hs1 := eqShift 1 (by omega) (g.getD 0 []) (fun m hm => by have := p1 _ hmg m hm; omega) (by omega)
      have hs2 := eqShift ((1 + g.length : Nat) : Int) (by omega) (h.getD 0 []) (fun m hm => by have := q1 _ hmh m hm; omega) (by omega)
      have hn1 : nth (encGs false false g) 0 = some (.sl false 2 ((g.getD 0 []).map mvP)) := by rw [gr_nth false false g 0 (by omega)]; simp
      have hn2 : nth (encGs false false h) 0 = some (.sl false 2 ((h.getD 0 []).map mvP)) := by rw [gr_nth false false h 0 (by omega)]; simp
      have hg0 : 0 < g.length := by omega
      have hh0 : 0 < h.length := by omega
      have hg0i : (0 : Int) < g.length := by omega
      have hh0i : (0 : Int) < h.length := by omega
      have hAB : (shL 1 (g.getD 0 [])).length + (shL (1 + g.length : Nat) (h.getD 0 [])).length ≤ 1080 := by simp only [shL_len]; omega
      have hsr : (sumR g h).length ≤ 1080 := by unfold sumR; rw [List.length_append]; exact hAB
      have hsm := sumG_small hsG hsH p3 q3 (by omega)
      have hEE : EncR true ([PV.sl true 2 ((tidyL (sumR g h)).map mvP)] ++ encGs true true (g.map (shL 1)) ++ encGs true true (h.map (shL (1 + g.length : Nat)))) (sumG g h) := by
        have := ((encR_G false true [tidyL (sumR g h)]).app (encR_G true true (g.map (shL 1)))).app (encR_G true true (h.map (shL (1 + g.length : Nat))))
        simpa [encGs,sumG] using this
      have hp := eqPartOf _ (sumG g h) hEE.fal (sumG_to p1 q1 p2 q2) hsm (by rw [sumG_len]; omega)
      have l0 := loopGu0 (.sl false 1 (encGs false false h)) (by intro f n; simp) 1 (by omega) [PV.sl true 2 ((tidyL (sumR g h)).map mvP)] rfl ((1 + g.length : Nat) : Int) g p1 p3 hsG g [] rfl
      have l1 := loopGu1 (1 + g.length) (1 + g.length) (by omega) (by omega) ([PV.sl true 2 ((tidyL (sumR g h)).map mvP)] ++ encGs true true (g.map (shL 1))) (by simp; omega) h q1 q3 hsH h [] rfl
      simp only [List.length_nil,show ((0 : Nat) : Int) = 0 from rfl,List.map_nil,show encGs true true [] = [] from rfl,List.append_nil,Nat.add_zero] at l0 l1
      have hga : graphSum g h = made (sumG g h) := by simp [graphSum,c1,c2]
      have hXl : ([PV.sl true 2 ((tidyL (sumR g h)).map mvP)] ++ encGs true true (g.map (shL 1)) ++ encGs true true (h.map (shL (1 + g.length : Nat)))).length = 1 + g.length + h.length := by rw [hEE.1,sumG_len]
      have hns0 := noShares_mv (tidyL (sumR g h))
      rw [hga]
      generalize hm : made (sumG g h) = m at hp ⊢
      obtain ⟨mg,mb⟩ := m
      simp only [encG] at hp ⊢
      have hns := noShares_encGs true mg
      have hsR : sumR g h = shL 1 (g.getD 0 []) ++ shL (1 + g.length : Nat) (h.getD 0 []) := rfl
      have hnA := noShares_mv (shL 1 (g.getD 0 []))
      have hnB := noShares_mv (shL (1 + g.length : Nat) (h.getD 0 []))
      generalize hX1 : [PV.sl true 2 ((tidyL (sumR g h)).map mvP)] ++ encGs true true (g.map (shL 1)) ++ encGs true true (h.map (shL (1 + g.length : Nat))) = X1 at hp l1 hXl
      generalize hX0 : [PV.sl true 2 ((tidyL (sumR g h)).map mvP)] ++ encGs true true (g.map (shL 1)) = X0 at l0 l1
      rw [hsR] at l0 hns0 hsr
      generalize shL 1 (g.getD 0 []) = A at hs1 hAB hnA l0 hns0 hsr
      generalize shL (1 + g.length : Nat) (h.getD 0 []) = B at hs2 hAB hnB l0 hns0 hsr
      generalize ((1 + g.length : Nat) : Int) = ati at hw hs2 l0 l1
      generalize (g.getD 0 []).map mvP = GA at hs1 hn1
      generalize (h.getD 0 []).map mvP = HB at hs2 hn2
      generalize encGs false false g = E1 at h1 hE1 hn1 l0 l1 ⊢
      generalize encGs false false h = E2 at h2 hE2 hn2 l0 l1 ⊢
      have hAl : (A.map mvP).length = A.length := by simp
      have hBl : (B.map mvP).length = B.length := by simp
      have hfA := fals_mvP A
      have hfB := fals_mvP B
      have hA4 : A.length ≤ 4294967296 := by omega
      have hB4 : B.length ≤ 4294967296 := by omega
      have hAB4 : A.length + B.length ≤ 4294967296 := by omega
      rcases encL_two true true A with ⟨eA,eA2⟩ | eA
      · rcases encL_two true true B with ⟨eB,eB2⟩ | eB
        · subst eA2 eB2
          rw [eA] at hs1
          rw [eB] at hs2
          rcases eqTidy (0,36) [] [[(2,.box [.sl false 1 E1]),(3,.box [.sl false 1 E2]),(4,.box [.nils]),(36,.row 2 [])]] (by simp) rfl (by simp) with ⟨hq,ht⟩ | ht
          all_goals
            simp only [List.append_nil,tidyL_n,List.map_nil,List.length_nil] at ht l0
            rcases encM_two true true mg with ⟨e,_⟩ | e
            all_goals
              rw [e] at hp ⊢
              rw [callI_eq]
              simp [body1_eq _ _ (gp 5) g5,c5,a5,h1,h2,hE1,hE2,hw,hn1,hn2,hg0,hh0,hg0i,hh0i,hs1,hs2,ht,setS,setO,l0,l1,hXl,hp,hns]
        · subst eA2
          rw [eA] at hs1
          rw [eB] at hs2
          rcases eqTidy (0,36) B [[(2,.box [.sl false 1 E1]),(3,.box [.sl false 1 E2]),(4,.box [.nils]),(35,.dead),(36,.row 2 (B.map mvP))]] (by simp) rfl (by omega) with ⟨hq,ht⟩ | ht
          all_goals
            simp only [List.nil_append] at l0 hns0
            first
              | have hTl : (tidyL B).length = B.length := by rw [hq]; simp [srtM]
              | have hTl : True := trivial
            have hTm : ((tidyL B).map mvP).length = (tidyL B).length := by simp
            generalize (tidyL B).map mvP = TB at ht l0 hns0 hTm
            generalize B.map mvP = BM at hs2 ht hBl hfB hnB
            rcases encM_two true true mg with ⟨e,_⟩ | e
            all_goals
              rw [e] at hp ⊢
              rw [callI_eq]
              simp [body1_eq _ _ (gp 5) g5,c5,a5,h1,h2,hE1,hE2,hw,hn1,hn2,hg0,hh0,hg0i,hh0i,hs1,hs2,hBl,hfB,hnB,hB4,ht,setS,setO,hTm,hTl,l0,l1,hXl,hp,hns,hns0]
      · rcases encL_two true true B with ⟨eB,eB2⟩ | eB
        · subst eB2
          rw [eA] at hs1
          rw [eB] at hs2
          rcases eqTidy (0,29) A [[(2,.box [.sl false 1 E1]),(3,.box [.sl false 1 E2]),(4,.box [.nils]),(29,.row 2 (A.map mvP))]] (by simp) rfl (by omega) with ⟨hq,ht⟩ | ht
          all_goals
            simp only [List.append_nil] at l0 hns0
            first
              | have hTl : (tidyL A).length = A.length := by rw [hq]; simp [srtM]
              | have hTl : True := trivial
            have hTm : ((tidyL A).map mvP).length = (tidyL A).length := by simp
            generalize (tidyL A).map mvP = TB at ht l0 hns0 hTm
            generalize A.map mvP = AM at hs1 ht hAl hfA hnA
            rcases encM_two true true mg with ⟨e,_⟩ | e
            all_goals
              rw [e] at hp ⊢
              rw [callI_eq]
              simp [body1_eq _ _ (gp 5) g5,c5,a5,h1,h2,hE1,hE2,hw,hn1,hn2,hg0,hh0,hg0i,hh0i,hs1,hs2,hAl,hfA,hnA,hA4,ht,setS,setO,hTm,hTl,l0,l1,hXl,hp,hns,hns0]
        · rw [eA] at hs1
          rw [eB] at hs2
          rcases eqTidy (0,29) (A ++ B) [[(2,.box [.sl false 1 E1]),(3,.box [.sl false 1 E2]),(4,.box [.nils]),(29,.row 2 (A.map mvP ++ B.map mvP)),(35,.dead)]] (by simp) (by simp [getS,getO]) (by simp; omega) with ⟨hq,ht⟩ | ht
          all_goals
            first
              | have hTl : (tidyL (A ++ B)).length = A.length + B.length := by rw [hq]; simp [srtM]
              | have hTl : True := trivial
            have hTm : ((tidyL (A ++ B)).map mvP).length = (tidyL (A ++ B)).length := by simp
            rw [List.length_append] at ht
            generalize (tidyL (A ++ B)).map mvP = TB at ht l0 hns0 hTm
            generalize A.map mvP = AM at hs1 ht hAl hfA hnA
            generalize B.map mvP = BM at hs2 ht hBl hfB hnB
            rcases encM_two true true mg with ⟨e,_⟩ | e
            all_goals
              rw [e] at hp ⊢
              rw [callI_eq]
              simp [body1_eq _ _ (gp 5) g5,c5,a5,h1,h2,hE1,hE2,hw,hn1,hn2,hg0,hh0,hg0i,hh0i,hs1,hs2,hAl,hfA,hnA,hA4,hBl,hfB,hnB,hB4,hAB4,ht,setS,setO,hTm,hTl,l0,l1,hXl,hp,hns,hns0]
end Go.Am
end
section
set_option maxRecDepth 10000
set_option maxHeartbeats 1000000
set_option linter.unusedSimpArgs false
set_option linter.unusedVariables false
namespace Go.Am
open Go.Proofs Go.Sort Go.Shelf
end Go.Am
end
section
set_option maxRecDepth 10000
set_option maxHeartbeats 1000000
set_option linter.unusedSimpArgs false
set_option linter.unusedVariables false
namespace Go.Am
open Go.Proofs Go.Sort Go.Shelf
end Go.Am
end
section
set_option maxRecDepth 10000
set_option maxHeartbeats 1000000
set_option linter.unusedSimpArgs false
set_option linter.unusedVariables false
namespace Go.Am
open Go.Proofs Go.Sort Go.Shelf
end Go.Am
end
section
set_option maxRecDepth 10000
set_option maxHeartbeats 1000000
set_option linter.unusedSimpArgs false
set_option linter.unusedVariables false
namespace Go.Am
open Go.Proofs Go.Sort Go.Shelf
def bools (l : List Bool) : List PV := l.map PV.b
@[simp] theorem bools_len (l : List Bool) : (bools l).length = l.length := by simp [bools]
@[simp] theorem fals_bools : ∀ l : List Bool,fals (bools l) = bools l
  | [] => rfl
  | x :: l => by
    have := fals_bools l
    simp only [bools,List.map_cons,fals] at this ⊢
    rw [this]; rfl
end Go.Am
end
section
set_option linter.unusedSimpArgs false
set_option linter.unusedVariables false
namespace Go.Am
def lMN (nm : Int → Bool) (sync : Bool) (n : Nat) (m x : Mv) : List Mv :=
  if sync = true then (if x.1 = m.1 ∧ nm m.1 = true then [(m.1,m.2 * n + x.2)] else []) else (if m.1 ≠ 0 ∧ x.1 = -m.1 then [(0,m.2 * n + x.2)] else [])
def lM (nm : Int → Bool) (sync : Bool) (n t : Nat) (H : List Mv) (m : Mv) : List Mv := (if nm m.1 = true then [] else [(m.1,m.2 * n + t)]) ++ H.flatMap (lMN nm sync n m)
def lX (nm : Int → Bool) (n s : Nat) (x : Mv) : List Mv := if nm x.1 = true then [] else [(x.1,(s : Int) * n + x.2)]
def prL (nm : Int → Bool) (sync : Bool) (n s t : Nat) (Gs H : List Mv) : List Mv := Gs.flatMap (lM nm sync n t H) ++ H.flatMap (lX nm n s)
def prR (nm : Int → Bool) (sync : Bool) (g h : Gr) (s t : Nat) : List Mv := tidyL (prL nm sync h.length s t (g.getD s []) (h.getD t []))
def prRow (nm : Int → Bool) (sync : Bool) (g h : Gr) (s : Nat) (k : Nat) : Gr := (List.range k).map (prR nm sync g h s)
def prRows (nm : Int → Bool) (sync : Bool) (g h : Gr) : Nat → Gr
  | 0 => []
  | k + 1 => prRows nm sync g h k ++ prRow nm sync g h k h.length
def pairG (nm : Int → Bool) (sync : Bool) (g h : Gr) : Gr := prRows nm sync g h g.length
def pairs (nm : Int → Bool) (sync : Bool) (g h : Gr) : Gr × Bool := if grOk g && grOk h then made (pairG nm sync g h) else ([],false)
end Go.Am
end
section
set_option linter.unusedSimpArgs false
set_option linter.unusedVariables false
namespace Go.Am
def Bis (F : Gr) (B : Nat → Nat → Prop) : Prop := ∀ s t,B s t → s < F.length ∧ t < F.length ∧
  (∀ m ∈ F.getD s [],∃ k ∈ F.getD t [],k.1 = m.1 ∧ B m.2.toNat k.2.toNat) ∧ (∀ k ∈ F.getD t [],∃ m ∈ F.getD s [],m.1 = k.1 ∧ B m.2.toNat k.2.toNat)
theorem bis_it {F : Gr} {B : Nat → Nat → Prop} (hB : Bis F B) : ∀ (f : Nat) (cl : List Int),(∀ s t,B s t → cl.getD s 0 = cl.getD t 0) → ∀ s t,B s t → (itC F f cl).getD s 0 = (itC F f cl).getD t 0
  | 0,cl,h => h
  | f + 1,cl,h => by
    refine bis_it hB f (nextC cl F) fun s t hb => ?_
    obtain ⟨hs,ht,h1,h2⟩ := hB s t hb
    rw [nextC_at hs,nextC_at ht]
    have : nxt cl F s = nxt cl F t := nxt_eq.2 (alk_cov.2 ⟨(h s t hb).symm,fun m hm => ?_,fun k hk => ?_⟩)
    · rw [this]
    · obtain ⟨k,hk,e,hb2⟩ := h1 m hm
      exact ⟨k,hk,e,(h _ _ hb2).symm⟩
    · obtain ⟨m,hm,e,hb2⟩ := h2 k hk
      exact ⟨m,hm,e,h _ _ hb2⟩
theorem bis_cls {F : Gr} {B : Nat → Nat → Prop} (hB : Bis F B) {s t : Nat} (h : B s t) : (clsG F).getD s 0 = (clsG F).getD t 0 :=
  bis_it hB _ _ (fun s t _ => by rw [zer_at,zer_at]) s t h
theorem cls_zero (F : Gr) (h : 0 < F.length) : (clsG F).getD 0 0 = 0 := by
  obtain ⟨u,h1,h2,_⟩ := clsG_nrm F 0 (by rw [clsG_len]; exact h)
  rw [h1]
  have : u = 0 := by omega
  rw [this]; rfl
theorem addNew_mem : ∀ (l : List Mv) (row : List Int),∀ m ∈ l,m.2 ∈ addNew row l
  | m :: l,row,x,hx => by
    simp only [addNew]
    rcases List.mem_cons.1 hx with rfl | hx
    · obtain ⟨t,ht⟩ := addNew_pre l (if x.2 ∈ row then row else row ++ [x.2])
      rw [ht]
      refine List.mem_append.2 (.inl ?_)
      split
      · assumption
      · simp
    · exact addNew_mem l _ x hx
theorem bfs_closed {g : Gr} (hg : OkTo g) : ∀ (f i : Nat) (row : List Int),InN g.length row → i ≤ row.length → g.length + 1 ≤ i + f → (∀ j,j < i → ∀ m ∈ g.getD (row.getD j 0).toNat [],m.2 ∈ row) →
    ∀ x ∈ bfs g f i row,∀ m ∈ g.getD x.toNat [],m.2 ∈ bfs g f i row
  | 0,i,row,h,hi,hf,hc => by
    have := h.len
    omega
  | f + 1,i,row,h,hi,hf,hc => by
    simp only [bfs]
    split
    · rename_i hlt
      obtain ⟨t,ht⟩ := addNew_pre (g.getD (row.getD i 0).toNat []) row
      have hpre : ∀ j,j < row.length → (addNew row (g.getD (row.getD i 0).toNat [])).getD j 0 = row.getD j 0 := fun j hj => by
        rw [ht,List.getD_eq_getElem?_getD,List.getD_eq_getElem?_getD,List.getElem?_append_left hj]
      refine bfs_closed hg f (i + 1) _ (h.add (hg.row _)) ?_ (by omega) fun j hj m hm => ?_
      · have := addNew_len (g.getD (row.getD i 0).toNat []) row
        omega
      · rw [hpre j (by omega)] at hm
        by_cases e : j = i
        · subst e
          exact addNew_mem _ _ m hm
        · rw [ht]
          exact List.mem_append.2 (.inl (hc j (by omega) m hm))
    · rename_i hge
      intro x hx m hm
      obtain ⟨j,hj,rfl⟩ := List.getElem_of_mem hx
      refine hc j (by omega) m ?_
      have e : row.getD j 0 = row[j] := by rw [List.getD_eq_getElem?_getD,List.getElem?_eq_getElem hj]; rfl
      rw [e]
      exact hm
theorem reach_closed {g : Gr} (hg : OkTo g) (h : 0 < g.length) : ∀ x ∈ reach g 0,∀ m ∈ g.getD x.toNat [],m.2 ∈ reach g 0 :=
  bfs_closed hg _ 0 [0] (InN.one (by omega)) (by simp) (by omega) fun j hj => by omega
theorem bfs_pre (g : Gr) : ∀ (f i : Nat) (row : List Int),∃ t,bfs g f i row = row ++ t
  | 0,i,row => ⟨[],by simp [bfs]⟩
  | f + 1,i,row => by
    simp only [bfs]
    split
    · obtain ⟨t,ht⟩ := addNew_pre (g.getD (row.getD i 0).toNat []) row
      obtain ⟨t2,ht2⟩ := bfs_pre g f (i + 1) (addNew row (g.getD (row.getD i 0).toNat []))
      exact ⟨t ++ t2,by rw [ht2,ht,List.append_assoc]⟩
    · exact ⟨[],by simp⟩
theorem reach_first (g : Gr) : (reach g 0).getD 0 0 = 0 ∧ 0 < (reach g 0).length := by
  obtain ⟨t,ht⟩ := bfs_pre g (g.length + 1) 0 [0]
  unfold reach
  rw [ht]
  simp
theorem atG_at (x : Int) : ∀ (row : List Int) (i : Nat),x ∈ row → ∃ j : Nat,j < row.length ∧ atG i row x = ((i + j : Nat) : Int) ∧ row.getD j 0 = x
  | y :: l,i,h => by
    simp only [atG]
    by_cases e : y = x
    · exact ⟨0,by simp,by simp [e],by simp [e]⟩
    · have hx : x ∈ l := by
        rcases List.mem_cons.1 h with h | h
        · exact absurd h.symm e
        · exact h
      obtain ⟨j,h1,h2,h3⟩ := atG_at x l (i + 1) hx
      exact ⟨j + 1,by simp; omega,by rw [if_neg e,h2]; congr 1; omega,by simpa using h3⟩
theorem atOf_at {x : Int} {row : List Int} (h : x ∈ row) : (atOf row x).toNat < row.length ∧ row.getD (atOf row x).toNat 0 = x := by
  obtain ⟨j,h1,h2,h3⟩ := atG_at x row 0 h
  unfold atOf
  rw [h2]
  have : (((0 + j : Nat) : Int)).toNat = j := by omega
  rw [this]
  exact ⟨h1,h3⟩
theorem part_row (g : Gr) {i : Nat} (h : i < (reach g 0).length) : (partG g 0).getD i [] = tidyL (reT (reach g 0) (g.getD ((reach g 0).getD i 0).toNat [])) := by
  unfold partG
  rw [List.getD_eq_getElem?_getD,List.getElem?_map,List.getElem?_eq_getElem h]
  simp [h]
theorem part_mem (g : Gr) {i : Nat} (h : i < (reach g 0).length) (z : Mv) : z ∈ (partG g 0).getD i [] ↔ ∃ m ∈ g.getD ((reach g 0).getD i 0).toNat [],z = (m.1,atOf (reach g 0) m.2) := by
  rw [part_row g h,(tidyL_sd _).2]
  unfold reT
  rw [List.mem_map]
  exact ⟨fun ⟨m,h1,h2⟩ => ⟨m,h1,h2.symm⟩,fun ⟨m,h1,h2⟩ => ⟨m,h1,h2.symm⟩⟩
theorem part_len (g : Gr) : (partG g 0).length = (reach g 0).length := by simp [partG]
theorem made_bis {A A' : Gr} (hA : OkTo A) (hA' : OkTo A') (h0 : 0 < A.length) (h0' : 0 < A'.length) (C : Int → Int → Prop)
    (hC : ∀ x y,C x y → (∀ m ∈ A.getD x.toNat [],∃ k ∈ A'.getD y.toNat [],k.1 = m.1 ∧ C m.2 k.2) ∧ (∀ k ∈ A'.getD y.toNat [],∃ m ∈ A.getD x.toNat [],m.1 = k.1 ∧ C m.2 k.2)) (hC0 : C 0 0) :
    (clsG (bothG (partG A 0) (partG A' 0))).getD (partG A 0).length 0 = 0 := by
  have hB : Bis (bothG (partG A 0) (partG A' 0)) (fun p q => ∃ i j : Nat,i < (reach A 0).length ∧ j < (reach A' 0).length ∧ p = i ∧ q = (partG A 0).length + j ∧ C ((reach A 0).getD i 0) ((reach A' 0).getD j 0)) := by
    rintro p q ⟨i,j,hi,hj,rfl,rfl,hc⟩
    have hpi : p < (partG A 0).length := by rw [part_len]; exact hi
    obtain ⟨c1,c2⟩ := hC _ _ hc
    have hmi : (reach A 0).getD p 0 ∈ reach A 0 := getD_mem hi
    have hmj : (reach A' 0).getD j 0 ∈ reach A' 0 := getD_mem hj
    refine ⟨by rw [both_len]; omega,by rw [both_len,part_len A']; omega, ?_, ?_⟩
    · intro z hz
      rw [both_row _ _ hpi,part_mem A hi] at hz
      obtain ⟨m,hm,rfl⟩ := hz
      obtain ⟨k,hk,e,hck⟩ := c1 m hm
      have hm2 := reach_closed hA h0 _ hmi m hm
      have hk2 := reach_closed hA' h0' _ hmj k hk
      obtain ⟨a1,a2⟩ := atOf_at hm2
      obtain ⟨b1,b2⟩ := atOf_at hk2
      refine ⟨(k.1,atOf (reach A' 0) k.2 + (partG A 0).length), ?_,e,(atOf (reach A 0) m.2).toNat,(atOf (reach A' 0) k.2).toNat,a1,b1,rfl, ?_,by rw [a2,b2]; exact hck⟩
      · rw [both_row2]
        unfold shL
        rw [List.mem_map]
        exact ⟨(k.1,atOf (reach A' 0) k.2),(part_mem A' hj _).2 ⟨k,hk,rfl⟩,rfl⟩
      · obtain ⟨j2,_,e2,_⟩ := atG_at k.2 (reach A' 0) 0 hk2
        unfold atOf
        rw [e2]
        omega
    · intro z hz
      rw [both_row2] at hz
      unfold shL at hz
      rw [List.mem_map] at hz
      obtain ⟨z',hz',rfl⟩ := hz
      rw [part_mem A' hj] at hz'
      obtain ⟨k,hk,rfl⟩ := hz'
      obtain ⟨m,hm,e,hck⟩ := c2 k hk
      have hm2 := reach_closed hA h0 _ hmi m hm
      have hk2 := reach_closed hA' h0' _ hmj k hk
      obtain ⟨a1,a2⟩ := atOf_at hm2
      obtain ⟨b1,b2⟩ := atOf_at hk2
      refine ⟨(m.1,atOf (reach A 0) m.2),by rw [both_row _ _ hpi]; exact (part_mem A hi _).2 ⟨m,hm,rfl⟩,e,(atOf (reach A 0) m.2).toNat,(atOf (reach A' 0) k.2).toNat,a1,b1,rfl, ?_,by rw [a2,b2]; exact hck⟩
      obtain ⟨j2,_,e2,_⟩ := atG_at k.2 (reach A' 0) 0 hk2
      show (atOf (reach A' 0) k.2 + ((partG A 0).length : Int)).toNat = _
      unfold atOf
      rw [e2]
      omega
  have hr := reach_first A
  have hr' := reach_first A'
  have hb := bis_cls hB (s := 0) (t := (partG A 0).length) ⟨0,0,hr.2,hr'.2,rfl,rfl,by rw [hr.1,hr'.1]; exact hC0⟩
  rw [← hb]
  exact cls_zero _ (by rw [both_len,part_len]; omega)
def sy (nm : Int → Bool) (sync : Bool) (m x : Mv) (a : Int) : Prop := (sync = true ∧ x.1 = m.1 ∧ nm m.1 = true ∧ a = m.1) ∨ (sync = false ∧ m.1 ≠ 0 ∧ x.1 = -m.1 ∧ a = 0)
end Go.Am
end
section
set_option maxHeartbeats 2000000
set_option linter.unusedSimpArgs false
set_option linter.unusedVariables false
namespace Go.Am
open Go.Proofs Go.Sort Go.Shelf
def iota (k : Nat) : List Int := (List.range k).map fun i : Nat => (i : Int)
@[simp] theorem iota_len (k : Nat) : (iota k).length = k := by simp [iota]
def SdG (g : Gr) : Prop := ∀ l ∈ g,Sd l
theorem SdG.row {g : Gr} (h : SdG g) (i : Nat) : Sd (g.getD i []) := by
  by_cases hi : i < g.length
  · rw [List.getD_eq_getElem?_getD,List.getElem?_eq_getElem hi,Option.getD_some]
    exact h _ (List.getElem_mem hi)
  · rw [List.getD_eq_getElem?_getD,List.getElem?_eq_none (by omega)]
    exact List.Pairwise.nil
end Go.Am
end
section
set_option maxRecDepth 10000
set_option maxHeartbeats 2000000
set_option linter.unusedSimpArgs false
set_option linter.unusedVariables false
namespace Go.Am
open Go.Proofs Go.Sort Go.Shelf
def tauL (l : List Mv) : List Mv := l.filter fun m => decide (m.1 = 0)
def tauG (g : Gr) : Gr := g.map tauL
def zs (l : List Int) : List Mv := l.map fun x => (0,x)
def slip (g : Gr) (L : List Int) : List Int := sortL (bfs (tauG g) (g.length + 1) 0 (addNew [] (zs L)))
theorem tauG_len (g : Gr) : (tauG g).length = g.length := by simp [tauG]
theorem tauG_row (g : Gr) (i : Nat) : (tauG g).getD i [] = tauL (g.getD i []) := by
  by_cases h : i < g.length
  · simp [tauG,List.getD_eq_getElem?_getD,h]
  · simp [tauG,List.getD_eq_getElem?_getD,List.getElem?_eq_none (show g.length ≤ i by omega),tauL]
theorem tauL_mem {l : List Mv} {m : Mv} : m ∈ tauL l ↔ m ∈ l ∧ m.1 = 0 := by simp [tauL]
theorem tauG_ok {g : Gr} (h : OkTo g) : OkTo (tauG g) := by
  intro l hl m hm
  obtain ⟨x,hx,rfl⟩ := List.mem_map.1 hl
  rw [tauG_len]
  exact h x hx m (tauL_mem.1 hm).1
theorem loopSl0 (E : List PV) (n : Nat) : ∀ (rest done row : List Int),(∀ x ∈ rest,0 ≤ x ∧ x < n) → (done ++ rest).length ≤ 2147483648 → row.length + rest.length ≤ 4294967296 →
    loopI G [2,5,6,17,18,19] [2,15,16,34,74] c53l0 ⟨[(2,.ref (0,2) 1 0 0),(5,.own (0,15) n),(6,.own (0,16) row.length),(17,.sl false 1 ((done ++ rest).map PV.i)),(18,.i (done ++ rest).length),(19,.i done.length)],[(2,.box [.sl false 1 E]),(15,.row 1 (seenS n row)),(16,.row 1 (row.map PV.i))],[]⟩ =
      some (.exit 0,⟨[(2,.ref (0,2) 1 0 0),(5,.own (0,15) n),(6,.own (0,16) (addNew row (zs rest)).length),(17,.sl false 1 ((done ++ rest).map PV.i)),(18,.i (done ++ rest).length),(19,.i (done ++ rest).length),(20,.b false)],[(2,.box [.sl false 1 E]),(15,.row 1 (seenS n (addNew row (zs rest)))),(16,.row 1 ((addNew row (zs rest)).map PV.i))],[]⟩)
  | [],done,row,hm,h,hr => by
    rw [loopI_eq]
    simp [r53l0,b53l0,addNew,zs]
  | x :: rest,done,row,hm,h,hr => by
    have hx := hm x List.mem_cons_self
    have hlt : (done.length : Int) < (done.length : Int) + ((rest.length : Int) + 1) := by omega
    have hw : IntKind.i64.wrap ((done.length : Int) + 1) = (done.length : Int) + 1 := wr (by simp at h; omega)
    have hrl : row.length ≤ 4294967295 := by simp at hr; omega
    have hat : nth ((done ++ x :: rest).map PV.i) done.length = some (.i x) := by simp [nth]
    have hsn := seenS_nth (row := row) hx
    have hss := seenS_set (row := row) hx
    have hn := fun row' hr' => loopSl0 E n rest (done ++ [x]) row' (fun y hy => hm y (List.mem_cons_of_mem _ hy)) (by simpa using h) hr'
    have e1 : done ++ [x] ++ rest = done ++ x :: rest := by simp
    have e2 : (done ++ x :: rest).length = done.length + (rest.length + 1) := by simp
    have e3 : ((done ++ x :: rest).map PV.i).length = done.length + (rest.length + 1) := by simp
    simp only [e1,e2] at hn ⊢
    generalize (done ++ x :: rest).map PV.i = F at hat hn e3 ⊢
    rw [loopI_eq]
    by_cases hmm : x ∈ row
    · have hn := hn row (by simp at hr; omega)
      simp only [hmm,decide_true] at hsn
      have hA : addNew row (zs (x :: rest)) = addNew row (zs rest) := by simp [zs,addNew,hmm]
      rw [hA]
      simp [r53l0,b53l0,hlt,hat,e3,hw,hsn,hx.1,hx.2]
      simpa [Int.add_assoc] using hn
    · have hn := hn (row ++ [x]) (by simp at hr ⊢; omega)
      simp only [hmm,decide_false] at hsn
      have hA : addNew row (zs (x :: rest)) = addNew (row ++ [x]) (zs rest) := by simp [zs,addNew,hmm]
      rw [hA]
      simp [r53l0,b53l0,hlt,hat,e3,hw,hrl,hsn,hss,hx.1,hx.2,unAgg]
      simpa [Int.add_assoc] using hn
theorem loopSl1 (E : List PV) (j : Int) (n : Nat) : ∀ (rest done : List Mv) (row : List Int),(∀ m ∈ rest,0 ≤ m.2 ∧ m.2 < n) → (done ++ rest).length ≤ 2147483648 → row.length + rest.length ≤ 4294967296 →
    loopI G [2,5,6,9,49,50,51] [2,15,16,34,74] c53l1 ⟨[(2,.ref (0,2) 1 0 0),(5,.own (0,15) n),(6,.own (0,16) row.length),(9,.i j),(49,.sl false 2 ((done ++ rest).map mvP)),(50,.i (done ++ rest).length),(51,.i done.length)],[(2,.box [.sl false 1 E]),(15,.row 1 (seenS n row)),(16,.row 1 (row.map PV.i))],[]⟩ =
      some (.exit 4,⟨[(2,.ref (0,2) 1 0 0),(5,.own (0,15) n),(6,.own (0,16) (addNew row (tauL rest)).length),(9,.i j),(49,.sl false 2 ((done ++ rest).map mvP)),(50,.i (done ++ rest).length),(51,.i (done ++ rest).length),(52,.b false)],[(2,.box [.sl false 1 E]),(15,.row 1 (seenS n (addNew row (tauL rest)))),(16,.row 1 ((addNew row (tauL rest)).map PV.i))],[]⟩)
  | [],done,row,hm,h,hr => by
    rw [loopI_eq]
    simp [r53l1,b53l1,addNew,tauL]
  | x :: rest,done,row,hm,h,hr => by
    have hx := hm x List.mem_cons_self
    have hlt : (done.length : Int) < (done.length : Int) + ((rest.length : Int) + 1) := by omega
    have hw : IntKind.i64.wrap ((done.length : Int) + 1) = (done.length : Int) + 1 := wr (by simp at h; omega)
    have hrl : row.length ≤ 4294967295 := by simp at hr; omega
    have hat := mv_at done x rest
    have hsn := seenS_nth (row := row) hx
    have hss := seenS_set (row := row) hx
    have hn := fun row' hr' => loopSl1 E j n rest (done ++ [x]) row' (fun y hy => hm y (List.mem_cons_of_mem _ hy)) (by simpa using h) hr'
    have e1 : done ++ [x] ++ rest = done ++ x :: rest := by simp
    have e2 : (done ++ x :: rest).length = done.length + (rest.length + 1) := by simp
    have e3 : ((done ++ x :: rest).map mvP).length = done.length + (rest.length + 1) := by simp
    simp only [e1,e2] at hn ⊢
    simp only [mvP] at hat
    generalize (done ++ x :: rest).map mvP = F at hat hn e3 ⊢
    rw [loopI_eq]
    by_cases h0 : x.1 = 0
    · have hT : tauL (x :: rest) = x :: tauL rest := by simp [tauL,h0]
      rw [hT]
      by_cases hmm : x.2 ∈ row
      · have hn := hn row (by simp at hr; omega)
        simp only [hmm,decide_true] at hsn
        have hA : addNew row (x :: tauL rest) = addNew row (tauL rest) := by simp [addNew,hmm]
        rw [hA]
        simp [r53l1,b53l1,hlt,hat,e3,hw,hsn,hx.1,hx.2,h0]
        simpa [Int.add_assoc] using hn
      · have hn := hn (row ++ [x.2]) (by simp at hr ⊢; omega)
        simp only [hmm,decide_false] at hsn
        have hA : addNew row (x :: tauL rest) = addNew (row ++ [x.2]) (tauL rest) := by simp [addNew,hmm]
        rw [hA]
        simp [r53l1,b53l1,hlt,hat,e3,hw,hrl,hsn,hss,hx.1,hx.2,unAgg,h0]
        simpa [Int.add_assoc] using hn
    · have hn := hn row (by simp at hr; omega)
      have hT : tauL (x :: rest) = tauL rest := by simp [tauL,h0]
      rw [hT]
      simp [r53l1,b53l1,hlt,hat,e3,hw,h0]
      simpa [Int.add_assoc] using hn
theorem loopSl2 (E : List PV) (g : Gr) (hE : EncR false E g) (hg : OkTo g) (hs : SmallG g) : ∀ (f i : Nat) (row : List Int),InN g.length row → i ≤ row.length → g.length + 1 ≤ i + f →
    loopI G [2,5,6,9] [2,15,16,34,74] c53l2 ⟨[(2,.ref (0,2) 1 0 0),(5,.own (0,15) g.length),(6,.own (0,16) row.length),(9,.i i)],[(2,.box [.sl false 1 E]),(15,.row 1 (seenS g.length row)),(16,.row 1 (row.map PV.i))],[]⟩ =
      some (.exit 2,⟨[(2,.ref (0,2) 1 0 0),(5,.own (0,15) g.length),(6,.own (0,16) (bfs (tauG g) f i row).length),(9,.i (bfs (tauG g) f i row).length),(39,.b false)],[(2,.box [.sl false 1 E]),(15,.row 1 (seenS g.length (bfs (tauG g) f i row))),(16,.row 1 ((bfs (tauG g) f i row).map PV.i))],[]⟩)
  | 0,i,row,hr,hi,hf => by have := hr.len; omega
  | f + 1,i,row,hr,hi,hf => by
    have hl := hr.len
    have hgl := hs.1
    by_cases h : i < row.length
    · have hlt : (i : Int) < row.length := by omega
      have hx := hr.2 _ (getD_mem h)
      have hat := int_nth row i h
      have hb : bfs (tauG g) (f + 1) i row = bfs (tauG g) f (i + 1) (addNew row (tauL (g.getD (row.getD i 0).toNat []))) := by simp only [bfs,h,if_true,tauG_row]
      rw [hb]
      generalize hxe : row.getD i 0 = x at hx hat
      have hxl : x < g.length := hx.2
      have hxn : x.toNat < g.length := by omega
      obtain ⟨nl,hat2⟩ := hE.2 x.toNat hxn
      have hEl := hE.1
      have hrow : ∀ m ∈ g.getD x.toNat [],0 ≤ m.2 ∧ m.2 < g.length := hg.row _
      have hrl : (g.getD x.toNat []).length ≤ 1048576 := hs.2 _ (by rw [List.getD_eq_getElem?_getD,List.getElem?_eq_getElem hxn,Option.getD_some]; exact List.getElem_mem hxn)
      generalize hL : g.getD x.toNat [] = L at hat2 hrow hrl
      have h0 := loopSl1 E i g.length L [] row hrow (by simp; omega) (by omega)
      simp only [List.nil_append,List.length_nil,show ((0 : Nat) : Int) = 0 from rfl] at h0
      have hn := loopSl2 E g hE hg hs f (i + 1) (addNew row (tauL L)) (hr.add fun m hm => hrow m (tauL_mem.1 hm).1) (by have := addNew_len (tauL L) row; omega) (by omega)
      have hw : IntKind.i64.wrap ((i : Int) + 1) = (i : Int) + 1 := wr (by omega)
      rw [loopI_eq]
      rcases encL_two nl false L with ⟨e,e2⟩ | e
      · rw [e] at hat2
        subst e2
        have hz : loopI G [2,5,6,9,49,50,51] [2,15,16,34,74] c53l1 ⟨[(2,.ref (0,2) 1 0 0),(5,.own (0,15) g.length),(6,.own (0,16) row.length),(9,.i i),(49,.nils),(50,.i 0),(51,.i 0)],[(2,.box [.sl false 1 E]),(15,.row 1 (seenS g.length row)),(16,.row 1 (row.map PV.i))],[]⟩ =
            some (.exit 4,⟨[(2,.ref (0,2) 1 0 0),(5,.own (0,15) g.length),(6,.own (0,16) row.length),(9,.i i),(49,.nils),(50,.i 0),(51,.i 0),(52,.b false)],[(2,.box [.sl false 1 E]),(15,.row 1 (seenS g.length row)),(16,.row 1 (row.map PV.i))],[]⟩) := by
          rw [loopI_eq]
          simp [r53l1,b53l1]
        have hA : addNew row (tauL []) = row := rfl
        rw [hA] at hn ⊢
        simp [r53l2,b53l2,h,hlt,hat,hat2,hx.1,hxl,hz,hw,hEl]
        simpa using hn
      · rw [e] at hat2
        simp [r53l2,b53l2,h,hlt,hat,hat2,hx.1,hxl,h0,hw,hEl]
        simpa using hn
    · have he : i = row.length := by omega
      have hb : bfs (tauG g) (f + 1) i row = row := by simp [bfs,h]
      rw [hb,loopI_eq]
      subst he
      simp [r53l2,b53l2]
theorem unNs_i : ∀ l : List Int,unNs (l.map PV.i) = some l
  | [] => rfl
  | x :: l => by simp [unNs,unN,unNs_i l]
theorem zs_in {n : Nat} {L : List Int} (h : ∀ x ∈ L,0 ≤ x ∧ x < n) : InN n (addNew [] (zs L)) :=
  InN.add ⟨by simp,fun x hx => by cases hx⟩ fun m hm => by
    obtain ⟨x,hx,rfl⟩ := List.mem_map.1 hm
    exact h x hx
theorem eqSlip (E : List PV) (g : Gr) (hE : EncR false E g) (hg : OkTo g) (hs : SmallG g) (L : List Int) (hL : ∀ x ∈ L,0 ≤ x ∧ x < g.length) (hLl : L.length ≤ 2147483648) :
    callI G 53 [.agg [.sl false 1 E],.sl false 1 (L.map PV.i)] [] = some (.sl true 1 ((slip g L).map PV.i),[]) := by
  have l0 := loopSl0 E g.length L [] [] hL (by simpa using hLl) (by simp; omega)
  have hin := zs_in hL
  have l2 := loopSl2 E g hE hg hs (g.length + 1) 0 (addNew [] (zs L)) hin (by omega) (by omega)
  have hbl : (bfs (tauG g) (g.length + 1) 0 (addNew [] (zs L))).length ≤ g.length := by
    have := InN.bfs (tauG_ok hg) (g.length + 1) 0 (row := addNew [] (zs L)) (by rw [tauG_len]; exact hin)
    have := this.len
    rw [tauG_len] at this; exact this
  have hgl := hs.1
  have hEl := hE.1
  have hgl2 : (g.length : Int) ≤ 4294967296 := by omega
  simp only [List.nil_append,List.length_nil,show ((0 : Nat) : Int) = 0 from rfl,List.map_nil] at l0 l2
  unfold slip
  generalize addNew [] (zs L) = R0 at l0 l2 hbl ⊢
  generalize bfs (tauG g) (g.length + 1) 0 R0 = R1 at l2 hbl ⊢
  have hsl : (sortL R1).length = R1.length := by simp [sortL]
  have hso := fun (X Y : OB) => eqSortI [.own (0,16) R1.length] [[(2,X),(15,Y),(16,.row 1 (R1.map PV.i))]]
  have hso : ∀ (X Y : OB),callI G 79 [.own (0,16) R1.length] [[(2,X),(15,Y),(16,.row 1 (R1.map PV.i))]] = some (.tup [],[[(2,X),(15,Y),(16,.row 1 ((sortL R1).map PV.i))]]) := fun X Y => by
    rw [hso]
    have h62 : R1.length < 4611686018427387904 := by omega
    simp [sortI,getS,getO,setS,setO,unNs_i,h62]
  have hso2 : callI G 79 [.own (0,16) R1.length] [[(16,.row 1 (R1.map PV.i))]] = some (.tup [],[[(16,.row 1 ((sortL R1).map PV.i))]]) := by
    rw [eqSortI]
    have h62 : R1.length < 4611686018427387904 := by omega
    simp [sortI,getS,getO,setS,setO,unNs_i,h62]
  have hrep := seenS_n g.length
  rw [callI_eq]
  simp [body1_eq _ _ (gp 53) g53,c53,a53,hEl,hgl2,hrep,l0,l2,hso,hso2,hsl]
end Go.Am
end
section
set_option linter.unusedSimpArgs false
set_option linter.unusedVariables false
namespace Go.Am
open Go.Proofs Go.Sort Go.Shelf
def rowZ (g : Gr) (x : Int) : List Mv := g.getD x.toNat []
inductive Tau (g : Gr) : Int → Int → Prop
  | refl (x : Int) : Tau g x x
  | step (x y : Int) (m : Mv) : m ∈ rowZ g x → m.1 = 0 → Tau g m.2 y → Tau g x y
inductive Wk (g : Gr) : Int → List Int → Int → Prop
  | nil (x y : Int) : Tau g x y → Wk g x [] y
  | cons (x u y : Int) (m : Mv) (w : List Int) : Tau g x u → m ∈ rowZ g u → Wk g m.2 w y → Wk g x (m.1 :: w) y
theorem Tau.trans {g : Gr} {x y z : Int} (h : Tau g x y) (k : Tau g y z) : Tau g x z := by
  induction h with
  | refl x => exact k
  | step x y m h1 h2 _ ih => exact .step x z m h1 h2 (ih k)
theorem Wk.pre {g : Gr} {x y z : Int} {w : List Int} (h : Tau g x y) (k : Wk g y w z) : Wk g x w z := by
  cases k with
  | nil _ _ t => exact .nil _ _ (h.trans t)
  | cons _ u _ m w t h1 h2 => exact .cons _ u _ m w (h.trans t) h1 h2
theorem addNew_sub {P : Int → Prop} : ∀ (l : List Mv) (row : List Int),(∀ x ∈ row,P x) → (∀ m ∈ l,P m.2) → ∀ x ∈ addNew row l,P x
  | [],row,h,_,x,hx => h x hx
  | m :: l,row,h,hl,x,hx => by
    simp only [addNew] at hx
    refine addNew_sub l _ ?_ (fun y hy => hl y (List.mem_cons_of_mem _ hy)) x hx
    intro y hy
    split at hy
    · exact h y hy
    · rcases List.mem_append.1 hy with hy | hy
      · exact h y hy
      · rw [List.mem_singleton.1 hy]; exact hl m List.mem_cons_self
theorem bfs_sub {P : Int → Prop} {g : Gr} (hc : ∀ x,P x → ∀ m ∈ rowZ g x,P m.2) : ∀ (f i : Nat) (row : List Int),(∀ x ∈ row,P x) → ∀ x ∈ bfs g f i row,P x
  | 0,i,row,h,x,hx => h x hx
  | f + 1,i,row,h,x,hx => by
    simp only [bfs] at hx
    split at hx
    · rename_i hi
      exact bfs_sub hc f (i + 1) _ (addNew_sub _ _ h (hc _ (h _ (getD_mem hi)))) x hx
    · exact h x hx
theorem sortL_mem (l : List Int) (y : Int) : y ∈ sortL l ↔ y ∈ l := (List.mergeSort_perm l _).mem_iff
theorem rowZ_tau {g : Gr} {x : Int} {m : Mv} : m ∈ rowZ (tauG g) x ↔ m ∈ rowZ g x ∧ m.1 = 0 := by
  unfold rowZ
  rw [tauG_row,tauL_mem]
theorem slip_mem {g : Gr} (hg : OkTo g) {L : List Int} (hL : ∀ x ∈ L,0 ≤ x ∧ x < g.length) (y : Int) : y ∈ slip g L ↔ ∃ x ∈ L,Tau g x y := by
  unfold slip
  rw [sortL_mem]
  have hin := zs_in hL
  constructor
  · intro hy
    refine bfs_sub (P := fun y => ∃ x ∈ L,Tau g x y) (g := tauG g) (fun u hu m hm => ?_) _ 0 _ ?_ y hy
    · obtain ⟨x,hx,t⟩ := hu
      rw [rowZ_tau] at hm
      exact ⟨x,hx,t.trans (.step _ _ m hm.1 hm.2 (.refl _))⟩
    · refine addNew_sub _ _ (by simp) fun m hm => ?_
      obtain ⟨x,hx,rfl⟩ := List.mem_map.1 hm
      exact ⟨x,hx,.refl _⟩
  · rintro ⟨x,hx,t⟩
    have hc := bfs_closed (tauG_ok hg) (g.length + 1) 0 (addNew [] (zs L)) (by rw [tauG_len]; exact hin) (by omega) (by rw [tauG_len]; omega) (fun j hj => by omega)
    have hx0 : x ∈ bfs (tauG g) (g.length + 1) 0 (addNew [] (zs L)) := by
      obtain ⟨t,ht⟩ := bfs_pre (tauG g) (g.length + 1) 0 (addNew [] (zs L))
      rw [ht]
      exact List.mem_append_left _ (addNew_mem (zs L) [] (0,x) (List.mem_map.2 ⟨x,hx,rfl⟩))
    clear hx
    induction t with
    | refl x => exact hx0
    | step x y m h1 h2 _ ih => exact ih (hc x hx0 m (rowZ_tau.2 ⟨h1,h2⟩))
theorem slip_in {g : Gr} (hg : OkTo g) {L : List Int} (hL : ∀ x ∈ L,0 ≤ x ∧ x < g.length) : InN g.length (slip g L) := by
  have h := InN.bfs (tauG_ok hg) (g.length + 1) 0 (row := addNew [] (zs L)) (by rw [tauG_len]; exact zs_in hL)
  rw [tauG_len] at h
  refine ⟨(List.mergeSort_perm _ _).nodup_iff.2 h.1,fun x hx => h.2 x ?_⟩
  exact (sortL_mem _ x).1 hx
def hops (a : Int) (l : List Mv) : List Int := (l.filter fun m => decide (m.1 = a)).map Prod.snd
def aft (g : Gr) (S : List Int) (a : Int) : List Int := slip g (S.flatMap fun s => hops a (rowZ g s))
def behind (g : Gr) : List Int → List Int → List Int
  | S,[] => S
  | S,a :: w => behind g (aft g S a) w
theorem hops_mem {a : Int} {l : List Mv} {y : Int} : y ∈ hops a l ↔ ∃ m ∈ l,m.1 = a ∧ m.2 = y := by
  unfold hops
  simp only [List.mem_map,List.mem_filter,decide_eq_true_eq]
  constructor
  · rintro ⟨m,⟨h1,h2⟩,h3⟩; exact ⟨m,h1,h2,h3⟩
  · rintro ⟨m,h1,h2,h3⟩; exact ⟨m,⟨h1,h2⟩,h3⟩
theorem aft_args {g : Gr} (hg : OkTo g) (S : List Int) (a : Int) : ∀ x ∈ S.flatMap fun s => hops a (rowZ g s),0 ≤ x ∧ x < g.length := by
  intro x hx
  obtain ⟨s,_,h⟩ := List.mem_flatMap.1 hx
  obtain ⟨m,hm,_,rfl⟩ := hops_mem.1 h
  exact hg.row _ m hm
theorem aft_mem {g : Gr} (hg : OkTo g) (S : List Int) (a y : Int) : y ∈ aft g S a ↔ ∃ s ∈ S,∃ m ∈ rowZ g s,m.1 = a ∧ Tau g m.2 y := by
  unfold aft
  rw [slip_mem hg (aft_args hg S a)]
  constructor
  · rintro ⟨x,hx,t⟩
    obtain ⟨s,hs,h⟩ := List.mem_flatMap.1 hx
    obtain ⟨m,hm,e,rfl⟩ := hops_mem.1 h
    exact ⟨s,hs,m,hm,e,t⟩
  · rintro ⟨s,hs,m,hm,e,t⟩
    exact ⟨m.2,List.mem_flatMap.2 ⟨s,hs,hops_mem.2 ⟨m,hm,e,rfl⟩⟩,t⟩
theorem aft_in {g : Gr} (hg : OkTo g) (S : List Int) (a : Int) : InN g.length (aft g S a) := slip_in hg (aft_args hg S a)
theorem behind_mem {g : Gr} (hg : OkTo g) : ∀ (w : List Int) (S : List Int) (y : Int),(∀ s u,s ∈ S → Tau g s u → u ∈ S) → (y ∈ behind g S w ↔ ∃ s ∈ S,Wk g s w y)
  | [],S,y,hc => by
    simp only [behind]
    constructor
    · exact fun h => ⟨y,h,.nil _ _ (.refl _)⟩
    · rintro ⟨s,hs,h⟩
      cases h with
      | nil _ _ t => exact hc s y hs t
  | a :: w,S,y,hc => by
    simp only [behind]
    rw [behind_mem hg w (aft g S a) y (fun s u hs t => ?_)]
    · constructor
      · rintro ⟨s,hs,h⟩
        obtain ⟨r,hr,m,hm,e,t⟩ := (aft_mem hg S a s).1 hs
        subst e
        exact ⟨r,hr,.cons _ r _ m w (.refl _) hm (h.pre t)⟩
      · rintro ⟨s,hs,h⟩
        cases h with
        | cons _ u _ m _ t hm h2 => exact ⟨m.2,(aft_mem hg S m.1 m.2).2 ⟨u,hc s u hs t,m,hm,rfl,.refl _⟩,h2⟩
    · obtain ⟨r,hr,m,hm,e,t2⟩ := (aft_mem hg S a s).1 hs
      exact (aft_mem hg S a u).2 ⟨r,hr,m,hm,e,t2.trans t⟩
def seenA (a : Int) : Bool := actOk a && decide (a ≠ 0)
def wordOk (w : List Int) : Bool := decide (w.length ≤ 20) && w.all seenA
def traceB (g : Gr) (w : List Int) : Bool := grOk g && (wordOk w && decide (behind g (slip g [0]) w ≠ []))
theorem traceB_iff {g : Gr} (hg : grOk g = true) {w : List Int} (hw : wordOk w = true) : traceB g w = true ↔ ∃ y,Wk g 0 w y := by
  obtain ⟨h1,h2,_⟩ := grOk_to hg
  have h0 : ∀ x ∈ [(0 : Int)],0 ≤ x ∧ x < g.length := fun x hx => by rw [List.mem_singleton.1 hx]; omega
  have hm := fun y => behind_mem h1 w (slip g [0]) y (fun s u hs t => by
    rw [slip_mem h1 h0] at hs ⊢
    obtain ⟨x,hx,t2⟩ := hs
    exact ⟨x,hx,t2.trans t⟩)
  have hm : ∀ y,y ∈ behind g (slip g [0]) w ↔ Wk g 0 w y := fun y => by
    rw [hm y]
    constructor
    · rintro ⟨s,hs,h⟩
      obtain ⟨x,hx,t⟩ := (slip_mem h1 h0 s).1 hs
      rw [List.mem_singleton.1 hx] at t
      exact h.pre t
    · intro h
      exact ⟨0,(slip_mem h1 h0 0).2 ⟨0,by simp,.refl _⟩,h⟩
  simp only [traceB,hg,hw,Bool.true_and,decide_eq_true_eq]
  constructor
  · intro h
    obtain ⟨y,hy⟩ := List.exists_mem_of_ne_nil _ h
    exact ⟨y,(hm y).1 hy⟩
  · rintro ⟨y,hy⟩ e
    have := (hm y).2 hy
    rw [e] at this; cases this
end Go.Am
end
section
set_option maxRecDepth 10000
set_option maxHeartbeats 4000000
set_option linter.unusedSimpArgs false
set_option linter.unusedVariables false
namespace Go.Am
open Go.Proofs Go.Sort Go.Shelf
end Go.Am
end
section
set_option maxRecDepth 10000
set_option maxHeartbeats 4000000
set_option linter.unusedSimpArgs false
set_option linter.unusedVariables false
namespace Go.Am
open Go.Proofs Go.Sort Go.Shelf
end Go.Am
end
section
set_option maxRecDepth 10000
set_option maxHeartbeats 4000000
set_option linter.unusedSimpArgs false
set_option linter.unusedVariables false
namespace Go.Am
open Go.Proofs Go.Sort Go.Shelf
end Go.Am
end
