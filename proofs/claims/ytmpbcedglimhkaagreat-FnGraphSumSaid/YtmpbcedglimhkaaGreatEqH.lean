/- What the functions that the law reaches compute. -/
import Derived.Test.YtmpbcedglimhkaaGreatEqG
import Derived.Test.YtmpbcedglimhkaaGreatEqD
import Derived.Test.YtmpbcedglimhkaaGreatEqF
import Derived.Test.YtmpbcedglimhkaaGreatEqA
import Derived.Test.YtmpbcedglimhkaaGreatEqE
section
set_option maxRecDepth 10000
set_option maxHeartbeats 4000000
set_option linter.unusedSimpArgs false
set_option linter.unusedVariables false
namespace Go.Am
open Go.Proofs Go.Sort Go.Shelf
end Go.Am
end
section
set_option maxHeartbeats 2000000
set_option linter.unusedSimpArgs false
set_option linter.unusedVariables false
namespace Go.Am
open Go.Proofs Go.Sort Go.Shelf
theorem rowOk_sd {n : Nat} : ∀ {l : List Mv} {p : Option Mv},Sd (p.toList ++ l) → (∀ m ∈ l,mvOk n m = true) → rowOk n p l = true
  | [],_,_,_ => rfl
  | x :: l,p,hs,hm => by
    simp only [rowOk,Bool.and_eq_true]
    refine ⟨hm x List.mem_cons_self, ?_,rowOk_sd (p := some x) ?_ fun m hml => hm m (List.mem_cons_of_mem _ hml)⟩
    · cases p with
      | none => rfl
      | some q => exact (List.pairwise_cons.1 hs).1 x List.mem_cons_self
    · cases p with
      | none => exact hs
      | some q => exact (List.pairwise_cons.1 hs).2
theorem atOf_nat {x : Int} {row : List Int} (h : x ∈ row) : ∃ j : Nat,j < row.length ∧ atOf row x = (j : Int) ∧ row.getD j 0 = x := by
  obtain ⟨h1,h2⟩ := atOf_at h
  obtain ⟨j,h3,h4,h5⟩ := atG_at x row 0 h
  exact ⟨j,h3,by rw [show atOf row x = atG 0 row x from rfl,h4]; simp,h5⟩
theorem gr_mem {g : Gr} {k : Nat} (h : k < g.length) : g.getD k [] ∈ g := by
  rw [List.getD_eq_getElem?_getD,List.getElem?_eq_getElem h,Option.getD_some]; exact List.getElem_mem h
theorem part_ok {g : Gr} (hg : OkTo g) (h0 : 0 < g.length) (ha : ∀ l ∈ g,∀ m ∈ l,actOk m.1 = true) (h60 : (reach g 0).length ≤ 60) : grOk (partG g 0) = true := by
  have hr : InN g.length (reach g 0) := InN.bfs hg _ _ (InN.one (by omega))
  have hf := reach_first g
  simp only [grOk,Bool.and_eq_true,decide_eq_true_eq,List.all_eq_true,part_len]
  refine ⟨by omega,h60,fun l hl => ?_⟩
  obtain ⟨i,hi,rfl⟩ := List.getElem_of_mem hl
  have e : (partG g 0)[i] = (partG g 0).getD i [] := by rw [List.getD_eq_getElem?_getD,List.getElem?_eq_getElem hi]; rfl
  rw [part_len] at hi
  rw [e]
  refine rowOk_sd (p := none) ?_ fun z hz => ?_
  · rw [part_row g hi]; exact (tidyL_sd _).1
  · obtain ⟨m,hm,rfl⟩ := (part_mem g hi z).1 hz
    have hx : (reach g 0).getD i 0 ∈ reach g 0 := getD_mem hi
    have hin := hr.2 _ hx
    obtain ⟨j,hj,ej,_⟩ := atOf_nat (reach_closed hg h0 _ hx m hm)
    simp only [mvOk,Bool.and_eq_true,decide_eq_true_eq]
    exact ⟨ha _ (gr_mem (by omega)) m hm,by omega,by omega⟩
theorem tau_sim {g g' : Gr} {C : Int → Int → Prop} (hC : ∀ x x',C x x' → ∀ m ∈ rowZ g x,∃ m' ∈ rowZ g' x',m'.1 = m.1 ∧ C m.2 m'.2) {x y : Int} (t : Tau g x y) : ∀ {x' : Int},C x x' → ∃ y',Tau g' x' y' ∧ C y y' := by
  induction t with
  | refl x => exact fun h => ⟨_,.refl _,h⟩
  | step x y m h1 h2 _ ih =>
    intro x' h
    obtain ⟨m',hm',e,c⟩ := hC x x' h m h1
    obtain ⟨y',t',c'⟩ := ih c
    exact ⟨y',.step _ _ m' hm' (by rw [e]; exact h2) t',c'⟩
theorem wk_sim {g g' : Gr} {C : Int → Int → Prop} (hC : ∀ x x',C x x' → ∀ m ∈ rowZ g x,∃ m' ∈ rowZ g' x',m'.1 = m.1 ∧ C m.2 m'.2) {x y : Int} {w : List Int} (t : Wk g x w y) : ∀ {x' : Int},C x x' → ∃ y',Wk g' x' w y' ∧ C y y' := by
  induction t with
  | nil x y t =>
    intro x' h
    obtain ⟨y',t',c⟩ := tau_sim hC t h
    exact ⟨y',.nil _ _ t',c⟩
  | cons x u y m w t h1 _ ih =>
    intro x' h
    obtain ⟨u',t',c⟩ := tau_sim hC t h
    obtain ⟨m',hm',e,c2⟩ := hC u u' c m h1
    obtain ⟨y',k,c3⟩ := ih c2
    refine ⟨y', ?_,c3⟩
    rw [← e]
    exact .cons _ u' _ m' w t' hm' k
def PtC (g : Gr) (i x : Int) : Prop := ∃ n : Nat,i = n ∧ n < (reach g 0).length ∧ x = (reach g 0).getD n 0
theorem part_wk {g : Gr} (hg : OkTo g) (h0 : 0 < g.length) (w : List Int) : (∃ y,Wk (partG g 0) 0 w y) ↔ ∃ y,Wk g 0 w y := by
  have hf := reach_first g
  have hC0 : PtC g 0 0 := ⟨0,rfl,hf.2,hf.1.symm⟩
  constructor
  · rintro ⟨y,t⟩
    obtain ⟨y',k,_⟩ := wk_sim (g' := g) (C := PtC g) (fun x x' hc m hm => by
      obtain ⟨n,rfl,hn,rfl⟩ := hc
      unfold rowZ at hm
      obtain ⟨k,hk,rfl⟩ := (part_mem g (i := n) hn m).1 (by simpa using hm)
      obtain ⟨j,hj,ej,e2⟩ := atOf_nat (reach_closed hg h0 _ (getD_mem hn) k hk)
      exact ⟨k,hk,rfl,j,ej,hj,e2.symm⟩) t hC0
    exact ⟨y',k⟩
  · rintro ⟨y,t⟩
    obtain ⟨y',k,_⟩ := wk_sim (g' := partG g 0) (C := fun x i => PtC g i x) (fun x x' hc m hm => by
      obtain ⟨n,rfl,hn,rfl⟩ := hc
      obtain ⟨j,hj,ej,e2⟩ := atOf_nat (reach_closed hg h0 _ (getD_mem hn) m hm)
      refine ⟨(m.1,atOf (reach g 0) m.2), ?_,rfl,j,ej,hj,e2.symm⟩
      unfold rowZ
      exact (part_mem g (i := n) hn _).2 ⟨m,hm,rfl⟩) t hC0
    exact ⟨y',k⟩
section
variable {nm : Int → Bool} {g h : Gr}
theorem wk_inv {q : Gr} {x y a : Int} {w : List Int} (k : Wk q x (a :: w) y) : ∃ u m,Tau q x u ∧ m ∈ rowZ q u ∧ m.1 = a ∧ Wk q m.2 w y := by
  cases k with
  | cons _ u _ m _ h1 h2 h3 => exact ⟨u,m,h1,h2,rfl,h3⟩
end
theorem made_two {q : Gr} (h : (made q).2 = true) : made q = (partG q 0,true) ∧ (reach q 0).length ≤ 60 := by
  unfold made at h ⊢
  split at h
  · rename_i h60; exact ⟨by rw [if_pos h60],h60⟩
  · cases h
end Go.Am
end
section
set_option maxRecDepth 10000
set_option maxHeartbeats 1000000
set_option linter.unusedSimpArgs false
set_option linter.unusedVariables false
namespace Go.Am
open Go.Proofs Go.Sort Go.Shelf
end Go.Am
end
section
set_option maxRecDepth 10000
set_option maxHeartbeats 1000000
set_option linter.unusedSimpArgs false
set_option linter.unusedVariables false
namespace Go.Am
open Go.Proofs Go.Sort Go.Shelf
end Go.Am
end
section
set_option maxRecDepth 10000
set_option maxHeartbeats 1000000
set_option linter.unusedSimpArgs false
set_option linter.unusedVariables false
namespace Go.Am
open Go.Proofs Go.Sort Go.Shelf
end Go.Am
end
section
set_option maxRecDepth 10000
set_option maxHeartbeats 1000000
set_option linter.unusedSimpArgs false
set_option linter.unusedVariables false
namespace Go.Am
open Go.Proofs Go.Sort Go.Shelf
end Go.Am
end
section
set_option maxRecDepth 10000
set_option maxHeartbeats 1000000
set_option linter.unusedSimpArgs false
set_option linter.unusedVariables false
namespace Go.Am
open Go.Proofs Go.Sort Go.Shelf
theorem grOk_act {g : Gr} (h : grOk g = true) : ∀ l ∈ g,∀ m ∈ l,actOk m.1 = true := by
  simp only [grOk,Bool.and_eq_true,decide_eq_true_eq,List.all_eq_true] at h
  intro l hl m hm
  have := rowOk_mem (h.2.2 l hl) m hm
  simp only [mvOk,Bool.and_eq_true] at this
  exact this.1
end Go.Am
end
section
set_option maxRecDepth 10000
set_option maxHeartbeats 1000000
set_option linter.unusedSimpArgs false
set_option linter.unusedVariables false
namespace Go.Am
open Go.Proofs Go.Sort Go.Shelf
end Go.Am
end
section
set_option maxRecDepth 10000
set_option maxHeartbeats 1000000
set_option linter.unusedSimpArgs false
set_option linter.unusedVariables false
namespace Go.Am
open Go.Proofs Go.Sort Go.Shelf
end Go.Am
end
section
set_option maxRecDepth 10000
set_option maxHeartbeats 2000000
set_option linter.unusedSimpArgs false
set_option linter.unusedVariables false
namespace Go.Am
open Go.Proofs Go.Sort Go.Shelf
end Go.Am
end
section
set_option maxRecDepth 10000
set_option maxHeartbeats 1000000
set_option linter.unusedSimpArgs false
set_option linter.unusedVariables false
namespace Go.Am
open Go.Proofs Go.Sort Go.Shelf
def sh0 (a : Gr) : Gr := a.map (shL 0)
theorem sh0_len (a : Gr) : (sh0 a).length = a.length := by simp [sh0]
theorem sh0_eq (a : Gr) : sh0 a = a := by
  unfold sh0
  refine (List.map_congr_left fun x _ => ?_).trans (List.map_id _)
  unfold shL
  exact (List.map_congr_left fun m _ => by simp).trans (List.map_id _)
theorem loopGb0 (B : PV) (hB : ∀ f n,known f n B = true) (a : Gr) (ha : OkTo a) (h60 : a.length ≤ 60) (hs : SmallG a) : ∀ (rest done : Gr),a = done ++ rest → ∀ Y YL,OwnS 43 1 Y YL (encGs true true (sh0 done)) →
    ∃ Y' YL',OwnS 43 1 Y' YL' (encGs true true (sh0 a)) ∧
    loopI G [2,3,4,6,32,33,34] [2,3,4,6,43,61] c21l0 ⟨[(2,.ref (0,2) 1 0 0),(3,.ref (0,3) 1 0 0),(4,.ref (0,4) 1 0 0),(6,.ref (0,6) 1 0 0),(32,.sl false 1 (encGs false false a)),(33,.i a.length),(34,.i done.length)],(2,.box [.sl false 1 (encGs false false a)]) :: (3,.box [B]) :: (4,.box [.nils]) :: (6,.box [Y]) :: YL,[]⟩ =
      some (.exit 0,⟨[(2,.ref (0,2) 1 0 0),(3,.ref (0,3) 1 0 0),(4,.ref (0,4) 1 0 0),(6,.ref (0,6) 1 0 0),(32,.sl false 1 (encGs false false a)),(33,.i a.length),(34,.i a.length),(35,.b false)],(2,.box [.sl false 1 (encGs false false a)]) :: (3,.box [B]) :: (4,.box [.nils]) :: (6,.box [Y']) :: YL',[]⟩)
  | [],done,hd,Y,YL,hY => by
    rw [List.append_nil] at hd
    subst hd
    refine ⟨Y,YL,hY, ?_⟩
    generalize encGs false false a = E
    rw [loopI_eq]
    rcases hY with ⟨h1,rfl,rfl⟩ | ⟨h1,rfl,rfl⟩
    · simp [r21l0,b21l0,hB]
    · simp [r21l0,b21l0,hB]
  | x :: rest,done,hd,Y,YL,hY => by
    have hrl : a.length = done.length + (rest.length + 1) := by rw [hd]; simp
    have hlt : (done.length : Int) < a.length := by omega
    have hlt2 : done.length < a.length := by omega
    have hw : IntKind.i64.wrap ((done.length : Int) + 1) = (done.length : Int) + 1 := wr (by omega)
    have hdl : done.length ≤ 4294967295 := by omega
    have hat : nth (encGs false false a) done.length = some (.sl false 2 (x.map mvP)) := by rw [hd]; simpa using gr_at false false done x rest
    have hEl : (encGs false false a).length = a.length := by simp
    have hxa : x ∈ a := by rw [hd]; simp
    have hsh := eqShift 0 (by omega) x (fun m hm => by have := ha x hxa m hm; omega) (by have := hs.2 x hxa; omega)
    have hnew : encGs true true (sh0 (done ++ [x])) = encGs true true (sh0 done) ++ [encL true true (shL 0 x)] := by simp [encGs,sh0]
    have hDl : (encGs true true (sh0 done)).length = done.length := by simp [sh0]
    have hYn : OwnS 43 1 (.own (0,43) (done.length + 1)) [(43,.row 1 (encGs true true (sh0 done) ++ [encL true true (shL 0 x)]))] (encGs true true (sh0 (done ++ [x]))) := by
      refine .inr ⟨by rw [hnew]; simp, ?_, ?_⟩
      · rw [hnew]; simp [sh0]
      · rw [hnew]
    obtain ⟨Y',YL',hY',hn⟩ := loopGb0 B hB a ha h60 hs rest (done ++ [x]) (by simpa using hd) _ _ hYn
    refine ⟨Y',YL',hY', ?_⟩
    clear hY'
    simp only [List.length_append,List.length_cons,List.length_nil,Int.natCast_add,show ((0 + 1 : Nat) : Int) = 1 from rfl] at hn
    have hd0 : encGs true true (sh0 done) = [] → done = [] := fun e => by
      have := congrArg List.length e
      rw [hDl] at this
      exact List.length_eq_zero_iff.1 this
    have hns := noShares_mv (shL 0 x)
    generalize hD : encGs true true (sh0 done) = D at hY hn hDl hd0
    generalize hE : encGs false false a = E at hat hEl hn ⊢
    rw [loopI_eq]
    rcases hY with ⟨h1,rfl,rfl⟩ | ⟨h1,rfl,rfl⟩
    · have hd1 := hd0 h1
      subst hd1
      subst h1
      simp only [List.length_nil,show ((0 : Nat) : Int) = 0 from rfl] at hat hlt hlt2
      rcases encL_two true true (shL 0 x) with ⟨e,_⟩ | e
      · rw [e] at hsh hn
        simp at hn
        simp [r21l0,b21l0,hB,hlt,hlt2,hat,hEl,hsh,wr1]
        exact hn
      · rw [e] at hsh hn
        generalize (shL 0 x).map mvP = Q at hsh hn hns
        simp at hn
        simp [r21l0,b21l0,hB,hlt,hlt2,hat,hEl,hsh,wr1,hns]
        exact hn
    · rcases encL_two true true (shL 0 x) with ⟨e,_⟩ | e
      · rw [e] at hsh hn
        simp [r21l0,b21l0,hB,hlt,hlt2,hat,hEl,hsh,hDl,hdl,hw]
        exact hn
      · rw [e] at hsh hn
        generalize (shL 0 x).map mvP = Q at hsh hn hns
        simp [r21l0,b21l0,hB,hlt,hlt2,hat,hEl,hsh,hDl,hdl,hw,hns]
        exact hn
theorem loopGb1 (EA : List PV) (n : Nat) (hEA : EA.length = n) (hn60 : n ≤ 60) (XA : List PV) (hXA : XA.length = n) (b : Gr) (hb : OkTo b) (h60 : b.length ≤ 60) (hs : SmallG b) : ∀ (rest done : Gr),b = done ++ rest →
    loopI G [2,4,6,47,48,49] [2,4,6,43,61] c21l1 ⟨[(2,.ref (0,2) 1 0 0),(4,.ref (0,4) 1 0 0),(6,.ref (0,6) 1 0 0),(47,.sl false 1 (encGs false false b)),(48,.i b.length),(49,.i done.length)],[(2,.box [.sl false 1 EA]),(4,.box [.nils]),(6,.box [.own (0,43) (n + done.length)]),(43,.row 1 (XA ++ encGs true true (done.map (shL n))))],[]⟩ =
      some (.exit 2,⟨[(2,.ref (0,2) 1 0 0),(4,.ref (0,4) 1 0 0),(6,.ref (0,6) 1 0 0),(47,.sl false 1 (encGs false false b)),(48,.i b.length),(49,.i b.length),(50,.b false)],[(2,.box [.sl false 1 EA]),(4,.box [.nils]),(6,.box [.own (0,43) (n + b.length)]),(43,.row 1 (XA ++ encGs true true (b.map (shL n))))],[]⟩)
  | [],done,hd => by
    rw [List.append_nil] at hd
    subst hd
    generalize XA ++ encGs true true (b.map (shL n)) = Q
    generalize encGs false false b = E
    rw [loopI_eq]
    simp [r21l1,b21l1]
  | x :: rest,done,hd => by
    have hrl : b.length = done.length + (rest.length + 1) := by rw [hd]; simp
    have hlt : (done.length : Int) < b.length := by omega
    have hlt2 : done.length < b.length := by omega
    have hw : IntKind.i64.wrap ((done.length : Int) + 1) = (done.length : Int) + 1 := wr (by omega)
    have hdl : n + done.length ≤ 4294967295 := by omega
    have hat : nth (encGs false false b) done.length = some (.sl false 2 (x.map mvP)) := by rw [hd]; simpa using gr_at false false done x rest
    have hEl : (encGs false false b).length = b.length := by simp
    have hxb : x ∈ b := by rw [hd]; simp
    have hsh := eqShift n (by omega) x (fun m hm => by have := hb x hxb m hm; omega) (by have := hs.2 x hxb; omega)
    have hn := loopGb1 EA n hEA hn60 XA hXA b hb h60 hs rest (done ++ [x]) (by simpa using hd)
    have hnew : XA ++ encGs true true ((done ++ [x]).map (shL n)) = (XA ++ encGs true true (done.map (shL n))) ++ [encL true true (shL n x)] := by simp [encGs]
    have hDl : (XA ++ encGs true true (done.map (shL n))).length = n + done.length := by simp [hXA]
    rw [hnew] at hn
    simp only [List.length_append,List.length_cons,List.length_nil,Int.natCast_add,show ((0 + 1 : Nat) : Int) = 1 from rfl] at hn
    have hna : n + (done.length + (0 + 1)) = n + done.length + 1 := by omega
    rw [hna] at hn
    have hns := noShares_mv (shL n x)
    generalize hF : XA ++ encGs true true (b.map (shL n)) = F at hn ⊢
    generalize hD : XA ++ encGs true true (done.map (shL n)) = D at hn hDl ⊢
    generalize hE : encGs false false b = E at hat hEl hn ⊢
    rw [loopI_eq]
    rcases encL_two true true (shL n x) with ⟨e,_⟩ | e
    · rw [e] at hsh hn
      simp [r21l1,b21l1,hlt,hlt2,hat,hEl,hEA,hsh,hDl,hdl,hw]
      exact hn
    · rw [e] at hsh hn
      generalize (shL n x).map mvP = Q at hsh hn hns
      simp [r21l1,b21l1,hlt,hlt2,hat,hEl,hEA,hsh,hDl,hdl,hw,hns]
      exact hn
def gbOk (a b : Gr) : Bool := grOk a && (grOk b && decide (a.length + b.length ≤ 60))
theorem eqGBothI (a b : Gr) (hsA : SmallG a) (hsB : SmallG b) (hfA : FitG a) (hfB : FitG b) :
    callI G 21 [.agg [.sl false 1 (encGs false false a)],.agg [.sl false 1 (encGs false false b)]] [] = some (.tup [.agg [if gbOk a b = true then .sl true 1 (encGs true true (bothG a b)) else .nils],.b (gbOk a b)],[]) := by
  have h1 := eqOkI a hfA
  have h2 := eqOkI b hfB
  simp only [encG,encM_f] at h1 h2
  have hE1 : (encGs false false a).length = a.length := by simp
  have hE2 : (encGs false false b).length = b.length := by simp
  have hsA1 := hsA.1
  have hsB1 := hsB.1
  have hw : IntKind.i64.wrap ((a.length : Int) + b.length) = (a.length : Int) + b.length := wr (by omega)
  rw [callI_eq]
  cases c1 : grOk a with
  | false =>
    rw [c1] at h1
    simp [body1_eq _ _ (gp 21) g21,c21,a21,h1,gbOk,c1]
  | true =>
    rw [c1] at h1
    cases c2 : grOk b with
    | false =>
      rw [c2] at h2
      simp [body1_eq _ _ (gp 21) g21,c21,a21,h1,h2,gbOk,c1,c2]
    | true =>
      rw [c2] at h2
      by_cases c3 : a.length + b.length ≤ 60
      · have c4 : ¬ (60 : Int) < (a.length : Int) + b.length := by omega
        obtain ⟨p1,p2,p3⟩ := grOk_to c1
        obtain ⟨q1,q2,q3⟩ := grOk_to c2
        obtain ⟨Y,YL,hY,l0⟩ := loopGb0 (.sl false 1 (encGs false false b)) (by intro f n; simp) a p1 p3 hsA a [] rfl .nils [] (.inl ⟨rfl,rfl,rfl⟩)
        have l1 := loopGb1 (encGs false false a) a.length (by simp) p3 (encGs true true (sh0 a)) (by simp [sh0]) b q1 q3 hsB b [] rfl
        have hne : encGs true true (sh0 a) ≠ [] := by
          intro e
          have := congrArg List.length e
          rw [encGs_len,sh0_len] at this
          have h0 : a.length = 0 := this
          omega
        have hg : gbOk a b = true := by simp [gbOk,c1,c2,c3]
        have hbo : encGs true true (sh0 a) ++ encGs true true (b.map (shL a.length)) = encGs true true (bothG a b) := by rw [sh0_eq,bothG,encGs_app]
        rw [hg]
        rcases hY with ⟨q,_⟩ | ⟨_,rfl,rfl⟩
        · exact absurd q hne
        · simp only [List.length_nil,show ((0 : Nat) : Int) = 0 from rfl,List.map_nil,show encGs true true [] = [] from rfl,List.append_nil,Nat.add_zero,encGs_len,sh0_len] at l0 l1
          rw [hbo] at l1
          have hBl : (encGs true true (bothG a b)).length = a.length + b.length := by rw [encGs_len,both_len]
          generalize encGs true true (bothG a b) = Z at l1 hBl ⊢
          generalize encGs true true (sh0 a) = Z0 at l0 l1
          generalize encGs false false a = E1 at h1 hE1 l0 l1 ⊢
          generalize encGs false false b = E2 at h2 hE2 l0 l1 ⊢
          simp [body1_eq _ _ (gp 21) g21,c21,a21,h1,h2,hE1,hE2,hw,c4,l0,l1,hBl]
      · have c4 : (60 : Int) < (a.length : Int) + b.length := by omega
        have hg : gbOk a b = false := by simp [gbOk,c3]
        rw [hg]
        simp [body1_eq _ _ (gp 21) g21,c21,a21,h1,h2,hE1,hE2,hw,c4]
end Go.Am
end
section
set_option maxRecDepth 10000
set_option maxHeartbeats 4000000
set_option linter.unusedSimpArgs false
set_option linter.unusedVariables false
namespace Go.Am
open Go.Proofs Go.Sort Go.Shelf
theorem gr_row (q : Gr) (s : Nat) (h : s < q.length) : ∃ x : List Mv,x ∈ q ∧ nth (encGs false false q) s = some (.sl false 2 (x.map mvP)) :=
  ⟨q[s],List.getElem_mem h,by simp [nth,encGs,h]⟩
theorem mv_nth (l : List Mv) (i : Nat) (h : i < l.length) : ∃ m : Mv,nth (l.map mvP) i = some (mvP m) := ⟨l[i],by simp [nth,h]⟩
theorem loopMnG0 (q : Gr) (s : Nat) (hs : s < q.length) (x : List Mv) (hat : nth (encGs false false q) s = some (.sl false 2 (x.map mvP))) (hl : x.length ≤ 4611686018427387904) (hq : q.length ≤ 4611686018427387904) : ∀ (n i : Nat),i + n = x.length →
    loopI G [2,3,5,6] [2,3] c7l0 ⟨[(2,.ref (0,2) 1 0 0),(3,.ref (0,3) 1 0 0),(5,.i s),(6,.i i)],[(2,.box [.sl false 1 (encGs false false q)]),(3,.box [.sl false 1 (encGs false false q)])],[]⟩ =
      some (.exit 2,⟨[(2,.ref (0,2) 1 0 0),(3,.ref (0,3) 1 0 0),(5,.i s),(6,.i x.length),(41,.b false)],[(2,.box [.sl false 1 (encGs false false q)]),(3,.box [.sl false 1 (encGs false false q)])],[]⟩)
  | 0,i,h => by
    have : i = x.length := by omega
    subst this
    have hlt : (s : Int) < q.length := by omega
    rw [loopI_eq]
    simp [r7l0,b7l0,hlt,hat]
  | n + 1,i,h => by
    have hn := loopMnG0 q s hs x hat hl hq n (i + 1) (by omega)
    have hil : i < x.length := by omega
    obtain ⟨m,hat2⟩ := mv_nth x i hil
    have hlt : (s : Int) < q.length := by omega
    have hlt2 : (i : Int) < x.length := by omega
    have hw : IntKind.i64.wrap ((i : Int) + 1) = (i : Int) + 1 := wr (by omega)
    simp only [Int.natCast_add,show ((1 : Nat) : Int) = 1 from rfl] at hn
    simp only [mvP] at hat2
    rw [loopI_eq]
    simp [r7l0,b7l0,hlt,hat,hlt2,hat2,hw]
    exact hn
theorem loopMnG1 (q : Gr) (hl : ∀ l ∈ q,l.length ≤ 4611686018427387904) (hq : q.length ≤ 4611686018427387904) : ∀ (n s : Nat),s + n = q.length →
    loopI G [2,3,5] [2,3] c7l1 ⟨[(2,.ref (0,2) 1 0 0),(3,.ref (0,3) 1 0 0),(5,.i s)],[(2,.box [.sl false 1 (encGs false false q)]),(3,.box [.sl false 1 (encGs false false q)])],[]⟩ =
      some (.exit 0,⟨[(2,.ref (0,2) 1 0 0),(3,.ref (0,3) 1 0 0),(5,.i q.length),(18,.b false)],[(2,.box [.sl false 1 (encGs false false q)]),(3,.box [.sl false 1 (encGs false false q)])],[]⟩)
  | 0,s,h => by
    have : s = q.length := by omega
    subst this
    rw [loopI_eq]
    simp [r7l1,b7l1]
  | n + 1,s,h => by
    have hn := loopMnG1 q hl hq n (s + 1) (by omega)
    have hs : s < q.length := by omega
    obtain ⟨x,hx,hat⟩ := gr_row q s hs
    have hlt : (s : Int) < q.length := by omega
    have hw : IntKind.i64.wrap ((s : Int) + 1) = (s : Int) + 1 := wr (by omega)
    have h0 := loopMnG0 q s hs x hat (hl x hx) hq x.length 0 (by omega)
    simp only [Int.natCast_add,show ((1 : Nat) : Int) = 1 from rfl,show ((0 : Nat) : Int) = 0 from rfl] at hn h0
    rw [loopI_eq]
    simp [r7l1,b7l1,hlt,hat,hw,h0]
    exact hn
theorem eqMnGraph (q : Gr) (hl : ∀ l ∈ q,l.length ≤ 4611686018427387904) (hq : q.length ≤ 4611686018427387904) : callI G 7 [encG false false q,encG false false q] [] = some (.b true,[]) := by
  have h1 := loopMnG1 q hl hq q.length 0 (by omega)
  simp only [show ((0 : Nat) : Int) = 0 from rfl] at h1
  rw [callI_eq]
  simp [body1_eq _ _ (gp 7) g7,c7,a7,h1]
def clsV (g : Gr) : PV := if grOk g = true then .sl true 1 ((clsG g).map PV.i) else .nils
theorem eqAlikeC (g : Gr) (hsm : SmallG g) (hf : FitG g) : callI G 22 [encG false false g] [] = some (clsV g,[]) := by
  have h1 := eqOkI g hf
  simp only [encG,encM_f] at h1
  rw [callI_eq]
  unfold clsV
  cases c1 : grOk g with
  | false =>
    rw [c1] at h1
    simp [body1_eq _ _ (gp 22) g22,c22,a22,h1]
  | true =>
    rw [c1] at h1
    obtain ⟨p1,p2,p3⟩ := grOk_to c1
    have h2 := eqAlikeClasses _ g (encR_G false false g) hsm p1 p2 (by omega)
    simp [body1_eq _ _ (gp 22) g22,c22,a22,h1,h2]
end Go.Am
end
section
set_option maxRecDepth 10000
set_option maxHeartbeats 4000000
set_option linter.unusedSimpArgs false
set_option linter.unusedVariables false
namespace Go.Am
open Go.Proofs Go.Sort Go.Shelf
theorem trees_encGs : ∀ g : Gr,trees (encGs true true g) = true
  | [] => rfl
  | l :: g => by
    have ih := trees_encGs g
    simp only [encGs,List.map_cons,trees,Bool.and_eq_true] at ih ⊢
    refine ⟨?_,ih⟩
    have h2 : ∀ l : List Mv,trees (l.map mvP) = true := by
      intro l
      induction l with
      | nil => rfl
      | cons m l ih => simp only [List.map_cons,trees,ih,Bool.and_true]; rfl
    unfold encL
    split
    · rfl
    · simp only [tree]; exact h2 l
theorem tree_encG (g : Gr) : tree (encG true true g) = true := by
  simp only [encG,encM',tree,trees,Bool.and_true]
  split
  · rfl
  · simp only [tree,trees_encGs g]
theorem fal_encG (g : Gr) : fal (encG true true g) = encG true false g := by simp only [encG,fal,fals,fal_encM]
theorem low_gx (g : Gr) (y : PV) (hy : tree y = true) : lowTR (some (.tup [encG true true g,y],[])) = some (.tup [encG true false g,fal y],[]) := by
  have ht : trees [encG true true g,y] = true := by simp only [trees,tree_encG,hy,Bool.and_true]
  simp only [lowTR,ht,if_true,fals,fal_encG]
theorem low_gb (g : Gr) (b : Bool) : lowTR (some (.tup [encG true true g,.b b],[])) = some (.tup [encG true false g,.b b],[]) := low_gx g (.b b) rfl
end Go.Am
end
section
set_option maxRecDepth 10000
set_option maxHeartbeats 4000000
set_option linter.unusedSimpArgs false
set_option linter.unusedVariables false
namespace Go.Am
open Go.Proofs Go.Sort Go.Shelf
theorem nPick {args : List PV} {o : Stack} {x : Option (PV × Stack)} (h : callI H 24 args o = x) : callI N 24 args o = x := by
  rw [callI_prim' (p := viaP H 24 id) rfl]
  simpa only [viaP,List.map_id_fun,id] using h
theorem nGraph {args : List PV} {o o' : Stack} {g : Gr} (h : callI H 23 args o = some (encG true true g,o')) : callI N 23 args o = some (encG true false g,o') := by
  rw [callI_prim' (p := lowXP H 23 id) rfl]
  simp only [lowXP,viaP,List.map_id_fun,id,h,lowXR,tree_encG,if_true,fal_encG]
theorem nOf (ds : List Tm) (hs : SmTs ds) (hl : ds.length ≤ 1000) (t : Tm) (ht : SmT t) : ∃ (g : Gr) (ok : Bool),SmallG g ∧ callI N 26 [encT false t,encQ false ds] [] = some (.tup [encG true false g,.b ok],[]) := by
  obtain ⟨g,ok,h1,h2,h⟩ := eqGraphOf ds hs hl t ht
  refine ⟨g,ok,⟨by omega,fun l hl => by have := h2 l hl; omega⟩, ?_⟩
  rw [callI_prim' (p := lowTP G 26 id) rfl]
  simp only [lowTP,viaP,List.map_id_fun,id,h]
  exact low_gb g ok
theorem nFold (g : Gr) (sg : SmallG g) : ∃ (F : Gr) (ok : Bool),SmallG F ∧ callI N 27 [encG true false g] [] = some (.tup [encG true false F,.b ok],[]) := by
  obtain ⟨F,ok,sF,h⟩ := eqGraphFold g sg
  refine ⟨F,ok,sF, ?_⟩
  rw [callI_prim' (p := lowTP G 27 wkG) rfl]
  simp only [lowTP,viaP,List.map_cons,List.map_nil,wkG_enc,h]
  exact low_gb F ok
theorem eqTwins (o : Stack) (id : Id) (hid : id.1 < o.length) (B : List Nat) (p : Int) (hr : RdrOK B p) (hp : p + 40000 ≤ 1000000000) :
    ∃ g h q,p ≤ q ∧ q ≤ p + 40000 ∧ SmallG g ∧ SmallG h ∧ callI N 11 [.ref id 1 0 0] (setS o id (rd B p)) = some (.tup [encG true false g,encG true false h],setS o id (rd B q)) := by
  have hne2 : ¬ id.1 = o.length := by omega
  obtain ⟨g,q1,a1,a2,sg,hg⟩ := drawGF o id hid B p hr (by omega)
  have hg := nGraph hg
  obtain ⟨h,q2,b1,b2,sh,hh⟩ := drawGF o id hid B q1 (hr.next (by omega) (by omega)) (by omega)
  have hh := nGraph hh
  obtain ⟨k,c1,c2,c3⟩ := pickF o id hid B q2 4 (hr.next (by omega) (by omega)) (by omega) (by omega)
  have c3 := nPick c3
  simp only [encG] at hg hh
  by_cases h0 : k = 0
  · subst h0
    obtain ⟨t,u,ds,q3,d1,d2,st,su,sds,ld,hpr⟩ := pairF o id hid B (q2 + 1) (hr.next (by omega) (by omega)) (by omega)
    obtain ⟨a,ok,sa,ha⟩ := nOf ds sds (by omega) t st
    obtain ⟨b,fine,sb,hb⟩ := nOf ds sds (by omega) u su
    obtain ⟨to,tn,tp⟩ := t
    obtain ⟨uo,un,up⟩ := u
    simp only [encG,encT_open] at ha hb hpr
    cases ok with
    | false =>
      refine ⟨g,h,q3,by omega,by omega,sg,sh, ?_⟩
      rw [callI_eq]
      simp [body1_eq _ _ (gpN 11) g11,c11,a11,hne2,setS_len,hg,hh,c3,hpr,ha,hb]
    | true =>
      cases fine with
      | false =>
        refine ⟨g,h,q3,by omega,by omega,sg,sh, ?_⟩
        rw [callI_eq]
        simp [body1_eq _ _ (gpN 11) g11,c11,a11,hne2,setS_len,hg,hh,c3,hpr,ha,hb]
      | true =>
        refine ⟨a,b,q3,by omega,by omega,sa,sb, ?_⟩
        rw [callI_eq]
        simp [body1_eq _ _ (gpN 11) g11,c11,a11,hne2,setS_len,hg,hh,c3,hpr,ha,hb]
  · by_cases h1 : k = 1
    · subst h1
      obtain ⟨F,ok,sF,hF⟩ := nFold g sg
      simp only [encG] at hF
      cases ok with
      | false =>
        refine ⟨g,h,q2 + 1,by omega,by omega,sg,sh, ?_⟩
        rw [callI_eq]
        simp [body1_eq _ _ (gpN 11) g11,c11,a11,hne2,setS_len,hg,hh,c3,hF]
      | true =>
        refine ⟨g,F,q2 + 1,by omega,by omega,sg,sF, ?_⟩
        rw [callI_eq]
        simp [body1_eq _ _ (gpN 11) g11,c11,a11,hne2,setS_len,hg,hh,c3,hF]
    · refine ⟨g,h,q2 + 1,by omega,by omega,sg,sh, ?_⟩
      rw [callI_eq]
      simp [body1_eq _ _ (gpN 11) g11,c11,a11,hne2,setS_len,hg,hh,c3,h0,h1]
theorem nOpen (B : List Nat) (hB : B.length ≤ 9223372036854775807) : ∃ B',B'.length ≤ 2000 ∧ (∀ b ∈ B',b ∈ B) ∧ callI N 10 [.sl false 1 (byVs B)] [] = some (.bx [.sl false 1 (byVs B'),.i 0],[]) := by
  obtain ⟨B',h1,h2,h3⟩ := eqOpen B hB
  refine ⟨B',h1,h2, ?_⟩
  rw [callI_prim' (p := viaP H 10 id) rfl]
  simpa only [viaP,List.map_id_fun,id] using h3
end Go.Am
end
section
set_option maxRecDepth 10000
set_option maxHeartbeats 4000000
set_option linter.unusedSimpArgs false
set_option linter.unusedVariables false
namespace Go.Am
open Go.Proofs Go.Sort Go.Shelf
theorem mvOk_mono {n m : Nat} (h : n ≤ m) {x : Mv} (hx : mvOk n x = true) : mvOk m x = true := by
  simp only [mvOk,Bool.and_eq_true,decide_eq_true_eq] at hx ⊢
  exact ⟨hx.1,hx.2.1,by omega⟩
theorem rowOk_mono {n m : Nat} (h : n ≤ m) : ∀ {l : List Mv} {p : Option Mv},rowOk n p l = true → rowOk m p l = true
  | [],_,_ => rfl
  | x :: l,p,hl => by
    simp only [rowOk,Bool.and_eq_true] at hl ⊢
    exact ⟨mvOk_mono h hl.1,hl.2.1,rowOk_mono h hl.2.2⟩
theorem ltM_shift (k : Int) (x y : Mv) : ltM (x.1,x.2 + k) (y.1,y.2 + k) = ltM x y := by
  have h1 := ltM_iff (x.1,x.2 + k) (y.1,y.2 + k)
  have h2 := ltM_iff x y
  simp only at h1
  cases a : ltM x y with
  | true => exact h1.2 (by have := h2.1 a; omega)
  | false =>
    cases b : ltM (x.1,x.2 + k) (y.1,y.2 + k) with
    | false => rfl
    | true =>
      have := h2.2 (by have := h1.1 b; omega)
      rw [a] at this; cases this
theorem rowOk_shift {n k : Nat} : ∀ {l : List Mv} {p : Option Mv},rowOk n p l = true → rowOk (k + n) (p.map fun x => (x.1,x.2 + k)) (shL k l) = true
  | [],_,_ => rfl
  | x :: l,p,hl => by
    simp only [rowOk,Bool.and_eq_true] at hl
    have ih := rowOk_shift (k := k) hl.2.2
    simp only [shL,List.map_cons,rowOk,Bool.and_eq_true]
    refine ⟨?_, ?_,ih⟩
    · have := hl.1
      simp only [mvOk,Bool.and_eq_true,decide_eq_true_eq] at this ⊢
      exact ⟨this.1,by omega,by omega⟩
    · cases p with
      | none => rfl
      | some q => exact (ltM_shift k q x).trans hl.2.1
theorem both_ok {a b : Gr} (h : gbOk a b = true) : grOk (bothG a b) = true := by
  simp only [gbOk,Bool.and_eq_true,decide_eq_true_eq] at h
  obtain ⟨ha,hb,hn⟩ := h
  simp only [grOk,Bool.and_eq_true,decide_eq_true_eq,List.all_eq_true] at ha hb ⊢
  have hl : (bothG a b).length = a.length + b.length := by simp [bothG]
  rw [hl]
  refine ⟨by omega,hn,fun r hr => ?_⟩
  rcases List.mem_append.1 hr with h | h
  · exact rowOk_mono (by omega) (ha.2.2 r h)
  · obtain ⟨x,hx,rfl⟩ := List.mem_map.1 h
    exact rowOk_shift (p := none) (hb.2.2 x hx)
theorem noShares_mapI : ∀ l : List Int,noShares (l.map PV.i) = true
  | [] => rfl
  | x :: l => by
    have := noShares_mapI l
    simp only [List.map_cons,noShares] at this ⊢
    rw [this]; rfl
def firstB (g h : Gr) : Bool := !gbOk g h || decide ((clsG (bothG g h)).getD g.length 0 = 0)
theorem hGBoth (a b : Gr) (ha : SmallG a) (hb : SmallG b) (fa : FitG a) (fb : FitG b) : callI H 21 [encG true false a,encG true false b] [] = some (.tup [.agg [if gbOk a b = true then .sl true 1 (encGs true true (bothG a b)) else .nils],.b (gbOk a b)],[]) := by
  rw [callI_prim' (p := viaP G 21 wkG) rfl]
  simp only [viaP,List.map_cons,List.map_nil,wkG_enc]
  exact eqGBothI a b ha hb fa fb
theorem hAlikeC (g : Gr) (hs : SmallG g) (hf : FitG g) : callI H 22 [encG true false g] [] = some (clsV g,[]) := by
  rw [callI_prim' (p := viaP G 22 wkG) rfl]
  simp only [viaP,List.map_cons,List.map_nil,wkG_enc]
  exact eqAlikeC g hs hf
theorem hMnGraph (q : Gr) (hs : SmallG q) : callI H 7 [encG true false q,encG true false q] [] = some (.b true,[]) := by
  rw [callI_prim' (p := viaP G 7 wkG) rfl]
  simp only [viaP,List.map_cons,List.map_nil,wkG_enc]
  exact eqMnGraph q (fun l hl => by have := hs.2 l hl; omega) (by have := hs.1; omega)
theorem eqMnFirst (g h : Gr) (hg : SmallG g) (hh : SmallG h) (fg : FitG g) (fh : FitG h) : callI H 9 [encG true false g,encG true false h] [] = some (.b (firstB g h),[]) := by
  have h1 := hGBoth g h hg hh fg fh
  cases hb : gbOk g h with
  | false =>
    rw [hb] at h1
    simp only [Bool.false_eq_true,if_false] at h1
    simp only [encG] at h1 ⊢
    rw [callI_eq]
    rcases encM_two true false g with ⟨e,_⟩ | e <;> rcases encM_two true false h with ⟨e',_⟩ | e' <;>
      (rw [e,e'] at h1 ⊢
       simp [body1_eq _ _ (gpH 9) g9,c9,a9,h1,firstB,hb])
  | true =>
    have hok := both_ok hb
    rw [hb] at h1
    simp only [if_true] at h1
    have hl : (bothG g h).length = g.length + h.length := by simp [bothG]
    have hle : g.length + h.length ≤ 60 ∧ 1 ≤ h.length := by
      simp only [gbOk,Bool.and_eq_true,decide_eq_true_eq,grOk] at hb
      omega
    have hfb : FitG (bothG g h) := ⟨by rw [hl]; omega,fun r hr => by
      rcases List.mem_append.1 hr with e | e
      · exact fg.2 r e
      · obtain ⟨x,hx,rfl⟩ := List.mem_map.1 e
        rw [shL_len]; exact fh.2 x hx⟩
    have hsb : SmallG (bothG g h) := ⟨by rw [hl]; omega,fun r hr => by
      rcases List.mem_append.1 hr with e | e
      · exact hg.2 r e
      · obtain ⟨x,hx,rfl⟩ := List.mem_map.1 e
        rw [shL_len]; exact hh.2 x hx⟩
    have h2 := hAlikeC (bothG g h) hsb hfb
    have hne : bothG g h ≠ [] := by intro e; rw [e] at hl; simp at hl; omega
    have eM : encM' true false (bothG g h) = .sl false 1 (encGs true false (bothG g h)) := encM_ne hne
    simp only [clsV,hok,if_true,encG,eM] at h2
    have hcl : (clsG (bothG g h)).length = g.length + h.length := by rw [clsG_len,hl]
    have hlt : g.length < (clsG (bothG g h)).length := by omega
    have hat : nth ((clsG (bothG g h)).map PV.i) g.length = some (.i ((clsG (bothG g h)).getD g.length 0)) := by
      simp [nth,hlt]
    have hfl : fals (encGs true true (bothG g h)) = encGs true false (bothG g h) := fals_encGs _ _ _
    have hns := noShares_encGs true (bothG g h)
    have hlI : (g.length : Int) < (g.length : Int) + h.length := by omega
    have hfB : firstB g h = decide ((clsG (bothG g h)).getD g.length 0 = 0) := by simp [firstB,hb]
    rw [hfB]
    generalize (clsG (bothG g h)).getD g.length 0 = v at hat
    have hcm : ((clsG (bothG g h)).map PV.i).length = g.length + h.length := by simpa using hcl
    have hnC := noShares_mapI (clsG (bothG g h))
    generalize (clsG (bothG g h)).map PV.i = C at hat h2 hcm hnC
    have hel : (encGs true true (bothG g h)).length = g.length + h.length := by simp [hl]
    generalize encGs true true (bothG g h) = E at h1 hfl hns hel
    generalize encGs true false (bothG g h) = EF at h2 hfl
    rw [callI_eq]
    simp only [encG] at h1 ⊢
    rcases encM_two true false h with ⟨_,e0⟩ | e'
    · subst e0
      simp at hle
    rcases encM_two true false g with ⟨e,e0⟩ | e
    · subst e0
      simp [gbOk,grOk] at hb
    rw [e,e'] at h1 ⊢
    simp [body1_eq _ _ (gpH 9) g9,c9,a9,h1,hfl,h2,hns,hel,hcm,hat,hlI,hnC]
end Go.Am
end
section
set_option maxRecDepth 10000
set_option maxHeartbeats 1000000
set_option linter.unusedSimpArgs false
set_option linter.unusedVariables false
namespace Go.Am
open Go.Proofs Go.Sort Go.Shelf
theorem sum_row1 (g h : Gr) {s : Nat} (hs : s < g.length) : rowZ (sumG g h) ((1 + s : Nat) : Int) = shL 1 (rowZ g s) := by
  unfold rowZ sumG
  rw [Int.toNat_natCast,Int.toNat_natCast,show 1 + s = s + 1 by omega,List.getD_cons_succ,List.getD_eq_getElem?_getD,List.getD_eq_getElem?_getD,List.getElem?_append_left (by simpa using hs),List.getElem?_map]
  cases g[s]? <;> simp [shL]
theorem sum_row2 (g h : Gr) {t : Nat} (ht : t < h.length) : rowZ (sumG g h) ((1 + g.length + t : Nat) : Int) = shL ((1 + g.length : Nat) : Int) (rowZ h t) := by
  unfold rowZ sumG
  rw [Int.toNat_natCast,Int.toNat_natCast,show 1 + g.length + t = g.length + t + 1 by omega,List.getD_cons_succ,List.getD_eq_getElem?_getD,List.getD_eq_getElem?_getD,List.getElem?_append_right (by simp),List.getElem?_map]
  simp only [List.length_map,Nat.add_sub_cancel_left]
  cases h[t]? <;> simp [shL]
theorem sum_mem0 (g h : Gr) (z : Mv) : z ∈ rowZ (sumG g h) 0 ↔ (∃ m ∈ rowZ g 0,z = (m.1,m.2 + 1)) ∨ (∃ m ∈ rowZ h 0,z = (m.1,m.2 + ((1 + g.length : Nat) : Int))) := by
  have e : rowZ (sumG g h) 0 = tidyL (sumR g h) := rfl
  rw [e,(tidyL_sd _).2 z]
  unfold sumR shL rowZ
  rw [List.mem_append,List.mem_map,List.mem_map]
  constructor
  · rintro (⟨m,hm,rfl⟩ | ⟨m,hm,rfl⟩)
    · exact .inl ⟨m,hm,rfl⟩
    · exact .inr ⟨m,hm,rfl⟩
  · rintro (⟨m,hm,rfl⟩ | ⟨m,hm,rfl⟩)
    · exact .inl ⟨m,hm,rfl⟩
    · exact .inr ⟨m,hm,rfl⟩
theorem row_nn {g : Gr} (hg : OkTo g) {s : Nat} {m : Mv} (hm : m ∈ rowZ g s) : 0 ≤ m.2 ∧ m.2 < g.length := by
  unfold rowZ at hm
  by_cases hs : s < g.length
  · exact hg _ (by simpa using gr_mem hs) m hm
  · rw [List.getD_eq_getElem?_getD,List.getElem?_eq_none (by simpa using hs)] at hm
    cases hm
def SuA (g : Gr) (x x' : Int) : Prop := ∃ s : Nat,s < g.length ∧ x = ((1 + s : Nat) : Int) ∧ x' = s
def SuB (g h : Gr) (x x' : Int) : Prop := ∃ t : Nat,t < h.length ∧ x = ((1 + g.length + t : Nat) : Int) ∧ x' = t
theorem suA_to {g h : Gr} (hg : OkTo g) : ∀ x x',SuA g x x' → ∀ m ∈ rowZ (sumG g h) x,∃ m' ∈ rowZ g x',m'.1 = m.1 ∧ SuA g m.2 m'.2 := by
  rintro x x' ⟨s,hs,rfl,rfl⟩ m hm
  rw [sum_row1 g h hs] at hm
  unfold shL at hm
  obtain ⟨k,hk,rfl⟩ := List.mem_map.1 hm
  have := row_nn hg hk
  exact ⟨k,hk,rfl,k.2.toNat,by omega,by show k.2 + 1 = _; omega,by omega⟩
theorem suA_of {g h : Gr} (hg : OkTo g) : ∀ x' x,SuA g x x' → ∀ m ∈ rowZ g x',∃ m' ∈ rowZ (sumG g h) x,m'.1 = m.1 ∧ SuA g m'.2 m.2 := by
  rintro x' x ⟨s,hs,rfl,rfl⟩ m hm
  rw [sum_row1 g h hs]
  have := row_nn hg hm
  exact ⟨(m.1,m.2 + 1),List.mem_map.2 ⟨m,hm,rfl⟩,rfl,m.2.toNat,by omega,by show m.2 + 1 = _; omega,by omega⟩
theorem suB_to {g h : Gr} (hh : OkTo h) : ∀ x x',SuB g h x x' → ∀ m ∈ rowZ (sumG g h) x,∃ m' ∈ rowZ h x',m'.1 = m.1 ∧ SuB g h m.2 m'.2 := by
  rintro x x' ⟨s,hs,rfl,rfl⟩ m hm
  rw [sum_row2 g h hs] at hm
  unfold shL at hm
  obtain ⟨k,hk,rfl⟩ := List.mem_map.1 hm
  have := row_nn hh hk
  exact ⟨k,hk,rfl,k.2.toNat,by omega,by show k.2 + ((1 + g.length : Nat) : Int) = _; omega,by omega⟩
theorem suB_of {g h : Gr} (hh : OkTo h) : ∀ x' x,SuB g h x x' → ∀ m ∈ rowZ h x',∃ m' ∈ rowZ (sumG g h) x,m'.1 = m.1 ∧ SuB g h m'.2 m.2 := by
  rintro x' x ⟨s,hs,rfl,rfl⟩ m hm
  rw [sum_row2 g h hs]
  have := row_nn hh hm
  exact ⟨(m.1,m.2 + ((1 + g.length : Nat) : Int)),List.mem_map.2 ⟨m,hm,rfl⟩,rfl,m.2.toNat,by omega,by show m.2 + ((1 + g.length : Nat) : Int) = _; omega,by omega⟩
theorem wk_first {q : Gr} {x y a : Int} {w : List Int} (k : Wk q x (a :: w) y) : ∃ m ∈ rowZ q x,(m.1 = 0 ∧ Wk q m.2 (a :: w) y) ∨ (m.1 = a ∧ Wk q m.2 w y) := by
  obtain ⟨u,m,t,hm,e,k2⟩ := wk_inv k
  cases t with
  | refl _ => exact ⟨m,hm,.inr ⟨e,k2⟩⟩
  | step _ _ m0 h1 h2 h3 =>
    refine ⟨m0,h1,.inl ⟨h2, ?_⟩⟩
    have := Wk.cons (g := q) _ _ y m w h3 hm k2
    rw [e] at this
    exact this
theorem wk_of_first {q : Gr} {x y a : Int} {w : List Int} {m : Mv} (hm : m ∈ rowZ q x) (h : (m.1 = 0 ∧ Wk q m.2 (a :: w) y) ∨ (m.1 = a ∧ Wk q m.2 w y)) : Wk q x (a :: w) y := by
  rcases h with ⟨e,k⟩ | ⟨e,k⟩
  · exact Wk.pre (.step _ _ m hm e (.refl _)) k
  · have := Wk.cons (g := q) x x y m w (.refl _) hm k
    rw [e] at this
    exact this
theorem sum_wk {g h : Gr} (hg : OkTo g) (hh : OkTo h) (a : Int) (w : List Int) : (∃ y,Wk (sumG g h) 0 (a :: w) y) ↔ (∃ y,Wk g 0 (a :: w) y) ∨ (∃ y,Wk h 0 (a :: w) y) := by
  constructor
  · rintro ⟨y,k⟩
    obtain ⟨z,hz,hk⟩ := wk_first k
    rcases (sum_mem0 g h z).1 hz with ⟨m,hm,rfl⟩ | ⟨m,hm,rfl⟩
    · have hb := row_nn (s := 0) hg hm
      have hc : SuA g (m.2 + 1) m.2 := ⟨m.2.toNat,by omega,by omega,by omega⟩
      rcases hk with ⟨e,k⟩ | ⟨e,k⟩
      · obtain ⟨y',k',_⟩ := wk_sim (suA_to (h := h) hg) k hc
        exact .inl ⟨y',wk_of_first hm (.inl ⟨e,k'⟩)⟩
      · obtain ⟨y',k',_⟩ := wk_sim (suA_to (h := h) hg) k hc
        exact .inl ⟨y',wk_of_first hm (.inr ⟨e,k'⟩)⟩
    · have hb := row_nn (s := 0) hh hm
      have hc : SuB g h (m.2 + ((1 + g.length : Nat) : Int)) m.2 := ⟨m.2.toNat,by omega,by omega,by omega⟩
      rcases hk with ⟨e,k⟩ | ⟨e,k⟩
      · obtain ⟨y',k',_⟩ := wk_sim (suB_to (g := g) hh) k hc
        exact .inr ⟨y',wk_of_first hm (.inl ⟨e,k'⟩)⟩
      · obtain ⟨y',k',_⟩ := wk_sim (suB_to (g := g) hh) k hc
        exact .inr ⟨y',wk_of_first hm (.inr ⟨e,k'⟩)⟩
  · rintro (⟨y,k⟩ | ⟨y,k⟩)
    · obtain ⟨m,hm,hk⟩ := wk_first k
      have hb := row_nn (s := 0) hg hm
      have hc : SuA g (m.2 + 1) m.2 := ⟨m.2.toNat,by omega,by omega,by omega⟩
      have hz : (m.1,m.2 + 1) ∈ rowZ (sumG g h) 0 := (sum_mem0 g h _).2 (.inl ⟨m,hm,rfl⟩)
      rcases hk with ⟨e,k⟩ | ⟨e,k⟩
      · obtain ⟨y',k',_⟩ := wk_sim (C := fun x' x => SuA g x x') (suA_of (h := h) hg) k hc
        exact ⟨y',wk_of_first hz (.inl ⟨e,k'⟩)⟩
      · obtain ⟨y',k',_⟩ := wk_sim (C := fun x' x => SuA g x x') (suA_of (h := h) hg) k hc
        exact ⟨y',wk_of_first hz (.inr ⟨e,k'⟩)⟩
    · obtain ⟨m,hm,hk⟩ := wk_first k
      have hb := row_nn (s := 0) hh hm
      have hc : SuB g h (m.2 + ((1 + g.length : Nat) : Int)) m.2 := ⟨m.2.toNat,by omega,by omega,by omega⟩
      have hz : (m.1,m.2 + ((1 + g.length : Nat) : Int)) ∈ rowZ (sumG g h) 0 := (sum_mem0 g h _).2 (.inr ⟨m,hm,rfl⟩)
      rcases hk with ⟨e,k⟩ | ⟨e,k⟩
      · obtain ⟨y',k',_⟩ := wk_sim (C := fun x' x => SuB g h x x') (suB_of (g := g) hh) k hc
        exact ⟨y',wk_of_first hz (.inl ⟨e,k'⟩)⟩
      · obtain ⟨y',k',_⟩ := wk_sim (C := fun x' x => SuB g h x x') (suB_of (g := g) hh) k hc
        exact ⟨y',wk_of_first hz (.inr ⟨e,k'⟩)⟩
def SuT (g h : Gr) (x y : Int) : Prop := (x = 0 ∧ y = 0) ∨ (∃ s : Nat,s < g.length ∧ x = ((1 + s : Nat) : Int) ∧ y = ((1 + h.length + s : Nat) : Int)) ∨ (∃ t : Nat,t < h.length ∧ x = ((1 + g.length + t : Nat) : Int) ∧ y = ((1 + t : Nat) : Int))
theorem suT_turn {g h : Gr} {x y : Int} (c : SuT g h x y) : SuT h g y x := by
  rcases c with ⟨h1,h2⟩ | ⟨s,h1,h2,h3⟩ | ⟨t,h1,h2,h3⟩
  · exact .inl ⟨h2,h1⟩
  · exact .inr (.inr ⟨s,h1,h3,h2⟩)
  · exact .inr (.inl ⟨t,h1,h3,h2⟩)
theorem suT_half {g h : Gr} (hg : OkTo g) (hh : OkTo h) {x y : Int} (c : SuT g h x y) : ∀ m ∈ rowZ (sumG g h) x,∃ k ∈ rowZ (sumG h g) y,k.1 = m.1 ∧ SuT g h m.2 k.2 := by
  intro z hz
  have inA : ∀ m : Mv,0 ≤ m.2 ∧ m.2 < g.length → SuT g h (m.2 + 1) (m.2 + ((1 + h.length : Nat) : Int)) := fun m hb => .inr (.inl ⟨m.2.toNat,by omega,by omega,by omega⟩)
  have inB : ∀ m : Mv,0 ≤ m.2 ∧ m.2 < h.length → SuT g h (m.2 + ((1 + g.length : Nat) : Int)) (m.2 + 1) := fun m hb => .inr (.inr ⟨m.2.toNat,by omega,by omega,by omega⟩)
  rcases c with ⟨rfl,rfl⟩ | ⟨s,hs,rfl,rfl⟩ | ⟨t,ht,rfl,rfl⟩
  · rcases (sum_mem0 g h z).1 hz with ⟨m,hm,rfl⟩ | ⟨m,hm,rfl⟩
    · exact ⟨(m.1,m.2 + ((1 + h.length : Nat) : Int)),(sum_mem0 h g _).2 (.inr ⟨m,hm,rfl⟩),rfl,inA m (row_nn (s := 0) hg hm)⟩
    · exact ⟨(m.1,m.2 + 1),(sum_mem0 h g _).2 (.inl ⟨m,hm,rfl⟩),rfl,inB m (row_nn (s := 0) hh hm)⟩
  · rw [sum_row1 g h hs] at hz
    obtain ⟨m,hm,rfl⟩ := List.mem_map.1 hz
    refine ⟨(m.1,m.2 + ((1 + h.length : Nat) : Int)), ?_,rfl,inA m (row_nn hg hm)⟩
    rw [sum_row2 h g hs]
    exact List.mem_map.2 ⟨m,hm,rfl⟩
  · rw [sum_row2 g h ht] at hz
    obtain ⟨m,hm,rfl⟩ := List.mem_map.1 hz
    refine ⟨(m.1,m.2 + 1), ?_,rfl,inB m (row_nn hh hm)⟩
    rw [sum_row1 h g ht]
    exact List.mem_map.2 ⟨m,hm,rfl⟩
theorem sums_turned {g h : Gr} (hg : OkTo g) (hh : OkTo h) (g0 : 0 < g.length) (h0 : 0 < h.length) :
    (clsG (bothG (partG (sumG g h) 0) (partG (sumG h g) 0))).getD (partG (sumG g h) 0).length 0 = 0 := by
  refine made_bis (sumG_to hg hh g0 h0) (sumG_to hh hg h0 g0) (by rw [sumG_len]; omega) (by rw [sumG_len]; omega) (SuT g h) (fun x y hc => ⟨fun m hm => ?_,fun k hk => ?_⟩) (.inl ⟨rfl,rfl⟩)
  · exact suT_half hg hh hc m hm
  · obtain ⟨m,hm,e,c⟩ := suT_half hh hg (suT_turn hc) k hk
    exact ⟨m,hm,e,suT_turn c⟩
theorem sumG_act {g h : Gr} (hg : ∀ l ∈ g,∀ m ∈ l,actOk m.1 = true) (hh : ∀ l ∈ h,∀ m ∈ l,actOk m.1 = true) (g0 : 0 < g.length) (h0 : 0 < h.length) : ∀ l ∈ sumG g h,∀ m ∈ l,actOk m.1 = true := by
  intro l hl m hm
  unfold sumG at hl
  rcases List.mem_cons.1 hl with rfl | hl
  · rw [(tidyL_sd _).2 m] at hm
    unfold sumR shL at hm
    rcases List.mem_append.1 hm with hm | hm <;> obtain ⟨k,hk,rfl⟩ := List.mem_map.1 hm
    · exact hg _ (getD_mem0 g0) k hk
    · exact hh _ (getD_mem0 h0) k hk
  · rcases List.mem_append.1 hl with hl | hl <;> obtain ⟨r,hr,rfl⟩ := List.mem_map.1 hl <;> obtain ⟨k,hk,rfl⟩ := List.mem_map.1 hm
    · exact hg r hr k hk
    · exact hh r hr k hk
theorem sum_made {g h x : Gr} (hk : graphSum g h = (x,true)) : (∀ a b,seenA a = true → seenA b = true → traceB x [a,b] = (traceB g [a,b] || traceB h [a,b])) ∧ ∀ y,graphSum h g = (y,true) → firstB x y = true := by
  unfold graphSum at hk
  split at hk
  · rename_i hc
    have hc' : (grOk h && grOk g) = true := by rw [Bool.and_comm]; exact hc
    simp only [Bool.and_eq_true] at hc
    obtain ⟨a1,a2,a3⟩ := grOk_to hc.1
    obtain ⟨b1,b2,b3⟩ := grOk_to hc.2
    have hto := sumG_to a1 b1 a2 b2
    have hac := sumG_act (grOk_act hc.1) (grOk_act hc.2) (by omega) (by omega)
    have h0 : 0 < (sumG g h).length := by rw [sumG_len]; omega
    obtain ⟨e1,e2⟩ := made_two (q := sumG g h) (by rw [hk])
    rw [e1] at hk
    simp only [Prod.mk.injEq,and_true] at hk
    subst hk
    have hok := part_ok hto h0 hac e2
    refine ⟨fun a b ha hb => ?_,fun y hy => ?_⟩
    · have hw : wordOk [a,b] = true := by simp [wordOk,ha,hb]
      rw [Bool.eq_iff_iff,Bool.or_eq_true,traceB_iff hok hw,traceB_iff hc.1 hw,traceB_iff hc.2 hw,part_wk hto h0,sum_wk a1 b1]
    · unfold graphSum at hy
      rw [if_pos hc'] at hy
      obtain ⟨f1,f2⟩ := made_two (q := sumG h g) (by rw [hy])
      rw [f1] at hy
      simp only [Prod.mk.injEq,and_true] at hy
      subst hy
      have := sums_turned a1 b1 (by omega) (by omega)
      simp only [firstB,this,decide_true,Bool.or_true]
  · simp at hk
theorem addNew_all {P : Int → Prop} : ∀ (l : List Mv) (row : List Int),(∀ x ∈ row,P x) → (∀ m ∈ l,P m.2) → ∀ x ∈ addNew row l,P x
  | [],row,h,_ => h
  | m :: l,row,h,hl => by
    simp only [addNew]
    refine addNew_all l _ ?_ (fun y hy => hl y (List.mem_cons_of_mem _ hy))
    split
    · exact h
    · intro x hx
      rcases List.mem_append.1 hx with hx | hx
      · exact h x hx
      · rw [List.mem_singleton] at hx; subst hx; exact hl m List.mem_cons_self
theorem bfs_all {P : Int → Prop} {g : Gr} (hP : ∀ x,P x → ∀ m ∈ rowZ g x,P m.2) : ∀ (f i : Nat) (row : List Int),(∀ x ∈ row,P x) → ∀ x ∈ bfs g f i row,P x
  | 0,_,_,h => h
  | f + 1,i,row,h => by
    simp only [Am.bfs]
    split
    · rename_i hi
      exact bfs_all hP f (i + 1) _ (addNew_all _ _ h (fun m hm => hP _ (h _ (getD_mem hi)) m hm))
    · exact h
theorem nodup_leI : ∀ (l m : List Int),l.Nodup → (∀ x ∈ l,x ∈ m) → l.length ≤ m.length
  | [],m,_,_ => Nat.zero_le _
  | x :: l,m,hn,hs => by
    have hx := hs x List.mem_cons_self
    have h1 := List.nodup_cons.1 hn
    have := nodup_leI l (m.erase x) h1.2 (fun y hy => (List.mem_erase_of_ne (fun e => h1.1 (by rw [← e]; exact hy))).2 (hs y (List.mem_cons_of_mem _ hy)))
    rw [List.length_erase_of_mem hx] at this
    have hm := List.length_pos_of_mem hx
    simp only [List.length_cons]; omega
theorem reach_le {A A' : Gr} (hA : OkTo A) (h0 : 0 < A.length) (hA' : OkTo A') (h0' : 0 < A'.length) (τ : Int → Int) (C : Int → Int → Prop) (hC0 : C 0 0)
    (hC : ∀ x y,C x y → ∀ m ∈ rowZ A' y,∃ k ∈ rowZ A x,C k.2 m.2) (hτ : ∀ x y,C x y → x = τ y) (hi : ∀ x y y',C x y → C x y' → y = y') : (reach A' 0).length ≤ (reach A 0).length := by
  have hP := bfs_all (P := fun y => ∃ x ∈ reach A 0,C x y) (g := A') (fun y hy m hm => by
    obtain ⟨x,hx,hc⟩ := hy
    obtain ⟨k,hk,hc2⟩ := hC x y hc m hm
    exact ⟨k.2,reach_closed hA h0 x hx k hk,hc2⟩) (A'.length + 1) 0 [0] (fun x hx => by
    rw [List.mem_singleton] at hx; subst hx
    have hr := reach_first A
    exact ⟨0,by have := getD_mem hr.2; rwa [hr.1] at this,hC0⟩)
  have hn := (InN.bfs hA' (A'.length + 1) 0 (InN.one (s := 0) (n := A'.length) ⟨by omega,by omega⟩)).1
  have := nodup_leI ((reach A' 0).map τ) (reach A 0) (by
    unfold List.Nodup
    rw [List.pairwise_map]
    refine List.Pairwise.imp_of_mem (fun {a b} ha hb hab e => hab ?_) hn
    obtain ⟨x,hx,hc⟩ := hP a ha
    obtain ⟨x',hx',hc'⟩ := hP b hb
    have e1 := hτ _ _ hc
    have e2 := hτ _ _ hc'
    rw [← e,← e1] at e2
    subst e2
    exact hi _ _ _ hc hc') (fun z hz => by
    obtain ⟨y,hy,rfl⟩ := List.mem_map.1 hz
    obtain ⟨x,hx,hc⟩ := hP y hy
    rw [← hτ _ _ hc]
    exact hx)
  simpa using this
theorem sum_back {g h x : Gr} (hk : graphSum g h = (x,true)) : (graphSum h g).2 = true := by
  unfold graphSum at hk ⊢
  split at hk
  · rename_i hc
    have hc' : (grOk h && grOk g) = true := by rw [Bool.and_comm]; exact hc
    rw [if_pos hc']
    simp only [Bool.and_eq_true] at hc
    obtain ⟨a1,a2,a3⟩ := grOk_to hc.1
    obtain ⟨b1,b2,b3⟩ := grOk_to hc.2
    obtain ⟨e1,e2⟩ := made_two (q := sumG g h) (by rw [hk])
    have := reach_le (A := sumG g h) (A' := sumG h g) (sumG_to a1 b1 a2 b2) (by rw [sumG_len]; omega) (sumG_to b1 a1 b2 a2) (by rw [sumG_len]; omega)
      (fun y => if y = 0 then 0 else if y ≤ h.length then y + g.length else y - h.length) (SuT g h) (.inl ⟨rfl,rfl⟩) (fun x y c m hm => by
        obtain ⟨k,hk,_,c2⟩ := suT_half b1 a1 (suT_turn c) m hm
        exact ⟨k,hk,suT_turn c2⟩) (fun x y c => by
        rcases c with ⟨h1,h2⟩ | ⟨s,h1,h2,h3⟩ | ⟨t,h1,h2,h3⟩
        · simp [h1,h2]
        · rw [if_neg (by omega),if_neg (by omega)]; omega
        · rw [if_neg (by omega),if_pos (by omega)]; omega) (fun x y y' c c' => by
        rcases c with ⟨h1,h2⟩ | ⟨s,h1,h2,h3⟩ | ⟨t,h1,h2,h3⟩ <;> rcases c' with ⟨k1,k2⟩ | ⟨s',k1,k2,k3⟩ | ⟨t',k1,k2,k3⟩ <;> omega)
    unfold made
    rw [if_pos (by omega)]
  · simp at hk
theorem sum_smallR {g h : Gr} (sg : SmallG g) (sh : SmallG h) : SmallG (graphSum g h).1 := by
  unfold graphSum
  split
  · rename_i hc
    simp only [Bool.and_eq_true] at hc
    obtain ⟨a1,a2,a3⟩ := grOk_to hc.1
    obtain ⟨b1,b2,b3⟩ := grOk_to hc.2
    have s1 := grOk_short hc.1 _ (getD_mem0 a2)
    have s2 := grOk_short hc.2 _ (getD_mem0 b2)
    refine made_small (sumG_small sg sh a3 b3 ?_)
    unfold sumR shL
    simp only [List.length_append,List.length_map]
    omega
  · exact ⟨by simp,fun l hl => by cases hl⟩
end Go.Am
end
section
set_option maxRecDepth 10000
set_option maxHeartbeats 2000000
set_option linter.unusedSimpArgs false
set_option linter.unusedVariables false
namespace Go.Am
open Go.Proofs Go.Sort Go.Shelf
theorem eqGraphSumS (g h : Gr) (hsG : SmallG g) (hsH : SmallG h) (hfG : FitG g) (hfH : FitG h) :
    callI G 6 [.agg [.sl false 1 (encGs false false g)],.agg [.sl false 1 (encGs false false h)]] [] = some (.tup [encG true true (graphSum g h).1,.b (graphSum g h).2],[]) := by
  have h1 := eqOkS g hfG
  have h2 := eqOkS h hfH
  simp only [encG,encM_f] at h1 h2
  have hE1 : (encGs false false g).length = g.length := by simp
  cases c1 : grOk g with
  | false =>
    rw [c1] at h1
    rw [callI_eq]
    simp [body1_eq _ _ (gp 6) g6,c6,a6,h1,graphSum,c1]
  | true =>
    rw [c1] at h1
    cases c2 : grOk h with
    | false =>
      rw [c2] at h2
      rw [callI_eq]
      simp [body1_eq _ _ (gp 6) g6,c6,a6,h1,h2,graphSum,c1,c2]
    | true =>
      rw [c2] at h2
      obtain ⟨p1,p2,p3⟩ := grOk_to c1
      obtain ⟨q1,q2,q3⟩ := grOk_to c2
      have hw : IntKind.i64.wrap (1 + (g.length : Int)) = ((1 + g.length : Nat) : Int) := by rw [wr (by omega)]; omega
      have hmg := getD_mem0 p2
      have hmh := getD_mem0 q2
      have hlg := grOk_short c1 _ hmg
      have hlh := grOk_short c2 _ hmh
      have hAB : (shL 1 (g.getD 0 [])).length + (shL (1 + g.length : Nat) (h.getD 0 [])).length ≤ 1080 := by simp only [shL_len]; omega
      have hsr : (sumR g h).length ≤ 1080 := by unfold sumR; rw [List.length_append]; exact hAB
      have hsm := sumG_small hsG hsH p3 q3 (by omega)
      -- both of the empty row and g
      have b1 := eqBoth [.nils] (encGs false false g) [[]] g (encR_G true false [[]]) (encR_G _ _ _) (by simp) (by simp) (by omega) (by constructor <;> simp) hsG (fun l hl m hm => by have := p1 l hl m hm; omega)
      have e2 : ((([[]] : Gr).length : Nat) : Int) = 1 := rfl
      rw [e2] at b1
      have hR1 : EncR false (encGs false false [[]] ++ encGs true false (g.map (shL 1))) ([] :: g.map (shL 1)) := (encR_G false false [[]]).app (encR_G true false (g.map (shL 1)))
      have hl1 : ([] :: g.map (shL 1) : Gr).length = 1 + g.length := by simp; omega
      have hs1 : SmallG ([] :: g.map (shL 1)) := by
        refine ⟨by rw [hl1]; omega,fun l hl => ?_⟩
        rcases List.mem_cons.1 hl with rfl | hl
        · simp
        · obtain ⟨r,hr,rfl⟩ := List.mem_map.1 hl
          rw [shL_len]; exact hsG.2 r hr
      have b2 := eqBoth _ (encGs false false h) ([] :: g.map (shL 1)) h hR1.fal (encR_G _ _ _) (by simp) (by rw [hl1]; omega) (by omega) hs1 hsH (fun l hl m hm => by have := q1 l hl m hm; omega)
      rw [hl1] at b2
      have ex : encGs false false ([] :: g.map (shL 1)) ++ encGs true false (h.map (shL (1 + g.length : Nat))) = .sl false 2 [] :: (encGs false false (g.map (shL 1)) ++ encGs true false (h.map (shL (1 + g.length : Nat)))) := by simp [encGs]
      rw [ex] at b2
      have hR2 : EncR false (encGs false false (g.map (shL 1)) ++ encGs true false (h.map (shL (1 + g.length : Nat)))) (g.map (shL 1) ++ h.map (shL (1 + g.length : Nat))) := (encR_G false false _).app (encR_G true false _)
      have hX2l : (encGs false false (g.map (shL 1)) ++ encGs true false (h.map (shL (1 + g.length : Nat)))).length = g.length + h.length := by simp
      have hat1 : nth (.sl false 2 [] :: (encGs false false (g.map (shL 1)) ++ encGs true false (h.map (shL (1 + g.length : Nat))))) 1 = some (.sl false 2 ((shL 1 (g.getD 0 [])).map mvP)) := by
        have : nth (.sl false 2 [] :: (encGs false false (g.map (shL 1)) ++ encGs true false (h.map (shL (1 + g.length : Nat))))) 1 = nth (encGs false false (g.map (shL 1)) ++ encGs true false (h.map (shL (1 + g.length : Nat)))) 0 := by unfold nth; simp
        rw [this]
        unfold nth
        rw [List.getElem?_append_left (by simp; omega)]
        have := gr_nth false false (g.map (shL 1)) 0 (by simp; omega)
        unfold nth at this
        rw [this,encL_f]
        have e : (g.map (shL 1)).getD 0 [] = shL 1 (g.getD 0 []) := by
          rw [List.getD_eq_getElem?_getD,List.getElem?_map,List.getD_eq_getElem?_getD,List.getElem?_eq_getElem (by omega)]
          rfl
        rw [e]
      have hat2 : nth (.sl false 2 [] :: (encGs false false (g.map (shL 1)) ++ encGs true false (h.map (shL (1 + g.length : Nat))))) (1 + g.length) = some (encL true false (shL (1 + g.length : Nat) (h.getD 0 []))) := by
        have e0 : 1 + g.length = g.length + 1 := by omega
        have : nth (.sl false 2 [] :: (encGs false false (g.map (shL 1)) ++ encGs true false (h.map (shL (1 + g.length : Nat))))) (1 + g.length) = nth (encGs false false (g.map (shL 1)) ++ encGs true false (h.map (shL (1 + g.length : Nat)))) g.length := by
          unfold nth
          rw [e0,List.getElem?_cons_succ]
        rw [this]
        unfold nth
        rw [List.getElem?_append_right (by simp)]
        simp only [encGs_len,List.length_map,Nat.sub_self]
        have := gr_nth true false (h.map (shL (1 + g.length : Nat))) 0 (by simp; omega)
        unfold nth at this
        rw [this]
        have e : (h.map (shL (1 + g.length : Nat))).getD 0 [] = shL (1 + g.length : Nat) (h.getD 0 []) := by
          rw [List.getD_eq_getElem?_getD,List.getElem?_map,List.getD_eq_getElem?_getD,List.getElem?_eq_getElem (by omega)]
          rfl
        rw [e]
      have hso := eqSorted false (sumR g h) (by omega)
      rw [encL_f] at hso
      have hR3 : EncR false (fals (encL true true (tidyL (sumR g h)) :: (encGs false false (g.map (shL 1)) ++ encGs true false (h.map (shL (1 + g.length : Nat)))))) (sumG g h) := by
        have h3 := (encR_G true false [tidyL (sumR g h)]).app hR2.fal
        have e : fals (encL true true (tidyL (sumR g h)) :: (encGs false false (g.map (shL 1)) ++ encGs true false (h.map (shL (1 + g.length : Nat))))) = encGs true false [tidyL (sumR g h)] ++ fals (encGs false false (g.map (shL 1)) ++ encGs true false (h.map (shL (1 + g.length : Nat)))) := by
          simp only [fals,fal_encL]
          rfl
        rw [e]
        exact h3
      have hmd := eqMade _ (sumG g h) hR3 (sumG_to p1 q1 p2 q2) hsm (by rw [sumG_len]; omega)
      have hga : graphSum g h = made (sumG g h) := by simp [graphSum,c1,c2]
      rw [hga]
      generalize hm : made (sumG g h) = m at hmd ⊢
      obtain ⟨mg,mb⟩ := m
      simp only [encG] at hmd ⊢
      have hns := noShares_encGs true mg
      have hsR : sumR g h = shL 1 (g.getD 0 []) ++ shL (1 + g.length : Nat) (h.getD 0 []) := rfl
      have hnT := noShares_mv (tidyL (sumR g h))
      rw [hsR] at hso hmd hnT hsr
      generalize shL 1 (g.getD 0 []) = A at hat1 hAB hso hmd hnT hsr
      generalize shL (1 + g.length : Nat) (h.getD 0 []) = B at hat2 hAB hso hmd hnT hsr
      generalize encGs false false [[]] ++ encGs true false (g.map (shL 1)) = X1 at b1 b2
      generalize encGs false false (g.map (shL 1)) ++ encGs true false (h.map (shL (1 + g.length : Nat))) = X2 at b2 hat1 hat2 hX2l hmd
      have hti : ((1 + g.length : Nat) : Int).toNat = 1 + g.length := by omega
      have ht0 : (0 : Int) ≤ ((1 + g.length : Nat) : Int) := by omega
      have htl : ((1 + g.length : Nat) : Int) < (X2.length : Int) + 1 := by omega
      have htl2 : 1 + g.length < X2.length + 1 := by omega
      have h1l : (1 : Int) < (X2.length : Int) + 1 := by omega
      have h1l2 : 1 < X2.length + 1 := by omega
      have h0l : (0 : Int) < (X2.length : Int) + 1 := by omega
      generalize ((1 + g.length : Nat) : Int) = ati at hw hti ht0 htl
      generalize encGs false false g = E1 at h1 hE1 b1 ⊢
      generalize encGs false false h = E2 at h2 b2 ⊢
      have hAl : (A.map mvP).length = A.length := by simp
      have hBl : (B.map mvP).length = B.length := by simp
      have hfA := fals_mvP A
      have hfB := fals_mvP B
      have hfAB := fals_mvP (A ++ B)
      have hA4 : A.length ≤ 4294967296 := by omega
      have hAB4 : A.length + B.length ≤ 4294967296 := by omega
      rw [List.map_append] at hfAB hso
      rw [callI_eq]
      rcases encL_two true false B with ⟨eB,eB2⟩ | eB
      · subst eB2
        simp only [List.map_nil,List.append_nil] at hfAB hso hmd hnT
        rw [eB] at hat2
        rcases encL_two true true (tidyL A) with ⟨eT,_⟩ | eT
        all_goals
          rw [eT] at hso hmd
          simp only [fals,fal,fals_mvP] at hmd
          rcases encM_two true true mg with ⟨e,_⟩ | e
          all_goals
            rw [e] at hmd ⊢
            simp [body1_eq _ _ (gp 6) g6,c6,a6,h1,h2,hE1,hw,b1,b2,hat1,hat2,hti,ht0,htl,htl2,h1l,h1l2,h0l,hAl,hfA,hA4,hso,hnT,hmd,hns,unAgg,fals_mvP]
      · rw [eB] at hat2
        rcases encL_two true true (tidyL (A ++ B)) with ⟨eT,_⟩ | eT
        all_goals
          rw [eT] at hso hmd
          simp only [fals,fal,fals_mvP] at hmd
          rcases encM_two true true mg with ⟨e,_⟩ | e
          all_goals
            rw [e] at hmd ⊢
            simp [body1_eq _ _ (gp 6) g6,c6,a6,h1,h2,hE1,hw,b1,b2,hat1,hat2,hti,ht0,htl,htl2,h1l,h1l2,h0l,hAl,hBl,hfA,hfB,hfAB,hA4,hAB4,hso,hnT,hmd,hns,unAgg,fals_mvP]
end Go.Am
end
section
set_option maxRecDepth 10000
set_option maxHeartbeats 4000000
set_option linter.unusedSimpArgs false
set_option linter.unusedVariables false
namespace Go.Am
open Go.Proofs Go.Sort Go.Shelf
theorem noShares_mapJ : ∀ l : List Int,noShares (l.map PV.i) = true
  | [] => rfl
  | x :: l => by
    have := noShares_mapJ l
    simp only [List.map_cons,noShares] at this ⊢
    rw [this]; rfl
theorem loopAf0 (E : List PV) (a : Int) (S : List Int) (k : Int) : ∀ (rest done : List Mv) (to : List Int),(done ++ rest).length ≤ 2147483648 → to.length + rest.length ≤ 4294967296 →
    loopI G [2,3,7,13,14,15,23,24,25] [3,12,37] c54l0 ⟨[(2,.i a),(3,.ref (0,3) 1 0 0),(7,.own (0,12) to.length),(13,.sl false 1 (S.map PV.i)),(14,.i S.length),(15,.i k),(23,.sl false 2 ((done ++ rest).map mvP)),(24,.i (done ++ rest).length),(25,.i done.length)],[(3,.box [.sl false 1 E]),(12,.row 1 (to.map PV.i))],[]⟩ =
      some (.exit 2,⟨[(2,.i a),(3,.ref (0,3) 1 0 0),(7,.own (0,12) (to ++ hops a rest).length),(13,.sl false 1 (S.map PV.i)),(14,.i S.length),(15,.i k),(23,.sl false 2 ((done ++ rest).map mvP)),(24,.i (done ++ rest).length),(25,.i (done ++ rest).length),(26,.b false)],[(3,.box [.sl false 1 E]),(12,.row 1 ((to ++ hops a rest).map PV.i))],[]⟩)
  | [],done,to,h,hr => by
    rw [loopI_eq]
    simp [r54l0,b54l0,hops]
  | x :: rest,done,to,h,hr => by
    have hlt : (done.length : Int) < (done.length : Int) + ((rest.length : Int) + 1) := by omega
    have hw : IntKind.i64.wrap ((done.length : Int) + 1) = (done.length : Int) + 1 := wr (by simp at h; omega)
    have hrl : to.length ≤ 4294967295 := by simp at hr; omega
    have hat := mv_at done x rest
    have hn := fun to' hr' => loopAf0 E a S k rest (done ++ [x]) to' (by simpa using h) hr'
    have e1 : done ++ [x] ++ rest = done ++ x :: rest := by simp
    have e2 : (done ++ x :: rest).length = done.length + (rest.length + 1) := by simp
    have e3 : ((done ++ x :: rest).map mvP).length = done.length + (rest.length + 1) := by simp
    simp only [e1,e2] at hn ⊢
    simp only [mvP] at hat
    generalize (done ++ x :: rest).map mvP = F at hat hn e3 ⊢
    generalize hSS : S.map PV.i = SS at hn ⊢
    rw [loopI_eq]
    by_cases h0 : x.1 = a
    · have hn := hn (to ++ [x.2]) (by simp at hr ⊢; omega)
      have hA : to ++ hops a (x :: rest) = to ++ [x.2] ++ hops a rest := by simp [hops,h0]
      rw [hA]
      simp [r54l0,b54l0,hlt,hat,e3,hw,hrl,h0]
      simpa [Int.add_assoc] using hn
    · have hn := hn to (by simp at hr; omega)
      have hA : to ++ hops a (x :: rest) = to ++ hops a rest := by simp [hops,h0]
      rw [hA]
      simp [r54l0,b54l0,hlt,hat,e3,hw,h0]
      simpa [Int.add_assoc] using hn
theorem hops_le (a : Int) (l : List Mv) : (hops a l).length ≤ l.length := by
  unfold hops
  rw [List.length_map]
  exact List.length_filter_le _ _
theorem loopAf1 (E : List PV) (g : Gr) (hE : EncR false E g) (hs : SmallG g) (a : Int) : ∀ (rest done : List Int) (to : List Int),(∀ x ∈ rest,0 ≤ x ∧ x < g.length) → (done ++ rest).length ≤ 1000 → to.length + 1048576 * rest.length ≤ 2147483648 →
    loopI G [2,3,7,13,14,15] [3,12,37] c54l1 ⟨[(2,.i a),(3,.ref (0,3) 1 0 0),(7,.own (0,12) to.length),(13,.sl false 1 ((done ++ rest).map PV.i)),(14,.i (done ++ rest).length),(15,.i done.length)],[(3,.box [.sl false 1 E]),(12,.row 1 (to.map PV.i))],[]⟩ =
      some (.exit 0,⟨[(2,.i a),(3,.ref (0,3) 1 0 0),(7,.own (0,12) (to ++ rest.flatMap fun s => hops a (rowZ g s)).length),(13,.sl false 1 ((done ++ rest).map PV.i)),(14,.i (done ++ rest).length),(15,.i (done ++ rest).length),(16,.b false)],[(3,.box [.sl false 1 E]),(12,.row 1 ((to ++ rest.flatMap fun s => hops a (rowZ g s)).map PV.i))],[]⟩)
  | [],done,to,hm,h,hr => by
    rw [loopI_eq]
    simp [r54l1,b54l1]
  | x :: rest,done,to,hm,h,hr => by
    have hx := hm x List.mem_cons_self
    have hlt : (done.length : Int) < (done.length : Int) + ((rest.length : Int) + 1) := by omega
    have hw : IntKind.i64.wrap ((done.length : Int) + 1) = (done.length : Int) + 1 := wr (by simp at h; omega)
    have hat : nth ((done ++ x :: rest).map PV.i) done.length = some (.i x) := by simp [nth]
    have hxn : x.toNat < g.length := by omega
    obtain ⟨nl,hat2⟩ := hE.2 x.toNat hxn
    have hEl := hE.1
    have hrl : (g.getD x.toNat []).length ≤ 1048576 := hs.2 _ (by rw [List.getD_eq_getElem?_getD,List.getElem?_eq_getElem hxn,Option.getD_some]; exact List.getElem_mem hxn)
    have hlen := hops_le a (rowZ g x)
    have hr' : to.length + 1048576 * rest.length + 1048576 ≤ 2147483648 := by
      have e := Nat.mul_succ 1048576 rest.length
      rw [List.length_cons,e,← Nat.add_assoc] at hr
      exact hr
    have hn := loopAf1 E g hE hs a rest (done ++ [x]) (to ++ hops a (rowZ g x)) (fun y hy => hm y (List.mem_cons_of_mem _ hy)) (by simpa using h) (by rw [List.length_append]; unfold rowZ at hlen ⊢; omega)
    have hF : to ++ (x :: rest).flatMap (fun s => hops a (rowZ g s)) = to ++ hops a (rowZ g x) ++ rest.flatMap fun s => hops a (rowZ g s) := by simp
    rw [hF]
    have h0 := loopAf0 E a (done ++ x :: rest) done.length (g.getD x.toNat []) [] to (by simp only [List.nil_append]; omega) (by omega)
    have e1 : done ++ [x] ++ rest = done ++ x :: rest := by simp
    have e2 : (done ++ x :: rest).length = done.length + (rest.length + 1) := by simp
    have e3 : ((done ++ x :: rest).map PV.i).length = done.length + (rest.length + 1) := by simp
    simp only [e1,e2,List.nil_append,List.length_nil,show ((0 : Nat) : Int) = 0 from rfl] at hn h0 ⊢
    have hrz : rowZ g x = g.getD x.toNat [] := rfl
    rw [hrz] at hn ⊢
    generalize (done ++ x :: rest).map PV.i = F at hat hn e3 h0 ⊢
    generalize hL : g.getD x.toNat [] = L at hat2 hn h0 hrl ⊢
    rw [loopI_eq]
    rcases encL_two nl false L with ⟨e,e2⟩ | e
    · rw [e] at hat2
      subst e2
      have hz : loopI G [2,3,7,13,14,15,23,24,25] [3,12,37] c54l0 ⟨[(2,.i a),(3,.ref (0,3) 1 0 0),(7,.own (0,12) to.length),(13,.sl false 1 F),(14,.i ((done.length + (rest.length + 1) : Nat) : Int)),(15,.i done.length),(23,.nils),(24,.i 0),(25,.i 0)],[(3,.box [.sl false 1 E]),(12,.row 1 (to.map PV.i))],[]⟩ =
          some (.exit 2,⟨[(2,.i a),(3,.ref (0,3) 1 0 0),(7,.own (0,12) to.length),(13,.sl false 1 F),(14,.i ((done.length + (rest.length + 1) : Nat) : Int)),(15,.i done.length),(23,.nils),(24,.i 0),(25,.i 0),(26,.b false)],[(3,.box [.sl false 1 E]),(12,.row 1 (to.map PV.i))],[]⟩) := by
        rw [loopI_eq]
        simp [r54l0,b54l0]
      have hA : to ++ hops a [] = to := by simp [hops]
      rw [hA] at hn ⊢
      simp only [Int.natCast_add,show ((1 : Nat) : Int) = 1 from rfl] at hz
      simp [r54l1,b54l1,hlt,hat,e3,hat2,hx.1,hx.2,hEl,hw,hz]
      simpa [Int.add_assoc] using hn
    · rw [e] at hat2
      simp only [Int.natCast_add,show ((1 : Nat) : Int) = 1 from rfl] at h0
      simp [r54l1,b54l1,hlt,hat,e3,hat2,hx.1,hx.2,hEl,hw,h0]
      simpa [Int.add_assoc] using hn
theorem fm_len (g : Gr) (hs : SmallG g) (a : Int) : ∀ S : List Int,(S.flatMap fun s => hops a (rowZ g s)).length ≤ 1048576 * S.length
  | [] => by simp
  | x :: S => by
    have ih := fm_len g hs a S
    have h1 := hops_le a (rowZ g x)
    have h2 : (rowZ g x).length ≤ 1048576 := by
      unfold rowZ
      by_cases h : x.toNat < g.length
      · exact hs.2 _ (by rw [List.getD_eq_getElem?_getD,List.getElem?_eq_getElem h,Option.getD_some]; exact List.getElem_mem h)
      · rw [List.getD_eq_getElem?_getD,List.getElem?_eq_none (by omega)]; simp
    simp only [List.flatMap_cons,List.length_append,List.length_cons]
    omega
theorem eqAfter (E : List PV) (g : Gr) (hE : EncR false E g) (hg : OkTo g) (hs : SmallG g) (h60 : g.length ≤ 1000) (S : List Int) (hS : InN g.length S) (a : Int) :
    callI G 54 [.agg [.sl false 1 E],.sl false 1 (S.map PV.i),.i a] [] = some (.sl true 1 ((aft g S a).map PV.i),[]) := by
  have hSl := hS.len
  have hfl := fm_len g hs a S
  have h1 := loopAf1 E g hE hs a S [] [] hS.2 (by simp; omega) (by simp; omega)
  have h2 := eqSlip E g hE hg hs _ (aft_args hg S a) (by omega)
  simp only [List.nil_append,List.length_nil,show ((0 : Nat) : Int) = 0 from rfl,List.map_nil] at h1
  unfold aft
  generalize (S.flatMap fun s => hops a (rowZ g s)) = T at h1 h2 hfl ⊢
  have hfi : fals (T.map PV.i) = T.map PV.i := fals_i T
  have hsl : ((slip g T).map PV.i).length = (slip g T).length := by simp
  have hns := noShares_mapJ (slip g T)
  rw [callI_eq]
  generalize (slip g T).map PV.i = R at h2 hsl hns ⊢
  have hSm : (S.map PV.i).length = S.length := by simp
  generalize S.map PV.i = SS at h1 hSm ⊢
  simp [body1_eq _ _ (gp 54) g54,c54,a54,hSm,h1,h2,hfi,hns]
end Go.Am
end
